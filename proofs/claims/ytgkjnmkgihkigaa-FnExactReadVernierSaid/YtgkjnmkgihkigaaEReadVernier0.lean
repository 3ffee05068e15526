import Derived.Test.YtgkjnmkgihkigaaDReadVernier0
import Derived.Test.YtgkjnmkgihkigaaProg
import Derived.Test.YtgkjnmkgihkigaaRow
import Derived.KernelRfl
namespace Go.Abs
open Go.Proofs
set_option maxRecDepth 100000
set_option linter.unusedVariables false

noncomputable abbrev P : Program := Try.prog
noncomputable abbrev ty : Nat → Option TyI := tyOf P
def bodyOf (f : Func) : Code := match f.body with | some c => c | none => .skip
theorem follows : P.follows .mixedOrders = true := by kernel_rfl

abbrev laws_szFracSsp : List Sp := [.v false (.list (.pair (.int .i64) (.int .i64))), .v false (.int .i64)]
abbrev laws_szFracSbs : List (Bs × Bool) := []
abbrev laws_szFracSrs : List (Bool × List Rp) := [(false, [.v false (.int .i64)])]
noncomputable def laws_szFracSkp : Keep := { loop := fun id => match id with | _ => [], join := fun id => match id with | _ => none }
noncomputable def laws_szFracSc : Code := bodyOf Go.Proofs.Try.f37
noncomputable def laws_szFracSF (n : Nat) : Fun := { id := 37, sp := laws_szFracSsp, bs := laws_szFracSbs, rs := laws_szFracSrs, f := fun x y => laws_szFracS n x.1 x.2.1 }

theorem laws_szFracS_eq (n : Nat) (a0 : List ((Int) × (Int))) (a1 : Int) : runBody ([]) ty 12 n laws_szFracSkp laws_szFracSc Go.Proofs.Try.f37.results.toList laws_szFracSrs laws_szFracSsp laws_szFracSbs (a0, (a1, ())) () = laws_szFracS n a0 a1 := by
  have h : runBody ([]) ty 12 n laws_szFracSkp laws_szFracSc Go.Proofs.Try.f37.results.toList laws_szFracSrs laws_szFracSsp laws_szFracSbs (a0, (a1, ())) () = laws_szFracS_t n a0 a1 := by kernel_rfl
  rw [h]
  rfl

theorem laws_szFracS_ok (n : Nat) : FunOk P (laws_szFracSF n) :=
  funOk_mk (C := []) (N := 12) (kp := laws_szFracSkp) (c := laws_szFracSc) (n := n) (G := fun x y => laws_szFracS n x.1 x.2.1) follows (AllOk.mem (trivial : AllOk P ([]))) (by kernel_rfl : P.funcs[37]? = some Go.Proofs.Try.f37) (by kernel_rfl) (by kernel_rfl) (by kernel_rfl)
    (fun x y => laws_szFracS_eq n x.1 x.2.1) (fun _ _ => map_same (fun _ => rfl) _) (fun _ _ _ _ => rfl)

abbrev laws_szScalesp : List Sp := [.v true (.pair (.pair (.int .i64) (.int .i64)) (.list (.pair (.int .i64) (.int .i64)))), .v false (.int .i64)]
abbrev laws_szScalebs : List (Bs × Bool) := []
abbrev laws_szScalers : List (Bool × List Rp) := [(false, [.v false (.int .i64)])]
noncomputable def laws_szScalekp : Keep := { loop := fun id => match id with | _ => [], join := fun id => match id with | _ => none }
noncomputable def laws_szScalec : Code := bodyOf Go.Proofs.Try.f12
noncomputable def laws_szScaleF (n : Nat) : Fun := { id := 12, sp := laws_szScalesp, bs := laws_szScalebs, rs := laws_szScalers, f := fun x y => laws_szScale n x.1 x.2.1 }

theorem laws_szScale_eq (n : Nat) (a0 : ((Int) × (Int)) × (List ((Int) × (Int)))) (a1 : Int) : runBody ([laws_szFracSF n]) ty 12 n laws_szScalekp laws_szScalec Go.Proofs.Try.f12.results.toList laws_szScalers laws_szScalesp laws_szScalebs (a0, (a1, ())) () = laws_szScale n a0 a1 := by
  have h : runBody ([laws_szFracSF n]) ty 12 n laws_szScalekp laws_szScalec Go.Proofs.Try.f12.results.toList laws_szScalers laws_szScalesp laws_szScalebs (a0, (a1, ())) () = laws_szScale_t n a0 a1 := by kernel_rfl
  rw [h]
  rfl

theorem laws_szScale_ok (n : Nat) : FunOk P (laws_szScaleF n) :=
  funOk_mk (C := [laws_szFracSF n]) (N := 12) (kp := laws_szScalekp) (c := laws_szScalec) (n := n) (G := fun x y => laws_szScale n x.1 x.2.1) follows (AllOk.mem (⟨laws_szFracS_ok n, trivial⟩ : AllOk P ([laws_szFracSF n]))) (by kernel_rfl : P.funcs[12]? = some Go.Proofs.Try.f12) (by kernel_rfl) (by kernel_rfl) (by kernel_rfl)
    (fun x y => laws_szScale_eq n x.1 x.2.1) (fun _ _ => map_same (fun _ => rfl) _) (fun _ _ _ _ => rfl)

abbrev laws_toFracsp : List Sp := [.v true (.pair (.int .i64) (.int .i64))]
abbrev laws_toFracbs : List (Bs × Bool) := []
abbrev laws_toFracrs : List (Bool × List Rp) := [(true, [.v false (.pair (.int .i64) (.int .i64))])]
noncomputable def laws_toFrackp : Keep := { loop := fun id => match id with | _ => [], join := fun id => match id with | _ => none }
noncomputable def laws_toFracc : Code := bodyOf Go.Proofs.Try.f16
noncomputable def laws_toFracF (n : Nat) : Fun := { id := 16, sp := laws_toFracsp, bs := laws_toFracbs, rs := laws_toFracrs, f := fun x y => laws_toFrac n x.1 }

theorem laws_toFrac_eq (n : Nat) (a0 : (Int) × (Int)) : runBody ([]) ty 11 n laws_toFrackp laws_toFracc Go.Proofs.Try.f16.results.toList laws_toFracrs laws_toFracsp laws_toFracbs (a0, ()) () = laws_toFrac n a0 := by
  have h : runBody ([]) ty 11 n laws_toFrackp laws_toFracc Go.Proofs.Try.f16.results.toList laws_toFracrs laws_toFracsp laws_toFracbs (a0, ()) () = laws_toFrac_t n a0 := by kernel_rfl
  rw [h]
  rfl

theorem laws_toFrac_ok (n : Nat) : FunOk P (laws_toFracF n) :=
  funOk_mk (C := []) (N := 11) (kp := laws_toFrackp) (c := laws_toFracc) (n := n) (G := fun x y => laws_toFrac n x.1) follows (AllOk.mem (trivial : AllOk P ([]))) (by kernel_rfl : P.funcs[16]? = some Go.Proofs.Try.f16) (by kernel_rfl) (by kernel_rfl) (by kernel_rfl)
    (fun x y => laws_toFrac_eq n x.1) (fun _ _ => map_same (fun _ => rfl) _) (fun _ _ _ _ => rfl)

abbrev laws_toFracSsp : List Sp := [.v false (.list (.pair (.int .i64) (.int .i64)))]
abbrev laws_toFracSbs : List (Bs × Bool) := []
abbrev laws_toFracSrs : List (Bool × List Rp) := [(false, [.new  (.pair (.int .i64) (.int .i64))])]
noncomputable def laws_toFracSkp : Keep := { loop := fun id => match id with | 3 => [4, 0, 3] | _ => [], join := fun id => match id with | _ => none }
noncomputable def laws_toFracSc : Code := bodyOf Go.Proofs.Try.f40
noncomputable def laws_toFracSF (n : Nat) : Fun := { id := 40, sp := laws_toFracSsp, bs := laws_toFracSbs, rs := laws_toFracSrs, f := fun x y => laws_toFracS n x.1 }

theorem laws_toFracS_l3_eq (n : Nat) : ∀ (k : Nat) (v4 : Int) (v0 : List ((Int) × (Int))) (b0 : List ((Int) × (Int))), iter (interp ([laws_toFracF n]) ty 23 0 n laws_toFracSkp (codeAt laws_toFracSc [1, 1, 0, 1, 0, 0])) (canon 0 (laws_toFracSkp.loop 3)) (kAt ([laws_toFracF n]) ty 23 0 n laws_toFracSkp laws_toFracSc [1, 1, 0, 1, 0] [] (ending ty 0 Go.Proofs.Try.f40.results.toList laws_toFracSrs laws_toFracSbs)) k { env := [(4, .one (.sc (.int .i64 v4))), (0, .one (.list true (.pair (.int .i64) (.int .i64)) v0)), (3, .one (.slice 0 0 none))], bx := [(0, .row 0 (.pair (.int .i64) (.int .i64)) b0)], nx := 1 } = laws_toFracS_l3 n k v4 v0 b0
  | 0, _, _, _ => by kernel_rfl
  | k + 1, v4, v0, b0 => by
    have h : iter (interp ([laws_toFracF n]) ty 23 0 n laws_toFracSkp (codeAt laws_toFracSc [1, 1, 0, 1, 0, 0])) (canon 0 (laws_toFracSkp.loop 3)) (kAt ([laws_toFracF n]) ty 23 0 n laws_toFracSkp laws_toFracSc [1, 1, 0, 1, 0] [] (ending ty 0 Go.Proofs.Try.f40.results.toList laws_toFracSrs laws_toFracSbs)) (k + 1) { env := [(4, .one (.sc (.int .i64 v4))), (0, .one (.list true (.pair (.int .i64) (.int .i64)) v0)), (3, .one (.slice 0 0 none))], bx := [(0, .row 0 (.pair (.int .i64) (.int .i64)) b0)], nx := 1 } = laws_toFracS_t3 n (fun v4 v0 b0 => iter (interp ([laws_toFracF n]) ty 23 0 n laws_toFracSkp (codeAt laws_toFracSc [1, 1, 0, 1, 0, 0])) (canon 0 (laws_toFracSkp.loop 3)) (kAt ([laws_toFracF n]) ty 23 0 n laws_toFracSkp laws_toFracSc [1, 1, 0, 1, 0] [] (ending ty 0 Go.Proofs.Try.f40.results.toList laws_toFracSrs laws_toFracSbs)) k { env := [(4, .one (.sc (.int .i64 v4))), (0, .one (.list true (.pair (.int .i64) (.int .i64)) v0)), (3, .one (.slice 0 0 none))], bx := [(0, .row 0 (.pair (.int .i64) (.int .i64)) b0)], nx := 1 }) v4 v0 b0 := by kernel_rfl
    rw [h]
    have e := congrArg (fun g => laws_toFracS_t3 n g v4 v0 b0) (funext fun v4 => funext fun v0 => funext fun b0 => laws_toFracS_l3_eq n k v4 v0 b0)
    exact e

theorem laws_toFracS_eq (n : Nat) (a0 : List ((Int) × (Int))) : runBody ([laws_toFracF n]) ty 23 n laws_toFracSkp laws_toFracSc Go.Proofs.Try.f40.results.toList laws_toFracSrs laws_toFracSsp laws_toFracSbs (a0, ()) () = laws_toFracS n a0 := by
  have h : runBody ([laws_toFracF n]) ty 23 n laws_toFracSkp laws_toFracSc Go.Proofs.Try.f40.results.toList laws_toFracSrs laws_toFracSsp laws_toFracSbs (a0, ()) () = laws_toFracS_t n (fun k v4 v0 b0 => iter (interp ([laws_toFracF n]) ty 23 0 n laws_toFracSkp (codeAt laws_toFracSc [1, 1, 0, 1, 0, 0])) (canon 0 (laws_toFracSkp.loop 3)) (kAt ([laws_toFracF n]) ty 23 0 n laws_toFracSkp laws_toFracSc [1, 1, 0, 1, 0] [] (ending ty 0 Go.Proofs.Try.f40.results.toList laws_toFracSrs laws_toFracSbs)) k { env := [(4, .one (.sc (.int .i64 v4))), (0, .one (.list true (.pair (.int .i64) (.int .i64)) v0)), (3, .one (.slice 0 0 none))], bx := [(0, .row 0 (.pair (.int .i64) (.int .i64)) b0)], nx := 1 }) a0 := by kernel_rfl
  rw [h]
  have e := congrArg (fun h3 => laws_toFracS_t n h3 a0) (funext fun k => funext fun v4 => funext fun v0 => funext fun b0 => laws_toFracS_l3_eq n k v4 v0 b0)
  exact e

theorem laws_toFracS_ok (n : Nat) : FunOk P (laws_toFracSF n) :=
  funOk_mk (C := [laws_toFracF n]) (N := 23) (kp := laws_toFracSkp) (c := laws_toFracSc) (n := n) (G := fun x y => laws_toFracS n x.1) follows (AllOk.mem (⟨laws_toFrac_ok n, trivial⟩ : AllOk P ([laws_toFracF n]))) (by kernel_rfl : P.funcs[40]? = some Go.Proofs.Try.f40) (by kernel_rfl) (by kernel_rfl) (by kernel_rfl)
    (fun x y => laws_toFracS_eq n x.1) (fun _ _ => map_same (fun _ => rfl) _) (fun _ _ _ _ => rfl)

abbrev laws_toScalesp : List Sp := [.v true (.pair (.pair (.int .i64) (.int .i64)) (.list (.pair (.int .i64) (.int .i64))))]
abbrev laws_toScalebs : List (Bs × Bool) := []
abbrev laws_toScalers : List (Bool × List Rp) := [(true, [.v false (.pair (.pair (.int .i64) (.int .i64)) (.list (.pair (.int .i64) (.int .i64))))])]
noncomputable def laws_toScalekp : Keep := { loop := fun id => match id with | _ => [], join := fun id => match id with | _ => none }
noncomputable def laws_toScalec : Code := bodyOf Go.Proofs.Try.f14
noncomputable def laws_toScaleF (n : Nat) : Fun := { id := 14, sp := laws_toScalesp, bs := laws_toScalebs, rs := laws_toScalers, f := fun x y => laws_toScale n x.1 }

theorem laws_toScale_eq (n : Nat) (a0 : ((Int) × (Int)) × (List ((Int) × (Int)))) : runBody ([laws_toFracF n, laws_toFracSF n]) ty 13 n laws_toScalekp laws_toScalec Go.Proofs.Try.f14.results.toList laws_toScalers laws_toScalesp laws_toScalebs (a0, ()) () = laws_toScale n a0 := by
  have h : runBody ([laws_toFracF n, laws_toFracSF n]) ty 13 n laws_toScalekp laws_toScalec Go.Proofs.Try.f14.results.toList laws_toScalers laws_toScalesp laws_toScalebs (a0, ()) () = laws_toScale_t n a0 := by kernel_rfl
  rw [h]
  rfl

theorem laws_toScale_ok (n : Nat) : FunOk P (laws_toScaleF n) :=
  funOk_mk (C := [laws_toFracF n, laws_toFracSF n]) (N := 13) (kp := laws_toScalekp) (c := laws_toScalec) (n := n) (G := fun x y => laws_toScale n x.1) follows (AllOk.mem (⟨laws_toFrac_ok n, ⟨laws_toFracS_ok n, trivial⟩⟩ : AllOk P ([laws_toFracF n, laws_toFracSF n]))) (by kernel_rfl : P.funcs[14]? = some Go.Proofs.Try.f14) (by kernel_rfl) (by kernel_rfl) (by kernel_rfl)
    (fun x y => laws_toScale_eq n x.1) (fun _ _ => map_same (fun _ => rfl) _) (fun _ _ _ _ => rfl)

abbrev laws_toVerniersp : List Sp := [.v true (.pair (.int .i64) .bool)]
abbrev laws_toVernierbs : List (Bs × Bool) := []
abbrev laws_toVernierrs : List (Bool × List Rp) := [(true, [.v false (.pair (.int .i64) .bool)])]
noncomputable def laws_toVernierkp : Keep := { loop := fun id => match id with | _ => [], join := fun id => match id with | _ => none }
noncomputable def laws_toVernierc : Code := bodyOf Go.Proofs.Try.f15
noncomputable def laws_toVernierF (n : Nat) : Fun := { id := 15, sp := laws_toVerniersp, bs := laws_toVernierbs, rs := laws_toVernierrs, f := fun x y => laws_toVernier n x.1 }

theorem laws_toVernier_eq (n : Nat) (a0 : (Int) × (Bool)) : runBody ([]) ty 11 n laws_toVernierkp laws_toVernierc Go.Proofs.Try.f15.results.toList laws_toVernierrs laws_toVerniersp laws_toVernierbs (a0, ()) () = laws_toVernier n a0 := by
  have h : runBody ([]) ty 11 n laws_toVernierkp laws_toVernierc Go.Proofs.Try.f15.results.toList laws_toVernierrs laws_toVerniersp laws_toVernierbs (a0, ()) () = laws_toVernier_t n a0 := by kernel_rfl
  rw [h]
  rfl

theorem laws_toVernier_ok (n : Nat) : FunOk P (laws_toVernierF n) :=
  funOk_mk (C := []) (N := 11) (kp := laws_toVernierkp) (c := laws_toVernierc) (n := n) (G := fun x y => laws_toVernier n x.1) follows (AllOk.mem (trivial : AllOk P ([]))) (by kernel_rfl : P.funcs[15]? = some Go.Proofs.Try.f15) (by kernel_rfl) (by kernel_rfl) (by kernel_rfl)
    (fun x y => laws_toVernier_eq n x.1) (fun _ _ => map_same (fun _ => rfl) _) (fun _ _ _ _ => rfl)

abbrev spec_l00Insp : List Sp := [.v false (.int .i64), .v false (.int .i64), .v false (.int .i64)]
abbrev spec_l00Inbs : List (Bs × Bool) := []
abbrev spec_l00Inrs : List (Bool × List Rp) := [(false, [.v false .bool])]
noncomputable def spec_l00Inkp : Keep := { loop := fun id => match id with | _ => [], join := fun id => match id with | _ => none }
noncomputable def spec_l00Inc : Code := bodyOf Go.Proofs.Try.f61
noncomputable def spec_l00InF (n : Nat) : Fun := { id := 61, sp := spec_l00Insp, bs := spec_l00Inbs, rs := spec_l00Inrs, f := fun x y => spec_l00In n x.1 x.2.1 x.2.2.1 }

theorem spec_l00In_eq (n : Nat) (a0 : Int) (a1 : Int) (a2 : Int) : runBody ([]) ty 15 n spec_l00Inkp spec_l00Inc Go.Proofs.Try.f61.results.toList spec_l00Inrs spec_l00Insp spec_l00Inbs (a0, (a1, (a2, ()))) () = spec_l00In n a0 a1 a2 := by
  have h : runBody ([]) ty 15 n spec_l00Inkp spec_l00Inc Go.Proofs.Try.f61.results.toList spec_l00Inrs spec_l00Insp spec_l00Inbs (a0, (a1, (a2, ()))) () = spec_l00In_t n a0 a1 a2 := by kernel_rfl
  rw [h]
  rfl

theorem spec_l00In_ok (n : Nat) : FunOk P (spec_l00InF n) :=
  funOk_mk (C := []) (N := 15) (kp := spec_l00Inkp) (c := spec_l00Inc) (n := n) (G := fun x y => spec_l00In n x.1 x.2.1 x.2.2.1) follows (AllOk.mem (trivial : AllOk P ([]))) (by kernel_rfl : P.funcs[61]? = some Go.Proofs.Try.f61) (by kernel_rfl) (by kernel_rfl) (by kernel_rfl)
    (fun x y => spec_l00In_eq n x.1 x.2.1 x.2.2.1) (fun _ _ => map_same (fun _ => rfl) _) (fun _ _ _ _ => rfl)

abbrev spec_l01Abssp : List Sp := [.v false (.int .i64)]
abbrev spec_l01Absbs : List (Bs × Bool) := []
abbrev spec_l01Absrs : List (Bool × List Rp) := [(false, [.v false (.int .i64)])]
noncomputable def spec_l01Abskp : Keep := { loop := fun id => match id with | _ => [], join := fun id => match id with | _ => none }
noncomputable def spec_l01Absc : Code := bodyOf Go.Proofs.Try.f88
noncomputable def spec_l01AbsF (n : Nat) : Fun := { id := 88, sp := spec_l01Abssp, bs := spec_l01Absbs, rs := spec_l01Absrs, f := fun x y => spec_l01Abs n x.1 }

theorem spec_l01Abs_eq (n : Nat) (a0 : Int) : runBody ([]) ty 8 n spec_l01Abskp spec_l01Absc Go.Proofs.Try.f88.results.toList spec_l01Absrs spec_l01Abssp spec_l01Absbs (a0, ()) () = spec_l01Abs n a0 := by
  have h : runBody ([]) ty 8 n spec_l01Abskp spec_l01Absc Go.Proofs.Try.f88.results.toList spec_l01Absrs spec_l01Abssp spec_l01Absbs (a0, ()) () = spec_l01Abs_t n a0 := by kernel_rfl
  rw [h]
  rfl

theorem spec_l01Abs_ok (n : Nat) : FunOk P (spec_l01AbsF n) :=
  funOk_mk (C := []) (N := 8) (kp := spec_l01Abskp) (c := spec_l01Absc) (n := n) (G := fun x y => spec_l01Abs n x.1) follows (AllOk.mem (trivial : AllOk P ([]))) (by kernel_rfl : P.funcs[88]? = some Go.Proofs.Try.f88) (by kernel_rfl) (by kernel_rfl) (by kernel_rfl)
    (fun x y => spec_l01Abs_eq n x.1) (fun _ _ => map_same (fun _ => rfl) _) (fun _ _ _ _ => rfl)

abbrev spec_l01Gcdsp : List Sp := [.v false (.int .i64), .v false (.int .i64)]
abbrev spec_l01Gcdbs : List (Bs × Bool) := []
abbrev spec_l01Gcdrs : List (Bool × List Rp) := [(false, [.v false (.int .i64)])]
noncomputable def spec_l01Gcdkp : Keep := { loop := fun id => match id with | 1 => [1, 0] | _ => [], join := fun id => match id with | _ => none }
noncomputable def spec_l01Gcdc : Code := bodyOf Go.Proofs.Try.f102
noncomputable def spec_l01GcdF (n : Nat) : Fun := { id := 102, sp := spec_l01Gcdsp, bs := spec_l01Gcdbs, rs := spec_l01Gcdrs, f := fun x y => spec_l01Gcd n x.1 x.2.1 }

theorem spec_l01Gcd_l1_eq (n : Nat) : ∀ (k : Nat) (v1 : Int) (v0 : Int), iter (interp ([]) ty 14 0 n spec_l01Gcdkp (codeAt spec_l01Gcdc [1, 0, 0, 0])) (canon 0 (spec_l01Gcdkp.loop 1)) (kAt ([]) ty 14 0 n spec_l01Gcdkp spec_l01Gcdc [1, 0, 0] [] (ending ty 0 Go.Proofs.Try.f102.results.toList spec_l01Gcdrs spec_l01Gcdbs)) k { env := [(1, .one (.sc (.int .i64 v1))), (0, .one (.sc (.int .i64 v0)))], bx := [], nx := 0 } = spec_l01Gcd_l1 n k v1 v0
  | 0, _, _ => by kernel_rfl
  | k + 1, v1, v0 => by
    have h : iter (interp ([]) ty 14 0 n spec_l01Gcdkp (codeAt spec_l01Gcdc [1, 0, 0, 0])) (canon 0 (spec_l01Gcdkp.loop 1)) (kAt ([]) ty 14 0 n spec_l01Gcdkp spec_l01Gcdc [1, 0, 0] [] (ending ty 0 Go.Proofs.Try.f102.results.toList spec_l01Gcdrs spec_l01Gcdbs)) (k + 1) { env := [(1, .one (.sc (.int .i64 v1))), (0, .one (.sc (.int .i64 v0)))], bx := [], nx := 0 } = spec_l01Gcd_t1 n (fun v1 v0 => iter (interp ([]) ty 14 0 n spec_l01Gcdkp (codeAt spec_l01Gcdc [1, 0, 0, 0])) (canon 0 (spec_l01Gcdkp.loop 1)) (kAt ([]) ty 14 0 n spec_l01Gcdkp spec_l01Gcdc [1, 0, 0] [] (ending ty 0 Go.Proofs.Try.f102.results.toList spec_l01Gcdrs spec_l01Gcdbs)) k { env := [(1, .one (.sc (.int .i64 v1))), (0, .one (.sc (.int .i64 v0)))], bx := [], nx := 0 }) v1 v0 := by kernel_rfl
    rw [h]
    have e := congrArg (fun g => spec_l01Gcd_t1 n g v1 v0) (funext fun v1 => funext fun v0 => spec_l01Gcd_l1_eq n k v1 v0)
    exact e

theorem spec_l01Gcd_eq (n : Nat) (a0 : Int) (a1 : Int) : runBody ([]) ty 14 n spec_l01Gcdkp spec_l01Gcdc Go.Proofs.Try.f102.results.toList spec_l01Gcdrs spec_l01Gcdsp spec_l01Gcdbs (a0, (a1, ())) () = spec_l01Gcd n a0 a1 := by
  have h : runBody ([]) ty 14 n spec_l01Gcdkp spec_l01Gcdc Go.Proofs.Try.f102.results.toList spec_l01Gcdrs spec_l01Gcdsp spec_l01Gcdbs (a0, (a1, ())) () = spec_l01Gcd_t n (fun k v1 v0 => iter (interp ([]) ty 14 0 n spec_l01Gcdkp (codeAt spec_l01Gcdc [1, 0, 0, 0])) (canon 0 (spec_l01Gcdkp.loop 1)) (kAt ([]) ty 14 0 n spec_l01Gcdkp spec_l01Gcdc [1, 0, 0] [] (ending ty 0 Go.Proofs.Try.f102.results.toList spec_l01Gcdrs spec_l01Gcdbs)) k { env := [(1, .one (.sc (.int .i64 v1))), (0, .one (.sc (.int .i64 v0)))], bx := [], nx := 0 }) a0 a1 := by kernel_rfl
  rw [h]
  have e := congrArg (fun h1 => spec_l01Gcd_t n h1 a0 a1) (funext fun k => funext fun v1 => funext fun v0 => spec_l01Gcd_l1_eq n k v1 v0)
  exact e

theorem spec_l01Gcd_ok (n : Nat) : FunOk P (spec_l01GcdF n) :=
  funOk_mk (C := []) (N := 14) (kp := spec_l01Gcdkp) (c := spec_l01Gcdc) (n := n) (G := fun x y => spec_l01Gcd n x.1 x.2.1) follows (AllOk.mem (trivial : AllOk P ([]))) (by kernel_rfl : P.funcs[102]? = some Go.Proofs.Try.f102) (by kernel_rfl) (by kernel_rfl) (by kernel_rfl)
    (fun x y => spec_l01Gcd_eq n x.1 x.2.1) (fun _ _ => map_same (fun _ => rfl) _) (fun _ _ _ _ => rfl)

abbrev spec_l01Oksp : List Sp := [.v true (.pair (.int .i64) (.int .i64))]
abbrev spec_l01Okbs : List (Bs × Bool) := []
abbrev spec_l01Okrs : List (Bool × List Rp) := [(false, [.v false .bool])]
noncomputable def spec_l01Okkp : Keep := { loop := fun id => match id with | _ => [], join := fun id => match id with | _ => none }
noncomputable def spec_l01Okc : Code := bodyOf Go.Proofs.Try.f73
noncomputable def spec_l01OkF (n : Nat) : Fun := { id := 73, sp := spec_l01Oksp, bs := spec_l01Okbs, rs := spec_l01Okrs, f := fun x y => spec_l01Ok n x.1 }

theorem spec_l01Ok_eq (n : Nat) (a0 : (Int) × (Int)) : runBody ([spec_l00InF n, spec_l01AbsF n, spec_l01GcdF n]) ty 20 n spec_l01Okkp spec_l01Okc Go.Proofs.Try.f73.results.toList spec_l01Okrs spec_l01Oksp spec_l01Okbs (a0, ()) () = spec_l01Ok n a0 := by
  have h : runBody ([spec_l00InF n, spec_l01AbsF n, spec_l01GcdF n]) ty 20 n spec_l01Okkp spec_l01Okc Go.Proofs.Try.f73.results.toList spec_l01Okrs spec_l01Oksp spec_l01Okbs (a0, ()) () = spec_l01Ok_t n a0 := by kernel_rfl
  rw [h]
  rfl

theorem spec_l01Ok_ok (n : Nat) : FunOk P (spec_l01OkF n) :=
  funOk_mk (C := [spec_l00InF n, spec_l01AbsF n, spec_l01GcdF n]) (N := 20) (kp := spec_l01Okkp) (c := spec_l01Okc) (n := n) (G := fun x y => spec_l01Ok n x.1) follows (AllOk.mem (⟨spec_l00In_ok n, ⟨spec_l01Abs_ok n, ⟨spec_l01Gcd_ok n, trivial⟩⟩⟩ : AllOk P ([spec_l00InF n, spec_l01AbsF n, spec_l01GcdF n]))) (by kernel_rfl : P.funcs[73]? = some Go.Proofs.Try.f73) (by kernel_rfl) (by kernel_rfl) (by kernel_rfl)
    (fun x y => spec_l01Ok_eq n x.1) (fun _ _ => map_same (fun _ => rfl) _) (fun _ _ _ _ => rfl)

abbrev spec_l01Wholesp : List Sp := [.v false (.int .i64)]
abbrev spec_l01Wholebs : List (Bs × Bool) := []
abbrev spec_l01Wholers : List (Bool × List Rp) := [(true, [.v false (.pair (.int .i64) (.int .i64))])]
noncomputable def spec_l01Wholekp : Keep := { loop := fun id => match id with | _ => [], join := fun id => match id with | _ => none }
noncomputable def spec_l01Wholec : Code := bodyOf Go.Proofs.Try.f76
noncomputable def spec_l01WholeF (n : Nat) : Fun := { id := 76, sp := spec_l01Wholesp, bs := spec_l01Wholebs, rs := spec_l01Wholers, f := fun x y => spec_l01Whole n x.1 }

theorem spec_l01Whole_eq (n : Nat) (a0 : Int) : runBody ([]) ty 5 n spec_l01Wholekp spec_l01Wholec Go.Proofs.Try.f76.results.toList spec_l01Wholers spec_l01Wholesp spec_l01Wholebs (a0, ()) () = spec_l01Whole n a0 := by
  have h : runBody ([]) ty 5 n spec_l01Wholekp spec_l01Wholec Go.Proofs.Try.f76.results.toList spec_l01Wholers spec_l01Wholesp spec_l01Wholebs (a0, ()) () = spec_l01Whole_t n a0 := by kernel_rfl
  rw [h]
  rfl

theorem spec_l01Whole_ok (n : Nat) : FunOk P (spec_l01WholeF n) :=
  funOk_mk (C := []) (N := 5) (kp := spec_l01Wholekp) (c := spec_l01Wholec) (n := n) (G := fun x y => spec_l01Whole n x.1) follows (AllOk.mem (trivial : AllOk P ([]))) (by kernel_rfl : P.funcs[76]? = some Go.Proofs.Try.f76) (by kernel_rfl) (by kernel_rfl) (by kernel_rfl)
    (fun x y => spec_l01Whole_eq n x.1) (fun _ _ => map_same (fun _ => rfl) _) (fun _ _ _ _ => rfl)

abbrev spec_l01Cmpsp : List Sp := [.v true (.pair (.int .i64) (.int .i64)), .v true (.pair (.int .i64) (.int .i64))]
abbrev spec_l01Cmpbs : List (Bs × Bool) := []
abbrev spec_l01Cmprs : List (Bool × List Rp) := [(false, [.v false (.int .i64)])]
noncomputable def spec_l01Cmpkp : Keep := { loop := fun id => match id with | _ => [], join := fun id => match id with | _ => none }
noncomputable def spec_l01Cmpc : Code := bodyOf Go.Proofs.Try.f28
noncomputable def spec_l01CmpF (n : Nat) : Fun := { id := 28, sp := spec_l01Cmpsp, bs := spec_l01Cmpbs, rs := spec_l01Cmprs, f := fun x y => spec_l01Cmp n x.1 x.2.1 }

theorem spec_l01Cmp_eq (n : Nat) (a0 : (Int) × (Int)) (a1 : (Int) × (Int)) : runBody ([]) ty 25 n spec_l01Cmpkp spec_l01Cmpc Go.Proofs.Try.f28.results.toList spec_l01Cmprs spec_l01Cmpsp spec_l01Cmpbs (a0, (a1, ())) () = spec_l01Cmp n a0 a1 := by
  have h : runBody ([]) ty 25 n spec_l01Cmpkp spec_l01Cmpc Go.Proofs.Try.f28.results.toList spec_l01Cmprs spec_l01Cmpsp spec_l01Cmpbs (a0, (a1, ())) () = spec_l01Cmp_t n a0 a1 := by kernel_rfl
  rw [h]
  rfl

theorem spec_l01Cmp_ok (n : Nat) : FunOk P (spec_l01CmpF n) :=
  funOk_mk (C := []) (N := 25) (kp := spec_l01Cmpkp) (c := spec_l01Cmpc) (n := n) (G := fun x y => spec_l01Cmp n x.1 x.2.1) follows (AllOk.mem (trivial : AllOk P ([]))) (by kernel_rfl : P.funcs[28]? = some Go.Proofs.Try.f28) (by kernel_rfl) (by kernel_rfl) (by kernel_rfl)
    (fun x y => spec_l01Cmp_eq n x.1 x.2.1) (fun _ _ => map_same (fun _ => rfl) _) (fun _ _ _ _ => rfl)

abbrev spec_l02Withinsp : List Sp := [.v true (.pair (.int .i64) (.int .i64)), .v false (.int .i64)]
abbrev spec_l02Withinbs : List (Bs × Bool) := []
abbrev spec_l02Withinrs : List (Bool × List Rp) := [(false, [.v false .bool])]
noncomputable def spec_l02Withinkp : Keep := { loop := fun id => match id with | _ => [], join := fun id => match id with | _ => none }
noncomputable def spec_l02Withinc : Code := bodyOf Go.Proofs.Try.f100
noncomputable def spec_l02WithinF (n : Nat) : Fun := { id := 100, sp := spec_l02Withinsp, bs := spec_l02Withinbs, rs := spec_l02Withinrs, f := fun x y => spec_l02Within n x.1 x.2.1 }

theorem spec_l02Within_eq (n : Nat) (a0 : (Int) × (Int)) (a1 : Int) : runBody ([spec_l01OkF n, spec_l01WholeF n, spec_l01CmpF n]) ty 19 n spec_l02Withinkp spec_l02Withinc Go.Proofs.Try.f100.results.toList spec_l02Withinrs spec_l02Withinsp spec_l02Withinbs (a0, (a1, ())) () = spec_l02Within n a0 a1 := by
  have h : runBody ([spec_l01OkF n, spec_l01WholeF n, spec_l01CmpF n]) ty 19 n spec_l02Withinkp spec_l02Withinc Go.Proofs.Try.f100.results.toList spec_l02Withinrs spec_l02Withinsp spec_l02Withinbs (a0, (a1, ())) () = spec_l02Within_t n a0 a1 := by kernel_rfl
  rw [h]
  rfl

theorem spec_l02Within_ok (n : Nat) : FunOk P (spec_l02WithinF n) :=
  funOk_mk (C := [spec_l01OkF n, spec_l01WholeF n, spec_l01CmpF n]) (N := 19) (kp := spec_l02Withinkp) (c := spec_l02Withinc) (n := n) (G := fun x y => spec_l02Within n x.1 x.2.1) follows (AllOk.mem (⟨spec_l01Ok_ok n, ⟨spec_l01Whole_ok n, ⟨spec_l01Cmp_ok n, trivial⟩⟩⟩ : AllOk P ([spec_l01OkF n, spec_l01WholeF n, spec_l01CmpF n]))) (by kernel_rfl : P.funcs[100]? = some Go.Proofs.Try.f100) (by kernel_rfl) (by kernel_rfl) (by kernel_rfl)
    (fun x y => spec_l02Within_eq n x.1 x.2.1) (fun _ _ => map_same (fun _ => rfl) _) (fun _ _ _ _ => rfl)

abbrev spec_l01Reducedsp : List Sp := [.v false (.int .i64), .v false (.int .i64)]
abbrev spec_l01Reducedbs : List (Bs × Bool) := []
abbrev spec_l01Reducedrs : List (Bool × List Rp) := [(true, [.v false (.pair (.int .i64) (.int .i64))]), (false, [.v false (.int .i64)])]
noncomputable def spec_l01Reducedkp : Keep := { loop := fun id => match id with | _ => [], join := fun id => match id with | _ => none }
noncomputable def spec_l01Reducedc : Code := bodyOf Go.Proofs.Try.f98
noncomputable def spec_l01ReducedF (n : Nat) : Fun := { id := 98, sp := spec_l01Reducedsp, bs := spec_l01Reducedbs, rs := spec_l01Reducedrs, f := fun x y => spec_l01Reduced n x.1 x.2.1 }

theorem spec_l01Reduced_eq (n : Nat) (a0 : Int) (a1 : Int) : runBody ([spec_l01AbsF n, spec_l01GcdF n, spec_l01OkF n]) ty 33 n spec_l01Reducedkp spec_l01Reducedc Go.Proofs.Try.f98.results.toList spec_l01Reducedrs spec_l01Reducedsp spec_l01Reducedbs (a0, (a1, ())) () = spec_l01Reduced n a0 a1 := by
  have h : runBody ([spec_l01AbsF n, spec_l01GcdF n, spec_l01OkF n]) ty 33 n spec_l01Reducedkp spec_l01Reducedc Go.Proofs.Try.f98.results.toList spec_l01Reducedrs spec_l01Reducedsp spec_l01Reducedbs (a0, (a1, ())) () = spec_l01Reduced_t n a0 a1 := by kernel_rfl
  rw [h]
  rfl

theorem spec_l01Reduced_ok (n : Nat) : FunOk P (spec_l01ReducedF n) :=
  funOk_mk (C := [spec_l01AbsF n, spec_l01GcdF n, spec_l01OkF n]) (N := 33) (kp := spec_l01Reducedkp) (c := spec_l01Reducedc) (n := n) (G := fun x y => spec_l01Reduced n x.1 x.2.1) follows (AllOk.mem (⟨spec_l01Abs_ok n, ⟨spec_l01Gcd_ok n, ⟨spec_l01Ok_ok n, trivial⟩⟩⟩ : AllOk P ([spec_l01AbsF n, spec_l01GcdF n, spec_l01OkF n]))) (by kernel_rfl : P.funcs[98]? = some Go.Proofs.Try.f98) (by kernel_rfl) (by kernel_rfl) (by kernel_rfl)
    (fun x y => spec_l01Reduced_eq n x.1 x.2.1) (fun _ _ => map_same (fun _ => rfl) _) (fun _ _ _ _ => rfl)

abbrev spec_l01Mulsp : List Sp := [.v true (.pair (.int .i64) (.int .i64)), .v true (.pair (.int .i64) (.int .i64))]
abbrev spec_l01Mulbs : List (Bs × Bool) := []
abbrev spec_l01Mulrs : List (Bool × List Rp) := [(true, [.v false (.pair (.int .i64) (.int .i64))]), (false, [.v false (.int .i64)])]
noncomputable def spec_l01Mulkp : Keep := { loop := fun id => match id with | _ => [], join := fun id => match id with | _ => none }
noncomputable def spec_l01Mulc : Code := bodyOf Go.Proofs.Try.f77
noncomputable def spec_l01MulF (n : Nat) : Fun := { id := 77, sp := spec_l01Mulsp, bs := spec_l01Mulbs, rs := spec_l01Mulrs, f := fun x y => spec_l01Mul n x.1 x.2.1 }

theorem spec_l01Mul_eq (n : Nat) (a0 : (Int) × (Int)) (a1 : (Int) × (Int)) : runBody ([spec_l01ReducedF n]) ty 19 n spec_l01Mulkp spec_l01Mulc Go.Proofs.Try.f77.results.toList spec_l01Mulrs spec_l01Mulsp spec_l01Mulbs (a0, (a1, ())) () = spec_l01Mul n a0 a1 := by
  have h : runBody ([spec_l01ReducedF n]) ty 19 n spec_l01Mulkp spec_l01Mulc Go.Proofs.Try.f77.results.toList spec_l01Mulrs spec_l01Mulsp spec_l01Mulbs (a0, (a1, ())) () = spec_l01Mul_t n a0 a1 := by kernel_rfl
  rw [h]
  rfl

theorem spec_l01Mul_ok (n : Nat) : FunOk P (spec_l01MulF n) :=
  funOk_mk (C := [spec_l01ReducedF n]) (N := 19) (kp := spec_l01Mulkp) (c := spec_l01Mulc) (n := n) (G := fun x y => spec_l01Mul n x.1 x.2.1) follows (AllOk.mem (⟨spec_l01Reduced_ok n, trivial⟩ : AllOk P ([spec_l01ReducedF n]))) (by kernel_rfl : P.funcs[77]? = some Go.Proofs.Try.f77) (by kernel_rfl) (by kernel_rfl) (by kernel_rfl)
    (fun x y => spec_l01Mul_eq n x.1 x.2.1) (fun _ _ => map_same (fun _ => rfl) _) (fun _ _ _ _ => rfl)

abbrev spec_l01Addsp : List Sp := [.v true (.pair (.int .i64) (.int .i64)), .v true (.pair (.int .i64) (.int .i64))]
abbrev spec_l01Addbs : List (Bs × Bool) := []
abbrev spec_l01Addrs : List (Bool × List Rp) := [(true, [.v false (.pair (.int .i64) (.int .i64))]), (false, [.v false (.int .i64)])]
noncomputable def spec_l01Addkp : Keep := { loop := fun id => match id with | _ => [], join := fun id => match id with | _ => none }
noncomputable def spec_l01Addc : Code := bodyOf Go.Proofs.Try.f65
noncomputable def spec_l01AddF (n : Nat) : Fun := { id := 65, sp := spec_l01Addsp, bs := spec_l01Addbs, rs := spec_l01Addrs, f := fun x y => spec_l01Add n x.1 x.2.1 }

theorem spec_l01Add_eq (n : Nat) (a0 : (Int) × (Int)) (a1 : (Int) × (Int)) : runBody ([spec_l01ReducedF n]) ty 25 n spec_l01Addkp spec_l01Addc Go.Proofs.Try.f65.results.toList spec_l01Addrs spec_l01Addsp spec_l01Addbs (a0, (a1, ())) () = spec_l01Add n a0 a1 := by
  have h : runBody ([spec_l01ReducedF n]) ty 25 n spec_l01Addkp spec_l01Addc Go.Proofs.Try.f65.results.toList spec_l01Addrs spec_l01Addsp spec_l01Addbs (a0, (a1, ())) () = spec_l01Add_t n a0 a1 := by kernel_rfl
  rw [h]
  rfl

theorem spec_l01Add_ok (n : Nat) : FunOk P (spec_l01AddF n) :=
  funOk_mk (C := [spec_l01ReducedF n]) (N := 25) (kp := spec_l01Addkp) (c := spec_l01Addc) (n := n) (G := fun x y => spec_l01Add n x.1 x.2.1) follows (AllOk.mem (⟨spec_l01Reduced_ok n, trivial⟩ : AllOk P ([spec_l01ReducedF n]))) (by kernel_rfl : P.funcs[65]? = some Go.Proofs.Try.f65) (by kernel_rfl) (by kernel_rfl) (by kernel_rfl)
    (fun x y => spec_l01Add_eq n x.1 x.2.1) (fun _ _ => map_same (fun _ => rfl) _) (fun _ _ _ _ => rfl)

abbrev spec_l02Marksp : List Sp := [.ref 0, .v false (.int .i64)]
abbrev spec_l02Markbs : List (Bs × Bool) := [(.var 46 (.pair (.pair (.int .i64) (.int .i64)) (.list (.pair (.int .i64) (.int .i64)))), true)]
abbrev spec_l02Markrs : List (Bool × List Rp) := [(true, [.v false (.pair (.int .i64) (.int .i64))]), (false, [.v false (.int .i64)])]
noncomputable def spec_l02Markkp : Keep := { loop := fun id => match id with | _ => [], join := fun id => match id with | _ => none }
noncomputable def spec_l02Markc : Code := bodyOf Go.Proofs.Try.f101
noncomputable def spec_l02MarkF (n : Nat) : Fun := { id := 101, sp := spec_l02Marksp, bs := spec_l02Markbs, rs := spec_l02Markrs, f := fun x y => spec_l02Mark n x.2.1 y.1 }

theorem spec_l02Mark_eq (n : Nat) (a1 : Int) (b0 : ((Int) × (Int)) × (List ((Int) × (Int)))) : runBody ([spec_l01WholeF n, spec_l01MulF n, spec_l01AddF n]) ty 33 n spec_l02Markkp spec_l02Markc Go.Proofs.Try.f101.results.toList spec_l02Markrs spec_l02Marksp spec_l02Markbs ((), (a1, ())) (b0, ()) = spec_l02Mark n a1 b0 := by
  have h : runBody ([spec_l01WholeF n, spec_l01MulF n, spec_l01AddF n]) ty 33 n spec_l02Markkp spec_l02Markc Go.Proofs.Try.f101.results.toList spec_l02Markrs spec_l02Marksp spec_l02Markbs ((), (a1, ())) (b0, ()) = spec_l02Mark_t n a1 b0 := by kernel_rfl
  rw [h]
  rfl

theorem spec_l02Mark_ok (n : Nat) : FunOk P (spec_l02MarkF n) :=
  funOk_mk (C := [spec_l01WholeF n, spec_l01MulF n, spec_l01AddF n]) (N := 33) (kp := spec_l02Markkp) (c := spec_l02Markc) (n := n) (G := fun x y => spec_l02Mark n x.2.1 y.1) follows (AllOk.mem (⟨spec_l01Whole_ok n, ⟨spec_l01Mul_ok n, ⟨spec_l01Add_ok n, trivial⟩⟩⟩ : AllOk P ([spec_l01WholeF n, spec_l01MulF n, spec_l01AddF n]))) (by kernel_rfl : P.funcs[101]? = some Go.Proofs.Try.f101) (by kernel_rfl) (by kernel_rfl) (by kernel_rfl)
    (fun x y => spec_l02Mark_eq n x.2.1 y.1) (fun _ _ => map_same (fun _ => rfl) _) (fun _ _ _ _ => rfl)

abbrev spec_l02Oksp : List Sp := [.ref 0]
abbrev spec_l02Okbs : List (Bs × Bool) := [(.var 46 (.pair (.pair (.int .i64) (.int .i64)) (.list (.pair (.int .i64) (.int .i64)))), true)]
abbrev spec_l02Okrs : List (Bool × List Rp) := [(false, [.v false .bool])]
noncomputable def spec_l02Okkp : Keep := { loop := fun id => match id with | 4 => [3, 0] | _ => [], join := fun id => match id with | _ => none }
noncomputable def spec_l02Okc : Code := bodyOf Go.Proofs.Try.f71
noncomputable def spec_l02OkF (n : Nat) : Fun := { id := 71, sp := spec_l02Oksp, bs := spec_l02Okbs, rs := spec_l02Okrs, f := fun x y => spec_l02Ok n y.1 }

theorem spec_l02Ok_l4_eq (n : Nat) : ∀ (k : Nat) (v3 : Int) (b0_0 : Int) (b0_1 : Int) (b0_2 : List ((Int) × (Int))), iter (interp ([spec_l02WithinF n, spec_l00InF n, spec_l01OkF n, spec_l01AbsF n, spec_l02MarkF n]) ty 70 1 n spec_l02Okkp (codeAt spec_l02Okc [1, 1, 0, 1, 0, 0])) (canon 1 (spec_l02Okkp.loop 4)) (kAt ([spec_l02WithinF n, spec_l00InF n, spec_l01OkF n, spec_l01AbsF n, spec_l02MarkF n]) ty 70 1 n spec_l02Okkp spec_l02Okc [1, 1, 0, 1, 0] [] (ending ty 1 Go.Proofs.Try.f71.results.toList spec_l02Okrs spec_l02Okbs)) k { env := [(3, .one (.sc (.int .i64 v3))), (0, .one (.ref 0 0 0 0 0 0))], bx := [(0, .var 46 [.sc (.int .i64 b0_0), .sc (.int .i64 b0_1), .list true (.pair (.int .i64) (.int .i64)) b0_2])], nx := 1 } = spec_l02Ok_l4 n k v3 b0_0 b0_1 b0_2
  | 0, _, _, _, _ => by kernel_rfl
  | k + 1, v3, b0_0, b0_1, b0_2 => by
    have h : iter (interp ([spec_l02WithinF n, spec_l00InF n, spec_l01OkF n, spec_l01AbsF n, spec_l02MarkF n]) ty 70 1 n spec_l02Okkp (codeAt spec_l02Okc [1, 1, 0, 1, 0, 0])) (canon 1 (spec_l02Okkp.loop 4)) (kAt ([spec_l02WithinF n, spec_l00InF n, spec_l01OkF n, spec_l01AbsF n, spec_l02MarkF n]) ty 70 1 n spec_l02Okkp spec_l02Okc [1, 1, 0, 1, 0] [] (ending ty 1 Go.Proofs.Try.f71.results.toList spec_l02Okrs spec_l02Okbs)) (k + 1) { env := [(3, .one (.sc (.int .i64 v3))), (0, .one (.ref 0 0 0 0 0 0))], bx := [(0, .var 46 [.sc (.int .i64 b0_0), .sc (.int .i64 b0_1), .list true (.pair (.int .i64) (.int .i64)) b0_2])], nx := 1 } = spec_l02Ok_t4 n (fun v3 b0_0 b0_1 b0_2 => iter (interp ([spec_l02WithinF n, spec_l00InF n, spec_l01OkF n, spec_l01AbsF n, spec_l02MarkF n]) ty 70 1 n spec_l02Okkp (codeAt spec_l02Okc [1, 1, 0, 1, 0, 0])) (canon 1 (spec_l02Okkp.loop 4)) (kAt ([spec_l02WithinF n, spec_l00InF n, spec_l01OkF n, spec_l01AbsF n, spec_l02MarkF n]) ty 70 1 n spec_l02Okkp spec_l02Okc [1, 1, 0, 1, 0] [] (ending ty 1 Go.Proofs.Try.f71.results.toList spec_l02Okrs spec_l02Okbs)) k { env := [(3, .one (.sc (.int .i64 v3))), (0, .one (.ref 0 0 0 0 0 0))], bx := [(0, .var 46 [.sc (.int .i64 b0_0), .sc (.int .i64 b0_1), .list true (.pair (.int .i64) (.int .i64)) b0_2])], nx := 1 }) v3 b0_0 b0_1 b0_2 := by kernel_rfl
    rw [h]
    have e := congrArg (fun g => spec_l02Ok_t4 n g v3 b0_0 b0_1 b0_2) (funext fun v3 => funext fun b0_0 => funext fun b0_1 => funext fun b0_2 => spec_l02Ok_l4_eq n k v3 b0_0 b0_1 b0_2)
    exact e

theorem spec_l02Ok_eq (n : Nat) (b0 : ((Int) × (Int)) × (List ((Int) × (Int)))) : runBody ([spec_l02WithinF n, spec_l00InF n, spec_l01OkF n, spec_l01AbsF n, spec_l02MarkF n]) ty 70 n spec_l02Okkp spec_l02Okc Go.Proofs.Try.f71.results.toList spec_l02Okrs spec_l02Oksp spec_l02Okbs ((), ()) (b0, ()) = spec_l02Ok n b0 := by
  have h : runBody ([spec_l02WithinF n, spec_l00InF n, spec_l01OkF n, spec_l01AbsF n, spec_l02MarkF n]) ty 70 n spec_l02Okkp spec_l02Okc Go.Proofs.Try.f71.results.toList spec_l02Okrs spec_l02Oksp spec_l02Okbs ((), ()) (b0, ()) = spec_l02Ok_t n (fun k v3 b0_0 b0_1 b0_2 => iter (interp ([spec_l02WithinF n, spec_l00InF n, spec_l01OkF n, spec_l01AbsF n, spec_l02MarkF n]) ty 70 1 n spec_l02Okkp (codeAt spec_l02Okc [1, 1, 0, 1, 0, 0])) (canon 1 (spec_l02Okkp.loop 4)) (kAt ([spec_l02WithinF n, spec_l00InF n, spec_l01OkF n, spec_l01AbsF n, spec_l02MarkF n]) ty 70 1 n spec_l02Okkp spec_l02Okc [1, 1, 0, 1, 0] [] (ending ty 1 Go.Proofs.Try.f71.results.toList spec_l02Okrs spec_l02Okbs)) k { env := [(3, .one (.sc (.int .i64 v3))), (0, .one (.ref 0 0 0 0 0 0))], bx := [(0, .var 46 [.sc (.int .i64 b0_0), .sc (.int .i64 b0_1), .list true (.pair (.int .i64) (.int .i64)) b0_2])], nx := 1 }) b0 := by kernel_rfl
  rw [h]
  have e := congrArg (fun h4 => spec_l02Ok_t n h4 b0) (funext fun k => funext fun v3 => funext fun b0_0 => funext fun b0_1 => funext fun b0_2 => spec_l02Ok_l4_eq n k v3 b0_0 b0_1 b0_2)
  exact e

theorem spec_l02Ok_ok (n : Nat) : FunOk P (spec_l02OkF n) :=
  funOk_mk (C := [spec_l02WithinF n, spec_l00InF n, spec_l01OkF n, spec_l01AbsF n, spec_l02MarkF n]) (N := 70) (kp := spec_l02Okkp) (c := spec_l02Okc) (n := n) (G := fun x y => spec_l02Ok n y.1) follows (AllOk.mem (⟨spec_l02Within_ok n, ⟨spec_l00In_ok n, ⟨spec_l01Ok_ok n, ⟨spec_l01Abs_ok n, ⟨spec_l02Mark_ok n, trivial⟩⟩⟩⟩⟩ : AllOk P ([spec_l02WithinF n, spec_l00InF n, spec_l01OkF n, spec_l01AbsF n, spec_l02MarkF n]))) (by kernel_rfl : P.funcs[71]? = some Go.Proofs.Try.f71) (by kernel_rfl) (by kernel_rfl) (by kernel_rfl)
    (fun x y => spec_l02Ok_eq n y.1) (fun _ _ => map_same (fun _ => rfl) _) (fun _ _ _ _ => rfl)

abbrev spec_l02Verniersp : List Sp := [.ref 0]
abbrev spec_l02Vernierbs : List (Bs × Bool) := [(.var 48 (.pair (.int .i64) .bool), true)]
abbrev spec_l02Vernierrs : List (Bool × List Rp) := [(false, [.v false .bool])]
noncomputable def spec_l02Vernierkp : Keep := { loop := fun id => match id with | _ => [], join := fun id => match id with | _ => none }
noncomputable def spec_l02Vernierc : Code := bodyOf Go.Proofs.Try.f72
noncomputable def spec_l02VernierF (n : Nat) : Fun := { id := 72, sp := spec_l02Verniersp, bs := spec_l02Vernierbs, rs := spec_l02Vernierrs, f := fun x y => spec_l02Vernier n y.1 }

theorem spec_l02Vernier_eq (n : Nat) (b0 : (Int) × (Bool)) : runBody ([spec_l00InF n]) ty 8 n spec_l02Vernierkp spec_l02Vernierc Go.Proofs.Try.f72.results.toList spec_l02Vernierrs spec_l02Verniersp spec_l02Vernierbs ((), ()) (b0, ()) = spec_l02Vernier n b0 := by
  have h : runBody ([spec_l00InF n]) ty 8 n spec_l02Vernierkp spec_l02Vernierc Go.Proofs.Try.f72.results.toList spec_l02Vernierrs spec_l02Verniersp spec_l02Vernierbs ((), ()) (b0, ()) = spec_l02Vernier_t n b0 := by kernel_rfl
  rw [h]
  rfl

theorem spec_l02Vernier_ok (n : Nat) : FunOk P (spec_l02VernierF n) :=
  funOk_mk (C := [spec_l00InF n]) (N := 8) (kp := spec_l02Vernierkp) (c := spec_l02Vernierc) (n := n) (G := fun x y => spec_l02Vernier n y.1) follows (AllOk.mem (⟨spec_l00In_ok n, trivial⟩ : AllOk P ([spec_l00InF n]))) (by kernel_rfl : P.funcs[72]? = some Go.Proofs.Try.f72) (by kernel_rfl) (by kernel_rfl) (by kernel_rfl)
    (fun x y => spec_l02Vernier_eq n y.1) (fun _ _ => map_same (fun _ => rfl) _) (fun _ _ _ _ => rfl)

abbrev spec_l02Askedsp : List Sp := [.ref 0, .ref 1, .v true (.pair (.int .i64) (.int .i64))]
abbrev spec_l02Askedbs : List (Bs × Bool) := [(.var 46 (.pair (.pair (.int .i64) (.int .i64)) (.list (.pair (.int .i64) (.int .i64)))), true), (.var 48 (.pair (.int .i64) .bool), true)]
abbrev spec_l02Askedrs : List (Bool × List Rp) := [(false, [.v false (.int .i64)])]
noncomputable def spec_l02Askedkp : Keep := { loop := fun id => match id with | _ => [], join := fun id => match id with | _ => none }
noncomputable def spec_l02Askedc : Code := bodyOf Go.Proofs.Try.f38
noncomputable def spec_l02AskedF (n : Nat) : Fun := { id := 38, sp := spec_l02Askedsp, bs := spec_l02Askedbs, rs := spec_l02Askedrs, f := fun x y => spec_l02Asked n x.2.2.1 y.1 y.2.1 }

theorem spec_l02Asked_eq (n : Nat) (a2 : (Int) × (Int)) (b0 : ((Int) × (Int)) × (List ((Int) × (Int)))) (b1 : (Int) × (Bool)) : runBody ([spec_l02OkF n, spec_l02VernierF n, spec_l01OkF n]) ty 20 n spec_l02Askedkp spec_l02Askedc Go.Proofs.Try.f38.results.toList spec_l02Askedrs spec_l02Askedsp spec_l02Askedbs ((), ((), (a2, ()))) (b0, (b1, ())) = spec_l02Asked n a2 b0 b1 := by
  have h : runBody ([spec_l02OkF n, spec_l02VernierF n, spec_l01OkF n]) ty 20 n spec_l02Askedkp spec_l02Askedc Go.Proofs.Try.f38.results.toList spec_l02Askedrs spec_l02Askedsp spec_l02Askedbs ((), ((), (a2, ()))) (b0, (b1, ())) = spec_l02Asked_t n a2 b0 b1 := by kernel_rfl
  rw [h]
  rfl

theorem spec_l02Asked_ok (n : Nat) : FunOk P (spec_l02AskedF n) :=
  funOk_mk (C := [spec_l02OkF n, spec_l02VernierF n, spec_l01OkF n]) (N := 20) (kp := spec_l02Askedkp) (c := spec_l02Askedc) (n := n) (G := fun x y => spec_l02Asked n x.2.2.1 y.1 y.2.1) follows (AllOk.mem (⟨spec_l02Ok_ok n, ⟨spec_l02Vernier_ok n, ⟨spec_l01Ok_ok n, trivial⟩⟩⟩ : AllOk P ([spec_l02OkF n, spec_l02VernierF n, spec_l01OkF n]))) (by kernel_rfl : P.funcs[38]? = some Go.Proofs.Try.f38) (by kernel_rfl) (by kernel_rfl) (by kernel_rfl)
    (fun x y => spec_l02Asked_eq n x.2.2.1 y.1 y.2.1) (fun _ _ => map_same (fun _ => rfl) _) (fun _ _ _ _ => rfl)

abbrev spec_l01Divsp : List Sp := [.v true (.pair (.int .i64) (.int .i64)), .v true (.pair (.int .i64) (.int .i64))]
abbrev spec_l01Divbs : List (Bs × Bool) := []
abbrev spec_l01Divrs : List (Bool × List Rp) := [(true, [.v false (.pair (.int .i64) (.int .i64))]), (false, [.v false (.int .i64)])]
noncomputable def spec_l01Divkp : Keep := { loop := fun id => match id with | _ => [], join := fun id => match id with | _ => none }
noncomputable def spec_l01Divc : Code := bodyOf Go.Proofs.Try.f75
noncomputable def spec_l01DivF (n : Nat) : Fun := { id := 75, sp := spec_l01Divsp, bs := spec_l01Divbs, rs := spec_l01Divrs, f := fun x y => spec_l01Div n x.1 x.2.1 }

theorem spec_l01Div_eq (n : Nat) (a0 : (Int) × (Int)) (a1 : (Int) × (Int)) : runBody ([spec_l01ReducedF n]) ty 19 n spec_l01Divkp spec_l01Divc Go.Proofs.Try.f75.results.toList spec_l01Divrs spec_l01Divsp spec_l01Divbs (a0, (a1, ())) () = spec_l01Div n a0 a1 := by
  have h : runBody ([spec_l01ReducedF n]) ty 19 n spec_l01Divkp spec_l01Divc Go.Proofs.Try.f75.results.toList spec_l01Divrs spec_l01Divsp spec_l01Divbs (a0, (a1, ())) () = spec_l01Div_t n a0 a1 := by kernel_rfl
  rw [h]
  rfl

theorem spec_l01Div_ok (n : Nat) : FunOk P (spec_l01DivF n) :=
  funOk_mk (C := [spec_l01ReducedF n]) (N := 19) (kp := spec_l01Divkp) (c := spec_l01Divc) (n := n) (G := fun x y => spec_l01Div n x.1 x.2.1) follows (AllOk.mem (⟨spec_l01Reduced_ok n, trivial⟩ : AllOk P ([spec_l01ReducedF n]))) (by kernel_rfl : P.funcs[75]? = some Go.Proofs.Try.f75) (by kernel_rfl) (by kernel_rfl) (by kernel_rfl)
    (fun x y => spec_l01Div_eq n x.1 x.2.1) (fun _ _ => map_same (fun _ => rfl) _) (fun _ _ _ _ => rfl)

abbrev spec_l02Linesp : List Sp := [.ref 0, .ref 1, .v true (.pair (.int .i64) (.int .i64)), .v false (.int .i64)]
abbrev spec_l02Linebs : List (Bs × Bool) := [(.var 46 (.pair (.pair (.int .i64) (.int .i64)) (.list (.pair (.int .i64) (.int .i64)))), true), (.var 48 (.pair (.int .i64) .bool), true)]
abbrev spec_l02Liners : List (Bool × List Rp) := [(true, [.v false (.pair (.int .i64) (.int .i64))]), (false, [.v false (.int .i64)])]
noncomputable def spec_l02Linekp : Keep := { loop := fun id => match id with | _ => [], join := fun id => match id with | _ => none }
noncomputable def spec_l02Linec : Code := bodyOf Go.Proofs.Try.f103
noncomputable def spec_l02LineF (n : Nat) : Fun := { id := 103, sp := spec_l02Linesp, bs := spec_l02Linebs, rs := spec_l02Liners, f := fun x y => spec_l02Line n x.2.2.1 x.2.2.2.1 y.1 y.2.1 }

theorem spec_l02Line_eq (n : Nat) (a2 : (Int) × (Int)) (a3 : Int) (b0 : ((Int) × (Int)) × (List ((Int) × (Int)))) (b1 : (Int) × (Bool)) : runBody ([spec_l01WholeF n, spec_l01MulF n, spec_l01DivF n, spec_l01AddF n]) ty 64 n spec_l02Linekp spec_l02Linec Go.Proofs.Try.f103.results.toList spec_l02Liners spec_l02Linesp spec_l02Linebs ((), ((), (a2, (a3, ())))) (b0, (b1, ())) = spec_l02Line n a2 a3 b0 b1 := by
  have h : runBody ([spec_l01WholeF n, spec_l01MulF n, spec_l01DivF n, spec_l01AddF n]) ty 64 n spec_l02Linekp spec_l02Linec Go.Proofs.Try.f103.results.toList spec_l02Liners spec_l02Linesp spec_l02Linebs ((), ((), (a2, (a3, ())))) (b0, (b1, ())) = spec_l02Line_t n a2 a3 b0 b1 := by kernel_rfl
  rw [h]
  rfl

theorem spec_l02Line_ok (n : Nat) : FunOk P (spec_l02LineF n) :=
  funOk_mk (C := [spec_l01WholeF n, spec_l01MulF n, spec_l01DivF n, spec_l01AddF n]) (N := 64) (kp := spec_l02Linekp) (c := spec_l02Linec) (n := n) (G := fun x y => spec_l02Line n x.2.2.1 x.2.2.2.1 y.1 y.2.1) follows (AllOk.mem (⟨spec_l01Whole_ok n, ⟨spec_l01Mul_ok n, ⟨spec_l01Div_ok n, ⟨spec_l01Add_ok n, trivial⟩⟩⟩⟩ : AllOk P ([spec_l01WholeF n, spec_l01MulF n, spec_l01DivF n, spec_l01AddF n]))) (by kernel_rfl : P.funcs[103]? = some Go.Proofs.Try.f103) (by kernel_rfl) (by kernel_rfl) (by kernel_rfl)
    (fun x y => spec_l02Line_eq n x.2.2.1 x.2.2.2.1 y.1 y.2.1) (fun _ _ => map_same (fun _ => rfl) _) (fun _ _ _ _ => rfl)

abbrev spec_l01Negsp : List Sp := [.v true (.pair (.int .i64) (.int .i64))]
abbrev spec_l01Negbs : List (Bs × Bool) := []
abbrev spec_l01Negrs : List (Bool × List Rp) := [(true, [.v false (.pair (.int .i64) (.int .i64))])]
noncomputable def spec_l01Negkp : Keep := { loop := fun id => match id with | _ => [], join := fun id => match id with | _ => none }
noncomputable def spec_l01Negc : Code := bodyOf Go.Proofs.Try.f66
noncomputable def spec_l01NegF (n : Nat) : Fun := { id := 66, sp := spec_l01Negsp, bs := spec_l01Negbs, rs := spec_l01Negrs, f := fun x y => spec_l01Neg n x.1 }

theorem spec_l01Neg_eq (n : Nat) (a0 : (Int) × (Int)) : runBody ([]) ty 9 n spec_l01Negkp spec_l01Negc Go.Proofs.Try.f66.results.toList spec_l01Negrs spec_l01Negsp spec_l01Negbs (a0, ()) () = spec_l01Neg n a0 := by
  have h : runBody ([]) ty 9 n spec_l01Negkp spec_l01Negc Go.Proofs.Try.f66.results.toList spec_l01Negrs spec_l01Negsp spec_l01Negbs (a0, ()) () = spec_l01Neg_t n a0 := by kernel_rfl
  rw [h]
  rfl

theorem spec_l01Neg_ok (n : Nat) : FunOk P (spec_l01NegF n) :=
  funOk_mk (C := []) (N := 9) (kp := spec_l01Negkp) (c := spec_l01Negc) (n := n) (G := fun x y => spec_l01Neg n x.1) follows (AllOk.mem (trivial : AllOk P ([]))) (by kernel_rfl : P.funcs[66]? = some Go.Proofs.Try.f66) (by kernel_rfl) (by kernel_rfl) (by kernel_rfl)
    (fun x y => spec_l01Neg_eq n x.1) (fun _ _ => map_same (fun _ => rfl) _) (fun _ _ _ _ => rfl)

abbrev spec_l01Subsp : List Sp := [.v true (.pair (.int .i64) (.int .i64)), .v true (.pair (.int .i64) (.int .i64))]
abbrev spec_l01Subbs : List (Bs × Bool) := []
abbrev spec_l01Subrs : List (Bool × List Rp) := [(true, [.v false (.pair (.int .i64) (.int .i64))]), (false, [.v false (.int .i64)])]
noncomputable def spec_l01Subkp : Keep := { loop := fun id => match id with | _ => [], join := fun id => match id with | _ => none }
noncomputable def spec_l01Subc : Code := bodyOf Go.Proofs.Try.f27
noncomputable def spec_l01SubF (n : Nat) : Fun := { id := 27, sp := spec_l01Subsp, bs := spec_l01Subbs, rs := spec_l01Subrs, f := fun x y => spec_l01Sub n x.1 x.2.1 }

theorem spec_l01Sub_eq (n : Nat) (a0 : (Int) × (Int)) (a1 : (Int) × (Int)) : runBody ([spec_l01NegF n, spec_l01AddF n]) ty 12 n spec_l01Subkp spec_l01Subc Go.Proofs.Try.f27.results.toList spec_l01Subrs spec_l01Subsp spec_l01Subbs (a0, (a1, ())) () = spec_l01Sub n a0 a1 := by
  have h : runBody ([spec_l01NegF n, spec_l01AddF n]) ty 12 n spec_l01Subkp spec_l01Subc Go.Proofs.Try.f27.results.toList spec_l01Subrs spec_l01Subsp spec_l01Subbs (a0, (a1, ())) () = spec_l01Sub_t n a0 a1 := by kernel_rfl
  rw [h]
  rfl

theorem spec_l01Sub_ok (n : Nat) : FunOk P (spec_l01SubF n) :=
  funOk_mk (C := [spec_l01NegF n, spec_l01AddF n]) (N := 12) (kp := spec_l01Subkp) (c := spec_l01Subc) (n := n) (G := fun x y => spec_l01Sub n x.1 x.2.1) follows (AllOk.mem (⟨spec_l01Neg_ok n, ⟨spec_l01Add_ok n, trivial⟩⟩ : AllOk P ([spec_l01NegF n, spec_l01AddF n]))) (by kernel_rfl : P.funcs[27]? = some Go.Proofs.Try.f27) (by kernel_rfl) (by kernel_rfl) (by kernel_rfl)
    (fun x y => spec_l01Sub_eq n x.1 x.2.1) (fun _ _ => map_same (fun _ => rfl) _) (fun _ _ _ _ => rfl)

abbrev spec_l02Sizesp : List Sp := [.v true (.pair (.int .i64) (.int .i64))]
abbrev spec_l02Sizebs : List (Bs × Bool) := []
abbrev spec_l02Sizers : List (Bool × List Rp) := [(true, [.v false (.pair (.int .i64) (.int .i64))])]
noncomputable def spec_l02Sizekp : Keep := { loop := fun id => match id with | _ => [], join := fun id => match id with | _ => none }
noncomputable def spec_l02Sizec : Code := bodyOf Go.Proofs.Try.f121
noncomputable def spec_l02SizeF (n : Nat) : Fun := { id := 121, sp := spec_l02Sizesp, bs := spec_l02Sizebs, rs := spec_l02Sizers, f := fun x y => spec_l02Size n x.1 }

theorem spec_l02Size_eq (n : Nat) (a0 : (Int) × (Int)) : runBody ([spec_l01NegF n]) ty 9 n spec_l02Sizekp spec_l02Sizec Go.Proofs.Try.f121.results.toList spec_l02Sizers spec_l02Sizesp spec_l02Sizebs (a0, ()) () = spec_l02Size n a0 := by
  have h : runBody ([spec_l01NegF n]) ty 9 n spec_l02Sizekp spec_l02Sizec Go.Proofs.Try.f121.results.toList spec_l02Sizers spec_l02Sizesp spec_l02Sizebs (a0, ()) () = spec_l02Size_t n a0 := by kernel_rfl
  rw [h]
  rfl

theorem spec_l02Size_ok (n : Nat) : FunOk P (spec_l02SizeF n) :=
  funOk_mk (C := [spec_l01NegF n]) (N := 9) (kp := spec_l02Sizekp) (c := spec_l02Sizec) (n := n) (G := fun x y => spec_l02Size n x.1) follows (AllOk.mem (⟨spec_l01Neg_ok n, trivial⟩ : AllOk P ([spec_l01NegF n]))) (by kernel_rfl : P.funcs[121]? = some Go.Proofs.Try.f121) (by kernel_rfl) (by kernel_rfl) (by kernel_rfl)
    (fun x y => spec_l02Size_eq n x.1) (fun _ _ => map_same (fun _ => rfl) _) (fun _ _ _ _ => rfl)

abbrev spec_l02Nearestsp : List Sp := [.ref 0, .v true (.pair (.int .i64) (.int .i64))]
abbrev spec_l02Nearestbs : List (Bs × Bool) := [(.var 46 (.pair (.pair (.int .i64) (.int .i64)) (.list (.pair (.int .i64) (.int .i64)))), true)]
abbrev spec_l02Nearestrs : List (Bool × List Rp) := [(false, [.v false (.int .i64)]), (true, [.v false (.pair (.int .i64) (.int .i64))]), (false, [.v false (.int .i64)])]
noncomputable def spec_l02Nearestkp : Keep := { loop := fun id => match id with | 4 => [5, 9, 8, 3, 0, 7] | _ => [], join := fun id => match id with | _ => none }
noncomputable def spec_l02Nearestc : Code := bodyOf Go.Proofs.Try.f117
noncomputable def spec_l02NearestF (n : Nat) : Fun := { id := 117, sp := spec_l02Nearestsp, bs := spec_l02Nearestbs, rs := spec_l02Nearestrs, f := fun x y => spec_l02Nearest n x.2.1 y.1 }

theorem spec_l02Nearest_l4_eq (n : Nat) : ∀ (k : Nat) (v9 : Int) (v7 : Int) (b0_0 : Int) (b0_1 : Int) (b0_2 : List ((Int) × (Int))) (b1_0 : Int) (b1_1 : Int) (b2_0 : Int) (b2_1 : Int) (b3_0 : Int) (b3_1 : Int), iter (interp ([spec_l02MarkF n, spec_l01SubF n, spec_l02SizeF n, spec_l01CmpF n]) ty 54 1 n spec_l02Nearestkp (codeAt spec_l02Nearestc [1, 1, 1, 0, 1, 0, 0])) (canon 1 (spec_l02Nearestkp.loop 4)) (kAt ([spec_l02MarkF n, spec_l01SubF n, spec_l02SizeF n, spec_l01CmpF n]) ty 54 1 n spec_l02Nearestkp spec_l02Nearestc [1, 1, 1, 0, 1, 0] [] (ending ty 1 Go.Proofs.Try.f117.results.toList spec_l02Nearestrs spec_l02Nearestbs)) k { env := [(5, .one (.ref 1 0 0 0 0 0)), (9, .one (.sc (.int .i64 v9))), (8, .one (.ref 2 0 0 0 0 0)), (3, .one (.ref 3 0 0 0 0 0)), (0, .one (.ref 0 0 0 0 0 0)), (7, .one (.sc (.int .i64 v7)))], bx := [(0, .var 46 [.sc (.int .i64 b0_0), .sc (.int .i64 b0_1), .list true (.pair (.int .i64) (.int .i64)) b0_2]), (1, .var 25 [.sc (.int .i64 b1_0), .sc (.int .i64 b1_1)]), (2, .var 25 [.sc (.int .i64 b2_0), .sc (.int .i64 b2_1)]), (3, .var 25 [.sc (.int .i64 b3_0), .sc (.int .i64 b3_1)])], nx := 4 } = spec_l02Nearest_l4 n k v9 v7 b0_0 b0_1 b0_2 b1_0 b1_1 b2_0 b2_1 b3_0 b3_1
  | 0, _, _, _, _, _, _, _, _, _, _, _ => by kernel_rfl
  | k + 1, v9, v7, b0_0, b0_1, b0_2, b1_0, b1_1, b2_0, b2_1, b3_0, b3_1 => by
    have h : iter (interp ([spec_l02MarkF n, spec_l01SubF n, spec_l02SizeF n, spec_l01CmpF n]) ty 54 1 n spec_l02Nearestkp (codeAt spec_l02Nearestc [1, 1, 1, 0, 1, 0, 0])) (canon 1 (spec_l02Nearestkp.loop 4)) (kAt ([spec_l02MarkF n, spec_l01SubF n, spec_l02SizeF n, spec_l01CmpF n]) ty 54 1 n spec_l02Nearestkp spec_l02Nearestc [1, 1, 1, 0, 1, 0] [] (ending ty 1 Go.Proofs.Try.f117.results.toList spec_l02Nearestrs spec_l02Nearestbs)) (k + 1) { env := [(5, .one (.ref 1 0 0 0 0 0)), (9, .one (.sc (.int .i64 v9))), (8, .one (.ref 2 0 0 0 0 0)), (3, .one (.ref 3 0 0 0 0 0)), (0, .one (.ref 0 0 0 0 0 0)), (7, .one (.sc (.int .i64 v7)))], bx := [(0, .var 46 [.sc (.int .i64 b0_0), .sc (.int .i64 b0_1), .list true (.pair (.int .i64) (.int .i64)) b0_2]), (1, .var 25 [.sc (.int .i64 b1_0), .sc (.int .i64 b1_1)]), (2, .var 25 [.sc (.int .i64 b2_0), .sc (.int .i64 b2_1)]), (3, .var 25 [.sc (.int .i64 b3_0), .sc (.int .i64 b3_1)])], nx := 4 } = spec_l02Nearest_t4 n (fun v9 v7 b0_0 b0_1 b0_2 b1_0 b1_1 b2_0 b2_1 b3_0 b3_1 => iter (interp ([spec_l02MarkF n, spec_l01SubF n, spec_l02SizeF n, spec_l01CmpF n]) ty 54 1 n spec_l02Nearestkp (codeAt spec_l02Nearestc [1, 1, 1, 0, 1, 0, 0])) (canon 1 (spec_l02Nearestkp.loop 4)) (kAt ([spec_l02MarkF n, spec_l01SubF n, spec_l02SizeF n, spec_l01CmpF n]) ty 54 1 n spec_l02Nearestkp spec_l02Nearestc [1, 1, 1, 0, 1, 0] [] (ending ty 1 Go.Proofs.Try.f117.results.toList spec_l02Nearestrs spec_l02Nearestbs)) k { env := [(5, .one (.ref 1 0 0 0 0 0)), (9, .one (.sc (.int .i64 v9))), (8, .one (.ref 2 0 0 0 0 0)), (3, .one (.ref 3 0 0 0 0 0)), (0, .one (.ref 0 0 0 0 0 0)), (7, .one (.sc (.int .i64 v7)))], bx := [(0, .var 46 [.sc (.int .i64 b0_0), .sc (.int .i64 b0_1), .list true (.pair (.int .i64) (.int .i64)) b0_2]), (1, .var 25 [.sc (.int .i64 b1_0), .sc (.int .i64 b1_1)]), (2, .var 25 [.sc (.int .i64 b2_0), .sc (.int .i64 b2_1)]), (3, .var 25 [.sc (.int .i64 b3_0), .sc (.int .i64 b3_1)])], nx := 4 }) v9 v7 b0_0 b0_1 b0_2 b1_0 b1_1 b2_0 b2_1 b3_0 b3_1 := by kernel_rfl
    rw [h]
    have e := congrArg (fun g => spec_l02Nearest_t4 n g v9 v7 b0_0 b0_1 b0_2 b1_0 b1_1 b2_0 b2_1 b3_0 b3_1) (funext fun v9 => funext fun v7 => funext fun b0_0 => funext fun b0_1 => funext fun b0_2 => funext fun b1_0 => funext fun b1_1 => funext fun b2_0 => funext fun b2_1 => funext fun b3_0 => funext fun b3_1 => spec_l02Nearest_l4_eq n k v9 v7 b0_0 b0_1 b0_2 b1_0 b1_1 b2_0 b2_1 b3_0 b3_1)
    exact e

theorem spec_l02Nearest_eq (n : Nat) (a1 : (Int) × (Int)) (b0 : ((Int) × (Int)) × (List ((Int) × (Int)))) : runBody ([spec_l02MarkF n, spec_l01SubF n, spec_l02SizeF n, spec_l01CmpF n]) ty 54 n spec_l02Nearestkp spec_l02Nearestc Go.Proofs.Try.f117.results.toList spec_l02Nearestrs spec_l02Nearestsp spec_l02Nearestbs ((), (a1, ())) (b0, ()) = spec_l02Nearest n a1 b0 := by
  have h : runBody ([spec_l02MarkF n, spec_l01SubF n, spec_l02SizeF n, spec_l01CmpF n]) ty 54 n spec_l02Nearestkp spec_l02Nearestc Go.Proofs.Try.f117.results.toList spec_l02Nearestrs spec_l02Nearestsp spec_l02Nearestbs ((), (a1, ())) (b0, ()) = spec_l02Nearest_t n (fun k v9 v7 b0_0 b0_1 b0_2 b1_0 b1_1 b2_0 b2_1 b3_0 b3_1 => iter (interp ([spec_l02MarkF n, spec_l01SubF n, spec_l02SizeF n, spec_l01CmpF n]) ty 54 1 n spec_l02Nearestkp (codeAt spec_l02Nearestc [1, 1, 1, 0, 1, 0, 0])) (canon 1 (spec_l02Nearestkp.loop 4)) (kAt ([spec_l02MarkF n, spec_l01SubF n, spec_l02SizeF n, spec_l01CmpF n]) ty 54 1 n spec_l02Nearestkp spec_l02Nearestc [1, 1, 1, 0, 1, 0] [] (ending ty 1 Go.Proofs.Try.f117.results.toList spec_l02Nearestrs spec_l02Nearestbs)) k { env := [(5, .one (.ref 1 0 0 0 0 0)), (9, .one (.sc (.int .i64 v9))), (8, .one (.ref 2 0 0 0 0 0)), (3, .one (.ref 3 0 0 0 0 0)), (0, .one (.ref 0 0 0 0 0 0)), (7, .one (.sc (.int .i64 v7)))], bx := [(0, .var 46 [.sc (.int .i64 b0_0), .sc (.int .i64 b0_1), .list true (.pair (.int .i64) (.int .i64)) b0_2]), (1, .var 25 [.sc (.int .i64 b1_0), .sc (.int .i64 b1_1)]), (2, .var 25 [.sc (.int .i64 b2_0), .sc (.int .i64 b2_1)]), (3, .var 25 [.sc (.int .i64 b3_0), .sc (.int .i64 b3_1)])], nx := 4 }) a1 b0 := by kernel_rfl
  rw [h]
  have e := congrArg (fun h4 => spec_l02Nearest_t n h4 a1 b0) (funext fun k => funext fun v9 => funext fun v7 => funext fun b0_0 => funext fun b0_1 => funext fun b0_2 => funext fun b1_0 => funext fun b1_1 => funext fun b2_0 => funext fun b2_1 => funext fun b3_0 => funext fun b3_1 => spec_l02Nearest_l4_eq n k v9 v7 b0_0 b0_1 b0_2 b1_0 b1_1 b2_0 b2_1 b3_0 b3_1)
  exact e

theorem spec_l02Nearest_ok (n : Nat) : FunOk P (spec_l02NearestF n) :=
  funOk_mk (C := [spec_l02MarkF n, spec_l01SubF n, spec_l02SizeF n, spec_l01CmpF n]) (N := 54) (kp := spec_l02Nearestkp) (c := spec_l02Nearestc) (n := n) (G := fun x y => spec_l02Nearest n x.2.1 y.1) follows (AllOk.mem (⟨spec_l02Mark_ok n, ⟨spec_l01Sub_ok n, ⟨spec_l02Size_ok n, ⟨spec_l01Cmp_ok n, trivial⟩⟩⟩⟩ : AllOk P ([spec_l02MarkF n, spec_l01SubF n, spec_l02SizeF n, spec_l01CmpF n]))) (by kernel_rfl : P.funcs[117]? = some Go.Proofs.Try.f117) (by kernel_rfl) (by kernel_rfl) (by kernel_rfl)
    (fun x y => spec_l02Nearest_eq n x.2.1 y.1) (fun _ _ => map_same (fun _ => rfl) _) (fun _ _ _ _ => rfl)

abbrev spec_l02Misfitsp : List Sp := [.ref 0, .ref 1, .v true (.pair (.int .i64) (.int .i64)), .v false (.int .i64)]
abbrev spec_l02Misfitbs : List (Bs × Bool) := [(.var 46 (.pair (.pair (.int .i64) (.int .i64)) (.list (.pair (.int .i64) (.int .i64)))), true), (.var 48 (.pair (.int .i64) .bool), true)]
abbrev spec_l02Misfitrs : List (Bool × List Rp) := [(true, [.v false (.pair (.int .i64) (.int .i64))]), (false, [.v false (.int .i64)])]
noncomputable def spec_l02Misfitkp : Keep := { loop := fun id => match id with | _ => [], join := fun id => match id with | _ => none }
noncomputable def spec_l02Misfitc : Code := bodyOf Go.Proofs.Try.f104
noncomputable def spec_l02MisfitF (n : Nat) : Fun := { id := 104, sp := spec_l02Misfitsp, bs := spec_l02Misfitbs, rs := spec_l02Misfitrs, f := fun x y => spec_l02Misfit n x.2.2.1 x.2.2.2.1 y.1 y.2.1 }

theorem spec_l02Misfit_eq (n : Nat) (a2 : (Int) × (Int)) (a3 : Int) (b0 : ((Int) × (Int)) × (List ((Int) × (Int)))) (b1 : (Int) × (Bool)) : runBody ([spec_l02LineF n, spec_l02NearestF n]) ty 36 n spec_l02Misfitkp spec_l02Misfitc Go.Proofs.Try.f104.results.toList spec_l02Misfitrs spec_l02Misfitsp spec_l02Misfitbs ((), ((), (a2, (a3, ())))) (b0, (b1, ())) = spec_l02Misfit n a2 a3 b0 b1 := by
  have h : runBody ([spec_l02LineF n, spec_l02NearestF n]) ty 36 n spec_l02Misfitkp spec_l02Misfitc Go.Proofs.Try.f104.results.toList spec_l02Misfitrs spec_l02Misfitsp spec_l02Misfitbs ((), ((), (a2, (a3, ())))) (b0, (b1, ())) = spec_l02Misfit_t n a2 a3 b0 b1 := by kernel_rfl
  rw [h]
  rfl

theorem spec_l02Misfit_ok (n : Nat) : FunOk P (spec_l02MisfitF n) :=
  funOk_mk (C := [spec_l02LineF n, spec_l02NearestF n]) (N := 36) (kp := spec_l02Misfitkp) (c := spec_l02Misfitc) (n := n) (G := fun x y => spec_l02Misfit n x.2.2.1 x.2.2.2.1 y.1 y.2.1) follows (AllOk.mem (⟨spec_l02Line_ok n, ⟨spec_l02Nearest_ok n, trivial⟩⟩ : AllOk P ([spec_l02LineF n, spec_l02NearestF n]))) (by kernel_rfl : P.funcs[104]? = some Go.Proofs.Try.f104) (by kernel_rfl) (by kernel_rfl) (by kernel_rfl)
    (fun x y => spec_l02Misfit_eq n x.2.2.1 x.2.2.2.1 y.1 y.2.1) (fun _ _ => map_same (fun _ => rfl) _) (fun _ _ _ _ => rfl)

abbrev spec_l02Fitssp : List Sp := [.ref 0, .ref 1, .v true (.pair (.int .i64) (.int .i64))]
abbrev spec_l02Fitsbs : List (Bs × Bool) := [(.var 46 (.pair (.pair (.int .i64) (.int .i64)) (.list (.pair (.int .i64) (.int .i64)))), true), (.var 48 (.pair (.int .i64) .bool), true)]
abbrev spec_l02Fitsrs : List (Bool × List Rp) := [(false, [.v false (.int .i64)]), (false, [.v false (.int .i64)])]
noncomputable def spec_l02Fitskp : Keep := { loop := fun id => match id with | 13 => [16, 15, 5, 1, 0, 14] | _ => [], join := fun id => match id with | _ => none }
noncomputable def spec_l02Fitsc : Code := bodyOf Go.Proofs.Try.f74
noncomputable def spec_l02FitsF (n : Nat) : Fun := { id := 74, sp := spec_l02Fitssp, bs := spec_l02Fitsbs, rs := spec_l02Fitsrs, f := fun x y => spec_l02Fits n x.2.2.1 y.1 y.2.1 }

theorem spec_l02Fits_l13_eq (n : Nat) : ∀ (k : Nat) (v16 : Int) (v14 : Int) (b0_0 : Int) (b0_1 : Int) (b0_2 : List ((Int) × (Int))) (b1_0 : Int) (b1_1 : Bool) (b2_0 : Int) (b2_1 : Int) (b3_0 : Int) (b3_1 : Int), iter (interp ([spec_l02MarkF n, spec_l01CmpF n, spec_l02LineF n, spec_l02MisfitF n]) ty 89 2 n spec_l02Fitskp (codeAt spec_l02Fitsc [1, 1, 1, 1, 1, 1, 1, 1, 1, 0, 1, 0, 0])) (canon 2 (spec_l02Fitskp.loop 13)) (kAt ([spec_l02MarkF n, spec_l01CmpF n, spec_l02LineF n, spec_l02MisfitF n]) ty 89 2 n spec_l02Fitskp spec_l02Fitsc [1, 1, 1, 1, 1, 1, 1, 1, 1, 0, 1, 0] [] (ending ty 2 Go.Proofs.Try.f74.results.toList spec_l02Fitsrs spec_l02Fitsbs)) k { env := [(16, .one (.sc (.int .i64 v16))), (15, .one (.ref 2 0 0 0 0 0)), (5, .one (.ref 3 0 0 0 0 0)), (1, .one (.ref 1 0 0 0 0 0)), (0, .one (.ref 0 0 0 0 0 0)), (14, .one (.sc (.int .i64 v14)))], bx := [(0, .var 46 [.sc (.int .i64 b0_0), .sc (.int .i64 b0_1), .list true (.pair (.int .i64) (.int .i64)) b0_2]), (1, .var 48 [.sc (.int .i64 b1_0), .sc (.bool b1_1)]), (2, .var 25 [.sc (.int .i64 b2_0), .sc (.int .i64 b2_1)]), (3, .var 25 [.sc (.int .i64 b3_0), .sc (.int .i64 b3_1)])], nx := 4 } = spec_l02Fits_l13 n k v16 v14 b0_0 b0_1 b0_2 b1_0 b1_1 b2_0 b2_1 b3_0 b3_1
  | 0, _, _, _, _, _, _, _, _, _, _, _ => by kernel_rfl
  | k + 1, v16, v14, b0_0, b0_1, b0_2, b1_0, b1_1, b2_0, b2_1, b3_0, b3_1 => by
    have h : iter (interp ([spec_l02MarkF n, spec_l01CmpF n, spec_l02LineF n, spec_l02MisfitF n]) ty 89 2 n spec_l02Fitskp (codeAt spec_l02Fitsc [1, 1, 1, 1, 1, 1, 1, 1, 1, 0, 1, 0, 0])) (canon 2 (spec_l02Fitskp.loop 13)) (kAt ([spec_l02MarkF n, spec_l01CmpF n, spec_l02LineF n, spec_l02MisfitF n]) ty 89 2 n spec_l02Fitskp spec_l02Fitsc [1, 1, 1, 1, 1, 1, 1, 1, 1, 0, 1, 0] [] (ending ty 2 Go.Proofs.Try.f74.results.toList spec_l02Fitsrs spec_l02Fitsbs)) (k + 1) { env := [(16, .one (.sc (.int .i64 v16))), (15, .one (.ref 2 0 0 0 0 0)), (5, .one (.ref 3 0 0 0 0 0)), (1, .one (.ref 1 0 0 0 0 0)), (0, .one (.ref 0 0 0 0 0 0)), (14, .one (.sc (.int .i64 v14)))], bx := [(0, .var 46 [.sc (.int .i64 b0_0), .sc (.int .i64 b0_1), .list true (.pair (.int .i64) (.int .i64)) b0_2]), (1, .var 48 [.sc (.int .i64 b1_0), .sc (.bool b1_1)]), (2, .var 25 [.sc (.int .i64 b2_0), .sc (.int .i64 b2_1)]), (3, .var 25 [.sc (.int .i64 b3_0), .sc (.int .i64 b3_1)])], nx := 4 } = spec_l02Fits_t13 n (fun v16 v14 b0_0 b0_1 b0_2 b1_0 b1_1 b2_0 b2_1 b3_0 b3_1 => iter (interp ([spec_l02MarkF n, spec_l01CmpF n, spec_l02LineF n, spec_l02MisfitF n]) ty 89 2 n spec_l02Fitskp (codeAt spec_l02Fitsc [1, 1, 1, 1, 1, 1, 1, 1, 1, 0, 1, 0, 0])) (canon 2 (spec_l02Fitskp.loop 13)) (kAt ([spec_l02MarkF n, spec_l01CmpF n, spec_l02LineF n, spec_l02MisfitF n]) ty 89 2 n spec_l02Fitskp spec_l02Fitsc [1, 1, 1, 1, 1, 1, 1, 1, 1, 0, 1, 0] [] (ending ty 2 Go.Proofs.Try.f74.results.toList spec_l02Fitsrs spec_l02Fitsbs)) k { env := [(16, .one (.sc (.int .i64 v16))), (15, .one (.ref 2 0 0 0 0 0)), (5, .one (.ref 3 0 0 0 0 0)), (1, .one (.ref 1 0 0 0 0 0)), (0, .one (.ref 0 0 0 0 0 0)), (14, .one (.sc (.int .i64 v14)))], bx := [(0, .var 46 [.sc (.int .i64 b0_0), .sc (.int .i64 b0_1), .list true (.pair (.int .i64) (.int .i64)) b0_2]), (1, .var 48 [.sc (.int .i64 b1_0), .sc (.bool b1_1)]), (2, .var 25 [.sc (.int .i64 b2_0), .sc (.int .i64 b2_1)]), (3, .var 25 [.sc (.int .i64 b3_0), .sc (.int .i64 b3_1)])], nx := 4 }) v16 v14 b0_0 b0_1 b0_2 b1_0 b1_1 b2_0 b2_1 b3_0 b3_1 := by kernel_rfl
    rw [h]
    have e := congrArg (fun g => spec_l02Fits_t13 n g v16 v14 b0_0 b0_1 b0_2 b1_0 b1_1 b2_0 b2_1 b3_0 b3_1) (funext fun v16 => funext fun v14 => funext fun b0_0 => funext fun b0_1 => funext fun b0_2 => funext fun b1_0 => funext fun b1_1 => funext fun b2_0 => funext fun b2_1 => funext fun b3_0 => funext fun b3_1 => spec_l02Fits_l13_eq n k v16 v14 b0_0 b0_1 b0_2 b1_0 b1_1 b2_0 b2_1 b3_0 b3_1)
    exact e

theorem spec_l02Fits_eq (n : Nat) (a2 : (Int) × (Int)) (b0 : ((Int) × (Int)) × (List ((Int) × (Int)))) (b1 : (Int) × (Bool)) : runBody ([spec_l02MarkF n, spec_l01CmpF n, spec_l02LineF n, spec_l02MisfitF n]) ty 89 n spec_l02Fitskp spec_l02Fitsc Go.Proofs.Try.f74.results.toList spec_l02Fitsrs spec_l02Fitssp spec_l02Fitsbs ((), ((), (a2, ()))) (b0, (b1, ())) = spec_l02Fits n a2 b0 b1 := by
  have h : runBody ([spec_l02MarkF n, spec_l01CmpF n, spec_l02LineF n, spec_l02MisfitF n]) ty 89 n spec_l02Fitskp spec_l02Fitsc Go.Proofs.Try.f74.results.toList spec_l02Fitsrs spec_l02Fitssp spec_l02Fitsbs ((), ((), (a2, ()))) (b0, (b1, ())) = spec_l02Fits_t n (fun k v16 v14 b0_0 b0_1 b0_2 b1_0 b1_1 b2_0 b2_1 b3_0 b3_1 => iter (interp ([spec_l02MarkF n, spec_l01CmpF n, spec_l02LineF n, spec_l02MisfitF n]) ty 89 2 n spec_l02Fitskp (codeAt spec_l02Fitsc [1, 1, 1, 1, 1, 1, 1, 1, 1, 0, 1, 0, 0])) (canon 2 (spec_l02Fitskp.loop 13)) (kAt ([spec_l02MarkF n, spec_l01CmpF n, spec_l02LineF n, spec_l02MisfitF n]) ty 89 2 n spec_l02Fitskp spec_l02Fitsc [1, 1, 1, 1, 1, 1, 1, 1, 1, 0, 1, 0] [] (ending ty 2 Go.Proofs.Try.f74.results.toList spec_l02Fitsrs spec_l02Fitsbs)) k { env := [(16, .one (.sc (.int .i64 v16))), (15, .one (.ref 2 0 0 0 0 0)), (5, .one (.ref 3 0 0 0 0 0)), (1, .one (.ref 1 0 0 0 0 0)), (0, .one (.ref 0 0 0 0 0 0)), (14, .one (.sc (.int .i64 v14)))], bx := [(0, .var 46 [.sc (.int .i64 b0_0), .sc (.int .i64 b0_1), .list true (.pair (.int .i64) (.int .i64)) b0_2]), (1, .var 48 [.sc (.int .i64 b1_0), .sc (.bool b1_1)]), (2, .var 25 [.sc (.int .i64 b2_0), .sc (.int .i64 b2_1)]), (3, .var 25 [.sc (.int .i64 b3_0), .sc (.int .i64 b3_1)])], nx := 4 }) a2 b0 b1 := by kernel_rfl
  rw [h]
  have e := congrArg (fun h13 => spec_l02Fits_t n h13 a2 b0 b1) (funext fun k => funext fun v16 => funext fun v14 => funext fun b0_0 => funext fun b0_1 => funext fun b0_2 => funext fun b1_0 => funext fun b1_1 => funext fun b2_0 => funext fun b2_1 => funext fun b3_0 => funext fun b3_1 => spec_l02Fits_l13_eq n k v16 v14 b0_0 b0_1 b0_2 b1_0 b1_1 b2_0 b2_1 b3_0 b3_1)
  exact e

theorem spec_l02Fits_ok (n : Nat) : FunOk P (spec_l02FitsF n) :=
  funOk_mk (C := [spec_l02MarkF n, spec_l01CmpF n, spec_l02LineF n, spec_l02MisfitF n]) (N := 89) (kp := spec_l02Fitskp) (c := spec_l02Fitsc) (n := n) (G := fun x y => spec_l02Fits n x.2.2.1 y.1 y.2.1) follows (AllOk.mem (⟨spec_l02Mark_ok n, ⟨spec_l01Cmp_ok n, ⟨spec_l02Line_ok n, ⟨spec_l02Misfit_ok n, trivial⟩⟩⟩⟩ : AllOk P ([spec_l02MarkF n, spec_l01CmpF n, spec_l02LineF n, spec_l02MisfitF n]))) (by kernel_rfl : P.funcs[74]? = some Go.Proofs.Try.f74) (by kernel_rfl) (by kernel_rfl) (by kernel_rfl)
    (fun x y => spec_l02Fits_eq n x.2.2.1 y.1 y.2.1) (fun _ _ => map_same (fun _ => rfl) _) (fun _ _ _ _ => rfl)

abbrev spec_l01Downsp : List Sp := [.v false (.int .i64), .v false (.int .i64)]
abbrev spec_l01Downbs : List (Bs × Bool) := []
abbrev spec_l01Downrs : List (Bool × List Rp) := [(false, [.v false (.int .i64)])]
noncomputable def spec_l01Downkp : Keep := { loop := fun id => match id with | _ => [], join := fun id => match id with | _ => none }
noncomputable def spec_l01Downc : Code := bodyOf Go.Proofs.Try.f105
noncomputable def spec_l01DownF (n : Nat) : Fun := { id := 105, sp := spec_l01Downsp, bs := spec_l01Downbs, rs := spec_l01Downrs, f := fun x y => spec_l01Down n x.1 x.2.1 }

theorem spec_l01Down_eq (n : Nat) (a0 : Int) (a1 : Int) : runBody ([]) ty 16 n spec_l01Downkp spec_l01Downc Go.Proofs.Try.f105.results.toList spec_l01Downrs spec_l01Downsp spec_l01Downbs (a0, (a1, ())) () = spec_l01Down n a0 a1 := by
  have h : runBody ([]) ty 16 n spec_l01Downkp spec_l01Downc Go.Proofs.Try.f105.results.toList spec_l01Downrs spec_l01Downsp spec_l01Downbs (a0, (a1, ())) () = spec_l01Down_t n a0 a1 := by kernel_rfl
  rw [h]
  rfl

theorem spec_l01Down_ok (n : Nat) : FunOk P (spec_l01DownF n) :=
  funOk_mk (C := []) (N := 16) (kp := spec_l01Downkp) (c := spec_l01Downc) (n := n) (G := fun x y => spec_l01Down n x.1 x.2.1) follows (AllOk.mem (trivial : AllOk P ([]))) (by kernel_rfl : P.funcs[105]? = some Go.Proofs.Try.f105) (by kernel_rfl) (by kernel_rfl) (by kernel_rfl)
    (fun x y => spec_l01Down_eq n x.1 x.2.1) (fun _ _ => map_same (fun _ => rfl) _) (fun _ _ _ _ => rfl)

abbrev spec_l01Nearsp : List Sp := [.v true (.pair (.int .i64) (.int .i64)), .v true (.pair (.int .i64) (.int .i64))]
abbrev spec_l01Nearbs : List (Bs × Bool) := []
abbrev spec_l01Nearrs : List (Bool × List Rp) := [(false, [.v false (.int .i64)])]
noncomputable def spec_l01Nearkp : Keep := { loop := fun id => match id with | _ => [], join := fun id => match id with | _ => none }
noncomputable def spec_l01Nearc : Code := bodyOf Go.Proofs.Try.f79
noncomputable def spec_l01NearF (n : Nat) : Fun := { id := 79, sp := spec_l01Nearsp, bs := spec_l01Nearbs, rs := spec_l01Nearrs, f := fun x y => spec_l01Near n x.1 x.2.1 }

theorem spec_l01Near_eq (n : Nat) (a0 : (Int) × (Int)) (a1 : (Int) × (Int)) : runBody ([spec_l01DownF n]) ty 24 n spec_l01Nearkp spec_l01Nearc Go.Proofs.Try.f79.results.toList spec_l01Nearrs spec_l01Nearsp spec_l01Nearbs (a0, (a1, ())) () = spec_l01Near n a0 a1 := by
  have h : runBody ([spec_l01DownF n]) ty 24 n spec_l01Nearkp spec_l01Nearc Go.Proofs.Try.f79.results.toList spec_l01Nearrs spec_l01Nearsp spec_l01Nearbs (a0, (a1, ())) () = spec_l01Near_t n a0 a1 := by kernel_rfl
  rw [h]
  rfl

theorem spec_l01Near_ok (n : Nat) : FunOk P (spec_l01NearF n) :=
  funOk_mk (C := [spec_l01DownF n]) (N := 24) (kp := spec_l01Nearkp) (c := spec_l01Nearc) (n := n) (G := fun x y => spec_l01Near n x.1 x.2.1) follows (AllOk.mem (⟨spec_l01Down_ok n, trivial⟩ : AllOk P ([spec_l01DownF n]))) (by kernel_rfl : P.funcs[79]? = some Go.Proofs.Try.f79) (by kernel_rfl) (by kernel_rfl) (by kernel_rfl)
    (fun x y => spec_l01Near_eq n x.1 x.2.1) (fun _ _ => map_same (fun _ => rfl) _) (fun _ _ _ _ => rfl)

abbrev spec_l01Integersp : List Sp := [.v false (.int .i64)]
abbrev spec_l01Integerbs : List (Bs × Bool) := []
abbrev spec_l01Integerrs : List (Bool × List Rp) := [(false, [.v false (.int .i64)]), (false, [.v false (.int .i64)])]
noncomputable def spec_l01Integerkp : Keep := { loop := fun id => match id with | _ => [], join := fun id => match id with | _ => none }
noncomputable def spec_l01Integerc : Code := bodyOf Go.Proofs.Try.f78
noncomputable def spec_l01IntegerF (n : Nat) : Fun := { id := 78, sp := spec_l01Integersp, bs := spec_l01Integerbs, rs := spec_l01Integerrs, f := fun x y => spec_l01Integer n x.1 }

theorem spec_l01Integer_eq (n : Nat) (a0 : Int) : runBody ([spec_l00InF n]) ty 8 n spec_l01Integerkp spec_l01Integerc Go.Proofs.Try.f78.results.toList spec_l01Integerrs spec_l01Integersp spec_l01Integerbs (a0, ()) () = spec_l01Integer n a0 := by
  have h : runBody ([spec_l00InF n]) ty 8 n spec_l01Integerkp spec_l01Integerc Go.Proofs.Try.f78.results.toList spec_l01Integerrs spec_l01Integersp spec_l01Integerbs (a0, ()) () = spec_l01Integer_t n a0 := by kernel_rfl
  rw [h]
  rfl

theorem spec_l01Integer_ok (n : Nat) : FunOk P (spec_l01IntegerF n) :=
  funOk_mk (C := [spec_l00InF n]) (N := 8) (kp := spec_l01Integerkp) (c := spec_l01Integerc) (n := n) (G := fun x y => spec_l01Integer n x.1) follows (AllOk.mem (⟨spec_l00In_ok n, trivial⟩ : AllOk P ([spec_l00InF n]))) (by kernel_rfl : P.funcs[78]? = some Go.Proofs.Try.f78) (by kernel_rfl) (by kernel_rfl) (by kernel_rfl)
    (fun x y => spec_l01Integer_eq n x.1) (fun _ _ => map_same (fun _ => rfl) _) (fun _ _ _ _ => rfl)

abbrev spec_l02Readsp : List Sp := [.ref 0, .ref 1, .v true (.pair (.int .i64) (.int .i64))]
abbrev spec_l02Readbs : List (Bs × Bool) := [(.var 46 (.pair (.pair (.int .i64) (.int .i64)) (.list (.pair (.int .i64) (.int .i64)))), true), (.var 48 (.pair (.int .i64) .bool), true)]
abbrev spec_l02Readrs : List (Bool × List Rp) := [(true, [.v false (.pair (.int .i64) (.int .i64))]), (false, [.v false (.int .i64)])]
noncomputable def spec_l02Readkp : Keep := { loop := fun id => match id with | _ => [], join := fun id => match id with | _ => none }
noncomputable def spec_l02Readc : Code := bodyOf Go.Proofs.Try.f39
noncomputable def spec_l02ReadF (n : Nat) : Fun := { id := 39, sp := spec_l02Readsp, bs := spec_l02Readbs, rs := spec_l02Readrs, f := fun x y => spec_l02Read n x.2.2.1 y.1 y.2.1 }

theorem spec_l02Read_eq (n : Nat) (a2 : (Int) × (Int)) (b0 : ((Int) × (Int)) × (List ((Int) × (Int)))) (b1 : (Int) × (Bool)) : runBody ([spec_l02FitsF n, spec_l01WholeF n, spec_l01DivF n, spec_l01MulF n, spec_l01SubF n, spec_l01NearF n, spec_l01IntegerF n, spec_l01AddF n]) ty 112 n spec_l02Readkp spec_l02Readc Go.Proofs.Try.f39.results.toList spec_l02Readrs spec_l02Readsp spec_l02Readbs ((), ((), (a2, ()))) (b0, (b1, ())) = spec_l02Read n a2 b0 b1 := by
  have h : runBody ([spec_l02FitsF n, spec_l01WholeF n, spec_l01DivF n, spec_l01MulF n, spec_l01SubF n, spec_l01NearF n, spec_l01IntegerF n, spec_l01AddF n]) ty 112 n spec_l02Readkp spec_l02Readc Go.Proofs.Try.f39.results.toList spec_l02Readrs spec_l02Readsp spec_l02Readbs ((), ((), (a2, ()))) (b0, (b1, ())) = spec_l02Read_t n a2 b0 b1 := by kernel_rfl
  rw [h]
  rfl

theorem spec_l02Read_ok (n : Nat) : FunOk P (spec_l02ReadF n) :=
  funOk_mk (C := [spec_l02FitsF n, spec_l01WholeF n, spec_l01DivF n, spec_l01MulF n, spec_l01SubF n, spec_l01NearF n, spec_l01IntegerF n, spec_l01AddF n]) (N := 112) (kp := spec_l02Readkp) (c := spec_l02Readc) (n := n) (G := fun x y => spec_l02Read n x.2.2.1 y.1 y.2.1) follows (AllOk.mem (⟨spec_l02Fits_ok n, ⟨spec_l01Whole_ok n, ⟨spec_l01Div_ok n, ⟨spec_l01Mul_ok n, ⟨spec_l01Sub_ok n, ⟨spec_l01Near_ok n, ⟨spec_l01Integer_ok n, ⟨spec_l01Add_ok n, trivial⟩⟩⟩⟩⟩⟩⟩⟩ : AllOk P ([spec_l02FitsF n, spec_l01WholeF n, spec_l01DivF n, spec_l01MulF n, spec_l01SubF n, spec_l01NearF n, spec_l01IntegerF n, spec_l01AddF n]))) (by kernel_rfl : P.funcs[39]? = some Go.Proofs.Try.f39) (by kernel_rfl) (by kernel_rfl) (by kernel_rfl)
    (fun x y => spec_l02Read_eq n x.2.2.1 y.1 y.2.1) (fun _ _ => map_same (fun _ => rfl) _) (fun _ _ _ _ => rfl)

abbrev spec_ReadVerniersp : List Sp := [.v true (.pair (.pair (.int .i64) (.int .i64)) (.list (.pair (.int .i64) (.int .i64)))), .v true (.pair (.int .i64) .bool), .v true (.pair (.int .i64) (.int .i64))]
abbrev spec_ReadVernierbs : List (Bs × Bool) := []
abbrev spec_ReadVernierrs : List (Bool × List Rp) := [(true, [.v false (.pair (.int .i64) (.int .i64))]), (false, [.v false (.int .i64)])]
noncomputable def spec_ReadVernierkp : Keep := { loop := fun id => match id with | _ => [], join := fun id => match id with | _ => none }
noncomputable def spec_ReadVernierc : Code := bodyOf Go.Proofs.Try.f13
noncomputable def spec_ReadVernierF (n : Nat) : Fun := { id := 13, sp := spec_ReadVerniersp, bs := spec_ReadVernierbs, rs := spec_ReadVernierrs, f := fun x y => spec_ReadVernier n x.1 x.2.1 x.2.2.1 }

theorem spec_ReadVernier_eq (n : Nat) (a0 : ((Int) × (Int)) × (List ((Int) × (Int)))) (a1 : (Int) × (Bool)) (a2 : (Int) × (Int)) : runBody ([spec_l02AskedF n, spec_l02ReadF n]) ty 19 n spec_ReadVernierkp spec_ReadVernierc Go.Proofs.Try.f13.results.toList spec_ReadVernierrs spec_ReadVerniersp spec_ReadVernierbs (a0, (a1, (a2, ()))) () = spec_ReadVernier n a0 a1 a2 := by
  have h : runBody ([spec_l02AskedF n, spec_l02ReadF n]) ty 19 n spec_ReadVernierkp spec_ReadVernierc Go.Proofs.Try.f13.results.toList spec_ReadVernierrs spec_ReadVerniersp spec_ReadVernierbs (a0, (a1, (a2, ()))) () = spec_ReadVernier_t n a0 a1 a2 := by kernel_rfl
  rw [h]
  rfl

theorem spec_ReadVernier_ok (n : Nat) : FunOk P (spec_ReadVernierF n) :=
  funOk_mk (C := [spec_l02AskedF n, spec_l02ReadF n]) (N := 19) (kp := spec_ReadVernierkp) (c := spec_ReadVernierc) (n := n) (G := fun x y => spec_ReadVernier n x.1 x.2.1 x.2.2.1) follows (AllOk.mem (⟨spec_l02Asked_ok n, ⟨spec_l02Read_ok n, trivial⟩⟩ : AllOk P ([spec_l02AskedF n, spec_l02ReadF n]))) (by kernel_rfl : P.funcs[13]? = some Go.Proofs.Try.f13) (by kernel_rfl) (by kernel_rfl) (by kernel_rfl)
    (fun x y => spec_ReadVernier_eq n x.1 x.2.1 x.2.2.1) (fun _ _ => map_same (fun _ => rfl) _) (fun _ _ _ _ => rfl)

abbrev impl_withinsp : List Sp := [.v false (.int .i64), .v false (.int .i64), .v false (.int .i64)]
abbrev impl_withinbs : List (Bs × Bool) := []
abbrev impl_withinrs : List (Bool × List Rp) := [(false, [.v false .bool])]
noncomputable def impl_withinkp : Keep := { loop := fun id => match id with | _ => [], join := fun id => match id with | _ => none }
noncomputable def impl_withinc : Code := bodyOf Go.Proofs.Try.f85
noncomputable def impl_withinF (n : Nat) : Fun := { id := 85, sp := impl_withinsp, bs := impl_withinbs, rs := impl_withinrs, f := fun x y => impl_within n x.1 x.2.1 x.2.2.1 }

theorem impl_within_eq (n : Nat) (a0 : Int) (a1 : Int) (a2 : Int) : runBody ([]) ty 15 n impl_withinkp impl_withinc Go.Proofs.Try.f85.results.toList impl_withinrs impl_withinsp impl_withinbs (a0, (a1, (a2, ()))) () = impl_within n a0 a1 a2 := by
  have h : runBody ([]) ty 15 n impl_withinkp impl_withinc Go.Proofs.Try.f85.results.toList impl_withinrs impl_withinsp impl_withinbs (a0, (a1, (a2, ()))) () = impl_within_t n a0 a1 a2 := by kernel_rfl
  rw [h]
  rfl

theorem impl_within_ok (n : Nat) : FunOk P (impl_withinF n) :=
  funOk_mk (C := []) (N := 15) (kp := impl_withinkp) (c := impl_withinc) (n := n) (G := fun x y => impl_within n x.1 x.2.1 x.2.2.1) follows (AllOk.mem (trivial : AllOk P ([]))) (by kernel_rfl : P.funcs[85]? = some Go.Proofs.Try.f85) (by kernel_rfl) (by kernel_rfl) (by kernel_rfl)
    (fun x y => impl_within_eq n x.1 x.2.1 x.2.2.1) (fun _ _ => map_same (fun _ => rfl) _) (fun _ _ _ _ => rfl)

abbrev impl_gcdsp : List Sp := [.v false (.int .i64), .v false (.int .i64)]
abbrev impl_gcdbs : List (Bs × Bool) := []
abbrev impl_gcdrs : List (Bool × List Rp) := [(false, [.v false (.int .i64)])]
noncomputable def impl_gcdkp : Keep := { loop := fun id => match id with | 1 => [1, 0] | _ => [], join := fun id => match id with | _ => none }
noncomputable def impl_gcdc : Code := bodyOf Go.Proofs.Try.f116
noncomputable def impl_gcdF (n : Nat) : Fun := { id := 116, sp := impl_gcdsp, bs := impl_gcdbs, rs := impl_gcdrs, f := fun x y => impl_gcd n x.1 x.2.1 }

theorem impl_gcd_l1_eq (n : Nat) : ∀ (k : Nat) (v1 : Int) (v0 : Int), iter (interp ([]) ty 15 0 n impl_gcdkp (codeAt impl_gcdc [1, 0, 0, 0])) (canon 0 (impl_gcdkp.loop 1)) (kAt ([]) ty 15 0 n impl_gcdkp impl_gcdc [1, 0, 0] [] (ending ty 0 Go.Proofs.Try.f116.results.toList impl_gcdrs impl_gcdbs)) k { env := [(1, .one (.sc (.int .i64 v1))), (0, .one (.sc (.int .i64 v0)))], bx := [], nx := 0 } = impl_gcd_l1 n k v1 v0
  | 0, _, _ => by kernel_rfl
  | k + 1, v1, v0 => by
    have h : iter (interp ([]) ty 15 0 n impl_gcdkp (codeAt impl_gcdc [1, 0, 0, 0])) (canon 0 (impl_gcdkp.loop 1)) (kAt ([]) ty 15 0 n impl_gcdkp impl_gcdc [1, 0, 0] [] (ending ty 0 Go.Proofs.Try.f116.results.toList impl_gcdrs impl_gcdbs)) (k + 1) { env := [(1, .one (.sc (.int .i64 v1))), (0, .one (.sc (.int .i64 v0)))], bx := [], nx := 0 } = impl_gcd_t1 n (fun v1 v0 => iter (interp ([]) ty 15 0 n impl_gcdkp (codeAt impl_gcdc [1, 0, 0, 0])) (canon 0 (impl_gcdkp.loop 1)) (kAt ([]) ty 15 0 n impl_gcdkp impl_gcdc [1, 0, 0] [] (ending ty 0 Go.Proofs.Try.f116.results.toList impl_gcdrs impl_gcdbs)) k { env := [(1, .one (.sc (.int .i64 v1))), (0, .one (.sc (.int .i64 v0)))], bx := [], nx := 0 }) v1 v0 := by kernel_rfl
    rw [h]
    have e := congrArg (fun g => impl_gcd_t1 n g v1 v0) (funext fun v1 => funext fun v0 => impl_gcd_l1_eq n k v1 v0)
    exact e

theorem impl_gcd_eq (n : Nat) (a0 : Int) (a1 : Int) : runBody ([]) ty 15 n impl_gcdkp impl_gcdc Go.Proofs.Try.f116.results.toList impl_gcdrs impl_gcdsp impl_gcdbs (a0, (a1, ())) () = impl_gcd n a0 a1 := by
  have h : runBody ([]) ty 15 n impl_gcdkp impl_gcdc Go.Proofs.Try.f116.results.toList impl_gcdrs impl_gcdsp impl_gcdbs (a0, (a1, ())) () = impl_gcd_t n (fun k v1 v0 => iter (interp ([]) ty 15 0 n impl_gcdkp (codeAt impl_gcdc [1, 0, 0, 0])) (canon 0 (impl_gcdkp.loop 1)) (kAt ([]) ty 15 0 n impl_gcdkp impl_gcdc [1, 0, 0] [] (ending ty 0 Go.Proofs.Try.f116.results.toList impl_gcdrs impl_gcdbs)) k { env := [(1, .one (.sc (.int .i64 v1))), (0, .one (.sc (.int .i64 v0)))], bx := [], nx := 0 }) a0 a1 := by kernel_rfl
  rw [h]
  have e := congrArg (fun h1 => impl_gcd_t n h1 a0 a1) (funext fun k => funext fun v1 => funext fun v0 => impl_gcd_l1_eq n k v1 v0)
  exact e

theorem impl_gcd_ok (n : Nat) : FunOk P (impl_gcdF n) :=
  funOk_mk (C := []) (N := 15) (kp := impl_gcdkp) (c := impl_gcdc) (n := n) (G := fun x y => impl_gcd n x.1 x.2.1) follows (AllOk.mem (trivial : AllOk P ([]))) (by kernel_rfl : P.funcs[116]? = some Go.Proofs.Try.f116) (by kernel_rfl) (by kernel_rfl) (by kernel_rfl)
    (fun x y => impl_gcd_eq n x.1 x.2.1) (fun _ _ => map_same (fun _ => rfl) _) (fun _ _ _ _ => rfl)

abbrev impl_ValidFracsp : List Sp := [.v true (.pair (.int .i64) (.int .i64))]
abbrev impl_ValidFracbs : List (Bs × Bool) := []
abbrev impl_ValidFracrs : List (Bool × List Rp) := [(false, [.v false .bool])]
noncomputable def impl_ValidFrackp : Keep := { loop := fun id => match id with | _ => [], join := fun id => match id with | _ => none }
noncomputable def impl_ValidFracc : Code := bodyOf Go.Proofs.Try.f108
noncomputable def impl_ValidFracF (n : Nat) : Fun := { id := 108, sp := impl_ValidFracsp, bs := impl_ValidFracbs, rs := impl_ValidFracrs, f := fun x y => impl_ValidFrac n x.1 }

theorem impl_ValidFrac_eq (n : Nat) (a0 : (Int) × (Int)) : runBody ([impl_withinF n, impl_gcdF n]) ty 19 n impl_ValidFrackp impl_ValidFracc Go.Proofs.Try.f108.results.toList impl_ValidFracrs impl_ValidFracsp impl_ValidFracbs (a0, ()) () = impl_ValidFrac n a0 := by
  have h : runBody ([impl_withinF n, impl_gcdF n]) ty 19 n impl_ValidFrackp impl_ValidFracc Go.Proofs.Try.f108.results.toList impl_ValidFracrs impl_ValidFracsp impl_ValidFracbs (a0, ()) () = impl_ValidFrac_t n a0 := by kernel_rfl
  rw [h]
  rfl

theorem impl_ValidFrac_ok (n : Nat) : FunOk P (impl_ValidFracF n) :=
  funOk_mk (C := [impl_withinF n, impl_gcdF n]) (N := 19) (kp := impl_ValidFrackp) (c := impl_ValidFracc) (n := n) (G := fun x y => impl_ValidFrac n x.1) follows (AllOk.mem (⟨impl_within_ok n, ⟨impl_gcd_ok n, trivial⟩⟩ : AllOk P ([impl_withinF n, impl_gcdF n]))) (by kernel_rfl : P.funcs[108]? = some Go.Proofs.Try.f108) (by kernel_rfl) (by kernel_rfl) (by kernel_rfl)
    (fun x y => impl_ValidFrac_eq n x.1) (fun _ _ => map_same (fun _ => rfl) _) (fun _ _ _ _ => rfl)

abbrev impl_numsp : List Sp := [.v false (.int .i64)]
abbrev impl_numbs : List (Bs × Bool) := []
abbrev impl_numrs : List (Bool × List Rp) := [(true, [.v false (.pair (.int .i64) (.int .i64))])]
noncomputable def impl_numkp : Keep := { loop := fun id => match id with | _ => [], join := fun id => match id with | _ => none }
noncomputable def impl_numc : Code := bodyOf Go.Proofs.Try.f44
noncomputable def impl_numF (n : Nat) : Fun := { id := 44, sp := impl_numsp, bs := impl_numbs, rs := impl_numrs, f := fun x y => impl_num n x.1 }

theorem impl_num_eq (n : Nat) (a0 : Int) : runBody ([]) ty 5 n impl_numkp impl_numc Go.Proofs.Try.f44.results.toList impl_numrs impl_numsp impl_numbs (a0, ()) () = impl_num n a0 := by
  have h : runBody ([]) ty 5 n impl_numkp impl_numc Go.Proofs.Try.f44.results.toList impl_numrs impl_numsp impl_numbs (a0, ()) () = impl_num_t n a0 := by kernel_rfl
  rw [h]
  rfl

theorem impl_num_ok (n : Nat) : FunOk P (impl_numF n) :=
  funOk_mk (C := []) (N := 5) (kp := impl_numkp) (c := impl_numc) (n := n) (G := fun x y => impl_num n x.1) follows (AllOk.mem (trivial : AllOk P ([]))) (by kernel_rfl : P.funcs[44]? = some Go.Proofs.Try.f44) (by kernel_rfl) (by kernel_rfl) (by kernel_rfl)
    (fun x y => impl_num_eq n x.1) (fun _ _ => map_same (fun _ => rfl) _) (fun _ _ _ _ => rfl)

abbrev impl_comparesp : List Sp := [.v true (.pair (.int .i64) (.int .i64)), .v true (.pair (.int .i64) (.int .i64))]
abbrev impl_comparebs : List (Bs × Bool) := []
abbrev impl_comparers : List (Bool × List Rp) := [(false, [.v false (.int .i64)])]
noncomputable def impl_comparekp : Keep := { loop := fun id => match id with | _ => [], join := fun id => match id with | _ => none }
noncomputable def impl_comparec : Code := bodyOf Go.Proofs.Try.f35
noncomputable def impl_compareF (n : Nat) : Fun := { id := 35, sp := impl_comparesp, bs := impl_comparebs, rs := impl_comparers, f := fun x y => impl_compare n x.1 x.2.1 }

theorem impl_compare_eq (n : Nat) (a0 : (Int) × (Int)) (a1 : (Int) × (Int)) : runBody ([]) ty 25 n impl_comparekp impl_comparec Go.Proofs.Try.f35.results.toList impl_comparers impl_comparesp impl_comparebs (a0, (a1, ())) () = impl_compare n a0 a1 := by
  have h : runBody ([]) ty 25 n impl_comparekp impl_comparec Go.Proofs.Try.f35.results.toList impl_comparers impl_comparesp impl_comparebs (a0, (a1, ())) () = impl_compare_t n a0 a1 := by kernel_rfl
  rw [h]
  rfl

theorem impl_compare_ok (n : Nat) : FunOk P (impl_compareF n) :=
  funOk_mk (C := []) (N := 25) (kp := impl_comparekp) (c := impl_comparec) (n := n) (G := fun x y => impl_compare n x.1 x.2.1) follows (AllOk.mem (trivial : AllOk P ([]))) (by kernel_rfl : P.funcs[35]? = some Go.Proofs.Try.f35) (by kernel_rfl) (by kernel_rfl) (by kernel_rfl)
    (fun x y => impl_compare_eq n x.1 x.2.1) (fun _ _ => map_same (fun _ => rfl) _) (fun _ _ _ _ => rfl)

abbrev impl_isUnitsp : List Sp := [.v true (.pair (.int .i64) (.int .i64))]
abbrev impl_isUnitbs : List (Bs × Bool) := []
abbrev impl_isUnitrs : List (Bool × List Rp) := [(false, [.v false .bool])]
noncomputable def impl_isUnitkp : Keep := { loop := fun id => match id with | _ => [], join := fun id => match id with | _ => none }
noncomputable def impl_isUnitc : Code := bodyOf Go.Proofs.Try.f118
noncomputable def impl_isUnitF (n : Nat) : Fun := { id := 118, sp := impl_isUnitsp, bs := impl_isUnitbs, rs := impl_isUnitrs, f := fun x y => impl_isUnit n x.1 }

theorem impl_isUnit_eq (n : Nat) (a0 : (Int) × (Int)) : runBody ([impl_numF n, impl_compareF n]) ty 12 n impl_isUnitkp impl_isUnitc Go.Proofs.Try.f118.results.toList impl_isUnitrs impl_isUnitsp impl_isUnitbs (a0, ()) () = impl_isUnit n a0 := by
  have h : runBody ([impl_numF n, impl_compareF n]) ty 12 n impl_isUnitkp impl_isUnitc Go.Proofs.Try.f118.results.toList impl_isUnitrs impl_isUnitsp impl_isUnitbs (a0, ()) () = impl_isUnit_t n a0 := by kernel_rfl
  rw [h]
  rfl

theorem impl_isUnit_ok (n : Nat) : FunOk P (impl_isUnitF n) :=
  funOk_mk (C := [impl_numF n, impl_compareF n]) (N := 12) (kp := impl_isUnitkp) (c := impl_isUnitc) (n := n) (G := fun x y => impl_isUnit n x.1) follows (AllOk.mem (⟨impl_num_ok n, ⟨impl_compare_ok n, trivial⟩⟩ : AllOk P ([impl_numF n, impl_compareF n]))) (by kernel_rfl : P.funcs[118]? = some Go.Proofs.Try.f118) (by kernel_rfl) (by kernel_rfl) (by kernel_rfl)
    (fun x y => impl_isUnit_eq n x.1) (fun _ _ => map_same (fun _ => rfl) _) (fun _ _ _ _ => rfl)

abbrev impl_areValid_1sp : List Sp := [.v true (.pair (.int .i64) (.int .i64))]
abbrev impl_areValid_1bs : List (Bs × Bool) := []
abbrev impl_areValid_1rs : List (Bool × List Rp) := [(false, [.v false .bool])]
noncomputable def impl_areValid_1kp : Keep := { loop := fun id => match id with | _ => [], join := fun id => match id with | _ => none }
noncomputable def impl_areValid_1c : Code := bodyOf Go.Proofs.Try.f123
noncomputable def impl_areValid_1F (n : Nat) : Fun := { id := 123, sp := impl_areValid_1sp, bs := impl_areValid_1bs, rs := impl_areValid_1rs, f := fun x y => impl_areValid_1 n x.1 }

theorem impl_areValid_1_eq (n : Nat) (a0 : (Int) × (Int)) : runBody ([impl_ValidFracF n]) ty 6 n impl_areValid_1kp impl_areValid_1c Go.Proofs.Try.f123.results.toList impl_areValid_1rs impl_areValid_1sp impl_areValid_1bs (a0, ()) () = impl_areValid_1 n a0 := by
  have h : runBody ([impl_ValidFracF n]) ty 6 n impl_areValid_1kp impl_areValid_1c Go.Proofs.Try.f123.results.toList impl_areValid_1rs impl_areValid_1sp impl_areValid_1bs (a0, ()) () = impl_areValid_1_t n a0 := by kernel_rfl
  rw [h]
  rfl

theorem impl_areValid_1_ok (n : Nat) : FunOk P (impl_areValid_1F n) :=
  funOk_mk (C := [impl_ValidFracF n]) (N := 6) (kp := impl_areValid_1kp) (c := impl_areValid_1c) (n := n) (G := fun x y => impl_areValid_1 n x.1) follows (AllOk.mem (⟨impl_ValidFrac_ok n, trivial⟩ : AllOk P ([impl_ValidFracF n]))) (by kernel_rfl : P.funcs[123]? = some Go.Proofs.Try.f123) (by kernel_rfl) (by kernel_rfl) (by kernel_rfl)
    (fun x y => impl_areValid_1_eq n x.1) (fun _ _ => map_same (fun _ => rfl) _) (fun _ _ _ _ => rfl)

abbrev slices_IndexFunc_impl_Frac_impl_Frac_at_impl_areValid_1sp : List Sp := [.v false (.list (.pair (.int .i64) (.int .i64))), .cl 123 []]
abbrev slices_IndexFunc_impl_Frac_impl_Frac_at_impl_areValid_1bs : List (Bs × Bool) := []
abbrev slices_IndexFunc_impl_Frac_impl_Frac_at_impl_areValid_1rs : List (Bool × List Rp) := [(false, [.v false (.int .i64)])]
noncomputable def slices_IndexFunc_impl_Frac_impl_Frac_at_impl_areValid_1kp : Keep := { loop := fun id => match id with | 2 => [8, 0, 1, 7] | _ => [], join := fun id => match id with | _ => none }
noncomputable def slices_IndexFunc_impl_Frac_impl_Frac_at_impl_areValid_1c : Code := bodyOf Go.Proofs.Try.f124
noncomputable def slices_IndexFunc_impl_Frac_impl_Frac_at_impl_areValid_1F (n : Nat) : Fun := { id := 124, sp := slices_IndexFunc_impl_Frac_impl_Frac_at_impl_areValid_1sp, bs := slices_IndexFunc_impl_Frac_impl_Frac_at_impl_areValid_1bs, rs := slices_IndexFunc_impl_Frac_impl_Frac_at_impl_areValid_1rs, f := fun x y => slices_IndexFunc_impl_Frac_impl_Frac_at_impl_areValid_1 n x.1 }

theorem slices_IndexFunc_impl_Frac_impl_Frac_at_impl_areValid_1_l2_eq (n : Nat) : ∀ (k : Nat) (v8 : Int) (v0 : List ((Int) × (Int))) (v7 : Int), iter (interp ([impl_areValid_1F n]) ty 19 0 n slices_IndexFunc_impl_Frac_impl_Frac_at_impl_areValid_1kp (codeAt slices_IndexFunc_impl_Frac_impl_Frac_at_impl_areValid_1c [1, 0, 1, 0, 0])) (canon 0 (slices_IndexFunc_impl_Frac_impl_Frac_at_impl_areValid_1kp.loop 2)) (kAt ([impl_areValid_1F n]) ty 19 0 n slices_IndexFunc_impl_Frac_impl_Frac_at_impl_areValid_1kp slices_IndexFunc_impl_Frac_impl_Frac_at_impl_areValid_1c [1, 0, 1, 0] [] (ending ty 0 Go.Proofs.Try.f124.results.toList slices_IndexFunc_impl_Frac_impl_Frac_at_impl_areValid_1rs slices_IndexFunc_impl_Frac_impl_Frac_at_impl_areValid_1bs)) k { env := [(8, .one (.sc (.int .i64 v8))), (0, .one (.list true (.pair (.int .i64) (.int .i64)) v0)), (1, .one (.clos 123 [])), (7, .one (.sc (.int .i64 v7)))], bx := [], nx := 0 } = slices_IndexFunc_impl_Frac_impl_Frac_at_impl_areValid_1_l2 n k v8 v0 v7
  | 0, _, _, _ => by kernel_rfl
  | k + 1, v8, v0, v7 => by
    have h : iter (interp ([impl_areValid_1F n]) ty 19 0 n slices_IndexFunc_impl_Frac_impl_Frac_at_impl_areValid_1kp (codeAt slices_IndexFunc_impl_Frac_impl_Frac_at_impl_areValid_1c [1, 0, 1, 0, 0])) (canon 0 (slices_IndexFunc_impl_Frac_impl_Frac_at_impl_areValid_1kp.loop 2)) (kAt ([impl_areValid_1F n]) ty 19 0 n slices_IndexFunc_impl_Frac_impl_Frac_at_impl_areValid_1kp slices_IndexFunc_impl_Frac_impl_Frac_at_impl_areValid_1c [1, 0, 1, 0] [] (ending ty 0 Go.Proofs.Try.f124.results.toList slices_IndexFunc_impl_Frac_impl_Frac_at_impl_areValid_1rs slices_IndexFunc_impl_Frac_impl_Frac_at_impl_areValid_1bs)) (k + 1) { env := [(8, .one (.sc (.int .i64 v8))), (0, .one (.list true (.pair (.int .i64) (.int .i64)) v0)), (1, .one (.clos 123 [])), (7, .one (.sc (.int .i64 v7)))], bx := [], nx := 0 } = slices_IndexFunc_impl_Frac_impl_Frac_at_impl_areValid_1_t2 n (fun v8 v0 v7 => iter (interp ([impl_areValid_1F n]) ty 19 0 n slices_IndexFunc_impl_Frac_impl_Frac_at_impl_areValid_1kp (codeAt slices_IndexFunc_impl_Frac_impl_Frac_at_impl_areValid_1c [1, 0, 1, 0, 0])) (canon 0 (slices_IndexFunc_impl_Frac_impl_Frac_at_impl_areValid_1kp.loop 2)) (kAt ([impl_areValid_1F n]) ty 19 0 n slices_IndexFunc_impl_Frac_impl_Frac_at_impl_areValid_1kp slices_IndexFunc_impl_Frac_impl_Frac_at_impl_areValid_1c [1, 0, 1, 0] [] (ending ty 0 Go.Proofs.Try.f124.results.toList slices_IndexFunc_impl_Frac_impl_Frac_at_impl_areValid_1rs slices_IndexFunc_impl_Frac_impl_Frac_at_impl_areValid_1bs)) k { env := [(8, .one (.sc (.int .i64 v8))), (0, .one (.list true (.pair (.int .i64) (.int .i64)) v0)), (1, .one (.clos 123 [])), (7, .one (.sc (.int .i64 v7)))], bx := [], nx := 0 }) v8 v0 v7 := by kernel_rfl
    rw [h]
    have e := congrArg (fun g => slices_IndexFunc_impl_Frac_impl_Frac_at_impl_areValid_1_t2 n g v8 v0 v7) (funext fun v8 => funext fun v0 => funext fun v7 => slices_IndexFunc_impl_Frac_impl_Frac_at_impl_areValid_1_l2_eq n k v8 v0 v7)
    exact e

theorem slices_IndexFunc_impl_Frac_impl_Frac_at_impl_areValid_1_eq (n : Nat) (a0 : List ((Int) × (Int))) : runBody ([impl_areValid_1F n]) ty 19 n slices_IndexFunc_impl_Frac_impl_Frac_at_impl_areValid_1kp slices_IndexFunc_impl_Frac_impl_Frac_at_impl_areValid_1c Go.Proofs.Try.f124.results.toList slices_IndexFunc_impl_Frac_impl_Frac_at_impl_areValid_1rs slices_IndexFunc_impl_Frac_impl_Frac_at_impl_areValid_1sp slices_IndexFunc_impl_Frac_impl_Frac_at_impl_areValid_1bs (a0, ((), ())) () = slices_IndexFunc_impl_Frac_impl_Frac_at_impl_areValid_1 n a0 := by
  have h : runBody ([impl_areValid_1F n]) ty 19 n slices_IndexFunc_impl_Frac_impl_Frac_at_impl_areValid_1kp slices_IndexFunc_impl_Frac_impl_Frac_at_impl_areValid_1c Go.Proofs.Try.f124.results.toList slices_IndexFunc_impl_Frac_impl_Frac_at_impl_areValid_1rs slices_IndexFunc_impl_Frac_impl_Frac_at_impl_areValid_1sp slices_IndexFunc_impl_Frac_impl_Frac_at_impl_areValid_1bs (a0, ((), ())) () = slices_IndexFunc_impl_Frac_impl_Frac_at_impl_areValid_1_t n (fun k v8 v0 v7 => iter (interp ([impl_areValid_1F n]) ty 19 0 n slices_IndexFunc_impl_Frac_impl_Frac_at_impl_areValid_1kp (codeAt slices_IndexFunc_impl_Frac_impl_Frac_at_impl_areValid_1c [1, 0, 1, 0, 0])) (canon 0 (slices_IndexFunc_impl_Frac_impl_Frac_at_impl_areValid_1kp.loop 2)) (kAt ([impl_areValid_1F n]) ty 19 0 n slices_IndexFunc_impl_Frac_impl_Frac_at_impl_areValid_1kp slices_IndexFunc_impl_Frac_impl_Frac_at_impl_areValid_1c [1, 0, 1, 0] [] (ending ty 0 Go.Proofs.Try.f124.results.toList slices_IndexFunc_impl_Frac_impl_Frac_at_impl_areValid_1rs slices_IndexFunc_impl_Frac_impl_Frac_at_impl_areValid_1bs)) k { env := [(8, .one (.sc (.int .i64 v8))), (0, .one (.list true (.pair (.int .i64) (.int .i64)) v0)), (1, .one (.clos 123 [])), (7, .one (.sc (.int .i64 v7)))], bx := [], nx := 0 }) a0 := by kernel_rfl
  rw [h]
  have e := congrArg (fun h2 => slices_IndexFunc_impl_Frac_impl_Frac_at_impl_areValid_1_t n h2 a0) (funext fun k => funext fun v8 => funext fun v0 => funext fun v7 => slices_IndexFunc_impl_Frac_impl_Frac_at_impl_areValid_1_l2_eq n k v8 v0 v7)
  exact e

theorem slices_IndexFunc_impl_Frac_impl_Frac_at_impl_areValid_1_ok (n : Nat) : FunOk P (slices_IndexFunc_impl_Frac_impl_Frac_at_impl_areValid_1F n) :=
  funOk_mk (C := [impl_areValid_1F n]) (N := 19) (kp := slices_IndexFunc_impl_Frac_impl_Frac_at_impl_areValid_1kp) (c := slices_IndexFunc_impl_Frac_impl_Frac_at_impl_areValid_1c) (n := n) (G := fun x y => slices_IndexFunc_impl_Frac_impl_Frac_at_impl_areValid_1 n x.1) follows (AllOk.mem (⟨impl_areValid_1_ok n, trivial⟩ : AllOk P ([impl_areValid_1F n]))) (by kernel_rfl : P.funcs[124]? = some Go.Proofs.Try.f124) (by kernel_rfl) (by kernel_rfl) (by kernel_rfl)
    (fun x y => slices_IndexFunc_impl_Frac_impl_Frac_at_impl_areValid_1_eq n x.1) (fun _ _ => map_same (fun _ => rfl) _) (fun _ _ _ _ => rfl)

abbrev slices_ContainsFunc_impl_Frac_impl_Frac_at_impl_areValid_1sp : List Sp := [.v false (.list (.pair (.int .i64) (.int .i64))), .cl 123 []]
abbrev slices_ContainsFunc_impl_Frac_impl_Frac_at_impl_areValid_1bs : List (Bs × Bool) := []
abbrev slices_ContainsFunc_impl_Frac_impl_Frac_at_impl_areValid_1rs : List (Bool × List Rp) := [(false, [.v false .bool])]
noncomputable def slices_ContainsFunc_impl_Frac_impl_Frac_at_impl_areValid_1kp : Keep := { loop := fun id => match id with | _ => [], join := fun id => match id with | _ => none }
noncomputable def slices_ContainsFunc_impl_Frac_impl_Frac_at_impl_areValid_1c : Code := bodyOf Go.Proofs.Try.f122
noncomputable def slices_ContainsFunc_impl_Frac_impl_Frac_at_impl_areValid_1F (n : Nat) : Fun := { id := 122, sp := slices_ContainsFunc_impl_Frac_impl_Frac_at_impl_areValid_1sp, bs := slices_ContainsFunc_impl_Frac_impl_Frac_at_impl_areValid_1bs, rs := slices_ContainsFunc_impl_Frac_impl_Frac_at_impl_areValid_1rs, f := fun x y => slices_ContainsFunc_impl_Frac_impl_Frac_at_impl_areValid_1 n x.1 }

theorem slices_ContainsFunc_impl_Frac_impl_Frac_at_impl_areValid_1_eq (n : Nat) (a0 : List ((Int) × (Int))) : runBody ([slices_IndexFunc_impl_Frac_impl_Frac_at_impl_areValid_1F n]) ty 9 n slices_ContainsFunc_impl_Frac_impl_Frac_at_impl_areValid_1kp slices_ContainsFunc_impl_Frac_impl_Frac_at_impl_areValid_1c Go.Proofs.Try.f122.results.toList slices_ContainsFunc_impl_Frac_impl_Frac_at_impl_areValid_1rs slices_ContainsFunc_impl_Frac_impl_Frac_at_impl_areValid_1sp slices_ContainsFunc_impl_Frac_impl_Frac_at_impl_areValid_1bs (a0, ((), ())) () = slices_ContainsFunc_impl_Frac_impl_Frac_at_impl_areValid_1 n a0 := by
  have h : runBody ([slices_IndexFunc_impl_Frac_impl_Frac_at_impl_areValid_1F n]) ty 9 n slices_ContainsFunc_impl_Frac_impl_Frac_at_impl_areValid_1kp slices_ContainsFunc_impl_Frac_impl_Frac_at_impl_areValid_1c Go.Proofs.Try.f122.results.toList slices_ContainsFunc_impl_Frac_impl_Frac_at_impl_areValid_1rs slices_ContainsFunc_impl_Frac_impl_Frac_at_impl_areValid_1sp slices_ContainsFunc_impl_Frac_impl_Frac_at_impl_areValid_1bs (a0, ((), ())) () = slices_ContainsFunc_impl_Frac_impl_Frac_at_impl_areValid_1_t n a0 := by kernel_rfl
  rw [h]
  rfl

theorem slices_ContainsFunc_impl_Frac_impl_Frac_at_impl_areValid_1_ok (n : Nat) : FunOk P (slices_ContainsFunc_impl_Frac_impl_Frac_at_impl_areValid_1F n) :=
  funOk_mk (C := [slices_IndexFunc_impl_Frac_impl_Frac_at_impl_areValid_1F n]) (N := 9) (kp := slices_ContainsFunc_impl_Frac_impl_Frac_at_impl_areValid_1kp) (c := slices_ContainsFunc_impl_Frac_impl_Frac_at_impl_areValid_1c) (n := n) (G := fun x y => slices_ContainsFunc_impl_Frac_impl_Frac_at_impl_areValid_1 n x.1) follows (AllOk.mem (⟨slices_IndexFunc_impl_Frac_impl_Frac_at_impl_areValid_1_ok n, trivial⟩ : AllOk P ([slices_IndexFunc_impl_Frac_impl_Frac_at_impl_areValid_1F n]))) (by kernel_rfl : P.funcs[122]? = some Go.Proofs.Try.f122) (by kernel_rfl) (by kernel_rfl) (by kernel_rfl)
    (fun x y => slices_ContainsFunc_impl_Frac_impl_Frac_at_impl_areValid_1_eq n x.1) (fun _ _ => map_same (fun _ => rfl) _) (fun _ _ _ _ => rfl)

abbrev impl_areValidsp : List Sp := [.v false (.list (.pair (.int .i64) (.int .i64)))]
abbrev impl_areValidbs : List (Bs × Bool) := []
abbrev impl_areValidrs : List (Bool × List Rp) := [(false, [.v false .bool])]
noncomputable def impl_areValidkp : Keep := { loop := fun id => match id with | _ => [], join := fun id => match id with | _ => none }
noncomputable def impl_areValidc : Code := bodyOf Go.Proofs.Try.f119
noncomputable def impl_areValidF (n : Nat) : Fun := { id := 119, sp := impl_areValidsp, bs := impl_areValidbs, rs := impl_areValidrs, f := fun x y => impl_areValid n x.1 }

theorem impl_areValid_eq (n : Nat) (a0 : List ((Int) × (Int))) : runBody ([slices_ContainsFunc_impl_Frac_impl_Frac_at_impl_areValid_1F n]) ty 6 n impl_areValidkp impl_areValidc Go.Proofs.Try.f119.results.toList impl_areValidrs impl_areValidsp impl_areValidbs (a0, ()) () = impl_areValid n a0 := by
  have h : runBody ([slices_ContainsFunc_impl_Frac_impl_Frac_at_impl_areValid_1F n]) ty 6 n impl_areValidkp impl_areValidc Go.Proofs.Try.f119.results.toList impl_areValidrs impl_areValidsp impl_areValidbs (a0, ()) () = impl_areValid_t n a0 := by kernel_rfl
  rw [h]
  rfl

theorem impl_areValid_ok (n : Nat) : FunOk P (impl_areValidF n) :=
  funOk_mk (C := [slices_ContainsFunc_impl_Frac_impl_Frac_at_impl_areValid_1F n]) (N := 6) (kp := impl_areValidkp) (c := impl_areValidc) (n := n) (G := fun x y => impl_areValid n x.1) follows (AllOk.mem (⟨slices_ContainsFunc_impl_Frac_impl_Frac_at_impl_areValid_1_ok n, trivial⟩ : AllOk P ([slices_ContainsFunc_impl_Frac_impl_Frac_at_impl_areValid_1F n]))) (by kernel_rfl : P.funcs[119]? = some Go.Proofs.Try.f119) (by kernel_rfl) (by kernel_rfl) (by kernel_rfl)
    (fun x y => impl_areValid_eq n x.1) (fun _ _ => map_same (fun _ => rfl) _) (fun _ _ _ _ => rfl)

abbrev impl_sizesp : List Sp := [.v true (.pair (.int .i64) (.int .i64))]
abbrev impl_sizebs : List (Bs × Bool) := []
abbrev impl_sizers : List (Bool × List Rp) := [(true, [.v false (.pair (.int .i64) (.int .i64))])]
noncomputable def impl_sizekp : Keep := { loop := fun id => match id with | _ => [], join := fun id => match id with | _ => none }
noncomputable def impl_sizec : Code := bodyOf Go.Proofs.Try.f109
noncomputable def impl_sizeF (n : Nat) : Fun := { id := 109, sp := impl_sizesp, bs := impl_sizebs, rs := impl_sizers, f := fun x y => impl_size n x.1 }

theorem impl_size_eq (n : Nat) (a0 : (Int) × (Int)) : runBody ([]) ty 12 n impl_sizekp impl_sizec Go.Proofs.Try.f109.results.toList impl_sizers impl_sizesp impl_sizebs (a0, ()) () = impl_size n a0 := by
  have h : runBody ([]) ty 12 n impl_sizekp impl_sizec Go.Proofs.Try.f109.results.toList impl_sizers impl_sizesp impl_sizebs (a0, ()) () = impl_size_t n a0 := by kernel_rfl
  rw [h]
  rfl

theorem impl_size_ok (n : Nat) : FunOk P (impl_sizeF n) :=
  funOk_mk (C := []) (N := 12) (kp := impl_sizekp) (c := impl_sizec) (n := n) (G := fun x y => impl_size n x.1) follows (AllOk.mem (trivial : AllOk P ([]))) (by kernel_rfl : P.funcs[109]? = some Go.Proofs.Try.f109) (by kernel_rfl) (by kernel_rfl) (by kernel_rfl)
    (fun x y => impl_size_eq n x.1) (fun _ _ => map_same (fun _ => rfl) _) (fun _ _ _ _ => rfl)

abbrev impl_fracOfsp : List Sp := [.v false (.int .i64), .v false (.int .i64)]
abbrev impl_fracOfbs : List (Bs × Bool) := []
abbrev impl_fracOfrs : List (Bool × List Rp) := [(true, [.v false (.pair (.int .i64) (.int .i64))]), (false, [.v false .bool])]
noncomputable def impl_fracOfkp : Keep := { loop := fun id => match id with | _ => [], join := fun id => match id with | _ => none }
noncomputable def impl_fracOfc : Code := bodyOf Go.Proofs.Try.f99
noncomputable def impl_fracOfF (n : Nat) : Fun := { id := 99, sp := impl_fracOfsp, bs := impl_fracOfbs, rs := impl_fracOfrs, f := fun x y => impl_fracOf n x.1 x.2.1 }

theorem impl_fracOf_eq (n : Nat) (a0 : Int) (a1 : Int) : runBody ([impl_gcdF n, impl_ValidFracF n]) ty 29 n impl_fracOfkp impl_fracOfc Go.Proofs.Try.f99.results.toList impl_fracOfrs impl_fracOfsp impl_fracOfbs (a0, (a1, ())) () = impl_fracOf n a0 a1 := by
  have h : runBody ([impl_gcdF n, impl_ValidFracF n]) ty 29 n impl_fracOfkp impl_fracOfc Go.Proofs.Try.f99.results.toList impl_fracOfrs impl_fracOfsp impl_fracOfbs (a0, (a1, ())) () = impl_fracOf_t n a0 a1 := by kernel_rfl
  rw [h]
  rfl

theorem impl_fracOf_ok (n : Nat) : FunOk P (impl_fracOfF n) :=
  funOk_mk (C := [impl_gcdF n, impl_ValidFracF n]) (N := 29) (kp := impl_fracOfkp) (c := impl_fracOfc) (n := n) (G := fun x y => impl_fracOf n x.1 x.2.1) follows (AllOk.mem (⟨impl_gcd_ok n, ⟨impl_ValidFrac_ok n, trivial⟩⟩ : AllOk P ([impl_gcdF n, impl_ValidFracF n]))) (by kernel_rfl : P.funcs[99]? = some Go.Proofs.Try.f99) (by kernel_rfl) (by kernel_rfl) (by kernel_rfl)
    (fun x y => impl_fracOf_eq n x.1 x.2.1) (fun _ _ => map_same (fun _ => rfl) _) (fun _ _ _ _ => rfl)

abbrev impl_zerosp : List Sp := []
abbrev impl_zerobs : List (Bs × Bool) := []
abbrev impl_zerors : List (Bool × List Rp) := [(true, [.v false (.pair (.int .i64) (.int .i64))])]
noncomputable def impl_zerokp : Keep := { loop := fun id => match id with | _ => [], join := fun id => match id with | _ => none }
noncomputable def impl_zeroc : Code := bodyOf Go.Proofs.Try.f32
noncomputable def impl_zeroF (n : Nat) : Fun := { id := 32, sp := impl_zerosp, bs := impl_zerobs, rs := impl_zerors, f := fun x y => impl_zero n }

theorem impl_zero_eq (n : Nat) : runBody ([]) ty 2 n impl_zerokp impl_zeroc Go.Proofs.Try.f32.results.toList impl_zerors impl_zerosp impl_zerobs () () = impl_zero n := by
  have h : runBody ([]) ty 2 n impl_zerokp impl_zeroc Go.Proofs.Try.f32.results.toList impl_zerors impl_zerosp impl_zerobs () () = impl_zero_t n := by kernel_rfl
  rw [h]
  rfl

theorem impl_zero_ok (n : Nat) : FunOk P (impl_zeroF n) :=
  funOk_mk (C := []) (N := 2) (kp := impl_zerokp) (c := impl_zeroc) (n := n) (G := fun x y => impl_zero n) follows (AllOk.mem (trivial : AllOk P ([]))) (by kernel_rfl : P.funcs[32]? = some Go.Proofs.Try.f32) (by kernel_rfl) (by kernel_rfl) (by kernel_rfl)
    (fun x y => impl_zero_eq n) (fun _ _ => map_same (fun _ => rfl) _) (fun _ _ _ _ => rfl)

abbrev impl_calc_toldsp : List Sp := [.ref 0, .v false (.int .i64), .v false (.int .i64)]
abbrev impl_calc_toldbs : List (Bs × Bool) := [(.var 77 .bool, true)]
abbrev impl_calc_toldrs : List (Bool × List Rp) := [(true, [.v false (.pair (.int .i64) (.int .i64))])]
noncomputable def impl_calc_toldkp : Keep := { loop := fun id => match id with | _ => [], join := fun id => match id with | _ => none }
noncomputable def impl_calc_toldc : Code := bodyOf Go.Proofs.Try.f70
noncomputable def impl_calc_toldF (n : Nat) : Fun := { id := 70, sp := impl_calc_toldsp, bs := impl_calc_toldbs, rs := impl_calc_toldrs, f := fun x y => impl_calc_told n x.2.1 x.2.2.1 y.1 }

theorem impl_calc_told_eq (n : Nat) (a1 : Int) (a2 : Int) (b0 : Bool) : runBody ([impl_fracOfF n, impl_zeroF n]) ty 22 n impl_calc_toldkp impl_calc_toldc Go.Proofs.Try.f70.results.toList impl_calc_toldrs impl_calc_toldsp impl_calc_toldbs ((), (a1, (a2, ()))) (b0, ()) = impl_calc_told n a1 a2 b0 := by
  have h : runBody ([impl_fracOfF n, impl_zeroF n]) ty 22 n impl_calc_toldkp impl_calc_toldc Go.Proofs.Try.f70.results.toList impl_calc_toldrs impl_calc_toldsp impl_calc_toldbs ((), (a1, (a2, ()))) (b0, ()) = impl_calc_told_t n a1 a2 b0 := by kernel_rfl
  rw [h]
  rfl

theorem impl_calc_told_ok (n : Nat) : FunOk P (impl_calc_toldF n) :=
  funOk_mk (C := [impl_fracOfF n, impl_zeroF n]) (N := 22) (kp := impl_calc_toldkp) (c := impl_calc_toldc) (n := n) (G := fun x y => impl_calc_told n x.2.1 x.2.2.1 y.1) follows (AllOk.mem (⟨impl_fracOf_ok n, ⟨impl_zero_ok n, trivial⟩⟩ : AllOk P ([impl_fracOfF n, impl_zeroF n]))) (by kernel_rfl : P.funcs[70]? = some Go.Proofs.Try.f70) (by kernel_rfl) (by kernel_rfl) (by kernel_rfl)
    (fun x y => impl_calc_told_eq n x.2.1 x.2.2.1 y.1) (fun _ _ => map_same (fun _ => rfl) _) (fun _ _ _ _ => rfl)

abbrev impl_calc_mulsp : List Sp := [.ref 0, .v true (.pair (.int .i64) (.int .i64)), .v true (.pair (.int .i64) (.int .i64))]
abbrev impl_calc_mulbs : List (Bs × Bool) := [(.var 77 .bool, true)]
abbrev impl_calc_mulrs : List (Bool × List Rp) := [(true, [.v false (.pair (.int .i64) (.int .i64))])]
noncomputable def impl_calc_mulkp : Keep := { loop := fun id => match id with | _ => [], join := fun id => match id with | _ => none }
noncomputable def impl_calc_mulc : Code := bodyOf Go.Proofs.Try.f42
noncomputable def impl_calc_mulF (n : Nat) : Fun := { id := 42, sp := impl_calc_mulsp, bs := impl_calc_mulbs, rs := impl_calc_mulrs, f := fun x y => impl_calc_mul n x.2.1 x.2.2.1 y.1 }

theorem impl_calc_mul_eq (n : Nat) (a1 : (Int) × (Int)) (a2 : (Int) × (Int)) (b0 : Bool) : runBody ([impl_calc_toldF n]) ty 19 n impl_calc_mulkp impl_calc_mulc Go.Proofs.Try.f42.results.toList impl_calc_mulrs impl_calc_mulsp impl_calc_mulbs ((), (a1, (a2, ()))) (b0, ()) = impl_calc_mul n a1 a2 b0 := by
  have h : runBody ([impl_calc_toldF n]) ty 19 n impl_calc_mulkp impl_calc_mulc Go.Proofs.Try.f42.results.toList impl_calc_mulrs impl_calc_mulsp impl_calc_mulbs ((), (a1, (a2, ()))) (b0, ()) = impl_calc_mul_t n a1 a2 b0 := by kernel_rfl
  rw [h]
  rfl

theorem impl_calc_mul_ok (n : Nat) : FunOk P (impl_calc_mulF n) :=
  funOk_mk (C := [impl_calc_toldF n]) (N := 19) (kp := impl_calc_mulkp) (c := impl_calc_mulc) (n := n) (G := fun x y => impl_calc_mul n x.2.1 x.2.2.1 y.1) follows (AllOk.mem (⟨impl_calc_told_ok n, trivial⟩ : AllOk P ([impl_calc_toldF n]))) (by kernel_rfl : P.funcs[42]? = some Go.Proofs.Try.f42) (by kernel_rfl) (by kernel_rfl) (by kernel_rfl)
    (fun x y => impl_calc_mul_eq n x.2.1 x.2.2.1 y.1) (fun _ _ => map_same (fun _ => rfl) _) (fun _ _ _ _ => rfl)

abbrev impl_calc_addsp : List Sp := [.ref 0, .v true (.pair (.int .i64) (.int .i64)), .v true (.pair (.int .i64) (.int .i64))]
abbrev impl_calc_addbs : List (Bs × Bool) := [(.var 77 .bool, true)]
abbrev impl_calc_addrs : List (Bool × List Rp) := [(true, [.v false (.pair (.int .i64) (.int .i64))])]
noncomputable def impl_calc_addkp : Keep := { loop := fun id => match id with | _ => [], join := fun id => match id with | _ => none }
noncomputable def impl_calc_addc : Code := bodyOf Go.Proofs.Try.f47
noncomputable def impl_calc_addF (n : Nat) : Fun := { id := 47, sp := impl_calc_addsp, bs := impl_calc_addbs, rs := impl_calc_addrs, f := fun x y => impl_calc_add n x.2.1 x.2.2.1 y.1 }

theorem impl_calc_add_eq (n : Nat) (a1 : (Int) × (Int)) (a2 : (Int) × (Int)) (b0 : Bool) : runBody ([impl_calc_toldF n]) ty 25 n impl_calc_addkp impl_calc_addc Go.Proofs.Try.f47.results.toList impl_calc_addrs impl_calc_addsp impl_calc_addbs ((), (a1, (a2, ()))) (b0, ()) = impl_calc_add n a1 a2 b0 := by
  have h : runBody ([impl_calc_toldF n]) ty 25 n impl_calc_addkp impl_calc_addc Go.Proofs.Try.f47.results.toList impl_calc_addrs impl_calc_addsp impl_calc_addbs ((), (a1, (a2, ()))) (b0, ()) = impl_calc_add_t n a1 a2 b0 := by kernel_rfl
  rw [h]
  rfl

theorem impl_calc_add_ok (n : Nat) : FunOk P (impl_calc_addF n) :=
  funOk_mk (C := [impl_calc_toldF n]) (N := 25) (kp := impl_calc_addkp) (c := impl_calc_addc) (n := n) (G := fun x y => impl_calc_add n x.2.1 x.2.2.1 y.1) follows (AllOk.mem (⟨impl_calc_told_ok n, trivial⟩ : AllOk P ([impl_calc_toldF n]))) (by kernel_rfl : P.funcs[47]? = some Go.Proofs.Try.f47) (by kernel_rfl) (by kernel_rfl) (by kernel_rfl)
    (fun x y => impl_calc_add_eq n x.2.1 x.2.2.1 y.1) (fun _ _ => map_same (fun _ => rfl) _) (fun _ _ _ _ => rfl)

abbrev impl_ValidScalesp : List Sp := [.v true (.pair (.pair (.int .i64) (.int .i64)) (.list (.pair (.int .i64) (.int .i64))))]
abbrev impl_ValidScalebs : List (Bs × Bool) := []
abbrev impl_ValidScalers : List (Bool × List Rp) := [(false, [.v false .bool])]
noncomputable def impl_ValidScalekp : Keep := { loop := fun id => match id with | 5 => [34, 1, 3, 32, 33] | _ => [], join := fun id => match id with | _ => none }
noncomputable def impl_ValidScalec : Code := bodyOf Go.Proofs.Try.f106
noncomputable def impl_ValidScaleF (n : Nat) : Fun := { id := 106, sp := impl_ValidScalesp, bs := impl_ValidScalebs, rs := impl_ValidScalers, f := fun x y => impl_ValidScale n x.1 }

theorem impl_ValidScale_l5_eq (n : Nat) : ∀ (k : Nat) (v34 : Int) (v32 : List ((Int) × (Int))) (v33 : Int) (b0_0 : Int) (b0_1 : Int) (b0_2 : List ((Int) × (Int))) (b1 : Bool), iter (interp ([impl_ValidFracF n, impl_isUnitF n, impl_withinF n, impl_areValidF n, impl_sizeF n, impl_numF n, impl_calc_mulF n, impl_calc_addF n]) ty 69 0 n impl_ValidScalekp (codeAt impl_ValidScalec [1, 1, 1, 0, 1, 0, 0])) (canon 0 (impl_ValidScalekp.loop 5)) (kAt ([impl_ValidFracF n, impl_isUnitF n, impl_withinF n, impl_areValidF n, impl_sizeF n, impl_numF n, impl_calc_mulF n, impl_calc_addF n]) ty 69 0 n impl_ValidScalekp impl_ValidScalec [1, 1, 1, 0, 1, 0] [] (ending ty 0 Go.Proofs.Try.f106.results.toList impl_ValidScalers impl_ValidScalebs)) k { env := [(34, .one (.sc (.int .i64 v34))), (1, .one (.ref 0 0 0 0 0 0)), (3, .one (.ref 1 0 0 0 0 0)), (32, .one (.list true (.pair (.int .i64) (.int .i64)) v32)), (33, .one (.sc (.int .i64 v33)))], bx := [(0, .var 46 [.sc (.int .i64 b0_0), .sc (.int .i64 b0_1), .list true (.pair (.int .i64) (.int .i64)) b0_2]), (1, .var 77 [.sc (.bool b1)])], nx := 2 } = impl_ValidScale_l5 n k v34 v32 v33 b0_0 b0_1 b0_2 b1
  | 0, _, _, _, _, _, _, _ => by kernel_rfl
  | k + 1, v34, v32, v33, b0_0, b0_1, b0_2, b1 => by
    have h : iter (interp ([impl_ValidFracF n, impl_isUnitF n, impl_withinF n, impl_areValidF n, impl_sizeF n, impl_numF n, impl_calc_mulF n, impl_calc_addF n]) ty 69 0 n impl_ValidScalekp (codeAt impl_ValidScalec [1, 1, 1, 0, 1, 0, 0])) (canon 0 (impl_ValidScalekp.loop 5)) (kAt ([impl_ValidFracF n, impl_isUnitF n, impl_withinF n, impl_areValidF n, impl_sizeF n, impl_numF n, impl_calc_mulF n, impl_calc_addF n]) ty 69 0 n impl_ValidScalekp impl_ValidScalec [1, 1, 1, 0, 1, 0] [] (ending ty 0 Go.Proofs.Try.f106.results.toList impl_ValidScalers impl_ValidScalebs)) (k + 1) { env := [(34, .one (.sc (.int .i64 v34))), (1, .one (.ref 0 0 0 0 0 0)), (3, .one (.ref 1 0 0 0 0 0)), (32, .one (.list true (.pair (.int .i64) (.int .i64)) v32)), (33, .one (.sc (.int .i64 v33)))], bx := [(0, .var 46 [.sc (.int .i64 b0_0), .sc (.int .i64 b0_1), .list true (.pair (.int .i64) (.int .i64)) b0_2]), (1, .var 77 [.sc (.bool b1)])], nx := 2 } = impl_ValidScale_t5 n (fun v34 v32 v33 b0_0 b0_1 b0_2 b1 => iter (interp ([impl_ValidFracF n, impl_isUnitF n, impl_withinF n, impl_areValidF n, impl_sizeF n, impl_numF n, impl_calc_mulF n, impl_calc_addF n]) ty 69 0 n impl_ValidScalekp (codeAt impl_ValidScalec [1, 1, 1, 0, 1, 0, 0])) (canon 0 (impl_ValidScalekp.loop 5)) (kAt ([impl_ValidFracF n, impl_isUnitF n, impl_withinF n, impl_areValidF n, impl_sizeF n, impl_numF n, impl_calc_mulF n, impl_calc_addF n]) ty 69 0 n impl_ValidScalekp impl_ValidScalec [1, 1, 1, 0, 1, 0] [] (ending ty 0 Go.Proofs.Try.f106.results.toList impl_ValidScalers impl_ValidScalebs)) k { env := [(34, .one (.sc (.int .i64 v34))), (1, .one (.ref 0 0 0 0 0 0)), (3, .one (.ref 1 0 0 0 0 0)), (32, .one (.list true (.pair (.int .i64) (.int .i64)) v32)), (33, .one (.sc (.int .i64 v33)))], bx := [(0, .var 46 [.sc (.int .i64 b0_0), .sc (.int .i64 b0_1), .list true (.pair (.int .i64) (.int .i64)) b0_2]), (1, .var 77 [.sc (.bool b1)])], nx := 2 }) v34 v32 v33 b0_0 b0_1 b0_2 b1 := by kernel_rfl
    rw [h]
    have e := congrArg (fun g => impl_ValidScale_t5 n g v34 v32 v33 b0_0 b0_1 b0_2 b1) (funext fun v34 => funext fun v32 => funext fun v33 => funext fun b0_0 => funext fun b0_1 => funext fun b0_2 => funext fun b1 => impl_ValidScale_l5_eq n k v34 v32 v33 b0_0 b0_1 b0_2 b1)
    exact e

theorem impl_ValidScale_eq (n : Nat) (a0 : ((Int) × (Int)) × (List ((Int) × (Int)))) : runBody ([impl_ValidFracF n, impl_isUnitF n, impl_withinF n, impl_areValidF n, impl_sizeF n, impl_numF n, impl_calc_mulF n, impl_calc_addF n]) ty 69 n impl_ValidScalekp impl_ValidScalec Go.Proofs.Try.f106.results.toList impl_ValidScalers impl_ValidScalesp impl_ValidScalebs (a0, ()) () = impl_ValidScale n a0 := by
  have h : runBody ([impl_ValidFracF n, impl_isUnitF n, impl_withinF n, impl_areValidF n, impl_sizeF n, impl_numF n, impl_calc_mulF n, impl_calc_addF n]) ty 69 n impl_ValidScalekp impl_ValidScalec Go.Proofs.Try.f106.results.toList impl_ValidScalers impl_ValidScalesp impl_ValidScalebs (a0, ()) () = impl_ValidScale_t n (fun k v34 v32 v33 b0_0 b0_1 b0_2 b1 => iter (interp ([impl_ValidFracF n, impl_isUnitF n, impl_withinF n, impl_areValidF n, impl_sizeF n, impl_numF n, impl_calc_mulF n, impl_calc_addF n]) ty 69 0 n impl_ValidScalekp (codeAt impl_ValidScalec [1, 1, 1, 0, 1, 0, 0])) (canon 0 (impl_ValidScalekp.loop 5)) (kAt ([impl_ValidFracF n, impl_isUnitF n, impl_withinF n, impl_areValidF n, impl_sizeF n, impl_numF n, impl_calc_mulF n, impl_calc_addF n]) ty 69 0 n impl_ValidScalekp impl_ValidScalec [1, 1, 1, 0, 1, 0] [] (ending ty 0 Go.Proofs.Try.f106.results.toList impl_ValidScalers impl_ValidScalebs)) k { env := [(34, .one (.sc (.int .i64 v34))), (1, .one (.ref 0 0 0 0 0 0)), (3, .one (.ref 1 0 0 0 0 0)), (32, .one (.list true (.pair (.int .i64) (.int .i64)) v32)), (33, .one (.sc (.int .i64 v33)))], bx := [(0, .var 46 [.sc (.int .i64 b0_0), .sc (.int .i64 b0_1), .list true (.pair (.int .i64) (.int .i64)) b0_2]), (1, .var 77 [.sc (.bool b1)])], nx := 2 }) a0 := by kernel_rfl
  rw [h]
  have e := congrArg (fun h5 => impl_ValidScale_t n h5 a0) (funext fun k => funext fun v34 => funext fun v32 => funext fun v33 => funext fun b0_0 => funext fun b0_1 => funext fun b0_2 => funext fun b1 => impl_ValidScale_l5_eq n k v34 v32 v33 b0_0 b0_1 b0_2 b1)
  exact e

theorem impl_ValidScale_ok (n : Nat) : FunOk P (impl_ValidScaleF n) :=
  funOk_mk (C := [impl_ValidFracF n, impl_isUnitF n, impl_withinF n, impl_areValidF n, impl_sizeF n, impl_numF n, impl_calc_mulF n, impl_calc_addF n]) (N := 69) (kp := impl_ValidScalekp) (c := impl_ValidScalec) (n := n) (G := fun x y => impl_ValidScale n x.1) follows (AllOk.mem (⟨impl_ValidFrac_ok n, ⟨impl_isUnit_ok n, ⟨impl_within_ok n, ⟨impl_areValid_ok n, ⟨impl_size_ok n, ⟨impl_num_ok n, ⟨impl_calc_mul_ok n, ⟨impl_calc_add_ok n, trivial⟩⟩⟩⟩⟩⟩⟩⟩ : AllOk P ([impl_ValidFracF n, impl_isUnitF n, impl_withinF n, impl_areValidF n, impl_sizeF n, impl_numF n, impl_calc_mulF n, impl_calc_addF n]))) (by kernel_rfl : P.funcs[106]? = some Go.Proofs.Try.f106) (by kernel_rfl) (by kernel_rfl) (by kernel_rfl)
    (fun x y => impl_ValidScale_eq n x.1) (fun _ _ => map_same (fun _ => rfl) _) (fun _ _ _ _ => rfl)

abbrev impl_ValidVerniersp : List Sp := [.v true (.pair (.int .i64) .bool)]
abbrev impl_ValidVernierbs : List (Bs × Bool) := []
abbrev impl_ValidVernierrs : List (Bool × List Rp) := [(false, [.v false .bool])]
noncomputable def impl_ValidVernierkp : Keep := { loop := fun id => match id with | _ => [], join := fun id => match id with | _ => none }
noncomputable def impl_ValidVernierc : Code := bodyOf Go.Proofs.Try.f107
noncomputable def impl_ValidVernierF (n : Nat) : Fun := { id := 107, sp := impl_ValidVerniersp, bs := impl_ValidVernierbs, rs := impl_ValidVernierrs, f := fun x y => impl_ValidVernier n x.1 }

theorem impl_ValidVernier_eq (n : Nat) (a0 : (Int) × (Bool)) : runBody ([impl_withinF n]) ty 6 n impl_ValidVernierkp impl_ValidVernierc Go.Proofs.Try.f107.results.toList impl_ValidVernierrs impl_ValidVerniersp impl_ValidVernierbs (a0, ()) () = impl_ValidVernier n a0 := by
  have h : runBody ([impl_withinF n]) ty 6 n impl_ValidVernierkp impl_ValidVernierc Go.Proofs.Try.f107.results.toList impl_ValidVernierrs impl_ValidVerniersp impl_ValidVernierbs (a0, ()) () = impl_ValidVernier_t n a0 := by kernel_rfl
  rw [h]
  rfl

theorem impl_ValidVernier_ok (n : Nat) : FunOk P (impl_ValidVernierF n) :=
  funOk_mk (C := [impl_withinF n]) (N := 6) (kp := impl_ValidVernierkp) (c := impl_ValidVernierc) (n := n) (G := fun x y => impl_ValidVernier n x.1) follows (AllOk.mem (⟨impl_within_ok n, trivial⟩ : AllOk P ([impl_withinF n]))) (by kernel_rfl : P.funcs[107]? = some Go.Proofs.Try.f107) (by kernel_rfl) (by kernel_rfl) (by kernel_rfl)
    (fun x y => impl_ValidVernier_eq n x.1) (fun _ _ => map_same (fun _ => rfl) _) (fun _ _ _ _ => rfl)

abbrev impl_lineCodesp : List Sp := [.v true (.pair (.pair (.int .i64) (.int .i64)) (.list (.pair (.int .i64) (.int .i64)))), .v true (.pair (.int .i64) .bool), .v true (.pair (.int .i64) (.int .i64)), .v false (.int .i64)]
abbrev impl_lineCodebs : List (Bs × Bool) := []
abbrev impl_lineCoders : List (Bool × List Rp) := [(false, [.v false (.int .i64)])]
noncomputable def impl_lineCodekp : Keep := { loop := fun id => match id with | _ => [], join := fun id => match id with | _ => none }
noncomputable def impl_lineCodec : Code := bodyOf Go.Proofs.Try.f80
noncomputable def impl_lineCodeF (n : Nat) : Fun := { id := 80, sp := impl_lineCodesp, bs := impl_lineCodebs, rs := impl_lineCoders, f := fun x y => impl_lineCode n x.1 x.2.1 x.2.2.1 x.2.2.2.1 }

theorem impl_lineCode_eq (n : Nat) (a0 : ((Int) × (Int)) × (List ((Int) × (Int)))) (a1 : (Int) × (Bool)) (a2 : (Int) × (Int)) (a3 : Int) : runBody ([impl_ValidScaleF n, impl_ValidVernierF n, impl_ValidFracF n, impl_withinF n]) ty 30 n impl_lineCodekp impl_lineCodec Go.Proofs.Try.f80.results.toList impl_lineCoders impl_lineCodesp impl_lineCodebs (a0, (a1, (a2, (a3, ())))) () = impl_lineCode n a0 a1 a2 a3 := by
  have h : runBody ([impl_ValidScaleF n, impl_ValidVernierF n, impl_ValidFracF n, impl_withinF n]) ty 30 n impl_lineCodekp impl_lineCodec Go.Proofs.Try.f80.results.toList impl_lineCoders impl_lineCodesp impl_lineCodebs (a0, (a1, (a2, (a3, ())))) () = impl_lineCode_t n a0 a1 a2 a3 := by kernel_rfl
  rw [h]
  rfl

theorem impl_lineCode_ok (n : Nat) : FunOk P (impl_lineCodeF n) :=
  funOk_mk (C := [impl_ValidScaleF n, impl_ValidVernierF n, impl_ValidFracF n, impl_withinF n]) (N := 30) (kp := impl_lineCodekp) (c := impl_lineCodec) (n := n) (G := fun x y => impl_lineCode n x.1 x.2.1 x.2.2.1 x.2.2.2.1) follows (AllOk.mem (⟨impl_ValidScale_ok n, ⟨impl_ValidVernier_ok n, ⟨impl_ValidFrac_ok n, ⟨impl_within_ok n, trivial⟩⟩⟩⟩ : AllOk P ([impl_ValidScaleF n, impl_ValidVernierF n, impl_ValidFracF n, impl_withinF n]))) (by kernel_rfl : P.funcs[80]? = some Go.Proofs.Try.f80) (by kernel_rfl) (by kernel_rfl) (by kernel_rfl)
    (fun x y => impl_lineCode_eq n x.1 x.2.1 x.2.2.1 x.2.2.2.1) (fun _ _ => map_same (fun _ => rfl) _) (fun _ _ _ _ => rfl)

abbrev impl_marksp : List Sp := [.v true (.pair (.pair (.int .i64) (.int .i64)) (.list (.pair (.int .i64) (.int .i64)))), .v false (.int .i64)]
abbrev impl_markbs : List (Bs × Bool) := []
abbrev impl_markrs : List (Bool × List Rp) := [(true, [.v false (.pair (.int .i64) (.int .i64))])]
noncomputable def impl_markkp : Keep := { loop := fun id => match id with | _ => [], join := fun id => match id with | _ => none }
noncomputable def impl_markc : Code := bodyOf Go.Proofs.Try.f81
noncomputable def impl_markF (n : Nat) : Fun := { id := 81, sp := impl_marksp, bs := impl_markbs, rs := impl_markrs, f := fun x y => impl_mark n x.1 x.2.1 }

theorem impl_mark_eq (n : Nat) (a0 : ((Int) × (Int)) × (List ((Int) × (Int)))) (a1 : Int) : runBody ([impl_numF n, impl_calc_mulF n, impl_calc_addF n]) ty 21 n impl_markkp impl_markc Go.Proofs.Try.f81.results.toList impl_markrs impl_marksp impl_markbs (a0, (a1, ())) () = impl_mark n a0 a1 := by
  have h : runBody ([impl_numF n, impl_calc_mulF n, impl_calc_addF n]) ty 21 n impl_markkp impl_markc Go.Proofs.Try.f81.results.toList impl_markrs impl_marksp impl_markbs (a0, (a1, ())) () = impl_mark_t n a0 a1 := by kernel_rfl
  rw [h]
  rfl

theorem impl_mark_ok (n : Nat) : FunOk P (impl_markF n) :=
  funOk_mk (C := [impl_numF n, impl_calc_mulF n, impl_calc_addF n]) (N := 21) (kp := impl_markkp) (c := impl_markc) (n := n) (G := fun x y => impl_mark n x.1 x.2.1) follows (AllOk.mem (⟨impl_num_ok n, ⟨impl_calc_mul_ok n, ⟨impl_calc_add_ok n, trivial⟩⟩⟩ : AllOk P ([impl_numF n, impl_calc_mulF n, impl_calc_addF n]))) (by kernel_rfl : P.funcs[81]? = some Go.Proofs.Try.f81) (by kernel_rfl) (by kernel_rfl) (by kernel_rfl)
    (fun x y => impl_mark_eq n x.1 x.2.1) (fun _ _ => map_same (fun _ => rfl) _) (fun _ _ _ _ => rfl)

abbrev impl_calc_divsp : List Sp := [.ref 0, .v true (.pair (.int .i64) (.int .i64)), .v true (.pair (.int .i64) (.int .i64))]
abbrev impl_calc_divbs : List (Bs × Bool) := [(.var 77 .bool, true)]
abbrev impl_calc_divrs : List (Bool × List Rp) := [(true, [.v false (.pair (.int .i64) (.int .i64))])]
noncomputable def impl_calc_divkp : Keep := { loop := fun id => match id with | _ => [], join := fun id => match id with | _ => none }
noncomputable def impl_calc_divc : Code := bodyOf Go.Proofs.Try.f43
noncomputable def impl_calc_divF (n : Nat) : Fun := { id := 43, sp := impl_calc_divsp, bs := impl_calc_divbs, rs := impl_calc_divrs, f := fun x y => impl_calc_div n x.2.1 x.2.2.1 y.1 }

theorem impl_calc_div_eq (n : Nat) (a1 : (Int) × (Int)) (a2 : (Int) × (Int)) (b0 : Bool) : runBody ([impl_zeroF n, impl_calc_toldF n]) ty 26 n impl_calc_divkp impl_calc_divc Go.Proofs.Try.f43.results.toList impl_calc_divrs impl_calc_divsp impl_calc_divbs ((), (a1, (a2, ()))) (b0, ()) = impl_calc_div n a1 a2 b0 := by
  have h : runBody ([impl_zeroF n, impl_calc_toldF n]) ty 26 n impl_calc_divkp impl_calc_divc Go.Proofs.Try.f43.results.toList impl_calc_divrs impl_calc_divsp impl_calc_divbs ((), (a1, (a2, ()))) (b0, ()) = impl_calc_div_t n a1 a2 b0 := by kernel_rfl
  rw [h]
  rfl

theorem impl_calc_div_ok (n : Nat) : FunOk P (impl_calc_divF n) :=
  funOk_mk (C := [impl_zeroF n, impl_calc_toldF n]) (N := 26) (kp := impl_calc_divkp) (c := impl_calc_divc) (n := n) (G := fun x y => impl_calc_div n x.2.1 x.2.2.1 y.1) follows (AllOk.mem (⟨impl_zero_ok n, ⟨impl_calc_told_ok n, trivial⟩⟩ : AllOk P ([impl_zeroF n, impl_calc_toldF n]))) (by kernel_rfl : P.funcs[43]? = some Go.Proofs.Try.f43) (by kernel_rfl) (by kernel_rfl) (by kernel_rfl)
    (fun x y => impl_calc_div_eq n x.2.1 x.2.2.1 y.1) (fun _ _ => map_same (fun _ => rfl) _) (fun _ _ _ _ => rfl)

abbrev impl_calc_linesp : List Sp := [.ref 0, .v true (.pair (.pair (.int .i64) (.int .i64)) (.list (.pair (.int .i64) (.int .i64)))), .v true (.pair (.int .i64) .bool), .v true (.pair (.int .i64) (.int .i64)), .v false (.int .i64)]
abbrev impl_calc_linebs : List (Bs × Bool) := [(.var 77 .bool, true)]
abbrev impl_calc_liners : List (Bool × List Rp) := [(true, [.v false (.pair (.int .i64) (.int .i64))])]
noncomputable def impl_calc_linekp : Keep := { loop := fun id => match id with | _ => [], join := fun id => match id with | _ => none }
noncomputable def impl_calc_linec : Code := bodyOf Go.Proofs.Try.f82
noncomputable def impl_calc_lineF (n : Nat) : Fun := { id := 82, sp := impl_calc_linesp, bs := impl_calc_linebs, rs := impl_calc_liners, f := fun x y => impl_calc_line n x.2.1 x.2.2.1 x.2.2.2.1 x.2.2.2.2.1 y.1 }

theorem impl_calc_line_eq (n : Nat) (a1 : ((Int) × (Int)) × (List ((Int) × (Int)))) (a2 : (Int) × (Bool)) (a3 : (Int) × (Int)) (a4 : Int) (b0 : Bool) : runBody ([impl_numF n, impl_calc_mulF n, impl_calc_divF n, impl_calc_addF n]) ty 36 n impl_calc_linekp impl_calc_linec Go.Proofs.Try.f82.results.toList impl_calc_liners impl_calc_linesp impl_calc_linebs ((), (a1, (a2, (a3, (a4, ()))))) (b0, ()) = impl_calc_line n a1 a2 a3 a4 b0 := by
  have h : runBody ([impl_numF n, impl_calc_mulF n, impl_calc_divF n, impl_calc_addF n]) ty 36 n impl_calc_linekp impl_calc_linec Go.Proofs.Try.f82.results.toList impl_calc_liners impl_calc_linesp impl_calc_linebs ((), (a1, (a2, (a3, (a4, ()))))) (b0, ()) = impl_calc_line_t n a1 a2 a3 a4 b0 := by kernel_rfl
  rw [h]
  rfl

theorem impl_calc_line_ok (n : Nat) : FunOk P (impl_calc_lineF n) :=
  funOk_mk (C := [impl_numF n, impl_calc_mulF n, impl_calc_divF n, impl_calc_addF n]) (N := 36) (kp := impl_calc_linekp) (c := impl_calc_linec) (n := n) (G := fun x y => impl_calc_line n x.2.1 x.2.2.1 x.2.2.2.1 x.2.2.2.2.1 y.1) follows (AllOk.mem (⟨impl_num_ok n, ⟨impl_calc_mul_ok n, ⟨impl_calc_div_ok n, ⟨impl_calc_add_ok n, trivial⟩⟩⟩⟩ : AllOk P ([impl_numF n, impl_calc_mulF n, impl_calc_divF n, impl_calc_addF n]))) (by kernel_rfl : P.funcs[82]? = some Go.Proofs.Try.f82) (by kernel_rfl) (by kernel_rfl) (by kernel_rfl)
    (fun x y => impl_calc_line_eq n x.2.1 x.2.2.1 x.2.2.2.1 x.2.2.2.2.1 y.1) (fun _ _ => map_same (fun _ => rfl) _) (fun _ _ _ _ => rfl)

abbrev impl_calc_subsp : List Sp := [.ref 0, .v true (.pair (.int .i64) (.int .i64)), .v true (.pair (.int .i64) (.int .i64))]
abbrev impl_calc_subbs : List (Bs × Bool) := [(.var 77 .bool, true)]
abbrev impl_calc_subrs : List (Bool × List Rp) := [(true, [.v false (.pair (.int .i64) (.int .i64))])]
noncomputable def impl_calc_subkp : Keep := { loop := fun id => match id with | _ => [], join := fun id => match id with | _ => none }
noncomputable def impl_calc_subc : Code := bodyOf Go.Proofs.Try.f34
noncomputable def impl_calc_subF (n : Nat) : Fun := { id := 34, sp := impl_calc_subsp, bs := impl_calc_subbs, rs := impl_calc_subrs, f := fun x y => impl_calc_sub n x.2.1 x.2.2.1 y.1 }

theorem impl_calc_sub_eq (n : Nat) (a1 : (Int) × (Int)) (a2 : (Int) × (Int)) (b0 : Bool) : runBody ([impl_calc_toldF n]) ty 25 n impl_calc_subkp impl_calc_subc Go.Proofs.Try.f34.results.toList impl_calc_subrs impl_calc_subsp impl_calc_subbs ((), (a1, (a2, ()))) (b0, ()) = impl_calc_sub n a1 a2 b0 := by
  have h : runBody ([impl_calc_toldF n]) ty 25 n impl_calc_subkp impl_calc_subc Go.Proofs.Try.f34.results.toList impl_calc_subrs impl_calc_subsp impl_calc_subbs ((), (a1, (a2, ()))) (b0, ()) = impl_calc_sub_t n a1 a2 b0 := by kernel_rfl
  rw [h]
  rfl

theorem impl_calc_sub_ok (n : Nat) : FunOk P (impl_calc_subF n) :=
  funOk_mk (C := [impl_calc_toldF n]) (N := 25) (kp := impl_calc_subkp) (c := impl_calc_subc) (n := n) (G := fun x y => impl_calc_sub n x.2.1 x.2.2.1 y.1) follows (AllOk.mem (⟨impl_calc_told_ok n, trivial⟩ : AllOk P ([impl_calc_toldF n]))) (by kernel_rfl : P.funcs[34]? = some Go.Proofs.Try.f34) (by kernel_rfl) (by kernel_rfl) (by kernel_rfl)
    (fun x y => impl_calc_sub_eq n x.2.1 x.2.2.1 y.1) (fun _ _ => map_same (fun _ => rfl) _) (fun _ _ _ _ => rfl)

abbrev impl_calc_nearsp : List Sp := [.ref 0, .v true (.pair (.pair (.int .i64) (.int .i64)) (.list (.pair (.int .i64) (.int .i64)))), .v true (.pair (.int .i64) (.int .i64))]
abbrev impl_calc_nearbs : List (Bs × Bool) := [(.var 77 .bool, true)]
abbrev impl_calc_nearrs : List (Bool × List Rp) := [(false, [.v false (.int .i64)]), (true, [.v false (.pair (.int .i64) (.int .i64))])]
noncomputable def impl_calc_nearkp : Keep := { loop := fun id => match id with | 3 => [16, 9, 8, 4, 5, 0, 7, 15] | _ => [], join := fun id => match id with | _ => none }
noncomputable def impl_calc_nearc : Code := bodyOf Go.Proofs.Try.f83
noncomputable def impl_calc_nearF (n : Nat) : Fun := { id := 83, sp := impl_calc_nearsp, bs := impl_calc_nearbs, rs := impl_calc_nearrs, f := fun x y => impl_calc_near n x.2.1 x.2.2.1 y.1 }

theorem impl_calc_near_l3_eq (n : Nat) : ∀ (k : Nat) (v16 : Int) (v8 : Int) (v15 : Int) (b0 : Bool) (b1_0 : Int) (b1_1 : Int) (b2_0 : Int) (b2_1 : Int) (b2_2 : List ((Int) × (Int))) (b3_0 : Int) (b3_1 : Int) (b4_0 : Int) (b4_1 : Int), iter (interp ([impl_zeroF n, impl_markF n, impl_calc_subF n, impl_sizeF n, impl_compareF n]) ty 39 1 n impl_calc_nearkp (codeAt impl_calc_nearc [1, 1, 0, 1, 0, 0])) (canon 1 (impl_calc_nearkp.loop 3)) (kAt ([impl_zeroF n, impl_markF n, impl_calc_subF n, impl_sizeF n, impl_compareF n]) ty 39 1 n impl_calc_nearkp impl_calc_nearc [1, 1, 0, 1, 0] [] (ending ty 1 Go.Proofs.Try.f83.results.toList impl_calc_nearrs impl_calc_nearbs)) k { env := [(16, .one (.sc (.int .i64 v16))), (9, .one (.ref 1 0 0 0 0 0)), (8, .one (.sc (.int .i64 v8))), (4, .one (.ref 2 0 0 0 0 0)), (5, .one (.ref 3 0 0 0 0 0)), (0, .one (.ref 0 0 0 0 0 0)), (7, .one (.ref 4 0 0 0 0 0)), (15, .one (.sc (.int .i64 v15)))], bx := [(0, .var 77 [.sc (.bool b0)]), (1, .var 25 [.sc (.int .i64 b1_0), .sc (.int .i64 b1_1)]), (2, .var 46 [.sc (.int .i64 b2_0), .sc (.int .i64 b2_1), .list true (.pair (.int .i64) (.int .i64)) b2_2]), (3, .var 25 [.sc (.int .i64 b3_0), .sc (.int .i64 b3_1)]), (4, .var 25 [.sc (.int .i64 b4_0), .sc (.int .i64 b4_1)])], nx := 5 } = impl_calc_near_l3 n k v16 v8 v15 b0 b1_0 b1_1 b2_0 b2_1 b2_2 b3_0 b3_1 b4_0 b4_1
  | 0, _, _, _, _, _, _, _, _, _, _, _, _, _ => by kernel_rfl
  | k + 1, v16, v8, v15, b0, b1_0, b1_1, b2_0, b2_1, b2_2, b3_0, b3_1, b4_0, b4_1 => by
    have h : iter (interp ([impl_zeroF n, impl_markF n, impl_calc_subF n, impl_sizeF n, impl_compareF n]) ty 39 1 n impl_calc_nearkp (codeAt impl_calc_nearc [1, 1, 0, 1, 0, 0])) (canon 1 (impl_calc_nearkp.loop 3)) (kAt ([impl_zeroF n, impl_markF n, impl_calc_subF n, impl_sizeF n, impl_compareF n]) ty 39 1 n impl_calc_nearkp impl_calc_nearc [1, 1, 0, 1, 0] [] (ending ty 1 Go.Proofs.Try.f83.results.toList impl_calc_nearrs impl_calc_nearbs)) (k + 1) { env := [(16, .one (.sc (.int .i64 v16))), (9, .one (.ref 1 0 0 0 0 0)), (8, .one (.sc (.int .i64 v8))), (4, .one (.ref 2 0 0 0 0 0)), (5, .one (.ref 3 0 0 0 0 0)), (0, .one (.ref 0 0 0 0 0 0)), (7, .one (.ref 4 0 0 0 0 0)), (15, .one (.sc (.int .i64 v15)))], bx := [(0, .var 77 [.sc (.bool b0)]), (1, .var 25 [.sc (.int .i64 b1_0), .sc (.int .i64 b1_1)]), (2, .var 46 [.sc (.int .i64 b2_0), .sc (.int .i64 b2_1), .list true (.pair (.int .i64) (.int .i64)) b2_2]), (3, .var 25 [.sc (.int .i64 b3_0), .sc (.int .i64 b3_1)]), (4, .var 25 [.sc (.int .i64 b4_0), .sc (.int .i64 b4_1)])], nx := 5 } = impl_calc_near_t3 n (fun v16 v8 v15 b0 b1_0 b1_1 b2_0 b2_1 b2_2 b3_0 b3_1 b4_0 b4_1 => iter (interp ([impl_zeroF n, impl_markF n, impl_calc_subF n, impl_sizeF n, impl_compareF n]) ty 39 1 n impl_calc_nearkp (codeAt impl_calc_nearc [1, 1, 0, 1, 0, 0])) (canon 1 (impl_calc_nearkp.loop 3)) (kAt ([impl_zeroF n, impl_markF n, impl_calc_subF n, impl_sizeF n, impl_compareF n]) ty 39 1 n impl_calc_nearkp impl_calc_nearc [1, 1, 0, 1, 0] [] (ending ty 1 Go.Proofs.Try.f83.results.toList impl_calc_nearrs impl_calc_nearbs)) k { env := [(16, .one (.sc (.int .i64 v16))), (9, .one (.ref 1 0 0 0 0 0)), (8, .one (.sc (.int .i64 v8))), (4, .one (.ref 2 0 0 0 0 0)), (5, .one (.ref 3 0 0 0 0 0)), (0, .one (.ref 0 0 0 0 0 0)), (7, .one (.ref 4 0 0 0 0 0)), (15, .one (.sc (.int .i64 v15)))], bx := [(0, .var 77 [.sc (.bool b0)]), (1, .var 25 [.sc (.int .i64 b1_0), .sc (.int .i64 b1_1)]), (2, .var 46 [.sc (.int .i64 b2_0), .sc (.int .i64 b2_1), .list true (.pair (.int .i64) (.int .i64)) b2_2]), (3, .var 25 [.sc (.int .i64 b3_0), .sc (.int .i64 b3_1)]), (4, .var 25 [.sc (.int .i64 b4_0), .sc (.int .i64 b4_1)])], nx := 5 }) v16 v8 v15 b0 b1_0 b1_1 b2_0 b2_1 b2_2 b3_0 b3_1 b4_0 b4_1 := by kernel_rfl
    rw [h]
    have e := congrArg (fun g => impl_calc_near_t3 n g v16 v8 v15 b0 b1_0 b1_1 b2_0 b2_1 b2_2 b3_0 b3_1 b4_0 b4_1) (funext fun v16 => funext fun v8 => funext fun v15 => funext fun b0 => funext fun b1_0 => funext fun b1_1 => funext fun b2_0 => funext fun b2_1 => funext fun b2_2 => funext fun b3_0 => funext fun b3_1 => funext fun b4_0 => funext fun b4_1 => impl_calc_near_l3_eq n k v16 v8 v15 b0 b1_0 b1_1 b2_0 b2_1 b2_2 b3_0 b3_1 b4_0 b4_1)
    exact e

theorem impl_calc_near_eq (n : Nat) (a1 : ((Int) × (Int)) × (List ((Int) × (Int)))) (a2 : (Int) × (Int)) (b0 : Bool) : runBody ([impl_zeroF n, impl_markF n, impl_calc_subF n, impl_sizeF n, impl_compareF n]) ty 39 n impl_calc_nearkp impl_calc_nearc Go.Proofs.Try.f83.results.toList impl_calc_nearrs impl_calc_nearsp impl_calc_nearbs ((), (a1, (a2, ()))) (b0, ()) = impl_calc_near n a1 a2 b0 := by
  have h : runBody ([impl_zeroF n, impl_markF n, impl_calc_subF n, impl_sizeF n, impl_compareF n]) ty 39 n impl_calc_nearkp impl_calc_nearc Go.Proofs.Try.f83.results.toList impl_calc_nearrs impl_calc_nearsp impl_calc_nearbs ((), (a1, (a2, ()))) (b0, ()) = impl_calc_near_t n (fun k v16 v8 v15 b0 b1_0 b1_1 b2_0 b2_1 b2_2 b3_0 b3_1 b4_0 b4_1 => iter (interp ([impl_zeroF n, impl_markF n, impl_calc_subF n, impl_sizeF n, impl_compareF n]) ty 39 1 n impl_calc_nearkp (codeAt impl_calc_nearc [1, 1, 0, 1, 0, 0])) (canon 1 (impl_calc_nearkp.loop 3)) (kAt ([impl_zeroF n, impl_markF n, impl_calc_subF n, impl_sizeF n, impl_compareF n]) ty 39 1 n impl_calc_nearkp impl_calc_nearc [1, 1, 0, 1, 0] [] (ending ty 1 Go.Proofs.Try.f83.results.toList impl_calc_nearrs impl_calc_nearbs)) k { env := [(16, .one (.sc (.int .i64 v16))), (9, .one (.ref 1 0 0 0 0 0)), (8, .one (.sc (.int .i64 v8))), (4, .one (.ref 2 0 0 0 0 0)), (5, .one (.ref 3 0 0 0 0 0)), (0, .one (.ref 0 0 0 0 0 0)), (7, .one (.ref 4 0 0 0 0 0)), (15, .one (.sc (.int .i64 v15)))], bx := [(0, .var 77 [.sc (.bool b0)]), (1, .var 25 [.sc (.int .i64 b1_0), .sc (.int .i64 b1_1)]), (2, .var 46 [.sc (.int .i64 b2_0), .sc (.int .i64 b2_1), .list true (.pair (.int .i64) (.int .i64)) b2_2]), (3, .var 25 [.sc (.int .i64 b3_0), .sc (.int .i64 b3_1)]), (4, .var 25 [.sc (.int .i64 b4_0), .sc (.int .i64 b4_1)])], nx := 5 }) a1 a2 b0 := by kernel_rfl
  rw [h]
  have e := congrArg (fun h3 => impl_calc_near_t n h3 a1 a2 b0) (funext fun k => funext fun v16 => funext fun v8 => funext fun v15 => funext fun b0 => funext fun b1_0 => funext fun b1_1 => funext fun b2_0 => funext fun b2_1 => funext fun b2_2 => funext fun b3_0 => funext fun b3_1 => funext fun b4_0 => funext fun b4_1 => impl_calc_near_l3_eq n k v16 v8 v15 b0 b1_0 b1_1 b2_0 b2_1 b2_2 b3_0 b3_1 b4_0 b4_1)
  exact e

theorem impl_calc_near_ok (n : Nat) : FunOk P (impl_calc_nearF n) :=
  funOk_mk (C := [impl_zeroF n, impl_markF n, impl_calc_subF n, impl_sizeF n, impl_compareF n]) (N := 39) (kp := impl_calc_nearkp) (c := impl_calc_nearc) (n := n) (G := fun x y => impl_calc_near n x.2.1 x.2.2.1 y.1) follows (AllOk.mem (⟨impl_zero_ok n, ⟨impl_mark_ok n, ⟨impl_calc_sub_ok n, ⟨impl_size_ok n, ⟨impl_compare_ok n, trivial⟩⟩⟩⟩⟩ : AllOk P ([impl_zeroF n, impl_markF n, impl_calc_subF n, impl_sizeF n, impl_compareF n]))) (by kernel_rfl : P.funcs[83]? = some Go.Proofs.Try.f83) (by kernel_rfl) (by kernel_rfl) (by kernel_rfl)
    (fun x y => impl_calc_near_eq n x.2.1 x.2.2.1 y.1) (fun _ _ => map_same (fun _ => rfl) _) (fun _ _ _ _ => rfl)

abbrev impl_LineThatFitssp : List Sp := [.v true (.pair (.pair (.int .i64) (.int .i64)) (.list (.pair (.int .i64) (.int .i64)))), .v true (.pair (.int .i64) .bool), .v true (.pair (.int .i64) (.int .i64))]
abbrev impl_LineThatFitsbs : List (Bs × Bool) := []
abbrev impl_LineThatFitsrs : List (Bool × List Rp) := [(false, [.v false (.int .i64)]), (false, [.v false (.int .i64)])]
noncomputable def impl_LineThatFitskp : Keep := { loop := fun id => match id with | 14 => [54, 12, 11, 5, 4, 3, 9, 53] | _ => [], join := fun id => match id with | _ => none }
noncomputable def impl_LineThatFitsc : Code := bodyOf Go.Proofs.Try.f41
noncomputable def impl_LineThatFitsF (n : Nat) : Fun := { id := 41, sp := impl_LineThatFitssp, bs := impl_LineThatFitsbs, rs := impl_LineThatFitsrs, f := fun x y => impl_LineThatFits n x.1 x.2.1 x.2.2.1 }

theorem impl_LineThatFits_l14_eq (n : Nat) : ∀ (k : Nat) (v54 : Int) (v11 : Int) (v53 : Int) (b0_0 : Int) (b0_1 : Int) (b1_0 : Int) (b1_1 : Int) (b2_0 : Int) (b2_1 : Bool) (b3_0 : Int) (b3_1 : Int) (b3_2 : List ((Int) × (Int))) (b4 : Bool), iter (interp ([impl_lineCodeF n, impl_markF n, impl_compareF n, impl_calc_lineF n, impl_zeroF n, impl_calc_nearF n]) ty 85 0 n impl_LineThatFitskp (codeAt impl_LineThatFitsc [1, 1, 1, 1, 1, 1, 1, 1, 0, 1, 0, 0])) (canon 0 (impl_LineThatFitskp.loop 14)) (kAt ([impl_lineCodeF n, impl_markF n, impl_compareF n, impl_calc_lineF n, impl_zeroF n, impl_calc_nearF n]) ty 85 0 n impl_LineThatFitskp impl_LineThatFitsc [1, 1, 1, 1, 1, 1, 1, 1, 0, 1, 0] [] (ending ty 0 Go.Proofs.Try.f41.results.toList impl_LineThatFitsrs impl_LineThatFitsbs)) k { env := [(54, .one (.sc (.int .i64 v54))), (12, .one (.ref 0 0 0 0 0 0)), (11, .one (.sc (.int .i64 v11))), (5, .one (.ref 1 0 0 0 0 0)), (4, .one (.ref 2 0 0 0 0 0)), (3, .one (.ref 3 0 0 0 0 0)), (9, .one (.ref 4 0 0 0 0 0)), (53, .one (.sc (.int .i64 v53)))], bx := [(0, .var 25 [.sc (.int .i64 b0_0), .sc (.int .i64 b0_1)]), (1, .var 25 [.sc (.int .i64 b1_0), .sc (.int .i64 b1_1)]), (2, .var 48 [.sc (.int .i64 b2_0), .sc (.bool b2_1)]), (3, .var 46 [.sc (.int .i64 b3_0), .sc (.int .i64 b3_1), .list true (.pair (.int .i64) (.int .i64)) b3_2]), (4, .var 77 [.sc (.bool b4)])], nx := 5 } = impl_LineThatFits_l14 n k v54 v11 v53 b0_0 b0_1 b1_0 b1_1 b2_0 b2_1 b3_0 b3_1 b3_2 b4
  | 0, _, _, _, _, _, _, _, _, _, _, _, _, _ => by kernel_rfl
  | k + 1, v54, v11, v53, b0_0, b0_1, b1_0, b1_1, b2_0, b2_1, b3_0, b3_1, b3_2, b4 => by
    have h : iter (interp ([impl_lineCodeF n, impl_markF n, impl_compareF n, impl_calc_lineF n, impl_zeroF n, impl_calc_nearF n]) ty 85 0 n impl_LineThatFitskp (codeAt impl_LineThatFitsc [1, 1, 1, 1, 1, 1, 1, 1, 0, 1, 0, 0])) (canon 0 (impl_LineThatFitskp.loop 14)) (kAt ([impl_lineCodeF n, impl_markF n, impl_compareF n, impl_calc_lineF n, impl_zeroF n, impl_calc_nearF n]) ty 85 0 n impl_LineThatFitskp impl_LineThatFitsc [1, 1, 1, 1, 1, 1, 1, 1, 0, 1, 0] [] (ending ty 0 Go.Proofs.Try.f41.results.toList impl_LineThatFitsrs impl_LineThatFitsbs)) (k + 1) { env := [(54, .one (.sc (.int .i64 v54))), (12, .one (.ref 0 0 0 0 0 0)), (11, .one (.sc (.int .i64 v11))), (5, .one (.ref 1 0 0 0 0 0)), (4, .one (.ref 2 0 0 0 0 0)), (3, .one (.ref 3 0 0 0 0 0)), (9, .one (.ref 4 0 0 0 0 0)), (53, .one (.sc (.int .i64 v53)))], bx := [(0, .var 25 [.sc (.int .i64 b0_0), .sc (.int .i64 b0_1)]), (1, .var 25 [.sc (.int .i64 b1_0), .sc (.int .i64 b1_1)]), (2, .var 48 [.sc (.int .i64 b2_0), .sc (.bool b2_1)]), (3, .var 46 [.sc (.int .i64 b3_0), .sc (.int .i64 b3_1), .list true (.pair (.int .i64) (.int .i64)) b3_2]), (4, .var 77 [.sc (.bool b4)])], nx := 5 } = impl_LineThatFits_t14 n (fun v54 v11 v53 b0_0 b0_1 b1_0 b1_1 b2_0 b2_1 b3_0 b3_1 b3_2 b4 => iter (interp ([impl_lineCodeF n, impl_markF n, impl_compareF n, impl_calc_lineF n, impl_zeroF n, impl_calc_nearF n]) ty 85 0 n impl_LineThatFitskp (codeAt impl_LineThatFitsc [1, 1, 1, 1, 1, 1, 1, 1, 0, 1, 0, 0])) (canon 0 (impl_LineThatFitskp.loop 14)) (kAt ([impl_lineCodeF n, impl_markF n, impl_compareF n, impl_calc_lineF n, impl_zeroF n, impl_calc_nearF n]) ty 85 0 n impl_LineThatFitskp impl_LineThatFitsc [1, 1, 1, 1, 1, 1, 1, 1, 0, 1, 0] [] (ending ty 0 Go.Proofs.Try.f41.results.toList impl_LineThatFitsrs impl_LineThatFitsbs)) k { env := [(54, .one (.sc (.int .i64 v54))), (12, .one (.ref 0 0 0 0 0 0)), (11, .one (.sc (.int .i64 v11))), (5, .one (.ref 1 0 0 0 0 0)), (4, .one (.ref 2 0 0 0 0 0)), (3, .one (.ref 3 0 0 0 0 0)), (9, .one (.ref 4 0 0 0 0 0)), (53, .one (.sc (.int .i64 v53)))], bx := [(0, .var 25 [.sc (.int .i64 b0_0), .sc (.int .i64 b0_1)]), (1, .var 25 [.sc (.int .i64 b1_0), .sc (.int .i64 b1_1)]), (2, .var 48 [.sc (.int .i64 b2_0), .sc (.bool b2_1)]), (3, .var 46 [.sc (.int .i64 b3_0), .sc (.int .i64 b3_1), .list true (.pair (.int .i64) (.int .i64)) b3_2]), (4, .var 77 [.sc (.bool b4)])], nx := 5 }) v54 v11 v53 b0_0 b0_1 b1_0 b1_1 b2_0 b2_1 b3_0 b3_1 b3_2 b4 := by kernel_rfl
    rw [h]
    have e := congrArg (fun g => impl_LineThatFits_t14 n g v54 v11 v53 b0_0 b0_1 b1_0 b1_1 b2_0 b2_1 b3_0 b3_1 b3_2 b4) (funext fun v54 => funext fun v11 => funext fun v53 => funext fun b0_0 => funext fun b0_1 => funext fun b1_0 => funext fun b1_1 => funext fun b2_0 => funext fun b2_1 => funext fun b3_0 => funext fun b3_1 => funext fun b3_2 => funext fun b4 => impl_LineThatFits_l14_eq n k v54 v11 v53 b0_0 b0_1 b1_0 b1_1 b2_0 b2_1 b3_0 b3_1 b3_2 b4)
    exact e

theorem impl_LineThatFits_eq (n : Nat) (a0 : ((Int) × (Int)) × (List ((Int) × (Int)))) (a1 : (Int) × (Bool)) (a2 : (Int) × (Int)) : runBody ([impl_lineCodeF n, impl_markF n, impl_compareF n, impl_calc_lineF n, impl_zeroF n, impl_calc_nearF n]) ty 85 n impl_LineThatFitskp impl_LineThatFitsc Go.Proofs.Try.f41.results.toList impl_LineThatFitsrs impl_LineThatFitssp impl_LineThatFitsbs (a0, (a1, (a2, ()))) () = impl_LineThatFits n a0 a1 a2 := by
  have h : runBody ([impl_lineCodeF n, impl_markF n, impl_compareF n, impl_calc_lineF n, impl_zeroF n, impl_calc_nearF n]) ty 85 n impl_LineThatFitskp impl_LineThatFitsc Go.Proofs.Try.f41.results.toList impl_LineThatFitsrs impl_LineThatFitssp impl_LineThatFitsbs (a0, (a1, (a2, ()))) () = impl_LineThatFits_t n (fun k v54 v11 v53 b0_0 b0_1 b1_0 b1_1 b2_0 b2_1 b3_0 b3_1 b3_2 b4 => iter (interp ([impl_lineCodeF n, impl_markF n, impl_compareF n, impl_calc_lineF n, impl_zeroF n, impl_calc_nearF n]) ty 85 0 n impl_LineThatFitskp (codeAt impl_LineThatFitsc [1, 1, 1, 1, 1, 1, 1, 1, 0, 1, 0, 0])) (canon 0 (impl_LineThatFitskp.loop 14)) (kAt ([impl_lineCodeF n, impl_markF n, impl_compareF n, impl_calc_lineF n, impl_zeroF n, impl_calc_nearF n]) ty 85 0 n impl_LineThatFitskp impl_LineThatFitsc [1, 1, 1, 1, 1, 1, 1, 1, 0, 1, 0] [] (ending ty 0 Go.Proofs.Try.f41.results.toList impl_LineThatFitsrs impl_LineThatFitsbs)) k { env := [(54, .one (.sc (.int .i64 v54))), (12, .one (.ref 0 0 0 0 0 0)), (11, .one (.sc (.int .i64 v11))), (5, .one (.ref 1 0 0 0 0 0)), (4, .one (.ref 2 0 0 0 0 0)), (3, .one (.ref 3 0 0 0 0 0)), (9, .one (.ref 4 0 0 0 0 0)), (53, .one (.sc (.int .i64 v53)))], bx := [(0, .var 25 [.sc (.int .i64 b0_0), .sc (.int .i64 b0_1)]), (1, .var 25 [.sc (.int .i64 b1_0), .sc (.int .i64 b1_1)]), (2, .var 48 [.sc (.int .i64 b2_0), .sc (.bool b2_1)]), (3, .var 46 [.sc (.int .i64 b3_0), .sc (.int .i64 b3_1), .list true (.pair (.int .i64) (.int .i64)) b3_2]), (4, .var 77 [.sc (.bool b4)])], nx := 5 }) a0 a1 a2 := by kernel_rfl
  rw [h]
  have e := congrArg (fun h14 => impl_LineThatFits_t n h14 a0 a1 a2) (funext fun k => funext fun v54 => funext fun v11 => funext fun v53 => funext fun b0_0 => funext fun b0_1 => funext fun b1_0 => funext fun b1_1 => funext fun b2_0 => funext fun b2_1 => funext fun b3_0 => funext fun b3_1 => funext fun b3_2 => funext fun b4 => impl_LineThatFits_l14_eq n k v54 v11 v53 b0_0 b0_1 b1_0 b1_1 b2_0 b2_1 b3_0 b3_1 b3_2 b4)
  exact e

theorem impl_LineThatFits_ok (n : Nat) : FunOk P (impl_LineThatFitsF n) :=
  funOk_mk (C := [impl_lineCodeF n, impl_markF n, impl_compareF n, impl_calc_lineF n, impl_zeroF n, impl_calc_nearF n]) (N := 85) (kp := impl_LineThatFitskp) (c := impl_LineThatFitsc) (n := n) (G := fun x y => impl_LineThatFits n x.1 x.2.1 x.2.2.1) follows (AllOk.mem (⟨impl_lineCode_ok n, ⟨impl_mark_ok n, ⟨impl_compare_ok n, ⟨impl_calc_line_ok n, ⟨impl_zero_ok n, ⟨impl_calc_near_ok n, trivial⟩⟩⟩⟩⟩⟩ : AllOk P ([impl_lineCodeF n, impl_markF n, impl_compareF n, impl_calc_lineF n, impl_zeroF n, impl_calc_nearF n]))) (by kernel_rfl : P.funcs[41]? = some Go.Proofs.Try.f41) (by kernel_rfl) (by kernel_rfl) (by kernel_rfl)
    (fun x y => impl_LineThatFits_eq n x.1 x.2.1 x.2.2.1) (fun _ _ => map_same (fun _ => rfl) _) (fun _ _ _ _ => rfl)

abbrev impl_floorDivsp : List Sp := [.v false (.int .i64), .v false (.int .i64)]
abbrev impl_floorDivbs : List (Bs × Bool) := []
abbrev impl_floorDivrs : List (Bool × List Rp) := [(false, [.v false (.int .i64)])]
noncomputable def impl_floorDivkp : Keep := { loop := fun id => match id with | _ => [], join := fun id => match id with | _ => none }
noncomputable def impl_floorDivc : Code := bodyOf Go.Proofs.Try.f84
noncomputable def impl_floorDivF (n : Nat) : Fun := { id := 84, sp := impl_floorDivsp, bs := impl_floorDivbs, rs := impl_floorDivrs, f := fun x y => impl_floorDiv n x.1 x.2.1 }

theorem impl_floorDiv_eq (n : Nat) (a0 : Int) (a1 : Int) : runBody ([]) ty 23 n impl_floorDivkp impl_floorDivc Go.Proofs.Try.f84.results.toList impl_floorDivrs impl_floorDivsp impl_floorDivbs (a0, (a1, ())) () = impl_floorDiv n a0 a1 := by
  have h : runBody ([]) ty 23 n impl_floorDivkp impl_floorDivc Go.Proofs.Try.f84.results.toList impl_floorDivrs impl_floorDivsp impl_floorDivbs (a0, (a1, ())) () = impl_floorDiv_t n a0 a1 := by kernel_rfl
  rw [h]
  rfl

theorem impl_floorDiv_ok (n : Nat) : FunOk P (impl_floorDivF n) :=
  funOk_mk (C := []) (N := 23) (kp := impl_floorDivkp) (c := impl_floorDivc) (n := n) (G := fun x y => impl_floorDiv n x.1 x.2.1) follows (AllOk.mem (trivial : AllOk P ([]))) (by kernel_rfl : P.funcs[84]? = some Go.Proofs.Try.f84) (by kernel_rfl) (by kernel_rfl) (by kernel_rfl)
    (fun x y => impl_floorDiv_eq n x.1 x.2.1) (fun _ _ => map_same (fun _ => rfl) _) (fun _ _ _ _ => rfl)

abbrev impl_nearestsp : List Sp := [.v false (.int .i64), .v false (.int .i64)]
abbrev impl_nearestbs : List (Bs × Bool) := []
abbrev impl_nearestrs : List (Bool × List Rp) := [(false, [.v false (.int .i64)]), (false, [.v false .bool])]
noncomputable def impl_nearestkp : Keep := { loop := fun id => match id with | _ => [], join := fun id => match id with | _ => none }
noncomputable def impl_nearestc : Code := bodyOf Go.Proofs.Try.f45
noncomputable def impl_nearestF (n : Nat) : Fun := { id := 45, sp := impl_nearestsp, bs := impl_nearestbs, rs := impl_nearestrs, f := fun x y => impl_nearest n x.1 x.2.1 }

theorem impl_nearest_eq (n : Nat) (a0 : Int) (a1 : Int) : runBody ([impl_floorDivF n, impl_withinF n]) ty 17 n impl_nearestkp impl_nearestc Go.Proofs.Try.f45.results.toList impl_nearestrs impl_nearestsp impl_nearestbs (a0, (a1, ())) () = impl_nearest n a0 a1 := by
  have h : runBody ([impl_floorDivF n, impl_withinF n]) ty 17 n impl_nearestkp impl_nearestc Go.Proofs.Try.f45.results.toList impl_nearestrs impl_nearestsp impl_nearestbs (a0, (a1, ())) () = impl_nearest_t n a0 a1 := by kernel_rfl
  rw [h]
  rfl

theorem impl_nearest_ok (n : Nat) : FunOk P (impl_nearestF n) :=
  funOk_mk (C := [impl_floorDivF n, impl_withinF n]) (N := 17) (kp := impl_nearestkp) (c := impl_nearestc) (n := n) (G := fun x y => impl_nearest n x.1 x.2.1) follows (AllOk.mem (⟨impl_floorDiv_ok n, ⟨impl_within_ok n, trivial⟩⟩ : AllOk P ([impl_floorDivF n, impl_withinF n]))) (by kernel_rfl : P.funcs[45]? = some Go.Proofs.Try.f45) (by kernel_rfl) (by kernel_rfl) (by kernel_rfl)
    (fun x y => impl_nearest_eq n x.1 x.2.1) (fun _ _ => map_same (fun _ => rfl) _) (fun _ _ _ _ => rfl)

abbrev impl_calc_onesp : List Sp := [.ref 0, .v true (.pair (.int .i64) (.int .i64))]
abbrev impl_calc_onebs : List (Bs × Bool) := [(.var 77 .bool, true)]
abbrev impl_calc_oners : List (Bool × List Rp) := [(true, [.v false (.pair (.int .i64) (.int .i64))]), (false, [.v false (.int .i64)])]
noncomputable def impl_calc_onekp : Keep := { loop := fun id => match id with | _ => [], join := fun id => match id with | _ => none }
noncomputable def impl_calc_onec : Code := bodyOf Go.Proofs.Try.f46
noncomputable def impl_calc_oneF (n : Nat) : Fun := { id := 46, sp := impl_calc_onesp, bs := impl_calc_onebs, rs := impl_calc_oners, f := fun x y => impl_calc_one n x.2.1 y.1 }

theorem impl_calc_one_eq (n : Nat) (a1 : (Int) × (Int)) (b0 : Bool) : runBody ([]) ty 12 n impl_calc_onekp impl_calc_onec Go.Proofs.Try.f46.results.toList impl_calc_oners impl_calc_onesp impl_calc_onebs ((), (a1, ())) (b0, ()) = impl_calc_one n a1 b0 := by
  have h : runBody ([]) ty 12 n impl_calc_onekp impl_calc_onec Go.Proofs.Try.f46.results.toList impl_calc_oners impl_calc_onesp impl_calc_onebs ((), (a1, ())) (b0, ()) = impl_calc_one_t n a1 b0 := by kernel_rfl
  rw [h]
  rfl

theorem impl_calc_one_ok (n : Nat) : FunOk P (impl_calc_oneF n) :=
  funOk_mk (C := []) (N := 12) (kp := impl_calc_onekp) (c := impl_calc_onec) (n := n) (G := fun x y => impl_calc_one n x.2.1 y.1) follows (AllOk.mem (trivial : AllOk P ([]))) (by kernel_rfl : P.funcs[46]? = some Go.Proofs.Try.f46) (by kernel_rfl) (by kernel_rfl) (by kernel_rfl)
    (fun x y => impl_calc_one_eq n x.2.1 y.1) (fun _ _ => map_same (fun _ => rfl) _) (fun _ _ _ _ => rfl)

abbrev impl_ReadVerniersp : List Sp := [.v true (.pair (.pair (.int .i64) (.int .i64)) (.list (.pair (.int .i64) (.int .i64)))), .v true (.pair (.int .i64) .bool), .v true (.pair (.int .i64) (.int .i64))]
abbrev impl_ReadVernierbs : List (Bs × Bool) := []
abbrev impl_ReadVernierrs : List (Bool × List Rp) := [(true, [.v false (.pair (.int .i64) (.int .i64))]), (false, [.v false (.int .i64)])]
noncomputable def impl_ReadVernierkp : Keep := { loop := fun id => match id with | _ => [], join := fun id => match id with | _ => none }
noncomputable def impl_ReadVernierc : Code := bodyOf Go.Proofs.Try.f17
noncomputable def impl_ReadVernierF (n : Nat) : Fun := { id := 17, sp := impl_ReadVerniersp, bs := impl_ReadVernierbs, rs := impl_ReadVernierrs, f := fun x y => impl_ReadVernier n x.1 x.2.1 x.2.2.1 }

theorem impl_ReadVernier_eq (n : Nat) (a0 : ((Int) × (Int)) × (List ((Int) × (Int)))) (a1 : (Int) × (Bool)) (a2 : (Int) × (Int)) : runBody ([impl_LineThatFitsF n, impl_numF n, impl_calc_divF n, impl_calc_mulF n, impl_calc_subF n, impl_nearestF n, impl_calc_addF n, impl_calc_oneF n]) ty 85 n impl_ReadVernierkp impl_ReadVernierc Go.Proofs.Try.f17.results.toList impl_ReadVernierrs impl_ReadVerniersp impl_ReadVernierbs (a0, (a1, (a2, ()))) () = impl_ReadVernier n a0 a1 a2 := by
  have h : runBody ([impl_LineThatFitsF n, impl_numF n, impl_calc_divF n, impl_calc_mulF n, impl_calc_subF n, impl_nearestF n, impl_calc_addF n, impl_calc_oneF n]) ty 85 n impl_ReadVernierkp impl_ReadVernierc Go.Proofs.Try.f17.results.toList impl_ReadVernierrs impl_ReadVerniersp impl_ReadVernierbs (a0, (a1, (a2, ()))) () = impl_ReadVernier_t n a0 a1 a2 := by kernel_rfl
  rw [h]
  rfl

theorem impl_ReadVernier_ok (n : Nat) : FunOk P (impl_ReadVernierF n) :=
  funOk_mk (C := [impl_LineThatFitsF n, impl_numF n, impl_calc_divF n, impl_calc_mulF n, impl_calc_subF n, impl_nearestF n, impl_calc_addF n, impl_calc_oneF n]) (N := 85) (kp := impl_ReadVernierkp) (c := impl_ReadVernierc) (n := n) (G := fun x y => impl_ReadVernier n x.1 x.2.1 x.2.2.1) follows (AllOk.mem (⟨impl_LineThatFits_ok n, ⟨impl_num_ok n, ⟨impl_calc_div_ok n, ⟨impl_calc_mul_ok n, ⟨impl_calc_sub_ok n, ⟨impl_nearest_ok n, ⟨impl_calc_add_ok n, ⟨impl_calc_one_ok n, trivial⟩⟩⟩⟩⟩⟩⟩⟩ : AllOk P ([impl_LineThatFitsF n, impl_numF n, impl_calc_divF n, impl_calc_mulF n, impl_calc_subF n, impl_nearestF n, impl_calc_addF n, impl_calc_oneF n]))) (by kernel_rfl : P.funcs[17]? = some Go.Proofs.Try.f17) (by kernel_rfl) (by kernel_rfl) (by kernel_rfl)
    (fun x y => impl_ReadVernier_eq n x.1 x.2.1 x.2.2.1) (fun _ _ => map_same (fun _ => rfl) _) (fun _ _ _ _ => rfl)

abbrev laws_eqFracsp : List Sp := [.v true (.pair (.int .i64) (.int .i64)), .v true (.pair (.int .i64) (.int .i64))]
abbrev laws_eqFracbs : List (Bs × Bool) := []
abbrev laws_eqFracrs : List (Bool × List Rp) := [(false, [.v false .bool])]
noncomputable def laws_eqFrackp : Keep := { loop := fun id => match id with | _ => [], join := fun id => match id with | _ => none }
noncomputable def laws_eqFracc : Code := bodyOf Go.Proofs.Try.f18
noncomputable def laws_eqFracF (n : Nat) : Fun := { id := 18, sp := laws_eqFracsp, bs := laws_eqFracbs, rs := laws_eqFracrs, f := fun x y => laws_eqFrac n x.1 x.2.1 }

theorem laws_eqFrac_eq (n : Nat) (a0 : (Int) × (Int)) (a1 : (Int) × (Int)) : runBody ([]) ty 15 n laws_eqFrackp laws_eqFracc Go.Proofs.Try.f18.results.toList laws_eqFracrs laws_eqFracsp laws_eqFracbs (a0, (a1, ())) () = laws_eqFrac n a0 a1 := by
  have h : runBody ([]) ty 15 n laws_eqFrackp laws_eqFracc Go.Proofs.Try.f18.results.toList laws_eqFracrs laws_eqFracsp laws_eqFracbs (a0, (a1, ())) () = laws_eqFrac_t n a0 a1 := by kernel_rfl
  rw [h]
  rfl

theorem laws_eqFrac_ok (n : Nat) : FunOk P (laws_eqFracF n) :=
  funOk_mk (C := []) (N := 15) (kp := laws_eqFrackp) (c := laws_eqFracc) (n := n) (G := fun x y => laws_eqFrac n x.1 x.2.1) follows (AllOk.mem (trivial : AllOk P ([]))) (by kernel_rfl : P.funcs[18]? = some Go.Proofs.Try.f18) (by kernel_rfl) (by kernel_rfl) (by kernel_rfl)
    (fun x y => laws_eqFrac_eq n x.1 x.2.1) (fun _ _ => map_same (fun _ => rfl) _) (fun _ _ _ _ => rfl)

abbrev laws_eqFracSsp : List Sp := [.v false (.list (.pair (.int .i64) (.int .i64))), .v false (.list (.pair (.int .i64) (.int .i64)))]
abbrev laws_eqFracSbs : List (Bs × Bool) := []
abbrev laws_eqFracSrs : List (Bool × List Rp) := [(false, [.v false .bool])]
noncomputable def laws_eqFracSkp : Keep := { loop := fun id => match id with | 4 => [5, 1, 0] | _ => [], join := fun id => match id with | _ => none }
noncomputable def laws_eqFracSc : Code := bodyOf Go.Proofs.Try.f48
noncomputable def laws_eqFracSF (n : Nat) : Fun := { id := 48, sp := laws_eqFracSsp, bs := laws_eqFracSbs, rs := laws_eqFracSrs, f := fun x y => laws_eqFracS n x.1 x.2.1 }

theorem laws_eqFracS_l4_eq (n : Nat) : ∀ (k : Nat) (v5 : Int) (v1 : List ((Int) × (Int))) (v0 : List ((Int) × (Int))), iter (interp ([laws_eqFracF n]) ty 27 0 n laws_eqFracSkp (codeAt laws_eqFracSc [1, 1, 0, 1, 0, 0])) (canon 0 (laws_eqFracSkp.loop 4)) (kAt ([laws_eqFracF n]) ty 27 0 n laws_eqFracSkp laws_eqFracSc [1, 1, 0, 1, 0] [] (ending ty 0 Go.Proofs.Try.f48.results.toList laws_eqFracSrs laws_eqFracSbs)) k { env := [(5, .one (.sc (.int .i64 v5))), (1, .one (.list true (.pair (.int .i64) (.int .i64)) v1)), (0, .one (.list true (.pair (.int .i64) (.int .i64)) v0))], bx := [], nx := 0 } = laws_eqFracS_l4 n k v5 v1 v0
  | 0, _, _, _ => by kernel_rfl
  | k + 1, v5, v1, v0 => by
    have h : iter (interp ([laws_eqFracF n]) ty 27 0 n laws_eqFracSkp (codeAt laws_eqFracSc [1, 1, 0, 1, 0, 0])) (canon 0 (laws_eqFracSkp.loop 4)) (kAt ([laws_eqFracF n]) ty 27 0 n laws_eqFracSkp laws_eqFracSc [1, 1, 0, 1, 0] [] (ending ty 0 Go.Proofs.Try.f48.results.toList laws_eqFracSrs laws_eqFracSbs)) (k + 1) { env := [(5, .one (.sc (.int .i64 v5))), (1, .one (.list true (.pair (.int .i64) (.int .i64)) v1)), (0, .one (.list true (.pair (.int .i64) (.int .i64)) v0))], bx := [], nx := 0 } = laws_eqFracS_t4 n (fun v5 v1 v0 => iter (interp ([laws_eqFracF n]) ty 27 0 n laws_eqFracSkp (codeAt laws_eqFracSc [1, 1, 0, 1, 0, 0])) (canon 0 (laws_eqFracSkp.loop 4)) (kAt ([laws_eqFracF n]) ty 27 0 n laws_eqFracSkp laws_eqFracSc [1, 1, 0, 1, 0] [] (ending ty 0 Go.Proofs.Try.f48.results.toList laws_eqFracSrs laws_eqFracSbs)) k { env := [(5, .one (.sc (.int .i64 v5))), (1, .one (.list true (.pair (.int .i64) (.int .i64)) v1)), (0, .one (.list true (.pair (.int .i64) (.int .i64)) v0))], bx := [], nx := 0 }) v5 v1 v0 := by kernel_rfl
    rw [h]
    have e := congrArg (fun g => laws_eqFracS_t4 n g v5 v1 v0) (funext fun v5 => funext fun v1 => funext fun v0 => laws_eqFracS_l4_eq n k v5 v1 v0)
    exact e

theorem laws_eqFracS_eq (n : Nat) (a0 : List ((Int) × (Int))) (a1 : List ((Int) × (Int))) : runBody ([laws_eqFracF n]) ty 27 n laws_eqFracSkp laws_eqFracSc Go.Proofs.Try.f48.results.toList laws_eqFracSrs laws_eqFracSsp laws_eqFracSbs (a0, (a1, ())) () = laws_eqFracS n a0 a1 := by
  have h : runBody ([laws_eqFracF n]) ty 27 n laws_eqFracSkp laws_eqFracSc Go.Proofs.Try.f48.results.toList laws_eqFracSrs laws_eqFracSsp laws_eqFracSbs (a0, (a1, ())) () = laws_eqFracS_t n (fun k v5 v1 v0 => iter (interp ([laws_eqFracF n]) ty 27 0 n laws_eqFracSkp (codeAt laws_eqFracSc [1, 1, 0, 1, 0, 0])) (canon 0 (laws_eqFracSkp.loop 4)) (kAt ([laws_eqFracF n]) ty 27 0 n laws_eqFracSkp laws_eqFracSc [1, 1, 0, 1, 0] [] (ending ty 0 Go.Proofs.Try.f48.results.toList laws_eqFracSrs laws_eqFracSbs)) k { env := [(5, .one (.sc (.int .i64 v5))), (1, .one (.list true (.pair (.int .i64) (.int .i64)) v1)), (0, .one (.list true (.pair (.int .i64) (.int .i64)) v0))], bx := [], nx := 0 }) a0 a1 := by kernel_rfl
  rw [h]
  have e := congrArg (fun h4 => laws_eqFracS_t n h4 a0 a1) (funext fun k => funext fun v5 => funext fun v1 => funext fun v0 => laws_eqFracS_l4_eq n k v5 v1 v0)
  exact e

theorem laws_eqFracS_ok (n : Nat) : FunOk P (laws_eqFracSF n) :=
  funOk_mk (C := [laws_eqFracF n]) (N := 27) (kp := laws_eqFracSkp) (c := laws_eqFracSc) (n := n) (G := fun x y => laws_eqFracS n x.1 x.2.1) follows (AllOk.mem (⟨laws_eqFrac_ok n, trivial⟩ : AllOk P ([laws_eqFracF n]))) (by kernel_rfl : P.funcs[48]? = some Go.Proofs.Try.f48) (by kernel_rfl) (by kernel_rfl) (by kernel_rfl)
    (fun x y => laws_eqFracS_eq n x.1 x.2.1) (fun _ _ => map_same (fun _ => rfl) _) (fun _ _ _ _ => rfl)

abbrev laws_eqScalesp : List Sp := [.v true (.pair (.pair (.int .i64) (.int .i64)) (.list (.pair (.int .i64) (.int .i64)))), .v true (.pair (.pair (.int .i64) (.int .i64)) (.list (.pair (.int .i64) (.int .i64))))]
abbrev laws_eqScalebs : List (Bs × Bool) := []
abbrev laws_eqScalers : List (Bool × List Rp) := [(false, [.v false .bool])]
noncomputable def laws_eqScalekp : Keep := { loop := fun id => match id with | _ => [], join := fun id => match id with | _ => none }
noncomputable def laws_eqScalec : Code := bodyOf Go.Proofs.Try.f19
noncomputable def laws_eqScaleF (n : Nat) : Fun := { id := 19, sp := laws_eqScalesp, bs := laws_eqScalebs, rs := laws_eqScalers, f := fun x y => laws_eqScale n x.1 x.2.1 }

theorem laws_eqScale_eq (n : Nat) (a0 : ((Int) × (Int)) × (List ((Int) × (Int)))) (a1 : ((Int) × (Int)) × (List ((Int) × (Int)))) : runBody ([laws_eqFracF n, laws_eqFracSF n]) ty 17 n laws_eqScalekp laws_eqScalec Go.Proofs.Try.f19.results.toList laws_eqScalers laws_eqScalesp laws_eqScalebs (a0, (a1, ())) () = laws_eqScale n a0 a1 := by
  have h : runBody ([laws_eqFracF n, laws_eqFracSF n]) ty 17 n laws_eqScalekp laws_eqScalec Go.Proofs.Try.f19.results.toList laws_eqScalers laws_eqScalesp laws_eqScalebs (a0, (a1, ())) () = laws_eqScale_t n a0 a1 := by kernel_rfl
  rw [h]
  rfl

theorem laws_eqScale_ok (n : Nat) : FunOk P (laws_eqScaleF n) :=
  funOk_mk (C := [laws_eqFracF n, laws_eqFracSF n]) (N := 17) (kp := laws_eqScalekp) (c := laws_eqScalec) (n := n) (G := fun x y => laws_eqScale n x.1 x.2.1) follows (AllOk.mem (⟨laws_eqFrac_ok n, ⟨laws_eqFracS_ok n, trivial⟩⟩ : AllOk P ([laws_eqFracF n, laws_eqFracSF n]))) (by kernel_rfl : P.funcs[19]? = some Go.Proofs.Try.f19) (by kernel_rfl) (by kernel_rfl) (by kernel_rfl)
    (fun x y => laws_eqScale_eq n x.1 x.2.1) (fun _ _ => map_same (fun _ => rfl) _) (fun _ _ _ _ => rfl)

abbrev laws_FnExactReadVerniersp : List Sp := [.v true (.pair (.pair (.int .i64) (.int .i64)) (.list (.pair (.int .i64) (.int .i64)))), .v true (.pair (.int .i64) .bool), .v true (.pair (.int .i64) (.int .i64))]
abbrev laws_FnExactReadVernierbs : List (Bs × Bool) := []
abbrev laws_FnExactReadVernierrs : List (Bool × List Rp) := [(false, [.v false .bool])]
noncomputable def laws_FnExactReadVernierkp : Keep := { loop := fun id => match id with | _ => [], join := fun id => match id with | _ => none }
noncomputable def laws_FnExactReadVernierc : Code := bodyOf Go.Proofs.Try.f4
noncomputable def laws_FnExactReadVernierF (n : Nat) : Fun := { id := 4, sp := laws_FnExactReadVerniersp, bs := laws_FnExactReadVernierbs, rs := laws_FnExactReadVernierrs, f := fun x y => laws_FnExactReadVernier n x.1 x.2.1 x.2.2.1 }

theorem laws_FnExactReadVernier_eq (n : Nat) (a0 : ((Int) × (Int)) × (List ((Int) × (Int)))) (a1 : (Int) × (Bool)) (a2 : (Int) × (Int)) : runBody ([laws_szScaleF n, laws_toScaleF n, laws_toVernierF n, laws_toFracF n, spec_ReadVernierF n, impl_ReadVernierF n, laws_eqFracF n, laws_eqScaleF n]) ty 53 n laws_FnExactReadVernierkp laws_FnExactReadVernierc Go.Proofs.Try.f4.results.toList laws_FnExactReadVernierrs laws_FnExactReadVerniersp laws_FnExactReadVernierbs (a0, (a1, (a2, ()))) () = laws_FnExactReadVernier n a0 a1 a2 := by
  have h : runBody ([laws_szScaleF n, laws_toScaleF n, laws_toVernierF n, laws_toFracF n, spec_ReadVernierF n, impl_ReadVernierF n, laws_eqFracF n, laws_eqScaleF n]) ty 53 n laws_FnExactReadVernierkp laws_FnExactReadVernierc Go.Proofs.Try.f4.results.toList laws_FnExactReadVernierrs laws_FnExactReadVerniersp laws_FnExactReadVernierbs (a0, (a1, (a2, ()))) () = laws_FnExactReadVernier_t n a0 a1 a2 := by kernel_rfl
  rw [h]
  rfl

theorem laws_FnExactReadVernier_ok (n : Nat) : FunOk P (laws_FnExactReadVernierF n) :=
  funOk_mk (C := [laws_szScaleF n, laws_toScaleF n, laws_toVernierF n, laws_toFracF n, spec_ReadVernierF n, impl_ReadVernierF n, laws_eqFracF n, laws_eqScaleF n]) (N := 53) (kp := laws_FnExactReadVernierkp) (c := laws_FnExactReadVernierc) (n := n) (G := fun x y => laws_FnExactReadVernier n x.1 x.2.1 x.2.2.1) follows (AllOk.mem (⟨laws_szScale_ok n, ⟨laws_toScale_ok n, ⟨laws_toVernier_ok n, ⟨laws_toFrac_ok n, ⟨spec_ReadVernier_ok n, ⟨impl_ReadVernier_ok n, ⟨laws_eqFrac_ok n, ⟨laws_eqScale_ok n, trivial⟩⟩⟩⟩⟩⟩⟩⟩ : AllOk P ([laws_szScaleF n, laws_toScaleF n, laws_toVernierF n, laws_toFracF n, spec_ReadVernierF n, impl_ReadVernierF n, laws_eqFracF n, laws_eqScaleF n]))) (by kernel_rfl : P.funcs[4]? = some Go.Proofs.Try.f4) (by kernel_rfl) (by kernel_rfl) (by kernel_rfl)
    (fun x y => laws_FnExactReadVernier_eq n x.1 x.2.1 x.2.2.1) (fun _ _ => map_same (fun _ => rfl) _) (fun _ _ _ _ => rfl)

end Go.Abs
