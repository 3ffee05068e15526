import Derived.Test.YtipjecagbndhbaaDPairTable1
import Derived.Test.YtipjecagbndhbaaProg
import Derived.Test.YtipjecagbndhbaaRow
import Derived.KernelRfl
namespace Go.Abs
open Go.Proofs
set_option maxRecDepth 100000
set_option linter.unusedVariables false

noncomputable abbrev P : Program := Try.prog
noncomputable abbrev ty : Nat → Option TyI := tyOf P
def bodyOf (f : Func) : Code := match f.body with | some c => c | none => .skip
theorem follows : P.follows .mixedOrders = true := by kernel_rfl

abbrev laws_szFracSsp : List Sp := [.v false (.list (.pair (.int .i64) (.int .i64))), .v false (.int .i64)]
abbrev laws_szFracSbs : List (Bs × Bool) := []
abbrev laws_szFracSrs : List (Bool × List Rp) := [(false, [.v false (.int .i64)])]
noncomputable def laws_szFracSkp : Keep := { loop := fun id => match id with | _ => ([], []), join := fun id => match id with | _ => none }
noncomputable def laws_szFracSc : Code := bodyOf Go.Proofs.Try.f216
noncomputable def laws_szFracSF (n : Nat) : Fun := { id := 216, sp := laws_szFracSsp, bs := laws_szFracSbs, rs := laws_szFracSrs, f := fun x y => laws_szFracS n x.1 x.2.1 }

theorem laws_szFracS_eq (n : Nat) (a0 : List ((Int) × (Int))) (a1 : Int) : runBody ([]) ty 12 n laws_szFracSkp laws_szFracSc Go.Proofs.Try.f216.results.toList laws_szFracSrs laws_szFracSsp laws_szFracSbs (a0, (a1, ())) () = laws_szFracS n a0 a1 := by
  have h : runBody ([]) ty 12 n laws_szFracSkp laws_szFracSc Go.Proofs.Try.f216.results.toList laws_szFracSrs laws_szFracSsp laws_szFracSbs (a0, (a1, ())) () = laws_szFracS_t n a0 a1 := by kernel_rfl
  rw [h]
  rfl

theorem laws_szFracS_ok (n : Nat) : FunOk P (laws_szFracSF n) :=
  funOk_mk (C := []) (N := 12) (kp := laws_szFracSkp) (c := laws_szFracSc) (n := n) (G := fun x y => laws_szFracS n x.1 x.2.1) follows (AllOk.mem (trivial : AllOk P ([]))) (by kernel_rfl : P.funcs[216]? = some Go.Proofs.Try.f216) (by kernel_rfl) (by kernel_rfl) (by kernel_rfl)
    (fun x y => laws_szFracS_eq n x.1 x.2.1) (fun _ _ => map_same (fun _ => rfl) _) (fun _ _ _ _ => rfl)

abbrev laws_szScalesp : List Sp := [.v true (.pair (.pair (.int .i64) (.int .i64)) (.list (.pair (.int .i64) (.int .i64)))), .v false (.int .i64)]
abbrev laws_szScalebs : List (Bs × Bool) := []
abbrev laws_szScalers : List (Bool × List Rp) := [(false, [.v false (.int .i64)])]
noncomputable def laws_szScalekp : Keep := { loop := fun id => match id with | _ => ([], []), join := fun id => match id with | _ => none }
noncomputable def laws_szScalec : Code := bodyOf Go.Proofs.Try.f96
noncomputable def laws_szScaleF (n : Nat) : Fun := { id := 96, sp := laws_szScalesp, bs := laws_szScalebs, rs := laws_szScalers, f := fun x y => laws_szScale n x.1 x.2.1 }

theorem laws_szScale_eq (n : Nat) (a0 : ((Int) × (Int)) × (List ((Int) × (Int)))) (a1 : Int) : runBody ([laws_szFracSF n]) ty 12 n laws_szScalekp laws_szScalec Go.Proofs.Try.f96.results.toList laws_szScalers laws_szScalesp laws_szScalebs (a0, (a1, ())) () = laws_szScale n a0 a1 := by
  have h : runBody ([laws_szFracSF n]) ty 12 n laws_szScalekp laws_szScalec Go.Proofs.Try.f96.results.toList laws_szScalers laws_szScalesp laws_szScalebs (a0, (a1, ())) () = laws_szScale_t n a0 a1 := by kernel_rfl
  rw [h]
  rfl

theorem laws_szScale_ok (n : Nat) : FunOk P (laws_szScaleF n) :=
  funOk_mk (C := [laws_szFracSF n]) (N := 12) (kp := laws_szScalekp) (c := laws_szScalec) (n := n) (G := fun x y => laws_szScale n x.1 x.2.1) follows (AllOk.mem (⟨laws_szFracS_ok n, trivial⟩ : AllOk P ([laws_szFracSF n]))) (by kernel_rfl : P.funcs[96]? = some Go.Proofs.Try.f96) (by kernel_rfl) (by kernel_rfl) (by kernel_rfl)
    (fun x y => laws_szScale_eq n x.1 x.2.1) (fun _ _ => map_same (fun _ => rfl) _) (fun _ _ _ _ => rfl)

abbrev laws_toFracsp : List Sp := [.v true (.pair (.int .i64) (.int .i64))]
abbrev laws_toFracbs : List (Bs × Bool) := []
abbrev laws_toFracrs : List (Bool × List Rp) := [(true, [.v false (.pair (.int .i64) (.int .i64))])]
noncomputable def laws_toFrackp : Keep := { loop := fun id => match id with | _ => ([], []), join := fun id => match id with | _ => none }
noncomputable def laws_toFracc : Code := bodyOf Go.Proofs.Try.f219
noncomputable def laws_toFracF (n : Nat) : Fun := { id := 219, sp := laws_toFracsp, bs := laws_toFracbs, rs := laws_toFracrs, f := fun x y => laws_toFrac n x.1 }

theorem laws_toFrac_eq (n : Nat) (a0 : (Int) × (Int)) : runBody ([]) ty 11 n laws_toFrackp laws_toFracc Go.Proofs.Try.f219.results.toList laws_toFracrs laws_toFracsp laws_toFracbs (a0, ()) () = laws_toFrac n a0 := by
  have h : runBody ([]) ty 11 n laws_toFrackp laws_toFracc Go.Proofs.Try.f219.results.toList laws_toFracrs laws_toFracsp laws_toFracbs (a0, ()) () = laws_toFrac_t n a0 := by kernel_rfl
  rw [h]
  rfl

theorem laws_toFrac_ok (n : Nat) : FunOk P (laws_toFracF n) :=
  funOk_mk (C := []) (N := 11) (kp := laws_toFrackp) (c := laws_toFracc) (n := n) (G := fun x y => laws_toFrac n x.1) follows (AllOk.mem (trivial : AllOk P ([]))) (by kernel_rfl : P.funcs[219]? = some Go.Proofs.Try.f219) (by kernel_rfl) (by kernel_rfl) (by kernel_rfl)
    (fun x y => laws_toFrac_eq n x.1) (fun _ _ => map_same (fun _ => rfl) _) (fun _ _ _ _ => rfl)

abbrev laws_toFracSsp : List Sp := [.v false (.list (.pair (.int .i64) (.int .i64)))]
abbrev laws_toFracSbs : List (Bs × Bool) := []
abbrev laws_toFracSrs : List (Bool × List Rp) := [(false, [.new  (.pair (.int .i64) (.int .i64))])]
noncomputable def laws_toFracSkp : Keep := { loop := fun id => match id with | 3 => ([4, 0, 3], []) | _ => ([], []), join := fun id => match id with | _ => none }
noncomputable def laws_toFracSc : Code := bodyOf Go.Proofs.Try.f220
noncomputable def laws_toFracSF (n : Nat) : Fun := { id := 220, sp := laws_toFracSsp, bs := laws_toFracSbs, rs := laws_toFracSrs, f := fun x y => laws_toFracS n x.1 }

theorem laws_toFracS_l3_eq (n : Nat) : ∀ (k : Nat) (v4 : Int) (v0 : List ((Int) × (Int))) (b0 : List ((Int) × (Int))), iter (interp ([laws_toFracF n]) ty 23 0 n laws_toFracSkp (codeAt laws_toFracSc [1, 1, 0, 1, 0, 0])) (canon 0 (laws_toFracSkp.loop 3)) (kAt ([laws_toFracF n]) ty 23 0 n laws_toFracSkp laws_toFracSc [1, 1, 0, 1, 0] [] (ending ty 0 Go.Proofs.Try.f220.results.toList laws_toFracSrs laws_toFracSbs)) k { env := [(4, .one (.sc (.int .i64 v4))), (0, .one (.list true (.pair (.int .i64) (.int .i64)) v0)), (3, .one (.slice 0 0 none))], bx := [(0, .row 0 (.pair (.int .i64) (.int .i64)) b0)], nx := 1 } = laws_toFracS_l3 n k v4 v0 b0
  | 0, _, _, _ => by kernel_rfl
  | k + 1, v4, v0, b0 => by
    have h : iter (interp ([laws_toFracF n]) ty 23 0 n laws_toFracSkp (codeAt laws_toFracSc [1, 1, 0, 1, 0, 0])) (canon 0 (laws_toFracSkp.loop 3)) (kAt ([laws_toFracF n]) ty 23 0 n laws_toFracSkp laws_toFracSc [1, 1, 0, 1, 0] [] (ending ty 0 Go.Proofs.Try.f220.results.toList laws_toFracSrs laws_toFracSbs)) (k + 1) { env := [(4, .one (.sc (.int .i64 v4))), (0, .one (.list true (.pair (.int .i64) (.int .i64)) v0)), (3, .one (.slice 0 0 none))], bx := [(0, .row 0 (.pair (.int .i64) (.int .i64)) b0)], nx := 1 } = laws_toFracS_t3 n (fun v4 v0 b0 => iter (interp ([laws_toFracF n]) ty 23 0 n laws_toFracSkp (codeAt laws_toFracSc [1, 1, 0, 1, 0, 0])) (canon 0 (laws_toFracSkp.loop 3)) (kAt ([laws_toFracF n]) ty 23 0 n laws_toFracSkp laws_toFracSc [1, 1, 0, 1, 0] [] (ending ty 0 Go.Proofs.Try.f220.results.toList laws_toFracSrs laws_toFracSbs)) k { env := [(4, .one (.sc (.int .i64 v4))), (0, .one (.list true (.pair (.int .i64) (.int .i64)) v0)), (3, .one (.slice 0 0 none))], bx := [(0, .row 0 (.pair (.int .i64) (.int .i64)) b0)], nx := 1 }) v4 v0 b0 := by kernel_rfl
    rw [h]
    have e := congrArg (fun g => laws_toFracS_t3 n g v4 v0 b0) (funext fun v4 => funext fun v0 => funext fun b0 => laws_toFracS_l3_eq n k v4 v0 b0)
    exact e

theorem laws_toFracS_eq (n : Nat) (a0 : List ((Int) × (Int))) : runBody ([laws_toFracF n]) ty 23 n laws_toFracSkp laws_toFracSc Go.Proofs.Try.f220.results.toList laws_toFracSrs laws_toFracSsp laws_toFracSbs (a0, ()) () = laws_toFracS n a0 := by
  have h : runBody ([laws_toFracF n]) ty 23 n laws_toFracSkp laws_toFracSc Go.Proofs.Try.f220.results.toList laws_toFracSrs laws_toFracSsp laws_toFracSbs (a0, ()) () = laws_toFracS_t n (fun k v4 v0 b0 => iter (interp ([laws_toFracF n]) ty 23 0 n laws_toFracSkp (codeAt laws_toFracSc [1, 1, 0, 1, 0, 0])) (canon 0 (laws_toFracSkp.loop 3)) (kAt ([laws_toFracF n]) ty 23 0 n laws_toFracSkp laws_toFracSc [1, 1, 0, 1, 0] [] (ending ty 0 Go.Proofs.Try.f220.results.toList laws_toFracSrs laws_toFracSbs)) k { env := [(4, .one (.sc (.int .i64 v4))), (0, .one (.list true (.pair (.int .i64) (.int .i64)) v0)), (3, .one (.slice 0 0 none))], bx := [(0, .row 0 (.pair (.int .i64) (.int .i64)) b0)], nx := 1 }) a0 := by kernel_rfl
  rw [h]
  have e := congrArg (fun h3 => laws_toFracS_t n h3 a0) (funext fun k => funext fun v4 => funext fun v0 => funext fun b0 => laws_toFracS_l3_eq n k v4 v0 b0)
  exact e

theorem laws_toFracS_ok (n : Nat) : FunOk P (laws_toFracSF n) :=
  funOk_mk (C := [laws_toFracF n]) (N := 23) (kp := laws_toFracSkp) (c := laws_toFracSc) (n := n) (G := fun x y => laws_toFracS n x.1) follows (AllOk.mem (⟨laws_toFrac_ok n, trivial⟩ : AllOk P ([laws_toFracF n]))) (by kernel_rfl : P.funcs[220]? = some Go.Proofs.Try.f220) (by kernel_rfl) (by kernel_rfl) (by kernel_rfl)
    (fun x y => laws_toFracS_eq n x.1) (fun _ _ => map_same (fun _ => rfl) _) (fun _ _ _ _ => rfl)

abbrev laws_toScalesp : List Sp := [.v true (.pair (.pair (.int .i64) (.int .i64)) (.list (.pair (.int .i64) (.int .i64))))]
abbrev laws_toScalebs : List (Bs × Bool) := []
abbrev laws_toScalers : List (Bool × List Rp) := [(true, [.v false (.pair (.int .i64) (.int .i64)), .new (.pair (.int .i64) (.int .i64))])]
noncomputable def laws_toScalekp : Keep := { loop := fun id => match id with | _ => ([], []), join := fun id => match id with | _ => none }
noncomputable def laws_toScalec : Code := bodyOf Go.Proofs.Try.f98
noncomputable def laws_toScaleF (n : Nat) : Fun := { id := 98, sp := laws_toScalesp, bs := laws_toScalebs, rs := laws_toScalers, f := fun x y => laws_toScale n x.1 }

theorem laws_toScale_eq (n : Nat) (a0 : ((Int) × (Int)) × (List ((Int) × (Int)))) : runBody ([laws_toFracF n, laws_toFracSF n]) ty 13 n laws_toScalekp laws_toScalec Go.Proofs.Try.f98.results.toList laws_toScalers laws_toScalesp laws_toScalebs (a0, ()) () = laws_toScale n a0 := by
  have h : runBody ([laws_toFracF n, laws_toFracSF n]) ty 13 n laws_toScalekp laws_toScalec Go.Proofs.Try.f98.results.toList laws_toScalers laws_toScalesp laws_toScalebs (a0, ()) () = laws_toScale_t n a0 := by kernel_rfl
  rw [h]
  rfl

theorem laws_toScale_ok (n : Nat) : FunOk P (laws_toScaleF n) :=
  funOk_mk (C := [laws_toFracF n, laws_toFracSF n]) (N := 13) (kp := laws_toScalekp) (c := laws_toScalec) (n := n) (G := fun x y => laws_toScale n x.1) follows (AllOk.mem (⟨laws_toFrac_ok n, ⟨laws_toFracS_ok n, trivial⟩⟩ : AllOk P ([laws_toFracF n, laws_toFracSF n]))) (by kernel_rfl : P.funcs[98]? = some Go.Proofs.Try.f98) (by kernel_rfl) (by kernel_rfl) (by kernel_rfl)
    (fun x y => laws_toScale_eq n x.1) (fun _ _ => map_same (fun _ => rfl) _) (fun _ _ _ _ => rfl)

abbrev spec_l00Insp : List Sp := [.v false (.int .i64), .v false (.int .i64), .v false (.int .i64)]
abbrev spec_l00Inbs : List (Bs × Bool) := []
abbrev spec_l00Inrs : List (Bool × List Rp) := [(false, [.v false .bool])]
noncomputable def spec_l00Inkp : Keep := { loop := fun id => match id with | _ => ([], []), join := fun id => match id with | _ => none }
noncomputable def spec_l00Inc : Code := bodyOf Go.Proofs.Try.f128
noncomputable def spec_l00InF (n : Nat) : Fun := { id := 128, sp := spec_l00Insp, bs := spec_l00Inbs, rs := spec_l00Inrs, f := fun x y => spec_l00In n x.1 x.2.1 x.2.2.1 }

theorem spec_l00In_eq (n : Nat) (a0 : Int) (a1 : Int) (a2 : Int) : runBody ([]) ty 15 n spec_l00Inkp spec_l00Inc Go.Proofs.Try.f128.results.toList spec_l00Inrs spec_l00Insp spec_l00Inbs (a0, (a1, (a2, ()))) () = spec_l00In n a0 a1 a2 := by
  have h : runBody ([]) ty 15 n spec_l00Inkp spec_l00Inc Go.Proofs.Try.f128.results.toList spec_l00Inrs spec_l00Insp spec_l00Inbs (a0, (a1, (a2, ()))) () = spec_l00In_t n a0 a1 a2 := by kernel_rfl
  rw [h]
  rfl

theorem spec_l00In_ok (n : Nat) : FunOk P (spec_l00InF n) :=
  funOk_mk (C := []) (N := 15) (kp := spec_l00Inkp) (c := spec_l00Inc) (n := n) (G := fun x y => spec_l00In n x.1 x.2.1 x.2.2.1) follows (AllOk.mem (trivial : AllOk P ([]))) (by kernel_rfl : P.funcs[128]? = some Go.Proofs.Try.f128) (by kernel_rfl) (by kernel_rfl) (by kernel_rfl)
    (fun x y => spec_l00In_eq n x.1 x.2.1 x.2.2.1) (fun _ _ => map_same (fun _ => rfl) _) (fun _ _ _ _ => rfl)

abbrev spec_l01Abssp : List Sp := [.v false (.int .i64)]
abbrev spec_l01Absbs : List (Bs × Bool) := []
abbrev spec_l01Absrs : List (Bool × List Rp) := [(false, [.v false (.int .i64)])]
noncomputable def spec_l01Abskp : Keep := { loop := fun id => match id with | _ => ([], []), join := fun id => match id with | _ => none }
noncomputable def spec_l01Absc : Code := bodyOf Go.Proofs.Try.f180
noncomputable def spec_l01AbsF (n : Nat) : Fun := { id := 180, sp := spec_l01Abssp, bs := spec_l01Absbs, rs := spec_l01Absrs, f := fun x y => spec_l01Abs n x.1 }

theorem spec_l01Abs_eq (n : Nat) (a0 : Int) : runBody ([]) ty 8 n spec_l01Abskp spec_l01Absc Go.Proofs.Try.f180.results.toList spec_l01Absrs spec_l01Abssp spec_l01Absbs (a0, ()) () = spec_l01Abs n a0 := by
  have h : runBody ([]) ty 8 n spec_l01Abskp spec_l01Absc Go.Proofs.Try.f180.results.toList spec_l01Absrs spec_l01Abssp spec_l01Absbs (a0, ()) () = spec_l01Abs_t n a0 := by kernel_rfl
  rw [h]
  rfl

theorem spec_l01Abs_ok (n : Nat) : FunOk P (spec_l01AbsF n) :=
  funOk_mk (C := []) (N := 8) (kp := spec_l01Abskp) (c := spec_l01Absc) (n := n) (G := fun x y => spec_l01Abs n x.1) follows (AllOk.mem (trivial : AllOk P ([]))) (by kernel_rfl : P.funcs[180]? = some Go.Proofs.Try.f180) (by kernel_rfl) (by kernel_rfl) (by kernel_rfl)
    (fun x y => spec_l01Abs_eq n x.1) (fun _ _ => map_same (fun _ => rfl) _) (fun _ _ _ _ => rfl)

abbrev spec_l01Gcdsp : List Sp := [.v false (.int .i64), .v false (.int .i64)]
abbrev spec_l01Gcdbs : List (Bs × Bool) := []
abbrev spec_l01Gcdrs : List (Bool × List Rp) := [(false, [.v false (.int .i64)])]
noncomputable def spec_l01Gcdkp : Keep := { loop := fun id => match id with | 1 => ([1, 0], []) | _ => ([], []), join := fun id => match id with | _ => none }
noncomputable def spec_l01Gcdc : Code := bodyOf Go.Proofs.Try.f241
noncomputable def spec_l01GcdF (n : Nat) : Fun := { id := 241, sp := spec_l01Gcdsp, bs := spec_l01Gcdbs, rs := spec_l01Gcdrs, f := fun x y => spec_l01Gcd n x.1 x.2.1 }

theorem spec_l01Gcd_l1_eq (n : Nat) : ∀ (k : Nat) (v1 : Int) (v0 : Int), iter (interp ([]) ty 14 0 n spec_l01Gcdkp (codeAt spec_l01Gcdc [1, 0, 0, 0])) (canon 0 (spec_l01Gcdkp.loop 1)) (kAt ([]) ty 14 0 n spec_l01Gcdkp spec_l01Gcdc [1, 0, 0] [] (ending ty 0 Go.Proofs.Try.f241.results.toList spec_l01Gcdrs spec_l01Gcdbs)) k { env := [(1, .one (.sc (.int .i64 v1))), (0, .one (.sc (.int .i64 v0)))], bx := [], nx := 0 } = spec_l01Gcd_l1 n k v1 v0
  | 0, _, _ => by kernel_rfl
  | k + 1, v1, v0 => by
    have h : iter (interp ([]) ty 14 0 n spec_l01Gcdkp (codeAt spec_l01Gcdc [1, 0, 0, 0])) (canon 0 (spec_l01Gcdkp.loop 1)) (kAt ([]) ty 14 0 n spec_l01Gcdkp spec_l01Gcdc [1, 0, 0] [] (ending ty 0 Go.Proofs.Try.f241.results.toList spec_l01Gcdrs spec_l01Gcdbs)) (k + 1) { env := [(1, .one (.sc (.int .i64 v1))), (0, .one (.sc (.int .i64 v0)))], bx := [], nx := 0 } = spec_l01Gcd_t1 n (fun v1 v0 => iter (interp ([]) ty 14 0 n spec_l01Gcdkp (codeAt spec_l01Gcdc [1, 0, 0, 0])) (canon 0 (spec_l01Gcdkp.loop 1)) (kAt ([]) ty 14 0 n spec_l01Gcdkp spec_l01Gcdc [1, 0, 0] [] (ending ty 0 Go.Proofs.Try.f241.results.toList spec_l01Gcdrs spec_l01Gcdbs)) k { env := [(1, .one (.sc (.int .i64 v1))), (0, .one (.sc (.int .i64 v0)))], bx := [], nx := 0 }) v1 v0 := by kernel_rfl
    rw [h]
    have e := congrArg (fun g => spec_l01Gcd_t1 n g v1 v0) (funext fun v1 => funext fun v0 => spec_l01Gcd_l1_eq n k v1 v0)
    exact e

theorem spec_l01Gcd_eq (n : Nat) (a0 : Int) (a1 : Int) : runBody ([]) ty 14 n spec_l01Gcdkp spec_l01Gcdc Go.Proofs.Try.f241.results.toList spec_l01Gcdrs spec_l01Gcdsp spec_l01Gcdbs (a0, (a1, ())) () = spec_l01Gcd n a0 a1 := by
  have h : runBody ([]) ty 14 n spec_l01Gcdkp spec_l01Gcdc Go.Proofs.Try.f241.results.toList spec_l01Gcdrs spec_l01Gcdsp spec_l01Gcdbs (a0, (a1, ())) () = spec_l01Gcd_t n (fun k v1 v0 => iter (interp ([]) ty 14 0 n spec_l01Gcdkp (codeAt spec_l01Gcdc [1, 0, 0, 0])) (canon 0 (spec_l01Gcdkp.loop 1)) (kAt ([]) ty 14 0 n spec_l01Gcdkp spec_l01Gcdc [1, 0, 0] [] (ending ty 0 Go.Proofs.Try.f241.results.toList spec_l01Gcdrs spec_l01Gcdbs)) k { env := [(1, .one (.sc (.int .i64 v1))), (0, .one (.sc (.int .i64 v0)))], bx := [], nx := 0 }) a0 a1 := by kernel_rfl
  rw [h]
  have e := congrArg (fun h1 => spec_l01Gcd_t n h1 a0 a1) (funext fun k => funext fun v1 => funext fun v0 => spec_l01Gcd_l1_eq n k v1 v0)
  exact e

theorem spec_l01Gcd_ok (n : Nat) : FunOk P (spec_l01GcdF n) :=
  funOk_mk (C := []) (N := 14) (kp := spec_l01Gcdkp) (c := spec_l01Gcdc) (n := n) (G := fun x y => spec_l01Gcd n x.1 x.2.1) follows (AllOk.mem (trivial : AllOk P ([]))) (by kernel_rfl : P.funcs[241]? = some Go.Proofs.Try.f241) (by kernel_rfl) (by kernel_rfl) (by kernel_rfl)
    (fun x y => spec_l01Gcd_eq n x.1 x.2.1) (fun _ _ => map_same (fun _ => rfl) _) (fun _ _ _ _ => rfl)

abbrev spec_l01Oksp : List Sp := [.v true (.pair (.int .i64) (.int .i64))]
abbrev spec_l01Okbs : List (Bs × Bool) := []
abbrev spec_l01Okrs : List (Bool × List Rp) := [(false, [.v false .bool])]
noncomputable def spec_l01Okkp : Keep := { loop := fun id => match id with | _ => ([], []), join := fun id => match id with | _ => none }
noncomputable def spec_l01Okc : Code := bodyOf Go.Proofs.Try.f189
noncomputable def spec_l01OkF (n : Nat) : Fun := { id := 189, sp := spec_l01Oksp, bs := spec_l01Okbs, rs := spec_l01Okrs, f := fun x y => spec_l01Ok n x.1 }

theorem spec_l01Ok_eq (n : Nat) (a0 : (Int) × (Int)) : runBody ([spec_l00InF n, spec_l01AbsF n, spec_l01GcdF n]) ty 20 n spec_l01Okkp spec_l01Okc Go.Proofs.Try.f189.results.toList spec_l01Okrs spec_l01Oksp spec_l01Okbs (a0, ()) () = spec_l01Ok n a0 := by
  have h : runBody ([spec_l00InF n, spec_l01AbsF n, spec_l01GcdF n]) ty 20 n spec_l01Okkp spec_l01Okc Go.Proofs.Try.f189.results.toList spec_l01Okrs spec_l01Oksp spec_l01Okbs (a0, ()) () = spec_l01Ok_t n a0 := by kernel_rfl
  rw [h]
  rfl

theorem spec_l01Ok_ok (n : Nat) : FunOk P (spec_l01OkF n) :=
  funOk_mk (C := [spec_l00InF n, spec_l01AbsF n, spec_l01GcdF n]) (N := 20) (kp := spec_l01Okkp) (c := spec_l01Okc) (n := n) (G := fun x y => spec_l01Ok n x.1) follows (AllOk.mem (⟨spec_l00In_ok n, ⟨spec_l01Abs_ok n, ⟨spec_l01Gcd_ok n, trivial⟩⟩⟩ : AllOk P ([spec_l00InF n, spec_l01AbsF n, spec_l01GcdF n]))) (by kernel_rfl : P.funcs[189]? = some Go.Proofs.Try.f189) (by kernel_rfl) (by kernel_rfl) (by kernel_rfl)
    (fun x y => spec_l01Ok_eq n x.1) (fun _ _ => map_same (fun _ => rfl) _) (fun _ _ _ _ => rfl)

abbrev spec_l01Wholesp : List Sp := [.v false (.int .i64)]
abbrev spec_l01Wholebs : List (Bs × Bool) := []
abbrev spec_l01Wholers : List (Bool × List Rp) := [(true, [.v false (.pair (.int .i64) (.int .i64))])]
noncomputable def spec_l01Wholekp : Keep := { loop := fun id => match id with | _ => ([], []), join := fun id => match id with | _ => none }
noncomputable def spec_l01Wholec : Code := bodyOf Go.Proofs.Try.f192
noncomputable def spec_l01WholeF (n : Nat) : Fun := { id := 192, sp := spec_l01Wholesp, bs := spec_l01Wholebs, rs := spec_l01Wholers, f := fun x y => spec_l01Whole n x.1 }

theorem spec_l01Whole_eq (n : Nat) (a0 : Int) : runBody ([]) ty 5 n spec_l01Wholekp spec_l01Wholec Go.Proofs.Try.f192.results.toList spec_l01Wholers spec_l01Wholesp spec_l01Wholebs (a0, ()) () = spec_l01Whole n a0 := by
  have h : runBody ([]) ty 5 n spec_l01Wholekp spec_l01Wholec Go.Proofs.Try.f192.results.toList spec_l01Wholers spec_l01Wholesp spec_l01Wholebs (a0, ()) () = spec_l01Whole_t n a0 := by kernel_rfl
  rw [h]
  rfl

theorem spec_l01Whole_ok (n : Nat) : FunOk P (spec_l01WholeF n) :=
  funOk_mk (C := []) (N := 5) (kp := spec_l01Wholekp) (c := spec_l01Wholec) (n := n) (G := fun x y => spec_l01Whole n x.1) follows (AllOk.mem (trivial : AllOk P ([]))) (by kernel_rfl : P.funcs[192]? = some Go.Proofs.Try.f192) (by kernel_rfl) (by kernel_rfl) (by kernel_rfl)
    (fun x y => spec_l01Whole_eq n x.1) (fun _ _ => map_same (fun _ => rfl) _) (fun _ _ _ _ => rfl)

abbrev spec_l01Cmpsp : List Sp := [.v true (.pair (.int .i64) (.int .i64)), .v true (.pair (.int .i64) (.int .i64))]
abbrev spec_l01Cmpbs : List (Bs × Bool) := []
abbrev spec_l01Cmprs : List (Bool × List Rp) := [(false, [.v false (.int .i64)])]
noncomputable def spec_l01Cmpkp : Keep := { loop := fun id => match id with | _ => ([], []), join := fun id => match id with | _ => none }
noncomputable def spec_l01Cmpc : Code := bodyOf Go.Proofs.Try.f237
noncomputable def spec_l01CmpF (n : Nat) : Fun := { id := 237, sp := spec_l01Cmpsp, bs := spec_l01Cmpbs, rs := spec_l01Cmprs, f := fun x y => spec_l01Cmp n x.1 x.2.1 }

theorem spec_l01Cmp_eq (n : Nat) (a0 : (Int) × (Int)) (a1 : (Int) × (Int)) : runBody ([]) ty 25 n spec_l01Cmpkp spec_l01Cmpc Go.Proofs.Try.f237.results.toList spec_l01Cmprs spec_l01Cmpsp spec_l01Cmpbs (a0, (a1, ())) () = spec_l01Cmp n a0 a1 := by
  have h : runBody ([]) ty 25 n spec_l01Cmpkp spec_l01Cmpc Go.Proofs.Try.f237.results.toList spec_l01Cmprs spec_l01Cmpsp spec_l01Cmpbs (a0, (a1, ())) () = spec_l01Cmp_t n a0 a1 := by kernel_rfl
  rw [h]
  rfl

theorem spec_l01Cmp_ok (n : Nat) : FunOk P (spec_l01CmpF n) :=
  funOk_mk (C := []) (N := 25) (kp := spec_l01Cmpkp) (c := spec_l01Cmpc) (n := n) (G := fun x y => spec_l01Cmp n x.1 x.2.1) follows (AllOk.mem (trivial : AllOk P ([]))) (by kernel_rfl : P.funcs[237]? = some Go.Proofs.Try.f237) (by kernel_rfl) (by kernel_rfl) (by kernel_rfl)
    (fun x y => spec_l01Cmp_eq n x.1 x.2.1) (fun _ _ => map_same (fun _ => rfl) _) (fun _ _ _ _ => rfl)

abbrev spec_l02Withinsp : List Sp := [.v true (.pair (.int .i64) (.int .i64)), .v false (.int .i64)]
abbrev spec_l02Withinbs : List (Bs × Bool) := []
abbrev spec_l02Withinrs : List (Bool × List Rp) := [(false, [.v false .bool])]
noncomputable def spec_l02Withinkp : Keep := { loop := fun id => match id with | _ => ([], []), join := fun id => match id with | _ => none }
noncomputable def spec_l02Withinc : Code := bodyOf Go.Proofs.Try.f256
noncomputable def spec_l02WithinF (n : Nat) : Fun := { id := 256, sp := spec_l02Withinsp, bs := spec_l02Withinbs, rs := spec_l02Withinrs, f := fun x y => spec_l02Within n x.1 x.2.1 }

theorem spec_l02Within_eq (n : Nat) (a0 : (Int) × (Int)) (a1 : Int) : runBody ([spec_l01OkF n, spec_l01WholeF n, spec_l01CmpF n]) ty 19 n spec_l02Withinkp spec_l02Withinc Go.Proofs.Try.f256.results.toList spec_l02Withinrs spec_l02Withinsp spec_l02Withinbs (a0, (a1, ())) () = spec_l02Within n a0 a1 := by
  have h : runBody ([spec_l01OkF n, spec_l01WholeF n, spec_l01CmpF n]) ty 19 n spec_l02Withinkp spec_l02Withinc Go.Proofs.Try.f256.results.toList spec_l02Withinrs spec_l02Withinsp spec_l02Withinbs (a0, (a1, ())) () = spec_l02Within_t n a0 a1 := by kernel_rfl
  rw [h]
  rfl

theorem spec_l02Within_ok (n : Nat) : FunOk P (spec_l02WithinF n) :=
  funOk_mk (C := [spec_l01OkF n, spec_l01WholeF n, spec_l01CmpF n]) (N := 19) (kp := spec_l02Withinkp) (c := spec_l02Withinc) (n := n) (G := fun x y => spec_l02Within n x.1 x.2.1) follows (AllOk.mem (⟨spec_l01Ok_ok n, ⟨spec_l01Whole_ok n, ⟨spec_l01Cmp_ok n, trivial⟩⟩⟩ : AllOk P ([spec_l01OkF n, spec_l01WholeF n, spec_l01CmpF n]))) (by kernel_rfl : P.funcs[256]? = some Go.Proofs.Try.f256) (by kernel_rfl) (by kernel_rfl) (by kernel_rfl)
    (fun x y => spec_l02Within_eq n x.1 x.2.1) (fun _ _ => map_same (fun _ => rfl) _) (fun _ _ _ _ => rfl)

abbrev spec_l01Reducedsp : List Sp := [.v false (.int .i64), .v false (.int .i64)]
abbrev spec_l01Reducedbs : List (Bs × Bool) := []
abbrev spec_l01Reducedrs : List (Bool × List Rp) := [(true, [.v false (.pair (.int .i64) (.int .i64))]), (false, [.v false (.int .i64)])]
noncomputable def spec_l01Reducedkp : Keep := { loop := fun id => match id with | _ => ([], []), join := fun id => match id with | _ => none }
noncomputable def spec_l01Reducedc : Code := bodyOf Go.Proofs.Try.f169
noncomputable def spec_l01ReducedF (n : Nat) : Fun := { id := 169, sp := spec_l01Reducedsp, bs := spec_l01Reducedbs, rs := spec_l01Reducedrs, f := fun x y => spec_l01Reduced n x.1 x.2.1 }

theorem spec_l01Reduced_eq (n : Nat) (a0 : Int) (a1 : Int) : runBody ([spec_l01AbsF n, spec_l01GcdF n, spec_l01OkF n]) ty 33 n spec_l01Reducedkp spec_l01Reducedc Go.Proofs.Try.f169.results.toList spec_l01Reducedrs spec_l01Reducedsp spec_l01Reducedbs (a0, (a1, ())) () = spec_l01Reduced n a0 a1 := by
  have h : runBody ([spec_l01AbsF n, spec_l01GcdF n, spec_l01OkF n]) ty 33 n spec_l01Reducedkp spec_l01Reducedc Go.Proofs.Try.f169.results.toList spec_l01Reducedrs spec_l01Reducedsp spec_l01Reducedbs (a0, (a1, ())) () = spec_l01Reduced_t n a0 a1 := by kernel_rfl
  rw [h]
  rfl

theorem spec_l01Reduced_ok (n : Nat) : FunOk P (spec_l01ReducedF n) :=
  funOk_mk (C := [spec_l01AbsF n, spec_l01GcdF n, spec_l01OkF n]) (N := 33) (kp := spec_l01Reducedkp) (c := spec_l01Reducedc) (n := n) (G := fun x y => spec_l01Reduced n x.1 x.2.1) follows (AllOk.mem (⟨spec_l01Abs_ok n, ⟨spec_l01Gcd_ok n, ⟨spec_l01Ok_ok n, trivial⟩⟩⟩ : AllOk P ([spec_l01AbsF n, spec_l01GcdF n, spec_l01OkF n]))) (by kernel_rfl : P.funcs[169]? = some Go.Proofs.Try.f169) (by kernel_rfl) (by kernel_rfl) (by kernel_rfl)
    (fun x y => spec_l01Reduced_eq n x.1 x.2.1) (fun _ _ => map_same (fun _ => rfl) _) (fun _ _ _ _ => rfl)

abbrev spec_l01Mulsp : List Sp := [.v true (.pair (.int .i64) (.int .i64)), .v true (.pair (.int .i64) (.int .i64))]
abbrev spec_l01Mulbs : List (Bs × Bool) := []
abbrev spec_l01Mulrs : List (Bool × List Rp) := [(true, [.v false (.pair (.int .i64) (.int .i64))]), (false, [.v false (.int .i64)])]
noncomputable def spec_l01Mulkp : Keep := { loop := fun id => match id with | _ => ([], []), join := fun id => match id with | _ => none }
noncomputable def spec_l01Mulc : Code := bodyOf Go.Proofs.Try.f131
noncomputable def spec_l01MulF (n : Nat) : Fun := { id := 131, sp := spec_l01Mulsp, bs := spec_l01Mulbs, rs := spec_l01Mulrs, f := fun x y => spec_l01Mul n x.1 x.2.1 }

theorem spec_l01Mul_eq (n : Nat) (a0 : (Int) × (Int)) (a1 : (Int) × (Int)) : runBody ([spec_l01ReducedF n]) ty 19 n spec_l01Mulkp spec_l01Mulc Go.Proofs.Try.f131.results.toList spec_l01Mulrs spec_l01Mulsp spec_l01Mulbs (a0, (a1, ())) () = spec_l01Mul n a0 a1 := by
  have h : runBody ([spec_l01ReducedF n]) ty 19 n spec_l01Mulkp spec_l01Mulc Go.Proofs.Try.f131.results.toList spec_l01Mulrs spec_l01Mulsp spec_l01Mulbs (a0, (a1, ())) () = spec_l01Mul_t n a0 a1 := by kernel_rfl
  rw [h]
  rfl

theorem spec_l01Mul_ok (n : Nat) : FunOk P (spec_l01MulF n) :=
  funOk_mk (C := [spec_l01ReducedF n]) (N := 19) (kp := spec_l01Mulkp) (c := spec_l01Mulc) (n := n) (G := fun x y => spec_l01Mul n x.1 x.2.1) follows (AllOk.mem (⟨spec_l01Reduced_ok n, trivial⟩ : AllOk P ([spec_l01ReducedF n]))) (by kernel_rfl : P.funcs[131]? = some Go.Proofs.Try.f131) (by kernel_rfl) (by kernel_rfl) (by kernel_rfl)
    (fun x y => spec_l01Mul_eq n x.1 x.2.1) (fun _ _ => map_same (fun _ => rfl) _) (fun _ _ _ _ => rfl)

abbrev spec_l01Addsp : List Sp := [.v true (.pair (.int .i64) (.int .i64)), .v true (.pair (.int .i64) (.int .i64))]
abbrev spec_l01Addbs : List (Bs × Bool) := []
abbrev spec_l01Addrs : List (Bool × List Rp) := [(true, [.v false (.pair (.int .i64) (.int .i64))]), (false, [.v false (.int .i64)])]
noncomputable def spec_l01Addkp : Keep := { loop := fun id => match id with | _ => ([], []), join := fun id => match id with | _ => none }
noncomputable def spec_l01Addc : Code := bodyOf Go.Proofs.Try.f132
noncomputable def spec_l01AddF (n : Nat) : Fun := { id := 132, sp := spec_l01Addsp, bs := spec_l01Addbs, rs := spec_l01Addrs, f := fun x y => spec_l01Add n x.1 x.2.1 }

theorem spec_l01Add_eq (n : Nat) (a0 : (Int) × (Int)) (a1 : (Int) × (Int)) : runBody ([spec_l01ReducedF n]) ty 25 n spec_l01Addkp spec_l01Addc Go.Proofs.Try.f132.results.toList spec_l01Addrs spec_l01Addsp spec_l01Addbs (a0, (a1, ())) () = spec_l01Add n a0 a1 := by
  have h : runBody ([spec_l01ReducedF n]) ty 25 n spec_l01Addkp spec_l01Addc Go.Proofs.Try.f132.results.toList spec_l01Addrs spec_l01Addsp spec_l01Addbs (a0, (a1, ())) () = spec_l01Add_t n a0 a1 := by kernel_rfl
  rw [h]
  rfl

theorem spec_l01Add_ok (n : Nat) : FunOk P (spec_l01AddF n) :=
  funOk_mk (C := [spec_l01ReducedF n]) (N := 25) (kp := spec_l01Addkp) (c := spec_l01Addc) (n := n) (G := fun x y => spec_l01Add n x.1 x.2.1) follows (AllOk.mem (⟨spec_l01Reduced_ok n, trivial⟩ : AllOk P ([spec_l01ReducedF n]))) (by kernel_rfl : P.funcs[132]? = some Go.Proofs.Try.f132) (by kernel_rfl) (by kernel_rfl) (by kernel_rfl)
    (fun x y => spec_l01Add_eq n x.1 x.2.1) (fun _ _ => map_same (fun _ => rfl) _) (fun _ _ _ _ => rfl)

abbrev spec_l02Marksp : List Sp := [.ref 0, .v false (.int .i64)]
abbrev spec_l02Markbs : List (Bs × Bool) := [(.var 91 (.pair (.pair (.int .i64) (.int .i64)) (.list (.pair (.int .i64) (.int .i64)))), true)]
abbrev spec_l02Markrs : List (Bool × List Rp) := [(true, [.v false (.pair (.int .i64) (.int .i64))]), (false, [.v false (.int .i64)])]
noncomputable def spec_l02Markkp : Keep := { loop := fun id => match id with | _ => ([], []), join := fun id => match id with | _ => none }
noncomputable def spec_l02Markc : Code := bodyOf Go.Proofs.Try.f249
noncomputable def spec_l02MarkF (n : Nat) : Fun := { id := 249, sp := spec_l02Marksp, bs := spec_l02Markbs, rs := spec_l02Markrs, f := fun x y => spec_l02Mark n x.2.1 y.1 }

theorem spec_l02Mark_eq (n : Nat) (a1 : Int) (b0 : ((Int) × (Int)) × (List ((Int) × (Int)))) : runBody ([spec_l01WholeF n, spec_l01MulF n, spec_l01AddF n]) ty 33 n spec_l02Markkp spec_l02Markc Go.Proofs.Try.f249.results.toList spec_l02Markrs spec_l02Marksp spec_l02Markbs ((), (a1, ())) (b0, ()) = spec_l02Mark n a1 b0 := by
  have h : runBody ([spec_l01WholeF n, spec_l01MulF n, spec_l01AddF n]) ty 33 n spec_l02Markkp spec_l02Markc Go.Proofs.Try.f249.results.toList spec_l02Markrs spec_l02Marksp spec_l02Markbs ((), (a1, ())) (b0, ()) = spec_l02Mark_t n a1 b0 := by kernel_rfl
  rw [h]
  rfl

theorem spec_l02Mark_ok (n : Nat) : FunOk P (spec_l02MarkF n) :=
  funOk_mk (C := [spec_l01WholeF n, spec_l01MulF n, spec_l01AddF n]) (N := 33) (kp := spec_l02Markkp) (c := spec_l02Markc) (n := n) (G := fun x y => spec_l02Mark n x.2.1 y.1) follows (AllOk.mem (⟨spec_l01Whole_ok n, ⟨spec_l01Mul_ok n, ⟨spec_l01Add_ok n, trivial⟩⟩⟩ : AllOk P ([spec_l01WholeF n, spec_l01MulF n, spec_l01AddF n]))) (by kernel_rfl : P.funcs[249]? = some Go.Proofs.Try.f249) (by kernel_rfl) (by kernel_rfl) (by kernel_rfl)
    (fun x y => spec_l02Mark_eq n x.2.1 y.1) (fun _ _ => map_same (fun _ => rfl) _) (fun _ _ _ _ => rfl)

abbrev spec_l02Oksp : List Sp := [.ref 0]
abbrev spec_l02Okbs : List (Bs × Bool) := [(.var 91 (.pair (.pair (.int .i64) (.int .i64)) (.list (.pair (.int .i64) (.int .i64)))), true)]
abbrev spec_l02Okrs : List (Bool × List Rp) := [(false, [.v false .bool])]
noncomputable def spec_l02Okkp : Keep := { loop := fun id => match id with | 4 => ([3, 0], []) | _ => ([], []), join := fun id => match id with | _ => none }
noncomputable def spec_l02Okc : Code := bodyOf Go.Proofs.Try.f217
noncomputable def spec_l02OkF (n : Nat) : Fun := { id := 217, sp := spec_l02Oksp, bs := spec_l02Okbs, rs := spec_l02Okrs, f := fun x y => spec_l02Ok n y.1 }

theorem spec_l02Ok_l4_eq (n : Nat) : ∀ (k : Nat) (v3 : Int) (b0_0 : Int) (b0_1 : Int) (b0_2 : List ((Int) × (Int))), iter (interp ([spec_l02WithinF n, spec_l00InF n, spec_l01OkF n, spec_l01AbsF n, spec_l02MarkF n]) ty 70 1 n spec_l02Okkp (codeAt spec_l02Okc [1, 1, 0, 1, 0, 0])) (canon 1 (spec_l02Okkp.loop 4)) (kAt ([spec_l02WithinF n, spec_l00InF n, spec_l01OkF n, spec_l01AbsF n, spec_l02MarkF n]) ty 70 1 n spec_l02Okkp spec_l02Okc [1, 1, 0, 1, 0] [] (ending ty 1 Go.Proofs.Try.f217.results.toList spec_l02Okrs spec_l02Okbs)) k { env := [(3, .one (.sc (.int .i64 v3))), (0, .one (.ref 0 0 0 0 0 0))], bx := [(0, .var 91 [.sc (.int .i64 b0_0), .sc (.int .i64 b0_1), .list true (.pair (.int .i64) (.int .i64)) b0_2])], nx := 1 } = spec_l02Ok_l4 n k v3 b0_0 b0_1 b0_2
  | 0, _, _, _, _ => by kernel_rfl
  | k + 1, v3, b0_0, b0_1, b0_2 => by
    have h : iter (interp ([spec_l02WithinF n, spec_l00InF n, spec_l01OkF n, spec_l01AbsF n, spec_l02MarkF n]) ty 70 1 n spec_l02Okkp (codeAt spec_l02Okc [1, 1, 0, 1, 0, 0])) (canon 1 (spec_l02Okkp.loop 4)) (kAt ([spec_l02WithinF n, spec_l00InF n, spec_l01OkF n, spec_l01AbsF n, spec_l02MarkF n]) ty 70 1 n spec_l02Okkp spec_l02Okc [1, 1, 0, 1, 0] [] (ending ty 1 Go.Proofs.Try.f217.results.toList spec_l02Okrs spec_l02Okbs)) (k + 1) { env := [(3, .one (.sc (.int .i64 v3))), (0, .one (.ref 0 0 0 0 0 0))], bx := [(0, .var 91 [.sc (.int .i64 b0_0), .sc (.int .i64 b0_1), .list true (.pair (.int .i64) (.int .i64)) b0_2])], nx := 1 } = spec_l02Ok_t4 n (fun v3 b0_0 b0_1 b0_2 => iter (interp ([spec_l02WithinF n, spec_l00InF n, spec_l01OkF n, spec_l01AbsF n, spec_l02MarkF n]) ty 70 1 n spec_l02Okkp (codeAt spec_l02Okc [1, 1, 0, 1, 0, 0])) (canon 1 (spec_l02Okkp.loop 4)) (kAt ([spec_l02WithinF n, spec_l00InF n, spec_l01OkF n, spec_l01AbsF n, spec_l02MarkF n]) ty 70 1 n spec_l02Okkp spec_l02Okc [1, 1, 0, 1, 0] [] (ending ty 1 Go.Proofs.Try.f217.results.toList spec_l02Okrs spec_l02Okbs)) k { env := [(3, .one (.sc (.int .i64 v3))), (0, .one (.ref 0 0 0 0 0 0))], bx := [(0, .var 91 [.sc (.int .i64 b0_0), .sc (.int .i64 b0_1), .list true (.pair (.int .i64) (.int .i64)) b0_2])], nx := 1 }) v3 b0_0 b0_1 b0_2 := by kernel_rfl
    rw [h]
    have e := congrArg (fun g => spec_l02Ok_t4 n g v3 b0_0 b0_1 b0_2) (funext fun v3 => funext fun b0_0 => funext fun b0_1 => funext fun b0_2 => spec_l02Ok_l4_eq n k v3 b0_0 b0_1 b0_2)
    exact e

theorem spec_l02Ok_eq (n : Nat) (b0 : ((Int) × (Int)) × (List ((Int) × (Int)))) : runBody ([spec_l02WithinF n, spec_l00InF n, spec_l01OkF n, spec_l01AbsF n, spec_l02MarkF n]) ty 70 n spec_l02Okkp spec_l02Okc Go.Proofs.Try.f217.results.toList spec_l02Okrs spec_l02Oksp spec_l02Okbs ((), ()) (b0, ()) = spec_l02Ok n b0 := by
  have h : runBody ([spec_l02WithinF n, spec_l00InF n, spec_l01OkF n, spec_l01AbsF n, spec_l02MarkF n]) ty 70 n spec_l02Okkp spec_l02Okc Go.Proofs.Try.f217.results.toList spec_l02Okrs spec_l02Oksp spec_l02Okbs ((), ()) (b0, ()) = spec_l02Ok_t n (fun k v3 b0_0 b0_1 b0_2 => iter (interp ([spec_l02WithinF n, spec_l00InF n, spec_l01OkF n, spec_l01AbsF n, spec_l02MarkF n]) ty 70 1 n spec_l02Okkp (codeAt spec_l02Okc [1, 1, 0, 1, 0, 0])) (canon 1 (spec_l02Okkp.loop 4)) (kAt ([spec_l02WithinF n, spec_l00InF n, spec_l01OkF n, spec_l01AbsF n, spec_l02MarkF n]) ty 70 1 n spec_l02Okkp spec_l02Okc [1, 1, 0, 1, 0] [] (ending ty 1 Go.Proofs.Try.f217.results.toList spec_l02Okrs spec_l02Okbs)) k { env := [(3, .one (.sc (.int .i64 v3))), (0, .one (.ref 0 0 0 0 0 0))], bx := [(0, .var 91 [.sc (.int .i64 b0_0), .sc (.int .i64 b0_1), .list true (.pair (.int .i64) (.int .i64)) b0_2])], nx := 1 }) b0 := by kernel_rfl
  rw [h]
  have e := congrArg (fun h4 => spec_l02Ok_t n h4 b0) (funext fun k => funext fun v3 => funext fun b0_0 => funext fun b0_1 => funext fun b0_2 => spec_l02Ok_l4_eq n k v3 b0_0 b0_1 b0_2)
  exact e

theorem spec_l02Ok_ok (n : Nat) : FunOk P (spec_l02OkF n) :=
  funOk_mk (C := [spec_l02WithinF n, spec_l00InF n, spec_l01OkF n, spec_l01AbsF n, spec_l02MarkF n]) (N := 70) (kp := spec_l02Okkp) (c := spec_l02Okc) (n := n) (G := fun x y => spec_l02Ok n y.1) follows (AllOk.mem (⟨spec_l02Within_ok n, ⟨spec_l00In_ok n, ⟨spec_l01Ok_ok n, ⟨spec_l01Abs_ok n, ⟨spec_l02Mark_ok n, trivial⟩⟩⟩⟩⟩ : AllOk P ([spec_l02WithinF n, spec_l00InF n, spec_l01OkF n, spec_l01AbsF n, spec_l02MarkF n]))) (by kernel_rfl : P.funcs[217]? = some Go.Proofs.Try.f217) (by kernel_rfl) (by kernel_rfl) (by kernel_rfl)
    (fun x y => spec_l02Ok_eq n y.1) (fun _ _ => map_same (fun _ => rfl) _) (fun _ _ _ _ => rfl)

abbrev spec_l01Negsp : List Sp := [.v true (.pair (.int .i64) (.int .i64))]
abbrev spec_l01Negbs : List (Bs × Bool) := []
abbrev spec_l01Negrs : List (Bool × List Rp) := [(true, [.v false (.pair (.int .i64) (.int .i64))])]
noncomputable def spec_l01Negkp : Keep := { loop := fun id => match id with | _ => ([], []), join := fun id => match id with | _ => none }
noncomputable def spec_l01Negc : Code := bodyOf Go.Proofs.Try.f246
noncomputable def spec_l01NegF (n : Nat) : Fun := { id := 246, sp := spec_l01Negsp, bs := spec_l01Negbs, rs := spec_l01Negrs, f := fun x y => spec_l01Neg n x.1 }

theorem spec_l01Neg_eq (n : Nat) (a0 : (Int) × (Int)) : runBody ([]) ty 9 n spec_l01Negkp spec_l01Negc Go.Proofs.Try.f246.results.toList spec_l01Negrs spec_l01Negsp spec_l01Negbs (a0, ()) () = spec_l01Neg n a0 := by
  have h : runBody ([]) ty 9 n spec_l01Negkp spec_l01Negc Go.Proofs.Try.f246.results.toList spec_l01Negrs spec_l01Negsp spec_l01Negbs (a0, ()) () = spec_l01Neg_t n a0 := by kernel_rfl
  rw [h]
  rfl

theorem spec_l01Neg_ok (n : Nat) : FunOk P (spec_l01NegF n) :=
  funOk_mk (C := []) (N := 9) (kp := spec_l01Negkp) (c := spec_l01Negc) (n := n) (G := fun x y => spec_l01Neg n x.1) follows (AllOk.mem (trivial : AllOk P ([]))) (by kernel_rfl : P.funcs[246]? = some Go.Proofs.Try.f246) (by kernel_rfl) (by kernel_rfl) (by kernel_rfl)
    (fun x y => spec_l01Neg_eq n x.1) (fun _ _ => map_same (fun _ => rfl) _) (fun _ _ _ _ => rfl)

abbrev spec_l01Subsp : List Sp := [.v true (.pair (.int .i64) (.int .i64)), .v true (.pair (.int .i64) (.int .i64))]
abbrev spec_l01Subbs : List (Bs × Bool) := []
abbrev spec_l01Subrs : List (Bool × List Rp) := [(true, [.v false (.pair (.int .i64) (.int .i64))]), (false, [.v false (.int .i64)])]
noncomputable def spec_l01Subkp : Keep := { loop := fun id => match id with | _ => ([], []), join := fun id => match id with | _ => none }
noncomputable def spec_l01Subc : Code := bodyOf Go.Proofs.Try.f183
noncomputable def spec_l01SubF (n : Nat) : Fun := { id := 183, sp := spec_l01Subsp, bs := spec_l01Subbs, rs := spec_l01Subrs, f := fun x y => spec_l01Sub n x.1 x.2.1 }

theorem spec_l01Sub_eq (n : Nat) (a0 : (Int) × (Int)) (a1 : (Int) × (Int)) : runBody ([spec_l01NegF n, spec_l01AddF n]) ty 12 n spec_l01Subkp spec_l01Subc Go.Proofs.Try.f183.results.toList spec_l01Subrs spec_l01Subsp spec_l01Subbs (a0, (a1, ())) () = spec_l01Sub n a0 a1 := by
  have h : runBody ([spec_l01NegF n, spec_l01AddF n]) ty 12 n spec_l01Subkp spec_l01Subc Go.Proofs.Try.f183.results.toList spec_l01Subrs spec_l01Subsp spec_l01Subbs (a0, (a1, ())) () = spec_l01Sub_t n a0 a1 := by kernel_rfl
  rw [h]
  rfl

theorem spec_l01Sub_ok (n : Nat) : FunOk P (spec_l01SubF n) :=
  funOk_mk (C := [spec_l01NegF n, spec_l01AddF n]) (N := 12) (kp := spec_l01Subkp) (c := spec_l01Subc) (n := n) (G := fun x y => spec_l01Sub n x.1 x.2.1) follows (AllOk.mem (⟨spec_l01Neg_ok n, ⟨spec_l01Add_ok n, trivial⟩⟩ : AllOk P ([spec_l01NegF n, spec_l01AddF n]))) (by kernel_rfl : P.funcs[183]? = some Go.Proofs.Try.f183) (by kernel_rfl) (by kernel_rfl) (by kernel_rfl)
    (fun x y => spec_l01Sub_eq n x.1 x.2.1) (fun _ _ => map_same (fun _ => rfl) _) (fun _ _ _ _ => rfl)

abbrev spec_l04Intervalssp : List Sp := [.ref 0]
abbrev spec_l04Intervalsbs : List (Bs × Bool) := [(.var 91 (.pair (.pair (.int .i64) (.int .i64)) (.list (.pair (.int .i64) (.int .i64)))), true)]
abbrev spec_l04Intervalsrs : List (Bool × List Rp) := [(false, [.new  (.pair (.int .i64) (.int .i64))]), (false, [.v false (.int .i64)])]
noncomputable def spec_l04Intervalskp : Keep := { loop := fun id => match id with | 3 => ([5, 4, 0], []) | _ => ([], []), join := fun id => match id with | _ => none }
noncomputable def spec_l04Intervalsc : Code := bodyOf Go.Proofs.Try.f218
noncomputable def spec_l04IntervalsF (n : Nat) : Fun := { id := 218, sp := spec_l04Intervalssp, bs := spec_l04Intervalsbs, rs := spec_l04Intervalsrs, f := fun x y => spec_l04Intervals n y.1 }

theorem spec_l04Intervals_l3_eq (n : Nat) : ∀ (k : Nat) (v5 : Int) (b0_0 : Int) (b0_1 : Int) (b0_2 : List ((Int) × (Int))) (b1 : List ((Int) × (Int))), iter (interp ([spec_l01SubF n]) ty 46 1 n spec_l04Intervalskp (codeAt spec_l04Intervalsc [1, 1, 0, 1, 0, 0])) (canon 1 (spec_l04Intervalskp.loop 3)) (kAt ([spec_l01SubF n]) ty 46 1 n spec_l04Intervalskp spec_l04Intervalsc [1, 1, 0, 1, 0] [] (ending ty 1 Go.Proofs.Try.f218.results.toList spec_l04Intervalsrs spec_l04Intervalsbs)) k { env := [(5, .one (.sc (.int .i64 v5))), (4, .one (.slice 1 0 none)), (0, .one (.ref 0 0 0 0 0 0))], bx := [(0, .var 91 [.sc (.int .i64 b0_0), .sc (.int .i64 b0_1), .list true (.pair (.int .i64) (.int .i64)) b0_2]), (1, .row 0 (.pair (.int .i64) (.int .i64)) b1)], nx := 2 } = spec_l04Intervals_l3 n k v5 b0_0 b0_1 b0_2 b1
  | 0, _, _, _, _, _ => by kernel_rfl
  | k + 1, v5, b0_0, b0_1, b0_2, b1 => by
    have h : iter (interp ([spec_l01SubF n]) ty 46 1 n spec_l04Intervalskp (codeAt spec_l04Intervalsc [1, 1, 0, 1, 0, 0])) (canon 1 (spec_l04Intervalskp.loop 3)) (kAt ([spec_l01SubF n]) ty 46 1 n spec_l04Intervalskp spec_l04Intervalsc [1, 1, 0, 1, 0] [] (ending ty 1 Go.Proofs.Try.f218.results.toList spec_l04Intervalsrs spec_l04Intervalsbs)) (k + 1) { env := [(5, .one (.sc (.int .i64 v5))), (4, .one (.slice 1 0 none)), (0, .one (.ref 0 0 0 0 0 0))], bx := [(0, .var 91 [.sc (.int .i64 b0_0), .sc (.int .i64 b0_1), .list true (.pair (.int .i64) (.int .i64)) b0_2]), (1, .row 0 (.pair (.int .i64) (.int .i64)) b1)], nx := 2 } = spec_l04Intervals_t3 n (fun v5 b0_0 b0_1 b0_2 b1 => iter (interp ([spec_l01SubF n]) ty 46 1 n spec_l04Intervalskp (codeAt spec_l04Intervalsc [1, 1, 0, 1, 0, 0])) (canon 1 (spec_l04Intervalskp.loop 3)) (kAt ([spec_l01SubF n]) ty 46 1 n spec_l04Intervalskp spec_l04Intervalsc [1, 1, 0, 1, 0] [] (ending ty 1 Go.Proofs.Try.f218.results.toList spec_l04Intervalsrs spec_l04Intervalsbs)) k { env := [(5, .one (.sc (.int .i64 v5))), (4, .one (.slice 1 0 none)), (0, .one (.ref 0 0 0 0 0 0))], bx := [(0, .var 91 [.sc (.int .i64 b0_0), .sc (.int .i64 b0_1), .list true (.pair (.int .i64) (.int .i64)) b0_2]), (1, .row 0 (.pair (.int .i64) (.int .i64)) b1)], nx := 2 }) v5 b0_0 b0_1 b0_2 b1 := by kernel_rfl
    rw [h]
    have e := congrArg (fun g => spec_l04Intervals_t3 n g v5 b0_0 b0_1 b0_2 b1) (funext fun v5 => funext fun b0_0 => funext fun b0_1 => funext fun b0_2 => funext fun b1 => spec_l04Intervals_l3_eq n k v5 b0_0 b0_1 b0_2 b1)
    exact e

theorem spec_l04Intervals_eq (n : Nat) (b0 : ((Int) × (Int)) × (List ((Int) × (Int)))) : runBody ([spec_l01SubF n]) ty 46 n spec_l04Intervalskp spec_l04Intervalsc Go.Proofs.Try.f218.results.toList spec_l04Intervalsrs spec_l04Intervalssp spec_l04Intervalsbs ((), ()) (b0, ()) = spec_l04Intervals n b0 := by
  have h : runBody ([spec_l01SubF n]) ty 46 n spec_l04Intervalskp spec_l04Intervalsc Go.Proofs.Try.f218.results.toList spec_l04Intervalsrs spec_l04Intervalssp spec_l04Intervalsbs ((), ()) (b0, ()) = spec_l04Intervals_t n (fun k v5 b0_0 b0_1 b0_2 b1 => iter (interp ([spec_l01SubF n]) ty 46 1 n spec_l04Intervalskp (codeAt spec_l04Intervalsc [1, 1, 0, 1, 0, 0])) (canon 1 (spec_l04Intervalskp.loop 3)) (kAt ([spec_l01SubF n]) ty 46 1 n spec_l04Intervalskp spec_l04Intervalsc [1, 1, 0, 1, 0] [] (ending ty 1 Go.Proofs.Try.f218.results.toList spec_l04Intervalsrs spec_l04Intervalsbs)) k { env := [(5, .one (.sc (.int .i64 v5))), (4, .one (.slice 1 0 none)), (0, .one (.ref 0 0 0 0 0 0))], bx := [(0, .var 91 [.sc (.int .i64 b0_0), .sc (.int .i64 b0_1), .list true (.pair (.int .i64) (.int .i64)) b0_2]), (1, .row 0 (.pair (.int .i64) (.int .i64)) b1)], nx := 2 }) b0 := by kernel_rfl
  rw [h]
  have e := congrArg (fun h3 => spec_l04Intervals_t n h3 b0) (funext fun k => funext fun v5 => funext fun b0_0 => funext fun b0_1 => funext fun b0_2 => funext fun b1 => spec_l04Intervals_l3_eq n k v5 b0_0 b0_1 b0_2 b1)
  exact e

theorem spec_l04Intervals_ok (n : Nat) : FunOk P (spec_l04IntervalsF n) :=
  funOk_mk (C := [spec_l01SubF n]) (N := 46) (kp := spec_l04Intervalskp) (c := spec_l04Intervalsc) (n := n) (G := fun x y => spec_l04Intervals n y.1) follows (AllOk.mem (⟨spec_l01Sub_ok n, trivial⟩ : AllOk P ([spec_l01SubF n]))) (by kernel_rfl : P.funcs[218]? = some Go.Proofs.Try.f218) (by kernel_rfl) (by kernel_rfl) (by kernel_rfl)
    (fun x y => spec_l04Intervals_eq n y.1) (fun _ _ => map_same (fun _ => rfl) _) (fun _ _ _ _ => rfl)

abbrev spec_l01Sumsp : List Sp := [.v false (.list (.pair (.int .i64) (.int .i64)))]
abbrev spec_l01Sumbs : List (Bs × Bool) := []
abbrev spec_l01Sumrs : List (Bool × List Rp) := [(true, [.v false (.pair (.int .i64) (.int .i64))]), (false, [.v false (.int .i64)])]
noncomputable def spec_l01Sumkp : Keep := { loop := fun id => match id with | 3 => ([2, 5, 4, 0], []) | _ => ([], []), join := fun id => match id with | _ => none }
noncomputable def spec_l01Sumc : Code := bodyOf Go.Proofs.Try.f190
noncomputable def spec_l01SumF (n : Nat) : Fun := { id := 190, sp := spec_l01Sumsp, bs := spec_l01Sumbs, rs := spec_l01Sumrs, f := fun x y => spec_l01Sum n x.1 }

theorem spec_l01Sum_l3_eq (n : Nat) : ∀ (k : Nat) (v5 : Int) (v0 : List ((Int) × (Int))) (b0_0 : Int) (b0_1 : Int) (b1_0 : Int) (b1_1 : Int), iter (interp ([spec_l01WholeF n, spec_l01AddF n]) ty 30 0 n spec_l01Sumkp (codeAt spec_l01Sumc [1, 1, 0, 1, 0, 0])) (canon 0 (spec_l01Sumkp.loop 3)) (kAt ([spec_l01WholeF n, spec_l01AddF n]) ty 30 0 n spec_l01Sumkp spec_l01Sumc [1, 1, 0, 1, 0] [] (ending ty 0 Go.Proofs.Try.f190.results.toList spec_l01Sumrs spec_l01Sumbs)) k { env := [(2, .one (.ref 0 0 0 0 0 0)), (5, .one (.sc (.int .i64 v5))), (4, .one (.ref 1 0 0 0 0 0)), (0, .one (.list true (.pair (.int .i64) (.int .i64)) v0))], bx := [(0, .var 26 [.sc (.int .i64 b0_0), .sc (.int .i64 b0_1)]), (1, .var 26 [.sc (.int .i64 b1_0), .sc (.int .i64 b1_1)])], nx := 2 } = spec_l01Sum_l3 n k v5 v0 b0_0 b0_1 b1_0 b1_1
  | 0, _, _, _, _, _, _ => by kernel_rfl
  | k + 1, v5, v0, b0_0, b0_1, b1_0, b1_1 => by
    have h : iter (interp ([spec_l01WholeF n, spec_l01AddF n]) ty 30 0 n spec_l01Sumkp (codeAt spec_l01Sumc [1, 1, 0, 1, 0, 0])) (canon 0 (spec_l01Sumkp.loop 3)) (kAt ([spec_l01WholeF n, spec_l01AddF n]) ty 30 0 n spec_l01Sumkp spec_l01Sumc [1, 1, 0, 1, 0] [] (ending ty 0 Go.Proofs.Try.f190.results.toList spec_l01Sumrs spec_l01Sumbs)) (k + 1) { env := [(2, .one (.ref 0 0 0 0 0 0)), (5, .one (.sc (.int .i64 v5))), (4, .one (.ref 1 0 0 0 0 0)), (0, .one (.list true (.pair (.int .i64) (.int .i64)) v0))], bx := [(0, .var 26 [.sc (.int .i64 b0_0), .sc (.int .i64 b0_1)]), (1, .var 26 [.sc (.int .i64 b1_0), .sc (.int .i64 b1_1)])], nx := 2 } = spec_l01Sum_t3 n (fun v5 v0 b0_0 b0_1 b1_0 b1_1 => iter (interp ([spec_l01WholeF n, spec_l01AddF n]) ty 30 0 n spec_l01Sumkp (codeAt spec_l01Sumc [1, 1, 0, 1, 0, 0])) (canon 0 (spec_l01Sumkp.loop 3)) (kAt ([spec_l01WholeF n, spec_l01AddF n]) ty 30 0 n spec_l01Sumkp spec_l01Sumc [1, 1, 0, 1, 0] [] (ending ty 0 Go.Proofs.Try.f190.results.toList spec_l01Sumrs spec_l01Sumbs)) k { env := [(2, .one (.ref 0 0 0 0 0 0)), (5, .one (.sc (.int .i64 v5))), (4, .one (.ref 1 0 0 0 0 0)), (0, .one (.list true (.pair (.int .i64) (.int .i64)) v0))], bx := [(0, .var 26 [.sc (.int .i64 b0_0), .sc (.int .i64 b0_1)]), (1, .var 26 [.sc (.int .i64 b1_0), .sc (.int .i64 b1_1)])], nx := 2 }) v5 v0 b0_0 b0_1 b1_0 b1_1 := by kernel_rfl
    rw [h]
    have e := congrArg (fun g => spec_l01Sum_t3 n g v5 v0 b0_0 b0_1 b1_0 b1_1) (funext fun v5 => funext fun v0 => funext fun b0_0 => funext fun b0_1 => funext fun b1_0 => funext fun b1_1 => spec_l01Sum_l3_eq n k v5 v0 b0_0 b0_1 b1_0 b1_1)
    exact e

theorem spec_l01Sum_eq (n : Nat) (a0 : List ((Int) × (Int))) : runBody ([spec_l01WholeF n, spec_l01AddF n]) ty 30 n spec_l01Sumkp spec_l01Sumc Go.Proofs.Try.f190.results.toList spec_l01Sumrs spec_l01Sumsp spec_l01Sumbs (a0, ()) () = spec_l01Sum n a0 := by
  have h : runBody ([spec_l01WholeF n, spec_l01AddF n]) ty 30 n spec_l01Sumkp spec_l01Sumc Go.Proofs.Try.f190.results.toList spec_l01Sumrs spec_l01Sumsp spec_l01Sumbs (a0, ()) () = spec_l01Sum_t n (fun k v5 v0 b0_0 b0_1 b1_0 b1_1 => iter (interp ([spec_l01WholeF n, spec_l01AddF n]) ty 30 0 n spec_l01Sumkp (codeAt spec_l01Sumc [1, 1, 0, 1, 0, 0])) (canon 0 (spec_l01Sumkp.loop 3)) (kAt ([spec_l01WholeF n, spec_l01AddF n]) ty 30 0 n spec_l01Sumkp spec_l01Sumc [1, 1, 0, 1, 0] [] (ending ty 0 Go.Proofs.Try.f190.results.toList spec_l01Sumrs spec_l01Sumbs)) k { env := [(2, .one (.ref 0 0 0 0 0 0)), (5, .one (.sc (.int .i64 v5))), (4, .one (.ref 1 0 0 0 0 0)), (0, .one (.list true (.pair (.int .i64) (.int .i64)) v0))], bx := [(0, .var 26 [.sc (.int .i64 b0_0), .sc (.int .i64 b0_1)]), (1, .var 26 [.sc (.int .i64 b1_0), .sc (.int .i64 b1_1)])], nx := 2 }) a0 := by kernel_rfl
  rw [h]
  have e := congrArg (fun h3 => spec_l01Sum_t n h3 a0) (funext fun k => funext fun v5 => funext fun v0 => funext fun b0_0 => funext fun b0_1 => funext fun b1_0 => funext fun b1_1 => spec_l01Sum_l3_eq n k v5 v0 b0_0 b0_1 b1_0 b1_1)
  exact e

theorem spec_l01Sum_ok (n : Nat) : FunOk P (spec_l01SumF n) :=
  funOk_mk (C := [spec_l01WholeF n, spec_l01AddF n]) (N := 30) (kp := spec_l01Sumkp) (c := spec_l01Sumc) (n := n) (G := fun x y => spec_l01Sum n x.1) follows (AllOk.mem (⟨spec_l01Whole_ok n, ⟨spec_l01Add_ok n, trivial⟩⟩ : AllOk P ([spec_l01WholeF n, spec_l01AddF n]))) (by kernel_rfl : P.funcs[190]? = some Go.Proofs.Try.f190) (by kernel_rfl) (by kernel_rfl) (by kernel_rfl)
    (fun x y => spec_l01Sum_eq n x.1) (fun _ _ => map_same (fun _ => rfl) _) (fun _ _ _ _ => rfl)

abbrev spec_l04Pairsp : List Sp := [.v false (.int .i64), .v false (.int .i64), .v true (.pair (.int .i64) (.int .i64))]
abbrev spec_l04Pairbs : List (Bs × Bool) := []
abbrev spec_l04Pairrs : List (Bool × List Rp) := [(true, [.v false (.pair (.pair (.int .i8) (.pair (.int .i8) (.pair (.int .i8) (.pair (.int .i8) (.pair (.int .i8) (.int .i8)))))) (.pair (.pair (.int .i64) (.int .i64)) (.int .i64)))])]
noncomputable def spec_l04Pairkp : Keep := { loop := fun id => match id with | _ => ([], []), join := fun id => match id with | _ => none }
noncomputable def spec_l04Pairc : Code := bodyOf Go.Proofs.Try.f198
noncomputable def spec_l04PairF (n : Nat) : Fun := { id := 198, sp := spec_l04Pairsp, bs := spec_l04Pairbs, rs := spec_l04Pairrs, f := fun x y => spec_l04Pair n x.1 x.2.1 x.2.2.1 }

theorem spec_l04Pair_eq (n : Nat) (a0 : Int) (a1 : Int) (a2 : (Int) × (Int)) : runBody ([]) ty 17 n spec_l04Pairkp spec_l04Pairc Go.Proofs.Try.f198.results.toList spec_l04Pairrs spec_l04Pairsp spec_l04Pairbs (a0, (a1, (a2, ()))) () = spec_l04Pair n a0 a1 a2 := by
  have h : runBody ([]) ty 17 n spec_l04Pairkp spec_l04Pairc Go.Proofs.Try.f198.results.toList spec_l04Pairrs spec_l04Pairsp spec_l04Pairbs (a0, (a1, (a2, ()))) () = spec_l04Pair_t n a0 a1 a2 := by kernel_rfl
  rw [h]
  rfl

theorem spec_l04Pair_ok (n : Nat) : FunOk P (spec_l04PairF n) :=
  funOk_mk (C := []) (N := 17) (kp := spec_l04Pairkp) (c := spec_l04Pairc) (n := n) (G := fun x y => spec_l04Pair n x.1 x.2.1 x.2.2.1) follows (AllOk.mem (trivial : AllOk P ([]))) (by kernel_rfl : P.funcs[198]? = some Go.Proofs.Try.f198) (by kernel_rfl) (by kernel_rfl) (by kernel_rfl)
    (fun x y => spec_l04Pair_eq n x.1 x.2.1 x.2.2.1) (fun _ _ => map_same (fun _ => rfl) _) (fun _ _ _ _ => rfl)

abbrev spec_PairTablesp : List Sp := [.v true (.pair (.pair (.int .i64) (.int .i64)) (.list (.pair (.int .i64) (.int .i64))))]
abbrev spec_PairTablebs : List (Bs × Bool) := []
abbrev spec_PairTablers : List (Bool × List Rp) := [(true, [.v false (.pair (.int .i64) (.pair (.list (.pair (.pair (.int .i8) (.pair (.int .i8) (.pair (.int .i8) (.pair (.int .i8) (.pair (.int .i8) (.int .i8)))))) (.pair (.pair (.int .i64) (.int .i64)) (.int .i64)))) (.pair .bool (.pair (.int .i64) (.int .i64)))))]), (false, [.v false (.int .i64)])]
noncomputable def spec_PairTablekp : Keep := { loop := fun id => match id with | 14 => ([2, 9, 10, 5, 4], [.box 1 1 (.pair (.pair (.int .i8) (.pair (.int .i8) (.pair (.int .i8) (.pair (.int .i8) (.pair (.int .i8) (.int .i8)))))) (.pair (.pair (.int .i64) (.int .i64)) (.int .i64)))]) | 17 => ([2, 11, 9, 10, 5, 4], [.box 1 1 (.pair (.pair (.int .i8) (.pair (.int .i8) (.pair (.int .i8) (.pair (.int .i8) (.pair (.int .i8) (.int .i8)))))) (.pair (.pair (.int .i64) (.int .i64)) (.int .i64)))]) | _ => ([], []), join := fun id => match id with | _ => none }
noncomputable def spec_PairTablec : Code := bodyOf Go.Proofs.Try.f97
noncomputable def spec_PairTableF (n : Nat) : Fun := { id := 97, sp := spec_PairTablesp, bs := spec_PairTablebs, rs := spec_PairTablers, f := fun x y => spec_PairTable n x.1 }

theorem spec_PairTable_l17_eq (n : Nat) (G14 : St → Option (((((Int) × ((List (((Int) × ((Int) × ((Int) × ((Int) × ((Int) × (Int)))))) × (((Int) × (Int)) × (Int)))) × ((Bool) × ((Int) × (Int))))) × (Unit)) × (((Int) × (Unit)) × (Unit))) × (Unit))) : ∀ (k : Nat) (v11 : Int) (v10 : Int) (v4 : Int) (b0_0 : Int) (b0_2 : Bool) (b0_3 : Int) (b0_4 : Int) (b1_0 : Int) (b1_2 : Bool) (b1_3 : Int) (b1_4 : Int) (b2 : List ((Int) × (Int))) (b3 : List (((Int) × ((Int) × ((Int) × ((Int) × ((Int) × (Int)))))) × (((Int) × (Int)) × (Int)))), iter (interp ([spec_l02OkF n, spec_l00InF n, spec_l04IntervalsF n, spec_l01SumF n, spec_l01SubF n, spec_l04PairF n]) ty 83 0 n spec_PairTablekp (codeAt spec_PairTablec [1, 1, 1, 1, 1, 1, 1, 1, 1, 0, 1, 0, 0, 1, 0, 0, 1, 0, 0])) (canon 0 (spec_PairTablekp.loop 17)) (kAt ([spec_l02OkF n, spec_l00InF n, spec_l04IntervalsF n, spec_l01SumF n, spec_l01SubF n, spec_l04PairF n]) ty 83 0 n spec_PairTablekp spec_PairTablec [1, 1, 1, 1, 1, 1, 1, 1, 1, 0, 1, 0, 0, 1, 0, 0, 1, 0] [G14] (ending ty 0 Go.Proofs.Try.f97.results.toList spec_PairTablers spec_PairTablebs)) k { env := [(2, .one (.ref 0 0 0 0 0 0)), (11, .one (.sc (.int .i64 v11))), (9, .one (.ref 1 0 0 0 0 0)), (10, .one (.sc (.int .i64 v10))), (5, .one (.slice 2 0 none)), (4, .one (.sc (.int .i64 v4)))], bx := [(0, .var 28 [.sc (.int .i64 b0_0), .sc (.slice none 0 0), .sc (.bool b0_2), .sc (.int .i64 b0_3), .sc (.int .i64 b0_4)]), (1, .var 28 [.sc (.int .i64 b1_0), .slice 3 0 none, .sc (.bool b1_2), .sc (.int .i64 b1_3), .sc (.int .i64 b1_4)]), (2, .row 0 (.pair (.int .i64) (.int .i64)) b2), (3, .row 0 (.pair (.pair (.int .i8) (.pair (.int .i8) (.pair (.int .i8) (.pair (.int .i8) (.pair (.int .i8) (.int .i8)))))) (.pair (.pair (.int .i64) (.int .i64)) (.int .i64))) b3)], nx := 4 } = spec_PairTable_l17 n (fun v10 v4 b0_0 b0_2 b0_3 b0_4 b1_0 b1_2 b1_3 b1_4 b2 b3 => G14 { env := [(2, .one (.ref 0 0 0 0 0 0)), (9, .one (.ref 1 0 0 0 0 0)), (10, .one (.sc (.int .i64 v10))), (5, .one (.slice 2 0 none)), (4, .one (.sc (.int .i64 v4)))], bx := [(0, .var 28 [.sc (.int .i64 b0_0), .sc (.slice none 0 0), .sc (.bool b0_2), .sc (.int .i64 b0_3), .sc (.int .i64 b0_4)]), (1, .var 28 [.sc (.int .i64 b1_0), .slice 3 0 none, .sc (.bool b1_2), .sc (.int .i64 b1_3), .sc (.int .i64 b1_4)]), (2, .row 0 (.pair (.int .i64) (.int .i64)) b2), (3, .row 0 (.pair (.pair (.int .i8) (.pair (.int .i8) (.pair (.int .i8) (.pair (.int .i8) (.pair (.int .i8) (.int .i8)))))) (.pair (.pair (.int .i64) (.int .i64)) (.int .i64))) b3)], nx := 4 }) k v11 v10 v4 b0_0 b0_2 b0_3 b0_4 b1_0 b1_2 b1_3 b1_4 b2 b3
  | 0, _, _, _, _, _, _, _, _, _, _, _, _, _ => by kernel_rfl
  | k + 1, v11, v10, v4, b0_0, b0_2, b0_3, b0_4, b1_0, b1_2, b1_3, b1_4, b2, b3 => by
    have h : iter (interp ([spec_l02OkF n, spec_l00InF n, spec_l04IntervalsF n, spec_l01SumF n, spec_l01SubF n, spec_l04PairF n]) ty 83 0 n spec_PairTablekp (codeAt spec_PairTablec [1, 1, 1, 1, 1, 1, 1, 1, 1, 0, 1, 0, 0, 1, 0, 0, 1, 0, 0])) (canon 0 (spec_PairTablekp.loop 17)) (kAt ([spec_l02OkF n, spec_l00InF n, spec_l04IntervalsF n, spec_l01SumF n, spec_l01SubF n, spec_l04PairF n]) ty 83 0 n spec_PairTablekp spec_PairTablec [1, 1, 1, 1, 1, 1, 1, 1, 1, 0, 1, 0, 0, 1, 0, 0, 1, 0] [G14] (ending ty 0 Go.Proofs.Try.f97.results.toList spec_PairTablers spec_PairTablebs)) (k + 1) { env := [(2, .one (.ref 0 0 0 0 0 0)), (11, .one (.sc (.int .i64 v11))), (9, .one (.ref 1 0 0 0 0 0)), (10, .one (.sc (.int .i64 v10))), (5, .one (.slice 2 0 none)), (4, .one (.sc (.int .i64 v4)))], bx := [(0, .var 28 [.sc (.int .i64 b0_0), .sc (.slice none 0 0), .sc (.bool b0_2), .sc (.int .i64 b0_3), .sc (.int .i64 b0_4)]), (1, .var 28 [.sc (.int .i64 b1_0), .slice 3 0 none, .sc (.bool b1_2), .sc (.int .i64 b1_3), .sc (.int .i64 b1_4)]), (2, .row 0 (.pair (.int .i64) (.int .i64)) b2), (3, .row 0 (.pair (.pair (.int .i8) (.pair (.int .i8) (.pair (.int .i8) (.pair (.int .i8) (.pair (.int .i8) (.int .i8)))))) (.pair (.pair (.int .i64) (.int .i64)) (.int .i64))) b3)], nx := 4 } = spec_PairTable_t17 n (fun v10 v4 b0_0 b0_2 b0_3 b0_4 b1_0 b1_2 b1_3 b1_4 b2 b3 => G14 { env := [(2, .one (.ref 0 0 0 0 0 0)), (9, .one (.ref 1 0 0 0 0 0)), (10, .one (.sc (.int .i64 v10))), (5, .one (.slice 2 0 none)), (4, .one (.sc (.int .i64 v4)))], bx := [(0, .var 28 [.sc (.int .i64 b0_0), .sc (.slice none 0 0), .sc (.bool b0_2), .sc (.int .i64 b0_3), .sc (.int .i64 b0_4)]), (1, .var 28 [.sc (.int .i64 b1_0), .slice 3 0 none, .sc (.bool b1_2), .sc (.int .i64 b1_3), .sc (.int .i64 b1_4)]), (2, .row 0 (.pair (.int .i64) (.int .i64)) b2), (3, .row 0 (.pair (.pair (.int .i8) (.pair (.int .i8) (.pair (.int .i8) (.pair (.int .i8) (.pair (.int .i8) (.int .i8)))))) (.pair (.pair (.int .i64) (.int .i64)) (.int .i64))) b3)], nx := 4 }) (fun v11 v10 v4 b0_0 b0_2 b0_3 b0_4 b1_0 b1_2 b1_3 b1_4 b2 b3 => iter (interp ([spec_l02OkF n, spec_l00InF n, spec_l04IntervalsF n, spec_l01SumF n, spec_l01SubF n, spec_l04PairF n]) ty 83 0 n spec_PairTablekp (codeAt spec_PairTablec [1, 1, 1, 1, 1, 1, 1, 1, 1, 0, 1, 0, 0, 1, 0, 0, 1, 0, 0])) (canon 0 (spec_PairTablekp.loop 17)) (kAt ([spec_l02OkF n, spec_l00InF n, spec_l04IntervalsF n, spec_l01SumF n, spec_l01SubF n, spec_l04PairF n]) ty 83 0 n spec_PairTablekp spec_PairTablec [1, 1, 1, 1, 1, 1, 1, 1, 1, 0, 1, 0, 0, 1, 0, 0, 1, 0] [G14] (ending ty 0 Go.Proofs.Try.f97.results.toList spec_PairTablers spec_PairTablebs)) k { env := [(2, .one (.ref 0 0 0 0 0 0)), (11, .one (.sc (.int .i64 v11))), (9, .one (.ref 1 0 0 0 0 0)), (10, .one (.sc (.int .i64 v10))), (5, .one (.slice 2 0 none)), (4, .one (.sc (.int .i64 v4)))], bx := [(0, .var 28 [.sc (.int .i64 b0_0), .sc (.slice none 0 0), .sc (.bool b0_2), .sc (.int .i64 b0_3), .sc (.int .i64 b0_4)]), (1, .var 28 [.sc (.int .i64 b1_0), .slice 3 0 none, .sc (.bool b1_2), .sc (.int .i64 b1_3), .sc (.int .i64 b1_4)]), (2, .row 0 (.pair (.int .i64) (.int .i64)) b2), (3, .row 0 (.pair (.pair (.int .i8) (.pair (.int .i8) (.pair (.int .i8) (.pair (.int .i8) (.pair (.int .i8) (.int .i8)))))) (.pair (.pair (.int .i64) (.int .i64)) (.int .i64))) b3)], nx := 4 }) v11 v10 v4 b0_0 b0_2 b0_3 b0_4 b1_0 b1_2 b1_3 b1_4 b2 b3 := by kernel_rfl
    rw [h]
    have e := congrArg (fun g => spec_PairTable_t17 n (fun v10 v4 b0_0 b0_2 b0_3 b0_4 b1_0 b1_2 b1_3 b1_4 b2 b3 => G14 { env := [(2, .one (.ref 0 0 0 0 0 0)), (9, .one (.ref 1 0 0 0 0 0)), (10, .one (.sc (.int .i64 v10))), (5, .one (.slice 2 0 none)), (4, .one (.sc (.int .i64 v4)))], bx := [(0, .var 28 [.sc (.int .i64 b0_0), .sc (.slice none 0 0), .sc (.bool b0_2), .sc (.int .i64 b0_3), .sc (.int .i64 b0_4)]), (1, .var 28 [.sc (.int .i64 b1_0), .slice 3 0 none, .sc (.bool b1_2), .sc (.int .i64 b1_3), .sc (.int .i64 b1_4)]), (2, .row 0 (.pair (.int .i64) (.int .i64)) b2), (3, .row 0 (.pair (.pair (.int .i8) (.pair (.int .i8) (.pair (.int .i8) (.pair (.int .i8) (.pair (.int .i8) (.int .i8)))))) (.pair (.pair (.int .i64) (.int .i64)) (.int .i64))) b3)], nx := 4 }) g v11 v10 v4 b0_0 b0_2 b0_3 b0_4 b1_0 b1_2 b1_3 b1_4 b2 b3) (funext fun v11 => funext fun v10 => funext fun v4 => funext fun b0_0 => funext fun b0_2 => funext fun b0_3 => funext fun b0_4 => funext fun b1_0 => funext fun b1_2 => funext fun b1_3 => funext fun b1_4 => funext fun b2 => funext fun b3 => spec_PairTable_l17_eq n G14 k v11 v10 v4 b0_0 b0_2 b0_3 b0_4 b1_0 b1_2 b1_3 b1_4 b2 b3)
    exact e

theorem spec_PairTable_l14_eq (n : Nat) : ∀ (k : Nat) (v10 : Int) (v4 : Int) (b0_0 : Int) (b0_2 : Bool) (b0_3 : Int) (b0_4 : Int) (b1_0 : Int) (b1_2 : Bool) (b1_3 : Int) (b1_4 : Int) (b2 : List ((Int) × (Int))) (b3 : List (((Int) × ((Int) × ((Int) × ((Int) × ((Int) × (Int)))))) × (((Int) × (Int)) × (Int)))), iter (interp ([spec_l02OkF n, spec_l00InF n, spec_l04IntervalsF n, spec_l01SumF n, spec_l01SubF n, spec_l04PairF n]) ty 83 0 n spec_PairTablekp (codeAt spec_PairTablec [1, 1, 1, 1, 1, 1, 1, 1, 1, 0, 1, 0, 0])) (canon 0 (spec_PairTablekp.loop 14)) (kAt ([spec_l02OkF n, spec_l00InF n, spec_l04IntervalsF n, spec_l01SumF n, spec_l01SubF n, spec_l04PairF n]) ty 83 0 n spec_PairTablekp spec_PairTablec [1, 1, 1, 1, 1, 1, 1, 1, 1, 0, 1, 0] [] (ending ty 0 Go.Proofs.Try.f97.results.toList spec_PairTablers spec_PairTablebs)) k { env := [(2, .one (.ref 0 0 0 0 0 0)), (9, .one (.ref 1 0 0 0 0 0)), (10, .one (.sc (.int .i64 v10))), (5, .one (.slice 2 0 none)), (4, .one (.sc (.int .i64 v4)))], bx := [(0, .var 28 [.sc (.int .i64 b0_0), .sc (.slice none 0 0), .sc (.bool b0_2), .sc (.int .i64 b0_3), .sc (.int .i64 b0_4)]), (1, .var 28 [.sc (.int .i64 b1_0), .slice 3 0 none, .sc (.bool b1_2), .sc (.int .i64 b1_3), .sc (.int .i64 b1_4)]), (2, .row 0 (.pair (.int .i64) (.int .i64)) b2), (3, .row 0 (.pair (.pair (.int .i8) (.pair (.int .i8) (.pair (.int .i8) (.pair (.int .i8) (.pair (.int .i8) (.int .i8)))))) (.pair (.pair (.int .i64) (.int .i64)) (.int .i64))) b3)], nx := 4 } = spec_PairTable_l14 n k v10 v4 b0_0 b0_2 b0_3 b0_4 b1_0 b1_2 b1_3 b1_4 b2 b3
  | 0, _, _, _, _, _, _, _, _, _, _, _, _ => by kernel_rfl
  | k + 1, v10, v4, b0_0, b0_2, b0_3, b0_4, b1_0, b1_2, b1_3, b1_4, b2, b3 => by
    have h : iter (interp ([spec_l02OkF n, spec_l00InF n, spec_l04IntervalsF n, spec_l01SumF n, spec_l01SubF n, spec_l04PairF n]) ty 83 0 n spec_PairTablekp (codeAt spec_PairTablec [1, 1, 1, 1, 1, 1, 1, 1, 1, 0, 1, 0, 0])) (canon 0 (spec_PairTablekp.loop 14)) (kAt ([spec_l02OkF n, spec_l00InF n, spec_l04IntervalsF n, spec_l01SumF n, spec_l01SubF n, spec_l04PairF n]) ty 83 0 n spec_PairTablekp spec_PairTablec [1, 1, 1, 1, 1, 1, 1, 1, 1, 0, 1, 0] [] (ending ty 0 Go.Proofs.Try.f97.results.toList spec_PairTablers spec_PairTablebs)) (k + 1) { env := [(2, .one (.ref 0 0 0 0 0 0)), (9, .one (.ref 1 0 0 0 0 0)), (10, .one (.sc (.int .i64 v10))), (5, .one (.slice 2 0 none)), (4, .one (.sc (.int .i64 v4)))], bx := [(0, .var 28 [.sc (.int .i64 b0_0), .sc (.slice none 0 0), .sc (.bool b0_2), .sc (.int .i64 b0_3), .sc (.int .i64 b0_4)]), (1, .var 28 [.sc (.int .i64 b1_0), .slice 3 0 none, .sc (.bool b1_2), .sc (.int .i64 b1_3), .sc (.int .i64 b1_4)]), (2, .row 0 (.pair (.int .i64) (.int .i64)) b2), (3, .row 0 (.pair (.pair (.int .i8) (.pair (.int .i8) (.pair (.int .i8) (.pair (.int .i8) (.pair (.int .i8) (.int .i8)))))) (.pair (.pair (.int .i64) (.int .i64)) (.int .i64))) b3)], nx := 4 } = spec_PairTable_t14 n (fun k' v11 v10 v4 b0_0 b0_2 b0_3 b0_4 b1_0 b1_2 b1_3 b1_4 b2 b3 => iter (interp ([spec_l02OkF n, spec_l00InF n, spec_l04IntervalsF n, spec_l01SumF n, spec_l01SubF n, spec_l04PairF n]) ty 83 0 n spec_PairTablekp (codeAt spec_PairTablec [1, 1, 1, 1, 1, 1, 1, 1, 1, 0, 1, 0, 0, 1, 0, 0, 1, 0, 0])) (canon 0 (spec_PairTablekp.loop 17)) (kAt ([spec_l02OkF n, spec_l00InF n, spec_l04IntervalsF n, spec_l01SumF n, spec_l01SubF n, spec_l04PairF n]) ty 83 0 n spec_PairTablekp spec_PairTablec [1, 1, 1, 1, 1, 1, 1, 1, 1, 0, 1, 0, 0, 1, 0, 0, 1, 0] [(fun s => iter (interp ([spec_l02OkF n, spec_l00InF n, spec_l04IntervalsF n, spec_l01SumF n, spec_l01SubF n, spec_l04PairF n]) ty 83 0 n spec_PairTablekp (codeAt spec_PairTablec [1, 1, 1, 1, 1, 1, 1, 1, 1, 0, 1, 0, 0])) (canon 0 (spec_PairTablekp.loop 14)) (kAt ([spec_l02OkF n, spec_l00InF n, spec_l04IntervalsF n, spec_l01SumF n, spec_l01SubF n, spec_l04PairF n]) ty 83 0 n spec_PairTablekp spec_PairTablec [1, 1, 1, 1, 1, 1, 1, 1, 1, 0, 1, 0] [] (ending ty 0 Go.Proofs.Try.f97.results.toList spec_PairTablers spec_PairTablebs)) k s)] (ending ty 0 Go.Proofs.Try.f97.results.toList spec_PairTablers spec_PairTablebs)) k' { env := [(2, .one (.ref 0 0 0 0 0 0)), (11, .one (.sc (.int .i64 v11))), (9, .one (.ref 1 0 0 0 0 0)), (10, .one (.sc (.int .i64 v10))), (5, .one (.slice 2 0 none)), (4, .one (.sc (.int .i64 v4)))], bx := [(0, .var 28 [.sc (.int .i64 b0_0), .sc (.slice none 0 0), .sc (.bool b0_2), .sc (.int .i64 b0_3), .sc (.int .i64 b0_4)]), (1, .var 28 [.sc (.int .i64 b1_0), .slice 3 0 none, .sc (.bool b1_2), .sc (.int .i64 b1_3), .sc (.int .i64 b1_4)]), (2, .row 0 (.pair (.int .i64) (.int .i64)) b2), (3, .row 0 (.pair (.pair (.int .i8) (.pair (.int .i8) (.pair (.int .i8) (.pair (.int .i8) (.pair (.int .i8) (.int .i8)))))) (.pair (.pair (.int .i64) (.int .i64)) (.int .i64))) b3)], nx := 4 }) (fun v10 v4 b0_0 b0_2 b0_3 b0_4 b1_0 b1_2 b1_3 b1_4 b2 b3 => iter (interp ([spec_l02OkF n, spec_l00InF n, spec_l04IntervalsF n, spec_l01SumF n, spec_l01SubF n, spec_l04PairF n]) ty 83 0 n spec_PairTablekp (codeAt spec_PairTablec [1, 1, 1, 1, 1, 1, 1, 1, 1, 0, 1, 0, 0])) (canon 0 (spec_PairTablekp.loop 14)) (kAt ([spec_l02OkF n, spec_l00InF n, spec_l04IntervalsF n, spec_l01SumF n, spec_l01SubF n, spec_l04PairF n]) ty 83 0 n spec_PairTablekp spec_PairTablec [1, 1, 1, 1, 1, 1, 1, 1, 1, 0, 1, 0] [] (ending ty 0 Go.Proofs.Try.f97.results.toList spec_PairTablers spec_PairTablebs)) k { env := [(2, .one (.ref 0 0 0 0 0 0)), (9, .one (.ref 1 0 0 0 0 0)), (10, .one (.sc (.int .i64 v10))), (5, .one (.slice 2 0 none)), (4, .one (.sc (.int .i64 v4)))], bx := [(0, .var 28 [.sc (.int .i64 b0_0), .sc (.slice none 0 0), .sc (.bool b0_2), .sc (.int .i64 b0_3), .sc (.int .i64 b0_4)]), (1, .var 28 [.sc (.int .i64 b1_0), .slice 3 0 none, .sc (.bool b1_2), .sc (.int .i64 b1_3), .sc (.int .i64 b1_4)]), (2, .row 0 (.pair (.int .i64) (.int .i64)) b2), (3, .row 0 (.pair (.pair (.int .i8) (.pair (.int .i8) (.pair (.int .i8) (.pair (.int .i8) (.pair (.int .i8) (.int .i8)))))) (.pair (.pair (.int .i64) (.int .i64)) (.int .i64))) b3)], nx := 4 }) v10 v4 b0_0 b0_2 b0_3 b0_4 b1_0 b1_2 b1_3 b1_4 b2 b3 := by kernel_rfl
    rw [h]
    have e := congr (congrArg (fun h17 g => spec_PairTable_t14 n h17 g v10 v4 b0_0 b0_2 b0_3 b0_4 b1_0 b1_2 b1_3 b1_4 b2 b3) ((funext fun k' => funext fun v11 => funext fun v10 => funext fun v4 => funext fun b0_0 => funext fun b0_2 => funext fun b0_3 => funext fun b0_4 => funext fun b1_0 => funext fun b1_2 => funext fun b1_3 => funext fun b1_4 => funext fun b2 => funext fun b3 => spec_PairTable_l17_eq n (fun s => iter (interp ([spec_l02OkF n, spec_l00InF n, spec_l04IntervalsF n, spec_l01SumF n, spec_l01SubF n, spec_l04PairF n]) ty 83 0 n spec_PairTablekp (codeAt spec_PairTablec [1, 1, 1, 1, 1, 1, 1, 1, 1, 0, 1, 0, 0])) (canon 0 (spec_PairTablekp.loop 14)) (kAt ([spec_l02OkF n, spec_l00InF n, spec_l04IntervalsF n, spec_l01SumF n, spec_l01SubF n, spec_l04PairF n]) ty 83 0 n spec_PairTablekp spec_PairTablec [1, 1, 1, 1, 1, 1, 1, 1, 1, 0, 1, 0] [] (ending ty 0 Go.Proofs.Try.f97.results.toList spec_PairTablers spec_PairTablebs)) k s) k' v11 v10 v4 b0_0 b0_2 b0_3 b0_4 b1_0 b1_2 b1_3 b1_4 b2 b3).trans (congrArg (fun z => spec_PairTable_l17 n z) (funext fun v10 => funext fun v4 => funext fun b0_0 => funext fun b0_2 => funext fun b0_3 => funext fun b0_4 => funext fun b1_0 => funext fun b1_2 => funext fun b1_3 => funext fun b1_4 => funext fun b2 => funext fun b3 => spec_PairTable_l14_eq n k v10 v4 b0_0 b0_2 b0_3 b0_4 b1_0 b1_2 b1_3 b1_4 b2 b3)))) (funext fun v10 => funext fun v4 => funext fun b0_0 => funext fun b0_2 => funext fun b0_3 => funext fun b0_4 => funext fun b1_0 => funext fun b1_2 => funext fun b1_3 => funext fun b1_4 => funext fun b2 => funext fun b3 => spec_PairTable_l14_eq n k v10 v4 b0_0 b0_2 b0_3 b0_4 b1_0 b1_2 b1_3 b1_4 b2 b3)
    exact e

theorem spec_PairTable_eq (n : Nat) (a0 : ((Int) × (Int)) × (List ((Int) × (Int)))) : runBody ([spec_l02OkF n, spec_l00InF n, spec_l04IntervalsF n, spec_l01SumF n, spec_l01SubF n, spec_l04PairF n]) ty 83 n spec_PairTablekp spec_PairTablec Go.Proofs.Try.f97.results.toList spec_PairTablers spec_PairTablesp spec_PairTablebs (a0, ()) () = spec_PairTable n a0 := by
  have h : runBody ([spec_l02OkF n, spec_l00InF n, spec_l04IntervalsF n, spec_l01SumF n, spec_l01SubF n, spec_l04PairF n]) ty 83 n spec_PairTablekp spec_PairTablec Go.Proofs.Try.f97.results.toList spec_PairTablers spec_PairTablesp spec_PairTablebs (a0, ()) () = spec_PairTable_t n (fun k v10 v4 b0_0 b0_2 b0_3 b0_4 b1_0 b1_2 b1_3 b1_4 b2 b3 => iter (interp ([spec_l02OkF n, spec_l00InF n, spec_l04IntervalsF n, spec_l01SumF n, spec_l01SubF n, spec_l04PairF n]) ty 83 0 n spec_PairTablekp (codeAt spec_PairTablec [1, 1, 1, 1, 1, 1, 1, 1, 1, 0, 1, 0, 0])) (canon 0 (spec_PairTablekp.loop 14)) (kAt ([spec_l02OkF n, spec_l00InF n, spec_l04IntervalsF n, spec_l01SumF n, spec_l01SubF n, spec_l04PairF n]) ty 83 0 n spec_PairTablekp spec_PairTablec [1, 1, 1, 1, 1, 1, 1, 1, 1, 0, 1, 0] [] (ending ty 0 Go.Proofs.Try.f97.results.toList spec_PairTablers spec_PairTablebs)) k { env := [(2, .one (.ref 0 0 0 0 0 0)), (9, .one (.ref 1 0 0 0 0 0)), (10, .one (.sc (.int .i64 v10))), (5, .one (.slice 2 0 none)), (4, .one (.sc (.int .i64 v4)))], bx := [(0, .var 28 [.sc (.int .i64 b0_0), .sc (.slice none 0 0), .sc (.bool b0_2), .sc (.int .i64 b0_3), .sc (.int .i64 b0_4)]), (1, .var 28 [.sc (.int .i64 b1_0), .slice 3 0 none, .sc (.bool b1_2), .sc (.int .i64 b1_3), .sc (.int .i64 b1_4)]), (2, .row 0 (.pair (.int .i64) (.int .i64)) b2), (3, .row 0 (.pair (.pair (.int .i8) (.pair (.int .i8) (.pair (.int .i8) (.pair (.int .i8) (.pair (.int .i8) (.int .i8)))))) (.pair (.pair (.int .i64) (.int .i64)) (.int .i64))) b3)], nx := 4 }) a0 := by kernel_rfl
  rw [h]
  have e := congrArg (fun h14 => spec_PairTable_t n h14 a0) (funext fun k => funext fun v10 => funext fun v4 => funext fun b0_0 => funext fun b0_2 => funext fun b0_3 => funext fun b0_4 => funext fun b1_0 => funext fun b1_2 => funext fun b1_3 => funext fun b1_4 => funext fun b2 => funext fun b3 => spec_PairTable_l14_eq n k v10 v4 b0_0 b0_2 b0_3 b0_4 b1_0 b1_2 b1_3 b1_4 b2 b3)
  exact e

theorem spec_PairTable_ok (n : Nat) : FunOk P (spec_PairTableF n) :=
  funOk_mk (C := [spec_l02OkF n, spec_l00InF n, spec_l04IntervalsF n, spec_l01SumF n, spec_l01SubF n, spec_l04PairF n]) (N := 83) (kp := spec_PairTablekp) (c := spec_PairTablec) (n := n) (G := fun x y => spec_PairTable n x.1) follows (AllOk.mem (⟨spec_l02Ok_ok n, ⟨spec_l00In_ok n, ⟨spec_l04Intervals_ok n, ⟨spec_l01Sum_ok n, ⟨spec_l01Sub_ok n, ⟨spec_l04Pair_ok n, trivial⟩⟩⟩⟩⟩⟩ : AllOk P ([spec_l02OkF n, spec_l00InF n, spec_l04IntervalsF n, spec_l01SumF n, spec_l01SubF n, spec_l04PairF n]))) (by kernel_rfl : P.funcs[97]? = some Go.Proofs.Try.f97) (by kernel_rfl) (by kernel_rfl) (by kernel_rfl)
    (fun x y => spec_PairTable_eq n x.1) (fun _ _ => map_same (fun _ => rfl) _) (fun _ _ _ _ => rfl)

abbrev impl_withinsp : List Sp := [.v false (.int .i64), .v false (.int .i64), .v false (.int .i64)]
abbrev impl_withinbs : List (Bs × Bool) := []
abbrev impl_withinrs : List (Bool × List Rp) := [(false, [.v false .bool])]
noncomputable def impl_withinkp : Keep := { loop := fun id => match id with | _ => ([], []), join := fun id => match id with | _ => none }
noncomputable def impl_withinc : Code := bodyOf Go.Proofs.Try.f141
noncomputable def impl_withinF (n : Nat) : Fun := { id := 141, sp := impl_withinsp, bs := impl_withinbs, rs := impl_withinrs, f := fun x y => impl_within n x.1 x.2.1 x.2.2.1 }

theorem impl_within_eq (n : Nat) (a0 : Int) (a1 : Int) (a2 : Int) : runBody ([]) ty 15 n impl_withinkp impl_withinc Go.Proofs.Try.f141.results.toList impl_withinrs impl_withinsp impl_withinbs (a0, (a1, (a2, ()))) () = impl_within n a0 a1 a2 := by
  have h : runBody ([]) ty 15 n impl_withinkp impl_withinc Go.Proofs.Try.f141.results.toList impl_withinrs impl_withinsp impl_withinbs (a0, (a1, (a2, ()))) () = impl_within_t n a0 a1 a2 := by kernel_rfl
  rw [h]
  rfl

theorem impl_within_ok (n : Nat) : FunOk P (impl_withinF n) :=
  funOk_mk (C := []) (N := 15) (kp := impl_withinkp) (c := impl_withinc) (n := n) (G := fun x y => impl_within n x.1 x.2.1 x.2.2.1) follows (AllOk.mem (trivial : AllOk P ([]))) (by kernel_rfl : P.funcs[141]? = some Go.Proofs.Try.f141) (by kernel_rfl) (by kernel_rfl) (by kernel_rfl)
    (fun x y => impl_within_eq n x.1 x.2.1 x.2.2.1) (fun _ _ => map_same (fun _ => rfl) _) (fun _ _ _ _ => rfl)

abbrev impl_gcdsp : List Sp := [.v false (.int .i64), .v false (.int .i64)]
abbrev impl_gcdbs : List (Bs × Bool) := []
abbrev impl_gcdrs : List (Bool × List Rp) := [(false, [.v false (.int .i64)])]
noncomputable def impl_gcdkp : Keep := { loop := fun id => match id with | 1 => ([1, 0], []) | _ => ([], []), join := fun id => match id with | _ => none }
noncomputable def impl_gcdc : Code := bodyOf Go.Proofs.Try.f245
noncomputable def impl_gcdF (n : Nat) : Fun := { id := 245, sp := impl_gcdsp, bs := impl_gcdbs, rs := impl_gcdrs, f := fun x y => impl_gcd n x.1 x.2.1 }

theorem impl_gcd_l1_eq (n : Nat) : ∀ (k : Nat) (v1 : Int) (v0 : Int), iter (interp ([]) ty 15 0 n impl_gcdkp (codeAt impl_gcdc [1, 0, 0, 0])) (canon 0 (impl_gcdkp.loop 1)) (kAt ([]) ty 15 0 n impl_gcdkp impl_gcdc [1, 0, 0] [] (ending ty 0 Go.Proofs.Try.f245.results.toList impl_gcdrs impl_gcdbs)) k { env := [(1, .one (.sc (.int .i64 v1))), (0, .one (.sc (.int .i64 v0)))], bx := [], nx := 0 } = impl_gcd_l1 n k v1 v0
  | 0, _, _ => by kernel_rfl
  | k + 1, v1, v0 => by
    have h : iter (interp ([]) ty 15 0 n impl_gcdkp (codeAt impl_gcdc [1, 0, 0, 0])) (canon 0 (impl_gcdkp.loop 1)) (kAt ([]) ty 15 0 n impl_gcdkp impl_gcdc [1, 0, 0] [] (ending ty 0 Go.Proofs.Try.f245.results.toList impl_gcdrs impl_gcdbs)) (k + 1) { env := [(1, .one (.sc (.int .i64 v1))), (0, .one (.sc (.int .i64 v0)))], bx := [], nx := 0 } = impl_gcd_t1 n (fun v1 v0 => iter (interp ([]) ty 15 0 n impl_gcdkp (codeAt impl_gcdc [1, 0, 0, 0])) (canon 0 (impl_gcdkp.loop 1)) (kAt ([]) ty 15 0 n impl_gcdkp impl_gcdc [1, 0, 0] [] (ending ty 0 Go.Proofs.Try.f245.results.toList impl_gcdrs impl_gcdbs)) k { env := [(1, .one (.sc (.int .i64 v1))), (0, .one (.sc (.int .i64 v0)))], bx := [], nx := 0 }) v1 v0 := by kernel_rfl
    rw [h]
    have e := congrArg (fun g => impl_gcd_t1 n g v1 v0) (funext fun v1 => funext fun v0 => impl_gcd_l1_eq n k v1 v0)
    exact e

theorem impl_gcd_eq (n : Nat) (a0 : Int) (a1 : Int) : runBody ([]) ty 15 n impl_gcdkp impl_gcdc Go.Proofs.Try.f245.results.toList impl_gcdrs impl_gcdsp impl_gcdbs (a0, (a1, ())) () = impl_gcd n a0 a1 := by
  have h : runBody ([]) ty 15 n impl_gcdkp impl_gcdc Go.Proofs.Try.f245.results.toList impl_gcdrs impl_gcdsp impl_gcdbs (a0, (a1, ())) () = impl_gcd_t n (fun k v1 v0 => iter (interp ([]) ty 15 0 n impl_gcdkp (codeAt impl_gcdc [1, 0, 0, 0])) (canon 0 (impl_gcdkp.loop 1)) (kAt ([]) ty 15 0 n impl_gcdkp impl_gcdc [1, 0, 0] [] (ending ty 0 Go.Proofs.Try.f245.results.toList impl_gcdrs impl_gcdbs)) k { env := [(1, .one (.sc (.int .i64 v1))), (0, .one (.sc (.int .i64 v0)))], bx := [], nx := 0 }) a0 a1 := by kernel_rfl
  rw [h]
  have e := congrArg (fun h1 => impl_gcd_t n h1 a0 a1) (funext fun k => funext fun v1 => funext fun v0 => impl_gcd_l1_eq n k v1 v0)
  exact e

theorem impl_gcd_ok (n : Nat) : FunOk P (impl_gcdF n) :=
  funOk_mk (C := []) (N := 15) (kp := impl_gcdkp) (c := impl_gcdc) (n := n) (G := fun x y => impl_gcd n x.1 x.2.1) follows (AllOk.mem (trivial : AllOk P ([]))) (by kernel_rfl : P.funcs[245]? = some Go.Proofs.Try.f245) (by kernel_rfl) (by kernel_rfl) (by kernel_rfl)
    (fun x y => impl_gcd_eq n x.1 x.2.1) (fun _ _ => map_same (fun _ => rfl) _) (fun _ _ _ _ => rfl)

abbrev impl_ValidFracsp : List Sp := [.v true (.pair (.int .i64) (.int .i64))]
abbrev impl_ValidFracbs : List (Bs × Bool) := []
abbrev impl_ValidFracrs : List (Bool × List Rp) := [(false, [.v false .bool])]
noncomputable def impl_ValidFrackp : Keep := { loop := fun id => match id with | _ => ([], []), join := fun id => match id with | _ => none }
noncomputable def impl_ValidFracc : Code := bodyOf Go.Proofs.Try.f184
noncomputable def impl_ValidFracF (n : Nat) : Fun := { id := 184, sp := impl_ValidFracsp, bs := impl_ValidFracbs, rs := impl_ValidFracrs, f := fun x y => impl_ValidFrac n x.1 }

theorem impl_ValidFrac_eq (n : Nat) (a0 : (Int) × (Int)) : runBody ([impl_withinF n, impl_gcdF n]) ty 19 n impl_ValidFrackp impl_ValidFracc Go.Proofs.Try.f184.results.toList impl_ValidFracrs impl_ValidFracsp impl_ValidFracbs (a0, ()) () = impl_ValidFrac n a0 := by
  have h : runBody ([impl_withinF n, impl_gcdF n]) ty 19 n impl_ValidFrackp impl_ValidFracc Go.Proofs.Try.f184.results.toList impl_ValidFracrs impl_ValidFracsp impl_ValidFracbs (a0, ()) () = impl_ValidFrac_t n a0 := by kernel_rfl
  rw [h]
  rfl

theorem impl_ValidFrac_ok (n : Nat) : FunOk P (impl_ValidFracF n) :=
  funOk_mk (C := [impl_withinF n, impl_gcdF n]) (N := 19) (kp := impl_ValidFrackp) (c := impl_ValidFracc) (n := n) (G := fun x y => impl_ValidFrac n x.1) follows (AllOk.mem (⟨impl_within_ok n, ⟨impl_gcd_ok n, trivial⟩⟩ : AllOk P ([impl_withinF n, impl_gcdF n]))) (by kernel_rfl : P.funcs[184]? = some Go.Proofs.Try.f184) (by kernel_rfl) (by kernel_rfl) (by kernel_rfl)
    (fun x y => impl_ValidFrac_eq n x.1) (fun _ _ => map_same (fun _ => rfl) _) (fun _ _ _ _ => rfl)

abbrev impl_numsp : List Sp := [.v false (.int .i64)]
abbrev impl_numbs : List (Bs × Bool) := []
abbrev impl_numrs : List (Bool × List Rp) := [(true, [.v false (.pair (.int .i64) (.int .i64))])]
noncomputable def impl_numkp : Keep := { loop := fun id => match id with | _ => ([], []), join := fun id => match id with | _ => none }
noncomputable def impl_numc : Code := bodyOf Go.Proofs.Try.f188
noncomputable def impl_numF (n : Nat) : Fun := { id := 188, sp := impl_numsp, bs := impl_numbs, rs := impl_numrs, f := fun x y => impl_num n x.1 }

theorem impl_num_eq (n : Nat) (a0 : Int) : runBody ([]) ty 5 n impl_numkp impl_numc Go.Proofs.Try.f188.results.toList impl_numrs impl_numsp impl_numbs (a0, ()) () = impl_num n a0 := by
  have h : runBody ([]) ty 5 n impl_numkp impl_numc Go.Proofs.Try.f188.results.toList impl_numrs impl_numsp impl_numbs (a0, ()) () = impl_num_t n a0 := by kernel_rfl
  rw [h]
  rfl

theorem impl_num_ok (n : Nat) : FunOk P (impl_numF n) :=
  funOk_mk (C := []) (N := 5) (kp := impl_numkp) (c := impl_numc) (n := n) (G := fun x y => impl_num n x.1) follows (AllOk.mem (trivial : AllOk P ([]))) (by kernel_rfl : P.funcs[188]? = some Go.Proofs.Try.f188) (by kernel_rfl) (by kernel_rfl) (by kernel_rfl)
    (fun x y => impl_num_eq n x.1) (fun _ _ => map_same (fun _ => rfl) _) (fun _ _ _ _ => rfl)

abbrev impl_comparesp : List Sp := [.v true (.pair (.int .i64) (.int .i64)), .v true (.pair (.int .i64) (.int .i64))]
abbrev impl_comparebs : List (Bs × Bool) := []
abbrev impl_comparers : List (Bool × List Rp) := [(false, [.v false (.int .i64)])]
noncomputable def impl_comparekp : Keep := { loop := fun id => match id with | _ => ([], []), join := fun id => match id with | _ => none }
noncomputable def impl_comparec : Code := bodyOf Go.Proofs.Try.f138
noncomputable def impl_compareF (n : Nat) : Fun := { id := 138, sp := impl_comparesp, bs := impl_comparebs, rs := impl_comparers, f := fun x y => impl_compare n x.1 x.2.1 }

theorem impl_compare_eq (n : Nat) (a0 : (Int) × (Int)) (a1 : (Int) × (Int)) : runBody ([]) ty 25 n impl_comparekp impl_comparec Go.Proofs.Try.f138.results.toList impl_comparers impl_comparesp impl_comparebs (a0, (a1, ())) () = impl_compare n a0 a1 := by
  have h : runBody ([]) ty 25 n impl_comparekp impl_comparec Go.Proofs.Try.f138.results.toList impl_comparers impl_comparesp impl_comparebs (a0, (a1, ())) () = impl_compare_t n a0 a1 := by kernel_rfl
  rw [h]
  rfl

theorem impl_compare_ok (n : Nat) : FunOk P (impl_compareF n) :=
  funOk_mk (C := []) (N := 25) (kp := impl_comparekp) (c := impl_comparec) (n := n) (G := fun x y => impl_compare n x.1 x.2.1) follows (AllOk.mem (trivial : AllOk P ([]))) (by kernel_rfl : P.funcs[138]? = some Go.Proofs.Try.f138) (by kernel_rfl) (by kernel_rfl) (by kernel_rfl)
    (fun x y => impl_compare_eq n x.1 x.2.1) (fun _ _ => map_same (fun _ => rfl) _) (fun _ _ _ _ => rfl)

abbrev impl_isUnitsp : List Sp := [.v true (.pair (.int .i64) (.int .i64))]
abbrev impl_isUnitbs : List (Bs × Bool) := []
abbrev impl_isUnitrs : List (Bool × List Rp) := [(false, [.v false .bool])]
noncomputable def impl_isUnitkp : Keep := { loop := fun id => match id with | _ => ([], []), join := fun id => match id with | _ => none }
noncomputable def impl_isUnitc : Code := bodyOf Go.Proofs.Try.f211
noncomputable def impl_isUnitF (n : Nat) : Fun := { id := 211, sp := impl_isUnitsp, bs := impl_isUnitbs, rs := impl_isUnitrs, f := fun x y => impl_isUnit n x.1 }

theorem impl_isUnit_eq (n : Nat) (a0 : (Int) × (Int)) : runBody ([impl_numF n, impl_compareF n]) ty 12 n impl_isUnitkp impl_isUnitc Go.Proofs.Try.f211.results.toList impl_isUnitrs impl_isUnitsp impl_isUnitbs (a0, ()) () = impl_isUnit n a0 := by
  have h : runBody ([impl_numF n, impl_compareF n]) ty 12 n impl_isUnitkp impl_isUnitc Go.Proofs.Try.f211.results.toList impl_isUnitrs impl_isUnitsp impl_isUnitbs (a0, ()) () = impl_isUnit_t n a0 := by kernel_rfl
  rw [h]
  rfl

theorem impl_isUnit_ok (n : Nat) : FunOk P (impl_isUnitF n) :=
  funOk_mk (C := [impl_numF n, impl_compareF n]) (N := 12) (kp := impl_isUnitkp) (c := impl_isUnitc) (n := n) (G := fun x y => impl_isUnit n x.1) follows (AllOk.mem (⟨impl_num_ok n, ⟨impl_compare_ok n, trivial⟩⟩ : AllOk P ([impl_numF n, impl_compareF n]))) (by kernel_rfl : P.funcs[211]? = some Go.Proofs.Try.f211) (by kernel_rfl) (by kernel_rfl) (by kernel_rfl)
    (fun x y => impl_isUnit_eq n x.1) (fun _ _ => map_same (fun _ => rfl) _) (fun _ _ _ _ => rfl)

abbrev impl_areValid_1sp : List Sp := [.v true (.pair (.int .i64) (.int .i64))]
abbrev impl_areValid_1bs : List (Bs × Bool) := []
abbrev impl_areValid_1rs : List (Bool × List Rp) := [(false, [.v false .bool])]
noncomputable def impl_areValid_1kp : Keep := { loop := fun id => match id with | _ => ([], []), join := fun id => match id with | _ => none }
noncomputable def impl_areValid_1c : Code := bodyOf Go.Proofs.Try.f230
noncomputable def impl_areValid_1F (n : Nat) : Fun := { id := 230, sp := impl_areValid_1sp, bs := impl_areValid_1bs, rs := impl_areValid_1rs, f := fun x y => impl_areValid_1 n x.1 }

theorem impl_areValid_1_eq (n : Nat) (a0 : (Int) × (Int)) : runBody ([impl_ValidFracF n]) ty 6 n impl_areValid_1kp impl_areValid_1c Go.Proofs.Try.f230.results.toList impl_areValid_1rs impl_areValid_1sp impl_areValid_1bs (a0, ()) () = impl_areValid_1 n a0 := by
  have h : runBody ([impl_ValidFracF n]) ty 6 n impl_areValid_1kp impl_areValid_1c Go.Proofs.Try.f230.results.toList impl_areValid_1rs impl_areValid_1sp impl_areValid_1bs (a0, ()) () = impl_areValid_1_t n a0 := by kernel_rfl
  rw [h]
  rfl

theorem impl_areValid_1_ok (n : Nat) : FunOk P (impl_areValid_1F n) :=
  funOk_mk (C := [impl_ValidFracF n]) (N := 6) (kp := impl_areValid_1kp) (c := impl_areValid_1c) (n := n) (G := fun x y => impl_areValid_1 n x.1) follows (AllOk.mem (⟨impl_ValidFrac_ok n, trivial⟩ : AllOk P ([impl_ValidFracF n]))) (by kernel_rfl : P.funcs[230]? = some Go.Proofs.Try.f230) (by kernel_rfl) (by kernel_rfl) (by kernel_rfl)
    (fun x y => impl_areValid_1_eq n x.1) (fun _ _ => map_same (fun _ => rfl) _) (fun _ _ _ _ => rfl)

abbrev slices_IndexFunc_impl_Frac_impl_Frac_at_impl_areValid_1sp : List Sp := [.v false (.list (.pair (.int .i64) (.int .i64))), .cl 230 []]
abbrev slices_IndexFunc_impl_Frac_impl_Frac_at_impl_areValid_1bs : List (Bs × Bool) := []
abbrev slices_IndexFunc_impl_Frac_impl_Frac_at_impl_areValid_1rs : List (Bool × List Rp) := [(false, [.v false (.int .i64)])]
noncomputable def slices_IndexFunc_impl_Frac_impl_Frac_at_impl_areValid_1kp : Keep := { loop := fun id => match id with | 2 => ([8, 0, 1, 7], []) | _ => ([], []), join := fun id => match id with | _ => none }
noncomputable def slices_IndexFunc_impl_Frac_impl_Frac_at_impl_areValid_1c : Code := bodyOf Go.Proofs.Try.f259
noncomputable def slices_IndexFunc_impl_Frac_impl_Frac_at_impl_areValid_1F (n : Nat) : Fun := { id := 259, sp := slices_IndexFunc_impl_Frac_impl_Frac_at_impl_areValid_1sp, bs := slices_IndexFunc_impl_Frac_impl_Frac_at_impl_areValid_1bs, rs := slices_IndexFunc_impl_Frac_impl_Frac_at_impl_areValid_1rs, f := fun x y => slices_IndexFunc_impl_Frac_impl_Frac_at_impl_areValid_1 n x.1 }

theorem slices_IndexFunc_impl_Frac_impl_Frac_at_impl_areValid_1_l2_eq (n : Nat) : ∀ (k : Nat) (v8 : Int) (v0 : List ((Int) × (Int))) (v7 : Int), iter (interp ([impl_areValid_1F n]) ty 19 0 n slices_IndexFunc_impl_Frac_impl_Frac_at_impl_areValid_1kp (codeAt slices_IndexFunc_impl_Frac_impl_Frac_at_impl_areValid_1c [1, 0, 1, 0, 0])) (canon 0 (slices_IndexFunc_impl_Frac_impl_Frac_at_impl_areValid_1kp.loop 2)) (kAt ([impl_areValid_1F n]) ty 19 0 n slices_IndexFunc_impl_Frac_impl_Frac_at_impl_areValid_1kp slices_IndexFunc_impl_Frac_impl_Frac_at_impl_areValid_1c [1, 0, 1, 0] [] (ending ty 0 Go.Proofs.Try.f259.results.toList slices_IndexFunc_impl_Frac_impl_Frac_at_impl_areValid_1rs slices_IndexFunc_impl_Frac_impl_Frac_at_impl_areValid_1bs)) k { env := [(8, .one (.sc (.int .i64 v8))), (0, .one (.list true (.pair (.int .i64) (.int .i64)) v0)), (1, .one (.clos 230 [])), (7, .one (.sc (.int .i64 v7)))], bx := [], nx := 0 } = slices_IndexFunc_impl_Frac_impl_Frac_at_impl_areValid_1_l2 n k v8 v0 v7
  | 0, _, _, _ => by kernel_rfl
  | k + 1, v8, v0, v7 => by
    have h : iter (interp ([impl_areValid_1F n]) ty 19 0 n slices_IndexFunc_impl_Frac_impl_Frac_at_impl_areValid_1kp (codeAt slices_IndexFunc_impl_Frac_impl_Frac_at_impl_areValid_1c [1, 0, 1, 0, 0])) (canon 0 (slices_IndexFunc_impl_Frac_impl_Frac_at_impl_areValid_1kp.loop 2)) (kAt ([impl_areValid_1F n]) ty 19 0 n slices_IndexFunc_impl_Frac_impl_Frac_at_impl_areValid_1kp slices_IndexFunc_impl_Frac_impl_Frac_at_impl_areValid_1c [1, 0, 1, 0] [] (ending ty 0 Go.Proofs.Try.f259.results.toList slices_IndexFunc_impl_Frac_impl_Frac_at_impl_areValid_1rs slices_IndexFunc_impl_Frac_impl_Frac_at_impl_areValid_1bs)) (k + 1) { env := [(8, .one (.sc (.int .i64 v8))), (0, .one (.list true (.pair (.int .i64) (.int .i64)) v0)), (1, .one (.clos 230 [])), (7, .one (.sc (.int .i64 v7)))], bx := [], nx := 0 } = slices_IndexFunc_impl_Frac_impl_Frac_at_impl_areValid_1_t2 n (fun v8 v0 v7 => iter (interp ([impl_areValid_1F n]) ty 19 0 n slices_IndexFunc_impl_Frac_impl_Frac_at_impl_areValid_1kp (codeAt slices_IndexFunc_impl_Frac_impl_Frac_at_impl_areValid_1c [1, 0, 1, 0, 0])) (canon 0 (slices_IndexFunc_impl_Frac_impl_Frac_at_impl_areValid_1kp.loop 2)) (kAt ([impl_areValid_1F n]) ty 19 0 n slices_IndexFunc_impl_Frac_impl_Frac_at_impl_areValid_1kp slices_IndexFunc_impl_Frac_impl_Frac_at_impl_areValid_1c [1, 0, 1, 0] [] (ending ty 0 Go.Proofs.Try.f259.results.toList slices_IndexFunc_impl_Frac_impl_Frac_at_impl_areValid_1rs slices_IndexFunc_impl_Frac_impl_Frac_at_impl_areValid_1bs)) k { env := [(8, .one (.sc (.int .i64 v8))), (0, .one (.list true (.pair (.int .i64) (.int .i64)) v0)), (1, .one (.clos 230 [])), (7, .one (.sc (.int .i64 v7)))], bx := [], nx := 0 }) v8 v0 v7 := by kernel_rfl
    rw [h]
    have e := congrArg (fun g => slices_IndexFunc_impl_Frac_impl_Frac_at_impl_areValid_1_t2 n g v8 v0 v7) (funext fun v8 => funext fun v0 => funext fun v7 => slices_IndexFunc_impl_Frac_impl_Frac_at_impl_areValid_1_l2_eq n k v8 v0 v7)
    exact e

theorem slices_IndexFunc_impl_Frac_impl_Frac_at_impl_areValid_1_eq (n : Nat) (a0 : List ((Int) × (Int))) : runBody ([impl_areValid_1F n]) ty 19 n slices_IndexFunc_impl_Frac_impl_Frac_at_impl_areValid_1kp slices_IndexFunc_impl_Frac_impl_Frac_at_impl_areValid_1c Go.Proofs.Try.f259.results.toList slices_IndexFunc_impl_Frac_impl_Frac_at_impl_areValid_1rs slices_IndexFunc_impl_Frac_impl_Frac_at_impl_areValid_1sp slices_IndexFunc_impl_Frac_impl_Frac_at_impl_areValid_1bs (a0, ((), ())) () = slices_IndexFunc_impl_Frac_impl_Frac_at_impl_areValid_1 n a0 := by
  have h : runBody ([impl_areValid_1F n]) ty 19 n slices_IndexFunc_impl_Frac_impl_Frac_at_impl_areValid_1kp slices_IndexFunc_impl_Frac_impl_Frac_at_impl_areValid_1c Go.Proofs.Try.f259.results.toList slices_IndexFunc_impl_Frac_impl_Frac_at_impl_areValid_1rs slices_IndexFunc_impl_Frac_impl_Frac_at_impl_areValid_1sp slices_IndexFunc_impl_Frac_impl_Frac_at_impl_areValid_1bs (a0, ((), ())) () = slices_IndexFunc_impl_Frac_impl_Frac_at_impl_areValid_1_t n (fun k v8 v0 v7 => iter (interp ([impl_areValid_1F n]) ty 19 0 n slices_IndexFunc_impl_Frac_impl_Frac_at_impl_areValid_1kp (codeAt slices_IndexFunc_impl_Frac_impl_Frac_at_impl_areValid_1c [1, 0, 1, 0, 0])) (canon 0 (slices_IndexFunc_impl_Frac_impl_Frac_at_impl_areValid_1kp.loop 2)) (kAt ([impl_areValid_1F n]) ty 19 0 n slices_IndexFunc_impl_Frac_impl_Frac_at_impl_areValid_1kp slices_IndexFunc_impl_Frac_impl_Frac_at_impl_areValid_1c [1, 0, 1, 0] [] (ending ty 0 Go.Proofs.Try.f259.results.toList slices_IndexFunc_impl_Frac_impl_Frac_at_impl_areValid_1rs slices_IndexFunc_impl_Frac_impl_Frac_at_impl_areValid_1bs)) k { env := [(8, .one (.sc (.int .i64 v8))), (0, .one (.list true (.pair (.int .i64) (.int .i64)) v0)), (1, .one (.clos 230 [])), (7, .one (.sc (.int .i64 v7)))], bx := [], nx := 0 }) a0 := by kernel_rfl
  rw [h]
  have e := congrArg (fun h2 => slices_IndexFunc_impl_Frac_impl_Frac_at_impl_areValid_1_t n h2 a0) (funext fun k => funext fun v8 => funext fun v0 => funext fun v7 => slices_IndexFunc_impl_Frac_impl_Frac_at_impl_areValid_1_l2_eq n k v8 v0 v7)
  exact e

theorem slices_IndexFunc_impl_Frac_impl_Frac_at_impl_areValid_1_ok (n : Nat) : FunOk P (slices_IndexFunc_impl_Frac_impl_Frac_at_impl_areValid_1F n) :=
  funOk_mk (C := [impl_areValid_1F n]) (N := 19) (kp := slices_IndexFunc_impl_Frac_impl_Frac_at_impl_areValid_1kp) (c := slices_IndexFunc_impl_Frac_impl_Frac_at_impl_areValid_1c) (n := n) (G := fun x y => slices_IndexFunc_impl_Frac_impl_Frac_at_impl_areValid_1 n x.1) follows (AllOk.mem (⟨impl_areValid_1_ok n, trivial⟩ : AllOk P ([impl_areValid_1F n]))) (by kernel_rfl : P.funcs[259]? = some Go.Proofs.Try.f259) (by kernel_rfl) (by kernel_rfl) (by kernel_rfl)
    (fun x y => slices_IndexFunc_impl_Frac_impl_Frac_at_impl_areValid_1_eq n x.1) (fun _ _ => map_same (fun _ => rfl) _) (fun _ _ _ _ => rfl)

abbrev slices_ContainsFunc_impl_Frac_impl_Frac_at_impl_areValid_1sp : List Sp := [.v false (.list (.pair (.int .i64) (.int .i64))), .cl 230 []]
abbrev slices_ContainsFunc_impl_Frac_impl_Frac_at_impl_areValid_1bs : List (Bs × Bool) := []
abbrev slices_ContainsFunc_impl_Frac_impl_Frac_at_impl_areValid_1rs : List (Bool × List Rp) := [(false, [.v false .bool])]
noncomputable def slices_ContainsFunc_impl_Frac_impl_Frac_at_impl_areValid_1kp : Keep := { loop := fun id => match id with | _ => ([], []), join := fun id => match id with | _ => none }
noncomputable def slices_ContainsFunc_impl_Frac_impl_Frac_at_impl_areValid_1c : Code := bodyOf Go.Proofs.Try.f229
noncomputable def slices_ContainsFunc_impl_Frac_impl_Frac_at_impl_areValid_1F (n : Nat) : Fun := { id := 229, sp := slices_ContainsFunc_impl_Frac_impl_Frac_at_impl_areValid_1sp, bs := slices_ContainsFunc_impl_Frac_impl_Frac_at_impl_areValid_1bs, rs := slices_ContainsFunc_impl_Frac_impl_Frac_at_impl_areValid_1rs, f := fun x y => slices_ContainsFunc_impl_Frac_impl_Frac_at_impl_areValid_1 n x.1 }

theorem slices_ContainsFunc_impl_Frac_impl_Frac_at_impl_areValid_1_eq (n : Nat) (a0 : List ((Int) × (Int))) : runBody ([slices_IndexFunc_impl_Frac_impl_Frac_at_impl_areValid_1F n]) ty 9 n slices_ContainsFunc_impl_Frac_impl_Frac_at_impl_areValid_1kp slices_ContainsFunc_impl_Frac_impl_Frac_at_impl_areValid_1c Go.Proofs.Try.f229.results.toList slices_ContainsFunc_impl_Frac_impl_Frac_at_impl_areValid_1rs slices_ContainsFunc_impl_Frac_impl_Frac_at_impl_areValid_1sp slices_ContainsFunc_impl_Frac_impl_Frac_at_impl_areValid_1bs (a0, ((), ())) () = slices_ContainsFunc_impl_Frac_impl_Frac_at_impl_areValid_1 n a0 := by
  have h : runBody ([slices_IndexFunc_impl_Frac_impl_Frac_at_impl_areValid_1F n]) ty 9 n slices_ContainsFunc_impl_Frac_impl_Frac_at_impl_areValid_1kp slices_ContainsFunc_impl_Frac_impl_Frac_at_impl_areValid_1c Go.Proofs.Try.f229.results.toList slices_ContainsFunc_impl_Frac_impl_Frac_at_impl_areValid_1rs slices_ContainsFunc_impl_Frac_impl_Frac_at_impl_areValid_1sp slices_ContainsFunc_impl_Frac_impl_Frac_at_impl_areValid_1bs (a0, ((), ())) () = slices_ContainsFunc_impl_Frac_impl_Frac_at_impl_areValid_1_t n a0 := by kernel_rfl
  rw [h]
  rfl

theorem slices_ContainsFunc_impl_Frac_impl_Frac_at_impl_areValid_1_ok (n : Nat) : FunOk P (slices_ContainsFunc_impl_Frac_impl_Frac_at_impl_areValid_1F n) :=
  funOk_mk (C := [slices_IndexFunc_impl_Frac_impl_Frac_at_impl_areValid_1F n]) (N := 9) (kp := slices_ContainsFunc_impl_Frac_impl_Frac_at_impl_areValid_1kp) (c := slices_ContainsFunc_impl_Frac_impl_Frac_at_impl_areValid_1c) (n := n) (G := fun x y => slices_ContainsFunc_impl_Frac_impl_Frac_at_impl_areValid_1 n x.1) follows (AllOk.mem (⟨slices_IndexFunc_impl_Frac_impl_Frac_at_impl_areValid_1_ok n, trivial⟩ : AllOk P ([slices_IndexFunc_impl_Frac_impl_Frac_at_impl_areValid_1F n]))) (by kernel_rfl : P.funcs[229]? = some Go.Proofs.Try.f229) (by kernel_rfl) (by kernel_rfl) (by kernel_rfl)
    (fun x y => slices_ContainsFunc_impl_Frac_impl_Frac_at_impl_areValid_1_eq n x.1) (fun _ _ => map_same (fun _ => rfl) _) (fun _ _ _ _ => rfl)

abbrev impl_areValidsp : List Sp := [.v false (.list (.pair (.int .i64) (.int .i64)))]
abbrev impl_areValidbs : List (Bs × Bool) := []
abbrev impl_areValidrs : List (Bool × List Rp) := [(false, [.v false .bool])]
noncomputable def impl_areValidkp : Keep := { loop := fun id => match id with | _ => ([], []), join := fun id => match id with | _ => none }
noncomputable def impl_areValidc : Code := bodyOf Go.Proofs.Try.f121
noncomputable def impl_areValidF (n : Nat) : Fun := { id := 121, sp := impl_areValidsp, bs := impl_areValidbs, rs := impl_areValidrs, f := fun x y => impl_areValid n x.1 }

theorem impl_areValid_eq (n : Nat) (a0 : List ((Int) × (Int))) : runBody ([slices_ContainsFunc_impl_Frac_impl_Frac_at_impl_areValid_1F n]) ty 6 n impl_areValidkp impl_areValidc Go.Proofs.Try.f121.results.toList impl_areValidrs impl_areValidsp impl_areValidbs (a0, ()) () = impl_areValid n a0 := by
  have h : runBody ([slices_ContainsFunc_impl_Frac_impl_Frac_at_impl_areValid_1F n]) ty 6 n impl_areValidkp impl_areValidc Go.Proofs.Try.f121.results.toList impl_areValidrs impl_areValidsp impl_areValidbs (a0, ()) () = impl_areValid_t n a0 := by kernel_rfl
  rw [h]
  rfl

theorem impl_areValid_ok (n : Nat) : FunOk P (impl_areValidF n) :=
  funOk_mk (C := [slices_ContainsFunc_impl_Frac_impl_Frac_at_impl_areValid_1F n]) (N := 6) (kp := impl_areValidkp) (c := impl_areValidc) (n := n) (G := fun x y => impl_areValid n x.1) follows (AllOk.mem (⟨slices_ContainsFunc_impl_Frac_impl_Frac_at_impl_areValid_1_ok n, trivial⟩ : AllOk P ([slices_ContainsFunc_impl_Frac_impl_Frac_at_impl_areValid_1F n]))) (by kernel_rfl : P.funcs[121]? = some Go.Proofs.Try.f121) (by kernel_rfl) (by kernel_rfl) (by kernel_rfl)
    (fun x y => impl_areValid_eq n x.1) (fun _ _ => map_same (fun _ => rfl) _) (fun _ _ _ _ => rfl)

abbrev impl_sizesp : List Sp := [.v true (.pair (.int .i64) (.int .i64))]
abbrev impl_sizebs : List (Bs × Bool) := []
abbrev impl_sizers : List (Bool × List Rp) := [(true, [.v false (.pair (.int .i64) (.int .i64))])]
noncomputable def impl_sizekp : Keep := { loop := fun id => match id with | _ => ([], []), join := fun id => match id with | _ => none }
noncomputable def impl_sizec : Code := bodyOf Go.Proofs.Try.f139
noncomputable def impl_sizeF (n : Nat) : Fun := { id := 139, sp := impl_sizesp, bs := impl_sizebs, rs := impl_sizers, f := fun x y => impl_size n x.1 }

theorem impl_size_eq (n : Nat) (a0 : (Int) × (Int)) : runBody ([]) ty 12 n impl_sizekp impl_sizec Go.Proofs.Try.f139.results.toList impl_sizers impl_sizesp impl_sizebs (a0, ()) () = impl_size n a0 := by
  have h : runBody ([]) ty 12 n impl_sizekp impl_sizec Go.Proofs.Try.f139.results.toList impl_sizers impl_sizesp impl_sizebs (a0, ()) () = impl_size_t n a0 := by kernel_rfl
  rw [h]
  rfl

theorem impl_size_ok (n : Nat) : FunOk P (impl_sizeF n) :=
  funOk_mk (C := []) (N := 12) (kp := impl_sizekp) (c := impl_sizec) (n := n) (G := fun x y => impl_size n x.1) follows (AllOk.mem (trivial : AllOk P ([]))) (by kernel_rfl : P.funcs[139]? = some Go.Proofs.Try.f139) (by kernel_rfl) (by kernel_rfl) (by kernel_rfl)
    (fun x y => impl_size_eq n x.1) (fun _ _ => map_same (fun _ => rfl) _) (fun _ _ _ _ => rfl)

abbrev impl_fracOfsp : List Sp := [.v false (.int .i64), .v false (.int .i64)]
abbrev impl_fracOfbs : List (Bs × Bool) := []
abbrev impl_fracOfrs : List (Bool × List Rp) := [(true, [.v false (.pair (.int .i64) (.int .i64))]), (false, [.v false .bool])]
noncomputable def impl_fracOfkp : Keep := { loop := fun id => match id with | _ => ([], []), join := fun id => match id with | _ => none }
noncomputable def impl_fracOfc : Code := bodyOf Go.Proofs.Try.f177
noncomputable def impl_fracOfF (n : Nat) : Fun := { id := 177, sp := impl_fracOfsp, bs := impl_fracOfbs, rs := impl_fracOfrs, f := fun x y => impl_fracOf n x.1 x.2.1 }

theorem impl_fracOf_eq (n : Nat) (a0 : Int) (a1 : Int) : runBody ([impl_gcdF n, impl_ValidFracF n]) ty 29 n impl_fracOfkp impl_fracOfc Go.Proofs.Try.f177.results.toList impl_fracOfrs impl_fracOfsp impl_fracOfbs (a0, (a1, ())) () = impl_fracOf n a0 a1 := by
  have h : runBody ([impl_gcdF n, impl_ValidFracF n]) ty 29 n impl_fracOfkp impl_fracOfc Go.Proofs.Try.f177.results.toList impl_fracOfrs impl_fracOfsp impl_fracOfbs (a0, (a1, ())) () = impl_fracOf_t n a0 a1 := by kernel_rfl
  rw [h]
  rfl

theorem impl_fracOf_ok (n : Nat) : FunOk P (impl_fracOfF n) :=
  funOk_mk (C := [impl_gcdF n, impl_ValidFracF n]) (N := 29) (kp := impl_fracOfkp) (c := impl_fracOfc) (n := n) (G := fun x y => impl_fracOf n x.1 x.2.1) follows (AllOk.mem (⟨impl_gcd_ok n, ⟨impl_ValidFrac_ok n, trivial⟩⟩ : AllOk P ([impl_gcdF n, impl_ValidFracF n]))) (by kernel_rfl : P.funcs[177]? = some Go.Proofs.Try.f177) (by kernel_rfl) (by kernel_rfl) (by kernel_rfl)
    (fun x y => impl_fracOf_eq n x.1 x.2.1) (fun _ _ => map_same (fun _ => rfl) _) (fun _ _ _ _ => rfl)

abbrev impl_zerosp : List Sp := []
abbrev impl_zerobs : List (Bs × Bool) := []
abbrev impl_zerors : List (Bool × List Rp) := [(true, [.v false (.pair (.int .i64) (.int .i64))])]
noncomputable def impl_zerokp : Keep := { loop := fun id => match id with | _ => ([], []), join := fun id => match id with | _ => none }
noncomputable def impl_zeroc : Code := bodyOf Go.Proofs.Try.f204
noncomputable def impl_zeroF (n : Nat) : Fun := { id := 204, sp := impl_zerosp, bs := impl_zerobs, rs := impl_zerors, f := fun x y => impl_zero n }

theorem impl_zero_eq (n : Nat) : runBody ([]) ty 2 n impl_zerokp impl_zeroc Go.Proofs.Try.f204.results.toList impl_zerors impl_zerosp impl_zerobs () () = impl_zero n := by
  have h : runBody ([]) ty 2 n impl_zerokp impl_zeroc Go.Proofs.Try.f204.results.toList impl_zerors impl_zerosp impl_zerobs () () = impl_zero_t n := by kernel_rfl
  rw [h]
  rfl

theorem impl_zero_ok (n : Nat) : FunOk P (impl_zeroF n) :=
  funOk_mk (C := []) (N := 2) (kp := impl_zerokp) (c := impl_zeroc) (n := n) (G := fun x y => impl_zero n) follows (AllOk.mem (trivial : AllOk P ([]))) (by kernel_rfl : P.funcs[204]? = some Go.Proofs.Try.f204) (by kernel_rfl) (by kernel_rfl) (by kernel_rfl)
    (fun x y => impl_zero_eq n) (fun _ _ => map_same (fun _ => rfl) _) (fun _ _ _ _ => rfl)

abbrev impl_calc_toldsp : List Sp := [.ref 0, .v false (.int .i64), .v false (.int .i64)]
abbrev impl_calc_toldbs : List (Bs × Bool) := [(.var 139 .bool, true)]
abbrev impl_calc_toldrs : List (Bool × List Rp) := [(true, [.v false (.pair (.int .i64) (.int .i64))])]
noncomputable def impl_calc_toldkp : Keep := { loop := fun id => match id with | _ => ([], []), join := fun id => match id with | _ => none }
noncomputable def impl_calc_toldc : Code := bodyOf Go.Proofs.Try.f165
noncomputable def impl_calc_toldF (n : Nat) : Fun := { id := 165, sp := impl_calc_toldsp, bs := impl_calc_toldbs, rs := impl_calc_toldrs, f := fun x y => impl_calc_told n x.2.1 x.2.2.1 y.1 }

theorem impl_calc_told_eq (n : Nat) (a1 : Int) (a2 : Int) (b0 : Bool) : runBody ([impl_fracOfF n, impl_zeroF n]) ty 22 n impl_calc_toldkp impl_calc_toldc Go.Proofs.Try.f165.results.toList impl_calc_toldrs impl_calc_toldsp impl_calc_toldbs ((), (a1, (a2, ()))) (b0, ()) = impl_calc_told n a1 a2 b0 := by
  have h : runBody ([impl_fracOfF n, impl_zeroF n]) ty 22 n impl_calc_toldkp impl_calc_toldc Go.Proofs.Try.f165.results.toList impl_calc_toldrs impl_calc_toldsp impl_calc_toldbs ((), (a1, (a2, ()))) (b0, ()) = impl_calc_told_t n a1 a2 b0 := by kernel_rfl
  rw [h]
  rfl

theorem impl_calc_told_ok (n : Nat) : FunOk P (impl_calc_toldF n) :=
  funOk_mk (C := [impl_fracOfF n, impl_zeroF n]) (N := 22) (kp := impl_calc_toldkp) (c := impl_calc_toldc) (n := n) (G := fun x y => impl_calc_told n x.2.1 x.2.2.1 y.1) follows (AllOk.mem (⟨impl_fracOf_ok n, ⟨impl_zero_ok n, trivial⟩⟩ : AllOk P ([impl_fracOfF n, impl_zeroF n]))) (by kernel_rfl : P.funcs[165]? = some Go.Proofs.Try.f165) (by kernel_rfl) (by kernel_rfl) (by kernel_rfl)
    (fun x y => impl_calc_told_eq n x.2.1 x.2.2.1 y.1) (fun _ _ => map_same (fun _ => rfl) _) (fun _ _ _ _ => rfl)

abbrev impl_calc_mulsp : List Sp := [.ref 0, .v true (.pair (.int .i64) (.int .i64)), .v true (.pair (.int .i64) (.int .i64))]
abbrev impl_calc_mulbs : List (Bs × Bool) := [(.var 139 .bool, true)]
abbrev impl_calc_mulrs : List (Bool × List Rp) := [(true, [.v false (.pair (.int .i64) (.int .i64))])]
noncomputable def impl_calc_mulkp : Keep := { loop := fun id => match id with | _ => ([], []), join := fun id => match id with | _ => none }
noncomputable def impl_calc_mulc : Code := bodyOf Go.Proofs.Try.f208
noncomputable def impl_calc_mulF (n : Nat) : Fun := { id := 208, sp := impl_calc_mulsp, bs := impl_calc_mulbs, rs := impl_calc_mulrs, f := fun x y => impl_calc_mul n x.2.1 x.2.2.1 y.1 }

theorem impl_calc_mul_eq (n : Nat) (a1 : (Int) × (Int)) (a2 : (Int) × (Int)) (b0 : Bool) : runBody ([impl_calc_toldF n]) ty 19 n impl_calc_mulkp impl_calc_mulc Go.Proofs.Try.f208.results.toList impl_calc_mulrs impl_calc_mulsp impl_calc_mulbs ((), (a1, (a2, ()))) (b0, ()) = impl_calc_mul n a1 a2 b0 := by
  have h : runBody ([impl_calc_toldF n]) ty 19 n impl_calc_mulkp impl_calc_mulc Go.Proofs.Try.f208.results.toList impl_calc_mulrs impl_calc_mulsp impl_calc_mulbs ((), (a1, (a2, ()))) (b0, ()) = impl_calc_mul_t n a1 a2 b0 := by kernel_rfl
  rw [h]
  rfl

theorem impl_calc_mul_ok (n : Nat) : FunOk P (impl_calc_mulF n) :=
  funOk_mk (C := [impl_calc_toldF n]) (N := 19) (kp := impl_calc_mulkp) (c := impl_calc_mulc) (n := n) (G := fun x y => impl_calc_mul n x.2.1 x.2.2.1 y.1) follows (AllOk.mem (⟨impl_calc_told_ok n, trivial⟩ : AllOk P ([impl_calc_toldF n]))) (by kernel_rfl : P.funcs[208]? = some Go.Proofs.Try.f208) (by kernel_rfl) (by kernel_rfl) (by kernel_rfl)
    (fun x y => impl_calc_mul_eq n x.2.1 x.2.2.1 y.1) (fun _ _ => map_same (fun _ => rfl) _) (fun _ _ _ _ => rfl)

abbrev impl_calc_addsp : List Sp := [.ref 0, .v true (.pair (.int .i64) (.int .i64)), .v true (.pair (.int .i64) (.int .i64))]
abbrev impl_calc_addbs : List (Bs × Bool) := [(.var 139 .bool, true)]
abbrev impl_calc_addrs : List (Bool × List Rp) := [(true, [.v false (.pair (.int .i64) (.int .i64))])]
noncomputable def impl_calc_addkp : Keep := { loop := fun id => match id with | _ => ([], []), join := fun id => match id with | _ => none }
noncomputable def impl_calc_addc : Code := bodyOf Go.Proofs.Try.f175
noncomputable def impl_calc_addF (n : Nat) : Fun := { id := 175, sp := impl_calc_addsp, bs := impl_calc_addbs, rs := impl_calc_addrs, f := fun x y => impl_calc_add n x.2.1 x.2.2.1 y.1 }

theorem impl_calc_add_eq (n : Nat) (a1 : (Int) × (Int)) (a2 : (Int) × (Int)) (b0 : Bool) : runBody ([impl_calc_toldF n]) ty 25 n impl_calc_addkp impl_calc_addc Go.Proofs.Try.f175.results.toList impl_calc_addrs impl_calc_addsp impl_calc_addbs ((), (a1, (a2, ()))) (b0, ()) = impl_calc_add n a1 a2 b0 := by
  have h : runBody ([impl_calc_toldF n]) ty 25 n impl_calc_addkp impl_calc_addc Go.Proofs.Try.f175.results.toList impl_calc_addrs impl_calc_addsp impl_calc_addbs ((), (a1, (a2, ()))) (b0, ()) = impl_calc_add_t n a1 a2 b0 := by kernel_rfl
  rw [h]
  rfl

theorem impl_calc_add_ok (n : Nat) : FunOk P (impl_calc_addF n) :=
  funOk_mk (C := [impl_calc_toldF n]) (N := 25) (kp := impl_calc_addkp) (c := impl_calc_addc) (n := n) (G := fun x y => impl_calc_add n x.2.1 x.2.2.1 y.1) follows (AllOk.mem (⟨impl_calc_told_ok n, trivial⟩ : AllOk P ([impl_calc_toldF n]))) (by kernel_rfl : P.funcs[175]? = some Go.Proofs.Try.f175) (by kernel_rfl) (by kernel_rfl) (by kernel_rfl)
    (fun x y => impl_calc_add_eq n x.2.1 x.2.2.1 y.1) (fun _ _ => map_same (fun _ => rfl) _) (fun _ _ _ _ => rfl)

abbrev impl_ValidScalesp : List Sp := [.v true (.pair (.pair (.int .i64) (.int .i64)) (.list (.pair (.int .i64) (.int .i64))))]
abbrev impl_ValidScalebs : List (Bs × Bool) := []
abbrev impl_ValidScalers : List (Bool × List Rp) := [(false, [.v false .bool])]
noncomputable def impl_ValidScalekp : Keep := { loop := fun id => match id with | 5 => ([34, 1, 3, 32, 33], []) | _ => ([], []), join := fun id => match id with | _ => none }
noncomputable def impl_ValidScalec : Code := bodyOf Go.Proofs.Try.f86
noncomputable def impl_ValidScaleF (n : Nat) : Fun := { id := 86, sp := impl_ValidScalesp, bs := impl_ValidScalebs, rs := impl_ValidScalers, f := fun x y => impl_ValidScale n x.1 }

theorem impl_ValidScale_l5_eq (n : Nat) : ∀ (k : Nat) (v34 : Int) (v32 : List ((Int) × (Int))) (v33 : Int) (b0_0 : Int) (b0_1 : Int) (b0_2 : List ((Int) × (Int))) (b1 : Bool), iter (interp ([impl_ValidFracF n, impl_isUnitF n, impl_withinF n, impl_areValidF n, impl_sizeF n, impl_numF n, impl_calc_mulF n, impl_calc_addF n]) ty 69 0 n impl_ValidScalekp (codeAt impl_ValidScalec [1, 1, 1, 0, 1, 0, 0])) (canon 0 (impl_ValidScalekp.loop 5)) (kAt ([impl_ValidFracF n, impl_isUnitF n, impl_withinF n, impl_areValidF n, impl_sizeF n, impl_numF n, impl_calc_mulF n, impl_calc_addF n]) ty 69 0 n impl_ValidScalekp impl_ValidScalec [1, 1, 1, 0, 1, 0] [] (ending ty 0 Go.Proofs.Try.f86.results.toList impl_ValidScalers impl_ValidScalebs)) k { env := [(34, .one (.sc (.int .i64 v34))), (1, .one (.ref 0 0 0 0 0 0)), (3, .one (.ref 1 0 0 0 0 0)), (32, .one (.list true (.pair (.int .i64) (.int .i64)) v32)), (33, .one (.sc (.int .i64 v33)))], bx := [(0, .var 91 [.sc (.int .i64 b0_0), .sc (.int .i64 b0_1), .list true (.pair (.int .i64) (.int .i64)) b0_2]), (1, .var 139 [.sc (.bool b1)])], nx := 2 } = impl_ValidScale_l5 n k v34 v32 v33 b0_0 b0_1 b0_2 b1
  | 0, _, _, _, _, _, _, _ => by kernel_rfl
  | k + 1, v34, v32, v33, b0_0, b0_1, b0_2, b1 => by
    have h : iter (interp ([impl_ValidFracF n, impl_isUnitF n, impl_withinF n, impl_areValidF n, impl_sizeF n, impl_numF n, impl_calc_mulF n, impl_calc_addF n]) ty 69 0 n impl_ValidScalekp (codeAt impl_ValidScalec [1, 1, 1, 0, 1, 0, 0])) (canon 0 (impl_ValidScalekp.loop 5)) (kAt ([impl_ValidFracF n, impl_isUnitF n, impl_withinF n, impl_areValidF n, impl_sizeF n, impl_numF n, impl_calc_mulF n, impl_calc_addF n]) ty 69 0 n impl_ValidScalekp impl_ValidScalec [1, 1, 1, 0, 1, 0] [] (ending ty 0 Go.Proofs.Try.f86.results.toList impl_ValidScalers impl_ValidScalebs)) (k + 1) { env := [(34, .one (.sc (.int .i64 v34))), (1, .one (.ref 0 0 0 0 0 0)), (3, .one (.ref 1 0 0 0 0 0)), (32, .one (.list true (.pair (.int .i64) (.int .i64)) v32)), (33, .one (.sc (.int .i64 v33)))], bx := [(0, .var 91 [.sc (.int .i64 b0_0), .sc (.int .i64 b0_1), .list true (.pair (.int .i64) (.int .i64)) b0_2]), (1, .var 139 [.sc (.bool b1)])], nx := 2 } = impl_ValidScale_t5 n (fun v34 v32 v33 b0_0 b0_1 b0_2 b1 => iter (interp ([impl_ValidFracF n, impl_isUnitF n, impl_withinF n, impl_areValidF n, impl_sizeF n, impl_numF n, impl_calc_mulF n, impl_calc_addF n]) ty 69 0 n impl_ValidScalekp (codeAt impl_ValidScalec [1, 1, 1, 0, 1, 0, 0])) (canon 0 (impl_ValidScalekp.loop 5)) (kAt ([impl_ValidFracF n, impl_isUnitF n, impl_withinF n, impl_areValidF n, impl_sizeF n, impl_numF n, impl_calc_mulF n, impl_calc_addF n]) ty 69 0 n impl_ValidScalekp impl_ValidScalec [1, 1, 1, 0, 1, 0] [] (ending ty 0 Go.Proofs.Try.f86.results.toList impl_ValidScalers impl_ValidScalebs)) k { env := [(34, .one (.sc (.int .i64 v34))), (1, .one (.ref 0 0 0 0 0 0)), (3, .one (.ref 1 0 0 0 0 0)), (32, .one (.list true (.pair (.int .i64) (.int .i64)) v32)), (33, .one (.sc (.int .i64 v33)))], bx := [(0, .var 91 [.sc (.int .i64 b0_0), .sc (.int .i64 b0_1), .list true (.pair (.int .i64) (.int .i64)) b0_2]), (1, .var 139 [.sc (.bool b1)])], nx := 2 }) v34 v32 v33 b0_0 b0_1 b0_2 b1 := by kernel_rfl
    rw [h]
    have e := congrArg (fun g => impl_ValidScale_t5 n g v34 v32 v33 b0_0 b0_1 b0_2 b1) (funext fun v34 => funext fun v32 => funext fun v33 => funext fun b0_0 => funext fun b0_1 => funext fun b0_2 => funext fun b1 => impl_ValidScale_l5_eq n k v34 v32 v33 b0_0 b0_1 b0_2 b1)
    exact e

theorem impl_ValidScale_eq (n : Nat) (a0 : ((Int) × (Int)) × (List ((Int) × (Int)))) : runBody ([impl_ValidFracF n, impl_isUnitF n, impl_withinF n, impl_areValidF n, impl_sizeF n, impl_numF n, impl_calc_mulF n, impl_calc_addF n]) ty 69 n impl_ValidScalekp impl_ValidScalec Go.Proofs.Try.f86.results.toList impl_ValidScalers impl_ValidScalesp impl_ValidScalebs (a0, ()) () = impl_ValidScale n a0 := by
  have h : runBody ([impl_ValidFracF n, impl_isUnitF n, impl_withinF n, impl_areValidF n, impl_sizeF n, impl_numF n, impl_calc_mulF n, impl_calc_addF n]) ty 69 n impl_ValidScalekp impl_ValidScalec Go.Proofs.Try.f86.results.toList impl_ValidScalers impl_ValidScalesp impl_ValidScalebs (a0, ()) () = impl_ValidScale_t n (fun k v34 v32 v33 b0_0 b0_1 b0_2 b1 => iter (interp ([impl_ValidFracF n, impl_isUnitF n, impl_withinF n, impl_areValidF n, impl_sizeF n, impl_numF n, impl_calc_mulF n, impl_calc_addF n]) ty 69 0 n impl_ValidScalekp (codeAt impl_ValidScalec [1, 1, 1, 0, 1, 0, 0])) (canon 0 (impl_ValidScalekp.loop 5)) (kAt ([impl_ValidFracF n, impl_isUnitF n, impl_withinF n, impl_areValidF n, impl_sizeF n, impl_numF n, impl_calc_mulF n, impl_calc_addF n]) ty 69 0 n impl_ValidScalekp impl_ValidScalec [1, 1, 1, 0, 1, 0] [] (ending ty 0 Go.Proofs.Try.f86.results.toList impl_ValidScalers impl_ValidScalebs)) k { env := [(34, .one (.sc (.int .i64 v34))), (1, .one (.ref 0 0 0 0 0 0)), (3, .one (.ref 1 0 0 0 0 0)), (32, .one (.list true (.pair (.int .i64) (.int .i64)) v32)), (33, .one (.sc (.int .i64 v33)))], bx := [(0, .var 91 [.sc (.int .i64 b0_0), .sc (.int .i64 b0_1), .list true (.pair (.int .i64) (.int .i64)) b0_2]), (1, .var 139 [.sc (.bool b1)])], nx := 2 }) a0 := by kernel_rfl
  rw [h]
  have e := congrArg (fun h5 => impl_ValidScale_t n h5 a0) (funext fun k => funext fun v34 => funext fun v32 => funext fun v33 => funext fun b0_0 => funext fun b0_1 => funext fun b0_2 => funext fun b1 => impl_ValidScale_l5_eq n k v34 v32 v33 b0_0 b0_1 b0_2 b1)
  exact e

theorem impl_ValidScale_ok (n : Nat) : FunOk P (impl_ValidScaleF n) :=
  funOk_mk (C := [impl_ValidFracF n, impl_isUnitF n, impl_withinF n, impl_areValidF n, impl_sizeF n, impl_numF n, impl_calc_mulF n, impl_calc_addF n]) (N := 69) (kp := impl_ValidScalekp) (c := impl_ValidScalec) (n := n) (G := fun x y => impl_ValidScale n x.1) follows (AllOk.mem (⟨impl_ValidFrac_ok n, ⟨impl_isUnit_ok n, ⟨impl_within_ok n, ⟨impl_areValid_ok n, ⟨impl_size_ok n, ⟨impl_num_ok n, ⟨impl_calc_mul_ok n, ⟨impl_calc_add_ok n, trivial⟩⟩⟩⟩⟩⟩⟩⟩ : AllOk P ([impl_ValidFracF n, impl_isUnitF n, impl_withinF n, impl_areValidF n, impl_sizeF n, impl_numF n, impl_calc_mulF n, impl_calc_addF n]))) (by kernel_rfl : P.funcs[86]? = some Go.Proofs.Try.f86) (by kernel_rfl) (by kernel_rfl) (by kernel_rfl)
    (fun x y => impl_ValidScale_eq n x.1) (fun _ _ => map_same (fun _ => rfl) _) (fun _ _ _ _ => rfl)

abbrev impl_calc_subsp : List Sp := [.ref 0, .v true (.pair (.int .i64) (.int .i64)), .v true (.pair (.int .i64) (.int .i64))]
abbrev impl_calc_subbs : List (Bs × Bool) := [(.var 139 .bool, true)]
abbrev impl_calc_subrs : List (Bool × List Rp) := [(true, [.v false (.pair (.int .i64) (.int .i64))])]
noncomputable def impl_calc_subkp : Keep := { loop := fun id => match id with | _ => ([], []), join := fun id => match id with | _ => none }
noncomputable def impl_calc_subc : Code := bodyOf Go.Proofs.Try.f186
noncomputable def impl_calc_subF (n : Nat) : Fun := { id := 186, sp := impl_calc_subsp, bs := impl_calc_subbs, rs := impl_calc_subrs, f := fun x y => impl_calc_sub n x.2.1 x.2.2.1 y.1 }

theorem impl_calc_sub_eq (n : Nat) (a1 : (Int) × (Int)) (a2 : (Int) × (Int)) (b0 : Bool) : runBody ([impl_calc_toldF n]) ty 25 n impl_calc_subkp impl_calc_subc Go.Proofs.Try.f186.results.toList impl_calc_subrs impl_calc_subsp impl_calc_subbs ((), (a1, (a2, ()))) (b0, ()) = impl_calc_sub n a1 a2 b0 := by
  have h : runBody ([impl_calc_toldF n]) ty 25 n impl_calc_subkp impl_calc_subc Go.Proofs.Try.f186.results.toList impl_calc_subrs impl_calc_subsp impl_calc_subbs ((), (a1, (a2, ()))) (b0, ()) = impl_calc_sub_t n a1 a2 b0 := by kernel_rfl
  rw [h]
  rfl

theorem impl_calc_sub_ok (n : Nat) : FunOk P (impl_calc_subF n) :=
  funOk_mk (C := [impl_calc_toldF n]) (N := 25) (kp := impl_calc_subkp) (c := impl_calc_subc) (n := n) (G := fun x y => impl_calc_sub n x.2.1 x.2.2.1 y.1) follows (AllOk.mem (⟨impl_calc_told_ok n, trivial⟩ : AllOk P ([impl_calc_toldF n]))) (by kernel_rfl : P.funcs[186]? = some Go.Proofs.Try.f186) (by kernel_rfl) (by kernel_rfl) (by kernel_rfl)
    (fun x y => impl_calc_sub_eq n x.2.1 x.2.2.1 y.1) (fun _ _ => map_same (fun _ => rfl) _) (fun _ _ _ _ => rfl)

abbrev impl_calc_intervalssp : List Sp := [.ref 0, .v true (.pair (.pair (.int .i64) (.int .i64)) (.list (.pair (.int .i64) (.int .i64))))]
abbrev impl_calc_intervalsbs : List (Bs × Bool) := [(.var 139 .bool, true)]
abbrev impl_calc_intervalsrs : List (Bool × List Rp) := [(false, [.new  (.pair (.int .i64) (.int .i64))])]
noncomputable def impl_calc_intervalskp : Keep := { loop := fun id => match id with | 3 => ([12, 3, 0, 5, 11], []) | _ => ([], []), join := fun id => match id with | _ => none }
noncomputable def impl_calc_intervalsc : Code := bodyOf Go.Proofs.Try.f221
noncomputable def impl_calc_intervalsF (n : Nat) : Fun := { id := 221, sp := impl_calc_intervalssp, bs := impl_calc_intervalsbs, rs := impl_calc_intervalsrs, f := fun x y => impl_calc_intervals n x.2.1 y.1 }

theorem impl_calc_intervals_l3_eq (n : Nat) : ∀ (k : Nat) (v12 : Int) (v11 : Int) (b0 : Bool) (b1_0 : Int) (b1_1 : Int) (b1_2 : List ((Int) × (Int))) (b2 : List ((Int) × (Int))), iter (interp ([impl_calc_subF n]) ty 33 1 n impl_calc_intervalskp (codeAt impl_calc_intervalsc [1, 1, 0, 1, 0, 0])) (canon 1 (impl_calc_intervalskp.loop 3)) (kAt ([impl_calc_subF n]) ty 33 1 n impl_calc_intervalskp impl_calc_intervalsc [1, 1, 0, 1, 0] [] (ending ty 1 Go.Proofs.Try.f221.results.toList impl_calc_intervalsrs impl_calc_intervalsbs)) k { env := [(12, .one (.sc (.int .i64 v12))), (3, .one (.ref 1 0 0 0 0 0)), (0, .one (.ref 0 0 0 0 0 0)), (5, .one (.slice 2 0 none)), (11, .one (.sc (.int .i64 v11)))], bx := [(0, .var 139 [.sc (.bool b0)]), (1, .var 91 [.sc (.int .i64 b1_0), .sc (.int .i64 b1_1), .list true (.pair (.int .i64) (.int .i64)) b1_2]), (2, .row 0 (.pair (.int .i64) (.int .i64)) b2)], nx := 3 } = impl_calc_intervals_l3 n k v12 v11 b0 b1_0 b1_1 b1_2 b2
  | 0, _, _, _, _, _, _, _ => by kernel_rfl
  | k + 1, v12, v11, b0, b1_0, b1_1, b1_2, b2 => by
    have h : iter (interp ([impl_calc_subF n]) ty 33 1 n impl_calc_intervalskp (codeAt impl_calc_intervalsc [1, 1, 0, 1, 0, 0])) (canon 1 (impl_calc_intervalskp.loop 3)) (kAt ([impl_calc_subF n]) ty 33 1 n impl_calc_intervalskp impl_calc_intervalsc [1, 1, 0, 1, 0] [] (ending ty 1 Go.Proofs.Try.f221.results.toList impl_calc_intervalsrs impl_calc_intervalsbs)) (k + 1) { env := [(12, .one (.sc (.int .i64 v12))), (3, .one (.ref 1 0 0 0 0 0)), (0, .one (.ref 0 0 0 0 0 0)), (5, .one (.slice 2 0 none)), (11, .one (.sc (.int .i64 v11)))], bx := [(0, .var 139 [.sc (.bool b0)]), (1, .var 91 [.sc (.int .i64 b1_0), .sc (.int .i64 b1_1), .list true (.pair (.int .i64) (.int .i64)) b1_2]), (2, .row 0 (.pair (.int .i64) (.int .i64)) b2)], nx := 3 } = impl_calc_intervals_t3 n (fun v12 v11 b0 b1_0 b1_1 b1_2 b2 => iter (interp ([impl_calc_subF n]) ty 33 1 n impl_calc_intervalskp (codeAt impl_calc_intervalsc [1, 1, 0, 1, 0, 0])) (canon 1 (impl_calc_intervalskp.loop 3)) (kAt ([impl_calc_subF n]) ty 33 1 n impl_calc_intervalskp impl_calc_intervalsc [1, 1, 0, 1, 0] [] (ending ty 1 Go.Proofs.Try.f221.results.toList impl_calc_intervalsrs impl_calc_intervalsbs)) k { env := [(12, .one (.sc (.int .i64 v12))), (3, .one (.ref 1 0 0 0 0 0)), (0, .one (.ref 0 0 0 0 0 0)), (5, .one (.slice 2 0 none)), (11, .one (.sc (.int .i64 v11)))], bx := [(0, .var 139 [.sc (.bool b0)]), (1, .var 91 [.sc (.int .i64 b1_0), .sc (.int .i64 b1_1), .list true (.pair (.int .i64) (.int .i64)) b1_2]), (2, .row 0 (.pair (.int .i64) (.int .i64)) b2)], nx := 3 }) v12 v11 b0 b1_0 b1_1 b1_2 b2 := by kernel_rfl
    rw [h]
    have e := congrArg (fun g => impl_calc_intervals_t3 n g v12 v11 b0 b1_0 b1_1 b1_2 b2) (funext fun v12 => funext fun v11 => funext fun b0 => funext fun b1_0 => funext fun b1_1 => funext fun b1_2 => funext fun b2 => impl_calc_intervals_l3_eq n k v12 v11 b0 b1_0 b1_1 b1_2 b2)
    exact e

theorem impl_calc_intervals_eq (n : Nat) (a1 : ((Int) × (Int)) × (List ((Int) × (Int)))) (b0 : Bool) : runBody ([impl_calc_subF n]) ty 33 n impl_calc_intervalskp impl_calc_intervalsc Go.Proofs.Try.f221.results.toList impl_calc_intervalsrs impl_calc_intervalssp impl_calc_intervalsbs ((), (a1, ())) (b0, ()) = impl_calc_intervals n a1 b0 := by
  have h : runBody ([impl_calc_subF n]) ty 33 n impl_calc_intervalskp impl_calc_intervalsc Go.Proofs.Try.f221.results.toList impl_calc_intervalsrs impl_calc_intervalssp impl_calc_intervalsbs ((), (a1, ())) (b0, ()) = impl_calc_intervals_t n (fun k v12 v11 b0 b1_0 b1_1 b1_2 b2 => iter (interp ([impl_calc_subF n]) ty 33 1 n impl_calc_intervalskp (codeAt impl_calc_intervalsc [1, 1, 0, 1, 0, 0])) (canon 1 (impl_calc_intervalskp.loop 3)) (kAt ([impl_calc_subF n]) ty 33 1 n impl_calc_intervalskp impl_calc_intervalsc [1, 1, 0, 1, 0] [] (ending ty 1 Go.Proofs.Try.f221.results.toList impl_calc_intervalsrs impl_calc_intervalsbs)) k { env := [(12, .one (.sc (.int .i64 v12))), (3, .one (.ref 1 0 0 0 0 0)), (0, .one (.ref 0 0 0 0 0 0)), (5, .one (.slice 2 0 none)), (11, .one (.sc (.int .i64 v11)))], bx := [(0, .var 139 [.sc (.bool b0)]), (1, .var 91 [.sc (.int .i64 b1_0), .sc (.int .i64 b1_1), .list true (.pair (.int .i64) (.int .i64)) b1_2]), (2, .row 0 (.pair (.int .i64) (.int .i64)) b2)], nx := 3 }) a1 b0 := by kernel_rfl
  rw [h]
  have e := congrArg (fun h3 => impl_calc_intervals_t n h3 a1 b0) (funext fun k => funext fun v12 => funext fun v11 => funext fun b0 => funext fun b1_0 => funext fun b1_1 => funext fun b1_2 => funext fun b2 => impl_calc_intervals_l3_eq n k v12 v11 b0 b1_0 b1_1 b1_2 b2)
  exact e

theorem impl_calc_intervals_ok (n : Nat) : FunOk P (impl_calc_intervalsF n) :=
  funOk_mk (C := [impl_calc_subF n]) (N := 33) (kp := impl_calc_intervalskp) (c := impl_calc_intervalsc) (n := n) (G := fun x y => impl_calc_intervals n x.2.1 y.1) follows (AllOk.mem (⟨impl_calc_sub_ok n, trivial⟩ : AllOk P ([impl_calc_subF n]))) (by kernel_rfl : P.funcs[221]? = some Go.Proofs.Try.f221) (by kernel_rfl) (by kernel_rfl) (by kernel_rfl)
    (fun x y => impl_calc_intervals_eq n x.2.1 y.1) (fun _ _ => map_same (fun _ => rfl) _) (fun _ _ _ _ => rfl)

abbrev impl_calc_sumsp : List Sp := [.ref 0, .v false (.list (.pair (.int .i64) (.int .i64)))]
abbrev impl_calc_sumbs : List (Bs × Bool) := [(.var 139 .bool, true)]
abbrev impl_calc_sumrs : List (Bool × List Rp) := [(true, [.v false (.pair (.int .i64) (.int .i64))])]
noncomputable def impl_calc_sumkp : Keep := { loop := fun id => match id with | 3 => ([11, 5, 0, 9, 4, 10], []) | _ => ([], []), join := fun id => match id with | _ => none }
noncomputable def impl_calc_sumc : Code := bodyOf Go.Proofs.Try.f187
noncomputable def impl_calc_sumF (n : Nat) : Fun := { id := 187, sp := impl_calc_sumsp, bs := impl_calc_sumbs, rs := impl_calc_sumrs, f := fun x y => impl_calc_sum n x.2.1 y.1 }

theorem impl_calc_sum_l3_eq (n : Nat) : ∀ (k : Nat) (v11 : Int) (v9 : List ((Int) × (Int))) (v10 : Int) (b0 : Bool) (b1_0 : Int) (b1_1 : Int) (b2_0 : Int) (b2_1 : Int), iter (interp ([impl_zeroF n, impl_calc_addF n]) ty 21 1 n impl_calc_sumkp (codeAt impl_calc_sumc [1, 1, 0, 1, 0, 0])) (canon 1 (impl_calc_sumkp.loop 3)) (kAt ([impl_zeroF n, impl_calc_addF n]) ty 21 1 n impl_calc_sumkp impl_calc_sumc [1, 1, 0, 1, 0] [] (ending ty 1 Go.Proofs.Try.f187.results.toList impl_calc_sumrs impl_calc_sumbs)) k { env := [(11, .one (.sc (.int .i64 v11))), (5, .one (.ref 1 0 0 0 0 0)), (0, .one (.ref 0 0 0 0 0 0)), (9, .one (.list true (.pair (.int .i64) (.int .i64)) v9)), (4, .one (.ref 2 0 0 0 0 0)), (10, .one (.sc (.int .i64 v10)))], bx := [(0, .var 139 [.sc (.bool b0)]), (1, .var 26 [.sc (.int .i64 b1_0), .sc (.int .i64 b1_1)]), (2, .var 26 [.sc (.int .i64 b2_0), .sc (.int .i64 b2_1)])], nx := 3 } = impl_calc_sum_l3 n k v11 v9 v10 b0 b1_0 b1_1 b2_0 b2_1
  | 0, _, _, _, _, _, _, _, _ => by kernel_rfl
  | k + 1, v11, v9, v10, b0, b1_0, b1_1, b2_0, b2_1 => by
    have h : iter (interp ([impl_zeroF n, impl_calc_addF n]) ty 21 1 n impl_calc_sumkp (codeAt impl_calc_sumc [1, 1, 0, 1, 0, 0])) (canon 1 (impl_calc_sumkp.loop 3)) (kAt ([impl_zeroF n, impl_calc_addF n]) ty 21 1 n impl_calc_sumkp impl_calc_sumc [1, 1, 0, 1, 0] [] (ending ty 1 Go.Proofs.Try.f187.results.toList impl_calc_sumrs impl_calc_sumbs)) (k + 1) { env := [(11, .one (.sc (.int .i64 v11))), (5, .one (.ref 1 0 0 0 0 0)), (0, .one (.ref 0 0 0 0 0 0)), (9, .one (.list true (.pair (.int .i64) (.int .i64)) v9)), (4, .one (.ref 2 0 0 0 0 0)), (10, .one (.sc (.int .i64 v10)))], bx := [(0, .var 139 [.sc (.bool b0)]), (1, .var 26 [.sc (.int .i64 b1_0), .sc (.int .i64 b1_1)]), (2, .var 26 [.sc (.int .i64 b2_0), .sc (.int .i64 b2_1)])], nx := 3 } = impl_calc_sum_t3 n (fun v11 v9 v10 b0 b1_0 b1_1 b2_0 b2_1 => iter (interp ([impl_zeroF n, impl_calc_addF n]) ty 21 1 n impl_calc_sumkp (codeAt impl_calc_sumc [1, 1, 0, 1, 0, 0])) (canon 1 (impl_calc_sumkp.loop 3)) (kAt ([impl_zeroF n, impl_calc_addF n]) ty 21 1 n impl_calc_sumkp impl_calc_sumc [1, 1, 0, 1, 0] [] (ending ty 1 Go.Proofs.Try.f187.results.toList impl_calc_sumrs impl_calc_sumbs)) k { env := [(11, .one (.sc (.int .i64 v11))), (5, .one (.ref 1 0 0 0 0 0)), (0, .one (.ref 0 0 0 0 0 0)), (9, .one (.list true (.pair (.int .i64) (.int .i64)) v9)), (4, .one (.ref 2 0 0 0 0 0)), (10, .one (.sc (.int .i64 v10)))], bx := [(0, .var 139 [.sc (.bool b0)]), (1, .var 26 [.sc (.int .i64 b1_0), .sc (.int .i64 b1_1)]), (2, .var 26 [.sc (.int .i64 b2_0), .sc (.int .i64 b2_1)])], nx := 3 }) v11 v9 v10 b0 b1_0 b1_1 b2_0 b2_1 := by kernel_rfl
    rw [h]
    have e := congrArg (fun g => impl_calc_sum_t3 n g v11 v9 v10 b0 b1_0 b1_1 b2_0 b2_1) (funext fun v11 => funext fun v9 => funext fun v10 => funext fun b0 => funext fun b1_0 => funext fun b1_1 => funext fun b2_0 => funext fun b2_1 => impl_calc_sum_l3_eq n k v11 v9 v10 b0 b1_0 b1_1 b2_0 b2_1)
    exact e

theorem impl_calc_sum_eq (n : Nat) (a1 : List ((Int) × (Int))) (b0 : Bool) : runBody ([impl_zeroF n, impl_calc_addF n]) ty 21 n impl_calc_sumkp impl_calc_sumc Go.Proofs.Try.f187.results.toList impl_calc_sumrs impl_calc_sumsp impl_calc_sumbs ((), (a1, ())) (b0, ()) = impl_calc_sum n a1 b0 := by
  have h : runBody ([impl_zeroF n, impl_calc_addF n]) ty 21 n impl_calc_sumkp impl_calc_sumc Go.Proofs.Try.f187.results.toList impl_calc_sumrs impl_calc_sumsp impl_calc_sumbs ((), (a1, ())) (b0, ()) = impl_calc_sum_t n (fun k v11 v9 v10 b0 b1_0 b1_1 b2_0 b2_1 => iter (interp ([impl_zeroF n, impl_calc_addF n]) ty 21 1 n impl_calc_sumkp (codeAt impl_calc_sumc [1, 1, 0, 1, 0, 0])) (canon 1 (impl_calc_sumkp.loop 3)) (kAt ([impl_zeroF n, impl_calc_addF n]) ty 21 1 n impl_calc_sumkp impl_calc_sumc [1, 1, 0, 1, 0] [] (ending ty 1 Go.Proofs.Try.f187.results.toList impl_calc_sumrs impl_calc_sumbs)) k { env := [(11, .one (.sc (.int .i64 v11))), (5, .one (.ref 1 0 0 0 0 0)), (0, .one (.ref 0 0 0 0 0 0)), (9, .one (.list true (.pair (.int .i64) (.int .i64)) v9)), (4, .one (.ref 2 0 0 0 0 0)), (10, .one (.sc (.int .i64 v10)))], bx := [(0, .var 139 [.sc (.bool b0)]), (1, .var 26 [.sc (.int .i64 b1_0), .sc (.int .i64 b1_1)]), (2, .var 26 [.sc (.int .i64 b2_0), .sc (.int .i64 b2_1)])], nx := 3 }) a1 b0 := by kernel_rfl
  rw [h]
  have e := congrArg (fun h3 => impl_calc_sum_t n h3 a1 b0) (funext fun k => funext fun v11 => funext fun v9 => funext fun v10 => funext fun b0 => funext fun b1_0 => funext fun b1_1 => funext fun b2_0 => funext fun b2_1 => impl_calc_sum_l3_eq n k v11 v9 v10 b0 b1_0 b1_1 b2_0 b2_1)
  exact e

theorem impl_calc_sum_ok (n : Nat) : FunOk P (impl_calc_sumF n) :=
  funOk_mk (C := [impl_zeroF n, impl_calc_addF n]) (N := 21) (kp := impl_calc_sumkp) (c := impl_calc_sumc) (n := n) (G := fun x y => impl_calc_sum n x.2.1 y.1) follows (AllOk.mem (⟨impl_zero_ok n, ⟨impl_calc_add_ok n, trivial⟩⟩ : AllOk P ([impl_zeroF n, impl_calc_addF n]))) (by kernel_rfl : P.funcs[187]? = some Go.Proofs.Try.f187) (by kernel_rfl) (by kernel_rfl) (by kernel_rfl)
    (fun x y => impl_calc_sum_eq n x.2.1 y.1) (fun _ _ => map_same (fun _ => rfl) _) (fun _ _ _ _ => rfl)

abbrev impl_pairObssp : List Sp := [.v false (.int .i64), .v false (.int .i64), .v true (.pair (.int .i64) (.int .i64))]
abbrev impl_pairObsbs : List (Bs × Bool) := []
abbrev impl_pairObsrs : List (Bool × List Rp) := [(true, [.v false (.pair (.pair (.int .i8) (.pair (.int .i8) (.pair (.int .i8) (.pair (.int .i8) (.pair (.int .i8) (.int .i8)))))) (.pair (.pair (.int .i64) (.int .i64)) (.int .i64)))])]
noncomputable def impl_pairObskp : Keep := { loop := fun id => match id with | _ => ([], []), join := fun id => match id with | _ => none }
noncomputable def impl_pairObsc : Code := bodyOf Go.Proofs.Try.f197
noncomputable def impl_pairObsF (n : Nat) : Fun := { id := 197, sp := impl_pairObssp, bs := impl_pairObsbs, rs := impl_pairObsrs, f := fun x y => impl_pairObs n x.1 x.2.1 x.2.2.1 }

theorem impl_pairObs_eq (n : Nat) (a0 : Int) (a1 : Int) (a2 : (Int) × (Int)) : runBody ([]) ty 17 n impl_pairObskp impl_pairObsc Go.Proofs.Try.f197.results.toList impl_pairObsrs impl_pairObssp impl_pairObsbs (a0, (a1, (a2, ()))) () = impl_pairObs n a0 a1 a2 := by
  have h : runBody ([]) ty 17 n impl_pairObskp impl_pairObsc Go.Proofs.Try.f197.results.toList impl_pairObsrs impl_pairObssp impl_pairObsbs (a0, (a1, (a2, ()))) () = impl_pairObs_t n a0 a1 a2 := by kernel_rfl
  rw [h]
  rfl

theorem impl_pairObs_ok (n : Nat) : FunOk P (impl_pairObsF n) :=
  funOk_mk (C := []) (N := 17) (kp := impl_pairObskp) (c := impl_pairObsc) (n := n) (G := fun x y => impl_pairObs n x.1 x.2.1 x.2.2.1) follows (AllOk.mem (trivial : AllOk P ([]))) (by kernel_rfl : P.funcs[197]? = some Go.Proofs.Try.f197) (by kernel_rfl) (by kernel_rfl) (by kernel_rfl)
    (fun x y => impl_pairObs_eq n x.1 x.2.1 x.2.2.1) (fun _ _ => map_same (fun _ => rfl) _) (fun _ _ _ _ => rfl)

abbrev impl_PairTablesp : List Sp := [.v true (.pair (.pair (.int .i64) (.int .i64)) (.list (.pair (.int .i64) (.int .i64))))]
abbrev impl_PairTablebs : List (Bs × Bool) := []
abbrev impl_PairTablers : List (Bool × List Rp) := [(true, [.v false (.int .i64), .new (.pair (.pair (.int .i8) (.pair (.int .i8) (.pair (.int .i8) (.pair (.int .i8) (.pair (.int .i8) (.int .i8)))))) (.pair (.pair (.int .i64) (.int .i64)) (.int .i64))), .v false (.pair .bool (.pair (.int .i64) (.int .i64)))]), (false, [.v false (.int .i64)])]
noncomputable def impl_PairTablekp : Keep := { loop := fun id => match id with | 9 => ([6, 5, 4, 35, 2, 34], [.box 0 1 (.pair (.pair (.int .i8) (.pair (.int .i8) (.pair (.int .i8) (.pair (.int .i8) (.pair (.int .i8) (.int .i8)))))) (.pair (.pair (.int .i64) (.int .i64)) (.int .i64)))]) | 12 => ([8, 6, 5, 7, 4, 2, 34, 35], [.box 0 1 (.pair (.pair (.int .i8) (.pair (.int .i8) (.pair (.int .i8) (.pair (.int .i8) (.pair (.int .i8) (.int .i8)))))) (.pair (.pair (.int .i64) (.int .i64)) (.int .i64)))]) | _ => ([], []), join := fun id => match id with | _ => none }
noncomputable def impl_PairTablec : Code := bodyOf Go.Proofs.Try.f99
noncomputable def impl_PairTableF (n : Nat) : Fun := { id := 99, sp := impl_PairTablesp, bs := impl_PairTablebs, rs := impl_PairTablers, f := fun x y => impl_PairTable n x.1 }

theorem impl_PairTable_l12_eq (n : Nat) (G9 : St → Option ((((Int) × ((List (((Int) × ((Int) × ((Int) × ((Int) × ((Int) × (Int)))))) × (((Int) × (Int)) × (Int)))) × (((Bool) × ((Int) × (Int))) × (Unit)))) × (((Int) × (Unit)) × (Unit))) × (Unit))) : ∀ (k : Nat) (v8 : Int) (v7 : Int) (v34 : Int) (v35 : Int) (b0_0 : Int) (b0_2 : Bool) (b0_3 : Int) (b0_4 : Int) (b1 : List ((Int) × (Int))) (b2 : Bool) (b3_0 : Int) (b3_2 : Bool) (b3_3 : Int) (b3_4 : Int) (b4 : List (((Int) × ((Int) × ((Int) × ((Int) × ((Int) × (Int)))))) × (((Int) × (Int)) × (Int)))), iter (interp ([impl_ValidScaleF n, impl_withinF n, impl_calc_intervalsF n, impl_calc_sumF n, impl_calc_subF n, impl_pairObsF n]) ty 71 0 n impl_PairTablekp (codeAt impl_PairTablec [1, 1, 1, 1, 1, 0, 1, 0, 0, 1, 1, 0, 0, 1, 1, 0, 0])) (canon 0 (impl_PairTablekp.loop 12)) (kAt ([impl_ValidScaleF n, impl_withinF n, impl_calc_intervalsF n, impl_calc_sumF n, impl_calc_subF n, impl_pairObsF n]) ty 71 0 n impl_PairTablekp impl_PairTablec [1, 1, 1, 1, 1, 0, 1, 0, 0, 1, 1, 0, 0, 1, 1, 0] [G9] (ending ty 0 Go.Proofs.Try.f99.results.toList impl_PairTablers impl_PairTablebs)) k { env := [(8, .one (.sc (.int .i64 v8))), (6, .one (.ref 0 0 0 0 0 0)), (5, .one (.slice 1 0 none)), (7, .one (.sc (.int .i64 v7))), (4, .one (.ref 2 0 0 0 0 0)), (2, .one (.ref 3 0 0 0 0 0)), (34, .one (.sc (.int .i64 v34))), (35, .one (.sc (.int .i64 v35)))], bx := [(0, .var 28 [.sc (.int .i64 b0_0), .slice 4 0 none, .sc (.bool b0_2), .sc (.int .i64 b0_3), .sc (.int .i64 b0_4)]), (1, .row 0 (.pair (.int .i64) (.int .i64)) b1), (2, .var 139 [.sc (.bool b2)]), (3, .var 28 [.sc (.int .i64 b3_0), .sc (.slice none 0 0), .sc (.bool b3_2), .sc (.int .i64 b3_3), .sc (.int .i64 b3_4)]), (4, .row 0 (.pair (.pair (.int .i8) (.pair (.int .i8) (.pair (.int .i8) (.pair (.int .i8) (.pair (.int .i8) (.int .i8)))))) (.pair (.pair (.int .i64) (.int .i64)) (.int .i64))) b4)], nx := 5 } = impl_PairTable_l12 n (fun v35 v34 b0_0 b0_2 b0_3 b0_4 b1 b2 b3_0 b3_2 b3_3 b3_4 b4 => G9 { env := [(6, .one (.ref 0 0 0 0 0 0)), (5, .one (.slice 1 0 none)), (4, .one (.ref 2 0 0 0 0 0)), (35, .one (.sc (.int .i64 v35))), (2, .one (.ref 3 0 0 0 0 0)), (34, .one (.sc (.int .i64 v34)))], bx := [(0, .var 28 [.sc (.int .i64 b0_0), .slice 4 0 none, .sc (.bool b0_2), .sc (.int .i64 b0_3), .sc (.int .i64 b0_4)]), (1, .row 0 (.pair (.int .i64) (.int .i64)) b1), (2, .var 139 [.sc (.bool b2)]), (3, .var 28 [.sc (.int .i64 b3_0), .sc (.slice none 0 0), .sc (.bool b3_2), .sc (.int .i64 b3_3), .sc (.int .i64 b3_4)]), (4, .row 0 (.pair (.pair (.int .i8) (.pair (.int .i8) (.pair (.int .i8) (.pair (.int .i8) (.pair (.int .i8) (.int .i8)))))) (.pair (.pair (.int .i64) (.int .i64)) (.int .i64))) b4)], nx := 5 }) k v8 v7 v34 v35 b0_0 b0_2 b0_3 b0_4 b1 b2 b3_0 b3_2 b3_3 b3_4 b4
  | 0, _, _, _, _, _, _, _, _, _, _, _, _, _, _, _ => by kernel_rfl
  | k + 1, v8, v7, v34, v35, b0_0, b0_2, b0_3, b0_4, b1, b2, b3_0, b3_2, b3_3, b3_4, b4 => by
    have h : iter (interp ([impl_ValidScaleF n, impl_withinF n, impl_calc_intervalsF n, impl_calc_sumF n, impl_calc_subF n, impl_pairObsF n]) ty 71 0 n impl_PairTablekp (codeAt impl_PairTablec [1, 1, 1, 1, 1, 0, 1, 0, 0, 1, 1, 0, 0, 1, 1, 0, 0])) (canon 0 (impl_PairTablekp.loop 12)) (kAt ([impl_ValidScaleF n, impl_withinF n, impl_calc_intervalsF n, impl_calc_sumF n, impl_calc_subF n, impl_pairObsF n]) ty 71 0 n impl_PairTablekp impl_PairTablec [1, 1, 1, 1, 1, 0, 1, 0, 0, 1, 1, 0, 0, 1, 1, 0] [G9] (ending ty 0 Go.Proofs.Try.f99.results.toList impl_PairTablers impl_PairTablebs)) (k + 1) { env := [(8, .one (.sc (.int .i64 v8))), (6, .one (.ref 0 0 0 0 0 0)), (5, .one (.slice 1 0 none)), (7, .one (.sc (.int .i64 v7))), (4, .one (.ref 2 0 0 0 0 0)), (2, .one (.ref 3 0 0 0 0 0)), (34, .one (.sc (.int .i64 v34))), (35, .one (.sc (.int .i64 v35)))], bx := [(0, .var 28 [.sc (.int .i64 b0_0), .slice 4 0 none, .sc (.bool b0_2), .sc (.int .i64 b0_3), .sc (.int .i64 b0_4)]), (1, .row 0 (.pair (.int .i64) (.int .i64)) b1), (2, .var 139 [.sc (.bool b2)]), (3, .var 28 [.sc (.int .i64 b3_0), .sc (.slice none 0 0), .sc (.bool b3_2), .sc (.int .i64 b3_3), .sc (.int .i64 b3_4)]), (4, .row 0 (.pair (.pair (.int .i8) (.pair (.int .i8) (.pair (.int .i8) (.pair (.int .i8) (.pair (.int .i8) (.int .i8)))))) (.pair (.pair (.int .i64) (.int .i64)) (.int .i64))) b4)], nx := 5 } = impl_PairTable_t12 n (fun v35 v34 b0_0 b0_2 b0_3 b0_4 b1 b2 b3_0 b3_2 b3_3 b3_4 b4 => G9 { env := [(6, .one (.ref 0 0 0 0 0 0)), (5, .one (.slice 1 0 none)), (4, .one (.ref 2 0 0 0 0 0)), (35, .one (.sc (.int .i64 v35))), (2, .one (.ref 3 0 0 0 0 0)), (34, .one (.sc (.int .i64 v34)))], bx := [(0, .var 28 [.sc (.int .i64 b0_0), .slice 4 0 none, .sc (.bool b0_2), .sc (.int .i64 b0_3), .sc (.int .i64 b0_4)]), (1, .row 0 (.pair (.int .i64) (.int .i64)) b1), (2, .var 139 [.sc (.bool b2)]), (3, .var 28 [.sc (.int .i64 b3_0), .sc (.slice none 0 0), .sc (.bool b3_2), .sc (.int .i64 b3_3), .sc (.int .i64 b3_4)]), (4, .row 0 (.pair (.pair (.int .i8) (.pair (.int .i8) (.pair (.int .i8) (.pair (.int .i8) (.pair (.int .i8) (.int .i8)))))) (.pair (.pair (.int .i64) (.int .i64)) (.int .i64))) b4)], nx := 5 }) (fun v8 v7 v34 v35 b0_0 b0_2 b0_3 b0_4 b1 b2 b3_0 b3_2 b3_3 b3_4 b4 => iter (interp ([impl_ValidScaleF n, impl_withinF n, impl_calc_intervalsF n, impl_calc_sumF n, impl_calc_subF n, impl_pairObsF n]) ty 71 0 n impl_PairTablekp (codeAt impl_PairTablec [1, 1, 1, 1, 1, 0, 1, 0, 0, 1, 1, 0, 0, 1, 1, 0, 0])) (canon 0 (impl_PairTablekp.loop 12)) (kAt ([impl_ValidScaleF n, impl_withinF n, impl_calc_intervalsF n, impl_calc_sumF n, impl_calc_subF n, impl_pairObsF n]) ty 71 0 n impl_PairTablekp impl_PairTablec [1, 1, 1, 1, 1, 0, 1, 0, 0, 1, 1, 0, 0, 1, 1, 0] [G9] (ending ty 0 Go.Proofs.Try.f99.results.toList impl_PairTablers impl_PairTablebs)) k { env := [(8, .one (.sc (.int .i64 v8))), (6, .one (.ref 0 0 0 0 0 0)), (5, .one (.slice 1 0 none)), (7, .one (.sc (.int .i64 v7))), (4, .one (.ref 2 0 0 0 0 0)), (2, .one (.ref 3 0 0 0 0 0)), (34, .one (.sc (.int .i64 v34))), (35, .one (.sc (.int .i64 v35)))], bx := [(0, .var 28 [.sc (.int .i64 b0_0), .slice 4 0 none, .sc (.bool b0_2), .sc (.int .i64 b0_3), .sc (.int .i64 b0_4)]), (1, .row 0 (.pair (.int .i64) (.int .i64)) b1), (2, .var 139 [.sc (.bool b2)]), (3, .var 28 [.sc (.int .i64 b3_0), .sc (.slice none 0 0), .sc (.bool b3_2), .sc (.int .i64 b3_3), .sc (.int .i64 b3_4)]), (4, .row 0 (.pair (.pair (.int .i8) (.pair (.int .i8) (.pair (.int .i8) (.pair (.int .i8) (.pair (.int .i8) (.int .i8)))))) (.pair (.pair (.int .i64) (.int .i64)) (.int .i64))) b4)], nx := 5 }) v8 v7 v34 v35 b0_0 b0_2 b0_3 b0_4 b1 b2 b3_0 b3_2 b3_3 b3_4 b4 := by kernel_rfl
    rw [h]
    have e := congrArg (fun g => impl_PairTable_t12 n (fun v35 v34 b0_0 b0_2 b0_3 b0_4 b1 b2 b3_0 b3_2 b3_3 b3_4 b4 => G9 { env := [(6, .one (.ref 0 0 0 0 0 0)), (5, .one (.slice 1 0 none)), (4, .one (.ref 2 0 0 0 0 0)), (35, .one (.sc (.int .i64 v35))), (2, .one (.ref 3 0 0 0 0 0)), (34, .one (.sc (.int .i64 v34)))], bx := [(0, .var 28 [.sc (.int .i64 b0_0), .slice 4 0 none, .sc (.bool b0_2), .sc (.int .i64 b0_3), .sc (.int .i64 b0_4)]), (1, .row 0 (.pair (.int .i64) (.int .i64)) b1), (2, .var 139 [.sc (.bool b2)]), (3, .var 28 [.sc (.int .i64 b3_0), .sc (.slice none 0 0), .sc (.bool b3_2), .sc (.int .i64 b3_3), .sc (.int .i64 b3_4)]), (4, .row 0 (.pair (.pair (.int .i8) (.pair (.int .i8) (.pair (.int .i8) (.pair (.int .i8) (.pair (.int .i8) (.int .i8)))))) (.pair (.pair (.int .i64) (.int .i64)) (.int .i64))) b4)], nx := 5 }) g v8 v7 v34 v35 b0_0 b0_2 b0_3 b0_4 b1 b2 b3_0 b3_2 b3_3 b3_4 b4) (funext fun v8 => funext fun v7 => funext fun v34 => funext fun v35 => funext fun b0_0 => funext fun b0_2 => funext fun b0_3 => funext fun b0_4 => funext fun b1 => funext fun b2 => funext fun b3_0 => funext fun b3_2 => funext fun b3_3 => funext fun b3_4 => funext fun b4 => impl_PairTable_l12_eq n G9 k v8 v7 v34 v35 b0_0 b0_2 b0_3 b0_4 b1 b2 b3_0 b3_2 b3_3 b3_4 b4)
    exact e

theorem impl_PairTable_l9_eq (n : Nat) : ∀ (k : Nat) (v35 : Int) (v34 : Int) (b0_0 : Int) (b0_2 : Bool) (b0_3 : Int) (b0_4 : Int) (b1 : List ((Int) × (Int))) (b2 : Bool) (b3_0 : Int) (b3_2 : Bool) (b3_3 : Int) (b3_4 : Int) (b4 : List (((Int) × ((Int) × ((Int) × ((Int) × ((Int) × (Int)))))) × (((Int) × (Int)) × (Int)))), iter (interp ([impl_ValidScaleF n, impl_withinF n, impl_calc_intervalsF n, impl_calc_sumF n, impl_calc_subF n, impl_pairObsF n]) ty 71 0 n impl_PairTablekp (codeAt impl_PairTablec [1, 1, 1, 1, 1, 0, 1, 0, 0])) (canon 0 (impl_PairTablekp.loop 9)) (kAt ([impl_ValidScaleF n, impl_withinF n, impl_calc_intervalsF n, impl_calc_sumF n, impl_calc_subF n, impl_pairObsF n]) ty 71 0 n impl_PairTablekp impl_PairTablec [1, 1, 1, 1, 1, 0, 1, 0] [] (ending ty 0 Go.Proofs.Try.f99.results.toList impl_PairTablers impl_PairTablebs)) k { env := [(6, .one (.ref 0 0 0 0 0 0)), (5, .one (.slice 1 0 none)), (4, .one (.ref 2 0 0 0 0 0)), (35, .one (.sc (.int .i64 v35))), (2, .one (.ref 3 0 0 0 0 0)), (34, .one (.sc (.int .i64 v34)))], bx := [(0, .var 28 [.sc (.int .i64 b0_0), .slice 4 0 none, .sc (.bool b0_2), .sc (.int .i64 b0_3), .sc (.int .i64 b0_4)]), (1, .row 0 (.pair (.int .i64) (.int .i64)) b1), (2, .var 139 [.sc (.bool b2)]), (3, .var 28 [.sc (.int .i64 b3_0), .sc (.slice none 0 0), .sc (.bool b3_2), .sc (.int .i64 b3_3), .sc (.int .i64 b3_4)]), (4, .row 0 (.pair (.pair (.int .i8) (.pair (.int .i8) (.pair (.int .i8) (.pair (.int .i8) (.pair (.int .i8) (.int .i8)))))) (.pair (.pair (.int .i64) (.int .i64)) (.int .i64))) b4)], nx := 5 } = impl_PairTable_l9 n k v35 v34 b0_0 b0_2 b0_3 b0_4 b1 b2 b3_0 b3_2 b3_3 b3_4 b4
  | 0, _, _, _, _, _, _, _, _, _, _, _, _, _ => by kernel_rfl
  | k + 1, v35, v34, b0_0, b0_2, b0_3, b0_4, b1, b2, b3_0, b3_2, b3_3, b3_4, b4 => by
    have h : iter (interp ([impl_ValidScaleF n, impl_withinF n, impl_calc_intervalsF n, impl_calc_sumF n, impl_calc_subF n, impl_pairObsF n]) ty 71 0 n impl_PairTablekp (codeAt impl_PairTablec [1, 1, 1, 1, 1, 0, 1, 0, 0])) (canon 0 (impl_PairTablekp.loop 9)) (kAt ([impl_ValidScaleF n, impl_withinF n, impl_calc_intervalsF n, impl_calc_sumF n, impl_calc_subF n, impl_pairObsF n]) ty 71 0 n impl_PairTablekp impl_PairTablec [1, 1, 1, 1, 1, 0, 1, 0] [] (ending ty 0 Go.Proofs.Try.f99.results.toList impl_PairTablers impl_PairTablebs)) (k + 1) { env := [(6, .one (.ref 0 0 0 0 0 0)), (5, .one (.slice 1 0 none)), (4, .one (.ref 2 0 0 0 0 0)), (35, .one (.sc (.int .i64 v35))), (2, .one (.ref 3 0 0 0 0 0)), (34, .one (.sc (.int .i64 v34)))], bx := [(0, .var 28 [.sc (.int .i64 b0_0), .slice 4 0 none, .sc (.bool b0_2), .sc (.int .i64 b0_3), .sc (.int .i64 b0_4)]), (1, .row 0 (.pair (.int .i64) (.int .i64)) b1), (2, .var 139 [.sc (.bool b2)]), (3, .var 28 [.sc (.int .i64 b3_0), .sc (.slice none 0 0), .sc (.bool b3_2), .sc (.int .i64 b3_3), .sc (.int .i64 b3_4)]), (4, .row 0 (.pair (.pair (.int .i8) (.pair (.int .i8) (.pair (.int .i8) (.pair (.int .i8) (.pair (.int .i8) (.int .i8)))))) (.pair (.pair (.int .i64) (.int .i64)) (.int .i64))) b4)], nx := 5 } = impl_PairTable_t9 n (fun k' v8 v7 v34 v35 b0_0 b0_2 b0_3 b0_4 b1 b2 b3_0 b3_2 b3_3 b3_4 b4 => iter (interp ([impl_ValidScaleF n, impl_withinF n, impl_calc_intervalsF n, impl_calc_sumF n, impl_calc_subF n, impl_pairObsF n]) ty 71 0 n impl_PairTablekp (codeAt impl_PairTablec [1, 1, 1, 1, 1, 0, 1, 0, 0, 1, 1, 0, 0, 1, 1, 0, 0])) (canon 0 (impl_PairTablekp.loop 12)) (kAt ([impl_ValidScaleF n, impl_withinF n, impl_calc_intervalsF n, impl_calc_sumF n, impl_calc_subF n, impl_pairObsF n]) ty 71 0 n impl_PairTablekp impl_PairTablec [1, 1, 1, 1, 1, 0, 1, 0, 0, 1, 1, 0, 0, 1, 1, 0] [(fun s => iter (interp ([impl_ValidScaleF n, impl_withinF n, impl_calc_intervalsF n, impl_calc_sumF n, impl_calc_subF n, impl_pairObsF n]) ty 71 0 n impl_PairTablekp (codeAt impl_PairTablec [1, 1, 1, 1, 1, 0, 1, 0, 0])) (canon 0 (impl_PairTablekp.loop 9)) (kAt ([impl_ValidScaleF n, impl_withinF n, impl_calc_intervalsF n, impl_calc_sumF n, impl_calc_subF n, impl_pairObsF n]) ty 71 0 n impl_PairTablekp impl_PairTablec [1, 1, 1, 1, 1, 0, 1, 0] [] (ending ty 0 Go.Proofs.Try.f99.results.toList impl_PairTablers impl_PairTablebs)) k s)] (ending ty 0 Go.Proofs.Try.f99.results.toList impl_PairTablers impl_PairTablebs)) k' { env := [(8, .one (.sc (.int .i64 v8))), (6, .one (.ref 0 0 0 0 0 0)), (5, .one (.slice 1 0 none)), (7, .one (.sc (.int .i64 v7))), (4, .one (.ref 2 0 0 0 0 0)), (2, .one (.ref 3 0 0 0 0 0)), (34, .one (.sc (.int .i64 v34))), (35, .one (.sc (.int .i64 v35)))], bx := [(0, .var 28 [.sc (.int .i64 b0_0), .slice 4 0 none, .sc (.bool b0_2), .sc (.int .i64 b0_3), .sc (.int .i64 b0_4)]), (1, .row 0 (.pair (.int .i64) (.int .i64)) b1), (2, .var 139 [.sc (.bool b2)]), (3, .var 28 [.sc (.int .i64 b3_0), .sc (.slice none 0 0), .sc (.bool b3_2), .sc (.int .i64 b3_3), .sc (.int .i64 b3_4)]), (4, .row 0 (.pair (.pair (.int .i8) (.pair (.int .i8) (.pair (.int .i8) (.pair (.int .i8) (.pair (.int .i8) (.int .i8)))))) (.pair (.pair (.int .i64) (.int .i64)) (.int .i64))) b4)], nx := 5 }) (fun v35 v34 b0_0 b0_2 b0_3 b0_4 b1 b2 b3_0 b3_2 b3_3 b3_4 b4 => iter (interp ([impl_ValidScaleF n, impl_withinF n, impl_calc_intervalsF n, impl_calc_sumF n, impl_calc_subF n, impl_pairObsF n]) ty 71 0 n impl_PairTablekp (codeAt impl_PairTablec [1, 1, 1, 1, 1, 0, 1, 0, 0])) (canon 0 (impl_PairTablekp.loop 9)) (kAt ([impl_ValidScaleF n, impl_withinF n, impl_calc_intervalsF n, impl_calc_sumF n, impl_calc_subF n, impl_pairObsF n]) ty 71 0 n impl_PairTablekp impl_PairTablec [1, 1, 1, 1, 1, 0, 1, 0] [] (ending ty 0 Go.Proofs.Try.f99.results.toList impl_PairTablers impl_PairTablebs)) k { env := [(6, .one (.ref 0 0 0 0 0 0)), (5, .one (.slice 1 0 none)), (4, .one (.ref 2 0 0 0 0 0)), (35, .one (.sc (.int .i64 v35))), (2, .one (.ref 3 0 0 0 0 0)), (34, .one (.sc (.int .i64 v34)))], bx := [(0, .var 28 [.sc (.int .i64 b0_0), .slice 4 0 none, .sc (.bool b0_2), .sc (.int .i64 b0_3), .sc (.int .i64 b0_4)]), (1, .row 0 (.pair (.int .i64) (.int .i64)) b1), (2, .var 139 [.sc (.bool b2)]), (3, .var 28 [.sc (.int .i64 b3_0), .sc (.slice none 0 0), .sc (.bool b3_2), .sc (.int .i64 b3_3), .sc (.int .i64 b3_4)]), (4, .row 0 (.pair (.pair (.int .i8) (.pair (.int .i8) (.pair (.int .i8) (.pair (.int .i8) (.pair (.int .i8) (.int .i8)))))) (.pair (.pair (.int .i64) (.int .i64)) (.int .i64))) b4)], nx := 5 }) v35 v34 b0_0 b0_2 b0_3 b0_4 b1 b2 b3_0 b3_2 b3_3 b3_4 b4 := by kernel_rfl
    rw [h]
    have e := congr (congrArg (fun h12 g => impl_PairTable_t9 n h12 g v35 v34 b0_0 b0_2 b0_3 b0_4 b1 b2 b3_0 b3_2 b3_3 b3_4 b4) ((funext fun k' => funext fun v8 => funext fun v7 => funext fun v34 => funext fun v35 => funext fun b0_0 => funext fun b0_2 => funext fun b0_3 => funext fun b0_4 => funext fun b1 => funext fun b2 => funext fun b3_0 => funext fun b3_2 => funext fun b3_3 => funext fun b3_4 => funext fun b4 => impl_PairTable_l12_eq n (fun s => iter (interp ([impl_ValidScaleF n, impl_withinF n, impl_calc_intervalsF n, impl_calc_sumF n, impl_calc_subF n, impl_pairObsF n]) ty 71 0 n impl_PairTablekp (codeAt impl_PairTablec [1, 1, 1, 1, 1, 0, 1, 0, 0])) (canon 0 (impl_PairTablekp.loop 9)) (kAt ([impl_ValidScaleF n, impl_withinF n, impl_calc_intervalsF n, impl_calc_sumF n, impl_calc_subF n, impl_pairObsF n]) ty 71 0 n impl_PairTablekp impl_PairTablec [1, 1, 1, 1, 1, 0, 1, 0] [] (ending ty 0 Go.Proofs.Try.f99.results.toList impl_PairTablers impl_PairTablebs)) k s) k' v8 v7 v34 v35 b0_0 b0_2 b0_3 b0_4 b1 b2 b3_0 b3_2 b3_3 b3_4 b4).trans (congrArg (fun z => impl_PairTable_l12 n z) (funext fun v35 => funext fun v34 => funext fun b0_0 => funext fun b0_2 => funext fun b0_3 => funext fun b0_4 => funext fun b1 => funext fun b2 => funext fun b3_0 => funext fun b3_2 => funext fun b3_3 => funext fun b3_4 => funext fun b4 => impl_PairTable_l9_eq n k v35 v34 b0_0 b0_2 b0_3 b0_4 b1 b2 b3_0 b3_2 b3_3 b3_4 b4)))) (funext fun v35 => funext fun v34 => funext fun b0_0 => funext fun b0_2 => funext fun b0_3 => funext fun b0_4 => funext fun b1 => funext fun b2 => funext fun b3_0 => funext fun b3_2 => funext fun b3_3 => funext fun b3_4 => funext fun b4 => impl_PairTable_l9_eq n k v35 v34 b0_0 b0_2 b0_3 b0_4 b1 b2 b3_0 b3_2 b3_3 b3_4 b4)
    exact e

theorem impl_PairTable_eq (n : Nat) (a0 : ((Int) × (Int)) × (List ((Int) × (Int)))) : runBody ([impl_ValidScaleF n, impl_withinF n, impl_calc_intervalsF n, impl_calc_sumF n, impl_calc_subF n, impl_pairObsF n]) ty 71 n impl_PairTablekp impl_PairTablec Go.Proofs.Try.f99.results.toList impl_PairTablers impl_PairTablesp impl_PairTablebs (a0, ()) () = impl_PairTable n a0 := by
  have h : runBody ([impl_ValidScaleF n, impl_withinF n, impl_calc_intervalsF n, impl_calc_sumF n, impl_calc_subF n, impl_pairObsF n]) ty 71 n impl_PairTablekp impl_PairTablec Go.Proofs.Try.f99.results.toList impl_PairTablers impl_PairTablesp impl_PairTablebs (a0, ()) () = impl_PairTable_t n (fun k v35 v34 b0_0 b0_2 b0_3 b0_4 b1 b2 b3_0 b3_2 b3_3 b3_4 b4 => iter (interp ([impl_ValidScaleF n, impl_withinF n, impl_calc_intervalsF n, impl_calc_sumF n, impl_calc_subF n, impl_pairObsF n]) ty 71 0 n impl_PairTablekp (codeAt impl_PairTablec [1, 1, 1, 1, 1, 0, 1, 0, 0])) (canon 0 (impl_PairTablekp.loop 9)) (kAt ([impl_ValidScaleF n, impl_withinF n, impl_calc_intervalsF n, impl_calc_sumF n, impl_calc_subF n, impl_pairObsF n]) ty 71 0 n impl_PairTablekp impl_PairTablec [1, 1, 1, 1, 1, 0, 1, 0] [] (ending ty 0 Go.Proofs.Try.f99.results.toList impl_PairTablers impl_PairTablebs)) k { env := [(6, .one (.ref 0 0 0 0 0 0)), (5, .one (.slice 1 0 none)), (4, .one (.ref 2 0 0 0 0 0)), (35, .one (.sc (.int .i64 v35))), (2, .one (.ref 3 0 0 0 0 0)), (34, .one (.sc (.int .i64 v34)))], bx := [(0, .var 28 [.sc (.int .i64 b0_0), .slice 4 0 none, .sc (.bool b0_2), .sc (.int .i64 b0_3), .sc (.int .i64 b0_4)]), (1, .row 0 (.pair (.int .i64) (.int .i64)) b1), (2, .var 139 [.sc (.bool b2)]), (3, .var 28 [.sc (.int .i64 b3_0), .sc (.slice none 0 0), .sc (.bool b3_2), .sc (.int .i64 b3_3), .sc (.int .i64 b3_4)]), (4, .row 0 (.pair (.pair (.int .i8) (.pair (.int .i8) (.pair (.int .i8) (.pair (.int .i8) (.pair (.int .i8) (.int .i8)))))) (.pair (.pair (.int .i64) (.int .i64)) (.int .i64))) b4)], nx := 5 }) a0 := by kernel_rfl
  rw [h]
  have e := congrArg (fun h9 => impl_PairTable_t n h9 a0) (funext fun k => funext fun v35 => funext fun v34 => funext fun b0_0 => funext fun b0_2 => funext fun b0_3 => funext fun b0_4 => funext fun b1 => funext fun b2 => funext fun b3_0 => funext fun b3_2 => funext fun b3_3 => funext fun b3_4 => funext fun b4 => impl_PairTable_l9_eq n k v35 v34 b0_0 b0_2 b0_3 b0_4 b1 b2 b3_0 b3_2 b3_3 b3_4 b4)
  exact e

theorem impl_PairTable_ok (n : Nat) : FunOk P (impl_PairTableF n) :=
  funOk_mk (C := [impl_ValidScaleF n, impl_withinF n, impl_calc_intervalsF n, impl_calc_sumF n, impl_calc_subF n, impl_pairObsF n]) (N := 71) (kp := impl_PairTablekp) (c := impl_PairTablec) (n := n) (G := fun x y => impl_PairTable n x.1) follows (AllOk.mem (⟨impl_ValidScale_ok n, ⟨impl_within_ok n, ⟨impl_calc_intervals_ok n, ⟨impl_calc_sum_ok n, ⟨impl_calc_sub_ok n, ⟨impl_pairObs_ok n, trivial⟩⟩⟩⟩⟩⟩ : AllOk P ([impl_ValidScaleF n, impl_withinF n, impl_calc_intervalsF n, impl_calc_sumF n, impl_calc_subF n, impl_pairObsF n]))) (by kernel_rfl : P.funcs[99]? = some Go.Proofs.Try.f99) (by kernel_rfl) (by kernel_rfl) (by kernel_rfl)
    (fun x y => impl_PairTable_eq n x.1) (fun _ _ => map_same (fun _ => rfl) _) (fun _ _ _ _ => rfl)

abbrev laws_eqInt8A6sp : List Sp := [.v true (.pair (.int .i8) (.pair (.int .i8) (.pair (.int .i8) (.pair (.int .i8) (.pair (.int .i8) (.int .i8)))))), .v true (.pair (.int .i8) (.pair (.int .i8) (.pair (.int .i8) (.pair (.int .i8) (.pair (.int .i8) (.int .i8))))))]
abbrev laws_eqInt8A6bs : List (Bs × Bool) := []
abbrev laws_eqInt8A6rs : List (Bool × List Rp) := [(false, [.v false .bool])]
noncomputable def laws_eqInt8A6kp : Keep := { loop := fun id => match id with | 2 => ([5, 3, 2], []) | _ => ([], []), join := fun id => match id with | _ => none }
noncomputable def laws_eqInt8A6c : Code := bodyOf Go.Proofs.Try.f264
noncomputable def laws_eqInt8A6F (n : Nat) : Fun := { id := 264, sp := laws_eqInt8A6sp, bs := laws_eqInt8A6bs, rs := laws_eqInt8A6rs, f := fun x y => laws_eqInt8A6 n x.1 x.2.1 }

theorem laws_eqInt8A6_l2_eq (n : Nat) : ∀ (k : Nat) (v5 : Int) (b0_0 : Int) (b0_1 : Int) (b0_2 : Int) (b0_3 : Int) (b0_4 : Int) (b0_5 : Int) (b1_0 : Int) (b1_1 : Int) (b1_2 : Int) (b1_3 : Int) (b1_4 : Int) (b1_5 : Int), iter (interp ([]) ty 17 0 n laws_eqInt8A6kp (codeAt laws_eqInt8A6c [1, 0, 1, 0, 0])) (canon 0 (laws_eqInt8A6kp.loop 2)) (kAt ([]) ty 17 0 n laws_eqInt8A6kp laws_eqInt8A6c [1, 0, 1, 0] [] (ending ty 0 Go.Proofs.Try.f264.results.toList laws_eqInt8A6rs laws_eqInt8A6bs)) k { env := [(5, .one (.sc (.int .i64 v5))), (3, .one (.ref 0 0 0 0 0 0)), (2, .one (.ref 1 0 0 0 0 0))], bx := [(0, .var 47 [.sc (.int .i8 b0_0), .sc (.int .i8 b0_1), .sc (.int .i8 b0_2), .sc (.int .i8 b0_3), .sc (.int .i8 b0_4), .sc (.int .i8 b0_5)]), (1, .var 47 [.sc (.int .i8 b1_0), .sc (.int .i8 b1_1), .sc (.int .i8 b1_2), .sc (.int .i8 b1_3), .sc (.int .i8 b1_4), .sc (.int .i8 b1_5)])], nx := 2 } = laws_eqInt8A6_l2 n k v5 b0_0 b0_1 b0_2 b0_3 b0_4 b0_5 b1_0 b1_1 b1_2 b1_3 b1_4 b1_5
  | 0, _, _, _, _, _, _, _, _, _, _, _, _, _ => by kernel_rfl
  | k + 1, v5, b0_0, b0_1, b0_2, b0_3, b0_4, b0_5, b1_0, b1_1, b1_2, b1_3, b1_4, b1_5 => by
    have h : iter (interp ([]) ty 17 0 n laws_eqInt8A6kp (codeAt laws_eqInt8A6c [1, 0, 1, 0, 0])) (canon 0 (laws_eqInt8A6kp.loop 2)) (kAt ([]) ty 17 0 n laws_eqInt8A6kp laws_eqInt8A6c [1, 0, 1, 0] [] (ending ty 0 Go.Proofs.Try.f264.results.toList laws_eqInt8A6rs laws_eqInt8A6bs)) (k + 1) { env := [(5, .one (.sc (.int .i64 v5))), (3, .one (.ref 0 0 0 0 0 0)), (2, .one (.ref 1 0 0 0 0 0))], bx := [(0, .var 47 [.sc (.int .i8 b0_0), .sc (.int .i8 b0_1), .sc (.int .i8 b0_2), .sc (.int .i8 b0_3), .sc (.int .i8 b0_4), .sc (.int .i8 b0_5)]), (1, .var 47 [.sc (.int .i8 b1_0), .sc (.int .i8 b1_1), .sc (.int .i8 b1_2), .sc (.int .i8 b1_3), .sc (.int .i8 b1_4), .sc (.int .i8 b1_5)])], nx := 2 } = laws_eqInt8A6_t2 n (fun v5 b0_0 b0_1 b0_2 b0_3 b0_4 b0_5 b1_0 b1_1 b1_2 b1_3 b1_4 b1_5 => iter (interp ([]) ty 17 0 n laws_eqInt8A6kp (codeAt laws_eqInt8A6c [1, 0, 1, 0, 0])) (canon 0 (laws_eqInt8A6kp.loop 2)) (kAt ([]) ty 17 0 n laws_eqInt8A6kp laws_eqInt8A6c [1, 0, 1, 0] [] (ending ty 0 Go.Proofs.Try.f264.results.toList laws_eqInt8A6rs laws_eqInt8A6bs)) k { env := [(5, .one (.sc (.int .i64 v5))), (3, .one (.ref 0 0 0 0 0 0)), (2, .one (.ref 1 0 0 0 0 0))], bx := [(0, .var 47 [.sc (.int .i8 b0_0), .sc (.int .i8 b0_1), .sc (.int .i8 b0_2), .sc (.int .i8 b0_3), .sc (.int .i8 b0_4), .sc (.int .i8 b0_5)]), (1, .var 47 [.sc (.int .i8 b1_0), .sc (.int .i8 b1_1), .sc (.int .i8 b1_2), .sc (.int .i8 b1_3), .sc (.int .i8 b1_4), .sc (.int .i8 b1_5)])], nx := 2 }) v5 b0_0 b0_1 b0_2 b0_3 b0_4 b0_5 b1_0 b1_1 b1_2 b1_3 b1_4 b1_5 := by kernel_rfl
    rw [h]
    have e := congrArg (fun g => laws_eqInt8A6_t2 n g v5 b0_0 b0_1 b0_2 b0_3 b0_4 b0_5 b1_0 b1_1 b1_2 b1_3 b1_4 b1_5) (funext fun v5 => funext fun b0_0 => funext fun b0_1 => funext fun b0_2 => funext fun b0_3 => funext fun b0_4 => funext fun b0_5 => funext fun b1_0 => funext fun b1_1 => funext fun b1_2 => funext fun b1_3 => funext fun b1_4 => funext fun b1_5 => laws_eqInt8A6_l2_eq n k v5 b0_0 b0_1 b0_2 b0_3 b0_4 b0_5 b1_0 b1_1 b1_2 b1_3 b1_4 b1_5)
    exact e

theorem laws_eqInt8A6_eq (n : Nat) (a0 : (Int) × ((Int) × ((Int) × ((Int) × ((Int) × (Int)))))) (a1 : (Int) × ((Int) × ((Int) × ((Int) × ((Int) × (Int)))))) : runBody ([]) ty 17 n laws_eqInt8A6kp laws_eqInt8A6c Go.Proofs.Try.f264.results.toList laws_eqInt8A6rs laws_eqInt8A6sp laws_eqInt8A6bs (a0, (a1, ())) () = laws_eqInt8A6 n a0 a1 := by
  have h : runBody ([]) ty 17 n laws_eqInt8A6kp laws_eqInt8A6c Go.Proofs.Try.f264.results.toList laws_eqInt8A6rs laws_eqInt8A6sp laws_eqInt8A6bs (a0, (a1, ())) () = laws_eqInt8A6_t n (fun k v5 b0_0 b0_1 b0_2 b0_3 b0_4 b0_5 b1_0 b1_1 b1_2 b1_3 b1_4 b1_5 => iter (interp ([]) ty 17 0 n laws_eqInt8A6kp (codeAt laws_eqInt8A6c [1, 0, 1, 0, 0])) (canon 0 (laws_eqInt8A6kp.loop 2)) (kAt ([]) ty 17 0 n laws_eqInt8A6kp laws_eqInt8A6c [1, 0, 1, 0] [] (ending ty 0 Go.Proofs.Try.f264.results.toList laws_eqInt8A6rs laws_eqInt8A6bs)) k { env := [(5, .one (.sc (.int .i64 v5))), (3, .one (.ref 0 0 0 0 0 0)), (2, .one (.ref 1 0 0 0 0 0))], bx := [(0, .var 47 [.sc (.int .i8 b0_0), .sc (.int .i8 b0_1), .sc (.int .i8 b0_2), .sc (.int .i8 b0_3), .sc (.int .i8 b0_4), .sc (.int .i8 b0_5)]), (1, .var 47 [.sc (.int .i8 b1_0), .sc (.int .i8 b1_1), .sc (.int .i8 b1_2), .sc (.int .i8 b1_3), .sc (.int .i8 b1_4), .sc (.int .i8 b1_5)])], nx := 2 }) a0 a1 := by kernel_rfl
  rw [h]
  have e := congrArg (fun h2 => laws_eqInt8A6_t n h2 a0 a1) (funext fun k => funext fun v5 => funext fun b0_0 => funext fun b0_1 => funext fun b0_2 => funext fun b0_3 => funext fun b0_4 => funext fun b0_5 => funext fun b1_0 => funext fun b1_1 => funext fun b1_2 => funext fun b1_3 => funext fun b1_4 => funext fun b1_5 => laws_eqInt8A6_l2_eq n k v5 b0_0 b0_1 b0_2 b0_3 b0_4 b0_5 b1_0 b1_1 b1_2 b1_3 b1_4 b1_5)
  exact e

theorem laws_eqInt8A6_ok (n : Nat) : FunOk P (laws_eqInt8A6F n) :=
  funOk_mk (C := []) (N := 17) (kp := laws_eqInt8A6kp) (c := laws_eqInt8A6c) (n := n) (G := fun x y => laws_eqInt8A6 n x.1 x.2.1) follows (AllOk.mem (trivial : AllOk P ([]))) (by kernel_rfl : P.funcs[264]? = some Go.Proofs.Try.f264) (by kernel_rfl) (by kernel_rfl) (by kernel_rfl)
    (fun x y => laws_eqInt8A6_eq n x.1 x.2.1) (fun _ _ => map_same (fun _ => rfl) _) (fun _ _ _ _ => rfl)

abbrev laws_eqFracsp : List Sp := [.v true (.pair (.int .i64) (.int .i64)), .v true (.pair (.int .i64) (.int .i64))]
abbrev laws_eqFracbs : List (Bs × Bool) := []
abbrev laws_eqFracrs : List (Bool × List Rp) := [(false, [.v false .bool])]
noncomputable def laws_eqFrackp : Keep := { loop := fun id => match id with | _ => ([], []), join := fun id => match id with | _ => none }
noncomputable def laws_eqFracc : Code := bodyOf Go.Proofs.Try.f223
noncomputable def laws_eqFracF (n : Nat) : Fun := { id := 223, sp := laws_eqFracsp, bs := laws_eqFracbs, rs := laws_eqFracrs, f := fun x y => laws_eqFrac n x.1 x.2.1 }

theorem laws_eqFrac_eq (n : Nat) (a0 : (Int) × (Int)) (a1 : (Int) × (Int)) : runBody ([]) ty 15 n laws_eqFrackp laws_eqFracc Go.Proofs.Try.f223.results.toList laws_eqFracrs laws_eqFracsp laws_eqFracbs (a0, (a1, ())) () = laws_eqFrac n a0 a1 := by
  have h : runBody ([]) ty 15 n laws_eqFrackp laws_eqFracc Go.Proofs.Try.f223.results.toList laws_eqFracrs laws_eqFracsp laws_eqFracbs (a0, (a1, ())) () = laws_eqFrac_t n a0 a1 := by kernel_rfl
  rw [h]
  rfl

theorem laws_eqFrac_ok (n : Nat) : FunOk P (laws_eqFracF n) :=
  funOk_mk (C := []) (N := 15) (kp := laws_eqFrackp) (c := laws_eqFracc) (n := n) (G := fun x y => laws_eqFrac n x.1 x.2.1) follows (AllOk.mem (trivial : AllOk P ([]))) (by kernel_rfl : P.funcs[223]? = some Go.Proofs.Try.f223) (by kernel_rfl) (by kernel_rfl) (by kernel_rfl)
    (fun x y => laws_eqFrac_eq n x.1 x.2.1) (fun _ _ => map_same (fun _ => rfl) _) (fun _ _ _ _ => rfl)

abbrev laws_eqObssp : List Sp := [.v true (.pair (.pair (.int .i8) (.pair (.int .i8) (.pair (.int .i8) (.pair (.int .i8) (.pair (.int .i8) (.int .i8)))))) (.pair (.pair (.int .i64) (.int .i64)) (.int .i64))), .v true (.pair (.pair (.int .i8) (.pair (.int .i8) (.pair (.int .i8) (.pair (.int .i8) (.pair (.int .i8) (.int .i8)))))) (.pair (.pair (.int .i64) (.int .i64)) (.int .i64)))]
abbrev laws_eqObsbs : List (Bs × Bool) := []
abbrev laws_eqObsrs : List (Bool × List Rp) := [(false, [.v false .bool])]
noncomputable def laws_eqObskp : Keep := { loop := fun id => match id with | _ => ([], []), join := fun id => match id with | _ => none }
noncomputable def laws_eqObsc : Code := bodyOf Go.Proofs.Try.f257
noncomputable def laws_eqObsF (n : Nat) : Fun := { id := 257, sp := laws_eqObssp, bs := laws_eqObsbs, rs := laws_eqObsrs, f := fun x y => laws_eqObs n x.1 x.2.1 }

theorem laws_eqObs_eq (n : Nat) (a0 : ((Int) × ((Int) × ((Int) × ((Int) × ((Int) × (Int)))))) × (((Int) × (Int)) × (Int))) (a1 : ((Int) × ((Int) × ((Int) × ((Int) × ((Int) × (Int)))))) × (((Int) × (Int)) × (Int))) : runBody ([laws_eqInt8A6F n, laws_eqFracF n]) ty 22 n laws_eqObskp laws_eqObsc Go.Proofs.Try.f257.results.toList laws_eqObsrs laws_eqObssp laws_eqObsbs (a0, (a1, ())) () = laws_eqObs n a0 a1 := by
  have h : runBody ([laws_eqInt8A6F n, laws_eqFracF n]) ty 22 n laws_eqObskp laws_eqObsc Go.Proofs.Try.f257.results.toList laws_eqObsrs laws_eqObssp laws_eqObsbs (a0, (a1, ())) () = laws_eqObs_t n a0 a1 := by kernel_rfl
  rw [h]
  rfl

theorem laws_eqObs_ok (n : Nat) : FunOk P (laws_eqObsF n) :=
  funOk_mk (C := [laws_eqInt8A6F n, laws_eqFracF n]) (N := 22) (kp := laws_eqObskp) (c := laws_eqObsc) (n := n) (G := fun x y => laws_eqObs n x.1 x.2.1) follows (AllOk.mem (⟨laws_eqInt8A6_ok n, ⟨laws_eqFrac_ok n, trivial⟩⟩ : AllOk P ([laws_eqInt8A6F n, laws_eqFracF n]))) (by kernel_rfl : P.funcs[257]? = some Go.Proofs.Try.f257) (by kernel_rfl) (by kernel_rfl) (by kernel_rfl)
    (fun x y => laws_eqObs_eq n x.1 x.2.1) (fun _ _ => map_same (fun _ => rfl) _) (fun _ _ _ _ => rfl)

abbrev laws_eqObsSsp : List Sp := [.v false (.list (.pair (.pair (.int .i8) (.pair (.int .i8) (.pair (.int .i8) (.pair (.int .i8) (.pair (.int .i8) (.int .i8)))))) (.pair (.pair (.int .i64) (.int .i64)) (.int .i64)))), .v false (.list (.pair (.pair (.int .i8) (.pair (.int .i8) (.pair (.int .i8) (.pair (.int .i8) (.pair (.int .i8) (.int .i8)))))) (.pair (.pair (.int .i64) (.int .i64)) (.int .i64))))]
abbrev laws_eqObsSbs : List (Bs × Bool) := []
abbrev laws_eqObsSrs : List (Bool × List Rp) := [(false, [.v false .bool])]
noncomputable def laws_eqObsSkp : Keep := { loop := fun id => match id with | 4 => ([5, 1, 0], []) | _ => ([], []), join := fun id => match id with | _ => none }
noncomputable def laws_eqObsSc : Code := bodyOf Go.Proofs.Try.f222
noncomputable def laws_eqObsSF (n : Nat) : Fun := { id := 222, sp := laws_eqObsSsp, bs := laws_eqObsSbs, rs := laws_eqObsSrs, f := fun x y => laws_eqObsS n x.1 x.2.1 }

theorem laws_eqObsS_l4_eq (n : Nat) : ∀ (k : Nat) (v5 : Int) (v1 : List (((Int) × ((Int) × ((Int) × ((Int) × ((Int) × (Int)))))) × (((Int) × (Int)) × (Int)))) (v0 : List (((Int) × ((Int) × ((Int) × ((Int) × ((Int) × (Int)))))) × (((Int) × (Int)) × (Int)))), iter (interp ([laws_eqObsF n]) ty 27 0 n laws_eqObsSkp (codeAt laws_eqObsSc [1, 1, 0, 1, 0, 0])) (canon 0 (laws_eqObsSkp.loop 4)) (kAt ([laws_eqObsF n]) ty 27 0 n laws_eqObsSkp laws_eqObsSc [1, 1, 0, 1, 0] [] (ending ty 0 Go.Proofs.Try.f222.results.toList laws_eqObsSrs laws_eqObsSbs)) k { env := [(5, .one (.sc (.int .i64 v5))), (1, .one (.list true (.pair (.pair (.int .i8) (.pair (.int .i8) (.pair (.int .i8) (.pair (.int .i8) (.pair (.int .i8) (.int .i8)))))) (.pair (.pair (.int .i64) (.int .i64)) (.int .i64))) v1)), (0, .one (.list true (.pair (.pair (.int .i8) (.pair (.int .i8) (.pair (.int .i8) (.pair (.int .i8) (.pair (.int .i8) (.int .i8)))))) (.pair (.pair (.int .i64) (.int .i64)) (.int .i64))) v0))], bx := [], nx := 0 } = laws_eqObsS_l4 n k v5 v1 v0
  | 0, _, _, _ => by kernel_rfl
  | k + 1, v5, v1, v0 => by
    have h : iter (interp ([laws_eqObsF n]) ty 27 0 n laws_eqObsSkp (codeAt laws_eqObsSc [1, 1, 0, 1, 0, 0])) (canon 0 (laws_eqObsSkp.loop 4)) (kAt ([laws_eqObsF n]) ty 27 0 n laws_eqObsSkp laws_eqObsSc [1, 1, 0, 1, 0] [] (ending ty 0 Go.Proofs.Try.f222.results.toList laws_eqObsSrs laws_eqObsSbs)) (k + 1) { env := [(5, .one (.sc (.int .i64 v5))), (1, .one (.list true (.pair (.pair (.int .i8) (.pair (.int .i8) (.pair (.int .i8) (.pair (.int .i8) (.pair (.int .i8) (.int .i8)))))) (.pair (.pair (.int .i64) (.int .i64)) (.int .i64))) v1)), (0, .one (.list true (.pair (.pair (.int .i8) (.pair (.int .i8) (.pair (.int .i8) (.pair (.int .i8) (.pair (.int .i8) (.int .i8)))))) (.pair (.pair (.int .i64) (.int .i64)) (.int .i64))) v0))], bx := [], nx := 0 } = laws_eqObsS_t4 n (fun v5 v1 v0 => iter (interp ([laws_eqObsF n]) ty 27 0 n laws_eqObsSkp (codeAt laws_eqObsSc [1, 1, 0, 1, 0, 0])) (canon 0 (laws_eqObsSkp.loop 4)) (kAt ([laws_eqObsF n]) ty 27 0 n laws_eqObsSkp laws_eqObsSc [1, 1, 0, 1, 0] [] (ending ty 0 Go.Proofs.Try.f222.results.toList laws_eqObsSrs laws_eqObsSbs)) k { env := [(5, .one (.sc (.int .i64 v5))), (1, .one (.list true (.pair (.pair (.int .i8) (.pair (.int .i8) (.pair (.int .i8) (.pair (.int .i8) (.pair (.int .i8) (.int .i8)))))) (.pair (.pair (.int .i64) (.int .i64)) (.int .i64))) v1)), (0, .one (.list true (.pair (.pair (.int .i8) (.pair (.int .i8) (.pair (.int .i8) (.pair (.int .i8) (.pair (.int .i8) (.int .i8)))))) (.pair (.pair (.int .i64) (.int .i64)) (.int .i64))) v0))], bx := [], nx := 0 }) v5 v1 v0 := by kernel_rfl
    rw [h]
    have e := congrArg (fun g => laws_eqObsS_t4 n g v5 v1 v0) (funext fun v5 => funext fun v1 => funext fun v0 => laws_eqObsS_l4_eq n k v5 v1 v0)
    exact e

theorem laws_eqObsS_eq (n : Nat) (a0 : List (((Int) × ((Int) × ((Int) × ((Int) × ((Int) × (Int)))))) × (((Int) × (Int)) × (Int)))) (a1 : List (((Int) × ((Int) × ((Int) × ((Int) × ((Int) × (Int)))))) × (((Int) × (Int)) × (Int)))) : runBody ([laws_eqObsF n]) ty 27 n laws_eqObsSkp laws_eqObsSc Go.Proofs.Try.f222.results.toList laws_eqObsSrs laws_eqObsSsp laws_eqObsSbs (a0, (a1, ())) () = laws_eqObsS n a0 a1 := by
  have h : runBody ([laws_eqObsF n]) ty 27 n laws_eqObsSkp laws_eqObsSc Go.Proofs.Try.f222.results.toList laws_eqObsSrs laws_eqObsSsp laws_eqObsSbs (a0, (a1, ())) () = laws_eqObsS_t n (fun k v5 v1 v0 => iter (interp ([laws_eqObsF n]) ty 27 0 n laws_eqObsSkp (codeAt laws_eqObsSc [1, 1, 0, 1, 0, 0])) (canon 0 (laws_eqObsSkp.loop 4)) (kAt ([laws_eqObsF n]) ty 27 0 n laws_eqObsSkp laws_eqObsSc [1, 1, 0, 1, 0] [] (ending ty 0 Go.Proofs.Try.f222.results.toList laws_eqObsSrs laws_eqObsSbs)) k { env := [(5, .one (.sc (.int .i64 v5))), (1, .one (.list true (.pair (.pair (.int .i8) (.pair (.int .i8) (.pair (.int .i8) (.pair (.int .i8) (.pair (.int .i8) (.int .i8)))))) (.pair (.pair (.int .i64) (.int .i64)) (.int .i64))) v1)), (0, .one (.list true (.pair (.pair (.int .i8) (.pair (.int .i8) (.pair (.int .i8) (.pair (.int .i8) (.pair (.int .i8) (.int .i8)))))) (.pair (.pair (.int .i64) (.int .i64)) (.int .i64))) v0))], bx := [], nx := 0 }) a0 a1 := by kernel_rfl
  rw [h]
  have e := congrArg (fun h4 => laws_eqObsS_t n h4 a0 a1) (funext fun k => funext fun v5 => funext fun v1 => funext fun v0 => laws_eqObsS_l4_eq n k v5 v1 v0)
  exact e

theorem laws_eqObsS_ok (n : Nat) : FunOk P (laws_eqObsSF n) :=
  funOk_mk (C := [laws_eqObsF n]) (N := 27) (kp := laws_eqObsSkp) (c := laws_eqObsSc) (n := n) (G := fun x y => laws_eqObsS n x.1 x.2.1) follows (AllOk.mem (⟨laws_eqObs_ok n, trivial⟩ : AllOk P ([laws_eqObsF n]))) (by kernel_rfl : P.funcs[222]? = some Go.Proofs.Try.f222) (by kernel_rfl) (by kernel_rfl) (by kernel_rfl)
    (fun x y => laws_eqObsS_eq n x.1 x.2.1) (fun _ _ => map_same (fun _ => rfl) _) (fun _ _ _ _ => rfl)

abbrev laws_eqTablesp : List Sp := [.v true (.pair (.int .i64) (.pair (.list (.pair (.pair (.int .i8) (.pair (.int .i8) (.pair (.int .i8) (.pair (.int .i8) (.pair (.int .i8) (.int .i8)))))) (.pair (.pair (.int .i64) (.int .i64)) (.int .i64)))) (.pair .bool (.pair (.int .i64) (.int .i64))))), .v true (.pair (.int .i64) (.pair (.list (.pair (.pair (.int .i8) (.pair (.int .i8) (.pair (.int .i8) (.pair (.int .i8) (.pair (.int .i8) (.int .i8)))))) (.pair (.pair (.int .i64) (.int .i64)) (.int .i64)))) (.pair .bool (.pair (.int .i64) (.int .i64)))))]
abbrev laws_eqTablebs : List (Bs × Bool) := []
abbrev laws_eqTablers : List (Bool × List Rp) := [(false, [.v false .bool])]
noncomputable def laws_eqTablekp : Keep := { loop := fun id => match id with | _ => ([], []), join := fun id => match id with | _ => none }
noncomputable def laws_eqTablec : Code := bodyOf Go.Proofs.Try.f100
noncomputable def laws_eqTableF (n : Nat) : Fun := { id := 100, sp := laws_eqTablesp, bs := laws_eqTablebs, rs := laws_eqTablers, f := fun x y => laws_eqTable n x.1 x.2.1 }

theorem laws_eqTable_eq (n : Nat) (a0 : (Int) × ((List (((Int) × ((Int) × ((Int) × ((Int) × ((Int) × (Int)))))) × (((Int) × (Int)) × (Int)))) × ((Bool) × ((Int) × (Int))))) (a1 : (Int) × ((List (((Int) × ((Int) × ((Int) × ((Int) × ((Int) × (Int)))))) × (((Int) × (Int)) × (Int)))) × ((Bool) × ((Int) × (Int))))) : runBody ([laws_eqObsSF n, laws_eqFracF n]) ty 27 n laws_eqTablekp laws_eqTablec Go.Proofs.Try.f100.results.toList laws_eqTablers laws_eqTablesp laws_eqTablebs (a0, (a1, ())) () = laws_eqTable n a0 a1 := by
  have h : runBody ([laws_eqObsSF n, laws_eqFracF n]) ty 27 n laws_eqTablekp laws_eqTablec Go.Proofs.Try.f100.results.toList laws_eqTablers laws_eqTablesp laws_eqTablebs (a0, (a1, ())) () = laws_eqTable_t n a0 a1 := by kernel_rfl
  rw [h]
  rfl

theorem laws_eqTable_ok (n : Nat) : FunOk P (laws_eqTableF n) :=
  funOk_mk (C := [laws_eqObsSF n, laws_eqFracF n]) (N := 27) (kp := laws_eqTablekp) (c := laws_eqTablec) (n := n) (G := fun x y => laws_eqTable n x.1 x.2.1) follows (AllOk.mem (⟨laws_eqObsS_ok n, ⟨laws_eqFrac_ok n, trivial⟩⟩ : AllOk P ([laws_eqObsSF n, laws_eqFracF n]))) (by kernel_rfl : P.funcs[100]? = some Go.Proofs.Try.f100) (by kernel_rfl) (by kernel_rfl) (by kernel_rfl)
    (fun x y => laws_eqTable_eq n x.1 x.2.1) (fun _ _ => map_same (fun _ => rfl) _) (fun _ _ _ _ => rfl)

abbrev laws_eqFracSsp : List Sp := [.v false (.list (.pair (.int .i64) (.int .i64))), .v false (.list (.pair (.int .i64) (.int .i64)))]
abbrev laws_eqFracSbs : List (Bs × Bool) := []
abbrev laws_eqFracSrs : List (Bool × List Rp) := [(false, [.v false .bool])]
noncomputable def laws_eqFracSkp : Keep := { loop := fun id => match id with | 4 => ([5, 1, 0], []) | _ => ([], []), join := fun id => match id with | _ => none }
noncomputable def laws_eqFracSc : Code := bodyOf Go.Proofs.Try.f108
noncomputable def laws_eqFracSF (n : Nat) : Fun := { id := 108, sp := laws_eqFracSsp, bs := laws_eqFracSbs, rs := laws_eqFracSrs, f := fun x y => laws_eqFracS n x.1 x.2.1 }

theorem laws_eqFracS_l4_eq (n : Nat) : ∀ (k : Nat) (v5 : Int) (v1 : List ((Int) × (Int))) (v0 : List ((Int) × (Int))), iter (interp ([laws_eqFracF n]) ty 27 0 n laws_eqFracSkp (codeAt laws_eqFracSc [1, 1, 0, 1, 0, 0])) (canon 0 (laws_eqFracSkp.loop 4)) (kAt ([laws_eqFracF n]) ty 27 0 n laws_eqFracSkp laws_eqFracSc [1, 1, 0, 1, 0] [] (ending ty 0 Go.Proofs.Try.f108.results.toList laws_eqFracSrs laws_eqFracSbs)) k { env := [(5, .one (.sc (.int .i64 v5))), (1, .one (.list true (.pair (.int .i64) (.int .i64)) v1)), (0, .one (.list true (.pair (.int .i64) (.int .i64)) v0))], bx := [], nx := 0 } = laws_eqFracS_l4 n k v5 v1 v0
  | 0, _, _, _ => by kernel_rfl
  | k + 1, v5, v1, v0 => by
    have h : iter (interp ([laws_eqFracF n]) ty 27 0 n laws_eqFracSkp (codeAt laws_eqFracSc [1, 1, 0, 1, 0, 0])) (canon 0 (laws_eqFracSkp.loop 4)) (kAt ([laws_eqFracF n]) ty 27 0 n laws_eqFracSkp laws_eqFracSc [1, 1, 0, 1, 0] [] (ending ty 0 Go.Proofs.Try.f108.results.toList laws_eqFracSrs laws_eqFracSbs)) (k + 1) { env := [(5, .one (.sc (.int .i64 v5))), (1, .one (.list true (.pair (.int .i64) (.int .i64)) v1)), (0, .one (.list true (.pair (.int .i64) (.int .i64)) v0))], bx := [], nx := 0 } = laws_eqFracS_t4 n (fun v5 v1 v0 => iter (interp ([laws_eqFracF n]) ty 27 0 n laws_eqFracSkp (codeAt laws_eqFracSc [1, 1, 0, 1, 0, 0])) (canon 0 (laws_eqFracSkp.loop 4)) (kAt ([laws_eqFracF n]) ty 27 0 n laws_eqFracSkp laws_eqFracSc [1, 1, 0, 1, 0] [] (ending ty 0 Go.Proofs.Try.f108.results.toList laws_eqFracSrs laws_eqFracSbs)) k { env := [(5, .one (.sc (.int .i64 v5))), (1, .one (.list true (.pair (.int .i64) (.int .i64)) v1)), (0, .one (.list true (.pair (.int .i64) (.int .i64)) v0))], bx := [], nx := 0 }) v5 v1 v0 := by kernel_rfl
    rw [h]
    have e := congrArg (fun g => laws_eqFracS_t4 n g v5 v1 v0) (funext fun v5 => funext fun v1 => funext fun v0 => laws_eqFracS_l4_eq n k v5 v1 v0)
    exact e

theorem laws_eqFracS_eq (n : Nat) (a0 : List ((Int) × (Int))) (a1 : List ((Int) × (Int))) : runBody ([laws_eqFracF n]) ty 27 n laws_eqFracSkp laws_eqFracSc Go.Proofs.Try.f108.results.toList laws_eqFracSrs laws_eqFracSsp laws_eqFracSbs (a0, (a1, ())) () = laws_eqFracS n a0 a1 := by
  have h : runBody ([laws_eqFracF n]) ty 27 n laws_eqFracSkp laws_eqFracSc Go.Proofs.Try.f108.results.toList laws_eqFracSrs laws_eqFracSsp laws_eqFracSbs (a0, (a1, ())) () = laws_eqFracS_t n (fun k v5 v1 v0 => iter (interp ([laws_eqFracF n]) ty 27 0 n laws_eqFracSkp (codeAt laws_eqFracSc [1, 1, 0, 1, 0, 0])) (canon 0 (laws_eqFracSkp.loop 4)) (kAt ([laws_eqFracF n]) ty 27 0 n laws_eqFracSkp laws_eqFracSc [1, 1, 0, 1, 0] [] (ending ty 0 Go.Proofs.Try.f108.results.toList laws_eqFracSrs laws_eqFracSbs)) k { env := [(5, .one (.sc (.int .i64 v5))), (1, .one (.list true (.pair (.int .i64) (.int .i64)) v1)), (0, .one (.list true (.pair (.int .i64) (.int .i64)) v0))], bx := [], nx := 0 }) a0 a1 := by kernel_rfl
  rw [h]
  have e := congrArg (fun h4 => laws_eqFracS_t n h4 a0 a1) (funext fun k => funext fun v5 => funext fun v1 => funext fun v0 => laws_eqFracS_l4_eq n k v5 v1 v0)
  exact e

theorem laws_eqFracS_ok (n : Nat) : FunOk P (laws_eqFracSF n) :=
  funOk_mk (C := [laws_eqFracF n]) (N := 27) (kp := laws_eqFracSkp) (c := laws_eqFracSc) (n := n) (G := fun x y => laws_eqFracS n x.1 x.2.1) follows (AllOk.mem (⟨laws_eqFrac_ok n, trivial⟩ : AllOk P ([laws_eqFracF n]))) (by kernel_rfl : P.funcs[108]? = some Go.Proofs.Try.f108) (by kernel_rfl) (by kernel_rfl) (by kernel_rfl)
    (fun x y => laws_eqFracS_eq n x.1 x.2.1) (fun _ _ => map_same (fun _ => rfl) _) (fun _ _ _ _ => rfl)

abbrev laws_eqScalesp : List Sp := [.v true (.pair (.pair (.int .i64) (.int .i64)) (.list (.pair (.int .i64) (.int .i64)))), .v true (.pair (.pair (.int .i64) (.int .i64)) (.list (.pair (.int .i64) (.int .i64))))]
abbrev laws_eqScalebs : List (Bs × Bool) := []
abbrev laws_eqScalers : List (Bool × List Rp) := [(false, [.v false .bool])]
noncomputable def laws_eqScalekp : Keep := { loop := fun id => match id with | _ => ([], []), join := fun id => match id with | _ => none }
noncomputable def laws_eqScalec : Code := bodyOf Go.Proofs.Try.f101
noncomputable def laws_eqScaleF (n : Nat) : Fun := { id := 101, sp := laws_eqScalesp, bs := laws_eqScalebs, rs := laws_eqScalers, f := fun x y => laws_eqScale n x.1 x.2.1 }

theorem laws_eqScale_eq (n : Nat) (a0 : ((Int) × (Int)) × (List ((Int) × (Int)))) (a1 : ((Int) × (Int)) × (List ((Int) × (Int)))) : runBody ([laws_eqFracF n, laws_eqFracSF n]) ty 17 n laws_eqScalekp laws_eqScalec Go.Proofs.Try.f101.results.toList laws_eqScalers laws_eqScalesp laws_eqScalebs (a0, (a1, ())) () = laws_eqScale n a0 a1 := by
  have h : runBody ([laws_eqFracF n, laws_eqFracSF n]) ty 17 n laws_eqScalekp laws_eqScalec Go.Proofs.Try.f101.results.toList laws_eqScalers laws_eqScalesp laws_eqScalebs (a0, (a1, ())) () = laws_eqScale_t n a0 a1 := by kernel_rfl
  rw [h]
  rfl

theorem laws_eqScale_ok (n : Nat) : FunOk P (laws_eqScaleF n) :=
  funOk_mk (C := [laws_eqFracF n, laws_eqFracSF n]) (N := 17) (kp := laws_eqScalekp) (c := laws_eqScalec) (n := n) (G := fun x y => laws_eqScale n x.1 x.2.1) follows (AllOk.mem (⟨laws_eqFrac_ok n, ⟨laws_eqFracS_ok n, trivial⟩⟩ : AllOk P ([laws_eqFracF n, laws_eqFracSF n]))) (by kernel_rfl : P.funcs[101]? = some Go.Proofs.Try.f101) (by kernel_rfl) (by kernel_rfl) (by kernel_rfl)
    (fun x y => laws_eqScale_eq n x.1 x.2.1) (fun _ _ => map_same (fun _ => rfl) _) (fun _ _ _ _ => rfl)

abbrev laws_markFracSsp : List Sp := [.sl 0, .v false (.int .i64)]
abbrev laws_markFracSbs : List (Bs × Bool) := [(.row  (.pair (.int .i64) (.int .i64)), true)]
abbrev laws_markFracSrs : List (Bool × List Rp) := [(false, [.v false (.int .i64)])]
noncomputable def laws_markFracSkp : Keep := { loop := fun id => match id with | 2 => ([5, 0, 1], []) | _ => ([], []), join := fun id => match id with | _ => none }
noncomputable def laws_markFracSc : Code := bodyOf Go.Proofs.Try.f110
noncomputable def laws_markFracSF (n : Nat) : Fun := { id := 110, sp := laws_markFracSsp, bs := laws_markFracSbs, rs := laws_markFracSrs, f := fun x y => laws_markFracS n x.2.1 y.1 }

theorem laws_markFracS_l2_eq (n : Nat) : ∀ (k : Nat) (v5 : Int) (v1 : Int) (b0 : List ((Int) × (Int))), iter (interp ([]) ty 27 1 n laws_markFracSkp (codeAt laws_markFracSc [1, 0, 1, 0, 0])) (canon 1 (laws_markFracSkp.loop 2)) (kAt ([]) ty 27 1 n laws_markFracSkp laws_markFracSc [1, 0, 1, 0] [] (ending ty 1 Go.Proofs.Try.f110.results.toList laws_markFracSrs laws_markFracSbs)) k { env := [(5, .one (.sc (.int .i64 v5))), (0, .one (.slice 0 0 none)), (1, .one (.sc (.int .i64 v1)))], bx := [(0, .row 0 (.pair (.int .i64) (.int .i64)) b0)], nx := 1 } = laws_markFracS_l2 n k v5 v1 b0
  | 0, _, _, _ => by kernel_rfl
  | k + 1, v5, v1, b0 => by
    have h : iter (interp ([]) ty 27 1 n laws_markFracSkp (codeAt laws_markFracSc [1, 0, 1, 0, 0])) (canon 1 (laws_markFracSkp.loop 2)) (kAt ([]) ty 27 1 n laws_markFracSkp laws_markFracSc [1, 0, 1, 0] [] (ending ty 1 Go.Proofs.Try.f110.results.toList laws_markFracSrs laws_markFracSbs)) (k + 1) { env := [(5, .one (.sc (.int .i64 v5))), (0, .one (.slice 0 0 none)), (1, .one (.sc (.int .i64 v1)))], bx := [(0, .row 0 (.pair (.int .i64) (.int .i64)) b0)], nx := 1 } = laws_markFracS_t2 n (fun v5 v1 b0 => iter (interp ([]) ty 27 1 n laws_markFracSkp (codeAt laws_markFracSc [1, 0, 1, 0, 0])) (canon 1 (laws_markFracSkp.loop 2)) (kAt ([]) ty 27 1 n laws_markFracSkp laws_markFracSc [1, 0, 1, 0] [] (ending ty 1 Go.Proofs.Try.f110.results.toList laws_markFracSrs laws_markFracSbs)) k { env := [(5, .one (.sc (.int .i64 v5))), (0, .one (.slice 0 0 none)), (1, .one (.sc (.int .i64 v1)))], bx := [(0, .row 0 (.pair (.int .i64) (.int .i64)) b0)], nx := 1 }) v5 v1 b0 := by kernel_rfl
    rw [h]
    have e := congrArg (fun g => laws_markFracS_t2 n g v5 v1 b0) (funext fun v5 => funext fun v1 => funext fun b0 => laws_markFracS_l2_eq n k v5 v1 b0)
    exact e

theorem laws_markFracS_eq (n : Nat) (a1 : Int) (b0 : List ((Int) × (Int))) : runBody ([]) ty 27 n laws_markFracSkp laws_markFracSc Go.Proofs.Try.f110.results.toList laws_markFracSrs laws_markFracSsp laws_markFracSbs ((), (a1, ())) (b0, ()) = laws_markFracS n a1 b0 := by
  have h : runBody ([]) ty 27 n laws_markFracSkp laws_markFracSc Go.Proofs.Try.f110.results.toList laws_markFracSrs laws_markFracSsp laws_markFracSbs ((), (a1, ())) (b0, ()) = laws_markFracS_t n (fun k v5 v1 b0 => iter (interp ([]) ty 27 1 n laws_markFracSkp (codeAt laws_markFracSc [1, 0, 1, 0, 0])) (canon 1 (laws_markFracSkp.loop 2)) (kAt ([]) ty 27 1 n laws_markFracSkp laws_markFracSc [1, 0, 1, 0] [] (ending ty 1 Go.Proofs.Try.f110.results.toList laws_markFracSrs laws_markFracSbs)) k { env := [(5, .one (.sc (.int .i64 v5))), (0, .one (.slice 0 0 none)), (1, .one (.sc (.int .i64 v1)))], bx := [(0, .row 0 (.pair (.int .i64) (.int .i64)) b0)], nx := 1 }) a1 b0 := by kernel_rfl
  rw [h]
  have e := congrArg (fun h2 => laws_markFracS_t n h2 a1 b0) (funext fun k => funext fun v5 => funext fun v1 => funext fun b0 => laws_markFracS_l2_eq n k v5 v1 b0)
  exact e

theorem laws_markFracS_ok (n : Nat) : FunOk P (laws_markFracSF n) :=
  funOk_mk (C := []) (N := 27) (kp := laws_markFracSkp) (c := laws_markFracSc) (n := n) (G := fun x y => laws_markFracS n x.2.1 y.1) follows (AllOk.mem (trivial : AllOk P ([]))) (by kernel_rfl : P.funcs[110]? = some Go.Proofs.Try.f110) (by kernel_rfl) (by kernel_rfl) (by kernel_rfl)
    (fun x y => laws_markFracS_eq n x.2.1 y.1) (fun _ _ => map_same (fun _ => rfl) _) (fun _ _ _ _ => rfl)

abbrev laws_markScalesp : List Sp := [.rc [.v (.pair (.int .i64) (.int .i64)), .sl 0], .v false (.int .i64)]
abbrev laws_markScalebs : List (Bs × Bool) := [(.row (.pair (.int .i64) (.int .i64)), true)]
abbrev laws_markScalers : List (Bool × List Rp) := [(false, [.v false (.int .i64)])]
noncomputable def laws_markScalekp : Keep := { loop := fun id => match id with | _ => ([], []), join := fun id => match id with | _ => none }
noncomputable def laws_markScalec : Code := bodyOf Go.Proofs.Try.f102
noncomputable def laws_markScaleF (n : Nat) : Fun := { id := 102, sp := laws_markScalesp, bs := laws_markScalebs, rs := laws_markScalers, f := fun x y => laws_markScale n x.1 x.2.1 y.1 }

theorem laws_markScale_eq (n : Nat) (a0 : ((Int) × (Int)) × (Unit)) (a1 : Int) (b0 : List ((Int) × (Int))) : runBody ([laws_markFracSF n]) ty 10 n laws_markScalekp laws_markScalec Go.Proofs.Try.f102.results.toList laws_markScalers laws_markScalesp laws_markScalebs (a0, (a1, ())) (b0, ()) = laws_markScale n a0 a1 b0 := by
  have h : runBody ([laws_markFracSF n]) ty 10 n laws_markScalekp laws_markScalec Go.Proofs.Try.f102.results.toList laws_markScalers laws_markScalesp laws_markScalebs (a0, (a1, ())) (b0, ()) = laws_markScale_t n a0 a1 b0 := by kernel_rfl
  rw [h]
  rfl

theorem laws_markScale_ok (n : Nat) : FunOk P (laws_markScaleF n) :=
  funOk_mk (C := [laws_markFracSF n]) (N := 10) (kp := laws_markScalekp) (c := laws_markScalec) (n := n) (G := fun x y => laws_markScale n x.1 x.2.1 y.1) follows (AllOk.mem (⟨laws_markFracS_ok n, trivial⟩ : AllOk P ([laws_markFracSF n]))) (by kernel_rfl : P.funcs[102]? = some Go.Proofs.Try.f102) (by kernel_rfl) (by kernel_rfl) (by kernel_rfl)
    (fun x y => laws_markScale_eq n x.1 x.2.1 y.1) (fun _ _ => map_same (fun _ => rfl) _) (fun _ _ _ _ => rfl)

abbrev laws_markObsSsp : List Sp := [.sl 0, .v false (.int .i64)]
abbrev laws_markObsSbs : List (Bs × Bool) := [(.row  (.pair (.pair (.int .i8) (.pair (.int .i8) (.pair (.int .i8) (.pair (.int .i8) (.pair (.int .i8) (.int .i8)))))) (.pair (.pair (.int .i64) (.int .i64)) (.int .i64))), true)]
abbrev laws_markObsSrs : List (Bool × List Rp) := [(false, [.v false (.int .i64)])]
noncomputable def laws_markObsSkp : Keep := { loop := fun id => match id with | 2 => ([1, 5, 0], []) | 5 => ([6, 1, 5, 0], []) | _ => ([], []), join := fun id => match id with | _ => none }
noncomputable def laws_markObsSc : Code := bodyOf Go.Proofs.Try.f224
noncomputable def laws_markObsSF (n : Nat) : Fun := { id := 224, sp := laws_markObsSsp, bs := laws_markObsSbs, rs := laws_markObsSrs, f := fun x y => laws_markObsS n x.2.1 y.1 }

theorem laws_markObsS_l5_eq (n : Nat) (G2 : St → Option ((((Int) × (Unit)) × (Unit)) × ((List (((Int) × ((Int) × ((Int) × ((Int) × ((Int) × (Int)))))) × (((Int) × (Int)) × (Int)))) × (Unit)))) : ∀ (k : Nat) (v6 : Int) (v1 : Int) (v5 : Int) (b0 : List (((Int) × ((Int) × ((Int) × ((Int) × ((Int) × (Int)))))) × (((Int) × (Int)) × (Int)))), iter (interp ([]) ty 51 1 n laws_markObsSkp (codeAt laws_markObsSc [1, 0, 1, 0, 0, 1, 0, 0, 0, 1, 0, 0])) (canon 1 (laws_markObsSkp.loop 5)) (kAt ([]) ty 51 1 n laws_markObsSkp laws_markObsSc [1, 0, 1, 0, 0, 1, 0, 0, 0, 1, 0] [G2] (ending ty 1 Go.Proofs.Try.f224.results.toList laws_markObsSrs laws_markObsSbs)) k { env := [(6, .one (.sc (.int .i64 v6))), (1, .one (.sc (.int .i64 v1))), (5, .one (.sc (.int .i64 v5))), (0, .one (.slice 0 0 none))], bx := [(0, .row 0 (.pair (.pair (.int .i8) (.pair (.int .i8) (.pair (.int .i8) (.pair (.int .i8) (.pair (.int .i8) (.int .i8)))))) (.pair (.pair (.int .i64) (.int .i64)) (.int .i64))) b0)], nx := 1 } = laws_markObsS_l5 n (fun v1 v5 b0 => G2 { env := [(1, .one (.sc (.int .i64 v1))), (5, .one (.sc (.int .i64 v5))), (0, .one (.slice 0 0 none))], bx := [(0, .row 0 (.pair (.pair (.int .i8) (.pair (.int .i8) (.pair (.int .i8) (.pair (.int .i8) (.pair (.int .i8) (.int .i8)))))) (.pair (.pair (.int .i64) (.int .i64)) (.int .i64))) b0)], nx := 1 }) k v6 v1 v5 b0
  | 0, _, _, _, _ => by kernel_rfl
  | k + 1, v6, v1, v5, b0 => by
    have h : iter (interp ([]) ty 51 1 n laws_markObsSkp (codeAt laws_markObsSc [1, 0, 1, 0, 0, 1, 0, 0, 0, 1, 0, 0])) (canon 1 (laws_markObsSkp.loop 5)) (kAt ([]) ty 51 1 n laws_markObsSkp laws_markObsSc [1, 0, 1, 0, 0, 1, 0, 0, 0, 1, 0] [G2] (ending ty 1 Go.Proofs.Try.f224.results.toList laws_markObsSrs laws_markObsSbs)) (k + 1) { env := [(6, .one (.sc (.int .i64 v6))), (1, .one (.sc (.int .i64 v1))), (5, .one (.sc (.int .i64 v5))), (0, .one (.slice 0 0 none))], bx := [(0, .row 0 (.pair (.pair (.int .i8) (.pair (.int .i8) (.pair (.int .i8) (.pair (.int .i8) (.pair (.int .i8) (.int .i8)))))) (.pair (.pair (.int .i64) (.int .i64)) (.int .i64))) b0)], nx := 1 } = laws_markObsS_t5 n (fun v1 v5 b0 => G2 { env := [(1, .one (.sc (.int .i64 v1))), (5, .one (.sc (.int .i64 v5))), (0, .one (.slice 0 0 none))], bx := [(0, .row 0 (.pair (.pair (.int .i8) (.pair (.int .i8) (.pair (.int .i8) (.pair (.int .i8) (.pair (.int .i8) (.int .i8)))))) (.pair (.pair (.int .i64) (.int .i64)) (.int .i64))) b0)], nx := 1 }) (fun v6 v1 v5 b0 => iter (interp ([]) ty 51 1 n laws_markObsSkp (codeAt laws_markObsSc [1, 0, 1, 0, 0, 1, 0, 0, 0, 1, 0, 0])) (canon 1 (laws_markObsSkp.loop 5)) (kAt ([]) ty 51 1 n laws_markObsSkp laws_markObsSc [1, 0, 1, 0, 0, 1, 0, 0, 0, 1, 0] [G2] (ending ty 1 Go.Proofs.Try.f224.results.toList laws_markObsSrs laws_markObsSbs)) k { env := [(6, .one (.sc (.int .i64 v6))), (1, .one (.sc (.int .i64 v1))), (5, .one (.sc (.int .i64 v5))), (0, .one (.slice 0 0 none))], bx := [(0, .row 0 (.pair (.pair (.int .i8) (.pair (.int .i8) (.pair (.int .i8) (.pair (.int .i8) (.pair (.int .i8) (.int .i8)))))) (.pair (.pair (.int .i64) (.int .i64)) (.int .i64))) b0)], nx := 1 }) v6 v1 v5 b0 := by kernel_rfl
    rw [h]
    have e := congrArg (fun g => laws_markObsS_t5 n (fun v1 v5 b0 => G2 { env := [(1, .one (.sc (.int .i64 v1))), (5, .one (.sc (.int .i64 v5))), (0, .one (.slice 0 0 none))], bx := [(0, .row 0 (.pair (.pair (.int .i8) (.pair (.int .i8) (.pair (.int .i8) (.pair (.int .i8) (.pair (.int .i8) (.int .i8)))))) (.pair (.pair (.int .i64) (.int .i64)) (.int .i64))) b0)], nx := 1 }) g v6 v1 v5 b0) (funext fun v6 => funext fun v1 => funext fun v5 => funext fun b0 => laws_markObsS_l5_eq n G2 k v6 v1 v5 b0)
    exact e

theorem laws_markObsS_l2_eq (n : Nat) : ∀ (k : Nat) (v1 : Int) (v5 : Int) (b0 : List (((Int) × ((Int) × ((Int) × ((Int) × ((Int) × (Int)))))) × (((Int) × (Int)) × (Int)))), iter (interp ([]) ty 51 1 n laws_markObsSkp (codeAt laws_markObsSc [1, 0, 1, 0, 0])) (canon 1 (laws_markObsSkp.loop 2)) (kAt ([]) ty 51 1 n laws_markObsSkp laws_markObsSc [1, 0, 1, 0] [] (ending ty 1 Go.Proofs.Try.f224.results.toList laws_markObsSrs laws_markObsSbs)) k { env := [(1, .one (.sc (.int .i64 v1))), (5, .one (.sc (.int .i64 v5))), (0, .one (.slice 0 0 none))], bx := [(0, .row 0 (.pair (.pair (.int .i8) (.pair (.int .i8) (.pair (.int .i8) (.pair (.int .i8) (.pair (.int .i8) (.int .i8)))))) (.pair (.pair (.int .i64) (.int .i64)) (.int .i64))) b0)], nx := 1 } = laws_markObsS_l2 n k v1 v5 b0
  | 0, _, _, _ => by kernel_rfl
  | k + 1, v1, v5, b0 => by
    have h : iter (interp ([]) ty 51 1 n laws_markObsSkp (codeAt laws_markObsSc [1, 0, 1, 0, 0])) (canon 1 (laws_markObsSkp.loop 2)) (kAt ([]) ty 51 1 n laws_markObsSkp laws_markObsSc [1, 0, 1, 0] [] (ending ty 1 Go.Proofs.Try.f224.results.toList laws_markObsSrs laws_markObsSbs)) (k + 1) { env := [(1, .one (.sc (.int .i64 v1))), (5, .one (.sc (.int .i64 v5))), (0, .one (.slice 0 0 none))], bx := [(0, .row 0 (.pair (.pair (.int .i8) (.pair (.int .i8) (.pair (.int .i8) (.pair (.int .i8) (.pair (.int .i8) (.int .i8)))))) (.pair (.pair (.int .i64) (.int .i64)) (.int .i64))) b0)], nx := 1 } = laws_markObsS_t2 n (fun k' v6 v1 v5 b0 => iter (interp ([]) ty 51 1 n laws_markObsSkp (codeAt laws_markObsSc [1, 0, 1, 0, 0, 1, 0, 0, 0, 1, 0, 0])) (canon 1 (laws_markObsSkp.loop 5)) (kAt ([]) ty 51 1 n laws_markObsSkp laws_markObsSc [1, 0, 1, 0, 0, 1, 0, 0, 0, 1, 0] [(fun s => iter (interp ([]) ty 51 1 n laws_markObsSkp (codeAt laws_markObsSc [1, 0, 1, 0, 0])) (canon 1 (laws_markObsSkp.loop 2)) (kAt ([]) ty 51 1 n laws_markObsSkp laws_markObsSc [1, 0, 1, 0] [] (ending ty 1 Go.Proofs.Try.f224.results.toList laws_markObsSrs laws_markObsSbs)) k s)] (ending ty 1 Go.Proofs.Try.f224.results.toList laws_markObsSrs laws_markObsSbs)) k' { env := [(6, .one (.sc (.int .i64 v6))), (1, .one (.sc (.int .i64 v1))), (5, .one (.sc (.int .i64 v5))), (0, .one (.slice 0 0 none))], bx := [(0, .row 0 (.pair (.pair (.int .i8) (.pair (.int .i8) (.pair (.int .i8) (.pair (.int .i8) (.pair (.int .i8) (.int .i8)))))) (.pair (.pair (.int .i64) (.int .i64)) (.int .i64))) b0)], nx := 1 }) (fun v1 v5 b0 => iter (interp ([]) ty 51 1 n laws_markObsSkp (codeAt laws_markObsSc [1, 0, 1, 0, 0])) (canon 1 (laws_markObsSkp.loop 2)) (kAt ([]) ty 51 1 n laws_markObsSkp laws_markObsSc [1, 0, 1, 0] [] (ending ty 1 Go.Proofs.Try.f224.results.toList laws_markObsSrs laws_markObsSbs)) k { env := [(1, .one (.sc (.int .i64 v1))), (5, .one (.sc (.int .i64 v5))), (0, .one (.slice 0 0 none))], bx := [(0, .row 0 (.pair (.pair (.int .i8) (.pair (.int .i8) (.pair (.int .i8) (.pair (.int .i8) (.pair (.int .i8) (.int .i8)))))) (.pair (.pair (.int .i64) (.int .i64)) (.int .i64))) b0)], nx := 1 }) v1 v5 b0 := by kernel_rfl
    rw [h]
    have e := congr (congrArg (fun h5 g => laws_markObsS_t2 n h5 g v1 v5 b0) ((funext fun k' => funext fun v6 => funext fun v1 => funext fun v5 => funext fun b0 => laws_markObsS_l5_eq n (fun s => iter (interp ([]) ty 51 1 n laws_markObsSkp (codeAt laws_markObsSc [1, 0, 1, 0, 0])) (canon 1 (laws_markObsSkp.loop 2)) (kAt ([]) ty 51 1 n laws_markObsSkp laws_markObsSc [1, 0, 1, 0] [] (ending ty 1 Go.Proofs.Try.f224.results.toList laws_markObsSrs laws_markObsSbs)) k s) k' v6 v1 v5 b0).trans (congrArg (fun z => laws_markObsS_l5 n z) (funext fun v1 => funext fun v5 => funext fun b0 => laws_markObsS_l2_eq n k v1 v5 b0)))) (funext fun v1 => funext fun v5 => funext fun b0 => laws_markObsS_l2_eq n k v1 v5 b0)
    exact e

theorem laws_markObsS_eq (n : Nat) (a1 : Int) (b0 : List (((Int) × ((Int) × ((Int) × ((Int) × ((Int) × (Int)))))) × (((Int) × (Int)) × (Int)))) : runBody ([]) ty 51 n laws_markObsSkp laws_markObsSc Go.Proofs.Try.f224.results.toList laws_markObsSrs laws_markObsSsp laws_markObsSbs ((), (a1, ())) (b0, ()) = laws_markObsS n a1 b0 := by
  have h : runBody ([]) ty 51 n laws_markObsSkp laws_markObsSc Go.Proofs.Try.f224.results.toList laws_markObsSrs laws_markObsSsp laws_markObsSbs ((), (a1, ())) (b0, ()) = laws_markObsS_t n (fun k v1 v5 b0 => iter (interp ([]) ty 51 1 n laws_markObsSkp (codeAt laws_markObsSc [1, 0, 1, 0, 0])) (canon 1 (laws_markObsSkp.loop 2)) (kAt ([]) ty 51 1 n laws_markObsSkp laws_markObsSc [1, 0, 1, 0] [] (ending ty 1 Go.Proofs.Try.f224.results.toList laws_markObsSrs laws_markObsSbs)) k { env := [(1, .one (.sc (.int .i64 v1))), (5, .one (.sc (.int .i64 v5))), (0, .one (.slice 0 0 none))], bx := [(0, .row 0 (.pair (.pair (.int .i8) (.pair (.int .i8) (.pair (.int .i8) (.pair (.int .i8) (.pair (.int .i8) (.int .i8)))))) (.pair (.pair (.int .i64) (.int .i64)) (.int .i64))) b0)], nx := 1 }) a1 b0 := by kernel_rfl
  rw [h]
  have e := congrArg (fun h2 => laws_markObsS_t n h2 a1 b0) (funext fun k => funext fun v1 => funext fun v5 => funext fun b0 => laws_markObsS_l2_eq n k v1 v5 b0)
  exact e

theorem laws_markObsS_ok (n : Nat) : FunOk P (laws_markObsSF n) :=
  funOk_mk (C := []) (N := 51) (kp := laws_markObsSkp) (c := laws_markObsSc) (n := n) (G := fun x y => laws_markObsS n x.2.1 y.1) follows (AllOk.mem (trivial : AllOk P ([]))) (by kernel_rfl : P.funcs[224]? = some Go.Proofs.Try.f224) (by kernel_rfl) (by kernel_rfl) (by kernel_rfl)
    (fun x y => laws_markObsS_eq n x.2.1 y.1) (fun _ _ => map_same (fun _ => rfl) _) (fun _ _ _ _ => rfl)

abbrev laws_markTablesp : List Sp := [.rc [.v (.int .i64), .sl 0, .v (.pair .bool (.pair (.int .i64) (.int .i64)))], .v false (.int .i64)]
abbrev laws_markTablebs : List (Bs × Bool) := [(.row (.pair (.pair (.int .i8) (.pair (.int .i8) (.pair (.int .i8) (.pair (.int .i8) (.pair (.int .i8) (.int .i8)))))) (.pair (.pair (.int .i64) (.int .i64)) (.int .i64))), true)]
abbrev laws_markTablers : List (Bool × List Rp) := [(false, [.v false (.int .i64)])]
noncomputable def laws_markTablekp : Keep := { loop := fun id => match id with | _ => ([], []), join := fun id => match id with | _ => none }
noncomputable def laws_markTablec : Code := bodyOf Go.Proofs.Try.f103
noncomputable def laws_markTableF (n : Nat) : Fun := { id := 103, sp := laws_markTablesp, bs := laws_markTablebs, rs := laws_markTablers, f := fun x y => laws_markTable n x.1 x.2.1 y.1 }

theorem laws_markTable_eq (n : Nat) (a0 : (Int) × (((Bool) × ((Int) × (Int))) × (Unit))) (a1 : Int) (b0 : List (((Int) × ((Int) × ((Int) × ((Int) × ((Int) × (Int)))))) × (((Int) × (Int)) × (Int)))) : runBody ([laws_markObsSF n]) ty 10 n laws_markTablekp laws_markTablec Go.Proofs.Try.f103.results.toList laws_markTablers laws_markTablesp laws_markTablebs (a0, (a1, ())) (b0, ()) = laws_markTable n a0 a1 b0 := by
  have h : runBody ([laws_markObsSF n]) ty 10 n laws_markTablekp laws_markTablec Go.Proofs.Try.f103.results.toList laws_markTablers laws_markTablesp laws_markTablebs (a0, (a1, ())) (b0, ()) = laws_markTable_t n a0 a1 b0 := by kernel_rfl
  rw [h]
  rfl

theorem laws_markTable_ok (n : Nat) : FunOk P (laws_markTableF n) :=
  funOk_mk (C := [laws_markObsSF n]) (N := 10) (kp := laws_markTablekp) (c := laws_markTablec) (n := n) (G := fun x y => laws_markTable n x.1 x.2.1 y.1) follows (AllOk.mem (⟨laws_markObsS_ok n, trivial⟩ : AllOk P ([laws_markObsSF n]))) (by kernel_rfl : P.funcs[103]? = some Go.Proofs.Try.f103) (by kernel_rfl) (by kernel_rfl) (by kernel_rfl)
    (fun x y => laws_markTable_eq n x.1 x.2.1 y.1) (fun _ _ => map_same (fun _ => rfl) _) (fun _ _ _ _ => rfl)

abbrev laws_heldObsSsp : List Sp := [.v false (.list (.pair (.pair (.int .i8) (.pair (.int .i8) (.pair (.int .i8) (.pair (.int .i8) (.pair (.int .i8) (.int .i8)))))) (.pair (.pair (.int .i64) (.int .i64)) (.int .i64)))), .v false (.int .i64)]
abbrev laws_heldObsSbs : List (Bs × Bool) := []
abbrev laws_heldObsSrs : List (Bool × List Rp) := [(false, [.v false (.int .i64)])]
noncomputable def laws_heldObsSkp : Keep := { loop := fun id => match id with | 2 => ([1, 5, 0], []) | 5 => ([6, 1, 5, 0], []) | _ => ([], []), join := fun id => match id with | _ => none }
noncomputable def laws_heldObsSc : Code := bodyOf Go.Proofs.Try.f225
noncomputable def laws_heldObsSF (n : Nat) : Fun := { id := 225, sp := laws_heldObsSsp, bs := laws_heldObsSbs, rs := laws_heldObsSrs, f := fun x y => laws_heldObsS n x.1 x.2.1 }

theorem laws_heldObsS_l5_eq (n : Nat) (G2 : St → Option ((((Int) × (Unit)) × (Unit)) × (Unit))) : ∀ (k : Nat) (v6 : Int) (v1 : Int) (v5 : Int) (v0 : List (((Int) × ((Int) × ((Int) × ((Int) × ((Int) × (Int)))))) × (((Int) × (Int)) × (Int)))), iter (interp ([]) ty 59 0 n laws_heldObsSkp (codeAt laws_heldObsSc [1, 0, 1, 0, 0, 1, 0, 0, 0, 1, 0, 0])) (canon 0 (laws_heldObsSkp.loop 5)) (kAt ([]) ty 59 0 n laws_heldObsSkp laws_heldObsSc [1, 0, 1, 0, 0, 1, 0, 0, 0, 1, 0] [G2] (ending ty 0 Go.Proofs.Try.f225.results.toList laws_heldObsSrs laws_heldObsSbs)) k { env := [(6, .one (.sc (.int .i64 v6))), (1, .one (.sc (.int .i64 v1))), (5, .one (.sc (.int .i64 v5))), (0, .one (.list true (.pair (.pair (.int .i8) (.pair (.int .i8) (.pair (.int .i8) (.pair (.int .i8) (.pair (.int .i8) (.int .i8)))))) (.pair (.pair (.int .i64) (.int .i64)) (.int .i64))) v0))], bx := [], nx := 0 } = laws_heldObsS_l5 n (fun v1 v5 v0 => G2 { env := [(1, .one (.sc (.int .i64 v1))), (5, .one (.sc (.int .i64 v5))), (0, .one (.list true (.pair (.pair (.int .i8) (.pair (.int .i8) (.pair (.int .i8) (.pair (.int .i8) (.pair (.int .i8) (.int .i8)))))) (.pair (.pair (.int .i64) (.int .i64)) (.int .i64))) v0))], bx := [], nx := 0 }) k v6 v1 v5 v0
  | 0, _, _, _, _ => by kernel_rfl
  | k + 1, v6, v1, v5, v0 => by
    have h : iter (interp ([]) ty 59 0 n laws_heldObsSkp (codeAt laws_heldObsSc [1, 0, 1, 0, 0, 1, 0, 0, 0, 1, 0, 0])) (canon 0 (laws_heldObsSkp.loop 5)) (kAt ([]) ty 59 0 n laws_heldObsSkp laws_heldObsSc [1, 0, 1, 0, 0, 1, 0, 0, 0, 1, 0] [G2] (ending ty 0 Go.Proofs.Try.f225.results.toList laws_heldObsSrs laws_heldObsSbs)) (k + 1) { env := [(6, .one (.sc (.int .i64 v6))), (1, .one (.sc (.int .i64 v1))), (5, .one (.sc (.int .i64 v5))), (0, .one (.list true (.pair (.pair (.int .i8) (.pair (.int .i8) (.pair (.int .i8) (.pair (.int .i8) (.pair (.int .i8) (.int .i8)))))) (.pair (.pair (.int .i64) (.int .i64)) (.int .i64))) v0))], bx := [], nx := 0 } = laws_heldObsS_t5 n (fun v1 v5 v0 => G2 { env := [(1, .one (.sc (.int .i64 v1))), (5, .one (.sc (.int .i64 v5))), (0, .one (.list true (.pair (.pair (.int .i8) (.pair (.int .i8) (.pair (.int .i8) (.pair (.int .i8) (.pair (.int .i8) (.int .i8)))))) (.pair (.pair (.int .i64) (.int .i64)) (.int .i64))) v0))], bx := [], nx := 0 }) (fun v6 v1 v5 v0 => iter (interp ([]) ty 59 0 n laws_heldObsSkp (codeAt laws_heldObsSc [1, 0, 1, 0, 0, 1, 0, 0, 0, 1, 0, 0])) (canon 0 (laws_heldObsSkp.loop 5)) (kAt ([]) ty 59 0 n laws_heldObsSkp laws_heldObsSc [1, 0, 1, 0, 0, 1, 0, 0, 0, 1, 0] [G2] (ending ty 0 Go.Proofs.Try.f225.results.toList laws_heldObsSrs laws_heldObsSbs)) k { env := [(6, .one (.sc (.int .i64 v6))), (1, .one (.sc (.int .i64 v1))), (5, .one (.sc (.int .i64 v5))), (0, .one (.list true (.pair (.pair (.int .i8) (.pair (.int .i8) (.pair (.int .i8) (.pair (.int .i8) (.pair (.int .i8) (.int .i8)))))) (.pair (.pair (.int .i64) (.int .i64)) (.int .i64))) v0))], bx := [], nx := 0 }) v6 v1 v5 v0 := by kernel_rfl
    rw [h]
    have e := congrArg (fun g => laws_heldObsS_t5 n (fun v1 v5 v0 => G2 { env := [(1, .one (.sc (.int .i64 v1))), (5, .one (.sc (.int .i64 v5))), (0, .one (.list true (.pair (.pair (.int .i8) (.pair (.int .i8) (.pair (.int .i8) (.pair (.int .i8) (.pair (.int .i8) (.int .i8)))))) (.pair (.pair (.int .i64) (.int .i64)) (.int .i64))) v0))], bx := [], nx := 0 }) g v6 v1 v5 v0) (funext fun v6 => funext fun v1 => funext fun v5 => funext fun v0 => laws_heldObsS_l5_eq n G2 k v6 v1 v5 v0)
    exact e

theorem laws_heldObsS_l2_eq (n : Nat) : ∀ (k : Nat) (v1 : Int) (v5 : Int) (v0 : List (((Int) × ((Int) × ((Int) × ((Int) × ((Int) × (Int)))))) × (((Int) × (Int)) × (Int)))), iter (interp ([]) ty 59 0 n laws_heldObsSkp (codeAt laws_heldObsSc [1, 0, 1, 0, 0])) (canon 0 (laws_heldObsSkp.loop 2)) (kAt ([]) ty 59 0 n laws_heldObsSkp laws_heldObsSc [1, 0, 1, 0] [] (ending ty 0 Go.Proofs.Try.f225.results.toList laws_heldObsSrs laws_heldObsSbs)) k { env := [(1, .one (.sc (.int .i64 v1))), (5, .one (.sc (.int .i64 v5))), (0, .one (.list true (.pair (.pair (.int .i8) (.pair (.int .i8) (.pair (.int .i8) (.pair (.int .i8) (.pair (.int .i8) (.int .i8)))))) (.pair (.pair (.int .i64) (.int .i64)) (.int .i64))) v0))], bx := [], nx := 0 } = laws_heldObsS_l2 n k v1 v5 v0
  | 0, _, _, _ => by kernel_rfl
  | k + 1, v1, v5, v0 => by
    have h : iter (interp ([]) ty 59 0 n laws_heldObsSkp (codeAt laws_heldObsSc [1, 0, 1, 0, 0])) (canon 0 (laws_heldObsSkp.loop 2)) (kAt ([]) ty 59 0 n laws_heldObsSkp laws_heldObsSc [1, 0, 1, 0] [] (ending ty 0 Go.Proofs.Try.f225.results.toList laws_heldObsSrs laws_heldObsSbs)) (k + 1) { env := [(1, .one (.sc (.int .i64 v1))), (5, .one (.sc (.int .i64 v5))), (0, .one (.list true (.pair (.pair (.int .i8) (.pair (.int .i8) (.pair (.int .i8) (.pair (.int .i8) (.pair (.int .i8) (.int .i8)))))) (.pair (.pair (.int .i64) (.int .i64)) (.int .i64))) v0))], bx := [], nx := 0 } = laws_heldObsS_t2 n (fun k' v6 v1 v5 v0 => iter (interp ([]) ty 59 0 n laws_heldObsSkp (codeAt laws_heldObsSc [1, 0, 1, 0, 0, 1, 0, 0, 0, 1, 0, 0])) (canon 0 (laws_heldObsSkp.loop 5)) (kAt ([]) ty 59 0 n laws_heldObsSkp laws_heldObsSc [1, 0, 1, 0, 0, 1, 0, 0, 0, 1, 0] [(fun s => iter (interp ([]) ty 59 0 n laws_heldObsSkp (codeAt laws_heldObsSc [1, 0, 1, 0, 0])) (canon 0 (laws_heldObsSkp.loop 2)) (kAt ([]) ty 59 0 n laws_heldObsSkp laws_heldObsSc [1, 0, 1, 0] [] (ending ty 0 Go.Proofs.Try.f225.results.toList laws_heldObsSrs laws_heldObsSbs)) k s)] (ending ty 0 Go.Proofs.Try.f225.results.toList laws_heldObsSrs laws_heldObsSbs)) k' { env := [(6, .one (.sc (.int .i64 v6))), (1, .one (.sc (.int .i64 v1))), (5, .one (.sc (.int .i64 v5))), (0, .one (.list true (.pair (.pair (.int .i8) (.pair (.int .i8) (.pair (.int .i8) (.pair (.int .i8) (.pair (.int .i8) (.int .i8)))))) (.pair (.pair (.int .i64) (.int .i64)) (.int .i64))) v0))], bx := [], nx := 0 }) (fun v1 v5 v0 => iter (interp ([]) ty 59 0 n laws_heldObsSkp (codeAt laws_heldObsSc [1, 0, 1, 0, 0])) (canon 0 (laws_heldObsSkp.loop 2)) (kAt ([]) ty 59 0 n laws_heldObsSkp laws_heldObsSc [1, 0, 1, 0] [] (ending ty 0 Go.Proofs.Try.f225.results.toList laws_heldObsSrs laws_heldObsSbs)) k { env := [(1, .one (.sc (.int .i64 v1))), (5, .one (.sc (.int .i64 v5))), (0, .one (.list true (.pair (.pair (.int .i8) (.pair (.int .i8) (.pair (.int .i8) (.pair (.int .i8) (.pair (.int .i8) (.int .i8)))))) (.pair (.pair (.int .i64) (.int .i64)) (.int .i64))) v0))], bx := [], nx := 0 }) v1 v5 v0 := by kernel_rfl
    rw [h]
    have e := congr (congrArg (fun h5 g => laws_heldObsS_t2 n h5 g v1 v5 v0) ((funext fun k' => funext fun v6 => funext fun v1 => funext fun v5 => funext fun v0 => laws_heldObsS_l5_eq n (fun s => iter (interp ([]) ty 59 0 n laws_heldObsSkp (codeAt laws_heldObsSc [1, 0, 1, 0, 0])) (canon 0 (laws_heldObsSkp.loop 2)) (kAt ([]) ty 59 0 n laws_heldObsSkp laws_heldObsSc [1, 0, 1, 0] [] (ending ty 0 Go.Proofs.Try.f225.results.toList laws_heldObsSrs laws_heldObsSbs)) k s) k' v6 v1 v5 v0).trans (congrArg (fun z => laws_heldObsS_l5 n z) (funext fun v1 => funext fun v5 => funext fun v0 => laws_heldObsS_l2_eq n k v1 v5 v0)))) (funext fun v1 => funext fun v5 => funext fun v0 => laws_heldObsS_l2_eq n k v1 v5 v0)
    exact e

theorem laws_heldObsS_eq (n : Nat) (a0 : List (((Int) × ((Int) × ((Int) × ((Int) × ((Int) × (Int)))))) × (((Int) × (Int)) × (Int)))) (a1 : Int) : runBody ([]) ty 59 n laws_heldObsSkp laws_heldObsSc Go.Proofs.Try.f225.results.toList laws_heldObsSrs laws_heldObsSsp laws_heldObsSbs (a0, (a1, ())) () = laws_heldObsS n a0 a1 := by
  have h : runBody ([]) ty 59 n laws_heldObsSkp laws_heldObsSc Go.Proofs.Try.f225.results.toList laws_heldObsSrs laws_heldObsSsp laws_heldObsSbs (a0, (a1, ())) () = laws_heldObsS_t n (fun k v1 v5 v0 => iter (interp ([]) ty 59 0 n laws_heldObsSkp (codeAt laws_heldObsSc [1, 0, 1, 0, 0])) (canon 0 (laws_heldObsSkp.loop 2)) (kAt ([]) ty 59 0 n laws_heldObsSkp laws_heldObsSc [1, 0, 1, 0] [] (ending ty 0 Go.Proofs.Try.f225.results.toList laws_heldObsSrs laws_heldObsSbs)) k { env := [(1, .one (.sc (.int .i64 v1))), (5, .one (.sc (.int .i64 v5))), (0, .one (.list true (.pair (.pair (.int .i8) (.pair (.int .i8) (.pair (.int .i8) (.pair (.int .i8) (.pair (.int .i8) (.int .i8)))))) (.pair (.pair (.int .i64) (.int .i64)) (.int .i64))) v0))], bx := [], nx := 0 }) a0 a1 := by kernel_rfl
  rw [h]
  have e := congrArg (fun h2 => laws_heldObsS_t n h2 a0 a1) (funext fun k => funext fun v1 => funext fun v5 => funext fun v0 => laws_heldObsS_l2_eq n k v1 v5 v0)
  exact e

theorem laws_heldObsS_ok (n : Nat) : FunOk P (laws_heldObsSF n) :=
  funOk_mk (C := []) (N := 59) (kp := laws_heldObsSkp) (c := laws_heldObsSc) (n := n) (G := fun x y => laws_heldObsS n x.1 x.2.1) follows (AllOk.mem (trivial : AllOk P ([]))) (by kernel_rfl : P.funcs[225]? = some Go.Proofs.Try.f225) (by kernel_rfl) (by kernel_rfl) (by kernel_rfl)
    (fun x y => laws_heldObsS_eq n x.1 x.2.1) (fun _ _ => map_same (fun _ => rfl) _) (fun _ _ _ _ => rfl)

abbrev laws_heldTablesp : List Sp := [.v true (.pair (.int .i64) (.pair (.list (.pair (.pair (.int .i8) (.pair (.int .i8) (.pair (.int .i8) (.pair (.int .i8) (.pair (.int .i8) (.int .i8)))))) (.pair (.pair (.int .i64) (.int .i64)) (.int .i64)))) (.pair .bool (.pair (.int .i64) (.int .i64))))), .v false (.int .i64)]
abbrev laws_heldTablebs : List (Bs × Bool) := []
abbrev laws_heldTablers : List (Bool × List Rp) := [(false, [.v false (.int .i64)])]
noncomputable def laws_heldTablekp : Keep := { loop := fun id => match id with | _ => ([], []), join := fun id => match id with | _ => none }
noncomputable def laws_heldTablec : Code := bodyOf Go.Proofs.Try.f104
noncomputable def laws_heldTableF (n : Nat) : Fun := { id := 104, sp := laws_heldTablesp, bs := laws_heldTablebs, rs := laws_heldTablers, f := fun x y => laws_heldTable n x.1 x.2.1 }

theorem laws_heldTable_eq (n : Nat) (a0 : (Int) × ((List (((Int) × ((Int) × ((Int) × ((Int) × ((Int) × (Int)))))) × (((Int) × (Int)) × (Int)))) × ((Bool) × ((Int) × (Int))))) (a1 : Int) : runBody ([laws_heldObsSF n]) ty 12 n laws_heldTablekp laws_heldTablec Go.Proofs.Try.f104.results.toList laws_heldTablers laws_heldTablesp laws_heldTablebs (a0, (a1, ())) () = laws_heldTable n a0 a1 := by
  have h : runBody ([laws_heldObsSF n]) ty 12 n laws_heldTablekp laws_heldTablec Go.Proofs.Try.f104.results.toList laws_heldTablers laws_heldTablesp laws_heldTablebs (a0, (a1, ())) () = laws_heldTable_t n a0 a1 := by kernel_rfl
  rw [h]
  rfl

theorem laws_heldTable_ok (n : Nat) : FunOk P (laws_heldTableF n) :=
  funOk_mk (C := [laws_heldObsSF n]) (N := 12) (kp := laws_heldTablekp) (c := laws_heldTablec) (n := n) (G := fun x y => laws_heldTable n x.1 x.2.1) follows (AllOk.mem (⟨laws_heldObsS_ok n, trivial⟩ : AllOk P ([laws_heldObsSF n]))) (by kernel_rfl : P.funcs[104]? = some Go.Proofs.Try.f104) (by kernel_rfl) (by kernel_rfl) (by kernel_rfl)
    (fun x y => laws_heldTable_eq n x.1 x.2.1) (fun _ _ => map_same (fun _ => rfl) _) (fun _ _ _ _ => rfl)

abbrev laws_FnExactPairTablesp : List Sp := [.v true (.pair (.pair (.int .i64) (.int .i64)) (.list (.pair (.int .i64) (.int .i64))))]
abbrev laws_FnExactPairTablebs : List (Bs × Bool) := []
abbrev laws_FnExactPairTablers : List (Bool × List Rp) := [(false, [.v false .bool])]
noncomputable def laws_FnExactPairTablekp : Keep := { loop := fun id => match id with | _ => ([], []), join := fun id => match id with | _ => none }
noncomputable def laws_FnExactPairTablec : Code := bodyOf Go.Proofs.Try.f11
noncomputable def laws_FnExactPairTableF (n : Nat) : Fun := { id := 11, sp := laws_FnExactPairTablesp, bs := laws_FnExactPairTablebs, rs := laws_FnExactPairTablers, f := fun x y => laws_FnExactPairTable n x.1 }

theorem laws_FnExactPairTable_eq (n : Nat) (a0 : ((Int) × (Int)) × (List ((Int) × (Int)))) : runBody ([laws_szScaleF n, laws_toScaleF n, spec_PairTableF n, impl_PairTableF n, laws_eqTableF n, laws_eqScaleF n, laws_markScaleF n, laws_markTableF n, laws_heldTableF n]) ty 96 n laws_FnExactPairTablekp laws_FnExactPairTablec Go.Proofs.Try.f11.results.toList laws_FnExactPairTablers laws_FnExactPairTablesp laws_FnExactPairTablebs (a0, ()) () = laws_FnExactPairTable n a0 := by
  have h : runBody ([laws_szScaleF n, laws_toScaleF n, spec_PairTableF n, impl_PairTableF n, laws_eqTableF n, laws_eqScaleF n, laws_markScaleF n, laws_markTableF n, laws_heldTableF n]) ty 96 n laws_FnExactPairTablekp laws_FnExactPairTablec Go.Proofs.Try.f11.results.toList laws_FnExactPairTablers laws_FnExactPairTablesp laws_FnExactPairTablebs (a0, ()) () = laws_FnExactPairTable_t n a0 := by kernel_rfl
  rw [h]
  rfl

theorem laws_FnExactPairTable_ok (n : Nat) : FunOk P (laws_FnExactPairTableF n) :=
  funOk_mk (C := [laws_szScaleF n, laws_toScaleF n, spec_PairTableF n, impl_PairTableF n, laws_eqTableF n, laws_eqScaleF n, laws_markScaleF n, laws_markTableF n, laws_heldTableF n]) (N := 96) (kp := laws_FnExactPairTablekp) (c := laws_FnExactPairTablec) (n := n) (G := fun x y => laws_FnExactPairTable n x.1) follows (AllOk.mem (⟨laws_szScale_ok n, ⟨laws_toScale_ok n, ⟨spec_PairTable_ok n, ⟨impl_PairTable_ok n, ⟨laws_eqTable_ok n, ⟨laws_eqScale_ok n, ⟨laws_markScale_ok n, ⟨laws_markTable_ok n, ⟨laws_heldTable_ok n, trivial⟩⟩⟩⟩⟩⟩⟩⟩⟩ : AllOk P ([laws_szScaleF n, laws_toScaleF n, spec_PairTableF n, impl_PairTableF n, laws_eqTableF n, laws_eqScaleF n, laws_markScaleF n, laws_markTableF n, laws_heldTableF n]))) (by kernel_rfl : P.funcs[11]? = some Go.Proofs.Try.f11) (by kernel_rfl) (by kernel_rfl) (by kernel_rfl)
    (fun x y => laws_FnExactPairTable_eq n x.1) (fun _ _ => map_same (fun _ => rfl) _) (fun _ _ _ _ => rfl)

end Go.Abs
