import Derived.Test.YtnjdkojjlfdjhaaDShareEvenly0
import Derived.Test.YtnjdkojjlfdjhaaProg
import Derived.Test.YtnjdkojjlfdjhaaRow
import Derived.KernelRfl
namespace Go.Abs
open Go.Proofs
set_option maxRecDepth 100000
set_option linter.unusedVariables false

noncomputable abbrev P : Program := Try.prog
noncomputable abbrev ty : Nat → Option TyI := tyOf P
def bodyOf (f : Func) : Code := match f.body with | some c => c | none => .skip
theorem follows : P.follows .mixedOrders = true := by kernel_rfl

abbrev laws_szFracSsp : List Sp := [.v false (.list (.pair (.int .i64) (.int .i64))), .v false (.int .i64)]
abbrev laws_szFracSbs : List (Bs × Bool) := []
abbrev laws_szFracSrs : List (Bool × List Rp) := [(false, [.v false (.int .i64)])]
noncomputable def laws_szFracSkp : Keep := { loop := fun id => match id with | _ => [], join := fun id => match id with | _ => none }
noncomputable def laws_szFracSc : Code := bodyOf Go.Proofs.Try.f17
noncomputable def laws_szFracSF (n : Nat) : Fun := { id := 17, sp := laws_szFracSsp, bs := laws_szFracSbs, rs := laws_szFracSrs, f := fun x y => laws_szFracS n x.1 x.2.1 }

theorem laws_szFracS_eq (n : Nat) (a0 : List ((Int) × (Int))) (a1 : Int) : runBody ([]) ty 12 n laws_szFracSkp laws_szFracSc Go.Proofs.Try.f17.results.toList laws_szFracSrs laws_szFracSsp laws_szFracSbs (a0, (a1, ())) () = laws_szFracS n a0 a1 := by
  have h : runBody ([]) ty 12 n laws_szFracSkp laws_szFracSc Go.Proofs.Try.f17.results.toList laws_szFracSrs laws_szFracSsp laws_szFracSbs (a0, (a1, ())) () = laws_szFracS_t n a0 a1 := by kernel_rfl
  rw [h]
  rfl

theorem laws_szFracS_ok (n : Nat) : FunOk P (laws_szFracSF n) :=
  funOk_mk (C := []) (N := 12) (kp := laws_szFracSkp) (c := laws_szFracSc) (n := n) (G := fun x y => laws_szFracS n x.1 x.2.1) follows (AllOk.mem (trivial : AllOk P ([]))) (by kernel_rfl : P.funcs[17]? = some Go.Proofs.Try.f17) (by kernel_rfl) (by kernel_rfl) (by kernel_rfl)
    (fun x y => laws_szFracS_eq n x.1 x.2.1) (fun _ _ => map_same (fun _ => rfl) _) (fun _ _ _ _ => rfl)

abbrev laws_toFracsp : List Sp := [.v true (.pair (.int .i64) (.int .i64))]
abbrev laws_toFracbs : List (Bs × Bool) := []
abbrev laws_toFracrs : List (Bool × List Rp) := [(true, [.v false (.pair (.int .i64) (.int .i64))])]
noncomputable def laws_toFrackp : Keep := { loop := fun id => match id with | _ => [], join := fun id => match id with | _ => none }
noncomputable def laws_toFracc : Code := bodyOf Go.Proofs.Try.f20
noncomputable def laws_toFracF (n : Nat) : Fun := { id := 20, sp := laws_toFracsp, bs := laws_toFracbs, rs := laws_toFracrs, f := fun x y => laws_toFrac n x.1 }

theorem laws_toFrac_eq (n : Nat) (a0 : (Int) × (Int)) : runBody ([]) ty 11 n laws_toFrackp laws_toFracc Go.Proofs.Try.f20.results.toList laws_toFracrs laws_toFracsp laws_toFracbs (a0, ()) () = laws_toFrac n a0 := by
  have h : runBody ([]) ty 11 n laws_toFrackp laws_toFracc Go.Proofs.Try.f20.results.toList laws_toFracrs laws_toFracsp laws_toFracbs (a0, ()) () = laws_toFrac_t n a0 := by kernel_rfl
  rw [h]
  rfl

theorem laws_toFrac_ok (n : Nat) : FunOk P (laws_toFracF n) :=
  funOk_mk (C := []) (N := 11) (kp := laws_toFrackp) (c := laws_toFracc) (n := n) (G := fun x y => laws_toFrac n x.1) follows (AllOk.mem (trivial : AllOk P ([]))) (by kernel_rfl : P.funcs[20]? = some Go.Proofs.Try.f20) (by kernel_rfl) (by kernel_rfl) (by kernel_rfl)
    (fun x y => laws_toFrac_eq n x.1) (fun _ _ => map_same (fun _ => rfl) _) (fun _ _ _ _ => rfl)

abbrev laws_toFracSsp : List Sp := [.v false (.list (.pair (.int .i64) (.int .i64)))]
abbrev laws_toFracSbs : List (Bs × Bool) := []
abbrev laws_toFracSrs : List (Bool × List Rp) := [(false, [.new  (.pair (.int .i64) (.int .i64))])]
noncomputable def laws_toFracSkp : Keep := { loop := fun id => match id with | 3 => [4, 0, 3] | _ => [], join := fun id => match id with | _ => none }
noncomputable def laws_toFracSc : Code := bodyOf Go.Proofs.Try.f19
noncomputable def laws_toFracSF (n : Nat) : Fun := { id := 19, sp := laws_toFracSsp, bs := laws_toFracSbs, rs := laws_toFracSrs, f := fun x y => laws_toFracS n x.1 }

theorem laws_toFracS_l3_eq (n : Nat) : ∀ (k : Nat) (v4 : Int) (v0 : List ((Int) × (Int))) (b0 : List ((Int) × (Int))), iter (interp ([laws_toFracF n]) ty 23 0 n laws_toFracSkp (codeAt laws_toFracSc [1, 1, 0, 1, 0, 0])) (canon 0 (laws_toFracSkp.loop 3)) (kAt ([laws_toFracF n]) ty 23 0 n laws_toFracSkp laws_toFracSc [1, 1, 0, 1, 0] [] (ending ty 0 Go.Proofs.Try.f19.results.toList laws_toFracSrs laws_toFracSbs)) k { env := [(4, .one (.sc (.int .i64 v4))), (0, .one (.list true (.pair (.int .i64) (.int .i64)) v0)), (3, .one (.slice 0 0 none))], bx := [(0, .row 0 (.pair (.int .i64) (.int .i64)) b0)], nx := 1 } = laws_toFracS_l3 n k v4 v0 b0
  | 0, _, _, _ => by kernel_rfl
  | k + 1, v4, v0, b0 => by
    have h : iter (interp ([laws_toFracF n]) ty 23 0 n laws_toFracSkp (codeAt laws_toFracSc [1, 1, 0, 1, 0, 0])) (canon 0 (laws_toFracSkp.loop 3)) (kAt ([laws_toFracF n]) ty 23 0 n laws_toFracSkp laws_toFracSc [1, 1, 0, 1, 0] [] (ending ty 0 Go.Proofs.Try.f19.results.toList laws_toFracSrs laws_toFracSbs)) (k + 1) { env := [(4, .one (.sc (.int .i64 v4))), (0, .one (.list true (.pair (.int .i64) (.int .i64)) v0)), (3, .one (.slice 0 0 none))], bx := [(0, .row 0 (.pair (.int .i64) (.int .i64)) b0)], nx := 1 } = laws_toFracS_t3 n (fun v4 v0 b0 => iter (interp ([laws_toFracF n]) ty 23 0 n laws_toFracSkp (codeAt laws_toFracSc [1, 1, 0, 1, 0, 0])) (canon 0 (laws_toFracSkp.loop 3)) (kAt ([laws_toFracF n]) ty 23 0 n laws_toFracSkp laws_toFracSc [1, 1, 0, 1, 0] [] (ending ty 0 Go.Proofs.Try.f19.results.toList laws_toFracSrs laws_toFracSbs)) k { env := [(4, .one (.sc (.int .i64 v4))), (0, .one (.list true (.pair (.int .i64) (.int .i64)) v0)), (3, .one (.slice 0 0 none))], bx := [(0, .row 0 (.pair (.int .i64) (.int .i64)) b0)], nx := 1 }) v4 v0 b0 := by kernel_rfl
    rw [h]
    have e := congrArg (fun g => laws_toFracS_t3 n g v4 v0 b0) (funext fun v4 => funext fun v0 => funext fun b0 => laws_toFracS_l3_eq n k v4 v0 b0)
    exact e

theorem laws_toFracS_eq (n : Nat) (a0 : List ((Int) × (Int))) : runBody ([laws_toFracF n]) ty 23 n laws_toFracSkp laws_toFracSc Go.Proofs.Try.f19.results.toList laws_toFracSrs laws_toFracSsp laws_toFracSbs (a0, ()) () = laws_toFracS n a0 := by
  have h : runBody ([laws_toFracF n]) ty 23 n laws_toFracSkp laws_toFracSc Go.Proofs.Try.f19.results.toList laws_toFracSrs laws_toFracSsp laws_toFracSbs (a0, ()) () = laws_toFracS_t n (fun k v4 v0 b0 => iter (interp ([laws_toFracF n]) ty 23 0 n laws_toFracSkp (codeAt laws_toFracSc [1, 1, 0, 1, 0, 0])) (canon 0 (laws_toFracSkp.loop 3)) (kAt ([laws_toFracF n]) ty 23 0 n laws_toFracSkp laws_toFracSc [1, 1, 0, 1, 0] [] (ending ty 0 Go.Proofs.Try.f19.results.toList laws_toFracSrs laws_toFracSbs)) k { env := [(4, .one (.sc (.int .i64 v4))), (0, .one (.list true (.pair (.int .i64) (.int .i64)) v0)), (3, .one (.slice 0 0 none))], bx := [(0, .row 0 (.pair (.int .i64) (.int .i64)) b0)], nx := 1 }) a0 := by kernel_rfl
  rw [h]
  have e := congrArg (fun h3 => laws_toFracS_t n h3 a0) (funext fun k => funext fun v4 => funext fun v0 => funext fun b0 => laws_toFracS_l3_eq n k v4 v0 b0)
  exact e

theorem laws_toFracS_ok (n : Nat) : FunOk P (laws_toFracSF n) :=
  funOk_mk (C := [laws_toFracF n]) (N := 23) (kp := laws_toFracSkp) (c := laws_toFracSc) (n := n) (G := fun x y => laws_toFracS n x.1) follows (AllOk.mem (⟨laws_toFrac_ok n, trivial⟩ : AllOk P ([laws_toFracF n]))) (by kernel_rfl : P.funcs[19]? = some Go.Proofs.Try.f19) (by kernel_rfl) (by kernel_rfl) (by kernel_rfl)
    (fun x y => laws_toFracS_eq n x.1) (fun _ _ => map_same (fun _ => rfl) _) (fun _ _ _ _ => rfl)

abbrev spec_l00Insp : List Sp := [.v false (.int .i64), .v false (.int .i64), .v false (.int .i64)]
abbrev spec_l00Inbs : List (Bs × Bool) := []
abbrev spec_l00Inrs : List (Bool × List Rp) := [(false, [.v false .bool])]
noncomputable def spec_l00Inkp : Keep := { loop := fun id => match id with | _ => [], join := fun id => match id with | _ => none }
noncomputable def spec_l00Inc : Code := bodyOf Go.Proofs.Try.f70
noncomputable def spec_l00InF (n : Nat) : Fun := { id := 70, sp := spec_l00Insp, bs := spec_l00Inbs, rs := spec_l00Inrs, f := fun x y => spec_l00In n x.1 x.2.1 x.2.2.1 }

theorem spec_l00In_eq (n : Nat) (a0 : Int) (a1 : Int) (a2 : Int) : runBody ([]) ty 15 n spec_l00Inkp spec_l00Inc Go.Proofs.Try.f70.results.toList spec_l00Inrs spec_l00Insp spec_l00Inbs (a0, (a1, (a2, ()))) () = spec_l00In n a0 a1 a2 := by
  have h : runBody ([]) ty 15 n spec_l00Inkp spec_l00Inc Go.Proofs.Try.f70.results.toList spec_l00Inrs spec_l00Insp spec_l00Inbs (a0, (a1, (a2, ()))) () = spec_l00In_t n a0 a1 a2 := by kernel_rfl
  rw [h]
  rfl

theorem spec_l00In_ok (n : Nat) : FunOk P (spec_l00InF n) :=
  funOk_mk (C := []) (N := 15) (kp := spec_l00Inkp) (c := spec_l00Inc) (n := n) (G := fun x y => spec_l00In n x.1 x.2.1 x.2.2.1) follows (AllOk.mem (trivial : AllOk P ([]))) (by kernel_rfl : P.funcs[70]? = some Go.Proofs.Try.f70) (by kernel_rfl) (by kernel_rfl) (by kernel_rfl)
    (fun x y => spec_l00In_eq n x.1 x.2.1 x.2.2.1) (fun _ _ => map_same (fun _ => rfl) _) (fun _ _ _ _ => rfl)

abbrev spec_l01Abssp : List Sp := [.v false (.int .i64)]
abbrev spec_l01Absbs : List (Bs × Bool) := []
abbrev spec_l01Absrs : List (Bool × List Rp) := [(false, [.v false (.int .i64)])]
noncomputable def spec_l01Abskp : Keep := { loop := fun id => match id with | _ => [], join := fun id => match id with | _ => none }
noncomputable def spec_l01Absc : Code := bodyOf Go.Proofs.Try.f106
noncomputable def spec_l01AbsF (n : Nat) : Fun := { id := 106, sp := spec_l01Abssp, bs := spec_l01Absbs, rs := spec_l01Absrs, f := fun x y => spec_l01Abs n x.1 }

theorem spec_l01Abs_eq (n : Nat) (a0 : Int) : runBody ([]) ty 8 n spec_l01Abskp spec_l01Absc Go.Proofs.Try.f106.results.toList spec_l01Absrs spec_l01Abssp spec_l01Absbs (a0, ()) () = spec_l01Abs n a0 := by
  have h : runBody ([]) ty 8 n spec_l01Abskp spec_l01Absc Go.Proofs.Try.f106.results.toList spec_l01Absrs spec_l01Abssp spec_l01Absbs (a0, ()) () = spec_l01Abs_t n a0 := by kernel_rfl
  rw [h]
  rfl

theorem spec_l01Abs_ok (n : Nat) : FunOk P (spec_l01AbsF n) :=
  funOk_mk (C := []) (N := 8) (kp := spec_l01Abskp) (c := spec_l01Absc) (n := n) (G := fun x y => spec_l01Abs n x.1) follows (AllOk.mem (trivial : AllOk P ([]))) (by kernel_rfl : P.funcs[106]? = some Go.Proofs.Try.f106) (by kernel_rfl) (by kernel_rfl) (by kernel_rfl)
    (fun x y => spec_l01Abs_eq n x.1) (fun _ _ => map_same (fun _ => rfl) _) (fun _ _ _ _ => rfl)

abbrev spec_l01Gcdsp : List Sp := [.v false (.int .i64), .v false (.int .i64)]
abbrev spec_l01Gcdbs : List (Bs × Bool) := []
abbrev spec_l01Gcdrs : List (Bool × List Rp) := [(false, [.v false (.int .i64)])]
noncomputable def spec_l01Gcdkp : Keep := { loop := fun id => match id with | 1 => [1, 0] | _ => [], join := fun id => match id with | _ => none }
noncomputable def spec_l01Gcdc : Code := bodyOf Go.Proofs.Try.f122
noncomputable def spec_l01GcdF (n : Nat) : Fun := { id := 122, sp := spec_l01Gcdsp, bs := spec_l01Gcdbs, rs := spec_l01Gcdrs, f := fun x y => spec_l01Gcd n x.1 x.2.1 }

theorem spec_l01Gcd_l1_eq (n : Nat) : ∀ (k : Nat) (v1 : Int) (v0 : Int), iter (interp ([]) ty 14 0 n spec_l01Gcdkp (codeAt spec_l01Gcdc [1, 0, 0, 0])) (canon 0 (spec_l01Gcdkp.loop 1)) (kAt ([]) ty 14 0 n spec_l01Gcdkp spec_l01Gcdc [1, 0, 0] [] (ending ty 0 Go.Proofs.Try.f122.results.toList spec_l01Gcdrs spec_l01Gcdbs)) k { env := [(1, .one (.sc (.int .i64 v1))), (0, .one (.sc (.int .i64 v0)))], bx := [], nx := 0 } = spec_l01Gcd_l1 n k v1 v0
  | 0, _, _ => by kernel_rfl
  | k + 1, v1, v0 => by
    have h : iter (interp ([]) ty 14 0 n spec_l01Gcdkp (codeAt spec_l01Gcdc [1, 0, 0, 0])) (canon 0 (spec_l01Gcdkp.loop 1)) (kAt ([]) ty 14 0 n spec_l01Gcdkp spec_l01Gcdc [1, 0, 0] [] (ending ty 0 Go.Proofs.Try.f122.results.toList spec_l01Gcdrs spec_l01Gcdbs)) (k + 1) { env := [(1, .one (.sc (.int .i64 v1))), (0, .one (.sc (.int .i64 v0)))], bx := [], nx := 0 } = spec_l01Gcd_t1 n (fun v1 v0 => iter (interp ([]) ty 14 0 n spec_l01Gcdkp (codeAt spec_l01Gcdc [1, 0, 0, 0])) (canon 0 (spec_l01Gcdkp.loop 1)) (kAt ([]) ty 14 0 n spec_l01Gcdkp spec_l01Gcdc [1, 0, 0] [] (ending ty 0 Go.Proofs.Try.f122.results.toList spec_l01Gcdrs spec_l01Gcdbs)) k { env := [(1, .one (.sc (.int .i64 v1))), (0, .one (.sc (.int .i64 v0)))], bx := [], nx := 0 }) v1 v0 := by kernel_rfl
    rw [h]
    have e := congrArg (fun g => spec_l01Gcd_t1 n g v1 v0) (funext fun v1 => funext fun v0 => spec_l01Gcd_l1_eq n k v1 v0)
    exact e

theorem spec_l01Gcd_eq (n : Nat) (a0 : Int) (a1 : Int) : runBody ([]) ty 14 n spec_l01Gcdkp spec_l01Gcdc Go.Proofs.Try.f122.results.toList spec_l01Gcdrs spec_l01Gcdsp spec_l01Gcdbs (a0, (a1, ())) () = spec_l01Gcd n a0 a1 := by
  have h : runBody ([]) ty 14 n spec_l01Gcdkp spec_l01Gcdc Go.Proofs.Try.f122.results.toList spec_l01Gcdrs spec_l01Gcdsp spec_l01Gcdbs (a0, (a1, ())) () = spec_l01Gcd_t n (fun k v1 v0 => iter (interp ([]) ty 14 0 n spec_l01Gcdkp (codeAt spec_l01Gcdc [1, 0, 0, 0])) (canon 0 (spec_l01Gcdkp.loop 1)) (kAt ([]) ty 14 0 n spec_l01Gcdkp spec_l01Gcdc [1, 0, 0] [] (ending ty 0 Go.Proofs.Try.f122.results.toList spec_l01Gcdrs spec_l01Gcdbs)) k { env := [(1, .one (.sc (.int .i64 v1))), (0, .one (.sc (.int .i64 v0)))], bx := [], nx := 0 }) a0 a1 := by kernel_rfl
  rw [h]
  have e := congrArg (fun h1 => spec_l01Gcd_t n h1 a0 a1) (funext fun k => funext fun v1 => funext fun v0 => spec_l01Gcd_l1_eq n k v1 v0)
  exact e

theorem spec_l01Gcd_ok (n : Nat) : FunOk P (spec_l01GcdF n) :=
  funOk_mk (C := []) (N := 14) (kp := spec_l01Gcdkp) (c := spec_l01Gcdc) (n := n) (G := fun x y => spec_l01Gcd n x.1 x.2.1) follows (AllOk.mem (trivial : AllOk P ([]))) (by kernel_rfl : P.funcs[122]? = some Go.Proofs.Try.f122) (by kernel_rfl) (by kernel_rfl) (by kernel_rfl)
    (fun x y => spec_l01Gcd_eq n x.1 x.2.1) (fun _ _ => map_same (fun _ => rfl) _) (fun _ _ _ _ => rfl)

abbrev spec_l01Oksp : List Sp := [.v true (.pair (.int .i64) (.int .i64))]
abbrev spec_l01Okbs : List (Bs × Bool) := []
abbrev spec_l01Okrs : List (Bool × List Rp) := [(false, [.v false .bool])]
noncomputable def spec_l01Okkp : Keep := { loop := fun id => match id with | _ => [], join := fun id => match id with | _ => none }
noncomputable def spec_l01Okc : Code := bodyOf Go.Proofs.Try.f69
noncomputable def spec_l01OkF (n : Nat) : Fun := { id := 69, sp := spec_l01Oksp, bs := spec_l01Okbs, rs := spec_l01Okrs, f := fun x y => spec_l01Ok n x.1 }

theorem spec_l01Ok_eq (n : Nat) (a0 : (Int) × (Int)) : runBody ([spec_l00InF n, spec_l01AbsF n, spec_l01GcdF n]) ty 20 n spec_l01Okkp spec_l01Okc Go.Proofs.Try.f69.results.toList spec_l01Okrs spec_l01Oksp spec_l01Okbs (a0, ()) () = spec_l01Ok n a0 := by
  have h : runBody ([spec_l00InF n, spec_l01AbsF n, spec_l01GcdF n]) ty 20 n spec_l01Okkp spec_l01Okc Go.Proofs.Try.f69.results.toList spec_l01Okrs spec_l01Oksp spec_l01Okbs (a0, ()) () = spec_l01Ok_t n a0 := by kernel_rfl
  rw [h]
  rfl

theorem spec_l01Ok_ok (n : Nat) : FunOk P (spec_l01OkF n) :=
  funOk_mk (C := [spec_l00InF n, spec_l01AbsF n, spec_l01GcdF n]) (N := 20) (kp := spec_l01Okkp) (c := spec_l01Okc) (n := n) (G := fun x y => spec_l01Ok n x.1) follows (AllOk.mem (⟨spec_l00In_ok n, ⟨spec_l01Abs_ok n, ⟨spec_l01Gcd_ok n, trivial⟩⟩⟩ : AllOk P ([spec_l00InF n, spec_l01AbsF n, spec_l01GcdF n]))) (by kernel_rfl : P.funcs[69]? = some Go.Proofs.Try.f69) (by kernel_rfl) (by kernel_rfl) (by kernel_rfl)
    (fun x y => spec_l01Ok_eq n x.1) (fun _ _ => map_same (fun _ => rfl) _) (fun _ _ _ _ => rfl)

abbrev spec_l04Fracssp : List Sp := [.v false (.list (.pair (.int .i64) (.int .i64)))]
abbrev spec_l04Fracsbs : List (Bs × Bool) := []
abbrev spec_l04Fracsrs : List (Bool × List Rp) := [(false, [.v false .bool])]
noncomputable def spec_l04Fracskp : Keep := { loop := fun id => match id with | 2 => [3, 0] | _ => [], join := fun id => match id with | _ => none }
noncomputable def spec_l04Fracsc : Code := bodyOf Go.Proofs.Try.f68
noncomputable def spec_l04FracsF (n : Nat) : Fun := { id := 68, sp := spec_l04Fracssp, bs := spec_l04Fracsbs, rs := spec_l04Fracsrs, f := fun x y => spec_l04Fracs n x.1 }

theorem spec_l04Fracs_l2_eq (n : Nat) : ∀ (k : Nat) (v3 : Int) (v0 : List ((Int) × (Int))), iter (interp ([spec_l01OkF n]) ty 16 0 n spec_l04Fracskp (codeAt spec_l04Fracsc [1, 0, 1, 0, 0])) (canon 0 (spec_l04Fracskp.loop 2)) (kAt ([spec_l01OkF n]) ty 16 0 n spec_l04Fracskp spec_l04Fracsc [1, 0, 1, 0] [] (ending ty 0 Go.Proofs.Try.f68.results.toList spec_l04Fracsrs spec_l04Fracsbs)) k { env := [(3, .one (.sc (.int .i64 v3))), (0, .one (.list true (.pair (.int .i64) (.int .i64)) v0))], bx := [], nx := 0 } = spec_l04Fracs_l2 n k v3 v0
  | 0, _, _ => by kernel_rfl
  | k + 1, v3, v0 => by
    have h : iter (interp ([spec_l01OkF n]) ty 16 0 n spec_l04Fracskp (codeAt spec_l04Fracsc [1, 0, 1, 0, 0])) (canon 0 (spec_l04Fracskp.loop 2)) (kAt ([spec_l01OkF n]) ty 16 0 n spec_l04Fracskp spec_l04Fracsc [1, 0, 1, 0] [] (ending ty 0 Go.Proofs.Try.f68.results.toList spec_l04Fracsrs spec_l04Fracsbs)) (k + 1) { env := [(3, .one (.sc (.int .i64 v3))), (0, .one (.list true (.pair (.int .i64) (.int .i64)) v0))], bx := [], nx := 0 } = spec_l04Fracs_t2 n (fun v3 v0 => iter (interp ([spec_l01OkF n]) ty 16 0 n spec_l04Fracskp (codeAt spec_l04Fracsc [1, 0, 1, 0, 0])) (canon 0 (spec_l04Fracskp.loop 2)) (kAt ([spec_l01OkF n]) ty 16 0 n spec_l04Fracskp spec_l04Fracsc [1, 0, 1, 0] [] (ending ty 0 Go.Proofs.Try.f68.results.toList spec_l04Fracsrs spec_l04Fracsbs)) k { env := [(3, .one (.sc (.int .i64 v3))), (0, .one (.list true (.pair (.int .i64) (.int .i64)) v0))], bx := [], nx := 0 }) v3 v0 := by kernel_rfl
    rw [h]
    have e := congrArg (fun g => spec_l04Fracs_t2 n g v3 v0) (funext fun v3 => funext fun v0 => spec_l04Fracs_l2_eq n k v3 v0)
    exact e

theorem spec_l04Fracs_eq (n : Nat) (a0 : List ((Int) × (Int))) : runBody ([spec_l01OkF n]) ty 16 n spec_l04Fracskp spec_l04Fracsc Go.Proofs.Try.f68.results.toList spec_l04Fracsrs spec_l04Fracssp spec_l04Fracsbs (a0, ()) () = spec_l04Fracs n a0 := by
  have h : runBody ([spec_l01OkF n]) ty 16 n spec_l04Fracskp spec_l04Fracsc Go.Proofs.Try.f68.results.toList spec_l04Fracsrs spec_l04Fracssp spec_l04Fracsbs (a0, ()) () = spec_l04Fracs_t n (fun k v3 v0 => iter (interp ([spec_l01OkF n]) ty 16 0 n spec_l04Fracskp (codeAt spec_l04Fracsc [1, 0, 1, 0, 0])) (canon 0 (spec_l04Fracskp.loop 2)) (kAt ([spec_l01OkF n]) ty 16 0 n spec_l04Fracskp spec_l04Fracsc [1, 0, 1, 0] [] (ending ty 0 Go.Proofs.Try.f68.results.toList spec_l04Fracsrs spec_l04Fracsbs)) k { env := [(3, .one (.sc (.int .i64 v3))), (0, .one (.list true (.pair (.int .i64) (.int .i64)) v0))], bx := [], nx := 0 }) a0 := by kernel_rfl
  rw [h]
  have e := congrArg (fun h2 => spec_l04Fracs_t n h2 a0) (funext fun k => funext fun v3 => funext fun v0 => spec_l04Fracs_l2_eq n k v3 v0)
  exact e

theorem spec_l04Fracs_ok (n : Nat) : FunOk P (spec_l04FracsF n) :=
  funOk_mk (C := [spec_l01OkF n]) (N := 16) (kp := spec_l04Fracskp) (c := spec_l04Fracsc) (n := n) (G := fun x y => spec_l04Fracs n x.1) follows (AllOk.mem (⟨spec_l01Ok_ok n, trivial⟩ : AllOk P ([spec_l01OkF n]))) (by kernel_rfl : P.funcs[68]? = some Go.Proofs.Try.f68) (by kernel_rfl) (by kernel_rfl) (by kernel_rfl)
    (fun x y => spec_l04Fracs_eq n x.1) (fun _ _ => map_same (fun _ => rfl) _) (fun _ _ _ _ => rfl)

abbrev spec_l01Wholesp : List Sp := [.v false (.int .i64)]
abbrev spec_l01Wholebs : List (Bs × Bool) := []
abbrev spec_l01Wholers : List (Bool × List Rp) := [(true, [.v false (.pair (.int .i64) (.int .i64))])]
noncomputable def spec_l01Wholekp : Keep := { loop := fun id => match id with | _ => [], join := fun id => match id with | _ => none }
noncomputable def spec_l01Wholec : Code := bodyOf Go.Proofs.Try.f81
noncomputable def spec_l01WholeF (n : Nat) : Fun := { id := 81, sp := spec_l01Wholesp, bs := spec_l01Wholebs, rs := spec_l01Wholers, f := fun x y => spec_l01Whole n x.1 }

theorem spec_l01Whole_eq (n : Nat) (a0 : Int) : runBody ([]) ty 5 n spec_l01Wholekp spec_l01Wholec Go.Proofs.Try.f81.results.toList spec_l01Wholers spec_l01Wholesp spec_l01Wholebs (a0, ()) () = spec_l01Whole n a0 := by
  have h : runBody ([]) ty 5 n spec_l01Wholekp spec_l01Wholec Go.Proofs.Try.f81.results.toList spec_l01Wholers spec_l01Wholesp spec_l01Wholebs (a0, ()) () = spec_l01Whole_t n a0 := by kernel_rfl
  rw [h]
  rfl

theorem spec_l01Whole_ok (n : Nat) : FunOk P (spec_l01WholeF n) :=
  funOk_mk (C := []) (N := 5) (kp := spec_l01Wholekp) (c := spec_l01Wholec) (n := n) (G := fun x y => spec_l01Whole n x.1) follows (AllOk.mem (trivial : AllOk P ([]))) (by kernel_rfl : P.funcs[81]? = some Go.Proofs.Try.f81) (by kernel_rfl) (by kernel_rfl) (by kernel_rfl)
    (fun x y => spec_l01Whole_eq n x.1) (fun _ _ => map_same (fun _ => rfl) _) (fun _ _ _ _ => rfl)

abbrev spec_l01Reducedsp : List Sp := [.v false (.int .i64), .v false (.int .i64)]
abbrev spec_l01Reducedbs : List (Bs × Bool) := []
abbrev spec_l01Reducedrs : List (Bool × List Rp) := [(true, [.v false (.pair (.int .i64) (.int .i64))]), (false, [.v false (.int .i64)])]
noncomputable def spec_l01Reducedkp : Keep := { loop := fun id => match id with | _ => [], join := fun id => match id with | _ => none }
noncomputable def spec_l01Reducedc : Code := bodyOf Go.Proofs.Try.f128
noncomputable def spec_l01ReducedF (n : Nat) : Fun := { id := 128, sp := spec_l01Reducedsp, bs := spec_l01Reducedbs, rs := spec_l01Reducedrs, f := fun x y => spec_l01Reduced n x.1 x.2.1 }

theorem spec_l01Reduced_eq (n : Nat) (a0 : Int) (a1 : Int) : runBody ([spec_l01AbsF n, spec_l01GcdF n, spec_l01OkF n]) ty 33 n spec_l01Reducedkp spec_l01Reducedc Go.Proofs.Try.f128.results.toList spec_l01Reducedrs spec_l01Reducedsp spec_l01Reducedbs (a0, (a1, ())) () = spec_l01Reduced n a0 a1 := by
  have h : runBody ([spec_l01AbsF n, spec_l01GcdF n, spec_l01OkF n]) ty 33 n spec_l01Reducedkp spec_l01Reducedc Go.Proofs.Try.f128.results.toList spec_l01Reducedrs spec_l01Reducedsp spec_l01Reducedbs (a0, (a1, ())) () = spec_l01Reduced_t n a0 a1 := by kernel_rfl
  rw [h]
  rfl

theorem spec_l01Reduced_ok (n : Nat) : FunOk P (spec_l01ReducedF n) :=
  funOk_mk (C := [spec_l01AbsF n, spec_l01GcdF n, spec_l01OkF n]) (N := 33) (kp := spec_l01Reducedkp) (c := spec_l01Reducedc) (n := n) (G := fun x y => spec_l01Reduced n x.1 x.2.1) follows (AllOk.mem (⟨spec_l01Abs_ok n, ⟨spec_l01Gcd_ok n, ⟨spec_l01Ok_ok n, trivial⟩⟩⟩ : AllOk P ([spec_l01AbsF n, spec_l01GcdF n, spec_l01OkF n]))) (by kernel_rfl : P.funcs[128]? = some Go.Proofs.Try.f128) (by kernel_rfl) (by kernel_rfl) (by kernel_rfl)
    (fun x y => spec_l01Reduced_eq n x.1 x.2.1) (fun _ _ => map_same (fun _ => rfl) _) (fun _ _ _ _ => rfl)

abbrev spec_l01Addsp : List Sp := [.v true (.pair (.int .i64) (.int .i64)), .v true (.pair (.int .i64) (.int .i64))]
abbrev spec_l01Addbs : List (Bs × Bool) := []
abbrev spec_l01Addrs : List (Bool × List Rp) := [(true, [.v false (.pair (.int .i64) (.int .i64))]), (false, [.v false (.int .i64)])]
noncomputable def spec_l01Addkp : Keep := { loop := fun id => match id with | _ => [], join := fun id => match id with | _ => none }
noncomputable def spec_l01Addc : Code := bodyOf Go.Proofs.Try.f126
noncomputable def spec_l01AddF (n : Nat) : Fun := { id := 126, sp := spec_l01Addsp, bs := spec_l01Addbs, rs := spec_l01Addrs, f := fun x y => spec_l01Add n x.1 x.2.1 }

theorem spec_l01Add_eq (n : Nat) (a0 : (Int) × (Int)) (a1 : (Int) × (Int)) : runBody ([spec_l01ReducedF n]) ty 25 n spec_l01Addkp spec_l01Addc Go.Proofs.Try.f126.results.toList spec_l01Addrs spec_l01Addsp spec_l01Addbs (a0, (a1, ())) () = spec_l01Add n a0 a1 := by
  have h : runBody ([spec_l01ReducedF n]) ty 25 n spec_l01Addkp spec_l01Addc Go.Proofs.Try.f126.results.toList spec_l01Addrs spec_l01Addsp spec_l01Addbs (a0, (a1, ())) () = spec_l01Add_t n a0 a1 := by kernel_rfl
  rw [h]
  rfl

theorem spec_l01Add_ok (n : Nat) : FunOk P (spec_l01AddF n) :=
  funOk_mk (C := [spec_l01ReducedF n]) (N := 25) (kp := spec_l01Addkp) (c := spec_l01Addc) (n := n) (G := fun x y => spec_l01Add n x.1 x.2.1) follows (AllOk.mem (⟨spec_l01Reduced_ok n, trivial⟩ : AllOk P ([spec_l01ReducedF n]))) (by kernel_rfl : P.funcs[126]? = some Go.Proofs.Try.f126) (by kernel_rfl) (by kernel_rfl) (by kernel_rfl)
    (fun x y => spec_l01Add_eq n x.1 x.2.1) (fun _ _ => map_same (fun _ => rfl) _) (fun _ _ _ _ => rfl)

abbrev spec_l01Sumsp : List Sp := [.v false (.list (.pair (.int .i64) (.int .i64)))]
abbrev spec_l01Sumbs : List (Bs × Bool) := []
abbrev spec_l01Sumrs : List (Bool × List Rp) := [(true, [.v false (.pair (.int .i64) (.int .i64))]), (false, [.v false (.int .i64)])]
noncomputable def spec_l01Sumkp : Keep := { loop := fun id => match id with | 3 => [2, 5, 4, 0] | _ => [], join := fun id => match id with | _ => none }
noncomputable def spec_l01Sumc : Code := bodyOf Go.Proofs.Try.f78
noncomputable def spec_l01SumF (n : Nat) : Fun := { id := 78, sp := spec_l01Sumsp, bs := spec_l01Sumbs, rs := spec_l01Sumrs, f := fun x y => spec_l01Sum n x.1 }

theorem spec_l01Sum_l3_eq (n : Nat) : ∀ (k : Nat) (v5 : Int) (v0 : List ((Int) × (Int))) (b0_0 : Int) (b0_1 : Int) (b1_0 : Int) (b1_1 : Int), iter (interp ([spec_l01WholeF n, spec_l01AddF n]) ty 30 0 n spec_l01Sumkp (codeAt spec_l01Sumc [1, 1, 0, 1, 0, 0])) (canon 0 (spec_l01Sumkp.loop 3)) (kAt ([spec_l01WholeF n, spec_l01AddF n]) ty 30 0 n spec_l01Sumkp spec_l01Sumc [1, 1, 0, 1, 0] [] (ending ty 0 Go.Proofs.Try.f78.results.toList spec_l01Sumrs spec_l01Sumbs)) k { env := [(2, .one (.ref 0 0 0 0 0 0)), (5, .one (.sc (.int .i64 v5))), (4, .one (.ref 1 0 0 0 0 0)), (0, .one (.list true (.pair (.int .i64) (.int .i64)) v0))], bx := [(0, .var 34 [.sc (.int .i64 b0_0), .sc (.int .i64 b0_1)]), (1, .var 34 [.sc (.int .i64 b1_0), .sc (.int .i64 b1_1)])], nx := 2 } = spec_l01Sum_l3 n k v5 v0 b0_0 b0_1 b1_0 b1_1
  | 0, _, _, _, _, _, _ => by kernel_rfl
  | k + 1, v5, v0, b0_0, b0_1, b1_0, b1_1 => by
    have h : iter (interp ([spec_l01WholeF n, spec_l01AddF n]) ty 30 0 n spec_l01Sumkp (codeAt spec_l01Sumc [1, 1, 0, 1, 0, 0])) (canon 0 (spec_l01Sumkp.loop 3)) (kAt ([spec_l01WholeF n, spec_l01AddF n]) ty 30 0 n spec_l01Sumkp spec_l01Sumc [1, 1, 0, 1, 0] [] (ending ty 0 Go.Proofs.Try.f78.results.toList spec_l01Sumrs spec_l01Sumbs)) (k + 1) { env := [(2, .one (.ref 0 0 0 0 0 0)), (5, .one (.sc (.int .i64 v5))), (4, .one (.ref 1 0 0 0 0 0)), (0, .one (.list true (.pair (.int .i64) (.int .i64)) v0))], bx := [(0, .var 34 [.sc (.int .i64 b0_0), .sc (.int .i64 b0_1)]), (1, .var 34 [.sc (.int .i64 b1_0), .sc (.int .i64 b1_1)])], nx := 2 } = spec_l01Sum_t3 n (fun v5 v0 b0_0 b0_1 b1_0 b1_1 => iter (interp ([spec_l01WholeF n, spec_l01AddF n]) ty 30 0 n spec_l01Sumkp (codeAt spec_l01Sumc [1, 1, 0, 1, 0, 0])) (canon 0 (spec_l01Sumkp.loop 3)) (kAt ([spec_l01WholeF n, spec_l01AddF n]) ty 30 0 n spec_l01Sumkp spec_l01Sumc [1, 1, 0, 1, 0] [] (ending ty 0 Go.Proofs.Try.f78.results.toList spec_l01Sumrs spec_l01Sumbs)) k { env := [(2, .one (.ref 0 0 0 0 0 0)), (5, .one (.sc (.int .i64 v5))), (4, .one (.ref 1 0 0 0 0 0)), (0, .one (.list true (.pair (.int .i64) (.int .i64)) v0))], bx := [(0, .var 34 [.sc (.int .i64 b0_0), .sc (.int .i64 b0_1)]), (1, .var 34 [.sc (.int .i64 b1_0), .sc (.int .i64 b1_1)])], nx := 2 }) v5 v0 b0_0 b0_1 b1_0 b1_1 := by kernel_rfl
    rw [h]
    have e := congrArg (fun g => spec_l01Sum_t3 n g v5 v0 b0_0 b0_1 b1_0 b1_1) (funext fun v5 => funext fun v0 => funext fun b0_0 => funext fun b0_1 => funext fun b1_0 => funext fun b1_1 => spec_l01Sum_l3_eq n k v5 v0 b0_0 b0_1 b1_0 b1_1)
    exact e

theorem spec_l01Sum_eq (n : Nat) (a0 : List ((Int) × (Int))) : runBody ([spec_l01WholeF n, spec_l01AddF n]) ty 30 n spec_l01Sumkp spec_l01Sumc Go.Proofs.Try.f78.results.toList spec_l01Sumrs spec_l01Sumsp spec_l01Sumbs (a0, ()) () = spec_l01Sum n a0 := by
  have h : runBody ([spec_l01WholeF n, spec_l01AddF n]) ty 30 n spec_l01Sumkp spec_l01Sumc Go.Proofs.Try.f78.results.toList spec_l01Sumrs spec_l01Sumsp spec_l01Sumbs (a0, ()) () = spec_l01Sum_t n (fun k v5 v0 b0_0 b0_1 b1_0 b1_1 => iter (interp ([spec_l01WholeF n, spec_l01AddF n]) ty 30 0 n spec_l01Sumkp (codeAt spec_l01Sumc [1, 1, 0, 1, 0, 0])) (canon 0 (spec_l01Sumkp.loop 3)) (kAt ([spec_l01WholeF n, spec_l01AddF n]) ty 30 0 n spec_l01Sumkp spec_l01Sumc [1, 1, 0, 1, 0] [] (ending ty 0 Go.Proofs.Try.f78.results.toList spec_l01Sumrs spec_l01Sumbs)) k { env := [(2, .one (.ref 0 0 0 0 0 0)), (5, .one (.sc (.int .i64 v5))), (4, .one (.ref 1 0 0 0 0 0)), (0, .one (.list true (.pair (.int .i64) (.int .i64)) v0))], bx := [(0, .var 34 [.sc (.int .i64 b0_0), .sc (.int .i64 b0_1)]), (1, .var 34 [.sc (.int .i64 b1_0), .sc (.int .i64 b1_1)])], nx := 2 }) a0 := by kernel_rfl
  rw [h]
  have e := congrArg (fun h3 => spec_l01Sum_t n h3 a0) (funext fun k => funext fun v5 => funext fun v0 => funext fun b0_0 => funext fun b0_1 => funext fun b1_0 => funext fun b1_1 => spec_l01Sum_l3_eq n k v5 v0 b0_0 b0_1 b1_0 b1_1)
  exact e

theorem spec_l01Sum_ok (n : Nat) : FunOk P (spec_l01SumF n) :=
  funOk_mk (C := [spec_l01WholeF n, spec_l01AddF n]) (N := 30) (kp := spec_l01Sumkp) (c := spec_l01Sumc) (n := n) (G := fun x y => spec_l01Sum n x.1) follows (AllOk.mem (⟨spec_l01Whole_ok n, ⟨spec_l01Add_ok n, trivial⟩⟩ : AllOk P ([spec_l01WholeF n, spec_l01AddF n]))) (by kernel_rfl : P.funcs[78]? = some Go.Proofs.Try.f78) (by kernel_rfl) (by kernel_rfl) (by kernel_rfl)
    (fun x y => spec_l01Sum_eq n x.1) (fun _ _ => map_same (fun _ => rfl) _) (fun _ _ _ _ => rfl)

abbrev spec_l01Negsp : List Sp := [.v true (.pair (.int .i64) (.int .i64))]
abbrev spec_l01Negbs : List (Bs × Bool) := []
abbrev spec_l01Negrs : List (Bool × List Rp) := [(true, [.v false (.pair (.int .i64) (.int .i64))])]
noncomputable def spec_l01Negkp : Keep := { loop := fun id => match id with | _ => [], join := fun id => match id with | _ => none }
noncomputable def spec_l01Negc : Code := bodyOf Go.Proofs.Try.f127
noncomputable def spec_l01NegF (n : Nat) : Fun := { id := 127, sp := spec_l01Negsp, bs := spec_l01Negbs, rs := spec_l01Negrs, f := fun x y => spec_l01Neg n x.1 }

theorem spec_l01Neg_eq (n : Nat) (a0 : (Int) × (Int)) : runBody ([]) ty 9 n spec_l01Negkp spec_l01Negc Go.Proofs.Try.f127.results.toList spec_l01Negrs spec_l01Negsp spec_l01Negbs (a0, ()) () = spec_l01Neg n a0 := by
  have h : runBody ([]) ty 9 n spec_l01Negkp spec_l01Negc Go.Proofs.Try.f127.results.toList spec_l01Negrs spec_l01Negsp spec_l01Negbs (a0, ()) () = spec_l01Neg_t n a0 := by kernel_rfl
  rw [h]
  rfl

theorem spec_l01Neg_ok (n : Nat) : FunOk P (spec_l01NegF n) :=
  funOk_mk (C := []) (N := 9) (kp := spec_l01Negkp) (c := spec_l01Negc) (n := n) (G := fun x y => spec_l01Neg n x.1) follows (AllOk.mem (trivial : AllOk P ([]))) (by kernel_rfl : P.funcs[127]? = some Go.Proofs.Try.f127) (by kernel_rfl) (by kernel_rfl) (by kernel_rfl)
    (fun x y => spec_l01Neg_eq n x.1) (fun _ _ => map_same (fun _ => rfl) _) (fun _ _ _ _ => rfl)

abbrev spec_l01Subsp : List Sp := [.v true (.pair (.int .i64) (.int .i64)), .v true (.pair (.int .i64) (.int .i64))]
abbrev spec_l01Subbs : List (Bs × Bool) := []
abbrev spec_l01Subrs : List (Bool × List Rp) := [(true, [.v false (.pair (.int .i64) (.int .i64))]), (false, [.v false (.int .i64)])]
noncomputable def spec_l01Subkp : Keep := { loop := fun id => match id with | _ => [], join := fun id => match id with | _ => none }
noncomputable def spec_l01Subc : Code := bodyOf Go.Proofs.Try.f79
noncomputable def spec_l01SubF (n : Nat) : Fun := { id := 79, sp := spec_l01Subsp, bs := spec_l01Subbs, rs := spec_l01Subrs, f := fun x y => spec_l01Sub n x.1 x.2.1 }

theorem spec_l01Sub_eq (n : Nat) (a0 : (Int) × (Int)) (a1 : (Int) × (Int)) : runBody ([spec_l01NegF n, spec_l01AddF n]) ty 12 n spec_l01Subkp spec_l01Subc Go.Proofs.Try.f79.results.toList spec_l01Subrs spec_l01Subsp spec_l01Subbs (a0, (a1, ())) () = spec_l01Sub n a0 a1 := by
  have h : runBody ([spec_l01NegF n, spec_l01AddF n]) ty 12 n spec_l01Subkp spec_l01Subc Go.Proofs.Try.f79.results.toList spec_l01Subrs spec_l01Subsp spec_l01Subbs (a0, (a1, ())) () = spec_l01Sub_t n a0 a1 := by kernel_rfl
  rw [h]
  rfl

theorem spec_l01Sub_ok (n : Nat) : FunOk P (spec_l01SubF n) :=
  funOk_mk (C := [spec_l01NegF n, spec_l01AddF n]) (N := 12) (kp := spec_l01Subkp) (c := spec_l01Subc) (n := n) (G := fun x y => spec_l01Sub n x.1 x.2.1) follows (AllOk.mem (⟨spec_l01Neg_ok n, ⟨spec_l01Add_ok n, trivial⟩⟩ : AllOk P ([spec_l01NegF n, spec_l01AddF n]))) (by kernel_rfl : P.funcs[79]? = some Go.Proofs.Try.f79) (by kernel_rfl) (by kernel_rfl) (by kernel_rfl)
    (fun x y => spec_l01Sub_eq n x.1 x.2.1) (fun _ _ => map_same (fun _ => rfl) _) (fun _ _ _ _ => rfl)

abbrev spec_l01Divsp : List Sp := [.v true (.pair (.int .i64) (.int .i64)), .v true (.pair (.int .i64) (.int .i64))]
abbrev spec_l01Divbs : List (Bs × Bool) := []
abbrev spec_l01Divrs : List (Bool × List Rp) := [(true, [.v false (.pair (.int .i64) (.int .i64))]), (false, [.v false (.int .i64)])]
noncomputable def spec_l01Divkp : Keep := { loop := fun id => match id with | _ => [], join := fun id => match id with | _ => none }
noncomputable def spec_l01Divc : Code := bodyOf Go.Proofs.Try.f80
noncomputable def spec_l01DivF (n : Nat) : Fun := { id := 80, sp := spec_l01Divsp, bs := spec_l01Divbs, rs := spec_l01Divrs, f := fun x y => spec_l01Div n x.1 x.2.1 }

theorem spec_l01Div_eq (n : Nat) (a0 : (Int) × (Int)) (a1 : (Int) × (Int)) : runBody ([spec_l01ReducedF n]) ty 19 n spec_l01Divkp spec_l01Divc Go.Proofs.Try.f80.results.toList spec_l01Divrs spec_l01Divsp spec_l01Divbs (a0, (a1, ())) () = spec_l01Div n a0 a1 := by
  have h : runBody ([spec_l01ReducedF n]) ty 19 n spec_l01Divkp spec_l01Divc Go.Proofs.Try.f80.results.toList spec_l01Divrs spec_l01Divsp spec_l01Divbs (a0, (a1, ())) () = spec_l01Div_t n a0 a1 := by kernel_rfl
  rw [h]
  rfl

theorem spec_l01Div_ok (n : Nat) : FunOk P (spec_l01DivF n) :=
  funOk_mk (C := [spec_l01ReducedF n]) (N := 19) (kp := spec_l01Divkp) (c := spec_l01Divc) (n := n) (G := fun x y => spec_l01Div n x.1 x.2.1) follows (AllOk.mem (⟨spec_l01Reduced_ok n, trivial⟩ : AllOk P ([spec_l01ReducedF n]))) (by kernel_rfl : P.funcs[80]? = some Go.Proofs.Try.f80) (by kernel_rfl) (by kernel_rfl) (by kernel_rfl)
    (fun x y => spec_l01Div_eq n x.1 x.2.1) (fun _ _ => map_same (fun _ => rfl) _) (fun _ _ _ _ => rfl)

abbrev spec_ShareEvenlysp : List Sp := [.v false (.list (.pair (.int .i64) (.int .i64))), .v true (.pair (.int .i64) (.int .i64))]
abbrev spec_ShareEvenlybs : List (Bs × Bool) := []
abbrev spec_ShareEvenlyrs : List (Bool × List Rp) := [(false, [.new  (.pair (.int .i64) (.int .i64))]), (false, [.v false (.int .i64)])]
noncomputable def spec_ShareEvenlykp : Keep := { loop := fun id => match id with | 16 => [13, 12, 10, 0] | _ => [], join := fun id => match id with | _ => none }
noncomputable def spec_ShareEvenlyc : Code := bodyOf Go.Proofs.Try.f27
noncomputable def spec_ShareEvenlyF (n : Nat) : Fun := { id := 27, sp := spec_ShareEvenlysp, bs := spec_ShareEvenlybs, rs := spec_ShareEvenlyrs, f := fun x y => spec_ShareEvenly n x.1 x.2.1 }

theorem spec_ShareEvenly_l16_eq (n : Nat) : ∀ (k : Nat) (v13 : Int) (v0 : List ((Int) × (Int))) (b0 : List ((Int) × (Int))) (b1_0 : Int) (b1_1 : Int), iter (interp ([spec_l04FracsF n, spec_l01OkF n, spec_l00InF n, spec_l01SumF n, spec_l01SubF n, spec_l01WholeF n, spec_l01DivF n]) ty 86 0 n spec_ShareEvenlykp (codeAt spec_ShareEvenlyc [1, 1, 1, 1, 1, 1, 1, 1, 1, 1, 0, 1, 0, 0])) (canon 0 (spec_ShareEvenlykp.loop 16)) (kAt ([spec_l04FracsF n, spec_l01OkF n, spec_l00InF n, spec_l01SumF n, spec_l01SubF n, spec_l01WholeF n, spec_l01DivF n]) ty 86 0 n spec_ShareEvenlykp spec_ShareEvenlyc [1, 1, 1, 1, 1, 1, 1, 1, 1, 1, 0, 1, 0] [] (ending ty 0 Go.Proofs.Try.f27.results.toList spec_ShareEvenlyrs spec_ShareEvenlybs)) k { env := [(13, .one (.sc (.int .i64 v13))), (12, .one (.slice 0 0 none)), (10, .one (.ref 1 0 0 0 0 0)), (0, .one (.list true (.pair (.int .i64) (.int .i64)) v0))], bx := [(0, .row 0 (.pair (.int .i64) (.int .i64)) b0), (1, .var 34 [.sc (.int .i64 b1_0), .sc (.int .i64 b1_1)])], nx := 2 } = spec_ShareEvenly_l16 n k v13 v0 b0 b1_0 b1_1
  | 0, _, _, _, _, _ => by kernel_rfl
  | k + 1, v13, v0, b0, b1_0, b1_1 => by
    have h : iter (interp ([spec_l04FracsF n, spec_l01OkF n, spec_l00InF n, spec_l01SumF n, spec_l01SubF n, spec_l01WholeF n, spec_l01DivF n]) ty 86 0 n spec_ShareEvenlykp (codeAt spec_ShareEvenlyc [1, 1, 1, 1, 1, 1, 1, 1, 1, 1, 0, 1, 0, 0])) (canon 0 (spec_ShareEvenlykp.loop 16)) (kAt ([spec_l04FracsF n, spec_l01OkF n, spec_l00InF n, spec_l01SumF n, spec_l01SubF n, spec_l01WholeF n, spec_l01DivF n]) ty 86 0 n spec_ShareEvenlykp spec_ShareEvenlyc [1, 1, 1, 1, 1, 1, 1, 1, 1, 1, 0, 1, 0] [] (ending ty 0 Go.Proofs.Try.f27.results.toList spec_ShareEvenlyrs spec_ShareEvenlybs)) (k + 1) { env := [(13, .one (.sc (.int .i64 v13))), (12, .one (.slice 0 0 none)), (10, .one (.ref 1 0 0 0 0 0)), (0, .one (.list true (.pair (.int .i64) (.int .i64)) v0))], bx := [(0, .row 0 (.pair (.int .i64) (.int .i64)) b0), (1, .var 34 [.sc (.int .i64 b1_0), .sc (.int .i64 b1_1)])], nx := 2 } = spec_ShareEvenly_t16 n (fun v13 v0 b0 b1_0 b1_1 => iter (interp ([spec_l04FracsF n, spec_l01OkF n, spec_l00InF n, spec_l01SumF n, spec_l01SubF n, spec_l01WholeF n, spec_l01DivF n]) ty 86 0 n spec_ShareEvenlykp (codeAt spec_ShareEvenlyc [1, 1, 1, 1, 1, 1, 1, 1, 1, 1, 0, 1, 0, 0])) (canon 0 (spec_ShareEvenlykp.loop 16)) (kAt ([spec_l04FracsF n, spec_l01OkF n, spec_l00InF n, spec_l01SumF n, spec_l01SubF n, spec_l01WholeF n, spec_l01DivF n]) ty 86 0 n spec_ShareEvenlykp spec_ShareEvenlyc [1, 1, 1, 1, 1, 1, 1, 1, 1, 1, 0, 1, 0] [] (ending ty 0 Go.Proofs.Try.f27.results.toList spec_ShareEvenlyrs spec_ShareEvenlybs)) k { env := [(13, .one (.sc (.int .i64 v13))), (12, .one (.slice 0 0 none)), (10, .one (.ref 1 0 0 0 0 0)), (0, .one (.list true (.pair (.int .i64) (.int .i64)) v0))], bx := [(0, .row 0 (.pair (.int .i64) (.int .i64)) b0), (1, .var 34 [.sc (.int .i64 b1_0), .sc (.int .i64 b1_1)])], nx := 2 }) v13 v0 b0 b1_0 b1_1 := by kernel_rfl
    rw [h]
    have e := congrArg (fun g => spec_ShareEvenly_t16 n g v13 v0 b0 b1_0 b1_1) (funext fun v13 => funext fun v0 => funext fun b0 => funext fun b1_0 => funext fun b1_1 => spec_ShareEvenly_l16_eq n k v13 v0 b0 b1_0 b1_1)
    exact e

theorem spec_ShareEvenly_eq (n : Nat) (a0 : List ((Int) × (Int))) (a1 : (Int) × (Int)) : runBody ([spec_l04FracsF n, spec_l01OkF n, spec_l00InF n, spec_l01SumF n, spec_l01SubF n, spec_l01WholeF n, spec_l01DivF n]) ty 86 n spec_ShareEvenlykp spec_ShareEvenlyc Go.Proofs.Try.f27.results.toList spec_ShareEvenlyrs spec_ShareEvenlysp spec_ShareEvenlybs (a0, (a1, ())) () = spec_ShareEvenly n a0 a1 := by
  have h : runBody ([spec_l04FracsF n, spec_l01OkF n, spec_l00InF n, spec_l01SumF n, spec_l01SubF n, spec_l01WholeF n, spec_l01DivF n]) ty 86 n spec_ShareEvenlykp spec_ShareEvenlyc Go.Proofs.Try.f27.results.toList spec_ShareEvenlyrs spec_ShareEvenlysp spec_ShareEvenlybs (a0, (a1, ())) () = spec_ShareEvenly_t n (fun k v13 v0 b0 b1_0 b1_1 => iter (interp ([spec_l04FracsF n, spec_l01OkF n, spec_l00InF n, spec_l01SumF n, spec_l01SubF n, spec_l01WholeF n, spec_l01DivF n]) ty 86 0 n spec_ShareEvenlykp (codeAt spec_ShareEvenlyc [1, 1, 1, 1, 1, 1, 1, 1, 1, 1, 0, 1, 0, 0])) (canon 0 (spec_ShareEvenlykp.loop 16)) (kAt ([spec_l04FracsF n, spec_l01OkF n, spec_l00InF n, spec_l01SumF n, spec_l01SubF n, spec_l01WholeF n, spec_l01DivF n]) ty 86 0 n spec_ShareEvenlykp spec_ShareEvenlyc [1, 1, 1, 1, 1, 1, 1, 1, 1, 1, 0, 1, 0] [] (ending ty 0 Go.Proofs.Try.f27.results.toList spec_ShareEvenlyrs spec_ShareEvenlybs)) k { env := [(13, .one (.sc (.int .i64 v13))), (12, .one (.slice 0 0 none)), (10, .one (.ref 1 0 0 0 0 0)), (0, .one (.list true (.pair (.int .i64) (.int .i64)) v0))], bx := [(0, .row 0 (.pair (.int .i64) (.int .i64)) b0), (1, .var 34 [.sc (.int .i64 b1_0), .sc (.int .i64 b1_1)])], nx := 2 }) a0 a1 := by kernel_rfl
  rw [h]
  have e := congrArg (fun h16 => spec_ShareEvenly_t n h16 a0 a1) (funext fun k => funext fun v13 => funext fun v0 => funext fun b0 => funext fun b1_0 => funext fun b1_1 => spec_ShareEvenly_l16_eq n k v13 v0 b0 b1_0 b1_1)
  exact e

theorem spec_ShareEvenly_ok (n : Nat) : FunOk P (spec_ShareEvenlyF n) :=
  funOk_mk (C := [spec_l04FracsF n, spec_l01OkF n, spec_l00InF n, spec_l01SumF n, spec_l01SubF n, spec_l01WholeF n, spec_l01DivF n]) (N := 86) (kp := spec_ShareEvenlykp) (c := spec_ShareEvenlyc) (n := n) (G := fun x y => spec_ShareEvenly n x.1 x.2.1) follows (AllOk.mem (⟨spec_l04Fracs_ok n, ⟨spec_l01Ok_ok n, ⟨spec_l00In_ok n, ⟨spec_l01Sum_ok n, ⟨spec_l01Sub_ok n, ⟨spec_l01Whole_ok n, ⟨spec_l01Div_ok n, trivial⟩⟩⟩⟩⟩⟩⟩ : AllOk P ([spec_l04FracsF n, spec_l01OkF n, spec_l00InF n, spec_l01SumF n, spec_l01SubF n, spec_l01WholeF n, spec_l01DivF n]))) (by kernel_rfl : P.funcs[27]? = some Go.Proofs.Try.f27) (by kernel_rfl) (by kernel_rfl) (by kernel_rfl)
    (fun x y => spec_ShareEvenly_eq n x.1 x.2.1) (fun _ _ => map_same (fun _ => rfl) _) (fun _ _ _ _ => rfl)

abbrev impl_withinsp : List Sp := [.v false (.int .i64), .v false (.int .i64), .v false (.int .i64)]
abbrev impl_withinbs : List (Bs × Bool) := []
abbrev impl_withinrs : List (Bool × List Rp) := [(false, [.v false .bool])]
noncomputable def impl_withinkp : Keep := { loop := fun id => match id with | _ => [], join := fun id => match id with | _ => none }
noncomputable def impl_withinc : Code := bodyOf Go.Proofs.Try.f63
noncomputable def impl_withinF (n : Nat) : Fun := { id := 63, sp := impl_withinsp, bs := impl_withinbs, rs := impl_withinrs, f := fun x y => impl_within n x.1 x.2.1 x.2.2.1 }

theorem impl_within_eq (n : Nat) (a0 : Int) (a1 : Int) (a2 : Int) : runBody ([]) ty 15 n impl_withinkp impl_withinc Go.Proofs.Try.f63.results.toList impl_withinrs impl_withinsp impl_withinbs (a0, (a1, (a2, ()))) () = impl_within n a0 a1 a2 := by
  have h : runBody ([]) ty 15 n impl_withinkp impl_withinc Go.Proofs.Try.f63.results.toList impl_withinrs impl_withinsp impl_withinbs (a0, (a1, (a2, ()))) () = impl_within_t n a0 a1 a2 := by kernel_rfl
  rw [h]
  rfl

theorem impl_within_ok (n : Nat) : FunOk P (impl_withinF n) :=
  funOk_mk (C := []) (N := 15) (kp := impl_withinkp) (c := impl_withinc) (n := n) (G := fun x y => impl_within n x.1 x.2.1 x.2.2.1) follows (AllOk.mem (trivial : AllOk P ([]))) (by kernel_rfl : P.funcs[63]? = some Go.Proofs.Try.f63) (by kernel_rfl) (by kernel_rfl) (by kernel_rfl)
    (fun x y => impl_within_eq n x.1 x.2.1 x.2.2.1) (fun _ _ => map_same (fun _ => rfl) _) (fun _ _ _ _ => rfl)

abbrev impl_gcdsp : List Sp := [.v false (.int .i64), .v false (.int .i64)]
abbrev impl_gcdbs : List (Bs × Bool) := []
abbrev impl_gcdrs : List (Bool × List Rp) := [(false, [.v false (.int .i64)])]
noncomputable def impl_gcdkp : Keep := { loop := fun id => match id with | 1 => [1, 0] | _ => [], join := fun id => match id with | _ => none }
noncomputable def impl_gcdc : Code := bodyOf Go.Proofs.Try.f120
noncomputable def impl_gcdF (n : Nat) : Fun := { id := 120, sp := impl_gcdsp, bs := impl_gcdbs, rs := impl_gcdrs, f := fun x y => impl_gcd n x.1 x.2.1 }

theorem impl_gcd_l1_eq (n : Nat) : ∀ (k : Nat) (v1 : Int) (v0 : Int), iter (interp ([]) ty 15 0 n impl_gcdkp (codeAt impl_gcdc [1, 0, 0, 0])) (canon 0 (impl_gcdkp.loop 1)) (kAt ([]) ty 15 0 n impl_gcdkp impl_gcdc [1, 0, 0] [] (ending ty 0 Go.Proofs.Try.f120.results.toList impl_gcdrs impl_gcdbs)) k { env := [(1, .one (.sc (.int .i64 v1))), (0, .one (.sc (.int .i64 v0)))], bx := [], nx := 0 } = impl_gcd_l1 n k v1 v0
  | 0, _, _ => by kernel_rfl
  | k + 1, v1, v0 => by
    have h : iter (interp ([]) ty 15 0 n impl_gcdkp (codeAt impl_gcdc [1, 0, 0, 0])) (canon 0 (impl_gcdkp.loop 1)) (kAt ([]) ty 15 0 n impl_gcdkp impl_gcdc [1, 0, 0] [] (ending ty 0 Go.Proofs.Try.f120.results.toList impl_gcdrs impl_gcdbs)) (k + 1) { env := [(1, .one (.sc (.int .i64 v1))), (0, .one (.sc (.int .i64 v0)))], bx := [], nx := 0 } = impl_gcd_t1 n (fun v1 v0 => iter (interp ([]) ty 15 0 n impl_gcdkp (codeAt impl_gcdc [1, 0, 0, 0])) (canon 0 (impl_gcdkp.loop 1)) (kAt ([]) ty 15 0 n impl_gcdkp impl_gcdc [1, 0, 0] [] (ending ty 0 Go.Proofs.Try.f120.results.toList impl_gcdrs impl_gcdbs)) k { env := [(1, .one (.sc (.int .i64 v1))), (0, .one (.sc (.int .i64 v0)))], bx := [], nx := 0 }) v1 v0 := by kernel_rfl
    rw [h]
    have e := congrArg (fun g => impl_gcd_t1 n g v1 v0) (funext fun v1 => funext fun v0 => impl_gcd_l1_eq n k v1 v0)
    exact e

theorem impl_gcd_eq (n : Nat) (a0 : Int) (a1 : Int) : runBody ([]) ty 15 n impl_gcdkp impl_gcdc Go.Proofs.Try.f120.results.toList impl_gcdrs impl_gcdsp impl_gcdbs (a0, (a1, ())) () = impl_gcd n a0 a1 := by
  have h : runBody ([]) ty 15 n impl_gcdkp impl_gcdc Go.Proofs.Try.f120.results.toList impl_gcdrs impl_gcdsp impl_gcdbs (a0, (a1, ())) () = impl_gcd_t n (fun k v1 v0 => iter (interp ([]) ty 15 0 n impl_gcdkp (codeAt impl_gcdc [1, 0, 0, 0])) (canon 0 (impl_gcdkp.loop 1)) (kAt ([]) ty 15 0 n impl_gcdkp impl_gcdc [1, 0, 0] [] (ending ty 0 Go.Proofs.Try.f120.results.toList impl_gcdrs impl_gcdbs)) k { env := [(1, .one (.sc (.int .i64 v1))), (0, .one (.sc (.int .i64 v0)))], bx := [], nx := 0 }) a0 a1 := by kernel_rfl
  rw [h]
  have e := congrArg (fun h1 => impl_gcd_t n h1 a0 a1) (funext fun k => funext fun v1 => funext fun v0 => impl_gcd_l1_eq n k v1 v0)
  exact e

theorem impl_gcd_ok (n : Nat) : FunOk P (impl_gcdF n) :=
  funOk_mk (C := []) (N := 15) (kp := impl_gcdkp) (c := impl_gcdc) (n := n) (G := fun x y => impl_gcd n x.1 x.2.1) follows (AllOk.mem (trivial : AllOk P ([]))) (by kernel_rfl : P.funcs[120]? = some Go.Proofs.Try.f120) (by kernel_rfl) (by kernel_rfl) (by kernel_rfl)
    (fun x y => impl_gcd_eq n x.1 x.2.1) (fun _ _ => map_same (fun _ => rfl) _) (fun _ _ _ _ => rfl)

abbrev impl_ValidFracsp : List Sp := [.v true (.pair (.int .i64) (.int .i64))]
abbrev impl_ValidFracbs : List (Bs × Bool) := []
abbrev impl_ValidFracrs : List (Bool × List Rp) := [(false, [.v false .bool])]
noncomputable def impl_ValidFrackp : Keep := { loop := fun id => match id with | _ => [], join := fun id => match id with | _ => none }
noncomputable def impl_ValidFracc : Code := bodyOf Go.Proofs.Try.f65
noncomputable def impl_ValidFracF (n : Nat) : Fun := { id := 65, sp := impl_ValidFracsp, bs := impl_ValidFracbs, rs := impl_ValidFracrs, f := fun x y => impl_ValidFrac n x.1 }

theorem impl_ValidFrac_eq (n : Nat) (a0 : (Int) × (Int)) : runBody ([impl_withinF n, impl_gcdF n]) ty 19 n impl_ValidFrackp impl_ValidFracc Go.Proofs.Try.f65.results.toList impl_ValidFracrs impl_ValidFracsp impl_ValidFracbs (a0, ()) () = impl_ValidFrac n a0 := by
  have h : runBody ([impl_withinF n, impl_gcdF n]) ty 19 n impl_ValidFrackp impl_ValidFracc Go.Proofs.Try.f65.results.toList impl_ValidFracrs impl_ValidFracsp impl_ValidFracbs (a0, ()) () = impl_ValidFrac_t n a0 := by kernel_rfl
  rw [h]
  rfl

theorem impl_ValidFrac_ok (n : Nat) : FunOk P (impl_ValidFracF n) :=
  funOk_mk (C := [impl_withinF n, impl_gcdF n]) (N := 19) (kp := impl_ValidFrackp) (c := impl_ValidFracc) (n := n) (G := fun x y => impl_ValidFrac n x.1) follows (AllOk.mem (⟨impl_within_ok n, ⟨impl_gcd_ok n, trivial⟩⟩ : AllOk P ([impl_withinF n, impl_gcdF n]))) (by kernel_rfl : P.funcs[65]? = some Go.Proofs.Try.f65) (by kernel_rfl) (by kernel_rfl) (by kernel_rfl)
    (fun x y => impl_ValidFrac_eq n x.1) (fun _ _ => map_same (fun _ => rfl) _) (fun _ _ _ _ => rfl)

abbrev impl_areValid_1sp : List Sp := [.v true (.pair (.int .i64) (.int .i64))]
abbrev impl_areValid_1bs : List (Bs × Bool) := []
abbrev impl_areValid_1rs : List (Bool × List Rp) := [(false, [.v false .bool])]
noncomputable def impl_areValid_1kp : Keep := { loop := fun id => match id with | _ => [], join := fun id => match id with | _ => none }
noncomputable def impl_areValid_1c : Code := bodyOf Go.Proofs.Try.f124
noncomputable def impl_areValid_1F (n : Nat) : Fun := { id := 124, sp := impl_areValid_1sp, bs := impl_areValid_1bs, rs := impl_areValid_1rs, f := fun x y => impl_areValid_1 n x.1 }

theorem impl_areValid_1_eq (n : Nat) (a0 : (Int) × (Int)) : runBody ([impl_ValidFracF n]) ty 6 n impl_areValid_1kp impl_areValid_1c Go.Proofs.Try.f124.results.toList impl_areValid_1rs impl_areValid_1sp impl_areValid_1bs (a0, ()) () = impl_areValid_1 n a0 := by
  have h : runBody ([impl_ValidFracF n]) ty 6 n impl_areValid_1kp impl_areValid_1c Go.Proofs.Try.f124.results.toList impl_areValid_1rs impl_areValid_1sp impl_areValid_1bs (a0, ()) () = impl_areValid_1_t n a0 := by kernel_rfl
  rw [h]
  rfl

theorem impl_areValid_1_ok (n : Nat) : FunOk P (impl_areValid_1F n) :=
  funOk_mk (C := [impl_ValidFracF n]) (N := 6) (kp := impl_areValid_1kp) (c := impl_areValid_1c) (n := n) (G := fun x y => impl_areValid_1 n x.1) follows (AllOk.mem (⟨impl_ValidFrac_ok n, trivial⟩ : AllOk P ([impl_ValidFracF n]))) (by kernel_rfl : P.funcs[124]? = some Go.Proofs.Try.f124) (by kernel_rfl) (by kernel_rfl) (by kernel_rfl)
    (fun x y => impl_areValid_1_eq n x.1) (fun _ _ => map_same (fun _ => rfl) _) (fun _ _ _ _ => rfl)

abbrev slices_IndexFunc_impl_Frac_impl_Frac_at_impl_areValid_1sp : List Sp := [.v false (.list (.pair (.int .i64) (.int .i64))), .cl 124 []]
abbrev slices_IndexFunc_impl_Frac_impl_Frac_at_impl_areValid_1bs : List (Bs × Bool) := []
abbrev slices_IndexFunc_impl_Frac_impl_Frac_at_impl_areValid_1rs : List (Bool × List Rp) := [(false, [.v false (.int .i64)])]
noncomputable def slices_IndexFunc_impl_Frac_impl_Frac_at_impl_areValid_1kp : Keep := { loop := fun id => match id with | 2 => [8, 0, 1, 7] | _ => [], join := fun id => match id with | _ => none }
noncomputable def slices_IndexFunc_impl_Frac_impl_Frac_at_impl_areValid_1c : Code := bodyOf Go.Proofs.Try.f148
noncomputable def slices_IndexFunc_impl_Frac_impl_Frac_at_impl_areValid_1F (n : Nat) : Fun := { id := 148, sp := slices_IndexFunc_impl_Frac_impl_Frac_at_impl_areValid_1sp, bs := slices_IndexFunc_impl_Frac_impl_Frac_at_impl_areValid_1bs, rs := slices_IndexFunc_impl_Frac_impl_Frac_at_impl_areValid_1rs, f := fun x y => slices_IndexFunc_impl_Frac_impl_Frac_at_impl_areValid_1 n x.1 }

theorem slices_IndexFunc_impl_Frac_impl_Frac_at_impl_areValid_1_l2_eq (n : Nat) : ∀ (k : Nat) (v8 : Int) (v0 : List ((Int) × (Int))) (v7 : Int), iter (interp ([impl_areValid_1F n]) ty 19 0 n slices_IndexFunc_impl_Frac_impl_Frac_at_impl_areValid_1kp (codeAt slices_IndexFunc_impl_Frac_impl_Frac_at_impl_areValid_1c [1, 0, 1, 0, 0])) (canon 0 (slices_IndexFunc_impl_Frac_impl_Frac_at_impl_areValid_1kp.loop 2)) (kAt ([impl_areValid_1F n]) ty 19 0 n slices_IndexFunc_impl_Frac_impl_Frac_at_impl_areValid_1kp slices_IndexFunc_impl_Frac_impl_Frac_at_impl_areValid_1c [1, 0, 1, 0] [] (ending ty 0 Go.Proofs.Try.f148.results.toList slices_IndexFunc_impl_Frac_impl_Frac_at_impl_areValid_1rs slices_IndexFunc_impl_Frac_impl_Frac_at_impl_areValid_1bs)) k { env := [(8, .one (.sc (.int .i64 v8))), (0, .one (.list true (.pair (.int .i64) (.int .i64)) v0)), (1, .one (.clos 124 [])), (7, .one (.sc (.int .i64 v7)))], bx := [], nx := 0 } = slices_IndexFunc_impl_Frac_impl_Frac_at_impl_areValid_1_l2 n k v8 v0 v7
  | 0, _, _, _ => by kernel_rfl
  | k + 1, v8, v0, v7 => by
    have h : iter (interp ([impl_areValid_1F n]) ty 19 0 n slices_IndexFunc_impl_Frac_impl_Frac_at_impl_areValid_1kp (codeAt slices_IndexFunc_impl_Frac_impl_Frac_at_impl_areValid_1c [1, 0, 1, 0, 0])) (canon 0 (slices_IndexFunc_impl_Frac_impl_Frac_at_impl_areValid_1kp.loop 2)) (kAt ([impl_areValid_1F n]) ty 19 0 n slices_IndexFunc_impl_Frac_impl_Frac_at_impl_areValid_1kp slices_IndexFunc_impl_Frac_impl_Frac_at_impl_areValid_1c [1, 0, 1, 0] [] (ending ty 0 Go.Proofs.Try.f148.results.toList slices_IndexFunc_impl_Frac_impl_Frac_at_impl_areValid_1rs slices_IndexFunc_impl_Frac_impl_Frac_at_impl_areValid_1bs)) (k + 1) { env := [(8, .one (.sc (.int .i64 v8))), (0, .one (.list true (.pair (.int .i64) (.int .i64)) v0)), (1, .one (.clos 124 [])), (7, .one (.sc (.int .i64 v7)))], bx := [], nx := 0 } = slices_IndexFunc_impl_Frac_impl_Frac_at_impl_areValid_1_t2 n (fun v8 v0 v7 => iter (interp ([impl_areValid_1F n]) ty 19 0 n slices_IndexFunc_impl_Frac_impl_Frac_at_impl_areValid_1kp (codeAt slices_IndexFunc_impl_Frac_impl_Frac_at_impl_areValid_1c [1, 0, 1, 0, 0])) (canon 0 (slices_IndexFunc_impl_Frac_impl_Frac_at_impl_areValid_1kp.loop 2)) (kAt ([impl_areValid_1F n]) ty 19 0 n slices_IndexFunc_impl_Frac_impl_Frac_at_impl_areValid_1kp slices_IndexFunc_impl_Frac_impl_Frac_at_impl_areValid_1c [1, 0, 1, 0] [] (ending ty 0 Go.Proofs.Try.f148.results.toList slices_IndexFunc_impl_Frac_impl_Frac_at_impl_areValid_1rs slices_IndexFunc_impl_Frac_impl_Frac_at_impl_areValid_1bs)) k { env := [(8, .one (.sc (.int .i64 v8))), (0, .one (.list true (.pair (.int .i64) (.int .i64)) v0)), (1, .one (.clos 124 [])), (7, .one (.sc (.int .i64 v7)))], bx := [], nx := 0 }) v8 v0 v7 := by kernel_rfl
    rw [h]
    have e := congrArg (fun g => slices_IndexFunc_impl_Frac_impl_Frac_at_impl_areValid_1_t2 n g v8 v0 v7) (funext fun v8 => funext fun v0 => funext fun v7 => slices_IndexFunc_impl_Frac_impl_Frac_at_impl_areValid_1_l2_eq n k v8 v0 v7)
    exact e

theorem slices_IndexFunc_impl_Frac_impl_Frac_at_impl_areValid_1_eq (n : Nat) (a0 : List ((Int) × (Int))) : runBody ([impl_areValid_1F n]) ty 19 n slices_IndexFunc_impl_Frac_impl_Frac_at_impl_areValid_1kp slices_IndexFunc_impl_Frac_impl_Frac_at_impl_areValid_1c Go.Proofs.Try.f148.results.toList slices_IndexFunc_impl_Frac_impl_Frac_at_impl_areValid_1rs slices_IndexFunc_impl_Frac_impl_Frac_at_impl_areValid_1sp slices_IndexFunc_impl_Frac_impl_Frac_at_impl_areValid_1bs (a0, ((), ())) () = slices_IndexFunc_impl_Frac_impl_Frac_at_impl_areValid_1 n a0 := by
  have h : runBody ([impl_areValid_1F n]) ty 19 n slices_IndexFunc_impl_Frac_impl_Frac_at_impl_areValid_1kp slices_IndexFunc_impl_Frac_impl_Frac_at_impl_areValid_1c Go.Proofs.Try.f148.results.toList slices_IndexFunc_impl_Frac_impl_Frac_at_impl_areValid_1rs slices_IndexFunc_impl_Frac_impl_Frac_at_impl_areValid_1sp slices_IndexFunc_impl_Frac_impl_Frac_at_impl_areValid_1bs (a0, ((), ())) () = slices_IndexFunc_impl_Frac_impl_Frac_at_impl_areValid_1_t n (fun k v8 v0 v7 => iter (interp ([impl_areValid_1F n]) ty 19 0 n slices_IndexFunc_impl_Frac_impl_Frac_at_impl_areValid_1kp (codeAt slices_IndexFunc_impl_Frac_impl_Frac_at_impl_areValid_1c [1, 0, 1, 0, 0])) (canon 0 (slices_IndexFunc_impl_Frac_impl_Frac_at_impl_areValid_1kp.loop 2)) (kAt ([impl_areValid_1F n]) ty 19 0 n slices_IndexFunc_impl_Frac_impl_Frac_at_impl_areValid_1kp slices_IndexFunc_impl_Frac_impl_Frac_at_impl_areValid_1c [1, 0, 1, 0] [] (ending ty 0 Go.Proofs.Try.f148.results.toList slices_IndexFunc_impl_Frac_impl_Frac_at_impl_areValid_1rs slices_IndexFunc_impl_Frac_impl_Frac_at_impl_areValid_1bs)) k { env := [(8, .one (.sc (.int .i64 v8))), (0, .one (.list true (.pair (.int .i64) (.int .i64)) v0)), (1, .one (.clos 124 [])), (7, .one (.sc (.int .i64 v7)))], bx := [], nx := 0 }) a0 := by kernel_rfl
  rw [h]
  have e := congrArg (fun h2 => slices_IndexFunc_impl_Frac_impl_Frac_at_impl_areValid_1_t n h2 a0) (funext fun k => funext fun v8 => funext fun v0 => funext fun v7 => slices_IndexFunc_impl_Frac_impl_Frac_at_impl_areValid_1_l2_eq n k v8 v0 v7)
  exact e

theorem slices_IndexFunc_impl_Frac_impl_Frac_at_impl_areValid_1_ok (n : Nat) : FunOk P (slices_IndexFunc_impl_Frac_impl_Frac_at_impl_areValid_1F n) :=
  funOk_mk (C := [impl_areValid_1F n]) (N := 19) (kp := slices_IndexFunc_impl_Frac_impl_Frac_at_impl_areValid_1kp) (c := slices_IndexFunc_impl_Frac_impl_Frac_at_impl_areValid_1c) (n := n) (G := fun x y => slices_IndexFunc_impl_Frac_impl_Frac_at_impl_areValid_1 n x.1) follows (AllOk.mem (⟨impl_areValid_1_ok n, trivial⟩ : AllOk P ([impl_areValid_1F n]))) (by kernel_rfl : P.funcs[148]? = some Go.Proofs.Try.f148) (by kernel_rfl) (by kernel_rfl) (by kernel_rfl)
    (fun x y => slices_IndexFunc_impl_Frac_impl_Frac_at_impl_areValid_1_eq n x.1) (fun _ _ => map_same (fun _ => rfl) _) (fun _ _ _ _ => rfl)

abbrev slices_ContainsFunc_impl_Frac_impl_Frac_at_impl_areValid_1sp : List Sp := [.v false (.list (.pair (.int .i64) (.int .i64))), .cl 124 []]
abbrev slices_ContainsFunc_impl_Frac_impl_Frac_at_impl_areValid_1bs : List (Bs × Bool) := []
abbrev slices_ContainsFunc_impl_Frac_impl_Frac_at_impl_areValid_1rs : List (Bool × List Rp) := [(false, [.v false .bool])]
noncomputable def slices_ContainsFunc_impl_Frac_impl_Frac_at_impl_areValid_1kp : Keep := { loop := fun id => match id with | _ => [], join := fun id => match id with | _ => none }
noncomputable def slices_ContainsFunc_impl_Frac_impl_Frac_at_impl_areValid_1c : Code := bodyOf Go.Proofs.Try.f123
noncomputable def slices_ContainsFunc_impl_Frac_impl_Frac_at_impl_areValid_1F (n : Nat) : Fun := { id := 123, sp := slices_ContainsFunc_impl_Frac_impl_Frac_at_impl_areValid_1sp, bs := slices_ContainsFunc_impl_Frac_impl_Frac_at_impl_areValid_1bs, rs := slices_ContainsFunc_impl_Frac_impl_Frac_at_impl_areValid_1rs, f := fun x y => slices_ContainsFunc_impl_Frac_impl_Frac_at_impl_areValid_1 n x.1 }

theorem slices_ContainsFunc_impl_Frac_impl_Frac_at_impl_areValid_1_eq (n : Nat) (a0 : List ((Int) × (Int))) : runBody ([slices_IndexFunc_impl_Frac_impl_Frac_at_impl_areValid_1F n]) ty 9 n slices_ContainsFunc_impl_Frac_impl_Frac_at_impl_areValid_1kp slices_ContainsFunc_impl_Frac_impl_Frac_at_impl_areValid_1c Go.Proofs.Try.f123.results.toList slices_ContainsFunc_impl_Frac_impl_Frac_at_impl_areValid_1rs slices_ContainsFunc_impl_Frac_impl_Frac_at_impl_areValid_1sp slices_ContainsFunc_impl_Frac_impl_Frac_at_impl_areValid_1bs (a0, ((), ())) () = slices_ContainsFunc_impl_Frac_impl_Frac_at_impl_areValid_1 n a0 := by
  have h : runBody ([slices_IndexFunc_impl_Frac_impl_Frac_at_impl_areValid_1F n]) ty 9 n slices_ContainsFunc_impl_Frac_impl_Frac_at_impl_areValid_1kp slices_ContainsFunc_impl_Frac_impl_Frac_at_impl_areValid_1c Go.Proofs.Try.f123.results.toList slices_ContainsFunc_impl_Frac_impl_Frac_at_impl_areValid_1rs slices_ContainsFunc_impl_Frac_impl_Frac_at_impl_areValid_1sp slices_ContainsFunc_impl_Frac_impl_Frac_at_impl_areValid_1bs (a0, ((), ())) () = slices_ContainsFunc_impl_Frac_impl_Frac_at_impl_areValid_1_t n a0 := by kernel_rfl
  rw [h]
  rfl

theorem slices_ContainsFunc_impl_Frac_impl_Frac_at_impl_areValid_1_ok (n : Nat) : FunOk P (slices_ContainsFunc_impl_Frac_impl_Frac_at_impl_areValid_1F n) :=
  funOk_mk (C := [slices_IndexFunc_impl_Frac_impl_Frac_at_impl_areValid_1F n]) (N := 9) (kp := slices_ContainsFunc_impl_Frac_impl_Frac_at_impl_areValid_1kp) (c := slices_ContainsFunc_impl_Frac_impl_Frac_at_impl_areValid_1c) (n := n) (G := fun x y => slices_ContainsFunc_impl_Frac_impl_Frac_at_impl_areValid_1 n x.1) follows (AllOk.mem (⟨slices_IndexFunc_impl_Frac_impl_Frac_at_impl_areValid_1_ok n, trivial⟩ : AllOk P ([slices_IndexFunc_impl_Frac_impl_Frac_at_impl_areValid_1F n]))) (by kernel_rfl : P.funcs[123]? = some Go.Proofs.Try.f123) (by kernel_rfl) (by kernel_rfl) (by kernel_rfl)
    (fun x y => slices_ContainsFunc_impl_Frac_impl_Frac_at_impl_areValid_1_eq n x.1) (fun _ _ => map_same (fun _ => rfl) _) (fun _ _ _ _ => rfl)

abbrev impl_areValidsp : List Sp := [.v false (.list (.pair (.int .i64) (.int .i64)))]
abbrev impl_areValidbs : List (Bs × Bool) := []
abbrev impl_areValidrs : List (Bool × List Rp) := [(false, [.v false .bool])]
noncomputable def impl_areValidkp : Keep := { loop := fun id => match id with | _ => [], join := fun id => match id with | _ => none }
noncomputable def impl_areValidc : Code := bodyOf Go.Proofs.Try.f72
noncomputable def impl_areValidF (n : Nat) : Fun := { id := 72, sp := impl_areValidsp, bs := impl_areValidbs, rs := impl_areValidrs, f := fun x y => impl_areValid n x.1 }

theorem impl_areValid_eq (n : Nat) (a0 : List ((Int) × (Int))) : runBody ([slices_ContainsFunc_impl_Frac_impl_Frac_at_impl_areValid_1F n]) ty 6 n impl_areValidkp impl_areValidc Go.Proofs.Try.f72.results.toList impl_areValidrs impl_areValidsp impl_areValidbs (a0, ()) () = impl_areValid n a0 := by
  have h : runBody ([slices_ContainsFunc_impl_Frac_impl_Frac_at_impl_areValid_1F n]) ty 6 n impl_areValidkp impl_areValidc Go.Proofs.Try.f72.results.toList impl_areValidrs impl_areValidsp impl_areValidbs (a0, ()) () = impl_areValid_t n a0 := by kernel_rfl
  rw [h]
  rfl

theorem impl_areValid_ok (n : Nat) : FunOk P (impl_areValidF n) :=
  funOk_mk (C := [slices_ContainsFunc_impl_Frac_impl_Frac_at_impl_areValid_1F n]) (N := 6) (kp := impl_areValidkp) (c := impl_areValidc) (n := n) (G := fun x y => impl_areValid n x.1) follows (AllOk.mem (⟨slices_ContainsFunc_impl_Frac_impl_Frac_at_impl_areValid_1_ok n, trivial⟩ : AllOk P ([slices_ContainsFunc_impl_Frac_impl_Frac_at_impl_areValid_1F n]))) (by kernel_rfl : P.funcs[72]? = some Go.Proofs.Try.f72) (by kernel_rfl) (by kernel_rfl) (by kernel_rfl)
    (fun x y => impl_areValid_eq n x.1) (fun _ _ => map_same (fun _ => rfl) _) (fun _ _ _ _ => rfl)

abbrev impl_isSomesp : List Sp := [.v false (.list (.pair (.int .i64) (.int .i64)))]
abbrev impl_isSomebs : List (Bs × Bool) := []
abbrev impl_isSomers : List (Bool × List Rp) := [(false, [.v false (.int .i64)])]
noncomputable def impl_isSomekp : Keep := { loop := fun id => match id with | _ => [], join := fun id => match id with | _ => none }
noncomputable def impl_isSomec : Code := bodyOf Go.Proofs.Try.f82
noncomputable def impl_isSomeF (n : Nat) : Fun := { id := 82, sp := impl_isSomesp, bs := impl_isSomebs, rs := impl_isSomers, f := fun x y => impl_isSome n x.1 }

theorem impl_isSome_eq (n : Nat) (a0 : List ((Int) × (Int))) : runBody ([impl_areValidF n]) ty 16 n impl_isSomekp impl_isSomec Go.Proofs.Try.f82.results.toList impl_isSomers impl_isSomesp impl_isSomebs (a0, ()) () = impl_isSome n a0 := by
  have h : runBody ([impl_areValidF n]) ty 16 n impl_isSomekp impl_isSomec Go.Proofs.Try.f82.results.toList impl_isSomers impl_isSomesp impl_isSomebs (a0, ()) () = impl_isSome_t n a0 := by kernel_rfl
  rw [h]
  rfl

theorem impl_isSome_ok (n : Nat) : FunOk P (impl_isSomeF n) :=
  funOk_mk (C := [impl_areValidF n]) (N := 16) (kp := impl_isSomekp) (c := impl_isSomec) (n := n) (G := fun x y => impl_isSome n x.1) follows (AllOk.mem (⟨impl_areValid_ok n, trivial⟩ : AllOk P ([impl_areValidF n]))) (by kernel_rfl : P.funcs[82]? = some Go.Proofs.Try.f82) (by kernel_rfl) (by kernel_rfl) (by kernel_rfl)
    (fun x y => impl_isSome_eq n x.1) (fun _ _ => map_same (fun _ => rfl) _) (fun _ _ _ _ => rfl)

abbrev impl_zerosp : List Sp := []
abbrev impl_zerobs : List (Bs × Bool) := []
abbrev impl_zerors : List (Bool × List Rp) := [(true, [.v false (.pair (.int .i64) (.int .i64))])]
noncomputable def impl_zerokp : Keep := { loop := fun id => match id with | _ => [], join := fun id => match id with | _ => none }
noncomputable def impl_zeroc : Code := bodyOf Go.Proofs.Try.f129
noncomputable def impl_zeroF (n : Nat) : Fun := { id := 129, sp := impl_zerosp, bs := impl_zerobs, rs := impl_zerors, f := fun x y => impl_zero n }

theorem impl_zero_eq (n : Nat) : runBody ([]) ty 2 n impl_zerokp impl_zeroc Go.Proofs.Try.f129.results.toList impl_zerors impl_zerosp impl_zerobs () () = impl_zero n := by
  have h : runBody ([]) ty 2 n impl_zerokp impl_zeroc Go.Proofs.Try.f129.results.toList impl_zerors impl_zerosp impl_zerobs () () = impl_zero_t n := by kernel_rfl
  rw [h]
  rfl

theorem impl_zero_ok (n : Nat) : FunOk P (impl_zeroF n) :=
  funOk_mk (C := []) (N := 2) (kp := impl_zerokp) (c := impl_zeroc) (n := n) (G := fun x y => impl_zero n) follows (AllOk.mem (trivial : AllOk P ([]))) (by kernel_rfl : P.funcs[129]? = some Go.Proofs.Try.f129) (by kernel_rfl) (by kernel_rfl) (by kernel_rfl)
    (fun x y => impl_zero_eq n) (fun _ _ => map_same (fun _ => rfl) _) (fun _ _ _ _ => rfl)

abbrev impl_fracOfsp : List Sp := [.v false (.int .i64), .v false (.int .i64)]
abbrev impl_fracOfbs : List (Bs × Bool) := []
abbrev impl_fracOfrs : List (Bool × List Rp) := [(true, [.v false (.pair (.int .i64) (.int .i64))]), (false, [.v false .bool])]
noncomputable def impl_fracOfkp : Keep := { loop := fun id => match id with | _ => [], join := fun id => match id with | _ => none }
noncomputable def impl_fracOfc : Code := bodyOf Go.Proofs.Try.f150
noncomputable def impl_fracOfF (n : Nat) : Fun := { id := 150, sp := impl_fracOfsp, bs := impl_fracOfbs, rs := impl_fracOfrs, f := fun x y => impl_fracOf n x.1 x.2.1 }

theorem impl_fracOf_eq (n : Nat) (a0 : Int) (a1 : Int) : runBody ([impl_gcdF n, impl_ValidFracF n]) ty 29 n impl_fracOfkp impl_fracOfc Go.Proofs.Try.f150.results.toList impl_fracOfrs impl_fracOfsp impl_fracOfbs (a0, (a1, ())) () = impl_fracOf n a0 a1 := by
  have h : runBody ([impl_gcdF n, impl_ValidFracF n]) ty 29 n impl_fracOfkp impl_fracOfc Go.Proofs.Try.f150.results.toList impl_fracOfrs impl_fracOfsp impl_fracOfbs (a0, (a1, ())) () = impl_fracOf_t n a0 a1 := by kernel_rfl
  rw [h]
  rfl

theorem impl_fracOf_ok (n : Nat) : FunOk P (impl_fracOfF n) :=
  funOk_mk (C := [impl_gcdF n, impl_ValidFracF n]) (N := 29) (kp := impl_fracOfkp) (c := impl_fracOfc) (n := n) (G := fun x y => impl_fracOf n x.1 x.2.1) follows (AllOk.mem (⟨impl_gcd_ok n, ⟨impl_ValidFrac_ok n, trivial⟩⟩ : AllOk P ([impl_gcdF n, impl_ValidFracF n]))) (by kernel_rfl : P.funcs[150]? = some Go.Proofs.Try.f150) (by kernel_rfl) (by kernel_rfl) (by kernel_rfl)
    (fun x y => impl_fracOf_eq n x.1 x.2.1) (fun _ _ => map_same (fun _ => rfl) _) (fun _ _ _ _ => rfl)

abbrev impl_calc_toldsp : List Sp := [.ref 0, .v false (.int .i64), .v false (.int .i64)]
abbrev impl_calc_toldbs : List (Bs × Bool) := [(.var 116 .bool, true)]
abbrev impl_calc_toldrs : List (Bool × List Rp) := [(true, [.v false (.pair (.int .i64) (.int .i64))])]
noncomputable def impl_calc_toldkp : Keep := { loop := fun id => match id with | _ => [], join := fun id => match id with | _ => none }
noncomputable def impl_calc_toldc : Code := bodyOf Go.Proofs.Try.f130
noncomputable def impl_calc_toldF (n : Nat) : Fun := { id := 130, sp := impl_calc_toldsp, bs := impl_calc_toldbs, rs := impl_calc_toldrs, f := fun x y => impl_calc_told n x.2.1 x.2.2.1 y.1 }

theorem impl_calc_told_eq (n : Nat) (a1 : Int) (a2 : Int) (b0 : Bool) : runBody ([impl_fracOfF n, impl_zeroF n]) ty 22 n impl_calc_toldkp impl_calc_toldc Go.Proofs.Try.f130.results.toList impl_calc_toldrs impl_calc_toldsp impl_calc_toldbs ((), (a1, (a2, ()))) (b0, ()) = impl_calc_told n a1 a2 b0 := by
  have h : runBody ([impl_fracOfF n, impl_zeroF n]) ty 22 n impl_calc_toldkp impl_calc_toldc Go.Proofs.Try.f130.results.toList impl_calc_toldrs impl_calc_toldsp impl_calc_toldbs ((), (a1, (a2, ()))) (b0, ()) = impl_calc_told_t n a1 a2 b0 := by kernel_rfl
  rw [h]
  rfl

theorem impl_calc_told_ok (n : Nat) : FunOk P (impl_calc_toldF n) :=
  funOk_mk (C := [impl_fracOfF n, impl_zeroF n]) (N := 22) (kp := impl_calc_toldkp) (c := impl_calc_toldc) (n := n) (G := fun x y => impl_calc_told n x.2.1 x.2.2.1 y.1) follows (AllOk.mem (⟨impl_fracOf_ok n, ⟨impl_zero_ok n, trivial⟩⟩ : AllOk P ([impl_fracOfF n, impl_zeroF n]))) (by kernel_rfl : P.funcs[130]? = some Go.Proofs.Try.f130) (by kernel_rfl) (by kernel_rfl) (by kernel_rfl)
    (fun x y => impl_calc_told_eq n x.2.1 x.2.2.1 y.1) (fun _ _ => map_same (fun _ => rfl) _) (fun _ _ _ _ => rfl)

abbrev impl_calc_addsp : List Sp := [.ref 0, .v true (.pair (.int .i64) (.int .i64)), .v true (.pair (.int .i64) (.int .i64))]
abbrev impl_calc_addbs : List (Bs × Bool) := [(.var 116 .bool, true)]
abbrev impl_calc_addrs : List (Bool × List Rp) := [(true, [.v false (.pair (.int .i64) (.int .i64))])]
noncomputable def impl_calc_addkp : Keep := { loop := fun id => match id with | _ => [], join := fun id => match id with | _ => none }
noncomputable def impl_calc_addc : Code := bodyOf Go.Proofs.Try.f131
noncomputable def impl_calc_addF (n : Nat) : Fun := { id := 131, sp := impl_calc_addsp, bs := impl_calc_addbs, rs := impl_calc_addrs, f := fun x y => impl_calc_add n x.2.1 x.2.2.1 y.1 }

theorem impl_calc_add_eq (n : Nat) (a1 : (Int) × (Int)) (a2 : (Int) × (Int)) (b0 : Bool) : runBody ([impl_calc_toldF n]) ty 25 n impl_calc_addkp impl_calc_addc Go.Proofs.Try.f131.results.toList impl_calc_addrs impl_calc_addsp impl_calc_addbs ((), (a1, (a2, ()))) (b0, ()) = impl_calc_add n a1 a2 b0 := by
  have h : runBody ([impl_calc_toldF n]) ty 25 n impl_calc_addkp impl_calc_addc Go.Proofs.Try.f131.results.toList impl_calc_addrs impl_calc_addsp impl_calc_addbs ((), (a1, (a2, ()))) (b0, ()) = impl_calc_add_t n a1 a2 b0 := by kernel_rfl
  rw [h]
  rfl

theorem impl_calc_add_ok (n : Nat) : FunOk P (impl_calc_addF n) :=
  funOk_mk (C := [impl_calc_toldF n]) (N := 25) (kp := impl_calc_addkp) (c := impl_calc_addc) (n := n) (G := fun x y => impl_calc_add n x.2.1 x.2.2.1 y.1) follows (AllOk.mem (⟨impl_calc_told_ok n, trivial⟩ : AllOk P ([impl_calc_toldF n]))) (by kernel_rfl : P.funcs[131]? = some Go.Proofs.Try.f131) (by kernel_rfl) (by kernel_rfl) (by kernel_rfl)
    (fun x y => impl_calc_add_eq n x.2.1 x.2.2.1 y.1) (fun _ _ => map_same (fun _ => rfl) _) (fun _ _ _ _ => rfl)

abbrev impl_calc_sumsp : List Sp := [.ref 0, .v false (.list (.pair (.int .i64) (.int .i64)))]
abbrev impl_calc_sumbs : List (Bs × Bool) := [(.var 116 .bool, true)]
abbrev impl_calc_sumrs : List (Bool × List Rp) := [(true, [.v false (.pair (.int .i64) (.int .i64))])]
noncomputable def impl_calc_sumkp : Keep := { loop := fun id => match id with | 3 => [11, 5, 0, 9, 4, 10] | _ => [], join := fun id => match id with | _ => none }
noncomputable def impl_calc_sumc : Code := bodyOf Go.Proofs.Try.f85
noncomputable def impl_calc_sumF (n : Nat) : Fun := { id := 85, sp := impl_calc_sumsp, bs := impl_calc_sumbs, rs := impl_calc_sumrs, f := fun x y => impl_calc_sum n x.2.1 y.1 }

theorem impl_calc_sum_l3_eq (n : Nat) : ∀ (k : Nat) (v11 : Int) (v9 : List ((Int) × (Int))) (v10 : Int) (b0 : Bool) (b1_0 : Int) (b1_1 : Int) (b2_0 : Int) (b2_1 : Int), iter (interp ([impl_zeroF n, impl_calc_addF n]) ty 21 1 n impl_calc_sumkp (codeAt impl_calc_sumc [1, 1, 0, 1, 0, 0])) (canon 1 (impl_calc_sumkp.loop 3)) (kAt ([impl_zeroF n, impl_calc_addF n]) ty 21 1 n impl_calc_sumkp impl_calc_sumc [1, 1, 0, 1, 0] [] (ending ty 1 Go.Proofs.Try.f85.results.toList impl_calc_sumrs impl_calc_sumbs)) k { env := [(11, .one (.sc (.int .i64 v11))), (5, .one (.ref 1 0 0 0 0 0)), (0, .one (.ref 0 0 0 0 0 0)), (9, .one (.list true (.pair (.int .i64) (.int .i64)) v9)), (4, .one (.ref 2 0 0 0 0 0)), (10, .one (.sc (.int .i64 v10)))], bx := [(0, .var 116 [.sc (.bool b0)]), (1, .var 34 [.sc (.int .i64 b1_0), .sc (.int .i64 b1_1)]), (2, .var 34 [.sc (.int .i64 b2_0), .sc (.int .i64 b2_1)])], nx := 3 } = impl_calc_sum_l3 n k v11 v9 v10 b0 b1_0 b1_1 b2_0 b2_1
  | 0, _, _, _, _, _, _, _, _ => by kernel_rfl
  | k + 1, v11, v9, v10, b0, b1_0, b1_1, b2_0, b2_1 => by
    have h : iter (interp ([impl_zeroF n, impl_calc_addF n]) ty 21 1 n impl_calc_sumkp (codeAt impl_calc_sumc [1, 1, 0, 1, 0, 0])) (canon 1 (impl_calc_sumkp.loop 3)) (kAt ([impl_zeroF n, impl_calc_addF n]) ty 21 1 n impl_calc_sumkp impl_calc_sumc [1, 1, 0, 1, 0] [] (ending ty 1 Go.Proofs.Try.f85.results.toList impl_calc_sumrs impl_calc_sumbs)) (k + 1) { env := [(11, .one (.sc (.int .i64 v11))), (5, .one (.ref 1 0 0 0 0 0)), (0, .one (.ref 0 0 0 0 0 0)), (9, .one (.list true (.pair (.int .i64) (.int .i64)) v9)), (4, .one (.ref 2 0 0 0 0 0)), (10, .one (.sc (.int .i64 v10)))], bx := [(0, .var 116 [.sc (.bool b0)]), (1, .var 34 [.sc (.int .i64 b1_0), .sc (.int .i64 b1_1)]), (2, .var 34 [.sc (.int .i64 b2_0), .sc (.int .i64 b2_1)])], nx := 3 } = impl_calc_sum_t3 n (fun v11 v9 v10 b0 b1_0 b1_1 b2_0 b2_1 => iter (interp ([impl_zeroF n, impl_calc_addF n]) ty 21 1 n impl_calc_sumkp (codeAt impl_calc_sumc [1, 1, 0, 1, 0, 0])) (canon 1 (impl_calc_sumkp.loop 3)) (kAt ([impl_zeroF n, impl_calc_addF n]) ty 21 1 n impl_calc_sumkp impl_calc_sumc [1, 1, 0, 1, 0] [] (ending ty 1 Go.Proofs.Try.f85.results.toList impl_calc_sumrs impl_calc_sumbs)) k { env := [(11, .one (.sc (.int .i64 v11))), (5, .one (.ref 1 0 0 0 0 0)), (0, .one (.ref 0 0 0 0 0 0)), (9, .one (.list true (.pair (.int .i64) (.int .i64)) v9)), (4, .one (.ref 2 0 0 0 0 0)), (10, .one (.sc (.int .i64 v10)))], bx := [(0, .var 116 [.sc (.bool b0)]), (1, .var 34 [.sc (.int .i64 b1_0), .sc (.int .i64 b1_1)]), (2, .var 34 [.sc (.int .i64 b2_0), .sc (.int .i64 b2_1)])], nx := 3 }) v11 v9 v10 b0 b1_0 b1_1 b2_0 b2_1 := by kernel_rfl
    rw [h]
    have e := congrArg (fun g => impl_calc_sum_t3 n g v11 v9 v10 b0 b1_0 b1_1 b2_0 b2_1) (funext fun v11 => funext fun v9 => funext fun v10 => funext fun b0 => funext fun b1_0 => funext fun b1_1 => funext fun b2_0 => funext fun b2_1 => impl_calc_sum_l3_eq n k v11 v9 v10 b0 b1_0 b1_1 b2_0 b2_1)
    exact e

theorem impl_calc_sum_eq (n : Nat) (a1 : List ((Int) × (Int))) (b0 : Bool) : runBody ([impl_zeroF n, impl_calc_addF n]) ty 21 n impl_calc_sumkp impl_calc_sumc Go.Proofs.Try.f85.results.toList impl_calc_sumrs impl_calc_sumsp impl_calc_sumbs ((), (a1, ())) (b0, ()) = impl_calc_sum n a1 b0 := by
  have h : runBody ([impl_zeroF n, impl_calc_addF n]) ty 21 n impl_calc_sumkp impl_calc_sumc Go.Proofs.Try.f85.results.toList impl_calc_sumrs impl_calc_sumsp impl_calc_sumbs ((), (a1, ())) (b0, ()) = impl_calc_sum_t n (fun k v11 v9 v10 b0 b1_0 b1_1 b2_0 b2_1 => iter (interp ([impl_zeroF n, impl_calc_addF n]) ty 21 1 n impl_calc_sumkp (codeAt impl_calc_sumc [1, 1, 0, 1, 0, 0])) (canon 1 (impl_calc_sumkp.loop 3)) (kAt ([impl_zeroF n, impl_calc_addF n]) ty 21 1 n impl_calc_sumkp impl_calc_sumc [1, 1, 0, 1, 0] [] (ending ty 1 Go.Proofs.Try.f85.results.toList impl_calc_sumrs impl_calc_sumbs)) k { env := [(11, .one (.sc (.int .i64 v11))), (5, .one (.ref 1 0 0 0 0 0)), (0, .one (.ref 0 0 0 0 0 0)), (9, .one (.list true (.pair (.int .i64) (.int .i64)) v9)), (4, .one (.ref 2 0 0 0 0 0)), (10, .one (.sc (.int .i64 v10)))], bx := [(0, .var 116 [.sc (.bool b0)]), (1, .var 34 [.sc (.int .i64 b1_0), .sc (.int .i64 b1_1)]), (2, .var 34 [.sc (.int .i64 b2_0), .sc (.int .i64 b2_1)])], nx := 3 }) a1 b0 := by kernel_rfl
  rw [h]
  have e := congrArg (fun h3 => impl_calc_sum_t n h3 a1 b0) (funext fun k => funext fun v11 => funext fun v9 => funext fun v10 => funext fun b0 => funext fun b1_0 => funext fun b1_1 => funext fun b2_0 => funext fun b2_1 => impl_calc_sum_l3_eq n k v11 v9 v10 b0 b1_0 b1_1 b2_0 b2_1)
  exact e

theorem impl_calc_sum_ok (n : Nat) : FunOk P (impl_calc_sumF n) :=
  funOk_mk (C := [impl_zeroF n, impl_calc_addF n]) (N := 21) (kp := impl_calc_sumkp) (c := impl_calc_sumc) (n := n) (G := fun x y => impl_calc_sum n x.2.1 y.1) follows (AllOk.mem (⟨impl_zero_ok n, ⟨impl_calc_add_ok n, trivial⟩⟩ : AllOk P ([impl_zeroF n, impl_calc_addF n]))) (by kernel_rfl : P.funcs[85]? = some Go.Proofs.Try.f85) (by kernel_rfl) (by kernel_rfl) (by kernel_rfl)
    (fun x y => impl_calc_sum_eq n x.2.1 y.1) (fun _ _ => map_same (fun _ => rfl) _) (fun _ _ _ _ => rfl)

abbrev impl_calc_subsp : List Sp := [.ref 0, .v true (.pair (.int .i64) (.int .i64)), .v true (.pair (.int .i64) (.int .i64))]
abbrev impl_calc_subbs : List (Bs × Bool) := [(.var 116 .bool, true)]
abbrev impl_calc_subrs : List (Bool × List Rp) := [(true, [.v false (.pair (.int .i64) (.int .i64))])]
noncomputable def impl_calc_subkp : Keep := { loop := fun id => match id with | _ => [], join := fun id => match id with | _ => none }
noncomputable def impl_calc_subc : Code := bodyOf Go.Proofs.Try.f84
noncomputable def impl_calc_subF (n : Nat) : Fun := { id := 84, sp := impl_calc_subsp, bs := impl_calc_subbs, rs := impl_calc_subrs, f := fun x y => impl_calc_sub n x.2.1 x.2.2.1 y.1 }

theorem impl_calc_sub_eq (n : Nat) (a1 : (Int) × (Int)) (a2 : (Int) × (Int)) (b0 : Bool) : runBody ([impl_calc_toldF n]) ty 25 n impl_calc_subkp impl_calc_subc Go.Proofs.Try.f84.results.toList impl_calc_subrs impl_calc_subsp impl_calc_subbs ((), (a1, (a2, ()))) (b0, ()) = impl_calc_sub n a1 a2 b0 := by
  have h : runBody ([impl_calc_toldF n]) ty 25 n impl_calc_subkp impl_calc_subc Go.Proofs.Try.f84.results.toList impl_calc_subrs impl_calc_subsp impl_calc_subbs ((), (a1, (a2, ()))) (b0, ()) = impl_calc_sub_t n a1 a2 b0 := by kernel_rfl
  rw [h]
  rfl

theorem impl_calc_sub_ok (n : Nat) : FunOk P (impl_calc_subF n) :=
  funOk_mk (C := [impl_calc_toldF n]) (N := 25) (kp := impl_calc_subkp) (c := impl_calc_subc) (n := n) (G := fun x y => impl_calc_sub n x.2.1 x.2.2.1 y.1) follows (AllOk.mem (⟨impl_calc_told_ok n, trivial⟩ : AllOk P ([impl_calc_toldF n]))) (by kernel_rfl : P.funcs[84]? = some Go.Proofs.Try.f84) (by kernel_rfl) (by kernel_rfl) (by kernel_rfl)
    (fun x y => impl_calc_sub_eq n x.2.1 x.2.2.1 y.1) (fun _ _ => map_same (fun _ => rfl) _) (fun _ _ _ _ => rfl)

abbrev impl_numsp : List Sp := [.v false (.int .i64)]
abbrev impl_numbs : List (Bs × Bool) := []
abbrev impl_numrs : List (Bool × List Rp) := [(true, [.v false (.pair (.int .i64) (.int .i64))])]
noncomputable def impl_numkp : Keep := { loop := fun id => match id with | _ => [], join := fun id => match id with | _ => none }
noncomputable def impl_numc : Code := bodyOf Go.Proofs.Try.f86
noncomputable def impl_numF (n : Nat) : Fun := { id := 86, sp := impl_numsp, bs := impl_numbs, rs := impl_numrs, f := fun x y => impl_num n x.1 }

theorem impl_num_eq (n : Nat) (a0 : Int) : runBody ([]) ty 5 n impl_numkp impl_numc Go.Proofs.Try.f86.results.toList impl_numrs impl_numsp impl_numbs (a0, ()) () = impl_num n a0 := by
  have h : runBody ([]) ty 5 n impl_numkp impl_numc Go.Proofs.Try.f86.results.toList impl_numrs impl_numsp impl_numbs (a0, ()) () = impl_num_t n a0 := by kernel_rfl
  rw [h]
  rfl

theorem impl_num_ok (n : Nat) : FunOk P (impl_numF n) :=
  funOk_mk (C := []) (N := 5) (kp := impl_numkp) (c := impl_numc) (n := n) (G := fun x y => impl_num n x.1) follows (AllOk.mem (trivial : AllOk P ([]))) (by kernel_rfl : P.funcs[86]? = some Go.Proofs.Try.f86) (by kernel_rfl) (by kernel_rfl) (by kernel_rfl)
    (fun x y => impl_num_eq n x.1) (fun _ _ => map_same (fun _ => rfl) _) (fun _ _ _ _ => rfl)

abbrev impl_calc_divsp : List Sp := [.ref 0, .v true (.pair (.int .i64) (.int .i64)), .v true (.pair (.int .i64) (.int .i64))]
abbrev impl_calc_divbs : List (Bs × Bool) := [(.var 116 .bool, true)]
abbrev impl_calc_divrs : List (Bool × List Rp) := [(true, [.v false (.pair (.int .i64) (.int .i64))])]
noncomputable def impl_calc_divkp : Keep := { loop := fun id => match id with | _ => [], join := fun id => match id with | _ => none }
noncomputable def impl_calc_divc : Code := bodyOf Go.Proofs.Try.f83
noncomputable def impl_calc_divF (n : Nat) : Fun := { id := 83, sp := impl_calc_divsp, bs := impl_calc_divbs, rs := impl_calc_divrs, f := fun x y => impl_calc_div n x.2.1 x.2.2.1 y.1 }

theorem impl_calc_div_eq (n : Nat) (a1 : (Int) × (Int)) (a2 : (Int) × (Int)) (b0 : Bool) : runBody ([impl_zeroF n, impl_calc_toldF n]) ty 26 n impl_calc_divkp impl_calc_divc Go.Proofs.Try.f83.results.toList impl_calc_divrs impl_calc_divsp impl_calc_divbs ((), (a1, (a2, ()))) (b0, ()) = impl_calc_div n a1 a2 b0 := by
  have h : runBody ([impl_zeroF n, impl_calc_toldF n]) ty 26 n impl_calc_divkp impl_calc_divc Go.Proofs.Try.f83.results.toList impl_calc_divrs impl_calc_divsp impl_calc_divbs ((), (a1, (a2, ()))) (b0, ()) = impl_calc_div_t n a1 a2 b0 := by kernel_rfl
  rw [h]
  rfl

theorem impl_calc_div_ok (n : Nat) : FunOk P (impl_calc_divF n) :=
  funOk_mk (C := [impl_zeroF n, impl_calc_toldF n]) (N := 26) (kp := impl_calc_divkp) (c := impl_calc_divc) (n := n) (G := fun x y => impl_calc_div n x.2.1 x.2.2.1 y.1) follows (AllOk.mem (⟨impl_zero_ok n, ⟨impl_calc_told_ok n, trivial⟩⟩ : AllOk P ([impl_zeroF n, impl_calc_toldF n]))) (by kernel_rfl : P.funcs[83]? = some Go.Proofs.Try.f83) (by kernel_rfl) (by kernel_rfl) (by kernel_rfl)
    (fun x y => impl_calc_div_eq n x.2.1 x.2.2.1 y.1) (fun _ _ => map_same (fun _ => rfl) _) (fun _ _ _ _ => rfl)

abbrev impl_ShareEvenlysp : List Sp := [.v false (.list (.pair (.int .i64) (.int .i64))), .v true (.pair (.int .i64) (.int .i64))]
abbrev impl_ShareEvenlybs : List (Bs × Bool) := []
abbrev impl_ShareEvenlyrs : List (Bool × List Rp) := [(false, [.new  (.pair (.int .i64) (.int .i64))]), (false, [.v false (.int .i64)])]
noncomputable def impl_ShareEvenlykp : Keep := { loop := fun id => match id with | 10 => [36, 8, 7, 9, 34, 35] | _ => [], join := fun id => match id with | _ => none }
noncomputable def impl_ShareEvenlyc : Code := bodyOf Go.Proofs.Try.f28
noncomputable def impl_ShareEvenlyF (n : Nat) : Fun := { id := 28, sp := impl_ShareEvenlysp, bs := impl_ShareEvenlybs, rs := impl_ShareEvenlyrs, f := fun x y => impl_ShareEvenly n x.1 x.2.1 }

theorem impl_ShareEvenly_l10_eq (n : Nat) : ∀ (k : Nat) (v36 : Int) (v34 : List ((Int) × (Int))) (v35 : Int) (b0_0 : Int) (b0_1 : Int) (b1 : Bool) (b2 : List ((Int) × (Int))), iter (interp ([impl_ValidFracF n, impl_isSomeF n, impl_calc_sumF n, impl_calc_subF n, impl_numF n, impl_calc_divF n]) ty 53 0 n impl_ShareEvenlykp (codeAt impl_ShareEvenlyc [1, 1, 1, 1, 1, 1, 0, 1, 0, 0])) (canon 0 (impl_ShareEvenlykp.loop 10)) (kAt ([impl_ValidFracF n, impl_isSomeF n, impl_calc_sumF n, impl_calc_subF n, impl_numF n, impl_calc_divF n]) ty 53 0 n impl_ShareEvenlykp impl_ShareEvenlyc [1, 1, 1, 1, 1, 1, 0, 1, 0] [] (ending ty 0 Go.Proofs.Try.f28.results.toList impl_ShareEvenlyrs impl_ShareEvenlybs)) k { env := [(36, .one (.sc (.int .i64 v36))), (8, .one (.ref 0 0 0 0 0 0)), (7, .one (.ref 1 0 0 0 0 0)), (9, .one (.slice 2 0 none)), (34, .one (.list true (.pair (.int .i64) (.int .i64)) v34)), (35, .one (.sc (.int .i64 v35)))], bx := [(0, .var 34 [.sc (.int .i64 b0_0), .sc (.int .i64 b0_1)]), (1, .var 116 [.sc (.bool b1)]), (2, .row 0 (.pair (.int .i64) (.int .i64)) b2)], nx := 3 } = impl_ShareEvenly_l10 n k v36 v34 v35 b0_0 b0_1 b1 b2
  | 0, _, _, _, _, _, _, _ => by kernel_rfl
  | k + 1, v36, v34, v35, b0_0, b0_1, b1, b2 => by
    have h : iter (interp ([impl_ValidFracF n, impl_isSomeF n, impl_calc_sumF n, impl_calc_subF n, impl_numF n, impl_calc_divF n]) ty 53 0 n impl_ShareEvenlykp (codeAt impl_ShareEvenlyc [1, 1, 1, 1, 1, 1, 0, 1, 0, 0])) (canon 0 (impl_ShareEvenlykp.loop 10)) (kAt ([impl_ValidFracF n, impl_isSomeF n, impl_calc_sumF n, impl_calc_subF n, impl_numF n, impl_calc_divF n]) ty 53 0 n impl_ShareEvenlykp impl_ShareEvenlyc [1, 1, 1, 1, 1, 1, 0, 1, 0] [] (ending ty 0 Go.Proofs.Try.f28.results.toList impl_ShareEvenlyrs impl_ShareEvenlybs)) (k + 1) { env := [(36, .one (.sc (.int .i64 v36))), (8, .one (.ref 0 0 0 0 0 0)), (7, .one (.ref 1 0 0 0 0 0)), (9, .one (.slice 2 0 none)), (34, .one (.list true (.pair (.int .i64) (.int .i64)) v34)), (35, .one (.sc (.int .i64 v35)))], bx := [(0, .var 34 [.sc (.int .i64 b0_0), .sc (.int .i64 b0_1)]), (1, .var 116 [.sc (.bool b1)]), (2, .row 0 (.pair (.int .i64) (.int .i64)) b2)], nx := 3 } = impl_ShareEvenly_t10 n (fun v36 v34 v35 b0_0 b0_1 b1 b2 => iter (interp ([impl_ValidFracF n, impl_isSomeF n, impl_calc_sumF n, impl_calc_subF n, impl_numF n, impl_calc_divF n]) ty 53 0 n impl_ShareEvenlykp (codeAt impl_ShareEvenlyc [1, 1, 1, 1, 1, 1, 0, 1, 0, 0])) (canon 0 (impl_ShareEvenlykp.loop 10)) (kAt ([impl_ValidFracF n, impl_isSomeF n, impl_calc_sumF n, impl_calc_subF n, impl_numF n, impl_calc_divF n]) ty 53 0 n impl_ShareEvenlykp impl_ShareEvenlyc [1, 1, 1, 1, 1, 1, 0, 1, 0] [] (ending ty 0 Go.Proofs.Try.f28.results.toList impl_ShareEvenlyrs impl_ShareEvenlybs)) k { env := [(36, .one (.sc (.int .i64 v36))), (8, .one (.ref 0 0 0 0 0 0)), (7, .one (.ref 1 0 0 0 0 0)), (9, .one (.slice 2 0 none)), (34, .one (.list true (.pair (.int .i64) (.int .i64)) v34)), (35, .one (.sc (.int .i64 v35)))], bx := [(0, .var 34 [.sc (.int .i64 b0_0), .sc (.int .i64 b0_1)]), (1, .var 116 [.sc (.bool b1)]), (2, .row 0 (.pair (.int .i64) (.int .i64)) b2)], nx := 3 }) v36 v34 v35 b0_0 b0_1 b1 b2 := by kernel_rfl
    rw [h]
    have e := congrArg (fun g => impl_ShareEvenly_t10 n g v36 v34 v35 b0_0 b0_1 b1 b2) (funext fun v36 => funext fun v34 => funext fun v35 => funext fun b0_0 => funext fun b0_1 => funext fun b1 => funext fun b2 => impl_ShareEvenly_l10_eq n k v36 v34 v35 b0_0 b0_1 b1 b2)
    exact e

theorem impl_ShareEvenly_eq (n : Nat) (a0 : List ((Int) × (Int))) (a1 : (Int) × (Int)) : runBody ([impl_ValidFracF n, impl_isSomeF n, impl_calc_sumF n, impl_calc_subF n, impl_numF n, impl_calc_divF n]) ty 53 n impl_ShareEvenlykp impl_ShareEvenlyc Go.Proofs.Try.f28.results.toList impl_ShareEvenlyrs impl_ShareEvenlysp impl_ShareEvenlybs (a0, (a1, ())) () = impl_ShareEvenly n a0 a1 := by
  have h : runBody ([impl_ValidFracF n, impl_isSomeF n, impl_calc_sumF n, impl_calc_subF n, impl_numF n, impl_calc_divF n]) ty 53 n impl_ShareEvenlykp impl_ShareEvenlyc Go.Proofs.Try.f28.results.toList impl_ShareEvenlyrs impl_ShareEvenlysp impl_ShareEvenlybs (a0, (a1, ())) () = impl_ShareEvenly_t n (fun k v36 v34 v35 b0_0 b0_1 b1 b2 => iter (interp ([impl_ValidFracF n, impl_isSomeF n, impl_calc_sumF n, impl_calc_subF n, impl_numF n, impl_calc_divF n]) ty 53 0 n impl_ShareEvenlykp (codeAt impl_ShareEvenlyc [1, 1, 1, 1, 1, 1, 0, 1, 0, 0])) (canon 0 (impl_ShareEvenlykp.loop 10)) (kAt ([impl_ValidFracF n, impl_isSomeF n, impl_calc_sumF n, impl_calc_subF n, impl_numF n, impl_calc_divF n]) ty 53 0 n impl_ShareEvenlykp impl_ShareEvenlyc [1, 1, 1, 1, 1, 1, 0, 1, 0] [] (ending ty 0 Go.Proofs.Try.f28.results.toList impl_ShareEvenlyrs impl_ShareEvenlybs)) k { env := [(36, .one (.sc (.int .i64 v36))), (8, .one (.ref 0 0 0 0 0 0)), (7, .one (.ref 1 0 0 0 0 0)), (9, .one (.slice 2 0 none)), (34, .one (.list true (.pair (.int .i64) (.int .i64)) v34)), (35, .one (.sc (.int .i64 v35)))], bx := [(0, .var 34 [.sc (.int .i64 b0_0), .sc (.int .i64 b0_1)]), (1, .var 116 [.sc (.bool b1)]), (2, .row 0 (.pair (.int .i64) (.int .i64)) b2)], nx := 3 }) a0 a1 := by kernel_rfl
  rw [h]
  have e := congrArg (fun h10 => impl_ShareEvenly_t n h10 a0 a1) (funext fun k => funext fun v36 => funext fun v34 => funext fun v35 => funext fun b0_0 => funext fun b0_1 => funext fun b1 => funext fun b2 => impl_ShareEvenly_l10_eq n k v36 v34 v35 b0_0 b0_1 b1 b2)
  exact e

theorem impl_ShareEvenly_ok (n : Nat) : FunOk P (impl_ShareEvenlyF n) :=
  funOk_mk (C := [impl_ValidFracF n, impl_isSomeF n, impl_calc_sumF n, impl_calc_subF n, impl_numF n, impl_calc_divF n]) (N := 53) (kp := impl_ShareEvenlykp) (c := impl_ShareEvenlyc) (n := n) (G := fun x y => impl_ShareEvenly n x.1 x.2.1) follows (AllOk.mem (⟨impl_ValidFrac_ok n, ⟨impl_isSome_ok n, ⟨impl_calc_sum_ok n, ⟨impl_calc_sub_ok n, ⟨impl_num_ok n, ⟨impl_calc_div_ok n, trivial⟩⟩⟩⟩⟩⟩ : AllOk P ([impl_ValidFracF n, impl_isSomeF n, impl_calc_sumF n, impl_calc_subF n, impl_numF n, impl_calc_divF n]))) (by kernel_rfl : P.funcs[28]? = some Go.Proofs.Try.f28) (by kernel_rfl) (by kernel_rfl) (by kernel_rfl)
    (fun x y => impl_ShareEvenly_eq n x.1 x.2.1) (fun _ _ => map_same (fun _ => rfl) _) (fun _ _ _ _ => rfl)

abbrev laws_eqFracsp : List Sp := [.v true (.pair (.int .i64) (.int .i64)), .v true (.pair (.int .i64) (.int .i64))]
abbrev laws_eqFracbs : List (Bs × Bool) := []
abbrev laws_eqFracrs : List (Bool × List Rp) := [(false, [.v false .bool])]
noncomputable def laws_eqFrackp : Keep := { loop := fun id => match id with | _ => [], join := fun id => match id with | _ => none }
noncomputable def laws_eqFracc : Code := bodyOf Go.Proofs.Try.f75
noncomputable def laws_eqFracF (n : Nat) : Fun := { id := 75, sp := laws_eqFracsp, bs := laws_eqFracbs, rs := laws_eqFracrs, f := fun x y => laws_eqFrac n x.1 x.2.1 }

theorem laws_eqFrac_eq (n : Nat) (a0 : (Int) × (Int)) (a1 : (Int) × (Int)) : runBody ([]) ty 15 n laws_eqFrackp laws_eqFracc Go.Proofs.Try.f75.results.toList laws_eqFracrs laws_eqFracsp laws_eqFracbs (a0, (a1, ())) () = laws_eqFrac n a0 a1 := by
  have h : runBody ([]) ty 15 n laws_eqFrackp laws_eqFracc Go.Proofs.Try.f75.results.toList laws_eqFracrs laws_eqFracsp laws_eqFracbs (a0, (a1, ())) () = laws_eqFrac_t n a0 a1 := by kernel_rfl
  rw [h]
  rfl

theorem laws_eqFrac_ok (n : Nat) : FunOk P (laws_eqFracF n) :=
  funOk_mk (C := []) (N := 15) (kp := laws_eqFrackp) (c := laws_eqFracc) (n := n) (G := fun x y => laws_eqFrac n x.1 x.2.1) follows (AllOk.mem (trivial : AllOk P ([]))) (by kernel_rfl : P.funcs[75]? = some Go.Proofs.Try.f75) (by kernel_rfl) (by kernel_rfl) (by kernel_rfl)
    (fun x y => laws_eqFrac_eq n x.1 x.2.1) (fun _ _ => map_same (fun _ => rfl) _) (fun _ _ _ _ => rfl)

abbrev laws_eqFracSsp : List Sp := [.v false (.list (.pair (.int .i64) (.int .i64))), .v false (.list (.pair (.int .i64) (.int .i64)))]
abbrev laws_eqFracSbs : List (Bs × Bool) := []
abbrev laws_eqFracSrs : List (Bool × List Rp) := [(false, [.v false .bool])]
noncomputable def laws_eqFracSkp : Keep := { loop := fun id => match id with | 4 => [5, 1, 0] | _ => [], join := fun id => match id with | _ => none }
noncomputable def laws_eqFracSc : Code := bodyOf Go.Proofs.Try.f23
noncomputable def laws_eqFracSF (n : Nat) : Fun := { id := 23, sp := laws_eqFracSsp, bs := laws_eqFracSbs, rs := laws_eqFracSrs, f := fun x y => laws_eqFracS n x.1 x.2.1 }

theorem laws_eqFracS_l4_eq (n : Nat) : ∀ (k : Nat) (v5 : Int) (v1 : List ((Int) × (Int))) (v0 : List ((Int) × (Int))), iter (interp ([laws_eqFracF n]) ty 27 0 n laws_eqFracSkp (codeAt laws_eqFracSc [1, 1, 0, 1, 0, 0])) (canon 0 (laws_eqFracSkp.loop 4)) (kAt ([laws_eqFracF n]) ty 27 0 n laws_eqFracSkp laws_eqFracSc [1, 1, 0, 1, 0] [] (ending ty 0 Go.Proofs.Try.f23.results.toList laws_eqFracSrs laws_eqFracSbs)) k { env := [(5, .one (.sc (.int .i64 v5))), (1, .one (.list true (.pair (.int .i64) (.int .i64)) v1)), (0, .one (.list true (.pair (.int .i64) (.int .i64)) v0))], bx := [], nx := 0 } = laws_eqFracS_l4 n k v5 v1 v0
  | 0, _, _, _ => by kernel_rfl
  | k + 1, v5, v1, v0 => by
    have h : iter (interp ([laws_eqFracF n]) ty 27 0 n laws_eqFracSkp (codeAt laws_eqFracSc [1, 1, 0, 1, 0, 0])) (canon 0 (laws_eqFracSkp.loop 4)) (kAt ([laws_eqFracF n]) ty 27 0 n laws_eqFracSkp laws_eqFracSc [1, 1, 0, 1, 0] [] (ending ty 0 Go.Proofs.Try.f23.results.toList laws_eqFracSrs laws_eqFracSbs)) (k + 1) { env := [(5, .one (.sc (.int .i64 v5))), (1, .one (.list true (.pair (.int .i64) (.int .i64)) v1)), (0, .one (.list true (.pair (.int .i64) (.int .i64)) v0))], bx := [], nx := 0 } = laws_eqFracS_t4 n (fun v5 v1 v0 => iter (interp ([laws_eqFracF n]) ty 27 0 n laws_eqFracSkp (codeAt laws_eqFracSc [1, 1, 0, 1, 0, 0])) (canon 0 (laws_eqFracSkp.loop 4)) (kAt ([laws_eqFracF n]) ty 27 0 n laws_eqFracSkp laws_eqFracSc [1, 1, 0, 1, 0] [] (ending ty 0 Go.Proofs.Try.f23.results.toList laws_eqFracSrs laws_eqFracSbs)) k { env := [(5, .one (.sc (.int .i64 v5))), (1, .one (.list true (.pair (.int .i64) (.int .i64)) v1)), (0, .one (.list true (.pair (.int .i64) (.int .i64)) v0))], bx := [], nx := 0 }) v5 v1 v0 := by kernel_rfl
    rw [h]
    have e := congrArg (fun g => laws_eqFracS_t4 n g v5 v1 v0) (funext fun v5 => funext fun v1 => funext fun v0 => laws_eqFracS_l4_eq n k v5 v1 v0)
    exact e

theorem laws_eqFracS_eq (n : Nat) (a0 : List ((Int) × (Int))) (a1 : List ((Int) × (Int))) : runBody ([laws_eqFracF n]) ty 27 n laws_eqFracSkp laws_eqFracSc Go.Proofs.Try.f23.results.toList laws_eqFracSrs laws_eqFracSsp laws_eqFracSbs (a0, (a1, ())) () = laws_eqFracS n a0 a1 := by
  have h : runBody ([laws_eqFracF n]) ty 27 n laws_eqFracSkp laws_eqFracSc Go.Proofs.Try.f23.results.toList laws_eqFracSrs laws_eqFracSsp laws_eqFracSbs (a0, (a1, ())) () = laws_eqFracS_t n (fun k v5 v1 v0 => iter (interp ([laws_eqFracF n]) ty 27 0 n laws_eqFracSkp (codeAt laws_eqFracSc [1, 1, 0, 1, 0, 0])) (canon 0 (laws_eqFracSkp.loop 4)) (kAt ([laws_eqFracF n]) ty 27 0 n laws_eqFracSkp laws_eqFracSc [1, 1, 0, 1, 0] [] (ending ty 0 Go.Proofs.Try.f23.results.toList laws_eqFracSrs laws_eqFracSbs)) k { env := [(5, .one (.sc (.int .i64 v5))), (1, .one (.list true (.pair (.int .i64) (.int .i64)) v1)), (0, .one (.list true (.pair (.int .i64) (.int .i64)) v0))], bx := [], nx := 0 }) a0 a1 := by kernel_rfl
  rw [h]
  have e := congrArg (fun h4 => laws_eqFracS_t n h4 a0 a1) (funext fun k => funext fun v5 => funext fun v1 => funext fun v0 => laws_eqFracS_l4_eq n k v5 v1 v0)
  exact e

theorem laws_eqFracS_ok (n : Nat) : FunOk P (laws_eqFracSF n) :=
  funOk_mk (C := [laws_eqFracF n]) (N := 27) (kp := laws_eqFracSkp) (c := laws_eqFracSc) (n := n) (G := fun x y => laws_eqFracS n x.1 x.2.1) follows (AllOk.mem (⟨laws_eqFrac_ok n, trivial⟩ : AllOk P ([laws_eqFracF n]))) (by kernel_rfl : P.funcs[23]? = some Go.Proofs.Try.f23) (by kernel_rfl) (by kernel_rfl) (by kernel_rfl)
    (fun x y => laws_eqFracS_eq n x.1 x.2.1) (fun _ _ => map_same (fun _ => rfl) _) (fun _ _ _ _ => rfl)

abbrev laws_markFracSsp : List Sp := [.sl 0, .v false (.int .i64)]
abbrev laws_markFracSbs : List (Bs × Bool) := [(.row  (.pair (.int .i64) (.int .i64)), true)]
abbrev laws_markFracSrs : List (Bool × List Rp) := [(false, [.v false (.int .i64)])]
noncomputable def laws_markFracSkp : Keep := { loop := fun id => match id with | 2 => [5, 0, 1] | _ => [], join := fun id => match id with | _ => none }
noncomputable def laws_markFracSc : Code := bodyOf Go.Proofs.Try.f24
noncomputable def laws_markFracSF (n : Nat) : Fun := { id := 24, sp := laws_markFracSsp, bs := laws_markFracSbs, rs := laws_markFracSrs, f := fun x y => laws_markFracS n x.2.1 y.1 }

theorem laws_markFracS_l2_eq (n : Nat) : ∀ (k : Nat) (v5 : Int) (v1 : Int) (b0 : List ((Int) × (Int))), iter (interp ([]) ty 27 1 n laws_markFracSkp (codeAt laws_markFracSc [1, 0, 1, 0, 0])) (canon 1 (laws_markFracSkp.loop 2)) (kAt ([]) ty 27 1 n laws_markFracSkp laws_markFracSc [1, 0, 1, 0] [] (ending ty 1 Go.Proofs.Try.f24.results.toList laws_markFracSrs laws_markFracSbs)) k { env := [(5, .one (.sc (.int .i64 v5))), (0, .one (.slice 0 0 none)), (1, .one (.sc (.int .i64 v1)))], bx := [(0, .row 0 (.pair (.int .i64) (.int .i64)) b0)], nx := 1 } = laws_markFracS_l2 n k v5 v1 b0
  | 0, _, _, _ => by kernel_rfl
  | k + 1, v5, v1, b0 => by
    have h : iter (interp ([]) ty 27 1 n laws_markFracSkp (codeAt laws_markFracSc [1, 0, 1, 0, 0])) (canon 1 (laws_markFracSkp.loop 2)) (kAt ([]) ty 27 1 n laws_markFracSkp laws_markFracSc [1, 0, 1, 0] [] (ending ty 1 Go.Proofs.Try.f24.results.toList laws_markFracSrs laws_markFracSbs)) (k + 1) { env := [(5, .one (.sc (.int .i64 v5))), (0, .one (.slice 0 0 none)), (1, .one (.sc (.int .i64 v1)))], bx := [(0, .row 0 (.pair (.int .i64) (.int .i64)) b0)], nx := 1 } = laws_markFracS_t2 n (fun v5 v1 b0 => iter (interp ([]) ty 27 1 n laws_markFracSkp (codeAt laws_markFracSc [1, 0, 1, 0, 0])) (canon 1 (laws_markFracSkp.loop 2)) (kAt ([]) ty 27 1 n laws_markFracSkp laws_markFracSc [1, 0, 1, 0] [] (ending ty 1 Go.Proofs.Try.f24.results.toList laws_markFracSrs laws_markFracSbs)) k { env := [(5, .one (.sc (.int .i64 v5))), (0, .one (.slice 0 0 none)), (1, .one (.sc (.int .i64 v1)))], bx := [(0, .row 0 (.pair (.int .i64) (.int .i64)) b0)], nx := 1 }) v5 v1 b0 := by kernel_rfl
    rw [h]
    have e := congrArg (fun g => laws_markFracS_t2 n g v5 v1 b0) (funext fun v5 => funext fun v1 => funext fun b0 => laws_markFracS_l2_eq n k v5 v1 b0)
    exact e

theorem laws_markFracS_eq (n : Nat) (a1 : Int) (b0 : List ((Int) × (Int))) : runBody ([]) ty 27 n laws_markFracSkp laws_markFracSc Go.Proofs.Try.f24.results.toList laws_markFracSrs laws_markFracSsp laws_markFracSbs ((), (a1, ())) (b0, ()) = laws_markFracS n a1 b0 := by
  have h : runBody ([]) ty 27 n laws_markFracSkp laws_markFracSc Go.Proofs.Try.f24.results.toList laws_markFracSrs laws_markFracSsp laws_markFracSbs ((), (a1, ())) (b0, ()) = laws_markFracS_t n (fun k v5 v1 b0 => iter (interp ([]) ty 27 1 n laws_markFracSkp (codeAt laws_markFracSc [1, 0, 1, 0, 0])) (canon 1 (laws_markFracSkp.loop 2)) (kAt ([]) ty 27 1 n laws_markFracSkp laws_markFracSc [1, 0, 1, 0] [] (ending ty 1 Go.Proofs.Try.f24.results.toList laws_markFracSrs laws_markFracSbs)) k { env := [(5, .one (.sc (.int .i64 v5))), (0, .one (.slice 0 0 none)), (1, .one (.sc (.int .i64 v1)))], bx := [(0, .row 0 (.pair (.int .i64) (.int .i64)) b0)], nx := 1 }) a1 b0 := by kernel_rfl
  rw [h]
  have e := congrArg (fun h2 => laws_markFracS_t n h2 a1 b0) (funext fun k => funext fun v5 => funext fun v1 => funext fun b0 => laws_markFracS_l2_eq n k v5 v1 b0)
  exact e

theorem laws_markFracS_ok (n : Nat) : FunOk P (laws_markFracSF n) :=
  funOk_mk (C := []) (N := 27) (kp := laws_markFracSkp) (c := laws_markFracSc) (n := n) (G := fun x y => laws_markFracS n x.2.1 y.1) follows (AllOk.mem (trivial : AllOk P ([]))) (by kernel_rfl : P.funcs[24]? = some Go.Proofs.Try.f24) (by kernel_rfl) (by kernel_rfl) (by kernel_rfl)
    (fun x y => laws_markFracS_eq n x.2.1 y.1) (fun _ _ => map_same (fun _ => rfl) _) (fun _ _ _ _ => rfl)

abbrev laws_heldFracSsp : List Sp := [.v false (.list (.pair (.int .i64) (.int .i64))), .v false (.int .i64)]
abbrev laws_heldFracSbs : List (Bs × Bool) := []
abbrev laws_heldFracSrs : List (Bool × List Rp) := [(false, [.v false (.int .i64)])]
noncomputable def laws_heldFracSkp : Keep := { loop := fun id => match id with | 2 => [5, 0, 1] | _ => [], join := fun id => match id with | _ => none }
noncomputable def laws_heldFracSc : Code := bodyOf Go.Proofs.Try.f29
noncomputable def laws_heldFracSF (n : Nat) : Fun := { id := 29, sp := laws_heldFracSsp, bs := laws_heldFracSbs, rs := laws_heldFracSrs, f := fun x y => laws_heldFracS n x.1 x.2.1 }

theorem laws_heldFracS_l2_eq (n : Nat) : ∀ (k : Nat) (v5 : Int) (v0 : List ((Int) × (Int))) (v1 : Int), iter (interp ([]) ty 31 0 n laws_heldFracSkp (codeAt laws_heldFracSc [1, 0, 1, 0, 0])) (canon 0 (laws_heldFracSkp.loop 2)) (kAt ([]) ty 31 0 n laws_heldFracSkp laws_heldFracSc [1, 0, 1, 0] [] (ending ty 0 Go.Proofs.Try.f29.results.toList laws_heldFracSrs laws_heldFracSbs)) k { env := [(5, .one (.sc (.int .i64 v5))), (0, .one (.list true (.pair (.int .i64) (.int .i64)) v0)), (1, .one (.sc (.int .i64 v1)))], bx := [], nx := 0 } = laws_heldFracS_l2 n k v5 v0 v1
  | 0, _, _, _ => by kernel_rfl
  | k + 1, v5, v0, v1 => by
    have h : iter (interp ([]) ty 31 0 n laws_heldFracSkp (codeAt laws_heldFracSc [1, 0, 1, 0, 0])) (canon 0 (laws_heldFracSkp.loop 2)) (kAt ([]) ty 31 0 n laws_heldFracSkp laws_heldFracSc [1, 0, 1, 0] [] (ending ty 0 Go.Proofs.Try.f29.results.toList laws_heldFracSrs laws_heldFracSbs)) (k + 1) { env := [(5, .one (.sc (.int .i64 v5))), (0, .one (.list true (.pair (.int .i64) (.int .i64)) v0)), (1, .one (.sc (.int .i64 v1)))], bx := [], nx := 0 } = laws_heldFracS_t2 n (fun v5 v0 v1 => iter (interp ([]) ty 31 0 n laws_heldFracSkp (codeAt laws_heldFracSc [1, 0, 1, 0, 0])) (canon 0 (laws_heldFracSkp.loop 2)) (kAt ([]) ty 31 0 n laws_heldFracSkp laws_heldFracSc [1, 0, 1, 0] [] (ending ty 0 Go.Proofs.Try.f29.results.toList laws_heldFracSrs laws_heldFracSbs)) k { env := [(5, .one (.sc (.int .i64 v5))), (0, .one (.list true (.pair (.int .i64) (.int .i64)) v0)), (1, .one (.sc (.int .i64 v1)))], bx := [], nx := 0 }) v5 v0 v1 := by kernel_rfl
    rw [h]
    have e := congrArg (fun g => laws_heldFracS_t2 n g v5 v0 v1) (funext fun v5 => funext fun v0 => funext fun v1 => laws_heldFracS_l2_eq n k v5 v0 v1)
    exact e

theorem laws_heldFracS_eq (n : Nat) (a0 : List ((Int) × (Int))) (a1 : Int) : runBody ([]) ty 31 n laws_heldFracSkp laws_heldFracSc Go.Proofs.Try.f29.results.toList laws_heldFracSrs laws_heldFracSsp laws_heldFracSbs (a0, (a1, ())) () = laws_heldFracS n a0 a1 := by
  have h : runBody ([]) ty 31 n laws_heldFracSkp laws_heldFracSc Go.Proofs.Try.f29.results.toList laws_heldFracSrs laws_heldFracSsp laws_heldFracSbs (a0, (a1, ())) () = laws_heldFracS_t n (fun k v5 v0 v1 => iter (interp ([]) ty 31 0 n laws_heldFracSkp (codeAt laws_heldFracSc [1, 0, 1, 0, 0])) (canon 0 (laws_heldFracSkp.loop 2)) (kAt ([]) ty 31 0 n laws_heldFracSkp laws_heldFracSc [1, 0, 1, 0] [] (ending ty 0 Go.Proofs.Try.f29.results.toList laws_heldFracSrs laws_heldFracSbs)) k { env := [(5, .one (.sc (.int .i64 v5))), (0, .one (.list true (.pair (.int .i64) (.int .i64)) v0)), (1, .one (.sc (.int .i64 v1)))], bx := [], nx := 0 }) a0 a1 := by kernel_rfl
  rw [h]
  have e := congrArg (fun h2 => laws_heldFracS_t n h2 a0 a1) (funext fun k => funext fun v5 => funext fun v0 => funext fun v1 => laws_heldFracS_l2_eq n k v5 v0 v1)
  exact e

theorem laws_heldFracS_ok (n : Nat) : FunOk P (laws_heldFracSF n) :=
  funOk_mk (C := []) (N := 31) (kp := laws_heldFracSkp) (c := laws_heldFracSc) (n := n) (G := fun x y => laws_heldFracS n x.1 x.2.1) follows (AllOk.mem (trivial : AllOk P ([]))) (by kernel_rfl : P.funcs[29]? = some Go.Proofs.Try.f29) (by kernel_rfl) (by kernel_rfl) (by kernel_rfl)
    (fun x y => laws_heldFracS_eq n x.1 x.2.1) (fun _ _ => map_same (fun _ => rfl) _) (fun _ _ _ _ => rfl)

abbrev laws_FnExactShareEvenlysp : List Sp := [.v false (.list (.pair (.int .i64) (.int .i64))), .v true (.pair (.int .i64) (.int .i64))]
abbrev laws_FnExactShareEvenlybs : List (Bs × Bool) := []
abbrev laws_FnExactShareEvenlyrs : List (Bool × List Rp) := [(false, [.v false .bool])]
noncomputable def laws_FnExactShareEvenlykp : Keep := { loop := fun id => match id with | _ => [], join := fun id => match id with | _ => none }
noncomputable def laws_FnExactShareEvenlyc : Code := bodyOf Go.Proofs.Try.f5
noncomputable def laws_FnExactShareEvenlyF (n : Nat) : Fun := { id := 5, sp := laws_FnExactShareEvenlysp, bs := laws_FnExactShareEvenlybs, rs := laws_FnExactShareEvenlyrs, f := fun x y => laws_FnExactShareEvenly n x.1 x.2.1 }

theorem laws_FnExactShareEvenly_eq (n : Nat) (a0 : List ((Int) × (Int))) (a1 : (Int) × (Int)) : runBody ([laws_szFracSF n, laws_toFracSF n, laws_toFracF n, spec_ShareEvenlyF n, impl_ShareEvenlyF n, laws_eqFracSF n, laws_markFracSF n, laws_heldFracSF n]) ty 104 n laws_FnExactShareEvenlykp laws_FnExactShareEvenlyc Go.Proofs.Try.f5.results.toList laws_FnExactShareEvenlyrs laws_FnExactShareEvenlysp laws_FnExactShareEvenlybs (a0, (a1, ())) () = laws_FnExactShareEvenly n a0 a1 := by
  have h : runBody ([laws_szFracSF n, laws_toFracSF n, laws_toFracF n, spec_ShareEvenlyF n, impl_ShareEvenlyF n, laws_eqFracSF n, laws_markFracSF n, laws_heldFracSF n]) ty 104 n laws_FnExactShareEvenlykp laws_FnExactShareEvenlyc Go.Proofs.Try.f5.results.toList laws_FnExactShareEvenlyrs laws_FnExactShareEvenlysp laws_FnExactShareEvenlybs (a0, (a1, ())) () = laws_FnExactShareEvenly_t n a0 a1 := by kernel_rfl
  rw [h]
  rfl

theorem laws_FnExactShareEvenly_ok (n : Nat) : FunOk P (laws_FnExactShareEvenlyF n) :=
  funOk_mk (C := [laws_szFracSF n, laws_toFracSF n, laws_toFracF n, spec_ShareEvenlyF n, impl_ShareEvenlyF n, laws_eqFracSF n, laws_markFracSF n, laws_heldFracSF n]) (N := 104) (kp := laws_FnExactShareEvenlykp) (c := laws_FnExactShareEvenlyc) (n := n) (G := fun x y => laws_FnExactShareEvenly n x.1 x.2.1) follows (AllOk.mem (⟨laws_szFracS_ok n, ⟨laws_toFracS_ok n, ⟨laws_toFrac_ok n, ⟨spec_ShareEvenly_ok n, ⟨impl_ShareEvenly_ok n, ⟨laws_eqFracS_ok n, ⟨laws_markFracS_ok n, ⟨laws_heldFracS_ok n, trivial⟩⟩⟩⟩⟩⟩⟩⟩ : AllOk P ([laws_szFracSF n, laws_toFracSF n, laws_toFracF n, spec_ShareEvenlyF n, impl_ShareEvenlyF n, laws_eqFracSF n, laws_markFracSF n, laws_heldFracSF n]))) (by kernel_rfl : P.funcs[5]? = some Go.Proofs.Try.f5) (by kernel_rfl) (by kernel_rfl) (by kernel_rfl)
    (fun x y => laws_FnExactShareEvenly_eq n x.1 x.2.1) (fun _ _ => map_same (fun _ => rfl) _) (fun _ _ _ _ => rfl)

end Go.Abs
