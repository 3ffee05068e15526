import Derived.Test.YtmkhdpdepomohaaDErrorsFrom0
import Derived.Test.YtmkhdpdepomohaaProg
import Derived.Test.YtmkhdpdepomohaaRow
import Derived.KernelRfl
namespace Go.Abs
open Go.Proofs
set_option maxRecDepth 100000
set_option linter.unusedVariables false

noncomputable abbrev P : Program := Try.prog
noncomputable abbrev ty : Nat → Option TyI := tyOf P
def bodyOf (f : Func) : Code := match f.body with | some c => c | none => .skip
theorem follows : P.follows .mixedOrders = true := by kernel_rfl

abbrev laws_szFracSsp : List Sp := [.v false (.list (.pair (.int .i64) (.int .i64))), .v false (.int .i64)]
abbrev laws_szFracSbs : List (Bs × Bool) := []
abbrev laws_szFracSrs : List (Bool × List Rp) := [(false, [.v false (.int .i64)])]
noncomputable def laws_szFracSkp : Keep := { loop := fun id => match id with | _ => ([], []), join := fun id => match id with | _ => none }
noncomputable def laws_szFracSc : Code := bodyOf Go.Proofs.Try.f38
noncomputable def laws_szFracSF (n : Nat) : Fun := { id := 38, sp := laws_szFracSsp, bs := laws_szFracSbs, rs := laws_szFracSrs, f := fun x y => laws_szFracS n x.1 x.2.1 }

theorem laws_szFracS_eq (n : Nat) (a0 : List ((Int) × (Int))) (a1 : Int) : runBody ([]) ty 12 n laws_szFracSkp laws_szFracSc Go.Proofs.Try.f38.results.toList laws_szFracSrs laws_szFracSsp laws_szFracSbs (a0, (a1, ())) () = laws_szFracS n a0 a1 := by
  have h : runBody ([]) ty 12 n laws_szFracSkp laws_szFracSc Go.Proofs.Try.f38.results.toList laws_szFracSrs laws_szFracSsp laws_szFracSbs (a0, (a1, ())) () = laws_szFracS_t n a0 a1 := by kernel_rfl
  rw [h]
  rfl

theorem laws_szFracS_ok (n : Nat) : FunOk P (laws_szFracSF n) :=
  funOk_mk (C := []) (N := 12) (kp := laws_szFracSkp) (c := laws_szFracSc) (n := n) (G := fun x y => laws_szFracS n x.1 x.2.1) follows (AllOk.mem (trivial : AllOk P ([]))) (by kernel_rfl : P.funcs[38]? = some Go.Proofs.Try.f38) (by kernel_rfl) (by kernel_rfl) (by kernel_rfl)
    (fun x y => laws_szFracS_eq n x.1 x.2.1) (fun _ _ => map_same (fun _ => rfl) _) (fun _ _ _ _ => rfl)

abbrev laws_toFracsp : List Sp := [.v true (.pair (.int .i64) (.int .i64))]
abbrev laws_toFracbs : List (Bs × Bool) := []
abbrev laws_toFracrs : List (Bool × List Rp) := [(true, [.v false (.pair (.int .i64) (.int .i64))])]
noncomputable def laws_toFrackp : Keep := { loop := fun id => match id with | _ => ([], []), join := fun id => match id with | _ => none }
noncomputable def laws_toFracc : Code := bodyOf Go.Proofs.Try.f41
noncomputable def laws_toFracF (n : Nat) : Fun := { id := 41, sp := laws_toFracsp, bs := laws_toFracbs, rs := laws_toFracrs, f := fun x y => laws_toFrac n x.1 }

theorem laws_toFrac_eq (n : Nat) (a0 : (Int) × (Int)) : runBody ([]) ty 11 n laws_toFrackp laws_toFracc Go.Proofs.Try.f41.results.toList laws_toFracrs laws_toFracsp laws_toFracbs (a0, ()) () = laws_toFrac n a0 := by
  have h : runBody ([]) ty 11 n laws_toFrackp laws_toFracc Go.Proofs.Try.f41.results.toList laws_toFracrs laws_toFracsp laws_toFracbs (a0, ()) () = laws_toFrac_t n a0 := by kernel_rfl
  rw [h]
  rfl

theorem laws_toFrac_ok (n : Nat) : FunOk P (laws_toFracF n) :=
  funOk_mk (C := []) (N := 11) (kp := laws_toFrackp) (c := laws_toFracc) (n := n) (G := fun x y => laws_toFrac n x.1) follows (AllOk.mem (trivial : AllOk P ([]))) (by kernel_rfl : P.funcs[41]? = some Go.Proofs.Try.f41) (by kernel_rfl) (by kernel_rfl) (by kernel_rfl)
    (fun x y => laws_toFrac_eq n x.1) (fun _ _ => map_same (fun _ => rfl) _) (fun _ _ _ _ => rfl)

abbrev laws_toFracSsp : List Sp := [.v false (.list (.pair (.int .i64) (.int .i64)))]
abbrev laws_toFracSbs : List (Bs × Bool) := []
abbrev laws_toFracSrs : List (Bool × List Rp) := [(false, [.new  (.pair (.int .i64) (.int .i64))])]
noncomputable def laws_toFracSkp : Keep := { loop := fun id => match id with | 3 => ([4, 0, 3], []) | _ => ([], []), join := fun id => match id with | _ => none }
noncomputable def laws_toFracSc : Code := bodyOf Go.Proofs.Try.f40
noncomputable def laws_toFracSF (n : Nat) : Fun := { id := 40, sp := laws_toFracSsp, bs := laws_toFracSbs, rs := laws_toFracSrs, f := fun x y => laws_toFracS n x.1 }

theorem laws_toFracS_l3_eq (n : Nat) : ∀ (k : Nat) (v4 : Int) (v0 : List ((Int) × (Int))) (b0 : List ((Int) × (Int))), iter (interp ([laws_toFracF n]) ty 23 0 n laws_toFracSkp (codeAt laws_toFracSc [1, 1, 0, 1, 0, 0])) (canon 0 (laws_toFracSkp.loop 3)) (kAt ([laws_toFracF n]) ty 23 0 n laws_toFracSkp laws_toFracSc [1, 1, 0, 1, 0] [] (ending ty 0 Go.Proofs.Try.f40.results.toList laws_toFracSrs laws_toFracSbs)) k { env := [(4, .one (.sc (.int .i64 v4))), (0, .one (.list true (.pair (.int .i64) (.int .i64)) v0)), (3, .one (.slice 0 0 none))], bx := [(0, .row 0 (.pair (.int .i64) (.int .i64)) b0)], nx := 1 } = laws_toFracS_l3 n k v4 v0 b0
  | 0, _, _, _ => by kernel_rfl
  | k + 1, v4, v0, b0 => by
    have h : iter (interp ([laws_toFracF n]) ty 23 0 n laws_toFracSkp (codeAt laws_toFracSc [1, 1, 0, 1, 0, 0])) (canon 0 (laws_toFracSkp.loop 3)) (kAt ([laws_toFracF n]) ty 23 0 n laws_toFracSkp laws_toFracSc [1, 1, 0, 1, 0] [] (ending ty 0 Go.Proofs.Try.f40.results.toList laws_toFracSrs laws_toFracSbs)) (k + 1) { env := [(4, .one (.sc (.int .i64 v4))), (0, .one (.list true (.pair (.int .i64) (.int .i64)) v0)), (3, .one (.slice 0 0 none))], bx := [(0, .row 0 (.pair (.int .i64) (.int .i64)) b0)], nx := 1 } = laws_toFracS_t3 n (fun v4 v0 b0 => iter (interp ([laws_toFracF n]) ty 23 0 n laws_toFracSkp (codeAt laws_toFracSc [1, 1, 0, 1, 0, 0])) (canon 0 (laws_toFracSkp.loop 3)) (kAt ([laws_toFracF n]) ty 23 0 n laws_toFracSkp laws_toFracSc [1, 1, 0, 1, 0] [] (ending ty 0 Go.Proofs.Try.f40.results.toList laws_toFracSrs laws_toFracSbs)) k { env := [(4, .one (.sc (.int .i64 v4))), (0, .one (.list true (.pair (.int .i64) (.int .i64)) v0)), (3, .one (.slice 0 0 none))], bx := [(0, .row 0 (.pair (.int .i64) (.int .i64)) b0)], nx := 1 }) v4 v0 b0 := by kernel_rfl
    rw [h]
    have e := congrArg (fun g => laws_toFracS_t3 n g v4 v0 b0) (funext fun v4 => funext fun v0 => funext fun b0 => laws_toFracS_l3_eq n k v4 v0 b0)
    exact e

theorem laws_toFracS_eq (n : Nat) (a0 : List ((Int) × (Int))) : runBody ([laws_toFracF n]) ty 23 n laws_toFracSkp laws_toFracSc Go.Proofs.Try.f40.results.toList laws_toFracSrs laws_toFracSsp laws_toFracSbs (a0, ()) () = laws_toFracS n a0 := by
  have h : runBody ([laws_toFracF n]) ty 23 n laws_toFracSkp laws_toFracSc Go.Proofs.Try.f40.results.toList laws_toFracSrs laws_toFracSsp laws_toFracSbs (a0, ()) () = laws_toFracS_t n (fun k v4 v0 b0 => iter (interp ([laws_toFracF n]) ty 23 0 n laws_toFracSkp (codeAt laws_toFracSc [1, 1, 0, 1, 0, 0])) (canon 0 (laws_toFracSkp.loop 3)) (kAt ([laws_toFracF n]) ty 23 0 n laws_toFracSkp laws_toFracSc [1, 1, 0, 1, 0] [] (ending ty 0 Go.Proofs.Try.f40.results.toList laws_toFracSrs laws_toFracSbs)) k { env := [(4, .one (.sc (.int .i64 v4))), (0, .one (.list true (.pair (.int .i64) (.int .i64)) v0)), (3, .one (.slice 0 0 none))], bx := [(0, .row 0 (.pair (.int .i64) (.int .i64)) b0)], nx := 1 }) a0 := by kernel_rfl
  rw [h]
  have e := congrArg (fun h3 => laws_toFracS_t n h3 a0) (funext fun k => funext fun v4 => funext fun v0 => funext fun b0 => laws_toFracS_l3_eq n k v4 v0 b0)
  exact e

theorem laws_toFracS_ok (n : Nat) : FunOk P (laws_toFracSF n) :=
  funOk_mk (C := [laws_toFracF n]) (N := 23) (kp := laws_toFracSkp) (c := laws_toFracSc) (n := n) (G := fun x y => laws_toFracS n x.1) follows (AllOk.mem (⟨laws_toFrac_ok n, trivial⟩ : AllOk P ([laws_toFracF n]))) (by kernel_rfl : P.funcs[40]? = some Go.Proofs.Try.f40) (by kernel_rfl) (by kernel_rfl) (by kernel_rfl)
    (fun x y => laws_toFracS_eq n x.1) (fun _ _ => map_same (fun _ => rfl) _) (fun _ _ _ _ => rfl)

abbrev spec_l00Insp : List Sp := [.v false (.int .i64), .v false (.int .i64), .v false (.int .i64)]
abbrev spec_l00Inbs : List (Bs × Bool) := []
abbrev spec_l00Inrs : List (Bool × List Rp) := [(false, [.v false .bool])]
noncomputable def spec_l00Inkp : Keep := { loop := fun id => match id with | _ => ([], []), join := fun id => match id with | _ => none }
noncomputable def spec_l00Inc : Code := bodyOf Go.Proofs.Try.f94
noncomputable def spec_l00InF (n : Nat) : Fun := { id := 94, sp := spec_l00Insp, bs := spec_l00Inbs, rs := spec_l00Inrs, f := fun x y => spec_l00In n x.1 x.2.1 x.2.2.1 }

theorem spec_l00In_eq (n : Nat) (a0 : Int) (a1 : Int) (a2 : Int) : runBody ([]) ty 15 n spec_l00Inkp spec_l00Inc Go.Proofs.Try.f94.results.toList spec_l00Inrs spec_l00Insp spec_l00Inbs (a0, (a1, (a2, ()))) () = spec_l00In n a0 a1 a2 := by
  have h : runBody ([]) ty 15 n spec_l00Inkp spec_l00Inc Go.Proofs.Try.f94.results.toList spec_l00Inrs spec_l00Insp spec_l00Inbs (a0, (a1, (a2, ()))) () = spec_l00In_t n a0 a1 a2 := by kernel_rfl
  rw [h]
  rfl

theorem spec_l00In_ok (n : Nat) : FunOk P (spec_l00InF n) :=
  funOk_mk (C := []) (N := 15) (kp := spec_l00Inkp) (c := spec_l00Inc) (n := n) (G := fun x y => spec_l00In n x.1 x.2.1 x.2.2.1) follows (AllOk.mem (trivial : AllOk P ([]))) (by kernel_rfl : P.funcs[94]? = some Go.Proofs.Try.f94) (by kernel_rfl) (by kernel_rfl) (by kernel_rfl)
    (fun x y => spec_l00In_eq n x.1 x.2.1 x.2.2.1) (fun _ _ => map_same (fun _ => rfl) _) (fun _ _ _ _ => rfl)

abbrev spec_l01Abssp : List Sp := [.v false (.int .i64)]
abbrev spec_l01Absbs : List (Bs × Bool) := []
abbrev spec_l01Absrs : List (Bool × List Rp) := [(false, [.v false (.int .i64)])]
noncomputable def spec_l01Abskp : Keep := { loop := fun id => match id with | _ => ([], []), join := fun id => match id with | _ => none }
noncomputable def spec_l01Absc : Code := bodyOf Go.Proofs.Try.f144
noncomputable def spec_l01AbsF (n : Nat) : Fun := { id := 144, sp := spec_l01Abssp, bs := spec_l01Absbs, rs := spec_l01Absrs, f := fun x y => spec_l01Abs n x.1 }

theorem spec_l01Abs_eq (n : Nat) (a0 : Int) : runBody ([]) ty 8 n spec_l01Abskp spec_l01Absc Go.Proofs.Try.f144.results.toList spec_l01Absrs spec_l01Abssp spec_l01Absbs (a0, ()) () = spec_l01Abs n a0 := by
  have h : runBody ([]) ty 8 n spec_l01Abskp spec_l01Absc Go.Proofs.Try.f144.results.toList spec_l01Absrs spec_l01Abssp spec_l01Absbs (a0, ()) () = spec_l01Abs_t n a0 := by kernel_rfl
  rw [h]
  rfl

theorem spec_l01Abs_ok (n : Nat) : FunOk P (spec_l01AbsF n) :=
  funOk_mk (C := []) (N := 8) (kp := spec_l01Abskp) (c := spec_l01Absc) (n := n) (G := fun x y => spec_l01Abs n x.1) follows (AllOk.mem (trivial : AllOk P ([]))) (by kernel_rfl : P.funcs[144]? = some Go.Proofs.Try.f144) (by kernel_rfl) (by kernel_rfl) (by kernel_rfl)
    (fun x y => spec_l01Abs_eq n x.1) (fun _ _ => map_same (fun _ => rfl) _) (fun _ _ _ _ => rfl)

abbrev spec_l01Gcdsp : List Sp := [.v false (.int .i64), .v false (.int .i64)]
abbrev spec_l01Gcdbs : List (Bs × Bool) := []
abbrev spec_l01Gcdrs : List (Bool × List Rp) := [(false, [.v false (.int .i64)])]
noncomputable def spec_l01Gcdkp : Keep := { loop := fun id => match id with | 1 => ([1, 0], []) | _ => ([], []), join := fun id => match id with | _ => none }
noncomputable def spec_l01Gcdc : Code := bodyOf Go.Proofs.Try.f143
noncomputable def spec_l01GcdF (n : Nat) : Fun := { id := 143, sp := spec_l01Gcdsp, bs := spec_l01Gcdbs, rs := spec_l01Gcdrs, f := fun x y => spec_l01Gcd n x.1 x.2.1 }

theorem spec_l01Gcd_l1_eq (n : Nat) : ∀ (k : Nat) (v1 : Int) (v0 : Int), iter (interp ([]) ty 14 0 n spec_l01Gcdkp (codeAt spec_l01Gcdc [1, 0, 0, 0])) (canon 0 (spec_l01Gcdkp.loop 1)) (kAt ([]) ty 14 0 n spec_l01Gcdkp spec_l01Gcdc [1, 0, 0] [] (ending ty 0 Go.Proofs.Try.f143.results.toList spec_l01Gcdrs spec_l01Gcdbs)) k { env := [(1, .one (.sc (.int .i64 v1))), (0, .one (.sc (.int .i64 v0)))], bx := [], nx := 0 } = spec_l01Gcd_l1 n k v1 v0
  | 0, _, _ => by kernel_rfl
  | k + 1, v1, v0 => by
    have h : iter (interp ([]) ty 14 0 n spec_l01Gcdkp (codeAt spec_l01Gcdc [1, 0, 0, 0])) (canon 0 (spec_l01Gcdkp.loop 1)) (kAt ([]) ty 14 0 n spec_l01Gcdkp spec_l01Gcdc [1, 0, 0] [] (ending ty 0 Go.Proofs.Try.f143.results.toList spec_l01Gcdrs spec_l01Gcdbs)) (k + 1) { env := [(1, .one (.sc (.int .i64 v1))), (0, .one (.sc (.int .i64 v0)))], bx := [], nx := 0 } = spec_l01Gcd_t1 n (fun v1 v0 => iter (interp ([]) ty 14 0 n spec_l01Gcdkp (codeAt spec_l01Gcdc [1, 0, 0, 0])) (canon 0 (spec_l01Gcdkp.loop 1)) (kAt ([]) ty 14 0 n spec_l01Gcdkp spec_l01Gcdc [1, 0, 0] [] (ending ty 0 Go.Proofs.Try.f143.results.toList spec_l01Gcdrs spec_l01Gcdbs)) k { env := [(1, .one (.sc (.int .i64 v1))), (0, .one (.sc (.int .i64 v0)))], bx := [], nx := 0 }) v1 v0 := by kernel_rfl
    rw [h]
    have e := congrArg (fun g => spec_l01Gcd_t1 n g v1 v0) (funext fun v1 => funext fun v0 => spec_l01Gcd_l1_eq n k v1 v0)
    exact e

theorem spec_l01Gcd_eq (n : Nat) (a0 : Int) (a1 : Int) : runBody ([]) ty 14 n spec_l01Gcdkp spec_l01Gcdc Go.Proofs.Try.f143.results.toList spec_l01Gcdrs spec_l01Gcdsp spec_l01Gcdbs (a0, (a1, ())) () = spec_l01Gcd n a0 a1 := by
  have h : runBody ([]) ty 14 n spec_l01Gcdkp spec_l01Gcdc Go.Proofs.Try.f143.results.toList spec_l01Gcdrs spec_l01Gcdsp spec_l01Gcdbs (a0, (a1, ())) () = spec_l01Gcd_t n (fun k v1 v0 => iter (interp ([]) ty 14 0 n spec_l01Gcdkp (codeAt spec_l01Gcdc [1, 0, 0, 0])) (canon 0 (spec_l01Gcdkp.loop 1)) (kAt ([]) ty 14 0 n spec_l01Gcdkp spec_l01Gcdc [1, 0, 0] [] (ending ty 0 Go.Proofs.Try.f143.results.toList spec_l01Gcdrs spec_l01Gcdbs)) k { env := [(1, .one (.sc (.int .i64 v1))), (0, .one (.sc (.int .i64 v0)))], bx := [], nx := 0 }) a0 a1 := by kernel_rfl
  rw [h]
  have e := congrArg (fun h1 => spec_l01Gcd_t n h1 a0 a1) (funext fun k => funext fun v1 => funext fun v0 => spec_l01Gcd_l1_eq n k v1 v0)
  exact e

theorem spec_l01Gcd_ok (n : Nat) : FunOk P (spec_l01GcdF n) :=
  funOk_mk (C := []) (N := 14) (kp := spec_l01Gcdkp) (c := spec_l01Gcdc) (n := n) (G := fun x y => spec_l01Gcd n x.1 x.2.1) follows (AllOk.mem (trivial : AllOk P ([]))) (by kernel_rfl : P.funcs[143]? = some Go.Proofs.Try.f143) (by kernel_rfl) (by kernel_rfl) (by kernel_rfl)
    (fun x y => spec_l01Gcd_eq n x.1 x.2.1) (fun _ _ => map_same (fun _ => rfl) _) (fun _ _ _ _ => rfl)

abbrev spec_l01Oksp : List Sp := [.v true (.pair (.int .i64) (.int .i64))]
abbrev spec_l01Okbs : List (Bs × Bool) := []
abbrev spec_l01Okrs : List (Bool × List Rp) := [(false, [.v false .bool])]
noncomputable def spec_l01Okkp : Keep := { loop := fun id => match id with | _ => ([], []), join := fun id => match id with | _ => none }
noncomputable def spec_l01Okc : Code := bodyOf Go.Proofs.Try.f93
noncomputable def spec_l01OkF (n : Nat) : Fun := { id := 93, sp := spec_l01Oksp, bs := spec_l01Okbs, rs := spec_l01Okrs, f := fun x y => spec_l01Ok n x.1 }

theorem spec_l01Ok_eq (n : Nat) (a0 : (Int) × (Int)) : runBody ([spec_l00InF n, spec_l01AbsF n, spec_l01GcdF n]) ty 20 n spec_l01Okkp spec_l01Okc Go.Proofs.Try.f93.results.toList spec_l01Okrs spec_l01Oksp spec_l01Okbs (a0, ()) () = spec_l01Ok n a0 := by
  have h : runBody ([spec_l00InF n, spec_l01AbsF n, spec_l01GcdF n]) ty 20 n spec_l01Okkp spec_l01Okc Go.Proofs.Try.f93.results.toList spec_l01Okrs spec_l01Oksp spec_l01Okbs (a0, ()) () = spec_l01Ok_t n a0 := by kernel_rfl
  rw [h]
  rfl

theorem spec_l01Ok_ok (n : Nat) : FunOk P (spec_l01OkF n) :=
  funOk_mk (C := [spec_l00InF n, spec_l01AbsF n, spec_l01GcdF n]) (N := 20) (kp := spec_l01Okkp) (c := spec_l01Okc) (n := n) (G := fun x y => spec_l01Ok n x.1) follows (AllOk.mem (⟨spec_l00In_ok n, ⟨spec_l01Abs_ok n, ⟨spec_l01Gcd_ok n, trivial⟩⟩⟩ : AllOk P ([spec_l00InF n, spec_l01AbsF n, spec_l01GcdF n]))) (by kernel_rfl : P.funcs[93]? = some Go.Proofs.Try.f93) (by kernel_rfl) (by kernel_rfl) (by kernel_rfl)
    (fun x y => spec_l01Ok_eq n x.1) (fun _ _ => map_same (fun _ => rfl) _) (fun _ _ _ _ => rfl)

abbrev spec_l04Fracssp : List Sp := [.v false (.list (.pair (.int .i64) (.int .i64)))]
abbrev spec_l04Fracsbs : List (Bs × Bool) := []
abbrev spec_l04Fracsrs : List (Bool × List Rp) := [(false, [.v false .bool])]
noncomputable def spec_l04Fracskp : Keep := { loop := fun id => match id with | 2 => ([3, 0], []) | _ => ([], []), join := fun id => match id with | _ => none }
noncomputable def spec_l04Fracsc : Code := bodyOf Go.Proofs.Try.f92
noncomputable def spec_l04FracsF (n : Nat) : Fun := { id := 92, sp := spec_l04Fracssp, bs := spec_l04Fracsbs, rs := spec_l04Fracsrs, f := fun x y => spec_l04Fracs n x.1 }

theorem spec_l04Fracs_l2_eq (n : Nat) : ∀ (k : Nat) (v3 : Int) (v0 : List ((Int) × (Int))), iter (interp ([spec_l01OkF n]) ty 16 0 n spec_l04Fracskp (codeAt spec_l04Fracsc [1, 0, 1, 0, 0])) (canon 0 (spec_l04Fracskp.loop 2)) (kAt ([spec_l01OkF n]) ty 16 0 n spec_l04Fracskp spec_l04Fracsc [1, 0, 1, 0] [] (ending ty 0 Go.Proofs.Try.f92.results.toList spec_l04Fracsrs spec_l04Fracsbs)) k { env := [(3, .one (.sc (.int .i64 v3))), (0, .one (.list true (.pair (.int .i64) (.int .i64)) v0))], bx := [], nx := 0 } = spec_l04Fracs_l2 n k v3 v0
  | 0, _, _ => by kernel_rfl
  | k + 1, v3, v0 => by
    have h : iter (interp ([spec_l01OkF n]) ty 16 0 n spec_l04Fracskp (codeAt spec_l04Fracsc [1, 0, 1, 0, 0])) (canon 0 (spec_l04Fracskp.loop 2)) (kAt ([spec_l01OkF n]) ty 16 0 n spec_l04Fracskp spec_l04Fracsc [1, 0, 1, 0] [] (ending ty 0 Go.Proofs.Try.f92.results.toList spec_l04Fracsrs spec_l04Fracsbs)) (k + 1) { env := [(3, .one (.sc (.int .i64 v3))), (0, .one (.list true (.pair (.int .i64) (.int .i64)) v0))], bx := [], nx := 0 } = spec_l04Fracs_t2 n (fun v3 v0 => iter (interp ([spec_l01OkF n]) ty 16 0 n spec_l04Fracskp (codeAt spec_l04Fracsc [1, 0, 1, 0, 0])) (canon 0 (spec_l04Fracskp.loop 2)) (kAt ([spec_l01OkF n]) ty 16 0 n spec_l04Fracskp spec_l04Fracsc [1, 0, 1, 0] [] (ending ty 0 Go.Proofs.Try.f92.results.toList spec_l04Fracsrs spec_l04Fracsbs)) k { env := [(3, .one (.sc (.int .i64 v3))), (0, .one (.list true (.pair (.int .i64) (.int .i64)) v0))], bx := [], nx := 0 }) v3 v0 := by kernel_rfl
    rw [h]
    have e := congrArg (fun g => spec_l04Fracs_t2 n g v3 v0) (funext fun v3 => funext fun v0 => spec_l04Fracs_l2_eq n k v3 v0)
    exact e

theorem spec_l04Fracs_eq (n : Nat) (a0 : List ((Int) × (Int))) : runBody ([spec_l01OkF n]) ty 16 n spec_l04Fracskp spec_l04Fracsc Go.Proofs.Try.f92.results.toList spec_l04Fracsrs spec_l04Fracssp spec_l04Fracsbs (a0, ()) () = spec_l04Fracs n a0 := by
  have h : runBody ([spec_l01OkF n]) ty 16 n spec_l04Fracskp spec_l04Fracsc Go.Proofs.Try.f92.results.toList spec_l04Fracsrs spec_l04Fracssp spec_l04Fracsbs (a0, ()) () = spec_l04Fracs_t n (fun k v3 v0 => iter (interp ([spec_l01OkF n]) ty 16 0 n spec_l04Fracskp (codeAt spec_l04Fracsc [1, 0, 1, 0, 0])) (canon 0 (spec_l04Fracskp.loop 2)) (kAt ([spec_l01OkF n]) ty 16 0 n spec_l04Fracskp spec_l04Fracsc [1, 0, 1, 0] [] (ending ty 0 Go.Proofs.Try.f92.results.toList spec_l04Fracsrs spec_l04Fracsbs)) k { env := [(3, .one (.sc (.int .i64 v3))), (0, .one (.list true (.pair (.int .i64) (.int .i64)) v0))], bx := [], nx := 0 }) a0 := by kernel_rfl
  rw [h]
  have e := congrArg (fun h2 => spec_l04Fracs_t n h2 a0) (funext fun k => funext fun v3 => funext fun v0 => spec_l04Fracs_l2_eq n k v3 v0)
  exact e

theorem spec_l04Fracs_ok (n : Nat) : FunOk P (spec_l04FracsF n) :=
  funOk_mk (C := [spec_l01OkF n]) (N := 16) (kp := spec_l04Fracskp) (c := spec_l04Fracsc) (n := n) (G := fun x y => spec_l04Fracs n x.1) follows (AllOk.mem (⟨spec_l01Ok_ok n, trivial⟩ : AllOk P ([spec_l01OkF n]))) (by kernel_rfl : P.funcs[92]? = some Go.Proofs.Try.f92) (by kernel_rfl) (by kernel_rfl) (by kernel_rfl)
    (fun x y => spec_l04Fracs_eq n x.1) (fun _ _ => map_same (fun _ => rfl) _) (fun _ _ _ _ => rfl)

abbrev spec_l01Reducedsp : List Sp := [.v false (.int .i64), .v false (.int .i64)]
abbrev spec_l01Reducedbs : List (Bs × Bool) := []
abbrev spec_l01Reducedrs : List (Bool × List Rp) := [(true, [.v false (.pair (.int .i64) (.int .i64))]), (false, [.v false (.int .i64)])]
noncomputable def spec_l01Reducedkp : Keep := { loop := fun id => match id with | _ => ([], []), join := fun id => match id with | _ => none }
noncomputable def spec_l01Reducedc : Code := bodyOf Go.Proofs.Try.f160
noncomputable def spec_l01ReducedF (n : Nat) : Fun := { id := 160, sp := spec_l01Reducedsp, bs := spec_l01Reducedbs, rs := spec_l01Reducedrs, f := fun x y => spec_l01Reduced n x.1 x.2.1 }

theorem spec_l01Reduced_eq (n : Nat) (a0 : Int) (a1 : Int) : runBody ([spec_l01AbsF n, spec_l01GcdF n, spec_l01OkF n]) ty 33 n spec_l01Reducedkp spec_l01Reducedc Go.Proofs.Try.f160.results.toList spec_l01Reducedrs spec_l01Reducedsp spec_l01Reducedbs (a0, (a1, ())) () = spec_l01Reduced n a0 a1 := by
  have h : runBody ([spec_l01AbsF n, spec_l01GcdF n, spec_l01OkF n]) ty 33 n spec_l01Reducedkp spec_l01Reducedc Go.Proofs.Try.f160.results.toList spec_l01Reducedrs spec_l01Reducedsp spec_l01Reducedbs (a0, (a1, ())) () = spec_l01Reduced_t n a0 a1 := by kernel_rfl
  rw [h]
  rfl

theorem spec_l01Reduced_ok (n : Nat) : FunOk P (spec_l01ReducedF n) :=
  funOk_mk (C := [spec_l01AbsF n, spec_l01GcdF n, spec_l01OkF n]) (N := 33) (kp := spec_l01Reducedkp) (c := spec_l01Reducedc) (n := n) (G := fun x y => spec_l01Reduced n x.1 x.2.1) follows (AllOk.mem (⟨spec_l01Abs_ok n, ⟨spec_l01Gcd_ok n, ⟨spec_l01Ok_ok n, trivial⟩⟩⟩ : AllOk P ([spec_l01AbsF n, spec_l01GcdF n, spec_l01OkF n]))) (by kernel_rfl : P.funcs[160]? = some Go.Proofs.Try.f160) (by kernel_rfl) (by kernel_rfl) (by kernel_rfl)
    (fun x y => spec_l01Reduced_eq n x.1 x.2.1) (fun _ _ => map_same (fun _ => rfl) _) (fun _ _ _ _ => rfl)

abbrev spec_l01Addsp : List Sp := [.v true (.pair (.int .i64) (.int .i64)), .v true (.pair (.int .i64) (.int .i64))]
abbrev spec_l01Addbs : List (Bs × Bool) := []
abbrev spec_l01Addrs : List (Bool × List Rp) := [(true, [.v false (.pair (.int .i64) (.int .i64))]), (false, [.v false (.int .i64)])]
noncomputable def spec_l01Addkp : Keep := { loop := fun id => match id with | _ => ([], []), join := fun id => match id with | _ => none }
noncomputable def spec_l01Addc : Code := bodyOf Go.Proofs.Try.f122
noncomputable def spec_l01AddF (n : Nat) : Fun := { id := 122, sp := spec_l01Addsp, bs := spec_l01Addbs, rs := spec_l01Addrs, f := fun x y => spec_l01Add n x.1 x.2.1 }

theorem spec_l01Add_eq (n : Nat) (a0 : (Int) × (Int)) (a1 : (Int) × (Int)) : runBody ([spec_l01ReducedF n]) ty 25 n spec_l01Addkp spec_l01Addc Go.Proofs.Try.f122.results.toList spec_l01Addrs spec_l01Addsp spec_l01Addbs (a0, (a1, ())) () = spec_l01Add n a0 a1 := by
  have h : runBody ([spec_l01ReducedF n]) ty 25 n spec_l01Addkp spec_l01Addc Go.Proofs.Try.f122.results.toList spec_l01Addrs spec_l01Addsp spec_l01Addbs (a0, (a1, ())) () = spec_l01Add_t n a0 a1 := by kernel_rfl
  rw [h]
  rfl

theorem spec_l01Add_ok (n : Nat) : FunOk P (spec_l01AddF n) :=
  funOk_mk (C := [spec_l01ReducedF n]) (N := 25) (kp := spec_l01Addkp) (c := spec_l01Addc) (n := n) (G := fun x y => spec_l01Add n x.1 x.2.1) follows (AllOk.mem (⟨spec_l01Reduced_ok n, trivial⟩ : AllOk P ([spec_l01ReducedF n]))) (by kernel_rfl : P.funcs[122]? = some Go.Proofs.Try.f122) (by kernel_rfl) (by kernel_rfl) (by kernel_rfl)
    (fun x y => spec_l01Add_eq n x.1 x.2.1) (fun _ _ => map_same (fun _ => rfl) _) (fun _ _ _ _ => rfl)

abbrev spec_l01Wholesp : List Sp := [.v false (.int .i64)]
abbrev spec_l01Wholebs : List (Bs × Bool) := []
abbrev spec_l01Wholers : List (Bool × List Rp) := [(true, [.v false (.pair (.int .i64) (.int .i64))])]
noncomputable def spec_l01Wholekp : Keep := { loop := fun id => match id with | _ => ([], []), join := fun id => match id with | _ => none }
noncomputable def spec_l01Wholec : Code := bodyOf Go.Proofs.Try.f171
noncomputable def spec_l01WholeF (n : Nat) : Fun := { id := 171, sp := spec_l01Wholesp, bs := spec_l01Wholebs, rs := spec_l01Wholers, f := fun x y => spec_l01Whole n x.1 }

theorem spec_l01Whole_eq (n : Nat) (a0 : Int) : runBody ([]) ty 5 n spec_l01Wholekp spec_l01Wholec Go.Proofs.Try.f171.results.toList spec_l01Wholers spec_l01Wholesp spec_l01Wholebs (a0, ()) () = spec_l01Whole n a0 := by
  have h : runBody ([]) ty 5 n spec_l01Wholekp spec_l01Wholec Go.Proofs.Try.f171.results.toList spec_l01Wholers spec_l01Wholesp spec_l01Wholebs (a0, ()) () = spec_l01Whole_t n a0 := by kernel_rfl
  rw [h]
  rfl

theorem spec_l01Whole_ok (n : Nat) : FunOk P (spec_l01WholeF n) :=
  funOk_mk (C := []) (N := 5) (kp := spec_l01Wholekp) (c := spec_l01Wholec) (n := n) (G := fun x y => spec_l01Whole n x.1) follows (AllOk.mem (trivial : AllOk P ([]))) (by kernel_rfl : P.funcs[171]? = some Go.Proofs.Try.f171) (by kernel_rfl) (by kernel_rfl) (by kernel_rfl)
    (fun x y => spec_l01Whole_eq n x.1) (fun _ _ => map_same (fun _ => rfl) _) (fun _ _ _ _ => rfl)

abbrev spec_l01Cmpsp : List Sp := [.v true (.pair (.int .i64) (.int .i64)), .v true (.pair (.int .i64) (.int .i64))]
abbrev spec_l01Cmpbs : List (Bs × Bool) := []
abbrev spec_l01Cmprs : List (Bool × List Rp) := [(false, [.v false (.int .i64)])]
noncomputable def spec_l01Cmpkp : Keep := { loop := fun id => match id with | _ => ([], []), join := fun id => match id with | _ => none }
noncomputable def spec_l01Cmpc : Code := bodyOf Go.Proofs.Try.f141
noncomputable def spec_l01CmpF (n : Nat) : Fun := { id := 141, sp := spec_l01Cmpsp, bs := spec_l01Cmpbs, rs := spec_l01Cmprs, f := fun x y => spec_l01Cmp n x.1 x.2.1 }

theorem spec_l01Cmp_eq (n : Nat) (a0 : (Int) × (Int)) (a1 : (Int) × (Int)) : runBody ([]) ty 25 n spec_l01Cmpkp spec_l01Cmpc Go.Proofs.Try.f141.results.toList spec_l01Cmprs spec_l01Cmpsp spec_l01Cmpbs (a0, (a1, ())) () = spec_l01Cmp n a0 a1 := by
  have h : runBody ([]) ty 25 n spec_l01Cmpkp spec_l01Cmpc Go.Proofs.Try.f141.results.toList spec_l01Cmprs spec_l01Cmpsp spec_l01Cmpbs (a0, (a1, ())) () = spec_l01Cmp_t n a0 a1 := by kernel_rfl
  rw [h]
  rfl

theorem spec_l01Cmp_ok (n : Nat) : FunOk P (spec_l01CmpF n) :=
  funOk_mk (C := []) (N := 25) (kp := spec_l01Cmpkp) (c := spec_l01Cmpc) (n := n) (G := fun x y => spec_l01Cmp n x.1 x.2.1) follows (AllOk.mem (trivial : AllOk P ([]))) (by kernel_rfl : P.funcs[141]? = some Go.Proofs.Try.f141) (by kernel_rfl) (by kernel_rfl) (by kernel_rfl)
    (fun x y => spec_l01Cmp_eq n x.1 x.2.1) (fun _ _ => map_same (fun _ => rfl) _) (fun _ _ _ _ => rfl)

abbrev spec_l02Withinsp : List Sp := [.v true (.pair (.int .i64) (.int .i64)), .v false (.int .i64)]
abbrev spec_l02Withinbs : List (Bs × Bool) := []
abbrev spec_l02Withinrs : List (Bool × List Rp) := [(false, [.v false .bool])]
noncomputable def spec_l02Withinkp : Keep := { loop := fun id => match id with | _ => ([], []), join := fun id => match id with | _ => none }
noncomputable def spec_l02Withinc : Code := bodyOf Go.Proofs.Try.f161
noncomputable def spec_l02WithinF (n : Nat) : Fun := { id := 161, sp := spec_l02Withinsp, bs := spec_l02Withinbs, rs := spec_l02Withinrs, f := fun x y => spec_l02Within n x.1 x.2.1 }

theorem spec_l02Within_eq (n : Nat) (a0 : (Int) × (Int)) (a1 : Int) : runBody ([spec_l01OkF n, spec_l01WholeF n, spec_l01CmpF n]) ty 19 n spec_l02Withinkp spec_l02Withinc Go.Proofs.Try.f161.results.toList spec_l02Withinrs spec_l02Withinsp spec_l02Withinbs (a0, (a1, ())) () = spec_l02Within n a0 a1 := by
  have h : runBody ([spec_l01OkF n, spec_l01WholeF n, spec_l01CmpF n]) ty 19 n spec_l02Withinkp spec_l02Withinc Go.Proofs.Try.f161.results.toList spec_l02Withinrs spec_l02Withinsp spec_l02Withinbs (a0, (a1, ())) () = spec_l02Within_t n a0 a1 := by kernel_rfl
  rw [h]
  rfl

theorem spec_l02Within_ok (n : Nat) : FunOk P (spec_l02WithinF n) :=
  funOk_mk (C := [spec_l01OkF n, spec_l01WholeF n, spec_l01CmpF n]) (N := 19) (kp := spec_l02Withinkp) (c := spec_l02Withinc) (n := n) (G := fun x y => spec_l02Within n x.1 x.2.1) follows (AllOk.mem (⟨spec_l01Ok_ok n, ⟨spec_l01Whole_ok n, ⟨spec_l01Cmp_ok n, trivial⟩⟩⟩ : AllOk P ([spec_l01OkF n, spec_l01WholeF n, spec_l01CmpF n]))) (by kernel_rfl : P.funcs[161]? = some Go.Proofs.Try.f161) (by kernel_rfl) (by kernel_rfl) (by kernel_rfl)
    (fun x y => spec_l02Within_eq n x.1 x.2.1) (fun _ _ => map_same (fun _ => rfl) _) (fun _ _ _ _ => rfl)

abbrev spec_l01Mulsp : List Sp := [.v true (.pair (.int .i64) (.int .i64)), .v true (.pair (.int .i64) (.int .i64))]
abbrev spec_l01Mulbs : List (Bs × Bool) := []
abbrev spec_l01Mulrs : List (Bool × List Rp) := [(true, [.v false (.pair (.int .i64) (.int .i64))]), (false, [.v false (.int .i64)])]
noncomputable def spec_l01Mulkp : Keep := { loop := fun id => match id with | _ => ([], []), join := fun id => match id with | _ => none }
noncomputable def spec_l01Mulc : Code := bodyOf Go.Proofs.Try.f182
noncomputable def spec_l01MulF (n : Nat) : Fun := { id := 182, sp := spec_l01Mulsp, bs := spec_l01Mulbs, rs := spec_l01Mulrs, f := fun x y => spec_l01Mul n x.1 x.2.1 }

theorem spec_l01Mul_eq (n : Nat) (a0 : (Int) × (Int)) (a1 : (Int) × (Int)) : runBody ([spec_l01ReducedF n]) ty 19 n spec_l01Mulkp spec_l01Mulc Go.Proofs.Try.f182.results.toList spec_l01Mulrs spec_l01Mulsp spec_l01Mulbs (a0, (a1, ())) () = spec_l01Mul n a0 a1 := by
  have h : runBody ([spec_l01ReducedF n]) ty 19 n spec_l01Mulkp spec_l01Mulc Go.Proofs.Try.f182.results.toList spec_l01Mulrs spec_l01Mulsp spec_l01Mulbs (a0, (a1, ())) () = spec_l01Mul_t n a0 a1 := by kernel_rfl
  rw [h]
  rfl

theorem spec_l01Mul_ok (n : Nat) : FunOk P (spec_l01MulF n) :=
  funOk_mk (C := [spec_l01ReducedF n]) (N := 19) (kp := spec_l01Mulkp) (c := spec_l01Mulc) (n := n) (G := fun x y => spec_l01Mul n x.1 x.2.1) follows (AllOk.mem (⟨spec_l01Reduced_ok n, trivial⟩ : AllOk P ([spec_l01ReducedF n]))) (by kernel_rfl : P.funcs[182]? = some Go.Proofs.Try.f182) (by kernel_rfl) (by kernel_rfl) (by kernel_rfl)
    (fun x y => spec_l01Mul_eq n x.1 x.2.1) (fun _ _ => map_same (fun _ => rfl) _) (fun _ _ _ _ => rfl)

abbrev spec_l02Mark_esp : List Sp := [.er (.pair (.pair (.int .i64) (.int .i64)) (.list (.pair (.int .i64) (.int .i64)))), .v false (.int .i64)]
abbrev spec_l02Mark_ebs : List (Bs × Bool) := []
abbrev spec_l02Mark_ers : List (Bool × List Rp) := [(true, [.v false (.pair (.int .i64) (.int .i64))]), (false, [.v false (.int .i64)])]
noncomputable def spec_l02Mark_ekp : Keep := { loop := fun id => match id with | _ => ([], []), join := fun id => match id with | _ => none }
noncomputable def spec_l02Mark_ec : Code := bodyOf Go.Proofs.Try.f162
noncomputable def spec_l02Mark_eF (n : Nat) : Fun := { id := 162, sp := spec_l02Mark_esp, bs := spec_l02Mark_ebs, rs := spec_l02Mark_ers, f := fun x y => spec_l02Mark_e n x.1 x.2.1 }

theorem spec_l02Mark_e_eq (n : Nat) (a0 : ((Int) × (Int)) × (List ((Int) × (Int)))) (a1 : Int) : runBody ([spec_l01WholeF n, spec_l01MulF n, spec_l01AddF n]) ty 33 n spec_l02Mark_ekp spec_l02Mark_ec Go.Proofs.Try.f162.results.toList spec_l02Mark_ers spec_l02Mark_esp spec_l02Mark_ebs (a0, (a1, ())) () = spec_l02Mark_e n a0 a1 := by
  have h : runBody ([spec_l01WholeF n, spec_l01MulF n, spec_l01AddF n]) ty 33 n spec_l02Mark_ekp spec_l02Mark_ec Go.Proofs.Try.f162.results.toList spec_l02Mark_ers spec_l02Mark_esp spec_l02Mark_ebs (a0, (a1, ())) () = spec_l02Mark_e_t n a0 a1 := by kernel_rfl
  rw [h]
  rfl

theorem spec_l02Mark_e_ok (n : Nat) : FunOk P (spec_l02Mark_eF n) :=
  funOk_mk (C := [spec_l01WholeF n, spec_l01MulF n, spec_l01AddF n]) (N := 33) (kp := spec_l02Mark_ekp) (c := spec_l02Mark_ec) (n := n) (G := fun x y => spec_l02Mark_e n x.1 x.2.1) follows (AllOk.mem (⟨spec_l01Whole_ok n, ⟨spec_l01Mul_ok n, ⟨spec_l01Add_ok n, trivial⟩⟩⟩ : AllOk P ([spec_l01WholeF n, spec_l01MulF n, spec_l01AddF n]))) (by kernel_rfl : P.funcs[162]? = some Go.Proofs.Try.f162) (by kernel_rfl) (by kernel_rfl) (by kernel_rfl)
    (fun x y => spec_l02Mark_e_eq n x.1 x.2.1) (fun _ _ => map_same (fun _ => rfl) _) (fun _ _ _ _ => rfl)

abbrev spec_l02Ok_esp : List Sp := [.er (.pair (.pair (.int .i64) (.int .i64)) (.list (.pair (.int .i64) (.int .i64))))]
abbrev spec_l02Ok_ebs : List (Bs × Bool) := []
abbrev spec_l02Ok_ers : List (Bool × List Rp) := [(false, [.v false .bool])]
noncomputable def spec_l02Ok_ekp : Keep := { loop := fun id => match id with | 4 => ([3, 0], []) | _ => ([], []), join := fun id => match id with | _ => none }
noncomputable def spec_l02Ok_ec : Code := bodyOf Go.Proofs.Try.f123
noncomputable def spec_l02Ok_eF (n : Nat) : Fun := { id := 123, sp := spec_l02Ok_esp, bs := spec_l02Ok_ebs, rs := spec_l02Ok_ers, f := fun x y => spec_l02Ok_e n x.1 }

theorem spec_l02Ok_e_l4_eq (n : Nat) : ∀ (k : Nat) (v3 : Int) (v0 : ((Int) × (Int)) × (List ((Int) × (Int)))), iter (interp ([spec_l02WithinF n, spec_l00InF n, spec_l01OkF n, spec_l01AbsF n, spec_l02Mark_eF n]) ty 70 0 n spec_l02Ok_ekp (codeAt spec_l02Ok_ec [1, 1, 0, 1, 0, 0])) (canon 0 (spec_l02Ok_ekp.loop 4)) (kAt ([spec_l02WithinF n, spec_l00InF n, spec_l01OkF n, spec_l01AbsF n, spec_l02Mark_eF n]) ty 70 0 n spec_l02Ok_ekp spec_l02Ok_ec [1, 1, 0, 1, 0] [] (ending ty 0 Go.Proofs.Try.f123.results.toList spec_l02Ok_ers spec_l02Ok_ebs)) k { env := [(3, .one (.sc (.int .i64 v3))), (0, .one (.eref true (.pair (.pair (.int .i64) (.int .i64)) (.list (.pair (.int .i64) (.int .i64)))) [v0] 0 0 0 0))], bx := [], nx := 0 } = spec_l02Ok_e_l4 n k v3 v0
  | 0, _, _ => by kernel_rfl
  | k + 1, v3, v0 => by
    have h : iter (interp ([spec_l02WithinF n, spec_l00InF n, spec_l01OkF n, spec_l01AbsF n, spec_l02Mark_eF n]) ty 70 0 n spec_l02Ok_ekp (codeAt spec_l02Ok_ec [1, 1, 0, 1, 0, 0])) (canon 0 (spec_l02Ok_ekp.loop 4)) (kAt ([spec_l02WithinF n, spec_l00InF n, spec_l01OkF n, spec_l01AbsF n, spec_l02Mark_eF n]) ty 70 0 n spec_l02Ok_ekp spec_l02Ok_ec [1, 1, 0, 1, 0] [] (ending ty 0 Go.Proofs.Try.f123.results.toList spec_l02Ok_ers spec_l02Ok_ebs)) (k + 1) { env := [(3, .one (.sc (.int .i64 v3))), (0, .one (.eref true (.pair (.pair (.int .i64) (.int .i64)) (.list (.pair (.int .i64) (.int .i64)))) [v0] 0 0 0 0))], bx := [], nx := 0 } = spec_l02Ok_e_t4 n (fun v3 v0 => iter (interp ([spec_l02WithinF n, spec_l00InF n, spec_l01OkF n, spec_l01AbsF n, spec_l02Mark_eF n]) ty 70 0 n spec_l02Ok_ekp (codeAt spec_l02Ok_ec [1, 1, 0, 1, 0, 0])) (canon 0 (spec_l02Ok_ekp.loop 4)) (kAt ([spec_l02WithinF n, spec_l00InF n, spec_l01OkF n, spec_l01AbsF n, spec_l02Mark_eF n]) ty 70 0 n spec_l02Ok_ekp spec_l02Ok_ec [1, 1, 0, 1, 0] [] (ending ty 0 Go.Proofs.Try.f123.results.toList spec_l02Ok_ers spec_l02Ok_ebs)) k { env := [(3, .one (.sc (.int .i64 v3))), (0, .one (.eref true (.pair (.pair (.int .i64) (.int .i64)) (.list (.pair (.int .i64) (.int .i64)))) [v0] 0 0 0 0))], bx := [], nx := 0 }) v3 v0 := by kernel_rfl
    rw [h]
    have e := congrArg (fun g => spec_l02Ok_e_t4 n g v3 v0) (funext fun v3 => funext fun v0 => spec_l02Ok_e_l4_eq n k v3 v0)
    exact e

theorem spec_l02Ok_e_eq (n : Nat) (a0 : ((Int) × (Int)) × (List ((Int) × (Int)))) : runBody ([spec_l02WithinF n, spec_l00InF n, spec_l01OkF n, spec_l01AbsF n, spec_l02Mark_eF n]) ty 70 n spec_l02Ok_ekp spec_l02Ok_ec Go.Proofs.Try.f123.results.toList spec_l02Ok_ers spec_l02Ok_esp spec_l02Ok_ebs (a0, ()) () = spec_l02Ok_e n a0 := by
  have h : runBody ([spec_l02WithinF n, spec_l00InF n, spec_l01OkF n, spec_l01AbsF n, spec_l02Mark_eF n]) ty 70 n spec_l02Ok_ekp spec_l02Ok_ec Go.Proofs.Try.f123.results.toList spec_l02Ok_ers spec_l02Ok_esp spec_l02Ok_ebs (a0, ()) () = spec_l02Ok_e_t n (fun k v3 v0 => iter (interp ([spec_l02WithinF n, spec_l00InF n, spec_l01OkF n, spec_l01AbsF n, spec_l02Mark_eF n]) ty 70 0 n spec_l02Ok_ekp (codeAt spec_l02Ok_ec [1, 1, 0, 1, 0, 0])) (canon 0 (spec_l02Ok_ekp.loop 4)) (kAt ([spec_l02WithinF n, spec_l00InF n, spec_l01OkF n, spec_l01AbsF n, spec_l02Mark_eF n]) ty 70 0 n spec_l02Ok_ekp spec_l02Ok_ec [1, 1, 0, 1, 0] [] (ending ty 0 Go.Proofs.Try.f123.results.toList spec_l02Ok_ers spec_l02Ok_ebs)) k { env := [(3, .one (.sc (.int .i64 v3))), (0, .one (.eref true (.pair (.pair (.int .i64) (.int .i64)) (.list (.pair (.int .i64) (.int .i64)))) [v0] 0 0 0 0))], bx := [], nx := 0 }) a0 := by kernel_rfl
  rw [h]
  have e := congrArg (fun h4 => spec_l02Ok_e_t n h4 a0) (funext fun k => funext fun v3 => funext fun v0 => spec_l02Ok_e_l4_eq n k v3 v0)
  exact e

theorem spec_l02Ok_e_ok (n : Nat) : FunOk P (spec_l02Ok_eF n) :=
  funOk_mk (C := [spec_l02WithinF n, spec_l00InF n, spec_l01OkF n, spec_l01AbsF n, spec_l02Mark_eF n]) (N := 70) (kp := spec_l02Ok_ekp) (c := spec_l02Ok_ec) (n := n) (G := fun x y => spec_l02Ok_e n x.1) follows (AllOk.mem (⟨spec_l02Within_ok n, ⟨spec_l00In_ok n, ⟨spec_l01Ok_ok n, ⟨spec_l01Abs_ok n, ⟨spec_l02Mark_e_ok n, trivial⟩⟩⟩⟩⟩ : AllOk P ([spec_l02WithinF n, spec_l00InF n, spec_l01OkF n, spec_l01AbsF n, spec_l02Mark_eF n]))) (by kernel_rfl : P.funcs[123]? = some Go.Proofs.Try.f123) (by kernel_rfl) (by kernel_rfl) (by kernel_rfl)
    (fun x y => spec_l02Ok_e_eq n x.1) (fun _ _ => map_same (fun _ => rfl) _) (fun _ _ _ _ => rfl)

abbrev spec_ErrorsFromsp : List Sp := [.v true (.pair (.int .i64) (.int .i64)), .v true (.pair (.int .i64) (.int .i64)), .v false (.list (.pair (.int .i64) (.int .i64)))]
abbrev spec_ErrorsFrombs : List (Bs × Bool) := []
abbrev spec_ErrorsFromrs : List (Bool × List Rp) := [(true, [.v false (.pair (.pair (.int .i64) (.int .i64)) (.list (.pair (.int .i64) (.int .i64))))]), (false, [.v false (.int .i64)])]
noncomputable def spec_ErrorsFromkp : Keep := { loop := fun id => match id with | 7 => ([6, 9, 8, 2], []) | _ => ([], []), join := fun id => match id with | _ => none }
noncomputable def spec_ErrorsFromc : Code := bodyOf Go.Proofs.Try.f58
noncomputable def spec_ErrorsFromF (n : Nat) : Fun := { id := 58, sp := spec_ErrorsFromsp, bs := spec_ErrorsFrombs, rs := spec_ErrorsFromrs, f := fun x y => spec_ErrorsFrom n x.1 x.2.1 x.2.2.1 }

theorem spec_ErrorsFrom_l7_eq (n : Nat) : ∀ (k : Nat) (v9 : Int) (v2 : List ((Int) × (Int))) (b0_0 : Int) (b0_1 : Int) (b1_0 : Int) (b1_1 : Int) (b2 : List ((Int) × (Int))), iter (interp ([spec_l01OkF n, spec_l04FracsF n, spec_l00InF n, spec_l01AddF n, spec_l02Ok_eF n]) ty 68 0 n spec_ErrorsFromkp (codeAt spec_ErrorsFromc [1, 1, 1, 1, 0, 1, 0, 0])) (canon 0 (spec_ErrorsFromkp.loop 7)) (kAt ([spec_l01OkF n, spec_l04FracsF n, spec_l00InF n, spec_l01AddF n, spec_l02Ok_eF n]) ty 68 0 n spec_ErrorsFromkp spec_ErrorsFromc [1, 1, 1, 1, 0, 1, 0] [] (ending ty 0 Go.Proofs.Try.f58.results.toList spec_ErrorsFromrs spec_ErrorsFrombs)) k { env := [(6, .one (.ref 0 0 0 0 0 0)), (9, .one (.sc (.int .i64 v9))), (8, .one (.ref 1 0 0 0 0 0)), (2, .one (.list true (.pair (.int .i64) (.int .i64)) v2))], bx := [(0, .var 88 [.sc (.int .i64 b0_0), .sc (.int .i64 b0_1), .sc (.slice none 0 0)]), (1, .var 88 [.sc (.int .i64 b1_0), .sc (.int .i64 b1_1), .slice 2 0 none]), (2, .row 0 (.pair (.int .i64) (.int .i64)) b2)], nx := 3 } = spec_ErrorsFrom_l7 n k v9 v2 b0_0 b0_1 b1_0 b1_1 b2
  | 0, _, _, _, _, _, _, _ => by kernel_rfl
  | k + 1, v9, v2, b0_0, b0_1, b1_0, b1_1, b2 => by
    have h : iter (interp ([spec_l01OkF n, spec_l04FracsF n, spec_l00InF n, spec_l01AddF n, spec_l02Ok_eF n]) ty 68 0 n spec_ErrorsFromkp (codeAt spec_ErrorsFromc [1, 1, 1, 1, 0, 1, 0, 0])) (canon 0 (spec_ErrorsFromkp.loop 7)) (kAt ([spec_l01OkF n, spec_l04FracsF n, spec_l00InF n, spec_l01AddF n, spec_l02Ok_eF n]) ty 68 0 n spec_ErrorsFromkp spec_ErrorsFromc [1, 1, 1, 1, 0, 1, 0] [] (ending ty 0 Go.Proofs.Try.f58.results.toList spec_ErrorsFromrs spec_ErrorsFrombs)) (k + 1) { env := [(6, .one (.ref 0 0 0 0 0 0)), (9, .one (.sc (.int .i64 v9))), (8, .one (.ref 1 0 0 0 0 0)), (2, .one (.list true (.pair (.int .i64) (.int .i64)) v2))], bx := [(0, .var 88 [.sc (.int .i64 b0_0), .sc (.int .i64 b0_1), .sc (.slice none 0 0)]), (1, .var 88 [.sc (.int .i64 b1_0), .sc (.int .i64 b1_1), .slice 2 0 none]), (2, .row 0 (.pair (.int .i64) (.int .i64)) b2)], nx := 3 } = spec_ErrorsFrom_t7 n (fun v9 v2 b0_0 b0_1 b1_0 b1_1 b2 => iter (interp ([spec_l01OkF n, spec_l04FracsF n, spec_l00InF n, spec_l01AddF n, spec_l02Ok_eF n]) ty 68 0 n spec_ErrorsFromkp (codeAt spec_ErrorsFromc [1, 1, 1, 1, 0, 1, 0, 0])) (canon 0 (spec_ErrorsFromkp.loop 7)) (kAt ([spec_l01OkF n, spec_l04FracsF n, spec_l00InF n, spec_l01AddF n, spec_l02Ok_eF n]) ty 68 0 n spec_ErrorsFromkp spec_ErrorsFromc [1, 1, 1, 1, 0, 1, 0] [] (ending ty 0 Go.Proofs.Try.f58.results.toList spec_ErrorsFromrs spec_ErrorsFrombs)) k { env := [(6, .one (.ref 0 0 0 0 0 0)), (9, .one (.sc (.int .i64 v9))), (8, .one (.ref 1 0 0 0 0 0)), (2, .one (.list true (.pair (.int .i64) (.int .i64)) v2))], bx := [(0, .var 88 [.sc (.int .i64 b0_0), .sc (.int .i64 b0_1), .sc (.slice none 0 0)]), (1, .var 88 [.sc (.int .i64 b1_0), .sc (.int .i64 b1_1), .slice 2 0 none]), (2, .row 0 (.pair (.int .i64) (.int .i64)) b2)], nx := 3 }) v9 v2 b0_0 b0_1 b1_0 b1_1 b2 := by kernel_rfl
    rw [h]
    have e := congrArg (fun g => spec_ErrorsFrom_t7 n g v9 v2 b0_0 b0_1 b1_0 b1_1 b2) (funext fun v9 => funext fun v2 => funext fun b0_0 => funext fun b0_1 => funext fun b1_0 => funext fun b1_1 => funext fun b2 => spec_ErrorsFrom_l7_eq n k v9 v2 b0_0 b0_1 b1_0 b1_1 b2)
    exact e

theorem spec_ErrorsFrom_eq (n : Nat) (a0 : (Int) × (Int)) (a1 : (Int) × (Int)) (a2 : List ((Int) × (Int))) : runBody ([spec_l01OkF n, spec_l04FracsF n, spec_l00InF n, spec_l01AddF n, spec_l02Ok_eF n]) ty 68 n spec_ErrorsFromkp spec_ErrorsFromc Go.Proofs.Try.f58.results.toList spec_ErrorsFromrs spec_ErrorsFromsp spec_ErrorsFrombs (a0, (a1, (a2, ()))) () = spec_ErrorsFrom n a0 a1 a2 := by
  have h : runBody ([spec_l01OkF n, spec_l04FracsF n, spec_l00InF n, spec_l01AddF n, spec_l02Ok_eF n]) ty 68 n spec_ErrorsFromkp spec_ErrorsFromc Go.Proofs.Try.f58.results.toList spec_ErrorsFromrs spec_ErrorsFromsp spec_ErrorsFrombs (a0, (a1, (a2, ()))) () = spec_ErrorsFrom_t n (fun k v9 v2 b0_0 b0_1 b1_0 b1_1 b2 => iter (interp ([spec_l01OkF n, spec_l04FracsF n, spec_l00InF n, spec_l01AddF n, spec_l02Ok_eF n]) ty 68 0 n spec_ErrorsFromkp (codeAt spec_ErrorsFromc [1, 1, 1, 1, 0, 1, 0, 0])) (canon 0 (spec_ErrorsFromkp.loop 7)) (kAt ([spec_l01OkF n, spec_l04FracsF n, spec_l00InF n, spec_l01AddF n, spec_l02Ok_eF n]) ty 68 0 n spec_ErrorsFromkp spec_ErrorsFromc [1, 1, 1, 1, 0, 1, 0] [] (ending ty 0 Go.Proofs.Try.f58.results.toList spec_ErrorsFromrs spec_ErrorsFrombs)) k { env := [(6, .one (.ref 0 0 0 0 0 0)), (9, .one (.sc (.int .i64 v9))), (8, .one (.ref 1 0 0 0 0 0)), (2, .one (.list true (.pair (.int .i64) (.int .i64)) v2))], bx := [(0, .var 88 [.sc (.int .i64 b0_0), .sc (.int .i64 b0_1), .sc (.slice none 0 0)]), (1, .var 88 [.sc (.int .i64 b1_0), .sc (.int .i64 b1_1), .slice 2 0 none]), (2, .row 0 (.pair (.int .i64) (.int .i64)) b2)], nx := 3 }) a0 a1 a2 := by kernel_rfl
  rw [h]
  have e := congrArg (fun h7 => spec_ErrorsFrom_t n h7 a0 a1 a2) (funext fun k => funext fun v9 => funext fun v2 => funext fun b0_0 => funext fun b0_1 => funext fun b1_0 => funext fun b1_1 => funext fun b2 => spec_ErrorsFrom_l7_eq n k v9 v2 b0_0 b0_1 b1_0 b1_1 b2)
  exact e

theorem spec_ErrorsFrom_ok (n : Nat) : FunOk P (spec_ErrorsFromF n) :=
  funOk_mk (C := [spec_l01OkF n, spec_l04FracsF n, spec_l00InF n, spec_l01AddF n, spec_l02Ok_eF n]) (N := 68) (kp := spec_ErrorsFromkp) (c := spec_ErrorsFromc) (n := n) (G := fun x y => spec_ErrorsFrom n x.1 x.2.1 x.2.2.1) follows (AllOk.mem (⟨spec_l01Ok_ok n, ⟨spec_l04Fracs_ok n, ⟨spec_l00In_ok n, ⟨spec_l01Add_ok n, ⟨spec_l02Ok_e_ok n, trivial⟩⟩⟩⟩⟩ : AllOk P ([spec_l01OkF n, spec_l04FracsF n, spec_l00InF n, spec_l01AddF n, spec_l02Ok_eF n]))) (by kernel_rfl : P.funcs[58]? = some Go.Proofs.Try.f58) (by kernel_rfl) (by kernel_rfl) (by kernel_rfl)
    (fun x y => spec_ErrorsFrom_eq n x.1 x.2.1 x.2.2.1) (fun _ _ => map_same (fun _ => rfl) _) (fun _ _ _ _ => rfl)

abbrev impl_withinsp : List Sp := [.v false (.int .i64), .v false (.int .i64), .v false (.int .i64)]
abbrev impl_withinbs : List (Bs × Bool) := []
abbrev impl_withinrs : List (Bool × List Rp) := [(false, [.v false .bool])]
noncomputable def impl_withinkp : Keep := { loop := fun id => match id with | _ => ([], []), join := fun id => match id with | _ => none }
noncomputable def impl_withinc : Code := bodyOf Go.Proofs.Try.f110
noncomputable def impl_withinF (n : Nat) : Fun := { id := 110, sp := impl_withinsp, bs := impl_withinbs, rs := impl_withinrs, f := fun x y => impl_within n x.1 x.2.1 x.2.2.1 }

theorem impl_within_eq (n : Nat) (a0 : Int) (a1 : Int) (a2 : Int) : runBody ([]) ty 15 n impl_withinkp impl_withinc Go.Proofs.Try.f110.results.toList impl_withinrs impl_withinsp impl_withinbs (a0, (a1, (a2, ()))) () = impl_within n a0 a1 a2 := by
  have h : runBody ([]) ty 15 n impl_withinkp impl_withinc Go.Proofs.Try.f110.results.toList impl_withinrs impl_withinsp impl_withinbs (a0, (a1, (a2, ()))) () = impl_within_t n a0 a1 a2 := by kernel_rfl
  rw [h]
  rfl

theorem impl_within_ok (n : Nat) : FunOk P (impl_withinF n) :=
  funOk_mk (C := []) (N := 15) (kp := impl_withinkp) (c := impl_withinc) (n := n) (G := fun x y => impl_within n x.1 x.2.1 x.2.2.1) follows (AllOk.mem (trivial : AllOk P ([]))) (by kernel_rfl : P.funcs[110]? = some Go.Proofs.Try.f110) (by kernel_rfl) (by kernel_rfl) (by kernel_rfl)
    (fun x y => impl_within_eq n x.1 x.2.1 x.2.2.1) (fun _ _ => map_same (fun _ => rfl) _) (fun _ _ _ _ => rfl)

abbrev impl_gcdsp : List Sp := [.v false (.int .i64), .v false (.int .i64)]
abbrev impl_gcdbs : List (Bs × Bool) := []
abbrev impl_gcdrs : List (Bool × List Rp) := [(false, [.v false (.int .i64)])]
noncomputable def impl_gcdkp : Keep := { loop := fun id => match id with | 1 => ([1, 0], []) | _ => ([], []), join := fun id => match id with | _ => none }
noncomputable def impl_gcdc : Code := bodyOf Go.Proofs.Try.f147
noncomputable def impl_gcdF (n : Nat) : Fun := { id := 147, sp := impl_gcdsp, bs := impl_gcdbs, rs := impl_gcdrs, f := fun x y => impl_gcd n x.1 x.2.1 }

theorem impl_gcd_l1_eq (n : Nat) : ∀ (k : Nat) (v1 : Int) (v0 : Int), iter (interp ([]) ty 15 0 n impl_gcdkp (codeAt impl_gcdc [1, 0, 0, 0])) (canon 0 (impl_gcdkp.loop 1)) (kAt ([]) ty 15 0 n impl_gcdkp impl_gcdc [1, 0, 0] [] (ending ty 0 Go.Proofs.Try.f147.results.toList impl_gcdrs impl_gcdbs)) k { env := [(1, .one (.sc (.int .i64 v1))), (0, .one (.sc (.int .i64 v0)))], bx := [], nx := 0 } = impl_gcd_l1 n k v1 v0
  | 0, _, _ => by kernel_rfl
  | k + 1, v1, v0 => by
    have h : iter (interp ([]) ty 15 0 n impl_gcdkp (codeAt impl_gcdc [1, 0, 0, 0])) (canon 0 (impl_gcdkp.loop 1)) (kAt ([]) ty 15 0 n impl_gcdkp impl_gcdc [1, 0, 0] [] (ending ty 0 Go.Proofs.Try.f147.results.toList impl_gcdrs impl_gcdbs)) (k + 1) { env := [(1, .one (.sc (.int .i64 v1))), (0, .one (.sc (.int .i64 v0)))], bx := [], nx := 0 } = impl_gcd_t1 n (fun v1 v0 => iter (interp ([]) ty 15 0 n impl_gcdkp (codeAt impl_gcdc [1, 0, 0, 0])) (canon 0 (impl_gcdkp.loop 1)) (kAt ([]) ty 15 0 n impl_gcdkp impl_gcdc [1, 0, 0] [] (ending ty 0 Go.Proofs.Try.f147.results.toList impl_gcdrs impl_gcdbs)) k { env := [(1, .one (.sc (.int .i64 v1))), (0, .one (.sc (.int .i64 v0)))], bx := [], nx := 0 }) v1 v0 := by kernel_rfl
    rw [h]
    have e := congrArg (fun g => impl_gcd_t1 n g v1 v0) (funext fun v1 => funext fun v0 => impl_gcd_l1_eq n k v1 v0)
    exact e

theorem impl_gcd_eq (n : Nat) (a0 : Int) (a1 : Int) : runBody ([]) ty 15 n impl_gcdkp impl_gcdc Go.Proofs.Try.f147.results.toList impl_gcdrs impl_gcdsp impl_gcdbs (a0, (a1, ())) () = impl_gcd n a0 a1 := by
  have h : runBody ([]) ty 15 n impl_gcdkp impl_gcdc Go.Proofs.Try.f147.results.toList impl_gcdrs impl_gcdsp impl_gcdbs (a0, (a1, ())) () = impl_gcd_t n (fun k v1 v0 => iter (interp ([]) ty 15 0 n impl_gcdkp (codeAt impl_gcdc [1, 0, 0, 0])) (canon 0 (impl_gcdkp.loop 1)) (kAt ([]) ty 15 0 n impl_gcdkp impl_gcdc [1, 0, 0] [] (ending ty 0 Go.Proofs.Try.f147.results.toList impl_gcdrs impl_gcdbs)) k { env := [(1, .one (.sc (.int .i64 v1))), (0, .one (.sc (.int .i64 v0)))], bx := [], nx := 0 }) a0 a1 := by kernel_rfl
  rw [h]
  have e := congrArg (fun h1 => impl_gcd_t n h1 a0 a1) (funext fun k => funext fun v1 => funext fun v0 => impl_gcd_l1_eq n k v1 v0)
  exact e

theorem impl_gcd_ok (n : Nat) : FunOk P (impl_gcdF n) :=
  funOk_mk (C := []) (N := 15) (kp := impl_gcdkp) (c := impl_gcdc) (n := n) (G := fun x y => impl_gcd n x.1 x.2.1) follows (AllOk.mem (trivial : AllOk P ([]))) (by kernel_rfl : P.funcs[147]? = some Go.Proofs.Try.f147) (by kernel_rfl) (by kernel_rfl) (by kernel_rfl)
    (fun x y => impl_gcd_eq n x.1 x.2.1) (fun _ _ => map_same (fun _ => rfl) _) (fun _ _ _ _ => rfl)

abbrev impl_ValidFracsp : List Sp := [.v true (.pair (.int .i64) (.int .i64))]
abbrev impl_ValidFracbs : List (Bs × Bool) := []
abbrev impl_ValidFracrs : List (Bool × List Rp) := [(false, [.v false .bool])]
noncomputable def impl_ValidFrackp : Keep := { loop := fun id => match id with | _ => ([], []), join := fun id => match id with | _ => none }
noncomputable def impl_ValidFracc : Code := bodyOf Go.Proofs.Try.f97
noncomputable def impl_ValidFracF (n : Nat) : Fun := { id := 97, sp := impl_ValidFracsp, bs := impl_ValidFracbs, rs := impl_ValidFracrs, f := fun x y => impl_ValidFrac n x.1 }

theorem impl_ValidFrac_eq (n : Nat) (a0 : (Int) × (Int)) : runBody ([impl_withinF n, impl_gcdF n]) ty 19 n impl_ValidFrackp impl_ValidFracc Go.Proofs.Try.f97.results.toList impl_ValidFracrs impl_ValidFracsp impl_ValidFracbs (a0, ()) () = impl_ValidFrac n a0 := by
  have h : runBody ([impl_withinF n, impl_gcdF n]) ty 19 n impl_ValidFrackp impl_ValidFracc Go.Proofs.Try.f97.results.toList impl_ValidFracrs impl_ValidFracsp impl_ValidFracbs (a0, ()) () = impl_ValidFrac_t n a0 := by kernel_rfl
  rw [h]
  rfl

theorem impl_ValidFrac_ok (n : Nat) : FunOk P (impl_ValidFracF n) :=
  funOk_mk (C := [impl_withinF n, impl_gcdF n]) (N := 19) (kp := impl_ValidFrackp) (c := impl_ValidFracc) (n := n) (G := fun x y => impl_ValidFrac n x.1) follows (AllOk.mem (⟨impl_within_ok n, ⟨impl_gcd_ok n, trivial⟩⟩ : AllOk P ([impl_withinF n, impl_gcdF n]))) (by kernel_rfl : P.funcs[97]? = some Go.Proofs.Try.f97) (by kernel_rfl) (by kernel_rfl) (by kernel_rfl)
    (fun x y => impl_ValidFrac_eq n x.1) (fun _ _ => map_same (fun _ => rfl) _) (fun _ _ _ _ => rfl)

abbrev impl_areValid_1sp : List Sp := [.v true (.pair (.int .i64) (.int .i64))]
abbrev impl_areValid_1bs : List (Bs × Bool) := []
abbrev impl_areValid_1rs : List (Bool × List Rp) := [(false, [.v false .bool])]
noncomputable def impl_areValid_1kp : Keep := { loop := fun id => match id with | _ => ([], []), join := fun id => match id with | _ => none }
noncomputable def impl_areValid_1c : Code := bodyOf Go.Proofs.Try.f146
noncomputable def impl_areValid_1F (n : Nat) : Fun := { id := 146, sp := impl_areValid_1sp, bs := impl_areValid_1bs, rs := impl_areValid_1rs, f := fun x y => impl_areValid_1 n x.1 }

theorem impl_areValid_1_eq (n : Nat) (a0 : (Int) × (Int)) : runBody ([impl_ValidFracF n]) ty 6 n impl_areValid_1kp impl_areValid_1c Go.Proofs.Try.f146.results.toList impl_areValid_1rs impl_areValid_1sp impl_areValid_1bs (a0, ()) () = impl_areValid_1 n a0 := by
  have h : runBody ([impl_ValidFracF n]) ty 6 n impl_areValid_1kp impl_areValid_1c Go.Proofs.Try.f146.results.toList impl_areValid_1rs impl_areValid_1sp impl_areValid_1bs (a0, ()) () = impl_areValid_1_t n a0 := by kernel_rfl
  rw [h]
  rfl

theorem impl_areValid_1_ok (n : Nat) : FunOk P (impl_areValid_1F n) :=
  funOk_mk (C := [impl_ValidFracF n]) (N := 6) (kp := impl_areValid_1kp) (c := impl_areValid_1c) (n := n) (G := fun x y => impl_areValid_1 n x.1) follows (AllOk.mem (⟨impl_ValidFrac_ok n, trivial⟩ : AllOk P ([impl_ValidFracF n]))) (by kernel_rfl : P.funcs[146]? = some Go.Proofs.Try.f146) (by kernel_rfl) (by kernel_rfl) (by kernel_rfl)
    (fun x y => impl_areValid_1_eq n x.1) (fun _ _ => map_same (fun _ => rfl) _) (fun _ _ _ _ => rfl)

abbrev slices_IndexFunc_impl_Frac_impl_Frac_at_impl_areValid_1sp : List Sp := [.v false (.list (.pair (.int .i64) (.int .i64))), .cl 146 []]
abbrev slices_IndexFunc_impl_Frac_impl_Frac_at_impl_areValid_1bs : List (Bs × Bool) := []
abbrev slices_IndexFunc_impl_Frac_impl_Frac_at_impl_areValid_1rs : List (Bool × List Rp) := [(false, [.v false (.int .i64)])]
noncomputable def slices_IndexFunc_impl_Frac_impl_Frac_at_impl_areValid_1kp : Keep := { loop := fun id => match id with | 2 => ([8, 0, 1, 7], []) | _ => ([], []), join := fun id => match id with | _ => none }
noncomputable def slices_IndexFunc_impl_Frac_impl_Frac_at_impl_areValid_1c : Code := bodyOf Go.Proofs.Try.f174
noncomputable def slices_IndexFunc_impl_Frac_impl_Frac_at_impl_areValid_1F (n : Nat) : Fun := { id := 174, sp := slices_IndexFunc_impl_Frac_impl_Frac_at_impl_areValid_1sp, bs := slices_IndexFunc_impl_Frac_impl_Frac_at_impl_areValid_1bs, rs := slices_IndexFunc_impl_Frac_impl_Frac_at_impl_areValid_1rs, f := fun x y => slices_IndexFunc_impl_Frac_impl_Frac_at_impl_areValid_1 n x.1 }

theorem slices_IndexFunc_impl_Frac_impl_Frac_at_impl_areValid_1_l2_eq (n : Nat) : ∀ (k : Nat) (v8 : Int) (v0 : List ((Int) × (Int))) (v7 : Int), iter (interp ([impl_areValid_1F n]) ty 19 0 n slices_IndexFunc_impl_Frac_impl_Frac_at_impl_areValid_1kp (codeAt slices_IndexFunc_impl_Frac_impl_Frac_at_impl_areValid_1c [1, 0, 1, 0, 0])) (canon 0 (slices_IndexFunc_impl_Frac_impl_Frac_at_impl_areValid_1kp.loop 2)) (kAt ([impl_areValid_1F n]) ty 19 0 n slices_IndexFunc_impl_Frac_impl_Frac_at_impl_areValid_1kp slices_IndexFunc_impl_Frac_impl_Frac_at_impl_areValid_1c [1, 0, 1, 0] [] (ending ty 0 Go.Proofs.Try.f174.results.toList slices_IndexFunc_impl_Frac_impl_Frac_at_impl_areValid_1rs slices_IndexFunc_impl_Frac_impl_Frac_at_impl_areValid_1bs)) k { env := [(8, .one (.sc (.int .i64 v8))), (0, .one (.list true (.pair (.int .i64) (.int .i64)) v0)), (1, .one (.clos 146 [])), (7, .one (.sc (.int .i64 v7)))], bx := [], nx := 0 } = slices_IndexFunc_impl_Frac_impl_Frac_at_impl_areValid_1_l2 n k v8 v0 v7
  | 0, _, _, _ => by kernel_rfl
  | k + 1, v8, v0, v7 => by
    have h : iter (interp ([impl_areValid_1F n]) ty 19 0 n slices_IndexFunc_impl_Frac_impl_Frac_at_impl_areValid_1kp (codeAt slices_IndexFunc_impl_Frac_impl_Frac_at_impl_areValid_1c [1, 0, 1, 0, 0])) (canon 0 (slices_IndexFunc_impl_Frac_impl_Frac_at_impl_areValid_1kp.loop 2)) (kAt ([impl_areValid_1F n]) ty 19 0 n slices_IndexFunc_impl_Frac_impl_Frac_at_impl_areValid_1kp slices_IndexFunc_impl_Frac_impl_Frac_at_impl_areValid_1c [1, 0, 1, 0] [] (ending ty 0 Go.Proofs.Try.f174.results.toList slices_IndexFunc_impl_Frac_impl_Frac_at_impl_areValid_1rs slices_IndexFunc_impl_Frac_impl_Frac_at_impl_areValid_1bs)) (k + 1) { env := [(8, .one (.sc (.int .i64 v8))), (0, .one (.list true (.pair (.int .i64) (.int .i64)) v0)), (1, .one (.clos 146 [])), (7, .one (.sc (.int .i64 v7)))], bx := [], nx := 0 } = slices_IndexFunc_impl_Frac_impl_Frac_at_impl_areValid_1_t2 n (fun v8 v0 v7 => iter (interp ([impl_areValid_1F n]) ty 19 0 n slices_IndexFunc_impl_Frac_impl_Frac_at_impl_areValid_1kp (codeAt slices_IndexFunc_impl_Frac_impl_Frac_at_impl_areValid_1c [1, 0, 1, 0, 0])) (canon 0 (slices_IndexFunc_impl_Frac_impl_Frac_at_impl_areValid_1kp.loop 2)) (kAt ([impl_areValid_1F n]) ty 19 0 n slices_IndexFunc_impl_Frac_impl_Frac_at_impl_areValid_1kp slices_IndexFunc_impl_Frac_impl_Frac_at_impl_areValid_1c [1, 0, 1, 0] [] (ending ty 0 Go.Proofs.Try.f174.results.toList slices_IndexFunc_impl_Frac_impl_Frac_at_impl_areValid_1rs slices_IndexFunc_impl_Frac_impl_Frac_at_impl_areValid_1bs)) k { env := [(8, .one (.sc (.int .i64 v8))), (0, .one (.list true (.pair (.int .i64) (.int .i64)) v0)), (1, .one (.clos 146 [])), (7, .one (.sc (.int .i64 v7)))], bx := [], nx := 0 }) v8 v0 v7 := by kernel_rfl
    rw [h]
    have e := congrArg (fun g => slices_IndexFunc_impl_Frac_impl_Frac_at_impl_areValid_1_t2 n g v8 v0 v7) (funext fun v8 => funext fun v0 => funext fun v7 => slices_IndexFunc_impl_Frac_impl_Frac_at_impl_areValid_1_l2_eq n k v8 v0 v7)
    exact e

theorem slices_IndexFunc_impl_Frac_impl_Frac_at_impl_areValid_1_eq (n : Nat) (a0 : List ((Int) × (Int))) : runBody ([impl_areValid_1F n]) ty 19 n slices_IndexFunc_impl_Frac_impl_Frac_at_impl_areValid_1kp slices_IndexFunc_impl_Frac_impl_Frac_at_impl_areValid_1c Go.Proofs.Try.f174.results.toList slices_IndexFunc_impl_Frac_impl_Frac_at_impl_areValid_1rs slices_IndexFunc_impl_Frac_impl_Frac_at_impl_areValid_1sp slices_IndexFunc_impl_Frac_impl_Frac_at_impl_areValid_1bs (a0, ((), ())) () = slices_IndexFunc_impl_Frac_impl_Frac_at_impl_areValid_1 n a0 := by
  have h : runBody ([impl_areValid_1F n]) ty 19 n slices_IndexFunc_impl_Frac_impl_Frac_at_impl_areValid_1kp slices_IndexFunc_impl_Frac_impl_Frac_at_impl_areValid_1c Go.Proofs.Try.f174.results.toList slices_IndexFunc_impl_Frac_impl_Frac_at_impl_areValid_1rs slices_IndexFunc_impl_Frac_impl_Frac_at_impl_areValid_1sp slices_IndexFunc_impl_Frac_impl_Frac_at_impl_areValid_1bs (a0, ((), ())) () = slices_IndexFunc_impl_Frac_impl_Frac_at_impl_areValid_1_t n (fun k v8 v0 v7 => iter (interp ([impl_areValid_1F n]) ty 19 0 n slices_IndexFunc_impl_Frac_impl_Frac_at_impl_areValid_1kp (codeAt slices_IndexFunc_impl_Frac_impl_Frac_at_impl_areValid_1c [1, 0, 1, 0, 0])) (canon 0 (slices_IndexFunc_impl_Frac_impl_Frac_at_impl_areValid_1kp.loop 2)) (kAt ([impl_areValid_1F n]) ty 19 0 n slices_IndexFunc_impl_Frac_impl_Frac_at_impl_areValid_1kp slices_IndexFunc_impl_Frac_impl_Frac_at_impl_areValid_1c [1, 0, 1, 0] [] (ending ty 0 Go.Proofs.Try.f174.results.toList slices_IndexFunc_impl_Frac_impl_Frac_at_impl_areValid_1rs slices_IndexFunc_impl_Frac_impl_Frac_at_impl_areValid_1bs)) k { env := [(8, .one (.sc (.int .i64 v8))), (0, .one (.list true (.pair (.int .i64) (.int .i64)) v0)), (1, .one (.clos 146 [])), (7, .one (.sc (.int .i64 v7)))], bx := [], nx := 0 }) a0 := by kernel_rfl
  rw [h]
  have e := congrArg (fun h2 => slices_IndexFunc_impl_Frac_impl_Frac_at_impl_areValid_1_t n h2 a0) (funext fun k => funext fun v8 => funext fun v0 => funext fun v7 => slices_IndexFunc_impl_Frac_impl_Frac_at_impl_areValid_1_l2_eq n k v8 v0 v7)
  exact e

theorem slices_IndexFunc_impl_Frac_impl_Frac_at_impl_areValid_1_ok (n : Nat) : FunOk P (slices_IndexFunc_impl_Frac_impl_Frac_at_impl_areValid_1F n) :=
  funOk_mk (C := [impl_areValid_1F n]) (N := 19) (kp := slices_IndexFunc_impl_Frac_impl_Frac_at_impl_areValid_1kp) (c := slices_IndexFunc_impl_Frac_impl_Frac_at_impl_areValid_1c) (n := n) (G := fun x y => slices_IndexFunc_impl_Frac_impl_Frac_at_impl_areValid_1 n x.1) follows (AllOk.mem (⟨impl_areValid_1_ok n, trivial⟩ : AllOk P ([impl_areValid_1F n]))) (by kernel_rfl : P.funcs[174]? = some Go.Proofs.Try.f174) (by kernel_rfl) (by kernel_rfl) (by kernel_rfl)
    (fun x y => slices_IndexFunc_impl_Frac_impl_Frac_at_impl_areValid_1_eq n x.1) (fun _ _ => map_same (fun _ => rfl) _) (fun _ _ _ _ => rfl)

abbrev slices_ContainsFunc_impl_Frac_impl_Frac_at_impl_areValid_1sp : List Sp := [.v false (.list (.pair (.int .i64) (.int .i64))), .cl 146 []]
abbrev slices_ContainsFunc_impl_Frac_impl_Frac_at_impl_areValid_1bs : List (Bs × Bool) := []
abbrev slices_ContainsFunc_impl_Frac_impl_Frac_at_impl_areValid_1rs : List (Bool × List Rp) := [(false, [.v false .bool])]
noncomputable def slices_ContainsFunc_impl_Frac_impl_Frac_at_impl_areValid_1kp : Keep := { loop := fun id => match id with | _ => ([], []), join := fun id => match id with | _ => none }
noncomputable def slices_ContainsFunc_impl_Frac_impl_Frac_at_impl_areValid_1c : Code := bodyOf Go.Proofs.Try.f145
noncomputable def slices_ContainsFunc_impl_Frac_impl_Frac_at_impl_areValid_1F (n : Nat) : Fun := { id := 145, sp := slices_ContainsFunc_impl_Frac_impl_Frac_at_impl_areValid_1sp, bs := slices_ContainsFunc_impl_Frac_impl_Frac_at_impl_areValid_1bs, rs := slices_ContainsFunc_impl_Frac_impl_Frac_at_impl_areValid_1rs, f := fun x y => slices_ContainsFunc_impl_Frac_impl_Frac_at_impl_areValid_1 n x.1 }

theorem slices_ContainsFunc_impl_Frac_impl_Frac_at_impl_areValid_1_eq (n : Nat) (a0 : List ((Int) × (Int))) : runBody ([slices_IndexFunc_impl_Frac_impl_Frac_at_impl_areValid_1F n]) ty 9 n slices_ContainsFunc_impl_Frac_impl_Frac_at_impl_areValid_1kp slices_ContainsFunc_impl_Frac_impl_Frac_at_impl_areValid_1c Go.Proofs.Try.f145.results.toList slices_ContainsFunc_impl_Frac_impl_Frac_at_impl_areValid_1rs slices_ContainsFunc_impl_Frac_impl_Frac_at_impl_areValid_1sp slices_ContainsFunc_impl_Frac_impl_Frac_at_impl_areValid_1bs (a0, ((), ())) () = slices_ContainsFunc_impl_Frac_impl_Frac_at_impl_areValid_1 n a0 := by
  have h : runBody ([slices_IndexFunc_impl_Frac_impl_Frac_at_impl_areValid_1F n]) ty 9 n slices_ContainsFunc_impl_Frac_impl_Frac_at_impl_areValid_1kp slices_ContainsFunc_impl_Frac_impl_Frac_at_impl_areValid_1c Go.Proofs.Try.f145.results.toList slices_ContainsFunc_impl_Frac_impl_Frac_at_impl_areValid_1rs slices_ContainsFunc_impl_Frac_impl_Frac_at_impl_areValid_1sp slices_ContainsFunc_impl_Frac_impl_Frac_at_impl_areValid_1bs (a0, ((), ())) () = slices_ContainsFunc_impl_Frac_impl_Frac_at_impl_areValid_1_t n a0 := by kernel_rfl
  rw [h]
  rfl

theorem slices_ContainsFunc_impl_Frac_impl_Frac_at_impl_areValid_1_ok (n : Nat) : FunOk P (slices_ContainsFunc_impl_Frac_impl_Frac_at_impl_areValid_1F n) :=
  funOk_mk (C := [slices_IndexFunc_impl_Frac_impl_Frac_at_impl_areValid_1F n]) (N := 9) (kp := slices_ContainsFunc_impl_Frac_impl_Frac_at_impl_areValid_1kp) (c := slices_ContainsFunc_impl_Frac_impl_Frac_at_impl_areValid_1c) (n := n) (G := fun x y => slices_ContainsFunc_impl_Frac_impl_Frac_at_impl_areValid_1 n x.1) follows (AllOk.mem (⟨slices_IndexFunc_impl_Frac_impl_Frac_at_impl_areValid_1_ok n, trivial⟩ : AllOk P ([slices_IndexFunc_impl_Frac_impl_Frac_at_impl_areValid_1F n]))) (by kernel_rfl : P.funcs[145]? = some Go.Proofs.Try.f145) (by kernel_rfl) (by kernel_rfl) (by kernel_rfl)
    (fun x y => slices_ContainsFunc_impl_Frac_impl_Frac_at_impl_areValid_1_eq n x.1) (fun _ _ => map_same (fun _ => rfl) _) (fun _ _ _ _ => rfl)

abbrev impl_areValidsp : List Sp := [.v false (.list (.pair (.int .i64) (.int .i64)))]
abbrev impl_areValidbs : List (Bs × Bool) := []
abbrev impl_areValidrs : List (Bool × List Rp) := [(false, [.v false .bool])]
noncomputable def impl_areValidkp : Keep := { loop := fun id => match id with | _ => ([], []), join := fun id => match id with | _ => none }
noncomputable def impl_areValidc : Code := bodyOf Go.Proofs.Try.f96
noncomputable def impl_areValidF (n : Nat) : Fun := { id := 96, sp := impl_areValidsp, bs := impl_areValidbs, rs := impl_areValidrs, f := fun x y => impl_areValid n x.1 }

theorem impl_areValid_eq (n : Nat) (a0 : List ((Int) × (Int))) : runBody ([slices_ContainsFunc_impl_Frac_impl_Frac_at_impl_areValid_1F n]) ty 6 n impl_areValidkp impl_areValidc Go.Proofs.Try.f96.results.toList impl_areValidrs impl_areValidsp impl_areValidbs (a0, ()) () = impl_areValid n a0 := by
  have h : runBody ([slices_ContainsFunc_impl_Frac_impl_Frac_at_impl_areValid_1F n]) ty 6 n impl_areValidkp impl_areValidc Go.Proofs.Try.f96.results.toList impl_areValidrs impl_areValidsp impl_areValidbs (a0, ()) () = impl_areValid_t n a0 := by kernel_rfl
  rw [h]
  rfl

theorem impl_areValid_ok (n : Nat) : FunOk P (impl_areValidF n) :=
  funOk_mk (C := [slices_ContainsFunc_impl_Frac_impl_Frac_at_impl_areValid_1F n]) (N := 6) (kp := impl_areValidkp) (c := impl_areValidc) (n := n) (G := fun x y => impl_areValid n x.1) follows (AllOk.mem (⟨slices_ContainsFunc_impl_Frac_impl_Frac_at_impl_areValid_1_ok n, trivial⟩ : AllOk P ([slices_ContainsFunc_impl_Frac_impl_Frac_at_impl_areValid_1F n]))) (by kernel_rfl : P.funcs[96]? = some Go.Proofs.Try.f96) (by kernel_rfl) (by kernel_rfl) (by kernel_rfl)
    (fun x y => impl_areValid_eq n x.1) (fun _ _ => map_same (fun _ => rfl) _) (fun _ _ _ _ => rfl)

abbrev impl_fracOfsp : List Sp := [.v false (.int .i64), .v false (.int .i64)]
abbrev impl_fracOfbs : List (Bs × Bool) := []
abbrev impl_fracOfrs : List (Bool × List Rp) := [(true, [.v false (.pair (.int .i64) (.int .i64))]), (false, [.v false .bool])]
noncomputable def impl_fracOfkp : Keep := { loop := fun id => match id with | _ => ([], []), join := fun id => match id with | _ => none }
noncomputable def impl_fracOfc : Code := bodyOf Go.Proofs.Try.f186
noncomputable def impl_fracOfF (n : Nat) : Fun := { id := 186, sp := impl_fracOfsp, bs := impl_fracOfbs, rs := impl_fracOfrs, f := fun x y => impl_fracOf n x.1 x.2.1 }

theorem impl_fracOf_eq (n : Nat) (a0 : Int) (a1 : Int) : runBody ([impl_gcdF n, impl_ValidFracF n]) ty 29 n impl_fracOfkp impl_fracOfc Go.Proofs.Try.f186.results.toList impl_fracOfrs impl_fracOfsp impl_fracOfbs (a0, (a1, ())) () = impl_fracOf n a0 a1 := by
  have h : runBody ([impl_gcdF n, impl_ValidFracF n]) ty 29 n impl_fracOfkp impl_fracOfc Go.Proofs.Try.f186.results.toList impl_fracOfrs impl_fracOfsp impl_fracOfbs (a0, (a1, ())) () = impl_fracOf_t n a0 a1 := by kernel_rfl
  rw [h]
  rfl

theorem impl_fracOf_ok (n : Nat) : FunOk P (impl_fracOfF n) :=
  funOk_mk (C := [impl_gcdF n, impl_ValidFracF n]) (N := 29) (kp := impl_fracOfkp) (c := impl_fracOfc) (n := n) (G := fun x y => impl_fracOf n x.1 x.2.1) follows (AllOk.mem (⟨impl_gcd_ok n, ⟨impl_ValidFrac_ok n, trivial⟩⟩ : AllOk P ([impl_gcdF n, impl_ValidFracF n]))) (by kernel_rfl : P.funcs[186]? = some Go.Proofs.Try.f186) (by kernel_rfl) (by kernel_rfl) (by kernel_rfl)
    (fun x y => impl_fracOf_eq n x.1 x.2.1) (fun _ _ => map_same (fun _ => rfl) _) (fun _ _ _ _ => rfl)

abbrev impl_zerosp : List Sp := []
abbrev impl_zerobs : List (Bs × Bool) := []
abbrev impl_zerors : List (Bool × List Rp) := [(true, [.v false (.pair (.int .i64) (.int .i64))])]
noncomputable def impl_zerokp : Keep := { loop := fun id => match id with | _ => ([], []), join := fun id => match id with | _ => none }
noncomputable def impl_zeroc : Code := bodyOf Go.Proofs.Try.f187
noncomputable def impl_zeroF (n : Nat) : Fun := { id := 187, sp := impl_zerosp, bs := impl_zerobs, rs := impl_zerors, f := fun x y => impl_zero n }

theorem impl_zero_eq (n : Nat) : runBody ([]) ty 2 n impl_zerokp impl_zeroc Go.Proofs.Try.f187.results.toList impl_zerors impl_zerosp impl_zerobs () () = impl_zero n := by
  have h : runBody ([]) ty 2 n impl_zerokp impl_zeroc Go.Proofs.Try.f187.results.toList impl_zerors impl_zerosp impl_zerobs () () = impl_zero_t n := by kernel_rfl
  rw [h]
  rfl

theorem impl_zero_ok (n : Nat) : FunOk P (impl_zeroF n) :=
  funOk_mk (C := []) (N := 2) (kp := impl_zerokp) (c := impl_zeroc) (n := n) (G := fun x y => impl_zero n) follows (AllOk.mem (trivial : AllOk P ([]))) (by kernel_rfl : P.funcs[187]? = some Go.Proofs.Try.f187) (by kernel_rfl) (by kernel_rfl) (by kernel_rfl)
    (fun x y => impl_zero_eq n) (fun _ _ => map_same (fun _ => rfl) _) (fun _ _ _ _ => rfl)

abbrev impl_calc_toldsp : List Sp := [.ref 0, .v false (.int .i64), .v false (.int .i64)]
abbrev impl_calc_toldbs : List (Bs × Bool) := [(.var 155 .bool, true)]
abbrev impl_calc_toldrs : List (Bool × List Rp) := [(true, [.v false (.pair (.int .i64) (.int .i64))])]
noncomputable def impl_calc_toldkp : Keep := { loop := fun id => match id with | _ => ([], []), join := fun id => match id with | _ => none }
noncomputable def impl_calc_toldc : Code := bodyOf Go.Proofs.Try.f183
noncomputable def impl_calc_toldF (n : Nat) : Fun := { id := 183, sp := impl_calc_toldsp, bs := impl_calc_toldbs, rs := impl_calc_toldrs, f := fun x y => impl_calc_told n x.2.1 x.2.2.1 y.1 }

theorem impl_calc_told_eq (n : Nat) (a1 : Int) (a2 : Int) (b0 : Bool) : runBody ([impl_fracOfF n, impl_zeroF n]) ty 22 n impl_calc_toldkp impl_calc_toldc Go.Proofs.Try.f183.results.toList impl_calc_toldrs impl_calc_toldsp impl_calc_toldbs ((), (a1, (a2, ()))) (b0, ()) = impl_calc_told n a1 a2 b0 := by
  have h : runBody ([impl_fracOfF n, impl_zeroF n]) ty 22 n impl_calc_toldkp impl_calc_toldc Go.Proofs.Try.f183.results.toList impl_calc_toldrs impl_calc_toldsp impl_calc_toldbs ((), (a1, (a2, ()))) (b0, ()) = impl_calc_told_t n a1 a2 b0 := by kernel_rfl
  rw [h]
  rfl

theorem impl_calc_told_ok (n : Nat) : FunOk P (impl_calc_toldF n) :=
  funOk_mk (C := [impl_fracOfF n, impl_zeroF n]) (N := 22) (kp := impl_calc_toldkp) (c := impl_calc_toldc) (n := n) (G := fun x y => impl_calc_told n x.2.1 x.2.2.1 y.1) follows (AllOk.mem (⟨impl_fracOf_ok n, ⟨impl_zero_ok n, trivial⟩⟩ : AllOk P ([impl_fracOfF n, impl_zeroF n]))) (by kernel_rfl : P.funcs[183]? = some Go.Proofs.Try.f183) (by kernel_rfl) (by kernel_rfl) (by kernel_rfl)
    (fun x y => impl_calc_told_eq n x.2.1 x.2.2.1 y.1) (fun _ _ => map_same (fun _ => rfl) _) (fun _ _ _ _ => rfl)

abbrev impl_calc_addsp : List Sp := [.ref 0, .v true (.pair (.int .i64) (.int .i64)), .v true (.pair (.int .i64) (.int .i64))]
abbrev impl_calc_addbs : List (Bs × Bool) := [(.var 155 .bool, true)]
abbrev impl_calc_addrs : List (Bool × List Rp) := [(true, [.v false (.pair (.int .i64) (.int .i64))])]
noncomputable def impl_calc_addkp : Keep := { loop := fun id => match id with | _ => ([], []), join := fun id => match id with | _ => none }
noncomputable def impl_calc_addc : Code := bodyOf Go.Proofs.Try.f163
noncomputable def impl_calc_addF (n : Nat) : Fun := { id := 163, sp := impl_calc_addsp, bs := impl_calc_addbs, rs := impl_calc_addrs, f := fun x y => impl_calc_add n x.2.1 x.2.2.1 y.1 }

theorem impl_calc_add_eq (n : Nat) (a1 : (Int) × (Int)) (a2 : (Int) × (Int)) (b0 : Bool) : runBody ([impl_calc_toldF n]) ty 25 n impl_calc_addkp impl_calc_addc Go.Proofs.Try.f163.results.toList impl_calc_addrs impl_calc_addsp impl_calc_addbs ((), (a1, (a2, ()))) (b0, ()) = impl_calc_add n a1 a2 b0 := by
  have h : runBody ([impl_calc_toldF n]) ty 25 n impl_calc_addkp impl_calc_addc Go.Proofs.Try.f163.results.toList impl_calc_addrs impl_calc_addsp impl_calc_addbs ((), (a1, (a2, ()))) (b0, ()) = impl_calc_add_t n a1 a2 b0 := by kernel_rfl
  rw [h]
  rfl

theorem impl_calc_add_ok (n : Nat) : FunOk P (impl_calc_addF n) :=
  funOk_mk (C := [impl_calc_toldF n]) (N := 25) (kp := impl_calc_addkp) (c := impl_calc_addc) (n := n) (G := fun x y => impl_calc_add n x.2.1 x.2.2.1 y.1) follows (AllOk.mem (⟨impl_calc_told_ok n, trivial⟩ : AllOk P ([impl_calc_toldF n]))) (by kernel_rfl : P.funcs[163]? = some Go.Proofs.Try.f163) (by kernel_rfl) (by kernel_rfl) (by kernel_rfl)
    (fun x y => impl_calc_add_eq n x.2.1 x.2.2.1 y.1) (fun _ _ => map_same (fun _ => rfl) _) (fun _ _ _ _ => rfl)

abbrev impl_calc_fromsp : List Sp := [.ref 0, .v true (.pair (.int .i64) (.int .i64)), .v false (.list (.pair (.int .i64) (.int .i64)))]
abbrev impl_calc_frombs : List (Bs × Bool) := [(.var 155 .bool, true)]
abbrev impl_calc_fromrs : List (Bool × List Rp) := [(false, [.new  (.pair (.int .i64) (.int .i64))])]
noncomputable def impl_calc_fromkp : Keep := { loop := fun id => match id with | 3 => ([14, 7, 0, 12, 13], []) | _ => ([], []), join := fun id => match id with | _ => none }
noncomputable def impl_calc_fromc : Code := bodyOf Go.Proofs.Try.f124
noncomputable def impl_calc_fromF (n : Nat) : Fun := { id := 124, sp := impl_calc_fromsp, bs := impl_calc_frombs, rs := impl_calc_fromrs, f := fun x y => impl_calc_from n x.2.1 x.2.2.1 y.1 }

theorem impl_calc_from_l3_eq (n : Nat) : ∀ (k : Nat) (v14 : Int) (v12 : List ((Int) × (Int))) (v13 : Int) (b0 : Bool) (b1 : List ((Int) × (Int))), iter (interp ([impl_calc_addF n]) ty 31 1 n impl_calc_fromkp (codeAt impl_calc_fromc [1, 1, 0, 1, 0, 0])) (canon 1 (impl_calc_fromkp.loop 3)) (kAt ([impl_calc_addF n]) ty 31 1 n impl_calc_fromkp impl_calc_fromc [1, 1, 0, 1, 0] [] (ending ty 1 Go.Proofs.Try.f124.results.toList impl_calc_fromrs impl_calc_frombs)) k { env := [(14, .one (.sc (.int .i64 v14))), (7, .one (.slice 1 0 none)), (0, .one (.ref 0 0 0 0 0 0)), (12, .one (.list true (.pair (.int .i64) (.int .i64)) v12)), (13, .one (.sc (.int .i64 v13)))], bx := [(0, .var 155 [.sc (.bool b0)]), (1, .row 0 (.pair (.int .i64) (.int .i64)) b1)], nx := 2 } = impl_calc_from_l3 n k v14 v12 v13 b0 b1
  | 0, _, _, _, _, _ => by kernel_rfl
  | k + 1, v14, v12, v13, b0, b1 => by
    have h : iter (interp ([impl_calc_addF n]) ty 31 1 n impl_calc_fromkp (codeAt impl_calc_fromc [1, 1, 0, 1, 0, 0])) (canon 1 (impl_calc_fromkp.loop 3)) (kAt ([impl_calc_addF n]) ty 31 1 n impl_calc_fromkp impl_calc_fromc [1, 1, 0, 1, 0] [] (ending ty 1 Go.Proofs.Try.f124.results.toList impl_calc_fromrs impl_calc_frombs)) (k + 1) { env := [(14, .one (.sc (.int .i64 v14))), (7, .one (.slice 1 0 none)), (0, .one (.ref 0 0 0 0 0 0)), (12, .one (.list true (.pair (.int .i64) (.int .i64)) v12)), (13, .one (.sc (.int .i64 v13)))], bx := [(0, .var 155 [.sc (.bool b0)]), (1, .row 0 (.pair (.int .i64) (.int .i64)) b1)], nx := 2 } = impl_calc_from_t3 n (fun v14 v12 v13 b0 b1 => iter (interp ([impl_calc_addF n]) ty 31 1 n impl_calc_fromkp (codeAt impl_calc_fromc [1, 1, 0, 1, 0, 0])) (canon 1 (impl_calc_fromkp.loop 3)) (kAt ([impl_calc_addF n]) ty 31 1 n impl_calc_fromkp impl_calc_fromc [1, 1, 0, 1, 0] [] (ending ty 1 Go.Proofs.Try.f124.results.toList impl_calc_fromrs impl_calc_frombs)) k { env := [(14, .one (.sc (.int .i64 v14))), (7, .one (.slice 1 0 none)), (0, .one (.ref 0 0 0 0 0 0)), (12, .one (.list true (.pair (.int .i64) (.int .i64)) v12)), (13, .one (.sc (.int .i64 v13)))], bx := [(0, .var 155 [.sc (.bool b0)]), (1, .row 0 (.pair (.int .i64) (.int .i64)) b1)], nx := 2 }) v14 v12 v13 b0 b1 := by kernel_rfl
    rw [h]
    have e := congrArg (fun g => impl_calc_from_t3 n g v14 v12 v13 b0 b1) (funext fun v14 => funext fun v12 => funext fun v13 => funext fun b0 => funext fun b1 => impl_calc_from_l3_eq n k v14 v12 v13 b0 b1)
    exact e

theorem impl_calc_from_eq (n : Nat) (a1 : (Int) × (Int)) (a2 : List ((Int) × (Int))) (b0 : Bool) : runBody ([impl_calc_addF n]) ty 31 n impl_calc_fromkp impl_calc_fromc Go.Proofs.Try.f124.results.toList impl_calc_fromrs impl_calc_fromsp impl_calc_frombs ((), (a1, (a2, ()))) (b0, ()) = impl_calc_from n a1 a2 b0 := by
  have h : runBody ([impl_calc_addF n]) ty 31 n impl_calc_fromkp impl_calc_fromc Go.Proofs.Try.f124.results.toList impl_calc_fromrs impl_calc_fromsp impl_calc_frombs ((), (a1, (a2, ()))) (b0, ()) = impl_calc_from_t n (fun k v14 v12 v13 b0 b1 => iter (interp ([impl_calc_addF n]) ty 31 1 n impl_calc_fromkp (codeAt impl_calc_fromc [1, 1, 0, 1, 0, 0])) (canon 1 (impl_calc_fromkp.loop 3)) (kAt ([impl_calc_addF n]) ty 31 1 n impl_calc_fromkp impl_calc_fromc [1, 1, 0, 1, 0] [] (ending ty 1 Go.Proofs.Try.f124.results.toList impl_calc_fromrs impl_calc_frombs)) k { env := [(14, .one (.sc (.int .i64 v14))), (7, .one (.slice 1 0 none)), (0, .one (.ref 0 0 0 0 0 0)), (12, .one (.list true (.pair (.int .i64) (.int .i64)) v12)), (13, .one (.sc (.int .i64 v13)))], bx := [(0, .var 155 [.sc (.bool b0)]), (1, .row 0 (.pair (.int .i64) (.int .i64)) b1)], nx := 2 }) a1 a2 b0 := by kernel_rfl
  rw [h]
  have e := congrArg (fun h3 => impl_calc_from_t n h3 a1 a2 b0) (funext fun k => funext fun v14 => funext fun v12 => funext fun v13 => funext fun b0 => funext fun b1 => impl_calc_from_l3_eq n k v14 v12 v13 b0 b1)
  exact e

theorem impl_calc_from_ok (n : Nat) : FunOk P (impl_calc_fromF n) :=
  funOk_mk (C := [impl_calc_addF n]) (N := 31) (kp := impl_calc_fromkp) (c := impl_calc_fromc) (n := n) (G := fun x y => impl_calc_from n x.2.1 x.2.2.1 y.1) follows (AllOk.mem (⟨impl_calc_add_ok n, trivial⟩ : AllOk P ([impl_calc_addF n]))) (by kernel_rfl : P.funcs[124]? = some Go.Proofs.Try.f124) (by kernel_rfl) (by kernel_rfl) (by kernel_rfl)
    (fun x y => impl_calc_from_eq n x.2.1 x.2.2.1 y.1) (fun _ _ => map_same (fun _ => rfl) _) (fun _ _ _ _ => rfl)

abbrev impl_numsp : List Sp := [.v false (.int .i64)]
abbrev impl_numbs : List (Bs × Bool) := []
abbrev impl_numrs : List (Bool × List Rp) := [(true, [.v false (.pair (.int .i64) (.int .i64))])]
noncomputable def impl_numkp : Keep := { loop := fun id => match id with | _ => ([], []), join := fun id => match id with | _ => none }
noncomputable def impl_numc : Code := bodyOf Go.Proofs.Try.f167
noncomputable def impl_numF (n : Nat) : Fun := { id := 167, sp := impl_numsp, bs := impl_numbs, rs := impl_numrs, f := fun x y => impl_num n x.1 }

theorem impl_num_eq (n : Nat) (a0 : Int) : runBody ([]) ty 5 n impl_numkp impl_numc Go.Proofs.Try.f167.results.toList impl_numrs impl_numsp impl_numbs (a0, ()) () = impl_num n a0 := by
  have h : runBody ([]) ty 5 n impl_numkp impl_numc Go.Proofs.Try.f167.results.toList impl_numrs impl_numsp impl_numbs (a0, ()) () = impl_num_t n a0 := by kernel_rfl
  rw [h]
  rfl

theorem impl_num_ok (n : Nat) : FunOk P (impl_numF n) :=
  funOk_mk (C := []) (N := 5) (kp := impl_numkp) (c := impl_numc) (n := n) (G := fun x y => impl_num n x.1) follows (AllOk.mem (trivial : AllOk P ([]))) (by kernel_rfl : P.funcs[167]? = some Go.Proofs.Try.f167) (by kernel_rfl) (by kernel_rfl) (by kernel_rfl)
    (fun x y => impl_num_eq n x.1) (fun _ _ => map_same (fun _ => rfl) _) (fun _ _ _ _ => rfl)

abbrev impl_comparesp : List Sp := [.v true (.pair (.int .i64) (.int .i64)), .v true (.pair (.int .i64) (.int .i64))]
abbrev impl_comparebs : List (Bs × Bool) := []
abbrev impl_comparers : List (Bool × List Rp) := [(false, [.v false (.int .i64)])]
noncomputable def impl_comparekp : Keep := { loop := fun id => match id with | _ => ([], []), join := fun id => match id with | _ => none }
noncomputable def impl_comparec : Code := bodyOf Go.Proofs.Try.f142
noncomputable def impl_compareF (n : Nat) : Fun := { id := 142, sp := impl_comparesp, bs := impl_comparebs, rs := impl_comparers, f := fun x y => impl_compare n x.1 x.2.1 }

theorem impl_compare_eq (n : Nat) (a0 : (Int) × (Int)) (a1 : (Int) × (Int)) : runBody ([]) ty 25 n impl_comparekp impl_comparec Go.Proofs.Try.f142.results.toList impl_comparers impl_comparesp impl_comparebs (a0, (a1, ())) () = impl_compare n a0 a1 := by
  have h : runBody ([]) ty 25 n impl_comparekp impl_comparec Go.Proofs.Try.f142.results.toList impl_comparers impl_comparesp impl_comparebs (a0, (a1, ())) () = impl_compare_t n a0 a1 := by kernel_rfl
  rw [h]
  rfl

theorem impl_compare_ok (n : Nat) : FunOk P (impl_compareF n) :=
  funOk_mk (C := []) (N := 25) (kp := impl_comparekp) (c := impl_comparec) (n := n) (G := fun x y => impl_compare n x.1 x.2.1) follows (AllOk.mem (trivial : AllOk P ([]))) (by kernel_rfl : P.funcs[142]? = some Go.Proofs.Try.f142) (by kernel_rfl) (by kernel_rfl) (by kernel_rfl)
    (fun x y => impl_compare_eq n x.1 x.2.1) (fun _ _ => map_same (fun _ => rfl) _) (fun _ _ _ _ => rfl)

abbrev impl_isUnitsp : List Sp := [.v true (.pair (.int .i64) (.int .i64))]
abbrev impl_isUnitbs : List (Bs × Bool) := []
abbrev impl_isUnitrs : List (Bool × List Rp) := [(false, [.v false .bool])]
noncomputable def impl_isUnitkp : Keep := { loop := fun id => match id with | _ => ([], []), join := fun id => match id with | _ => none }
noncomputable def impl_isUnitc : Code := bodyOf Go.Proofs.Try.f164
noncomputable def impl_isUnitF (n : Nat) : Fun := { id := 164, sp := impl_isUnitsp, bs := impl_isUnitbs, rs := impl_isUnitrs, f := fun x y => impl_isUnit n x.1 }

theorem impl_isUnit_eq (n : Nat) (a0 : (Int) × (Int)) : runBody ([impl_numF n, impl_compareF n]) ty 12 n impl_isUnitkp impl_isUnitc Go.Proofs.Try.f164.results.toList impl_isUnitrs impl_isUnitsp impl_isUnitbs (a0, ()) () = impl_isUnit n a0 := by
  have h : runBody ([impl_numF n, impl_compareF n]) ty 12 n impl_isUnitkp impl_isUnitc Go.Proofs.Try.f164.results.toList impl_isUnitrs impl_isUnitsp impl_isUnitbs (a0, ()) () = impl_isUnit_t n a0 := by kernel_rfl
  rw [h]
  rfl

theorem impl_isUnit_ok (n : Nat) : FunOk P (impl_isUnitF n) :=
  funOk_mk (C := [impl_numF n, impl_compareF n]) (N := 12) (kp := impl_isUnitkp) (c := impl_isUnitc) (n := n) (G := fun x y => impl_isUnit n x.1) follows (AllOk.mem (⟨impl_num_ok n, ⟨impl_compare_ok n, trivial⟩⟩ : AllOk P ([impl_numF n, impl_compareF n]))) (by kernel_rfl : P.funcs[164]? = some Go.Proofs.Try.f164) (by kernel_rfl) (by kernel_rfl) (by kernel_rfl)
    (fun x y => impl_isUnit_eq n x.1) (fun _ _ => map_same (fun _ => rfl) _) (fun _ _ _ _ => rfl)

abbrev impl_sizesp : List Sp := [.v true (.pair (.int .i64) (.int .i64))]
abbrev impl_sizebs : List (Bs × Bool) := []
abbrev impl_sizers : List (Bool × List Rp) := [(true, [.v false (.pair (.int .i64) (.int .i64))])]
noncomputable def impl_sizekp : Keep := { loop := fun id => match id with | _ => ([], []), join := fun id => match id with | _ => none }
noncomputable def impl_sizec : Code := bodyOf Go.Proofs.Try.f165
noncomputable def impl_sizeF (n : Nat) : Fun := { id := 165, sp := impl_sizesp, bs := impl_sizebs, rs := impl_sizers, f := fun x y => impl_size n x.1 }

theorem impl_size_eq (n : Nat) (a0 : (Int) × (Int)) : runBody ([]) ty 12 n impl_sizekp impl_sizec Go.Proofs.Try.f165.results.toList impl_sizers impl_sizesp impl_sizebs (a0, ()) () = impl_size n a0 := by
  have h : runBody ([]) ty 12 n impl_sizekp impl_sizec Go.Proofs.Try.f165.results.toList impl_sizers impl_sizesp impl_sizebs (a0, ()) () = impl_size_t n a0 := by kernel_rfl
  rw [h]
  rfl

theorem impl_size_ok (n : Nat) : FunOk P (impl_sizeF n) :=
  funOk_mk (C := []) (N := 12) (kp := impl_sizekp) (c := impl_sizec) (n := n) (G := fun x y => impl_size n x.1) follows (AllOk.mem (trivial : AllOk P ([]))) (by kernel_rfl : P.funcs[165]? = some Go.Proofs.Try.f165) (by kernel_rfl) (by kernel_rfl) (by kernel_rfl)
    (fun x y => impl_size_eq n x.1) (fun _ _ => map_same (fun _ => rfl) _) (fun _ _ _ _ => rfl)

abbrev impl_calc_mulsp : List Sp := [.ref 0, .v true (.pair (.int .i64) (.int .i64)), .v true (.pair (.int .i64) (.int .i64))]
abbrev impl_calc_mulbs : List (Bs × Bool) := [(.var 155 .bool, true)]
abbrev impl_calc_mulrs : List (Bool × List Rp) := [(true, [.v false (.pair (.int .i64) (.int .i64))])]
noncomputable def impl_calc_mulkp : Keep := { loop := fun id => match id with | _ => ([], []), join := fun id => match id with | _ => none }
noncomputable def impl_calc_mulc : Code := bodyOf Go.Proofs.Try.f166
noncomputable def impl_calc_mulF (n : Nat) : Fun := { id := 166, sp := impl_calc_mulsp, bs := impl_calc_mulbs, rs := impl_calc_mulrs, f := fun x y => impl_calc_mul n x.2.1 x.2.2.1 y.1 }

theorem impl_calc_mul_eq (n : Nat) (a1 : (Int) × (Int)) (a2 : (Int) × (Int)) (b0 : Bool) : runBody ([impl_calc_toldF n]) ty 19 n impl_calc_mulkp impl_calc_mulc Go.Proofs.Try.f166.results.toList impl_calc_mulrs impl_calc_mulsp impl_calc_mulbs ((), (a1, (a2, ()))) (b0, ()) = impl_calc_mul n a1 a2 b0 := by
  have h : runBody ([impl_calc_toldF n]) ty 19 n impl_calc_mulkp impl_calc_mulc Go.Proofs.Try.f166.results.toList impl_calc_mulrs impl_calc_mulsp impl_calc_mulbs ((), (a1, (a2, ()))) (b0, ()) = impl_calc_mul_t n a1 a2 b0 := by kernel_rfl
  rw [h]
  rfl

theorem impl_calc_mul_ok (n : Nat) : FunOk P (impl_calc_mulF n) :=
  funOk_mk (C := [impl_calc_toldF n]) (N := 19) (kp := impl_calc_mulkp) (c := impl_calc_mulc) (n := n) (G := fun x y => impl_calc_mul n x.2.1 x.2.2.1 y.1) follows (AllOk.mem (⟨impl_calc_told_ok n, trivial⟩ : AllOk P ([impl_calc_toldF n]))) (by kernel_rfl : P.funcs[166]? = some Go.Proofs.Try.f166) (by kernel_rfl) (by kernel_rfl) (by kernel_rfl)
    (fun x y => impl_calc_mul_eq n x.2.1 x.2.2.1 y.1) (fun _ _ => map_same (fun _ => rfl) _) (fun _ _ _ _ => rfl)

abbrev impl_ValidScalesp : List Sp := [.v true (.pair (.pair (.int .i64) (.int .i64)) (.list (.pair (.int .i64) (.int .i64))))]
abbrev impl_ValidScalebs : List (Bs × Bool) := []
abbrev impl_ValidScalers : List (Bool × List Rp) := [(false, [.v false .bool])]
noncomputable def impl_ValidScalekp : Keep := { loop := fun id => match id with | 5 => ([34, 1, 3, 32, 33], []) | _ => ([], []), join := fun id => match id with | _ => none }
noncomputable def impl_ValidScalec : Code := bodyOf Go.Proofs.Try.f125
noncomputable def impl_ValidScaleF (n : Nat) : Fun := { id := 125, sp := impl_ValidScalesp, bs := impl_ValidScalebs, rs := impl_ValidScalers, f := fun x y => impl_ValidScale n x.1 }

theorem impl_ValidScale_l5_eq (n : Nat) : ∀ (k : Nat) (v34 : Int) (v32 : List ((Int) × (Int))) (v33 : Int) (b0_0 : Int) (b0_1 : Int) (b0_2 : List ((Int) × (Int))) (b1 : Bool), iter (interp ([impl_ValidFracF n, impl_isUnitF n, impl_withinF n, impl_areValidF n, impl_sizeF n, impl_numF n, impl_calc_mulF n, impl_calc_addF n]) ty 69 0 n impl_ValidScalekp (codeAt impl_ValidScalec [1, 1, 1, 0, 1, 0, 0])) (canon 0 (impl_ValidScalekp.loop 5)) (kAt ([impl_ValidFracF n, impl_isUnitF n, impl_withinF n, impl_areValidF n, impl_sizeF n, impl_numF n, impl_calc_mulF n, impl_calc_addF n]) ty 69 0 n impl_ValidScalekp impl_ValidScalec [1, 1, 1, 0, 1, 0] [] (ending ty 0 Go.Proofs.Try.f125.results.toList impl_ValidScalers impl_ValidScalebs)) k { env := [(34, .one (.sc (.int .i64 v34))), (1, .one (.ref 0 0 0 0 0 0)), (3, .one (.ref 1 0 0 0 0 0)), (32, .one (.list true (.pair (.int .i64) (.int .i64)) v32)), (33, .one (.sc (.int .i64 v33)))], bx := [(0, .var 88 [.sc (.int .i64 b0_0), .sc (.int .i64 b0_1), .list true (.pair (.int .i64) (.int .i64)) b0_2]), (1, .var 155 [.sc (.bool b1)])], nx := 2 } = impl_ValidScale_l5 n k v34 v32 v33 b0_0 b0_1 b0_2 b1
  | 0, _, _, _, _, _, _, _ => by kernel_rfl
  | k + 1, v34, v32, v33, b0_0, b0_1, b0_2, b1 => by
    have h : iter (interp ([impl_ValidFracF n, impl_isUnitF n, impl_withinF n, impl_areValidF n, impl_sizeF n, impl_numF n, impl_calc_mulF n, impl_calc_addF n]) ty 69 0 n impl_ValidScalekp (codeAt impl_ValidScalec [1, 1, 1, 0, 1, 0, 0])) (canon 0 (impl_ValidScalekp.loop 5)) (kAt ([impl_ValidFracF n, impl_isUnitF n, impl_withinF n, impl_areValidF n, impl_sizeF n, impl_numF n, impl_calc_mulF n, impl_calc_addF n]) ty 69 0 n impl_ValidScalekp impl_ValidScalec [1, 1, 1, 0, 1, 0] [] (ending ty 0 Go.Proofs.Try.f125.results.toList impl_ValidScalers impl_ValidScalebs)) (k + 1) { env := [(34, .one (.sc (.int .i64 v34))), (1, .one (.ref 0 0 0 0 0 0)), (3, .one (.ref 1 0 0 0 0 0)), (32, .one (.list true (.pair (.int .i64) (.int .i64)) v32)), (33, .one (.sc (.int .i64 v33)))], bx := [(0, .var 88 [.sc (.int .i64 b0_0), .sc (.int .i64 b0_1), .list true (.pair (.int .i64) (.int .i64)) b0_2]), (1, .var 155 [.sc (.bool b1)])], nx := 2 } = impl_ValidScale_t5 n (fun v34 v32 v33 b0_0 b0_1 b0_2 b1 => iter (interp ([impl_ValidFracF n, impl_isUnitF n, impl_withinF n, impl_areValidF n, impl_sizeF n, impl_numF n, impl_calc_mulF n, impl_calc_addF n]) ty 69 0 n impl_ValidScalekp (codeAt impl_ValidScalec [1, 1, 1, 0, 1, 0, 0])) (canon 0 (impl_ValidScalekp.loop 5)) (kAt ([impl_ValidFracF n, impl_isUnitF n, impl_withinF n, impl_areValidF n, impl_sizeF n, impl_numF n, impl_calc_mulF n, impl_calc_addF n]) ty 69 0 n impl_ValidScalekp impl_ValidScalec [1, 1, 1, 0, 1, 0] [] (ending ty 0 Go.Proofs.Try.f125.results.toList impl_ValidScalers impl_ValidScalebs)) k { env := [(34, .one (.sc (.int .i64 v34))), (1, .one (.ref 0 0 0 0 0 0)), (3, .one (.ref 1 0 0 0 0 0)), (32, .one (.list true (.pair (.int .i64) (.int .i64)) v32)), (33, .one (.sc (.int .i64 v33)))], bx := [(0, .var 88 [.sc (.int .i64 b0_0), .sc (.int .i64 b0_1), .list true (.pair (.int .i64) (.int .i64)) b0_2]), (1, .var 155 [.sc (.bool b1)])], nx := 2 }) v34 v32 v33 b0_0 b0_1 b0_2 b1 := by kernel_rfl
    rw [h]
    have e := congrArg (fun g => impl_ValidScale_t5 n g v34 v32 v33 b0_0 b0_1 b0_2 b1) (funext fun v34 => funext fun v32 => funext fun v33 => funext fun b0_0 => funext fun b0_1 => funext fun b0_2 => funext fun b1 => impl_ValidScale_l5_eq n k v34 v32 v33 b0_0 b0_1 b0_2 b1)
    exact e

theorem impl_ValidScale_eq (n : Nat) (a0 : ((Int) × (Int)) × (List ((Int) × (Int)))) : runBody ([impl_ValidFracF n, impl_isUnitF n, impl_withinF n, impl_areValidF n, impl_sizeF n, impl_numF n, impl_calc_mulF n, impl_calc_addF n]) ty 69 n impl_ValidScalekp impl_ValidScalec Go.Proofs.Try.f125.results.toList impl_ValidScalers impl_ValidScalesp impl_ValidScalebs (a0, ()) () = impl_ValidScale n a0 := by
  have h : runBody ([impl_ValidFracF n, impl_isUnitF n, impl_withinF n, impl_areValidF n, impl_sizeF n, impl_numF n, impl_calc_mulF n, impl_calc_addF n]) ty 69 n impl_ValidScalekp impl_ValidScalec Go.Proofs.Try.f125.results.toList impl_ValidScalers impl_ValidScalesp impl_ValidScalebs (a0, ()) () = impl_ValidScale_t n (fun k v34 v32 v33 b0_0 b0_1 b0_2 b1 => iter (interp ([impl_ValidFracF n, impl_isUnitF n, impl_withinF n, impl_areValidF n, impl_sizeF n, impl_numF n, impl_calc_mulF n, impl_calc_addF n]) ty 69 0 n impl_ValidScalekp (codeAt impl_ValidScalec [1, 1, 1, 0, 1, 0, 0])) (canon 0 (impl_ValidScalekp.loop 5)) (kAt ([impl_ValidFracF n, impl_isUnitF n, impl_withinF n, impl_areValidF n, impl_sizeF n, impl_numF n, impl_calc_mulF n, impl_calc_addF n]) ty 69 0 n impl_ValidScalekp impl_ValidScalec [1, 1, 1, 0, 1, 0] [] (ending ty 0 Go.Proofs.Try.f125.results.toList impl_ValidScalers impl_ValidScalebs)) k { env := [(34, .one (.sc (.int .i64 v34))), (1, .one (.ref 0 0 0 0 0 0)), (3, .one (.ref 1 0 0 0 0 0)), (32, .one (.list true (.pair (.int .i64) (.int .i64)) v32)), (33, .one (.sc (.int .i64 v33)))], bx := [(0, .var 88 [.sc (.int .i64 b0_0), .sc (.int .i64 b0_1), .list true (.pair (.int .i64) (.int .i64)) b0_2]), (1, .var 155 [.sc (.bool b1)])], nx := 2 }) a0 := by kernel_rfl
  rw [h]
  have e := congrArg (fun h5 => impl_ValidScale_t n h5 a0) (funext fun k => funext fun v34 => funext fun v32 => funext fun v33 => funext fun b0_0 => funext fun b0_1 => funext fun b0_2 => funext fun b1 => impl_ValidScale_l5_eq n k v34 v32 v33 b0_0 b0_1 b0_2 b1)
  exact e

theorem impl_ValidScale_ok (n : Nat) : FunOk P (impl_ValidScaleF n) :=
  funOk_mk (C := [impl_ValidFracF n, impl_isUnitF n, impl_withinF n, impl_areValidF n, impl_sizeF n, impl_numF n, impl_calc_mulF n, impl_calc_addF n]) (N := 69) (kp := impl_ValidScalekp) (c := impl_ValidScalec) (n := n) (G := fun x y => impl_ValidScale n x.1) follows (AllOk.mem (⟨impl_ValidFrac_ok n, ⟨impl_isUnit_ok n, ⟨impl_within_ok n, ⟨impl_areValid_ok n, ⟨impl_size_ok n, ⟨impl_num_ok n, ⟨impl_calc_mul_ok n, ⟨impl_calc_add_ok n, trivial⟩⟩⟩⟩⟩⟩⟩⟩ : AllOk P ([impl_ValidFracF n, impl_isUnitF n, impl_withinF n, impl_areValidF n, impl_sizeF n, impl_numF n, impl_calc_mulF n, impl_calc_addF n]))) (by kernel_rfl : P.funcs[125]? = some Go.Proofs.Try.f125) (by kernel_rfl) (by kernel_rfl) (by kernel_rfl)
    (fun x y => impl_ValidScale_eq n x.1) (fun _ _ => map_same (fun _ => rfl) _) (fun _ _ _ _ => rfl)

abbrev impl_ErrorsFromsp : List Sp := [.v true (.pair (.int .i64) (.int .i64)), .v true (.pair (.int .i64) (.int .i64)), .v false (.list (.pair (.int .i64) (.int .i64)))]
abbrev impl_ErrorsFrombs : List (Bs × Bool) := []
abbrev impl_ErrorsFromrs : List (Bool × List Rp) := [(true, [.v false (.pair (.int .i64) (.int .i64)), .new (.pair (.int .i64) (.int .i64))]), (false, [.v false (.int .i64)])]
noncomputable def impl_ErrorsFromkp : Keep := { loop := fun id => match id with | _ => ([], []), join := fun id => match id with | _ => none }
noncomputable def impl_ErrorsFromc : Code := bodyOf Go.Proofs.Try.f59
noncomputable def impl_ErrorsFromF (n : Nat) : Fun := { id := 59, sp := impl_ErrorsFromsp, bs := impl_ErrorsFrombs, rs := impl_ErrorsFromrs, f := fun x y => impl_ErrorsFrom n x.1 x.2.1 x.2.2.1 }

theorem impl_ErrorsFrom_eq (n : Nat) (a0 : (Int) × (Int)) (a1 : (Int) × (Int)) (a2 : List ((Int) × (Int))) : runBody ([impl_areValidF n, impl_calc_fromF n, impl_ValidScaleF n]) ty 52 n impl_ErrorsFromkp impl_ErrorsFromc Go.Proofs.Try.f59.results.toList impl_ErrorsFromrs impl_ErrorsFromsp impl_ErrorsFrombs (a0, (a1, (a2, ()))) () = impl_ErrorsFrom n a0 a1 a2 := by
  have h : runBody ([impl_areValidF n, impl_calc_fromF n, impl_ValidScaleF n]) ty 52 n impl_ErrorsFromkp impl_ErrorsFromc Go.Proofs.Try.f59.results.toList impl_ErrorsFromrs impl_ErrorsFromsp impl_ErrorsFrombs (a0, (a1, (a2, ()))) () = impl_ErrorsFrom_t n a0 a1 a2 := by kernel_rfl
  rw [h]
  rfl

theorem impl_ErrorsFrom_ok (n : Nat) : FunOk P (impl_ErrorsFromF n) :=
  funOk_mk (C := [impl_areValidF n, impl_calc_fromF n, impl_ValidScaleF n]) (N := 52) (kp := impl_ErrorsFromkp) (c := impl_ErrorsFromc) (n := n) (G := fun x y => impl_ErrorsFrom n x.1 x.2.1 x.2.2.1) follows (AllOk.mem (⟨impl_areValid_ok n, ⟨impl_calc_from_ok n, ⟨impl_ValidScale_ok n, trivial⟩⟩⟩ : AllOk P ([impl_areValidF n, impl_calc_fromF n, impl_ValidScaleF n]))) (by kernel_rfl : P.funcs[59]? = some Go.Proofs.Try.f59) (by kernel_rfl) (by kernel_rfl) (by kernel_rfl)
    (fun x y => impl_ErrorsFrom_eq n x.1 x.2.1 x.2.2.1) (fun _ _ => map_same (fun _ => rfl) _) (fun _ _ _ _ => rfl)

abbrev laws_eqFracsp : List Sp := [.v true (.pair (.int .i64) (.int .i64)), .v true (.pair (.int .i64) (.int .i64))]
abbrev laws_eqFracbs : List (Bs × Bool) := []
abbrev laws_eqFracrs : List (Bool × List Rp) := [(false, [.v false .bool])]
noncomputable def laws_eqFrackp : Keep := { loop := fun id => match id with | _ => ([], []), join := fun id => match id with | _ => none }
noncomputable def laws_eqFracc : Code := bodyOf Go.Proofs.Try.f100
noncomputable def laws_eqFracF (n : Nat) : Fun := { id := 100, sp := laws_eqFracsp, bs := laws_eqFracbs, rs := laws_eqFracrs, f := fun x y => laws_eqFrac n x.1 x.2.1 }

theorem laws_eqFrac_eq (n : Nat) (a0 : (Int) × (Int)) (a1 : (Int) × (Int)) : runBody ([]) ty 15 n laws_eqFrackp laws_eqFracc Go.Proofs.Try.f100.results.toList laws_eqFracrs laws_eqFracsp laws_eqFracbs (a0, (a1, ())) () = laws_eqFrac n a0 a1 := by
  have h : runBody ([]) ty 15 n laws_eqFrackp laws_eqFracc Go.Proofs.Try.f100.results.toList laws_eqFracrs laws_eqFracsp laws_eqFracbs (a0, (a1, ())) () = laws_eqFrac_t n a0 a1 := by kernel_rfl
  rw [h]
  rfl

theorem laws_eqFrac_ok (n : Nat) : FunOk P (laws_eqFracF n) :=
  funOk_mk (C := []) (N := 15) (kp := laws_eqFrackp) (c := laws_eqFracc) (n := n) (G := fun x y => laws_eqFrac n x.1 x.2.1) follows (AllOk.mem (trivial : AllOk P ([]))) (by kernel_rfl : P.funcs[100]? = some Go.Proofs.Try.f100) (by kernel_rfl) (by kernel_rfl) (by kernel_rfl)
    (fun x y => laws_eqFrac_eq n x.1 x.2.1) (fun _ _ => map_same (fun _ => rfl) _) (fun _ _ _ _ => rfl)

abbrev laws_eqFracSsp : List Sp := [.v false (.list (.pair (.int .i64) (.int .i64))), .v false (.list (.pair (.int .i64) (.int .i64)))]
abbrev laws_eqFracSbs : List (Bs × Bool) := []
abbrev laws_eqFracSrs : List (Bool × List Rp) := [(false, [.v false .bool])]
noncomputable def laws_eqFracSkp : Keep := { loop := fun id => match id with | 4 => ([5, 1, 0], []) | _ => ([], []), join := fun id => match id with | _ => none }
noncomputable def laws_eqFracSc : Code := bodyOf Go.Proofs.Try.f44
noncomputable def laws_eqFracSF (n : Nat) : Fun := { id := 44, sp := laws_eqFracSsp, bs := laws_eqFracSbs, rs := laws_eqFracSrs, f := fun x y => laws_eqFracS n x.1 x.2.1 }

theorem laws_eqFracS_l4_eq (n : Nat) : ∀ (k : Nat) (v5 : Int) (v1 : List ((Int) × (Int))) (v0 : List ((Int) × (Int))), iter (interp ([laws_eqFracF n]) ty 27 0 n laws_eqFracSkp (codeAt laws_eqFracSc [1, 1, 0, 1, 0, 0])) (canon 0 (laws_eqFracSkp.loop 4)) (kAt ([laws_eqFracF n]) ty 27 0 n laws_eqFracSkp laws_eqFracSc [1, 1, 0, 1, 0] [] (ending ty 0 Go.Proofs.Try.f44.results.toList laws_eqFracSrs laws_eqFracSbs)) k { env := [(5, .one (.sc (.int .i64 v5))), (1, .one (.list true (.pair (.int .i64) (.int .i64)) v1)), (0, .one (.list true (.pair (.int .i64) (.int .i64)) v0))], bx := [], nx := 0 } = laws_eqFracS_l4 n k v5 v1 v0
  | 0, _, _, _ => by kernel_rfl
  | k + 1, v5, v1, v0 => by
    have h : iter (interp ([laws_eqFracF n]) ty 27 0 n laws_eqFracSkp (codeAt laws_eqFracSc [1, 1, 0, 1, 0, 0])) (canon 0 (laws_eqFracSkp.loop 4)) (kAt ([laws_eqFracF n]) ty 27 0 n laws_eqFracSkp laws_eqFracSc [1, 1, 0, 1, 0] [] (ending ty 0 Go.Proofs.Try.f44.results.toList laws_eqFracSrs laws_eqFracSbs)) (k + 1) { env := [(5, .one (.sc (.int .i64 v5))), (1, .one (.list true (.pair (.int .i64) (.int .i64)) v1)), (0, .one (.list true (.pair (.int .i64) (.int .i64)) v0))], bx := [], nx := 0 } = laws_eqFracS_t4 n (fun v5 v1 v0 => iter (interp ([laws_eqFracF n]) ty 27 0 n laws_eqFracSkp (codeAt laws_eqFracSc [1, 1, 0, 1, 0, 0])) (canon 0 (laws_eqFracSkp.loop 4)) (kAt ([laws_eqFracF n]) ty 27 0 n laws_eqFracSkp laws_eqFracSc [1, 1, 0, 1, 0] [] (ending ty 0 Go.Proofs.Try.f44.results.toList laws_eqFracSrs laws_eqFracSbs)) k { env := [(5, .one (.sc (.int .i64 v5))), (1, .one (.list true (.pair (.int .i64) (.int .i64)) v1)), (0, .one (.list true (.pair (.int .i64) (.int .i64)) v0))], bx := [], nx := 0 }) v5 v1 v0 := by kernel_rfl
    rw [h]
    have e := congrArg (fun g => laws_eqFracS_t4 n g v5 v1 v0) (funext fun v5 => funext fun v1 => funext fun v0 => laws_eqFracS_l4_eq n k v5 v1 v0)
    exact e

theorem laws_eqFracS_eq (n : Nat) (a0 : List ((Int) × (Int))) (a1 : List ((Int) × (Int))) : runBody ([laws_eqFracF n]) ty 27 n laws_eqFracSkp laws_eqFracSc Go.Proofs.Try.f44.results.toList laws_eqFracSrs laws_eqFracSsp laws_eqFracSbs (a0, (a1, ())) () = laws_eqFracS n a0 a1 := by
  have h : runBody ([laws_eqFracF n]) ty 27 n laws_eqFracSkp laws_eqFracSc Go.Proofs.Try.f44.results.toList laws_eqFracSrs laws_eqFracSsp laws_eqFracSbs (a0, (a1, ())) () = laws_eqFracS_t n (fun k v5 v1 v0 => iter (interp ([laws_eqFracF n]) ty 27 0 n laws_eqFracSkp (codeAt laws_eqFracSc [1, 1, 0, 1, 0, 0])) (canon 0 (laws_eqFracSkp.loop 4)) (kAt ([laws_eqFracF n]) ty 27 0 n laws_eqFracSkp laws_eqFracSc [1, 1, 0, 1, 0] [] (ending ty 0 Go.Proofs.Try.f44.results.toList laws_eqFracSrs laws_eqFracSbs)) k { env := [(5, .one (.sc (.int .i64 v5))), (1, .one (.list true (.pair (.int .i64) (.int .i64)) v1)), (0, .one (.list true (.pair (.int .i64) (.int .i64)) v0))], bx := [], nx := 0 }) a0 a1 := by kernel_rfl
  rw [h]
  have e := congrArg (fun h4 => laws_eqFracS_t n h4 a0 a1) (funext fun k => funext fun v5 => funext fun v1 => funext fun v0 => laws_eqFracS_l4_eq n k v5 v1 v0)
  exact e

theorem laws_eqFracS_ok (n : Nat) : FunOk P (laws_eqFracSF n) :=
  funOk_mk (C := [laws_eqFracF n]) (N := 27) (kp := laws_eqFracSkp) (c := laws_eqFracSc) (n := n) (G := fun x y => laws_eqFracS n x.1 x.2.1) follows (AllOk.mem (⟨laws_eqFrac_ok n, trivial⟩ : AllOk P ([laws_eqFracF n]))) (by kernel_rfl : P.funcs[44]? = some Go.Proofs.Try.f44) (by kernel_rfl) (by kernel_rfl) (by kernel_rfl)
    (fun x y => laws_eqFracS_eq n x.1 x.2.1) (fun _ _ => map_same (fun _ => rfl) _) (fun _ _ _ _ => rfl)

abbrev laws_eqScalesp : List Sp := [.v true (.pair (.pair (.int .i64) (.int .i64)) (.list (.pair (.int .i64) (.int .i64)))), .v true (.pair (.pair (.int .i64) (.int .i64)) (.list (.pair (.int .i64) (.int .i64))))]
abbrev laws_eqScalebs : List (Bs × Bool) := []
abbrev laws_eqScalers : List (Bool × List Rp) := [(false, [.v false .bool])]
noncomputable def laws_eqScalekp : Keep := { loop := fun id => match id with | _ => ([], []), join := fun id => match id with | _ => none }
noncomputable def laws_eqScalec : Code := bodyOf Go.Proofs.Try.f60
noncomputable def laws_eqScaleF (n : Nat) : Fun := { id := 60, sp := laws_eqScalesp, bs := laws_eqScalebs, rs := laws_eqScalers, f := fun x y => laws_eqScale n x.1 x.2.1 }

theorem laws_eqScale_eq (n : Nat) (a0 : ((Int) × (Int)) × (List ((Int) × (Int)))) (a1 : ((Int) × (Int)) × (List ((Int) × (Int)))) : runBody ([laws_eqFracF n, laws_eqFracSF n]) ty 17 n laws_eqScalekp laws_eqScalec Go.Proofs.Try.f60.results.toList laws_eqScalers laws_eqScalesp laws_eqScalebs (a0, (a1, ())) () = laws_eqScale n a0 a1 := by
  have h : runBody ([laws_eqFracF n, laws_eqFracSF n]) ty 17 n laws_eqScalekp laws_eqScalec Go.Proofs.Try.f60.results.toList laws_eqScalers laws_eqScalesp laws_eqScalebs (a0, (a1, ())) () = laws_eqScale_t n a0 a1 := by kernel_rfl
  rw [h]
  rfl

theorem laws_eqScale_ok (n : Nat) : FunOk P (laws_eqScaleF n) :=
  funOk_mk (C := [laws_eqFracF n, laws_eqFracSF n]) (N := 17) (kp := laws_eqScalekp) (c := laws_eqScalec) (n := n) (G := fun x y => laws_eqScale n x.1 x.2.1) follows (AllOk.mem (⟨laws_eqFrac_ok n, ⟨laws_eqFracS_ok n, trivial⟩⟩ : AllOk P ([laws_eqFracF n, laws_eqFracSF n]))) (by kernel_rfl : P.funcs[60]? = some Go.Proofs.Try.f60) (by kernel_rfl) (by kernel_rfl) (by kernel_rfl)
    (fun x y => laws_eqScale_eq n x.1 x.2.1) (fun _ _ => map_same (fun _ => rfl) _) (fun _ _ _ _ => rfl)

abbrev laws_markFracSsp : List Sp := [.sl 0, .v false (.int .i64)]
abbrev laws_markFracSbs : List (Bs × Bool) := [(.row  (.pair (.int .i64) (.int .i64)), true)]
abbrev laws_markFracSrs : List (Bool × List Rp) := [(false, [.v false (.int .i64)])]
noncomputable def laws_markFracSkp : Keep := { loop := fun id => match id with | 2 => ([5, 0, 1], []) | _ => ([], []), join := fun id => match id with | _ => none }
noncomputable def laws_markFracSc : Code := bodyOf Go.Proofs.Try.f45
noncomputable def laws_markFracSF (n : Nat) : Fun := { id := 45, sp := laws_markFracSsp, bs := laws_markFracSbs, rs := laws_markFracSrs, f := fun x y => laws_markFracS n x.2.1 y.1 }

theorem laws_markFracS_l2_eq (n : Nat) : ∀ (k : Nat) (v5 : Int) (v1 : Int) (b0 : List ((Int) × (Int))), iter (interp ([]) ty 27 1 n laws_markFracSkp (codeAt laws_markFracSc [1, 0, 1, 0, 0])) (canon 1 (laws_markFracSkp.loop 2)) (kAt ([]) ty 27 1 n laws_markFracSkp laws_markFracSc [1, 0, 1, 0] [] (ending ty 1 Go.Proofs.Try.f45.results.toList laws_markFracSrs laws_markFracSbs)) k { env := [(5, .one (.sc (.int .i64 v5))), (0, .one (.slice 0 0 none)), (1, .one (.sc (.int .i64 v1)))], bx := [(0, .row 0 (.pair (.int .i64) (.int .i64)) b0)], nx := 1 } = laws_markFracS_l2 n k v5 v1 b0
  | 0, _, _, _ => by kernel_rfl
  | k + 1, v5, v1, b0 => by
    have h : iter (interp ([]) ty 27 1 n laws_markFracSkp (codeAt laws_markFracSc [1, 0, 1, 0, 0])) (canon 1 (laws_markFracSkp.loop 2)) (kAt ([]) ty 27 1 n laws_markFracSkp laws_markFracSc [1, 0, 1, 0] [] (ending ty 1 Go.Proofs.Try.f45.results.toList laws_markFracSrs laws_markFracSbs)) (k + 1) { env := [(5, .one (.sc (.int .i64 v5))), (0, .one (.slice 0 0 none)), (1, .one (.sc (.int .i64 v1)))], bx := [(0, .row 0 (.pair (.int .i64) (.int .i64)) b0)], nx := 1 } = laws_markFracS_t2 n (fun v5 v1 b0 => iter (interp ([]) ty 27 1 n laws_markFracSkp (codeAt laws_markFracSc [1, 0, 1, 0, 0])) (canon 1 (laws_markFracSkp.loop 2)) (kAt ([]) ty 27 1 n laws_markFracSkp laws_markFracSc [1, 0, 1, 0] [] (ending ty 1 Go.Proofs.Try.f45.results.toList laws_markFracSrs laws_markFracSbs)) k { env := [(5, .one (.sc (.int .i64 v5))), (0, .one (.slice 0 0 none)), (1, .one (.sc (.int .i64 v1)))], bx := [(0, .row 0 (.pair (.int .i64) (.int .i64)) b0)], nx := 1 }) v5 v1 b0 := by kernel_rfl
    rw [h]
    have e := congrArg (fun g => laws_markFracS_t2 n g v5 v1 b0) (funext fun v5 => funext fun v1 => funext fun b0 => laws_markFracS_l2_eq n k v5 v1 b0)
    exact e

theorem laws_markFracS_eq (n : Nat) (a1 : Int) (b0 : List ((Int) × (Int))) : runBody ([]) ty 27 n laws_markFracSkp laws_markFracSc Go.Proofs.Try.f45.results.toList laws_markFracSrs laws_markFracSsp laws_markFracSbs ((), (a1, ())) (b0, ()) = laws_markFracS n a1 b0 := by
  have h : runBody ([]) ty 27 n laws_markFracSkp laws_markFracSc Go.Proofs.Try.f45.results.toList laws_markFracSrs laws_markFracSsp laws_markFracSbs ((), (a1, ())) (b0, ()) = laws_markFracS_t n (fun k v5 v1 b0 => iter (interp ([]) ty 27 1 n laws_markFracSkp (codeAt laws_markFracSc [1, 0, 1, 0, 0])) (canon 1 (laws_markFracSkp.loop 2)) (kAt ([]) ty 27 1 n laws_markFracSkp laws_markFracSc [1, 0, 1, 0] [] (ending ty 1 Go.Proofs.Try.f45.results.toList laws_markFracSrs laws_markFracSbs)) k { env := [(5, .one (.sc (.int .i64 v5))), (0, .one (.slice 0 0 none)), (1, .one (.sc (.int .i64 v1)))], bx := [(0, .row 0 (.pair (.int .i64) (.int .i64)) b0)], nx := 1 }) a1 b0 := by kernel_rfl
  rw [h]
  have e := congrArg (fun h2 => laws_markFracS_t n h2 a1 b0) (funext fun k => funext fun v5 => funext fun v1 => funext fun b0 => laws_markFracS_l2_eq n k v5 v1 b0)
  exact e

theorem laws_markFracS_ok (n : Nat) : FunOk P (laws_markFracSF n) :=
  funOk_mk (C := []) (N := 27) (kp := laws_markFracSkp) (c := laws_markFracSc) (n := n) (G := fun x y => laws_markFracS n x.2.1 y.1) follows (AllOk.mem (trivial : AllOk P ([]))) (by kernel_rfl : P.funcs[45]? = some Go.Proofs.Try.f45) (by kernel_rfl) (by kernel_rfl) (by kernel_rfl)
    (fun x y => laws_markFracS_eq n x.2.1 y.1) (fun _ _ => map_same (fun _ => rfl) _) (fun _ _ _ _ => rfl)

abbrev laws_markScalesp : List Sp := [.rc [.v (.pair (.int .i64) (.int .i64)), .sl 0], .v false (.int .i64)]
abbrev laws_markScalebs : List (Bs × Bool) := [(.row (.pair (.int .i64) (.int .i64)), true)]
abbrev laws_markScalers : List (Bool × List Rp) := [(false, [.v false (.int .i64)])]
noncomputable def laws_markScalekp : Keep := { loop := fun id => match id with | _ => ([], []), join := fun id => match id with | _ => none }
noncomputable def laws_markScalec : Code := bodyOf Go.Proofs.Try.f61
noncomputable def laws_markScaleF (n : Nat) : Fun := { id := 61, sp := laws_markScalesp, bs := laws_markScalebs, rs := laws_markScalers, f := fun x y => laws_markScale n x.1 x.2.1 y.1 }

theorem laws_markScale_eq (n : Nat) (a0 : ((Int) × (Int)) × (Unit)) (a1 : Int) (b0 : List ((Int) × (Int))) : runBody ([laws_markFracSF n]) ty 10 n laws_markScalekp laws_markScalec Go.Proofs.Try.f61.results.toList laws_markScalers laws_markScalesp laws_markScalebs (a0, (a1, ())) (b0, ()) = laws_markScale n a0 a1 b0 := by
  have h : runBody ([laws_markFracSF n]) ty 10 n laws_markScalekp laws_markScalec Go.Proofs.Try.f61.results.toList laws_markScalers laws_markScalesp laws_markScalebs (a0, (a1, ())) (b0, ()) = laws_markScale_t n a0 a1 b0 := by kernel_rfl
  rw [h]
  rfl

theorem laws_markScale_ok (n : Nat) : FunOk P (laws_markScaleF n) :=
  funOk_mk (C := [laws_markFracSF n]) (N := 10) (kp := laws_markScalekp) (c := laws_markScalec) (n := n) (G := fun x y => laws_markScale n x.1 x.2.1 y.1) follows (AllOk.mem (⟨laws_markFracS_ok n, trivial⟩ : AllOk P ([laws_markFracSF n]))) (by kernel_rfl : P.funcs[61]? = some Go.Proofs.Try.f61) (by kernel_rfl) (by kernel_rfl) (by kernel_rfl)
    (fun x y => laws_markScale_eq n x.1 x.2.1 y.1) (fun _ _ => map_same (fun _ => rfl) _) (fun _ _ _ _ => rfl)

abbrev laws_heldFracSsp : List Sp := [.v false (.list (.pair (.int .i64) (.int .i64))), .v false (.int .i64)]
abbrev laws_heldFracSbs : List (Bs × Bool) := []
abbrev laws_heldFracSrs : List (Bool × List Rp) := [(false, [.v false (.int .i64)])]
noncomputable def laws_heldFracSkp : Keep := { loop := fun id => match id with | 2 => ([5, 0, 1], []) | _ => ([], []), join := fun id => match id with | _ => none }
noncomputable def laws_heldFracSc : Code := bodyOf Go.Proofs.Try.f67
noncomputable def laws_heldFracSF (n : Nat) : Fun := { id := 67, sp := laws_heldFracSsp, bs := laws_heldFracSbs, rs := laws_heldFracSrs, f := fun x y => laws_heldFracS n x.1 x.2.1 }

theorem laws_heldFracS_l2_eq (n : Nat) : ∀ (k : Nat) (v5 : Int) (v0 : List ((Int) × (Int))) (v1 : Int), iter (interp ([]) ty 31 0 n laws_heldFracSkp (codeAt laws_heldFracSc [1, 0, 1, 0, 0])) (canon 0 (laws_heldFracSkp.loop 2)) (kAt ([]) ty 31 0 n laws_heldFracSkp laws_heldFracSc [1, 0, 1, 0] [] (ending ty 0 Go.Proofs.Try.f67.results.toList laws_heldFracSrs laws_heldFracSbs)) k { env := [(5, .one (.sc (.int .i64 v5))), (0, .one (.list true (.pair (.int .i64) (.int .i64)) v0)), (1, .one (.sc (.int .i64 v1)))], bx := [], nx := 0 } = laws_heldFracS_l2 n k v5 v0 v1
  | 0, _, _, _ => by kernel_rfl
  | k + 1, v5, v0, v1 => by
    have h : iter (interp ([]) ty 31 0 n laws_heldFracSkp (codeAt laws_heldFracSc [1, 0, 1, 0, 0])) (canon 0 (laws_heldFracSkp.loop 2)) (kAt ([]) ty 31 0 n laws_heldFracSkp laws_heldFracSc [1, 0, 1, 0] [] (ending ty 0 Go.Proofs.Try.f67.results.toList laws_heldFracSrs laws_heldFracSbs)) (k + 1) { env := [(5, .one (.sc (.int .i64 v5))), (0, .one (.list true (.pair (.int .i64) (.int .i64)) v0)), (1, .one (.sc (.int .i64 v1)))], bx := [], nx := 0 } = laws_heldFracS_t2 n (fun v5 v0 v1 => iter (interp ([]) ty 31 0 n laws_heldFracSkp (codeAt laws_heldFracSc [1, 0, 1, 0, 0])) (canon 0 (laws_heldFracSkp.loop 2)) (kAt ([]) ty 31 0 n laws_heldFracSkp laws_heldFracSc [1, 0, 1, 0] [] (ending ty 0 Go.Proofs.Try.f67.results.toList laws_heldFracSrs laws_heldFracSbs)) k { env := [(5, .one (.sc (.int .i64 v5))), (0, .one (.list true (.pair (.int .i64) (.int .i64)) v0)), (1, .one (.sc (.int .i64 v1)))], bx := [], nx := 0 }) v5 v0 v1 := by kernel_rfl
    rw [h]
    have e := congrArg (fun g => laws_heldFracS_t2 n g v5 v0 v1) (funext fun v5 => funext fun v0 => funext fun v1 => laws_heldFracS_l2_eq n k v5 v0 v1)
    exact e

theorem laws_heldFracS_eq (n : Nat) (a0 : List ((Int) × (Int))) (a1 : Int) : runBody ([]) ty 31 n laws_heldFracSkp laws_heldFracSc Go.Proofs.Try.f67.results.toList laws_heldFracSrs laws_heldFracSsp laws_heldFracSbs (a0, (a1, ())) () = laws_heldFracS n a0 a1 := by
  have h : runBody ([]) ty 31 n laws_heldFracSkp laws_heldFracSc Go.Proofs.Try.f67.results.toList laws_heldFracSrs laws_heldFracSsp laws_heldFracSbs (a0, (a1, ())) () = laws_heldFracS_t n (fun k v5 v0 v1 => iter (interp ([]) ty 31 0 n laws_heldFracSkp (codeAt laws_heldFracSc [1, 0, 1, 0, 0])) (canon 0 (laws_heldFracSkp.loop 2)) (kAt ([]) ty 31 0 n laws_heldFracSkp laws_heldFracSc [1, 0, 1, 0] [] (ending ty 0 Go.Proofs.Try.f67.results.toList laws_heldFracSrs laws_heldFracSbs)) k { env := [(5, .one (.sc (.int .i64 v5))), (0, .one (.list true (.pair (.int .i64) (.int .i64)) v0)), (1, .one (.sc (.int .i64 v1)))], bx := [], nx := 0 }) a0 a1 := by kernel_rfl
  rw [h]
  have e := congrArg (fun h2 => laws_heldFracS_t n h2 a0 a1) (funext fun k => funext fun v5 => funext fun v0 => funext fun v1 => laws_heldFracS_l2_eq n k v5 v0 v1)
  exact e

theorem laws_heldFracS_ok (n : Nat) : FunOk P (laws_heldFracSF n) :=
  funOk_mk (C := []) (N := 31) (kp := laws_heldFracSkp) (c := laws_heldFracSc) (n := n) (G := fun x y => laws_heldFracS n x.1 x.2.1) follows (AllOk.mem (trivial : AllOk P ([]))) (by kernel_rfl : P.funcs[67]? = some Go.Proofs.Try.f67) (by kernel_rfl) (by kernel_rfl) (by kernel_rfl)
    (fun x y => laws_heldFracS_eq n x.1 x.2.1) (fun _ _ => map_same (fun _ => rfl) _) (fun _ _ _ _ => rfl)

abbrev laws_heldScalesp : List Sp := [.v true (.pair (.pair (.int .i64) (.int .i64)) (.list (.pair (.int .i64) (.int .i64)))), .v false (.int .i64)]
abbrev laws_heldScalebs : List (Bs × Bool) := []
abbrev laws_heldScalers : List (Bool × List Rp) := [(false, [.v false (.int .i64)])]
noncomputable def laws_heldScalekp : Keep := { loop := fun id => match id with | _ => ([], []), join := fun id => match id with | _ => none }
noncomputable def laws_heldScalec : Code := bodyOf Go.Proofs.Try.f62
noncomputable def laws_heldScaleF (n : Nat) : Fun := { id := 62, sp := laws_heldScalesp, bs := laws_heldScalebs, rs := laws_heldScalers, f := fun x y => laws_heldScale n x.1 x.2.1 }

theorem laws_heldScale_eq (n : Nat) (a0 : ((Int) × (Int)) × (List ((Int) × (Int)))) (a1 : Int) : runBody ([laws_heldFracSF n]) ty 12 n laws_heldScalekp laws_heldScalec Go.Proofs.Try.f62.results.toList laws_heldScalers laws_heldScalesp laws_heldScalebs (a0, (a1, ())) () = laws_heldScale n a0 a1 := by
  have h : runBody ([laws_heldFracSF n]) ty 12 n laws_heldScalekp laws_heldScalec Go.Proofs.Try.f62.results.toList laws_heldScalers laws_heldScalesp laws_heldScalebs (a0, (a1, ())) () = laws_heldScale_t n a0 a1 := by kernel_rfl
  rw [h]
  rfl

theorem laws_heldScale_ok (n : Nat) : FunOk P (laws_heldScaleF n) :=
  funOk_mk (C := [laws_heldFracSF n]) (N := 12) (kp := laws_heldScalekp) (c := laws_heldScalec) (n := n) (G := fun x y => laws_heldScale n x.1 x.2.1) follows (AllOk.mem (⟨laws_heldFracS_ok n, trivial⟩ : AllOk P ([laws_heldFracSF n]))) (by kernel_rfl : P.funcs[62]? = some Go.Proofs.Try.f62) (by kernel_rfl) (by kernel_rfl) (by kernel_rfl)
    (fun x y => laws_heldScale_eq n x.1 x.2.1) (fun _ _ => map_same (fun _ => rfl) _) (fun _ _ _ _ => rfl)

abbrev laws_FnExactErrorsFromsp : List Sp := [.v true (.pair (.int .i64) (.int .i64)), .v true (.pair (.int .i64) (.int .i64)), .v false (.list (.pair (.int .i64) (.int .i64)))]
abbrev laws_FnExactErrorsFrombs : List (Bs × Bool) := []
abbrev laws_FnExactErrorsFromrs : List (Bool × List Rp) := [(false, [.v false .bool])]
noncomputable def laws_FnExactErrorsFromkp : Keep := { loop := fun id => match id with | _ => ([], []), join := fun id => match id with | _ => none }
noncomputable def laws_FnExactErrorsFromc : Code := bodyOf Go.Proofs.Try.f12
noncomputable def laws_FnExactErrorsFromF (n : Nat) : Fun := { id := 12, sp := laws_FnExactErrorsFromsp, bs := laws_FnExactErrorsFrombs, rs := laws_FnExactErrorsFromrs, f := fun x y => laws_FnExactErrorsFrom n x.1 x.2.1 x.2.2.1 }

theorem laws_FnExactErrorsFrom_eq (n : Nat) (a0 : (Int) × (Int)) (a1 : (Int) × (Int)) (a2 : List ((Int) × (Int))) : runBody ([laws_szFracSF n, laws_toFracF n, laws_toFracSF n, spec_ErrorsFromF n, impl_ErrorsFromF n, laws_eqScaleF n, laws_eqFracSF n, laws_markFracSF n, laws_markScaleF n, laws_heldScaleF n]) ty 112 n laws_FnExactErrorsFromkp laws_FnExactErrorsFromc Go.Proofs.Try.f12.results.toList laws_FnExactErrorsFromrs laws_FnExactErrorsFromsp laws_FnExactErrorsFrombs (a0, (a1, (a2, ()))) () = laws_FnExactErrorsFrom n a0 a1 a2 := by
  have h : runBody ([laws_szFracSF n, laws_toFracF n, laws_toFracSF n, spec_ErrorsFromF n, impl_ErrorsFromF n, laws_eqScaleF n, laws_eqFracSF n, laws_markFracSF n, laws_markScaleF n, laws_heldScaleF n]) ty 112 n laws_FnExactErrorsFromkp laws_FnExactErrorsFromc Go.Proofs.Try.f12.results.toList laws_FnExactErrorsFromrs laws_FnExactErrorsFromsp laws_FnExactErrorsFrombs (a0, (a1, (a2, ()))) () = laws_FnExactErrorsFrom_t n a0 a1 a2 := by kernel_rfl
  rw [h]
  rfl

theorem laws_FnExactErrorsFrom_ok (n : Nat) : FunOk P (laws_FnExactErrorsFromF n) :=
  funOk_mk (C := [laws_szFracSF n, laws_toFracF n, laws_toFracSF n, spec_ErrorsFromF n, impl_ErrorsFromF n, laws_eqScaleF n, laws_eqFracSF n, laws_markFracSF n, laws_markScaleF n, laws_heldScaleF n]) (N := 112) (kp := laws_FnExactErrorsFromkp) (c := laws_FnExactErrorsFromc) (n := n) (G := fun x y => laws_FnExactErrorsFrom n x.1 x.2.1 x.2.2.1) follows (AllOk.mem (⟨laws_szFracS_ok n, ⟨laws_toFrac_ok n, ⟨laws_toFracS_ok n, ⟨spec_ErrorsFrom_ok n, ⟨impl_ErrorsFrom_ok n, ⟨laws_eqScale_ok n, ⟨laws_eqFracS_ok n, ⟨laws_markFracS_ok n, ⟨laws_markScale_ok n, ⟨laws_heldScale_ok n, trivial⟩⟩⟩⟩⟩⟩⟩⟩⟩⟩ : AllOk P ([laws_szFracSF n, laws_toFracF n, laws_toFracSF n, spec_ErrorsFromF n, impl_ErrorsFromF n, laws_eqScaleF n, laws_eqFracSF n, laws_markFracSF n, laws_markScaleF n, laws_heldScaleF n]))) (by kernel_rfl : P.funcs[12]? = some Go.Proofs.Try.f12) (by kernel_rfl) (by kernel_rfl) (by kernel_rfl)
    (fun x y => laws_FnExactErrorsFrom_eq n x.1 x.2.1 x.2.2.1) (fun _ _ => map_same (fun _ => rfl) _) (fun _ _ _ _ => rfl)

end Go.Abs
