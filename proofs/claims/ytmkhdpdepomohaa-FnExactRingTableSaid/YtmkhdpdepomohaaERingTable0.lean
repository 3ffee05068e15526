import Derived.Test.YtmkhdpdepomohaaDRingTable0
import Derived.Test.YtmkhdpdepomohaaProg
import Derived.Test.YtmkhdpdepomohaaRow
import Derived.KernelRfl
namespace Go.Abs
open Go.Proofs
set_option maxRecDepth 100000
set_option linter.unusedVariables false

noncomputable abbrev P : Program := Try.prog
noncomputable abbrev ty : Nat → Option TyI := tyOf P
def bodyOf (f : Func) : Code := match f.body with | some c => c | none => .skip
theorem follows : P.follows .mixedOrders = true := by kernel_rfl

abbrev laws_szFracSsp : List Sp := [.v false (.list (.pair (.int .i64) (.int .i64))), .v false (.int .i64)]
abbrev laws_szFracSbs : List (Bs × Bool) := []
abbrev laws_szFracSrs : List (Bool × List Rp) := [(false, [.v false (.int .i64)])]
noncomputable def laws_szFracSkp : Keep := { loop := fun id => match id with | _ => ([], []), join := fun id => match id with | _ => none }
noncomputable def laws_szFracSc : Code := bodyOf Go.Proofs.Try.f38
noncomputable def laws_szFracSF (n : Nat) : Fun := { id := 38, sp := laws_szFracSsp, bs := laws_szFracSbs, rs := laws_szFracSrs, f := fun x y => laws_szFracS n x.1 x.2.1 }

theorem laws_szFracS_eq (n : Nat) (a0 : List ((Int) × (Int))) (a1 : Int) : runBody ([]) ty 12 n laws_szFracSkp laws_szFracSc Go.Proofs.Try.f38.results.toList laws_szFracSrs laws_szFracSsp laws_szFracSbs (a0, (a1, ())) () = laws_szFracS n a0 a1 := by
  have h : runBody ([]) ty 12 n laws_szFracSkp laws_szFracSc Go.Proofs.Try.f38.results.toList laws_szFracSrs laws_szFracSsp laws_szFracSbs (a0, (a1, ())) () = laws_szFracS_t n a0 a1 := by kernel_rfl
  rw [h]
  rfl

theorem laws_szFracS_ok (n : Nat) : FunOk P (laws_szFracSF n) :=
  funOk_mk (C := []) (N := 12) (kp := laws_szFracSkp) (c := laws_szFracSc) (n := n) (G := fun x y => laws_szFracS n x.1 x.2.1) follows (AllOk.mem (trivial : AllOk P ([]))) (by kernel_rfl : P.funcs[38]? = some Go.Proofs.Try.f38) (by kernel_rfl) (by kernel_rfl) (by kernel_rfl)
    (fun x y => laws_szFracS_eq n x.1 x.2.1) (fun _ _ => map_same (fun _ => rfl) _) (fun _ _ _ _ => rfl)

abbrev laws_toFracsp : List Sp := [.v true (.pair (.int .i64) (.int .i64))]
abbrev laws_toFracbs : List (Bs × Bool) := []
abbrev laws_toFracrs : List (Bool × List Rp) := [(true, [.v false (.pair (.int .i64) (.int .i64))])]
noncomputable def laws_toFrackp : Keep := { loop := fun id => match id with | _ => ([], []), join := fun id => match id with | _ => none }
noncomputable def laws_toFracc : Code := bodyOf Go.Proofs.Try.f41
noncomputable def laws_toFracF (n : Nat) : Fun := { id := 41, sp := laws_toFracsp, bs := laws_toFracbs, rs := laws_toFracrs, f := fun x y => laws_toFrac n x.1 }

theorem laws_toFrac_eq (n : Nat) (a0 : (Int) × (Int)) : runBody ([]) ty 11 n laws_toFrackp laws_toFracc Go.Proofs.Try.f41.results.toList laws_toFracrs laws_toFracsp laws_toFracbs (a0, ()) () = laws_toFrac n a0 := by
  have h : runBody ([]) ty 11 n laws_toFrackp laws_toFracc Go.Proofs.Try.f41.results.toList laws_toFracrs laws_toFracsp laws_toFracbs (a0, ()) () = laws_toFrac_t n a0 := by kernel_rfl
  rw [h]
  rfl

theorem laws_toFrac_ok (n : Nat) : FunOk P (laws_toFracF n) :=
  funOk_mk (C := []) (N := 11) (kp := laws_toFrackp) (c := laws_toFracc) (n := n) (G := fun x y => laws_toFrac n x.1) follows (AllOk.mem (trivial : AllOk P ([]))) (by kernel_rfl : P.funcs[41]? = some Go.Proofs.Try.f41) (by kernel_rfl) (by kernel_rfl) (by kernel_rfl)
    (fun x y => laws_toFrac_eq n x.1) (fun _ _ => map_same (fun _ => rfl) _) (fun _ _ _ _ => rfl)

abbrev laws_toFracSsp : List Sp := [.v false (.list (.pair (.int .i64) (.int .i64)))]
abbrev laws_toFracSbs : List (Bs × Bool) := []
abbrev laws_toFracSrs : List (Bool × List Rp) := [(false, [.new  (.pair (.int .i64) (.int .i64))])]
noncomputable def laws_toFracSkp : Keep := { loop := fun id => match id with | 3 => ([4, 0, 3], []) | _ => ([], []), join := fun id => match id with | _ => none }
noncomputable def laws_toFracSc : Code := bodyOf Go.Proofs.Try.f40
noncomputable def laws_toFracSF (n : Nat) : Fun := { id := 40, sp := laws_toFracSsp, bs := laws_toFracSbs, rs := laws_toFracSrs, f := fun x y => laws_toFracS n x.1 }

theorem laws_toFracS_l3_eq (n : Nat) : ∀ (k : Nat) (v4 : Int) (v0 : List ((Int) × (Int))) (b0 : List ((Int) × (Int))), iter (interp ([laws_toFracF n]) ty 23 0 n laws_toFracSkp (codeAt laws_toFracSc [1, 1, 0, 1, 0, 0])) (canon 0 (laws_toFracSkp.loop 3)) (kAt ([laws_toFracF n]) ty 23 0 n laws_toFracSkp laws_toFracSc [1, 1, 0, 1, 0] [] (ending ty 0 Go.Proofs.Try.f40.results.toList laws_toFracSrs laws_toFracSbs)) k { env := [(4, .one (.sc (.int .i64 v4))), (0, .one (.list true (.pair (.int .i64) (.int .i64)) v0)), (3, .one (.slice 0 0 none))], bx := [(0, .row 0 (.pair (.int .i64) (.int .i64)) b0)], nx := 1 } = laws_toFracS_l3 n k v4 v0 b0
  | 0, _, _, _ => by kernel_rfl
  | k + 1, v4, v0, b0 => by
    have h : iter (interp ([laws_toFracF n]) ty 23 0 n laws_toFracSkp (codeAt laws_toFracSc [1, 1, 0, 1, 0, 0])) (canon 0 (laws_toFracSkp.loop 3)) (kAt ([laws_toFracF n]) ty 23 0 n laws_toFracSkp laws_toFracSc [1, 1, 0, 1, 0] [] (ending ty 0 Go.Proofs.Try.f40.results.toList laws_toFracSrs laws_toFracSbs)) (k + 1) { env := [(4, .one (.sc (.int .i64 v4))), (0, .one (.list true (.pair (.int .i64) (.int .i64)) v0)), (3, .one (.slice 0 0 none))], bx := [(0, .row 0 (.pair (.int .i64) (.int .i64)) b0)], nx := 1 } = laws_toFracS_t3 n (fun v4 v0 b0 => iter (interp ([laws_toFracF n]) ty 23 0 n laws_toFracSkp (codeAt laws_toFracSc [1, 1, 0, 1, 0, 0])) (canon 0 (laws_toFracSkp.loop 3)) (kAt ([laws_toFracF n]) ty 23 0 n laws_toFracSkp laws_toFracSc [1, 1, 0, 1, 0] [] (ending ty 0 Go.Proofs.Try.f40.results.toList laws_toFracSrs laws_toFracSbs)) k { env := [(4, .one (.sc (.int .i64 v4))), (0, .one (.list true (.pair (.int .i64) (.int .i64)) v0)), (3, .one (.slice 0 0 none))], bx := [(0, .row 0 (.pair (.int .i64) (.int .i64)) b0)], nx := 1 }) v4 v0 b0 := by kernel_rfl
    rw [h]
    have e := congrArg (fun g => laws_toFracS_t3 n g v4 v0 b0) (funext fun v4 => funext fun v0 => funext fun b0 => laws_toFracS_l3_eq n k v4 v0 b0)
    exact e

theorem laws_toFracS_eq (n : Nat) (a0 : List ((Int) × (Int))) : runBody ([laws_toFracF n]) ty 23 n laws_toFracSkp laws_toFracSc Go.Proofs.Try.f40.results.toList laws_toFracSrs laws_toFracSsp laws_toFracSbs (a0, ()) () = laws_toFracS n a0 := by
  have h : runBody ([laws_toFracF n]) ty 23 n laws_toFracSkp laws_toFracSc Go.Proofs.Try.f40.results.toList laws_toFracSrs laws_toFracSsp laws_toFracSbs (a0, ()) () = laws_toFracS_t n (fun k v4 v0 b0 => iter (interp ([laws_toFracF n]) ty 23 0 n laws_toFracSkp (codeAt laws_toFracSc [1, 1, 0, 1, 0, 0])) (canon 0 (laws_toFracSkp.loop 3)) (kAt ([laws_toFracF n]) ty 23 0 n laws_toFracSkp laws_toFracSc [1, 1, 0, 1, 0] [] (ending ty 0 Go.Proofs.Try.f40.results.toList laws_toFracSrs laws_toFracSbs)) k { env := [(4, .one (.sc (.int .i64 v4))), (0, .one (.list true (.pair (.int .i64) (.int .i64)) v0)), (3, .one (.slice 0 0 none))], bx := [(0, .row 0 (.pair (.int .i64) (.int .i64)) b0)], nx := 1 }) a0 := by kernel_rfl
  rw [h]
  have e := congrArg (fun h3 => laws_toFracS_t n h3 a0) (funext fun k => funext fun v4 => funext fun v0 => funext fun b0 => laws_toFracS_l3_eq n k v4 v0 b0)
  exact e

theorem laws_toFracS_ok (n : Nat) : FunOk P (laws_toFracSF n) :=
  funOk_mk (C := [laws_toFracF n]) (N := 23) (kp := laws_toFracSkp) (c := laws_toFracSc) (n := n) (G := fun x y => laws_toFracS n x.1) follows (AllOk.mem (⟨laws_toFrac_ok n, trivial⟩ : AllOk P ([laws_toFracF n]))) (by kernel_rfl : P.funcs[40]? = some Go.Proofs.Try.f40) (by kernel_rfl) (by kernel_rfl) (by kernel_rfl)
    (fun x y => laws_toFracS_eq n x.1) (fun _ _ => map_same (fun _ => rfl) _) (fun _ _ _ _ => rfl)

abbrev spec_l00Insp : List Sp := [.v false (.int .i64), .v false (.int .i64), .v false (.int .i64)]
abbrev spec_l00Inbs : List (Bs × Bool) := []
abbrev spec_l00Inrs : List (Bool × List Rp) := [(false, [.v false .bool])]
noncomputable def spec_l00Inkp : Keep := { loop := fun id => match id with | _ => ([], []), join := fun id => match id with | _ => none }
noncomputable def spec_l00Inc : Code := bodyOf Go.Proofs.Try.f94
noncomputable def spec_l00InF (n : Nat) : Fun := { id := 94, sp := spec_l00Insp, bs := spec_l00Inbs, rs := spec_l00Inrs, f := fun x y => spec_l00In n x.1 x.2.1 x.2.2.1 }

theorem spec_l00In_eq (n : Nat) (a0 : Int) (a1 : Int) (a2 : Int) : runBody ([]) ty 15 n spec_l00Inkp spec_l00Inc Go.Proofs.Try.f94.results.toList spec_l00Inrs spec_l00Insp spec_l00Inbs (a0, (a1, (a2, ()))) () = spec_l00In n a0 a1 a2 := by
  have h : runBody ([]) ty 15 n spec_l00Inkp spec_l00Inc Go.Proofs.Try.f94.results.toList spec_l00Inrs spec_l00Insp spec_l00Inbs (a0, (a1, (a2, ()))) () = spec_l00In_t n a0 a1 a2 := by kernel_rfl
  rw [h]
  rfl

theorem spec_l00In_ok (n : Nat) : FunOk P (spec_l00InF n) :=
  funOk_mk (C := []) (N := 15) (kp := spec_l00Inkp) (c := spec_l00Inc) (n := n) (G := fun x y => spec_l00In n x.1 x.2.1 x.2.2.1) follows (AllOk.mem (trivial : AllOk P ([]))) (by kernel_rfl : P.funcs[94]? = some Go.Proofs.Try.f94) (by kernel_rfl) (by kernel_rfl) (by kernel_rfl)
    (fun x y => spec_l00In_eq n x.1 x.2.1 x.2.2.1) (fun _ _ => map_same (fun _ => rfl) _) (fun _ _ _ _ => rfl)

abbrev spec_l01Abssp : List Sp := [.v false (.int .i64)]
abbrev spec_l01Absbs : List (Bs × Bool) := []
abbrev spec_l01Absrs : List (Bool × List Rp) := [(false, [.v false (.int .i64)])]
noncomputable def spec_l01Abskp : Keep := { loop := fun id => match id with | _ => ([], []), join := fun id => match id with | _ => none }
noncomputable def spec_l01Absc : Code := bodyOf Go.Proofs.Try.f144
noncomputable def spec_l01AbsF (n : Nat) : Fun := { id := 144, sp := spec_l01Abssp, bs := spec_l01Absbs, rs := spec_l01Absrs, f := fun x y => spec_l01Abs n x.1 }

theorem spec_l01Abs_eq (n : Nat) (a0 : Int) : runBody ([]) ty 8 n spec_l01Abskp spec_l01Absc Go.Proofs.Try.f144.results.toList spec_l01Absrs spec_l01Abssp spec_l01Absbs (a0, ()) () = spec_l01Abs n a0 := by
  have h : runBody ([]) ty 8 n spec_l01Abskp spec_l01Absc Go.Proofs.Try.f144.results.toList spec_l01Absrs spec_l01Abssp spec_l01Absbs (a0, ()) () = spec_l01Abs_t n a0 := by kernel_rfl
  rw [h]
  rfl

theorem spec_l01Abs_ok (n : Nat) : FunOk P (spec_l01AbsF n) :=
  funOk_mk (C := []) (N := 8) (kp := spec_l01Abskp) (c := spec_l01Absc) (n := n) (G := fun x y => spec_l01Abs n x.1) follows (AllOk.mem (trivial : AllOk P ([]))) (by kernel_rfl : P.funcs[144]? = some Go.Proofs.Try.f144) (by kernel_rfl) (by kernel_rfl) (by kernel_rfl)
    (fun x y => spec_l01Abs_eq n x.1) (fun _ _ => map_same (fun _ => rfl) _) (fun _ _ _ _ => rfl)

abbrev spec_l01Gcdsp : List Sp := [.v false (.int .i64), .v false (.int .i64)]
abbrev spec_l01Gcdbs : List (Bs × Bool) := []
abbrev spec_l01Gcdrs : List (Bool × List Rp) := [(false, [.v false (.int .i64)])]
noncomputable def spec_l01Gcdkp : Keep := { loop := fun id => match id with | 1 => ([1, 0], []) | _ => ([], []), join := fun id => match id with | _ => none }
noncomputable def spec_l01Gcdc : Code := bodyOf Go.Proofs.Try.f143
noncomputable def spec_l01GcdF (n : Nat) : Fun := { id := 143, sp := spec_l01Gcdsp, bs := spec_l01Gcdbs, rs := spec_l01Gcdrs, f := fun x y => spec_l01Gcd n x.1 x.2.1 }

theorem spec_l01Gcd_l1_eq (n : Nat) : ∀ (k : Nat) (v1 : Int) (v0 : Int), iter (interp ([]) ty 14 0 n spec_l01Gcdkp (codeAt spec_l01Gcdc [1, 0, 0, 0])) (canon 0 (spec_l01Gcdkp.loop 1)) (kAt ([]) ty 14 0 n spec_l01Gcdkp spec_l01Gcdc [1, 0, 0] [] (ending ty 0 Go.Proofs.Try.f143.results.toList spec_l01Gcdrs spec_l01Gcdbs)) k { env := [(1, .one (.sc (.int .i64 v1))), (0, .one (.sc (.int .i64 v0)))], bx := [], nx := 0 } = spec_l01Gcd_l1 n k v1 v0
  | 0, _, _ => by kernel_rfl
  | k + 1, v1, v0 => by
    have h : iter (interp ([]) ty 14 0 n spec_l01Gcdkp (codeAt spec_l01Gcdc [1, 0, 0, 0])) (canon 0 (spec_l01Gcdkp.loop 1)) (kAt ([]) ty 14 0 n spec_l01Gcdkp spec_l01Gcdc [1, 0, 0] [] (ending ty 0 Go.Proofs.Try.f143.results.toList spec_l01Gcdrs spec_l01Gcdbs)) (k + 1) { env := [(1, .one (.sc (.int .i64 v1))), (0, .one (.sc (.int .i64 v0)))], bx := [], nx := 0 } = spec_l01Gcd_t1 n (fun v1 v0 => iter (interp ([]) ty 14 0 n spec_l01Gcdkp (codeAt spec_l01Gcdc [1, 0, 0, 0])) (canon 0 (spec_l01Gcdkp.loop 1)) (kAt ([]) ty 14 0 n spec_l01Gcdkp spec_l01Gcdc [1, 0, 0] [] (ending ty 0 Go.Proofs.Try.f143.results.toList spec_l01Gcdrs spec_l01Gcdbs)) k { env := [(1, .one (.sc (.int .i64 v1))), (0, .one (.sc (.int .i64 v0)))], bx := [], nx := 0 }) v1 v0 := by kernel_rfl
    rw [h]
    have e := congrArg (fun g => spec_l01Gcd_t1 n g v1 v0) (funext fun v1 => funext fun v0 => spec_l01Gcd_l1_eq n k v1 v0)
    exact e

theorem spec_l01Gcd_eq (n : Nat) (a0 : Int) (a1 : Int) : runBody ([]) ty 14 n spec_l01Gcdkp spec_l01Gcdc Go.Proofs.Try.f143.results.toList spec_l01Gcdrs spec_l01Gcdsp spec_l01Gcdbs (a0, (a1, ())) () = spec_l01Gcd n a0 a1 := by
  have h : runBody ([]) ty 14 n spec_l01Gcdkp spec_l01Gcdc Go.Proofs.Try.f143.results.toList spec_l01Gcdrs spec_l01Gcdsp spec_l01Gcdbs (a0, (a1, ())) () = spec_l01Gcd_t n (fun k v1 v0 => iter (interp ([]) ty 14 0 n spec_l01Gcdkp (codeAt spec_l01Gcdc [1, 0, 0, 0])) (canon 0 (spec_l01Gcdkp.loop 1)) (kAt ([]) ty 14 0 n spec_l01Gcdkp spec_l01Gcdc [1, 0, 0] [] (ending ty 0 Go.Proofs.Try.f143.results.toList spec_l01Gcdrs spec_l01Gcdbs)) k { env := [(1, .one (.sc (.int .i64 v1))), (0, .one (.sc (.int .i64 v0)))], bx := [], nx := 0 }) a0 a1 := by kernel_rfl
  rw [h]
  have e := congrArg (fun h1 => spec_l01Gcd_t n h1 a0 a1) (funext fun k => funext fun v1 => funext fun v0 => spec_l01Gcd_l1_eq n k v1 v0)
  exact e

theorem spec_l01Gcd_ok (n : Nat) : FunOk P (spec_l01GcdF n) :=
  funOk_mk (C := []) (N := 14) (kp := spec_l01Gcdkp) (c := spec_l01Gcdc) (n := n) (G := fun x y => spec_l01Gcd n x.1 x.2.1) follows (AllOk.mem (trivial : AllOk P ([]))) (by kernel_rfl : P.funcs[143]? = some Go.Proofs.Try.f143) (by kernel_rfl) (by kernel_rfl) (by kernel_rfl)
    (fun x y => spec_l01Gcd_eq n x.1 x.2.1) (fun _ _ => map_same (fun _ => rfl) _) (fun _ _ _ _ => rfl)

abbrev spec_l01Oksp : List Sp := [.v true (.pair (.int .i64) (.int .i64))]
abbrev spec_l01Okbs : List (Bs × Bool) := []
abbrev spec_l01Okrs : List (Bool × List Rp) := [(false, [.v false .bool])]
noncomputable def spec_l01Okkp : Keep := { loop := fun id => match id with | _ => ([], []), join := fun id => match id with | _ => none }
noncomputable def spec_l01Okc : Code := bodyOf Go.Proofs.Try.f93
noncomputable def spec_l01OkF (n : Nat) : Fun := { id := 93, sp := spec_l01Oksp, bs := spec_l01Okbs, rs := spec_l01Okrs, f := fun x y => spec_l01Ok n x.1 }

theorem spec_l01Ok_eq (n : Nat) (a0 : (Int) × (Int)) : runBody ([spec_l00InF n, spec_l01AbsF n, spec_l01GcdF n]) ty 20 n spec_l01Okkp spec_l01Okc Go.Proofs.Try.f93.results.toList spec_l01Okrs spec_l01Oksp spec_l01Okbs (a0, ()) () = spec_l01Ok n a0 := by
  have h : runBody ([spec_l00InF n, spec_l01AbsF n, spec_l01GcdF n]) ty 20 n spec_l01Okkp spec_l01Okc Go.Proofs.Try.f93.results.toList spec_l01Okrs spec_l01Oksp spec_l01Okbs (a0, ()) () = spec_l01Ok_t n a0 := by kernel_rfl
  rw [h]
  rfl

theorem spec_l01Ok_ok (n : Nat) : FunOk P (spec_l01OkF n) :=
  funOk_mk (C := [spec_l00InF n, spec_l01AbsF n, spec_l01GcdF n]) (N := 20) (kp := spec_l01Okkp) (c := spec_l01Okc) (n := n) (G := fun x y => spec_l01Ok n x.1) follows (AllOk.mem (⟨spec_l00In_ok n, ⟨spec_l01Abs_ok n, ⟨spec_l01Gcd_ok n, trivial⟩⟩⟩ : AllOk P ([spec_l00InF n, spec_l01AbsF n, spec_l01GcdF n]))) (by kernel_rfl : P.funcs[93]? = some Go.Proofs.Try.f93) (by kernel_rfl) (by kernel_rfl) (by kernel_rfl)
    (fun x y => spec_l01Ok_eq n x.1) (fun _ _ => map_same (fun _ => rfl) _) (fun _ _ _ _ => rfl)

abbrev spec_l04Fracssp : List Sp := [.v false (.list (.pair (.int .i64) (.int .i64)))]
abbrev spec_l04Fracsbs : List (Bs × Bool) := []
abbrev spec_l04Fracsrs : List (Bool × List Rp) := [(false, [.v false .bool])]
noncomputable def spec_l04Fracskp : Keep := { loop := fun id => match id with | 2 => ([3, 0], []) | _ => ([], []), join := fun id => match id with | _ => none }
noncomputable def spec_l04Fracsc : Code := bodyOf Go.Proofs.Try.f92
noncomputable def spec_l04FracsF (n : Nat) : Fun := { id := 92, sp := spec_l04Fracssp, bs := spec_l04Fracsbs, rs := spec_l04Fracsrs, f := fun x y => spec_l04Fracs n x.1 }

theorem spec_l04Fracs_l2_eq (n : Nat) : ∀ (k : Nat) (v3 : Int) (v0 : List ((Int) × (Int))), iter (interp ([spec_l01OkF n]) ty 16 0 n spec_l04Fracskp (codeAt spec_l04Fracsc [1, 0, 1, 0, 0])) (canon 0 (spec_l04Fracskp.loop 2)) (kAt ([spec_l01OkF n]) ty 16 0 n spec_l04Fracskp spec_l04Fracsc [1, 0, 1, 0] [] (ending ty 0 Go.Proofs.Try.f92.results.toList spec_l04Fracsrs spec_l04Fracsbs)) k { env := [(3, .one (.sc (.int .i64 v3))), (0, .one (.list true (.pair (.int .i64) (.int .i64)) v0))], bx := [], nx := 0 } = spec_l04Fracs_l2 n k v3 v0
  | 0, _, _ => by kernel_rfl
  | k + 1, v3, v0 => by
    have h : iter (interp ([spec_l01OkF n]) ty 16 0 n spec_l04Fracskp (codeAt spec_l04Fracsc [1, 0, 1, 0, 0])) (canon 0 (spec_l04Fracskp.loop 2)) (kAt ([spec_l01OkF n]) ty 16 0 n spec_l04Fracskp spec_l04Fracsc [1, 0, 1, 0] [] (ending ty 0 Go.Proofs.Try.f92.results.toList spec_l04Fracsrs spec_l04Fracsbs)) (k + 1) { env := [(3, .one (.sc (.int .i64 v3))), (0, .one (.list true (.pair (.int .i64) (.int .i64)) v0))], bx := [], nx := 0 } = spec_l04Fracs_t2 n (fun v3 v0 => iter (interp ([spec_l01OkF n]) ty 16 0 n spec_l04Fracskp (codeAt spec_l04Fracsc [1, 0, 1, 0, 0])) (canon 0 (spec_l04Fracskp.loop 2)) (kAt ([spec_l01OkF n]) ty 16 0 n spec_l04Fracskp spec_l04Fracsc [1, 0, 1, 0] [] (ending ty 0 Go.Proofs.Try.f92.results.toList spec_l04Fracsrs spec_l04Fracsbs)) k { env := [(3, .one (.sc (.int .i64 v3))), (0, .one (.list true (.pair (.int .i64) (.int .i64)) v0))], bx := [], nx := 0 }) v3 v0 := by kernel_rfl
    rw [h]
    have e := congrArg (fun g => spec_l04Fracs_t2 n g v3 v0) (funext fun v3 => funext fun v0 => spec_l04Fracs_l2_eq n k v3 v0)
    exact e

theorem spec_l04Fracs_eq (n : Nat) (a0 : List ((Int) × (Int))) : runBody ([spec_l01OkF n]) ty 16 n spec_l04Fracskp spec_l04Fracsc Go.Proofs.Try.f92.results.toList spec_l04Fracsrs spec_l04Fracssp spec_l04Fracsbs (a0, ()) () = spec_l04Fracs n a0 := by
  have h : runBody ([spec_l01OkF n]) ty 16 n spec_l04Fracskp spec_l04Fracsc Go.Proofs.Try.f92.results.toList spec_l04Fracsrs spec_l04Fracssp spec_l04Fracsbs (a0, ()) () = spec_l04Fracs_t n (fun k v3 v0 => iter (interp ([spec_l01OkF n]) ty 16 0 n spec_l04Fracskp (codeAt spec_l04Fracsc [1, 0, 1, 0, 0])) (canon 0 (spec_l04Fracskp.loop 2)) (kAt ([spec_l01OkF n]) ty 16 0 n spec_l04Fracskp spec_l04Fracsc [1, 0, 1, 0] [] (ending ty 0 Go.Proofs.Try.f92.results.toList spec_l04Fracsrs spec_l04Fracsbs)) k { env := [(3, .one (.sc (.int .i64 v3))), (0, .one (.list true (.pair (.int .i64) (.int .i64)) v0))], bx := [], nx := 0 }) a0 := by kernel_rfl
  rw [h]
  have e := congrArg (fun h2 => spec_l04Fracs_t n h2 a0) (funext fun k => funext fun v3 => funext fun v0 => spec_l04Fracs_l2_eq n k v3 v0)
  exact e

theorem spec_l04Fracs_ok (n : Nat) : FunOk P (spec_l04FracsF n) :=
  funOk_mk (C := [spec_l01OkF n]) (N := 16) (kp := spec_l04Fracskp) (c := spec_l04Fracsc) (n := n) (G := fun x y => spec_l04Fracs n x.1) follows (AllOk.mem (⟨spec_l01Ok_ok n, trivial⟩ : AllOk P ([spec_l01OkF n]))) (by kernel_rfl : P.funcs[92]? = some Go.Proofs.Try.f92) (by kernel_rfl) (by kernel_rfl) (by kernel_rfl)
    (fun x y => spec_l04Fracs_eq n x.1) (fun _ _ => map_same (fun _ => rfl) _) (fun _ _ _ _ => rfl)

abbrev spec_l04Pairsp : List Sp := [.v false (.int .i64), .v false (.int .i64), .v true (.pair (.int .i64) (.int .i64))]
abbrev spec_l04Pairbs : List (Bs × Bool) := []
abbrev spec_l04Pairrs : List (Bool × List Rp) := [(true, [.v false (.pair (.pair (.int .i8) (.pair (.int .i8) (.pair (.int .i8) (.pair (.int .i8) (.pair (.int .i8) (.int .i8)))))) (.pair (.pair (.int .i64) (.int .i64)) (.int .i64)))])]
noncomputable def spec_l04Pairkp : Keep := { loop := fun id => match id with | _ => ([], []), join := fun id => match id with | _ => none }
noncomputable def spec_l04Pairc : Code := bodyOf Go.Proofs.Try.f95
noncomputable def spec_l04PairF (n : Nat) : Fun := { id := 95, sp := spec_l04Pairsp, bs := spec_l04Pairbs, rs := spec_l04Pairrs, f := fun x y => spec_l04Pair n x.1 x.2.1 x.2.2.1 }

theorem spec_l04Pair_eq (n : Nat) (a0 : Int) (a1 : Int) (a2 : (Int) × (Int)) : runBody ([]) ty 17 n spec_l04Pairkp spec_l04Pairc Go.Proofs.Try.f95.results.toList spec_l04Pairrs spec_l04Pairsp spec_l04Pairbs (a0, (a1, (a2, ()))) () = spec_l04Pair n a0 a1 a2 := by
  have h : runBody ([]) ty 17 n spec_l04Pairkp spec_l04Pairc Go.Proofs.Try.f95.results.toList spec_l04Pairrs spec_l04Pairsp spec_l04Pairbs (a0, (a1, (a2, ()))) () = spec_l04Pair_t n a0 a1 a2 := by kernel_rfl
  rw [h]
  rfl

theorem spec_l04Pair_ok (n : Nat) : FunOk P (spec_l04PairF n) :=
  funOk_mk (C := []) (N := 17) (kp := spec_l04Pairkp) (c := spec_l04Pairc) (n := n) (G := fun x y => spec_l04Pair n x.1 x.2.1 x.2.2.1) follows (AllOk.mem (trivial : AllOk P ([]))) (by kernel_rfl : P.funcs[95]? = some Go.Proofs.Try.f95) (by kernel_rfl) (by kernel_rfl) (by kernel_rfl)
    (fun x y => spec_l04Pair_eq n x.1 x.2.1 x.2.2.1) (fun _ _ => map_same (fun _ => rfl) _) (fun _ _ _ _ => rfl)

abbrev spec_RingTablesp : List Sp := [.v false (.list (.pair (.int .i64) (.int .i64))), .v true (.pair (.int .i64) (.int .i64))]
abbrev spec_RingTablebs : List (Bs × Bool) := []
abbrev spec_RingTablers : List (Bool × List Rp) := [(true, [.v false (.pair (.int .i64) (.pair (.list (.pair (.pair (.int .i8) (.pair (.int .i8) (.pair (.int .i8) (.pair (.int .i8) (.pair (.int .i8) (.int .i8)))))) (.pair (.pair (.int .i64) (.int .i64)) (.int .i64)))) (.pair .bool (.pair (.int .i64) (.int .i64)))))]), (false, [.v false (.int .i64)])]
noncomputable def spec_RingTablekp : Keep := { loop := fun id => match id with | 8 => ([8, 7, 0, 6, 4], [.box 0 1 (.pair (.pair (.int .i8) (.pair (.int .i8) (.pair (.int .i8) (.pair (.int .i8) (.pair (.int .i8) (.int .i8)))))) (.pair (.pair (.int .i64) (.int .i64)) (.int .i64)))]) | _ => ([], []), join := fun id => match id with | _ => none }
noncomputable def spec_RingTablec : Code := bodyOf Go.Proofs.Try.f39
noncomputable def spec_RingTableF (n : Nat) : Fun := { id := 39, sp := spec_RingTablesp, bs := spec_RingTablebs, rs := spec_RingTablers, f := fun x y => spec_RingTable n x.1 x.2.1 }

theorem spec_RingTable_l8_eq (n : Nat) : ∀ (k : Nat) (v8 : Int) (v0 : List ((Int) × (Int))) (v6 : Int) (b0_0 : Int) (b0_2 : Bool) (b0_3 : Int) (b0_4 : Int) (b1_0 : Int) (b1_2 : Bool) (b1_3 : Int) (b1_4 : Int) (b2 : List (((Int) × ((Int) × ((Int) × ((Int) × ((Int) × (Int)))))) × (((Int) × (Int)) × (Int)))), iter (interp ([spec_l04FracsF n, spec_l01OkF n, spec_l00InF n, spec_l04PairF n]) ty 48 0 n spec_RingTablekp (codeAt spec_RingTablec [1, 1, 1, 1, 1, 0, 1, 0, 0])) (canon 0 (spec_RingTablekp.loop 8)) (kAt ([spec_l04FracsF n, spec_l01OkF n, spec_l00InF n, spec_l04PairF n]) ty 48 0 n spec_RingTablekp spec_RingTablec [1, 1, 1, 1, 1, 0, 1, 0] [] (ending ty 0 Go.Proofs.Try.f39.results.toList spec_RingTablers spec_RingTablebs)) k { env := [(8, .one (.sc (.int .i64 v8))), (7, .one (.ref 0 0 0 0 0 0)), (0, .one (.list true (.pair (.int .i64) (.int .i64)) v0)), (6, .one (.sc (.int .i64 v6))), (4, .one (.ref 1 0 0 0 0 0))], bx := [(0, .var 59 [.sc (.int .i64 b0_0), .slice 2 0 none, .sc (.bool b0_2), .sc (.int .i64 b0_3), .sc (.int .i64 b0_4)]), (1, .var 59 [.sc (.int .i64 b1_0), .sc (.slice none 0 0), .sc (.bool b1_2), .sc (.int .i64 b1_3), .sc (.int .i64 b1_4)]), (2, .row 0 (.pair (.pair (.int .i8) (.pair (.int .i8) (.pair (.int .i8) (.pair (.int .i8) (.pair (.int .i8) (.int .i8)))))) (.pair (.pair (.int .i64) (.int .i64)) (.int .i64))) b2)], nx := 3 } = spec_RingTable_l8 n k v8 v0 v6 b0_0 b0_2 b0_3 b0_4 b1_0 b1_2 b1_3 b1_4 b2
  | 0, _, _, _, _, _, _, _, _, _, _, _, _ => by kernel_rfl
  | k + 1, v8, v0, v6, b0_0, b0_2, b0_3, b0_4, b1_0, b1_2, b1_3, b1_4, b2 => by
    have h : iter (interp ([spec_l04FracsF n, spec_l01OkF n, spec_l00InF n, spec_l04PairF n]) ty 48 0 n spec_RingTablekp (codeAt spec_RingTablec [1, 1, 1, 1, 1, 0, 1, 0, 0])) (canon 0 (spec_RingTablekp.loop 8)) (kAt ([spec_l04FracsF n, spec_l01OkF n, spec_l00InF n, spec_l04PairF n]) ty 48 0 n spec_RingTablekp spec_RingTablec [1, 1, 1, 1, 1, 0, 1, 0] [] (ending ty 0 Go.Proofs.Try.f39.results.toList spec_RingTablers spec_RingTablebs)) (k + 1) { env := [(8, .one (.sc (.int .i64 v8))), (7, .one (.ref 0 0 0 0 0 0)), (0, .one (.list true (.pair (.int .i64) (.int .i64)) v0)), (6, .one (.sc (.int .i64 v6))), (4, .one (.ref 1 0 0 0 0 0))], bx := [(0, .var 59 [.sc (.int .i64 b0_0), .slice 2 0 none, .sc (.bool b0_2), .sc (.int .i64 b0_3), .sc (.int .i64 b0_4)]), (1, .var 59 [.sc (.int .i64 b1_0), .sc (.slice none 0 0), .sc (.bool b1_2), .sc (.int .i64 b1_3), .sc (.int .i64 b1_4)]), (2, .row 0 (.pair (.pair (.int .i8) (.pair (.int .i8) (.pair (.int .i8) (.pair (.int .i8) (.pair (.int .i8) (.int .i8)))))) (.pair (.pair (.int .i64) (.int .i64)) (.int .i64))) b2)], nx := 3 } = spec_RingTable_t8 n (fun v8 v0 v6 b0_0 b0_2 b0_3 b0_4 b1_0 b1_2 b1_3 b1_4 b2 => iter (interp ([spec_l04FracsF n, spec_l01OkF n, spec_l00InF n, spec_l04PairF n]) ty 48 0 n spec_RingTablekp (codeAt spec_RingTablec [1, 1, 1, 1, 1, 0, 1, 0, 0])) (canon 0 (spec_RingTablekp.loop 8)) (kAt ([spec_l04FracsF n, spec_l01OkF n, spec_l00InF n, spec_l04PairF n]) ty 48 0 n spec_RingTablekp spec_RingTablec [1, 1, 1, 1, 1, 0, 1, 0] [] (ending ty 0 Go.Proofs.Try.f39.results.toList spec_RingTablers spec_RingTablebs)) k { env := [(8, .one (.sc (.int .i64 v8))), (7, .one (.ref 0 0 0 0 0 0)), (0, .one (.list true (.pair (.int .i64) (.int .i64)) v0)), (6, .one (.sc (.int .i64 v6))), (4, .one (.ref 1 0 0 0 0 0))], bx := [(0, .var 59 [.sc (.int .i64 b0_0), .slice 2 0 none, .sc (.bool b0_2), .sc (.int .i64 b0_3), .sc (.int .i64 b0_4)]), (1, .var 59 [.sc (.int .i64 b1_0), .sc (.slice none 0 0), .sc (.bool b1_2), .sc (.int .i64 b1_3), .sc (.int .i64 b1_4)]), (2, .row 0 (.pair (.pair (.int .i8) (.pair (.int .i8) (.pair (.int .i8) (.pair (.int .i8) (.pair (.int .i8) (.int .i8)))))) (.pair (.pair (.int .i64) (.int .i64)) (.int .i64))) b2)], nx := 3 }) v8 v0 v6 b0_0 b0_2 b0_3 b0_4 b1_0 b1_2 b1_3 b1_4 b2 := by kernel_rfl
    rw [h]
    have e := congrArg (fun g => spec_RingTable_t8 n g v8 v0 v6 b0_0 b0_2 b0_3 b0_4 b1_0 b1_2 b1_3 b1_4 b2) (funext fun v8 => funext fun v0 => funext fun v6 => funext fun b0_0 => funext fun b0_2 => funext fun b0_3 => funext fun b0_4 => funext fun b1_0 => funext fun b1_2 => funext fun b1_3 => funext fun b1_4 => funext fun b2 => spec_RingTable_l8_eq n k v8 v0 v6 b0_0 b0_2 b0_3 b0_4 b1_0 b1_2 b1_3 b1_4 b2)
    exact e

theorem spec_RingTable_eq (n : Nat) (a0 : List ((Int) × (Int))) (a1 : (Int) × (Int)) : runBody ([spec_l04FracsF n, spec_l01OkF n, spec_l00InF n, spec_l04PairF n]) ty 48 n spec_RingTablekp spec_RingTablec Go.Proofs.Try.f39.results.toList spec_RingTablers spec_RingTablesp spec_RingTablebs (a0, (a1, ())) () = spec_RingTable n a0 a1 := by
  have h : runBody ([spec_l04FracsF n, spec_l01OkF n, spec_l00InF n, spec_l04PairF n]) ty 48 n spec_RingTablekp spec_RingTablec Go.Proofs.Try.f39.results.toList spec_RingTablers spec_RingTablesp spec_RingTablebs (a0, (a1, ())) () = spec_RingTable_t n (fun k v8 v0 v6 b0_0 b0_2 b0_3 b0_4 b1_0 b1_2 b1_3 b1_4 b2 => iter (interp ([spec_l04FracsF n, spec_l01OkF n, spec_l00InF n, spec_l04PairF n]) ty 48 0 n spec_RingTablekp (codeAt spec_RingTablec [1, 1, 1, 1, 1, 0, 1, 0, 0])) (canon 0 (spec_RingTablekp.loop 8)) (kAt ([spec_l04FracsF n, spec_l01OkF n, spec_l00InF n, spec_l04PairF n]) ty 48 0 n spec_RingTablekp spec_RingTablec [1, 1, 1, 1, 1, 0, 1, 0] [] (ending ty 0 Go.Proofs.Try.f39.results.toList spec_RingTablers spec_RingTablebs)) k { env := [(8, .one (.sc (.int .i64 v8))), (7, .one (.ref 0 0 0 0 0 0)), (0, .one (.list true (.pair (.int .i64) (.int .i64)) v0)), (6, .one (.sc (.int .i64 v6))), (4, .one (.ref 1 0 0 0 0 0))], bx := [(0, .var 59 [.sc (.int .i64 b0_0), .slice 2 0 none, .sc (.bool b0_2), .sc (.int .i64 b0_3), .sc (.int .i64 b0_4)]), (1, .var 59 [.sc (.int .i64 b1_0), .sc (.slice none 0 0), .sc (.bool b1_2), .sc (.int .i64 b1_3), .sc (.int .i64 b1_4)]), (2, .row 0 (.pair (.pair (.int .i8) (.pair (.int .i8) (.pair (.int .i8) (.pair (.int .i8) (.pair (.int .i8) (.int .i8)))))) (.pair (.pair (.int .i64) (.int .i64)) (.int .i64))) b2)], nx := 3 }) a0 a1 := by kernel_rfl
  rw [h]
  have e := congrArg (fun h8 => spec_RingTable_t n h8 a0 a1) (funext fun k => funext fun v8 => funext fun v0 => funext fun v6 => funext fun b0_0 => funext fun b0_2 => funext fun b0_3 => funext fun b0_4 => funext fun b1_0 => funext fun b1_2 => funext fun b1_3 => funext fun b1_4 => funext fun b2 => spec_RingTable_l8_eq n k v8 v0 v6 b0_0 b0_2 b0_3 b0_4 b1_0 b1_2 b1_3 b1_4 b2)
  exact e

theorem spec_RingTable_ok (n : Nat) : FunOk P (spec_RingTableF n) :=
  funOk_mk (C := [spec_l04FracsF n, spec_l01OkF n, spec_l00InF n, spec_l04PairF n]) (N := 48) (kp := spec_RingTablekp) (c := spec_RingTablec) (n := n) (G := fun x y => spec_RingTable n x.1 x.2.1) follows (AllOk.mem (⟨spec_l04Fracs_ok n, ⟨spec_l01Ok_ok n, ⟨spec_l00In_ok n, ⟨spec_l04Pair_ok n, trivial⟩⟩⟩⟩ : AllOk P ([spec_l04FracsF n, spec_l01OkF n, spec_l00InF n, spec_l04PairF n]))) (by kernel_rfl : P.funcs[39]? = some Go.Proofs.Try.f39) (by kernel_rfl) (by kernel_rfl) (by kernel_rfl)
    (fun x y => spec_RingTable_eq n x.1 x.2.1) (fun _ _ => map_same (fun _ => rfl) _) (fun _ _ _ _ => rfl)

abbrev impl_withinsp : List Sp := [.v false (.int .i64), .v false (.int .i64), .v false (.int .i64)]
abbrev impl_withinbs : List (Bs × Bool) := []
abbrev impl_withinrs : List (Bool × List Rp) := [(false, [.v false .bool])]
noncomputable def impl_withinkp : Keep := { loop := fun id => match id with | _ => ([], []), join := fun id => match id with | _ => none }
noncomputable def impl_withinc : Code := bodyOf Go.Proofs.Try.f110
noncomputable def impl_withinF (n : Nat) : Fun := { id := 110, sp := impl_withinsp, bs := impl_withinbs, rs := impl_withinrs, f := fun x y => impl_within n x.1 x.2.1 x.2.2.1 }

theorem impl_within_eq (n : Nat) (a0 : Int) (a1 : Int) (a2 : Int) : runBody ([]) ty 15 n impl_withinkp impl_withinc Go.Proofs.Try.f110.results.toList impl_withinrs impl_withinsp impl_withinbs (a0, (a1, (a2, ()))) () = impl_within n a0 a1 a2 := by
  have h : runBody ([]) ty 15 n impl_withinkp impl_withinc Go.Proofs.Try.f110.results.toList impl_withinrs impl_withinsp impl_withinbs (a0, (a1, (a2, ()))) () = impl_within_t n a0 a1 a2 := by kernel_rfl
  rw [h]
  rfl

theorem impl_within_ok (n : Nat) : FunOk P (impl_withinF n) :=
  funOk_mk (C := []) (N := 15) (kp := impl_withinkp) (c := impl_withinc) (n := n) (G := fun x y => impl_within n x.1 x.2.1 x.2.2.1) follows (AllOk.mem (trivial : AllOk P ([]))) (by kernel_rfl : P.funcs[110]? = some Go.Proofs.Try.f110) (by kernel_rfl) (by kernel_rfl) (by kernel_rfl)
    (fun x y => impl_within_eq n x.1 x.2.1 x.2.2.1) (fun _ _ => map_same (fun _ => rfl) _) (fun _ _ _ _ => rfl)

abbrev impl_gcdsp : List Sp := [.v false (.int .i64), .v false (.int .i64)]
abbrev impl_gcdbs : List (Bs × Bool) := []
abbrev impl_gcdrs : List (Bool × List Rp) := [(false, [.v false (.int .i64)])]
noncomputable def impl_gcdkp : Keep := { loop := fun id => match id with | 1 => ([1, 0], []) | _ => ([], []), join := fun id => match id with | _ => none }
noncomputable def impl_gcdc : Code := bodyOf Go.Proofs.Try.f147
noncomputable def impl_gcdF (n : Nat) : Fun := { id := 147, sp := impl_gcdsp, bs := impl_gcdbs, rs := impl_gcdrs, f := fun x y => impl_gcd n x.1 x.2.1 }

theorem impl_gcd_l1_eq (n : Nat) : ∀ (k : Nat) (v1 : Int) (v0 : Int), iter (interp ([]) ty 15 0 n impl_gcdkp (codeAt impl_gcdc [1, 0, 0, 0])) (canon 0 (impl_gcdkp.loop 1)) (kAt ([]) ty 15 0 n impl_gcdkp impl_gcdc [1, 0, 0] [] (ending ty 0 Go.Proofs.Try.f147.results.toList impl_gcdrs impl_gcdbs)) k { env := [(1, .one (.sc (.int .i64 v1))), (0, .one (.sc (.int .i64 v0)))], bx := [], nx := 0 } = impl_gcd_l1 n k v1 v0
  | 0, _, _ => by kernel_rfl
  | k + 1, v1, v0 => by
    have h : iter (interp ([]) ty 15 0 n impl_gcdkp (codeAt impl_gcdc [1, 0, 0, 0])) (canon 0 (impl_gcdkp.loop 1)) (kAt ([]) ty 15 0 n impl_gcdkp impl_gcdc [1, 0, 0] [] (ending ty 0 Go.Proofs.Try.f147.results.toList impl_gcdrs impl_gcdbs)) (k + 1) { env := [(1, .one (.sc (.int .i64 v1))), (0, .one (.sc (.int .i64 v0)))], bx := [], nx := 0 } = impl_gcd_t1 n (fun v1 v0 => iter (interp ([]) ty 15 0 n impl_gcdkp (codeAt impl_gcdc [1, 0, 0, 0])) (canon 0 (impl_gcdkp.loop 1)) (kAt ([]) ty 15 0 n impl_gcdkp impl_gcdc [1, 0, 0] [] (ending ty 0 Go.Proofs.Try.f147.results.toList impl_gcdrs impl_gcdbs)) k { env := [(1, .one (.sc (.int .i64 v1))), (0, .one (.sc (.int .i64 v0)))], bx := [], nx := 0 }) v1 v0 := by kernel_rfl
    rw [h]
    have e := congrArg (fun g => impl_gcd_t1 n g v1 v0) (funext fun v1 => funext fun v0 => impl_gcd_l1_eq n k v1 v0)
    exact e

theorem impl_gcd_eq (n : Nat) (a0 : Int) (a1 : Int) : runBody ([]) ty 15 n impl_gcdkp impl_gcdc Go.Proofs.Try.f147.results.toList impl_gcdrs impl_gcdsp impl_gcdbs (a0, (a1, ())) () = impl_gcd n a0 a1 := by
  have h : runBody ([]) ty 15 n impl_gcdkp impl_gcdc Go.Proofs.Try.f147.results.toList impl_gcdrs impl_gcdsp impl_gcdbs (a0, (a1, ())) () = impl_gcd_t n (fun k v1 v0 => iter (interp ([]) ty 15 0 n impl_gcdkp (codeAt impl_gcdc [1, 0, 0, 0])) (canon 0 (impl_gcdkp.loop 1)) (kAt ([]) ty 15 0 n impl_gcdkp impl_gcdc [1, 0, 0] [] (ending ty 0 Go.Proofs.Try.f147.results.toList impl_gcdrs impl_gcdbs)) k { env := [(1, .one (.sc (.int .i64 v1))), (0, .one (.sc (.int .i64 v0)))], bx := [], nx := 0 }) a0 a1 := by kernel_rfl
  rw [h]
  have e := congrArg (fun h1 => impl_gcd_t n h1 a0 a1) (funext fun k => funext fun v1 => funext fun v0 => impl_gcd_l1_eq n k v1 v0)
  exact e

theorem impl_gcd_ok (n : Nat) : FunOk P (impl_gcdF n) :=
  funOk_mk (C := []) (N := 15) (kp := impl_gcdkp) (c := impl_gcdc) (n := n) (G := fun x y => impl_gcd n x.1 x.2.1) follows (AllOk.mem (trivial : AllOk P ([]))) (by kernel_rfl : P.funcs[147]? = some Go.Proofs.Try.f147) (by kernel_rfl) (by kernel_rfl) (by kernel_rfl)
    (fun x y => impl_gcd_eq n x.1 x.2.1) (fun _ _ => map_same (fun _ => rfl) _) (fun _ _ _ _ => rfl)

abbrev impl_ValidFracsp : List Sp := [.v true (.pair (.int .i64) (.int .i64))]
abbrev impl_ValidFracbs : List (Bs × Bool) := []
abbrev impl_ValidFracrs : List (Bool × List Rp) := [(false, [.v false .bool])]
noncomputable def impl_ValidFrackp : Keep := { loop := fun id => match id with | _ => ([], []), join := fun id => match id with | _ => none }
noncomputable def impl_ValidFracc : Code := bodyOf Go.Proofs.Try.f97
noncomputable def impl_ValidFracF (n : Nat) : Fun := { id := 97, sp := impl_ValidFracsp, bs := impl_ValidFracbs, rs := impl_ValidFracrs, f := fun x y => impl_ValidFrac n x.1 }

theorem impl_ValidFrac_eq (n : Nat) (a0 : (Int) × (Int)) : runBody ([impl_withinF n, impl_gcdF n]) ty 19 n impl_ValidFrackp impl_ValidFracc Go.Proofs.Try.f97.results.toList impl_ValidFracrs impl_ValidFracsp impl_ValidFracbs (a0, ()) () = impl_ValidFrac n a0 := by
  have h : runBody ([impl_withinF n, impl_gcdF n]) ty 19 n impl_ValidFrackp impl_ValidFracc Go.Proofs.Try.f97.results.toList impl_ValidFracrs impl_ValidFracsp impl_ValidFracbs (a0, ()) () = impl_ValidFrac_t n a0 := by kernel_rfl
  rw [h]
  rfl

theorem impl_ValidFrac_ok (n : Nat) : FunOk P (impl_ValidFracF n) :=
  funOk_mk (C := [impl_withinF n, impl_gcdF n]) (N := 19) (kp := impl_ValidFrackp) (c := impl_ValidFracc) (n := n) (G := fun x y => impl_ValidFrac n x.1) follows (AllOk.mem (⟨impl_within_ok n, ⟨impl_gcd_ok n, trivial⟩⟩ : AllOk P ([impl_withinF n, impl_gcdF n]))) (by kernel_rfl : P.funcs[97]? = some Go.Proofs.Try.f97) (by kernel_rfl) (by kernel_rfl) (by kernel_rfl)
    (fun x y => impl_ValidFrac_eq n x.1) (fun _ _ => map_same (fun _ => rfl) _) (fun _ _ _ _ => rfl)

abbrev impl_areValid_1sp : List Sp := [.v true (.pair (.int .i64) (.int .i64))]
abbrev impl_areValid_1bs : List (Bs × Bool) := []
abbrev impl_areValid_1rs : List (Bool × List Rp) := [(false, [.v false .bool])]
noncomputable def impl_areValid_1kp : Keep := { loop := fun id => match id with | _ => ([], []), join := fun id => match id with | _ => none }
noncomputable def impl_areValid_1c : Code := bodyOf Go.Proofs.Try.f146
noncomputable def impl_areValid_1F (n : Nat) : Fun := { id := 146, sp := impl_areValid_1sp, bs := impl_areValid_1bs, rs := impl_areValid_1rs, f := fun x y => impl_areValid_1 n x.1 }

theorem impl_areValid_1_eq (n : Nat) (a0 : (Int) × (Int)) : runBody ([impl_ValidFracF n]) ty 6 n impl_areValid_1kp impl_areValid_1c Go.Proofs.Try.f146.results.toList impl_areValid_1rs impl_areValid_1sp impl_areValid_1bs (a0, ()) () = impl_areValid_1 n a0 := by
  have h : runBody ([impl_ValidFracF n]) ty 6 n impl_areValid_1kp impl_areValid_1c Go.Proofs.Try.f146.results.toList impl_areValid_1rs impl_areValid_1sp impl_areValid_1bs (a0, ()) () = impl_areValid_1_t n a0 := by kernel_rfl
  rw [h]
  rfl

theorem impl_areValid_1_ok (n : Nat) : FunOk P (impl_areValid_1F n) :=
  funOk_mk (C := [impl_ValidFracF n]) (N := 6) (kp := impl_areValid_1kp) (c := impl_areValid_1c) (n := n) (G := fun x y => impl_areValid_1 n x.1) follows (AllOk.mem (⟨impl_ValidFrac_ok n, trivial⟩ : AllOk P ([impl_ValidFracF n]))) (by kernel_rfl : P.funcs[146]? = some Go.Proofs.Try.f146) (by kernel_rfl) (by kernel_rfl) (by kernel_rfl)
    (fun x y => impl_areValid_1_eq n x.1) (fun _ _ => map_same (fun _ => rfl) _) (fun _ _ _ _ => rfl)

abbrev slices_IndexFunc_impl_Frac_impl_Frac_at_impl_areValid_1sp : List Sp := [.v false (.list (.pair (.int .i64) (.int .i64))), .cl 146 []]
abbrev slices_IndexFunc_impl_Frac_impl_Frac_at_impl_areValid_1bs : List (Bs × Bool) := []
abbrev slices_IndexFunc_impl_Frac_impl_Frac_at_impl_areValid_1rs : List (Bool × List Rp) := [(false, [.v false (.int .i64)])]
noncomputable def slices_IndexFunc_impl_Frac_impl_Frac_at_impl_areValid_1kp : Keep := { loop := fun id => match id with | 2 => ([8, 0, 1, 7], []) | _ => ([], []), join := fun id => match id with | _ => none }
noncomputable def slices_IndexFunc_impl_Frac_impl_Frac_at_impl_areValid_1c : Code := bodyOf Go.Proofs.Try.f174
noncomputable def slices_IndexFunc_impl_Frac_impl_Frac_at_impl_areValid_1F (n : Nat) : Fun := { id := 174, sp := slices_IndexFunc_impl_Frac_impl_Frac_at_impl_areValid_1sp, bs := slices_IndexFunc_impl_Frac_impl_Frac_at_impl_areValid_1bs, rs := slices_IndexFunc_impl_Frac_impl_Frac_at_impl_areValid_1rs, f := fun x y => slices_IndexFunc_impl_Frac_impl_Frac_at_impl_areValid_1 n x.1 }

theorem slices_IndexFunc_impl_Frac_impl_Frac_at_impl_areValid_1_l2_eq (n : Nat) : ∀ (k : Nat) (v8 : Int) (v0 : List ((Int) × (Int))) (v7 : Int), iter (interp ([impl_areValid_1F n]) ty 19 0 n slices_IndexFunc_impl_Frac_impl_Frac_at_impl_areValid_1kp (codeAt slices_IndexFunc_impl_Frac_impl_Frac_at_impl_areValid_1c [1, 0, 1, 0, 0])) (canon 0 (slices_IndexFunc_impl_Frac_impl_Frac_at_impl_areValid_1kp.loop 2)) (kAt ([impl_areValid_1F n]) ty 19 0 n slices_IndexFunc_impl_Frac_impl_Frac_at_impl_areValid_1kp slices_IndexFunc_impl_Frac_impl_Frac_at_impl_areValid_1c [1, 0, 1, 0] [] (ending ty 0 Go.Proofs.Try.f174.results.toList slices_IndexFunc_impl_Frac_impl_Frac_at_impl_areValid_1rs slices_IndexFunc_impl_Frac_impl_Frac_at_impl_areValid_1bs)) k { env := [(8, .one (.sc (.int .i64 v8))), (0, .one (.list true (.pair (.int .i64) (.int .i64)) v0)), (1, .one (.clos 146 [])), (7, .one (.sc (.int .i64 v7)))], bx := [], nx := 0 } = slices_IndexFunc_impl_Frac_impl_Frac_at_impl_areValid_1_l2 n k v8 v0 v7
  | 0, _, _, _ => by kernel_rfl
  | k + 1, v8, v0, v7 => by
    have h : iter (interp ([impl_areValid_1F n]) ty 19 0 n slices_IndexFunc_impl_Frac_impl_Frac_at_impl_areValid_1kp (codeAt slices_IndexFunc_impl_Frac_impl_Frac_at_impl_areValid_1c [1, 0, 1, 0, 0])) (canon 0 (slices_IndexFunc_impl_Frac_impl_Frac_at_impl_areValid_1kp.loop 2)) (kAt ([impl_areValid_1F n]) ty 19 0 n slices_IndexFunc_impl_Frac_impl_Frac_at_impl_areValid_1kp slices_IndexFunc_impl_Frac_impl_Frac_at_impl_areValid_1c [1, 0, 1, 0] [] (ending ty 0 Go.Proofs.Try.f174.results.toList slices_IndexFunc_impl_Frac_impl_Frac_at_impl_areValid_1rs slices_IndexFunc_impl_Frac_impl_Frac_at_impl_areValid_1bs)) (k + 1) { env := [(8, .one (.sc (.int .i64 v8))), (0, .one (.list true (.pair (.int .i64) (.int .i64)) v0)), (1, .one (.clos 146 [])), (7, .one (.sc (.int .i64 v7)))], bx := [], nx := 0 } = slices_IndexFunc_impl_Frac_impl_Frac_at_impl_areValid_1_t2 n (fun v8 v0 v7 => iter (interp ([impl_areValid_1F n]) ty 19 0 n slices_IndexFunc_impl_Frac_impl_Frac_at_impl_areValid_1kp (codeAt slices_IndexFunc_impl_Frac_impl_Frac_at_impl_areValid_1c [1, 0, 1, 0, 0])) (canon 0 (slices_IndexFunc_impl_Frac_impl_Frac_at_impl_areValid_1kp.loop 2)) (kAt ([impl_areValid_1F n]) ty 19 0 n slices_IndexFunc_impl_Frac_impl_Frac_at_impl_areValid_1kp slices_IndexFunc_impl_Frac_impl_Frac_at_impl_areValid_1c [1, 0, 1, 0] [] (ending ty 0 Go.Proofs.Try.f174.results.toList slices_IndexFunc_impl_Frac_impl_Frac_at_impl_areValid_1rs slices_IndexFunc_impl_Frac_impl_Frac_at_impl_areValid_1bs)) k { env := [(8, .one (.sc (.int .i64 v8))), (0, .one (.list true (.pair (.int .i64) (.int .i64)) v0)), (1, .one (.clos 146 [])), (7, .one (.sc (.int .i64 v7)))], bx := [], nx := 0 }) v8 v0 v7 := by kernel_rfl
    rw [h]
    have e := congrArg (fun g => slices_IndexFunc_impl_Frac_impl_Frac_at_impl_areValid_1_t2 n g v8 v0 v7) (funext fun v8 => funext fun v0 => funext fun v7 => slices_IndexFunc_impl_Frac_impl_Frac_at_impl_areValid_1_l2_eq n k v8 v0 v7)
    exact e

theorem slices_IndexFunc_impl_Frac_impl_Frac_at_impl_areValid_1_eq (n : Nat) (a0 : List ((Int) × (Int))) : runBody ([impl_areValid_1F n]) ty 19 n slices_IndexFunc_impl_Frac_impl_Frac_at_impl_areValid_1kp slices_IndexFunc_impl_Frac_impl_Frac_at_impl_areValid_1c Go.Proofs.Try.f174.results.toList slices_IndexFunc_impl_Frac_impl_Frac_at_impl_areValid_1rs slices_IndexFunc_impl_Frac_impl_Frac_at_impl_areValid_1sp slices_IndexFunc_impl_Frac_impl_Frac_at_impl_areValid_1bs (a0, ((), ())) () = slices_IndexFunc_impl_Frac_impl_Frac_at_impl_areValid_1 n a0 := by
  have h : runBody ([impl_areValid_1F n]) ty 19 n slices_IndexFunc_impl_Frac_impl_Frac_at_impl_areValid_1kp slices_IndexFunc_impl_Frac_impl_Frac_at_impl_areValid_1c Go.Proofs.Try.f174.results.toList slices_IndexFunc_impl_Frac_impl_Frac_at_impl_areValid_1rs slices_IndexFunc_impl_Frac_impl_Frac_at_impl_areValid_1sp slices_IndexFunc_impl_Frac_impl_Frac_at_impl_areValid_1bs (a0, ((), ())) () = slices_IndexFunc_impl_Frac_impl_Frac_at_impl_areValid_1_t n (fun k v8 v0 v7 => iter (interp ([impl_areValid_1F n]) ty 19 0 n slices_IndexFunc_impl_Frac_impl_Frac_at_impl_areValid_1kp (codeAt slices_IndexFunc_impl_Frac_impl_Frac_at_impl_areValid_1c [1, 0, 1, 0, 0])) (canon 0 (slices_IndexFunc_impl_Frac_impl_Frac_at_impl_areValid_1kp.loop 2)) (kAt ([impl_areValid_1F n]) ty 19 0 n slices_IndexFunc_impl_Frac_impl_Frac_at_impl_areValid_1kp slices_IndexFunc_impl_Frac_impl_Frac_at_impl_areValid_1c [1, 0, 1, 0] [] (ending ty 0 Go.Proofs.Try.f174.results.toList slices_IndexFunc_impl_Frac_impl_Frac_at_impl_areValid_1rs slices_IndexFunc_impl_Frac_impl_Frac_at_impl_areValid_1bs)) k { env := [(8, .one (.sc (.int .i64 v8))), (0, .one (.list true (.pair (.int .i64) (.int .i64)) v0)), (1, .one (.clos 146 [])), (7, .one (.sc (.int .i64 v7)))], bx := [], nx := 0 }) a0 := by kernel_rfl
  rw [h]
  have e := congrArg (fun h2 => slices_IndexFunc_impl_Frac_impl_Frac_at_impl_areValid_1_t n h2 a0) (funext fun k => funext fun v8 => funext fun v0 => funext fun v7 => slices_IndexFunc_impl_Frac_impl_Frac_at_impl_areValid_1_l2_eq n k v8 v0 v7)
  exact e

theorem slices_IndexFunc_impl_Frac_impl_Frac_at_impl_areValid_1_ok (n : Nat) : FunOk P (slices_IndexFunc_impl_Frac_impl_Frac_at_impl_areValid_1F n) :=
  funOk_mk (C := [impl_areValid_1F n]) (N := 19) (kp := slices_IndexFunc_impl_Frac_impl_Frac_at_impl_areValid_1kp) (c := slices_IndexFunc_impl_Frac_impl_Frac_at_impl_areValid_1c) (n := n) (G := fun x y => slices_IndexFunc_impl_Frac_impl_Frac_at_impl_areValid_1 n x.1) follows (AllOk.mem (⟨impl_areValid_1_ok n, trivial⟩ : AllOk P ([impl_areValid_1F n]))) (by kernel_rfl : P.funcs[174]? = some Go.Proofs.Try.f174) (by kernel_rfl) (by kernel_rfl) (by kernel_rfl)
    (fun x y => slices_IndexFunc_impl_Frac_impl_Frac_at_impl_areValid_1_eq n x.1) (fun _ _ => map_same (fun _ => rfl) _) (fun _ _ _ _ => rfl)

abbrev slices_ContainsFunc_impl_Frac_impl_Frac_at_impl_areValid_1sp : List Sp := [.v false (.list (.pair (.int .i64) (.int .i64))), .cl 146 []]
abbrev slices_ContainsFunc_impl_Frac_impl_Frac_at_impl_areValid_1bs : List (Bs × Bool) := []
abbrev slices_ContainsFunc_impl_Frac_impl_Frac_at_impl_areValid_1rs : List (Bool × List Rp) := [(false, [.v false .bool])]
noncomputable def slices_ContainsFunc_impl_Frac_impl_Frac_at_impl_areValid_1kp : Keep := { loop := fun id => match id with | _ => ([], []), join := fun id => match id with | _ => none }
noncomputable def slices_ContainsFunc_impl_Frac_impl_Frac_at_impl_areValid_1c : Code := bodyOf Go.Proofs.Try.f145
noncomputable def slices_ContainsFunc_impl_Frac_impl_Frac_at_impl_areValid_1F (n : Nat) : Fun := { id := 145, sp := slices_ContainsFunc_impl_Frac_impl_Frac_at_impl_areValid_1sp, bs := slices_ContainsFunc_impl_Frac_impl_Frac_at_impl_areValid_1bs, rs := slices_ContainsFunc_impl_Frac_impl_Frac_at_impl_areValid_1rs, f := fun x y => slices_ContainsFunc_impl_Frac_impl_Frac_at_impl_areValid_1 n x.1 }

theorem slices_ContainsFunc_impl_Frac_impl_Frac_at_impl_areValid_1_eq (n : Nat) (a0 : List ((Int) × (Int))) : runBody ([slices_IndexFunc_impl_Frac_impl_Frac_at_impl_areValid_1F n]) ty 9 n slices_ContainsFunc_impl_Frac_impl_Frac_at_impl_areValid_1kp slices_ContainsFunc_impl_Frac_impl_Frac_at_impl_areValid_1c Go.Proofs.Try.f145.results.toList slices_ContainsFunc_impl_Frac_impl_Frac_at_impl_areValid_1rs slices_ContainsFunc_impl_Frac_impl_Frac_at_impl_areValid_1sp slices_ContainsFunc_impl_Frac_impl_Frac_at_impl_areValid_1bs (a0, ((), ())) () = slices_ContainsFunc_impl_Frac_impl_Frac_at_impl_areValid_1 n a0 := by
  have h : runBody ([slices_IndexFunc_impl_Frac_impl_Frac_at_impl_areValid_1F n]) ty 9 n slices_ContainsFunc_impl_Frac_impl_Frac_at_impl_areValid_1kp slices_ContainsFunc_impl_Frac_impl_Frac_at_impl_areValid_1c Go.Proofs.Try.f145.results.toList slices_ContainsFunc_impl_Frac_impl_Frac_at_impl_areValid_1rs slices_ContainsFunc_impl_Frac_impl_Frac_at_impl_areValid_1sp slices_ContainsFunc_impl_Frac_impl_Frac_at_impl_areValid_1bs (a0, ((), ())) () = slices_ContainsFunc_impl_Frac_impl_Frac_at_impl_areValid_1_t n a0 := by kernel_rfl
  rw [h]
  rfl

theorem slices_ContainsFunc_impl_Frac_impl_Frac_at_impl_areValid_1_ok (n : Nat) : FunOk P (slices_ContainsFunc_impl_Frac_impl_Frac_at_impl_areValid_1F n) :=
  funOk_mk (C := [slices_IndexFunc_impl_Frac_impl_Frac_at_impl_areValid_1F n]) (N := 9) (kp := slices_ContainsFunc_impl_Frac_impl_Frac_at_impl_areValid_1kp) (c := slices_ContainsFunc_impl_Frac_impl_Frac_at_impl_areValid_1c) (n := n) (G := fun x y => slices_ContainsFunc_impl_Frac_impl_Frac_at_impl_areValid_1 n x.1) follows (AllOk.mem (⟨slices_IndexFunc_impl_Frac_impl_Frac_at_impl_areValid_1_ok n, trivial⟩ : AllOk P ([slices_IndexFunc_impl_Frac_impl_Frac_at_impl_areValid_1F n]))) (by kernel_rfl : P.funcs[145]? = some Go.Proofs.Try.f145) (by kernel_rfl) (by kernel_rfl) (by kernel_rfl)
    (fun x y => slices_ContainsFunc_impl_Frac_impl_Frac_at_impl_areValid_1_eq n x.1) (fun _ _ => map_same (fun _ => rfl) _) (fun _ _ _ _ => rfl)

abbrev impl_areValidsp : List Sp := [.v false (.list (.pair (.int .i64) (.int .i64)))]
abbrev impl_areValidbs : List (Bs × Bool) := []
abbrev impl_areValidrs : List (Bool × List Rp) := [(false, [.v false .bool])]
noncomputable def impl_areValidkp : Keep := { loop := fun id => match id with | _ => ([], []), join := fun id => match id with | _ => none }
noncomputable def impl_areValidc : Code := bodyOf Go.Proofs.Try.f96
noncomputable def impl_areValidF (n : Nat) : Fun := { id := 96, sp := impl_areValidsp, bs := impl_areValidbs, rs := impl_areValidrs, f := fun x y => impl_areValid n x.1 }

theorem impl_areValid_eq (n : Nat) (a0 : List ((Int) × (Int))) : runBody ([slices_ContainsFunc_impl_Frac_impl_Frac_at_impl_areValid_1F n]) ty 6 n impl_areValidkp impl_areValidc Go.Proofs.Try.f96.results.toList impl_areValidrs impl_areValidsp impl_areValidbs (a0, ()) () = impl_areValid n a0 := by
  have h : runBody ([slices_ContainsFunc_impl_Frac_impl_Frac_at_impl_areValid_1F n]) ty 6 n impl_areValidkp impl_areValidc Go.Proofs.Try.f96.results.toList impl_areValidrs impl_areValidsp impl_areValidbs (a0, ()) () = impl_areValid_t n a0 := by kernel_rfl
  rw [h]
  rfl

theorem impl_areValid_ok (n : Nat) : FunOk P (impl_areValidF n) :=
  funOk_mk (C := [slices_ContainsFunc_impl_Frac_impl_Frac_at_impl_areValid_1F n]) (N := 6) (kp := impl_areValidkp) (c := impl_areValidc) (n := n) (G := fun x y => impl_areValid n x.1) follows (AllOk.mem (⟨slices_ContainsFunc_impl_Frac_impl_Frac_at_impl_areValid_1_ok n, trivial⟩ : AllOk P ([slices_ContainsFunc_impl_Frac_impl_Frac_at_impl_areValid_1F n]))) (by kernel_rfl : P.funcs[96]? = some Go.Proofs.Try.f96) (by kernel_rfl) (by kernel_rfl) (by kernel_rfl)
    (fun x y => impl_areValid_eq n x.1) (fun _ _ => map_same (fun _ => rfl) _) (fun _ _ _ _ => rfl)

abbrev impl_pairObssp : List Sp := [.v false (.int .i64), .v false (.int .i64), .v true (.pair (.int .i64) (.int .i64))]
abbrev impl_pairObsbs : List (Bs × Bool) := []
abbrev impl_pairObsrs : List (Bool × List Rp) := [(true, [.v false (.pair (.pair (.int .i8) (.pair (.int .i8) (.pair (.int .i8) (.pair (.int .i8) (.pair (.int .i8) (.int .i8)))))) (.pair (.pair (.int .i64) (.int .i64)) (.int .i64)))])]
noncomputable def impl_pairObskp : Keep := { loop := fun id => match id with | _ => ([], []), join := fun id => match id with | _ => none }
noncomputable def impl_pairObsc : Code := bodyOf Go.Proofs.Try.f98
noncomputable def impl_pairObsF (n : Nat) : Fun := { id := 98, sp := impl_pairObssp, bs := impl_pairObsbs, rs := impl_pairObsrs, f := fun x y => impl_pairObs n x.1 x.2.1 x.2.2.1 }

theorem impl_pairObs_eq (n : Nat) (a0 : Int) (a1 : Int) (a2 : (Int) × (Int)) : runBody ([]) ty 17 n impl_pairObskp impl_pairObsc Go.Proofs.Try.f98.results.toList impl_pairObsrs impl_pairObssp impl_pairObsbs (a0, (a1, (a2, ()))) () = impl_pairObs n a0 a1 a2 := by
  have h : runBody ([]) ty 17 n impl_pairObskp impl_pairObsc Go.Proofs.Try.f98.results.toList impl_pairObsrs impl_pairObssp impl_pairObsbs (a0, (a1, (a2, ()))) () = impl_pairObs_t n a0 a1 a2 := by kernel_rfl
  rw [h]
  rfl

theorem impl_pairObs_ok (n : Nat) : FunOk P (impl_pairObsF n) :=
  funOk_mk (C := []) (N := 17) (kp := impl_pairObskp) (c := impl_pairObsc) (n := n) (G := fun x y => impl_pairObs n x.1 x.2.1 x.2.2.1) follows (AllOk.mem (trivial : AllOk P ([]))) (by kernel_rfl : P.funcs[98]? = some Go.Proofs.Try.f98) (by kernel_rfl) (by kernel_rfl) (by kernel_rfl)
    (fun x y => impl_pairObs_eq n x.1 x.2.1 x.2.2.1) (fun _ _ => map_same (fun _ => rfl) _) (fun _ _ _ _ => rfl)

abbrev impl_RingTablesp : List Sp := [.v false (.list (.pair (.int .i64) (.int .i64))), .v true (.pair (.int .i64) (.int .i64))]
abbrev impl_RingTablebs : List (Bs × Bool) := []
abbrev impl_RingTablers : List (Bool × List Rp) := [(true, [.v false (.int .i64), .new (.pair (.pair (.int .i8) (.pair (.int .i8) (.pair (.int .i8) (.pair (.int .i8) (.pair (.int .i8) (.int .i8)))))) (.pair (.pair (.int .i64) (.int .i64)) (.int .i64))), .v false (.pair .bool (.pair (.int .i64) (.int .i64)))]), (false, [.v false (.int .i64)])]
noncomputable def impl_RingTablekp : Keep := { loop := fun id => match id with | 8 => ([35, 7, 6, 33, 4, 34], [.box 0 1 (.pair (.pair (.int .i8) (.pair (.int .i8) (.pair (.int .i8) (.pair (.int .i8) (.pair (.int .i8) (.int .i8)))))) (.pair (.pair (.int .i64) (.int .i64)) (.int .i64)))]) | _ => ([], []), join := fun id => match id with | _ => none }
noncomputable def impl_RingTablec : Code := bodyOf Go.Proofs.Try.f42
noncomputable def impl_RingTableF (n : Nat) : Fun := { id := 42, sp := impl_RingTablesp, bs := impl_RingTablebs, rs := impl_RingTablers, f := fun x y => impl_RingTable n x.1 x.2.1 }

theorem impl_RingTable_l8_eq (n : Nat) : ∀ (k : Nat) (v35 : Int) (v6 : Int) (v33 : List ((Int) × (Int))) (v34 : Int) (b0_0 : Int) (b0_2 : Bool) (b0_3 : Int) (b0_4 : Int) (b1_0 : Int) (b1_2 : Bool) (b1_3 : Int) (b1_4 : Int) (b2 : List (((Int) × ((Int) × ((Int) × ((Int) × ((Int) × (Int)))))) × (((Int) × (Int)) × (Int)))), iter (interp ([impl_areValidF n, impl_ValidFracF n, impl_pairObsF n]) ty 54 0 n impl_RingTablekp (codeAt impl_RingTablec [1, 1, 1, 1, 0, 1, 0, 0])) (canon 0 (impl_RingTablekp.loop 8)) (kAt ([impl_areValidF n, impl_ValidFracF n, impl_pairObsF n]) ty 54 0 n impl_RingTablekp impl_RingTablec [1, 1, 1, 1, 0, 1, 0] [] (ending ty 0 Go.Proofs.Try.f42.results.toList impl_RingTablers impl_RingTablebs)) k { env := [(35, .one (.sc (.int .i64 v35))), (7, .one (.ref 0 0 0 0 0 0)), (6, .one (.sc (.int .i64 v6))), (33, .one (.list true (.pair (.int .i64) (.int .i64)) v33)), (4, .one (.ref 1 0 0 0 0 0)), (34, .one (.sc (.int .i64 v34)))], bx := [(0, .var 59 [.sc (.int .i64 b0_0), .slice 2 0 none, .sc (.bool b0_2), .sc (.int .i64 b0_3), .sc (.int .i64 b0_4)]), (1, .var 59 [.sc (.int .i64 b1_0), .sc (.slice none 0 0), .sc (.bool b1_2), .sc (.int .i64 b1_3), .sc (.int .i64 b1_4)]), (2, .row 0 (.pair (.pair (.int .i8) (.pair (.int .i8) (.pair (.int .i8) (.pair (.int .i8) (.pair (.int .i8) (.int .i8)))))) (.pair (.pair (.int .i64) (.int .i64)) (.int .i64))) b2)], nx := 3 } = impl_RingTable_l8 n k v35 v6 v33 v34 b0_0 b0_2 b0_3 b0_4 b1_0 b1_2 b1_3 b1_4 b2
  | 0, _, _, _, _, _, _, _, _, _, _, _, _, _ => by kernel_rfl
  | k + 1, v35, v6, v33, v34, b0_0, b0_2, b0_3, b0_4, b1_0, b1_2, b1_3, b1_4, b2 => by
    have h : iter (interp ([impl_areValidF n, impl_ValidFracF n, impl_pairObsF n]) ty 54 0 n impl_RingTablekp (codeAt impl_RingTablec [1, 1, 1, 1, 0, 1, 0, 0])) (canon 0 (impl_RingTablekp.loop 8)) (kAt ([impl_areValidF n, impl_ValidFracF n, impl_pairObsF n]) ty 54 0 n impl_RingTablekp impl_RingTablec [1, 1, 1, 1, 0, 1, 0] [] (ending ty 0 Go.Proofs.Try.f42.results.toList impl_RingTablers impl_RingTablebs)) (k + 1) { env := [(35, .one (.sc (.int .i64 v35))), (7, .one (.ref 0 0 0 0 0 0)), (6, .one (.sc (.int .i64 v6))), (33, .one (.list true (.pair (.int .i64) (.int .i64)) v33)), (4, .one (.ref 1 0 0 0 0 0)), (34, .one (.sc (.int .i64 v34)))], bx := [(0, .var 59 [.sc (.int .i64 b0_0), .slice 2 0 none, .sc (.bool b0_2), .sc (.int .i64 b0_3), .sc (.int .i64 b0_4)]), (1, .var 59 [.sc (.int .i64 b1_0), .sc (.slice none 0 0), .sc (.bool b1_2), .sc (.int .i64 b1_3), .sc (.int .i64 b1_4)]), (2, .row 0 (.pair (.pair (.int .i8) (.pair (.int .i8) (.pair (.int .i8) (.pair (.int .i8) (.pair (.int .i8) (.int .i8)))))) (.pair (.pair (.int .i64) (.int .i64)) (.int .i64))) b2)], nx := 3 } = impl_RingTable_t8 n (fun v35 v6 v33 v34 b0_0 b0_2 b0_3 b0_4 b1_0 b1_2 b1_3 b1_4 b2 => iter (interp ([impl_areValidF n, impl_ValidFracF n, impl_pairObsF n]) ty 54 0 n impl_RingTablekp (codeAt impl_RingTablec [1, 1, 1, 1, 0, 1, 0, 0])) (canon 0 (impl_RingTablekp.loop 8)) (kAt ([impl_areValidF n, impl_ValidFracF n, impl_pairObsF n]) ty 54 0 n impl_RingTablekp impl_RingTablec [1, 1, 1, 1, 0, 1, 0] [] (ending ty 0 Go.Proofs.Try.f42.results.toList impl_RingTablers impl_RingTablebs)) k { env := [(35, .one (.sc (.int .i64 v35))), (7, .one (.ref 0 0 0 0 0 0)), (6, .one (.sc (.int .i64 v6))), (33, .one (.list true (.pair (.int .i64) (.int .i64)) v33)), (4, .one (.ref 1 0 0 0 0 0)), (34, .one (.sc (.int .i64 v34)))], bx := [(0, .var 59 [.sc (.int .i64 b0_0), .slice 2 0 none, .sc (.bool b0_2), .sc (.int .i64 b0_3), .sc (.int .i64 b0_4)]), (1, .var 59 [.sc (.int .i64 b1_0), .sc (.slice none 0 0), .sc (.bool b1_2), .sc (.int .i64 b1_3), .sc (.int .i64 b1_4)]), (2, .row 0 (.pair (.pair (.int .i8) (.pair (.int .i8) (.pair (.int .i8) (.pair (.int .i8) (.pair (.int .i8) (.int .i8)))))) (.pair (.pair (.int .i64) (.int .i64)) (.int .i64))) b2)], nx := 3 }) v35 v6 v33 v34 b0_0 b0_2 b0_3 b0_4 b1_0 b1_2 b1_3 b1_4 b2 := by kernel_rfl
    rw [h]
    have e := congrArg (fun g => impl_RingTable_t8 n g v35 v6 v33 v34 b0_0 b0_2 b0_3 b0_4 b1_0 b1_2 b1_3 b1_4 b2) (funext fun v35 => funext fun v6 => funext fun v33 => funext fun v34 => funext fun b0_0 => funext fun b0_2 => funext fun b0_3 => funext fun b0_4 => funext fun b1_0 => funext fun b1_2 => funext fun b1_3 => funext fun b1_4 => funext fun b2 => impl_RingTable_l8_eq n k v35 v6 v33 v34 b0_0 b0_2 b0_3 b0_4 b1_0 b1_2 b1_3 b1_4 b2)
    exact e

theorem impl_RingTable_eq (n : Nat) (a0 : List ((Int) × (Int))) (a1 : (Int) × (Int)) : runBody ([impl_areValidF n, impl_ValidFracF n, impl_pairObsF n]) ty 54 n impl_RingTablekp impl_RingTablec Go.Proofs.Try.f42.results.toList impl_RingTablers impl_RingTablesp impl_RingTablebs (a0, (a1, ())) () = impl_RingTable n a0 a1 := by
  have h : runBody ([impl_areValidF n, impl_ValidFracF n, impl_pairObsF n]) ty 54 n impl_RingTablekp impl_RingTablec Go.Proofs.Try.f42.results.toList impl_RingTablers impl_RingTablesp impl_RingTablebs (a0, (a1, ())) () = impl_RingTable_t n (fun k v35 v6 v33 v34 b0_0 b0_2 b0_3 b0_4 b1_0 b1_2 b1_3 b1_4 b2 => iter (interp ([impl_areValidF n, impl_ValidFracF n, impl_pairObsF n]) ty 54 0 n impl_RingTablekp (codeAt impl_RingTablec [1, 1, 1, 1, 0, 1, 0, 0])) (canon 0 (impl_RingTablekp.loop 8)) (kAt ([impl_areValidF n, impl_ValidFracF n, impl_pairObsF n]) ty 54 0 n impl_RingTablekp impl_RingTablec [1, 1, 1, 1, 0, 1, 0] [] (ending ty 0 Go.Proofs.Try.f42.results.toList impl_RingTablers impl_RingTablebs)) k { env := [(35, .one (.sc (.int .i64 v35))), (7, .one (.ref 0 0 0 0 0 0)), (6, .one (.sc (.int .i64 v6))), (33, .one (.list true (.pair (.int .i64) (.int .i64)) v33)), (4, .one (.ref 1 0 0 0 0 0)), (34, .one (.sc (.int .i64 v34)))], bx := [(0, .var 59 [.sc (.int .i64 b0_0), .slice 2 0 none, .sc (.bool b0_2), .sc (.int .i64 b0_3), .sc (.int .i64 b0_4)]), (1, .var 59 [.sc (.int .i64 b1_0), .sc (.slice none 0 0), .sc (.bool b1_2), .sc (.int .i64 b1_3), .sc (.int .i64 b1_4)]), (2, .row 0 (.pair (.pair (.int .i8) (.pair (.int .i8) (.pair (.int .i8) (.pair (.int .i8) (.pair (.int .i8) (.int .i8)))))) (.pair (.pair (.int .i64) (.int .i64)) (.int .i64))) b2)], nx := 3 }) a0 a1 := by kernel_rfl
  rw [h]
  have e := congrArg (fun h8 => impl_RingTable_t n h8 a0 a1) (funext fun k => funext fun v35 => funext fun v6 => funext fun v33 => funext fun v34 => funext fun b0_0 => funext fun b0_2 => funext fun b0_3 => funext fun b0_4 => funext fun b1_0 => funext fun b1_2 => funext fun b1_3 => funext fun b1_4 => funext fun b2 => impl_RingTable_l8_eq n k v35 v6 v33 v34 b0_0 b0_2 b0_3 b0_4 b1_0 b1_2 b1_3 b1_4 b2)
  exact e

theorem impl_RingTable_ok (n : Nat) : FunOk P (impl_RingTableF n) :=
  funOk_mk (C := [impl_areValidF n, impl_ValidFracF n, impl_pairObsF n]) (N := 54) (kp := impl_RingTablekp) (c := impl_RingTablec) (n := n) (G := fun x y => impl_RingTable n x.1 x.2.1) follows (AllOk.mem (⟨impl_areValid_ok n, ⟨impl_ValidFrac_ok n, ⟨impl_pairObs_ok n, trivial⟩⟩⟩ : AllOk P ([impl_areValidF n, impl_ValidFracF n, impl_pairObsF n]))) (by kernel_rfl : P.funcs[42]? = some Go.Proofs.Try.f42) (by kernel_rfl) (by kernel_rfl) (by kernel_rfl)
    (fun x y => impl_RingTable_eq n x.1 x.2.1) (fun _ _ => map_same (fun _ => rfl) _) (fun _ _ _ _ => rfl)

abbrev laws_eqInt8A6sp : List Sp := [.v true (.pair (.int .i8) (.pair (.int .i8) (.pair (.int .i8) (.pair (.int .i8) (.pair (.int .i8) (.int .i8)))))), .v true (.pair (.int .i8) (.pair (.int .i8) (.pair (.int .i8) (.pair (.int .i8) (.pair (.int .i8) (.int .i8))))))]
abbrev laws_eqInt8A6bs : List (Bs × Bool) := []
abbrev laws_eqInt8A6rs : List (Bool × List Rp) := [(false, [.v false .bool])]
noncomputable def laws_eqInt8A6kp : Keep := { loop := fun id => match id with | 2 => ([5, 3, 2], []) | _ => ([], []), join := fun id => match id with | _ => none }
noncomputable def laws_eqInt8A6c : Code := bodyOf Go.Proofs.Try.f175
noncomputable def laws_eqInt8A6F (n : Nat) : Fun := { id := 175, sp := laws_eqInt8A6sp, bs := laws_eqInt8A6bs, rs := laws_eqInt8A6rs, f := fun x y => laws_eqInt8A6 n x.1 x.2.1 }

theorem laws_eqInt8A6_l2_eq (n : Nat) : ∀ (k : Nat) (v5 : Int) (b0_0 : Int) (b0_1 : Int) (b0_2 : Int) (b0_3 : Int) (b0_4 : Int) (b0_5 : Int) (b1_0 : Int) (b1_1 : Int) (b1_2 : Int) (b1_3 : Int) (b1_4 : Int) (b1_5 : Int), iter (interp ([]) ty 17 0 n laws_eqInt8A6kp (codeAt laws_eqInt8A6c [1, 0, 1, 0, 0])) (canon 0 (laws_eqInt8A6kp.loop 2)) (kAt ([]) ty 17 0 n laws_eqInt8A6kp laws_eqInt8A6c [1, 0, 1, 0] [] (ending ty 0 Go.Proofs.Try.f175.results.toList laws_eqInt8A6rs laws_eqInt8A6bs)) k { env := [(5, .one (.sc (.int .i64 v5))), (3, .one (.ref 0 0 0 0 0 0)), (2, .one (.ref 1 0 0 0 0 0))], bx := [(0, .var 124 [.sc (.int .i8 b0_0), .sc (.int .i8 b0_1), .sc (.int .i8 b0_2), .sc (.int .i8 b0_3), .sc (.int .i8 b0_4), .sc (.int .i8 b0_5)]), (1, .var 124 [.sc (.int .i8 b1_0), .sc (.int .i8 b1_1), .sc (.int .i8 b1_2), .sc (.int .i8 b1_3), .sc (.int .i8 b1_4), .sc (.int .i8 b1_5)])], nx := 2 } = laws_eqInt8A6_l2 n k v5 b0_0 b0_1 b0_2 b0_3 b0_4 b0_5 b1_0 b1_1 b1_2 b1_3 b1_4 b1_5
  | 0, _, _, _, _, _, _, _, _, _, _, _, _, _ => by kernel_rfl
  | k + 1, v5, b0_0, b0_1, b0_2, b0_3, b0_4, b0_5, b1_0, b1_1, b1_2, b1_3, b1_4, b1_5 => by
    have h : iter (interp ([]) ty 17 0 n laws_eqInt8A6kp (codeAt laws_eqInt8A6c [1, 0, 1, 0, 0])) (canon 0 (laws_eqInt8A6kp.loop 2)) (kAt ([]) ty 17 0 n laws_eqInt8A6kp laws_eqInt8A6c [1, 0, 1, 0] [] (ending ty 0 Go.Proofs.Try.f175.results.toList laws_eqInt8A6rs laws_eqInt8A6bs)) (k + 1) { env := [(5, .one (.sc (.int .i64 v5))), (3, .one (.ref 0 0 0 0 0 0)), (2, .one (.ref 1 0 0 0 0 0))], bx := [(0, .var 124 [.sc (.int .i8 b0_0), .sc (.int .i8 b0_1), .sc (.int .i8 b0_2), .sc (.int .i8 b0_3), .sc (.int .i8 b0_4), .sc (.int .i8 b0_5)]), (1, .var 124 [.sc (.int .i8 b1_0), .sc (.int .i8 b1_1), .sc (.int .i8 b1_2), .sc (.int .i8 b1_3), .sc (.int .i8 b1_4), .sc (.int .i8 b1_5)])], nx := 2 } = laws_eqInt8A6_t2 n (fun v5 b0_0 b0_1 b0_2 b0_3 b0_4 b0_5 b1_0 b1_1 b1_2 b1_3 b1_4 b1_5 => iter (interp ([]) ty 17 0 n laws_eqInt8A6kp (codeAt laws_eqInt8A6c [1, 0, 1, 0, 0])) (canon 0 (laws_eqInt8A6kp.loop 2)) (kAt ([]) ty 17 0 n laws_eqInt8A6kp laws_eqInt8A6c [1, 0, 1, 0] [] (ending ty 0 Go.Proofs.Try.f175.results.toList laws_eqInt8A6rs laws_eqInt8A6bs)) k { env := [(5, .one (.sc (.int .i64 v5))), (3, .one (.ref 0 0 0 0 0 0)), (2, .one (.ref 1 0 0 0 0 0))], bx := [(0, .var 124 [.sc (.int .i8 b0_0), .sc (.int .i8 b0_1), .sc (.int .i8 b0_2), .sc (.int .i8 b0_3), .sc (.int .i8 b0_4), .sc (.int .i8 b0_5)]), (1, .var 124 [.sc (.int .i8 b1_0), .sc (.int .i8 b1_1), .sc (.int .i8 b1_2), .sc (.int .i8 b1_3), .sc (.int .i8 b1_4), .sc (.int .i8 b1_5)])], nx := 2 }) v5 b0_0 b0_1 b0_2 b0_3 b0_4 b0_5 b1_0 b1_1 b1_2 b1_3 b1_4 b1_5 := by kernel_rfl
    rw [h]
    have e := congrArg (fun g => laws_eqInt8A6_t2 n g v5 b0_0 b0_1 b0_2 b0_3 b0_4 b0_5 b1_0 b1_1 b1_2 b1_3 b1_4 b1_5) (funext fun v5 => funext fun b0_0 => funext fun b0_1 => funext fun b0_2 => funext fun b0_3 => funext fun b0_4 => funext fun b0_5 => funext fun b1_0 => funext fun b1_1 => funext fun b1_2 => funext fun b1_3 => funext fun b1_4 => funext fun b1_5 => laws_eqInt8A6_l2_eq n k v5 b0_0 b0_1 b0_2 b0_3 b0_4 b0_5 b1_0 b1_1 b1_2 b1_3 b1_4 b1_5)
    exact e

theorem laws_eqInt8A6_eq (n : Nat) (a0 : (Int) × ((Int) × ((Int) × ((Int) × ((Int) × (Int)))))) (a1 : (Int) × ((Int) × ((Int) × ((Int) × ((Int) × (Int)))))) : runBody ([]) ty 17 n laws_eqInt8A6kp laws_eqInt8A6c Go.Proofs.Try.f175.results.toList laws_eqInt8A6rs laws_eqInt8A6sp laws_eqInt8A6bs (a0, (a1, ())) () = laws_eqInt8A6 n a0 a1 := by
  have h : runBody ([]) ty 17 n laws_eqInt8A6kp laws_eqInt8A6c Go.Proofs.Try.f175.results.toList laws_eqInt8A6rs laws_eqInt8A6sp laws_eqInt8A6bs (a0, (a1, ())) () = laws_eqInt8A6_t n (fun k v5 b0_0 b0_1 b0_2 b0_3 b0_4 b0_5 b1_0 b1_1 b1_2 b1_3 b1_4 b1_5 => iter (interp ([]) ty 17 0 n laws_eqInt8A6kp (codeAt laws_eqInt8A6c [1, 0, 1, 0, 0])) (canon 0 (laws_eqInt8A6kp.loop 2)) (kAt ([]) ty 17 0 n laws_eqInt8A6kp laws_eqInt8A6c [1, 0, 1, 0] [] (ending ty 0 Go.Proofs.Try.f175.results.toList laws_eqInt8A6rs laws_eqInt8A6bs)) k { env := [(5, .one (.sc (.int .i64 v5))), (3, .one (.ref 0 0 0 0 0 0)), (2, .one (.ref 1 0 0 0 0 0))], bx := [(0, .var 124 [.sc (.int .i8 b0_0), .sc (.int .i8 b0_1), .sc (.int .i8 b0_2), .sc (.int .i8 b0_3), .sc (.int .i8 b0_4), .sc (.int .i8 b0_5)]), (1, .var 124 [.sc (.int .i8 b1_0), .sc (.int .i8 b1_1), .sc (.int .i8 b1_2), .sc (.int .i8 b1_3), .sc (.int .i8 b1_4), .sc (.int .i8 b1_5)])], nx := 2 }) a0 a1 := by kernel_rfl
  rw [h]
  have e := congrArg (fun h2 => laws_eqInt8A6_t n h2 a0 a1) (funext fun k => funext fun v5 => funext fun b0_0 => funext fun b0_1 => funext fun b0_2 => funext fun b0_3 => funext fun b0_4 => funext fun b0_5 => funext fun b1_0 => funext fun b1_1 => funext fun b1_2 => funext fun b1_3 => funext fun b1_4 => funext fun b1_5 => laws_eqInt8A6_l2_eq n k v5 b0_0 b0_1 b0_2 b0_3 b0_4 b0_5 b1_0 b1_1 b1_2 b1_3 b1_4 b1_5)
  exact e

theorem laws_eqInt8A6_ok (n : Nat) : FunOk P (laws_eqInt8A6F n) :=
  funOk_mk (C := []) (N := 17) (kp := laws_eqInt8A6kp) (c := laws_eqInt8A6c) (n := n) (G := fun x y => laws_eqInt8A6 n x.1 x.2.1) follows (AllOk.mem (trivial : AllOk P ([]))) (by kernel_rfl : P.funcs[175]? = some Go.Proofs.Try.f175) (by kernel_rfl) (by kernel_rfl) (by kernel_rfl)
    (fun x y => laws_eqInt8A6_eq n x.1 x.2.1) (fun _ _ => map_same (fun _ => rfl) _) (fun _ _ _ _ => rfl)

abbrev laws_eqFracsp : List Sp := [.v true (.pair (.int .i64) (.int .i64)), .v true (.pair (.int .i64) (.int .i64))]
abbrev laws_eqFracbs : List (Bs × Bool) := []
abbrev laws_eqFracrs : List (Bool × List Rp) := [(false, [.v false .bool])]
noncomputable def laws_eqFrackp : Keep := { loop := fun id => match id with | _ => ([], []), join := fun id => match id with | _ => none }
noncomputable def laws_eqFracc : Code := bodyOf Go.Proofs.Try.f100
noncomputable def laws_eqFracF (n : Nat) : Fun := { id := 100, sp := laws_eqFracsp, bs := laws_eqFracbs, rs := laws_eqFracrs, f := fun x y => laws_eqFrac n x.1 x.2.1 }

theorem laws_eqFrac_eq (n : Nat) (a0 : (Int) × (Int)) (a1 : (Int) × (Int)) : runBody ([]) ty 15 n laws_eqFrackp laws_eqFracc Go.Proofs.Try.f100.results.toList laws_eqFracrs laws_eqFracsp laws_eqFracbs (a0, (a1, ())) () = laws_eqFrac n a0 a1 := by
  have h : runBody ([]) ty 15 n laws_eqFrackp laws_eqFracc Go.Proofs.Try.f100.results.toList laws_eqFracrs laws_eqFracsp laws_eqFracbs (a0, (a1, ())) () = laws_eqFrac_t n a0 a1 := by kernel_rfl
  rw [h]
  rfl

theorem laws_eqFrac_ok (n : Nat) : FunOk P (laws_eqFracF n) :=
  funOk_mk (C := []) (N := 15) (kp := laws_eqFrackp) (c := laws_eqFracc) (n := n) (G := fun x y => laws_eqFrac n x.1 x.2.1) follows (AllOk.mem (trivial : AllOk P ([]))) (by kernel_rfl : P.funcs[100]? = some Go.Proofs.Try.f100) (by kernel_rfl) (by kernel_rfl) (by kernel_rfl)
    (fun x y => laws_eqFrac_eq n x.1 x.2.1) (fun _ _ => map_same (fun _ => rfl) _) (fun _ _ _ _ => rfl)

abbrev laws_eqObssp : List Sp := [.v true (.pair (.pair (.int .i8) (.pair (.int .i8) (.pair (.int .i8) (.pair (.int .i8) (.pair (.int .i8) (.int .i8)))))) (.pair (.pair (.int .i64) (.int .i64)) (.int .i64))), .v true (.pair (.pair (.int .i8) (.pair (.int .i8) (.pair (.int .i8) (.pair (.int .i8) (.pair (.int .i8) (.int .i8)))))) (.pair (.pair (.int .i64) (.int .i64)) (.int .i64)))]
abbrev laws_eqObsbs : List (Bs × Bool) := []
abbrev laws_eqObsrs : List (Bool × List Rp) := [(false, [.v false .bool])]
noncomputable def laws_eqObskp : Keep := { loop := fun id => match id with | _ => ([], []), join := fun id => match id with | _ => none }
noncomputable def laws_eqObsc : Code := bodyOf Go.Proofs.Try.f148
noncomputable def laws_eqObsF (n : Nat) : Fun := { id := 148, sp := laws_eqObssp, bs := laws_eqObsbs, rs := laws_eqObsrs, f := fun x y => laws_eqObs n x.1 x.2.1 }

theorem laws_eqObs_eq (n : Nat) (a0 : ((Int) × ((Int) × ((Int) × ((Int) × ((Int) × (Int)))))) × (((Int) × (Int)) × (Int))) (a1 : ((Int) × ((Int) × ((Int) × ((Int) × ((Int) × (Int)))))) × (((Int) × (Int)) × (Int))) : runBody ([laws_eqInt8A6F n, laws_eqFracF n]) ty 22 n laws_eqObskp laws_eqObsc Go.Proofs.Try.f148.results.toList laws_eqObsrs laws_eqObssp laws_eqObsbs (a0, (a1, ())) () = laws_eqObs n a0 a1 := by
  have h : runBody ([laws_eqInt8A6F n, laws_eqFracF n]) ty 22 n laws_eqObskp laws_eqObsc Go.Proofs.Try.f148.results.toList laws_eqObsrs laws_eqObssp laws_eqObsbs (a0, (a1, ())) () = laws_eqObs_t n a0 a1 := by kernel_rfl
  rw [h]
  rfl

theorem laws_eqObs_ok (n : Nat) : FunOk P (laws_eqObsF n) :=
  funOk_mk (C := [laws_eqInt8A6F n, laws_eqFracF n]) (N := 22) (kp := laws_eqObskp) (c := laws_eqObsc) (n := n) (G := fun x y => laws_eqObs n x.1 x.2.1) follows (AllOk.mem (⟨laws_eqInt8A6_ok n, ⟨laws_eqFrac_ok n, trivial⟩⟩ : AllOk P ([laws_eqInt8A6F n, laws_eqFracF n]))) (by kernel_rfl : P.funcs[148]? = some Go.Proofs.Try.f148) (by kernel_rfl) (by kernel_rfl) (by kernel_rfl)
    (fun x y => laws_eqObs_eq n x.1 x.2.1) (fun _ _ => map_same (fun _ => rfl) _) (fun _ _ _ _ => rfl)

abbrev laws_eqObsSsp : List Sp := [.v false (.list (.pair (.pair (.int .i8) (.pair (.int .i8) (.pair (.int .i8) (.pair (.int .i8) (.pair (.int .i8) (.int .i8)))))) (.pair (.pair (.int .i64) (.int .i64)) (.int .i64)))), .v false (.list (.pair (.pair (.int .i8) (.pair (.int .i8) (.pair (.int .i8) (.pair (.int .i8) (.pair (.int .i8) (.int .i8)))))) (.pair (.pair (.int .i64) (.int .i64)) (.int .i64))))]
abbrev laws_eqObsSbs : List (Bs × Bool) := []
abbrev laws_eqObsSrs : List (Bool × List Rp) := [(false, [.v false .bool])]
noncomputable def laws_eqObsSkp : Keep := { loop := fun id => match id with | 4 => ([5, 1, 0], []) | _ => ([], []), join := fun id => match id with | _ => none }
noncomputable def laws_eqObsSc : Code := bodyOf Go.Proofs.Try.f99
noncomputable def laws_eqObsSF (n : Nat) : Fun := { id := 99, sp := laws_eqObsSsp, bs := laws_eqObsSbs, rs := laws_eqObsSrs, f := fun x y => laws_eqObsS n x.1 x.2.1 }

theorem laws_eqObsS_l4_eq (n : Nat) : ∀ (k : Nat) (v5 : Int) (v1 : List (((Int) × ((Int) × ((Int) × ((Int) × ((Int) × (Int)))))) × (((Int) × (Int)) × (Int)))) (v0 : List (((Int) × ((Int) × ((Int) × ((Int) × ((Int) × (Int)))))) × (((Int) × (Int)) × (Int)))), iter (interp ([laws_eqObsF n]) ty 27 0 n laws_eqObsSkp (codeAt laws_eqObsSc [1, 1, 0, 1, 0, 0])) (canon 0 (laws_eqObsSkp.loop 4)) (kAt ([laws_eqObsF n]) ty 27 0 n laws_eqObsSkp laws_eqObsSc [1, 1, 0, 1, 0] [] (ending ty 0 Go.Proofs.Try.f99.results.toList laws_eqObsSrs laws_eqObsSbs)) k { env := [(5, .one (.sc (.int .i64 v5))), (1, .one (.list true (.pair (.pair (.int .i8) (.pair (.int .i8) (.pair (.int .i8) (.pair (.int .i8) (.pair (.int .i8) (.int .i8)))))) (.pair (.pair (.int .i64) (.int .i64)) (.int .i64))) v1)), (0, .one (.list true (.pair (.pair (.int .i8) (.pair (.int .i8) (.pair (.int .i8) (.pair (.int .i8) (.pair (.int .i8) (.int .i8)))))) (.pair (.pair (.int .i64) (.int .i64)) (.int .i64))) v0))], bx := [], nx := 0 } = laws_eqObsS_l4 n k v5 v1 v0
  | 0, _, _, _ => by kernel_rfl
  | k + 1, v5, v1, v0 => by
    have h : iter (interp ([laws_eqObsF n]) ty 27 0 n laws_eqObsSkp (codeAt laws_eqObsSc [1, 1, 0, 1, 0, 0])) (canon 0 (laws_eqObsSkp.loop 4)) (kAt ([laws_eqObsF n]) ty 27 0 n laws_eqObsSkp laws_eqObsSc [1, 1, 0, 1, 0] [] (ending ty 0 Go.Proofs.Try.f99.results.toList laws_eqObsSrs laws_eqObsSbs)) (k + 1) { env := [(5, .one (.sc (.int .i64 v5))), (1, .one (.list true (.pair (.pair (.int .i8) (.pair (.int .i8) (.pair (.int .i8) (.pair (.int .i8) (.pair (.int .i8) (.int .i8)))))) (.pair (.pair (.int .i64) (.int .i64)) (.int .i64))) v1)), (0, .one (.list true (.pair (.pair (.int .i8) (.pair (.int .i8) (.pair (.int .i8) (.pair (.int .i8) (.pair (.int .i8) (.int .i8)))))) (.pair (.pair (.int .i64) (.int .i64)) (.int .i64))) v0))], bx := [], nx := 0 } = laws_eqObsS_t4 n (fun v5 v1 v0 => iter (interp ([laws_eqObsF n]) ty 27 0 n laws_eqObsSkp (codeAt laws_eqObsSc [1, 1, 0, 1, 0, 0])) (canon 0 (laws_eqObsSkp.loop 4)) (kAt ([laws_eqObsF n]) ty 27 0 n laws_eqObsSkp laws_eqObsSc [1, 1, 0, 1, 0] [] (ending ty 0 Go.Proofs.Try.f99.results.toList laws_eqObsSrs laws_eqObsSbs)) k { env := [(5, .one (.sc (.int .i64 v5))), (1, .one (.list true (.pair (.pair (.int .i8) (.pair (.int .i8) (.pair (.int .i8) (.pair (.int .i8) (.pair (.int .i8) (.int .i8)))))) (.pair (.pair (.int .i64) (.int .i64)) (.int .i64))) v1)), (0, .one (.list true (.pair (.pair (.int .i8) (.pair (.int .i8) (.pair (.int .i8) (.pair (.int .i8) (.pair (.int .i8) (.int .i8)))))) (.pair (.pair (.int .i64) (.int .i64)) (.int .i64))) v0))], bx := [], nx := 0 }) v5 v1 v0 := by kernel_rfl
    rw [h]
    have e := congrArg (fun g => laws_eqObsS_t4 n g v5 v1 v0) (funext fun v5 => funext fun v1 => funext fun v0 => laws_eqObsS_l4_eq n k v5 v1 v0)
    exact e

theorem laws_eqObsS_eq (n : Nat) (a0 : List (((Int) × ((Int) × ((Int) × ((Int) × ((Int) × (Int)))))) × (((Int) × (Int)) × (Int)))) (a1 : List (((Int) × ((Int) × ((Int) × ((Int) × ((Int) × (Int)))))) × (((Int) × (Int)) × (Int)))) : runBody ([laws_eqObsF n]) ty 27 n laws_eqObsSkp laws_eqObsSc Go.Proofs.Try.f99.results.toList laws_eqObsSrs laws_eqObsSsp laws_eqObsSbs (a0, (a1, ())) () = laws_eqObsS n a0 a1 := by
  have h : runBody ([laws_eqObsF n]) ty 27 n laws_eqObsSkp laws_eqObsSc Go.Proofs.Try.f99.results.toList laws_eqObsSrs laws_eqObsSsp laws_eqObsSbs (a0, (a1, ())) () = laws_eqObsS_t n (fun k v5 v1 v0 => iter (interp ([laws_eqObsF n]) ty 27 0 n laws_eqObsSkp (codeAt laws_eqObsSc [1, 1, 0, 1, 0, 0])) (canon 0 (laws_eqObsSkp.loop 4)) (kAt ([laws_eqObsF n]) ty 27 0 n laws_eqObsSkp laws_eqObsSc [1, 1, 0, 1, 0] [] (ending ty 0 Go.Proofs.Try.f99.results.toList laws_eqObsSrs laws_eqObsSbs)) k { env := [(5, .one (.sc (.int .i64 v5))), (1, .one (.list true (.pair (.pair (.int .i8) (.pair (.int .i8) (.pair (.int .i8) (.pair (.int .i8) (.pair (.int .i8) (.int .i8)))))) (.pair (.pair (.int .i64) (.int .i64)) (.int .i64))) v1)), (0, .one (.list true (.pair (.pair (.int .i8) (.pair (.int .i8) (.pair (.int .i8) (.pair (.int .i8) (.pair (.int .i8) (.int .i8)))))) (.pair (.pair (.int .i64) (.int .i64)) (.int .i64))) v0))], bx := [], nx := 0 }) a0 a1 := by kernel_rfl
  rw [h]
  have e := congrArg (fun h4 => laws_eqObsS_t n h4 a0 a1) (funext fun k => funext fun v5 => funext fun v1 => funext fun v0 => laws_eqObsS_l4_eq n k v5 v1 v0)
  exact e

theorem laws_eqObsS_ok (n : Nat) : FunOk P (laws_eqObsSF n) :=
  funOk_mk (C := [laws_eqObsF n]) (N := 27) (kp := laws_eqObsSkp) (c := laws_eqObsSc) (n := n) (G := fun x y => laws_eqObsS n x.1 x.2.1) follows (AllOk.mem (⟨laws_eqObs_ok n, trivial⟩ : AllOk P ([laws_eqObsF n]))) (by kernel_rfl : P.funcs[99]? = some Go.Proofs.Try.f99) (by kernel_rfl) (by kernel_rfl) (by kernel_rfl)
    (fun x y => laws_eqObsS_eq n x.1 x.2.1) (fun _ _ => map_same (fun _ => rfl) _) (fun _ _ _ _ => rfl)

abbrev laws_eqTablesp : List Sp := [.v true (.pair (.int .i64) (.pair (.list (.pair (.pair (.int .i8) (.pair (.int .i8) (.pair (.int .i8) (.pair (.int .i8) (.pair (.int .i8) (.int .i8)))))) (.pair (.pair (.int .i64) (.int .i64)) (.int .i64)))) (.pair .bool (.pair (.int .i64) (.int .i64))))), .v true (.pair (.int .i64) (.pair (.list (.pair (.pair (.int .i8) (.pair (.int .i8) (.pair (.int .i8) (.pair (.int .i8) (.pair (.int .i8) (.int .i8)))))) (.pair (.pair (.int .i64) (.int .i64)) (.int .i64)))) (.pair .bool (.pair (.int .i64) (.int .i64)))))]
abbrev laws_eqTablebs : List (Bs × Bool) := []
abbrev laws_eqTablers : List (Bool × List Rp) := [(false, [.v false .bool])]
noncomputable def laws_eqTablekp : Keep := { loop := fun id => match id with | _ => ([], []), join := fun id => match id with | _ => none }
noncomputable def laws_eqTablec : Code := bodyOf Go.Proofs.Try.f43
noncomputable def laws_eqTableF (n : Nat) : Fun := { id := 43, sp := laws_eqTablesp, bs := laws_eqTablebs, rs := laws_eqTablers, f := fun x y => laws_eqTable n x.1 x.2.1 }

theorem laws_eqTable_eq (n : Nat) (a0 : (Int) × ((List (((Int) × ((Int) × ((Int) × ((Int) × ((Int) × (Int)))))) × (((Int) × (Int)) × (Int)))) × ((Bool) × ((Int) × (Int))))) (a1 : (Int) × ((List (((Int) × ((Int) × ((Int) × ((Int) × ((Int) × (Int)))))) × (((Int) × (Int)) × (Int)))) × ((Bool) × ((Int) × (Int))))) : runBody ([laws_eqObsSF n, laws_eqFracF n]) ty 27 n laws_eqTablekp laws_eqTablec Go.Proofs.Try.f43.results.toList laws_eqTablers laws_eqTablesp laws_eqTablebs (a0, (a1, ())) () = laws_eqTable n a0 a1 := by
  have h : runBody ([laws_eqObsSF n, laws_eqFracF n]) ty 27 n laws_eqTablekp laws_eqTablec Go.Proofs.Try.f43.results.toList laws_eqTablers laws_eqTablesp laws_eqTablebs (a0, (a1, ())) () = laws_eqTable_t n a0 a1 := by kernel_rfl
  rw [h]
  rfl

theorem laws_eqTable_ok (n : Nat) : FunOk P (laws_eqTableF n) :=
  funOk_mk (C := [laws_eqObsSF n, laws_eqFracF n]) (N := 27) (kp := laws_eqTablekp) (c := laws_eqTablec) (n := n) (G := fun x y => laws_eqTable n x.1 x.2.1) follows (AllOk.mem (⟨laws_eqObsS_ok n, ⟨laws_eqFrac_ok n, trivial⟩⟩ : AllOk P ([laws_eqObsSF n, laws_eqFracF n]))) (by kernel_rfl : P.funcs[43]? = some Go.Proofs.Try.f43) (by kernel_rfl) (by kernel_rfl) (by kernel_rfl)
    (fun x y => laws_eqTable_eq n x.1 x.2.1) (fun _ _ => map_same (fun _ => rfl) _) (fun _ _ _ _ => rfl)

abbrev laws_eqFracSsp : List Sp := [.v false (.list (.pair (.int .i64) (.int .i64))), .v false (.list (.pair (.int .i64) (.int .i64)))]
abbrev laws_eqFracSbs : List (Bs × Bool) := []
abbrev laws_eqFracSrs : List (Bool × List Rp) := [(false, [.v false .bool])]
noncomputable def laws_eqFracSkp : Keep := { loop := fun id => match id with | 4 => ([5, 1, 0], []) | _ => ([], []), join := fun id => match id with | _ => none }
noncomputable def laws_eqFracSc : Code := bodyOf Go.Proofs.Try.f44
noncomputable def laws_eqFracSF (n : Nat) : Fun := { id := 44, sp := laws_eqFracSsp, bs := laws_eqFracSbs, rs := laws_eqFracSrs, f := fun x y => laws_eqFracS n x.1 x.2.1 }

theorem laws_eqFracS_l4_eq (n : Nat) : ∀ (k : Nat) (v5 : Int) (v1 : List ((Int) × (Int))) (v0 : List ((Int) × (Int))), iter (interp ([laws_eqFracF n]) ty 27 0 n laws_eqFracSkp (codeAt laws_eqFracSc [1, 1, 0, 1, 0, 0])) (canon 0 (laws_eqFracSkp.loop 4)) (kAt ([laws_eqFracF n]) ty 27 0 n laws_eqFracSkp laws_eqFracSc [1, 1, 0, 1, 0] [] (ending ty 0 Go.Proofs.Try.f44.results.toList laws_eqFracSrs laws_eqFracSbs)) k { env := [(5, .one (.sc (.int .i64 v5))), (1, .one (.list true (.pair (.int .i64) (.int .i64)) v1)), (0, .one (.list true (.pair (.int .i64) (.int .i64)) v0))], bx := [], nx := 0 } = laws_eqFracS_l4 n k v5 v1 v0
  | 0, _, _, _ => by kernel_rfl
  | k + 1, v5, v1, v0 => by
    have h : iter (interp ([laws_eqFracF n]) ty 27 0 n laws_eqFracSkp (codeAt laws_eqFracSc [1, 1, 0, 1, 0, 0])) (canon 0 (laws_eqFracSkp.loop 4)) (kAt ([laws_eqFracF n]) ty 27 0 n laws_eqFracSkp laws_eqFracSc [1, 1, 0, 1, 0] [] (ending ty 0 Go.Proofs.Try.f44.results.toList laws_eqFracSrs laws_eqFracSbs)) (k + 1) { env := [(5, .one (.sc (.int .i64 v5))), (1, .one (.list true (.pair (.int .i64) (.int .i64)) v1)), (0, .one (.list true (.pair (.int .i64) (.int .i64)) v0))], bx := [], nx := 0 } = laws_eqFracS_t4 n (fun v5 v1 v0 => iter (interp ([laws_eqFracF n]) ty 27 0 n laws_eqFracSkp (codeAt laws_eqFracSc [1, 1, 0, 1, 0, 0])) (canon 0 (laws_eqFracSkp.loop 4)) (kAt ([laws_eqFracF n]) ty 27 0 n laws_eqFracSkp laws_eqFracSc [1, 1, 0, 1, 0] [] (ending ty 0 Go.Proofs.Try.f44.results.toList laws_eqFracSrs laws_eqFracSbs)) k { env := [(5, .one (.sc (.int .i64 v5))), (1, .one (.list true (.pair (.int .i64) (.int .i64)) v1)), (0, .one (.list true (.pair (.int .i64) (.int .i64)) v0))], bx := [], nx := 0 }) v5 v1 v0 := by kernel_rfl
    rw [h]
    have e := congrArg (fun g => laws_eqFracS_t4 n g v5 v1 v0) (funext fun v5 => funext fun v1 => funext fun v0 => laws_eqFracS_l4_eq n k v5 v1 v0)
    exact e

theorem laws_eqFracS_eq (n : Nat) (a0 : List ((Int) × (Int))) (a1 : List ((Int) × (Int))) : runBody ([laws_eqFracF n]) ty 27 n laws_eqFracSkp laws_eqFracSc Go.Proofs.Try.f44.results.toList laws_eqFracSrs laws_eqFracSsp laws_eqFracSbs (a0, (a1, ())) () = laws_eqFracS n a0 a1 := by
  have h : runBody ([laws_eqFracF n]) ty 27 n laws_eqFracSkp laws_eqFracSc Go.Proofs.Try.f44.results.toList laws_eqFracSrs laws_eqFracSsp laws_eqFracSbs (a0, (a1, ())) () = laws_eqFracS_t n (fun k v5 v1 v0 => iter (interp ([laws_eqFracF n]) ty 27 0 n laws_eqFracSkp (codeAt laws_eqFracSc [1, 1, 0, 1, 0, 0])) (canon 0 (laws_eqFracSkp.loop 4)) (kAt ([laws_eqFracF n]) ty 27 0 n laws_eqFracSkp laws_eqFracSc [1, 1, 0, 1, 0] [] (ending ty 0 Go.Proofs.Try.f44.results.toList laws_eqFracSrs laws_eqFracSbs)) k { env := [(5, .one (.sc (.int .i64 v5))), (1, .one (.list true (.pair (.int .i64) (.int .i64)) v1)), (0, .one (.list true (.pair (.int .i64) (.int .i64)) v0))], bx := [], nx := 0 }) a0 a1 := by kernel_rfl
  rw [h]
  have e := congrArg (fun h4 => laws_eqFracS_t n h4 a0 a1) (funext fun k => funext fun v5 => funext fun v1 => funext fun v0 => laws_eqFracS_l4_eq n k v5 v1 v0)
  exact e

theorem laws_eqFracS_ok (n : Nat) : FunOk P (laws_eqFracSF n) :=
  funOk_mk (C := [laws_eqFracF n]) (N := 27) (kp := laws_eqFracSkp) (c := laws_eqFracSc) (n := n) (G := fun x y => laws_eqFracS n x.1 x.2.1) follows (AllOk.mem (⟨laws_eqFrac_ok n, trivial⟩ : AllOk P ([laws_eqFracF n]))) (by kernel_rfl : P.funcs[44]? = some Go.Proofs.Try.f44) (by kernel_rfl) (by kernel_rfl) (by kernel_rfl)
    (fun x y => laws_eqFracS_eq n x.1 x.2.1) (fun _ _ => map_same (fun _ => rfl) _) (fun _ _ _ _ => rfl)

abbrev laws_markFracSsp : List Sp := [.sl 0, .v false (.int .i64)]
abbrev laws_markFracSbs : List (Bs × Bool) := [(.row  (.pair (.int .i64) (.int .i64)), true)]
abbrev laws_markFracSrs : List (Bool × List Rp) := [(false, [.v false (.int .i64)])]
noncomputable def laws_markFracSkp : Keep := { loop := fun id => match id with | 2 => ([5, 0, 1], []) | _ => ([], []), join := fun id => match id with | _ => none }
noncomputable def laws_markFracSc : Code := bodyOf Go.Proofs.Try.f45
noncomputable def laws_markFracSF (n : Nat) : Fun := { id := 45, sp := laws_markFracSsp, bs := laws_markFracSbs, rs := laws_markFracSrs, f := fun x y => laws_markFracS n x.2.1 y.1 }

theorem laws_markFracS_l2_eq (n : Nat) : ∀ (k : Nat) (v5 : Int) (v1 : Int) (b0 : List ((Int) × (Int))), iter (interp ([]) ty 27 1 n laws_markFracSkp (codeAt laws_markFracSc [1, 0, 1, 0, 0])) (canon 1 (laws_markFracSkp.loop 2)) (kAt ([]) ty 27 1 n laws_markFracSkp laws_markFracSc [1, 0, 1, 0] [] (ending ty 1 Go.Proofs.Try.f45.results.toList laws_markFracSrs laws_markFracSbs)) k { env := [(5, .one (.sc (.int .i64 v5))), (0, .one (.slice 0 0 none)), (1, .one (.sc (.int .i64 v1)))], bx := [(0, .row 0 (.pair (.int .i64) (.int .i64)) b0)], nx := 1 } = laws_markFracS_l2 n k v5 v1 b0
  | 0, _, _, _ => by kernel_rfl
  | k + 1, v5, v1, b0 => by
    have h : iter (interp ([]) ty 27 1 n laws_markFracSkp (codeAt laws_markFracSc [1, 0, 1, 0, 0])) (canon 1 (laws_markFracSkp.loop 2)) (kAt ([]) ty 27 1 n laws_markFracSkp laws_markFracSc [1, 0, 1, 0] [] (ending ty 1 Go.Proofs.Try.f45.results.toList laws_markFracSrs laws_markFracSbs)) (k + 1) { env := [(5, .one (.sc (.int .i64 v5))), (0, .one (.slice 0 0 none)), (1, .one (.sc (.int .i64 v1)))], bx := [(0, .row 0 (.pair (.int .i64) (.int .i64)) b0)], nx := 1 } = laws_markFracS_t2 n (fun v5 v1 b0 => iter (interp ([]) ty 27 1 n laws_markFracSkp (codeAt laws_markFracSc [1, 0, 1, 0, 0])) (canon 1 (laws_markFracSkp.loop 2)) (kAt ([]) ty 27 1 n laws_markFracSkp laws_markFracSc [1, 0, 1, 0] [] (ending ty 1 Go.Proofs.Try.f45.results.toList laws_markFracSrs laws_markFracSbs)) k { env := [(5, .one (.sc (.int .i64 v5))), (0, .one (.slice 0 0 none)), (1, .one (.sc (.int .i64 v1)))], bx := [(0, .row 0 (.pair (.int .i64) (.int .i64)) b0)], nx := 1 }) v5 v1 b0 := by kernel_rfl
    rw [h]
    have e := congrArg (fun g => laws_markFracS_t2 n g v5 v1 b0) (funext fun v5 => funext fun v1 => funext fun b0 => laws_markFracS_l2_eq n k v5 v1 b0)
    exact e

theorem laws_markFracS_eq (n : Nat) (a1 : Int) (b0 : List ((Int) × (Int))) : runBody ([]) ty 27 n laws_markFracSkp laws_markFracSc Go.Proofs.Try.f45.results.toList laws_markFracSrs laws_markFracSsp laws_markFracSbs ((), (a1, ())) (b0, ()) = laws_markFracS n a1 b0 := by
  have h : runBody ([]) ty 27 n laws_markFracSkp laws_markFracSc Go.Proofs.Try.f45.results.toList laws_markFracSrs laws_markFracSsp laws_markFracSbs ((), (a1, ())) (b0, ()) = laws_markFracS_t n (fun k v5 v1 b0 => iter (interp ([]) ty 27 1 n laws_markFracSkp (codeAt laws_markFracSc [1, 0, 1, 0, 0])) (canon 1 (laws_markFracSkp.loop 2)) (kAt ([]) ty 27 1 n laws_markFracSkp laws_markFracSc [1, 0, 1, 0] [] (ending ty 1 Go.Proofs.Try.f45.results.toList laws_markFracSrs laws_markFracSbs)) k { env := [(5, .one (.sc (.int .i64 v5))), (0, .one (.slice 0 0 none)), (1, .one (.sc (.int .i64 v1)))], bx := [(0, .row 0 (.pair (.int .i64) (.int .i64)) b0)], nx := 1 }) a1 b0 := by kernel_rfl
  rw [h]
  have e := congrArg (fun h2 => laws_markFracS_t n h2 a1 b0) (funext fun k => funext fun v5 => funext fun v1 => funext fun b0 => laws_markFracS_l2_eq n k v5 v1 b0)
  exact e

theorem laws_markFracS_ok (n : Nat) : FunOk P (laws_markFracSF n) :=
  funOk_mk (C := []) (N := 27) (kp := laws_markFracSkp) (c := laws_markFracSc) (n := n) (G := fun x y => laws_markFracS n x.2.1 y.1) follows (AllOk.mem (trivial : AllOk P ([]))) (by kernel_rfl : P.funcs[45]? = some Go.Proofs.Try.f45) (by kernel_rfl) (by kernel_rfl) (by kernel_rfl)
    (fun x y => laws_markFracS_eq n x.2.1 y.1) (fun _ _ => map_same (fun _ => rfl) _) (fun _ _ _ _ => rfl)

abbrev laws_markObsSsp : List Sp := [.sl 0, .v false (.int .i64)]
abbrev laws_markObsSbs : List (Bs × Bool) := [(.row  (.pair (.pair (.int .i8) (.pair (.int .i8) (.pair (.int .i8) (.pair (.int .i8) (.pair (.int .i8) (.int .i8)))))) (.pair (.pair (.int .i64) (.int .i64)) (.int .i64))), true)]
abbrev laws_markObsSrs : List (Bool × List Rp) := [(false, [.v false (.int .i64)])]
noncomputable def laws_markObsSkp : Keep := { loop := fun id => match id with | 2 => ([1, 5, 0], []) | 5 => ([6, 1, 5, 0], []) | _ => ([], []), join := fun id => match id with | _ => none }
noncomputable def laws_markObsSc : Code := bodyOf Go.Proofs.Try.f101
noncomputable def laws_markObsSF (n : Nat) : Fun := { id := 101, sp := laws_markObsSsp, bs := laws_markObsSbs, rs := laws_markObsSrs, f := fun x y => laws_markObsS n x.2.1 y.1 }

theorem laws_markObsS_l5_eq (n : Nat) (G2 : St → Option ((((Int) × (Unit)) × (Unit)) × ((List (((Int) × ((Int) × ((Int) × ((Int) × ((Int) × (Int)))))) × (((Int) × (Int)) × (Int)))) × (Unit)))) : ∀ (k : Nat) (v6 : Int) (v1 : Int) (v5 : Int) (b0 : List (((Int) × ((Int) × ((Int) × ((Int) × ((Int) × (Int)))))) × (((Int) × (Int)) × (Int)))), iter (interp ([]) ty 51 1 n laws_markObsSkp (codeAt laws_markObsSc [1, 0, 1, 0, 0, 1, 0, 0, 0, 1, 0, 0])) (canon 1 (laws_markObsSkp.loop 5)) (kAt ([]) ty 51 1 n laws_markObsSkp laws_markObsSc [1, 0, 1, 0, 0, 1, 0, 0, 0, 1, 0] [G2] (ending ty 1 Go.Proofs.Try.f101.results.toList laws_markObsSrs laws_markObsSbs)) k { env := [(6, .one (.sc (.int .i64 v6))), (1, .one (.sc (.int .i64 v1))), (5, .one (.sc (.int .i64 v5))), (0, .one (.slice 0 0 none))], bx := [(0, .row 0 (.pair (.pair (.int .i8) (.pair (.int .i8) (.pair (.int .i8) (.pair (.int .i8) (.pair (.int .i8) (.int .i8)))))) (.pair (.pair (.int .i64) (.int .i64)) (.int .i64))) b0)], nx := 1 } = laws_markObsS_l5 n (fun v1 v5 b0 => G2 { env := [(1, .one (.sc (.int .i64 v1))), (5, .one (.sc (.int .i64 v5))), (0, .one (.slice 0 0 none))], bx := [(0, .row 0 (.pair (.pair (.int .i8) (.pair (.int .i8) (.pair (.int .i8) (.pair (.int .i8) (.pair (.int .i8) (.int .i8)))))) (.pair (.pair (.int .i64) (.int .i64)) (.int .i64))) b0)], nx := 1 }) k v6 v1 v5 b0
  | 0, _, _, _, _ => by kernel_rfl
  | k + 1, v6, v1, v5, b0 => by
    have h : iter (interp ([]) ty 51 1 n laws_markObsSkp (codeAt laws_markObsSc [1, 0, 1, 0, 0, 1, 0, 0, 0, 1, 0, 0])) (canon 1 (laws_markObsSkp.loop 5)) (kAt ([]) ty 51 1 n laws_markObsSkp laws_markObsSc [1, 0, 1, 0, 0, 1, 0, 0, 0, 1, 0] [G2] (ending ty 1 Go.Proofs.Try.f101.results.toList laws_markObsSrs laws_markObsSbs)) (k + 1) { env := [(6, .one (.sc (.int .i64 v6))), (1, .one (.sc (.int .i64 v1))), (5, .one (.sc (.int .i64 v5))), (0, .one (.slice 0 0 none))], bx := [(0, .row 0 (.pair (.pair (.int .i8) (.pair (.int .i8) (.pair (.int .i8) (.pair (.int .i8) (.pair (.int .i8) (.int .i8)))))) (.pair (.pair (.int .i64) (.int .i64)) (.int .i64))) b0)], nx := 1 } = laws_markObsS_t5 n (fun v1 v5 b0 => G2 { env := [(1, .one (.sc (.int .i64 v1))), (5, .one (.sc (.int .i64 v5))), (0, .one (.slice 0 0 none))], bx := [(0, .row 0 (.pair (.pair (.int .i8) (.pair (.int .i8) (.pair (.int .i8) (.pair (.int .i8) (.pair (.int .i8) (.int .i8)))))) (.pair (.pair (.int .i64) (.int .i64)) (.int .i64))) b0)], nx := 1 }) (fun v6 v1 v5 b0 => iter (interp ([]) ty 51 1 n laws_markObsSkp (codeAt laws_markObsSc [1, 0, 1, 0, 0, 1, 0, 0, 0, 1, 0, 0])) (canon 1 (laws_markObsSkp.loop 5)) (kAt ([]) ty 51 1 n laws_markObsSkp laws_markObsSc [1, 0, 1, 0, 0, 1, 0, 0, 0, 1, 0] [G2] (ending ty 1 Go.Proofs.Try.f101.results.toList laws_markObsSrs laws_markObsSbs)) k { env := [(6, .one (.sc (.int .i64 v6))), (1, .one (.sc (.int .i64 v1))), (5, .one (.sc (.int .i64 v5))), (0, .one (.slice 0 0 none))], bx := [(0, .row 0 (.pair (.pair (.int .i8) (.pair (.int .i8) (.pair (.int .i8) (.pair (.int .i8) (.pair (.int .i8) (.int .i8)))))) (.pair (.pair (.int .i64) (.int .i64)) (.int .i64))) b0)], nx := 1 }) v6 v1 v5 b0 := by kernel_rfl
    rw [h]
    have e := congrArg (fun g => laws_markObsS_t5 n (fun v1 v5 b0 => G2 { env := [(1, .one (.sc (.int .i64 v1))), (5, .one (.sc (.int .i64 v5))), (0, .one (.slice 0 0 none))], bx := [(0, .row 0 (.pair (.pair (.int .i8) (.pair (.int .i8) (.pair (.int .i8) (.pair (.int .i8) (.pair (.int .i8) (.int .i8)))))) (.pair (.pair (.int .i64) (.int .i64)) (.int .i64))) b0)], nx := 1 }) g v6 v1 v5 b0) (funext fun v6 => funext fun v1 => funext fun v5 => funext fun b0 => laws_markObsS_l5_eq n G2 k v6 v1 v5 b0)
    exact e

theorem laws_markObsS_l2_eq (n : Nat) : ∀ (k : Nat) (v1 : Int) (v5 : Int) (b0 : List (((Int) × ((Int) × ((Int) × ((Int) × ((Int) × (Int)))))) × (((Int) × (Int)) × (Int)))), iter (interp ([]) ty 51 1 n laws_markObsSkp (codeAt laws_markObsSc [1, 0, 1, 0, 0])) (canon 1 (laws_markObsSkp.loop 2)) (kAt ([]) ty 51 1 n laws_markObsSkp laws_markObsSc [1, 0, 1, 0] [] (ending ty 1 Go.Proofs.Try.f101.results.toList laws_markObsSrs laws_markObsSbs)) k { env := [(1, .one (.sc (.int .i64 v1))), (5, .one (.sc (.int .i64 v5))), (0, .one (.slice 0 0 none))], bx := [(0, .row 0 (.pair (.pair (.int .i8) (.pair (.int .i8) (.pair (.int .i8) (.pair (.int .i8) (.pair (.int .i8) (.int .i8)))))) (.pair (.pair (.int .i64) (.int .i64)) (.int .i64))) b0)], nx := 1 } = laws_markObsS_l2 n k v1 v5 b0
  | 0, _, _, _ => by kernel_rfl
  | k + 1, v1, v5, b0 => by
    have h : iter (interp ([]) ty 51 1 n laws_markObsSkp (codeAt laws_markObsSc [1, 0, 1, 0, 0])) (canon 1 (laws_markObsSkp.loop 2)) (kAt ([]) ty 51 1 n laws_markObsSkp laws_markObsSc [1, 0, 1, 0] [] (ending ty 1 Go.Proofs.Try.f101.results.toList laws_markObsSrs laws_markObsSbs)) (k + 1) { env := [(1, .one (.sc (.int .i64 v1))), (5, .one (.sc (.int .i64 v5))), (0, .one (.slice 0 0 none))], bx := [(0, .row 0 (.pair (.pair (.int .i8) (.pair (.int .i8) (.pair (.int .i8) (.pair (.int .i8) (.pair (.int .i8) (.int .i8)))))) (.pair (.pair (.int .i64) (.int .i64)) (.int .i64))) b0)], nx := 1 } = laws_markObsS_t2 n (fun k' v6 v1 v5 b0 => iter (interp ([]) ty 51 1 n laws_markObsSkp (codeAt laws_markObsSc [1, 0, 1, 0, 0, 1, 0, 0, 0, 1, 0, 0])) (canon 1 (laws_markObsSkp.loop 5)) (kAt ([]) ty 51 1 n laws_markObsSkp laws_markObsSc [1, 0, 1, 0, 0, 1, 0, 0, 0, 1, 0] [(fun s => iter (interp ([]) ty 51 1 n laws_markObsSkp (codeAt laws_markObsSc [1, 0, 1, 0, 0])) (canon 1 (laws_markObsSkp.loop 2)) (kAt ([]) ty 51 1 n laws_markObsSkp laws_markObsSc [1, 0, 1, 0] [] (ending ty 1 Go.Proofs.Try.f101.results.toList laws_markObsSrs laws_markObsSbs)) k s)] (ending ty 1 Go.Proofs.Try.f101.results.toList laws_markObsSrs laws_markObsSbs)) k' { env := [(6, .one (.sc (.int .i64 v6))), (1, .one (.sc (.int .i64 v1))), (5, .one (.sc (.int .i64 v5))), (0, .one (.slice 0 0 none))], bx := [(0, .row 0 (.pair (.pair (.int .i8) (.pair (.int .i8) (.pair (.int .i8) (.pair (.int .i8) (.pair (.int .i8) (.int .i8)))))) (.pair (.pair (.int .i64) (.int .i64)) (.int .i64))) b0)], nx := 1 }) (fun v1 v5 b0 => iter (interp ([]) ty 51 1 n laws_markObsSkp (codeAt laws_markObsSc [1, 0, 1, 0, 0])) (canon 1 (laws_markObsSkp.loop 2)) (kAt ([]) ty 51 1 n laws_markObsSkp laws_markObsSc [1, 0, 1, 0] [] (ending ty 1 Go.Proofs.Try.f101.results.toList laws_markObsSrs laws_markObsSbs)) k { env := [(1, .one (.sc (.int .i64 v1))), (5, .one (.sc (.int .i64 v5))), (0, .one (.slice 0 0 none))], bx := [(0, .row 0 (.pair (.pair (.int .i8) (.pair (.int .i8) (.pair (.int .i8) (.pair (.int .i8) (.pair (.int .i8) (.int .i8)))))) (.pair (.pair (.int .i64) (.int .i64)) (.int .i64))) b0)], nx := 1 }) v1 v5 b0 := by kernel_rfl
    rw [h]
    have e := congr (congrArg (fun h5 g => laws_markObsS_t2 n h5 g v1 v5 b0) ((funext fun k' => funext fun v6 => funext fun v1 => funext fun v5 => funext fun b0 => laws_markObsS_l5_eq n (fun s => iter (interp ([]) ty 51 1 n laws_markObsSkp (codeAt laws_markObsSc [1, 0, 1, 0, 0])) (canon 1 (laws_markObsSkp.loop 2)) (kAt ([]) ty 51 1 n laws_markObsSkp laws_markObsSc [1, 0, 1, 0] [] (ending ty 1 Go.Proofs.Try.f101.results.toList laws_markObsSrs laws_markObsSbs)) k s) k' v6 v1 v5 b0).trans (congrArg (fun z => laws_markObsS_l5 n z) (funext fun v1 => funext fun v5 => funext fun b0 => laws_markObsS_l2_eq n k v1 v5 b0)))) (funext fun v1 => funext fun v5 => funext fun b0 => laws_markObsS_l2_eq n k v1 v5 b0)
    exact e

theorem laws_markObsS_eq (n : Nat) (a1 : Int) (b0 : List (((Int) × ((Int) × ((Int) × ((Int) × ((Int) × (Int)))))) × (((Int) × (Int)) × (Int)))) : runBody ([]) ty 51 n laws_markObsSkp laws_markObsSc Go.Proofs.Try.f101.results.toList laws_markObsSrs laws_markObsSsp laws_markObsSbs ((), (a1, ())) (b0, ()) = laws_markObsS n a1 b0 := by
  have h : runBody ([]) ty 51 n laws_markObsSkp laws_markObsSc Go.Proofs.Try.f101.results.toList laws_markObsSrs laws_markObsSsp laws_markObsSbs ((), (a1, ())) (b0, ()) = laws_markObsS_t n (fun k v1 v5 b0 => iter (interp ([]) ty 51 1 n laws_markObsSkp (codeAt laws_markObsSc [1, 0, 1, 0, 0])) (canon 1 (laws_markObsSkp.loop 2)) (kAt ([]) ty 51 1 n laws_markObsSkp laws_markObsSc [1, 0, 1, 0] [] (ending ty 1 Go.Proofs.Try.f101.results.toList laws_markObsSrs laws_markObsSbs)) k { env := [(1, .one (.sc (.int .i64 v1))), (5, .one (.sc (.int .i64 v5))), (0, .one (.slice 0 0 none))], bx := [(0, .row 0 (.pair (.pair (.int .i8) (.pair (.int .i8) (.pair (.int .i8) (.pair (.int .i8) (.pair (.int .i8) (.int .i8)))))) (.pair (.pair (.int .i64) (.int .i64)) (.int .i64))) b0)], nx := 1 }) a1 b0 := by kernel_rfl
  rw [h]
  have e := congrArg (fun h2 => laws_markObsS_t n h2 a1 b0) (funext fun k => funext fun v1 => funext fun v5 => funext fun b0 => laws_markObsS_l2_eq n k v1 v5 b0)
  exact e

theorem laws_markObsS_ok (n : Nat) : FunOk P (laws_markObsSF n) :=
  funOk_mk (C := []) (N := 51) (kp := laws_markObsSkp) (c := laws_markObsSc) (n := n) (G := fun x y => laws_markObsS n x.2.1 y.1) follows (AllOk.mem (trivial : AllOk P ([]))) (by kernel_rfl : P.funcs[101]? = some Go.Proofs.Try.f101) (by kernel_rfl) (by kernel_rfl) (by kernel_rfl)
    (fun x y => laws_markObsS_eq n x.2.1 y.1) (fun _ _ => map_same (fun _ => rfl) _) (fun _ _ _ _ => rfl)

abbrev laws_markTablesp : List Sp := [.rc [.v (.int .i64), .sl 0, .v (.pair .bool (.pair (.int .i64) (.int .i64)))], .v false (.int .i64)]
abbrev laws_markTablebs : List (Bs × Bool) := [(.row (.pair (.pair (.int .i8) (.pair (.int .i8) (.pair (.int .i8) (.pair (.int .i8) (.pair (.int .i8) (.int .i8)))))) (.pair (.pair (.int .i64) (.int .i64)) (.int .i64))), true)]
abbrev laws_markTablers : List (Bool × List Rp) := [(false, [.v false (.int .i64)])]
noncomputable def laws_markTablekp : Keep := { loop := fun id => match id with | _ => ([], []), join := fun id => match id with | _ => none }
noncomputable def laws_markTablec : Code := bodyOf Go.Proofs.Try.f46
noncomputable def laws_markTableF (n : Nat) : Fun := { id := 46, sp := laws_markTablesp, bs := laws_markTablebs, rs := laws_markTablers, f := fun x y => laws_markTable n x.1 x.2.1 y.1 }

theorem laws_markTable_eq (n : Nat) (a0 : (Int) × (((Bool) × ((Int) × (Int))) × (Unit))) (a1 : Int) (b0 : List (((Int) × ((Int) × ((Int) × ((Int) × ((Int) × (Int)))))) × (((Int) × (Int)) × (Int)))) : runBody ([laws_markObsSF n]) ty 10 n laws_markTablekp laws_markTablec Go.Proofs.Try.f46.results.toList laws_markTablers laws_markTablesp laws_markTablebs (a0, (a1, ())) (b0, ()) = laws_markTable n a0 a1 b0 := by
  have h : runBody ([laws_markObsSF n]) ty 10 n laws_markTablekp laws_markTablec Go.Proofs.Try.f46.results.toList laws_markTablers laws_markTablesp laws_markTablebs (a0, (a1, ())) (b0, ()) = laws_markTable_t n a0 a1 b0 := by kernel_rfl
  rw [h]
  rfl

theorem laws_markTable_ok (n : Nat) : FunOk P (laws_markTableF n) :=
  funOk_mk (C := [laws_markObsSF n]) (N := 10) (kp := laws_markTablekp) (c := laws_markTablec) (n := n) (G := fun x y => laws_markTable n x.1 x.2.1 y.1) follows (AllOk.mem (⟨laws_markObsS_ok n, trivial⟩ : AllOk P ([laws_markObsSF n]))) (by kernel_rfl : P.funcs[46]? = some Go.Proofs.Try.f46) (by kernel_rfl) (by kernel_rfl) (by kernel_rfl)
    (fun x y => laws_markTable_eq n x.1 x.2.1 y.1) (fun _ _ => map_same (fun _ => rfl) _) (fun _ _ _ _ => rfl)

abbrev laws_heldObsSsp : List Sp := [.v false (.list (.pair (.pair (.int .i8) (.pair (.int .i8) (.pair (.int .i8) (.pair (.int .i8) (.pair (.int .i8) (.int .i8)))))) (.pair (.pair (.int .i64) (.int .i64)) (.int .i64)))), .v false (.int .i64)]
abbrev laws_heldObsSbs : List (Bs × Bool) := []
abbrev laws_heldObsSrs : List (Bool × List Rp) := [(false, [.v false (.int .i64)])]
noncomputable def laws_heldObsSkp : Keep := { loop := fun id => match id with | 2 => ([1, 5, 0], []) | 5 => ([6, 1, 5, 0], []) | _ => ([], []), join := fun id => match id with | _ => none }
noncomputable def laws_heldObsSc : Code := bodyOf Go.Proofs.Try.f102
noncomputable def laws_heldObsSF (n : Nat) : Fun := { id := 102, sp := laws_heldObsSsp, bs := laws_heldObsSbs, rs := laws_heldObsSrs, f := fun x y => laws_heldObsS n x.1 x.2.1 }

theorem laws_heldObsS_l5_eq (n : Nat) (G2 : St → Option ((((Int) × (Unit)) × (Unit)) × (Unit))) : ∀ (k : Nat) (v6 : Int) (v1 : Int) (v5 : Int) (v0 : List (((Int) × ((Int) × ((Int) × ((Int) × ((Int) × (Int)))))) × (((Int) × (Int)) × (Int)))), iter (interp ([]) ty 59 0 n laws_heldObsSkp (codeAt laws_heldObsSc [1, 0, 1, 0, 0, 1, 0, 0, 0, 1, 0, 0])) (canon 0 (laws_heldObsSkp.loop 5)) (kAt ([]) ty 59 0 n laws_heldObsSkp laws_heldObsSc [1, 0, 1, 0, 0, 1, 0, 0, 0, 1, 0] [G2] (ending ty 0 Go.Proofs.Try.f102.results.toList laws_heldObsSrs laws_heldObsSbs)) k { env := [(6, .one (.sc (.int .i64 v6))), (1, .one (.sc (.int .i64 v1))), (5, .one (.sc (.int .i64 v5))), (0, .one (.list true (.pair (.pair (.int .i8) (.pair (.int .i8) (.pair (.int .i8) (.pair (.int .i8) (.pair (.int .i8) (.int .i8)))))) (.pair (.pair (.int .i64) (.int .i64)) (.int .i64))) v0))], bx := [], nx := 0 } = laws_heldObsS_l5 n (fun v1 v5 v0 => G2 { env := [(1, .one (.sc (.int .i64 v1))), (5, .one (.sc (.int .i64 v5))), (0, .one (.list true (.pair (.pair (.int .i8) (.pair (.int .i8) (.pair (.int .i8) (.pair (.int .i8) (.pair (.int .i8) (.int .i8)))))) (.pair (.pair (.int .i64) (.int .i64)) (.int .i64))) v0))], bx := [], nx := 0 }) k v6 v1 v5 v0
  | 0, _, _, _, _ => by kernel_rfl
  | k + 1, v6, v1, v5, v0 => by
    have h : iter (interp ([]) ty 59 0 n laws_heldObsSkp (codeAt laws_heldObsSc [1, 0, 1, 0, 0, 1, 0, 0, 0, 1, 0, 0])) (canon 0 (laws_heldObsSkp.loop 5)) (kAt ([]) ty 59 0 n laws_heldObsSkp laws_heldObsSc [1, 0, 1, 0, 0, 1, 0, 0, 0, 1, 0] [G2] (ending ty 0 Go.Proofs.Try.f102.results.toList laws_heldObsSrs laws_heldObsSbs)) (k + 1) { env := [(6, .one (.sc (.int .i64 v6))), (1, .one (.sc (.int .i64 v1))), (5, .one (.sc (.int .i64 v5))), (0, .one (.list true (.pair (.pair (.int .i8) (.pair (.int .i8) (.pair (.int .i8) (.pair (.int .i8) (.pair (.int .i8) (.int .i8)))))) (.pair (.pair (.int .i64) (.int .i64)) (.int .i64))) v0))], bx := [], nx := 0 } = laws_heldObsS_t5 n (fun v1 v5 v0 => G2 { env := [(1, .one (.sc (.int .i64 v1))), (5, .one (.sc (.int .i64 v5))), (0, .one (.list true (.pair (.pair (.int .i8) (.pair (.int .i8) (.pair (.int .i8) (.pair (.int .i8) (.pair (.int .i8) (.int .i8)))))) (.pair (.pair (.int .i64) (.int .i64)) (.int .i64))) v0))], bx := [], nx := 0 }) (fun v6 v1 v5 v0 => iter (interp ([]) ty 59 0 n laws_heldObsSkp (codeAt laws_heldObsSc [1, 0, 1, 0, 0, 1, 0, 0, 0, 1, 0, 0])) (canon 0 (laws_heldObsSkp.loop 5)) (kAt ([]) ty 59 0 n laws_heldObsSkp laws_heldObsSc [1, 0, 1, 0, 0, 1, 0, 0, 0, 1, 0] [G2] (ending ty 0 Go.Proofs.Try.f102.results.toList laws_heldObsSrs laws_heldObsSbs)) k { env := [(6, .one (.sc (.int .i64 v6))), (1, .one (.sc (.int .i64 v1))), (5, .one (.sc (.int .i64 v5))), (0, .one (.list true (.pair (.pair (.int .i8) (.pair (.int .i8) (.pair (.int .i8) (.pair (.int .i8) (.pair (.int .i8) (.int .i8)))))) (.pair (.pair (.int .i64) (.int .i64)) (.int .i64))) v0))], bx := [], nx := 0 }) v6 v1 v5 v0 := by kernel_rfl
    rw [h]
    have e := congrArg (fun g => laws_heldObsS_t5 n (fun v1 v5 v0 => G2 { env := [(1, .one (.sc (.int .i64 v1))), (5, .one (.sc (.int .i64 v5))), (0, .one (.list true (.pair (.pair (.int .i8) (.pair (.int .i8) (.pair (.int .i8) (.pair (.int .i8) (.pair (.int .i8) (.int .i8)))))) (.pair (.pair (.int .i64) (.int .i64)) (.int .i64))) v0))], bx := [], nx := 0 }) g v6 v1 v5 v0) (funext fun v6 => funext fun v1 => funext fun v5 => funext fun v0 => laws_heldObsS_l5_eq n G2 k v6 v1 v5 v0)
    exact e

theorem laws_heldObsS_l2_eq (n : Nat) : ∀ (k : Nat) (v1 : Int) (v5 : Int) (v0 : List (((Int) × ((Int) × ((Int) × ((Int) × ((Int) × (Int)))))) × (((Int) × (Int)) × (Int)))), iter (interp ([]) ty 59 0 n laws_heldObsSkp (codeAt laws_heldObsSc [1, 0, 1, 0, 0])) (canon 0 (laws_heldObsSkp.loop 2)) (kAt ([]) ty 59 0 n laws_heldObsSkp laws_heldObsSc [1, 0, 1, 0] [] (ending ty 0 Go.Proofs.Try.f102.results.toList laws_heldObsSrs laws_heldObsSbs)) k { env := [(1, .one (.sc (.int .i64 v1))), (5, .one (.sc (.int .i64 v5))), (0, .one (.list true (.pair (.pair (.int .i8) (.pair (.int .i8) (.pair (.int .i8) (.pair (.int .i8) (.pair (.int .i8) (.int .i8)))))) (.pair (.pair (.int .i64) (.int .i64)) (.int .i64))) v0))], bx := [], nx := 0 } = laws_heldObsS_l2 n k v1 v5 v0
  | 0, _, _, _ => by kernel_rfl
  | k + 1, v1, v5, v0 => by
    have h : iter (interp ([]) ty 59 0 n laws_heldObsSkp (codeAt laws_heldObsSc [1, 0, 1, 0, 0])) (canon 0 (laws_heldObsSkp.loop 2)) (kAt ([]) ty 59 0 n laws_heldObsSkp laws_heldObsSc [1, 0, 1, 0] [] (ending ty 0 Go.Proofs.Try.f102.results.toList laws_heldObsSrs laws_heldObsSbs)) (k + 1) { env := [(1, .one (.sc (.int .i64 v1))), (5, .one (.sc (.int .i64 v5))), (0, .one (.list true (.pair (.pair (.int .i8) (.pair (.int .i8) (.pair (.int .i8) (.pair (.int .i8) (.pair (.int .i8) (.int .i8)))))) (.pair (.pair (.int .i64) (.int .i64)) (.int .i64))) v0))], bx := [], nx := 0 } = laws_heldObsS_t2 n (fun k' v6 v1 v5 v0 => iter (interp ([]) ty 59 0 n laws_heldObsSkp (codeAt laws_heldObsSc [1, 0, 1, 0, 0, 1, 0, 0, 0, 1, 0, 0])) (canon 0 (laws_heldObsSkp.loop 5)) (kAt ([]) ty 59 0 n laws_heldObsSkp laws_heldObsSc [1, 0, 1, 0, 0, 1, 0, 0, 0, 1, 0] [(fun s => iter (interp ([]) ty 59 0 n laws_heldObsSkp (codeAt laws_heldObsSc [1, 0, 1, 0, 0])) (canon 0 (laws_heldObsSkp.loop 2)) (kAt ([]) ty 59 0 n laws_heldObsSkp laws_heldObsSc [1, 0, 1, 0] [] (ending ty 0 Go.Proofs.Try.f102.results.toList laws_heldObsSrs laws_heldObsSbs)) k s)] (ending ty 0 Go.Proofs.Try.f102.results.toList laws_heldObsSrs laws_heldObsSbs)) k' { env := [(6, .one (.sc (.int .i64 v6))), (1, .one (.sc (.int .i64 v1))), (5, .one (.sc (.int .i64 v5))), (0, .one (.list true (.pair (.pair (.int .i8) (.pair (.int .i8) (.pair (.int .i8) (.pair (.int .i8) (.pair (.int .i8) (.int .i8)))))) (.pair (.pair (.int .i64) (.int .i64)) (.int .i64))) v0))], bx := [], nx := 0 }) (fun v1 v5 v0 => iter (interp ([]) ty 59 0 n laws_heldObsSkp (codeAt laws_heldObsSc [1, 0, 1, 0, 0])) (canon 0 (laws_heldObsSkp.loop 2)) (kAt ([]) ty 59 0 n laws_heldObsSkp laws_heldObsSc [1, 0, 1, 0] [] (ending ty 0 Go.Proofs.Try.f102.results.toList laws_heldObsSrs laws_heldObsSbs)) k { env := [(1, .one (.sc (.int .i64 v1))), (5, .one (.sc (.int .i64 v5))), (0, .one (.list true (.pair (.pair (.int .i8) (.pair (.int .i8) (.pair (.int .i8) (.pair (.int .i8) (.pair (.int .i8) (.int .i8)))))) (.pair (.pair (.int .i64) (.int .i64)) (.int .i64))) v0))], bx := [], nx := 0 }) v1 v5 v0 := by kernel_rfl
    rw [h]
    have e := congr (congrArg (fun h5 g => laws_heldObsS_t2 n h5 g v1 v5 v0) ((funext fun k' => funext fun v6 => funext fun v1 => funext fun v5 => funext fun v0 => laws_heldObsS_l5_eq n (fun s => iter (interp ([]) ty 59 0 n laws_heldObsSkp (codeAt laws_heldObsSc [1, 0, 1, 0, 0])) (canon 0 (laws_heldObsSkp.loop 2)) (kAt ([]) ty 59 0 n laws_heldObsSkp laws_heldObsSc [1, 0, 1, 0] [] (ending ty 0 Go.Proofs.Try.f102.results.toList laws_heldObsSrs laws_heldObsSbs)) k s) k' v6 v1 v5 v0).trans (congrArg (fun z => laws_heldObsS_l5 n z) (funext fun v1 => funext fun v5 => funext fun v0 => laws_heldObsS_l2_eq n k v1 v5 v0)))) (funext fun v1 => funext fun v5 => funext fun v0 => laws_heldObsS_l2_eq n k v1 v5 v0)
    exact e

theorem laws_heldObsS_eq (n : Nat) (a0 : List (((Int) × ((Int) × ((Int) × ((Int) × ((Int) × (Int)))))) × (((Int) × (Int)) × (Int)))) (a1 : Int) : runBody ([]) ty 59 n laws_heldObsSkp laws_heldObsSc Go.Proofs.Try.f102.results.toList laws_heldObsSrs laws_heldObsSsp laws_heldObsSbs (a0, (a1, ())) () = laws_heldObsS n a0 a1 := by
  have h : runBody ([]) ty 59 n laws_heldObsSkp laws_heldObsSc Go.Proofs.Try.f102.results.toList laws_heldObsSrs laws_heldObsSsp laws_heldObsSbs (a0, (a1, ())) () = laws_heldObsS_t n (fun k v1 v5 v0 => iter (interp ([]) ty 59 0 n laws_heldObsSkp (codeAt laws_heldObsSc [1, 0, 1, 0, 0])) (canon 0 (laws_heldObsSkp.loop 2)) (kAt ([]) ty 59 0 n laws_heldObsSkp laws_heldObsSc [1, 0, 1, 0] [] (ending ty 0 Go.Proofs.Try.f102.results.toList laws_heldObsSrs laws_heldObsSbs)) k { env := [(1, .one (.sc (.int .i64 v1))), (5, .one (.sc (.int .i64 v5))), (0, .one (.list true (.pair (.pair (.int .i8) (.pair (.int .i8) (.pair (.int .i8) (.pair (.int .i8) (.pair (.int .i8) (.int .i8)))))) (.pair (.pair (.int .i64) (.int .i64)) (.int .i64))) v0))], bx := [], nx := 0 }) a0 a1 := by kernel_rfl
  rw [h]
  have e := congrArg (fun h2 => laws_heldObsS_t n h2 a0 a1) (funext fun k => funext fun v1 => funext fun v5 => funext fun v0 => laws_heldObsS_l2_eq n k v1 v5 v0)
  exact e

theorem laws_heldObsS_ok (n : Nat) : FunOk P (laws_heldObsSF n) :=
  funOk_mk (C := []) (N := 59) (kp := laws_heldObsSkp) (c := laws_heldObsSc) (n := n) (G := fun x y => laws_heldObsS n x.1 x.2.1) follows (AllOk.mem (trivial : AllOk P ([]))) (by kernel_rfl : P.funcs[102]? = some Go.Proofs.Try.f102) (by kernel_rfl) (by kernel_rfl) (by kernel_rfl)
    (fun x y => laws_heldObsS_eq n x.1 x.2.1) (fun _ _ => map_same (fun _ => rfl) _) (fun _ _ _ _ => rfl)

abbrev laws_heldTablesp : List Sp := [.v true (.pair (.int .i64) (.pair (.list (.pair (.pair (.int .i8) (.pair (.int .i8) (.pair (.int .i8) (.pair (.int .i8) (.pair (.int .i8) (.int .i8)))))) (.pair (.pair (.int .i64) (.int .i64)) (.int .i64)))) (.pair .bool (.pair (.int .i64) (.int .i64))))), .v false (.int .i64)]
abbrev laws_heldTablebs : List (Bs × Bool) := []
abbrev laws_heldTablers : List (Bool × List Rp) := [(false, [.v false (.int .i64)])]
noncomputable def laws_heldTablekp : Keep := { loop := fun id => match id with | _ => ([], []), join := fun id => match id with | _ => none }
noncomputable def laws_heldTablec : Code := bodyOf Go.Proofs.Try.f47
noncomputable def laws_heldTableF (n : Nat) : Fun := { id := 47, sp := laws_heldTablesp, bs := laws_heldTablebs, rs := laws_heldTablers, f := fun x y => laws_heldTable n x.1 x.2.1 }

theorem laws_heldTable_eq (n : Nat) (a0 : (Int) × ((List (((Int) × ((Int) × ((Int) × ((Int) × ((Int) × (Int)))))) × (((Int) × (Int)) × (Int)))) × ((Bool) × ((Int) × (Int))))) (a1 : Int) : runBody ([laws_heldObsSF n]) ty 12 n laws_heldTablekp laws_heldTablec Go.Proofs.Try.f47.results.toList laws_heldTablers laws_heldTablesp laws_heldTablebs (a0, (a1, ())) () = laws_heldTable n a0 a1 := by
  have h : runBody ([laws_heldObsSF n]) ty 12 n laws_heldTablekp laws_heldTablec Go.Proofs.Try.f47.results.toList laws_heldTablers laws_heldTablesp laws_heldTablebs (a0, (a1, ())) () = laws_heldTable_t n a0 a1 := by kernel_rfl
  rw [h]
  rfl

theorem laws_heldTable_ok (n : Nat) : FunOk P (laws_heldTableF n) :=
  funOk_mk (C := [laws_heldObsSF n]) (N := 12) (kp := laws_heldTablekp) (c := laws_heldTablec) (n := n) (G := fun x y => laws_heldTable n x.1 x.2.1) follows (AllOk.mem (⟨laws_heldObsS_ok n, trivial⟩ : AllOk P ([laws_heldObsSF n]))) (by kernel_rfl : P.funcs[47]? = some Go.Proofs.Try.f47) (by kernel_rfl) (by kernel_rfl) (by kernel_rfl)
    (fun x y => laws_heldTable_eq n x.1 x.2.1) (fun _ _ => map_same (fun _ => rfl) _) (fun _ _ _ _ => rfl)

abbrev laws_FnExactRingTablesp : List Sp := [.v false (.list (.pair (.int .i64) (.int .i64))), .v true (.pair (.int .i64) (.int .i64))]
abbrev laws_FnExactRingTablebs : List (Bs × Bool) := []
abbrev laws_FnExactRingTablers : List (Bool × List Rp) := [(false, [.v false .bool])]
noncomputable def laws_FnExactRingTablekp : Keep := { loop := fun id => match id with | _ => ([], []), join := fun id => match id with | _ => none }
noncomputable def laws_FnExactRingTablec : Code := bodyOf Go.Proofs.Try.f9
noncomputable def laws_FnExactRingTableF (n : Nat) : Fun := { id := 9, sp := laws_FnExactRingTablesp, bs := laws_FnExactRingTablebs, rs := laws_FnExactRingTablers, f := fun x y => laws_FnExactRingTable n x.1 x.2.1 }

theorem laws_FnExactRingTable_eq (n : Nat) (a0 : List ((Int) × (Int))) (a1 : (Int) × (Int)) : runBody ([laws_szFracSF n, laws_toFracSF n, laws_toFracF n, spec_RingTableF n, impl_RingTableF n, laws_eqTableF n, laws_eqFracSF n, laws_markFracSF n, laws_markTableF n, laws_heldTableF n]) ty 104 n laws_FnExactRingTablekp laws_FnExactRingTablec Go.Proofs.Try.f9.results.toList laws_FnExactRingTablers laws_FnExactRingTablesp laws_FnExactRingTablebs (a0, (a1, ())) () = laws_FnExactRingTable n a0 a1 := by
  have h : runBody ([laws_szFracSF n, laws_toFracSF n, laws_toFracF n, spec_RingTableF n, impl_RingTableF n, laws_eqTableF n, laws_eqFracSF n, laws_markFracSF n, laws_markTableF n, laws_heldTableF n]) ty 104 n laws_FnExactRingTablekp laws_FnExactRingTablec Go.Proofs.Try.f9.results.toList laws_FnExactRingTablers laws_FnExactRingTablesp laws_FnExactRingTablebs (a0, (a1, ())) () = laws_FnExactRingTable_t n a0 a1 := by kernel_rfl
  rw [h]
  rfl

theorem laws_FnExactRingTable_ok (n : Nat) : FunOk P (laws_FnExactRingTableF n) :=
  funOk_mk (C := [laws_szFracSF n, laws_toFracSF n, laws_toFracF n, spec_RingTableF n, impl_RingTableF n, laws_eqTableF n, laws_eqFracSF n, laws_markFracSF n, laws_markTableF n, laws_heldTableF n]) (N := 104) (kp := laws_FnExactRingTablekp) (c := laws_FnExactRingTablec) (n := n) (G := fun x y => laws_FnExactRingTable n x.1 x.2.1) follows (AllOk.mem (⟨laws_szFracS_ok n, ⟨laws_toFracS_ok n, ⟨laws_toFrac_ok n, ⟨spec_RingTable_ok n, ⟨impl_RingTable_ok n, ⟨laws_eqTable_ok n, ⟨laws_eqFracS_ok n, ⟨laws_markFracS_ok n, ⟨laws_markTable_ok n, ⟨laws_heldTable_ok n, trivial⟩⟩⟩⟩⟩⟩⟩⟩⟩⟩ : AllOk P ([laws_szFracSF n, laws_toFracSF n, laws_toFracF n, spec_RingTableF n, impl_RingTableF n, laws_eqTableF n, laws_eqFracSF n, laws_markFracSF n, laws_markTableF n, laws_heldTableF n]))) (by kernel_rfl : P.funcs[9]? = some Go.Proofs.Try.f9) (by kernel_rfl) (by kernel_rfl) (by kernel_rfl)
    (fun x y => laws_FnExactRingTable_eq n x.1 x.2.1) (fun _ _ => map_same (fun _ => rfl) _) (fun _ _ _ _ => rfl)

end Go.Abs
