import Derived.Test.YtipjecagbndhbaaDPVerniers0
import Derived.Test.YtipjecagbndhbaaProg
import Derived.Test.YtipjecagbndhbaaRow
import Derived.KernelRfl
namespace Go.Abs
open Go.Proofs
set_option maxRecDepth 100000
set_option linter.unusedVariables false

noncomputable abbrev P : Program := Try.prog
noncomputable abbrev ty : Nat → Option TyI := tyOf P
def bodyOf (f : Func) : Code := match f.body with | some c => c | none => .skip
theorem follows : P.follows .mixedOrders = true := by kernel_rfl

abbrev laws_f6bigsp : List Sp := [.v false (.list (.int .u8))]
abbrev laws_f6bigbs : List (Bs × Bool) := []
abbrev laws_f6bigrs : List (Bool × List Rp) := [(false, [.v false .bool])]
noncomputable def laws_f6bigkp : Keep := { loop := fun id => match id with | _ => ([], []), join := fun id => match id with | _ => none }
noncomputable def laws_f6bigc : Code := bodyOf Go.Proofs.Try.f14
noncomputable def laws_f6bigF (n : Nat) : Fun := { id := 14, sp := laws_f6bigsp, bs := laws_f6bigbs, rs := laws_f6bigrs, f := fun x y => laws_f6big n x.1 }

theorem laws_f6big_eq (n : Nat) (a0 : List (Int)) : runBody ([]) ty 6 n laws_f6bigkp laws_f6bigc Go.Proofs.Try.f14.results.toList laws_f6bigrs laws_f6bigsp laws_f6bigbs (a0, ()) () = laws_f6big n a0 := by
  have h : runBody ([]) ty 6 n laws_f6bigkp laws_f6bigc Go.Proofs.Try.f14.results.toList laws_f6bigrs laws_f6bigsp laws_f6bigbs (a0, ()) () = laws_f6big_t n a0 := by kernel_rfl
  rw [h]
  rfl

theorem laws_f6big_ok (n : Nat) : FunOk P (laws_f6bigF n) :=
  funOk_mk (C := []) (N := 6) (kp := laws_f6bigkp) (c := laws_f6bigc) (n := n) (G := fun x y => laws_f6big n x.1) follows (AllOk.mem (trivial : AllOk P ([]))) (by kernel_rfl : P.funcs[14]? = some Go.Proofs.Try.f14) (by kernel_rfl) (by kernel_rfl) (by kernel_rfl)
    (fun x y => laws_f6big_eq n x.1) (fun _ _ => map_same (fun _ => rfl) _) (fun _ _ _ _ => rfl)

abbrev spec_l00Fromsp : List Sp := [.v false (.list (.int .u8))]
abbrev spec_l00Frombs : List (Bs × Bool) := []
abbrev spec_l00Fromrs : List (Bool × List Rp) := [(false, [.nvar 226 (.pair (.list (.int .u8)) (.pair (.int .i64) (.int .u64)))])]
noncomputable def spec_l00Fromkp : Keep := { loop := fun id => match id with | _ => ([], []), join := fun id => match id with | _ => none }
noncomputable def spec_l00Fromc : Code := bodyOf Go.Proofs.Try.f115
noncomputable def spec_l00FromF (n : Nat) : Fun := { id := 115, sp := spec_l00Fromsp, bs := spec_l00Frombs, rs := spec_l00Fromrs, f := fun x y => spec_l00From n x.1 }

theorem spec_l00From_eq (n : Nat) (a0 : List (Int)) : runBody ([]) ty 6 n spec_l00Fromkp spec_l00Fromc Go.Proofs.Try.f115.results.toList spec_l00Fromrs spec_l00Fromsp spec_l00Frombs (a0, ()) () = spec_l00From n a0 := by
  have h : runBody ([]) ty 6 n spec_l00Fromkp spec_l00Fromc Go.Proofs.Try.f115.results.toList spec_l00Fromrs spec_l00Fromsp spec_l00Frombs (a0, ()) () = spec_l00From_t n a0 := by kernel_rfl
  rw [h]
  rfl

theorem spec_l00From_ok (n : Nat) : FunOk P (spec_l00FromF n) :=
  funOk_mk (C := []) (N := 6) (kp := spec_l00Fromkp) (c := spec_l00Fromc) (n := n) (G := fun x y => spec_l00From n x.1) follows (AllOk.mem (trivial : AllOk P ([]))) (by kernel_rfl : P.funcs[115]? = some Go.Proofs.Try.f115) (by kernel_rfl) (by kernel_rfl) (by kernel_rfl)
    (fun x y => spec_l00From_eq n x.1) (fun _ _ => map_same (fun _ => rfl) _) (fun _ _ _ _ => rfl)

abbrev spec_l00Src_nextsp : List Sp := [.ref 0]
abbrev spec_l00Src_nextbs : List (Bs × Bool) := [(.var 226 (.pair (.list (.int .u8)) (.pair (.int .i64) (.int .u64))), true)]
abbrev spec_l00Src_nextrs : List (Bool × List Rp) := [(false, [.v false (.int .i64)])]
noncomputable def spec_l00Src_nextkp : Keep := { loop := fun id => match id with | _ => ([], []), join := fun id => match id with | _ => none }
noncomputable def spec_l00Src_nextc : Code := bodyOf Go.Proofs.Try.f238
noncomputable def spec_l00Src_nextF (n : Nat) : Fun := { id := 238, sp := spec_l00Src_nextsp, bs := spec_l00Src_nextbs, rs := spec_l00Src_nextrs, f := fun x y => spec_l00Src_next n y.1 }

theorem spec_l00Src_next_eq (n : Nat) (b0 : (List (Int)) × ((Int) × (Int))) : runBody ([]) ty 62 n spec_l00Src_nextkp spec_l00Src_nextc Go.Proofs.Try.f238.results.toList spec_l00Src_nextrs spec_l00Src_nextsp spec_l00Src_nextbs ((), ()) (b0, ()) = spec_l00Src_next n b0 := by
  have h : runBody ([]) ty 62 n spec_l00Src_nextkp spec_l00Src_nextc Go.Proofs.Try.f238.results.toList spec_l00Src_nextrs spec_l00Src_nextsp spec_l00Src_nextbs ((), ()) (b0, ()) = spec_l00Src_next_t n b0 := by kernel_rfl
  rw [h]
  rfl

theorem spec_l00Src_next_ok (n : Nat) : FunOk P (spec_l00Src_nextF n) :=
  funOk_mk (C := []) (N := 62) (kp := spec_l00Src_nextkp) (c := spec_l00Src_nextc) (n := n) (G := fun x y => spec_l00Src_next n y.1) follows (AllOk.mem (trivial : AllOk P ([]))) (by kernel_rfl : P.funcs[238]? = some Go.Proofs.Try.f238) (by kernel_rfl) (by kernel_rfl) (by kernel_rfl)
    (fun x y => spec_l00Src_next_eq n y.1) (fun _ _ => map_same (fun _ => rfl) _) (fun _ _ _ _ => rfl)

abbrev spec_l00Src_picksp : List Sp := [.ref 0, .v false (.int .i64)]
abbrev spec_l00Src_pickbs : List (Bs × Bool) := [(.var 226 (.pair (.list (.int .u8)) (.pair (.int .i64) (.int .u64))), true)]
abbrev spec_l00Src_pickrs : List (Bool × List Rp) := [(false, [.v false (.int .i64)])]
noncomputable def spec_l00Src_pickkp : Keep := { loop := fun id => match id with | _ => ([], []), join := fun id => match id with | _ => none }
noncomputable def spec_l00Src_pickc : Code := bodyOf Go.Proofs.Try.f146
noncomputable def spec_l00Src_pickF (n : Nat) : Fun := { id := 146, sp := spec_l00Src_picksp, bs := spec_l00Src_pickbs, rs := spec_l00Src_pickrs, f := fun x y => spec_l00Src_pick n x.2.1 y.1 }

theorem spec_l00Src_pick_eq (n : Nat) (a1 : Int) (b0 : (List (Int)) × ((Int) × (Int))) : runBody ([spec_l00Src_nextF n]) ty 20 n spec_l00Src_pickkp spec_l00Src_pickc Go.Proofs.Try.f146.results.toList spec_l00Src_pickrs spec_l00Src_picksp spec_l00Src_pickbs ((), (a1, ())) (b0, ()) = spec_l00Src_pick n a1 b0 := by
  have h : runBody ([spec_l00Src_nextF n]) ty 20 n spec_l00Src_pickkp spec_l00Src_pickc Go.Proofs.Try.f146.results.toList spec_l00Src_pickrs spec_l00Src_picksp spec_l00Src_pickbs ((), (a1, ())) (b0, ()) = spec_l00Src_pick_t n a1 b0 := by kernel_rfl
  rw [h]
  rfl

theorem spec_l00Src_pick_ok (n : Nat) : FunOk P (spec_l00Src_pickF n) :=
  funOk_mk (C := [spec_l00Src_nextF n]) (N := 20) (kp := spec_l00Src_pickkp) (c := spec_l00Src_pickc) (n := n) (G := fun x y => spec_l00Src_pick n x.2.1 y.1) follows (AllOk.mem (⟨spec_l00Src_next_ok n, trivial⟩ : AllOk P ([spec_l00Src_nextF n]))) (by kernel_rfl : P.funcs[146]? = some Go.Proofs.Try.f146) (by kernel_rfl) (by kernel_rfl) (by kernel_rfl)
    (fun x y => spec_l00Src_pick_eq n x.2.1 y.1) (fun _ _ => map_same (fun _ => rfl) _) (fun _ _ _ _ => rfl)

abbrev spec_l01Abssp : List Sp := [.v false (.int .i64)]
abbrev spec_l01Absbs : List (Bs × Bool) := []
abbrev spec_l01Absrs : List (Bool × List Rp) := [(false, [.v false (.int .i64)])]
noncomputable def spec_l01Abskp : Keep := { loop := fun id => match id with | _ => ([], []), join := fun id => match id with | _ => none }
noncomputable def spec_l01Absc : Code := bodyOf Go.Proofs.Try.f180
noncomputable def spec_l01AbsF (n : Nat) : Fun := { id := 180, sp := spec_l01Abssp, bs := spec_l01Absbs, rs := spec_l01Absrs, f := fun x y => spec_l01Abs n x.1 }

theorem spec_l01Abs_eq (n : Nat) (a0 : Int) : runBody ([]) ty 8 n spec_l01Abskp spec_l01Absc Go.Proofs.Try.f180.results.toList spec_l01Absrs spec_l01Abssp spec_l01Absbs (a0, ()) () = spec_l01Abs n a0 := by
  have h : runBody ([]) ty 8 n spec_l01Abskp spec_l01Absc Go.Proofs.Try.f180.results.toList spec_l01Absrs spec_l01Abssp spec_l01Absbs (a0, ()) () = spec_l01Abs_t n a0 := by kernel_rfl
  rw [h]
  rfl

theorem spec_l01Abs_ok (n : Nat) : FunOk P (spec_l01AbsF n) :=
  funOk_mk (C := []) (N := 8) (kp := spec_l01Abskp) (c := spec_l01Absc) (n := n) (G := fun x y => spec_l01Abs n x.1) follows (AllOk.mem (trivial : AllOk P ([]))) (by kernel_rfl : P.funcs[180]? = some Go.Proofs.Try.f180) (by kernel_rfl) (by kernel_rfl) (by kernel_rfl)
    (fun x y => spec_l01Abs_eq n x.1) (fun _ _ => map_same (fun _ => rfl) _) (fun _ _ _ _ => rfl)

abbrev spec_l01Gcdsp : List Sp := [.v false (.int .i64), .v false (.int .i64)]
abbrev spec_l01Gcdbs : List (Bs × Bool) := []
abbrev spec_l01Gcdrs : List (Bool × List Rp) := [(false, [.v false (.int .i64)])]
noncomputable def spec_l01Gcdkp : Keep := { loop := fun id => match id with | 1 => ([1, 0], []) | _ => ([], []), join := fun id => match id with | _ => none }
noncomputable def spec_l01Gcdc : Code := bodyOf Go.Proofs.Try.f241
noncomputable def spec_l01GcdF (n : Nat) : Fun := { id := 241, sp := spec_l01Gcdsp, bs := spec_l01Gcdbs, rs := spec_l01Gcdrs, f := fun x y => spec_l01Gcd n x.1 x.2.1 }

theorem spec_l01Gcd_l1_eq (n : Nat) : ∀ (k : Nat) (v1 : Int) (v0 : Int), iter (interp ([]) ty 14 0 n spec_l01Gcdkp (codeAt spec_l01Gcdc [1, 0, 0, 0])) (canon 0 (spec_l01Gcdkp.loop 1)) (kAt ([]) ty 14 0 n spec_l01Gcdkp spec_l01Gcdc [1, 0, 0] [] (ending ty 0 Go.Proofs.Try.f241.results.toList spec_l01Gcdrs spec_l01Gcdbs)) k { env := [(1, .one (.sc (.int .i64 v1))), (0, .one (.sc (.int .i64 v0)))], bx := [], nx := 0 } = spec_l01Gcd_l1 n k v1 v0
  | 0, _, _ => by kernel_rfl
  | k + 1, v1, v0 => by
    have h : iter (interp ([]) ty 14 0 n spec_l01Gcdkp (codeAt spec_l01Gcdc [1, 0, 0, 0])) (canon 0 (spec_l01Gcdkp.loop 1)) (kAt ([]) ty 14 0 n spec_l01Gcdkp spec_l01Gcdc [1, 0, 0] [] (ending ty 0 Go.Proofs.Try.f241.results.toList spec_l01Gcdrs spec_l01Gcdbs)) (k + 1) { env := [(1, .one (.sc (.int .i64 v1))), (0, .one (.sc (.int .i64 v0)))], bx := [], nx := 0 } = spec_l01Gcd_t1 n (fun v1 v0 => iter (interp ([]) ty 14 0 n spec_l01Gcdkp (codeAt spec_l01Gcdc [1, 0, 0, 0])) (canon 0 (spec_l01Gcdkp.loop 1)) (kAt ([]) ty 14 0 n spec_l01Gcdkp spec_l01Gcdc [1, 0, 0] [] (ending ty 0 Go.Proofs.Try.f241.results.toList spec_l01Gcdrs spec_l01Gcdbs)) k { env := [(1, .one (.sc (.int .i64 v1))), (0, .one (.sc (.int .i64 v0)))], bx := [], nx := 0 }) v1 v0 := by kernel_rfl
    rw [h]
    have e := congrArg (fun g => spec_l01Gcd_t1 n g v1 v0) (funext fun v1 => funext fun v0 => spec_l01Gcd_l1_eq n k v1 v0)
    exact e

theorem spec_l01Gcd_eq (n : Nat) (a0 : Int) (a1 : Int) : runBody ([]) ty 14 n spec_l01Gcdkp spec_l01Gcdc Go.Proofs.Try.f241.results.toList spec_l01Gcdrs spec_l01Gcdsp spec_l01Gcdbs (a0, (a1, ())) () = spec_l01Gcd n a0 a1 := by
  have h : runBody ([]) ty 14 n spec_l01Gcdkp spec_l01Gcdc Go.Proofs.Try.f241.results.toList spec_l01Gcdrs spec_l01Gcdsp spec_l01Gcdbs (a0, (a1, ())) () = spec_l01Gcd_t n (fun k v1 v0 => iter (interp ([]) ty 14 0 n spec_l01Gcdkp (codeAt spec_l01Gcdc [1, 0, 0, 0])) (canon 0 (spec_l01Gcdkp.loop 1)) (kAt ([]) ty 14 0 n spec_l01Gcdkp spec_l01Gcdc [1, 0, 0] [] (ending ty 0 Go.Proofs.Try.f241.results.toList spec_l01Gcdrs spec_l01Gcdbs)) k { env := [(1, .one (.sc (.int .i64 v1))), (0, .one (.sc (.int .i64 v0)))], bx := [], nx := 0 }) a0 a1 := by kernel_rfl
  rw [h]
  have e := congrArg (fun h1 => spec_l01Gcd_t n h1 a0 a1) (funext fun k => funext fun v1 => funext fun v0 => spec_l01Gcd_l1_eq n k v1 v0)
  exact e

theorem spec_l01Gcd_ok (n : Nat) : FunOk P (spec_l01GcdF n) :=
  funOk_mk (C := []) (N := 14) (kp := spec_l01Gcdkp) (c := spec_l01Gcdc) (n := n) (G := fun x y => spec_l01Gcd n x.1 x.2.1) follows (AllOk.mem (trivial : AllOk P ([]))) (by kernel_rfl : P.funcs[241]? = some Go.Proofs.Try.f241) (by kernel_rfl) (by kernel_rfl) (by kernel_rfl)
    (fun x y => spec_l01Gcd_eq n x.1 x.2.1) (fun _ _ => map_same (fun _ => rfl) _) (fun _ _ _ _ => rfl)

abbrev spec_l00Insp : List Sp := [.v false (.int .i64), .v false (.int .i64), .v false (.int .i64)]
abbrev spec_l00Inbs : List (Bs × Bool) := []
abbrev spec_l00Inrs : List (Bool × List Rp) := [(false, [.v false .bool])]
noncomputable def spec_l00Inkp : Keep := { loop := fun id => match id with | _ => ([], []), join := fun id => match id with | _ => none }
noncomputable def spec_l00Inc : Code := bodyOf Go.Proofs.Try.f128
noncomputable def spec_l00InF (n : Nat) : Fun := { id := 128, sp := spec_l00Insp, bs := spec_l00Inbs, rs := spec_l00Inrs, f := fun x y => spec_l00In n x.1 x.2.1 x.2.2.1 }

theorem spec_l00In_eq (n : Nat) (a0 : Int) (a1 : Int) (a2 : Int) : runBody ([]) ty 15 n spec_l00Inkp spec_l00Inc Go.Proofs.Try.f128.results.toList spec_l00Inrs spec_l00Insp spec_l00Inbs (a0, (a1, (a2, ()))) () = spec_l00In n a0 a1 a2 := by
  have h : runBody ([]) ty 15 n spec_l00Inkp spec_l00Inc Go.Proofs.Try.f128.results.toList spec_l00Inrs spec_l00Insp spec_l00Inbs (a0, (a1, (a2, ()))) () = spec_l00In_t n a0 a1 a2 := by kernel_rfl
  rw [h]
  rfl

theorem spec_l00In_ok (n : Nat) : FunOk P (spec_l00InF n) :=
  funOk_mk (C := []) (N := 15) (kp := spec_l00Inkp) (c := spec_l00Inc) (n := n) (G := fun x y => spec_l00In n x.1 x.2.1 x.2.2.1) follows (AllOk.mem (trivial : AllOk P ([]))) (by kernel_rfl : P.funcs[128]? = some Go.Proofs.Try.f128) (by kernel_rfl) (by kernel_rfl) (by kernel_rfl)
    (fun x y => spec_l00In_eq n x.1 x.2.1 x.2.2.1) (fun _ _ => map_same (fun _ => rfl) _) (fun _ _ _ _ => rfl)

abbrev spec_l01Oksp : List Sp := [.v true (.pair (.int .i64) (.int .i64))]
abbrev spec_l01Okbs : List (Bs × Bool) := []
abbrev spec_l01Okrs : List (Bool × List Rp) := [(false, [.v false .bool])]
noncomputable def spec_l01Okkp : Keep := { loop := fun id => match id with | _ => ([], []), join := fun id => match id with | _ => none }
noncomputable def spec_l01Okc : Code := bodyOf Go.Proofs.Try.f189
noncomputable def spec_l01OkF (n : Nat) : Fun := { id := 189, sp := spec_l01Oksp, bs := spec_l01Okbs, rs := spec_l01Okrs, f := fun x y => spec_l01Ok n x.1 }

theorem spec_l01Ok_eq (n : Nat) (a0 : (Int) × (Int)) : runBody ([spec_l00InF n, spec_l01AbsF n, spec_l01GcdF n]) ty 20 n spec_l01Okkp spec_l01Okc Go.Proofs.Try.f189.results.toList spec_l01Okrs spec_l01Oksp spec_l01Okbs (a0, ()) () = spec_l01Ok n a0 := by
  have h : runBody ([spec_l00InF n, spec_l01AbsF n, spec_l01GcdF n]) ty 20 n spec_l01Okkp spec_l01Okc Go.Proofs.Try.f189.results.toList spec_l01Okrs spec_l01Oksp spec_l01Okbs (a0, ()) () = spec_l01Ok_t n a0 := by kernel_rfl
  rw [h]
  rfl

theorem spec_l01Ok_ok (n : Nat) : FunOk P (spec_l01OkF n) :=
  funOk_mk (C := [spec_l00InF n, spec_l01AbsF n, spec_l01GcdF n]) (N := 20) (kp := spec_l01Okkp) (c := spec_l01Okc) (n := n) (G := fun x y => spec_l01Ok n x.1) follows (AllOk.mem (⟨spec_l00In_ok n, ⟨spec_l01Abs_ok n, ⟨spec_l01Gcd_ok n, trivial⟩⟩⟩ : AllOk P ([spec_l00InF n, spec_l01AbsF n, spec_l01GcdF n]))) (by kernel_rfl : P.funcs[189]? = some Go.Proofs.Try.f189) (by kernel_rfl) (by kernel_rfl) (by kernel_rfl)
    (fun x y => spec_l01Ok_eq n x.1) (fun _ _ => map_same (fun _ => rfl) _) (fun _ _ _ _ => rfl)

abbrev spec_l01Reducedsp : List Sp := [.v false (.int .i64), .v false (.int .i64)]
abbrev spec_l01Reducedbs : List (Bs × Bool) := []
abbrev spec_l01Reducedrs : List (Bool × List Rp) := [(true, [.v false (.pair (.int .i64) (.int .i64))]), (false, [.v false (.int .i64)])]
noncomputable def spec_l01Reducedkp : Keep := { loop := fun id => match id with | _ => ([], []), join := fun id => match id with | _ => none }
noncomputable def spec_l01Reducedc : Code := bodyOf Go.Proofs.Try.f169
noncomputable def spec_l01ReducedF (n : Nat) : Fun := { id := 169, sp := spec_l01Reducedsp, bs := spec_l01Reducedbs, rs := spec_l01Reducedrs, f := fun x y => spec_l01Reduced n x.1 x.2.1 }

theorem spec_l01Reduced_eq (n : Nat) (a0 : Int) (a1 : Int) : runBody ([spec_l01AbsF n, spec_l01GcdF n, spec_l01OkF n]) ty 33 n spec_l01Reducedkp spec_l01Reducedc Go.Proofs.Try.f169.results.toList spec_l01Reducedrs spec_l01Reducedsp spec_l01Reducedbs (a0, (a1, ())) () = spec_l01Reduced n a0 a1 := by
  have h : runBody ([spec_l01AbsF n, spec_l01GcdF n, spec_l01OkF n]) ty 33 n spec_l01Reducedkp spec_l01Reducedc Go.Proofs.Try.f169.results.toList spec_l01Reducedrs spec_l01Reducedsp spec_l01Reducedbs (a0, (a1, ())) () = spec_l01Reduced_t n a0 a1 := by kernel_rfl
  rw [h]
  rfl

theorem spec_l01Reduced_ok (n : Nat) : FunOk P (spec_l01ReducedF n) :=
  funOk_mk (C := [spec_l01AbsF n, spec_l01GcdF n, spec_l01OkF n]) (N := 33) (kp := spec_l01Reducedkp) (c := spec_l01Reducedc) (n := n) (G := fun x y => spec_l01Reduced n x.1 x.2.1) follows (AllOk.mem (⟨spec_l01Abs_ok n, ⟨spec_l01Gcd_ok n, ⟨spec_l01Ok_ok n, trivial⟩⟩⟩ : AllOk P ([spec_l01AbsF n, spec_l01GcdF n, spec_l01OkF n]))) (by kernel_rfl : P.funcs[169]? = some Go.Proofs.Try.f169) (by kernel_rfl) (by kernel_rfl) (by kernel_rfl)
    (fun x y => spec_l01Reduced_eq n x.1 x.2.1) (fun _ _ => map_same (fun _ => rfl) _) (fun _ _ _ _ => rfl)

abbrev spec_l00Src_onesp : List Sp := [.ref 0, .v false (.int .i64)]
abbrev spec_l00Src_onebs : List (Bs × Bool) := [(.var 226 (.pair (.list (.int .u8)) (.pair (.int .i64) (.int .u64))), true)]
abbrev spec_l00Src_oners : List (Bool × List Rp) := [(false, [.v false .bool])]
noncomputable def spec_l00Src_onekp : Keep := { loop := fun id => match id with | _ => ([], []), join := fun id => match id with | _ => none }
noncomputable def spec_l00Src_onec : Code := bodyOf Go.Proofs.Try.f200
noncomputable def spec_l00Src_oneF (n : Nat) : Fun := { id := 200, sp := spec_l00Src_onesp, bs := spec_l00Src_onebs, rs := spec_l00Src_oners, f := fun x y => spec_l00Src_one n x.2.1 y.1 }

theorem spec_l00Src_one_eq (n : Nat) (a1 : Int) (b0 : (List (Int)) × ((Int) × (Int))) : runBody ([spec_l00Src_pickF n]) ty 9 n spec_l00Src_onekp spec_l00Src_onec Go.Proofs.Try.f200.results.toList spec_l00Src_oners spec_l00Src_onesp spec_l00Src_onebs ((), (a1, ())) (b0, ()) = spec_l00Src_one n a1 b0 := by
  have h : runBody ([spec_l00Src_pickF n]) ty 9 n spec_l00Src_onekp spec_l00Src_onec Go.Proofs.Try.f200.results.toList spec_l00Src_oners spec_l00Src_onesp spec_l00Src_onebs ((), (a1, ())) (b0, ()) = spec_l00Src_one_t n a1 b0 := by kernel_rfl
  rw [h]
  rfl

theorem spec_l00Src_one_ok (n : Nat) : FunOk P (spec_l00Src_oneF n) :=
  funOk_mk (C := [spec_l00Src_pickF n]) (N := 9) (kp := spec_l00Src_onekp) (c := spec_l00Src_onec) (n := n) (G := fun x y => spec_l00Src_one n x.2.1 y.1) follows (AllOk.mem (⟨spec_l00Src_pick_ok n, trivial⟩ : AllOk P ([spec_l00Src_pickF n]))) (by kernel_rfl : P.funcs[200]? = some Go.Proofs.Try.f200) (by kernel_rfl) (by kernel_rfl) (by kernel_rfl)
    (fun x y => spec_l00Src_one_eq n x.2.1 y.1) (fun _ _ => map_same (fun _ => rfl) _) (fun _ _ _ _ => rfl)

abbrev spec_l01Wholesp : List Sp := [.v false (.int .i64)]
abbrev spec_l01Wholebs : List (Bs × Bool) := []
abbrev spec_l01Wholers : List (Bool × List Rp) := [(true, [.v false (.pair (.int .i64) (.int .i64))])]
noncomputable def spec_l01Wholekp : Keep := { loop := fun id => match id with | _ => ([], []), join := fun id => match id with | _ => none }
noncomputable def spec_l01Wholec : Code := bodyOf Go.Proofs.Try.f192
noncomputable def spec_l01WholeF (n : Nat) : Fun := { id := 192, sp := spec_l01Wholesp, bs := spec_l01Wholebs, rs := spec_l01Wholers, f := fun x y => spec_l01Whole n x.1 }

theorem spec_l01Whole_eq (n : Nat) (a0 : Int) : runBody ([]) ty 5 n spec_l01Wholekp spec_l01Wholec Go.Proofs.Try.f192.results.toList spec_l01Wholers spec_l01Wholesp spec_l01Wholebs (a0, ()) () = spec_l01Whole n a0 := by
  have h : runBody ([]) ty 5 n spec_l01Wholekp spec_l01Wholec Go.Proofs.Try.f192.results.toList spec_l01Wholers spec_l01Wholesp spec_l01Wholebs (a0, ()) () = spec_l01Whole_t n a0 := by kernel_rfl
  rw [h]
  rfl

theorem spec_l01Whole_ok (n : Nat) : FunOk P (spec_l01WholeF n) :=
  funOk_mk (C := []) (N := 5) (kp := spec_l01Wholekp) (c := spec_l01Wholec) (n := n) (G := fun x y => spec_l01Whole n x.1) follows (AllOk.mem (trivial : AllOk P ([]))) (by kernel_rfl : P.funcs[192]? = some Go.Proofs.Try.f192) (by kernel_rfl) (by kernel_rfl) (by kernel_rfl)
    (fun x y => spec_l01Whole_eq n x.1) (fun _ _ => map_same (fun _ => rfl) _) (fun _ _ _ _ => rfl)

abbrev spec_l02Drawnsp : List Sp := [.ref 0, .v false (.int .i64)]
abbrev spec_l02Drawnbs : List (Bs × Bool) := [(.var 226 (.pair (.list (.int .u8)) (.pair (.int .i64) (.int .u64))), true)]
abbrev spec_l02Drawnrs : List (Bool × List Rp) := [(true, [.v false (.pair (.pair (.int .i64) (.int .i64)) (.list (.pair (.int .i64) (.int .i64))))])]
noncomputable def spec_l02Drawnkp : Keep := { loop := fun id => match id with | 5 => ([9, 7, 5, 0, 8, 4], [.box 1 2 (.pair (.int .i64) (.int .i64))]) | _ => ([], []), join := fun id => match id with | 10 => some ([7, 5, 0, 8, 4, 9, 10], []) | _ => none }
noncomputable def spec_l02Drawnc : Code := bodyOf Go.Proofs.Try.f199
noncomputable def spec_l02DrawnF (n : Nat) : Fun := { id := 199, sp := spec_l02Drawnsp, bs := spec_l02Drawnbs, rs := spec_l02Drawnrs, f := fun x y => spec_l02Drawn n x.2.1 y.1 }

theorem spec_l02Drawn_j10_eq (n : Nat) (G5 : St → Option ((((((Int) × (Int)) × (List ((Int) × (Int)))) × (Unit)) × (Unit)) × (((List (Int)) × ((Int) × (Int))) × (Unit)))) (v8 : Bool) (v9 : Int) (b0_0 : List (Int)) (b0_1 : Int) (b0_2 : Int) (b1_0 : Int) (b1_1 : Int) (b2_0 : Int) (b2_1 : Int) (b3_0 : Int) (b3_1 : Int) (b4_0 : Int) (b4_1 : Int) (b5 : List ((Int) × (Int))) : (interp ([spec_l00Src_pickF n, spec_l01ReducedF n, spec_l00Src_oneF n, spec_l01WholeF n]) ty 56 1 n spec_l02Drawnkp (codeAt spec_l02Drawnc [1, 1, 1, 1, 0, 1, 0, 0, 1, 0, 0, 1, 1])) { env := [(7, .one (.ref 1 0 0 0 0 0)), (5, .one (.ref 2 0 0 0 0 0)), (0, .one (.ref 0 0 0 0 0 0)), (8, .one (.sc (.bool v8))), (4, .one (.ref 3 0 0 0 0 0)), (9, .one (.sc (.int .i64 v9))), (10, .one (.ref 4 0 0 0 0 0))], bx := [(0, .var 226 [.list true (.int .u8) b0_0, .sc (.int .i64 b0_1), .sc (.int .u64 b0_2)]), (1, .var 91 [.sc (.int .i64 b1_0), .sc (.int .i64 b1_1), .slice 5 0 none]), (2, .var 26 [.sc (.int .i64 b2_0), .sc (.int .i64 b2_1)]), (3, .var 91 [.sc (.int .i64 b3_0), .sc (.int .i64 b3_1), .sc (.slice none 0 0)]), (4, .var 26 [.sc (.int .i64 b4_0), .sc (.int .i64 b4_1)]), (5, .row 0 (.pair (.int .i64) (.int .i64)) b5)], nx := 6 } (kAt ([spec_l00Src_pickF n, spec_l01ReducedF n, spec_l00Src_oneF n, spec_l01WholeF n]) ty 56 1 n spec_l02Drawnkp spec_l02Drawnc [1, 1, 1, 1, 0, 1, 0, 0, 1, 0, 0, 1, 1] [G5] (ending ty 1 Go.Proofs.Try.f199.results.toList spec_l02Drawnrs spec_l02Drawnbs)) = spec_l02Drawn_j10 n (fun v9 v8 b0_0 b0_1 b0_2 b1_0 b1_1 b2_0 b2_1 b3_0 b3_1 b4 => G5 { env := [(9, .one (.sc (.int .i64 v9))), (7, .one (.ref 1 0 0 0 0 0)), (5, .one (.ref 2 0 0 0 0 0)), (0, .one (.ref 0 0 0 0 0 0)), (8, .one (.sc (.bool v8))), (4, .one (.ref 3 0 0 0 0 0))], bx := [(0, .var 226 [.list true (.int .u8) b0_0, .sc (.int .i64 b0_1), .sc (.int .u64 b0_2)]), (1, .var 91 [.sc (.int .i64 b1_0), .sc (.int .i64 b1_1), .slice 4 0 none]), (2, .var 26 [.sc (.int .i64 b2_0), .sc (.int .i64 b2_1)]), (3, .var 91 [.sc (.int .i64 b3_0), .sc (.int .i64 b3_1), .sc (.slice none 0 0)]), (4, .row 0 (.pair (.int .i64) (.int .i64)) b4)], nx := 5 }) v8 v9 b0_0 b0_1 b0_2 b1_0 b1_1 b2_0 b2_1 b3_0 b3_1 b4_0 b4_1 b5 := by
  have h : (interp ([spec_l00Src_pickF n, spec_l01ReducedF n, spec_l00Src_oneF n, spec_l01WholeF n]) ty 56 1 n spec_l02Drawnkp (codeAt spec_l02Drawnc [1, 1, 1, 1, 0, 1, 0, 0, 1, 0, 0, 1, 1])) { env := [(7, .one (.ref 1 0 0 0 0 0)), (5, .one (.ref 2 0 0 0 0 0)), (0, .one (.ref 0 0 0 0 0 0)), (8, .one (.sc (.bool v8))), (4, .one (.ref 3 0 0 0 0 0)), (9, .one (.sc (.int .i64 v9))), (10, .one (.ref 4 0 0 0 0 0))], bx := [(0, .var 226 [.list true (.int .u8) b0_0, .sc (.int .i64 b0_1), .sc (.int .u64 b0_2)]), (1, .var 91 [.sc (.int .i64 b1_0), .sc (.int .i64 b1_1), .slice 5 0 none]), (2, .var 26 [.sc (.int .i64 b2_0), .sc (.int .i64 b2_1)]), (3, .var 91 [.sc (.int .i64 b3_0), .sc (.int .i64 b3_1), .sc (.slice none 0 0)]), (4, .var 26 [.sc (.int .i64 b4_0), .sc (.int .i64 b4_1)]), (5, .row 0 (.pair (.int .i64) (.int .i64)) b5)], nx := 6 } (kAt ([spec_l00Src_pickF n, spec_l01ReducedF n, spec_l00Src_oneF n, spec_l01WholeF n]) ty 56 1 n spec_l02Drawnkp spec_l02Drawnc [1, 1, 1, 1, 0, 1, 0, 0, 1, 0, 0, 1, 1] [G5] (ending ty 1 Go.Proofs.Try.f199.results.toList spec_l02Drawnrs spec_l02Drawnbs)) = spec_l02Drawn_t10 n (fun v9 v8 b0_0 b0_1 b0_2 b1_0 b1_1 b2_0 b2_1 b3_0 b3_1 b4 => G5 { env := [(9, .one (.sc (.int .i64 v9))), (7, .one (.ref 1 0 0 0 0 0)), (5, .one (.ref 2 0 0 0 0 0)), (0, .one (.ref 0 0 0 0 0 0)), (8, .one (.sc (.bool v8))), (4, .one (.ref 3 0 0 0 0 0))], bx := [(0, .var 226 [.list true (.int .u8) b0_0, .sc (.int .i64 b0_1), .sc (.int .u64 b0_2)]), (1, .var 91 [.sc (.int .i64 b1_0), .sc (.int .i64 b1_1), .slice 4 0 none]), (2, .var 26 [.sc (.int .i64 b2_0), .sc (.int .i64 b2_1)]), (3, .var 91 [.sc (.int .i64 b3_0), .sc (.int .i64 b3_1), .sc (.slice none 0 0)]), (4, .row 0 (.pair (.int .i64) (.int .i64)) b4)], nx := 5 }) v8 v9 b0_0 b0_1 b0_2 b1_0 b1_1 b2_0 b2_1 b3_0 b3_1 b4_0 b4_1 b5 := by kernel_rfl
  rw [h]
  rfl

theorem spec_l02Drawn_l5_eq (n : Nat) : ∀ (k : Nat) (v9 : Int) (v8 : Bool) (b0_0 : List (Int)) (b0_1 : Int) (b0_2 : Int) (b1_0 : Int) (b1_1 : Int) (b2_0 : Int) (b2_1 : Int) (b3_0 : Int) (b3_1 : Int) (b4 : List ((Int) × (Int))), iter (interp ([spec_l00Src_pickF n, spec_l01ReducedF n, spec_l00Src_oneF n, spec_l01WholeF n]) ty 56 1 n spec_l02Drawnkp (codeAt spec_l02Drawnc [1, 1, 1, 1, 0, 1, 0, 0])) (canon 1 (spec_l02Drawnkp.loop 5)) (kAt ([spec_l00Src_pickF n, spec_l01ReducedF n, spec_l00Src_oneF n, spec_l01WholeF n]) ty 56 1 n spec_l02Drawnkp spec_l02Drawnc [1, 1, 1, 1, 0, 1, 0] [] (ending ty 1 Go.Proofs.Try.f199.results.toList spec_l02Drawnrs spec_l02Drawnbs)) k { env := [(9, .one (.sc (.int .i64 v9))), (7, .one (.ref 1 0 0 0 0 0)), (5, .one (.ref 2 0 0 0 0 0)), (0, .one (.ref 0 0 0 0 0 0)), (8, .one (.sc (.bool v8))), (4, .one (.ref 3 0 0 0 0 0))], bx := [(0, .var 226 [.list true (.int .u8) b0_0, .sc (.int .i64 b0_1), .sc (.int .u64 b0_2)]), (1, .var 91 [.sc (.int .i64 b1_0), .sc (.int .i64 b1_1), .slice 4 0 none]), (2, .var 26 [.sc (.int .i64 b2_0), .sc (.int .i64 b2_1)]), (3, .var 91 [.sc (.int .i64 b3_0), .sc (.int .i64 b3_1), .sc (.slice none 0 0)]), (4, .row 0 (.pair (.int .i64) (.int .i64)) b4)], nx := 5 } = spec_l02Drawn_l5 n k v9 v8 b0_0 b0_1 b0_2 b1_0 b1_1 b2_0 b2_1 b3_0 b3_1 b4
  | 0, _, _, _, _, _, _, _, _, _, _, _, _ => by kernel_rfl
  | k + 1, v9, v8, b0_0, b0_1, b0_2, b1_0, b1_1, b2_0, b2_1, b3_0, b3_1, b4 => by
    have h : iter (interp ([spec_l00Src_pickF n, spec_l01ReducedF n, spec_l00Src_oneF n, spec_l01WholeF n]) ty 56 1 n spec_l02Drawnkp (codeAt spec_l02Drawnc [1, 1, 1, 1, 0, 1, 0, 0])) (canon 1 (spec_l02Drawnkp.loop 5)) (kAt ([spec_l00Src_pickF n, spec_l01ReducedF n, spec_l00Src_oneF n, spec_l01WholeF n]) ty 56 1 n spec_l02Drawnkp spec_l02Drawnc [1, 1, 1, 1, 0, 1, 0] [] (ending ty 1 Go.Proofs.Try.f199.results.toList spec_l02Drawnrs spec_l02Drawnbs)) (k + 1) { env := [(9, .one (.sc (.int .i64 v9))), (7, .one (.ref 1 0 0 0 0 0)), (5, .one (.ref 2 0 0 0 0 0)), (0, .one (.ref 0 0 0 0 0 0)), (8, .one (.sc (.bool v8))), (4, .one (.ref 3 0 0 0 0 0))], bx := [(0, .var 226 [.list true (.int .u8) b0_0, .sc (.int .i64 b0_1), .sc (.int .u64 b0_2)]), (1, .var 91 [.sc (.int .i64 b1_0), .sc (.int .i64 b1_1), .slice 4 0 none]), (2, .var 26 [.sc (.int .i64 b2_0), .sc (.int .i64 b2_1)]), (3, .var 91 [.sc (.int .i64 b3_0), .sc (.int .i64 b3_1), .sc (.slice none 0 0)]), (4, .row 0 (.pair (.int .i64) (.int .i64)) b4)], nx := 5 } = spec_l02Drawn_t5 n (fun v8 v9 b0_0 b0_1 b0_2 b1_0 b1_1 b2_0 b2_1 b3_0 b3_1 b4_0 b4_1 b5 => (interp ([spec_l00Src_pickF n, spec_l01ReducedF n, spec_l00Src_oneF n, spec_l01WholeF n]) ty 56 1 n spec_l02Drawnkp (codeAt spec_l02Drawnc [1, 1, 1, 1, 0, 1, 0, 0, 1, 0, 0, 1, 1])) { env := [(7, .one (.ref 1 0 0 0 0 0)), (5, .one (.ref 2 0 0 0 0 0)), (0, .one (.ref 0 0 0 0 0 0)), (8, .one (.sc (.bool v8))), (4, .one (.ref 3 0 0 0 0 0)), (9, .one (.sc (.int .i64 v9))), (10, .one (.ref 4 0 0 0 0 0))], bx := [(0, .var 226 [.list true (.int .u8) b0_0, .sc (.int .i64 b0_1), .sc (.int .u64 b0_2)]), (1, .var 91 [.sc (.int .i64 b1_0), .sc (.int .i64 b1_1), .slice 5 0 none]), (2, .var 26 [.sc (.int .i64 b2_0), .sc (.int .i64 b2_1)]), (3, .var 91 [.sc (.int .i64 b3_0), .sc (.int .i64 b3_1), .sc (.slice none 0 0)]), (4, .var 26 [.sc (.int .i64 b4_0), .sc (.int .i64 b4_1)]), (5, .row 0 (.pair (.int .i64) (.int .i64)) b5)], nx := 6 } (kAt ([spec_l00Src_pickF n, spec_l01ReducedF n, spec_l00Src_oneF n, spec_l01WholeF n]) ty 56 1 n spec_l02Drawnkp spec_l02Drawnc [1, 1, 1, 1, 0, 1, 0, 0, 1, 0, 0, 1, 1] [(fun s => iter (interp ([spec_l00Src_pickF n, spec_l01ReducedF n, spec_l00Src_oneF n, spec_l01WholeF n]) ty 56 1 n spec_l02Drawnkp (codeAt spec_l02Drawnc [1, 1, 1, 1, 0, 1, 0, 0])) (canon 1 (spec_l02Drawnkp.loop 5)) (kAt ([spec_l00Src_pickF n, spec_l01ReducedF n, spec_l00Src_oneF n, spec_l01WholeF n]) ty 56 1 n spec_l02Drawnkp spec_l02Drawnc [1, 1, 1, 1, 0, 1, 0] [] (ending ty 1 Go.Proofs.Try.f199.results.toList spec_l02Drawnrs spec_l02Drawnbs)) k s)] (ending ty 1 Go.Proofs.Try.f199.results.toList spec_l02Drawnrs spec_l02Drawnbs))) (fun v9 v8 b0_0 b0_1 b0_2 b1_0 b1_1 b2_0 b2_1 b3_0 b3_1 b4 => iter (interp ([spec_l00Src_pickF n, spec_l01ReducedF n, spec_l00Src_oneF n, spec_l01WholeF n]) ty 56 1 n spec_l02Drawnkp (codeAt spec_l02Drawnc [1, 1, 1, 1, 0, 1, 0, 0])) (canon 1 (spec_l02Drawnkp.loop 5)) (kAt ([spec_l00Src_pickF n, spec_l01ReducedF n, spec_l00Src_oneF n, spec_l01WholeF n]) ty 56 1 n spec_l02Drawnkp spec_l02Drawnc [1, 1, 1, 1, 0, 1, 0] [] (ending ty 1 Go.Proofs.Try.f199.results.toList spec_l02Drawnrs spec_l02Drawnbs)) k { env := [(9, .one (.sc (.int .i64 v9))), (7, .one (.ref 1 0 0 0 0 0)), (5, .one (.ref 2 0 0 0 0 0)), (0, .one (.ref 0 0 0 0 0 0)), (8, .one (.sc (.bool v8))), (4, .one (.ref 3 0 0 0 0 0))], bx := [(0, .var 226 [.list true (.int .u8) b0_0, .sc (.int .i64 b0_1), .sc (.int .u64 b0_2)]), (1, .var 91 [.sc (.int .i64 b1_0), .sc (.int .i64 b1_1), .slice 4 0 none]), (2, .var 26 [.sc (.int .i64 b2_0), .sc (.int .i64 b2_1)]), (3, .var 91 [.sc (.int .i64 b3_0), .sc (.int .i64 b3_1), .sc (.slice none 0 0)]), (4, .row 0 (.pair (.int .i64) (.int .i64)) b4)], nx := 5 }) v9 v8 b0_0 b0_1 b0_2 b1_0 b1_1 b2_0 b2_1 b3_0 b3_1 b4 := by kernel_rfl
    rw [h]
    have e := congr (congrArg (fun h10 g => spec_l02Drawn_t5 n h10 g v9 v8 b0_0 b0_1 b0_2 b1_0 b1_1 b2_0 b2_1 b3_0 b3_1 b4) ((funext fun v8 => funext fun v9 => funext fun b0_0 => funext fun b0_1 => funext fun b0_2 => funext fun b1_0 => funext fun b1_1 => funext fun b2_0 => funext fun b2_1 => funext fun b3_0 => funext fun b3_1 => funext fun b4_0 => funext fun b4_1 => funext fun b5 => spec_l02Drawn_j10_eq n (fun s => iter (interp ([spec_l00Src_pickF n, spec_l01ReducedF n, spec_l00Src_oneF n, spec_l01WholeF n]) ty 56 1 n spec_l02Drawnkp (codeAt spec_l02Drawnc [1, 1, 1, 1, 0, 1, 0, 0])) (canon 1 (spec_l02Drawnkp.loop 5)) (kAt ([spec_l00Src_pickF n, spec_l01ReducedF n, spec_l00Src_oneF n, spec_l01WholeF n]) ty 56 1 n spec_l02Drawnkp spec_l02Drawnc [1, 1, 1, 1, 0, 1, 0] [] (ending ty 1 Go.Proofs.Try.f199.results.toList spec_l02Drawnrs spec_l02Drawnbs)) k s) v8 v9 b0_0 b0_1 b0_2 b1_0 b1_1 b2_0 b2_1 b3_0 b3_1 b4_0 b4_1 b5).trans (congrArg (fun z => spec_l02Drawn_j10 n z) (funext fun v9 => funext fun v8 => funext fun b0_0 => funext fun b0_1 => funext fun b0_2 => funext fun b1_0 => funext fun b1_1 => funext fun b2_0 => funext fun b2_1 => funext fun b3_0 => funext fun b3_1 => funext fun b4 => spec_l02Drawn_l5_eq n k v9 v8 b0_0 b0_1 b0_2 b1_0 b1_1 b2_0 b2_1 b3_0 b3_1 b4)))) (funext fun v9 => funext fun v8 => funext fun b0_0 => funext fun b0_1 => funext fun b0_2 => funext fun b1_0 => funext fun b1_1 => funext fun b2_0 => funext fun b2_1 => funext fun b3_0 => funext fun b3_1 => funext fun b4 => spec_l02Drawn_l5_eq n k v9 v8 b0_0 b0_1 b0_2 b1_0 b1_1 b2_0 b2_1 b3_0 b3_1 b4)
    exact e

theorem spec_l02Drawn_eq (n : Nat) (a1 : Int) (b0 : (List (Int)) × ((Int) × (Int))) : runBody ([spec_l00Src_pickF n, spec_l01ReducedF n, spec_l00Src_oneF n, spec_l01WholeF n]) ty 56 n spec_l02Drawnkp spec_l02Drawnc Go.Proofs.Try.f199.results.toList spec_l02Drawnrs spec_l02Drawnsp spec_l02Drawnbs ((), (a1, ())) (b0, ()) = spec_l02Drawn n a1 b0 := by
  have h : runBody ([spec_l00Src_pickF n, spec_l01ReducedF n, spec_l00Src_oneF n, spec_l01WholeF n]) ty 56 n spec_l02Drawnkp spec_l02Drawnc Go.Proofs.Try.f199.results.toList spec_l02Drawnrs spec_l02Drawnsp spec_l02Drawnbs ((), (a1, ())) (b0, ()) = spec_l02Drawn_t n (fun k v9 v8 b0_0 b0_1 b0_2 b1_0 b1_1 b2_0 b2_1 b3_0 b3_1 b4 => iter (interp ([spec_l00Src_pickF n, spec_l01ReducedF n, spec_l00Src_oneF n, spec_l01WholeF n]) ty 56 1 n spec_l02Drawnkp (codeAt spec_l02Drawnc [1, 1, 1, 1, 0, 1, 0, 0])) (canon 1 (spec_l02Drawnkp.loop 5)) (kAt ([spec_l00Src_pickF n, spec_l01ReducedF n, spec_l00Src_oneF n, spec_l01WholeF n]) ty 56 1 n spec_l02Drawnkp spec_l02Drawnc [1, 1, 1, 1, 0, 1, 0] [] (ending ty 1 Go.Proofs.Try.f199.results.toList spec_l02Drawnrs spec_l02Drawnbs)) k { env := [(9, .one (.sc (.int .i64 v9))), (7, .one (.ref 1 0 0 0 0 0)), (5, .one (.ref 2 0 0 0 0 0)), (0, .one (.ref 0 0 0 0 0 0)), (8, .one (.sc (.bool v8))), (4, .one (.ref 3 0 0 0 0 0))], bx := [(0, .var 226 [.list true (.int .u8) b0_0, .sc (.int .i64 b0_1), .sc (.int .u64 b0_2)]), (1, .var 91 [.sc (.int .i64 b1_0), .sc (.int .i64 b1_1), .slice 4 0 none]), (2, .var 26 [.sc (.int .i64 b2_0), .sc (.int .i64 b2_1)]), (3, .var 91 [.sc (.int .i64 b3_0), .sc (.int .i64 b3_1), .sc (.slice none 0 0)]), (4, .row 0 (.pair (.int .i64) (.int .i64)) b4)], nx := 5 }) a1 b0 := by kernel_rfl
  rw [h]
  have e := congrArg (fun h5 => spec_l02Drawn_t n h5 a1 b0) (funext fun k => funext fun v9 => funext fun v8 => funext fun b0_0 => funext fun b0_1 => funext fun b0_2 => funext fun b1_0 => funext fun b1_1 => funext fun b2_0 => funext fun b2_1 => funext fun b3_0 => funext fun b3_1 => funext fun b4 => spec_l02Drawn_l5_eq n k v9 v8 b0_0 b0_1 b0_2 b1_0 b1_1 b2_0 b2_1 b3_0 b3_1 b4)
  exact e

theorem spec_l02Drawn_ok (n : Nat) : FunOk P (spec_l02DrawnF n) :=
  funOk_mk (C := [spec_l00Src_pickF n, spec_l01ReducedF n, spec_l00Src_oneF n, spec_l01WholeF n]) (N := 56) (kp := spec_l02Drawnkp) (c := spec_l02Drawnc) (n := n) (G := fun x y => spec_l02Drawn n x.2.1 y.1) follows (AllOk.mem (⟨spec_l00Src_pick_ok n, ⟨spec_l01Reduced_ok n, ⟨spec_l00Src_one_ok n, ⟨spec_l01Whole_ok n, trivial⟩⟩⟩⟩ : AllOk P ([spec_l00Src_pickF n, spec_l01ReducedF n, spec_l00Src_oneF n, spec_l01WholeF n]))) (by kernel_rfl : P.funcs[199]? = some Go.Proofs.Try.f199) (by kernel_rfl) (by kernel_rfl) (by kernel_rfl)
    (fun x y => spec_l02Drawn_eq n x.2.1 y.1) (fun _ _ => map_same (fun _ => rfl) _) (fun _ _ _ _ => rfl)

abbrev spec_P6Scalesp : List Sp := [.v false (.list (.int .u8)), .v false (.int .i64)]
abbrev spec_P6Scalebs : List (Bs × Bool) := []
abbrev spec_P6Scalers : List (Bool × List Rp) := [(true, [.v false (.pair (.pair (.int .i64) (.int .i64)) (.list (.pair (.int .i64) (.int .i64))))])]
noncomputable def spec_P6Scalekp : Keep := { loop := fun id => match id with | _ => ([], []), join := fun id => match id with | _ => none }
noncomputable def spec_P6Scalec : Code := bodyOf Go.Proofs.Try.f79
noncomputable def spec_P6ScaleF (n : Nat) : Fun := { id := 79, sp := spec_P6Scalesp, bs := spec_P6Scalebs, rs := spec_P6Scalers, f := fun x y => spec_P6Scale n x.1 x.2.1 }

theorem spec_P6Scale_eq (n : Nat) (a0 : List (Int)) (a1 : Int) : runBody ([spec_l00FromF n, spec_l02DrawnF n]) ty 9 n spec_P6Scalekp spec_P6Scalec Go.Proofs.Try.f79.results.toList spec_P6Scalers spec_P6Scalesp spec_P6Scalebs (a0, (a1, ())) () = spec_P6Scale n a0 a1 := by
  have h : runBody ([spec_l00FromF n, spec_l02DrawnF n]) ty 9 n spec_P6Scalekp spec_P6Scalec Go.Proofs.Try.f79.results.toList spec_P6Scalers spec_P6Scalesp spec_P6Scalebs (a0, (a1, ())) () = spec_P6Scale_t n a0 a1 := by kernel_rfl
  rw [h]
  rfl

theorem spec_P6Scale_ok (n : Nat) : FunOk P (spec_P6ScaleF n) :=
  funOk_mk (C := [spec_l00FromF n, spec_l02DrawnF n]) (N := 9) (kp := spec_P6Scalekp) (c := spec_P6Scalec) (n := n) (G := fun x y => spec_P6Scale n x.1 x.2.1) follows (AllOk.mem (⟨spec_l00From_ok n, ⟨spec_l02Drawn_ok n, trivial⟩⟩ : AllOk P ([spec_l00FromF n, spec_l02DrawnF n]))) (by kernel_rfl : P.funcs[79]? = some Go.Proofs.Try.f79) (by kernel_rfl) (by kernel_rfl) (by kernel_rfl)
    (fun x y => spec_P6Scale_eq n x.1 x.2.1) (fun _ _ => map_same (fun _ => rfl) _) (fun _ _ _ _ => rfl)

abbrev spec_P6Verniersp : List Sp := [.v false (.list (.int .u8))]
abbrev spec_P6Vernierbs : List (Bs × Bool) := []
abbrev spec_P6Vernierrs : List (Bool × List Rp) := [(true, [.v false (.pair (.int .i64) .bool)])]
noncomputable def spec_P6Vernierkp : Keep := { loop := fun id => match id with | _ => ([], []), join := fun id => match id with | _ => none }
noncomputable def spec_P6Vernierc : Code := bodyOf Go.Proofs.Try.f80
noncomputable def spec_P6VernierF (n : Nat) : Fun := { id := 80, sp := spec_P6Verniersp, bs := spec_P6Vernierbs, rs := spec_P6Vernierrs, f := fun x y => spec_P6Vernier n x.1 }

theorem spec_P6Vernier_eq (n : Nat) (a0 : List (Int)) : runBody ([spec_l00FromF n, spec_l00Src_pickF n, spec_l00Src_oneF n]) ty 12 n spec_P6Vernierkp spec_P6Vernierc Go.Proofs.Try.f80.results.toList spec_P6Vernierrs spec_P6Verniersp spec_P6Vernierbs (a0, ()) () = spec_P6Vernier n a0 := by
  have h : runBody ([spec_l00FromF n, spec_l00Src_pickF n, spec_l00Src_oneF n]) ty 12 n spec_P6Vernierkp spec_P6Vernierc Go.Proofs.Try.f80.results.toList spec_P6Vernierrs spec_P6Verniersp spec_P6Vernierbs (a0, ()) () = spec_P6Vernier_t n a0 := by kernel_rfl
  rw [h]
  rfl

theorem spec_P6Vernier_ok (n : Nat) : FunOk P (spec_P6VernierF n) :=
  funOk_mk (C := [spec_l00FromF n, spec_l00Src_pickF n, spec_l00Src_oneF n]) (N := 12) (kp := spec_P6Vernierkp) (c := spec_P6Vernierc) (n := n) (G := fun x y => spec_P6Vernier n x.1) follows (AllOk.mem (⟨spec_l00From_ok n, ⟨spec_l00Src_pick_ok n, ⟨spec_l00Src_one_ok n, trivial⟩⟩⟩ : AllOk P ([spec_l00FromF n, spec_l00Src_pickF n, spec_l00Src_oneF n]))) (by kernel_rfl : P.funcs[80]? = some Go.Proofs.Try.f80) (by kernel_rfl) (by kernel_rfl) (by kernel_rfl)
    (fun x y => spec_P6Vernier_eq n x.1) (fun _ _ => map_same (fun _ => rfl) _) (fun _ _ _ _ => rfl)

abbrev spec_P6Placesp : List Sp := [.v false (.list (.int .u8)), .v true (.pair (.pair (.int .i64) (.int .i64)) (.list (.pair (.int .i64) (.int .i64))))]
abbrev spec_P6Placebs : List (Bs × Bool) := []
abbrev spec_P6Placers : List (Bool × List Rp) := [(true, [.v false (.pair (.int .i64) (.int .i64))])]
noncomputable def spec_P6Placekp : Keep := { loop := fun id => match id with | _ => ([], []), join := fun id => match id with | _ => none }
noncomputable def spec_P6Placec : Code := bodyOf Go.Proofs.Try.f81
noncomputable def spec_P6PlaceF (n : Nat) : Fun := { id := 81, sp := spec_P6Placesp, bs := spec_P6Placebs, rs := spec_P6Placers, f := fun x y => spec_P6Place n x.1 x.2.1 }

theorem spec_P6Place_eq (n : Nat) (a0 : List (Int)) (a1 : ((Int) × (Int)) × (List ((Int) × (Int)))) : runBody ([spec_l00FromF n, spec_l00Src_pickF n, spec_l01ReducedF n]) ty 28 n spec_P6Placekp spec_P6Placec Go.Proofs.Try.f81.results.toList spec_P6Placers spec_P6Placesp spec_P6Placebs (a0, (a1, ())) () = spec_P6Place n a0 a1 := by
  have h : runBody ([spec_l00FromF n, spec_l00Src_pickF n, spec_l01ReducedF n]) ty 28 n spec_P6Placekp spec_P6Placec Go.Proofs.Try.f81.results.toList spec_P6Placers spec_P6Placesp spec_P6Placebs (a0, (a1, ())) () = spec_P6Place_t n a0 a1 := by kernel_rfl
  rw [h]
  rfl

theorem spec_P6Place_ok (n : Nat) : FunOk P (spec_P6PlaceF n) :=
  funOk_mk (C := [spec_l00FromF n, spec_l00Src_pickF n, spec_l01ReducedF n]) (N := 28) (kp := spec_P6Placekp) (c := spec_P6Placec) (n := n) (G := fun x y => spec_P6Place n x.1 x.2.1) follows (AllOk.mem (⟨spec_l00From_ok n, ⟨spec_l00Src_pick_ok n, ⟨spec_l01Reduced_ok n, trivial⟩⟩⟩ : AllOk P ([spec_l00FromF n, spec_l00Src_pickF n, spec_l01ReducedF n]))) (by kernel_rfl : P.funcs[81]? = some Go.Proofs.Try.f81) (by kernel_rfl) (by kernel_rfl) (by kernel_rfl)
    (fun x y => spec_P6Place_eq n x.1 x.2.1) (fun _ _ => map_same (fun _ => rfl) _) (fun _ _ _ _ => rfl)

abbrev impl_withinsp : List Sp := [.v false (.int .i64), .v false (.int .i64), .v false (.int .i64)]
abbrev impl_withinbs : List (Bs × Bool) := []
abbrev impl_withinrs : List (Bool × List Rp) := [(false, [.v false .bool])]
noncomputable def impl_withinkp : Keep := { loop := fun id => match id with | _ => ([], []), join := fun id => match id with | _ => none }
noncomputable def impl_withinc : Code := bodyOf Go.Proofs.Try.f141
noncomputable def impl_withinF (n : Nat) : Fun := { id := 141, sp := impl_withinsp, bs := impl_withinbs, rs := impl_withinrs, f := fun x y => impl_within n x.1 x.2.1 x.2.2.1 }

theorem impl_within_eq (n : Nat) (a0 : Int) (a1 : Int) (a2 : Int) : runBody ([]) ty 15 n impl_withinkp impl_withinc Go.Proofs.Try.f141.results.toList impl_withinrs impl_withinsp impl_withinbs (a0, (a1, (a2, ()))) () = impl_within n a0 a1 a2 := by
  have h : runBody ([]) ty 15 n impl_withinkp impl_withinc Go.Proofs.Try.f141.results.toList impl_withinrs impl_withinsp impl_withinbs (a0, (a1, (a2, ()))) () = impl_within_t n a0 a1 a2 := by kernel_rfl
  rw [h]
  rfl

theorem impl_within_ok (n : Nat) : FunOk P (impl_withinF n) :=
  funOk_mk (C := []) (N := 15) (kp := impl_withinkp) (c := impl_withinc) (n := n) (G := fun x y => impl_within n x.1 x.2.1 x.2.2.1) follows (AllOk.mem (trivial : AllOk P ([]))) (by kernel_rfl : P.funcs[141]? = some Go.Proofs.Try.f141) (by kernel_rfl) (by kernel_rfl) (by kernel_rfl)
    (fun x y => impl_within_eq n x.1 x.2.1 x.2.2.1) (fun _ _ => map_same (fun _ => rfl) _) (fun _ _ _ _ => rfl)

abbrev impl_gcdsp : List Sp := [.v false (.int .i64), .v false (.int .i64)]
abbrev impl_gcdbs : List (Bs × Bool) := []
abbrev impl_gcdrs : List (Bool × List Rp) := [(false, [.v false (.int .i64)])]
noncomputable def impl_gcdkp : Keep := { loop := fun id => match id with | 1 => ([1, 0], []) | _ => ([], []), join := fun id => match id with | _ => none }
noncomputable def impl_gcdc : Code := bodyOf Go.Proofs.Try.f245
noncomputable def impl_gcdF (n : Nat) : Fun := { id := 245, sp := impl_gcdsp, bs := impl_gcdbs, rs := impl_gcdrs, f := fun x y => impl_gcd n x.1 x.2.1 }

theorem impl_gcd_l1_eq (n : Nat) : ∀ (k : Nat) (v1 : Int) (v0 : Int), iter (interp ([]) ty 15 0 n impl_gcdkp (codeAt impl_gcdc [1, 0, 0, 0])) (canon 0 (impl_gcdkp.loop 1)) (kAt ([]) ty 15 0 n impl_gcdkp impl_gcdc [1, 0, 0] [] (ending ty 0 Go.Proofs.Try.f245.results.toList impl_gcdrs impl_gcdbs)) k { env := [(1, .one (.sc (.int .i64 v1))), (0, .one (.sc (.int .i64 v0)))], bx := [], nx := 0 } = impl_gcd_l1 n k v1 v0
  | 0, _, _ => by kernel_rfl
  | k + 1, v1, v0 => by
    have h : iter (interp ([]) ty 15 0 n impl_gcdkp (codeAt impl_gcdc [1, 0, 0, 0])) (canon 0 (impl_gcdkp.loop 1)) (kAt ([]) ty 15 0 n impl_gcdkp impl_gcdc [1, 0, 0] [] (ending ty 0 Go.Proofs.Try.f245.results.toList impl_gcdrs impl_gcdbs)) (k + 1) { env := [(1, .one (.sc (.int .i64 v1))), (0, .one (.sc (.int .i64 v0)))], bx := [], nx := 0 } = impl_gcd_t1 n (fun v1 v0 => iter (interp ([]) ty 15 0 n impl_gcdkp (codeAt impl_gcdc [1, 0, 0, 0])) (canon 0 (impl_gcdkp.loop 1)) (kAt ([]) ty 15 0 n impl_gcdkp impl_gcdc [1, 0, 0] [] (ending ty 0 Go.Proofs.Try.f245.results.toList impl_gcdrs impl_gcdbs)) k { env := [(1, .one (.sc (.int .i64 v1))), (0, .one (.sc (.int .i64 v0)))], bx := [], nx := 0 }) v1 v0 := by kernel_rfl
    rw [h]
    have e := congrArg (fun g => impl_gcd_t1 n g v1 v0) (funext fun v1 => funext fun v0 => impl_gcd_l1_eq n k v1 v0)
    exact e

theorem impl_gcd_eq (n : Nat) (a0 : Int) (a1 : Int) : runBody ([]) ty 15 n impl_gcdkp impl_gcdc Go.Proofs.Try.f245.results.toList impl_gcdrs impl_gcdsp impl_gcdbs (a0, (a1, ())) () = impl_gcd n a0 a1 := by
  have h : runBody ([]) ty 15 n impl_gcdkp impl_gcdc Go.Proofs.Try.f245.results.toList impl_gcdrs impl_gcdsp impl_gcdbs (a0, (a1, ())) () = impl_gcd_t n (fun k v1 v0 => iter (interp ([]) ty 15 0 n impl_gcdkp (codeAt impl_gcdc [1, 0, 0, 0])) (canon 0 (impl_gcdkp.loop 1)) (kAt ([]) ty 15 0 n impl_gcdkp impl_gcdc [1, 0, 0] [] (ending ty 0 Go.Proofs.Try.f245.results.toList impl_gcdrs impl_gcdbs)) k { env := [(1, .one (.sc (.int .i64 v1))), (0, .one (.sc (.int .i64 v0)))], bx := [], nx := 0 }) a0 a1 := by kernel_rfl
  rw [h]
  have e := congrArg (fun h1 => impl_gcd_t n h1 a0 a1) (funext fun k => funext fun v1 => funext fun v0 => impl_gcd_l1_eq n k v1 v0)
  exact e

theorem impl_gcd_ok (n : Nat) : FunOk P (impl_gcdF n) :=
  funOk_mk (C := []) (N := 15) (kp := impl_gcdkp) (c := impl_gcdc) (n := n) (G := fun x y => impl_gcd n x.1 x.2.1) follows (AllOk.mem (trivial : AllOk P ([]))) (by kernel_rfl : P.funcs[245]? = some Go.Proofs.Try.f245) (by kernel_rfl) (by kernel_rfl) (by kernel_rfl)
    (fun x y => impl_gcd_eq n x.1 x.2.1) (fun _ _ => map_same (fun _ => rfl) _) (fun _ _ _ _ => rfl)

abbrev impl_ValidFracsp : List Sp := [.v true (.pair (.int .i64) (.int .i64))]
abbrev impl_ValidFracbs : List (Bs × Bool) := []
abbrev impl_ValidFracrs : List (Bool × List Rp) := [(false, [.v false .bool])]
noncomputable def impl_ValidFrackp : Keep := { loop := fun id => match id with | _ => ([], []), join := fun id => match id with | _ => none }
noncomputable def impl_ValidFracc : Code := bodyOf Go.Proofs.Try.f184
noncomputable def impl_ValidFracF (n : Nat) : Fun := { id := 184, sp := impl_ValidFracsp, bs := impl_ValidFracbs, rs := impl_ValidFracrs, f := fun x y => impl_ValidFrac n x.1 }

theorem impl_ValidFrac_eq (n : Nat) (a0 : (Int) × (Int)) : runBody ([impl_withinF n, impl_gcdF n]) ty 19 n impl_ValidFrackp impl_ValidFracc Go.Proofs.Try.f184.results.toList impl_ValidFracrs impl_ValidFracsp impl_ValidFracbs (a0, ()) () = impl_ValidFrac n a0 := by
  have h : runBody ([impl_withinF n, impl_gcdF n]) ty 19 n impl_ValidFrackp impl_ValidFracc Go.Proofs.Try.f184.results.toList impl_ValidFracrs impl_ValidFracsp impl_ValidFracbs (a0, ()) () = impl_ValidFrac_t n a0 := by kernel_rfl
  rw [h]
  rfl

theorem impl_ValidFrac_ok (n : Nat) : FunOk P (impl_ValidFracF n) :=
  funOk_mk (C := [impl_withinF n, impl_gcdF n]) (N := 19) (kp := impl_ValidFrackp) (c := impl_ValidFracc) (n := n) (G := fun x y => impl_ValidFrac n x.1) follows (AllOk.mem (⟨impl_within_ok n, ⟨impl_gcd_ok n, trivial⟩⟩ : AllOk P ([impl_withinF n, impl_gcdF n]))) (by kernel_rfl : P.funcs[184]? = some Go.Proofs.Try.f184) (by kernel_rfl) (by kernel_rfl) (by kernel_rfl)
    (fun x y => impl_ValidFrac_eq n x.1) (fun _ _ => map_same (fun _ => rfl) _) (fun _ _ _ _ => rfl)

abbrev impl_numsp : List Sp := [.v false (.int .i64)]
abbrev impl_numbs : List (Bs × Bool) := []
abbrev impl_numrs : List (Bool × List Rp) := [(true, [.v false (.pair (.int .i64) (.int .i64))])]
noncomputable def impl_numkp : Keep := { loop := fun id => match id with | _ => ([], []), join := fun id => match id with | _ => none }
noncomputable def impl_numc : Code := bodyOf Go.Proofs.Try.f188
noncomputable def impl_numF (n : Nat) : Fun := { id := 188, sp := impl_numsp, bs := impl_numbs, rs := impl_numrs, f := fun x y => impl_num n x.1 }

theorem impl_num_eq (n : Nat) (a0 : Int) : runBody ([]) ty 5 n impl_numkp impl_numc Go.Proofs.Try.f188.results.toList impl_numrs impl_numsp impl_numbs (a0, ()) () = impl_num n a0 := by
  have h : runBody ([]) ty 5 n impl_numkp impl_numc Go.Proofs.Try.f188.results.toList impl_numrs impl_numsp impl_numbs (a0, ()) () = impl_num_t n a0 := by kernel_rfl
  rw [h]
  rfl

theorem impl_num_ok (n : Nat) : FunOk P (impl_numF n) :=
  funOk_mk (C := []) (N := 5) (kp := impl_numkp) (c := impl_numc) (n := n) (G := fun x y => impl_num n x.1) follows (AllOk.mem (trivial : AllOk P ([]))) (by kernel_rfl : P.funcs[188]? = some Go.Proofs.Try.f188) (by kernel_rfl) (by kernel_rfl) (by kernel_rfl)
    (fun x y => impl_num_eq n x.1) (fun _ _ => map_same (fun _ => rfl) _) (fun _ _ _ _ => rfl)

abbrev impl_comparesp : List Sp := [.v true (.pair (.int .i64) (.int .i64)), .v true (.pair (.int .i64) (.int .i64))]
abbrev impl_comparebs : List (Bs × Bool) := []
abbrev impl_comparers : List (Bool × List Rp) := [(false, [.v false (.int .i64)])]
noncomputable def impl_comparekp : Keep := { loop := fun id => match id with | _ => ([], []), join := fun id => match id with | _ => none }
noncomputable def impl_comparec : Code := bodyOf Go.Proofs.Try.f138
noncomputable def impl_compareF (n : Nat) : Fun := { id := 138, sp := impl_comparesp, bs := impl_comparebs, rs := impl_comparers, f := fun x y => impl_compare n x.1 x.2.1 }

theorem impl_compare_eq (n : Nat) (a0 : (Int) × (Int)) (a1 : (Int) × (Int)) : runBody ([]) ty 25 n impl_comparekp impl_comparec Go.Proofs.Try.f138.results.toList impl_comparers impl_comparesp impl_comparebs (a0, (a1, ())) () = impl_compare n a0 a1 := by
  have h : runBody ([]) ty 25 n impl_comparekp impl_comparec Go.Proofs.Try.f138.results.toList impl_comparers impl_comparesp impl_comparebs (a0, (a1, ())) () = impl_compare_t n a0 a1 := by kernel_rfl
  rw [h]
  rfl

theorem impl_compare_ok (n : Nat) : FunOk P (impl_compareF n) :=
  funOk_mk (C := []) (N := 25) (kp := impl_comparekp) (c := impl_comparec) (n := n) (G := fun x y => impl_compare n x.1 x.2.1) follows (AllOk.mem (trivial : AllOk P ([]))) (by kernel_rfl : P.funcs[138]? = some Go.Proofs.Try.f138) (by kernel_rfl) (by kernel_rfl) (by kernel_rfl)
    (fun x y => impl_compare_eq n x.1 x.2.1) (fun _ _ => map_same (fun _ => rfl) _) (fun _ _ _ _ => rfl)

abbrev impl_isUnitsp : List Sp := [.v true (.pair (.int .i64) (.int .i64))]
abbrev impl_isUnitbs : List (Bs × Bool) := []
abbrev impl_isUnitrs : List (Bool × List Rp) := [(false, [.v false .bool])]
noncomputable def impl_isUnitkp : Keep := { loop := fun id => match id with | _ => ([], []), join := fun id => match id with | _ => none }
noncomputable def impl_isUnitc : Code := bodyOf Go.Proofs.Try.f211
noncomputable def impl_isUnitF (n : Nat) : Fun := { id := 211, sp := impl_isUnitsp, bs := impl_isUnitbs, rs := impl_isUnitrs, f := fun x y => impl_isUnit n x.1 }

theorem impl_isUnit_eq (n : Nat) (a0 : (Int) × (Int)) : runBody ([impl_numF n, impl_compareF n]) ty 12 n impl_isUnitkp impl_isUnitc Go.Proofs.Try.f211.results.toList impl_isUnitrs impl_isUnitsp impl_isUnitbs (a0, ()) () = impl_isUnit n a0 := by
  have h : runBody ([impl_numF n, impl_compareF n]) ty 12 n impl_isUnitkp impl_isUnitc Go.Proofs.Try.f211.results.toList impl_isUnitrs impl_isUnitsp impl_isUnitbs (a0, ()) () = impl_isUnit_t n a0 := by kernel_rfl
  rw [h]
  rfl

theorem impl_isUnit_ok (n : Nat) : FunOk P (impl_isUnitF n) :=
  funOk_mk (C := [impl_numF n, impl_compareF n]) (N := 12) (kp := impl_isUnitkp) (c := impl_isUnitc) (n := n) (G := fun x y => impl_isUnit n x.1) follows (AllOk.mem (⟨impl_num_ok n, ⟨impl_compare_ok n, trivial⟩⟩ : AllOk P ([impl_numF n, impl_compareF n]))) (by kernel_rfl : P.funcs[211]? = some Go.Proofs.Try.f211) (by kernel_rfl) (by kernel_rfl) (by kernel_rfl)
    (fun x y => impl_isUnit_eq n x.1) (fun _ _ => map_same (fun _ => rfl) _) (fun _ _ _ _ => rfl)

abbrev impl_areValid_1sp : List Sp := [.v true (.pair (.int .i64) (.int .i64))]
abbrev impl_areValid_1bs : List (Bs × Bool) := []
abbrev impl_areValid_1rs : List (Bool × List Rp) := [(false, [.v false .bool])]
noncomputable def impl_areValid_1kp : Keep := { loop := fun id => match id with | _ => ([], []), join := fun id => match id with | _ => none }
noncomputable def impl_areValid_1c : Code := bodyOf Go.Proofs.Try.f230
noncomputable def impl_areValid_1F (n : Nat) : Fun := { id := 230, sp := impl_areValid_1sp, bs := impl_areValid_1bs, rs := impl_areValid_1rs, f := fun x y => impl_areValid_1 n x.1 }

theorem impl_areValid_1_eq (n : Nat) (a0 : (Int) × (Int)) : runBody ([impl_ValidFracF n]) ty 6 n impl_areValid_1kp impl_areValid_1c Go.Proofs.Try.f230.results.toList impl_areValid_1rs impl_areValid_1sp impl_areValid_1bs (a0, ()) () = impl_areValid_1 n a0 := by
  have h : runBody ([impl_ValidFracF n]) ty 6 n impl_areValid_1kp impl_areValid_1c Go.Proofs.Try.f230.results.toList impl_areValid_1rs impl_areValid_1sp impl_areValid_1bs (a0, ()) () = impl_areValid_1_t n a0 := by kernel_rfl
  rw [h]
  rfl

theorem impl_areValid_1_ok (n : Nat) : FunOk P (impl_areValid_1F n) :=
  funOk_mk (C := [impl_ValidFracF n]) (N := 6) (kp := impl_areValid_1kp) (c := impl_areValid_1c) (n := n) (G := fun x y => impl_areValid_1 n x.1) follows (AllOk.mem (⟨impl_ValidFrac_ok n, trivial⟩ : AllOk P ([impl_ValidFracF n]))) (by kernel_rfl : P.funcs[230]? = some Go.Proofs.Try.f230) (by kernel_rfl) (by kernel_rfl) (by kernel_rfl)
    (fun x y => impl_areValid_1_eq n x.1) (fun _ _ => map_same (fun _ => rfl) _) (fun _ _ _ _ => rfl)

abbrev slices_IndexFunc_impl_Frac_impl_Frac_at_impl_areValid_1sp : List Sp := [.v false (.list (.pair (.int .i64) (.int .i64))), .cl 230 []]
abbrev slices_IndexFunc_impl_Frac_impl_Frac_at_impl_areValid_1bs : List (Bs × Bool) := []
abbrev slices_IndexFunc_impl_Frac_impl_Frac_at_impl_areValid_1rs : List (Bool × List Rp) := [(false, [.v false (.int .i64)])]
noncomputable def slices_IndexFunc_impl_Frac_impl_Frac_at_impl_areValid_1kp : Keep := { loop := fun id => match id with | 2 => ([8, 0, 1, 7], []) | _ => ([], []), join := fun id => match id with | _ => none }
noncomputable def slices_IndexFunc_impl_Frac_impl_Frac_at_impl_areValid_1c : Code := bodyOf Go.Proofs.Try.f259
noncomputable def slices_IndexFunc_impl_Frac_impl_Frac_at_impl_areValid_1F (n : Nat) : Fun := { id := 259, sp := slices_IndexFunc_impl_Frac_impl_Frac_at_impl_areValid_1sp, bs := slices_IndexFunc_impl_Frac_impl_Frac_at_impl_areValid_1bs, rs := slices_IndexFunc_impl_Frac_impl_Frac_at_impl_areValid_1rs, f := fun x y => slices_IndexFunc_impl_Frac_impl_Frac_at_impl_areValid_1 n x.1 }

theorem slices_IndexFunc_impl_Frac_impl_Frac_at_impl_areValid_1_l2_eq (n : Nat) : ∀ (k : Nat) (v8 : Int) (v0 : List ((Int) × (Int))) (v7 : Int), iter (interp ([impl_areValid_1F n]) ty 19 0 n slices_IndexFunc_impl_Frac_impl_Frac_at_impl_areValid_1kp (codeAt slices_IndexFunc_impl_Frac_impl_Frac_at_impl_areValid_1c [1, 0, 1, 0, 0])) (canon 0 (slices_IndexFunc_impl_Frac_impl_Frac_at_impl_areValid_1kp.loop 2)) (kAt ([impl_areValid_1F n]) ty 19 0 n slices_IndexFunc_impl_Frac_impl_Frac_at_impl_areValid_1kp slices_IndexFunc_impl_Frac_impl_Frac_at_impl_areValid_1c [1, 0, 1, 0] [] (ending ty 0 Go.Proofs.Try.f259.results.toList slices_IndexFunc_impl_Frac_impl_Frac_at_impl_areValid_1rs slices_IndexFunc_impl_Frac_impl_Frac_at_impl_areValid_1bs)) k { env := [(8, .one (.sc (.int .i64 v8))), (0, .one (.list true (.pair (.int .i64) (.int .i64)) v0)), (1, .one (.clos 230 [])), (7, .one (.sc (.int .i64 v7)))], bx := [], nx := 0 } = slices_IndexFunc_impl_Frac_impl_Frac_at_impl_areValid_1_l2 n k v8 v0 v7
  | 0, _, _, _ => by kernel_rfl
  | k + 1, v8, v0, v7 => by
    have h : iter (interp ([impl_areValid_1F n]) ty 19 0 n slices_IndexFunc_impl_Frac_impl_Frac_at_impl_areValid_1kp (codeAt slices_IndexFunc_impl_Frac_impl_Frac_at_impl_areValid_1c [1, 0, 1, 0, 0])) (canon 0 (slices_IndexFunc_impl_Frac_impl_Frac_at_impl_areValid_1kp.loop 2)) (kAt ([impl_areValid_1F n]) ty 19 0 n slices_IndexFunc_impl_Frac_impl_Frac_at_impl_areValid_1kp slices_IndexFunc_impl_Frac_impl_Frac_at_impl_areValid_1c [1, 0, 1, 0] [] (ending ty 0 Go.Proofs.Try.f259.results.toList slices_IndexFunc_impl_Frac_impl_Frac_at_impl_areValid_1rs slices_IndexFunc_impl_Frac_impl_Frac_at_impl_areValid_1bs)) (k + 1) { env := [(8, .one (.sc (.int .i64 v8))), (0, .one (.list true (.pair (.int .i64) (.int .i64)) v0)), (1, .one (.clos 230 [])), (7, .one (.sc (.int .i64 v7)))], bx := [], nx := 0 } = slices_IndexFunc_impl_Frac_impl_Frac_at_impl_areValid_1_t2 n (fun v8 v0 v7 => iter (interp ([impl_areValid_1F n]) ty 19 0 n slices_IndexFunc_impl_Frac_impl_Frac_at_impl_areValid_1kp (codeAt slices_IndexFunc_impl_Frac_impl_Frac_at_impl_areValid_1c [1, 0, 1, 0, 0])) (canon 0 (slices_IndexFunc_impl_Frac_impl_Frac_at_impl_areValid_1kp.loop 2)) (kAt ([impl_areValid_1F n]) ty 19 0 n slices_IndexFunc_impl_Frac_impl_Frac_at_impl_areValid_1kp slices_IndexFunc_impl_Frac_impl_Frac_at_impl_areValid_1c [1, 0, 1, 0] [] (ending ty 0 Go.Proofs.Try.f259.results.toList slices_IndexFunc_impl_Frac_impl_Frac_at_impl_areValid_1rs slices_IndexFunc_impl_Frac_impl_Frac_at_impl_areValid_1bs)) k { env := [(8, .one (.sc (.int .i64 v8))), (0, .one (.list true (.pair (.int .i64) (.int .i64)) v0)), (1, .one (.clos 230 [])), (7, .one (.sc (.int .i64 v7)))], bx := [], nx := 0 }) v8 v0 v7 := by kernel_rfl
    rw [h]
    have e := congrArg (fun g => slices_IndexFunc_impl_Frac_impl_Frac_at_impl_areValid_1_t2 n g v8 v0 v7) (funext fun v8 => funext fun v0 => funext fun v7 => slices_IndexFunc_impl_Frac_impl_Frac_at_impl_areValid_1_l2_eq n k v8 v0 v7)
    exact e

theorem slices_IndexFunc_impl_Frac_impl_Frac_at_impl_areValid_1_eq (n : Nat) (a0 : List ((Int) × (Int))) : runBody ([impl_areValid_1F n]) ty 19 n slices_IndexFunc_impl_Frac_impl_Frac_at_impl_areValid_1kp slices_IndexFunc_impl_Frac_impl_Frac_at_impl_areValid_1c Go.Proofs.Try.f259.results.toList slices_IndexFunc_impl_Frac_impl_Frac_at_impl_areValid_1rs slices_IndexFunc_impl_Frac_impl_Frac_at_impl_areValid_1sp slices_IndexFunc_impl_Frac_impl_Frac_at_impl_areValid_1bs (a0, ((), ())) () = slices_IndexFunc_impl_Frac_impl_Frac_at_impl_areValid_1 n a0 := by
  have h : runBody ([impl_areValid_1F n]) ty 19 n slices_IndexFunc_impl_Frac_impl_Frac_at_impl_areValid_1kp slices_IndexFunc_impl_Frac_impl_Frac_at_impl_areValid_1c Go.Proofs.Try.f259.results.toList slices_IndexFunc_impl_Frac_impl_Frac_at_impl_areValid_1rs slices_IndexFunc_impl_Frac_impl_Frac_at_impl_areValid_1sp slices_IndexFunc_impl_Frac_impl_Frac_at_impl_areValid_1bs (a0, ((), ())) () = slices_IndexFunc_impl_Frac_impl_Frac_at_impl_areValid_1_t n (fun k v8 v0 v7 => iter (interp ([impl_areValid_1F n]) ty 19 0 n slices_IndexFunc_impl_Frac_impl_Frac_at_impl_areValid_1kp (codeAt slices_IndexFunc_impl_Frac_impl_Frac_at_impl_areValid_1c [1, 0, 1, 0, 0])) (canon 0 (slices_IndexFunc_impl_Frac_impl_Frac_at_impl_areValid_1kp.loop 2)) (kAt ([impl_areValid_1F n]) ty 19 0 n slices_IndexFunc_impl_Frac_impl_Frac_at_impl_areValid_1kp slices_IndexFunc_impl_Frac_impl_Frac_at_impl_areValid_1c [1, 0, 1, 0] [] (ending ty 0 Go.Proofs.Try.f259.results.toList slices_IndexFunc_impl_Frac_impl_Frac_at_impl_areValid_1rs slices_IndexFunc_impl_Frac_impl_Frac_at_impl_areValid_1bs)) k { env := [(8, .one (.sc (.int .i64 v8))), (0, .one (.list true (.pair (.int .i64) (.int .i64)) v0)), (1, .one (.clos 230 [])), (7, .one (.sc (.int .i64 v7)))], bx := [], nx := 0 }) a0 := by kernel_rfl
  rw [h]
  have e := congrArg (fun h2 => slices_IndexFunc_impl_Frac_impl_Frac_at_impl_areValid_1_t n h2 a0) (funext fun k => funext fun v8 => funext fun v0 => funext fun v7 => slices_IndexFunc_impl_Frac_impl_Frac_at_impl_areValid_1_l2_eq n k v8 v0 v7)
  exact e

theorem slices_IndexFunc_impl_Frac_impl_Frac_at_impl_areValid_1_ok (n : Nat) : FunOk P (slices_IndexFunc_impl_Frac_impl_Frac_at_impl_areValid_1F n) :=
  funOk_mk (C := [impl_areValid_1F n]) (N := 19) (kp := slices_IndexFunc_impl_Frac_impl_Frac_at_impl_areValid_1kp) (c := slices_IndexFunc_impl_Frac_impl_Frac_at_impl_areValid_1c) (n := n) (G := fun x y => slices_IndexFunc_impl_Frac_impl_Frac_at_impl_areValid_1 n x.1) follows (AllOk.mem (⟨impl_areValid_1_ok n, trivial⟩ : AllOk P ([impl_areValid_1F n]))) (by kernel_rfl : P.funcs[259]? = some Go.Proofs.Try.f259) (by kernel_rfl) (by kernel_rfl) (by kernel_rfl)
    (fun x y => slices_IndexFunc_impl_Frac_impl_Frac_at_impl_areValid_1_eq n x.1) (fun _ _ => map_same (fun _ => rfl) _) (fun _ _ _ _ => rfl)

abbrev slices_ContainsFunc_impl_Frac_impl_Frac_at_impl_areValid_1sp : List Sp := [.v false (.list (.pair (.int .i64) (.int .i64))), .cl 230 []]
abbrev slices_ContainsFunc_impl_Frac_impl_Frac_at_impl_areValid_1bs : List (Bs × Bool) := []
abbrev slices_ContainsFunc_impl_Frac_impl_Frac_at_impl_areValid_1rs : List (Bool × List Rp) := [(false, [.v false .bool])]
noncomputable def slices_ContainsFunc_impl_Frac_impl_Frac_at_impl_areValid_1kp : Keep := { loop := fun id => match id with | _ => ([], []), join := fun id => match id with | _ => none }
noncomputable def slices_ContainsFunc_impl_Frac_impl_Frac_at_impl_areValid_1c : Code := bodyOf Go.Proofs.Try.f229
noncomputable def slices_ContainsFunc_impl_Frac_impl_Frac_at_impl_areValid_1F (n : Nat) : Fun := { id := 229, sp := slices_ContainsFunc_impl_Frac_impl_Frac_at_impl_areValid_1sp, bs := slices_ContainsFunc_impl_Frac_impl_Frac_at_impl_areValid_1bs, rs := slices_ContainsFunc_impl_Frac_impl_Frac_at_impl_areValid_1rs, f := fun x y => slices_ContainsFunc_impl_Frac_impl_Frac_at_impl_areValid_1 n x.1 }

theorem slices_ContainsFunc_impl_Frac_impl_Frac_at_impl_areValid_1_eq (n : Nat) (a0 : List ((Int) × (Int))) : runBody ([slices_IndexFunc_impl_Frac_impl_Frac_at_impl_areValid_1F n]) ty 9 n slices_ContainsFunc_impl_Frac_impl_Frac_at_impl_areValid_1kp slices_ContainsFunc_impl_Frac_impl_Frac_at_impl_areValid_1c Go.Proofs.Try.f229.results.toList slices_ContainsFunc_impl_Frac_impl_Frac_at_impl_areValid_1rs slices_ContainsFunc_impl_Frac_impl_Frac_at_impl_areValid_1sp slices_ContainsFunc_impl_Frac_impl_Frac_at_impl_areValid_1bs (a0, ((), ())) () = slices_ContainsFunc_impl_Frac_impl_Frac_at_impl_areValid_1 n a0 := by
  have h : runBody ([slices_IndexFunc_impl_Frac_impl_Frac_at_impl_areValid_1F n]) ty 9 n slices_ContainsFunc_impl_Frac_impl_Frac_at_impl_areValid_1kp slices_ContainsFunc_impl_Frac_impl_Frac_at_impl_areValid_1c Go.Proofs.Try.f229.results.toList slices_ContainsFunc_impl_Frac_impl_Frac_at_impl_areValid_1rs slices_ContainsFunc_impl_Frac_impl_Frac_at_impl_areValid_1sp slices_ContainsFunc_impl_Frac_impl_Frac_at_impl_areValid_1bs (a0, ((), ())) () = slices_ContainsFunc_impl_Frac_impl_Frac_at_impl_areValid_1_t n a0 := by kernel_rfl
  rw [h]
  rfl

theorem slices_ContainsFunc_impl_Frac_impl_Frac_at_impl_areValid_1_ok (n : Nat) : FunOk P (slices_ContainsFunc_impl_Frac_impl_Frac_at_impl_areValid_1F n) :=
  funOk_mk (C := [slices_IndexFunc_impl_Frac_impl_Frac_at_impl_areValid_1F n]) (N := 9) (kp := slices_ContainsFunc_impl_Frac_impl_Frac_at_impl_areValid_1kp) (c := slices_ContainsFunc_impl_Frac_impl_Frac_at_impl_areValid_1c) (n := n) (G := fun x y => slices_ContainsFunc_impl_Frac_impl_Frac_at_impl_areValid_1 n x.1) follows (AllOk.mem (⟨slices_IndexFunc_impl_Frac_impl_Frac_at_impl_areValid_1_ok n, trivial⟩ : AllOk P ([slices_IndexFunc_impl_Frac_impl_Frac_at_impl_areValid_1F n]))) (by kernel_rfl : P.funcs[229]? = some Go.Proofs.Try.f229) (by kernel_rfl) (by kernel_rfl) (by kernel_rfl)
    (fun x y => slices_ContainsFunc_impl_Frac_impl_Frac_at_impl_areValid_1_eq n x.1) (fun _ _ => map_same (fun _ => rfl) _) (fun _ _ _ _ => rfl)

abbrev impl_areValidsp : List Sp := [.v false (.list (.pair (.int .i64) (.int .i64)))]
abbrev impl_areValidbs : List (Bs × Bool) := []
abbrev impl_areValidrs : List (Bool × List Rp) := [(false, [.v false .bool])]
noncomputable def impl_areValidkp : Keep := { loop := fun id => match id with | _ => ([], []), join := fun id => match id with | _ => none }
noncomputable def impl_areValidc : Code := bodyOf Go.Proofs.Try.f121
noncomputable def impl_areValidF (n : Nat) : Fun := { id := 121, sp := impl_areValidsp, bs := impl_areValidbs, rs := impl_areValidrs, f := fun x y => impl_areValid n x.1 }

theorem impl_areValid_eq (n : Nat) (a0 : List ((Int) × (Int))) : runBody ([slices_ContainsFunc_impl_Frac_impl_Frac_at_impl_areValid_1F n]) ty 6 n impl_areValidkp impl_areValidc Go.Proofs.Try.f121.results.toList impl_areValidrs impl_areValidsp impl_areValidbs (a0, ()) () = impl_areValid n a0 := by
  have h : runBody ([slices_ContainsFunc_impl_Frac_impl_Frac_at_impl_areValid_1F n]) ty 6 n impl_areValidkp impl_areValidc Go.Proofs.Try.f121.results.toList impl_areValidrs impl_areValidsp impl_areValidbs (a0, ()) () = impl_areValid_t n a0 := by kernel_rfl
  rw [h]
  rfl

theorem impl_areValid_ok (n : Nat) : FunOk P (impl_areValidF n) :=
  funOk_mk (C := [slices_ContainsFunc_impl_Frac_impl_Frac_at_impl_areValid_1F n]) (N := 6) (kp := impl_areValidkp) (c := impl_areValidc) (n := n) (G := fun x y => impl_areValid n x.1) follows (AllOk.mem (⟨slices_ContainsFunc_impl_Frac_impl_Frac_at_impl_areValid_1_ok n, trivial⟩ : AllOk P ([slices_ContainsFunc_impl_Frac_impl_Frac_at_impl_areValid_1F n]))) (by kernel_rfl : P.funcs[121]? = some Go.Proofs.Try.f121) (by kernel_rfl) (by kernel_rfl) (by kernel_rfl)
    (fun x y => impl_areValid_eq n x.1) (fun _ _ => map_same (fun _ => rfl) _) (fun _ _ _ _ => rfl)

abbrev impl_sizesp : List Sp := [.v true (.pair (.int .i64) (.int .i64))]
abbrev impl_sizebs : List (Bs × Bool) := []
abbrev impl_sizers : List (Bool × List Rp) := [(true, [.v false (.pair (.int .i64) (.int .i64))])]
noncomputable def impl_sizekp : Keep := { loop := fun id => match id with | _ => ([], []), join := fun id => match id with | _ => none }
noncomputable def impl_sizec : Code := bodyOf Go.Proofs.Try.f139
noncomputable def impl_sizeF (n : Nat) : Fun := { id := 139, sp := impl_sizesp, bs := impl_sizebs, rs := impl_sizers, f := fun x y => impl_size n x.1 }

theorem impl_size_eq (n : Nat) (a0 : (Int) × (Int)) : runBody ([]) ty 12 n impl_sizekp impl_sizec Go.Proofs.Try.f139.results.toList impl_sizers impl_sizesp impl_sizebs (a0, ()) () = impl_size n a0 := by
  have h : runBody ([]) ty 12 n impl_sizekp impl_sizec Go.Proofs.Try.f139.results.toList impl_sizers impl_sizesp impl_sizebs (a0, ()) () = impl_size_t n a0 := by kernel_rfl
  rw [h]
  rfl

theorem impl_size_ok (n : Nat) : FunOk P (impl_sizeF n) :=
  funOk_mk (C := []) (N := 12) (kp := impl_sizekp) (c := impl_sizec) (n := n) (G := fun x y => impl_size n x.1) follows (AllOk.mem (trivial : AllOk P ([]))) (by kernel_rfl : P.funcs[139]? = some Go.Proofs.Try.f139) (by kernel_rfl) (by kernel_rfl) (by kernel_rfl)
    (fun x y => impl_size_eq n x.1) (fun _ _ => map_same (fun _ => rfl) _) (fun _ _ _ _ => rfl)

abbrev impl_fracOfsp : List Sp := [.v false (.int .i64), .v false (.int .i64)]
abbrev impl_fracOfbs : List (Bs × Bool) := []
abbrev impl_fracOfrs : List (Bool × List Rp) := [(true, [.v false (.pair (.int .i64) (.int .i64))]), (false, [.v false .bool])]
noncomputable def impl_fracOfkp : Keep := { loop := fun id => match id with | _ => ([], []), join := fun id => match id with | _ => none }
noncomputable def impl_fracOfc : Code := bodyOf Go.Proofs.Try.f177
noncomputable def impl_fracOfF (n : Nat) : Fun := { id := 177, sp := impl_fracOfsp, bs := impl_fracOfbs, rs := impl_fracOfrs, f := fun x y => impl_fracOf n x.1 x.2.1 }

theorem impl_fracOf_eq (n : Nat) (a0 : Int) (a1 : Int) : runBody ([impl_gcdF n, impl_ValidFracF n]) ty 29 n impl_fracOfkp impl_fracOfc Go.Proofs.Try.f177.results.toList impl_fracOfrs impl_fracOfsp impl_fracOfbs (a0, (a1, ())) () = impl_fracOf n a0 a1 := by
  have h : runBody ([impl_gcdF n, impl_ValidFracF n]) ty 29 n impl_fracOfkp impl_fracOfc Go.Proofs.Try.f177.results.toList impl_fracOfrs impl_fracOfsp impl_fracOfbs (a0, (a1, ())) () = impl_fracOf_t n a0 a1 := by kernel_rfl
  rw [h]
  rfl

theorem impl_fracOf_ok (n : Nat) : FunOk P (impl_fracOfF n) :=
  funOk_mk (C := [impl_gcdF n, impl_ValidFracF n]) (N := 29) (kp := impl_fracOfkp) (c := impl_fracOfc) (n := n) (G := fun x y => impl_fracOf n x.1 x.2.1) follows (AllOk.mem (⟨impl_gcd_ok n, ⟨impl_ValidFrac_ok n, trivial⟩⟩ : AllOk P ([impl_gcdF n, impl_ValidFracF n]))) (by kernel_rfl : P.funcs[177]? = some Go.Proofs.Try.f177) (by kernel_rfl) (by kernel_rfl) (by kernel_rfl)
    (fun x y => impl_fracOf_eq n x.1 x.2.1) (fun _ _ => map_same (fun _ => rfl) _) (fun _ _ _ _ => rfl)

abbrev impl_zerosp : List Sp := []
abbrev impl_zerobs : List (Bs × Bool) := []
abbrev impl_zerors : List (Bool × List Rp) := [(true, [.v false (.pair (.int .i64) (.int .i64))])]
noncomputable def impl_zerokp : Keep := { loop := fun id => match id with | _ => ([], []), join := fun id => match id with | _ => none }
noncomputable def impl_zeroc : Code := bodyOf Go.Proofs.Try.f204
noncomputable def impl_zeroF (n : Nat) : Fun := { id := 204, sp := impl_zerosp, bs := impl_zerobs, rs := impl_zerors, f := fun x y => impl_zero n }

theorem impl_zero_eq (n : Nat) : runBody ([]) ty 2 n impl_zerokp impl_zeroc Go.Proofs.Try.f204.results.toList impl_zerors impl_zerosp impl_zerobs () () = impl_zero n := by
  have h : runBody ([]) ty 2 n impl_zerokp impl_zeroc Go.Proofs.Try.f204.results.toList impl_zerors impl_zerosp impl_zerobs () () = impl_zero_t n := by kernel_rfl
  rw [h]
  rfl

theorem impl_zero_ok (n : Nat) : FunOk P (impl_zeroF n) :=
  funOk_mk (C := []) (N := 2) (kp := impl_zerokp) (c := impl_zeroc) (n := n) (G := fun x y => impl_zero n) follows (AllOk.mem (trivial : AllOk P ([]))) (by kernel_rfl : P.funcs[204]? = some Go.Proofs.Try.f204) (by kernel_rfl) (by kernel_rfl) (by kernel_rfl)
    (fun x y => impl_zero_eq n) (fun _ _ => map_same (fun _ => rfl) _) (fun _ _ _ _ => rfl)

abbrev impl_calc_toldsp : List Sp := [.ref 0, .v false (.int .i64), .v false (.int .i64)]
abbrev impl_calc_toldbs : List (Bs × Bool) := [(.var 139 .bool, true)]
abbrev impl_calc_toldrs : List (Bool × List Rp) := [(true, [.v false (.pair (.int .i64) (.int .i64))])]
noncomputable def impl_calc_toldkp : Keep := { loop := fun id => match id with | _ => ([], []), join := fun id => match id with | _ => none }
noncomputable def impl_calc_toldc : Code := bodyOf Go.Proofs.Try.f165
noncomputable def impl_calc_toldF (n : Nat) : Fun := { id := 165, sp := impl_calc_toldsp, bs := impl_calc_toldbs, rs := impl_calc_toldrs, f := fun x y => impl_calc_told n x.2.1 x.2.2.1 y.1 }

theorem impl_calc_told_eq (n : Nat) (a1 : Int) (a2 : Int) (b0 : Bool) : runBody ([impl_fracOfF n, impl_zeroF n]) ty 22 n impl_calc_toldkp impl_calc_toldc Go.Proofs.Try.f165.results.toList impl_calc_toldrs impl_calc_toldsp impl_calc_toldbs ((), (a1, (a2, ()))) (b0, ()) = impl_calc_told n a1 a2 b0 := by
  have h : runBody ([impl_fracOfF n, impl_zeroF n]) ty 22 n impl_calc_toldkp impl_calc_toldc Go.Proofs.Try.f165.results.toList impl_calc_toldrs impl_calc_toldsp impl_calc_toldbs ((), (a1, (a2, ()))) (b0, ()) = impl_calc_told_t n a1 a2 b0 := by kernel_rfl
  rw [h]
  rfl

theorem impl_calc_told_ok (n : Nat) : FunOk P (impl_calc_toldF n) :=
  funOk_mk (C := [impl_fracOfF n, impl_zeroF n]) (N := 22) (kp := impl_calc_toldkp) (c := impl_calc_toldc) (n := n) (G := fun x y => impl_calc_told n x.2.1 x.2.2.1 y.1) follows (AllOk.mem (⟨impl_fracOf_ok n, ⟨impl_zero_ok n, trivial⟩⟩ : AllOk P ([impl_fracOfF n, impl_zeroF n]))) (by kernel_rfl : P.funcs[165]? = some Go.Proofs.Try.f165) (by kernel_rfl) (by kernel_rfl) (by kernel_rfl)
    (fun x y => impl_calc_told_eq n x.2.1 x.2.2.1 y.1) (fun _ _ => map_same (fun _ => rfl) _) (fun _ _ _ _ => rfl)

abbrev impl_calc_mulsp : List Sp := [.ref 0, .v true (.pair (.int .i64) (.int .i64)), .v true (.pair (.int .i64) (.int .i64))]
abbrev impl_calc_mulbs : List (Bs × Bool) := [(.var 139 .bool, true)]
abbrev impl_calc_mulrs : List (Bool × List Rp) := [(true, [.v false (.pair (.int .i64) (.int .i64))])]
noncomputable def impl_calc_mulkp : Keep := { loop := fun id => match id with | _ => ([], []), join := fun id => match id with | _ => none }
noncomputable def impl_calc_mulc : Code := bodyOf Go.Proofs.Try.f208
noncomputable def impl_calc_mulF (n : Nat) : Fun := { id := 208, sp := impl_calc_mulsp, bs := impl_calc_mulbs, rs := impl_calc_mulrs, f := fun x y => impl_calc_mul n x.2.1 x.2.2.1 y.1 }

theorem impl_calc_mul_eq (n : Nat) (a1 : (Int) × (Int)) (a2 : (Int) × (Int)) (b0 : Bool) : runBody ([impl_calc_toldF n]) ty 19 n impl_calc_mulkp impl_calc_mulc Go.Proofs.Try.f208.results.toList impl_calc_mulrs impl_calc_mulsp impl_calc_mulbs ((), (a1, (a2, ()))) (b0, ()) = impl_calc_mul n a1 a2 b0 := by
  have h : runBody ([impl_calc_toldF n]) ty 19 n impl_calc_mulkp impl_calc_mulc Go.Proofs.Try.f208.results.toList impl_calc_mulrs impl_calc_mulsp impl_calc_mulbs ((), (a1, (a2, ()))) (b0, ()) = impl_calc_mul_t n a1 a2 b0 := by kernel_rfl
  rw [h]
  rfl

theorem impl_calc_mul_ok (n : Nat) : FunOk P (impl_calc_mulF n) :=
  funOk_mk (C := [impl_calc_toldF n]) (N := 19) (kp := impl_calc_mulkp) (c := impl_calc_mulc) (n := n) (G := fun x y => impl_calc_mul n x.2.1 x.2.2.1 y.1) follows (AllOk.mem (⟨impl_calc_told_ok n, trivial⟩ : AllOk P ([impl_calc_toldF n]))) (by kernel_rfl : P.funcs[208]? = some Go.Proofs.Try.f208) (by kernel_rfl) (by kernel_rfl) (by kernel_rfl)
    (fun x y => impl_calc_mul_eq n x.2.1 x.2.2.1 y.1) (fun _ _ => map_same (fun _ => rfl) _) (fun _ _ _ _ => rfl)

abbrev impl_calc_addsp : List Sp := [.ref 0, .v true (.pair (.int .i64) (.int .i64)), .v true (.pair (.int .i64) (.int .i64))]
abbrev impl_calc_addbs : List (Bs × Bool) := [(.var 139 .bool, true)]
abbrev impl_calc_addrs : List (Bool × List Rp) := [(true, [.v false (.pair (.int .i64) (.int .i64))])]
noncomputable def impl_calc_addkp : Keep := { loop := fun id => match id with | _ => ([], []), join := fun id => match id with | _ => none }
noncomputable def impl_calc_addc : Code := bodyOf Go.Proofs.Try.f175
noncomputable def impl_calc_addF (n : Nat) : Fun := { id := 175, sp := impl_calc_addsp, bs := impl_calc_addbs, rs := impl_calc_addrs, f := fun x y => impl_calc_add n x.2.1 x.2.2.1 y.1 }

theorem impl_calc_add_eq (n : Nat) (a1 : (Int) × (Int)) (a2 : (Int) × (Int)) (b0 : Bool) : runBody ([impl_calc_toldF n]) ty 25 n impl_calc_addkp impl_calc_addc Go.Proofs.Try.f175.results.toList impl_calc_addrs impl_calc_addsp impl_calc_addbs ((), (a1, (a2, ()))) (b0, ()) = impl_calc_add n a1 a2 b0 := by
  have h : runBody ([impl_calc_toldF n]) ty 25 n impl_calc_addkp impl_calc_addc Go.Proofs.Try.f175.results.toList impl_calc_addrs impl_calc_addsp impl_calc_addbs ((), (a1, (a2, ()))) (b0, ()) = impl_calc_add_t n a1 a2 b0 := by kernel_rfl
  rw [h]
  rfl

theorem impl_calc_add_ok (n : Nat) : FunOk P (impl_calc_addF n) :=
  funOk_mk (C := [impl_calc_toldF n]) (N := 25) (kp := impl_calc_addkp) (c := impl_calc_addc) (n := n) (G := fun x y => impl_calc_add n x.2.1 x.2.2.1 y.1) follows (AllOk.mem (⟨impl_calc_told_ok n, trivial⟩ : AllOk P ([impl_calc_toldF n]))) (by kernel_rfl : P.funcs[175]? = some Go.Proofs.Try.f175) (by kernel_rfl) (by kernel_rfl) (by kernel_rfl)
    (fun x y => impl_calc_add_eq n x.2.1 x.2.2.1 y.1) (fun _ _ => map_same (fun _ => rfl) _) (fun _ _ _ _ => rfl)

abbrev impl_ValidScalesp : List Sp := [.v true (.pair (.pair (.int .i64) (.int .i64)) (.list (.pair (.int .i64) (.int .i64))))]
abbrev impl_ValidScalebs : List (Bs × Bool) := []
abbrev impl_ValidScalers : List (Bool × List Rp) := [(false, [.v false .bool])]
noncomputable def impl_ValidScalekp : Keep := { loop := fun id => match id with | 5 => ([34, 1, 3, 32, 33], []) | _ => ([], []), join := fun id => match id with | _ => none }
noncomputable def impl_ValidScalec : Code := bodyOf Go.Proofs.Try.f86
noncomputable def impl_ValidScaleF (n : Nat) : Fun := { id := 86, sp := impl_ValidScalesp, bs := impl_ValidScalebs, rs := impl_ValidScalers, f := fun x y => impl_ValidScale n x.1 }

theorem impl_ValidScale_l5_eq (n : Nat) : ∀ (k : Nat) (v34 : Int) (v32 : List ((Int) × (Int))) (v33 : Int) (b0_0 : Int) (b0_1 : Int) (b0_2 : List ((Int) × (Int))) (b1 : Bool), iter (interp ([impl_ValidFracF n, impl_isUnitF n, impl_withinF n, impl_areValidF n, impl_sizeF n, impl_numF n, impl_calc_mulF n, impl_calc_addF n]) ty 69 0 n impl_ValidScalekp (codeAt impl_ValidScalec [1, 1, 1, 0, 1, 0, 0])) (canon 0 (impl_ValidScalekp.loop 5)) (kAt ([impl_ValidFracF n, impl_isUnitF n, impl_withinF n, impl_areValidF n, impl_sizeF n, impl_numF n, impl_calc_mulF n, impl_calc_addF n]) ty 69 0 n impl_ValidScalekp impl_ValidScalec [1, 1, 1, 0, 1, 0] [] (ending ty 0 Go.Proofs.Try.f86.results.toList impl_ValidScalers impl_ValidScalebs)) k { env := [(34, .one (.sc (.int .i64 v34))), (1, .one (.ref 0 0 0 0 0 0)), (3, .one (.ref 1 0 0 0 0 0)), (32, .one (.list true (.pair (.int .i64) (.int .i64)) v32)), (33, .one (.sc (.int .i64 v33)))], bx := [(0, .var 91 [.sc (.int .i64 b0_0), .sc (.int .i64 b0_1), .list true (.pair (.int .i64) (.int .i64)) b0_2]), (1, .var 139 [.sc (.bool b1)])], nx := 2 } = impl_ValidScale_l5 n k v34 v32 v33 b0_0 b0_1 b0_2 b1
  | 0, _, _, _, _, _, _, _ => by kernel_rfl
  | k + 1, v34, v32, v33, b0_0, b0_1, b0_2, b1 => by
    have h : iter (interp ([impl_ValidFracF n, impl_isUnitF n, impl_withinF n, impl_areValidF n, impl_sizeF n, impl_numF n, impl_calc_mulF n, impl_calc_addF n]) ty 69 0 n impl_ValidScalekp (codeAt impl_ValidScalec [1, 1, 1, 0, 1, 0, 0])) (canon 0 (impl_ValidScalekp.loop 5)) (kAt ([impl_ValidFracF n, impl_isUnitF n, impl_withinF n, impl_areValidF n, impl_sizeF n, impl_numF n, impl_calc_mulF n, impl_calc_addF n]) ty 69 0 n impl_ValidScalekp impl_ValidScalec [1, 1, 1, 0, 1, 0] [] (ending ty 0 Go.Proofs.Try.f86.results.toList impl_ValidScalers impl_ValidScalebs)) (k + 1) { env := [(34, .one (.sc (.int .i64 v34))), (1, .one (.ref 0 0 0 0 0 0)), (3, .one (.ref 1 0 0 0 0 0)), (32, .one (.list true (.pair (.int .i64) (.int .i64)) v32)), (33, .one (.sc (.int .i64 v33)))], bx := [(0, .var 91 [.sc (.int .i64 b0_0), .sc (.int .i64 b0_1), .list true (.pair (.int .i64) (.int .i64)) b0_2]), (1, .var 139 [.sc (.bool b1)])], nx := 2 } = impl_ValidScale_t5 n (fun v34 v32 v33 b0_0 b0_1 b0_2 b1 => iter (interp ([impl_ValidFracF n, impl_isUnitF n, impl_withinF n, impl_areValidF n, impl_sizeF n, impl_numF n, impl_calc_mulF n, impl_calc_addF n]) ty 69 0 n impl_ValidScalekp (codeAt impl_ValidScalec [1, 1, 1, 0, 1, 0, 0])) (canon 0 (impl_ValidScalekp.loop 5)) (kAt ([impl_ValidFracF n, impl_isUnitF n, impl_withinF n, impl_areValidF n, impl_sizeF n, impl_numF n, impl_calc_mulF n, impl_calc_addF n]) ty 69 0 n impl_ValidScalekp impl_ValidScalec [1, 1, 1, 0, 1, 0] [] (ending ty 0 Go.Proofs.Try.f86.results.toList impl_ValidScalers impl_ValidScalebs)) k { env := [(34, .one (.sc (.int .i64 v34))), (1, .one (.ref 0 0 0 0 0 0)), (3, .one (.ref 1 0 0 0 0 0)), (32, .one (.list true (.pair (.int .i64) (.int .i64)) v32)), (33, .one (.sc (.int .i64 v33)))], bx := [(0, .var 91 [.sc (.int .i64 b0_0), .sc (.int .i64 b0_1), .list true (.pair (.int .i64) (.int .i64)) b0_2]), (1, .var 139 [.sc (.bool b1)])], nx := 2 }) v34 v32 v33 b0_0 b0_1 b0_2 b1 := by kernel_rfl
    rw [h]
    have e := congrArg (fun g => impl_ValidScale_t5 n g v34 v32 v33 b0_0 b0_1 b0_2 b1) (funext fun v34 => funext fun v32 => funext fun v33 => funext fun b0_0 => funext fun b0_1 => funext fun b0_2 => funext fun b1 => impl_ValidScale_l5_eq n k v34 v32 v33 b0_0 b0_1 b0_2 b1)
    exact e

theorem impl_ValidScale_eq (n : Nat) (a0 : ((Int) × (Int)) × (List ((Int) × (Int)))) : runBody ([impl_ValidFracF n, impl_isUnitF n, impl_withinF n, impl_areValidF n, impl_sizeF n, impl_numF n, impl_calc_mulF n, impl_calc_addF n]) ty 69 n impl_ValidScalekp impl_ValidScalec Go.Proofs.Try.f86.results.toList impl_ValidScalers impl_ValidScalesp impl_ValidScalebs (a0, ()) () = impl_ValidScale n a0 := by
  have h : runBody ([impl_ValidFracF n, impl_isUnitF n, impl_withinF n, impl_areValidF n, impl_sizeF n, impl_numF n, impl_calc_mulF n, impl_calc_addF n]) ty 69 n impl_ValidScalekp impl_ValidScalec Go.Proofs.Try.f86.results.toList impl_ValidScalers impl_ValidScalesp impl_ValidScalebs (a0, ()) () = impl_ValidScale_t n (fun k v34 v32 v33 b0_0 b0_1 b0_2 b1 => iter (interp ([impl_ValidFracF n, impl_isUnitF n, impl_withinF n, impl_areValidF n, impl_sizeF n, impl_numF n, impl_calc_mulF n, impl_calc_addF n]) ty 69 0 n impl_ValidScalekp (codeAt impl_ValidScalec [1, 1, 1, 0, 1, 0, 0])) (canon 0 (impl_ValidScalekp.loop 5)) (kAt ([impl_ValidFracF n, impl_isUnitF n, impl_withinF n, impl_areValidF n, impl_sizeF n, impl_numF n, impl_calc_mulF n, impl_calc_addF n]) ty 69 0 n impl_ValidScalekp impl_ValidScalec [1, 1, 1, 0, 1, 0] [] (ending ty 0 Go.Proofs.Try.f86.results.toList impl_ValidScalers impl_ValidScalebs)) k { env := [(34, .one (.sc (.int .i64 v34))), (1, .one (.ref 0 0 0 0 0 0)), (3, .one (.ref 1 0 0 0 0 0)), (32, .one (.list true (.pair (.int .i64) (.int .i64)) v32)), (33, .one (.sc (.int .i64 v33)))], bx := [(0, .var 91 [.sc (.int .i64 b0_0), .sc (.int .i64 b0_1), .list true (.pair (.int .i64) (.int .i64)) b0_2]), (1, .var 139 [.sc (.bool b1)])], nx := 2 }) a0 := by kernel_rfl
  rw [h]
  have e := congrArg (fun h5 => impl_ValidScale_t n h5 a0) (funext fun k => funext fun v34 => funext fun v32 => funext fun v33 => funext fun b0_0 => funext fun b0_1 => funext fun b0_2 => funext fun b1 => impl_ValidScale_l5_eq n k v34 v32 v33 b0_0 b0_1 b0_2 b1)
  exact e

theorem impl_ValidScale_ok (n : Nat) : FunOk P (impl_ValidScaleF n) :=
  funOk_mk (C := [impl_ValidFracF n, impl_isUnitF n, impl_withinF n, impl_areValidF n, impl_sizeF n, impl_numF n, impl_calc_mulF n, impl_calc_addF n]) (N := 69) (kp := impl_ValidScalekp) (c := impl_ValidScalec) (n := n) (G := fun x y => impl_ValidScale n x.1) follows (AllOk.mem (⟨impl_ValidFrac_ok n, ⟨impl_isUnit_ok n, ⟨impl_within_ok n, ⟨impl_areValid_ok n, ⟨impl_size_ok n, ⟨impl_num_ok n, ⟨impl_calc_mul_ok n, ⟨impl_calc_add_ok n, trivial⟩⟩⟩⟩⟩⟩⟩⟩ : AllOk P ([impl_ValidFracF n, impl_isUnitF n, impl_withinF n, impl_areValidF n, impl_sizeF n, impl_numF n, impl_calc_mulF n, impl_calc_addF n]))) (by kernel_rfl : P.funcs[86]? = some Go.Proofs.Try.f86) (by kernel_rfl) (by kernel_rfl) (by kernel_rfl)
    (fun x y => impl_ValidScale_eq n x.1) (fun _ _ => map_same (fun _ => rfl) _) (fun _ _ _ _ => rfl)

abbrev impl_ValidVerniersp : List Sp := [.v true (.pair (.int .i64) .bool)]
abbrev impl_ValidVernierbs : List (Bs × Bool) := []
abbrev impl_ValidVernierrs : List (Bool × List Rp) := [(false, [.v false .bool])]
noncomputable def impl_ValidVernierkp : Keep := { loop := fun id => match id with | _ => ([], []), join := fun id => match id with | _ => none }
noncomputable def impl_ValidVernierc : Code := bodyOf Go.Proofs.Try.f87
noncomputable def impl_ValidVernierF (n : Nat) : Fun := { id := 87, sp := impl_ValidVerniersp, bs := impl_ValidVernierbs, rs := impl_ValidVernierrs, f := fun x y => impl_ValidVernier n x.1 }

theorem impl_ValidVernier_eq (n : Nat) (a0 : (Int) × (Bool)) : runBody ([impl_withinF n]) ty 6 n impl_ValidVernierkp impl_ValidVernierc Go.Proofs.Try.f87.results.toList impl_ValidVernierrs impl_ValidVerniersp impl_ValidVernierbs (a0, ()) () = impl_ValidVernier n a0 := by
  have h : runBody ([impl_withinF n]) ty 6 n impl_ValidVernierkp impl_ValidVernierc Go.Proofs.Try.f87.results.toList impl_ValidVernierrs impl_ValidVerniersp impl_ValidVernierbs (a0, ()) () = impl_ValidVernier_t n a0 := by kernel_rfl
  rw [h]
  rfl

theorem impl_ValidVernier_ok (n : Nat) : FunOk P (impl_ValidVernierF n) :=
  funOk_mk (C := [impl_withinF n]) (N := 6) (kp := impl_ValidVernierkp) (c := impl_ValidVernierc) (n := n) (G := fun x y => impl_ValidVernier n x.1) follows (AllOk.mem (⟨impl_within_ok n, trivial⟩ : AllOk P ([impl_withinF n]))) (by kernel_rfl : P.funcs[87]? = some Go.Proofs.Try.f87) (by kernel_rfl) (by kernel_rfl) (by kernel_rfl)
    (fun x y => impl_ValidVernier_eq n x.1) (fun _ _ => map_same (fun _ => rfl) _) (fun _ _ _ _ => rfl)

abbrev impl_lineCodesp : List Sp := [.v true (.pair (.pair (.int .i64) (.int .i64)) (.list (.pair (.int .i64) (.int .i64)))), .v true (.pair (.int .i64) .bool), .v true (.pair (.int .i64) (.int .i64)), .v false (.int .i64)]
abbrev impl_lineCodebs : List (Bs × Bool) := []
abbrev impl_lineCoders : List (Bool × List Rp) := [(false, [.v false (.int .i64)])]
noncomputable def impl_lineCodekp : Keep := { loop := fun id => match id with | _ => ([], []), join := fun id => match id with | _ => none }
noncomputable def impl_lineCodec : Code := bodyOf Go.Proofs.Try.f201
noncomputable def impl_lineCodeF (n : Nat) : Fun := { id := 201, sp := impl_lineCodesp, bs := impl_lineCodebs, rs := impl_lineCoders, f := fun x y => impl_lineCode n x.1 x.2.1 x.2.2.1 x.2.2.2.1 }

theorem impl_lineCode_eq (n : Nat) (a0 : ((Int) × (Int)) × (List ((Int) × (Int)))) (a1 : (Int) × (Bool)) (a2 : (Int) × (Int)) (a3 : Int) : runBody ([impl_ValidScaleF n, impl_ValidVernierF n, impl_ValidFracF n, impl_withinF n]) ty 30 n impl_lineCodekp impl_lineCodec Go.Proofs.Try.f201.results.toList impl_lineCoders impl_lineCodesp impl_lineCodebs (a0, (a1, (a2, (a3, ())))) () = impl_lineCode n a0 a1 a2 a3 := by
  have h : runBody ([impl_ValidScaleF n, impl_ValidVernierF n, impl_ValidFracF n, impl_withinF n]) ty 30 n impl_lineCodekp impl_lineCodec Go.Proofs.Try.f201.results.toList impl_lineCoders impl_lineCodesp impl_lineCodebs (a0, (a1, (a2, (a3, ())))) () = impl_lineCode_t n a0 a1 a2 a3 := by kernel_rfl
  rw [h]
  rfl

theorem impl_lineCode_ok (n : Nat) : FunOk P (impl_lineCodeF n) :=
  funOk_mk (C := [impl_ValidScaleF n, impl_ValidVernierF n, impl_ValidFracF n, impl_withinF n]) (N := 30) (kp := impl_lineCodekp) (c := impl_lineCodec) (n := n) (G := fun x y => impl_lineCode n x.1 x.2.1 x.2.2.1 x.2.2.2.1) follows (AllOk.mem (⟨impl_ValidScale_ok n, ⟨impl_ValidVernier_ok n, ⟨impl_ValidFrac_ok n, ⟨impl_within_ok n, trivial⟩⟩⟩⟩ : AllOk P ([impl_ValidScaleF n, impl_ValidVernierF n, impl_ValidFracF n, impl_withinF n]))) (by kernel_rfl : P.funcs[201]? = some Go.Proofs.Try.f201) (by kernel_rfl) (by kernel_rfl) (by kernel_rfl)
    (fun x y => impl_lineCode_eq n x.1 x.2.1 x.2.2.1 x.2.2.2.1) (fun _ _ => map_same (fun _ => rfl) _) (fun _ _ _ _ => rfl)

abbrev impl_marksp : List Sp := [.v true (.pair (.pair (.int .i64) (.int .i64)) (.list (.pair (.int .i64) (.int .i64)))), .v false (.int .i64)]
abbrev impl_markbs : List (Bs × Bool) := []
abbrev impl_markrs : List (Bool × List Rp) := [(true, [.v false (.pair (.int .i64) (.int .i64))])]
noncomputable def impl_markkp : Keep := { loop := fun id => match id with | _ => ([], []), join := fun id => match id with | _ => none }
noncomputable def impl_markc : Code := bodyOf Go.Proofs.Try.f202
noncomputable def impl_markF (n : Nat) : Fun := { id := 202, sp := impl_marksp, bs := impl_markbs, rs := impl_markrs, f := fun x y => impl_mark n x.1 x.2.1 }

theorem impl_mark_eq (n : Nat) (a0 : ((Int) × (Int)) × (List ((Int) × (Int)))) (a1 : Int) : runBody ([impl_numF n, impl_calc_mulF n, impl_calc_addF n]) ty 21 n impl_markkp impl_markc Go.Proofs.Try.f202.results.toList impl_markrs impl_marksp impl_markbs (a0, (a1, ())) () = impl_mark n a0 a1 := by
  have h : runBody ([impl_numF n, impl_calc_mulF n, impl_calc_addF n]) ty 21 n impl_markkp impl_markc Go.Proofs.Try.f202.results.toList impl_markrs impl_marksp impl_markbs (a0, (a1, ())) () = impl_mark_t n a0 a1 := by kernel_rfl
  rw [h]
  rfl

theorem impl_mark_ok (n : Nat) : FunOk P (impl_markF n) :=
  funOk_mk (C := [impl_numF n, impl_calc_mulF n, impl_calc_addF n]) (N := 21) (kp := impl_markkp) (c := impl_markc) (n := n) (G := fun x y => impl_mark n x.1 x.2.1) follows (AllOk.mem (⟨impl_num_ok n, ⟨impl_calc_mul_ok n, ⟨impl_calc_add_ok n, trivial⟩⟩⟩ : AllOk P ([impl_numF n, impl_calc_mulF n, impl_calc_addF n]))) (by kernel_rfl : P.funcs[202]? = some Go.Proofs.Try.f202) (by kernel_rfl) (by kernel_rfl) (by kernel_rfl)
    (fun x y => impl_mark_eq n x.1 x.2.1) (fun _ _ => map_same (fun _ => rfl) _) (fun _ _ _ _ => rfl)

abbrev impl_calc_divsp : List Sp := [.ref 0, .v true (.pair (.int .i64) (.int .i64)), .v true (.pair (.int .i64) (.int .i64))]
abbrev impl_calc_divbs : List (Bs × Bool) := [(.var 139 .bool, true)]
abbrev impl_calc_divrs : List (Bool × List Rp) := [(true, [.v false (.pair (.int .i64) (.int .i64))])]
noncomputable def impl_calc_divkp : Keep := { loop := fun id => match id with | _ => ([], []), join := fun id => match id with | _ => none }
noncomputable def impl_calc_divc : Code := bodyOf Go.Proofs.Try.f126
noncomputable def impl_calc_divF (n : Nat) : Fun := { id := 126, sp := impl_calc_divsp, bs := impl_calc_divbs, rs := impl_calc_divrs, f := fun x y => impl_calc_div n x.2.1 x.2.2.1 y.1 }

theorem impl_calc_div_eq (n : Nat) (a1 : (Int) × (Int)) (a2 : (Int) × (Int)) (b0 : Bool) : runBody ([impl_zeroF n, impl_calc_toldF n]) ty 26 n impl_calc_divkp impl_calc_divc Go.Proofs.Try.f126.results.toList impl_calc_divrs impl_calc_divsp impl_calc_divbs ((), (a1, (a2, ()))) (b0, ()) = impl_calc_div n a1 a2 b0 := by
  have h : runBody ([impl_zeroF n, impl_calc_toldF n]) ty 26 n impl_calc_divkp impl_calc_divc Go.Proofs.Try.f126.results.toList impl_calc_divrs impl_calc_divsp impl_calc_divbs ((), (a1, (a2, ()))) (b0, ()) = impl_calc_div_t n a1 a2 b0 := by kernel_rfl
  rw [h]
  rfl

theorem impl_calc_div_ok (n : Nat) : FunOk P (impl_calc_divF n) :=
  funOk_mk (C := [impl_zeroF n, impl_calc_toldF n]) (N := 26) (kp := impl_calc_divkp) (c := impl_calc_divc) (n := n) (G := fun x y => impl_calc_div n x.2.1 x.2.2.1 y.1) follows (AllOk.mem (⟨impl_zero_ok n, ⟨impl_calc_told_ok n, trivial⟩⟩ : AllOk P ([impl_zeroF n, impl_calc_toldF n]))) (by kernel_rfl : P.funcs[126]? = some Go.Proofs.Try.f126) (by kernel_rfl) (by kernel_rfl) (by kernel_rfl)
    (fun x y => impl_calc_div_eq n x.2.1 x.2.2.1 y.1) (fun _ _ => map_same (fun _ => rfl) _) (fun _ _ _ _ => rfl)

abbrev impl_calc_linesp : List Sp := [.ref 0, .v true (.pair (.pair (.int .i64) (.int .i64)) (.list (.pair (.int .i64) (.int .i64)))), .v true (.pair (.int .i64) .bool), .v true (.pair (.int .i64) (.int .i64)), .v false (.int .i64)]
abbrev impl_calc_linebs : List (Bs × Bool) := [(.var 139 .bool, true)]
abbrev impl_calc_liners : List (Bool × List Rp) := [(true, [.v false (.pair (.int .i64) (.int .i64))])]
noncomputable def impl_calc_linekp : Keep := { loop := fun id => match id with | _ => ([], []), join := fun id => match id with | _ => none }
noncomputable def impl_calc_linec : Code := bodyOf Go.Proofs.Try.f203
noncomputable def impl_calc_lineF (n : Nat) : Fun := { id := 203, sp := impl_calc_linesp, bs := impl_calc_linebs, rs := impl_calc_liners, f := fun x y => impl_calc_line n x.2.1 x.2.2.1 x.2.2.2.1 x.2.2.2.2.1 y.1 }

theorem impl_calc_line_eq (n : Nat) (a1 : ((Int) × (Int)) × (List ((Int) × (Int)))) (a2 : (Int) × (Bool)) (a3 : (Int) × (Int)) (a4 : Int) (b0 : Bool) : runBody ([impl_numF n, impl_calc_mulF n, impl_calc_divF n, impl_calc_addF n]) ty 36 n impl_calc_linekp impl_calc_linec Go.Proofs.Try.f203.results.toList impl_calc_liners impl_calc_linesp impl_calc_linebs ((), (a1, (a2, (a3, (a4, ()))))) (b0, ()) = impl_calc_line n a1 a2 a3 a4 b0 := by
  have h : runBody ([impl_numF n, impl_calc_mulF n, impl_calc_divF n, impl_calc_addF n]) ty 36 n impl_calc_linekp impl_calc_linec Go.Proofs.Try.f203.results.toList impl_calc_liners impl_calc_linesp impl_calc_linebs ((), (a1, (a2, (a3, (a4, ()))))) (b0, ()) = impl_calc_line_t n a1 a2 a3 a4 b0 := by kernel_rfl
  rw [h]
  rfl

theorem impl_calc_line_ok (n : Nat) : FunOk P (impl_calc_lineF n) :=
  funOk_mk (C := [impl_numF n, impl_calc_mulF n, impl_calc_divF n, impl_calc_addF n]) (N := 36) (kp := impl_calc_linekp) (c := impl_calc_linec) (n := n) (G := fun x y => impl_calc_line n x.2.1 x.2.2.1 x.2.2.2.1 x.2.2.2.2.1 y.1) follows (AllOk.mem (⟨impl_num_ok n, ⟨impl_calc_mul_ok n, ⟨impl_calc_div_ok n, ⟨impl_calc_add_ok n, trivial⟩⟩⟩⟩ : AllOk P ([impl_numF n, impl_calc_mulF n, impl_calc_divF n, impl_calc_addF n]))) (by kernel_rfl : P.funcs[203]? = some Go.Proofs.Try.f203) (by kernel_rfl) (by kernel_rfl) (by kernel_rfl)
    (fun x y => impl_calc_line_eq n x.2.1 x.2.2.1 x.2.2.2.1 x.2.2.2.2.1 y.1) (fun _ _ => map_same (fun _ => rfl) _) (fun _ _ _ _ => rfl)

abbrev impl_calc_subsp : List Sp := [.ref 0, .v true (.pair (.int .i64) (.int .i64)), .v true (.pair (.int .i64) (.int .i64))]
abbrev impl_calc_subbs : List (Bs × Bool) := [(.var 139 .bool, true)]
abbrev impl_calc_subrs : List (Bool × List Rp) := [(true, [.v false (.pair (.int .i64) (.int .i64))])]
noncomputable def impl_calc_subkp : Keep := { loop := fun id => match id with | _ => ([], []), join := fun id => match id with | _ => none }
noncomputable def impl_calc_subc : Code := bodyOf Go.Proofs.Try.f186
noncomputable def impl_calc_subF (n : Nat) : Fun := { id := 186, sp := impl_calc_subsp, bs := impl_calc_subbs, rs := impl_calc_subrs, f := fun x y => impl_calc_sub n x.2.1 x.2.2.1 y.1 }

theorem impl_calc_sub_eq (n : Nat) (a1 : (Int) × (Int)) (a2 : (Int) × (Int)) (b0 : Bool) : runBody ([impl_calc_toldF n]) ty 25 n impl_calc_subkp impl_calc_subc Go.Proofs.Try.f186.results.toList impl_calc_subrs impl_calc_subsp impl_calc_subbs ((), (a1, (a2, ()))) (b0, ()) = impl_calc_sub n a1 a2 b0 := by
  have h : runBody ([impl_calc_toldF n]) ty 25 n impl_calc_subkp impl_calc_subc Go.Proofs.Try.f186.results.toList impl_calc_subrs impl_calc_subsp impl_calc_subbs ((), (a1, (a2, ()))) (b0, ()) = impl_calc_sub_t n a1 a2 b0 := by kernel_rfl
  rw [h]
  rfl

theorem impl_calc_sub_ok (n : Nat) : FunOk P (impl_calc_subF n) :=
  funOk_mk (C := [impl_calc_toldF n]) (N := 25) (kp := impl_calc_subkp) (c := impl_calc_subc) (n := n) (G := fun x y => impl_calc_sub n x.2.1 x.2.2.1 y.1) follows (AllOk.mem (⟨impl_calc_told_ok n, trivial⟩ : AllOk P ([impl_calc_toldF n]))) (by kernel_rfl : P.funcs[186]? = some Go.Proofs.Try.f186) (by kernel_rfl) (by kernel_rfl) (by kernel_rfl)
    (fun x y => impl_calc_sub_eq n x.2.1 x.2.2.1 y.1) (fun _ _ => map_same (fun _ => rfl) _) (fun _ _ _ _ => rfl)

abbrev impl_calc_nearsp : List Sp := [.ref 0, .v true (.pair (.pair (.int .i64) (.int .i64)) (.list (.pair (.int .i64) (.int .i64)))), .v true (.pair (.int .i64) (.int .i64))]
abbrev impl_calc_nearbs : List (Bs × Bool) := [(.var 139 .bool, true)]
abbrev impl_calc_nearrs : List (Bool × List Rp) := [(false, [.v false (.int .i64)]), (true, [.v false (.pair (.int .i64) (.int .i64))])]
noncomputable def impl_calc_nearkp : Keep := { loop := fun id => match id with | 3 => ([16, 9, 8, 4, 5, 0, 7, 15], []) | _ => ([], []), join := fun id => match id with | _ => none }
noncomputable def impl_calc_nearc : Code := bodyOf Go.Proofs.Try.f205
noncomputable def impl_calc_nearF (n : Nat) : Fun := { id := 205, sp := impl_calc_nearsp, bs := impl_calc_nearbs, rs := impl_calc_nearrs, f := fun x y => impl_calc_near n x.2.1 x.2.2.1 y.1 }

theorem impl_calc_near_l3_eq (n : Nat) : ∀ (k : Nat) (v16 : Int) (v8 : Int) (v15 : Int) (b0 : Bool) (b1_0 : Int) (b1_1 : Int) (b2_0 : Int) (b2_1 : Int) (b2_2 : List ((Int) × (Int))) (b3_0 : Int) (b3_1 : Int) (b4_0 : Int) (b4_1 : Int), iter (interp ([impl_zeroF n, impl_markF n, impl_calc_subF n, impl_sizeF n, impl_compareF n]) ty 39 1 n impl_calc_nearkp (codeAt impl_calc_nearc [1, 1, 0, 1, 0, 0])) (canon 1 (impl_calc_nearkp.loop 3)) (kAt ([impl_zeroF n, impl_markF n, impl_calc_subF n, impl_sizeF n, impl_compareF n]) ty 39 1 n impl_calc_nearkp impl_calc_nearc [1, 1, 0, 1, 0] [] (ending ty 1 Go.Proofs.Try.f205.results.toList impl_calc_nearrs impl_calc_nearbs)) k { env := [(16, .one (.sc (.int .i64 v16))), (9, .one (.ref 1 0 0 0 0 0)), (8, .one (.sc (.int .i64 v8))), (4, .one (.ref 2 0 0 0 0 0)), (5, .one (.ref 3 0 0 0 0 0)), (0, .one (.ref 0 0 0 0 0 0)), (7, .one (.ref 4 0 0 0 0 0)), (15, .one (.sc (.int .i64 v15)))], bx := [(0, .var 139 [.sc (.bool b0)]), (1, .var 26 [.sc (.int .i64 b1_0), .sc (.int .i64 b1_1)]), (2, .var 91 [.sc (.int .i64 b2_0), .sc (.int .i64 b2_1), .list true (.pair (.int .i64) (.int .i64)) b2_2]), (3, .var 26 [.sc (.int .i64 b3_0), .sc (.int .i64 b3_1)]), (4, .var 26 [.sc (.int .i64 b4_0), .sc (.int .i64 b4_1)])], nx := 5 } = impl_calc_near_l3 n k v16 v8 v15 b0 b1_0 b1_1 b2_0 b2_1 b2_2 b3_0 b3_1 b4_0 b4_1
  | 0, _, _, _, _, _, _, _, _, _, _, _, _, _ => by kernel_rfl
  | k + 1, v16, v8, v15, b0, b1_0, b1_1, b2_0, b2_1, b2_2, b3_0, b3_1, b4_0, b4_1 => by
    have h : iter (interp ([impl_zeroF n, impl_markF n, impl_calc_subF n, impl_sizeF n, impl_compareF n]) ty 39 1 n impl_calc_nearkp (codeAt impl_calc_nearc [1, 1, 0, 1, 0, 0])) (canon 1 (impl_calc_nearkp.loop 3)) (kAt ([impl_zeroF n, impl_markF n, impl_calc_subF n, impl_sizeF n, impl_compareF n]) ty 39 1 n impl_calc_nearkp impl_calc_nearc [1, 1, 0, 1, 0] [] (ending ty 1 Go.Proofs.Try.f205.results.toList impl_calc_nearrs impl_calc_nearbs)) (k + 1) { env := [(16, .one (.sc (.int .i64 v16))), (9, .one (.ref 1 0 0 0 0 0)), (8, .one (.sc (.int .i64 v8))), (4, .one (.ref 2 0 0 0 0 0)), (5, .one (.ref 3 0 0 0 0 0)), (0, .one (.ref 0 0 0 0 0 0)), (7, .one (.ref 4 0 0 0 0 0)), (15, .one (.sc (.int .i64 v15)))], bx := [(0, .var 139 [.sc (.bool b0)]), (1, .var 26 [.sc (.int .i64 b1_0), .sc (.int .i64 b1_1)]), (2, .var 91 [.sc (.int .i64 b2_0), .sc (.int .i64 b2_1), .list true (.pair (.int .i64) (.int .i64)) b2_2]), (3, .var 26 [.sc (.int .i64 b3_0), .sc (.int .i64 b3_1)]), (4, .var 26 [.sc (.int .i64 b4_0), .sc (.int .i64 b4_1)])], nx := 5 } = impl_calc_near_t3 n (fun v16 v8 v15 b0 b1_0 b1_1 b2_0 b2_1 b2_2 b3_0 b3_1 b4_0 b4_1 => iter (interp ([impl_zeroF n, impl_markF n, impl_calc_subF n, impl_sizeF n, impl_compareF n]) ty 39 1 n impl_calc_nearkp (codeAt impl_calc_nearc [1, 1, 0, 1, 0, 0])) (canon 1 (impl_calc_nearkp.loop 3)) (kAt ([impl_zeroF n, impl_markF n, impl_calc_subF n, impl_sizeF n, impl_compareF n]) ty 39 1 n impl_calc_nearkp impl_calc_nearc [1, 1, 0, 1, 0] [] (ending ty 1 Go.Proofs.Try.f205.results.toList impl_calc_nearrs impl_calc_nearbs)) k { env := [(16, .one (.sc (.int .i64 v16))), (9, .one (.ref 1 0 0 0 0 0)), (8, .one (.sc (.int .i64 v8))), (4, .one (.ref 2 0 0 0 0 0)), (5, .one (.ref 3 0 0 0 0 0)), (0, .one (.ref 0 0 0 0 0 0)), (7, .one (.ref 4 0 0 0 0 0)), (15, .one (.sc (.int .i64 v15)))], bx := [(0, .var 139 [.sc (.bool b0)]), (1, .var 26 [.sc (.int .i64 b1_0), .sc (.int .i64 b1_1)]), (2, .var 91 [.sc (.int .i64 b2_0), .sc (.int .i64 b2_1), .list true (.pair (.int .i64) (.int .i64)) b2_2]), (3, .var 26 [.sc (.int .i64 b3_0), .sc (.int .i64 b3_1)]), (4, .var 26 [.sc (.int .i64 b4_0), .sc (.int .i64 b4_1)])], nx := 5 }) v16 v8 v15 b0 b1_0 b1_1 b2_0 b2_1 b2_2 b3_0 b3_1 b4_0 b4_1 := by kernel_rfl
    rw [h]
    have e := congrArg (fun g => impl_calc_near_t3 n g v16 v8 v15 b0 b1_0 b1_1 b2_0 b2_1 b2_2 b3_0 b3_1 b4_0 b4_1) (funext fun v16 => funext fun v8 => funext fun v15 => funext fun b0 => funext fun b1_0 => funext fun b1_1 => funext fun b2_0 => funext fun b2_1 => funext fun b2_2 => funext fun b3_0 => funext fun b3_1 => funext fun b4_0 => funext fun b4_1 => impl_calc_near_l3_eq n k v16 v8 v15 b0 b1_0 b1_1 b2_0 b2_1 b2_2 b3_0 b3_1 b4_0 b4_1)
    exact e

theorem impl_calc_near_eq (n : Nat) (a1 : ((Int) × (Int)) × (List ((Int) × (Int)))) (a2 : (Int) × (Int)) (b0 : Bool) : runBody ([impl_zeroF n, impl_markF n, impl_calc_subF n, impl_sizeF n, impl_compareF n]) ty 39 n impl_calc_nearkp impl_calc_nearc Go.Proofs.Try.f205.results.toList impl_calc_nearrs impl_calc_nearsp impl_calc_nearbs ((), (a1, (a2, ()))) (b0, ()) = impl_calc_near n a1 a2 b0 := by
  have h : runBody ([impl_zeroF n, impl_markF n, impl_calc_subF n, impl_sizeF n, impl_compareF n]) ty 39 n impl_calc_nearkp impl_calc_nearc Go.Proofs.Try.f205.results.toList impl_calc_nearrs impl_calc_nearsp impl_calc_nearbs ((), (a1, (a2, ()))) (b0, ()) = impl_calc_near_t n (fun k v16 v8 v15 b0 b1_0 b1_1 b2_0 b2_1 b2_2 b3_0 b3_1 b4_0 b4_1 => iter (interp ([impl_zeroF n, impl_markF n, impl_calc_subF n, impl_sizeF n, impl_compareF n]) ty 39 1 n impl_calc_nearkp (codeAt impl_calc_nearc [1, 1, 0, 1, 0, 0])) (canon 1 (impl_calc_nearkp.loop 3)) (kAt ([impl_zeroF n, impl_markF n, impl_calc_subF n, impl_sizeF n, impl_compareF n]) ty 39 1 n impl_calc_nearkp impl_calc_nearc [1, 1, 0, 1, 0] [] (ending ty 1 Go.Proofs.Try.f205.results.toList impl_calc_nearrs impl_calc_nearbs)) k { env := [(16, .one (.sc (.int .i64 v16))), (9, .one (.ref 1 0 0 0 0 0)), (8, .one (.sc (.int .i64 v8))), (4, .one (.ref 2 0 0 0 0 0)), (5, .one (.ref 3 0 0 0 0 0)), (0, .one (.ref 0 0 0 0 0 0)), (7, .one (.ref 4 0 0 0 0 0)), (15, .one (.sc (.int .i64 v15)))], bx := [(0, .var 139 [.sc (.bool b0)]), (1, .var 26 [.sc (.int .i64 b1_0), .sc (.int .i64 b1_1)]), (2, .var 91 [.sc (.int .i64 b2_0), .sc (.int .i64 b2_1), .list true (.pair (.int .i64) (.int .i64)) b2_2]), (3, .var 26 [.sc (.int .i64 b3_0), .sc (.int .i64 b3_1)]), (4, .var 26 [.sc (.int .i64 b4_0), .sc (.int .i64 b4_1)])], nx := 5 }) a1 a2 b0 := by kernel_rfl
  rw [h]
  have e := congrArg (fun h3 => impl_calc_near_t n h3 a1 a2 b0) (funext fun k => funext fun v16 => funext fun v8 => funext fun v15 => funext fun b0 => funext fun b1_0 => funext fun b1_1 => funext fun b2_0 => funext fun b2_1 => funext fun b2_2 => funext fun b3_0 => funext fun b3_1 => funext fun b4_0 => funext fun b4_1 => impl_calc_near_l3_eq n k v16 v8 v15 b0 b1_0 b1_1 b2_0 b2_1 b2_2 b3_0 b3_1 b4_0 b4_1)
  exact e

theorem impl_calc_near_ok (n : Nat) : FunOk P (impl_calc_nearF n) :=
  funOk_mk (C := [impl_zeroF n, impl_markF n, impl_calc_subF n, impl_sizeF n, impl_compareF n]) (N := 39) (kp := impl_calc_nearkp) (c := impl_calc_nearc) (n := n) (G := fun x y => impl_calc_near n x.2.1 x.2.2.1 y.1) follows (AllOk.mem (⟨impl_zero_ok n, ⟨impl_mark_ok n, ⟨impl_calc_sub_ok n, ⟨impl_size_ok n, ⟨impl_compare_ok n, trivial⟩⟩⟩⟩⟩ : AllOk P ([impl_zeroF n, impl_markF n, impl_calc_subF n, impl_sizeF n, impl_compareF n]))) (by kernel_rfl : P.funcs[205]? = some Go.Proofs.Try.f205) (by kernel_rfl) (by kernel_rfl) (by kernel_rfl)
    (fun x y => impl_calc_near_eq n x.2.1 x.2.2.1 y.1) (fun _ _ => map_same (fun _ => rfl) _) (fun _ _ _ _ => rfl)

abbrev impl_LineThatFitssp : List Sp := [.v true (.pair (.pair (.int .i64) (.int .i64)) (.list (.pair (.int .i64) (.int .i64)))), .v true (.pair (.int .i64) .bool), .v true (.pair (.int .i64) (.int .i64))]
abbrev impl_LineThatFitsbs : List (Bs × Bool) := []
abbrev impl_LineThatFitsrs : List (Bool × List Rp) := [(false, [.v false (.int .i64)]), (false, [.v false (.int .i64)])]
noncomputable def impl_LineThatFitskp : Keep := { loop := fun id => match id with | 14 => ([54, 12, 11, 5, 4, 3, 9, 53], []) | _ => ([], []), join := fun id => match id with | _ => none }
noncomputable def impl_LineThatFitsc : Code := bodyOf Go.Proofs.Try.f82
noncomputable def impl_LineThatFitsF (n : Nat) : Fun := { id := 82, sp := impl_LineThatFitssp, bs := impl_LineThatFitsbs, rs := impl_LineThatFitsrs, f := fun x y => impl_LineThatFits n x.1 x.2.1 x.2.2.1 }

theorem impl_LineThatFits_l14_eq (n : Nat) : ∀ (k : Nat) (v54 : Int) (v11 : Int) (v53 : Int) (b0_0 : Int) (b0_1 : Int) (b1_0 : Int) (b1_1 : Int) (b2_0 : Int) (b2_1 : Bool) (b3_0 : Int) (b3_1 : Int) (b3_2 : List ((Int) × (Int))) (b4 : Bool), iter (interp ([impl_lineCodeF n, impl_markF n, impl_compareF n, impl_calc_lineF n, impl_zeroF n, impl_calc_nearF n]) ty 85 0 n impl_LineThatFitskp (codeAt impl_LineThatFitsc [1, 1, 1, 1, 1, 1, 1, 1, 0, 1, 0, 0])) (canon 0 (impl_LineThatFitskp.loop 14)) (kAt ([impl_lineCodeF n, impl_markF n, impl_compareF n, impl_calc_lineF n, impl_zeroF n, impl_calc_nearF n]) ty 85 0 n impl_LineThatFitskp impl_LineThatFitsc [1, 1, 1, 1, 1, 1, 1, 1, 0, 1, 0] [] (ending ty 0 Go.Proofs.Try.f82.results.toList impl_LineThatFitsrs impl_LineThatFitsbs)) k { env := [(54, .one (.sc (.int .i64 v54))), (12, .one (.ref 0 0 0 0 0 0)), (11, .one (.sc (.int .i64 v11))), (5, .one (.ref 1 0 0 0 0 0)), (4, .one (.ref 2 0 0 0 0 0)), (3, .one (.ref 3 0 0 0 0 0)), (9, .one (.ref 4 0 0 0 0 0)), (53, .one (.sc (.int .i64 v53)))], bx := [(0, .var 26 [.sc (.int .i64 b0_0), .sc (.int .i64 b0_1)]), (1, .var 26 [.sc (.int .i64 b1_0), .sc (.int .i64 b1_1)]), (2, .var 94 [.sc (.int .i64 b2_0), .sc (.bool b2_1)]), (3, .var 91 [.sc (.int .i64 b3_0), .sc (.int .i64 b3_1), .list true (.pair (.int .i64) (.int .i64)) b3_2]), (4, .var 139 [.sc (.bool b4)])], nx := 5 } = impl_LineThatFits_l14 n k v54 v11 v53 b0_0 b0_1 b1_0 b1_1 b2_0 b2_1 b3_0 b3_1 b3_2 b4
  | 0, _, _, _, _, _, _, _, _, _, _, _, _, _ => by kernel_rfl
  | k + 1, v54, v11, v53, b0_0, b0_1, b1_0, b1_1, b2_0, b2_1, b3_0, b3_1, b3_2, b4 => by
    have h : iter (interp ([impl_lineCodeF n, impl_markF n, impl_compareF n, impl_calc_lineF n, impl_zeroF n, impl_calc_nearF n]) ty 85 0 n impl_LineThatFitskp (codeAt impl_LineThatFitsc [1, 1, 1, 1, 1, 1, 1, 1, 0, 1, 0, 0])) (canon 0 (impl_LineThatFitskp.loop 14)) (kAt ([impl_lineCodeF n, impl_markF n, impl_compareF n, impl_calc_lineF n, impl_zeroF n, impl_calc_nearF n]) ty 85 0 n impl_LineThatFitskp impl_LineThatFitsc [1, 1, 1, 1, 1, 1, 1, 1, 0, 1, 0] [] (ending ty 0 Go.Proofs.Try.f82.results.toList impl_LineThatFitsrs impl_LineThatFitsbs)) (k + 1) { env := [(54, .one (.sc (.int .i64 v54))), (12, .one (.ref 0 0 0 0 0 0)), (11, .one (.sc (.int .i64 v11))), (5, .one (.ref 1 0 0 0 0 0)), (4, .one (.ref 2 0 0 0 0 0)), (3, .one (.ref 3 0 0 0 0 0)), (9, .one (.ref 4 0 0 0 0 0)), (53, .one (.sc (.int .i64 v53)))], bx := [(0, .var 26 [.sc (.int .i64 b0_0), .sc (.int .i64 b0_1)]), (1, .var 26 [.sc (.int .i64 b1_0), .sc (.int .i64 b1_1)]), (2, .var 94 [.sc (.int .i64 b2_0), .sc (.bool b2_1)]), (3, .var 91 [.sc (.int .i64 b3_0), .sc (.int .i64 b3_1), .list true (.pair (.int .i64) (.int .i64)) b3_2]), (4, .var 139 [.sc (.bool b4)])], nx := 5 } = impl_LineThatFits_t14 n (fun v54 v11 v53 b0_0 b0_1 b1_0 b1_1 b2_0 b2_1 b3_0 b3_1 b3_2 b4 => iter (interp ([impl_lineCodeF n, impl_markF n, impl_compareF n, impl_calc_lineF n, impl_zeroF n, impl_calc_nearF n]) ty 85 0 n impl_LineThatFitskp (codeAt impl_LineThatFitsc [1, 1, 1, 1, 1, 1, 1, 1, 0, 1, 0, 0])) (canon 0 (impl_LineThatFitskp.loop 14)) (kAt ([impl_lineCodeF n, impl_markF n, impl_compareF n, impl_calc_lineF n, impl_zeroF n, impl_calc_nearF n]) ty 85 0 n impl_LineThatFitskp impl_LineThatFitsc [1, 1, 1, 1, 1, 1, 1, 1, 0, 1, 0] [] (ending ty 0 Go.Proofs.Try.f82.results.toList impl_LineThatFitsrs impl_LineThatFitsbs)) k { env := [(54, .one (.sc (.int .i64 v54))), (12, .one (.ref 0 0 0 0 0 0)), (11, .one (.sc (.int .i64 v11))), (5, .one (.ref 1 0 0 0 0 0)), (4, .one (.ref 2 0 0 0 0 0)), (3, .one (.ref 3 0 0 0 0 0)), (9, .one (.ref 4 0 0 0 0 0)), (53, .one (.sc (.int .i64 v53)))], bx := [(0, .var 26 [.sc (.int .i64 b0_0), .sc (.int .i64 b0_1)]), (1, .var 26 [.sc (.int .i64 b1_0), .sc (.int .i64 b1_1)]), (2, .var 94 [.sc (.int .i64 b2_0), .sc (.bool b2_1)]), (3, .var 91 [.sc (.int .i64 b3_0), .sc (.int .i64 b3_1), .list true (.pair (.int .i64) (.int .i64)) b3_2]), (4, .var 139 [.sc (.bool b4)])], nx := 5 }) v54 v11 v53 b0_0 b0_1 b1_0 b1_1 b2_0 b2_1 b3_0 b3_1 b3_2 b4 := by kernel_rfl
    rw [h]
    have e := congrArg (fun g => impl_LineThatFits_t14 n g v54 v11 v53 b0_0 b0_1 b1_0 b1_1 b2_0 b2_1 b3_0 b3_1 b3_2 b4) (funext fun v54 => funext fun v11 => funext fun v53 => funext fun b0_0 => funext fun b0_1 => funext fun b1_0 => funext fun b1_1 => funext fun b2_0 => funext fun b2_1 => funext fun b3_0 => funext fun b3_1 => funext fun b3_2 => funext fun b4 => impl_LineThatFits_l14_eq n k v54 v11 v53 b0_0 b0_1 b1_0 b1_1 b2_0 b2_1 b3_0 b3_1 b3_2 b4)
    exact e

theorem impl_LineThatFits_eq (n : Nat) (a0 : ((Int) × (Int)) × (List ((Int) × (Int)))) (a1 : (Int) × (Bool)) (a2 : (Int) × (Int)) : runBody ([impl_lineCodeF n, impl_markF n, impl_compareF n, impl_calc_lineF n, impl_zeroF n, impl_calc_nearF n]) ty 85 n impl_LineThatFitskp impl_LineThatFitsc Go.Proofs.Try.f82.results.toList impl_LineThatFitsrs impl_LineThatFitssp impl_LineThatFitsbs (a0, (a1, (a2, ()))) () = impl_LineThatFits n a0 a1 a2 := by
  have h : runBody ([impl_lineCodeF n, impl_markF n, impl_compareF n, impl_calc_lineF n, impl_zeroF n, impl_calc_nearF n]) ty 85 n impl_LineThatFitskp impl_LineThatFitsc Go.Proofs.Try.f82.results.toList impl_LineThatFitsrs impl_LineThatFitssp impl_LineThatFitsbs (a0, (a1, (a2, ()))) () = impl_LineThatFits_t n (fun k v54 v11 v53 b0_0 b0_1 b1_0 b1_1 b2_0 b2_1 b3_0 b3_1 b3_2 b4 => iter (interp ([impl_lineCodeF n, impl_markF n, impl_compareF n, impl_calc_lineF n, impl_zeroF n, impl_calc_nearF n]) ty 85 0 n impl_LineThatFitskp (codeAt impl_LineThatFitsc [1, 1, 1, 1, 1, 1, 1, 1, 0, 1, 0, 0])) (canon 0 (impl_LineThatFitskp.loop 14)) (kAt ([impl_lineCodeF n, impl_markF n, impl_compareF n, impl_calc_lineF n, impl_zeroF n, impl_calc_nearF n]) ty 85 0 n impl_LineThatFitskp impl_LineThatFitsc [1, 1, 1, 1, 1, 1, 1, 1, 0, 1, 0] [] (ending ty 0 Go.Proofs.Try.f82.results.toList impl_LineThatFitsrs impl_LineThatFitsbs)) k { env := [(54, .one (.sc (.int .i64 v54))), (12, .one (.ref 0 0 0 0 0 0)), (11, .one (.sc (.int .i64 v11))), (5, .one (.ref 1 0 0 0 0 0)), (4, .one (.ref 2 0 0 0 0 0)), (3, .one (.ref 3 0 0 0 0 0)), (9, .one (.ref 4 0 0 0 0 0)), (53, .one (.sc (.int .i64 v53)))], bx := [(0, .var 26 [.sc (.int .i64 b0_0), .sc (.int .i64 b0_1)]), (1, .var 26 [.sc (.int .i64 b1_0), .sc (.int .i64 b1_1)]), (2, .var 94 [.sc (.int .i64 b2_0), .sc (.bool b2_1)]), (3, .var 91 [.sc (.int .i64 b3_0), .sc (.int .i64 b3_1), .list true (.pair (.int .i64) (.int .i64)) b3_2]), (4, .var 139 [.sc (.bool b4)])], nx := 5 }) a0 a1 a2 := by kernel_rfl
  rw [h]
  have e := congrArg (fun h14 => impl_LineThatFits_t n h14 a0 a1 a2) (funext fun k => funext fun v54 => funext fun v11 => funext fun v53 => funext fun b0_0 => funext fun b0_1 => funext fun b1_0 => funext fun b1_1 => funext fun b2_0 => funext fun b2_1 => funext fun b3_0 => funext fun b3_1 => funext fun b3_2 => funext fun b4 => impl_LineThatFits_l14_eq n k v54 v11 v53 b0_0 b0_1 b1_0 b1_1 b2_0 b2_1 b3_0 b3_1 b3_2 b4)
  exact e

theorem impl_LineThatFits_ok (n : Nat) : FunOk P (impl_LineThatFitsF n) :=
  funOk_mk (C := [impl_lineCodeF n, impl_markF n, impl_compareF n, impl_calc_lineF n, impl_zeroF n, impl_calc_nearF n]) (N := 85) (kp := impl_LineThatFitskp) (c := impl_LineThatFitsc) (n := n) (G := fun x y => impl_LineThatFits n x.1 x.2.1 x.2.2.1) follows (AllOk.mem (⟨impl_lineCode_ok n, ⟨impl_mark_ok n, ⟨impl_compare_ok n, ⟨impl_calc_line_ok n, ⟨impl_zero_ok n, ⟨impl_calc_near_ok n, trivial⟩⟩⟩⟩⟩⟩ : AllOk P ([impl_lineCodeF n, impl_markF n, impl_compareF n, impl_calc_lineF n, impl_zeroF n, impl_calc_nearF n]))) (by kernel_rfl : P.funcs[82]? = some Go.Proofs.Try.f82) (by kernel_rfl) (by kernel_rfl) (by kernel_rfl)
    (fun x y => impl_LineThatFits_eq n x.1 x.2.1 x.2.2.1) (fun _ _ => map_same (fun _ => rfl) _) (fun _ _ _ _ => rfl)

abbrev spec_l01Cmpsp : List Sp := [.v true (.pair (.int .i64) (.int .i64)), .v true (.pair (.int .i64) (.int .i64))]
abbrev spec_l01Cmpbs : List (Bs × Bool) := []
abbrev spec_l01Cmprs : List (Bool × List Rp) := [(false, [.v false (.int .i64)])]
noncomputable def spec_l01Cmpkp : Keep := { loop := fun id => match id with | _ => ([], []), join := fun id => match id with | _ => none }
noncomputable def spec_l01Cmpc : Code := bodyOf Go.Proofs.Try.f237
noncomputable def spec_l01CmpF (n : Nat) : Fun := { id := 237, sp := spec_l01Cmpsp, bs := spec_l01Cmpbs, rs := spec_l01Cmprs, f := fun x y => spec_l01Cmp n x.1 x.2.1 }

theorem spec_l01Cmp_eq (n : Nat) (a0 : (Int) × (Int)) (a1 : (Int) × (Int)) : runBody ([]) ty 25 n spec_l01Cmpkp spec_l01Cmpc Go.Proofs.Try.f237.results.toList spec_l01Cmprs spec_l01Cmpsp spec_l01Cmpbs (a0, (a1, ())) () = spec_l01Cmp n a0 a1 := by
  have h : runBody ([]) ty 25 n spec_l01Cmpkp spec_l01Cmpc Go.Proofs.Try.f237.results.toList spec_l01Cmprs spec_l01Cmpsp spec_l01Cmpbs (a0, (a1, ())) () = spec_l01Cmp_t n a0 a1 := by kernel_rfl
  rw [h]
  rfl

theorem spec_l01Cmp_ok (n : Nat) : FunOk P (spec_l01CmpF n) :=
  funOk_mk (C := []) (N := 25) (kp := spec_l01Cmpkp) (c := spec_l01Cmpc) (n := n) (G := fun x y => spec_l01Cmp n x.1 x.2.1) follows (AllOk.mem (trivial : AllOk P ([]))) (by kernel_rfl : P.funcs[237]? = some Go.Proofs.Try.f237) (by kernel_rfl) (by kernel_rfl) (by kernel_rfl)
    (fun x y => spec_l01Cmp_eq n x.1 x.2.1) (fun _ _ => map_same (fun _ => rfl) _) (fun _ _ _ _ => rfl)

abbrev spec_l02Withinsp : List Sp := [.v true (.pair (.int .i64) (.int .i64)), .v false (.int .i64)]
abbrev spec_l02Withinbs : List (Bs × Bool) := []
abbrev spec_l02Withinrs : List (Bool × List Rp) := [(false, [.v false .bool])]
noncomputable def spec_l02Withinkp : Keep := { loop := fun id => match id with | _ => ([], []), join := fun id => match id with | _ => none }
noncomputable def spec_l02Withinc : Code := bodyOf Go.Proofs.Try.f256
noncomputable def spec_l02WithinF (n : Nat) : Fun := { id := 256, sp := spec_l02Withinsp, bs := spec_l02Withinbs, rs := spec_l02Withinrs, f := fun x y => spec_l02Within n x.1 x.2.1 }

theorem spec_l02Within_eq (n : Nat) (a0 : (Int) × (Int)) (a1 : Int) : runBody ([spec_l01OkF n, spec_l01WholeF n, spec_l01CmpF n]) ty 19 n spec_l02Withinkp spec_l02Withinc Go.Proofs.Try.f256.results.toList spec_l02Withinrs spec_l02Withinsp spec_l02Withinbs (a0, (a1, ())) () = spec_l02Within n a0 a1 := by
  have h : runBody ([spec_l01OkF n, spec_l01WholeF n, spec_l01CmpF n]) ty 19 n spec_l02Withinkp spec_l02Withinc Go.Proofs.Try.f256.results.toList spec_l02Withinrs spec_l02Withinsp spec_l02Withinbs (a0, (a1, ())) () = spec_l02Within_t n a0 a1 := by kernel_rfl
  rw [h]
  rfl

theorem spec_l02Within_ok (n : Nat) : FunOk P (spec_l02WithinF n) :=
  funOk_mk (C := [spec_l01OkF n, spec_l01WholeF n, spec_l01CmpF n]) (N := 19) (kp := spec_l02Withinkp) (c := spec_l02Withinc) (n := n) (G := fun x y => spec_l02Within n x.1 x.2.1) follows (AllOk.mem (⟨spec_l01Ok_ok n, ⟨spec_l01Whole_ok n, ⟨spec_l01Cmp_ok n, trivial⟩⟩⟩ : AllOk P ([spec_l01OkF n, spec_l01WholeF n, spec_l01CmpF n]))) (by kernel_rfl : P.funcs[256]? = some Go.Proofs.Try.f256) (by kernel_rfl) (by kernel_rfl) (by kernel_rfl)
    (fun x y => spec_l02Within_eq n x.1 x.2.1) (fun _ _ => map_same (fun _ => rfl) _) (fun _ _ _ _ => rfl)

abbrev spec_l01Mulsp : List Sp := [.v true (.pair (.int .i64) (.int .i64)), .v true (.pair (.int .i64) (.int .i64))]
abbrev spec_l01Mulbs : List (Bs × Bool) := []
abbrev spec_l01Mulrs : List (Bool × List Rp) := [(true, [.v false (.pair (.int .i64) (.int .i64))]), (false, [.v false (.int .i64)])]
noncomputable def spec_l01Mulkp : Keep := { loop := fun id => match id with | _ => ([], []), join := fun id => match id with | _ => none }
noncomputable def spec_l01Mulc : Code := bodyOf Go.Proofs.Try.f131
noncomputable def spec_l01MulF (n : Nat) : Fun := { id := 131, sp := spec_l01Mulsp, bs := spec_l01Mulbs, rs := spec_l01Mulrs, f := fun x y => spec_l01Mul n x.1 x.2.1 }

theorem spec_l01Mul_eq (n : Nat) (a0 : (Int) × (Int)) (a1 : (Int) × (Int)) : runBody ([spec_l01ReducedF n]) ty 19 n spec_l01Mulkp spec_l01Mulc Go.Proofs.Try.f131.results.toList spec_l01Mulrs spec_l01Mulsp spec_l01Mulbs (a0, (a1, ())) () = spec_l01Mul n a0 a1 := by
  have h : runBody ([spec_l01ReducedF n]) ty 19 n spec_l01Mulkp spec_l01Mulc Go.Proofs.Try.f131.results.toList spec_l01Mulrs spec_l01Mulsp spec_l01Mulbs (a0, (a1, ())) () = spec_l01Mul_t n a0 a1 := by kernel_rfl
  rw [h]
  rfl

theorem spec_l01Mul_ok (n : Nat) : FunOk P (spec_l01MulF n) :=
  funOk_mk (C := [spec_l01ReducedF n]) (N := 19) (kp := spec_l01Mulkp) (c := spec_l01Mulc) (n := n) (G := fun x y => spec_l01Mul n x.1 x.2.1) follows (AllOk.mem (⟨spec_l01Reduced_ok n, trivial⟩ : AllOk P ([spec_l01ReducedF n]))) (by kernel_rfl : P.funcs[131]? = some Go.Proofs.Try.f131) (by kernel_rfl) (by kernel_rfl) (by kernel_rfl)
    (fun x y => spec_l01Mul_eq n x.1 x.2.1) (fun _ _ => map_same (fun _ => rfl) _) (fun _ _ _ _ => rfl)

abbrev spec_l01Addsp : List Sp := [.v true (.pair (.int .i64) (.int .i64)), .v true (.pair (.int .i64) (.int .i64))]
abbrev spec_l01Addbs : List (Bs × Bool) := []
abbrev spec_l01Addrs : List (Bool × List Rp) := [(true, [.v false (.pair (.int .i64) (.int .i64))]), (false, [.v false (.int .i64)])]
noncomputable def spec_l01Addkp : Keep := { loop := fun id => match id with | _ => ([], []), join := fun id => match id with | _ => none }
noncomputable def spec_l01Addc : Code := bodyOf Go.Proofs.Try.f132
noncomputable def spec_l01AddF (n : Nat) : Fun := { id := 132, sp := spec_l01Addsp, bs := spec_l01Addbs, rs := spec_l01Addrs, f := fun x y => spec_l01Add n x.1 x.2.1 }

theorem spec_l01Add_eq (n : Nat) (a0 : (Int) × (Int)) (a1 : (Int) × (Int)) : runBody ([spec_l01ReducedF n]) ty 25 n spec_l01Addkp spec_l01Addc Go.Proofs.Try.f132.results.toList spec_l01Addrs spec_l01Addsp spec_l01Addbs (a0, (a1, ())) () = spec_l01Add n a0 a1 := by
  have h : runBody ([spec_l01ReducedF n]) ty 25 n spec_l01Addkp spec_l01Addc Go.Proofs.Try.f132.results.toList spec_l01Addrs spec_l01Addsp spec_l01Addbs (a0, (a1, ())) () = spec_l01Add_t n a0 a1 := by kernel_rfl
  rw [h]
  rfl

theorem spec_l01Add_ok (n : Nat) : FunOk P (spec_l01AddF n) :=
  funOk_mk (C := [spec_l01ReducedF n]) (N := 25) (kp := spec_l01Addkp) (c := spec_l01Addc) (n := n) (G := fun x y => spec_l01Add n x.1 x.2.1) follows (AllOk.mem (⟨spec_l01Reduced_ok n, trivial⟩ : AllOk P ([spec_l01ReducedF n]))) (by kernel_rfl : P.funcs[132]? = some Go.Proofs.Try.f132) (by kernel_rfl) (by kernel_rfl) (by kernel_rfl)
    (fun x y => spec_l01Add_eq n x.1 x.2.1) (fun _ _ => map_same (fun _ => rfl) _) (fun _ _ _ _ => rfl)

abbrev spec_l02Marksp : List Sp := [.ref 0, .v false (.int .i64)]
abbrev spec_l02Markbs : List (Bs × Bool) := [(.var 91 (.pair (.pair (.int .i64) (.int .i64)) (.list (.pair (.int .i64) (.int .i64)))), true)]
abbrev spec_l02Markrs : List (Bool × List Rp) := [(true, [.v false (.pair (.int .i64) (.int .i64))]), (false, [.v false (.int .i64)])]
noncomputable def spec_l02Markkp : Keep := { loop := fun id => match id with | _ => ([], []), join := fun id => match id with | _ => none }
noncomputable def spec_l02Markc : Code := bodyOf Go.Proofs.Try.f249
noncomputable def spec_l02MarkF (n : Nat) : Fun := { id := 249, sp := spec_l02Marksp, bs := spec_l02Markbs, rs := spec_l02Markrs, f := fun x y => spec_l02Mark n x.2.1 y.1 }

theorem spec_l02Mark_eq (n : Nat) (a1 : Int) (b0 : ((Int) × (Int)) × (List ((Int) × (Int)))) : runBody ([spec_l01WholeF n, spec_l01MulF n, spec_l01AddF n]) ty 33 n spec_l02Markkp spec_l02Markc Go.Proofs.Try.f249.results.toList spec_l02Markrs spec_l02Marksp spec_l02Markbs ((), (a1, ())) (b0, ()) = spec_l02Mark n a1 b0 := by
  have h : runBody ([spec_l01WholeF n, spec_l01MulF n, spec_l01AddF n]) ty 33 n spec_l02Markkp spec_l02Markc Go.Proofs.Try.f249.results.toList spec_l02Markrs spec_l02Marksp spec_l02Markbs ((), (a1, ())) (b0, ()) = spec_l02Mark_t n a1 b0 := by kernel_rfl
  rw [h]
  rfl

theorem spec_l02Mark_ok (n : Nat) : FunOk P (spec_l02MarkF n) :=
  funOk_mk (C := [spec_l01WholeF n, spec_l01MulF n, spec_l01AddF n]) (N := 33) (kp := spec_l02Markkp) (c := spec_l02Markc) (n := n) (G := fun x y => spec_l02Mark n x.2.1 y.1) follows (AllOk.mem (⟨spec_l01Whole_ok n, ⟨spec_l01Mul_ok n, ⟨spec_l01Add_ok n, trivial⟩⟩⟩ : AllOk P ([spec_l01WholeF n, spec_l01MulF n, spec_l01AddF n]))) (by kernel_rfl : P.funcs[249]? = some Go.Proofs.Try.f249) (by kernel_rfl) (by kernel_rfl) (by kernel_rfl)
    (fun x y => spec_l02Mark_eq n x.2.1 y.1) (fun _ _ => map_same (fun _ => rfl) _) (fun _ _ _ _ => rfl)

abbrev spec_l02Oksp : List Sp := [.ref 0]
abbrev spec_l02Okbs : List (Bs × Bool) := [(.var 91 (.pair (.pair (.int .i64) (.int .i64)) (.list (.pair (.int .i64) (.int .i64)))), true)]
abbrev spec_l02Okrs : List (Bool × List Rp) := [(false, [.v false .bool])]
noncomputable def spec_l02Okkp : Keep := { loop := fun id => match id with | 4 => ([3, 0], []) | _ => ([], []), join := fun id => match id with | _ => none }
noncomputable def spec_l02Okc : Code := bodyOf Go.Proofs.Try.f217
noncomputable def spec_l02OkF (n : Nat) : Fun := { id := 217, sp := spec_l02Oksp, bs := spec_l02Okbs, rs := spec_l02Okrs, f := fun x y => spec_l02Ok n y.1 }

theorem spec_l02Ok_l4_eq (n : Nat) : ∀ (k : Nat) (v3 : Int) (b0_0 : Int) (b0_1 : Int) (b0_2 : List ((Int) × (Int))), iter (interp ([spec_l02WithinF n, spec_l00InF n, spec_l01OkF n, spec_l01AbsF n, spec_l02MarkF n]) ty 70 1 n spec_l02Okkp (codeAt spec_l02Okc [1, 1, 0, 1, 0, 0])) (canon 1 (spec_l02Okkp.loop 4)) (kAt ([spec_l02WithinF n, spec_l00InF n, spec_l01OkF n, spec_l01AbsF n, spec_l02MarkF n]) ty 70 1 n spec_l02Okkp spec_l02Okc [1, 1, 0, 1, 0] [] (ending ty 1 Go.Proofs.Try.f217.results.toList spec_l02Okrs spec_l02Okbs)) k { env := [(3, .one (.sc (.int .i64 v3))), (0, .one (.ref 0 0 0 0 0 0))], bx := [(0, .var 91 [.sc (.int .i64 b0_0), .sc (.int .i64 b0_1), .list true (.pair (.int .i64) (.int .i64)) b0_2])], nx := 1 } = spec_l02Ok_l4 n k v3 b0_0 b0_1 b0_2
  | 0, _, _, _, _ => by kernel_rfl
  | k + 1, v3, b0_0, b0_1, b0_2 => by
    have h : iter (interp ([spec_l02WithinF n, spec_l00InF n, spec_l01OkF n, spec_l01AbsF n, spec_l02MarkF n]) ty 70 1 n spec_l02Okkp (codeAt spec_l02Okc [1, 1, 0, 1, 0, 0])) (canon 1 (spec_l02Okkp.loop 4)) (kAt ([spec_l02WithinF n, spec_l00InF n, spec_l01OkF n, spec_l01AbsF n, spec_l02MarkF n]) ty 70 1 n spec_l02Okkp spec_l02Okc [1, 1, 0, 1, 0] [] (ending ty 1 Go.Proofs.Try.f217.results.toList spec_l02Okrs spec_l02Okbs)) (k + 1) { env := [(3, .one (.sc (.int .i64 v3))), (0, .one (.ref 0 0 0 0 0 0))], bx := [(0, .var 91 [.sc (.int .i64 b0_0), .sc (.int .i64 b0_1), .list true (.pair (.int .i64) (.int .i64)) b0_2])], nx := 1 } = spec_l02Ok_t4 n (fun v3 b0_0 b0_1 b0_2 => iter (interp ([spec_l02WithinF n, spec_l00InF n, spec_l01OkF n, spec_l01AbsF n, spec_l02MarkF n]) ty 70 1 n spec_l02Okkp (codeAt spec_l02Okc [1, 1, 0, 1, 0, 0])) (canon 1 (spec_l02Okkp.loop 4)) (kAt ([spec_l02WithinF n, spec_l00InF n, spec_l01OkF n, spec_l01AbsF n, spec_l02MarkF n]) ty 70 1 n spec_l02Okkp spec_l02Okc [1, 1, 0, 1, 0] [] (ending ty 1 Go.Proofs.Try.f217.results.toList spec_l02Okrs spec_l02Okbs)) k { env := [(3, .one (.sc (.int .i64 v3))), (0, .one (.ref 0 0 0 0 0 0))], bx := [(0, .var 91 [.sc (.int .i64 b0_0), .sc (.int .i64 b0_1), .list true (.pair (.int .i64) (.int .i64)) b0_2])], nx := 1 }) v3 b0_0 b0_1 b0_2 := by kernel_rfl
    rw [h]
    have e := congrArg (fun g => spec_l02Ok_t4 n g v3 b0_0 b0_1 b0_2) (funext fun v3 => funext fun b0_0 => funext fun b0_1 => funext fun b0_2 => spec_l02Ok_l4_eq n k v3 b0_0 b0_1 b0_2)
    exact e

theorem spec_l02Ok_eq (n : Nat) (b0 : ((Int) × (Int)) × (List ((Int) × (Int)))) : runBody ([spec_l02WithinF n, spec_l00InF n, spec_l01OkF n, spec_l01AbsF n, spec_l02MarkF n]) ty 70 n spec_l02Okkp spec_l02Okc Go.Proofs.Try.f217.results.toList spec_l02Okrs spec_l02Oksp spec_l02Okbs ((), ()) (b0, ()) = spec_l02Ok n b0 := by
  have h : runBody ([spec_l02WithinF n, spec_l00InF n, spec_l01OkF n, spec_l01AbsF n, spec_l02MarkF n]) ty 70 n spec_l02Okkp spec_l02Okc Go.Proofs.Try.f217.results.toList spec_l02Okrs spec_l02Oksp spec_l02Okbs ((), ()) (b0, ()) = spec_l02Ok_t n (fun k v3 b0_0 b0_1 b0_2 => iter (interp ([spec_l02WithinF n, spec_l00InF n, spec_l01OkF n, spec_l01AbsF n, spec_l02MarkF n]) ty 70 1 n spec_l02Okkp (codeAt spec_l02Okc [1, 1, 0, 1, 0, 0])) (canon 1 (spec_l02Okkp.loop 4)) (kAt ([spec_l02WithinF n, spec_l00InF n, spec_l01OkF n, spec_l01AbsF n, spec_l02MarkF n]) ty 70 1 n spec_l02Okkp spec_l02Okc [1, 1, 0, 1, 0] [] (ending ty 1 Go.Proofs.Try.f217.results.toList spec_l02Okrs spec_l02Okbs)) k { env := [(3, .one (.sc (.int .i64 v3))), (0, .one (.ref 0 0 0 0 0 0))], bx := [(0, .var 91 [.sc (.int .i64 b0_0), .sc (.int .i64 b0_1), .list true (.pair (.int .i64) (.int .i64)) b0_2])], nx := 1 }) b0 := by kernel_rfl
  rw [h]
  have e := congrArg (fun h4 => spec_l02Ok_t n h4 b0) (funext fun k => funext fun v3 => funext fun b0_0 => funext fun b0_1 => funext fun b0_2 => spec_l02Ok_l4_eq n k v3 b0_0 b0_1 b0_2)
  exact e

theorem spec_l02Ok_ok (n : Nat) : FunOk P (spec_l02OkF n) :=
  funOk_mk (C := [spec_l02WithinF n, spec_l00InF n, spec_l01OkF n, spec_l01AbsF n, spec_l02MarkF n]) (N := 70) (kp := spec_l02Okkp) (c := spec_l02Okc) (n := n) (G := fun x y => spec_l02Ok n y.1) follows (AllOk.mem (⟨spec_l02Within_ok n, ⟨spec_l00In_ok n, ⟨spec_l01Ok_ok n, ⟨spec_l01Abs_ok n, ⟨spec_l02Mark_ok n, trivial⟩⟩⟩⟩⟩ : AllOk P ([spec_l02WithinF n, spec_l00InF n, spec_l01OkF n, spec_l01AbsF n, spec_l02MarkF n]))) (by kernel_rfl : P.funcs[217]? = some Go.Proofs.Try.f217) (by kernel_rfl) (by kernel_rfl) (by kernel_rfl)
    (fun x y => spec_l02Ok_eq n y.1) (fun _ _ => map_same (fun _ => rfl) _) (fun _ _ _ _ => rfl)

abbrev spec_l02Verniersp : List Sp := [.ref 0]
abbrev spec_l02Vernierbs : List (Bs × Bool) := [(.var 94 (.pair (.int .i64) .bool), true)]
abbrev spec_l02Vernierrs : List (Bool × List Rp) := [(false, [.v false .bool])]
noncomputable def spec_l02Vernierkp : Keep := { loop := fun id => match id with | _ => ([], []), join := fun id => match id with | _ => none }
noncomputable def spec_l02Vernierc : Code := bodyOf Go.Proofs.Try.f248
noncomputable def spec_l02VernierF (n : Nat) : Fun := { id := 248, sp := spec_l02Verniersp, bs := spec_l02Vernierbs, rs := spec_l02Vernierrs, f := fun x y => spec_l02Vernier n y.1 }

theorem spec_l02Vernier_eq (n : Nat) (b0 : (Int) × (Bool)) : runBody ([spec_l00InF n]) ty 8 n spec_l02Vernierkp spec_l02Vernierc Go.Proofs.Try.f248.results.toList spec_l02Vernierrs spec_l02Verniersp spec_l02Vernierbs ((), ()) (b0, ()) = spec_l02Vernier n b0 := by
  have h : runBody ([spec_l00InF n]) ty 8 n spec_l02Vernierkp spec_l02Vernierc Go.Proofs.Try.f248.results.toList spec_l02Vernierrs spec_l02Verniersp spec_l02Vernierbs ((), ()) (b0, ()) = spec_l02Vernier_t n b0 := by kernel_rfl
  rw [h]
  rfl

theorem spec_l02Vernier_ok (n : Nat) : FunOk P (spec_l02VernierF n) :=
  funOk_mk (C := [spec_l00InF n]) (N := 8) (kp := spec_l02Vernierkp) (c := spec_l02Vernierc) (n := n) (G := fun x y => spec_l02Vernier n y.1) follows (AllOk.mem (⟨spec_l00In_ok n, trivial⟩ : AllOk P ([spec_l00InF n]))) (by kernel_rfl : P.funcs[248]? = some Go.Proofs.Try.f248) (by kernel_rfl) (by kernel_rfl) (by kernel_rfl)
    (fun x y => spec_l02Vernier_eq n y.1) (fun _ _ => map_same (fun _ => rfl) _) (fun _ _ _ _ => rfl)

abbrev spec_l02Askedsp : List Sp := [.ref 0, .ref 1, .v true (.pair (.int .i64) (.int .i64))]
abbrev spec_l02Askedbs : List (Bs × Bool) := [(.var 91 (.pair (.pair (.int .i64) (.int .i64)) (.list (.pair (.int .i64) (.int .i64)))), true), (.var 94 (.pair (.int .i64) .bool), true)]
abbrev spec_l02Askedrs : List (Bool × List Rp) := [(false, [.v false (.int .i64)])]
noncomputable def spec_l02Askedkp : Keep := { loop := fun id => match id with | _ => ([], []), join := fun id => match id with | _ => none }
noncomputable def spec_l02Askedc : Code := bodyOf Go.Proofs.Try.f206
noncomputable def spec_l02AskedF (n : Nat) : Fun := { id := 206, sp := spec_l02Askedsp, bs := spec_l02Askedbs, rs := spec_l02Askedrs, f := fun x y => spec_l02Asked n x.2.2.1 y.1 y.2.1 }

theorem spec_l02Asked_eq (n : Nat) (a2 : (Int) × (Int)) (b0 : ((Int) × (Int)) × (List ((Int) × (Int)))) (b1 : (Int) × (Bool)) : runBody ([spec_l02OkF n, spec_l02VernierF n, spec_l01OkF n]) ty 20 n spec_l02Askedkp spec_l02Askedc Go.Proofs.Try.f206.results.toList spec_l02Askedrs spec_l02Askedsp spec_l02Askedbs ((), ((), (a2, ()))) (b0, (b1, ())) = spec_l02Asked n a2 b0 b1 := by
  have h : runBody ([spec_l02OkF n, spec_l02VernierF n, spec_l01OkF n]) ty 20 n spec_l02Askedkp spec_l02Askedc Go.Proofs.Try.f206.results.toList spec_l02Askedrs spec_l02Askedsp spec_l02Askedbs ((), ((), (a2, ()))) (b0, (b1, ())) = spec_l02Asked_t n a2 b0 b1 := by kernel_rfl
  rw [h]
  rfl

theorem spec_l02Asked_ok (n : Nat) : FunOk P (spec_l02AskedF n) :=
  funOk_mk (C := [spec_l02OkF n, spec_l02VernierF n, spec_l01OkF n]) (N := 20) (kp := spec_l02Askedkp) (c := spec_l02Askedc) (n := n) (G := fun x y => spec_l02Asked n x.2.2.1 y.1 y.2.1) follows (AllOk.mem (⟨spec_l02Ok_ok n, ⟨spec_l02Vernier_ok n, ⟨spec_l01Ok_ok n, trivial⟩⟩⟩ : AllOk P ([spec_l02OkF n, spec_l02VernierF n, spec_l01OkF n]))) (by kernel_rfl : P.funcs[206]? = some Go.Proofs.Try.f206) (by kernel_rfl) (by kernel_rfl) (by kernel_rfl)
    (fun x y => spec_l02Asked_eq n x.2.2.1 y.1 y.2.1) (fun _ _ => map_same (fun _ => rfl) _) (fun _ _ _ _ => rfl)

abbrev spec_l01Divsp : List Sp := [.v true (.pair (.int .i64) (.int .i64)), .v true (.pair (.int .i64) (.int .i64))]
abbrev spec_l01Divbs : List (Bs × Bool) := []
abbrev spec_l01Divrs : List (Bool × List Rp) := [(true, [.v false (.pair (.int .i64) (.int .i64))]), (false, [.v false (.int .i64)])]
noncomputable def spec_l01Divkp : Keep := { loop := fun id => match id with | _ => ([], []), join := fun id => match id with | _ => none }
noncomputable def spec_l01Divc : Code := bodyOf Go.Proofs.Try.f191
noncomputable def spec_l01DivF (n : Nat) : Fun := { id := 191, sp := spec_l01Divsp, bs := spec_l01Divbs, rs := spec_l01Divrs, f := fun x y => spec_l01Div n x.1 x.2.1 }

theorem spec_l01Div_eq (n : Nat) (a0 : (Int) × (Int)) (a1 : (Int) × (Int)) : runBody ([spec_l01ReducedF n]) ty 19 n spec_l01Divkp spec_l01Divc Go.Proofs.Try.f191.results.toList spec_l01Divrs spec_l01Divsp spec_l01Divbs (a0, (a1, ())) () = spec_l01Div n a0 a1 := by
  have h : runBody ([spec_l01ReducedF n]) ty 19 n spec_l01Divkp spec_l01Divc Go.Proofs.Try.f191.results.toList spec_l01Divrs spec_l01Divsp spec_l01Divbs (a0, (a1, ())) () = spec_l01Div_t n a0 a1 := by kernel_rfl
  rw [h]
  rfl

theorem spec_l01Div_ok (n : Nat) : FunOk P (spec_l01DivF n) :=
  funOk_mk (C := [spec_l01ReducedF n]) (N := 19) (kp := spec_l01Divkp) (c := spec_l01Divc) (n := n) (G := fun x y => spec_l01Div n x.1 x.2.1) follows (AllOk.mem (⟨spec_l01Reduced_ok n, trivial⟩ : AllOk P ([spec_l01ReducedF n]))) (by kernel_rfl : P.funcs[191]? = some Go.Proofs.Try.f191) (by kernel_rfl) (by kernel_rfl) (by kernel_rfl)
    (fun x y => spec_l01Div_eq n x.1 x.2.1) (fun _ _ => map_same (fun _ => rfl) _) (fun _ _ _ _ => rfl)

abbrev spec_l02Linesp : List Sp := [.ref 0, .ref 1, .v true (.pair (.int .i64) (.int .i64)), .v false (.int .i64)]
abbrev spec_l02Linebs : List (Bs × Bool) := [(.var 91 (.pair (.pair (.int .i64) (.int .i64)) (.list (.pair (.int .i64) (.int .i64)))), true), (.var 94 (.pair (.int .i64) .bool), true)]
abbrev spec_l02Liners : List (Bool × List Rp) := [(true, [.v false (.pair (.int .i64) (.int .i64))]), (false, [.v false (.int .i64)])]
noncomputable def spec_l02Linekp : Keep := { loop := fun id => match id with | _ => ([], []), join := fun id => match id with | _ => none }
noncomputable def spec_l02Linec : Code := bodyOf Go.Proofs.Try.f250
noncomputable def spec_l02LineF (n : Nat) : Fun := { id := 250, sp := spec_l02Linesp, bs := spec_l02Linebs, rs := spec_l02Liners, f := fun x y => spec_l02Line n x.2.2.1 x.2.2.2.1 y.1 y.2.1 }

theorem spec_l02Line_eq (n : Nat) (a2 : (Int) × (Int)) (a3 : Int) (b0 : ((Int) × (Int)) × (List ((Int) × (Int)))) (b1 : (Int) × (Bool)) : runBody ([spec_l01WholeF n, spec_l01MulF n, spec_l01DivF n, spec_l01AddF n]) ty 64 n spec_l02Linekp spec_l02Linec Go.Proofs.Try.f250.results.toList spec_l02Liners spec_l02Linesp spec_l02Linebs ((), ((), (a2, (a3, ())))) (b0, (b1, ())) = spec_l02Line n a2 a3 b0 b1 := by
  have h : runBody ([spec_l01WholeF n, spec_l01MulF n, spec_l01DivF n, spec_l01AddF n]) ty 64 n spec_l02Linekp spec_l02Linec Go.Proofs.Try.f250.results.toList spec_l02Liners spec_l02Linesp spec_l02Linebs ((), ((), (a2, (a3, ())))) (b0, (b1, ())) = spec_l02Line_t n a2 a3 b0 b1 := by kernel_rfl
  rw [h]
  rfl

theorem spec_l02Line_ok (n : Nat) : FunOk P (spec_l02LineF n) :=
  funOk_mk (C := [spec_l01WholeF n, spec_l01MulF n, spec_l01DivF n, spec_l01AddF n]) (N := 64) (kp := spec_l02Linekp) (c := spec_l02Linec) (n := n) (G := fun x y => spec_l02Line n x.2.2.1 x.2.2.2.1 y.1 y.2.1) follows (AllOk.mem (⟨spec_l01Whole_ok n, ⟨spec_l01Mul_ok n, ⟨spec_l01Div_ok n, ⟨spec_l01Add_ok n, trivial⟩⟩⟩⟩ : AllOk P ([spec_l01WholeF n, spec_l01MulF n, spec_l01DivF n, spec_l01AddF n]))) (by kernel_rfl : P.funcs[250]? = some Go.Proofs.Try.f250) (by kernel_rfl) (by kernel_rfl) (by kernel_rfl)
    (fun x y => spec_l02Line_eq n x.2.2.1 x.2.2.2.1 y.1 y.2.1) (fun _ _ => map_same (fun _ => rfl) _) (fun _ _ _ _ => rfl)

abbrev spec_l01Negsp : List Sp := [.v true (.pair (.int .i64) (.int .i64))]
abbrev spec_l01Negbs : List (Bs × Bool) := []
abbrev spec_l01Negrs : List (Bool × List Rp) := [(true, [.v false (.pair (.int .i64) (.int .i64))])]
noncomputable def spec_l01Negkp : Keep := { loop := fun id => match id with | _ => ([], []), join := fun id => match id with | _ => none }
noncomputable def spec_l01Negc : Code := bodyOf Go.Proofs.Try.f246
noncomputable def spec_l01NegF (n : Nat) : Fun := { id := 246, sp := spec_l01Negsp, bs := spec_l01Negbs, rs := spec_l01Negrs, f := fun x y => spec_l01Neg n x.1 }

theorem spec_l01Neg_eq (n : Nat) (a0 : (Int) × (Int)) : runBody ([]) ty 9 n spec_l01Negkp spec_l01Negc Go.Proofs.Try.f246.results.toList spec_l01Negrs spec_l01Negsp spec_l01Negbs (a0, ()) () = spec_l01Neg n a0 := by
  have h : runBody ([]) ty 9 n spec_l01Negkp spec_l01Negc Go.Proofs.Try.f246.results.toList spec_l01Negrs spec_l01Negsp spec_l01Negbs (a0, ()) () = spec_l01Neg_t n a0 := by kernel_rfl
  rw [h]
  rfl

theorem spec_l01Neg_ok (n : Nat) : FunOk P (spec_l01NegF n) :=
  funOk_mk (C := []) (N := 9) (kp := spec_l01Negkp) (c := spec_l01Negc) (n := n) (G := fun x y => spec_l01Neg n x.1) follows (AllOk.mem (trivial : AllOk P ([]))) (by kernel_rfl : P.funcs[246]? = some Go.Proofs.Try.f246) (by kernel_rfl) (by kernel_rfl) (by kernel_rfl)
    (fun x y => spec_l01Neg_eq n x.1) (fun _ _ => map_same (fun _ => rfl) _) (fun _ _ _ _ => rfl)

abbrev spec_l01Subsp : List Sp := [.v true (.pair (.int .i64) (.int .i64)), .v true (.pair (.int .i64) (.int .i64))]
abbrev spec_l01Subbs : List (Bs × Bool) := []
abbrev spec_l01Subrs : List (Bool × List Rp) := [(true, [.v false (.pair (.int .i64) (.int .i64))]), (false, [.v false (.int .i64)])]
noncomputable def spec_l01Subkp : Keep := { loop := fun id => match id with | _ => ([], []), join := fun id => match id with | _ => none }
noncomputable def spec_l01Subc : Code := bodyOf Go.Proofs.Try.f183
noncomputable def spec_l01SubF (n : Nat) : Fun := { id := 183, sp := spec_l01Subsp, bs := spec_l01Subbs, rs := spec_l01Subrs, f := fun x y => spec_l01Sub n x.1 x.2.1 }

theorem spec_l01Sub_eq (n : Nat) (a0 : (Int) × (Int)) (a1 : (Int) × (Int)) : runBody ([spec_l01NegF n, spec_l01AddF n]) ty 12 n spec_l01Subkp spec_l01Subc Go.Proofs.Try.f183.results.toList spec_l01Subrs spec_l01Subsp spec_l01Subbs (a0, (a1, ())) () = spec_l01Sub n a0 a1 := by
  have h : runBody ([spec_l01NegF n, spec_l01AddF n]) ty 12 n spec_l01Subkp spec_l01Subc Go.Proofs.Try.f183.results.toList spec_l01Subrs spec_l01Subsp spec_l01Subbs (a0, (a1, ())) () = spec_l01Sub_t n a0 a1 := by kernel_rfl
  rw [h]
  rfl

theorem spec_l01Sub_ok (n : Nat) : FunOk P (spec_l01SubF n) :=
  funOk_mk (C := [spec_l01NegF n, spec_l01AddF n]) (N := 12) (kp := spec_l01Subkp) (c := spec_l01Subc) (n := n) (G := fun x y => spec_l01Sub n x.1 x.2.1) follows (AllOk.mem (⟨spec_l01Neg_ok n, ⟨spec_l01Add_ok n, trivial⟩⟩ : AllOk P ([spec_l01NegF n, spec_l01AddF n]))) (by kernel_rfl : P.funcs[183]? = some Go.Proofs.Try.f183) (by kernel_rfl) (by kernel_rfl) (by kernel_rfl)
    (fun x y => spec_l01Sub_eq n x.1 x.2.1) (fun _ _ => map_same (fun _ => rfl) _) (fun _ _ _ _ => rfl)

abbrev spec_l02Sizesp : List Sp := [.v true (.pair (.int .i64) (.int .i64))]
abbrev spec_l02Sizebs : List (Bs × Bool) := []
abbrev spec_l02Sizers : List (Bool × List Rp) := [(true, [.v false (.pair (.int .i64) (.int .i64))])]
noncomputable def spec_l02Sizekp : Keep := { loop := fun id => match id with | _ => ([], []), join := fun id => match id with | _ => none }
noncomputable def spec_l02Sizec : Code := bodyOf Go.Proofs.Try.f266
noncomputable def spec_l02SizeF (n : Nat) : Fun := { id := 266, sp := spec_l02Sizesp, bs := spec_l02Sizebs, rs := spec_l02Sizers, f := fun x y => spec_l02Size n x.1 }

theorem spec_l02Size_eq (n : Nat) (a0 : (Int) × (Int)) : runBody ([spec_l01NegF n]) ty 9 n spec_l02Sizekp spec_l02Sizec Go.Proofs.Try.f266.results.toList spec_l02Sizers spec_l02Sizesp spec_l02Sizebs (a0, ()) () = spec_l02Size n a0 := by
  have h : runBody ([spec_l01NegF n]) ty 9 n spec_l02Sizekp spec_l02Sizec Go.Proofs.Try.f266.results.toList spec_l02Sizers spec_l02Sizesp spec_l02Sizebs (a0, ()) () = spec_l02Size_t n a0 := by kernel_rfl
  rw [h]
  rfl

theorem spec_l02Size_ok (n : Nat) : FunOk P (spec_l02SizeF n) :=
  funOk_mk (C := [spec_l01NegF n]) (N := 9) (kp := spec_l02Sizekp) (c := spec_l02Sizec) (n := n) (G := fun x y => spec_l02Size n x.1) follows (AllOk.mem (⟨spec_l01Neg_ok n, trivial⟩ : AllOk P ([spec_l01NegF n]))) (by kernel_rfl : P.funcs[266]? = some Go.Proofs.Try.f266) (by kernel_rfl) (by kernel_rfl) (by kernel_rfl)
    (fun x y => spec_l02Size_eq n x.1) (fun _ _ => map_same (fun _ => rfl) _) (fun _ _ _ _ => rfl)

abbrev spec_l02Nearestsp : List Sp := [.ref 0, .v true (.pair (.int .i64) (.int .i64))]
abbrev spec_l02Nearestbs : List (Bs × Bool) := [(.var 91 (.pair (.pair (.int .i64) (.int .i64)) (.list (.pair (.int .i64) (.int .i64)))), true)]
abbrev spec_l02Nearestrs : List (Bool × List Rp) := [(false, [.v false (.int .i64)]), (true, [.v false (.pair (.int .i64) (.int .i64))]), (false, [.v false (.int .i64)])]
noncomputable def spec_l02Nearestkp : Keep := { loop := fun id => match id with | 4 => ([5, 9, 8, 3, 0, 7], []) | _ => ([], []), join := fun id => match id with | _ => none }
noncomputable def spec_l02Nearestc : Code := bodyOf Go.Proofs.Try.f260
noncomputable def spec_l02NearestF (n : Nat) : Fun := { id := 260, sp := spec_l02Nearestsp, bs := spec_l02Nearestbs, rs := spec_l02Nearestrs, f := fun x y => spec_l02Nearest n x.2.1 y.1 }

theorem spec_l02Nearest_l4_eq (n : Nat) : ∀ (k : Nat) (v9 : Int) (v7 : Int) (b0_0 : Int) (b0_1 : Int) (b0_2 : List ((Int) × (Int))) (b1_0 : Int) (b1_1 : Int) (b2_0 : Int) (b2_1 : Int) (b3_0 : Int) (b3_1 : Int), iter (interp ([spec_l02MarkF n, spec_l01SubF n, spec_l02SizeF n, spec_l01CmpF n]) ty 54 1 n spec_l02Nearestkp (codeAt spec_l02Nearestc [1, 1, 1, 0, 1, 0, 0])) (canon 1 (spec_l02Nearestkp.loop 4)) (kAt ([spec_l02MarkF n, spec_l01SubF n, spec_l02SizeF n, spec_l01CmpF n]) ty 54 1 n spec_l02Nearestkp spec_l02Nearestc [1, 1, 1, 0, 1, 0] [] (ending ty 1 Go.Proofs.Try.f260.results.toList spec_l02Nearestrs spec_l02Nearestbs)) k { env := [(5, .one (.ref 1 0 0 0 0 0)), (9, .one (.sc (.int .i64 v9))), (8, .one (.ref 2 0 0 0 0 0)), (3, .one (.ref 3 0 0 0 0 0)), (0, .one (.ref 0 0 0 0 0 0)), (7, .one (.sc (.int .i64 v7)))], bx := [(0, .var 91 [.sc (.int .i64 b0_0), .sc (.int .i64 b0_1), .list true (.pair (.int .i64) (.int .i64)) b0_2]), (1, .var 26 [.sc (.int .i64 b1_0), .sc (.int .i64 b1_1)]), (2, .var 26 [.sc (.int .i64 b2_0), .sc (.int .i64 b2_1)]), (3, .var 26 [.sc (.int .i64 b3_0), .sc (.int .i64 b3_1)])], nx := 4 } = spec_l02Nearest_l4 n k v9 v7 b0_0 b0_1 b0_2 b1_0 b1_1 b2_0 b2_1 b3_0 b3_1
  | 0, _, _, _, _, _, _, _, _, _, _, _ => by kernel_rfl
  | k + 1, v9, v7, b0_0, b0_1, b0_2, b1_0, b1_1, b2_0, b2_1, b3_0, b3_1 => by
    have h : iter (interp ([spec_l02MarkF n, spec_l01SubF n, spec_l02SizeF n, spec_l01CmpF n]) ty 54 1 n spec_l02Nearestkp (codeAt spec_l02Nearestc [1, 1, 1, 0, 1, 0, 0])) (canon 1 (spec_l02Nearestkp.loop 4)) (kAt ([spec_l02MarkF n, spec_l01SubF n, spec_l02SizeF n, spec_l01CmpF n]) ty 54 1 n spec_l02Nearestkp spec_l02Nearestc [1, 1, 1, 0, 1, 0] [] (ending ty 1 Go.Proofs.Try.f260.results.toList spec_l02Nearestrs spec_l02Nearestbs)) (k + 1) { env := [(5, .one (.ref 1 0 0 0 0 0)), (9, .one (.sc (.int .i64 v9))), (8, .one (.ref 2 0 0 0 0 0)), (3, .one (.ref 3 0 0 0 0 0)), (0, .one (.ref 0 0 0 0 0 0)), (7, .one (.sc (.int .i64 v7)))], bx := [(0, .var 91 [.sc (.int .i64 b0_0), .sc (.int .i64 b0_1), .list true (.pair (.int .i64) (.int .i64)) b0_2]), (1, .var 26 [.sc (.int .i64 b1_0), .sc (.int .i64 b1_1)]), (2, .var 26 [.sc (.int .i64 b2_0), .sc (.int .i64 b2_1)]), (3, .var 26 [.sc (.int .i64 b3_0), .sc (.int .i64 b3_1)])], nx := 4 } = spec_l02Nearest_t4 n (fun v9 v7 b0_0 b0_1 b0_2 b1_0 b1_1 b2_0 b2_1 b3_0 b3_1 => iter (interp ([spec_l02MarkF n, spec_l01SubF n, spec_l02SizeF n, spec_l01CmpF n]) ty 54 1 n spec_l02Nearestkp (codeAt spec_l02Nearestc [1, 1, 1, 0, 1, 0, 0])) (canon 1 (spec_l02Nearestkp.loop 4)) (kAt ([spec_l02MarkF n, spec_l01SubF n, spec_l02SizeF n, spec_l01CmpF n]) ty 54 1 n spec_l02Nearestkp spec_l02Nearestc [1, 1, 1, 0, 1, 0] [] (ending ty 1 Go.Proofs.Try.f260.results.toList spec_l02Nearestrs spec_l02Nearestbs)) k { env := [(5, .one (.ref 1 0 0 0 0 0)), (9, .one (.sc (.int .i64 v9))), (8, .one (.ref 2 0 0 0 0 0)), (3, .one (.ref 3 0 0 0 0 0)), (0, .one (.ref 0 0 0 0 0 0)), (7, .one (.sc (.int .i64 v7)))], bx := [(0, .var 91 [.sc (.int .i64 b0_0), .sc (.int .i64 b0_1), .list true (.pair (.int .i64) (.int .i64)) b0_2]), (1, .var 26 [.sc (.int .i64 b1_0), .sc (.int .i64 b1_1)]), (2, .var 26 [.sc (.int .i64 b2_0), .sc (.int .i64 b2_1)]), (3, .var 26 [.sc (.int .i64 b3_0), .sc (.int .i64 b3_1)])], nx := 4 }) v9 v7 b0_0 b0_1 b0_2 b1_0 b1_1 b2_0 b2_1 b3_0 b3_1 := by kernel_rfl
    rw [h]
    have e := congrArg (fun g => spec_l02Nearest_t4 n g v9 v7 b0_0 b0_1 b0_2 b1_0 b1_1 b2_0 b2_1 b3_0 b3_1) (funext fun v9 => funext fun v7 => funext fun b0_0 => funext fun b0_1 => funext fun b0_2 => funext fun b1_0 => funext fun b1_1 => funext fun b2_0 => funext fun b2_1 => funext fun b3_0 => funext fun b3_1 => spec_l02Nearest_l4_eq n k v9 v7 b0_0 b0_1 b0_2 b1_0 b1_1 b2_0 b2_1 b3_0 b3_1)
    exact e

theorem spec_l02Nearest_eq (n : Nat) (a1 : (Int) × (Int)) (b0 : ((Int) × (Int)) × (List ((Int) × (Int)))) : runBody ([spec_l02MarkF n, spec_l01SubF n, spec_l02SizeF n, spec_l01CmpF n]) ty 54 n spec_l02Nearestkp spec_l02Nearestc Go.Proofs.Try.f260.results.toList spec_l02Nearestrs spec_l02Nearestsp spec_l02Nearestbs ((), (a1, ())) (b0, ()) = spec_l02Nearest n a1 b0 := by
  have h : runBody ([spec_l02MarkF n, spec_l01SubF n, spec_l02SizeF n, spec_l01CmpF n]) ty 54 n spec_l02Nearestkp spec_l02Nearestc Go.Proofs.Try.f260.results.toList spec_l02Nearestrs spec_l02Nearestsp spec_l02Nearestbs ((), (a1, ())) (b0, ()) = spec_l02Nearest_t n (fun k v9 v7 b0_0 b0_1 b0_2 b1_0 b1_1 b2_0 b2_1 b3_0 b3_1 => iter (interp ([spec_l02MarkF n, spec_l01SubF n, spec_l02SizeF n, spec_l01CmpF n]) ty 54 1 n spec_l02Nearestkp (codeAt spec_l02Nearestc [1, 1, 1, 0, 1, 0, 0])) (canon 1 (spec_l02Nearestkp.loop 4)) (kAt ([spec_l02MarkF n, spec_l01SubF n, spec_l02SizeF n, spec_l01CmpF n]) ty 54 1 n spec_l02Nearestkp spec_l02Nearestc [1, 1, 1, 0, 1, 0] [] (ending ty 1 Go.Proofs.Try.f260.results.toList spec_l02Nearestrs spec_l02Nearestbs)) k { env := [(5, .one (.ref 1 0 0 0 0 0)), (9, .one (.sc (.int .i64 v9))), (8, .one (.ref 2 0 0 0 0 0)), (3, .one (.ref 3 0 0 0 0 0)), (0, .one (.ref 0 0 0 0 0 0)), (7, .one (.sc (.int .i64 v7)))], bx := [(0, .var 91 [.sc (.int .i64 b0_0), .sc (.int .i64 b0_1), .list true (.pair (.int .i64) (.int .i64)) b0_2]), (1, .var 26 [.sc (.int .i64 b1_0), .sc (.int .i64 b1_1)]), (2, .var 26 [.sc (.int .i64 b2_0), .sc (.int .i64 b2_1)]), (3, .var 26 [.sc (.int .i64 b3_0), .sc (.int .i64 b3_1)])], nx := 4 }) a1 b0 := by kernel_rfl
  rw [h]
  have e := congrArg (fun h4 => spec_l02Nearest_t n h4 a1 b0) (funext fun k => funext fun v9 => funext fun v7 => funext fun b0_0 => funext fun b0_1 => funext fun b0_2 => funext fun b1_0 => funext fun b1_1 => funext fun b2_0 => funext fun b2_1 => funext fun b3_0 => funext fun b3_1 => spec_l02Nearest_l4_eq n k v9 v7 b0_0 b0_1 b0_2 b1_0 b1_1 b2_0 b2_1 b3_0 b3_1)
  exact e

theorem spec_l02Nearest_ok (n : Nat) : FunOk P (spec_l02NearestF n) :=
  funOk_mk (C := [spec_l02MarkF n, spec_l01SubF n, spec_l02SizeF n, spec_l01CmpF n]) (N := 54) (kp := spec_l02Nearestkp) (c := spec_l02Nearestc) (n := n) (G := fun x y => spec_l02Nearest n x.2.1 y.1) follows (AllOk.mem (⟨spec_l02Mark_ok n, ⟨spec_l01Sub_ok n, ⟨spec_l02Size_ok n, ⟨spec_l01Cmp_ok n, trivial⟩⟩⟩⟩ : AllOk P ([spec_l02MarkF n, spec_l01SubF n, spec_l02SizeF n, spec_l01CmpF n]))) (by kernel_rfl : P.funcs[260]? = some Go.Proofs.Try.f260) (by kernel_rfl) (by kernel_rfl) (by kernel_rfl)
    (fun x y => spec_l02Nearest_eq n x.2.1 y.1) (fun _ _ => map_same (fun _ => rfl) _) (fun _ _ _ _ => rfl)

abbrev spec_l02Misfitsp : List Sp := [.ref 0, .ref 1, .v true (.pair (.int .i64) (.int .i64)), .v false (.int .i64)]
abbrev spec_l02Misfitbs : List (Bs × Bool) := [(.var 91 (.pair (.pair (.int .i64) (.int .i64)) (.list (.pair (.int .i64) (.int .i64)))), true), (.var 94 (.pair (.int .i64) .bool), true)]
abbrev spec_l02Misfitrs : List (Bool × List Rp) := [(true, [.v false (.pair (.int .i64) (.int .i64))]), (false, [.v false (.int .i64)])]
noncomputable def spec_l02Misfitkp : Keep := { loop := fun id => match id with | _ => ([], []), join := fun id => match id with | _ => none }
noncomputable def spec_l02Misfitc : Code := bodyOf Go.Proofs.Try.f251
noncomputable def spec_l02MisfitF (n : Nat) : Fun := { id := 251, sp := spec_l02Misfitsp, bs := spec_l02Misfitbs, rs := spec_l02Misfitrs, f := fun x y => spec_l02Misfit n x.2.2.1 x.2.2.2.1 y.1 y.2.1 }

theorem spec_l02Misfit_eq (n : Nat) (a2 : (Int) × (Int)) (a3 : Int) (b0 : ((Int) × (Int)) × (List ((Int) × (Int)))) (b1 : (Int) × (Bool)) : runBody ([spec_l02LineF n, spec_l02NearestF n]) ty 36 n spec_l02Misfitkp spec_l02Misfitc Go.Proofs.Try.f251.results.toList spec_l02Misfitrs spec_l02Misfitsp spec_l02Misfitbs ((), ((), (a2, (a3, ())))) (b0, (b1, ())) = spec_l02Misfit n a2 a3 b0 b1 := by
  have h : runBody ([spec_l02LineF n, spec_l02NearestF n]) ty 36 n spec_l02Misfitkp spec_l02Misfitc Go.Proofs.Try.f251.results.toList spec_l02Misfitrs spec_l02Misfitsp spec_l02Misfitbs ((), ((), (a2, (a3, ())))) (b0, (b1, ())) = spec_l02Misfit_t n a2 a3 b0 b1 := by kernel_rfl
  rw [h]
  rfl

theorem spec_l02Misfit_ok (n : Nat) : FunOk P (spec_l02MisfitF n) :=
  funOk_mk (C := [spec_l02LineF n, spec_l02NearestF n]) (N := 36) (kp := spec_l02Misfitkp) (c := spec_l02Misfitc) (n := n) (G := fun x y => spec_l02Misfit n x.2.2.1 x.2.2.2.1 y.1 y.2.1) follows (AllOk.mem (⟨spec_l02Line_ok n, ⟨spec_l02Nearest_ok n, trivial⟩⟩ : AllOk P ([spec_l02LineF n, spec_l02NearestF n]))) (by kernel_rfl : P.funcs[251]? = some Go.Proofs.Try.f251) (by kernel_rfl) (by kernel_rfl) (by kernel_rfl)
    (fun x y => spec_l02Misfit_eq n x.2.2.1 x.2.2.2.1 y.1 y.2.1) (fun _ _ => map_same (fun _ => rfl) _) (fun _ _ _ _ => rfl)

abbrev spec_l02Fitssp : List Sp := [.ref 0, .ref 1, .v true (.pair (.int .i64) (.int .i64))]
abbrev spec_l02Fitsbs : List (Bs × Bool) := [(.var 91 (.pair (.pair (.int .i64) (.int .i64)) (.list (.pair (.int .i64) (.int .i64)))), true), (.var 94 (.pair (.int .i64) .bool), true)]
abbrev spec_l02Fitsrs : List (Bool × List Rp) := [(false, [.v false (.int .i64)]), (false, [.v false (.int .i64)])]
noncomputable def spec_l02Fitskp : Keep := { loop := fun id => match id with | 13 => ([16, 15, 5, 1, 0, 14], []) | _ => ([], []), join := fun id => match id with | _ => none }
noncomputable def spec_l02Fitsc : Code := bodyOf Go.Proofs.Try.f207
noncomputable def spec_l02FitsF (n : Nat) : Fun := { id := 207, sp := spec_l02Fitssp, bs := spec_l02Fitsbs, rs := spec_l02Fitsrs, f := fun x y => spec_l02Fits n x.2.2.1 y.1 y.2.1 }

theorem spec_l02Fits_l13_eq (n : Nat) : ∀ (k : Nat) (v16 : Int) (v14 : Int) (b0_0 : Int) (b0_1 : Int) (b0_2 : List ((Int) × (Int))) (b1_0 : Int) (b1_1 : Bool) (b2_0 : Int) (b2_1 : Int) (b3_0 : Int) (b3_1 : Int), iter (interp ([spec_l02MarkF n, spec_l01CmpF n, spec_l02LineF n, spec_l02MisfitF n]) ty 89 2 n spec_l02Fitskp (codeAt spec_l02Fitsc [1, 1, 1, 1, 1, 1, 1, 1, 1, 0, 1, 0, 0])) (canon 2 (spec_l02Fitskp.loop 13)) (kAt ([spec_l02MarkF n, spec_l01CmpF n, spec_l02LineF n, spec_l02MisfitF n]) ty 89 2 n spec_l02Fitskp spec_l02Fitsc [1, 1, 1, 1, 1, 1, 1, 1, 1, 0, 1, 0] [] (ending ty 2 Go.Proofs.Try.f207.results.toList spec_l02Fitsrs spec_l02Fitsbs)) k { env := [(16, .one (.sc (.int .i64 v16))), (15, .one (.ref 2 0 0 0 0 0)), (5, .one (.ref 3 0 0 0 0 0)), (1, .one (.ref 1 0 0 0 0 0)), (0, .one (.ref 0 0 0 0 0 0)), (14, .one (.sc (.int .i64 v14)))], bx := [(0, .var 91 [.sc (.int .i64 b0_0), .sc (.int .i64 b0_1), .list true (.pair (.int .i64) (.int .i64)) b0_2]), (1, .var 94 [.sc (.int .i64 b1_0), .sc (.bool b1_1)]), (2, .var 26 [.sc (.int .i64 b2_0), .sc (.int .i64 b2_1)]), (3, .var 26 [.sc (.int .i64 b3_0), .sc (.int .i64 b3_1)])], nx := 4 } = spec_l02Fits_l13 n k v16 v14 b0_0 b0_1 b0_2 b1_0 b1_1 b2_0 b2_1 b3_0 b3_1
  | 0, _, _, _, _, _, _, _, _, _, _, _ => by kernel_rfl
  | k + 1, v16, v14, b0_0, b0_1, b0_2, b1_0, b1_1, b2_0, b2_1, b3_0, b3_1 => by
    have h : iter (interp ([spec_l02MarkF n, spec_l01CmpF n, spec_l02LineF n, spec_l02MisfitF n]) ty 89 2 n spec_l02Fitskp (codeAt spec_l02Fitsc [1, 1, 1, 1, 1, 1, 1, 1, 1, 0, 1, 0, 0])) (canon 2 (spec_l02Fitskp.loop 13)) (kAt ([spec_l02MarkF n, spec_l01CmpF n, spec_l02LineF n, spec_l02MisfitF n]) ty 89 2 n spec_l02Fitskp spec_l02Fitsc [1, 1, 1, 1, 1, 1, 1, 1, 1, 0, 1, 0] [] (ending ty 2 Go.Proofs.Try.f207.results.toList spec_l02Fitsrs spec_l02Fitsbs)) (k + 1) { env := [(16, .one (.sc (.int .i64 v16))), (15, .one (.ref 2 0 0 0 0 0)), (5, .one (.ref 3 0 0 0 0 0)), (1, .one (.ref 1 0 0 0 0 0)), (0, .one (.ref 0 0 0 0 0 0)), (14, .one (.sc (.int .i64 v14)))], bx := [(0, .var 91 [.sc (.int .i64 b0_0), .sc (.int .i64 b0_1), .list true (.pair (.int .i64) (.int .i64)) b0_2]), (1, .var 94 [.sc (.int .i64 b1_0), .sc (.bool b1_1)]), (2, .var 26 [.sc (.int .i64 b2_0), .sc (.int .i64 b2_1)]), (3, .var 26 [.sc (.int .i64 b3_0), .sc (.int .i64 b3_1)])], nx := 4 } = spec_l02Fits_t13 n (fun v16 v14 b0_0 b0_1 b0_2 b1_0 b1_1 b2_0 b2_1 b3_0 b3_1 => iter (interp ([spec_l02MarkF n, spec_l01CmpF n, spec_l02LineF n, spec_l02MisfitF n]) ty 89 2 n spec_l02Fitskp (codeAt spec_l02Fitsc [1, 1, 1, 1, 1, 1, 1, 1, 1, 0, 1, 0, 0])) (canon 2 (spec_l02Fitskp.loop 13)) (kAt ([spec_l02MarkF n, spec_l01CmpF n, spec_l02LineF n, spec_l02MisfitF n]) ty 89 2 n spec_l02Fitskp spec_l02Fitsc [1, 1, 1, 1, 1, 1, 1, 1, 1, 0, 1, 0] [] (ending ty 2 Go.Proofs.Try.f207.results.toList spec_l02Fitsrs spec_l02Fitsbs)) k { env := [(16, .one (.sc (.int .i64 v16))), (15, .one (.ref 2 0 0 0 0 0)), (5, .one (.ref 3 0 0 0 0 0)), (1, .one (.ref 1 0 0 0 0 0)), (0, .one (.ref 0 0 0 0 0 0)), (14, .one (.sc (.int .i64 v14)))], bx := [(0, .var 91 [.sc (.int .i64 b0_0), .sc (.int .i64 b0_1), .list true (.pair (.int .i64) (.int .i64)) b0_2]), (1, .var 94 [.sc (.int .i64 b1_0), .sc (.bool b1_1)]), (2, .var 26 [.sc (.int .i64 b2_0), .sc (.int .i64 b2_1)]), (3, .var 26 [.sc (.int .i64 b3_0), .sc (.int .i64 b3_1)])], nx := 4 }) v16 v14 b0_0 b0_1 b0_2 b1_0 b1_1 b2_0 b2_1 b3_0 b3_1 := by kernel_rfl
    rw [h]
    have e := congrArg (fun g => spec_l02Fits_t13 n g v16 v14 b0_0 b0_1 b0_2 b1_0 b1_1 b2_0 b2_1 b3_0 b3_1) (funext fun v16 => funext fun v14 => funext fun b0_0 => funext fun b0_1 => funext fun b0_2 => funext fun b1_0 => funext fun b1_1 => funext fun b2_0 => funext fun b2_1 => funext fun b3_0 => funext fun b3_1 => spec_l02Fits_l13_eq n k v16 v14 b0_0 b0_1 b0_2 b1_0 b1_1 b2_0 b2_1 b3_0 b3_1)
    exact e

theorem spec_l02Fits_eq (n : Nat) (a2 : (Int) × (Int)) (b0 : ((Int) × (Int)) × (List ((Int) × (Int)))) (b1 : (Int) × (Bool)) : runBody ([spec_l02MarkF n, spec_l01CmpF n, spec_l02LineF n, spec_l02MisfitF n]) ty 89 n spec_l02Fitskp spec_l02Fitsc Go.Proofs.Try.f207.results.toList spec_l02Fitsrs spec_l02Fitssp spec_l02Fitsbs ((), ((), (a2, ()))) (b0, (b1, ())) = spec_l02Fits n a2 b0 b1 := by
  have h : runBody ([spec_l02MarkF n, spec_l01CmpF n, spec_l02LineF n, spec_l02MisfitF n]) ty 89 n spec_l02Fitskp spec_l02Fitsc Go.Proofs.Try.f207.results.toList spec_l02Fitsrs spec_l02Fitssp spec_l02Fitsbs ((), ((), (a2, ()))) (b0, (b1, ())) = spec_l02Fits_t n (fun k v16 v14 b0_0 b0_1 b0_2 b1_0 b1_1 b2_0 b2_1 b3_0 b3_1 => iter (interp ([spec_l02MarkF n, spec_l01CmpF n, spec_l02LineF n, spec_l02MisfitF n]) ty 89 2 n spec_l02Fitskp (codeAt spec_l02Fitsc [1, 1, 1, 1, 1, 1, 1, 1, 1, 0, 1, 0, 0])) (canon 2 (spec_l02Fitskp.loop 13)) (kAt ([spec_l02MarkF n, spec_l01CmpF n, spec_l02LineF n, spec_l02MisfitF n]) ty 89 2 n spec_l02Fitskp spec_l02Fitsc [1, 1, 1, 1, 1, 1, 1, 1, 1, 0, 1, 0] [] (ending ty 2 Go.Proofs.Try.f207.results.toList spec_l02Fitsrs spec_l02Fitsbs)) k { env := [(16, .one (.sc (.int .i64 v16))), (15, .one (.ref 2 0 0 0 0 0)), (5, .one (.ref 3 0 0 0 0 0)), (1, .one (.ref 1 0 0 0 0 0)), (0, .one (.ref 0 0 0 0 0 0)), (14, .one (.sc (.int .i64 v14)))], bx := [(0, .var 91 [.sc (.int .i64 b0_0), .sc (.int .i64 b0_1), .list true (.pair (.int .i64) (.int .i64)) b0_2]), (1, .var 94 [.sc (.int .i64 b1_0), .sc (.bool b1_1)]), (2, .var 26 [.sc (.int .i64 b2_0), .sc (.int .i64 b2_1)]), (3, .var 26 [.sc (.int .i64 b3_0), .sc (.int .i64 b3_1)])], nx := 4 }) a2 b0 b1 := by kernel_rfl
  rw [h]
  have e := congrArg (fun h13 => spec_l02Fits_t n h13 a2 b0 b1) (funext fun k => funext fun v16 => funext fun v14 => funext fun b0_0 => funext fun b0_1 => funext fun b0_2 => funext fun b1_0 => funext fun b1_1 => funext fun b2_0 => funext fun b2_1 => funext fun b3_0 => funext fun b3_1 => spec_l02Fits_l13_eq n k v16 v14 b0_0 b0_1 b0_2 b1_0 b1_1 b2_0 b2_1 b3_0 b3_1)
  exact e

theorem spec_l02Fits_ok (n : Nat) : FunOk P (spec_l02FitsF n) :=
  funOk_mk (C := [spec_l02MarkF n, spec_l01CmpF n, spec_l02LineF n, spec_l02MisfitF n]) (N := 89) (kp := spec_l02Fitskp) (c := spec_l02Fitsc) (n := n) (G := fun x y => spec_l02Fits n x.2.2.1 y.1 y.2.1) follows (AllOk.mem (⟨spec_l02Mark_ok n, ⟨spec_l01Cmp_ok n, ⟨spec_l02Line_ok n, ⟨spec_l02Misfit_ok n, trivial⟩⟩⟩⟩ : AllOk P ([spec_l02MarkF n, spec_l01CmpF n, spec_l02LineF n, spec_l02MisfitF n]))) (by kernel_rfl : P.funcs[207]? = some Go.Proofs.Try.f207) (by kernel_rfl) (by kernel_rfl) (by kernel_rfl)
    (fun x y => spec_l02Fits_eq n x.2.2.1 y.1 y.2.1) (fun _ _ => map_same (fun _ => rfl) _) (fun _ _ _ _ => rfl)

abbrev spec_LineThatFitssp : List Sp := [.v true (.pair (.pair (.int .i64) (.int .i64)) (.list (.pair (.int .i64) (.int .i64)))), .v true (.pair (.int .i64) .bool), .v true (.pair (.int .i64) (.int .i64))]
abbrev spec_LineThatFitsbs : List (Bs × Bool) := []
abbrev spec_LineThatFitsrs : List (Bool × List Rp) := [(false, [.v false (.int .i64)]), (false, [.v false (.int .i64)])]
noncomputable def spec_LineThatFitskp : Keep := { loop := fun id => match id with | _ => ([], []), join := fun id => match id with | _ => none }
noncomputable def spec_LineThatFitsc : Code := bodyOf Go.Proofs.Try.f83
noncomputable def spec_LineThatFitsF (n : Nat) : Fun := { id := 83, sp := spec_LineThatFitssp, bs := spec_LineThatFitsbs, rs := spec_LineThatFitsrs, f := fun x y => spec_LineThatFits n x.1 x.2.1 x.2.2.1 }

theorem spec_LineThatFits_eq (n : Nat) (a0 : ((Int) × (Int)) × (List ((Int) × (Int)))) (a1 : (Int) × (Bool)) (a2 : (Int) × (Int)) : runBody ([spec_l02AskedF n, spec_l02FitsF n]) ty 18 n spec_LineThatFitskp spec_LineThatFitsc Go.Proofs.Try.f83.results.toList spec_LineThatFitsrs spec_LineThatFitssp spec_LineThatFitsbs (a0, (a1, (a2, ()))) () = spec_LineThatFits n a0 a1 a2 := by
  have h : runBody ([spec_l02AskedF n, spec_l02FitsF n]) ty 18 n spec_LineThatFitskp spec_LineThatFitsc Go.Proofs.Try.f83.results.toList spec_LineThatFitsrs spec_LineThatFitssp spec_LineThatFitsbs (a0, (a1, (a2, ()))) () = spec_LineThatFits_t n a0 a1 a2 := by kernel_rfl
  rw [h]
  rfl

theorem spec_LineThatFits_ok (n : Nat) : FunOk P (spec_LineThatFitsF n) :=
  funOk_mk (C := [spec_l02AskedF n, spec_l02FitsF n]) (N := 18) (kp := spec_LineThatFitskp) (c := spec_LineThatFitsc) (n := n) (G := fun x y => spec_LineThatFits n x.1 x.2.1 x.2.2.1) follows (AllOk.mem (⟨spec_l02Asked_ok n, ⟨spec_l02Fits_ok n, trivial⟩⟩ : AllOk P ([spec_l02AskedF n, spec_l02FitsF n]))) (by kernel_rfl : P.funcs[83]? = some Go.Proofs.Try.f83) (by kernel_rfl) (by kernel_rfl) (by kernel_rfl)
    (fun x y => spec_LineThatFits_eq n x.1 x.2.1 x.2.2.1) (fun _ _ => map_same (fun _ => rfl) _) (fun _ _ _ _ => rfl)

abbrev impl_floorDivsp : List Sp := [.v false (.int .i64), .v false (.int .i64)]
abbrev impl_floorDivbs : List (Bs × Bool) := []
abbrev impl_floorDivrs : List (Bool × List Rp) := [(false, [.v false (.int .i64)])]
noncomputable def impl_floorDivkp : Keep := { loop := fun id => match id with | _ => ([], []), join := fun id => match id with | _ => none }
noncomputable def impl_floorDivc : Code := bodyOf Go.Proofs.Try.f150
noncomputable def impl_floorDivF (n : Nat) : Fun := { id := 150, sp := impl_floorDivsp, bs := impl_floorDivbs, rs := impl_floorDivrs, f := fun x y => impl_floorDiv n x.1 x.2.1 }

theorem impl_floorDiv_eq (n : Nat) (a0 : Int) (a1 : Int) : runBody ([]) ty 23 n impl_floorDivkp impl_floorDivc Go.Proofs.Try.f150.results.toList impl_floorDivrs impl_floorDivsp impl_floorDivbs (a0, (a1, ())) () = impl_floorDiv n a0 a1 := by
  have h : runBody ([]) ty 23 n impl_floorDivkp impl_floorDivc Go.Proofs.Try.f150.results.toList impl_floorDivrs impl_floorDivsp impl_floorDivbs (a0, (a1, ())) () = impl_floorDiv_t n a0 a1 := by kernel_rfl
  rw [h]
  rfl

theorem impl_floorDiv_ok (n : Nat) : FunOk P (impl_floorDivF n) :=
  funOk_mk (C := []) (N := 23) (kp := impl_floorDivkp) (c := impl_floorDivc) (n := n) (G := fun x y => impl_floorDiv n x.1 x.2.1) follows (AllOk.mem (trivial : AllOk P ([]))) (by kernel_rfl : P.funcs[150]? = some Go.Proofs.Try.f150) (by kernel_rfl) (by kernel_rfl) (by kernel_rfl)
    (fun x y => impl_floorDiv_eq n x.1 x.2.1) (fun _ _ => map_same (fun _ => rfl) _) (fun _ _ _ _ => rfl)

abbrev impl_nearestsp : List Sp := [.v false (.int .i64), .v false (.int .i64)]
abbrev impl_nearestbs : List (Bs × Bool) := []
abbrev impl_nearestrs : List (Bool × List Rp) := [(false, [.v false (.int .i64)]), (false, [.v false .bool])]
noncomputable def impl_nearestkp : Keep := { loop := fun id => match id with | _ => ([], []), join := fun id => match id with | _ => none }
noncomputable def impl_nearestc : Code := bodyOf Go.Proofs.Try.f209
noncomputable def impl_nearestF (n : Nat) : Fun := { id := 209, sp := impl_nearestsp, bs := impl_nearestbs, rs := impl_nearestrs, f := fun x y => impl_nearest n x.1 x.2.1 }

theorem impl_nearest_eq (n : Nat) (a0 : Int) (a1 : Int) : runBody ([impl_floorDivF n, impl_withinF n]) ty 17 n impl_nearestkp impl_nearestc Go.Proofs.Try.f209.results.toList impl_nearestrs impl_nearestsp impl_nearestbs (a0, (a1, ())) () = impl_nearest n a0 a1 := by
  have h : runBody ([impl_floorDivF n, impl_withinF n]) ty 17 n impl_nearestkp impl_nearestc Go.Proofs.Try.f209.results.toList impl_nearestrs impl_nearestsp impl_nearestbs (a0, (a1, ())) () = impl_nearest_t n a0 a1 := by kernel_rfl
  rw [h]
  rfl

theorem impl_nearest_ok (n : Nat) : FunOk P (impl_nearestF n) :=
  funOk_mk (C := [impl_floorDivF n, impl_withinF n]) (N := 17) (kp := impl_nearestkp) (c := impl_nearestc) (n := n) (G := fun x y => impl_nearest n x.1 x.2.1) follows (AllOk.mem (⟨impl_floorDiv_ok n, ⟨impl_within_ok n, trivial⟩⟩ : AllOk P ([impl_floorDivF n, impl_withinF n]))) (by kernel_rfl : P.funcs[209]? = some Go.Proofs.Try.f209) (by kernel_rfl) (by kernel_rfl) (by kernel_rfl)
    (fun x y => impl_nearest_eq n x.1 x.2.1) (fun _ _ => map_same (fun _ => rfl) _) (fun _ _ _ _ => rfl)

abbrev impl_calc_onesp : List Sp := [.ref 0, .v true (.pair (.int .i64) (.int .i64))]
abbrev impl_calc_onebs : List (Bs × Bool) := [(.var 139 .bool, true)]
abbrev impl_calc_oners : List (Bool × List Rp) := [(true, [.v false (.pair (.int .i64) (.int .i64))]), (false, [.v false (.int .i64)])]
noncomputable def impl_calc_onekp : Keep := { loop := fun id => match id with | _ => ([], []), join := fun id => match id with | _ => none }
noncomputable def impl_calc_onec : Code := bodyOf Go.Proofs.Try.f164
noncomputable def impl_calc_oneF (n : Nat) : Fun := { id := 164, sp := impl_calc_onesp, bs := impl_calc_onebs, rs := impl_calc_oners, f := fun x y => impl_calc_one n x.2.1 y.1 }

theorem impl_calc_one_eq (n : Nat) (a1 : (Int) × (Int)) (b0 : Bool) : runBody ([]) ty 12 n impl_calc_onekp impl_calc_onec Go.Proofs.Try.f164.results.toList impl_calc_oners impl_calc_onesp impl_calc_onebs ((), (a1, ())) (b0, ()) = impl_calc_one n a1 b0 := by
  have h : runBody ([]) ty 12 n impl_calc_onekp impl_calc_onec Go.Proofs.Try.f164.results.toList impl_calc_oners impl_calc_onesp impl_calc_onebs ((), (a1, ())) (b0, ()) = impl_calc_one_t n a1 b0 := by kernel_rfl
  rw [h]
  rfl

theorem impl_calc_one_ok (n : Nat) : FunOk P (impl_calc_oneF n) :=
  funOk_mk (C := []) (N := 12) (kp := impl_calc_onekp) (c := impl_calc_onec) (n := n) (G := fun x y => impl_calc_one n x.2.1 y.1) follows (AllOk.mem (trivial : AllOk P ([]))) (by kernel_rfl : P.funcs[164]? = some Go.Proofs.Try.f164) (by kernel_rfl) (by kernel_rfl) (by kernel_rfl)
    (fun x y => impl_calc_one_eq n x.2.1 y.1) (fun _ _ => map_same (fun _ => rfl) _) (fun _ _ _ _ => rfl)

abbrev impl_ReadVerniersp : List Sp := [.v true (.pair (.pair (.int .i64) (.int .i64)) (.list (.pair (.int .i64) (.int .i64)))), .v true (.pair (.int .i64) .bool), .v true (.pair (.int .i64) (.int .i64))]
abbrev impl_ReadVernierbs : List (Bs × Bool) := []
abbrev impl_ReadVernierrs : List (Bool × List Rp) := [(true, [.v false (.pair (.int .i64) (.int .i64))]), (false, [.v false (.int .i64)])]
noncomputable def impl_ReadVernierkp : Keep := { loop := fun id => match id with | _ => ([], []), join := fun id => match id with | _ => none }
noncomputable def impl_ReadVernierc : Code := bodyOf Go.Proofs.Try.f84
noncomputable def impl_ReadVernierF (n : Nat) : Fun := { id := 84, sp := impl_ReadVerniersp, bs := impl_ReadVernierbs, rs := impl_ReadVernierrs, f := fun x y => impl_ReadVernier n x.1 x.2.1 x.2.2.1 }

theorem impl_ReadVernier_eq (n : Nat) (a0 : ((Int) × (Int)) × (List ((Int) × (Int)))) (a1 : (Int) × (Bool)) (a2 : (Int) × (Int)) : runBody ([impl_LineThatFitsF n, impl_numF n, impl_calc_divF n, impl_calc_mulF n, impl_calc_subF n, impl_nearestF n, impl_calc_addF n, impl_calc_oneF n]) ty 85 n impl_ReadVernierkp impl_ReadVernierc Go.Proofs.Try.f84.results.toList impl_ReadVernierrs impl_ReadVerniersp impl_ReadVernierbs (a0, (a1, (a2, ()))) () = impl_ReadVernier n a0 a1 a2 := by
  have h : runBody ([impl_LineThatFitsF n, impl_numF n, impl_calc_divF n, impl_calc_mulF n, impl_calc_subF n, impl_nearestF n, impl_calc_addF n, impl_calc_oneF n]) ty 85 n impl_ReadVernierkp impl_ReadVernierc Go.Proofs.Try.f84.results.toList impl_ReadVernierrs impl_ReadVerniersp impl_ReadVernierbs (a0, (a1, (a2, ()))) () = impl_ReadVernier_t n a0 a1 a2 := by kernel_rfl
  rw [h]
  rfl

theorem impl_ReadVernier_ok (n : Nat) : FunOk P (impl_ReadVernierF n) :=
  funOk_mk (C := [impl_LineThatFitsF n, impl_numF n, impl_calc_divF n, impl_calc_mulF n, impl_calc_subF n, impl_nearestF n, impl_calc_addF n, impl_calc_oneF n]) (N := 85) (kp := impl_ReadVernierkp) (c := impl_ReadVernierc) (n := n) (G := fun x y => impl_ReadVernier n x.1 x.2.1 x.2.2.1) follows (AllOk.mem (⟨impl_LineThatFits_ok n, ⟨impl_num_ok n, ⟨impl_calc_div_ok n, ⟨impl_calc_mul_ok n, ⟨impl_calc_sub_ok n, ⟨impl_nearest_ok n, ⟨impl_calc_add_ok n, ⟨impl_calc_one_ok n, trivial⟩⟩⟩⟩⟩⟩⟩⟩ : AllOk P ([impl_LineThatFitsF n, impl_numF n, impl_calc_divF n, impl_calc_mulF n, impl_calc_subF n, impl_nearestF n, impl_calc_addF n, impl_calc_oneF n]))) (by kernel_rfl : P.funcs[84]? = some Go.Proofs.Try.f84) (by kernel_rfl) (by kernel_rfl) (by kernel_rfl)
    (fun x y => impl_ReadVernier_eq n x.1 x.2.1 x.2.2.1) (fun _ _ => map_same (fun _ => rfl) _) (fun _ _ _ _ => rfl)

abbrev spec_l01Downsp : List Sp := [.v false (.int .i64), .v false (.int .i64)]
abbrev spec_l01Downbs : List (Bs × Bool) := []
abbrev spec_l01Downrs : List (Bool × List Rp) := [(false, [.v false (.int .i64)])]
noncomputable def spec_l01Downkp : Keep := { loop := fun id => match id with | _ => ([], []), join := fun id => match id with | _ => none }
noncomputable def spec_l01Downc : Code := bodyOf Go.Proofs.Try.f196
noncomputable def spec_l01DownF (n : Nat) : Fun := { id := 196, sp := spec_l01Downsp, bs := spec_l01Downbs, rs := spec_l01Downrs, f := fun x y => spec_l01Down n x.1 x.2.1 }

theorem spec_l01Down_eq (n : Nat) (a0 : Int) (a1 : Int) : runBody ([]) ty 16 n spec_l01Downkp spec_l01Downc Go.Proofs.Try.f196.results.toList spec_l01Downrs spec_l01Downsp spec_l01Downbs (a0, (a1, ())) () = spec_l01Down n a0 a1 := by
  have h : runBody ([]) ty 16 n spec_l01Downkp spec_l01Downc Go.Proofs.Try.f196.results.toList spec_l01Downrs spec_l01Downsp spec_l01Downbs (a0, (a1, ())) () = spec_l01Down_t n a0 a1 := by kernel_rfl
  rw [h]
  rfl

theorem spec_l01Down_ok (n : Nat) : FunOk P (spec_l01DownF n) :=
  funOk_mk (C := []) (N := 16) (kp := spec_l01Downkp) (c := spec_l01Downc) (n := n) (G := fun x y => spec_l01Down n x.1 x.2.1) follows (AllOk.mem (trivial : AllOk P ([]))) (by kernel_rfl : P.funcs[196]? = some Go.Proofs.Try.f196) (by kernel_rfl) (by kernel_rfl) (by kernel_rfl)
    (fun x y => spec_l01Down_eq n x.1 x.2.1) (fun _ _ => map_same (fun _ => rfl) _) (fun _ _ _ _ => rfl)

abbrev spec_l01Nearsp : List Sp := [.v true (.pair (.int .i64) (.int .i64)), .v true (.pair (.int .i64) (.int .i64))]
abbrev spec_l01Nearbs : List (Bs × Bool) := []
abbrev spec_l01Nearrs : List (Bool × List Rp) := [(false, [.v false (.int .i64)])]
noncomputable def spec_l01Nearkp : Keep := { loop := fun id => match id with | _ => ([], []), join := fun id => match id with | _ => none }
noncomputable def spec_l01Nearc : Code := bodyOf Go.Proofs.Try.f253
noncomputable def spec_l01NearF (n : Nat) : Fun := { id := 253, sp := spec_l01Nearsp, bs := spec_l01Nearbs, rs := spec_l01Nearrs, f := fun x y => spec_l01Near n x.1 x.2.1 }

theorem spec_l01Near_eq (n : Nat) (a0 : (Int) × (Int)) (a1 : (Int) × (Int)) : runBody ([spec_l01DownF n]) ty 24 n spec_l01Nearkp spec_l01Nearc Go.Proofs.Try.f253.results.toList spec_l01Nearrs spec_l01Nearsp spec_l01Nearbs (a0, (a1, ())) () = spec_l01Near n a0 a1 := by
  have h : runBody ([spec_l01DownF n]) ty 24 n spec_l01Nearkp spec_l01Nearc Go.Proofs.Try.f253.results.toList spec_l01Nearrs spec_l01Nearsp spec_l01Nearbs (a0, (a1, ())) () = spec_l01Near_t n a0 a1 := by kernel_rfl
  rw [h]
  rfl

theorem spec_l01Near_ok (n : Nat) : FunOk P (spec_l01NearF n) :=
  funOk_mk (C := [spec_l01DownF n]) (N := 24) (kp := spec_l01Nearkp) (c := spec_l01Nearc) (n := n) (G := fun x y => spec_l01Near n x.1 x.2.1) follows (AllOk.mem (⟨spec_l01Down_ok n, trivial⟩ : AllOk P ([spec_l01DownF n]))) (by kernel_rfl : P.funcs[253]? = some Go.Proofs.Try.f253) (by kernel_rfl) (by kernel_rfl) (by kernel_rfl)
    (fun x y => spec_l01Near_eq n x.1 x.2.1) (fun _ _ => map_same (fun _ => rfl) _) (fun _ _ _ _ => rfl)

abbrev spec_l01Integersp : List Sp := [.v false (.int .i64)]
abbrev spec_l01Integerbs : List (Bs × Bool) := []
abbrev spec_l01Integerrs : List (Bool × List Rp) := [(false, [.v false (.int .i64)]), (false, [.v false (.int .i64)])]
noncomputable def spec_l01Integerkp : Keep := { loop := fun id => match id with | _ => ([], []), join := fun id => match id with | _ => none }
noncomputable def spec_l01Integerc : Code := bodyOf Go.Proofs.Try.f252
noncomputable def spec_l01IntegerF (n : Nat) : Fun := { id := 252, sp := spec_l01Integersp, bs := spec_l01Integerbs, rs := spec_l01Integerrs, f := fun x y => spec_l01Integer n x.1 }

theorem spec_l01Integer_eq (n : Nat) (a0 : Int) : runBody ([spec_l00InF n]) ty 8 n spec_l01Integerkp spec_l01Integerc Go.Proofs.Try.f252.results.toList spec_l01Integerrs spec_l01Integersp spec_l01Integerbs (a0, ()) () = spec_l01Integer n a0 := by
  have h : runBody ([spec_l00InF n]) ty 8 n spec_l01Integerkp spec_l01Integerc Go.Proofs.Try.f252.results.toList spec_l01Integerrs spec_l01Integersp spec_l01Integerbs (a0, ()) () = spec_l01Integer_t n a0 := by kernel_rfl
  rw [h]
  rfl

theorem spec_l01Integer_ok (n : Nat) : FunOk P (spec_l01IntegerF n) :=
  funOk_mk (C := [spec_l00InF n]) (N := 8) (kp := spec_l01Integerkp) (c := spec_l01Integerc) (n := n) (G := fun x y => spec_l01Integer n x.1) follows (AllOk.mem (⟨spec_l00In_ok n, trivial⟩ : AllOk P ([spec_l00InF n]))) (by kernel_rfl : P.funcs[252]? = some Go.Proofs.Try.f252) (by kernel_rfl) (by kernel_rfl) (by kernel_rfl)
    (fun x y => spec_l01Integer_eq n x.1) (fun _ _ => map_same (fun _ => rfl) _) (fun _ _ _ _ => rfl)

abbrev spec_l02Readsp : List Sp := [.ref 0, .ref 1, .v true (.pair (.int .i64) (.int .i64))]
abbrev spec_l02Readbs : List (Bs × Bool) := [(.var 91 (.pair (.pair (.int .i64) (.int .i64)) (.list (.pair (.int .i64) (.int .i64)))), true), (.var 94 (.pair (.int .i64) .bool), true)]
abbrev spec_l02Readrs : List (Bool × List Rp) := [(true, [.v false (.pair (.int .i64) (.int .i64))]), (false, [.v false (.int .i64)])]
noncomputable def spec_l02Readkp : Keep := { loop := fun id => match id with | _ => ([], []), join := fun id => match id with | _ => none }
noncomputable def spec_l02Readc : Code := bodyOf Go.Proofs.Try.f210
noncomputable def spec_l02ReadF (n : Nat) : Fun := { id := 210, sp := spec_l02Readsp, bs := spec_l02Readbs, rs := spec_l02Readrs, f := fun x y => spec_l02Read n x.2.2.1 y.1 y.2.1 }

theorem spec_l02Read_eq (n : Nat) (a2 : (Int) × (Int)) (b0 : ((Int) × (Int)) × (List ((Int) × (Int)))) (b1 : (Int) × (Bool)) : runBody ([spec_l02FitsF n, spec_l01WholeF n, spec_l01DivF n, spec_l01MulF n, spec_l01SubF n, spec_l01NearF n, spec_l01IntegerF n, spec_l01AddF n]) ty 112 n spec_l02Readkp spec_l02Readc Go.Proofs.Try.f210.results.toList spec_l02Readrs spec_l02Readsp spec_l02Readbs ((), ((), (a2, ()))) (b0, (b1, ())) = spec_l02Read n a2 b0 b1 := by
  have h : runBody ([spec_l02FitsF n, spec_l01WholeF n, spec_l01DivF n, spec_l01MulF n, spec_l01SubF n, spec_l01NearF n, spec_l01IntegerF n, spec_l01AddF n]) ty 112 n spec_l02Readkp spec_l02Readc Go.Proofs.Try.f210.results.toList spec_l02Readrs spec_l02Readsp spec_l02Readbs ((), ((), (a2, ()))) (b0, (b1, ())) = spec_l02Read_t n a2 b0 b1 := by kernel_rfl
  rw [h]
  rfl

theorem spec_l02Read_ok (n : Nat) : FunOk P (spec_l02ReadF n) :=
  funOk_mk (C := [spec_l02FitsF n, spec_l01WholeF n, spec_l01DivF n, spec_l01MulF n, spec_l01SubF n, spec_l01NearF n, spec_l01IntegerF n, spec_l01AddF n]) (N := 112) (kp := spec_l02Readkp) (c := spec_l02Readc) (n := n) (G := fun x y => spec_l02Read n x.2.2.1 y.1 y.2.1) follows (AllOk.mem (⟨spec_l02Fits_ok n, ⟨spec_l01Whole_ok n, ⟨spec_l01Div_ok n, ⟨spec_l01Mul_ok n, ⟨spec_l01Sub_ok n, ⟨spec_l01Near_ok n, ⟨spec_l01Integer_ok n, ⟨spec_l01Add_ok n, trivial⟩⟩⟩⟩⟩⟩⟩⟩ : AllOk P ([spec_l02FitsF n, spec_l01WholeF n, spec_l01DivF n, spec_l01MulF n, spec_l01SubF n, spec_l01NearF n, spec_l01IntegerF n, spec_l01AddF n]))) (by kernel_rfl : P.funcs[210]? = some Go.Proofs.Try.f210) (by kernel_rfl) (by kernel_rfl) (by kernel_rfl)
    (fun x y => spec_l02Read_eq n x.2.2.1 y.1 y.2.1) (fun _ _ => map_same (fun _ => rfl) _) (fun _ _ _ _ => rfl)

abbrev spec_ReadVerniersp : List Sp := [.v true (.pair (.pair (.int .i64) (.int .i64)) (.list (.pair (.int .i64) (.int .i64)))), .v true (.pair (.int .i64) .bool), .v true (.pair (.int .i64) (.int .i64))]
abbrev spec_ReadVernierbs : List (Bs × Bool) := []
abbrev spec_ReadVernierrs : List (Bool × List Rp) := [(true, [.v false (.pair (.int .i64) (.int .i64))]), (false, [.v false (.int .i64)])]
noncomputable def spec_ReadVernierkp : Keep := { loop := fun id => match id with | _ => ([], []), join := fun id => match id with | _ => none }
noncomputable def spec_ReadVernierc : Code := bodyOf Go.Proofs.Try.f85
noncomputable def spec_ReadVernierF (n : Nat) : Fun := { id := 85, sp := spec_ReadVerniersp, bs := spec_ReadVernierbs, rs := spec_ReadVernierrs, f := fun x y => spec_ReadVernier n x.1 x.2.1 x.2.2.1 }

theorem spec_ReadVernier_eq (n : Nat) (a0 : ((Int) × (Int)) × (List ((Int) × (Int)))) (a1 : (Int) × (Bool)) (a2 : (Int) × (Int)) : runBody ([spec_l02AskedF n, spec_l02ReadF n]) ty 19 n spec_ReadVernierkp spec_ReadVernierc Go.Proofs.Try.f85.results.toList spec_ReadVernierrs spec_ReadVerniersp spec_ReadVernierbs (a0, (a1, (a2, ()))) () = spec_ReadVernier n a0 a1 a2 := by
  have h : runBody ([spec_l02AskedF n, spec_l02ReadF n]) ty 19 n spec_ReadVernierkp spec_ReadVernierc Go.Proofs.Try.f85.results.toList spec_ReadVernierrs spec_ReadVerniersp spec_ReadVernierbs (a0, (a1, (a2, ()))) () = spec_ReadVernier_t n a0 a1 a2 := by kernel_rfl
  rw [h]
  rfl

theorem spec_ReadVernier_ok (n : Nat) : FunOk P (spec_ReadVernierF n) :=
  funOk_mk (C := [spec_l02AskedF n, spec_l02ReadF n]) (N := 19) (kp := spec_ReadVernierkp) (c := spec_ReadVernierc) (n := n) (G := fun x y => spec_ReadVernier n x.1 x.2.1 x.2.2.1) follows (AllOk.mem (⟨spec_l02Asked_ok n, ⟨spec_l02Read_ok n, trivial⟩⟩ : AllOk P ([spec_l02AskedF n, spec_l02ReadF n]))) (by kernel_rfl : P.funcs[85]? = some Go.Proofs.Try.f85) (by kernel_rfl) (by kernel_rfl) (by kernel_rfl)
    (fun x y => spec_ReadVernier_eq n x.1 x.2.1 x.2.2.1) (fun _ _ => map_same (fun _ => rfl) _) (fun _ _ _ _ => rfl)

abbrev impl_greatersp : List Sp := [.v true (.pair (.int .i64) (.int .i64)), .v true (.pair (.int .i64) (.int .i64))]
abbrev impl_greaterbs : List (Bs × Bool) := []
abbrev impl_greaterrs : List (Bool × List Rp) := [(true, [.v false (.pair (.int .i64) (.int .i64))])]
noncomputable def impl_greaterkp : Keep := { loop := fun id => match id with | _ => ([], []), join := fun id => match id with | _ => none }
noncomputable def impl_greaterc : Code := bodyOf Go.Proofs.Try.f261
noncomputable def impl_greaterF (n : Nat) : Fun := { id := 261, sp := impl_greatersp, bs := impl_greaterbs, rs := impl_greaterrs, f := fun x y => impl_greater n x.1 x.2.1 }

theorem impl_greater_eq (n : Nat) (a0 : (Int) × (Int)) (a1 : (Int) × (Int)) : runBody ([impl_compareF n]) ty 11 n impl_greaterkp impl_greaterc Go.Proofs.Try.f261.results.toList impl_greaterrs impl_greatersp impl_greaterbs (a0, (a1, ())) () = impl_greater n a0 a1 := by
  have h : runBody ([impl_compareF n]) ty 11 n impl_greaterkp impl_greaterc Go.Proofs.Try.f261.results.toList impl_greaterrs impl_greatersp impl_greaterbs (a0, (a1, ())) () = impl_greater_t n a0 a1 := by kernel_rfl
  rw [h]
  rfl

theorem impl_greater_ok (n : Nat) : FunOk P (impl_greaterF n) :=
  funOk_mk (C := [impl_compareF n]) (N := 11) (kp := impl_greaterkp) (c := impl_greaterc) (n := n) (G := fun x y => impl_greater n x.1 x.2.1) follows (AllOk.mem (⟨impl_compare_ok n, trivial⟩ : AllOk P ([impl_compareF n]))) (by kernel_rfl : P.funcs[261]? = some Go.Proofs.Try.f261) (by kernel_rfl) (by kernel_rfl) (by kernel_rfl)
    (fun x y => impl_greater_eq n x.1 x.2.1) (fun _ _ => map_same (fun _ => rfl) _) (fun _ _ _ _ => rfl)

abbrev impl_worstsp : List Sp := [.v true (.pair (.pair (.int .i64) (.int .i64)) (.list (.pair (.int .i64) (.int .i64))))]
abbrev impl_worstbs : List (Bs × Bool) := []
abbrev impl_worstrs : List (Bool × List Rp) := [(true, [.v false (.pair (.int .i64) (.int .i64))])]
noncomputable def impl_worstkp : Keep := { loop := fun id => match id with | 3 => ([10, 3, 8, 2, 9], []) | _ => ([], []), join := fun id => match id with | _ => none }
noncomputable def impl_worstc : Code := bodyOf Go.Proofs.Try.f254
noncomputable def impl_worstF (n : Nat) : Fun := { id := 254, sp := impl_worstsp, bs := impl_worstbs, rs := impl_worstrs, f := fun x y => impl_worst n x.1 }

theorem impl_worst_l3_eq (n : Nat) : ∀ (k : Nat) (v10 : Int) (v8 : List ((Int) × (Int))) (v9 : Int) (b0_0 : Int) (b0_1 : Int) (b1_0 : Int) (b1_1 : Int), iter (interp ([impl_zeroF n, impl_sizeF n, impl_greaterF n]) ty 20 0 n impl_worstkp (codeAt impl_worstc [1, 1, 0, 1, 0, 0])) (canon 0 (impl_worstkp.loop 3)) (kAt ([impl_zeroF n, impl_sizeF n, impl_greaterF n]) ty 20 0 n impl_worstkp impl_worstc [1, 1, 0, 1, 0] [] (ending ty 0 Go.Proofs.Try.f254.results.toList impl_worstrs impl_worstbs)) k { env := [(10, .one (.sc (.int .i64 v10))), (3, .one (.ref 0 0 0 0 0 0)), (8, .one (.list true (.pair (.int .i64) (.int .i64)) v8)), (2, .one (.ref 1 0 0 0 0 0)), (9, .one (.sc (.int .i64 v9)))], bx := [(0, .var 26 [.sc (.int .i64 b0_0), .sc (.int .i64 b0_1)]), (1, .var 26 [.sc (.int .i64 b1_0), .sc (.int .i64 b1_1)])], nx := 2 } = impl_worst_l3 n k v10 v8 v9 b0_0 b0_1 b1_0 b1_1
  | 0, _, _, _, _, _, _, _ => by kernel_rfl
  | k + 1, v10, v8, v9, b0_0, b0_1, b1_0, b1_1 => by
    have h : iter (interp ([impl_zeroF n, impl_sizeF n, impl_greaterF n]) ty 20 0 n impl_worstkp (codeAt impl_worstc [1, 1, 0, 1, 0, 0])) (canon 0 (impl_worstkp.loop 3)) (kAt ([impl_zeroF n, impl_sizeF n, impl_greaterF n]) ty 20 0 n impl_worstkp impl_worstc [1, 1, 0, 1, 0] [] (ending ty 0 Go.Proofs.Try.f254.results.toList impl_worstrs impl_worstbs)) (k + 1) { env := [(10, .one (.sc (.int .i64 v10))), (3, .one (.ref 0 0 0 0 0 0)), (8, .one (.list true (.pair (.int .i64) (.int .i64)) v8)), (2, .one (.ref 1 0 0 0 0 0)), (9, .one (.sc (.int .i64 v9)))], bx := [(0, .var 26 [.sc (.int .i64 b0_0), .sc (.int .i64 b0_1)]), (1, .var 26 [.sc (.int .i64 b1_0), .sc (.int .i64 b1_1)])], nx := 2 } = impl_worst_t3 n (fun v10 v8 v9 b0_0 b0_1 b1_0 b1_1 => iter (interp ([impl_zeroF n, impl_sizeF n, impl_greaterF n]) ty 20 0 n impl_worstkp (codeAt impl_worstc [1, 1, 0, 1, 0, 0])) (canon 0 (impl_worstkp.loop 3)) (kAt ([impl_zeroF n, impl_sizeF n, impl_greaterF n]) ty 20 0 n impl_worstkp impl_worstc [1, 1, 0, 1, 0] [] (ending ty 0 Go.Proofs.Try.f254.results.toList impl_worstrs impl_worstbs)) k { env := [(10, .one (.sc (.int .i64 v10))), (3, .one (.ref 0 0 0 0 0 0)), (8, .one (.list true (.pair (.int .i64) (.int .i64)) v8)), (2, .one (.ref 1 0 0 0 0 0)), (9, .one (.sc (.int .i64 v9)))], bx := [(0, .var 26 [.sc (.int .i64 b0_0), .sc (.int .i64 b0_1)]), (1, .var 26 [.sc (.int .i64 b1_0), .sc (.int .i64 b1_1)])], nx := 2 }) v10 v8 v9 b0_0 b0_1 b1_0 b1_1 := by kernel_rfl
    rw [h]
    have e := congrArg (fun g => impl_worst_t3 n g v10 v8 v9 b0_0 b0_1 b1_0 b1_1) (funext fun v10 => funext fun v8 => funext fun v9 => funext fun b0_0 => funext fun b0_1 => funext fun b1_0 => funext fun b1_1 => impl_worst_l3_eq n k v10 v8 v9 b0_0 b0_1 b1_0 b1_1)
    exact e

theorem impl_worst_eq (n : Nat) (a0 : ((Int) × (Int)) × (List ((Int) × (Int)))) : runBody ([impl_zeroF n, impl_sizeF n, impl_greaterF n]) ty 20 n impl_worstkp impl_worstc Go.Proofs.Try.f254.results.toList impl_worstrs impl_worstsp impl_worstbs (a0, ()) () = impl_worst n a0 := by
  have h : runBody ([impl_zeroF n, impl_sizeF n, impl_greaterF n]) ty 20 n impl_worstkp impl_worstc Go.Proofs.Try.f254.results.toList impl_worstrs impl_worstsp impl_worstbs (a0, ()) () = impl_worst_t n (fun k v10 v8 v9 b0_0 b0_1 b1_0 b1_1 => iter (interp ([impl_zeroF n, impl_sizeF n, impl_greaterF n]) ty 20 0 n impl_worstkp (codeAt impl_worstc [1, 1, 0, 1, 0, 0])) (canon 0 (impl_worstkp.loop 3)) (kAt ([impl_zeroF n, impl_sizeF n, impl_greaterF n]) ty 20 0 n impl_worstkp impl_worstc [1, 1, 0, 1, 0] [] (ending ty 0 Go.Proofs.Try.f254.results.toList impl_worstrs impl_worstbs)) k { env := [(10, .one (.sc (.int .i64 v10))), (3, .one (.ref 0 0 0 0 0 0)), (8, .one (.list true (.pair (.int .i64) (.int .i64)) v8)), (2, .one (.ref 1 0 0 0 0 0)), (9, .one (.sc (.int .i64 v9)))], bx := [(0, .var 26 [.sc (.int .i64 b0_0), .sc (.int .i64 b0_1)]), (1, .var 26 [.sc (.int .i64 b1_0), .sc (.int .i64 b1_1)])], nx := 2 }) a0 := by kernel_rfl
  rw [h]
  have e := congrArg (fun h3 => impl_worst_t n h3 a0) (funext fun k => funext fun v10 => funext fun v8 => funext fun v9 => funext fun b0_0 => funext fun b0_1 => funext fun b1_0 => funext fun b1_1 => impl_worst_l3_eq n k v10 v8 v9 b0_0 b0_1 b1_0 b1_1)
  exact e

theorem impl_worst_ok (n : Nat) : FunOk P (impl_worstF n) :=
  funOk_mk (C := [impl_zeroF n, impl_sizeF n, impl_greaterF n]) (N := 20) (kp := impl_worstkp) (c := impl_worstc) (n := n) (G := fun x y => impl_worst n x.1) follows (AllOk.mem (⟨impl_zero_ok n, ⟨impl_size_ok n, ⟨impl_greater_ok n, trivial⟩⟩⟩ : AllOk P ([impl_zeroF n, impl_sizeF n, impl_greaterF n]))) (by kernel_rfl : P.funcs[254]? = some Go.Proofs.Try.f254) (by kernel_rfl) (by kernel_rfl) (by kernel_rfl)
    (fun x y => impl_worst_eq n x.1) (fun _ _ => map_same (fun _ => rfl) _) (fun _ _ _ _ => rfl)

abbrev impl_calc_doubtsp : List Sp := [.ref 0, .v true (.pair (.pair (.int .i64) (.int .i64)) (.list (.pair (.int .i64) (.int .i64)))), .v true (.pair (.int .i64) .bool)]
abbrev impl_calc_doubtbs : List (Bs × Bool) := [(.var 139 .bool, true)]
abbrev impl_calc_doubtrs : List (Bool × List Rp) := [(true, [.v false (.pair (.int .i64) (.int .i64))])]
noncomputable def impl_calc_doubtkp : Keep := { loop := fun id => match id with | _ => ([], []), join := fun id => match id with | _ => none }
noncomputable def impl_calc_doubtc : Code := bodyOf Go.Proofs.Try.f212
noncomputable def impl_calc_doubtF (n : Nat) : Fun := { id := 212, sp := impl_calc_doubtsp, bs := impl_calc_doubtbs, rs := impl_calc_doubtrs, f := fun x y => impl_calc_doubt n x.2.1 x.2.2.1 y.1 }

theorem impl_calc_doubt_eq (n : Nat) (a1 : ((Int) × (Int)) × (List ((Int) × (Int)))) (a2 : (Int) × (Bool)) (b0 : Bool) : runBody ([impl_numF n, impl_calc_divF n, impl_worstF n, impl_calc_mulF n, impl_calc_addF n]) ty 22 n impl_calc_doubtkp impl_calc_doubtc Go.Proofs.Try.f212.results.toList impl_calc_doubtrs impl_calc_doubtsp impl_calc_doubtbs ((), (a1, (a2, ()))) (b0, ()) = impl_calc_doubt n a1 a2 b0 := by
  have h : runBody ([impl_numF n, impl_calc_divF n, impl_worstF n, impl_calc_mulF n, impl_calc_addF n]) ty 22 n impl_calc_doubtkp impl_calc_doubtc Go.Proofs.Try.f212.results.toList impl_calc_doubtrs impl_calc_doubtsp impl_calc_doubtbs ((), (a1, (a2, ()))) (b0, ()) = impl_calc_doubt_t n a1 a2 b0 := by kernel_rfl
  rw [h]
  rfl

theorem impl_calc_doubt_ok (n : Nat) : FunOk P (impl_calc_doubtF n) :=
  funOk_mk (C := [impl_numF n, impl_calc_divF n, impl_worstF n, impl_calc_mulF n, impl_calc_addF n]) (N := 22) (kp := impl_calc_doubtkp) (c := impl_calc_doubtc) (n := n) (G := fun x y => impl_calc_doubt n x.2.1 x.2.2.1 y.1) follows (AllOk.mem (⟨impl_num_ok n, ⟨impl_calc_div_ok n, ⟨impl_worst_ok n, ⟨impl_calc_mul_ok n, ⟨impl_calc_add_ok n, trivial⟩⟩⟩⟩⟩ : AllOk P ([impl_numF n, impl_calc_divF n, impl_worstF n, impl_calc_mulF n, impl_calc_addF n]))) (by kernel_rfl : P.funcs[212]? = some Go.Proofs.Try.f212) (by kernel_rfl) (by kernel_rfl) (by kernel_rfl)
    (fun x y => impl_calc_doubt_eq n x.2.1 x.2.2.1 y.1) (fun _ _ => map_same (fun _ => rfl) _) (fun _ _ _ _ => rfl)

abbrev impl_calc_spansp : List Sp := [.ref 0, .v true (.pair (.pair (.int .i64) (.int .i64)) (.pair (.int .i64) (.int .i64)))]
abbrev impl_calc_spanbs : List (Bs × Bool) := [(.var 139 .bool, true)]
abbrev impl_calc_spanrs : List (Bool × List Rp) := [(true, [.v false (.pair (.pair (.int .i64) (.int .i64)) (.pair (.int .i64) (.int .i64)))]), (false, [.v false (.int .i64)])]
noncomputable def impl_calc_spankp : Keep := { loop := fun id => match id with | _ => ([], []), join := fun id => match id with | _ => none }
noncomputable def impl_calc_spanc : Code := bodyOf Go.Proofs.Try.f213
noncomputable def impl_calc_spanF (n : Nat) : Fun := { id := 213, sp := impl_calc_spansp, bs := impl_calc_spanbs, rs := impl_calc_spanrs, f := fun x y => impl_calc_span n x.2.1 y.1 }

theorem impl_calc_span_eq (n : Nat) (a1 : ((Int) × (Int)) × ((Int) × (Int))) (b0 : Bool) : runBody ([]) ty 12 n impl_calc_spankp impl_calc_spanc Go.Proofs.Try.f213.results.toList impl_calc_spanrs impl_calc_spansp impl_calc_spanbs ((), (a1, ())) (b0, ()) = impl_calc_span n a1 b0 := by
  have h : runBody ([]) ty 12 n impl_calc_spankp impl_calc_spanc Go.Proofs.Try.f213.results.toList impl_calc_spanrs impl_calc_spansp impl_calc_spanbs ((), (a1, ())) (b0, ()) = impl_calc_span_t n a1 b0 := by kernel_rfl
  rw [h]
  rfl

theorem impl_calc_span_ok (n : Nat) : FunOk P (impl_calc_spanF n) :=
  funOk_mk (C := []) (N := 12) (kp := impl_calc_spankp) (c := impl_calc_spanc) (n := n) (G := fun x y => impl_calc_span n x.2.1 y.1) follows (AllOk.mem (trivial : AllOk P ([]))) (by kernel_rfl : P.funcs[213]? = some Go.Proofs.Try.f213) (by kernel_rfl) (by kernel_rfl) (by kernel_rfl)
    (fun x y => impl_calc_span_eq n x.2.1 y.1) (fun _ _ => map_same (fun _ => rfl) _) (fun _ _ _ _ => rfl)

abbrev impl_ReadingSpansp : List Sp := [.v true (.pair (.pair (.int .i64) (.int .i64)) (.list (.pair (.int .i64) (.int .i64)))), .v true (.pair (.int .i64) .bool), .v true (.pair (.int .i64) (.int .i64))]
abbrev impl_ReadingSpanbs : List (Bs × Bool) := []
abbrev impl_ReadingSpanrs : List (Bool × List Rp) := [(true, [.v false (.pair (.pair (.int .i64) (.int .i64)) (.pair (.int .i64) (.int .i64)))]), (false, [.v false (.int .i64)])]
noncomputable def impl_ReadingSpankp : Keep := { loop := fun id => match id with | _ => ([], []), join := fun id => match id with | _ => none }
noncomputable def impl_ReadingSpanc : Code := bodyOf Go.Proofs.Try.f88
noncomputable def impl_ReadingSpanF (n : Nat) : Fun := { id := 88, sp := impl_ReadingSpansp, bs := impl_ReadingSpanbs, rs := impl_ReadingSpanrs, f := fun x y => impl_ReadingSpan n x.1 x.2.1 x.2.2.1 }

theorem impl_ReadingSpan_eq (n : Nat) (a0 : ((Int) × (Int)) × (List ((Int) × (Int)))) (a1 : (Int) × (Bool)) (a2 : (Int) × (Int)) : runBody ([impl_lineCodeF n, impl_calc_doubtF n, impl_calc_subF n, impl_calc_addF n, impl_calc_spanF n]) ty 38 n impl_ReadingSpankp impl_ReadingSpanc Go.Proofs.Try.f88.results.toList impl_ReadingSpanrs impl_ReadingSpansp impl_ReadingSpanbs (a0, (a1, (a2, ()))) () = impl_ReadingSpan n a0 a1 a2 := by
  have h : runBody ([impl_lineCodeF n, impl_calc_doubtF n, impl_calc_subF n, impl_calc_addF n, impl_calc_spanF n]) ty 38 n impl_ReadingSpankp impl_ReadingSpanc Go.Proofs.Try.f88.results.toList impl_ReadingSpanrs impl_ReadingSpansp impl_ReadingSpanbs (a0, (a1, (a2, ()))) () = impl_ReadingSpan_t n a0 a1 a2 := by kernel_rfl
  rw [h]
  rfl

theorem impl_ReadingSpan_ok (n : Nat) : FunOk P (impl_ReadingSpanF n) :=
  funOk_mk (C := [impl_lineCodeF n, impl_calc_doubtF n, impl_calc_subF n, impl_calc_addF n, impl_calc_spanF n]) (N := 38) (kp := impl_ReadingSpankp) (c := impl_ReadingSpanc) (n := n) (G := fun x y => impl_ReadingSpan n x.1 x.2.1 x.2.2.1) follows (AllOk.mem (⟨impl_lineCode_ok n, ⟨impl_calc_doubt_ok n, ⟨impl_calc_sub_ok n, ⟨impl_calc_add_ok n, ⟨impl_calc_span_ok n, trivial⟩⟩⟩⟩⟩ : AllOk P ([impl_lineCodeF n, impl_calc_doubtF n, impl_calc_subF n, impl_calc_addF n, impl_calc_spanF n]))) (by kernel_rfl : P.funcs[88]? = some Go.Proofs.Try.f88) (by kernel_rfl) (by kernel_rfl) (by kernel_rfl)
    (fun x y => impl_ReadingSpan_eq n x.1 x.2.1 x.2.2.1) (fun _ _ => map_same (fun _ => rfl) _) (fun _ _ _ _ => rfl)

abbrev impl_ValidSpansp : List Sp := [.v true (.pair (.pair (.int .i64) (.int .i64)) (.pair (.int .i64) (.int .i64)))]
abbrev impl_ValidSpanbs : List (Bs × Bool) := []
abbrev impl_ValidSpanrs : List (Bool × List Rp) := [(false, [.v false .bool])]
noncomputable def impl_ValidSpankp : Keep := { loop := fun id => match id with | _ => ([], []), join := fun id => match id with | _ => none }
noncomputable def impl_ValidSpanc : Code := bodyOf Go.Proofs.Try.f214
noncomputable def impl_ValidSpanF (n : Nat) : Fun := { id := 214, sp := impl_ValidSpansp, bs := impl_ValidSpanbs, rs := impl_ValidSpanrs, f := fun x y => impl_ValidSpan n x.1 }

theorem impl_ValidSpan_eq (n : Nat) (a0 : ((Int) × (Int)) × ((Int) × (Int))) : runBody ([impl_areValidF n, impl_compareF n]) ty 17 n impl_ValidSpankp impl_ValidSpanc Go.Proofs.Try.f214.results.toList impl_ValidSpanrs impl_ValidSpansp impl_ValidSpanbs (a0, ()) () = impl_ValidSpan n a0 := by
  have h : runBody ([impl_areValidF n, impl_compareF n]) ty 17 n impl_ValidSpankp impl_ValidSpanc Go.Proofs.Try.f214.results.toList impl_ValidSpanrs impl_ValidSpansp impl_ValidSpanbs (a0, ()) () = impl_ValidSpan_t n a0 := by kernel_rfl
  rw [h]
  rfl

theorem impl_ValidSpan_ok (n : Nat) : FunOk P (impl_ValidSpanF n) :=
  funOk_mk (C := [impl_areValidF n, impl_compareF n]) (N := 17) (kp := impl_ValidSpankp) (c := impl_ValidSpanc) (n := n) (G := fun x y => impl_ValidSpan n x.1) follows (AllOk.mem (⟨impl_areValid_ok n, ⟨impl_compare_ok n, trivial⟩⟩ : AllOk P ([impl_areValidF n, impl_compareF n]))) (by kernel_rfl : P.funcs[214]? = some Go.Proofs.Try.f214) (by kernel_rfl) (by kernel_rfl) (by kernel_rfl)
    (fun x y => impl_ValidSpan_eq n x.1) (fun _ _ => map_same (fun _ => rfl) _) (fun _ _ _ _ => rfl)

abbrev impl_InSpansp : List Sp := [.v true (.pair (.pair (.int .i64) (.int .i64)) (.pair (.int .i64) (.int .i64))), .v true (.pair (.int .i64) (.int .i64))]
abbrev impl_InSpanbs : List (Bs × Bool) := []
abbrev impl_InSpanrs : List (Bool × List Rp) := [(false, [.v false .bool]), (false, [.v false (.int .i64)])]
noncomputable def impl_InSpankp : Keep := { loop := fun id => match id with | _ => ([], []), join := fun id => match id with | _ => none }
noncomputable def impl_InSpanc : Code := bodyOf Go.Proofs.Try.f89
noncomputable def impl_InSpanF (n : Nat) : Fun := { id := 89, sp := impl_InSpansp, bs := impl_InSpanbs, rs := impl_InSpanrs, f := fun x y => impl_InSpan n x.1 x.2.1 }

theorem impl_InSpan_eq (n : Nat) (a0 : ((Int) × (Int)) × ((Int) × (Int))) (a1 : (Int) × (Int)) : runBody ([impl_ValidSpanF n, impl_ValidFracF n, impl_compareF n]) ty 26 n impl_InSpankp impl_InSpanc Go.Proofs.Try.f89.results.toList impl_InSpanrs impl_InSpansp impl_InSpanbs (a0, (a1, ())) () = impl_InSpan n a0 a1 := by
  have h : runBody ([impl_ValidSpanF n, impl_ValidFracF n, impl_compareF n]) ty 26 n impl_InSpankp impl_InSpanc Go.Proofs.Try.f89.results.toList impl_InSpanrs impl_InSpansp impl_InSpanbs (a0, (a1, ())) () = impl_InSpan_t n a0 a1 := by kernel_rfl
  rw [h]
  rfl

theorem impl_InSpan_ok (n : Nat) : FunOk P (impl_InSpanF n) :=
  funOk_mk (C := [impl_ValidSpanF n, impl_ValidFracF n, impl_compareF n]) (N := 26) (kp := impl_InSpankp) (c := impl_InSpanc) (n := n) (G := fun x y => impl_InSpan n x.1 x.2.1) follows (AllOk.mem (⟨impl_ValidSpan_ok n, ⟨impl_ValidFrac_ok n, ⟨impl_compare_ok n, trivial⟩⟩⟩ : AllOk P ([impl_ValidSpanF n, impl_ValidFracF n, impl_compareF n]))) (by kernel_rfl : P.funcs[89]? = some Go.Proofs.Try.f89) (by kernel_rfl) (by kernel_rfl) (by kernel_rfl)
    (fun x y => impl_InSpan_eq n x.1 x.2.1) (fun _ _ => map_same (fun _ => rfl) _) (fun _ _ _ _ => rfl)

abbrev impl_MisfitOfsp : List Sp := [.v true (.pair (.pair (.int .i64) (.int .i64)) (.list (.pair (.int .i64) (.int .i64)))), .v true (.pair (.int .i64) .bool), .v true (.pair (.int .i64) (.int .i64)), .v false (.int .i64)]
abbrev impl_MisfitOfbs : List (Bs × Bool) := []
abbrev impl_MisfitOfrs : List (Bool × List Rp) := [(true, [.v false (.pair (.int .i64) (.int .i64))]), (false, [.v false (.int .i64)])]
noncomputable def impl_MisfitOfkp : Keep := { loop := fun id => match id with | _ => ([], []), join := fun id => match id with | _ => none }
noncomputable def impl_MisfitOfc : Code := bodyOf Go.Proofs.Try.f90
noncomputable def impl_MisfitOfF (n : Nat) : Fun := { id := 90, sp := impl_MisfitOfsp, bs := impl_MisfitOfbs, rs := impl_MisfitOfrs, f := fun x y => impl_MisfitOf n x.1 x.2.1 x.2.2.1 x.2.2.2.1 }

theorem impl_MisfitOf_eq (n : Nat) (a0 : ((Int) × (Int)) × (List ((Int) × (Int)))) (a1 : (Int) × (Bool)) (a2 : (Int) × (Int)) (a3 : Int) : runBody ([impl_lineCodeF n, impl_calc_lineF n, impl_calc_nearF n, impl_calc_oneF n]) ty 42 n impl_MisfitOfkp impl_MisfitOfc Go.Proofs.Try.f90.results.toList impl_MisfitOfrs impl_MisfitOfsp impl_MisfitOfbs (a0, (a1, (a2, (a3, ())))) () = impl_MisfitOf n a0 a1 a2 a3 := by
  have h : runBody ([impl_lineCodeF n, impl_calc_lineF n, impl_calc_nearF n, impl_calc_oneF n]) ty 42 n impl_MisfitOfkp impl_MisfitOfc Go.Proofs.Try.f90.results.toList impl_MisfitOfrs impl_MisfitOfsp impl_MisfitOfbs (a0, (a1, (a2, (a3, ())))) () = impl_MisfitOf_t n a0 a1 a2 a3 := by kernel_rfl
  rw [h]
  rfl

theorem impl_MisfitOf_ok (n : Nat) : FunOk P (impl_MisfitOfF n) :=
  funOk_mk (C := [impl_lineCodeF n, impl_calc_lineF n, impl_calc_nearF n, impl_calc_oneF n]) (N := 42) (kp := impl_MisfitOfkp) (c := impl_MisfitOfc) (n := n) (G := fun x y => impl_MisfitOf n x.1 x.2.1 x.2.2.1 x.2.2.2.1) follows (AllOk.mem (⟨impl_lineCode_ok n, ⟨impl_calc_line_ok n, ⟨impl_calc_near_ok n, ⟨impl_calc_one_ok n, trivial⟩⟩⟩⟩ : AllOk P ([impl_lineCodeF n, impl_calc_lineF n, impl_calc_nearF n, impl_calc_oneF n]))) (by kernel_rfl : P.funcs[90]? = some Go.Proofs.Try.f90) (by kernel_rfl) (by kernel_rfl) (by kernel_rfl)
    (fun x y => impl_MisfitOf_eq n x.1 x.2.1 x.2.2.1 x.2.2.2.1) (fun _ _ => map_same (fun _ => rfl) _) (fun _ _ _ _ => rfl)

abbrev impl_LineAtsp : List Sp := [.v true (.pair (.pair (.int .i64) (.int .i64)) (.list (.pair (.int .i64) (.int .i64)))), .v true (.pair (.int .i64) .bool), .v true (.pair (.int .i64) (.int .i64)), .v false (.int .i64)]
abbrev impl_LineAtbs : List (Bs × Bool) := []
abbrev impl_LineAtrs : List (Bool × List Rp) := [(true, [.v false (.pair (.int .i64) (.int .i64))]), (false, [.v false (.int .i64)])]
noncomputable def impl_LineAtkp : Keep := { loop := fun id => match id with | _ => ([], []), join := fun id => match id with | _ => none }
noncomputable def impl_LineAtc : Code := bodyOf Go.Proofs.Try.f91
noncomputable def impl_LineAtF (n : Nat) : Fun := { id := 91, sp := impl_LineAtsp, bs := impl_LineAtbs, rs := impl_LineAtrs, f := fun x y => impl_LineAt n x.1 x.2.1 x.2.2.1 x.2.2.2.1 }

theorem impl_LineAt_eq (n : Nat) (a0 : ((Int) × (Int)) × (List ((Int) × (Int)))) (a1 : (Int) × (Bool)) (a2 : (Int) × (Int)) (a3 : Int) : runBody ([impl_lineCodeF n, impl_calc_lineF n, impl_calc_oneF n]) ty 33 n impl_LineAtkp impl_LineAtc Go.Proofs.Try.f91.results.toList impl_LineAtrs impl_LineAtsp impl_LineAtbs (a0, (a1, (a2, (a3, ())))) () = impl_LineAt n a0 a1 a2 a3 := by
  have h : runBody ([impl_lineCodeF n, impl_calc_lineF n, impl_calc_oneF n]) ty 33 n impl_LineAtkp impl_LineAtc Go.Proofs.Try.f91.results.toList impl_LineAtrs impl_LineAtsp impl_LineAtbs (a0, (a1, (a2, (a3, ())))) () = impl_LineAt_t n a0 a1 a2 a3 := by kernel_rfl
  rw [h]
  rfl

theorem impl_LineAt_ok (n : Nat) : FunOk P (impl_LineAtF n) :=
  funOk_mk (C := [impl_lineCodeF n, impl_calc_lineF n, impl_calc_oneF n]) (N := 33) (kp := impl_LineAtkp) (c := impl_LineAtc) (n := n) (G := fun x y => impl_LineAt n x.1 x.2.1 x.2.2.1 x.2.2.2.1) follows (AllOk.mem (⟨impl_lineCode_ok n, ⟨impl_calc_line_ok n, ⟨impl_calc_one_ok n, trivial⟩⟩⟩ : AllOk P ([impl_lineCodeF n, impl_calc_lineF n, impl_calc_oneF n]))) (by kernel_rfl : P.funcs[91]? = some Go.Proofs.Try.f91) (by kernel_rfl) (by kernel_rfl) (by kernel_rfl)
    (fun x y => impl_LineAt_eq n x.1 x.2.1 x.2.2.1 x.2.2.2.1) (fun _ _ => map_same (fun _ => rfl) _) (fun _ _ _ _ => rfl)

abbrev spec_l01Twosp : List Sp := [.v true (.pair (.int .i64) (.int .i64)), .v true (.pair (.int .i64) (.int .i64))]
abbrev spec_l01Twobs : List (Bs × Bool) := []
abbrev spec_l01Twors : List (Bool × List Rp) := [(false, [.v false (.int .i64)])]
noncomputable def spec_l01Twokp : Keep := { loop := fun id => match id with | _ => ([], []), join := fun id => match id with | _ => none }
noncomputable def spec_l01Twoc : Code := bodyOf Go.Proofs.Try.f130
noncomputable def spec_l01TwoF (n : Nat) : Fun := { id := 130, sp := spec_l01Twosp, bs := spec_l01Twobs, rs := spec_l01Twors, f := fun x y => spec_l01Two n x.1 x.2.1 }

theorem spec_l01Two_eq (n : Nat) (a0 : (Int) × (Int)) (a1 : (Int) × (Int)) : runBody ([spec_l01OkF n]) ty 13 n spec_l01Twokp spec_l01Twoc Go.Proofs.Try.f130.results.toList spec_l01Twors spec_l01Twosp spec_l01Twobs (a0, (a1, ())) () = spec_l01Two n a0 a1 := by
  have h : runBody ([spec_l01OkF n]) ty 13 n spec_l01Twokp spec_l01Twoc Go.Proofs.Try.f130.results.toList spec_l01Twors spec_l01Twosp spec_l01Twobs (a0, (a1, ())) () = spec_l01Two_t n a0 a1 := by kernel_rfl
  rw [h]
  rfl

theorem spec_l01Two_ok (n : Nat) : FunOk P (spec_l01TwoF n) :=
  funOk_mk (C := [spec_l01OkF n]) (N := 13) (kp := spec_l01Twokp) (c := spec_l01Twoc) (n := n) (G := fun x y => spec_l01Two n x.1 x.2.1) follows (AllOk.mem (⟨spec_l01Ok_ok n, trivial⟩ : AllOk P ([spec_l01OkF n]))) (by kernel_rfl : P.funcs[130]? = some Go.Proofs.Try.f130) (by kernel_rfl) (by kernel_rfl) (by kernel_rfl)
    (fun x y => spec_l01Two_eq n x.1 x.2.1) (fun _ _ => map_same (fun _ => rfl) _) (fun _ _ _ _ => rfl)

abbrev spec_CompareFracssp : List Sp := [.v true (.pair (.int .i64) (.int .i64)), .v true (.pair (.int .i64) (.int .i64))]
abbrev spec_CompareFracsbs : List (Bs × Bool) := []
abbrev spec_CompareFracsrs : List (Bool × List Rp) := [(false, [.v false (.int .i64)]), (false, [.v false (.int .i64)])]
noncomputable def spec_CompareFracskp : Keep := { loop := fun id => match id with | _ => ([], []), join := fun id => match id with | _ => none }
noncomputable def spec_CompareFracsc : Code := bodyOf Go.Proofs.Try.f140
noncomputable def spec_CompareFracsF (n : Nat) : Fun := { id := 140, sp := spec_CompareFracssp, bs := spec_CompareFracsbs, rs := spec_CompareFracsrs, f := fun x y => spec_CompareFracs n x.1 x.2.1 }

theorem spec_CompareFracs_eq (n : Nat) (a0 : (Int) × (Int)) (a1 : (Int) × (Int)) : runBody ([spec_l01TwoF n, spec_l01CmpF n]) ty 16 n spec_CompareFracskp spec_CompareFracsc Go.Proofs.Try.f140.results.toList spec_CompareFracsrs spec_CompareFracssp spec_CompareFracsbs (a0, (a1, ())) () = spec_CompareFracs n a0 a1 := by
  have h : runBody ([spec_l01TwoF n, spec_l01CmpF n]) ty 16 n spec_CompareFracskp spec_CompareFracsc Go.Proofs.Try.f140.results.toList spec_CompareFracsrs spec_CompareFracssp spec_CompareFracsbs (a0, (a1, ())) () = spec_CompareFracs_t n a0 a1 := by kernel_rfl
  rw [h]
  rfl

theorem spec_CompareFracs_ok (n : Nat) : FunOk P (spec_CompareFracsF n) :=
  funOk_mk (C := [spec_l01TwoF n, spec_l01CmpF n]) (N := 16) (kp := spec_CompareFracskp) (c := spec_CompareFracsc) (n := n) (G := fun x y => spec_CompareFracs n x.1 x.2.1) follows (AllOk.mem (⟨spec_l01Two_ok n, ⟨spec_l01Cmp_ok n, trivial⟩⟩ : AllOk P ([spec_l01TwoF n, spec_l01CmpF n]))) (by kernel_rfl : P.funcs[140]? = some Go.Proofs.Try.f140) (by kernel_rfl) (by kernel_rfl) (by kernel_rfl)
    (fun x y => spec_CompareFracs_eq n x.1 x.2.1) (fun _ _ => map_same (fun _ => rfl) _) (fun _ _ _ _ => rfl)

abbrev laws_f6lesssp : List Sp := [.v true (.pair (.int .i64) (.int .i64)), .v true (.pair (.int .i64) (.int .i64))]
abbrev laws_f6lessbs : List (Bs × Bool) := []
abbrev laws_f6lessrs : List (Bool × List Rp) := [(false, [.v false .bool])]
noncomputable def laws_f6lesskp : Keep := { loop := fun id => match id with | _ => ([], []), join := fun id => match id with | _ => none }
noncomputable def laws_f6lessc : Code := bodyOf Go.Proofs.Try.f27
noncomputable def laws_f6lessF (n : Nat) : Fun := { id := 27, sp := laws_f6lesssp, bs := laws_f6lessbs, rs := laws_f6lessrs, f := fun x y => laws_f6less n x.1 x.2.1 }

theorem laws_f6less_eq (n : Nat) (a0 : (Int) × (Int)) (a1 : (Int) × (Int)) : runBody ([spec_CompareFracsF n]) ty 19 n laws_f6lesskp laws_f6lessc Go.Proofs.Try.f27.results.toList laws_f6lessrs laws_f6lesssp laws_f6lessbs (a0, (a1, ())) () = laws_f6less n a0 a1 := by
  have h : runBody ([spec_CompareFracsF n]) ty 19 n laws_f6lesskp laws_f6lessc Go.Proofs.Try.f27.results.toList laws_f6lessrs laws_f6lesssp laws_f6lessbs (a0, (a1, ())) () = laws_f6less_t n a0 a1 := by kernel_rfl
  rw [h]
  rfl

theorem laws_f6less_ok (n : Nat) : FunOk P (laws_f6lessF n) :=
  funOk_mk (C := [spec_CompareFracsF n]) (N := 19) (kp := laws_f6lesskp) (c := laws_f6lessc) (n := n) (G := fun x y => laws_f6less n x.1 x.2.1) follows (AllOk.mem (⟨spec_CompareFracs_ok n, trivial⟩ : AllOk P ([spec_CompareFracsF n]))) (by kernel_rfl : P.funcs[27]? = some Go.Proofs.Try.f27) (by kernel_rfl) (by kernel_rfl) (by kernel_rfl)
    (fun x y => laws_f6less_eq n x.1 x.2.1) (fun _ _ => map_same (fun _ => rfl) _) (fun _ _ _ _ => rfl)

abbrev impl_NearestMarksp : List Sp := [.v true (.pair (.pair (.int .i64) (.int .i64)) (.list (.pair (.int .i64) (.int .i64)))), .v true (.pair (.int .i64) (.int .i64))]
abbrev impl_NearestMarkbs : List (Bs × Bool) := []
abbrev impl_NearestMarkrs : List (Bool × List Rp) := [(false, [.v false (.int .i64)]), (false, [.v false (.int .i64)])]
noncomputable def impl_NearestMarkkp : Keep := { loop := fun id => match id with | _ => ([], []), join := fun id => match id with | _ => none }
noncomputable def impl_NearestMarkc : Code := bodyOf Go.Proofs.Try.f92
noncomputable def impl_NearestMarkF (n : Nat) : Fun := { id := 92, sp := impl_NearestMarksp, bs := impl_NearestMarkbs, rs := impl_NearestMarkrs, f := fun x y => impl_NearestMark n x.1 x.2.1 }

theorem impl_NearestMark_eq (n : Nat) (a0 : ((Int) × (Int)) × (List ((Int) × (Int)))) (a1 : (Int) × (Int)) : runBody ([impl_ValidScaleF n, impl_ValidFracF n, impl_calc_nearF n]) ty 31 n impl_NearestMarkkp impl_NearestMarkc Go.Proofs.Try.f92.results.toList impl_NearestMarkrs impl_NearestMarksp impl_NearestMarkbs (a0, (a1, ())) () = impl_NearestMark n a0 a1 := by
  have h : runBody ([impl_ValidScaleF n, impl_ValidFracF n, impl_calc_nearF n]) ty 31 n impl_NearestMarkkp impl_NearestMarkc Go.Proofs.Try.f92.results.toList impl_NearestMarkrs impl_NearestMarksp impl_NearestMarkbs (a0, (a1, ())) () = impl_NearestMark_t n a0 a1 := by kernel_rfl
  rw [h]
  rfl

theorem impl_NearestMark_ok (n : Nat) : FunOk P (impl_NearestMarkF n) :=
  funOk_mk (C := [impl_ValidScaleF n, impl_ValidFracF n, impl_calc_nearF n]) (N := 31) (kp := impl_NearestMarkkp) (c := impl_NearestMarkc) (n := n) (G := fun x y => impl_NearestMark n x.1 x.2.1) follows (AllOk.mem (⟨impl_ValidScale_ok n, ⟨impl_ValidFrac_ok n, ⟨impl_calc_near_ok n, trivial⟩⟩⟩ : AllOk P ([impl_ValidScaleF n, impl_ValidFracF n, impl_calc_nearF n]))) (by kernel_rfl : P.funcs[92]? = some Go.Proofs.Try.f92) (by kernel_rfl) (by kernel_rfl) (by kernel_rfl)
    (fun x y => impl_NearestMark_eq n x.1 x.2.1) (fun _ _ => map_same (fun _ => rfl) _) (fun _ _ _ _ => rfl)

abbrev impl_MarkAtsp : List Sp := [.v true (.pair (.pair (.int .i64) (.int .i64)) (.list (.pair (.int .i64) (.int .i64)))), .v false (.int .i64)]
abbrev impl_MarkAtbs : List (Bs × Bool) := []
abbrev impl_MarkAtrs : List (Bool × List Rp) := [(true, [.v false (.pair (.int .i64) (.int .i64))]), (false, [.v false (.int .i64)])]
noncomputable def impl_MarkAtkp : Keep := { loop := fun id => match id with | _ => ([], []), join := fun id => match id with | _ => none }
noncomputable def impl_MarkAtc : Code := bodyOf Go.Proofs.Try.f93
noncomputable def impl_MarkAtF (n : Nat) : Fun := { id := 93, sp := impl_MarkAtsp, bs := impl_MarkAtbs, rs := impl_MarkAtrs, f := fun x y => impl_MarkAt n x.1 x.2.1 }

theorem impl_MarkAt_eq (n : Nat) (a0 : ((Int) × (Int)) × (List ((Int) × (Int)))) (a1 : Int) : runBody ([impl_ValidScaleF n, impl_withinF n, impl_markF n]) ty 23 n impl_MarkAtkp impl_MarkAtc Go.Proofs.Try.f93.results.toList impl_MarkAtrs impl_MarkAtsp impl_MarkAtbs (a0, (a1, ())) () = impl_MarkAt n a0 a1 := by
  have h : runBody ([impl_ValidScaleF n, impl_withinF n, impl_markF n]) ty 23 n impl_MarkAtkp impl_MarkAtc Go.Proofs.Try.f93.results.toList impl_MarkAtrs impl_MarkAtsp impl_MarkAtbs (a0, (a1, ())) () = impl_MarkAt_t n a0 a1 := by kernel_rfl
  rw [h]
  rfl

theorem impl_MarkAt_ok (n : Nat) : FunOk P (impl_MarkAtF n) :=
  funOk_mk (C := [impl_ValidScaleF n, impl_withinF n, impl_markF n]) (N := 23) (kp := impl_MarkAtkp) (c := impl_MarkAtc) (n := n) (G := fun x y => impl_MarkAt n x.1 x.2.1) follows (AllOk.mem (⟨impl_ValidScale_ok n, ⟨impl_within_ok n, ⟨impl_mark_ok n, trivial⟩⟩⟩ : AllOk P ([impl_ValidScaleF n, impl_withinF n, impl_markF n]))) (by kernel_rfl : P.funcs[93]? = some Go.Proofs.Try.f93) (by kernel_rfl) (by kernel_rfl) (by kernel_rfl)
    (fun x y => impl_MarkAt_eq n x.1 x.2.1) (fun _ _ => map_same (fun _ => rfl) _) (fun _ _ _ _ => rfl)

abbrev spec_SubFracssp : List Sp := [.v true (.pair (.int .i64) (.int .i64)), .v true (.pair (.int .i64) (.int .i64))]
abbrev spec_SubFracsbs : List (Bs × Bool) := []
abbrev spec_SubFracsrs : List (Bool × List Rp) := [(true, [.v false (.pair (.int .i64) (.int .i64))]), (false, [.v false (.int .i64)])]
noncomputable def spec_SubFracskp : Keep := { loop := fun id => match id with | _ => ([], []), join := fun id => match id with | _ => none }
noncomputable def spec_SubFracsc : Code := bodyOf Go.Proofs.Try.f60
noncomputable def spec_SubFracsF (n : Nat) : Fun := { id := 60, sp := spec_SubFracssp, bs := spec_SubFracsbs, rs := spec_SubFracsrs, f := fun x y => spec_SubFracs n x.1 x.2.1 }

theorem spec_SubFracs_eq (n : Nat) (a0 : (Int) × (Int)) (a1 : (Int) × (Int)) : runBody ([spec_l01TwoF n, spec_l01SubF n]) ty 19 n spec_SubFracskp spec_SubFracsc Go.Proofs.Try.f60.results.toList spec_SubFracsrs spec_SubFracssp spec_SubFracsbs (a0, (a1, ())) () = spec_SubFracs n a0 a1 := by
  have h : runBody ([spec_l01TwoF n, spec_l01SubF n]) ty 19 n spec_SubFracskp spec_SubFracsc Go.Proofs.Try.f60.results.toList spec_SubFracsrs spec_SubFracssp spec_SubFracsbs (a0, (a1, ())) () = spec_SubFracs_t n a0 a1 := by kernel_rfl
  rw [h]
  rfl

theorem spec_SubFracs_ok (n : Nat) : FunOk P (spec_SubFracsF n) :=
  funOk_mk (C := [spec_l01TwoF n, spec_l01SubF n]) (N := 19) (kp := spec_SubFracskp) (c := spec_SubFracsc) (n := n) (G := fun x y => spec_SubFracs n x.1 x.2.1) follows (AllOk.mem (⟨spec_l01Two_ok n, ⟨spec_l01Sub_ok n, trivial⟩⟩ : AllOk P ([spec_l01TwoF n, spec_l01SubF n]))) (by kernel_rfl : P.funcs[60]? = some Go.Proofs.Try.f60) (by kernel_rfl) (by kernel_rfl) (by kernel_rfl)
    (fun x y => spec_SubFracs_eq n x.1 x.2.1) (fun _ _ => map_same (fun _ => rfl) _) (fun _ _ _ _ => rfl)

abbrev math_bits_Mul64sp : List Sp := [.v false (.int .u64), .v false (.int .u64)]
abbrev math_bits_Mul64bs : List (Bs × Bool) := []
abbrev math_bits_Mul64rs : List (Bool × List Rp) := [(false, [.v false (.int .u64)]), (false, [.v false (.int .u64)])]
noncomputable def math_bits_Mul64kp : Keep := { loop := fun id => match id with | _ => ([], []), join := fun id => match id with | _ => none }
noncomputable def math_bits_Mul64c : Code := bodyOf Go.Proofs.Try.f263
noncomputable def math_bits_Mul64F (n : Nat) : Fun := { id := 263, sp := math_bits_Mul64sp, bs := math_bits_Mul64bs, rs := math_bits_Mul64rs, f := fun x y => math_bits_Mul64 n x.1 x.2.1 }

theorem math_bits_Mul64_eq (n : Nat) (a0 : Int) (a1 : Int) : runBody ([]) ty 51 n math_bits_Mul64kp math_bits_Mul64c Go.Proofs.Try.f263.results.toList math_bits_Mul64rs math_bits_Mul64sp math_bits_Mul64bs (a0, (a1, ())) () = math_bits_Mul64 n a0 a1 := by
  have h : runBody ([]) ty 51 n math_bits_Mul64kp math_bits_Mul64c Go.Proofs.Try.f263.results.toList math_bits_Mul64rs math_bits_Mul64sp math_bits_Mul64bs (a0, (a1, ())) () = math_bits_Mul64_t n a0 a1 := by kernel_rfl
  rw [h]
  rfl

theorem math_bits_Mul64_ok (n : Nat) : FunOk P (math_bits_Mul64F n) :=
  funOk_mk (C := []) (N := 51) (kp := math_bits_Mul64kp) (c := math_bits_Mul64c) (n := n) (G := fun x y => math_bits_Mul64 n x.1 x.2.1) follows (AllOk.mem (trivial : AllOk P ([]))) (by kernel_rfl : P.funcs[263]? = some Go.Proofs.Try.f263) (by kernel_rfl) (by kernel_rfl) (by kernel_rfl)
    (fun x y => math_bits_Mul64_eq n x.1 x.2.1) (fun _ _ => map_same (fun _ => rfl) _) (fun _ _ _ _ => rfl)

abbrev math_bits_Mulsp : List Sp := [.v false (.int .u64), .v false (.int .u64)]
abbrev math_bits_Mulbs : List (Bs × Bool) := []
abbrev math_bits_Mulrs : List (Bool × List Rp) := [(false, [.v false (.int .u64)]), (false, [.v false (.int .u64)])]
noncomputable def math_bits_Mulkp : Keep := { loop := fun id => match id with | _ => ([], []), join := fun id => match id with | _ => none }
noncomputable def math_bits_Mulc : Code := bodyOf Go.Proofs.Try.f255
noncomputable def math_bits_MulF (n : Nat) : Fun := { id := 255, sp := math_bits_Mulsp, bs := math_bits_Mulbs, rs := math_bits_Mulrs, f := fun x y => math_bits_Mul n x.1 x.2.1 }

theorem math_bits_Mul_eq (n : Nat) (a0 : Int) (a1 : Int) : runBody ([math_bits_Mul64F n]) ty 30 n math_bits_Mulkp math_bits_Mulc Go.Proofs.Try.f255.results.toList math_bits_Mulrs math_bits_Mulsp math_bits_Mulbs (a0, (a1, ())) () = math_bits_Mul n a0 a1 := by
  have h : runBody ([math_bits_Mul64F n]) ty 30 n math_bits_Mulkp math_bits_Mulc Go.Proofs.Try.f255.results.toList math_bits_Mulrs math_bits_Mulsp math_bits_Mulbs (a0, (a1, ())) () = math_bits_Mul_t n a0 a1 := by kernel_rfl
  rw [h]
  rfl

theorem math_bits_Mul_ok (n : Nat) : FunOk P (math_bits_MulF n) :=
  funOk_mk (C := [math_bits_Mul64F n]) (N := 30) (kp := math_bits_Mulkp) (c := math_bits_Mulc) (n := n) (G := fun x y => math_bits_Mul n x.1 x.2.1) follows (AllOk.mem (⟨math_bits_Mul64_ok n, trivial⟩ : AllOk P ([math_bits_Mul64F n]))) (by kernel_rfl : P.funcs[255]? = some Go.Proofs.Try.f255) (by kernel_rfl) (by kernel_rfl) (by kernel_rfl)
    (fun x y => math_bits_Mul_eq n x.1 x.2.1) (fun _ _ => map_same (fun _ => rfl) _) (fun _ _ _ _ => rfl)

abbrev slices_Repeat_impl_Frac_impl_Fracsp : List Sp := [.v false (.list (.pair (.int .i64) (.int .i64))), .v false (.int .i64)]
abbrev slices_Repeat_impl_Frac_impl_Fracbs : List (Bs × Bool) := []
abbrev slices_Repeat_impl_Frac_impl_Fracrs : List (Bool × List Rp) := [(false, [.new  (.pair (.int .i64) (.int .i64))])]
noncomputable def slices_Repeat_impl_Frac_impl_Frackp : Keep := { loop := fun id => match id with | 8 => ([8, 7], []) | _ => ([], []), join := fun id => match id with | _ => none }
noncomputable def slices_Repeat_impl_Frac_impl_Fracc : Code := bodyOf Go.Proofs.Try.f215
noncomputable def slices_Repeat_impl_Frac_impl_FracF (n : Nat) : Fun := { id := 215, sp := slices_Repeat_impl_Frac_impl_Fracsp, bs := slices_Repeat_impl_Frac_impl_Fracbs, rs := slices_Repeat_impl_Frac_impl_Fracrs, f := fun x y => slices_Repeat_impl_Frac_impl_Frac n x.1 x.2.1 }

theorem slices_Repeat_impl_Frac_impl_Frac_l8_eq (n : Nat) : ∀ (k : Nat) (v8 : Int) (b0 : List ((Int) × (Int))), iter (interp ([math_bits_MulF n]) ty 48 0 n slices_Repeat_impl_Frac_impl_Frackp (codeAt slices_Repeat_impl_Frac_impl_Fracc [1, 1, 1, 1, 1, 1, 0, 0, 0])) (canon 0 (slices_Repeat_impl_Frac_impl_Frackp.loop 8)) (kAt ([math_bits_MulF n]) ty 48 0 n slices_Repeat_impl_Frac_impl_Frackp slices_Repeat_impl_Frac_impl_Fracc [1, 1, 1, 1, 1, 1, 0, 0] [] (ending ty 0 Go.Proofs.Try.f215.results.toList slices_Repeat_impl_Frac_impl_Fracrs slices_Repeat_impl_Frac_impl_Fracbs)) k { env := [(8, .one (.sc (.int .i64 v8))), (7, .one (.slice 0 0 none))], bx := [(0, .row 0 (.pair (.int .i64) (.int .i64)) b0)], nx := 1 } = slices_Repeat_impl_Frac_impl_Frac_l8 n k v8 b0
  | 0, _, _ => by kernel_rfl
  | k + 1, v8, b0 => by
    have h : iter (interp ([math_bits_MulF n]) ty 48 0 n slices_Repeat_impl_Frac_impl_Frackp (codeAt slices_Repeat_impl_Frac_impl_Fracc [1, 1, 1, 1, 1, 1, 0, 0, 0])) (canon 0 (slices_Repeat_impl_Frac_impl_Frackp.loop 8)) (kAt ([math_bits_MulF n]) ty 48 0 n slices_Repeat_impl_Frac_impl_Frackp slices_Repeat_impl_Frac_impl_Fracc [1, 1, 1, 1, 1, 1, 0, 0] [] (ending ty 0 Go.Proofs.Try.f215.results.toList slices_Repeat_impl_Frac_impl_Fracrs slices_Repeat_impl_Frac_impl_Fracbs)) (k + 1) { env := [(8, .one (.sc (.int .i64 v8))), (7, .one (.slice 0 0 none))], bx := [(0, .row 0 (.pair (.int .i64) (.int .i64)) b0)], nx := 1 } = slices_Repeat_impl_Frac_impl_Frac_t8 n (fun v8 b0 => iter (interp ([math_bits_MulF n]) ty 48 0 n slices_Repeat_impl_Frac_impl_Frackp (codeAt slices_Repeat_impl_Frac_impl_Fracc [1, 1, 1, 1, 1, 1, 0, 0, 0])) (canon 0 (slices_Repeat_impl_Frac_impl_Frackp.loop 8)) (kAt ([math_bits_MulF n]) ty 48 0 n slices_Repeat_impl_Frac_impl_Frackp slices_Repeat_impl_Frac_impl_Fracc [1, 1, 1, 1, 1, 1, 0, 0] [] (ending ty 0 Go.Proofs.Try.f215.results.toList slices_Repeat_impl_Frac_impl_Fracrs slices_Repeat_impl_Frac_impl_Fracbs)) k { env := [(8, .one (.sc (.int .i64 v8))), (7, .one (.slice 0 0 none))], bx := [(0, .row 0 (.pair (.int .i64) (.int .i64)) b0)], nx := 1 }) v8 b0 := by kernel_rfl
    rw [h]
    have e := congrArg (fun g => slices_Repeat_impl_Frac_impl_Frac_t8 n g v8 b0) (funext fun v8 => funext fun b0 => slices_Repeat_impl_Frac_impl_Frac_l8_eq n k v8 b0)
    exact e

theorem slices_Repeat_impl_Frac_impl_Frac_eq (n : Nat) (a0 : List ((Int) × (Int))) (a1 : Int) : runBody ([math_bits_MulF n]) ty 48 n slices_Repeat_impl_Frac_impl_Frackp slices_Repeat_impl_Frac_impl_Fracc Go.Proofs.Try.f215.results.toList slices_Repeat_impl_Frac_impl_Fracrs slices_Repeat_impl_Frac_impl_Fracsp slices_Repeat_impl_Frac_impl_Fracbs (a0, (a1, ())) () = slices_Repeat_impl_Frac_impl_Frac n a0 a1 := by
  have h : runBody ([math_bits_MulF n]) ty 48 n slices_Repeat_impl_Frac_impl_Frackp slices_Repeat_impl_Frac_impl_Fracc Go.Proofs.Try.f215.results.toList slices_Repeat_impl_Frac_impl_Fracrs slices_Repeat_impl_Frac_impl_Fracsp slices_Repeat_impl_Frac_impl_Fracbs (a0, (a1, ())) () = slices_Repeat_impl_Frac_impl_Frac_t n (fun k v8 b0 => iter (interp ([math_bits_MulF n]) ty 48 0 n slices_Repeat_impl_Frac_impl_Frackp (codeAt slices_Repeat_impl_Frac_impl_Fracc [1, 1, 1, 1, 1, 1, 0, 0, 0])) (canon 0 (slices_Repeat_impl_Frac_impl_Frackp.loop 8)) (kAt ([math_bits_MulF n]) ty 48 0 n slices_Repeat_impl_Frac_impl_Frackp slices_Repeat_impl_Frac_impl_Fracc [1, 1, 1, 1, 1, 1, 0, 0] [] (ending ty 0 Go.Proofs.Try.f215.results.toList slices_Repeat_impl_Frac_impl_Fracrs slices_Repeat_impl_Frac_impl_Fracbs)) k { env := [(8, .one (.sc (.int .i64 v8))), (7, .one (.slice 0 0 none))], bx := [(0, .row 0 (.pair (.int .i64) (.int .i64)) b0)], nx := 1 }) a0 a1 := by kernel_rfl
  rw [h]
  have e := congrArg (fun h8 => slices_Repeat_impl_Frac_impl_Frac_t n h8 a0 a1) (funext fun k => funext fun v8 => funext fun b0 => slices_Repeat_impl_Frac_impl_Frac_l8_eq n k v8 b0)
  exact e

theorem slices_Repeat_impl_Frac_impl_Frac_ok (n : Nat) : FunOk P (slices_Repeat_impl_Frac_impl_FracF n) :=
  funOk_mk (C := [math_bits_MulF n]) (N := 48) (kp := slices_Repeat_impl_Frac_impl_Frackp) (c := slices_Repeat_impl_Frac_impl_Fracc) (n := n) (G := fun x y => slices_Repeat_impl_Frac_impl_Frac n x.1 x.2.1) follows (AllOk.mem (⟨math_bits_Mul_ok n, trivial⟩ : AllOk P ([math_bits_MulF n]))) (by kernel_rfl : P.funcs[215]? = some Go.Proofs.Try.f215) (by kernel_rfl) (by kernel_rfl) (by kernel_rfl)
    (fun x y => slices_Repeat_impl_Frac_impl_Frac_eq n x.1 x.2.1) (fun _ _ => map_same (fun _ => rfl) _) (fun _ _ _ _ => rfl)

abbrev impl_EvenScalesp : List Sp := [.v true (.pair (.int .i64) (.int .i64)), .v false (.int .i64)]
abbrev impl_EvenScalebs : List (Bs × Bool) := []
abbrev impl_EvenScalers : List (Bool × List Rp) := [(true, [.v false (.pair (.pair (.int .i64) (.int .i64)) (.list (.pair (.int .i64) (.int .i64))))]), (false, [.v false (.int .i64)])]
noncomputable def impl_EvenScalekp : Keep := { loop := fun id => match id with | _ => ([], []), join := fun id => match id with | _ => none }
noncomputable def impl_EvenScalec : Code := bodyOf Go.Proofs.Try.f94
noncomputable def impl_EvenScaleF (n : Nat) : Fun := { id := 94, sp := impl_EvenScalesp, bs := impl_EvenScalebs, rs := impl_EvenScalers, f := fun x y => impl_EvenScale n x.1 x.2.1 }

theorem impl_EvenScale_eq (n : Nat) (a0 : (Int) × (Int)) (a1 : Int) : runBody ([impl_ValidFracF n, impl_isUnitF n, impl_withinF n, impl_zeroF n, slices_Repeat_impl_Frac_impl_FracF n, impl_ValidScaleF n]) ty 33 n impl_EvenScalekp impl_EvenScalec Go.Proofs.Try.f94.results.toList impl_EvenScalers impl_EvenScalesp impl_EvenScalebs (a0, (a1, ())) () = impl_EvenScale n a0 a1 := by
  have h : runBody ([impl_ValidFracF n, impl_isUnitF n, impl_withinF n, impl_zeroF n, slices_Repeat_impl_Frac_impl_FracF n, impl_ValidScaleF n]) ty 33 n impl_EvenScalekp impl_EvenScalec Go.Proofs.Try.f94.results.toList impl_EvenScalers impl_EvenScalesp impl_EvenScalebs (a0, (a1, ())) () = impl_EvenScale_t n a0 a1 := by kernel_rfl
  rw [h]
  rfl

theorem impl_EvenScale_ok (n : Nat) : FunOk P (impl_EvenScaleF n) :=
  funOk_mk (C := [impl_ValidFracF n, impl_isUnitF n, impl_withinF n, impl_zeroF n, slices_Repeat_impl_Frac_impl_FracF n, impl_ValidScaleF n]) (N := 33) (kp := impl_EvenScalekp) (c := impl_EvenScalec) (n := n) (G := fun x y => impl_EvenScale n x.1 x.2.1) follows (AllOk.mem (⟨impl_ValidFrac_ok n, ⟨impl_isUnit_ok n, ⟨impl_within_ok n, ⟨impl_zero_ok n, ⟨slices_Repeat_impl_Frac_impl_Frac_ok n, ⟨impl_ValidScale_ok n, trivial⟩⟩⟩⟩⟩⟩ : AllOk P ([impl_ValidFracF n, impl_isUnitF n, impl_withinF n, impl_zeroF n, slices_Repeat_impl_Frac_impl_FracF n, impl_ValidScaleF n]))) (by kernel_rfl : P.funcs[94]? = some Go.Proofs.Try.f94) (by kernel_rfl) (by kernel_rfl) (by kernel_rfl)
    (fun x y => impl_EvenScale_eq n x.1 x.2.1) (fun _ _ => map_same (fun _ => rfl) _) (fun _ _ _ _ => rfl)

abbrev impl_LeastCountsp : List Sp := [.v true (.pair (.pair (.int .i64) (.int .i64)) (.list (.pair (.int .i64) (.int .i64)))), .v true (.pair (.int .i64) .bool)]
abbrev impl_LeastCountbs : List (Bs × Bool) := []
abbrev impl_LeastCountrs : List (Bool × List Rp) := [(true, [.v false (.pair (.int .i64) (.int .i64))]), (false, [.v false (.int .i64)])]
noncomputable def impl_LeastCountkp : Keep := { loop := fun id => match id with | _ => ([], []), join := fun id => match id with | _ => none }
noncomputable def impl_LeastCountc : Code := bodyOf Go.Proofs.Try.f95
noncomputable def impl_LeastCountF (n : Nat) : Fun := { id := 95, sp := impl_LeastCountsp, bs := impl_LeastCountbs, rs := impl_LeastCountrs, f := fun x y => impl_LeastCount n x.1 x.2.1 }

theorem impl_LeastCount_eq (n : Nat) (a0 : ((Int) × (Int)) × (List ((Int) × (Int)))) (a1 : (Int) × (Bool)) : runBody ([impl_ValidScaleF n, impl_ValidVernierF n, impl_numF n, impl_calc_divF n, impl_calc_oneF n]) ty 29 n impl_LeastCountkp impl_LeastCountc Go.Proofs.Try.f95.results.toList impl_LeastCountrs impl_LeastCountsp impl_LeastCountbs (a0, (a1, ())) () = impl_LeastCount n a0 a1 := by
  have h : runBody ([impl_ValidScaleF n, impl_ValidVernierF n, impl_numF n, impl_calc_divF n, impl_calc_oneF n]) ty 29 n impl_LeastCountkp impl_LeastCountc Go.Proofs.Try.f95.results.toList impl_LeastCountrs impl_LeastCountsp impl_LeastCountbs (a0, (a1, ())) () = impl_LeastCount_t n a0 a1 := by kernel_rfl
  rw [h]
  rfl

theorem impl_LeastCount_ok (n : Nat) : FunOk P (impl_LeastCountF n) :=
  funOk_mk (C := [impl_ValidScaleF n, impl_ValidVernierF n, impl_numF n, impl_calc_divF n, impl_calc_oneF n]) (N := 29) (kp := impl_LeastCountkp) (c := impl_LeastCountc) (n := n) (G := fun x y => impl_LeastCount n x.1 x.2.1) follows (AllOk.mem (⟨impl_ValidScale_ok n, ⟨impl_ValidVernier_ok n, ⟨impl_num_ok n, ⟨impl_calc_div_ok n, ⟨impl_calc_one_ok n, trivial⟩⟩⟩⟩⟩ : AllOk P ([impl_ValidScaleF n, impl_ValidVernierF n, impl_numF n, impl_calc_divF n, impl_calc_oneF n]))) (by kernel_rfl : P.funcs[95]? = some Go.Proofs.Try.f95) (by kernel_rfl) (by kernel_rfl) (by kernel_rfl)
    (fun x y => impl_LeastCount_eq n x.1 x.2.1) (fun _ _ => map_same (fun _ => rfl) _) (fun _ _ _ _ => rfl)

abbrev spec_AddFracssp : List Sp := [.v true (.pair (.int .i64) (.int .i64)), .v true (.pair (.int .i64) (.int .i64))]
abbrev spec_AddFracsbs : List (Bs × Bool) := []
abbrev spec_AddFracsrs : List (Bool × List Rp) := [(true, [.v false (.pair (.int .i64) (.int .i64))]), (false, [.v false (.int .i64)])]
noncomputable def spec_AddFracskp : Keep := { loop := fun id => match id with | _ => ([], []), join := fun id => match id with | _ => none }
noncomputable def spec_AddFracsc : Code := bodyOf Go.Proofs.Try.f22
noncomputable def spec_AddFracsF (n : Nat) : Fun := { id := 22, sp := spec_AddFracssp, bs := spec_AddFracsbs, rs := spec_AddFracsrs, f := fun x y => spec_AddFracs n x.1 x.2.1 }

theorem spec_AddFracs_eq (n : Nat) (a0 : (Int) × (Int)) (a1 : (Int) × (Int)) : runBody ([spec_l01TwoF n, spec_l01AddF n]) ty 19 n spec_AddFracskp spec_AddFracsc Go.Proofs.Try.f22.results.toList spec_AddFracsrs spec_AddFracssp spec_AddFracsbs (a0, (a1, ())) () = spec_AddFracs n a0 a1 := by
  have h : runBody ([spec_l01TwoF n, spec_l01AddF n]) ty 19 n spec_AddFracskp spec_AddFracsc Go.Proofs.Try.f22.results.toList spec_AddFracsrs spec_AddFracssp spec_AddFracsbs (a0, (a1, ())) () = spec_AddFracs_t n a0 a1 := by kernel_rfl
  rw [h]
  rfl

theorem spec_AddFracs_ok (n : Nat) : FunOk P (spec_AddFracsF n) :=
  funOk_mk (C := [spec_l01TwoF n, spec_l01AddF n]) (N := 19) (kp := spec_AddFracskp) (c := spec_AddFracsc) (n := n) (G := fun x y => spec_AddFracs n x.1 x.2.1) follows (AllOk.mem (⟨spec_l01Two_ok n, ⟨spec_l01Add_ok n, trivial⟩⟩ : AllOk P ([spec_l01TwoF n, spec_l01AddF n]))) (by kernel_rfl : P.funcs[22]? = some Go.Proofs.Try.f22) (by kernel_rfl) (by kernel_rfl) (by kernel_rfl)
    (fun x y => spec_AddFracs_eq n x.1 x.2.1) (fun _ _ => map_same (fun _ => rfl) _) (fun _ _ _ _ => rfl)

abbrev laws_FnVernierssp : List Sp := [.v false (.list (.int .u8)), .v false (.list (.int .u8))]
abbrev laws_FnVerniersbs : List (Bs × Bool) := []
abbrev laws_FnVerniersrs : List (Bool × List Rp) := [(false, [.v false .bool])]
noncomputable def laws_FnVernierskp : Keep := { loop := fun id => match id with | 25 => ([22, 5, 20, 10, 7, 6], []) | _ => ([], []), join := fun id => match id with | _ => none }
noncomputable def laws_FnVerniersc : Code := bodyOf Go.Proofs.Try.f10
noncomputable def laws_FnVerniersF (n : Nat) : Fun := { id := 10, sp := laws_FnVernierssp, bs := laws_FnVerniersbs, rs := laws_FnVerniersrs, f := fun x y => laws_FnVerniers n x.1 x.2.1 }

theorem laws_FnVerniers_l25_eq (n : Nat) : ∀ (k : Nat) (v22 : Int) (v10 : Int) (b0_0 : Int) (b0_1 : Int) (b0_2 : List ((Int) × (Int))) (b1_0 : Int) (b1_1 : Int) (b2_0 : Int) (b2_1 : Int) (b3_0 : Int) (b3_1 : Bool), iter (interp ([laws_f6bigF n, spec_P6ScaleF n, spec_P6VernierF n, spec_P6PlaceF n, impl_LineThatFitsF n, spec_LineThatFitsF n, impl_ReadVernierF n, spec_ReadVernierF n, impl_ValidScaleF n, impl_ValidVernierF n, impl_ReadingSpanF n, impl_InSpanF n, impl_MisfitOfF n, impl_LineAtF n, laws_f6lessF n, impl_NearestMarkF n, impl_MarkAtF n, spec_SubFracsF n, impl_EvenScaleF n, impl_LeastCountF n, spec_AddFracsF n]) ty 326 0 n laws_FnVernierskp (codeAt laws_FnVerniersc [1, 1, 1, 1, 1, 1, 1, 1, 1, 1, 1, 1, 1, 1, 1, 0, 1, 0, 0])) (canon 0 (laws_FnVernierskp.loop 25)) (kAt ([laws_f6bigF n, spec_P6ScaleF n, spec_P6VernierF n, spec_P6PlaceF n, impl_LineThatFitsF n, spec_LineThatFitsF n, impl_ReadVernierF n, spec_ReadVernierF n, impl_ValidScaleF n, impl_ValidVernierF n, impl_ReadingSpanF n, impl_InSpanF n, impl_MisfitOfF n, impl_LineAtF n, laws_f6lessF n, impl_NearestMarkF n, impl_MarkAtF n, spec_SubFracsF n, impl_EvenScaleF n, impl_LeastCountF n, spec_AddFracsF n]) ty 326 0 n laws_FnVernierskp laws_FnVerniersc [1, 1, 1, 1, 1, 1, 1, 1, 1, 1, 1, 1, 1, 1, 1, 0, 1, 0] [] (ending ty 0 Go.Proofs.Try.f10.results.toList laws_FnVerniersrs laws_FnVerniersbs)) k { env := [(22, .one (.sc (.int .i64 v22))), (5, .one (.ref 0 0 0 0 0 0)), (20, .one (.ref 1 0 0 0 0 0)), (10, .one (.sc (.int .i64 v10))), (7, .one (.ref 2 0 0 0 0 0)), (6, .one (.ref 3 0 0 0 0 0))], bx := [(0, .var 91 [.sc (.int .i64 b0_0), .sc (.int .i64 b0_1), .list false (.pair (.int .i64) (.int .i64)) b0_2]), (1, .var 26 [.sc (.int .i64 b1_0), .sc (.int .i64 b1_1)]), (2, .var 26 [.sc (.int .i64 b2_0), .sc (.int .i64 b2_1)]), (3, .var 94 [.sc (.int .i64 b3_0), .sc (.bool b3_1)])], nx := 4 } = laws_FnVerniers_l25 n k v22 v10 b0_0 b0_1 b0_2 b1_0 b1_1 b2_0 b2_1 b3_0 b3_1
  | 0, _, _, _, _, _, _, _, _, _, _, _ => by kernel_rfl
  | k + 1, v22, v10, b0_0, b0_1, b0_2, b1_0, b1_1, b2_0, b2_1, b3_0, b3_1 => by
    have h : iter (interp ([laws_f6bigF n, spec_P6ScaleF n, spec_P6VernierF n, spec_P6PlaceF n, impl_LineThatFitsF n, spec_LineThatFitsF n, impl_ReadVernierF n, spec_ReadVernierF n, impl_ValidScaleF n, impl_ValidVernierF n, impl_ReadingSpanF n, impl_InSpanF n, impl_MisfitOfF n, impl_LineAtF n, laws_f6lessF n, impl_NearestMarkF n, impl_MarkAtF n, spec_SubFracsF n, impl_EvenScaleF n, impl_LeastCountF n, spec_AddFracsF n]) ty 326 0 n laws_FnVernierskp (codeAt laws_FnVerniersc [1, 1, 1, 1, 1, 1, 1, 1, 1, 1, 1, 1, 1, 1, 1, 0, 1, 0, 0])) (canon 0 (laws_FnVernierskp.loop 25)) (kAt ([laws_f6bigF n, spec_P6ScaleF n, spec_P6VernierF n, spec_P6PlaceF n, impl_LineThatFitsF n, spec_LineThatFitsF n, impl_ReadVernierF n, spec_ReadVernierF n, impl_ValidScaleF n, impl_ValidVernierF n, impl_ReadingSpanF n, impl_InSpanF n, impl_MisfitOfF n, impl_LineAtF n, laws_f6lessF n, impl_NearestMarkF n, impl_MarkAtF n, spec_SubFracsF n, impl_EvenScaleF n, impl_LeastCountF n, spec_AddFracsF n]) ty 326 0 n laws_FnVernierskp laws_FnVerniersc [1, 1, 1, 1, 1, 1, 1, 1, 1, 1, 1, 1, 1, 1, 1, 0, 1, 0] [] (ending ty 0 Go.Proofs.Try.f10.results.toList laws_FnVerniersrs laws_FnVerniersbs)) (k + 1) { env := [(22, .one (.sc (.int .i64 v22))), (5, .one (.ref 0 0 0 0 0 0)), (20, .one (.ref 1 0 0 0 0 0)), (10, .one (.sc (.int .i64 v10))), (7, .one (.ref 2 0 0 0 0 0)), (6, .one (.ref 3 0 0 0 0 0))], bx := [(0, .var 91 [.sc (.int .i64 b0_0), .sc (.int .i64 b0_1), .list false (.pair (.int .i64) (.int .i64)) b0_2]), (1, .var 26 [.sc (.int .i64 b1_0), .sc (.int .i64 b1_1)]), (2, .var 26 [.sc (.int .i64 b2_0), .sc (.int .i64 b2_1)]), (3, .var 94 [.sc (.int .i64 b3_0), .sc (.bool b3_1)])], nx := 4 } = laws_FnVerniers_t25 n (fun v22 v10 b0_0 b0_1 b0_2 b1_0 b1_1 b2_0 b2_1 b3_0 b3_1 => iter (interp ([laws_f6bigF n, spec_P6ScaleF n, spec_P6VernierF n, spec_P6PlaceF n, impl_LineThatFitsF n, spec_LineThatFitsF n, impl_ReadVernierF n, spec_ReadVernierF n, impl_ValidScaleF n, impl_ValidVernierF n, impl_ReadingSpanF n, impl_InSpanF n, impl_MisfitOfF n, impl_LineAtF n, laws_f6lessF n, impl_NearestMarkF n, impl_MarkAtF n, spec_SubFracsF n, impl_EvenScaleF n, impl_LeastCountF n, spec_AddFracsF n]) ty 326 0 n laws_FnVernierskp (codeAt laws_FnVerniersc [1, 1, 1, 1, 1, 1, 1, 1, 1, 1, 1, 1, 1, 1, 1, 0, 1, 0, 0])) (canon 0 (laws_FnVernierskp.loop 25)) (kAt ([laws_f6bigF n, spec_P6ScaleF n, spec_P6VernierF n, spec_P6PlaceF n, impl_LineThatFitsF n, spec_LineThatFitsF n, impl_ReadVernierF n, spec_ReadVernierF n, impl_ValidScaleF n, impl_ValidVernierF n, impl_ReadingSpanF n, impl_InSpanF n, impl_MisfitOfF n, impl_LineAtF n, laws_f6lessF n, impl_NearestMarkF n, impl_MarkAtF n, spec_SubFracsF n, impl_EvenScaleF n, impl_LeastCountF n, spec_AddFracsF n]) ty 326 0 n laws_FnVernierskp laws_FnVerniersc [1, 1, 1, 1, 1, 1, 1, 1, 1, 1, 1, 1, 1, 1, 1, 0, 1, 0] [] (ending ty 0 Go.Proofs.Try.f10.results.toList laws_FnVerniersrs laws_FnVerniersbs)) k { env := [(22, .one (.sc (.int .i64 v22))), (5, .one (.ref 0 0 0 0 0 0)), (20, .one (.ref 1 0 0 0 0 0)), (10, .one (.sc (.int .i64 v10))), (7, .one (.ref 2 0 0 0 0 0)), (6, .one (.ref 3 0 0 0 0 0))], bx := [(0, .var 91 [.sc (.int .i64 b0_0), .sc (.int .i64 b0_1), .list false (.pair (.int .i64) (.int .i64)) b0_2]), (1, .var 26 [.sc (.int .i64 b1_0), .sc (.int .i64 b1_1)]), (2, .var 26 [.sc (.int .i64 b2_0), .sc (.int .i64 b2_1)]), (3, .var 94 [.sc (.int .i64 b3_0), .sc (.bool b3_1)])], nx := 4 }) v22 v10 b0_0 b0_1 b0_2 b1_0 b1_1 b2_0 b2_1 b3_0 b3_1 := by kernel_rfl
    rw [h]
    have e := congrArg (fun g => laws_FnVerniers_t25 n g v22 v10 b0_0 b0_1 b0_2 b1_0 b1_1 b2_0 b2_1 b3_0 b3_1) (funext fun v22 => funext fun v10 => funext fun b0_0 => funext fun b0_1 => funext fun b0_2 => funext fun b1_0 => funext fun b1_1 => funext fun b2_0 => funext fun b2_1 => funext fun b3_0 => funext fun b3_1 => laws_FnVerniers_l25_eq n k v22 v10 b0_0 b0_1 b0_2 b1_0 b1_1 b2_0 b2_1 b3_0 b3_1)
    exact e

theorem laws_FnVerniers_eq (n : Nat) (a0 : List (Int)) (a1 : List (Int)) : runBody ([laws_f6bigF n, spec_P6ScaleF n, spec_P6VernierF n, spec_P6PlaceF n, impl_LineThatFitsF n, spec_LineThatFitsF n, impl_ReadVernierF n, spec_ReadVernierF n, impl_ValidScaleF n, impl_ValidVernierF n, impl_ReadingSpanF n, impl_InSpanF n, impl_MisfitOfF n, impl_LineAtF n, laws_f6lessF n, impl_NearestMarkF n, impl_MarkAtF n, spec_SubFracsF n, impl_EvenScaleF n, impl_LeastCountF n, spec_AddFracsF n]) ty 326 n laws_FnVernierskp laws_FnVerniersc Go.Proofs.Try.f10.results.toList laws_FnVerniersrs laws_FnVernierssp laws_FnVerniersbs (a0, (a1, ())) () = laws_FnVerniers n a0 a1 := by
  have h : runBody ([laws_f6bigF n, spec_P6ScaleF n, spec_P6VernierF n, spec_P6PlaceF n, impl_LineThatFitsF n, spec_LineThatFitsF n, impl_ReadVernierF n, spec_ReadVernierF n, impl_ValidScaleF n, impl_ValidVernierF n, impl_ReadingSpanF n, impl_InSpanF n, impl_MisfitOfF n, impl_LineAtF n, laws_f6lessF n, impl_NearestMarkF n, impl_MarkAtF n, spec_SubFracsF n, impl_EvenScaleF n, impl_LeastCountF n, spec_AddFracsF n]) ty 326 n laws_FnVernierskp laws_FnVerniersc Go.Proofs.Try.f10.results.toList laws_FnVerniersrs laws_FnVernierssp laws_FnVerniersbs (a0, (a1, ())) () = laws_FnVerniers_t n (fun k v22 v10 b0_0 b0_1 b0_2 b1_0 b1_1 b2_0 b2_1 b3_0 b3_1 => iter (interp ([laws_f6bigF n, spec_P6ScaleF n, spec_P6VernierF n, spec_P6PlaceF n, impl_LineThatFitsF n, spec_LineThatFitsF n, impl_ReadVernierF n, spec_ReadVernierF n, impl_ValidScaleF n, impl_ValidVernierF n, impl_ReadingSpanF n, impl_InSpanF n, impl_MisfitOfF n, impl_LineAtF n, laws_f6lessF n, impl_NearestMarkF n, impl_MarkAtF n, spec_SubFracsF n, impl_EvenScaleF n, impl_LeastCountF n, spec_AddFracsF n]) ty 326 0 n laws_FnVernierskp (codeAt laws_FnVerniersc [1, 1, 1, 1, 1, 1, 1, 1, 1, 1, 1, 1, 1, 1, 1, 0, 1, 0, 0])) (canon 0 (laws_FnVernierskp.loop 25)) (kAt ([laws_f6bigF n, spec_P6ScaleF n, spec_P6VernierF n, spec_P6PlaceF n, impl_LineThatFitsF n, spec_LineThatFitsF n, impl_ReadVernierF n, spec_ReadVernierF n, impl_ValidScaleF n, impl_ValidVernierF n, impl_ReadingSpanF n, impl_InSpanF n, impl_MisfitOfF n, impl_LineAtF n, laws_f6lessF n, impl_NearestMarkF n, impl_MarkAtF n, spec_SubFracsF n, impl_EvenScaleF n, impl_LeastCountF n, spec_AddFracsF n]) ty 326 0 n laws_FnVernierskp laws_FnVerniersc [1, 1, 1, 1, 1, 1, 1, 1, 1, 1, 1, 1, 1, 1, 1, 0, 1, 0] [] (ending ty 0 Go.Proofs.Try.f10.results.toList laws_FnVerniersrs laws_FnVerniersbs)) k { env := [(22, .one (.sc (.int .i64 v22))), (5, .one (.ref 0 0 0 0 0 0)), (20, .one (.ref 1 0 0 0 0 0)), (10, .one (.sc (.int .i64 v10))), (7, .one (.ref 2 0 0 0 0 0)), (6, .one (.ref 3 0 0 0 0 0))], bx := [(0, .var 91 [.sc (.int .i64 b0_0), .sc (.int .i64 b0_1), .list false (.pair (.int .i64) (.int .i64)) b0_2]), (1, .var 26 [.sc (.int .i64 b1_0), .sc (.int .i64 b1_1)]), (2, .var 26 [.sc (.int .i64 b2_0), .sc (.int .i64 b2_1)]), (3, .var 94 [.sc (.int .i64 b3_0), .sc (.bool b3_1)])], nx := 4 }) a0 a1 := by kernel_rfl
  rw [h]
  have e := congrArg (fun h25 => laws_FnVerniers_t n h25 a0 a1) (funext fun k => funext fun v22 => funext fun v10 => funext fun b0_0 => funext fun b0_1 => funext fun b0_2 => funext fun b1_0 => funext fun b1_1 => funext fun b2_0 => funext fun b2_1 => funext fun b3_0 => funext fun b3_1 => laws_FnVerniers_l25_eq n k v22 v10 b0_0 b0_1 b0_2 b1_0 b1_1 b2_0 b2_1 b3_0 b3_1)
  exact e

theorem laws_FnVerniers_ok (n : Nat) : FunOk P (laws_FnVerniersF n) :=
  funOk_mk (C := [laws_f6bigF n, spec_P6ScaleF n, spec_P6VernierF n, spec_P6PlaceF n, impl_LineThatFitsF n, spec_LineThatFitsF n, impl_ReadVernierF n, spec_ReadVernierF n, impl_ValidScaleF n, impl_ValidVernierF n, impl_ReadingSpanF n, impl_InSpanF n, impl_MisfitOfF n, impl_LineAtF n, laws_f6lessF n, impl_NearestMarkF n, impl_MarkAtF n, spec_SubFracsF n, impl_EvenScaleF n, impl_LeastCountF n, spec_AddFracsF n]) (N := 326) (kp := laws_FnVernierskp) (c := laws_FnVerniersc) (n := n) (G := fun x y => laws_FnVerniers n x.1 x.2.1) follows (AllOk.mem (⟨laws_f6big_ok n, ⟨spec_P6Scale_ok n, ⟨spec_P6Vernier_ok n, ⟨spec_P6Place_ok n, ⟨impl_LineThatFits_ok n, ⟨spec_LineThatFits_ok n, ⟨impl_ReadVernier_ok n, ⟨spec_ReadVernier_ok n, ⟨impl_ValidScale_ok n, ⟨impl_ValidVernier_ok n, ⟨impl_ReadingSpan_ok n, ⟨impl_InSpan_ok n, ⟨impl_MisfitOf_ok n, ⟨impl_LineAt_ok n, ⟨laws_f6less_ok n, ⟨impl_NearestMark_ok n, ⟨impl_MarkAt_ok n, ⟨spec_SubFracs_ok n, ⟨impl_EvenScale_ok n, ⟨impl_LeastCount_ok n, ⟨spec_AddFracs_ok n, trivial⟩⟩⟩⟩⟩⟩⟩⟩⟩⟩⟩⟩⟩⟩⟩⟩⟩⟩⟩⟩⟩ : AllOk P ([laws_f6bigF n, spec_P6ScaleF n, spec_P6VernierF n, spec_P6PlaceF n, impl_LineThatFitsF n, spec_LineThatFitsF n, impl_ReadVernierF n, spec_ReadVernierF n, impl_ValidScaleF n, impl_ValidVernierF n, impl_ReadingSpanF n, impl_InSpanF n, impl_MisfitOfF n, impl_LineAtF n, laws_f6lessF n, impl_NearestMarkF n, impl_MarkAtF n, spec_SubFracsF n, impl_EvenScaleF n, impl_LeastCountF n, spec_AddFracsF n]))) (by kernel_rfl : P.funcs[10]? = some Go.Proofs.Try.f10) (by kernel_rfl) (by kernel_rfl) (by kernel_rfl)
    (fun x y => laws_FnVerniers_eq n x.1 x.2.1) (fun _ _ => map_same (fun _ => rfl) _) (fun _ _ _ _ => rfl)

end Go.Abs
