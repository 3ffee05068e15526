import Derived.Test.YtipjecagbndhbaaDPRepeats0
import Derived.Test.YtipjecagbndhbaaProg
import Derived.Test.YtipjecagbndhbaaRow
import Derived.KernelRfl
namespace Go.Abs
open Go.Proofs
set_option maxRecDepth 100000
set_option linter.unusedVariables false

noncomputable abbrev P : Program := Try.prog
noncomputable abbrev ty : Nat → Option TyI := tyOf P
def bodyOf (f : Func) : Code := match f.body with | some c => c | none => .skip
theorem follows : P.follows .mixedOrders = true := by kernel_rfl

abbrev laws_a2Longsp : List Sp := [.v false (.list (.int .u8)), .v false (.list (.int .u8))]
abbrev laws_a2Longbs : List (Bs × Bool) := []
abbrev laws_a2Longrs : List (Bool × List Rp) := [(false, [.v false .bool])]
noncomputable def laws_a2Longkp : Keep := { loop := fun id => match id with | _ => ([], []), join := fun id => match id with | _ => none }
noncomputable def laws_a2Longc : Code := bodyOf Go.Proofs.Try.f29
noncomputable def laws_a2LongF (n : Nat) : Fun := { id := 29, sp := laws_a2Longsp, bs := laws_a2Longbs, rs := laws_a2Longrs, f := fun x y => laws_a2Long n x.1 x.2.1 }

theorem laws_a2Long_eq (n : Nat) (a0 : List (Int)) (a1 : List (Int)) : runBody ([]) ty 13 n laws_a2Longkp laws_a2Longc Go.Proofs.Try.f29.results.toList laws_a2Longrs laws_a2Longsp laws_a2Longbs (a0, (a1, ())) () = laws_a2Long n a0 a1 := by
  have h : runBody ([]) ty 13 n laws_a2Longkp laws_a2Longc Go.Proofs.Try.f29.results.toList laws_a2Longrs laws_a2Longsp laws_a2Longbs (a0, (a1, ())) () = laws_a2Long_t n a0 a1 := by kernel_rfl
  rw [h]
  rfl

theorem laws_a2Long_ok (n : Nat) : FunOk P (laws_a2LongF n) :=
  funOk_mk (C := []) (N := 13) (kp := laws_a2Longkp) (c := laws_a2Longc) (n := n) (G := fun x y => laws_a2Long n x.1 x.2.1) follows (AllOk.mem (trivial : AllOk P ([]))) (by kernel_rfl : P.funcs[29]? = some Go.Proofs.Try.f29) (by kernel_rfl) (by kernel_rfl) (by kernel_rfl)
    (fun x y => laws_a2Long_eq n x.1 x.2.1) (fun _ _ => map_same (fun _ => rfl) _) (fun _ _ _ _ => rfl)

abbrev spec_l00Fromsp : List Sp := [.v false (.list (.int .u8))]
abbrev spec_l00Frombs : List (Bs × Bool) := []
abbrev spec_l00Fromrs : List (Bool × List Rp) := [(false, [.nvar 226 (.pair (.list (.int .u8)) (.pair (.int .i64) (.int .u64)))])]
noncomputable def spec_l00Fromkp : Keep := { loop := fun id => match id with | _ => ([], []), join := fun id => match id with | _ => none }
noncomputable def spec_l00Fromc : Code := bodyOf Go.Proofs.Try.f115
noncomputable def spec_l00FromF (n : Nat) : Fun := { id := 115, sp := spec_l00Fromsp, bs := spec_l00Frombs, rs := spec_l00Fromrs, f := fun x y => spec_l00From n x.1 }

theorem spec_l00From_eq (n : Nat) (a0 : List (Int)) : runBody ([]) ty 6 n spec_l00Fromkp spec_l00Fromc Go.Proofs.Try.f115.results.toList spec_l00Fromrs spec_l00Fromsp spec_l00Frombs (a0, ()) () = spec_l00From n a0 := by
  have h : runBody ([]) ty 6 n spec_l00Fromkp spec_l00Fromc Go.Proofs.Try.f115.results.toList spec_l00Fromrs spec_l00Fromsp spec_l00Frombs (a0, ()) () = spec_l00From_t n a0 := by kernel_rfl
  rw [h]
  rfl

theorem spec_l00From_ok (n : Nat) : FunOk P (spec_l00FromF n) :=
  funOk_mk (C := []) (N := 6) (kp := spec_l00Fromkp) (c := spec_l00Fromc) (n := n) (G := fun x y => spec_l00From n x.1) follows (AllOk.mem (trivial : AllOk P ([]))) (by kernel_rfl : P.funcs[115]? = some Go.Proofs.Try.f115) (by kernel_rfl) (by kernel_rfl) (by kernel_rfl)
    (fun x y => spec_l00From_eq n x.1) (fun _ _ => map_same (fun _ => rfl) _) (fun _ _ _ _ => rfl)

abbrev spec_l00Src_nextsp : List Sp := [.ref 0]
abbrev spec_l00Src_nextbs : List (Bs × Bool) := [(.var 226 (.pair (.list (.int .u8)) (.pair (.int .i64) (.int .u64))), true)]
abbrev spec_l00Src_nextrs : List (Bool × List Rp) := [(false, [.v false (.int .i64)])]
noncomputable def spec_l00Src_nextkp : Keep := { loop := fun id => match id with | _ => ([], []), join := fun id => match id with | _ => none }
noncomputable def spec_l00Src_nextc : Code := bodyOf Go.Proofs.Try.f238
noncomputable def spec_l00Src_nextF (n : Nat) : Fun := { id := 238, sp := spec_l00Src_nextsp, bs := spec_l00Src_nextbs, rs := spec_l00Src_nextrs, f := fun x y => spec_l00Src_next n y.1 }

theorem spec_l00Src_next_eq (n : Nat) (b0 : (List (Int)) × ((Int) × (Int))) : runBody ([]) ty 62 n spec_l00Src_nextkp spec_l00Src_nextc Go.Proofs.Try.f238.results.toList spec_l00Src_nextrs spec_l00Src_nextsp spec_l00Src_nextbs ((), ()) (b0, ()) = spec_l00Src_next n b0 := by
  have h : runBody ([]) ty 62 n spec_l00Src_nextkp spec_l00Src_nextc Go.Proofs.Try.f238.results.toList spec_l00Src_nextrs spec_l00Src_nextsp spec_l00Src_nextbs ((), ()) (b0, ()) = spec_l00Src_next_t n b0 := by kernel_rfl
  rw [h]
  rfl

theorem spec_l00Src_next_ok (n : Nat) : FunOk P (spec_l00Src_nextF n) :=
  funOk_mk (C := []) (N := 62) (kp := spec_l00Src_nextkp) (c := spec_l00Src_nextc) (n := n) (G := fun x y => spec_l00Src_next n y.1) follows (AllOk.mem (trivial : AllOk P ([]))) (by kernel_rfl : P.funcs[238]? = some Go.Proofs.Try.f238) (by kernel_rfl) (by kernel_rfl) (by kernel_rfl)
    (fun x y => spec_l00Src_next_eq n y.1) (fun _ _ => map_same (fun _ => rfl) _) (fun _ _ _ _ => rfl)

abbrev spec_l00Src_picksp : List Sp := [.ref 0, .v false (.int .i64)]
abbrev spec_l00Src_pickbs : List (Bs × Bool) := [(.var 226 (.pair (.list (.int .u8)) (.pair (.int .i64) (.int .u64))), true)]
abbrev spec_l00Src_pickrs : List (Bool × List Rp) := [(false, [.v false (.int .i64)])]
noncomputable def spec_l00Src_pickkp : Keep := { loop := fun id => match id with | _ => ([], []), join := fun id => match id with | _ => none }
noncomputable def spec_l00Src_pickc : Code := bodyOf Go.Proofs.Try.f146
noncomputable def spec_l00Src_pickF (n : Nat) : Fun := { id := 146, sp := spec_l00Src_picksp, bs := spec_l00Src_pickbs, rs := spec_l00Src_pickrs, f := fun x y => spec_l00Src_pick n x.2.1 y.1 }

theorem spec_l00Src_pick_eq (n : Nat) (a1 : Int) (b0 : (List (Int)) × ((Int) × (Int))) : runBody ([spec_l00Src_nextF n]) ty 20 n spec_l00Src_pickkp spec_l00Src_pickc Go.Proofs.Try.f146.results.toList spec_l00Src_pickrs spec_l00Src_picksp spec_l00Src_pickbs ((), (a1, ())) (b0, ()) = spec_l00Src_pick n a1 b0 := by
  have h : runBody ([spec_l00Src_nextF n]) ty 20 n spec_l00Src_pickkp spec_l00Src_pickc Go.Proofs.Try.f146.results.toList spec_l00Src_pickrs spec_l00Src_picksp spec_l00Src_pickbs ((), (a1, ())) (b0, ()) = spec_l00Src_pick_t n a1 b0 := by kernel_rfl
  rw [h]
  rfl

theorem spec_l00Src_pick_ok (n : Nat) : FunOk P (spec_l00Src_pickF n) :=
  funOk_mk (C := [spec_l00Src_nextF n]) (N := 20) (kp := spec_l00Src_pickkp) (c := spec_l00Src_pickc) (n := n) (G := fun x y => spec_l00Src_pick n x.2.1 y.1) follows (AllOk.mem (⟨spec_l00Src_next_ok n, trivial⟩ : AllOk P ([spec_l00Src_nextF n]))) (by kernel_rfl : P.funcs[146]? = some Go.Proofs.Try.f146) (by kernel_rfl) (by kernel_rfl) (by kernel_rfl)
    (fun x y => spec_l00Src_pick_eq n x.2.1 y.1) (fun _ _ => map_same (fun _ => rfl) _) (fun _ _ _ _ => rfl)

abbrev spec_l00Src_amongsp : List Sp := [.ref 0, .sl 1]
abbrev spec_l00Src_amongbs : List (Bs × Bool) := [(.var 226 (.pair (.list (.int .u8)) (.pair (.int .i64) (.int .u64))), true), (.row  (.int .i64), true)]
abbrev spec_l00Src_amongrs : List (Bool × List Rp) := [(false, [.v false (.int .i64)])]
noncomputable def spec_l00Src_amongkp : Keep := { loop := fun id => match id with | _ => ([], []), join := fun id => match id with | _ => none }
noncomputable def spec_l00Src_amongc : Code := bodyOf Go.Proofs.Try.f144
noncomputable def spec_l00Src_amongF (n : Nat) : Fun := { id := 144, sp := spec_l00Src_amongsp, bs := spec_l00Src_amongbs, rs := spec_l00Src_amongrs, f := fun x y => spec_l00Src_among n y.1 y.2.1 }

theorem spec_l00Src_among_eq (n : Nat) (b0 : (List (Int)) × ((Int) × (Int))) (b1 : List (Int)) : runBody ([spec_l00Src_pickF n]) ty 12 n spec_l00Src_amongkp spec_l00Src_amongc Go.Proofs.Try.f144.results.toList spec_l00Src_amongrs spec_l00Src_amongsp spec_l00Src_amongbs ((), ((), ())) (b0, (b1, ())) = spec_l00Src_among n b0 b1 := by
  have h : runBody ([spec_l00Src_pickF n]) ty 12 n spec_l00Src_amongkp spec_l00Src_amongc Go.Proofs.Try.f144.results.toList spec_l00Src_amongrs spec_l00Src_amongsp spec_l00Src_amongbs ((), ((), ())) (b0, (b1, ())) = spec_l00Src_among_t n b0 b1 := by kernel_rfl
  rw [h]
  rfl

theorem spec_l00Src_among_ok (n : Nat) : FunOk P (spec_l00Src_amongF n) :=
  funOk_mk (C := [spec_l00Src_pickF n]) (N := 12) (kp := spec_l00Src_amongkp) (c := spec_l00Src_amongc) (n := n) (G := fun x y => spec_l00Src_among n y.1 y.2.1) follows (AllOk.mem (⟨spec_l00Src_pick_ok n, trivial⟩ : AllOk P ([spec_l00Src_pickF n]))) (by kernel_rfl : P.funcs[144]? = some Go.Proofs.Try.f144) (by kernel_rfl) (by kernel_rfl) (by kernel_rfl)
    (fun x y => spec_l00Src_among_eq n y.1 y.2.1) (fun _ _ => map_same (fun _ => rfl) _) (fun _ _ _ _ => rfl)

abbrev spec_l00Src_onesp : List Sp := [.ref 0, .v false (.int .i64)]
abbrev spec_l00Src_onebs : List (Bs × Bool) := [(.var 226 (.pair (.list (.int .u8)) (.pair (.int .i64) (.int .u64))), true)]
abbrev spec_l00Src_oners : List (Bool × List Rp) := [(false, [.v false .bool])]
noncomputable def spec_l00Src_onekp : Keep := { loop := fun id => match id with | _ => ([], []), join := fun id => match id with | _ => none }
noncomputable def spec_l00Src_onec : Code := bodyOf Go.Proofs.Try.f200
noncomputable def spec_l00Src_oneF (n : Nat) : Fun := { id := 200, sp := spec_l00Src_onesp, bs := spec_l00Src_onebs, rs := spec_l00Src_oners, f := fun x y => spec_l00Src_one n x.2.1 y.1 }

theorem spec_l00Src_one_eq (n : Nat) (a1 : Int) (b0 : (List (Int)) × ((Int) × (Int))) : runBody ([spec_l00Src_pickF n]) ty 9 n spec_l00Src_onekp spec_l00Src_onec Go.Proofs.Try.f200.results.toList spec_l00Src_oners spec_l00Src_onesp spec_l00Src_onebs ((), (a1, ())) (b0, ()) = spec_l00Src_one n a1 b0 := by
  have h : runBody ([spec_l00Src_pickF n]) ty 9 n spec_l00Src_onekp spec_l00Src_onec Go.Proofs.Try.f200.results.toList spec_l00Src_oners spec_l00Src_onesp spec_l00Src_onebs ((), (a1, ())) (b0, ()) = spec_l00Src_one_t n a1 b0 := by kernel_rfl
  rw [h]
  rfl

theorem spec_l00Src_one_ok (n : Nat) : FunOk P (spec_l00Src_oneF n) :=
  funOk_mk (C := [spec_l00Src_pickF n]) (N := 9) (kp := spec_l00Src_onekp) (c := spec_l00Src_onec) (n := n) (G := fun x y => spec_l00Src_one n x.2.1 y.1) follows (AllOk.mem (⟨spec_l00Src_pick_ok n, trivial⟩ : AllOk P ([spec_l00Src_pickF n]))) (by kernel_rfl : P.funcs[200]? = some Go.Proofs.Try.f200) (by kernel_rfl) (by kernel_rfl) (by kernel_rfl)
    (fun x y => spec_l00Src_one_eq n x.2.1 y.1) (fun _ _ => map_same (fun _ => rfl) _) (fun _ _ _ _ => rfl)

abbrev spec_l03Drawnsp : List Sp := [.ref 0]
abbrev spec_l03Drawnbs : List (Bs × Bool) := [(.var 226 (.pair (.list (.int .u8)) (.pair (.int .i64) (.int .u64))), true)]
abbrev spec_l03Drawnrs : List (Bool × List Rp) := [(true, [.v false (.pair (.list (.int .i16)) (.pair (.int .i64) (.int .i64)))])]
noncomputable def spec_l03Drawnkp : Keep := { loop := fun id => match id with | 3 => ([4, 3, 0, 2], [.box 1 0 (.int .i16)]) | _ => ([], []), join := fun id => match id with | 8 => some ([3, 0, 2, 4, 5], []) | 12 => some ([2, 3], []) | _ => none }
noncomputable def spec_l03Drawnc : Code := bodyOf Go.Proofs.Try.f157
noncomputable def spec_l03DrawnF (n : Nat) : Fun := { id := 157, sp := spec_l03Drawnsp, bs := spec_l03Drawnbs, rs := spec_l03Drawnrs, f := fun x y => spec_l03Drawn n y.1 }

theorem spec_l03Drawn_j12_eq (n : Nat) (b0_0 : List (Int)) (b0_1 : Int) (b0_2 : Int) (b1_1 : Int) (b1_2 : Int) (b2_1 : Int) (b2_2 : Int) (b3 : List (Int)) : (interp ([spec_l00Src_amongF n, spec_l00Src_oneF n, spec_l00Src_pickF n]) ty 38 1 n spec_l03Drawnkp (codeAt spec_l03Drawnc [1, 1, 1, 1])) { env := [(2, .one (.ref 1 0 0 0 0 0)), (3, .one (.ref 2 0 0 0 0 0))], bx := [(0, .var 226 [.list true (.int .u8) b0_0, .sc (.int .i64 b0_1), .sc (.int .u64 b0_2)]), (1, .var 62 [.sc (.slice none 0 0), .sc (.int .i64 b1_1), .sc (.int .i64 b1_2)]), (2, .var 62 [.slice 3 0 none, .sc (.int .i64 b2_1), .sc (.int .i64 b2_2)]), (3, .row 0 (.int .i16) b3)], nx := 4 } (kAt ([spec_l00Src_amongF n, spec_l00Src_oneF n, spec_l00Src_pickF n]) ty 38 1 n spec_l03Drawnkp spec_l03Drawnc [1, 1, 1, 1] [] (ending ty 1 Go.Proofs.Try.f157.results.toList spec_l03Drawnrs spec_l03Drawnbs)) = spec_l03Drawn_j12 n b0_0 b0_1 b0_2 b1_1 b1_2 b2_1 b2_2 b3 := by
  have h : (interp ([spec_l00Src_amongF n, spec_l00Src_oneF n, spec_l00Src_pickF n]) ty 38 1 n spec_l03Drawnkp (codeAt spec_l03Drawnc [1, 1, 1, 1])) { env := [(2, .one (.ref 1 0 0 0 0 0)), (3, .one (.ref 2 0 0 0 0 0))], bx := [(0, .var 226 [.list true (.int .u8) b0_0, .sc (.int .i64 b0_1), .sc (.int .u64 b0_2)]), (1, .var 62 [.sc (.slice none 0 0), .sc (.int .i64 b1_1), .sc (.int .i64 b1_2)]), (2, .var 62 [.slice 3 0 none, .sc (.int .i64 b2_1), .sc (.int .i64 b2_2)]), (3, .row 0 (.int .i16) b3)], nx := 4 } (kAt ([spec_l00Src_amongF n, spec_l00Src_oneF n, spec_l00Src_pickF n]) ty 38 1 n spec_l03Drawnkp spec_l03Drawnc [1, 1, 1, 1] [] (ending ty 1 Go.Proofs.Try.f157.results.toList spec_l03Drawnrs spec_l03Drawnbs)) = spec_l03Drawn_t12 n b0_0 b0_1 b0_2 b1_1 b1_2 b2_1 b2_2 b3 := by kernel_rfl
  rw [h]
  rfl

theorem spec_l03Drawn_j8_eq (n : Nat) (G3 : St → Option (((((List (Int)) × ((Int) × (Int))) × (Unit)) × (Unit)) × (((List (Int)) × ((Int) × (Int))) × (Unit)))) (v4 : Int) (v5 : Int) (b0_0 : List (Int)) (b0_1 : Int) (b0_2 : Int) (b1_1 : Int) (b1_2 : Int) (b2_1 : Int) (b2_2 : Int) (b3 : List (Int)) : (interp ([spec_l00Src_amongF n, spec_l00Src_oneF n, spec_l00Src_pickF n]) ty 38 1 n spec_l03Drawnkp (codeAt spec_l03Drawnc [1, 1, 0, 1, 0, 0, 1, 0, 0, 1, 1])) { env := [(3, .one (.ref 1 0 0 0 0 0)), (0, .one (.ref 0 0 0 0 0 0)), (2, .one (.ref 2 0 0 0 0 0)), (4, .one (.sc (.int .i64 v4))), (5, .one (.sc (.int .i16 v5)))], bx := [(0, .var 226 [.list true (.int .u8) b0_0, .sc (.int .i64 b0_1), .sc (.int .u64 b0_2)]), (1, .var 62 [.slice 3 0 none, .sc (.int .i64 b1_1), .sc (.int .i64 b1_2)]), (2, .var 62 [.sc (.slice none 0 0), .sc (.int .i64 b2_1), .sc (.int .i64 b2_2)]), (3, .row 0 (.int .i16) b3)], nx := 4 } (kAt ([spec_l00Src_amongF n, spec_l00Src_oneF n, spec_l00Src_pickF n]) ty 38 1 n spec_l03Drawnkp spec_l03Drawnc [1, 1, 0, 1, 0, 0, 1, 0, 0, 1, 1] [G3] (ending ty 1 Go.Proofs.Try.f157.results.toList spec_l03Drawnrs spec_l03Drawnbs)) = spec_l03Drawn_j8 n (fun v4 b0_0 b0_1 b0_2 b1_1 b1_2 b2_1 b2_2 b3 => G3 { env := [(4, .one (.sc (.int .i64 v4))), (3, .one (.ref 1 0 0 0 0 0)), (0, .one (.ref 0 0 0 0 0 0)), (2, .one (.ref 2 0 0 0 0 0))], bx := [(0, .var 226 [.list true (.int .u8) b0_0, .sc (.int .i64 b0_1), .sc (.int .u64 b0_2)]), (1, .var 62 [.slice 3 0 none, .sc (.int .i64 b1_1), .sc (.int .i64 b1_2)]), (2, .var 62 [.sc (.slice none 0 0), .sc (.int .i64 b2_1), .sc (.int .i64 b2_2)]), (3, .row 0 (.int .i16) b3)], nx := 4 }) v4 v5 b0_0 b0_1 b0_2 b1_1 b1_2 b2_1 b2_2 b3 := by
  have h : (interp ([spec_l00Src_amongF n, spec_l00Src_oneF n, spec_l00Src_pickF n]) ty 38 1 n spec_l03Drawnkp (codeAt spec_l03Drawnc [1, 1, 0, 1, 0, 0, 1, 0, 0, 1, 1])) { env := [(3, .one (.ref 1 0 0 0 0 0)), (0, .one (.ref 0 0 0 0 0 0)), (2, .one (.ref 2 0 0 0 0 0)), (4, .one (.sc (.int .i64 v4))), (5, .one (.sc (.int .i16 v5)))], bx := [(0, .var 226 [.list true (.int .u8) b0_0, .sc (.int .i64 b0_1), .sc (.int .u64 b0_2)]), (1, .var 62 [.slice 3 0 none, .sc (.int .i64 b1_1), .sc (.int .i64 b1_2)]), (2, .var 62 [.sc (.slice none 0 0), .sc (.int .i64 b2_1), .sc (.int .i64 b2_2)]), (3, .row 0 (.int .i16) b3)], nx := 4 } (kAt ([spec_l00Src_amongF n, spec_l00Src_oneF n, spec_l00Src_pickF n]) ty 38 1 n spec_l03Drawnkp spec_l03Drawnc [1, 1, 0, 1, 0, 0, 1, 0, 0, 1, 1] [G3] (ending ty 1 Go.Proofs.Try.f157.results.toList spec_l03Drawnrs spec_l03Drawnbs)) = spec_l03Drawn_t8 n (fun v4 b0_0 b0_1 b0_2 b1_1 b1_2 b2_1 b2_2 b3 => G3 { env := [(4, .one (.sc (.int .i64 v4))), (3, .one (.ref 1 0 0 0 0 0)), (0, .one (.ref 0 0 0 0 0 0)), (2, .one (.ref 2 0 0 0 0 0))], bx := [(0, .var 226 [.list true (.int .u8) b0_0, .sc (.int .i64 b0_1), .sc (.int .u64 b0_2)]), (1, .var 62 [.slice 3 0 none, .sc (.int .i64 b1_1), .sc (.int .i64 b1_2)]), (2, .var 62 [.sc (.slice none 0 0), .sc (.int .i64 b2_1), .sc (.int .i64 b2_2)]), (3, .row 0 (.int .i16) b3)], nx := 4 }) v4 v5 b0_0 b0_1 b0_2 b1_1 b1_2 b2_1 b2_2 b3 := by kernel_rfl
  rw [h]
  rfl

theorem spec_l03Drawn_l3_eq (n : Nat) : ∀ (k : Nat) (v4 : Int) (b0_0 : List (Int)) (b0_1 : Int) (b0_2 : Int) (b1_1 : Int) (b1_2 : Int) (b2_1 : Int) (b2_2 : Int) (b3 : List (Int)), iter (interp ([spec_l00Src_amongF n, spec_l00Src_oneF n, spec_l00Src_pickF n]) ty 38 1 n spec_l03Drawnkp (codeAt spec_l03Drawnc [1, 1, 0, 1, 0, 0])) (canon 1 (spec_l03Drawnkp.loop 3)) (kAt ([spec_l00Src_amongF n, spec_l00Src_oneF n, spec_l00Src_pickF n]) ty 38 1 n spec_l03Drawnkp spec_l03Drawnc [1, 1, 0, 1, 0] [] (ending ty 1 Go.Proofs.Try.f157.results.toList spec_l03Drawnrs spec_l03Drawnbs)) k { env := [(4, .one (.sc (.int .i64 v4))), (3, .one (.ref 1 0 0 0 0 0)), (0, .one (.ref 0 0 0 0 0 0)), (2, .one (.ref 2 0 0 0 0 0))], bx := [(0, .var 226 [.list true (.int .u8) b0_0, .sc (.int .i64 b0_1), .sc (.int .u64 b0_2)]), (1, .var 62 [.slice 3 0 none, .sc (.int .i64 b1_1), .sc (.int .i64 b1_2)]), (2, .var 62 [.sc (.slice none 0 0), .sc (.int .i64 b2_1), .sc (.int .i64 b2_2)]), (3, .row 0 (.int .i16) b3)], nx := 4 } = spec_l03Drawn_l3 n k v4 b0_0 b0_1 b0_2 b1_1 b1_2 b2_1 b2_2 b3
  | 0, _, _, _, _, _, _, _, _, _ => by kernel_rfl
  | k + 1, v4, b0_0, b0_1, b0_2, b1_1, b1_2, b2_1, b2_2, b3 => by
    have h : iter (interp ([spec_l00Src_amongF n, spec_l00Src_oneF n, spec_l00Src_pickF n]) ty 38 1 n spec_l03Drawnkp (codeAt spec_l03Drawnc [1, 1, 0, 1, 0, 0])) (canon 1 (spec_l03Drawnkp.loop 3)) (kAt ([spec_l00Src_amongF n, spec_l00Src_oneF n, spec_l00Src_pickF n]) ty 38 1 n spec_l03Drawnkp spec_l03Drawnc [1, 1, 0, 1, 0] [] (ending ty 1 Go.Proofs.Try.f157.results.toList spec_l03Drawnrs spec_l03Drawnbs)) (k + 1) { env := [(4, .one (.sc (.int .i64 v4))), (3, .one (.ref 1 0 0 0 0 0)), (0, .one (.ref 0 0 0 0 0 0)), (2, .one (.ref 2 0 0 0 0 0))], bx := [(0, .var 226 [.list true (.int .u8) b0_0, .sc (.int .i64 b0_1), .sc (.int .u64 b0_2)]), (1, .var 62 [.slice 3 0 none, .sc (.int .i64 b1_1), .sc (.int .i64 b1_2)]), (2, .var 62 [.sc (.slice none 0 0), .sc (.int .i64 b2_1), .sc (.int .i64 b2_2)]), (3, .row 0 (.int .i16) b3)], nx := 4 } = spec_l03Drawn_t3 n (fun v4 v5 b0_0 b0_1 b0_2 b1_1 b1_2 b2_1 b2_2 b3 => (interp ([spec_l00Src_amongF n, spec_l00Src_oneF n, spec_l00Src_pickF n]) ty 38 1 n spec_l03Drawnkp (codeAt spec_l03Drawnc [1, 1, 0, 1, 0, 0, 1, 0, 0, 1, 1])) { env := [(3, .one (.ref 1 0 0 0 0 0)), (0, .one (.ref 0 0 0 0 0 0)), (2, .one (.ref 2 0 0 0 0 0)), (4, .one (.sc (.int .i64 v4))), (5, .one (.sc (.int .i16 v5)))], bx := [(0, .var 226 [.list true (.int .u8) b0_0, .sc (.int .i64 b0_1), .sc (.int .u64 b0_2)]), (1, .var 62 [.slice 3 0 none, .sc (.int .i64 b1_1), .sc (.int .i64 b1_2)]), (2, .var 62 [.sc (.slice none 0 0), .sc (.int .i64 b2_1), .sc (.int .i64 b2_2)]), (3, .row 0 (.int .i16) b3)], nx := 4 } (kAt ([spec_l00Src_amongF n, spec_l00Src_oneF n, spec_l00Src_pickF n]) ty 38 1 n spec_l03Drawnkp spec_l03Drawnc [1, 1, 0, 1, 0, 0, 1, 0, 0, 1, 1] [(fun s => iter (interp ([spec_l00Src_amongF n, spec_l00Src_oneF n, spec_l00Src_pickF n]) ty 38 1 n spec_l03Drawnkp (codeAt spec_l03Drawnc [1, 1, 0, 1, 0, 0])) (canon 1 (spec_l03Drawnkp.loop 3)) (kAt ([spec_l00Src_amongF n, spec_l00Src_oneF n, spec_l00Src_pickF n]) ty 38 1 n spec_l03Drawnkp spec_l03Drawnc [1, 1, 0, 1, 0] [] (ending ty 1 Go.Proofs.Try.f157.results.toList spec_l03Drawnrs spec_l03Drawnbs)) k s)] (ending ty 1 Go.Proofs.Try.f157.results.toList spec_l03Drawnrs spec_l03Drawnbs))) (fun b0_0 b0_1 b0_2 b1_1 b1_2 b2_1 b2_2 b3 => (interp ([spec_l00Src_amongF n, spec_l00Src_oneF n, spec_l00Src_pickF n]) ty 38 1 n spec_l03Drawnkp (codeAt spec_l03Drawnc [1, 1, 1, 1])) { env := [(2, .one (.ref 1 0 0 0 0 0)), (3, .one (.ref 2 0 0 0 0 0))], bx := [(0, .var 226 [.list true (.int .u8) b0_0, .sc (.int .i64 b0_1), .sc (.int .u64 b0_2)]), (1, .var 62 [.sc (.slice none 0 0), .sc (.int .i64 b1_1), .sc (.int .i64 b1_2)]), (2, .var 62 [.slice 3 0 none, .sc (.int .i64 b2_1), .sc (.int .i64 b2_2)]), (3, .row 0 (.int .i16) b3)], nx := 4 } (kAt ([spec_l00Src_amongF n, spec_l00Src_oneF n, spec_l00Src_pickF n]) ty 38 1 n spec_l03Drawnkp spec_l03Drawnc [1, 1, 1, 1] [] (ending ty 1 Go.Proofs.Try.f157.results.toList spec_l03Drawnrs spec_l03Drawnbs))) (fun v4 b0_0 b0_1 b0_2 b1_1 b1_2 b2_1 b2_2 b3 => iter (interp ([spec_l00Src_amongF n, spec_l00Src_oneF n, spec_l00Src_pickF n]) ty 38 1 n spec_l03Drawnkp (codeAt spec_l03Drawnc [1, 1, 0, 1, 0, 0])) (canon 1 (spec_l03Drawnkp.loop 3)) (kAt ([spec_l00Src_amongF n, spec_l00Src_oneF n, spec_l00Src_pickF n]) ty 38 1 n spec_l03Drawnkp spec_l03Drawnc [1, 1, 0, 1, 0] [] (ending ty 1 Go.Proofs.Try.f157.results.toList spec_l03Drawnrs spec_l03Drawnbs)) k { env := [(4, .one (.sc (.int .i64 v4))), (3, .one (.ref 1 0 0 0 0 0)), (0, .one (.ref 0 0 0 0 0 0)), (2, .one (.ref 2 0 0 0 0 0))], bx := [(0, .var 226 [.list true (.int .u8) b0_0, .sc (.int .i64 b0_1), .sc (.int .u64 b0_2)]), (1, .var 62 [.slice 3 0 none, .sc (.int .i64 b1_1), .sc (.int .i64 b1_2)]), (2, .var 62 [.sc (.slice none 0 0), .sc (.int .i64 b2_1), .sc (.int .i64 b2_2)]), (3, .row 0 (.int .i16) b3)], nx := 4 }) v4 b0_0 b0_1 b0_2 b1_1 b1_2 b2_1 b2_2 b3 := by kernel_rfl
    rw [h]
    have e := congr (congr (congrArg (fun h8 h12 g => spec_l03Drawn_t3 n h8 h12 g v4 b0_0 b0_1 b0_2 b1_1 b1_2 b2_1 b2_2 b3) ((funext fun v4 => funext fun v5 => funext fun b0_0 => funext fun b0_1 => funext fun b0_2 => funext fun b1_1 => funext fun b1_2 => funext fun b2_1 => funext fun b2_2 => funext fun b3 => spec_l03Drawn_j8_eq n (fun s => iter (interp ([spec_l00Src_amongF n, spec_l00Src_oneF n, spec_l00Src_pickF n]) ty 38 1 n spec_l03Drawnkp (codeAt spec_l03Drawnc [1, 1, 0, 1, 0, 0])) (canon 1 (spec_l03Drawnkp.loop 3)) (kAt ([spec_l00Src_amongF n, spec_l00Src_oneF n, spec_l00Src_pickF n]) ty 38 1 n spec_l03Drawnkp spec_l03Drawnc [1, 1, 0, 1, 0] [] (ending ty 1 Go.Proofs.Try.f157.results.toList spec_l03Drawnrs spec_l03Drawnbs)) k s) v4 v5 b0_0 b0_1 b0_2 b1_1 b1_2 b2_1 b2_2 b3).trans (congrArg (fun z => spec_l03Drawn_j8 n z) (funext fun v4 => funext fun b0_0 => funext fun b0_1 => funext fun b0_2 => funext fun b1_1 => funext fun b1_2 => funext fun b2_1 => funext fun b2_2 => funext fun b3 => spec_l03Drawn_l3_eq n k v4 b0_0 b0_1 b0_2 b1_1 b1_2 b2_1 b2_2 b3)))) (funext fun b0_0 => funext fun b0_1 => funext fun b0_2 => funext fun b1_1 => funext fun b1_2 => funext fun b2_1 => funext fun b2_2 => funext fun b3 => spec_l03Drawn_j12_eq n b0_0 b0_1 b0_2 b1_1 b1_2 b2_1 b2_2 b3)) (funext fun v4 => funext fun b0_0 => funext fun b0_1 => funext fun b0_2 => funext fun b1_1 => funext fun b1_2 => funext fun b2_1 => funext fun b2_2 => funext fun b3 => spec_l03Drawn_l3_eq n k v4 b0_0 b0_1 b0_2 b1_1 b1_2 b2_1 b2_2 b3)
    exact e

theorem spec_l03Drawn_eq (n : Nat) (b0 : (List (Int)) × ((Int) × (Int))) : runBody ([spec_l00Src_amongF n, spec_l00Src_oneF n, spec_l00Src_pickF n]) ty 38 n spec_l03Drawnkp spec_l03Drawnc Go.Proofs.Try.f157.results.toList spec_l03Drawnrs spec_l03Drawnsp spec_l03Drawnbs ((), ()) (b0, ()) = spec_l03Drawn n b0 := by
  have h : runBody ([spec_l00Src_amongF n, spec_l00Src_oneF n, spec_l00Src_pickF n]) ty 38 n spec_l03Drawnkp spec_l03Drawnc Go.Proofs.Try.f157.results.toList spec_l03Drawnrs spec_l03Drawnsp spec_l03Drawnbs ((), ()) (b0, ()) = spec_l03Drawn_t n (fun k v4 b0_0 b0_1 b0_2 b1_1 b1_2 b2_1 b2_2 b3 => iter (interp ([spec_l00Src_amongF n, spec_l00Src_oneF n, spec_l00Src_pickF n]) ty 38 1 n spec_l03Drawnkp (codeAt spec_l03Drawnc [1, 1, 0, 1, 0, 0])) (canon 1 (spec_l03Drawnkp.loop 3)) (kAt ([spec_l00Src_amongF n, spec_l00Src_oneF n, spec_l00Src_pickF n]) ty 38 1 n spec_l03Drawnkp spec_l03Drawnc [1, 1, 0, 1, 0] [] (ending ty 1 Go.Proofs.Try.f157.results.toList spec_l03Drawnrs spec_l03Drawnbs)) k { env := [(4, .one (.sc (.int .i64 v4))), (3, .one (.ref 1 0 0 0 0 0)), (0, .one (.ref 0 0 0 0 0 0)), (2, .one (.ref 2 0 0 0 0 0))], bx := [(0, .var 226 [.list true (.int .u8) b0_0, .sc (.int .i64 b0_1), .sc (.int .u64 b0_2)]), (1, .var 62 [.slice 3 0 none, .sc (.int .i64 b1_1), .sc (.int .i64 b1_2)]), (2, .var 62 [.sc (.slice none 0 0), .sc (.int .i64 b2_1), .sc (.int .i64 b2_2)]), (3, .row 0 (.int .i16) b3)], nx := 4 }) b0 := by kernel_rfl
  rw [h]
  have e := congrArg (fun h3 => spec_l03Drawn_t n h3 b0) (funext fun k => funext fun v4 => funext fun b0_0 => funext fun b0_1 => funext fun b0_2 => funext fun b1_1 => funext fun b1_2 => funext fun b2_1 => funext fun b2_2 => funext fun b3 => spec_l03Drawn_l3_eq n k v4 b0_0 b0_1 b0_2 b1_1 b1_2 b2_1 b2_2 b3)
  exact e

theorem spec_l03Drawn_ok (n : Nat) : FunOk P (spec_l03DrawnF n) :=
  funOk_mk (C := [spec_l00Src_amongF n, spec_l00Src_oneF n, spec_l00Src_pickF n]) (N := 38) (kp := spec_l03Drawnkp) (c := spec_l03Drawnc) (n := n) (G := fun x y => spec_l03Drawn n y.1) follows (AllOk.mem (⟨spec_l00Src_among_ok n, ⟨spec_l00Src_one_ok n, ⟨spec_l00Src_pick_ok n, trivial⟩⟩⟩ : AllOk P ([spec_l00Src_amongF n, spec_l00Src_oneF n, spec_l00Src_pickF n]))) (by kernel_rfl : P.funcs[157]? = some Go.Proofs.Try.f157) (by kernel_rfl) (by kernel_rfl) (by kernel_rfl)
    (fun x y => spec_l03Drawn_eq n y.1) (fun _ _ => map_same (fun _ => rfl) _) (fun _ _ _ _ => rfl)

abbrev spec_A2Disksp : List Sp := [.v false (.list (.int .u8))]
abbrev spec_A2Diskbs : List (Bs × Bool) := []
abbrev spec_A2Diskrs : List (Bool × List Rp) := [(true, [.v false (.pair (.list (.int .i16)) (.pair (.int .i64) (.int .i64)))])]
noncomputable def spec_A2Diskkp : Keep := { loop := fun id => match id with | _ => ([], []), join := fun id => match id with | _ => none }
noncomputable def spec_A2Diskc : Code := bodyOf Go.Proofs.Try.f39
noncomputable def spec_A2DiskF (n : Nat) : Fun := { id := 39, sp := spec_A2Disksp, bs := spec_A2Diskbs, rs := spec_A2Diskrs, f := fun x y => spec_A2Disk n x.1 }

theorem spec_A2Disk_eq (n : Nat) (a0 : List (Int)) : runBody ([spec_l00FromF n, spec_l03DrawnF n]) ty 6 n spec_A2Diskkp spec_A2Diskc Go.Proofs.Try.f39.results.toList spec_A2Diskrs spec_A2Disksp spec_A2Diskbs (a0, ()) () = spec_A2Disk n a0 := by
  have h : runBody ([spec_l00FromF n, spec_l03DrawnF n]) ty 6 n spec_A2Diskkp spec_A2Diskc Go.Proofs.Try.f39.results.toList spec_A2Diskrs spec_A2Disksp spec_A2Diskbs (a0, ()) () = spec_A2Disk_t n a0 := by kernel_rfl
  rw [h]
  rfl

theorem spec_A2Disk_ok (n : Nat) : FunOk P (spec_A2DiskF n) :=
  funOk_mk (C := [spec_l00FromF n, spec_l03DrawnF n]) (N := 6) (kp := spec_A2Diskkp) (c := spec_A2Diskc) (n := n) (G := fun x y => spec_A2Disk n x.1) follows (AllOk.mem (⟨spec_l00From_ok n, ⟨spec_l03Drawn_ok n, trivial⟩⟩ : AllOk P ([spec_l00FromF n, spec_l03DrawnF n]))) (by kernel_rfl : P.funcs[39]? = some Go.Proofs.Try.f39) (by kernel_rfl) (by kernel_rfl) (by kernel_rfl)
    (fun x y => spec_A2Disk_eq n x.1) (fun _ _ => map_same (fun _ => rfl) _) (fun _ _ _ _ => rfl)

abbrev spec_l03Drawingsp : List Sp := [.ref 0]
abbrev spec_l03Drawingbs : List (Bs × Bool) := [(.var 226 (.pair (.list (.int .u8)) (.pair (.int .i64) (.int .u64))), true)]
abbrev spec_l03Drawingrs : List (Bool × List Rp) := [(false, [.v false (.int .i64)])]
noncomputable def spec_l03Drawingkp : Keep := { loop := fun id => match id with | _ => ([], []), join := fun id => match id with | _ => none }
noncomputable def spec_l03Drawingc : Code := bodyOf Go.Proofs.Try.f162
noncomputable def spec_l03DrawingF (n : Nat) : Fun := { id := 162, sp := spec_l03Drawingsp, bs := spec_l03Drawingbs, rs := spec_l03Drawingrs, f := fun x y => spec_l03Drawing n y.1 }

theorem spec_l03Drawing_eq (n : Nat) (b0 : (List (Int)) × ((Int) × (Int))) : runBody ([spec_l00Src_pickF n, spec_l00Src_amongF n]) ty 17 n spec_l03Drawingkp spec_l03Drawingc Go.Proofs.Try.f162.results.toList spec_l03Drawingrs spec_l03Drawingsp spec_l03Drawingbs ((), ()) (b0, ()) = spec_l03Drawing n b0 := by
  have h : runBody ([spec_l00Src_pickF n, spec_l00Src_amongF n]) ty 17 n spec_l03Drawingkp spec_l03Drawingc Go.Proofs.Try.f162.results.toList spec_l03Drawingrs spec_l03Drawingsp spec_l03Drawingbs ((), ()) (b0, ()) = spec_l03Drawing_t n b0 := by kernel_rfl
  rw [h]
  rfl

theorem spec_l03Drawing_ok (n : Nat) : FunOk P (spec_l03DrawingF n) :=
  funOk_mk (C := [spec_l00Src_pickF n, spec_l00Src_amongF n]) (N := 17) (kp := spec_l03Drawingkp) (c := spec_l03Drawingc) (n := n) (G := fun x y => spec_l03Drawing n y.1) follows (AllOk.mem (⟨spec_l00Src_pick_ok n, ⟨spec_l00Src_among_ok n, trivial⟩⟩ : AllOk P ([spec_l00Src_pickF n, spec_l00Src_amongF n]))) (by kernel_rfl : P.funcs[162]? = some Go.Proofs.Try.f162) (by kernel_rfl) (by kernel_rfl) (by kernel_rfl)
    (fun x y => spec_l03Drawing_eq n y.1) (fun _ _ => map_same (fun _ => rfl) _) (fun _ _ _ _ => rfl)

abbrev spec_l03Wrapsp : List Sp := [.v false (.int .i64)]
abbrev spec_l03Wrapbs : List (Bs × Bool) := []
abbrev spec_l03Wraprs : List (Bool × List Rp) := [(false, [.v false (.int .i64)])]
noncomputable def spec_l03Wrapkp : Keep := { loop := fun id => match id with | _ => ([], []), join := fun id => match id with | _ => none }
noncomputable def spec_l03Wrapc : Code := bodyOf Go.Proofs.Try.f160
noncomputable def spec_l03WrapF (n : Nat) : Fun := { id := 160, sp := spec_l03Wrapsp, bs := spec_l03Wrapbs, rs := spec_l03Wraprs, f := fun x y => spec_l03Wrap n x.1 }

theorem spec_l03Wrap_eq (n : Nat) (a0 : Int) : runBody ([]) ty 10 n spec_l03Wrapkp spec_l03Wrapc Go.Proofs.Try.f160.results.toList spec_l03Wraprs spec_l03Wrapsp spec_l03Wrapbs (a0, ()) () = spec_l03Wrap n a0 := by
  have h : runBody ([]) ty 10 n spec_l03Wrapkp spec_l03Wrapc Go.Proofs.Try.f160.results.toList spec_l03Wraprs spec_l03Wrapsp spec_l03Wrapbs (a0, ()) () = spec_l03Wrap_t n a0 := by kernel_rfl
  rw [h]
  rfl

theorem spec_l03Wrap_ok (n : Nat) : FunOk P (spec_l03WrapF n) :=
  funOk_mk (C := []) (N := 10) (kp := spec_l03Wrapkp) (c := spec_l03Wrapc) (n := n) (G := fun x y => spec_l03Wrap n x.1) follows (AllOk.mem (trivial : AllOk P ([]))) (by kernel_rfl : P.funcs[160]? = some Go.Proofs.Try.f160) (by kernel_rfl) (by kernel_rfl) (by kernel_rfl)
    (fun x y => spec_l03Wrap_eq n x.1) (fun _ _ => map_same (fun _ => rfl) _) (fun _ _ _ _ => rfl)

abbrev spec_A2Anglesp : List Sp := [.v false (.list (.int .u8))]
abbrev spec_A2Anglebs : List (Bs × Bool) := []
abbrev spec_A2Anglers : List (Bool × List Rp) := [(false, [.v false (.int .i64)])]
noncomputable def spec_A2Anglekp : Keep := { loop := fun id => match id with | _ => ([], []), join := fun id => match id with | _ => none }
noncomputable def spec_A2Anglec : Code := bodyOf Go.Proofs.Try.f41
noncomputable def spec_A2AngleF (n : Nat) : Fun := { id := 41, sp := spec_A2Anglesp, bs := spec_A2Anglebs, rs := spec_A2Anglers, f := fun x y => spec_A2Angle n x.1 }

theorem spec_A2Angle_eq (n : Nat) (a0 : List (Int)) : runBody ([spec_l00FromF n, spec_l03DrawingF n, spec_l03WrapF n]) ty 7 n spec_A2Anglekp spec_A2Anglec Go.Proofs.Try.f41.results.toList spec_A2Anglers spec_A2Anglesp spec_A2Anglebs (a0, ()) () = spec_A2Angle n a0 := by
  have h : runBody ([spec_l00FromF n, spec_l03DrawingF n, spec_l03WrapF n]) ty 7 n spec_A2Anglekp spec_A2Anglec Go.Proofs.Try.f41.results.toList spec_A2Anglers spec_A2Anglesp spec_A2Anglebs (a0, ()) () = spec_A2Angle_t n a0 := by kernel_rfl
  rw [h]
  rfl

theorem spec_A2Angle_ok (n : Nat) : FunOk P (spec_A2AngleF n) :=
  funOk_mk (C := [spec_l00FromF n, spec_l03DrawingF n, spec_l03WrapF n]) (N := 7) (kp := spec_A2Anglekp) (c := spec_A2Anglec) (n := n) (G := fun x y => spec_A2Angle n x.1) follows (AllOk.mem (⟨spec_l00From_ok n, ⟨spec_l03Drawing_ok n, ⟨spec_l03Wrap_ok n, trivial⟩⟩⟩ : AllOk P ([spec_l00FromF n, spec_l03DrawingF n, spec_l03WrapF n]))) (by kernel_rfl : P.funcs[41]? = some Go.Proofs.Try.f41) (by kernel_rfl) (by kernel_rfl) (by kernel_rfl)
    (fun x y => spec_A2Angle_eq n x.1) (fun _ _ => map_same (fun _ => rfl) _) (fun _ _ _ _ => rfl)

abbrev laws_a2Atsp : List Sp := [.v false (.list (.int .u8)), .v false (.int .i64), .v false (.int .i64)]
abbrev laws_a2Atbs : List (Bs × Bool) := []
abbrev laws_a2Atrs : List (Bool × List Rp) := [(false, [.v false (.int .i64)])]
noncomputable def laws_a2Atkp : Keep := { loop := fun id => match id with | _ => ([], []), join := fun id => match id with | _ => none }
noncomputable def laws_a2Atc : Code := bodyOf Go.Proofs.Try.f51
noncomputable def laws_a2AtF (n : Nat) : Fun := { id := 51, sp := laws_a2Atsp, bs := laws_a2Atbs, rs := laws_a2Atrs, f := fun x y => laws_a2At n x.1 x.2.1 x.2.2.1 }

theorem laws_a2At_eq (n : Nat) (a0 : List (Int)) (a1 : Int) (a2 : Int) : runBody ([]) ty 22 n laws_a2Atkp laws_a2Atc Go.Proofs.Try.f51.results.toList laws_a2Atrs laws_a2Atsp laws_a2Atbs (a0, (a1, (a2, ()))) () = laws_a2At n a0 a1 a2 := by
  have h : runBody ([]) ty 22 n laws_a2Atkp laws_a2Atc Go.Proofs.Try.f51.results.toList laws_a2Atrs laws_a2Atsp laws_a2Atbs (a0, (a1, (a2, ()))) () = laws_a2At_t n a0 a1 a2 := by kernel_rfl
  rw [h]
  rfl

theorem laws_a2At_ok (n : Nat) : FunOk P (laws_a2AtF n) :=
  funOk_mk (C := []) (N := 22) (kp := laws_a2Atkp) (c := laws_a2Atc) (n := n) (G := fun x y => laws_a2At n x.1 x.2.1 x.2.2.1) follows (AllOk.mem (trivial : AllOk P ([]))) (by kernel_rfl : P.funcs[51]? = some Go.Proofs.Try.f51) (by kernel_rfl) (by kernel_rfl) (by kernel_rfl)
    (fun x y => laws_a2At_eq n x.1 x.2.1 x.2.2.1) (fun _ _ => map_same (fun _ => rfl) _) (fun _ _ _ _ => rfl)

abbrev impl_withinsp : List Sp := [.v false (.int .i64), .v false (.int .i64), .v false (.int .i64)]
abbrev impl_withinbs : List (Bs × Bool) := []
abbrev impl_withinrs : List (Bool × List Rp) := [(false, [.v false .bool])]
noncomputable def impl_withinkp : Keep := { loop := fun id => match id with | _ => ([], []), join := fun id => match id with | _ => none }
noncomputable def impl_withinc : Code := bodyOf Go.Proofs.Try.f141
noncomputable def impl_withinF (n : Nat) : Fun := { id := 141, sp := impl_withinsp, bs := impl_withinbs, rs := impl_withinrs, f := fun x y => impl_within n x.1 x.2.1 x.2.2.1 }

theorem impl_within_eq (n : Nat) (a0 : Int) (a1 : Int) (a2 : Int) : runBody ([]) ty 15 n impl_withinkp impl_withinc Go.Proofs.Try.f141.results.toList impl_withinrs impl_withinsp impl_withinbs (a0, (a1, (a2, ()))) () = impl_within n a0 a1 a2 := by
  have h : runBody ([]) ty 15 n impl_withinkp impl_withinc Go.Proofs.Try.f141.results.toList impl_withinrs impl_withinsp impl_withinbs (a0, (a1, (a2, ()))) () = impl_within_t n a0 a1 a2 := by kernel_rfl
  rw [h]
  rfl

theorem impl_within_ok (n : Nat) : FunOk P (impl_withinF n) :=
  funOk_mk (C := []) (N := 15) (kp := impl_withinkp) (c := impl_withinc) (n := n) (G := fun x y => impl_within n x.1 x.2.1 x.2.2.1) follows (AllOk.mem (trivial : AllOk P ([]))) (by kernel_rfl : P.funcs[141]? = some Go.Proofs.Try.f141) (by kernel_rfl) (by kernel_rfl) (by kernel_rfl)
    (fun x y => impl_within_eq n x.1 x.2.1 x.2.2.1) (fun _ _ => map_same (fun _ => rfl) _) (fun _ _ _ _ => rfl)

abbrev impl_ValidDisk_1sp : List Sp := [.v false (.int .i16)]
abbrev impl_ValidDisk_1bs : List (Bs × Bool) := []
abbrev impl_ValidDisk_1rs : List (Bool × List Rp) := [(false, [.v false .bool])]
noncomputable def impl_ValidDisk_1kp : Keep := { loop := fun id => match id with | _ => ([], []), join := fun id => match id with | _ => none }
noncomputable def impl_ValidDisk_1c : Code := bodyOf Go.Proofs.Try.f171
noncomputable def impl_ValidDisk_1F (n : Nat) : Fun := { id := 171, sp := impl_ValidDisk_1sp, bs := impl_ValidDisk_1bs, rs := impl_ValidDisk_1rs, f := fun x y => impl_ValidDisk_1 n x.1 }

theorem impl_ValidDisk_1_eq (n : Nat) (a0 : Int) : runBody ([impl_withinF n]) ty 7 n impl_ValidDisk_1kp impl_ValidDisk_1c Go.Proofs.Try.f171.results.toList impl_ValidDisk_1rs impl_ValidDisk_1sp impl_ValidDisk_1bs (a0, ()) () = impl_ValidDisk_1 n a0 := by
  have h : runBody ([impl_withinF n]) ty 7 n impl_ValidDisk_1kp impl_ValidDisk_1c Go.Proofs.Try.f171.results.toList impl_ValidDisk_1rs impl_ValidDisk_1sp impl_ValidDisk_1bs (a0, ()) () = impl_ValidDisk_1_t n a0 := by kernel_rfl
  rw [h]
  rfl

theorem impl_ValidDisk_1_ok (n : Nat) : FunOk P (impl_ValidDisk_1F n) :=
  funOk_mk (C := [impl_withinF n]) (N := 7) (kp := impl_ValidDisk_1kp) (c := impl_ValidDisk_1c) (n := n) (G := fun x y => impl_ValidDisk_1 n x.1) follows (AllOk.mem (⟨impl_within_ok n, trivial⟩ : AllOk P ([impl_withinF n]))) (by kernel_rfl : P.funcs[171]? = some Go.Proofs.Try.f171) (by kernel_rfl) (by kernel_rfl) (by kernel_rfl)
    (fun x y => impl_ValidDisk_1_eq n x.1) (fun _ _ => map_same (fun _ => rfl) _) (fun _ _ _ _ => rfl)

abbrev slices_IndexFunc_int16_int16_at_impl_ValidDisk_1sp : List Sp := [.v false (.list (.int .i16)), .cl 171 []]
abbrev slices_IndexFunc_int16_int16_at_impl_ValidDisk_1bs : List (Bs × Bool) := []
abbrev slices_IndexFunc_int16_int16_at_impl_ValidDisk_1rs : List (Bool × List Rp) := [(false, [.v false (.int .i64)])]
noncomputable def slices_IndexFunc_int16_int16_at_impl_ValidDisk_1kp : Keep := { loop := fun id => match id with | 2 => ([8, 0, 1, 7], []) | _ => ([], []), join := fun id => match id with | _ => none }
noncomputable def slices_IndexFunc_int16_int16_at_impl_ValidDisk_1c : Code := bodyOf Go.Proofs.Try.f242
noncomputable def slices_IndexFunc_int16_int16_at_impl_ValidDisk_1F (n : Nat) : Fun := { id := 242, sp := slices_IndexFunc_int16_int16_at_impl_ValidDisk_1sp, bs := slices_IndexFunc_int16_int16_at_impl_ValidDisk_1bs, rs := slices_IndexFunc_int16_int16_at_impl_ValidDisk_1rs, f := fun x y => slices_IndexFunc_int16_int16_at_impl_ValidDisk_1 n x.1 }

theorem slices_IndexFunc_int16_int16_at_impl_ValidDisk_1_l2_eq (n : Nat) : ∀ (k : Nat) (v8 : Int) (v0 : List (Int)) (v7 : Int), iter (interp ([impl_ValidDisk_1F n]) ty 19 0 n slices_IndexFunc_int16_int16_at_impl_ValidDisk_1kp (codeAt slices_IndexFunc_int16_int16_at_impl_ValidDisk_1c [1, 0, 1, 0, 0])) (canon 0 (slices_IndexFunc_int16_int16_at_impl_ValidDisk_1kp.loop 2)) (kAt ([impl_ValidDisk_1F n]) ty 19 0 n slices_IndexFunc_int16_int16_at_impl_ValidDisk_1kp slices_IndexFunc_int16_int16_at_impl_ValidDisk_1c [1, 0, 1, 0] [] (ending ty 0 Go.Proofs.Try.f242.results.toList slices_IndexFunc_int16_int16_at_impl_ValidDisk_1rs slices_IndexFunc_int16_int16_at_impl_ValidDisk_1bs)) k { env := [(8, .one (.sc (.int .i64 v8))), (0, .one (.list true (.int .i16) v0)), (1, .one (.clos 171 [])), (7, .one (.sc (.int .i64 v7)))], bx := [], nx := 0 } = slices_IndexFunc_int16_int16_at_impl_ValidDisk_1_l2 n k v8 v0 v7
  | 0, _, _, _ => by kernel_rfl
  | k + 1, v8, v0, v7 => by
    have h : iter (interp ([impl_ValidDisk_1F n]) ty 19 0 n slices_IndexFunc_int16_int16_at_impl_ValidDisk_1kp (codeAt slices_IndexFunc_int16_int16_at_impl_ValidDisk_1c [1, 0, 1, 0, 0])) (canon 0 (slices_IndexFunc_int16_int16_at_impl_ValidDisk_1kp.loop 2)) (kAt ([impl_ValidDisk_1F n]) ty 19 0 n slices_IndexFunc_int16_int16_at_impl_ValidDisk_1kp slices_IndexFunc_int16_int16_at_impl_ValidDisk_1c [1, 0, 1, 0] [] (ending ty 0 Go.Proofs.Try.f242.results.toList slices_IndexFunc_int16_int16_at_impl_ValidDisk_1rs slices_IndexFunc_int16_int16_at_impl_ValidDisk_1bs)) (k + 1) { env := [(8, .one (.sc (.int .i64 v8))), (0, .one (.list true (.int .i16) v0)), (1, .one (.clos 171 [])), (7, .one (.sc (.int .i64 v7)))], bx := [], nx := 0 } = slices_IndexFunc_int16_int16_at_impl_ValidDisk_1_t2 n (fun v8 v0 v7 => iter (interp ([impl_ValidDisk_1F n]) ty 19 0 n slices_IndexFunc_int16_int16_at_impl_ValidDisk_1kp (codeAt slices_IndexFunc_int16_int16_at_impl_ValidDisk_1c [1, 0, 1, 0, 0])) (canon 0 (slices_IndexFunc_int16_int16_at_impl_ValidDisk_1kp.loop 2)) (kAt ([impl_ValidDisk_1F n]) ty 19 0 n slices_IndexFunc_int16_int16_at_impl_ValidDisk_1kp slices_IndexFunc_int16_int16_at_impl_ValidDisk_1c [1, 0, 1, 0] [] (ending ty 0 Go.Proofs.Try.f242.results.toList slices_IndexFunc_int16_int16_at_impl_ValidDisk_1rs slices_IndexFunc_int16_int16_at_impl_ValidDisk_1bs)) k { env := [(8, .one (.sc (.int .i64 v8))), (0, .one (.list true (.int .i16) v0)), (1, .one (.clos 171 [])), (7, .one (.sc (.int .i64 v7)))], bx := [], nx := 0 }) v8 v0 v7 := by kernel_rfl
    rw [h]
    have e := congrArg (fun g => slices_IndexFunc_int16_int16_at_impl_ValidDisk_1_t2 n g v8 v0 v7) (funext fun v8 => funext fun v0 => funext fun v7 => slices_IndexFunc_int16_int16_at_impl_ValidDisk_1_l2_eq n k v8 v0 v7)
    exact e

theorem slices_IndexFunc_int16_int16_at_impl_ValidDisk_1_eq (n : Nat) (a0 : List (Int)) : runBody ([impl_ValidDisk_1F n]) ty 19 n slices_IndexFunc_int16_int16_at_impl_ValidDisk_1kp slices_IndexFunc_int16_int16_at_impl_ValidDisk_1c Go.Proofs.Try.f242.results.toList slices_IndexFunc_int16_int16_at_impl_ValidDisk_1rs slices_IndexFunc_int16_int16_at_impl_ValidDisk_1sp slices_IndexFunc_int16_int16_at_impl_ValidDisk_1bs (a0, ((), ())) () = slices_IndexFunc_int16_int16_at_impl_ValidDisk_1 n a0 := by
  have h : runBody ([impl_ValidDisk_1F n]) ty 19 n slices_IndexFunc_int16_int16_at_impl_ValidDisk_1kp slices_IndexFunc_int16_int16_at_impl_ValidDisk_1c Go.Proofs.Try.f242.results.toList slices_IndexFunc_int16_int16_at_impl_ValidDisk_1rs slices_IndexFunc_int16_int16_at_impl_ValidDisk_1sp slices_IndexFunc_int16_int16_at_impl_ValidDisk_1bs (a0, ((), ())) () = slices_IndexFunc_int16_int16_at_impl_ValidDisk_1_t n (fun k v8 v0 v7 => iter (interp ([impl_ValidDisk_1F n]) ty 19 0 n slices_IndexFunc_int16_int16_at_impl_ValidDisk_1kp (codeAt slices_IndexFunc_int16_int16_at_impl_ValidDisk_1c [1, 0, 1, 0, 0])) (canon 0 (slices_IndexFunc_int16_int16_at_impl_ValidDisk_1kp.loop 2)) (kAt ([impl_ValidDisk_1F n]) ty 19 0 n slices_IndexFunc_int16_int16_at_impl_ValidDisk_1kp slices_IndexFunc_int16_int16_at_impl_ValidDisk_1c [1, 0, 1, 0] [] (ending ty 0 Go.Proofs.Try.f242.results.toList slices_IndexFunc_int16_int16_at_impl_ValidDisk_1rs slices_IndexFunc_int16_int16_at_impl_ValidDisk_1bs)) k { env := [(8, .one (.sc (.int .i64 v8))), (0, .one (.list true (.int .i16) v0)), (1, .one (.clos 171 [])), (7, .one (.sc (.int .i64 v7)))], bx := [], nx := 0 }) a0 := by kernel_rfl
  rw [h]
  have e := congrArg (fun h2 => slices_IndexFunc_int16_int16_at_impl_ValidDisk_1_t n h2 a0) (funext fun k => funext fun v8 => funext fun v0 => funext fun v7 => slices_IndexFunc_int16_int16_at_impl_ValidDisk_1_l2_eq n k v8 v0 v7)
  exact e

theorem slices_IndexFunc_int16_int16_at_impl_ValidDisk_1_ok (n : Nat) : FunOk P (slices_IndexFunc_int16_int16_at_impl_ValidDisk_1F n) :=
  funOk_mk (C := [impl_ValidDisk_1F n]) (N := 19) (kp := slices_IndexFunc_int16_int16_at_impl_ValidDisk_1kp) (c := slices_IndexFunc_int16_int16_at_impl_ValidDisk_1c) (n := n) (G := fun x y => slices_IndexFunc_int16_int16_at_impl_ValidDisk_1 n x.1) follows (AllOk.mem (⟨impl_ValidDisk_1_ok n, trivial⟩ : AllOk P ([impl_ValidDisk_1F n]))) (by kernel_rfl : P.funcs[242]? = some Go.Proofs.Try.f242) (by kernel_rfl) (by kernel_rfl) (by kernel_rfl)
    (fun x y => slices_IndexFunc_int16_int16_at_impl_ValidDisk_1_eq n x.1) (fun _ _ => map_same (fun _ => rfl) _) (fun _ _ _ _ => rfl)

abbrev slices_ContainsFunc_int16_int16_at_impl_ValidDisk_1sp : List Sp := [.v false (.list (.int .i16)), .cl 171 []]
abbrev slices_ContainsFunc_int16_int16_at_impl_ValidDisk_1bs : List (Bs × Bool) := []
abbrev slices_ContainsFunc_int16_int16_at_impl_ValidDisk_1rs : List (Bool × List Rp) := [(false, [.v false .bool])]
noncomputable def slices_ContainsFunc_int16_int16_at_impl_ValidDisk_1kp : Keep := { loop := fun id => match id with | _ => ([], []), join := fun id => match id with | _ => none }
noncomputable def slices_ContainsFunc_int16_int16_at_impl_ValidDisk_1c : Code := bodyOf Go.Proofs.Try.f170
noncomputable def slices_ContainsFunc_int16_int16_at_impl_ValidDisk_1F (n : Nat) : Fun := { id := 170, sp := slices_ContainsFunc_int16_int16_at_impl_ValidDisk_1sp, bs := slices_ContainsFunc_int16_int16_at_impl_ValidDisk_1bs, rs := slices_ContainsFunc_int16_int16_at_impl_ValidDisk_1rs, f := fun x y => slices_ContainsFunc_int16_int16_at_impl_ValidDisk_1 n x.1 }

theorem slices_ContainsFunc_int16_int16_at_impl_ValidDisk_1_eq (n : Nat) (a0 : List (Int)) : runBody ([slices_IndexFunc_int16_int16_at_impl_ValidDisk_1F n]) ty 9 n slices_ContainsFunc_int16_int16_at_impl_ValidDisk_1kp slices_ContainsFunc_int16_int16_at_impl_ValidDisk_1c Go.Proofs.Try.f170.results.toList slices_ContainsFunc_int16_int16_at_impl_ValidDisk_1rs slices_ContainsFunc_int16_int16_at_impl_ValidDisk_1sp slices_ContainsFunc_int16_int16_at_impl_ValidDisk_1bs (a0, ((), ())) () = slices_ContainsFunc_int16_int16_at_impl_ValidDisk_1 n a0 := by
  have h : runBody ([slices_IndexFunc_int16_int16_at_impl_ValidDisk_1F n]) ty 9 n slices_ContainsFunc_int16_int16_at_impl_ValidDisk_1kp slices_ContainsFunc_int16_int16_at_impl_ValidDisk_1c Go.Proofs.Try.f170.results.toList slices_ContainsFunc_int16_int16_at_impl_ValidDisk_1rs slices_ContainsFunc_int16_int16_at_impl_ValidDisk_1sp slices_ContainsFunc_int16_int16_at_impl_ValidDisk_1bs (a0, ((), ())) () = slices_ContainsFunc_int16_int16_at_impl_ValidDisk_1_t n a0 := by kernel_rfl
  rw [h]
  rfl

theorem slices_ContainsFunc_int16_int16_at_impl_ValidDisk_1_ok (n : Nat) : FunOk P (slices_ContainsFunc_int16_int16_at_impl_ValidDisk_1F n) :=
  funOk_mk (C := [slices_IndexFunc_int16_int16_at_impl_ValidDisk_1F n]) (N := 9) (kp := slices_ContainsFunc_int16_int16_at_impl_ValidDisk_1kp) (c := slices_ContainsFunc_int16_int16_at_impl_ValidDisk_1c) (n := n) (G := fun x y => slices_ContainsFunc_int16_int16_at_impl_ValidDisk_1 n x.1) follows (AllOk.mem (⟨slices_IndexFunc_int16_int16_at_impl_ValidDisk_1_ok n, trivial⟩ : AllOk P ([slices_IndexFunc_int16_int16_at_impl_ValidDisk_1F n]))) (by kernel_rfl : P.funcs[170]? = some Go.Proofs.Try.f170) (by kernel_rfl) (by kernel_rfl) (by kernel_rfl)
    (fun x y => slices_ContainsFunc_int16_int16_at_impl_ValidDisk_1_eq n x.1) (fun _ _ => map_same (fun _ => rfl) _) (fun _ _ _ _ => rfl)

abbrev impl_ValidDisksp : List Sp := [.v true (.pair (.list (.int .i16)) (.pair (.int .i64) (.int .i64)))]
abbrev impl_ValidDiskbs : List (Bs × Bool) := []
abbrev impl_ValidDiskrs : List (Bool × List Rp) := [(false, [.v false .bool])]
noncomputable def impl_ValidDiskkp : Keep := { loop := fun id => match id with | _ => ([], []), join := fun id => match id with | _ => none }
noncomputable def impl_ValidDiskc : Code := bodyOf Go.Proofs.Try.f44
noncomputable def impl_ValidDiskF (n : Nat) : Fun := { id := 44, sp := impl_ValidDisksp, bs := impl_ValidDiskbs, rs := impl_ValidDiskrs, f := fun x y => impl_ValidDisk n x.1 }

theorem impl_ValidDisk_eq (n : Nat) (a0 : (List (Int)) × ((Int) × (Int))) : runBody ([impl_withinF n, slices_ContainsFunc_int16_int16_at_impl_ValidDisk_1F n]) ty 30 n impl_ValidDiskkp impl_ValidDiskc Go.Proofs.Try.f44.results.toList impl_ValidDiskrs impl_ValidDisksp impl_ValidDiskbs (a0, ()) () = impl_ValidDisk n a0 := by
  have h : runBody ([impl_withinF n, slices_ContainsFunc_int16_int16_at_impl_ValidDisk_1F n]) ty 30 n impl_ValidDiskkp impl_ValidDiskc Go.Proofs.Try.f44.results.toList impl_ValidDiskrs impl_ValidDisksp impl_ValidDiskbs (a0, ()) () = impl_ValidDisk_t n a0 := by kernel_rfl
  rw [h]
  rfl

theorem impl_ValidDisk_ok (n : Nat) : FunOk P (impl_ValidDiskF n) :=
  funOk_mk (C := [impl_withinF n, slices_ContainsFunc_int16_int16_at_impl_ValidDisk_1F n]) (N := 30) (kp := impl_ValidDiskkp) (c := impl_ValidDiskc) (n := n) (G := fun x y => impl_ValidDisk n x.1) follows (AllOk.mem (⟨impl_within_ok n, ⟨slices_ContainsFunc_int16_int16_at_impl_ValidDisk_1_ok n, trivial⟩⟩ : AllOk P ([impl_withinF n, slices_ContainsFunc_int16_int16_at_impl_ValidDisk_1F n]))) (by kernel_rfl : P.funcs[44]? = some Go.Proofs.Try.f44) (by kernel_rfl) (by kernel_rfl) (by kernel_rfl)
    (fun x y => impl_ValidDisk_eq n x.1) (fun _ _ => map_same (fun _ => rfl) _) (fun _ _ _ _ => rfl)

abbrev impl_isAnglesp : List Sp := [.v false (.int .i64)]
abbrev impl_isAnglebs : List (Bs × Bool) := []
abbrev impl_isAnglers : List (Bool × List Rp) := [(false, [.v false .bool])]
noncomputable def impl_isAnglekp : Keep := { loop := fun id => match id with | _ => ([], []), join := fun id => match id with | _ => none }
noncomputable def impl_isAnglec : Code := bodyOf Go.Proofs.Try.f163
noncomputable def impl_isAngleF (n : Nat) : Fun := { id := 163, sp := impl_isAnglesp, bs := impl_isAnglebs, rs := impl_isAnglers, f := fun x y => impl_isAngle n x.1 }

theorem impl_isAngle_eq (n : Nat) (a0 : Int) : runBody ([impl_withinF n]) ty 5 n impl_isAnglekp impl_isAnglec Go.Proofs.Try.f163.results.toList impl_isAnglers impl_isAnglesp impl_isAnglebs (a0, ()) () = impl_isAngle n a0 := by
  have h : runBody ([impl_withinF n]) ty 5 n impl_isAnglekp impl_isAnglec Go.Proofs.Try.f163.results.toList impl_isAnglers impl_isAnglesp impl_isAnglebs (a0, ()) () = impl_isAngle_t n a0 := by kernel_rfl
  rw [h]
  rfl

theorem impl_isAngle_ok (n : Nat) : FunOk P (impl_isAngleF n) :=
  funOk_mk (C := [impl_withinF n]) (N := 5) (kp := impl_isAnglekp) (c := impl_isAnglec) (n := n) (G := fun x y => impl_isAngle n x.1) follows (AllOk.mem (⟨impl_within_ok n, trivial⟩ : AllOk P ([impl_withinF n]))) (by kernel_rfl : P.funcs[163]? = some Go.Proofs.Try.f163) (by kernel_rfl) (by kernel_rfl) (by kernel_rfl)
    (fun x y => impl_isAngle_eq n x.1) (fun _ _ => map_same (fun _ => rfl) _) (fun _ _ _ _ => rfl)

abbrev impl_headCode_1sp : List Sp := [.v false (.int .i64)]
abbrev impl_headCode_1bs : List (Bs × Bool) := []
abbrev impl_headCode_1rs : List (Bool × List Rp) := [(false, [.v false .bool])]
noncomputable def impl_headCode_1kp : Keep := { loop := fun id => match id with | _ => ([], []), join := fun id => match id with | _ => none }
noncomputable def impl_headCode_1c : Code := bodyOf Go.Proofs.Try.f240
noncomputable def impl_headCode_1F (n : Nat) : Fun := { id := 240, sp := impl_headCode_1sp, bs := impl_headCode_1bs, rs := impl_headCode_1rs, f := fun x y => impl_headCode_1 n x.1 }

theorem impl_headCode_1_eq (n : Nat) (a0 : Int) : runBody ([impl_isAngleF n]) ty 6 n impl_headCode_1kp impl_headCode_1c Go.Proofs.Try.f240.results.toList impl_headCode_1rs impl_headCode_1sp impl_headCode_1bs (a0, ()) () = impl_headCode_1 n a0 := by
  have h : runBody ([impl_isAngleF n]) ty 6 n impl_headCode_1kp impl_headCode_1c Go.Proofs.Try.f240.results.toList impl_headCode_1rs impl_headCode_1sp impl_headCode_1bs (a0, ()) () = impl_headCode_1_t n a0 := by kernel_rfl
  rw [h]
  rfl

theorem impl_headCode_1_ok (n : Nat) : FunOk P (impl_headCode_1F n) :=
  funOk_mk (C := [impl_isAngleF n]) (N := 6) (kp := impl_headCode_1kp) (c := impl_headCode_1c) (n := n) (G := fun x y => impl_headCode_1 n x.1) follows (AllOk.mem (⟨impl_isAngle_ok n, trivial⟩ : AllOk P ([impl_isAngleF n]))) (by kernel_rfl : P.funcs[240]? = some Go.Proofs.Try.f240) (by kernel_rfl) (by kernel_rfl) (by kernel_rfl)
    (fun x y => impl_headCode_1_eq n x.1) (fun _ _ => map_same (fun _ => rfl) _) (fun _ _ _ _ => rfl)

abbrev slices_IndexFunc_int64_int64_at_impl_headCode_1sp : List Sp := [.v false (.list (.int .i64)), .cl 240 []]
abbrev slices_IndexFunc_int64_int64_at_impl_headCode_1bs : List (Bs × Bool) := []
abbrev slices_IndexFunc_int64_int64_at_impl_headCode_1rs : List (Bool × List Rp) := [(false, [.v false (.int .i64)])]
noncomputable def slices_IndexFunc_int64_int64_at_impl_headCode_1kp : Keep := { loop := fun id => match id with | 2 => ([8, 0, 1, 7], []) | _ => ([], []), join := fun id => match id with | _ => none }
noncomputable def slices_IndexFunc_int64_int64_at_impl_headCode_1c : Code := bodyOf Go.Proofs.Try.f247
noncomputable def slices_IndexFunc_int64_int64_at_impl_headCode_1F (n : Nat) : Fun := { id := 247, sp := slices_IndexFunc_int64_int64_at_impl_headCode_1sp, bs := slices_IndexFunc_int64_int64_at_impl_headCode_1bs, rs := slices_IndexFunc_int64_int64_at_impl_headCode_1rs, f := fun x y => slices_IndexFunc_int64_int64_at_impl_headCode_1 n x.1 }

theorem slices_IndexFunc_int64_int64_at_impl_headCode_1_l2_eq (n : Nat) : ∀ (k : Nat) (v8 : Int) (v0 : List (Int)) (v7 : Int), iter (interp ([impl_headCode_1F n]) ty 19 0 n slices_IndexFunc_int64_int64_at_impl_headCode_1kp (codeAt slices_IndexFunc_int64_int64_at_impl_headCode_1c [1, 0, 1, 0, 0])) (canon 0 (slices_IndexFunc_int64_int64_at_impl_headCode_1kp.loop 2)) (kAt ([impl_headCode_1F n]) ty 19 0 n slices_IndexFunc_int64_int64_at_impl_headCode_1kp slices_IndexFunc_int64_int64_at_impl_headCode_1c [1, 0, 1, 0] [] (ending ty 0 Go.Proofs.Try.f247.results.toList slices_IndexFunc_int64_int64_at_impl_headCode_1rs slices_IndexFunc_int64_int64_at_impl_headCode_1bs)) k { env := [(8, .one (.sc (.int .i64 v8))), (0, .one (.list true (.int .i64) v0)), (1, .one (.clos 240 [])), (7, .one (.sc (.int .i64 v7)))], bx := [], nx := 0 } = slices_IndexFunc_int64_int64_at_impl_headCode_1_l2 n k v8 v0 v7
  | 0, _, _, _ => by kernel_rfl
  | k + 1, v8, v0, v7 => by
    have h : iter (interp ([impl_headCode_1F n]) ty 19 0 n slices_IndexFunc_int64_int64_at_impl_headCode_1kp (codeAt slices_IndexFunc_int64_int64_at_impl_headCode_1c [1, 0, 1, 0, 0])) (canon 0 (slices_IndexFunc_int64_int64_at_impl_headCode_1kp.loop 2)) (kAt ([impl_headCode_1F n]) ty 19 0 n slices_IndexFunc_int64_int64_at_impl_headCode_1kp slices_IndexFunc_int64_int64_at_impl_headCode_1c [1, 0, 1, 0] [] (ending ty 0 Go.Proofs.Try.f247.results.toList slices_IndexFunc_int64_int64_at_impl_headCode_1rs slices_IndexFunc_int64_int64_at_impl_headCode_1bs)) (k + 1) { env := [(8, .one (.sc (.int .i64 v8))), (0, .one (.list true (.int .i64) v0)), (1, .one (.clos 240 [])), (7, .one (.sc (.int .i64 v7)))], bx := [], nx := 0 } = slices_IndexFunc_int64_int64_at_impl_headCode_1_t2 n (fun v8 v0 v7 => iter (interp ([impl_headCode_1F n]) ty 19 0 n slices_IndexFunc_int64_int64_at_impl_headCode_1kp (codeAt slices_IndexFunc_int64_int64_at_impl_headCode_1c [1, 0, 1, 0, 0])) (canon 0 (slices_IndexFunc_int64_int64_at_impl_headCode_1kp.loop 2)) (kAt ([impl_headCode_1F n]) ty 19 0 n slices_IndexFunc_int64_int64_at_impl_headCode_1kp slices_IndexFunc_int64_int64_at_impl_headCode_1c [1, 0, 1, 0] [] (ending ty 0 Go.Proofs.Try.f247.results.toList slices_IndexFunc_int64_int64_at_impl_headCode_1rs slices_IndexFunc_int64_int64_at_impl_headCode_1bs)) k { env := [(8, .one (.sc (.int .i64 v8))), (0, .one (.list true (.int .i64) v0)), (1, .one (.clos 240 [])), (7, .one (.sc (.int .i64 v7)))], bx := [], nx := 0 }) v8 v0 v7 := by kernel_rfl
    rw [h]
    have e := congrArg (fun g => slices_IndexFunc_int64_int64_at_impl_headCode_1_t2 n g v8 v0 v7) (funext fun v8 => funext fun v0 => funext fun v7 => slices_IndexFunc_int64_int64_at_impl_headCode_1_l2_eq n k v8 v0 v7)
    exact e

theorem slices_IndexFunc_int64_int64_at_impl_headCode_1_eq (n : Nat) (a0 : List (Int)) : runBody ([impl_headCode_1F n]) ty 19 n slices_IndexFunc_int64_int64_at_impl_headCode_1kp slices_IndexFunc_int64_int64_at_impl_headCode_1c Go.Proofs.Try.f247.results.toList slices_IndexFunc_int64_int64_at_impl_headCode_1rs slices_IndexFunc_int64_int64_at_impl_headCode_1sp slices_IndexFunc_int64_int64_at_impl_headCode_1bs (a0, ((), ())) () = slices_IndexFunc_int64_int64_at_impl_headCode_1 n a0 := by
  have h : runBody ([impl_headCode_1F n]) ty 19 n slices_IndexFunc_int64_int64_at_impl_headCode_1kp slices_IndexFunc_int64_int64_at_impl_headCode_1c Go.Proofs.Try.f247.results.toList slices_IndexFunc_int64_int64_at_impl_headCode_1rs slices_IndexFunc_int64_int64_at_impl_headCode_1sp slices_IndexFunc_int64_int64_at_impl_headCode_1bs (a0, ((), ())) () = slices_IndexFunc_int64_int64_at_impl_headCode_1_t n (fun k v8 v0 v7 => iter (interp ([impl_headCode_1F n]) ty 19 0 n slices_IndexFunc_int64_int64_at_impl_headCode_1kp (codeAt slices_IndexFunc_int64_int64_at_impl_headCode_1c [1, 0, 1, 0, 0])) (canon 0 (slices_IndexFunc_int64_int64_at_impl_headCode_1kp.loop 2)) (kAt ([impl_headCode_1F n]) ty 19 0 n slices_IndexFunc_int64_int64_at_impl_headCode_1kp slices_IndexFunc_int64_int64_at_impl_headCode_1c [1, 0, 1, 0] [] (ending ty 0 Go.Proofs.Try.f247.results.toList slices_IndexFunc_int64_int64_at_impl_headCode_1rs slices_IndexFunc_int64_int64_at_impl_headCode_1bs)) k { env := [(8, .one (.sc (.int .i64 v8))), (0, .one (.list true (.int .i64) v0)), (1, .one (.clos 240 [])), (7, .one (.sc (.int .i64 v7)))], bx := [], nx := 0 }) a0 := by kernel_rfl
  rw [h]
  have e := congrArg (fun h2 => slices_IndexFunc_int64_int64_at_impl_headCode_1_t n h2 a0) (funext fun k => funext fun v8 => funext fun v0 => funext fun v7 => slices_IndexFunc_int64_int64_at_impl_headCode_1_l2_eq n k v8 v0 v7)
  exact e

theorem slices_IndexFunc_int64_int64_at_impl_headCode_1_ok (n : Nat) : FunOk P (slices_IndexFunc_int64_int64_at_impl_headCode_1F n) :=
  funOk_mk (C := [impl_headCode_1F n]) (N := 19) (kp := slices_IndexFunc_int64_int64_at_impl_headCode_1kp) (c := slices_IndexFunc_int64_int64_at_impl_headCode_1c) (n := n) (G := fun x y => slices_IndexFunc_int64_int64_at_impl_headCode_1 n x.1) follows (AllOk.mem (⟨impl_headCode_1_ok n, trivial⟩ : AllOk P ([impl_headCode_1F n]))) (by kernel_rfl : P.funcs[247]? = some Go.Proofs.Try.f247) (by kernel_rfl) (by kernel_rfl) (by kernel_rfl)
    (fun x y => slices_IndexFunc_int64_int64_at_impl_headCode_1_eq n x.1) (fun _ _ => map_same (fun _ => rfl) _) (fun _ _ _ _ => rfl)

abbrev slices_ContainsFunc_int64_int64_at_impl_headCode_1sp : List Sp := [.v false (.list (.int .i64)), .cl 240 []]
abbrev slices_ContainsFunc_int64_int64_at_impl_headCode_1bs : List (Bs × Bool) := []
abbrev slices_ContainsFunc_int64_int64_at_impl_headCode_1rs : List (Bool × List Rp) := [(false, [.v false .bool])]
noncomputable def slices_ContainsFunc_int64_int64_at_impl_headCode_1kp : Keep := { loop := fun id => match id with | _ => ([], []), join := fun id => match id with | _ => none }
noncomputable def slices_ContainsFunc_int64_int64_at_impl_headCode_1c : Code := bodyOf Go.Proofs.Try.f194
noncomputable def slices_ContainsFunc_int64_int64_at_impl_headCode_1F (n : Nat) : Fun := { id := 194, sp := slices_ContainsFunc_int64_int64_at_impl_headCode_1sp, bs := slices_ContainsFunc_int64_int64_at_impl_headCode_1bs, rs := slices_ContainsFunc_int64_int64_at_impl_headCode_1rs, f := fun x y => slices_ContainsFunc_int64_int64_at_impl_headCode_1 n x.1 }

theorem slices_ContainsFunc_int64_int64_at_impl_headCode_1_eq (n : Nat) (a0 : List (Int)) : runBody ([slices_IndexFunc_int64_int64_at_impl_headCode_1F n]) ty 9 n slices_ContainsFunc_int64_int64_at_impl_headCode_1kp slices_ContainsFunc_int64_int64_at_impl_headCode_1c Go.Proofs.Try.f194.results.toList slices_ContainsFunc_int64_int64_at_impl_headCode_1rs slices_ContainsFunc_int64_int64_at_impl_headCode_1sp slices_ContainsFunc_int64_int64_at_impl_headCode_1bs (a0, ((), ())) () = slices_ContainsFunc_int64_int64_at_impl_headCode_1 n a0 := by
  have h : runBody ([slices_IndexFunc_int64_int64_at_impl_headCode_1F n]) ty 9 n slices_ContainsFunc_int64_int64_at_impl_headCode_1kp slices_ContainsFunc_int64_int64_at_impl_headCode_1c Go.Proofs.Try.f194.results.toList slices_ContainsFunc_int64_int64_at_impl_headCode_1rs slices_ContainsFunc_int64_int64_at_impl_headCode_1sp slices_ContainsFunc_int64_int64_at_impl_headCode_1bs (a0, ((), ())) () = slices_ContainsFunc_int64_int64_at_impl_headCode_1_t n a0 := by kernel_rfl
  rw [h]
  rfl

theorem slices_ContainsFunc_int64_int64_at_impl_headCode_1_ok (n : Nat) : FunOk P (slices_ContainsFunc_int64_int64_at_impl_headCode_1F n) :=
  funOk_mk (C := [slices_IndexFunc_int64_int64_at_impl_headCode_1F n]) (N := 9) (kp := slices_ContainsFunc_int64_int64_at_impl_headCode_1kp) (c := slices_ContainsFunc_int64_int64_at_impl_headCode_1c) (n := n) (G := fun x y => slices_ContainsFunc_int64_int64_at_impl_headCode_1 n x.1) follows (AllOk.mem (⟨slices_IndexFunc_int64_int64_at_impl_headCode_1_ok n, trivial⟩ : AllOk P ([slices_IndexFunc_int64_int64_at_impl_headCode_1F n]))) (by kernel_rfl : P.funcs[194]? = some Go.Proofs.Try.f194) (by kernel_rfl) (by kernel_rfl) (by kernel_rfl)
    (fun x y => slices_ContainsFunc_int64_int64_at_impl_headCode_1_eq n x.1) (fun _ _ => map_same (fun _ => rfl) _) (fun _ _ _ _ => rfl)

abbrev impl_headCodesp : List Sp := [.v true (.pair (.list (.int .i16)) (.pair (.int .i64) (.int .i64))), .v false (.int .i64), .v false (.list (.int .i64))]
abbrev impl_headCodebs : List (Bs × Bool) := []
abbrev impl_headCoders : List (Bool × List Rp) := [(false, [.v false (.int .i64)])]
noncomputable def impl_headCodekp : Keep := { loop := fun id => match id with | _ => ([], []), join := fun id => match id with | _ => none }
noncomputable def impl_headCodec : Code := bodyOf Go.Proofs.Try.f153
noncomputable def impl_headCodeF (n : Nat) : Fun := { id := 153, sp := impl_headCodesp, bs := impl_headCodebs, rs := impl_headCoders, f := fun x y => impl_headCode n x.1 x.2.1 x.2.2.1 }

theorem impl_headCode_eq (n : Nat) (a0 : (List (Int)) × ((Int) × (Int))) (a1 : Int) (a2 : List (Int)) : runBody ([impl_ValidDiskF n, slices_ContainsFunc_int64_int64_at_impl_headCode_1F n, impl_withinF n]) ty 19 n impl_headCodekp impl_headCodec Go.Proofs.Try.f153.results.toList impl_headCoders impl_headCodesp impl_headCodebs (a0, (a1, (a2, ()))) () = impl_headCode n a0 a1 a2 := by
  have h : runBody ([impl_ValidDiskF n, slices_ContainsFunc_int64_int64_at_impl_headCode_1F n, impl_withinF n]) ty 19 n impl_headCodekp impl_headCodec Go.Proofs.Try.f153.results.toList impl_headCoders impl_headCodesp impl_headCodebs (a0, (a1, (a2, ()))) () = impl_headCode_t n a0 a1 a2 := by kernel_rfl
  rw [h]
  rfl

theorem impl_headCode_ok (n : Nat) : FunOk P (impl_headCodeF n) :=
  funOk_mk (C := [impl_ValidDiskF n, slices_ContainsFunc_int64_int64_at_impl_headCode_1F n, impl_withinF n]) (N := 19) (kp := impl_headCodekp) (c := impl_headCodec) (n := n) (G := fun x y => impl_headCode n x.1 x.2.1 x.2.2.1) follows (AllOk.mem (⟨impl_ValidDisk_ok n, ⟨slices_ContainsFunc_int64_int64_at_impl_headCode_1_ok n, ⟨impl_within_ok n, trivial⟩⟩⟩ : AllOk P ([impl_ValidDiskF n, slices_ContainsFunc_int64_int64_at_impl_headCode_1F n, impl_withinF n]))) (by kernel_rfl : P.funcs[153]? = some Go.Proofs.Try.f153) (by kernel_rfl) (by kernel_rfl) (by kernel_rfl)
    (fun x y => impl_headCode_eq n x.1 x.2.1 x.2.2.1) (fun _ _ => map_same (fun _ => rfl) _) (fun _ _ _ _ => rfl)

abbrev impl_faultAtsp : List Sp := [.v true (.pair (.list (.int .i16)) (.pair (.int .i64) (.int .i64))), .v false (.int .i64)]
abbrev impl_faultAtbs : List (Bs × Bool) := []
abbrev impl_faultAtrs : List (Bool × List Rp) := [(false, [.v false (.int .i64)]), (false, [.v false (.int .i64)])]
noncomputable def impl_faultAtkp : Keep := { loop := fun id => match id with | _ => ([], []), join := fun id => match id with | _ => none }
noncomputable def impl_faultAtc : Code := bodyOf Go.Proofs.Try.f166
noncomputable def impl_faultAtF (n : Nat) : Fun := { id := 166, sp := impl_faultAtsp, bs := impl_faultAtbs, rs := impl_faultAtrs, f := fun x y => impl_faultAt n x.1 x.2.1 }

theorem impl_faultAt_eq (n : Nat) (a0 : (List (Int)) × ((Int) × (Int))) (a1 : Int) : runBody ([]) ty 46 n impl_faultAtkp impl_faultAtc Go.Proofs.Try.f166.results.toList impl_faultAtrs impl_faultAtsp impl_faultAtbs (a0, (a1, ())) () = impl_faultAt n a0 a1 := by
  have h : runBody ([]) ty 46 n impl_faultAtkp impl_faultAtc Go.Proofs.Try.f166.results.toList impl_faultAtrs impl_faultAtsp impl_faultAtbs (a0, (a1, ())) () = impl_faultAt_t n a0 a1 := by kernel_rfl
  rw [h]
  rfl

theorem impl_faultAt_ok (n : Nat) : FunOk P (impl_faultAtF n) :=
  funOk_mk (C := []) (N := 46) (kp := impl_faultAtkp) (c := impl_faultAtc) (n := n) (G := fun x y => impl_faultAt n x.1 x.2.1) follows (AllOk.mem (trivial : AllOk P ([]))) (by kernel_rfl : P.funcs[166]? = some Go.Proofs.Try.f166) (by kernel_rfl) (by kernel_rfl) (by kernel_rfl)
    (fun x y => impl_faultAt_eq n x.1 x.2.1) (fun _ _ => map_same (fun _ => rfl) _) (fun _ _ _ _ => rfl)

abbrev impl_swingsp : List Sp := [.v false (.int .i64)]
abbrev impl_swingbs : List (Bs × Bool) := []
abbrev impl_swingrs : List (Bool × List Rp) := [(false, [.v false (.int .i64)])]
noncomputable def impl_swingkp : Keep := { loop := fun id => match id with | _ => ([], []), join := fun id => match id with | _ => none }
noncomputable def impl_swingc : Code := bodyOf Go.Proofs.Try.f243
noncomputable def impl_swingF (n : Nat) : Fun := { id := 243, sp := impl_swingsp, bs := impl_swingbs, rs := impl_swingrs, f := fun x y => impl_swing n x.1 }

theorem impl_swing_eq (n : Nat) (a0 : Int) : runBody ([]) ty 14 n impl_swingkp impl_swingc Go.Proofs.Try.f243.results.toList impl_swingrs impl_swingsp impl_swingbs (a0, ()) () = impl_swing n a0 := by
  have h : runBody ([]) ty 14 n impl_swingkp impl_swingc Go.Proofs.Try.f243.results.toList impl_swingrs impl_swingsp impl_swingbs (a0, ()) () = impl_swing_t n a0 := by kernel_rfl
  rw [h]
  rfl

theorem impl_swing_ok (n : Nat) : FunOk P (impl_swingF n) :=
  funOk_mk (C := []) (N := 14) (kp := impl_swingkp) (c := impl_swingc) (n := n) (G := fun x y => impl_swing n x.1) follows (AllOk.mem (trivial : AllOk P ([]))) (by kernel_rfl : P.funcs[243]? = some Go.Proofs.Try.f243) (by kernel_rfl) (by kernel_rfl) (by kernel_rfl)
    (fun x y => impl_swing_eq n x.1) (fun _ _ => map_same (fun _ => rfl) _) (fun _ _ _ _ => rfl)

abbrev impl_wrapsp : List Sp := [.v false (.int .i64)]
abbrev impl_wrapbs : List (Bs × Bool) := []
abbrev impl_wraprs : List (Bool × List Rp) := [(false, [.v false (.int .i64)])]
noncomputable def impl_wrapkp : Keep := { loop := fun id => match id with | _ => ([], []), join := fun id => match id with | _ => none }
noncomputable def impl_wrapc : Code := bodyOf Go.Proofs.Try.f156
noncomputable def impl_wrapF (n : Nat) : Fun := { id := 156, sp := impl_wrapsp, bs := impl_wrapbs, rs := impl_wraprs, f := fun x y => impl_wrap n x.1 }

theorem impl_wrap_eq (n : Nat) (a0 : Int) : runBody ([]) ty 7 n impl_wrapkp impl_wrapc Go.Proofs.Try.f156.results.toList impl_wraprs impl_wrapsp impl_wrapbs (a0, ()) () = impl_wrap n a0 := by
  have h : runBody ([]) ty 7 n impl_wrapkp impl_wrapc Go.Proofs.Try.f156.results.toList impl_wraprs impl_wrapsp impl_wrapbs (a0, ()) () = impl_wrap_t n a0 := by kernel_rfl
  rw [h]
  rfl

theorem impl_wrap_ok (n : Nat) : FunOk P (impl_wrapF n) :=
  funOk_mk (C := []) (N := 7) (kp := impl_wrapkp) (c := impl_wrapc) (n := n) (G := fun x y => impl_wrap n x.1) follows (AllOk.mem (trivial : AllOk P ([]))) (by kernel_rfl : P.funcs[156]? = some Go.Proofs.Try.f156) (by kernel_rfl) (by kernel_rfl) (by kernel_rfl)
    (fun x y => impl_wrap_eq n x.1) (fun _ _ => map_same (fun _ => rfl) _) (fun _ _ _ _ => rfl)

abbrev impl_swingAtsp : List Sp := [.v true (.pair (.list (.int .i16)) (.pair (.int .i64) (.int .i64))), .v false (.int .i64)]
abbrev impl_swingAtbs : List (Bs × Bool) := []
abbrev impl_swingAtrs : List (Bool × List Rp) := [(false, [.v false (.int .i64)]), (false, [.v false (.int .i64)])]
noncomputable def impl_swingAtkp : Keep := { loop := fun id => match id with | _ => ([], []), join := fun id => match id with | _ => none }
noncomputable def impl_swingAtc : Code := bodyOf Go.Proofs.Try.f173
noncomputable def impl_swingAtF (n : Nat) : Fun := { id := 173, sp := impl_swingAtsp, bs := impl_swingAtbs, rs := impl_swingAtrs, f := fun x y => impl_swingAt n x.1 x.2.1 }

theorem impl_swingAt_eq (n : Nat) (a0 : (List (Int)) × ((Int) × (Int))) (a1 : Int) : runBody ([impl_swingF n, impl_wrapF n]) ty 19 n impl_swingAtkp impl_swingAtc Go.Proofs.Try.f173.results.toList impl_swingAtrs impl_swingAtsp impl_swingAtbs (a0, (a1, ())) () = impl_swingAt n a0 a1 := by
  have h : runBody ([impl_swingF n, impl_wrapF n]) ty 19 n impl_swingAtkp impl_swingAtc Go.Proofs.Try.f173.results.toList impl_swingAtrs impl_swingAtsp impl_swingAtbs (a0, (a1, ())) () = impl_swingAt_t n a0 a1 := by kernel_rfl
  rw [h]
  rfl

theorem impl_swingAt_ok (n : Nat) : FunOk P (impl_swingAtF n) :=
  funOk_mk (C := [impl_swingF n, impl_wrapF n]) (N := 19) (kp := impl_swingAtkp) (c := impl_swingAtc) (n := n) (G := fun x y => impl_swingAt n x.1 x.2.1) follows (AllOk.mem (⟨impl_swing_ok n, ⟨impl_wrap_ok n, trivial⟩⟩ : AllOk P ([impl_swingF n, impl_wrapF n]))) (by kernel_rfl : P.funcs[173]? = some Go.Proofs.Try.f173) (by kernel_rfl) (by kernel_rfl) (by kernel_rfl)
    (fun x y => impl_swingAt_eq n x.1 x.2.1) (fun _ _ => map_same (fun _ => rfl) _) (fun _ _ _ _ => rfl)

abbrev impl_floorDivsp : List Sp := [.v false (.int .i64), .v false (.int .i64)]
abbrev impl_floorDivbs : List (Bs × Bool) := []
abbrev impl_floorDivrs : List (Bool × List Rp) := [(false, [.v false (.int .i64)])]
noncomputable def impl_floorDivkp : Keep := { loop := fun id => match id with | _ => ([], []), join := fun id => match id with | _ => none }
noncomputable def impl_floorDivc : Code := bodyOf Go.Proofs.Try.f150
noncomputable def impl_floorDivF (n : Nat) : Fun := { id := 150, sp := impl_floorDivsp, bs := impl_floorDivbs, rs := impl_floorDivrs, f := fun x y => impl_floorDiv n x.1 x.2.1 }

theorem impl_floorDiv_eq (n : Nat) (a0 : Int) (a1 : Int) : runBody ([]) ty 23 n impl_floorDivkp impl_floorDivc Go.Proofs.Try.f150.results.toList impl_floorDivrs impl_floorDivsp impl_floorDivbs (a0, (a1, ())) () = impl_floorDiv n a0 a1 := by
  have h : runBody ([]) ty 23 n impl_floorDivkp impl_floorDivc Go.Proofs.Try.f150.results.toList impl_floorDivrs impl_floorDivsp impl_floorDivbs (a0, (a1, ())) () = impl_floorDiv_t n a0 a1 := by kernel_rfl
  rw [h]
  rfl

theorem impl_floorDiv_ok (n : Nat) : FunOk P (impl_floorDivF n) :=
  funOk_mk (C := []) (N := 23) (kp := impl_floorDivkp) (c := impl_floorDivc) (n := n) (G := fun x y => impl_floorDiv n x.1 x.2.1) follows (AllOk.mem (trivial : AllOk P ([]))) (by kernel_rfl : P.funcs[150]? = some Go.Proofs.Try.f150) (by kernel_rfl) (by kernel_rfl) (by kernel_rfl)
    (fun x y => impl_floorDiv_eq n x.1 x.2.1) (fun _ _ => map_same (fun _ => rfl) _) (fun _ _ _ _ => rfl)

abbrev impl_nearestsp : List Sp := [.v false (.int .i64), .v false (.int .i64)]
abbrev impl_nearestbs : List (Bs × Bool) := []
abbrev impl_nearestrs : List (Bool × List Rp) := [(false, [.v false (.int .i64)]), (false, [.v false .bool])]
noncomputable def impl_nearestkp : Keep := { loop := fun id => match id with | _ => ([], []), join := fun id => match id with | _ => none }
noncomputable def impl_nearestc : Code := bodyOf Go.Proofs.Try.f209
noncomputable def impl_nearestF (n : Nat) : Fun := { id := 209, sp := impl_nearestsp, bs := impl_nearestbs, rs := impl_nearestrs, f := fun x y => impl_nearest n x.1 x.2.1 }

theorem impl_nearest_eq (n : Nat) (a0 : Int) (a1 : Int) : runBody ([impl_floorDivF n, impl_withinF n]) ty 17 n impl_nearestkp impl_nearestc Go.Proofs.Try.f209.results.toList impl_nearestrs impl_nearestsp impl_nearestbs (a0, (a1, ())) () = impl_nearest n a0 a1 := by
  have h : runBody ([impl_floorDivF n, impl_withinF n]) ty 17 n impl_nearestkp impl_nearestc Go.Proofs.Try.f209.results.toList impl_nearestrs impl_nearestsp impl_nearestbs (a0, (a1, ())) () = impl_nearest_t n a0 a1 := by kernel_rfl
  rw [h]
  rfl

theorem impl_nearest_ok (n : Nat) : FunOk P (impl_nearestF n) :=
  funOk_mk (C := [impl_floorDivF n, impl_withinF n]) (N := 17) (kp := impl_nearestkp) (c := impl_nearestc) (n := n) (G := fun x y => impl_nearest n x.1 x.2.1) follows (AllOk.mem (⟨impl_floorDiv_ok n, ⟨impl_within_ok n, trivial⟩⟩ : AllOk P ([impl_floorDivF n, impl_withinF n]))) (by kernel_rfl : P.funcs[209]? = some Go.Proofs.Try.f209) (by kernel_rfl) (by kernel_rfl) (by kernel_rfl)
    (fun x y => impl_nearest_eq n x.1 x.2.1) (fun _ _ => map_same (fun _ => rfl) _) (fun _ _ _ _ => rfl)

abbrev impl_headsp : List Sp := [.v true (.pair (.list (.int .i16)) (.pair (.int .i64) (.int .i64))), .v false (.int .i64), .v false (.int .i64)]
abbrev impl_headbs : List (Bs × Bool) := []
abbrev impl_headrs : List (Bool × List Rp) := [(false, [.v false (.int .i64)])]
noncomputable def impl_headkp : Keep := { loop := fun id => match id with | _ => ([], []), join := fun id => match id with | _ => none }
noncomputable def impl_headc : Code := bodyOf Go.Proofs.Try.f155
noncomputable def impl_headF (n : Nat) : Fun := { id := 155, sp := impl_headsp, bs := impl_headbs, rs := impl_headrs, f := fun x y => impl_head n x.1 x.2.1 x.2.2.1 }

theorem impl_head_eq (n : Nat) (a0 : (List (Int)) × ((Int) × (Int))) (a1 : Int) (a2 : Int) : runBody ([impl_faultAtF n, impl_swingAtF n, impl_nearestF n, impl_wrapF n]) ty 51 n impl_headkp impl_headc Go.Proofs.Try.f155.results.toList impl_headrs impl_headsp impl_headbs (a0, (a1, (a2, ()))) () = impl_head n a0 a1 a2 := by
  have h : runBody ([impl_faultAtF n, impl_swingAtF n, impl_nearestF n, impl_wrapF n]) ty 51 n impl_headkp impl_headc Go.Proofs.Try.f155.results.toList impl_headrs impl_headsp impl_headbs (a0, (a1, (a2, ()))) () = impl_head_t n a0 a1 a2 := by kernel_rfl
  rw [h]
  rfl

theorem impl_head_ok (n : Nat) : FunOk P (impl_headF n) :=
  funOk_mk (C := [impl_faultAtF n, impl_swingAtF n, impl_nearestF n, impl_wrapF n]) (N := 51) (kp := impl_headkp) (c := impl_headc) (n := n) (G := fun x y => impl_head n x.1 x.2.1 x.2.2.1) follows (AllOk.mem (⟨impl_faultAt_ok n, ⟨impl_swingAt_ok n, ⟨impl_nearest_ok n, ⟨impl_wrap_ok n, trivial⟩⟩⟩⟩ : AllOk P ([impl_faultAtF n, impl_swingAtF n, impl_nearestF n, impl_wrapF n]))) (by kernel_rfl : P.funcs[155]? = some Go.Proofs.Try.f155) (by kernel_rfl) (by kernel_rfl) (by kernel_rfl)
    (fun x y => impl_head_eq n x.1 x.2.1 x.2.2.1) (fun _ _ => map_same (fun _ => rfl) _) (fun _ _ _ _ => rfl)

abbrev impl_turnFromsp : List Sp := [.v false (.int .i64), .v false (.int .i64)]
abbrev impl_turnFrombs : List (Bs × Bool) := []
abbrev impl_turnFromrs : List (Bool × List Rp) := [(false, [.v false (.int .i64)])]
noncomputable def impl_turnFromkp : Keep := { loop := fun id => match id with | _ => ([], []), join := fun id => match id with | _ => none }
noncomputable def impl_turnFromc : Code := bodyOf Go.Proofs.Try.f154
noncomputable def impl_turnFromF (n : Nat) : Fun := { id := 154, sp := impl_turnFromsp, bs := impl_turnFrombs, rs := impl_turnFromrs, f := fun x y => impl_turnFrom n x.1 x.2.1 }

theorem impl_turnFrom_eq (n : Nat) (a0 : Int) (a1 : Int) : runBody ([impl_wrapF n]) ty 15 n impl_turnFromkp impl_turnFromc Go.Proofs.Try.f154.results.toList impl_turnFromrs impl_turnFromsp impl_turnFrombs (a0, (a1, ())) () = impl_turnFrom n a0 a1 := by
  have h : runBody ([impl_wrapF n]) ty 15 n impl_turnFromkp impl_turnFromc Go.Proofs.Try.f154.results.toList impl_turnFromrs impl_turnFromsp impl_turnFrombs (a0, (a1, ())) () = impl_turnFrom_t n a0 a1 := by kernel_rfl
  rw [h]
  rfl

theorem impl_turnFrom_ok (n : Nat) : FunOk P (impl_turnFromF n) :=
  funOk_mk (C := [impl_wrapF n]) (N := 15) (kp := impl_turnFromkp) (c := impl_turnFromc) (n := n) (G := fun x y => impl_turnFrom n x.1 x.2.1) follows (AllOk.mem (⟨impl_wrap_ok n, trivial⟩ : AllOk P ([impl_wrapF n]))) (by kernel_rfl : P.funcs[154]? = some Go.Proofs.Try.f154) (by kernel_rfl) (by kernel_rfl) (by kernel_rfl)
    (fun x y => impl_turnFrom_eq n x.1 x.2.1) (fun _ _ => map_same (fun _ => rfl) _) (fun _ _ _ _ => rfl)

abbrev impl_repeatsp : List Sp := [.v true (.pair (.list (.int .i16)) (.pair (.int .i64) (.int .i64))), .v false (.int .i64), .v false (.int .i64), .v false (.int .i64), .v false (.int .i64)]
abbrev impl_repeatbs : List (Bs × Bool) := []
abbrev impl_repeatrs : List (Bool × List Rp) := [(false, [.v false (.int .i64)]), (false, [.v false (.int .i64)])]
noncomputable def impl_repeatkp : Keep := { loop := fun id => match id with | _ => ([], []), join := fun id => match id with | _ => none }
noncomputable def impl_repeatc : Code := bodyOf Go.Proofs.Try.f176
noncomputable def impl_repeatF (n : Nat) : Fun := { id := 176, sp := impl_repeatsp, bs := impl_repeatbs, rs := impl_repeatrs, f := fun x y => impl_repeat n x.1 x.2.1 x.2.2.1 x.2.2.2.1 x.2.2.2.2.1 }

theorem impl_repeat_eq (n : Nat) (a0 : (List (Int)) × ((Int) × (Int))) (a1 : Int) (a2 : Int) (a3 : Int) (a4 : Int) : runBody ([impl_headF n, impl_wrapF n, impl_turnFromF n, impl_floorDivF n]) ty 41 n impl_repeatkp impl_repeatc Go.Proofs.Try.f176.results.toList impl_repeatrs impl_repeatsp impl_repeatbs (a0, (a1, (a2, (a3, (a4, ()))))) () = impl_repeat n a0 a1 a2 a3 a4 := by
  have h : runBody ([impl_headF n, impl_wrapF n, impl_turnFromF n, impl_floorDivF n]) ty 41 n impl_repeatkp impl_repeatc Go.Proofs.Try.f176.results.toList impl_repeatrs impl_repeatsp impl_repeatbs (a0, (a1, (a2, (a3, (a4, ()))))) () = impl_repeat_t n a0 a1 a2 a3 a4 := by kernel_rfl
  rw [h]
  rfl

theorem impl_repeat_ok (n : Nat) : FunOk P (impl_repeatF n) :=
  funOk_mk (C := [impl_headF n, impl_wrapF n, impl_turnFromF n, impl_floorDivF n]) (N := 41) (kp := impl_repeatkp) (c := impl_repeatc) (n := n) (G := fun x y => impl_repeat n x.1 x.2.1 x.2.2.1 x.2.2.2.1 x.2.2.2.2.1) follows (AllOk.mem (⟨impl_head_ok n, ⟨impl_wrap_ok n, ⟨impl_turnFrom_ok n, ⟨impl_floorDiv_ok n, trivial⟩⟩⟩⟩ : AllOk P ([impl_headF n, impl_wrapF n, impl_turnFromF n, impl_floorDivF n]))) (by kernel_rfl : P.funcs[176]? = some Go.Proofs.Try.f176) (by kernel_rfl) (by kernel_rfl) (by kernel_rfl)
    (fun x y => impl_repeat_eq n x.1 x.2.1 x.2.2.1 x.2.2.2.1 x.2.2.2.2.1) (fun _ _ => map_same (fun _ => rfl) _) (fun _ _ _ _ => rfl)

abbrev impl_gcdsp : List Sp := [.v false (.int .i64), .v false (.int .i64)]
abbrev impl_gcdbs : List (Bs × Bool) := []
abbrev impl_gcdrs : List (Bool × List Rp) := [(false, [.v false (.int .i64)])]
noncomputable def impl_gcdkp : Keep := { loop := fun id => match id with | 1 => ([1, 0], []) | _ => ([], []), join := fun id => match id with | _ => none }
noncomputable def impl_gcdc : Code := bodyOf Go.Proofs.Try.f245
noncomputable def impl_gcdF (n : Nat) : Fun := { id := 245, sp := impl_gcdsp, bs := impl_gcdbs, rs := impl_gcdrs, f := fun x y => impl_gcd n x.1 x.2.1 }

theorem impl_gcd_l1_eq (n : Nat) : ∀ (k : Nat) (v1 : Int) (v0 : Int), iter (interp ([]) ty 15 0 n impl_gcdkp (codeAt impl_gcdc [1, 0, 0, 0])) (canon 0 (impl_gcdkp.loop 1)) (kAt ([]) ty 15 0 n impl_gcdkp impl_gcdc [1, 0, 0] [] (ending ty 0 Go.Proofs.Try.f245.results.toList impl_gcdrs impl_gcdbs)) k { env := [(1, .one (.sc (.int .i64 v1))), (0, .one (.sc (.int .i64 v0)))], bx := [], nx := 0 } = impl_gcd_l1 n k v1 v0
  | 0, _, _ => by kernel_rfl
  | k + 1, v1, v0 => by
    have h : iter (interp ([]) ty 15 0 n impl_gcdkp (codeAt impl_gcdc [1, 0, 0, 0])) (canon 0 (impl_gcdkp.loop 1)) (kAt ([]) ty 15 0 n impl_gcdkp impl_gcdc [1, 0, 0] [] (ending ty 0 Go.Proofs.Try.f245.results.toList impl_gcdrs impl_gcdbs)) (k + 1) { env := [(1, .one (.sc (.int .i64 v1))), (0, .one (.sc (.int .i64 v0)))], bx := [], nx := 0 } = impl_gcd_t1 n (fun v1 v0 => iter (interp ([]) ty 15 0 n impl_gcdkp (codeAt impl_gcdc [1, 0, 0, 0])) (canon 0 (impl_gcdkp.loop 1)) (kAt ([]) ty 15 0 n impl_gcdkp impl_gcdc [1, 0, 0] [] (ending ty 0 Go.Proofs.Try.f245.results.toList impl_gcdrs impl_gcdbs)) k { env := [(1, .one (.sc (.int .i64 v1))), (0, .one (.sc (.int .i64 v0)))], bx := [], nx := 0 }) v1 v0 := by kernel_rfl
    rw [h]
    have e := congrArg (fun g => impl_gcd_t1 n g v1 v0) (funext fun v1 => funext fun v0 => impl_gcd_l1_eq n k v1 v0)
    exact e

theorem impl_gcd_eq (n : Nat) (a0 : Int) (a1 : Int) : runBody ([]) ty 15 n impl_gcdkp impl_gcdc Go.Proofs.Try.f245.results.toList impl_gcdrs impl_gcdsp impl_gcdbs (a0, (a1, ())) () = impl_gcd n a0 a1 := by
  have h : runBody ([]) ty 15 n impl_gcdkp impl_gcdc Go.Proofs.Try.f245.results.toList impl_gcdrs impl_gcdsp impl_gcdbs (a0, (a1, ())) () = impl_gcd_t n (fun k v1 v0 => iter (interp ([]) ty 15 0 n impl_gcdkp (codeAt impl_gcdc [1, 0, 0, 0])) (canon 0 (impl_gcdkp.loop 1)) (kAt ([]) ty 15 0 n impl_gcdkp impl_gcdc [1, 0, 0] [] (ending ty 0 Go.Proofs.Try.f245.results.toList impl_gcdrs impl_gcdbs)) k { env := [(1, .one (.sc (.int .i64 v1))), (0, .one (.sc (.int .i64 v0)))], bx := [], nx := 0 }) a0 a1 := by kernel_rfl
  rw [h]
  have e := congrArg (fun h1 => impl_gcd_t n h1 a0 a1) (funext fun k => funext fun v1 => funext fun v0 => impl_gcd_l1_eq n k v1 v0)
  exact e

theorem impl_gcd_ok (n : Nat) : FunOk P (impl_gcdF n) :=
  funOk_mk (C := []) (N := 15) (kp := impl_gcdkp) (c := impl_gcdc) (n := n) (G := fun x y => impl_gcd n x.1 x.2.1) follows (AllOk.mem (trivial : AllOk P ([]))) (by kernel_rfl : P.funcs[245]? = some Go.Proofs.Try.f245) (by kernel_rfl) (by kernel_rfl) (by kernel_rfl)
    (fun x y => impl_gcd_eq n x.1 x.2.1) (fun _ _ => map_same (fun _ => rfl) _) (fun _ _ _ _ => rfl)

abbrev impl_ValidFracsp : List Sp := [.v true (.pair (.int .i64) (.int .i64))]
abbrev impl_ValidFracbs : List (Bs × Bool) := []
abbrev impl_ValidFracrs : List (Bool × List Rp) := [(false, [.v false .bool])]
noncomputable def impl_ValidFrackp : Keep := { loop := fun id => match id with | _ => ([], []), join := fun id => match id with | _ => none }
noncomputable def impl_ValidFracc : Code := bodyOf Go.Proofs.Try.f184
noncomputable def impl_ValidFracF (n : Nat) : Fun := { id := 184, sp := impl_ValidFracsp, bs := impl_ValidFracbs, rs := impl_ValidFracrs, f := fun x y => impl_ValidFrac n x.1 }

theorem impl_ValidFrac_eq (n : Nat) (a0 : (Int) × (Int)) : runBody ([impl_withinF n, impl_gcdF n]) ty 19 n impl_ValidFrackp impl_ValidFracc Go.Proofs.Try.f184.results.toList impl_ValidFracrs impl_ValidFracsp impl_ValidFracbs (a0, ()) () = impl_ValidFrac n a0 := by
  have h : runBody ([impl_withinF n, impl_gcdF n]) ty 19 n impl_ValidFrackp impl_ValidFracc Go.Proofs.Try.f184.results.toList impl_ValidFracrs impl_ValidFracsp impl_ValidFracbs (a0, ()) () = impl_ValidFrac_t n a0 := by kernel_rfl
  rw [h]
  rfl

theorem impl_ValidFrac_ok (n : Nat) : FunOk P (impl_ValidFracF n) :=
  funOk_mk (C := [impl_withinF n, impl_gcdF n]) (N := 19) (kp := impl_ValidFrackp) (c := impl_ValidFracc) (n := n) (G := fun x y => impl_ValidFrac n x.1) follows (AllOk.mem (⟨impl_within_ok n, ⟨impl_gcd_ok n, trivial⟩⟩ : AllOk P ([impl_withinF n, impl_gcdF n]))) (by kernel_rfl : P.funcs[184]? = some Go.Proofs.Try.f184) (by kernel_rfl) (by kernel_rfl) (by kernel_rfl)
    (fun x y => impl_ValidFrac_eq n x.1) (fun _ _ => map_same (fun _ => rfl) _) (fun _ _ _ _ => rfl)

abbrev impl_fracOfsp : List Sp := [.v false (.int .i64), .v false (.int .i64)]
abbrev impl_fracOfbs : List (Bs × Bool) := []
abbrev impl_fracOfrs : List (Bool × List Rp) := [(true, [.v false (.pair (.int .i64) (.int .i64))]), (false, [.v false .bool])]
noncomputable def impl_fracOfkp : Keep := { loop := fun id => match id with | _ => ([], []), join := fun id => match id with | _ => none }
noncomputable def impl_fracOfc : Code := bodyOf Go.Proofs.Try.f177
noncomputable def impl_fracOfF (n : Nat) : Fun := { id := 177, sp := impl_fracOfsp, bs := impl_fracOfbs, rs := impl_fracOfrs, f := fun x y => impl_fracOf n x.1 x.2.1 }

theorem impl_fracOf_eq (n : Nat) (a0 : Int) (a1 : Int) : runBody ([impl_gcdF n, impl_ValidFracF n]) ty 29 n impl_fracOfkp impl_fracOfc Go.Proofs.Try.f177.results.toList impl_fracOfrs impl_fracOfsp impl_fracOfbs (a0, (a1, ())) () = impl_fracOf n a0 a1 := by
  have h : runBody ([impl_gcdF n, impl_ValidFracF n]) ty 29 n impl_fracOfkp impl_fracOfc Go.Proofs.Try.f177.results.toList impl_fracOfrs impl_fracOfsp impl_fracOfbs (a0, (a1, ())) () = impl_fracOf_t n a0 a1 := by kernel_rfl
  rw [h]
  rfl

theorem impl_fracOf_ok (n : Nat) : FunOk P (impl_fracOfF n) :=
  funOk_mk (C := [impl_gcdF n, impl_ValidFracF n]) (N := 29) (kp := impl_fracOfkp) (c := impl_fracOfc) (n := n) (G := fun x y => impl_fracOf n x.1 x.2.1) follows (AllOk.mem (⟨impl_gcd_ok n, ⟨impl_ValidFrac_ok n, trivial⟩⟩ : AllOk P ([impl_gcdF n, impl_ValidFracF n]))) (by kernel_rfl : P.funcs[177]? = some Go.Proofs.Try.f177) (by kernel_rfl) (by kernel_rfl) (by kernel_rfl)
    (fun x y => impl_fracOf_eq n x.1 x.2.1) (fun _ _ => map_same (fun _ => rfl) _) (fun _ _ _ _ => rfl)

abbrev impl_RepeatAnglesp : List Sp := [.v true (.pair (.list (.int .i16)) (.pair (.int .i64) (.int .i64))), .v false (.int .i64), .v false (.int .i64), .v false (.int .i64), .v false (.int .i64)]
abbrev impl_RepeatAnglebs : List (Bs × Bool) := []
abbrev impl_RepeatAnglers : List (Bool × List Rp) := [(true, [.v false (.pair (.int .i64) (.int .i64))]), (false, [.v false (.int .i64)]), (false, [.v false (.int .i64)])]
noncomputable def impl_RepeatAnglekp : Keep := { loop := fun id => match id with | _ => ([], []), join := fun id => match id with | _ => none }
noncomputable def impl_RepeatAnglec : Code := bodyOf Go.Proofs.Try.f52
noncomputable def impl_RepeatAngleF (n : Nat) : Fun := { id := 52, sp := impl_RepeatAnglesp, bs := impl_RepeatAnglebs, rs := impl_RepeatAnglers, f := fun x y => impl_RepeatAngle n x.1 x.2.1 x.2.2.1 x.2.2.2.1 x.2.2.2.2.1 }

theorem impl_RepeatAngle_eq (n : Nat) (a0 : (List (Int)) × ((Int) × (Int))) (a1 : Int) (a2 : Int) (a3 : Int) (a4 : Int) : runBody ([impl_headCodeF n, impl_withinF n, impl_repeatF n, impl_fracOfF n]) ty 55 n impl_RepeatAnglekp impl_RepeatAnglec Go.Proofs.Try.f52.results.toList impl_RepeatAnglers impl_RepeatAnglesp impl_RepeatAnglebs (a0, (a1, (a2, (a3, (a4, ()))))) () = impl_RepeatAngle n a0 a1 a2 a3 a4 := by
  have h : runBody ([impl_headCodeF n, impl_withinF n, impl_repeatF n, impl_fracOfF n]) ty 55 n impl_RepeatAnglekp impl_RepeatAnglec Go.Proofs.Try.f52.results.toList impl_RepeatAnglers impl_RepeatAnglesp impl_RepeatAnglebs (a0, (a1, (a2, (a3, (a4, ()))))) () = impl_RepeatAngle_t n a0 a1 a2 a3 a4 := by kernel_rfl
  rw [h]
  rfl

theorem impl_RepeatAngle_ok (n : Nat) : FunOk P (impl_RepeatAngleF n) :=
  funOk_mk (C := [impl_headCodeF n, impl_withinF n, impl_repeatF n, impl_fracOfF n]) (N := 55) (kp := impl_RepeatAnglekp) (c := impl_RepeatAnglec) (n := n) (G := fun x y => impl_RepeatAngle n x.1 x.2.1 x.2.2.1 x.2.2.2.1 x.2.2.2.2.1) follows (AllOk.mem (⟨impl_headCode_ok n, ⟨impl_within_ok n, ⟨impl_repeat_ok n, ⟨impl_fracOf_ok n, trivial⟩⟩⟩⟩ : AllOk P ([impl_headCodeF n, impl_withinF n, impl_repeatF n, impl_fracOfF n]))) (by kernel_rfl : P.funcs[52]? = some Go.Proofs.Try.f52) (by kernel_rfl) (by kernel_rfl) (by kernel_rfl)
    (fun x y => impl_RepeatAngle_eq n x.1 x.2.1 x.2.2.1 x.2.2.2.1 x.2.2.2.2.1) (fun _ _ => map_same (fun _ => rfl) _) (fun _ _ _ _ => rfl)

abbrev spec_l00Insp : List Sp := [.v false (.int .i64), .v false (.int .i64), .v false (.int .i64)]
abbrev spec_l00Inbs : List (Bs × Bool) := []
abbrev spec_l00Inrs : List (Bool × List Rp) := [(false, [.v false .bool])]
noncomputable def spec_l00Inkp : Keep := { loop := fun id => match id with | _ => ([], []), join := fun id => match id with | _ => none }
noncomputable def spec_l00Inc : Code := bodyOf Go.Proofs.Try.f128
noncomputable def spec_l00InF (n : Nat) : Fun := { id := 128, sp := spec_l00Insp, bs := spec_l00Inbs, rs := spec_l00Inrs, f := fun x y => spec_l00In n x.1 x.2.1 x.2.2.1 }

theorem spec_l00In_eq (n : Nat) (a0 : Int) (a1 : Int) (a2 : Int) : runBody ([]) ty 15 n spec_l00Inkp spec_l00Inc Go.Proofs.Try.f128.results.toList spec_l00Inrs spec_l00Insp spec_l00Inbs (a0, (a1, (a2, ()))) () = spec_l00In n a0 a1 a2 := by
  have h : runBody ([]) ty 15 n spec_l00Inkp spec_l00Inc Go.Proofs.Try.f128.results.toList spec_l00Inrs spec_l00Insp spec_l00Inbs (a0, (a1, (a2, ()))) () = spec_l00In_t n a0 a1 a2 := by kernel_rfl
  rw [h]
  rfl

theorem spec_l00In_ok (n : Nat) : FunOk P (spec_l00InF n) :=
  funOk_mk (C := []) (N := 15) (kp := spec_l00Inkp) (c := spec_l00Inc) (n := n) (G := fun x y => spec_l00In n x.1 x.2.1 x.2.2.1) follows (AllOk.mem (trivial : AllOk P ([]))) (by kernel_rfl : P.funcs[128]? = some Go.Proofs.Try.f128) (by kernel_rfl) (by kernel_rfl) (by kernel_rfl)
    (fun x y => spec_l00In_eq n x.1 x.2.1 x.2.2.1) (fun _ _ => map_same (fun _ => rfl) _) (fun _ _ _ _ => rfl)

abbrev spec_l03Oksp : List Sp := [.ref 0]
abbrev spec_l03Okbs : List (Bs × Bool) := [(.var 62 (.pair (.list (.int .i16)) (.pair (.int .i64) (.int .i64))), true)]
abbrev spec_l03Okrs : List (Bool × List Rp) := [(false, [.v false .bool])]
noncomputable def spec_l03Okkp : Keep := { loop := fun id => match id with | 5 => ([4, 0], []) | _ => ([], []), join := fun id => match id with | _ => none }
noncomputable def spec_l03Okc : Code := bodyOf Go.Proofs.Try.f158
noncomputable def spec_l03OkF (n : Nat) : Fun := { id := 158, sp := spec_l03Oksp, bs := spec_l03Okbs, rs := spec_l03Okrs, f := fun x y => spec_l03Ok n y.1 }

theorem spec_l03Ok_l5_eq (n : Nat) : ∀ (k : Nat) (v4 : Int) (b0_0 : List (Int)) (b0_1 : Int) (b0_2 : Int), iter (interp ([spec_l00InF n]) ty 49 1 n spec_l03Okkp (codeAt spec_l03Okc [1, 1, 1, 0, 1, 0, 0])) (canon 1 (spec_l03Okkp.loop 5)) (kAt ([spec_l00InF n]) ty 49 1 n spec_l03Okkp spec_l03Okc [1, 1, 1, 0, 1, 0] [] (ending ty 1 Go.Proofs.Try.f158.results.toList spec_l03Okrs spec_l03Okbs)) k { env := [(4, .one (.sc (.int .i64 v4))), (0, .one (.ref 0 0 0 0 0 0))], bx := [(0, .var 62 [.list true (.int .i16) b0_0, .sc (.int .i64 b0_1), .sc (.int .i64 b0_2)])], nx := 1 } = spec_l03Ok_l5 n k v4 b0_0 b0_1 b0_2
  | 0, _, _, _, _ => by kernel_rfl
  | k + 1, v4, b0_0, b0_1, b0_2 => by
    have h : iter (interp ([spec_l00InF n]) ty 49 1 n spec_l03Okkp (codeAt spec_l03Okc [1, 1, 1, 0, 1, 0, 0])) (canon 1 (spec_l03Okkp.loop 5)) (kAt ([spec_l00InF n]) ty 49 1 n spec_l03Okkp spec_l03Okc [1, 1, 1, 0, 1, 0] [] (ending ty 1 Go.Proofs.Try.f158.results.toList spec_l03Okrs spec_l03Okbs)) (k + 1) { env := [(4, .one (.sc (.int .i64 v4))), (0, .one (.ref 0 0 0 0 0 0))], bx := [(0, .var 62 [.list true (.int .i16) b0_0, .sc (.int .i64 b0_1), .sc (.int .i64 b0_2)])], nx := 1 } = spec_l03Ok_t5 n (fun v4 b0_0 b0_1 b0_2 => iter (interp ([spec_l00InF n]) ty 49 1 n spec_l03Okkp (codeAt spec_l03Okc [1, 1, 1, 0, 1, 0, 0])) (canon 1 (spec_l03Okkp.loop 5)) (kAt ([spec_l00InF n]) ty 49 1 n spec_l03Okkp spec_l03Okc [1, 1, 1, 0, 1, 0] [] (ending ty 1 Go.Proofs.Try.f158.results.toList spec_l03Okrs spec_l03Okbs)) k { env := [(4, .one (.sc (.int .i64 v4))), (0, .one (.ref 0 0 0 0 0 0))], bx := [(0, .var 62 [.list true (.int .i16) b0_0, .sc (.int .i64 b0_1), .sc (.int .i64 b0_2)])], nx := 1 }) v4 b0_0 b0_1 b0_2 := by kernel_rfl
    rw [h]
    have e := congrArg (fun g => spec_l03Ok_t5 n g v4 b0_0 b0_1 b0_2) (funext fun v4 => funext fun b0_0 => funext fun b0_1 => funext fun b0_2 => spec_l03Ok_l5_eq n k v4 b0_0 b0_1 b0_2)
    exact e

theorem spec_l03Ok_eq (n : Nat) (b0 : (List (Int)) × ((Int) × (Int))) : runBody ([spec_l00InF n]) ty 49 n spec_l03Okkp spec_l03Okc Go.Proofs.Try.f158.results.toList spec_l03Okrs spec_l03Oksp spec_l03Okbs ((), ()) (b0, ()) = spec_l03Ok n b0 := by
  have h : runBody ([spec_l00InF n]) ty 49 n spec_l03Okkp spec_l03Okc Go.Proofs.Try.f158.results.toList spec_l03Okrs spec_l03Oksp spec_l03Okbs ((), ()) (b0, ()) = spec_l03Ok_t n (fun k v4 b0_0 b0_1 b0_2 => iter (interp ([spec_l00InF n]) ty 49 1 n spec_l03Okkp (codeAt spec_l03Okc [1, 1, 1, 0, 1, 0, 0])) (canon 1 (spec_l03Okkp.loop 5)) (kAt ([spec_l00InF n]) ty 49 1 n spec_l03Okkp spec_l03Okc [1, 1, 1, 0, 1, 0] [] (ending ty 1 Go.Proofs.Try.f158.results.toList spec_l03Okrs spec_l03Okbs)) k { env := [(4, .one (.sc (.int .i64 v4))), (0, .one (.ref 0 0 0 0 0 0))], bx := [(0, .var 62 [.list true (.int .i16) b0_0, .sc (.int .i64 b0_1), .sc (.int .i64 b0_2)])], nx := 1 }) b0 := by kernel_rfl
  rw [h]
  have e := congrArg (fun h5 => spec_l03Ok_t n h5 b0) (funext fun k => funext fun v4 => funext fun b0_0 => funext fun b0_1 => funext fun b0_2 => spec_l03Ok_l5_eq n k v4 b0_0 b0_1 b0_2)
  exact e

theorem spec_l03Ok_ok (n : Nat) : FunOk P (spec_l03OkF n) :=
  funOk_mk (C := [spec_l00InF n]) (N := 49) (kp := spec_l03Okkp) (c := spec_l03Okc) (n := n) (G := fun x y => spec_l03Ok n y.1) follows (AllOk.mem (⟨spec_l00In_ok n, trivial⟩ : AllOk P ([spec_l00InF n]))) (by kernel_rfl : P.funcs[158]? = some Go.Proofs.Try.f158) (by kernel_rfl) (by kernel_rfl) (by kernel_rfl)
    (fun x y => spec_l03Ok_eq n y.1) (fun _ _ => map_same (fun _ => rfl) _) (fun _ _ _ _ => rfl)

abbrev spec_l03Anglesp : List Sp := [.v false (.int .i64)]
abbrev spec_l03Anglebs : List (Bs × Bool) := []
abbrev spec_l03Anglers : List (Bool × List Rp) := [(false, [.v false .bool])]
noncomputable def spec_l03Anglekp : Keep := { loop := fun id => match id with | _ => ([], []), join := fun id => match id with | _ => none }
noncomputable def spec_l03Anglec : Code := bodyOf Go.Proofs.Try.f182
noncomputable def spec_l03AngleF (n : Nat) : Fun := { id := 182, sp := spec_l03Anglesp, bs := spec_l03Anglebs, rs := spec_l03Anglers, f := fun x y => spec_l03Angle n x.1 }

theorem spec_l03Angle_eq (n : Nat) (a0 : Int) : runBody ([spec_l00InF n]) ty 5 n spec_l03Anglekp spec_l03Anglec Go.Proofs.Try.f182.results.toList spec_l03Anglers spec_l03Anglesp spec_l03Anglebs (a0, ()) () = spec_l03Angle n a0 := by
  have h : runBody ([spec_l00InF n]) ty 5 n spec_l03Anglekp spec_l03Anglec Go.Proofs.Try.f182.results.toList spec_l03Anglers spec_l03Anglesp spec_l03Anglebs (a0, ()) () = spec_l03Angle_t n a0 := by kernel_rfl
  rw [h]
  rfl

theorem spec_l03Angle_ok (n : Nat) : FunOk P (spec_l03AngleF n) :=
  funOk_mk (C := [spec_l00InF n]) (N := 5) (kp := spec_l03Anglekp) (c := spec_l03Anglec) (n := n) (G := fun x y => spec_l03Angle n x.1) follows (AllOk.mem (⟨spec_l00In_ok n, trivial⟩ : AllOk P ([spec_l00InF n]))) (by kernel_rfl : P.funcs[182]? = some Go.Proofs.Try.f182) (by kernel_rfl) (by kernel_rfl) (by kernel_rfl)
    (fun x y => spec_l03Angle_eq n x.1) (fun _ _ => map_same (fun _ => rfl) _) (fun _ _ _ _ => rfl)

abbrev spec_l03Repeatedsp : List Sp := [.ref 0, .v false (.int .i64), .v false (.int .i64), .v false (.int .i64), .v false (.int .i64)]
abbrev spec_l03Repeatedbs : List (Bs × Bool) := [(.var 62 (.pair (.list (.int .i16)) (.pair (.int .i64) (.int .i64))), true)]
abbrev spec_l03Repeatedrs : List (Bool × List Rp) := [(false, [.v false (.int .i64)])]
noncomputable def spec_l03Repeatedkp : Keep := { loop := fun id => match id with | _ => ([], []), join := fun id => match id with | _ => none }
noncomputable def spec_l03Repeatedc : Code := bodyOf Go.Proofs.Try.f178
noncomputable def spec_l03RepeatedF (n : Nat) : Fun := { id := 178, sp := spec_l03Repeatedsp, bs := spec_l03Repeatedbs, rs := spec_l03Repeatedrs, f := fun x y => spec_l03Repeated n x.2.1 x.2.2.1 x.2.2.2.1 x.2.2.2.2.1 y.1 }

theorem spec_l03Repeated_eq (n : Nat) (a1 : Int) (a2 : Int) (a3 : Int) (a4 : Int) (b0 : (List (Int)) × ((Int) × (Int))) : runBody ([spec_l03OkF n, spec_l03AngleF n, spec_l00InF n]) ty 32 n spec_l03Repeatedkp spec_l03Repeatedc Go.Proofs.Try.f178.results.toList spec_l03Repeatedrs spec_l03Repeatedsp spec_l03Repeatedbs ((), (a1, (a2, (a3, (a4, ()))))) (b0, ()) = spec_l03Repeated n a1 a2 a3 a4 b0 := by
  have h : runBody ([spec_l03OkF n, spec_l03AngleF n, spec_l00InF n]) ty 32 n spec_l03Repeatedkp spec_l03Repeatedc Go.Proofs.Try.f178.results.toList spec_l03Repeatedrs spec_l03Repeatedsp spec_l03Repeatedbs ((), (a1, (a2, (a3, (a4, ()))))) (b0, ()) = spec_l03Repeated_t n a1 a2 a3 a4 b0 := by kernel_rfl
  rw [h]
  rfl

theorem spec_l03Repeated_ok (n : Nat) : FunOk P (spec_l03RepeatedF n) :=
  funOk_mk (C := [spec_l03OkF n, spec_l03AngleF n, spec_l00InF n]) (N := 32) (kp := spec_l03Repeatedkp) (c := spec_l03Repeatedc) (n := n) (G := fun x y => spec_l03Repeated n x.2.1 x.2.2.1 x.2.2.2.1 x.2.2.2.2.1 y.1) follows (AllOk.mem (⟨spec_l03Ok_ok n, ⟨spec_l03Angle_ok n, ⟨spec_l00In_ok n, trivial⟩⟩⟩ : AllOk P ([spec_l03OkF n, spec_l03AngleF n, spec_l00InF n]))) (by kernel_rfl : P.funcs[178]? = some Go.Proofs.Try.f178) (by kernel_rfl) (by kernel_rfl) (by kernel_rfl)
    (fun x y => spec_l03Repeated_eq n x.2.1 x.2.2.1 x.2.2.2.1 x.2.2.2.2.1 y.1) (fun _ _ => map_same (fun _ => rfl) _) (fun _ _ _ _ => rfl)

abbrev spec_l03Faultsp : List Sp := [.ref 0, .v false (.int .i64)]
abbrev spec_l03Faultbs : List (Bs × Bool) := [(.var 62 (.pair (.list (.int .i16)) (.pair (.int .i64) (.int .i64))), true)]
abbrev spec_l03Faultrs : List (Bool × List Rp) := [(false, [.v false (.int .i64)]), (false, [.v false (.int .i64)])]
noncomputable def spec_l03Faultkp : Keep := { loop := fun id => match id with | _ => ([], []), join := fun id => match id with | _ => none }
noncomputable def spec_l03Faultc : Code := bodyOf Go.Proofs.Try.f168
noncomputable def spec_l03FaultF (n : Nat) : Fun := { id := 168, sp := spec_l03Faultsp, bs := spec_l03Faultbs, rs := spec_l03Faultrs, f := fun x y => spec_l03Fault n x.2.1 y.1 }

theorem spec_l03Fault_eq (n : Nat) (a1 : Int) (b0 : (List (Int)) × ((Int) × (Int))) : runBody ([]) ty 54 n spec_l03Faultkp spec_l03Faultc Go.Proofs.Try.f168.results.toList spec_l03Faultrs spec_l03Faultsp spec_l03Faultbs ((), (a1, ())) (b0, ()) = spec_l03Fault n a1 b0 := by
  have h : runBody ([]) ty 54 n spec_l03Faultkp spec_l03Faultc Go.Proofs.Try.f168.results.toList spec_l03Faultrs spec_l03Faultsp spec_l03Faultbs ((), (a1, ())) (b0, ()) = spec_l03Fault_t n a1 b0 := by kernel_rfl
  rw [h]
  rfl

theorem spec_l03Fault_ok (n : Nat) : FunOk P (spec_l03FaultF n) :=
  funOk_mk (C := []) (N := 54) (kp := spec_l03Faultkp) (c := spec_l03Faultc) (n := n) (G := fun x y => spec_l03Fault n x.2.1 y.1) follows (AllOk.mem (trivial : AllOk P ([]))) (by kernel_rfl : P.funcs[168]? = some Go.Proofs.Try.f168) (by kernel_rfl) (by kernel_rfl) (by kernel_rfl)
    (fun x y => spec_l03Fault_eq n x.2.1 y.1) (fun _ _ => map_same (fun _ => rfl) _) (fun _ _ _ _ => rfl)

abbrev spec_l03Swingsp : List Sp := [.v false (.int .i64)]
abbrev spec_l03Swingbs : List (Bs × Bool) := []
abbrev spec_l03Swingrs : List (Bool × List Rp) := [(false, [.v false (.int .i64)])]
noncomputable def spec_l03Swingkp : Keep := { loop := fun id => match id with | _ => ([], []), join := fun id => match id with | _ => none }
noncomputable def spec_l03Swingc : Code := bodyOf Go.Proofs.Try.f244
noncomputable def spec_l03SwingF (n : Nat) : Fun := { id := 244, sp := spec_l03Swingsp, bs := spec_l03Swingbs, rs := spec_l03Swingrs, f := fun x y => spec_l03Swing n x.1 }

theorem spec_l03Swing_eq (n : Nat) (a0 : Int) : runBody ([]) ty 12 n spec_l03Swingkp spec_l03Swingc Go.Proofs.Try.f244.results.toList spec_l03Swingrs spec_l03Swingsp spec_l03Swingbs (a0, ()) () = spec_l03Swing n a0 := by
  have h : runBody ([]) ty 12 n spec_l03Swingkp spec_l03Swingc Go.Proofs.Try.f244.results.toList spec_l03Swingrs spec_l03Swingsp spec_l03Swingbs (a0, ()) () = spec_l03Swing_t n a0 := by kernel_rfl
  rw [h]
  rfl

theorem spec_l03Swing_ok (n : Nat) : FunOk P (spec_l03SwingF n) :=
  funOk_mk (C := []) (N := 12) (kp := spec_l03Swingkp) (c := spec_l03Swingc) (n := n) (G := fun x y => spec_l03Swing n x.1) follows (AllOk.mem (trivial : AllOk P ([]))) (by kernel_rfl : P.funcs[244]? = some Go.Proofs.Try.f244) (by kernel_rfl) (by kernel_rfl) (by kernel_rfl)
    (fun x y => spec_l03Swing_eq n x.1) (fun _ _ => map_same (fun _ => rfl) _) (fun _ _ _ _ => rfl)

abbrev spec_l03Offsp : List Sp := [.ref 0, .v false (.int .i64)]
abbrev spec_l03Offbs : List (Bs × Bool) := [(.var 62 (.pair (.list (.int .i16)) (.pair (.int .i64) (.int .i64))), true)]
abbrev spec_l03Offrs : List (Bool × List Rp) := [(false, [.v false (.int .i64)])]
noncomputable def spec_l03Offkp : Keep := { loop := fun id => match id with | _ => ([], []), join := fun id => match id with | _ => none }
noncomputable def spec_l03Offc : Code := bodyOf Go.Proofs.Try.f174
noncomputable def spec_l03OffF (n : Nat) : Fun := { id := 174, sp := spec_l03Offsp, bs := spec_l03Offbs, rs := spec_l03Offrs, f := fun x y => spec_l03Off n x.2.1 y.1 }

theorem spec_l03Off_eq (n : Nat) (a1 : Int) (b0 : (List (Int)) × ((Int) × (Int))) : runBody ([spec_l03SwingF n, spec_l03WrapF n]) ty 22 n spec_l03Offkp spec_l03Offc Go.Proofs.Try.f174.results.toList spec_l03Offrs spec_l03Offsp spec_l03Offbs ((), (a1, ())) (b0, ()) = spec_l03Off n a1 b0 := by
  have h : runBody ([spec_l03SwingF n, spec_l03WrapF n]) ty 22 n spec_l03Offkp spec_l03Offc Go.Proofs.Try.f174.results.toList spec_l03Offrs spec_l03Offsp spec_l03Offbs ((), (a1, ())) (b0, ()) = spec_l03Off_t n a1 b0 := by kernel_rfl
  rw [h]
  rfl

theorem spec_l03Off_ok (n : Nat) : FunOk P (spec_l03OffF n) :=
  funOk_mk (C := [spec_l03SwingF n, spec_l03WrapF n]) (N := 22) (kp := spec_l03Offkp) (c := spec_l03Offc) (n := n) (G := fun x y => spec_l03Off n x.2.1 y.1) follows (AllOk.mem (⟨spec_l03Swing_ok n, ⟨spec_l03Wrap_ok n, trivial⟩⟩ : AllOk P ([spec_l03SwingF n, spec_l03WrapF n]))) (by kernel_rfl : P.funcs[174]? = some Go.Proofs.Try.f174) (by kernel_rfl) (by kernel_rfl) (by kernel_rfl)
    (fun x y => spec_l03Off_eq n x.2.1 y.1) (fun _ _ => map_same (fun _ => rfl) _) (fun _ _ _ _ => rfl)

abbrev spec_l01Downsp : List Sp := [.v false (.int .i64), .v false (.int .i64)]
abbrev spec_l01Downbs : List (Bs × Bool) := []
abbrev spec_l01Downrs : List (Bool × List Rp) := [(false, [.v false (.int .i64)])]
noncomputable def spec_l01Downkp : Keep := { loop := fun id => match id with | _ => ([], []), join := fun id => match id with | _ => none }
noncomputable def spec_l01Downc : Code := bodyOf Go.Proofs.Try.f196
noncomputable def spec_l01DownF (n : Nat) : Fun := { id := 196, sp := spec_l01Downsp, bs := spec_l01Downbs, rs := spec_l01Downrs, f := fun x y => spec_l01Down n x.1 x.2.1 }

theorem spec_l01Down_eq (n : Nat) (a0 : Int) (a1 : Int) : runBody ([]) ty 16 n spec_l01Downkp spec_l01Downc Go.Proofs.Try.f196.results.toList spec_l01Downrs spec_l01Downsp spec_l01Downbs (a0, (a1, ())) () = spec_l01Down n a0 a1 := by
  have h : runBody ([]) ty 16 n spec_l01Downkp spec_l01Downc Go.Proofs.Try.f196.results.toList spec_l01Downrs spec_l01Downsp spec_l01Downbs (a0, (a1, ())) () = spec_l01Down_t n a0 a1 := by kernel_rfl
  rw [h]
  rfl

theorem spec_l01Down_ok (n : Nat) : FunOk P (spec_l01DownF n) :=
  funOk_mk (C := []) (N := 16) (kp := spec_l01Downkp) (c := spec_l01Downc) (n := n) (G := fun x y => spec_l01Down n x.1 x.2.1) follows (AllOk.mem (trivial : AllOk P ([]))) (by kernel_rfl : P.funcs[196]? = some Go.Proofs.Try.f196) (by kernel_rfl) (by kernel_rfl) (by kernel_rfl)
    (fun x y => spec_l01Down_eq n x.1 x.2.1) (fun _ _ => map_same (fun _ => rfl) _) (fun _ _ _ _ => rfl)

abbrev spec_l03Headsp : List Sp := [.ref 0, .v false (.int .i64), .v false (.int .i64)]
abbrev spec_l03Headbs : List (Bs × Bool) := [(.var 62 (.pair (.list (.int .i16)) (.pair (.int .i64) (.int .i64))), true)]
abbrev spec_l03Headrs : List (Bool × List Rp) := [(false, [.v false (.int .i64)])]
noncomputable def spec_l03Headkp : Keep := { loop := fun id => match id with | _ => ([], []), join := fun id => match id with | _ => none }
noncomputable def spec_l03Headc : Code := bodyOf Go.Proofs.Try.f159
noncomputable def spec_l03HeadF (n : Nat) : Fun := { id := 159, sp := spec_l03Headsp, bs := spec_l03Headbs, rs := spec_l03Headrs, f := fun x y => spec_l03Head n x.2.1 x.2.2.1 y.1 }

theorem spec_l03Head_eq (n : Nat) (a1 : Int) (a2 : Int) (b0 : (List (Int)) × ((Int) × (Int))) : runBody ([spec_l03FaultF n, spec_l03OffF n, spec_l01DownF n, spec_l03WrapF n]) ty 44 n spec_l03Headkp spec_l03Headc Go.Proofs.Try.f159.results.toList spec_l03Headrs spec_l03Headsp spec_l03Headbs ((), (a1, (a2, ()))) (b0, ()) = spec_l03Head n a1 a2 b0 := by
  have h : runBody ([spec_l03FaultF n, spec_l03OffF n, spec_l01DownF n, spec_l03WrapF n]) ty 44 n spec_l03Headkp spec_l03Headc Go.Proofs.Try.f159.results.toList spec_l03Headrs spec_l03Headsp spec_l03Headbs ((), (a1, (a2, ()))) (b0, ()) = spec_l03Head_t n a1 a2 b0 := by kernel_rfl
  rw [h]
  rfl

theorem spec_l03Head_ok (n : Nat) : FunOk P (spec_l03HeadF n) :=
  funOk_mk (C := [spec_l03FaultF n, spec_l03OffF n, spec_l01DownF n, spec_l03WrapF n]) (N := 44) (kp := spec_l03Headkp) (c := spec_l03Headc) (n := n) (G := fun x y => spec_l03Head n x.2.1 x.2.2.1 y.1) follows (AllOk.mem (⟨spec_l03Fault_ok n, ⟨spec_l03Off_ok n, ⟨spec_l01Down_ok n, ⟨spec_l03Wrap_ok n, trivial⟩⟩⟩⟩ : AllOk P ([spec_l03FaultF n, spec_l03OffF n, spec_l01DownF n, spec_l03WrapF n]))) (by kernel_rfl : P.funcs[159]? = some Go.Proofs.Try.f159) (by kernel_rfl) (by kernel_rfl) (by kernel_rfl)
    (fun x y => spec_l03Head_eq n x.2.1 x.2.2.1 y.1) (fun _ _ => map_same (fun _ => rfl) _) (fun _ _ _ _ => rfl)

abbrev spec_l03Turnsp : List Sp := [.v false (.int .i64), .v false (.int .i64)]
abbrev spec_l03Turnbs : List (Bs × Bool) := []
abbrev spec_l03Turnrs : List (Bool × List Rp) := [(false, [.v false (.int .i64)])]
noncomputable def spec_l03Turnkp : Keep := { loop := fun id => match id with | _ => ([], []), join := fun id => match id with | _ => none }
noncomputable def spec_l03Turnc : Code := bodyOf Go.Proofs.Try.f161
noncomputable def spec_l03TurnF (n : Nat) : Fun := { id := 161, sp := spec_l03Turnsp, bs := spec_l03Turnbs, rs := spec_l03Turnrs, f := fun x y => spec_l03Turn n x.1 x.2.1 }

theorem spec_l03Turn_eq (n : Nat) (a0 : Int) (a1 : Int) : runBody ([spec_l03WrapF n]) ty 15 n spec_l03Turnkp spec_l03Turnc Go.Proofs.Try.f161.results.toList spec_l03Turnrs spec_l03Turnsp spec_l03Turnbs (a0, (a1, ())) () = spec_l03Turn n a0 a1 := by
  have h : runBody ([spec_l03WrapF n]) ty 15 n spec_l03Turnkp spec_l03Turnc Go.Proofs.Try.f161.results.toList spec_l03Turnrs spec_l03Turnsp spec_l03Turnbs (a0, (a1, ())) () = spec_l03Turn_t n a0 a1 := by kernel_rfl
  rw [h]
  rfl

theorem spec_l03Turn_ok (n : Nat) : FunOk P (spec_l03TurnF n) :=
  funOk_mk (C := [spec_l03WrapF n]) (N := 15) (kp := spec_l03Turnkp) (c := spec_l03Turnc) (n := n) (G := fun x y => spec_l03Turn n x.1 x.2.1) follows (AllOk.mem (⟨spec_l03Wrap_ok n, trivial⟩ : AllOk P ([spec_l03WrapF n]))) (by kernel_rfl : P.funcs[161]? = some Go.Proofs.Try.f161) (by kernel_rfl) (by kernel_rfl) (by kernel_rfl)
    (fun x y => spec_l03Turn_eq n x.1 x.2.1) (fun _ _ => map_same (fun _ => rfl) _) (fun _ _ _ _ => rfl)

abbrev spec_l01Abssp : List Sp := [.v false (.int .i64)]
abbrev spec_l01Absbs : List (Bs × Bool) := []
abbrev spec_l01Absrs : List (Bool × List Rp) := [(false, [.v false (.int .i64)])]
noncomputable def spec_l01Abskp : Keep := { loop := fun id => match id with | _ => ([], []), join := fun id => match id with | _ => none }
noncomputable def spec_l01Absc : Code := bodyOf Go.Proofs.Try.f180
noncomputable def spec_l01AbsF (n : Nat) : Fun := { id := 180, sp := spec_l01Abssp, bs := spec_l01Absbs, rs := spec_l01Absrs, f := fun x y => spec_l01Abs n x.1 }

theorem spec_l01Abs_eq (n : Nat) (a0 : Int) : runBody ([]) ty 8 n spec_l01Abskp spec_l01Absc Go.Proofs.Try.f180.results.toList spec_l01Absrs spec_l01Abssp spec_l01Absbs (a0, ()) () = spec_l01Abs n a0 := by
  have h : runBody ([]) ty 8 n spec_l01Abskp spec_l01Absc Go.Proofs.Try.f180.results.toList spec_l01Absrs spec_l01Abssp spec_l01Absbs (a0, ()) () = spec_l01Abs_t n a0 := by kernel_rfl
  rw [h]
  rfl

theorem spec_l01Abs_ok (n : Nat) : FunOk P (spec_l01AbsF n) :=
  funOk_mk (C := []) (N := 8) (kp := spec_l01Abskp) (c := spec_l01Absc) (n := n) (G := fun x y => spec_l01Abs n x.1) follows (AllOk.mem (trivial : AllOk P ([]))) (by kernel_rfl : P.funcs[180]? = some Go.Proofs.Try.f180) (by kernel_rfl) (by kernel_rfl) (by kernel_rfl)
    (fun x y => spec_l01Abs_eq n x.1) (fun _ _ => map_same (fun _ => rfl) _) (fun _ _ _ _ => rfl)

abbrev spec_l01Gcdsp : List Sp := [.v false (.int .i64), .v false (.int .i64)]
abbrev spec_l01Gcdbs : List (Bs × Bool) := []
abbrev spec_l01Gcdrs : List (Bool × List Rp) := [(false, [.v false (.int .i64)])]
noncomputable def spec_l01Gcdkp : Keep := { loop := fun id => match id with | 1 => ([1, 0], []) | _ => ([], []), join := fun id => match id with | _ => none }
noncomputable def spec_l01Gcdc : Code := bodyOf Go.Proofs.Try.f241
noncomputable def spec_l01GcdF (n : Nat) : Fun := { id := 241, sp := spec_l01Gcdsp, bs := spec_l01Gcdbs, rs := spec_l01Gcdrs, f := fun x y => spec_l01Gcd n x.1 x.2.1 }

theorem spec_l01Gcd_l1_eq (n : Nat) : ∀ (k : Nat) (v1 : Int) (v0 : Int), iter (interp ([]) ty 14 0 n spec_l01Gcdkp (codeAt spec_l01Gcdc [1, 0, 0, 0])) (canon 0 (spec_l01Gcdkp.loop 1)) (kAt ([]) ty 14 0 n spec_l01Gcdkp spec_l01Gcdc [1, 0, 0] [] (ending ty 0 Go.Proofs.Try.f241.results.toList spec_l01Gcdrs spec_l01Gcdbs)) k { env := [(1, .one (.sc (.int .i64 v1))), (0, .one (.sc (.int .i64 v0)))], bx := [], nx := 0 } = spec_l01Gcd_l1 n k v1 v0
  | 0, _, _ => by kernel_rfl
  | k + 1, v1, v0 => by
    have h : iter (interp ([]) ty 14 0 n spec_l01Gcdkp (codeAt spec_l01Gcdc [1, 0, 0, 0])) (canon 0 (spec_l01Gcdkp.loop 1)) (kAt ([]) ty 14 0 n spec_l01Gcdkp spec_l01Gcdc [1, 0, 0] [] (ending ty 0 Go.Proofs.Try.f241.results.toList spec_l01Gcdrs spec_l01Gcdbs)) (k + 1) { env := [(1, .one (.sc (.int .i64 v1))), (0, .one (.sc (.int .i64 v0)))], bx := [], nx := 0 } = spec_l01Gcd_t1 n (fun v1 v0 => iter (interp ([]) ty 14 0 n spec_l01Gcdkp (codeAt spec_l01Gcdc [1, 0, 0, 0])) (canon 0 (spec_l01Gcdkp.loop 1)) (kAt ([]) ty 14 0 n spec_l01Gcdkp spec_l01Gcdc [1, 0, 0] [] (ending ty 0 Go.Proofs.Try.f241.results.toList spec_l01Gcdrs spec_l01Gcdbs)) k { env := [(1, .one (.sc (.int .i64 v1))), (0, .one (.sc (.int .i64 v0)))], bx := [], nx := 0 }) v1 v0 := by kernel_rfl
    rw [h]
    have e := congrArg (fun g => spec_l01Gcd_t1 n g v1 v0) (funext fun v1 => funext fun v0 => spec_l01Gcd_l1_eq n k v1 v0)
    exact e

theorem spec_l01Gcd_eq (n : Nat) (a0 : Int) (a1 : Int) : runBody ([]) ty 14 n spec_l01Gcdkp spec_l01Gcdc Go.Proofs.Try.f241.results.toList spec_l01Gcdrs spec_l01Gcdsp spec_l01Gcdbs (a0, (a1, ())) () = spec_l01Gcd n a0 a1 := by
  have h : runBody ([]) ty 14 n spec_l01Gcdkp spec_l01Gcdc Go.Proofs.Try.f241.results.toList spec_l01Gcdrs spec_l01Gcdsp spec_l01Gcdbs (a0, (a1, ())) () = spec_l01Gcd_t n (fun k v1 v0 => iter (interp ([]) ty 14 0 n spec_l01Gcdkp (codeAt spec_l01Gcdc [1, 0, 0, 0])) (canon 0 (spec_l01Gcdkp.loop 1)) (kAt ([]) ty 14 0 n spec_l01Gcdkp spec_l01Gcdc [1, 0, 0] [] (ending ty 0 Go.Proofs.Try.f241.results.toList spec_l01Gcdrs spec_l01Gcdbs)) k { env := [(1, .one (.sc (.int .i64 v1))), (0, .one (.sc (.int .i64 v0)))], bx := [], nx := 0 }) a0 a1 := by kernel_rfl
  rw [h]
  have e := congrArg (fun h1 => spec_l01Gcd_t n h1 a0 a1) (funext fun k => funext fun v1 => funext fun v0 => spec_l01Gcd_l1_eq n k v1 v0)
  exact e

theorem spec_l01Gcd_ok (n : Nat) : FunOk P (spec_l01GcdF n) :=
  funOk_mk (C := []) (N := 14) (kp := spec_l01Gcdkp) (c := spec_l01Gcdc) (n := n) (G := fun x y => spec_l01Gcd n x.1 x.2.1) follows (AllOk.mem (trivial : AllOk P ([]))) (by kernel_rfl : P.funcs[241]? = some Go.Proofs.Try.f241) (by kernel_rfl) (by kernel_rfl) (by kernel_rfl)
    (fun x y => spec_l01Gcd_eq n x.1 x.2.1) (fun _ _ => map_same (fun _ => rfl) _) (fun _ _ _ _ => rfl)

abbrev spec_l01Oksp : List Sp := [.v true (.pair (.int .i64) (.int .i64))]
abbrev spec_l01Okbs : List (Bs × Bool) := []
abbrev spec_l01Okrs : List (Bool × List Rp) := [(false, [.v false .bool])]
noncomputable def spec_l01Okkp : Keep := { loop := fun id => match id with | _ => ([], []), join := fun id => match id with | _ => none }
noncomputable def spec_l01Okc : Code := bodyOf Go.Proofs.Try.f189
noncomputable def spec_l01OkF (n : Nat) : Fun := { id := 189, sp := spec_l01Oksp, bs := spec_l01Okbs, rs := spec_l01Okrs, f := fun x y => spec_l01Ok n x.1 }

theorem spec_l01Ok_eq (n : Nat) (a0 : (Int) × (Int)) : runBody ([spec_l00InF n, spec_l01AbsF n, spec_l01GcdF n]) ty 20 n spec_l01Okkp spec_l01Okc Go.Proofs.Try.f189.results.toList spec_l01Okrs spec_l01Oksp spec_l01Okbs (a0, ()) () = spec_l01Ok n a0 := by
  have h : runBody ([spec_l00InF n, spec_l01AbsF n, spec_l01GcdF n]) ty 20 n spec_l01Okkp spec_l01Okc Go.Proofs.Try.f189.results.toList spec_l01Okrs spec_l01Oksp spec_l01Okbs (a0, ()) () = spec_l01Ok_t n a0 := by kernel_rfl
  rw [h]
  rfl

theorem spec_l01Ok_ok (n : Nat) : FunOk P (spec_l01OkF n) :=
  funOk_mk (C := [spec_l00InF n, spec_l01AbsF n, spec_l01GcdF n]) (N := 20) (kp := spec_l01Okkp) (c := spec_l01Okc) (n := n) (G := fun x y => spec_l01Ok n x.1) follows (AllOk.mem (⟨spec_l00In_ok n, ⟨spec_l01Abs_ok n, ⟨spec_l01Gcd_ok n, trivial⟩⟩⟩ : AllOk P ([spec_l00InF n, spec_l01AbsF n, spec_l01GcdF n]))) (by kernel_rfl : P.funcs[189]? = some Go.Proofs.Try.f189) (by kernel_rfl) (by kernel_rfl) (by kernel_rfl)
    (fun x y => spec_l01Ok_eq n x.1) (fun _ _ => map_same (fun _ => rfl) _) (fun _ _ _ _ => rfl)

abbrev spec_l01Reducedsp : List Sp := [.v false (.int .i64), .v false (.int .i64)]
abbrev spec_l01Reducedbs : List (Bs × Bool) := []
abbrev spec_l01Reducedrs : List (Bool × List Rp) := [(true, [.v false (.pair (.int .i64) (.int .i64))]), (false, [.v false (.int .i64)])]
noncomputable def spec_l01Reducedkp : Keep := { loop := fun id => match id with | _ => ([], []), join := fun id => match id with | _ => none }
noncomputable def spec_l01Reducedc : Code := bodyOf Go.Proofs.Try.f169
noncomputable def spec_l01ReducedF (n : Nat) : Fun := { id := 169, sp := spec_l01Reducedsp, bs := spec_l01Reducedbs, rs := spec_l01Reducedrs, f := fun x y => spec_l01Reduced n x.1 x.2.1 }

theorem spec_l01Reduced_eq (n : Nat) (a0 : Int) (a1 : Int) : runBody ([spec_l01AbsF n, spec_l01GcdF n, spec_l01OkF n]) ty 33 n spec_l01Reducedkp spec_l01Reducedc Go.Proofs.Try.f169.results.toList spec_l01Reducedrs spec_l01Reducedsp spec_l01Reducedbs (a0, (a1, ())) () = spec_l01Reduced n a0 a1 := by
  have h : runBody ([spec_l01AbsF n, spec_l01GcdF n, spec_l01OkF n]) ty 33 n spec_l01Reducedkp spec_l01Reducedc Go.Proofs.Try.f169.results.toList spec_l01Reducedrs spec_l01Reducedsp spec_l01Reducedbs (a0, (a1, ())) () = spec_l01Reduced_t n a0 a1 := by kernel_rfl
  rw [h]
  rfl

theorem spec_l01Reduced_ok (n : Nat) : FunOk P (spec_l01ReducedF n) :=
  funOk_mk (C := [spec_l01AbsF n, spec_l01GcdF n, spec_l01OkF n]) (N := 33) (kp := spec_l01Reducedkp) (c := spec_l01Reducedc) (n := n) (G := fun x y => spec_l01Reduced n x.1 x.2.1) follows (AllOk.mem (⟨spec_l01Abs_ok n, ⟨spec_l01Gcd_ok n, ⟨spec_l01Ok_ok n, trivial⟩⟩⟩ : AllOk P ([spec_l01AbsF n, spec_l01GcdF n, spec_l01OkF n]))) (by kernel_rfl : P.funcs[169]? = some Go.Proofs.Try.f169) (by kernel_rfl) (by kernel_rfl) (by kernel_rfl)
    (fun x y => spec_l01Reduced_eq n x.1 x.2.1) (fun _ _ => map_same (fun _ => rfl) _) (fun _ _ _ _ => rfl)

abbrev spec_l03Repeatsp : List Sp := [.ref 0, .v false (.int .i64), .v false (.int .i64), .v false (.int .i64), .v false (.int .i64)]
abbrev spec_l03Repeatbs : List (Bs × Bool) := [(.var 62 (.pair (.list (.int .i16)) (.pair (.int .i64) (.int .i64))), true)]
abbrev spec_l03Repeatrs : List (Bool × List Rp) := [(true, [.v false (.pair (.int .i64) (.int .i64))]), (false, [.v false (.int .i64)]), (false, [.v false (.int .i64)])]
noncomputable def spec_l03Repeatkp : Keep := { loop := fun id => match id with | _ => ([], []), join := fun id => match id with | _ => none }
noncomputable def spec_l03Repeatc : Code := bodyOf Go.Proofs.Try.f179
noncomputable def spec_l03RepeatF (n : Nat) : Fun := { id := 179, sp := spec_l03Repeatsp, bs := spec_l03Repeatbs, rs := spec_l03Repeatrs, f := fun x y => spec_l03Repeat n x.2.1 x.2.2.1 x.2.2.2.1 x.2.2.2.2.1 y.1 }

theorem spec_l03Repeat_eq (n : Nat) (a1 : Int) (a2 : Int) (a3 : Int) (a4 : Int) (b0 : (List (Int)) × ((Int) × (Int))) : runBody ([spec_l03HeadF n, spec_l03WrapF n, spec_l03TurnF n, spec_l01DownF n, spec_l01ReducedF n]) ty 58 n spec_l03Repeatkp spec_l03Repeatc Go.Proofs.Try.f179.results.toList spec_l03Repeatrs spec_l03Repeatsp spec_l03Repeatbs ((), (a1, (a2, (a3, (a4, ()))))) (b0, ()) = spec_l03Repeat n a1 a2 a3 a4 b0 := by
  have h : runBody ([spec_l03HeadF n, spec_l03WrapF n, spec_l03TurnF n, spec_l01DownF n, spec_l01ReducedF n]) ty 58 n spec_l03Repeatkp spec_l03Repeatc Go.Proofs.Try.f179.results.toList spec_l03Repeatrs spec_l03Repeatsp spec_l03Repeatbs ((), (a1, (a2, (a3, (a4, ()))))) (b0, ()) = spec_l03Repeat_t n a1 a2 a3 a4 b0 := by kernel_rfl
  rw [h]
  rfl

theorem spec_l03Repeat_ok (n : Nat) : FunOk P (spec_l03RepeatF n) :=
  funOk_mk (C := [spec_l03HeadF n, spec_l03WrapF n, spec_l03TurnF n, spec_l01DownF n, spec_l01ReducedF n]) (N := 58) (kp := spec_l03Repeatkp) (c := spec_l03Repeatc) (n := n) (G := fun x y => spec_l03Repeat n x.2.1 x.2.2.1 x.2.2.2.1 x.2.2.2.2.1 y.1) follows (AllOk.mem (⟨spec_l03Head_ok n, ⟨spec_l03Wrap_ok n, ⟨spec_l03Turn_ok n, ⟨spec_l01Down_ok n, ⟨spec_l01Reduced_ok n, trivial⟩⟩⟩⟩⟩ : AllOk P ([spec_l03HeadF n, spec_l03WrapF n, spec_l03TurnF n, spec_l01DownF n, spec_l01ReducedF n]))) (by kernel_rfl : P.funcs[179]? = some Go.Proofs.Try.f179) (by kernel_rfl) (by kernel_rfl) (by kernel_rfl)
    (fun x y => spec_l03Repeat_eq n x.2.1 x.2.2.1 x.2.2.2.1 x.2.2.2.2.1 y.1) (fun _ _ => map_same (fun _ => rfl) _) (fun _ _ _ _ => rfl)

abbrev spec_RepeatAnglesp : List Sp := [.v true (.pair (.list (.int .i16)) (.pair (.int .i64) (.int .i64))), .v false (.int .i64), .v false (.int .i64), .v false (.int .i64), .v false (.int .i64)]
abbrev spec_RepeatAnglebs : List (Bs × Bool) := []
abbrev spec_RepeatAnglers : List (Bool × List Rp) := [(true, [.v false (.pair (.int .i64) (.int .i64))]), (false, [.v false (.int .i64)]), (false, [.v false (.int .i64)])]
noncomputable def spec_RepeatAnglekp : Keep := { loop := fun id => match id with | _ => ([], []), join := fun id => match id with | _ => none }
noncomputable def spec_RepeatAnglec : Code := bodyOf Go.Proofs.Try.f53
noncomputable def spec_RepeatAngleF (n : Nat) : Fun := { id := 53, sp := spec_RepeatAnglesp, bs := spec_RepeatAnglebs, rs := spec_RepeatAnglers, f := fun x y => spec_RepeatAngle n x.1 x.2.1 x.2.2.1 x.2.2.2.1 x.2.2.2.2.1 }

theorem spec_RepeatAngle_eq (n : Nat) (a0 : (List (Int)) × ((Int) × (Int))) (a1 : Int) (a2 : Int) (a3 : Int) (a4 : Int) : runBody ([spec_l03RepeatedF n, spec_l03RepeatF n]) ty 31 n spec_RepeatAnglekp spec_RepeatAnglec Go.Proofs.Try.f53.results.toList spec_RepeatAnglers spec_RepeatAnglesp spec_RepeatAnglebs (a0, (a1, (a2, (a3, (a4, ()))))) () = spec_RepeatAngle n a0 a1 a2 a3 a4 := by
  have h : runBody ([spec_l03RepeatedF n, spec_l03RepeatF n]) ty 31 n spec_RepeatAnglekp spec_RepeatAnglec Go.Proofs.Try.f53.results.toList spec_RepeatAnglers spec_RepeatAnglesp spec_RepeatAnglebs (a0, (a1, (a2, (a3, (a4, ()))))) () = spec_RepeatAngle_t n a0 a1 a2 a3 a4 := by kernel_rfl
  rw [h]
  rfl

theorem spec_RepeatAngle_ok (n : Nat) : FunOk P (spec_RepeatAngleF n) :=
  funOk_mk (C := [spec_l03RepeatedF n, spec_l03RepeatF n]) (N := 31) (kp := spec_RepeatAnglekp) (c := spec_RepeatAnglec) (n := n) (G := fun x y => spec_RepeatAngle n x.1 x.2.1 x.2.2.1 x.2.2.2.1 x.2.2.2.2.1) follows (AllOk.mem (⟨spec_l03Repeated_ok n, ⟨spec_l03Repeat_ok n, trivial⟩⟩ : AllOk P ([spec_l03RepeatedF n, spec_l03RepeatF n]))) (by kernel_rfl : P.funcs[53]? = some Go.Proofs.Try.f53) (by kernel_rfl) (by kernel_rfl) (by kernel_rfl)
    (fun x y => spec_RepeatAngle_eq n x.1 x.2.1 x.2.2.1 x.2.2.2.1 x.2.2.2.2.1) (fun _ _ => map_same (fun _ => rfl) _) (fun _ _ _ _ => rfl)

abbrev impl_WrapAnglesp : List Sp := [.v false (.int .i64)]
abbrev impl_WrapAnglebs : List (Bs × Bool) := []
abbrev impl_WrapAnglers : List (Bool × List Rp) := [(false, [.v false (.int .i64)]), (false, [.v false (.int .i64)])]
noncomputable def impl_WrapAnglekp : Keep := { loop := fun id => match id with | _ => ([], []), join := fun id => match id with | _ => none }
noncomputable def impl_WrapAnglec : Code := bodyOf Go.Proofs.Try.f47
noncomputable def impl_WrapAngleF (n : Nat) : Fun := { id := 47, sp := impl_WrapAnglesp, bs := impl_WrapAnglebs, rs := impl_WrapAnglers, f := fun x y => impl_WrapAngle n x.1 }

theorem impl_WrapAngle_eq (n : Nat) (a0 : Int) : runBody ([impl_withinF n, impl_wrapF n]) ty 9 n impl_WrapAnglekp impl_WrapAnglec Go.Proofs.Try.f47.results.toList impl_WrapAnglers impl_WrapAnglesp impl_WrapAnglebs (a0, ()) () = impl_WrapAngle n a0 := by
  have h : runBody ([impl_withinF n, impl_wrapF n]) ty 9 n impl_WrapAnglekp impl_WrapAnglec Go.Proofs.Try.f47.results.toList impl_WrapAnglers impl_WrapAnglesp impl_WrapAnglebs (a0, ()) () = impl_WrapAngle_t n a0 := by kernel_rfl
  rw [h]
  rfl

theorem impl_WrapAngle_ok (n : Nat) : FunOk P (impl_WrapAngleF n) :=
  funOk_mk (C := [impl_withinF n, impl_wrapF n]) (N := 9) (kp := impl_WrapAnglekp) (c := impl_WrapAnglec) (n := n) (G := fun x y => impl_WrapAngle n x.1) follows (AllOk.mem (⟨impl_within_ok n, ⟨impl_wrap_ok n, trivial⟩⟩ : AllOk P ([impl_withinF n, impl_wrapF n]))) (by kernel_rfl : P.funcs[47]? = some Go.Proofs.Try.f47) (by kernel_rfl) (by kernel_rfl) (by kernel_rfl)
    (fun x y => impl_WrapAngle_eq n x.1) (fun _ _ => map_same (fun _ => rfl) _) (fun _ _ _ _ => rfl)

abbrev impl_WorstHeadsp : List Sp := [.v true (.pair (.list (.int .i16)) (.pair (.int .i64) (.int .i64))), .v false (.list (.int .i64)), .v false (.int .i64)]
abbrev impl_WorstHeadbs : List (Bs × Bool) := []
abbrev impl_WorstHeadrs : List (Bool × List Rp) := [(false, [.v false (.int .i64)]), (false, [.v false (.int .i64)]), (false, [.v false (.int .i64)])]
noncomputable def impl_WorstHeadkp : Keep := { loop := fun id => match id with | 8 => ([36, 10, 2, 3, 34, 11, 35], []) | _ => ([], []), join := fun id => match id with | _ => none }
noncomputable def impl_WorstHeadc : Code := bodyOf Go.Proofs.Try.f54
noncomputable def impl_WorstHeadF (n : Nat) : Fun := { id := 54, sp := impl_WorstHeadsp, bs := impl_WorstHeadbs, rs := impl_WorstHeadrs, f := fun x y => impl_WorstHead n x.1 x.2.1 x.2.2.1 }

theorem impl_WorstHead_l8_eq (n : Nat) : ∀ (k : Nat) (v36 : Int) (v10 : Int) (v2 : Int) (v34 : List (Int)) (v11 : Int) (v35 : Int) (b0_0 : List (Int)) (b0_1 : Int) (b0_2 : Int), iter (interp ([impl_headCodeF n, impl_headF n, impl_turnFromF n]) ty 58 0 n impl_WorstHeadkp (codeAt impl_WorstHeadc [1, 1, 1, 1, 1, 0, 1, 0, 0])) (canon 0 (impl_WorstHeadkp.loop 8)) (kAt ([impl_headCodeF n, impl_headF n, impl_turnFromF n]) ty 58 0 n impl_WorstHeadkp impl_WorstHeadc [1, 1, 1, 1, 1, 0, 1, 0] [] (ending ty 0 Go.Proofs.Try.f54.results.toList impl_WorstHeadrs impl_WorstHeadbs)) k { env := [(36, .one (.sc (.int .i64 v36))), (10, .one (.sc (.int .i64 v10))), (2, .one (.sc (.int .i64 v2))), (3, .one (.ref 0 0 0 0 0 0)), (34, .one (.list true (.int .i64) v34)), (11, .one (.sc (.int .i64 v11))), (35, .one (.sc (.int .i64 v35)))], bx := [(0, .var 62 [.list true (.int .i16) b0_0, .sc (.int .i64 b0_1), .sc (.int .i64 b0_2)])], nx := 1 } = impl_WorstHead_l8 n k v36 v10 v2 v34 v11 v35 b0_0 b0_1 b0_2
  | 0, _, _, _, _, _, _, _, _, _ => by kernel_rfl
  | k + 1, v36, v10, v2, v34, v11, v35, b0_0, b0_1, b0_2 => by
    have h : iter (interp ([impl_headCodeF n, impl_headF n, impl_turnFromF n]) ty 58 0 n impl_WorstHeadkp (codeAt impl_WorstHeadc [1, 1, 1, 1, 1, 0, 1, 0, 0])) (canon 0 (impl_WorstHeadkp.loop 8)) (kAt ([impl_headCodeF n, impl_headF n, impl_turnFromF n]) ty 58 0 n impl_WorstHeadkp impl_WorstHeadc [1, 1, 1, 1, 1, 0, 1, 0] [] (ending ty 0 Go.Proofs.Try.f54.results.toList impl_WorstHeadrs impl_WorstHeadbs)) (k + 1) { env := [(36, .one (.sc (.int .i64 v36))), (10, .one (.sc (.int .i64 v10))), (2, .one (.sc (.int .i64 v2))), (3, .one (.ref 0 0 0 0 0 0)), (34, .one (.list true (.int .i64) v34)), (11, .one (.sc (.int .i64 v11))), (35, .one (.sc (.int .i64 v35)))], bx := [(0, .var 62 [.list true (.int .i16) b0_0, .sc (.int .i64 b0_1), .sc (.int .i64 b0_2)])], nx := 1 } = impl_WorstHead_t8 n (fun v36 v10 v2 v34 v11 v35 b0_0 b0_1 b0_2 => iter (interp ([impl_headCodeF n, impl_headF n, impl_turnFromF n]) ty 58 0 n impl_WorstHeadkp (codeAt impl_WorstHeadc [1, 1, 1, 1, 1, 0, 1, 0, 0])) (canon 0 (impl_WorstHeadkp.loop 8)) (kAt ([impl_headCodeF n, impl_headF n, impl_turnFromF n]) ty 58 0 n impl_WorstHeadkp impl_WorstHeadc [1, 1, 1, 1, 1, 0, 1, 0] [] (ending ty 0 Go.Proofs.Try.f54.results.toList impl_WorstHeadrs impl_WorstHeadbs)) k { env := [(36, .one (.sc (.int .i64 v36))), (10, .one (.sc (.int .i64 v10))), (2, .one (.sc (.int .i64 v2))), (3, .one (.ref 0 0 0 0 0 0)), (34, .one (.list true (.int .i64) v34)), (11, .one (.sc (.int .i64 v11))), (35, .one (.sc (.int .i64 v35)))], bx := [(0, .var 62 [.list true (.int .i16) b0_0, .sc (.int .i64 b0_1), .sc (.int .i64 b0_2)])], nx := 1 }) v36 v10 v2 v34 v11 v35 b0_0 b0_1 b0_2 := by kernel_rfl
    rw [h]
    have e := congrArg (fun g => impl_WorstHead_t8 n g v36 v10 v2 v34 v11 v35 b0_0 b0_1 b0_2) (funext fun v36 => funext fun v10 => funext fun v2 => funext fun v34 => funext fun v11 => funext fun v35 => funext fun b0_0 => funext fun b0_1 => funext fun b0_2 => impl_WorstHead_l8_eq n k v36 v10 v2 v34 v11 v35 b0_0 b0_1 b0_2)
    exact e

theorem impl_WorstHead_eq (n : Nat) (a0 : (List (Int)) × ((Int) × (Int))) (a1 : List (Int)) (a2 : Int) : runBody ([impl_headCodeF n, impl_headF n, impl_turnFromF n]) ty 58 n impl_WorstHeadkp impl_WorstHeadc Go.Proofs.Try.f54.results.toList impl_WorstHeadrs impl_WorstHeadsp impl_WorstHeadbs (a0, (a1, (a2, ()))) () = impl_WorstHead n a0 a1 a2 := by
  have h : runBody ([impl_headCodeF n, impl_headF n, impl_turnFromF n]) ty 58 n impl_WorstHeadkp impl_WorstHeadc Go.Proofs.Try.f54.results.toList impl_WorstHeadrs impl_WorstHeadsp impl_WorstHeadbs (a0, (a1, (a2, ()))) () = impl_WorstHead_t n (fun k v36 v10 v2 v34 v11 v35 b0_0 b0_1 b0_2 => iter (interp ([impl_headCodeF n, impl_headF n, impl_turnFromF n]) ty 58 0 n impl_WorstHeadkp (codeAt impl_WorstHeadc [1, 1, 1, 1, 1, 0, 1, 0, 0])) (canon 0 (impl_WorstHeadkp.loop 8)) (kAt ([impl_headCodeF n, impl_headF n, impl_turnFromF n]) ty 58 0 n impl_WorstHeadkp impl_WorstHeadc [1, 1, 1, 1, 1, 0, 1, 0] [] (ending ty 0 Go.Proofs.Try.f54.results.toList impl_WorstHeadrs impl_WorstHeadbs)) k { env := [(36, .one (.sc (.int .i64 v36))), (10, .one (.sc (.int .i64 v10))), (2, .one (.sc (.int .i64 v2))), (3, .one (.ref 0 0 0 0 0 0)), (34, .one (.list true (.int .i64) v34)), (11, .one (.sc (.int .i64 v11))), (35, .one (.sc (.int .i64 v35)))], bx := [(0, .var 62 [.list true (.int .i16) b0_0, .sc (.int .i64 b0_1), .sc (.int .i64 b0_2)])], nx := 1 }) a0 a1 a2 := by kernel_rfl
  rw [h]
  have e := congrArg (fun h8 => impl_WorstHead_t n h8 a0 a1 a2) (funext fun k => funext fun v36 => funext fun v10 => funext fun v2 => funext fun v34 => funext fun v11 => funext fun v35 => funext fun b0_0 => funext fun b0_1 => funext fun b0_2 => impl_WorstHead_l8_eq n k v36 v10 v2 v34 v11 v35 b0_0 b0_1 b0_2)
  exact e

theorem impl_WorstHead_ok (n : Nat) : FunOk P (impl_WorstHeadF n) :=
  funOk_mk (C := [impl_headCodeF n, impl_headF n, impl_turnFromF n]) (N := 58) (kp := impl_WorstHeadkp) (c := impl_WorstHeadc) (n := n) (G := fun x y => impl_WorstHead n x.1 x.2.1 x.2.2.1) follows (AllOk.mem (⟨impl_headCode_ok n, ⟨impl_head_ok n, ⟨impl_turnFrom_ok n, trivial⟩⟩⟩ : AllOk P ([impl_headCodeF n, impl_headF n, impl_turnFromF n]))) (by kernel_rfl : P.funcs[54]? = some Go.Proofs.Try.f54) (by kernel_rfl) (by kernel_rfl) (by kernel_rfl)
    (fun x y => impl_WorstHead_eq n x.1 x.2.1 x.2.2.1) (fun _ _ => map_same (fun _ => rfl) _) (fun _ _ _ _ => rfl)

abbrev impl_BestRepeatssp : List Sp := [.v true (.pair (.list (.int .i16)) (.pair (.int .i64) (.int .i64))), .v false (.int .i64), .v false (.int .i64), .v false (.int .i64), .v false (.int .i64)]
abbrev impl_BestRepeatsbs : List (Bs × Bool) := []
abbrev impl_BestRepeatsrs : List (Bool × List Rp) := [(false, [.v false (.int .i64)]), (true, [.v false (.pair (.int .i64) (.int .i64))]), (false, [.v false (.int .i64)])]
noncomputable def impl_BestRepeatskp : Keep := { loop := fun id => match id with | 8 => ([17, 16, 14, 2, 4, 1, 5, 11, 15, 3], []) | _ => ([], []), join := fun id => match id with | _ => none }
noncomputable def impl_BestRepeatsc : Code := bodyOf Go.Proofs.Try.f55
noncomputable def impl_BestRepeatsF (n : Nat) : Fun := { id := 55, sp := impl_BestRepeatssp, bs := impl_BestRepeatsbs, rs := impl_BestRepeatsrs, f := fun x y => impl_BestRepeats n x.1 x.2.1 x.2.2.1 x.2.2.2.1 x.2.2.2.2.1 }

theorem impl_BestRepeats_l8_eq (n : Nat) : ∀ (k : Nat) (v17 : Int) (v16 : Int) (v14 : Int) (v2 : Int) (v4 : Int) (v1 : Int) (v15 : Int) (v3 : Int) (b0_0 : List (Int)) (b0_1 : Int) (b0_2 : Int) (b1_0 : Int) (b1_1 : Int), iter (interp ([impl_headCodeF n, impl_withinF n, impl_repeatF n, impl_fracOfF n]) ty 90 0 n impl_BestRepeatskp (codeAt impl_BestRepeatsc [1, 1, 1, 1, 1, 0, 1, 0, 0])) (canon 0 (impl_BestRepeatskp.loop 8)) (kAt ([impl_headCodeF n, impl_withinF n, impl_repeatF n, impl_fracOfF n]) ty 90 0 n impl_BestRepeatskp impl_BestRepeatsc [1, 1, 1, 1, 1, 0, 1, 0] [] (ending ty 0 Go.Proofs.Try.f55.results.toList impl_BestRepeatsrs impl_BestRepeatsbs)) k { env := [(17, .one (.sc (.int .i64 v17))), (16, .one (.sc (.int .i64 v16))), (14, .one (.sc (.int .i64 v14))), (2, .one (.sc (.int .i64 v2))), (4, .one (.sc (.int .i64 v4))), (1, .one (.sc (.int .i64 v1))), (5, .one (.ref 0 0 0 0 0 0)), (11, .one (.ref 1 0 0 0 0 0)), (15, .one (.sc (.int .i64 v15))), (3, .one (.sc (.int .i64 v3)))], bx := [(0, .var 62 [.list true (.int .i16) b0_0, .sc (.int .i64 b0_1), .sc (.int .i64 b0_2)]), (1, .var 26 [.sc (.int .i64 b1_0), .sc (.int .i64 b1_1)])], nx := 2 } = impl_BestRepeats_l8 n k v17 v16 v14 v2 v4 v1 v15 v3 b0_0 b0_1 b0_2 b1_0 b1_1
  | 0, _, _, _, _, _, _, _, _, _, _, _, _, _ => by kernel_rfl
  | k + 1, v17, v16, v14, v2, v4, v1, v15, v3, b0_0, b0_1, b0_2, b1_0, b1_1 => by
    have h : iter (interp ([impl_headCodeF n, impl_withinF n, impl_repeatF n, impl_fracOfF n]) ty 90 0 n impl_BestRepeatskp (codeAt impl_BestRepeatsc [1, 1, 1, 1, 1, 0, 1, 0, 0])) (canon 0 (impl_BestRepeatskp.loop 8)) (kAt ([impl_headCodeF n, impl_withinF n, impl_repeatF n, impl_fracOfF n]) ty 90 0 n impl_BestRepeatskp impl_BestRepeatsc [1, 1, 1, 1, 1, 0, 1, 0] [] (ending ty 0 Go.Proofs.Try.f55.results.toList impl_BestRepeatsrs impl_BestRepeatsbs)) (k + 1) { env := [(17, .one (.sc (.int .i64 v17))), (16, .one (.sc (.int .i64 v16))), (14, .one (.sc (.int .i64 v14))), (2, .one (.sc (.int .i64 v2))), (4, .one (.sc (.int .i64 v4))), (1, .one (.sc (.int .i64 v1))), (5, .one (.ref 0 0 0 0 0 0)), (11, .one (.ref 1 0 0 0 0 0)), (15, .one (.sc (.int .i64 v15))), (3, .one (.sc (.int .i64 v3)))], bx := [(0, .var 62 [.list true (.int .i16) b0_0, .sc (.int .i64 b0_1), .sc (.int .i64 b0_2)]), (1, .var 26 [.sc (.int .i64 b1_0), .sc (.int .i64 b1_1)])], nx := 2 } = impl_BestRepeats_t8 n (fun v17 v16 v14 v2 v4 v1 v15 v3 b0_0 b0_1 b0_2 b1_0 b1_1 => iter (interp ([impl_headCodeF n, impl_withinF n, impl_repeatF n, impl_fracOfF n]) ty 90 0 n impl_BestRepeatskp (codeAt impl_BestRepeatsc [1, 1, 1, 1, 1, 0, 1, 0, 0])) (canon 0 (impl_BestRepeatskp.loop 8)) (kAt ([impl_headCodeF n, impl_withinF n, impl_repeatF n, impl_fracOfF n]) ty 90 0 n impl_BestRepeatskp impl_BestRepeatsc [1, 1, 1, 1, 1, 0, 1, 0] [] (ending ty 0 Go.Proofs.Try.f55.results.toList impl_BestRepeatsrs impl_BestRepeatsbs)) k { env := [(17, .one (.sc (.int .i64 v17))), (16, .one (.sc (.int .i64 v16))), (14, .one (.sc (.int .i64 v14))), (2, .one (.sc (.int .i64 v2))), (4, .one (.sc (.int .i64 v4))), (1, .one (.sc (.int .i64 v1))), (5, .one (.ref 0 0 0 0 0 0)), (11, .one (.ref 1 0 0 0 0 0)), (15, .one (.sc (.int .i64 v15))), (3, .one (.sc (.int .i64 v3)))], bx := [(0, .var 62 [.list true (.int .i16) b0_0, .sc (.int .i64 b0_1), .sc (.int .i64 b0_2)]), (1, .var 26 [.sc (.int .i64 b1_0), .sc (.int .i64 b1_1)])], nx := 2 }) v17 v16 v14 v2 v4 v1 v15 v3 b0_0 b0_1 b0_2 b1_0 b1_1 := by kernel_rfl
    rw [h]
    have e := congrArg (fun g => impl_BestRepeats_t8 n g v17 v16 v14 v2 v4 v1 v15 v3 b0_0 b0_1 b0_2 b1_0 b1_1) (funext fun v17 => funext fun v16 => funext fun v14 => funext fun v2 => funext fun v4 => funext fun v1 => funext fun v15 => funext fun v3 => funext fun b0_0 => funext fun b0_1 => funext fun b0_2 => funext fun b1_0 => funext fun b1_1 => impl_BestRepeats_l8_eq n k v17 v16 v14 v2 v4 v1 v15 v3 b0_0 b0_1 b0_2 b1_0 b1_1)
    exact e

theorem impl_BestRepeats_eq (n : Nat) (a0 : (List (Int)) × ((Int) × (Int))) (a1 : Int) (a2 : Int) (a3 : Int) (a4 : Int) : runBody ([impl_headCodeF n, impl_withinF n, impl_repeatF n, impl_fracOfF n]) ty 90 n impl_BestRepeatskp impl_BestRepeatsc Go.Proofs.Try.f55.results.toList impl_BestRepeatsrs impl_BestRepeatssp impl_BestRepeatsbs (a0, (a1, (a2, (a3, (a4, ()))))) () = impl_BestRepeats n a0 a1 a2 a3 a4 := by
  have h : runBody ([impl_headCodeF n, impl_withinF n, impl_repeatF n, impl_fracOfF n]) ty 90 n impl_BestRepeatskp impl_BestRepeatsc Go.Proofs.Try.f55.results.toList impl_BestRepeatsrs impl_BestRepeatssp impl_BestRepeatsbs (a0, (a1, (a2, (a3, (a4, ()))))) () = impl_BestRepeats_t n (fun k v17 v16 v14 v2 v4 v1 v15 v3 b0_0 b0_1 b0_2 b1_0 b1_1 => iter (interp ([impl_headCodeF n, impl_withinF n, impl_repeatF n, impl_fracOfF n]) ty 90 0 n impl_BestRepeatskp (codeAt impl_BestRepeatsc [1, 1, 1, 1, 1, 0, 1, 0, 0])) (canon 0 (impl_BestRepeatskp.loop 8)) (kAt ([impl_headCodeF n, impl_withinF n, impl_repeatF n, impl_fracOfF n]) ty 90 0 n impl_BestRepeatskp impl_BestRepeatsc [1, 1, 1, 1, 1, 0, 1, 0] [] (ending ty 0 Go.Proofs.Try.f55.results.toList impl_BestRepeatsrs impl_BestRepeatsbs)) k { env := [(17, .one (.sc (.int .i64 v17))), (16, .one (.sc (.int .i64 v16))), (14, .one (.sc (.int .i64 v14))), (2, .one (.sc (.int .i64 v2))), (4, .one (.sc (.int .i64 v4))), (1, .one (.sc (.int .i64 v1))), (5, .one (.ref 0 0 0 0 0 0)), (11, .one (.ref 1 0 0 0 0 0)), (15, .one (.sc (.int .i64 v15))), (3, .one (.sc (.int .i64 v3)))], bx := [(0, .var 62 [.list true (.int .i16) b0_0, .sc (.int .i64 b0_1), .sc (.int .i64 b0_2)]), (1, .var 26 [.sc (.int .i64 b1_0), .sc (.int .i64 b1_1)])], nx := 2 }) a0 a1 a2 a3 a4 := by kernel_rfl
  rw [h]
  have e := congrArg (fun h8 => impl_BestRepeats_t n h8 a0 a1 a2 a3 a4) (funext fun k => funext fun v17 => funext fun v16 => funext fun v14 => funext fun v2 => funext fun v4 => funext fun v1 => funext fun v15 => funext fun v3 => funext fun b0_0 => funext fun b0_1 => funext fun b0_2 => funext fun b1_0 => funext fun b1_1 => impl_BestRepeats_l8_eq n k v17 v16 v14 v2 v4 v1 v15 v3 b0_0 b0_1 b0_2 b1_0 b1_1)
  exact e

theorem impl_BestRepeats_ok (n : Nat) : FunOk P (impl_BestRepeatsF n) :=
  funOk_mk (C := [impl_headCodeF n, impl_withinF n, impl_repeatF n, impl_fracOfF n]) (N := 90) (kp := impl_BestRepeatskp) (c := impl_BestRepeatsc) (n := n) (G := fun x y => impl_BestRepeats n x.1 x.2.1 x.2.2.1 x.2.2.2.1 x.2.2.2.2.1) follows (AllOk.mem (⟨impl_headCode_ok n, ⟨impl_within_ok n, ⟨impl_repeat_ok n, ⟨impl_fracOf_ok n, trivial⟩⟩⟩⟩ : AllOk P ([impl_headCodeF n, impl_withinF n, impl_repeatF n, impl_fracOfF n]))) (by kernel_rfl : P.funcs[55]? = some Go.Proofs.Try.f55) (by kernel_rfl) (by kernel_rfl) (by kernel_rfl)
    (fun x y => impl_BestRepeats_eq n x.1 x.2.1 x.2.2.1 x.2.2.2.1 x.2.2.2.2.1) (fun _ _ => map_same (fun _ => rfl) _) (fun _ _ _ _ => rfl)

abbrev spec_BestRepeatssp : List Sp := [.v true (.pair (.list (.int .i16)) (.pair (.int .i64) (.int .i64))), .v false (.int .i64), .v false (.int .i64), .v false (.int .i64), .v false (.int .i64)]
abbrev spec_BestRepeatsbs : List (Bs × Bool) := []
abbrev spec_BestRepeatsrs : List (Bool × List Rp) := [(false, [.v false (.int .i64)]), (true, [.v false (.pair (.int .i64) (.int .i64))]), (false, [.v false (.int .i64)])]
noncomputable def spec_BestRepeatskp : Keep := { loop := fun id => match id with | 8 => ([11, 17, 16, 15, 14, 2, 5, 4, 1, 3], []) | _ => ([], []), join := fun id => match id with | _ => none }
noncomputable def spec_BestRepeatsc : Code := bodyOf Go.Proofs.Try.f56
noncomputable def spec_BestRepeatsF (n : Nat) : Fun := { id := 56, sp := spec_BestRepeatssp, bs := spec_BestRepeatsbs, rs := spec_BestRepeatsrs, f := fun x y => spec_BestRepeats n x.1 x.2.1 x.2.2.1 x.2.2.2.1 x.2.2.2.2.1 }

theorem spec_BestRepeats_l8_eq (n : Nat) : ∀ (k : Nat) (v17 : Int) (v14 : Int) (v2 : Int) (v4 : Int) (v1 : Int) (v3 : Int) (b0_0 : Int) (b0_1 : Int) (b1_0 : Int) (b1_1 : Int) (b2_0 : Int) (b2_1 : Int) (b3_0 : List (Int)) (b3_1 : Int) (b3_2 : Int), iter (interp ([spec_l03RepeatedF n, spec_l03RepeatF n, spec_l01AbsF n]) ty 82 0 n spec_BestRepeatskp (codeAt spec_BestRepeatsc [1, 1, 1, 1, 1, 0, 1, 0, 0])) (canon 0 (spec_BestRepeatskp.loop 8)) (kAt ([spec_l03RepeatedF n, spec_l03RepeatF n, spec_l01AbsF n]) ty 82 0 n spec_BestRepeatskp spec_BestRepeatsc [1, 1, 1, 1, 1, 0, 1, 0] [] (ending ty 0 Go.Proofs.Try.f56.results.toList spec_BestRepeatsrs spec_BestRepeatsbs)) k { env := [(11, .one (.ref 0 0 0 0 0 0)), (17, .one (.sc (.int .i64 v17))), (16, .one (.ref 1 0 0 0 0 0)), (15, .one (.ref 2 0 0 0 0 0)), (14, .one (.sc (.int .i64 v14))), (2, .one (.sc (.int .i64 v2))), (5, .one (.ref 3 0 0 0 0 0)), (4, .one (.sc (.int .i64 v4))), (1, .one (.sc (.int .i64 v1))), (3, .one (.sc (.int .i64 v3)))], bx := [(0, .var 26 [.sc (.int .i64 b0_0), .sc (.int .i64 b0_1)]), (1, .var 26 [.sc (.int .i64 b1_0), .sc (.int .i64 b1_1)]), (2, .var 26 [.sc (.int .i64 b2_0), .sc (.int .i64 b2_1)]), (3, .var 62 [.list true (.int .i16) b3_0, .sc (.int .i64 b3_1), .sc (.int .i64 b3_2)])], nx := 4 } = spec_BestRepeats_l8 n k v17 v14 v2 v4 v1 v3 b0_0 b0_1 b1_0 b1_1 b2_0 b2_1 b3_0 b3_1 b3_2
  | 0, _, _, _, _, _, _, _, _, _, _, _, _, _, _, _ => by kernel_rfl
  | k + 1, v17, v14, v2, v4, v1, v3, b0_0, b0_1, b1_0, b1_1, b2_0, b2_1, b3_0, b3_1, b3_2 => by
    have h : iter (interp ([spec_l03RepeatedF n, spec_l03RepeatF n, spec_l01AbsF n]) ty 82 0 n spec_BestRepeatskp (codeAt spec_BestRepeatsc [1, 1, 1, 1, 1, 0, 1, 0, 0])) (canon 0 (spec_BestRepeatskp.loop 8)) (kAt ([spec_l03RepeatedF n, spec_l03RepeatF n, spec_l01AbsF n]) ty 82 0 n spec_BestRepeatskp spec_BestRepeatsc [1, 1, 1, 1, 1, 0, 1, 0] [] (ending ty 0 Go.Proofs.Try.f56.results.toList spec_BestRepeatsrs spec_BestRepeatsbs)) (k + 1) { env := [(11, .one (.ref 0 0 0 0 0 0)), (17, .one (.sc (.int .i64 v17))), (16, .one (.ref 1 0 0 0 0 0)), (15, .one (.ref 2 0 0 0 0 0)), (14, .one (.sc (.int .i64 v14))), (2, .one (.sc (.int .i64 v2))), (5, .one (.ref 3 0 0 0 0 0)), (4, .one (.sc (.int .i64 v4))), (1, .one (.sc (.int .i64 v1))), (3, .one (.sc (.int .i64 v3)))], bx := [(0, .var 26 [.sc (.int .i64 b0_0), .sc (.int .i64 b0_1)]), (1, .var 26 [.sc (.int .i64 b1_0), .sc (.int .i64 b1_1)]), (2, .var 26 [.sc (.int .i64 b2_0), .sc (.int .i64 b2_1)]), (3, .var 62 [.list true (.int .i16) b3_0, .sc (.int .i64 b3_1), .sc (.int .i64 b3_2)])], nx := 4 } = spec_BestRepeats_t8 n (fun v17 v14 v2 v4 v1 v3 b0_0 b0_1 b1_0 b1_1 b2_0 b2_1 b3_0 b3_1 b3_2 => iter (interp ([spec_l03RepeatedF n, spec_l03RepeatF n, spec_l01AbsF n]) ty 82 0 n spec_BestRepeatskp (codeAt spec_BestRepeatsc [1, 1, 1, 1, 1, 0, 1, 0, 0])) (canon 0 (spec_BestRepeatskp.loop 8)) (kAt ([spec_l03RepeatedF n, spec_l03RepeatF n, spec_l01AbsF n]) ty 82 0 n spec_BestRepeatskp spec_BestRepeatsc [1, 1, 1, 1, 1, 0, 1, 0] [] (ending ty 0 Go.Proofs.Try.f56.results.toList spec_BestRepeatsrs spec_BestRepeatsbs)) k { env := [(11, .one (.ref 0 0 0 0 0 0)), (17, .one (.sc (.int .i64 v17))), (16, .one (.ref 1 0 0 0 0 0)), (15, .one (.ref 2 0 0 0 0 0)), (14, .one (.sc (.int .i64 v14))), (2, .one (.sc (.int .i64 v2))), (5, .one (.ref 3 0 0 0 0 0)), (4, .one (.sc (.int .i64 v4))), (1, .one (.sc (.int .i64 v1))), (3, .one (.sc (.int .i64 v3)))], bx := [(0, .var 26 [.sc (.int .i64 b0_0), .sc (.int .i64 b0_1)]), (1, .var 26 [.sc (.int .i64 b1_0), .sc (.int .i64 b1_1)]), (2, .var 26 [.sc (.int .i64 b2_0), .sc (.int .i64 b2_1)]), (3, .var 62 [.list true (.int .i16) b3_0, .sc (.int .i64 b3_1), .sc (.int .i64 b3_2)])], nx := 4 }) v17 v14 v2 v4 v1 v3 b0_0 b0_1 b1_0 b1_1 b2_0 b2_1 b3_0 b3_1 b3_2 := by kernel_rfl
    rw [h]
    have e := congrArg (fun g => spec_BestRepeats_t8 n g v17 v14 v2 v4 v1 v3 b0_0 b0_1 b1_0 b1_1 b2_0 b2_1 b3_0 b3_1 b3_2) (funext fun v17 => funext fun v14 => funext fun v2 => funext fun v4 => funext fun v1 => funext fun v3 => funext fun b0_0 => funext fun b0_1 => funext fun b1_0 => funext fun b1_1 => funext fun b2_0 => funext fun b2_1 => funext fun b3_0 => funext fun b3_1 => funext fun b3_2 => spec_BestRepeats_l8_eq n k v17 v14 v2 v4 v1 v3 b0_0 b0_1 b1_0 b1_1 b2_0 b2_1 b3_0 b3_1 b3_2)
    exact e

theorem spec_BestRepeats_eq (n : Nat) (a0 : (List (Int)) × ((Int) × (Int))) (a1 : Int) (a2 : Int) (a3 : Int) (a4 : Int) : runBody ([spec_l03RepeatedF n, spec_l03RepeatF n, spec_l01AbsF n]) ty 82 n spec_BestRepeatskp spec_BestRepeatsc Go.Proofs.Try.f56.results.toList spec_BestRepeatsrs spec_BestRepeatssp spec_BestRepeatsbs (a0, (a1, (a2, (a3, (a4, ()))))) () = spec_BestRepeats n a0 a1 a2 a3 a4 := by
  have h : runBody ([spec_l03RepeatedF n, spec_l03RepeatF n, spec_l01AbsF n]) ty 82 n spec_BestRepeatskp spec_BestRepeatsc Go.Proofs.Try.f56.results.toList spec_BestRepeatsrs spec_BestRepeatssp spec_BestRepeatsbs (a0, (a1, (a2, (a3, (a4, ()))))) () = spec_BestRepeats_t n (fun k v17 v14 v2 v4 v1 v3 b0_0 b0_1 b1_0 b1_1 b2_0 b2_1 b3_0 b3_1 b3_2 => iter (interp ([spec_l03RepeatedF n, spec_l03RepeatF n, spec_l01AbsF n]) ty 82 0 n spec_BestRepeatskp (codeAt spec_BestRepeatsc [1, 1, 1, 1, 1, 0, 1, 0, 0])) (canon 0 (spec_BestRepeatskp.loop 8)) (kAt ([spec_l03RepeatedF n, spec_l03RepeatF n, spec_l01AbsF n]) ty 82 0 n spec_BestRepeatskp spec_BestRepeatsc [1, 1, 1, 1, 1, 0, 1, 0] [] (ending ty 0 Go.Proofs.Try.f56.results.toList spec_BestRepeatsrs spec_BestRepeatsbs)) k { env := [(11, .one (.ref 0 0 0 0 0 0)), (17, .one (.sc (.int .i64 v17))), (16, .one (.ref 1 0 0 0 0 0)), (15, .one (.ref 2 0 0 0 0 0)), (14, .one (.sc (.int .i64 v14))), (2, .one (.sc (.int .i64 v2))), (5, .one (.ref 3 0 0 0 0 0)), (4, .one (.sc (.int .i64 v4))), (1, .one (.sc (.int .i64 v1))), (3, .one (.sc (.int .i64 v3)))], bx := [(0, .var 26 [.sc (.int .i64 b0_0), .sc (.int .i64 b0_1)]), (1, .var 26 [.sc (.int .i64 b1_0), .sc (.int .i64 b1_1)]), (2, .var 26 [.sc (.int .i64 b2_0), .sc (.int .i64 b2_1)]), (3, .var 62 [.list true (.int .i16) b3_0, .sc (.int .i64 b3_1), .sc (.int .i64 b3_2)])], nx := 4 }) a0 a1 a2 a3 a4 := by kernel_rfl
  rw [h]
  have e := congrArg (fun h8 => spec_BestRepeats_t n h8 a0 a1 a2 a3 a4) (funext fun k => funext fun v17 => funext fun v14 => funext fun v2 => funext fun v4 => funext fun v1 => funext fun v3 => funext fun b0_0 => funext fun b0_1 => funext fun b1_0 => funext fun b1_1 => funext fun b2_0 => funext fun b2_1 => funext fun b3_0 => funext fun b3_1 => funext fun b3_2 => spec_BestRepeats_l8_eq n k v17 v14 v2 v4 v1 v3 b0_0 b0_1 b1_0 b1_1 b2_0 b2_1 b3_0 b3_1 b3_2)
  exact e

theorem spec_BestRepeats_ok (n : Nat) : FunOk P (spec_BestRepeatsF n) :=
  funOk_mk (C := [spec_l03RepeatedF n, spec_l03RepeatF n, spec_l01AbsF n]) (N := 82) (kp := spec_BestRepeatskp) (c := spec_BestRepeatsc) (n := n) (G := fun x y => spec_BestRepeats n x.1 x.2.1 x.2.2.1 x.2.2.2.1 x.2.2.2.2.1) follows (AllOk.mem (⟨spec_l03Repeated_ok n, ⟨spec_l03Repeat_ok n, ⟨spec_l01Abs_ok n, trivial⟩⟩⟩ : AllOk P ([spec_l03RepeatedF n, spec_l03RepeatF n, spec_l01AbsF n]))) (by kernel_rfl : P.funcs[56]? = some Go.Proofs.Try.f56) (by kernel_rfl) (by kernel_rfl) (by kernel_rfl)
    (fun x y => spec_BestRepeats_eq n x.1 x.2.1 x.2.2.1 x.2.2.2.1 x.2.2.2.2.1) (fun _ _ => map_same (fun _ => rfl) _) (fun _ _ _ _ => rfl)

abbrev laws_FnRepeatssp : List Sp := [.v false (.list (.int .u8)), .v false (.list (.int .u8))]
abbrev laws_FnRepeatsbs : List (Bs × Bool) := []
abbrev laws_FnRepeatsrs : List (Bool × List Rp) := [(false, [.v false .bool])]
noncomputable def laws_FnRepeatskp : Keep := { loop := fun id => match id with | _ => ([], []), join := fun id => match id with | _ => none }
noncomputable def laws_FnRepeatsc : Code := bodyOf Go.Proofs.Try.f7
noncomputable def laws_FnRepeatsF (n : Nat) : Fun := { id := 7, sp := laws_FnRepeatssp, bs := laws_FnRepeatsbs, rs := laws_FnRepeatsrs, f := fun x y => laws_FnRepeats n x.1 x.2.1 }

theorem laws_FnRepeats_eq (n : Nat) (a0 : List (Int)) (a1 : List (Int)) : runBody ([laws_a2LongF n, spec_A2DiskF n, spec_A2AngleF n, laws_a2AtF n, impl_RepeatAngleF n, spec_RepeatAngleF n, impl_WrapAngleF n, impl_WorstHeadF n, impl_BestRepeatsF n, spec_BestRepeatsF n]) ty 269 n laws_FnRepeatskp laws_FnRepeatsc Go.Proofs.Try.f7.results.toList laws_FnRepeatsrs laws_FnRepeatssp laws_FnRepeatsbs (a0, (a1, ())) () = laws_FnRepeats n a0 a1 := by
  have h : runBody ([laws_a2LongF n, spec_A2DiskF n, spec_A2AngleF n, laws_a2AtF n, impl_RepeatAngleF n, spec_RepeatAngleF n, impl_WrapAngleF n, impl_WorstHeadF n, impl_BestRepeatsF n, spec_BestRepeatsF n]) ty 269 n laws_FnRepeatskp laws_FnRepeatsc Go.Proofs.Try.f7.results.toList laws_FnRepeatsrs laws_FnRepeatssp laws_FnRepeatsbs (a0, (a1, ())) () = laws_FnRepeats_t n a0 a1 := by kernel_rfl
  rw [h]
  rfl

theorem laws_FnRepeats_ok (n : Nat) : FunOk P (laws_FnRepeatsF n) :=
  funOk_mk (C := [laws_a2LongF n, spec_A2DiskF n, spec_A2AngleF n, laws_a2AtF n, impl_RepeatAngleF n, spec_RepeatAngleF n, impl_WrapAngleF n, impl_WorstHeadF n, impl_BestRepeatsF n, spec_BestRepeatsF n]) (N := 269) (kp := laws_FnRepeatskp) (c := laws_FnRepeatsc) (n := n) (G := fun x y => laws_FnRepeats n x.1 x.2.1) follows (AllOk.mem (⟨laws_a2Long_ok n, ⟨spec_A2Disk_ok n, ⟨spec_A2Angle_ok n, ⟨laws_a2At_ok n, ⟨impl_RepeatAngle_ok n, ⟨spec_RepeatAngle_ok n, ⟨impl_WrapAngle_ok n, ⟨impl_WorstHead_ok n, ⟨impl_BestRepeats_ok n, ⟨spec_BestRepeats_ok n, trivial⟩⟩⟩⟩⟩⟩⟩⟩⟩⟩ : AllOk P ([laws_a2LongF n, spec_A2DiskF n, spec_A2AngleF n, laws_a2AtF n, impl_RepeatAngleF n, spec_RepeatAngleF n, impl_WrapAngleF n, impl_WorstHeadF n, impl_BestRepeatsF n, spec_BestRepeatsF n]))) (by kernel_rfl : P.funcs[7]? = some Go.Proofs.Try.f7) (by kernel_rfl) (by kernel_rfl) (by kernel_rfl)
    (fun x y => laws_FnRepeats_eq n x.1 x.2.1) (fun _ _ => map_same (fun _ => rfl) _) (fun _ _ _ _ => rfl)

end Go.Abs
