import Derived.Test.YtipjecagbndhbaaDPHeads0
import Derived.Test.YtipjecagbndhbaaProg
import Derived.Test.YtipjecagbndhbaaRow
import Derived.KernelRfl
namespace Go.Abs
open Go.Proofs
set_option maxRecDepth 100000
set_option linter.unusedVariables false

noncomputable abbrev P : Program := Try.prog
noncomputable abbrev ty : Nat → Option TyI := tyOf P
def bodyOf (f : Func) : Code := match f.body with | some c => c | none => .skip
theorem follows : P.follows .mixedOrders = true := by kernel_rfl

abbrev laws_a2Longsp : List Sp := [.v false (.list (.int .u8)), .v false (.list (.int .u8))]
abbrev laws_a2Longbs : List (Bs × Bool) := []
abbrev laws_a2Longrs : List (Bool × List Rp) := [(false, [.v false .bool])]
noncomputable def laws_a2Longkp : Keep := { loop := fun id => match id with | _ => ([], []), join := fun id => match id with | _ => none }
noncomputable def laws_a2Longc : Code := bodyOf Go.Proofs.Try.f29
noncomputable def laws_a2LongF (n : Nat) : Fun := { id := 29, sp := laws_a2Longsp, bs := laws_a2Longbs, rs := laws_a2Longrs, f := fun x y => laws_a2Long n x.1 x.2.1 }

theorem laws_a2Long_eq (n : Nat) (a0 : List (Int)) (a1 : List (Int)) : runBody ([]) ty 13 n laws_a2Longkp laws_a2Longc Go.Proofs.Try.f29.results.toList laws_a2Longrs laws_a2Longsp laws_a2Longbs (a0, (a1, ())) () = laws_a2Long n a0 a1 := by
  have h : runBody ([]) ty 13 n laws_a2Longkp laws_a2Longc Go.Proofs.Try.f29.results.toList laws_a2Longrs laws_a2Longsp laws_a2Longbs (a0, (a1, ())) () = laws_a2Long_t n a0 a1 := by kernel_rfl
  rw [h]
  rfl

theorem laws_a2Long_ok (n : Nat) : FunOk P (laws_a2LongF n) :=
  funOk_mk (C := []) (N := 13) (kp := laws_a2Longkp) (c := laws_a2Longc) (n := n) (G := fun x y => laws_a2Long n x.1 x.2.1) follows (AllOk.mem (trivial : AllOk P ([]))) (by kernel_rfl : P.funcs[29]? = some Go.Proofs.Try.f29) (by kernel_rfl) (by kernel_rfl) (by kernel_rfl)
    (fun x y => laws_a2Long_eq n x.1 x.2.1) (fun _ _ => map_same (fun _ => rfl) _) (fun _ _ _ _ => rfl)

abbrev spec_l00Fromsp : List Sp := [.v false (.list (.int .u8))]
abbrev spec_l00Frombs : List (Bs × Bool) := []
abbrev spec_l00Fromrs : List (Bool × List Rp) := [(false, [.nvar 226 (.pair (.list (.int .u8)) (.pair (.int .i64) (.int .u64)))])]
noncomputable def spec_l00Fromkp : Keep := { loop := fun id => match id with | _ => ([], []), join := fun id => match id with | _ => none }
noncomputable def spec_l00Fromc : Code := bodyOf Go.Proofs.Try.f115
noncomputable def spec_l00FromF (n : Nat) : Fun := { id := 115, sp := spec_l00Fromsp, bs := spec_l00Frombs, rs := spec_l00Fromrs, f := fun x y => spec_l00From n x.1 }

theorem spec_l00From_eq (n : Nat) (a0 : List (Int)) : runBody ([]) ty 6 n spec_l00Fromkp spec_l00Fromc Go.Proofs.Try.f115.results.toList spec_l00Fromrs spec_l00Fromsp spec_l00Frombs (a0, ()) () = spec_l00From n a0 := by
  have h : runBody ([]) ty 6 n spec_l00Fromkp spec_l00Fromc Go.Proofs.Try.f115.results.toList spec_l00Fromrs spec_l00Fromsp spec_l00Frombs (a0, ()) () = spec_l00From_t n a0 := by kernel_rfl
  rw [h]
  rfl

theorem spec_l00From_ok (n : Nat) : FunOk P (spec_l00FromF n) :=
  funOk_mk (C := []) (N := 6) (kp := spec_l00Fromkp) (c := spec_l00Fromc) (n := n) (G := fun x y => spec_l00From n x.1) follows (AllOk.mem (trivial : AllOk P ([]))) (by kernel_rfl : P.funcs[115]? = some Go.Proofs.Try.f115) (by kernel_rfl) (by kernel_rfl) (by kernel_rfl)
    (fun x y => spec_l00From_eq n x.1) (fun _ _ => map_same (fun _ => rfl) _) (fun _ _ _ _ => rfl)

abbrev spec_l00Src_nextsp : List Sp := [.ref 0]
abbrev spec_l00Src_nextbs : List (Bs × Bool) := [(.var 226 (.pair (.list (.int .u8)) (.pair (.int .i64) (.int .u64))), true)]
abbrev spec_l00Src_nextrs : List (Bool × List Rp) := [(false, [.v false (.int .i64)])]
noncomputable def spec_l00Src_nextkp : Keep := { loop := fun id => match id with | _ => ([], []), join := fun id => match id with | _ => none }
noncomputable def spec_l00Src_nextc : Code := bodyOf Go.Proofs.Try.f238
noncomputable def spec_l00Src_nextF (n : Nat) : Fun := { id := 238, sp := spec_l00Src_nextsp, bs := spec_l00Src_nextbs, rs := spec_l00Src_nextrs, f := fun x y => spec_l00Src_next n y.1 }

theorem spec_l00Src_next_eq (n : Nat) (b0 : (List (Int)) × ((Int) × (Int))) : runBody ([]) ty 62 n spec_l00Src_nextkp spec_l00Src_nextc Go.Proofs.Try.f238.results.toList spec_l00Src_nextrs spec_l00Src_nextsp spec_l00Src_nextbs ((), ()) (b0, ()) = spec_l00Src_next n b0 := by
  have h : runBody ([]) ty 62 n spec_l00Src_nextkp spec_l00Src_nextc Go.Proofs.Try.f238.results.toList spec_l00Src_nextrs spec_l00Src_nextsp spec_l00Src_nextbs ((), ()) (b0, ()) = spec_l00Src_next_t n b0 := by kernel_rfl
  rw [h]
  rfl

theorem spec_l00Src_next_ok (n : Nat) : FunOk P (spec_l00Src_nextF n) :=
  funOk_mk (C := []) (N := 62) (kp := spec_l00Src_nextkp) (c := spec_l00Src_nextc) (n := n) (G := fun x y => spec_l00Src_next n y.1) follows (AllOk.mem (trivial : AllOk P ([]))) (by kernel_rfl : P.funcs[238]? = some Go.Proofs.Try.f238) (by kernel_rfl) (by kernel_rfl) (by kernel_rfl)
    (fun x y => spec_l00Src_next_eq n y.1) (fun _ _ => map_same (fun _ => rfl) _) (fun _ _ _ _ => rfl)

abbrev spec_l00Src_picksp : List Sp := [.ref 0, .v false (.int .i64)]
abbrev spec_l00Src_pickbs : List (Bs × Bool) := [(.var 226 (.pair (.list (.int .u8)) (.pair (.int .i64) (.int .u64))), true)]
abbrev spec_l00Src_pickrs : List (Bool × List Rp) := [(false, [.v false (.int .i64)])]
noncomputable def spec_l00Src_pickkp : Keep := { loop := fun id => match id with | _ => ([], []), join := fun id => match id with | _ => none }
noncomputable def spec_l00Src_pickc : Code := bodyOf Go.Proofs.Try.f146
noncomputable def spec_l00Src_pickF (n : Nat) : Fun := { id := 146, sp := spec_l00Src_picksp, bs := spec_l00Src_pickbs, rs := spec_l00Src_pickrs, f := fun x y => spec_l00Src_pick n x.2.1 y.1 }

theorem spec_l00Src_pick_eq (n : Nat) (a1 : Int) (b0 : (List (Int)) × ((Int) × (Int))) : runBody ([spec_l00Src_nextF n]) ty 20 n spec_l00Src_pickkp spec_l00Src_pickc Go.Proofs.Try.f146.results.toList spec_l00Src_pickrs spec_l00Src_picksp spec_l00Src_pickbs ((), (a1, ())) (b0, ()) = spec_l00Src_pick n a1 b0 := by
  have h : runBody ([spec_l00Src_nextF n]) ty 20 n spec_l00Src_pickkp spec_l00Src_pickc Go.Proofs.Try.f146.results.toList spec_l00Src_pickrs spec_l00Src_picksp spec_l00Src_pickbs ((), (a1, ())) (b0, ()) = spec_l00Src_pick_t n a1 b0 := by kernel_rfl
  rw [h]
  rfl

theorem spec_l00Src_pick_ok (n : Nat) : FunOk P (spec_l00Src_pickF n) :=
  funOk_mk (C := [spec_l00Src_nextF n]) (N := 20) (kp := spec_l00Src_pickkp) (c := spec_l00Src_pickc) (n := n) (G := fun x y => spec_l00Src_pick n x.2.1 y.1) follows (AllOk.mem (⟨spec_l00Src_next_ok n, trivial⟩ : AllOk P ([spec_l00Src_nextF n]))) (by kernel_rfl : P.funcs[146]? = some Go.Proofs.Try.f146) (by kernel_rfl) (by kernel_rfl) (by kernel_rfl)
    (fun x y => spec_l00Src_pick_eq n x.2.1 y.1) (fun _ _ => map_same (fun _ => rfl) _) (fun _ _ _ _ => rfl)

abbrev spec_l00Src_amongsp : List Sp := [.ref 0, .sl 1]
abbrev spec_l00Src_amongbs : List (Bs × Bool) := [(.var 226 (.pair (.list (.int .u8)) (.pair (.int .i64) (.int .u64))), true), (.row  (.int .i64), true)]
abbrev spec_l00Src_amongrs : List (Bool × List Rp) := [(false, [.v false (.int .i64)])]
noncomputable def spec_l00Src_amongkp : Keep := { loop := fun id => match id with | _ => ([], []), join := fun id => match id with | _ => none }
noncomputable def spec_l00Src_amongc : Code := bodyOf Go.Proofs.Try.f144
noncomputable def spec_l00Src_amongF (n : Nat) : Fun := { id := 144, sp := spec_l00Src_amongsp, bs := spec_l00Src_amongbs, rs := spec_l00Src_amongrs, f := fun x y => spec_l00Src_among n y.1 y.2.1 }

theorem spec_l00Src_among_eq (n : Nat) (b0 : (List (Int)) × ((Int) × (Int))) (b1 : List (Int)) : runBody ([spec_l00Src_pickF n]) ty 12 n spec_l00Src_amongkp spec_l00Src_amongc Go.Proofs.Try.f144.results.toList spec_l00Src_amongrs spec_l00Src_amongsp spec_l00Src_amongbs ((), ((), ())) (b0, (b1, ())) = spec_l00Src_among n b0 b1 := by
  have h : runBody ([spec_l00Src_pickF n]) ty 12 n spec_l00Src_amongkp spec_l00Src_amongc Go.Proofs.Try.f144.results.toList spec_l00Src_amongrs spec_l00Src_amongsp spec_l00Src_amongbs ((), ((), ())) (b0, (b1, ())) = spec_l00Src_among_t n b0 b1 := by kernel_rfl
  rw [h]
  rfl

theorem spec_l00Src_among_ok (n : Nat) : FunOk P (spec_l00Src_amongF n) :=
  funOk_mk (C := [spec_l00Src_pickF n]) (N := 12) (kp := spec_l00Src_amongkp) (c := spec_l00Src_amongc) (n := n) (G := fun x y => spec_l00Src_among n y.1 y.2.1) follows (AllOk.mem (⟨spec_l00Src_pick_ok n, trivial⟩ : AllOk P ([spec_l00Src_pickF n]))) (by kernel_rfl : P.funcs[144]? = some Go.Proofs.Try.f144) (by kernel_rfl) (by kernel_rfl) (by kernel_rfl)
    (fun x y => spec_l00Src_among_eq n y.1 y.2.1) (fun _ _ => map_same (fun _ => rfl) _) (fun _ _ _ _ => rfl)

abbrev spec_l00Src_onesp : List Sp := [.ref 0, .v false (.int .i64)]
abbrev spec_l00Src_onebs : List (Bs × Bool) := [(.var 226 (.pair (.list (.int .u8)) (.pair (.int .i64) (.int .u64))), true)]
abbrev spec_l00Src_oners : List (Bool × List Rp) := [(false, [.v false .bool])]
noncomputable def spec_l00Src_onekp : Keep := { loop := fun id => match id with | _ => ([], []), join := fun id => match id with | _ => none }
noncomputable def spec_l00Src_onec : Code := bodyOf Go.Proofs.Try.f200
noncomputable def spec_l00Src_oneF (n : Nat) : Fun := { id := 200, sp := spec_l00Src_onesp, bs := spec_l00Src_onebs, rs := spec_l00Src_oners, f := fun x y => spec_l00Src_one n x.2.1 y.1 }

theorem spec_l00Src_one_eq (n : Nat) (a1 : Int) (b0 : (List (Int)) × ((Int) × (Int))) : runBody ([spec_l00Src_pickF n]) ty 9 n spec_l00Src_onekp spec_l00Src_onec Go.Proofs.Try.f200.results.toList spec_l00Src_oners spec_l00Src_onesp spec_l00Src_onebs ((), (a1, ())) (b0, ()) = spec_l00Src_one n a1 b0 := by
  have h : runBody ([spec_l00Src_pickF n]) ty 9 n spec_l00Src_onekp spec_l00Src_onec Go.Proofs.Try.f200.results.toList spec_l00Src_oners spec_l00Src_onesp spec_l00Src_onebs ((), (a1, ())) (b0, ()) = spec_l00Src_one_t n a1 b0 := by kernel_rfl
  rw [h]
  rfl

theorem spec_l00Src_one_ok (n : Nat) : FunOk P (spec_l00Src_oneF n) :=
  funOk_mk (C := [spec_l00Src_pickF n]) (N := 9) (kp := spec_l00Src_onekp) (c := spec_l00Src_onec) (n := n) (G := fun x y => spec_l00Src_one n x.2.1 y.1) follows (AllOk.mem (⟨spec_l00Src_pick_ok n, trivial⟩ : AllOk P ([spec_l00Src_pickF n]))) (by kernel_rfl : P.funcs[200]? = some Go.Proofs.Try.f200) (by kernel_rfl) (by kernel_rfl) (by kernel_rfl)
    (fun x y => spec_l00Src_one_eq n x.2.1 y.1) (fun _ _ => map_same (fun _ => rfl) _) (fun _ _ _ _ => rfl)

abbrev spec_l03Drawnsp : List Sp := [.ref 0]
abbrev spec_l03Drawnbs : List (Bs × Bool) := [(.var 226 (.pair (.list (.int .u8)) (.pair (.int .i64) (.int .u64))), true)]
abbrev spec_l03Drawnrs : List (Bool × List Rp) := [(true, [.v false (.pair (.list (.int .i16)) (.pair (.int .i64) (.int .i64)))])]
noncomputable def spec_l03Drawnkp : Keep := { loop := fun id => match id with | 3 => ([4, 3, 0, 2], [.box 1 0 (.int .i16)]) | _ => ([], []), join := fun id => match id with | 8 => some ([3, 0, 2, 4, 5], []) | 12 => some ([2, 3], []) | _ => none }
noncomputable def spec_l03Drawnc : Code := bodyOf Go.Proofs.Try.f157
noncomputable def spec_l03DrawnF (n : Nat) : Fun := { id := 157, sp := spec_l03Drawnsp, bs := spec_l03Drawnbs, rs := spec_l03Drawnrs, f := fun x y => spec_l03Drawn n y.1 }

theorem spec_l03Drawn_j12_eq (n : Nat) (b0_0 : List (Int)) (b0_1 : Int) (b0_2 : Int) (b1_1 : Int) (b1_2 : Int) (b2_1 : Int) (b2_2 : Int) (b3 : List (Int)) : (interp ([spec_l00Src_amongF n, spec_l00Src_oneF n, spec_l00Src_pickF n]) ty 38 1 n spec_l03Drawnkp (codeAt spec_l03Drawnc [1, 1, 1, 1])) { env := [(2, .one (.ref 1 0 0 0 0 0)), (3, .one (.ref 2 0 0 0 0 0))], bx := [(0, .var 226 [.list true (.int .u8) b0_0, .sc (.int .i64 b0_1), .sc (.int .u64 b0_2)]), (1, .var 62 [.sc (.slice none 0 0), .sc (.int .i64 b1_1), .sc (.int .i64 b1_2)]), (2, .var 62 [.slice 3 0 none, .sc (.int .i64 b2_1), .sc (.int .i64 b2_2)]), (3, .row 0 (.int .i16) b3)], nx := 4 } (kAt ([spec_l00Src_amongF n, spec_l00Src_oneF n, spec_l00Src_pickF n]) ty 38 1 n spec_l03Drawnkp spec_l03Drawnc [1, 1, 1, 1] [] (ending ty 1 Go.Proofs.Try.f157.results.toList spec_l03Drawnrs spec_l03Drawnbs)) = spec_l03Drawn_j12 n b0_0 b0_1 b0_2 b1_1 b1_2 b2_1 b2_2 b3 := by
  have h : (interp ([spec_l00Src_amongF n, spec_l00Src_oneF n, spec_l00Src_pickF n]) ty 38 1 n spec_l03Drawnkp (codeAt spec_l03Drawnc [1, 1, 1, 1])) { env := [(2, .one (.ref 1 0 0 0 0 0)), (3, .one (.ref 2 0 0 0 0 0))], bx := [(0, .var 226 [.list true (.int .u8) b0_0, .sc (.int .i64 b0_1), .sc (.int .u64 b0_2)]), (1, .var 62 [.sc (.slice none 0 0), .sc (.int .i64 b1_1), .sc (.int .i64 b1_2)]), (2, .var 62 [.slice 3 0 none, .sc (.int .i64 b2_1), .sc (.int .i64 b2_2)]), (3, .row 0 (.int .i16) b3)], nx := 4 } (kAt ([spec_l00Src_amongF n, spec_l00Src_oneF n, spec_l00Src_pickF n]) ty 38 1 n spec_l03Drawnkp spec_l03Drawnc [1, 1, 1, 1] [] (ending ty 1 Go.Proofs.Try.f157.results.toList spec_l03Drawnrs spec_l03Drawnbs)) = spec_l03Drawn_t12 n b0_0 b0_1 b0_2 b1_1 b1_2 b2_1 b2_2 b3 := by kernel_rfl
  rw [h]
  rfl

theorem spec_l03Drawn_j8_eq (n : Nat) (G3 : St → Option (((((List (Int)) × ((Int) × (Int))) × (Unit)) × (Unit)) × (((List (Int)) × ((Int) × (Int))) × (Unit)))) (v4 : Int) (v5 : Int) (b0_0 : List (Int)) (b0_1 : Int) (b0_2 : Int) (b1_1 : Int) (b1_2 : Int) (b2_1 : Int) (b2_2 : Int) (b3 : List (Int)) : (interp ([spec_l00Src_amongF n, spec_l00Src_oneF n, spec_l00Src_pickF n]) ty 38 1 n spec_l03Drawnkp (codeAt spec_l03Drawnc [1, 1, 0, 1, 0, 0, 1, 0, 0, 1, 1])) { env := [(3, .one (.ref 1 0 0 0 0 0)), (0, .one (.ref 0 0 0 0 0 0)), (2, .one (.ref 2 0 0 0 0 0)), (4, .one (.sc (.int .i64 v4))), (5, .one (.sc (.int .i16 v5)))], bx := [(0, .var 226 [.list true (.int .u8) b0_0, .sc (.int .i64 b0_1), .sc (.int .u64 b0_2)]), (1, .var 62 [.slice 3 0 none, .sc (.int .i64 b1_1), .sc (.int .i64 b1_2)]), (2, .var 62 [.sc (.slice none 0 0), .sc (.int .i64 b2_1), .sc (.int .i64 b2_2)]), (3, .row 0 (.int .i16) b3)], nx := 4 } (kAt ([spec_l00Src_amongF n, spec_l00Src_oneF n, spec_l00Src_pickF n]) ty 38 1 n spec_l03Drawnkp spec_l03Drawnc [1, 1, 0, 1, 0, 0, 1, 0, 0, 1, 1] [G3] (ending ty 1 Go.Proofs.Try.f157.results.toList spec_l03Drawnrs spec_l03Drawnbs)) = spec_l03Drawn_j8 n (fun v4 b0_0 b0_1 b0_2 b1_1 b1_2 b2_1 b2_2 b3 => G3 { env := [(4, .one (.sc (.int .i64 v4))), (3, .one (.ref 1 0 0 0 0 0)), (0, .one (.ref 0 0 0 0 0 0)), (2, .one (.ref 2 0 0 0 0 0))], bx := [(0, .var 226 [.list true (.int .u8) b0_0, .sc (.int .i64 b0_1), .sc (.int .u64 b0_2)]), (1, .var 62 [.slice 3 0 none, .sc (.int .i64 b1_1), .sc (.int .i64 b1_2)]), (2, .var 62 [.sc (.slice none 0 0), .sc (.int .i64 b2_1), .sc (.int .i64 b2_2)]), (3, .row 0 (.int .i16) b3)], nx := 4 }) v4 v5 b0_0 b0_1 b0_2 b1_1 b1_2 b2_1 b2_2 b3 := by
  have h : (interp ([spec_l00Src_amongF n, spec_l00Src_oneF n, spec_l00Src_pickF n]) ty 38 1 n spec_l03Drawnkp (codeAt spec_l03Drawnc [1, 1, 0, 1, 0, 0, 1, 0, 0, 1, 1])) { env := [(3, .one (.ref 1 0 0 0 0 0)), (0, .one (.ref 0 0 0 0 0 0)), (2, .one (.ref 2 0 0 0 0 0)), (4, .one (.sc (.int .i64 v4))), (5, .one (.sc (.int .i16 v5)))], bx := [(0, .var 226 [.list true (.int .u8) b0_0, .sc (.int .i64 b0_1), .sc (.int .u64 b0_2)]), (1, .var 62 [.slice 3 0 none, .sc (.int .i64 b1_1), .sc (.int .i64 b1_2)]), (2, .var 62 [.sc (.slice none 0 0), .sc (.int .i64 b2_1), .sc (.int .i64 b2_2)]), (3, .row 0 (.int .i16) b3)], nx := 4 } (kAt ([spec_l00Src_amongF n, spec_l00Src_oneF n, spec_l00Src_pickF n]) ty 38 1 n spec_l03Drawnkp spec_l03Drawnc [1, 1, 0, 1, 0, 0, 1, 0, 0, 1, 1] [G3] (ending ty 1 Go.Proofs.Try.f157.results.toList spec_l03Drawnrs spec_l03Drawnbs)) = spec_l03Drawn_t8 n (fun v4 b0_0 b0_1 b0_2 b1_1 b1_2 b2_1 b2_2 b3 => G3 { env := [(4, .one (.sc (.int .i64 v4))), (3, .one (.ref 1 0 0 0 0 0)), (0, .one (.ref 0 0 0 0 0 0)), (2, .one (.ref 2 0 0 0 0 0))], bx := [(0, .var 226 [.list true (.int .u8) b0_0, .sc (.int .i64 b0_1), .sc (.int .u64 b0_2)]), (1, .var 62 [.slice 3 0 none, .sc (.int .i64 b1_1), .sc (.int .i64 b1_2)]), (2, .var 62 [.sc (.slice none 0 0), .sc (.int .i64 b2_1), .sc (.int .i64 b2_2)]), (3, .row 0 (.int .i16) b3)], nx := 4 }) v4 v5 b0_0 b0_1 b0_2 b1_1 b1_2 b2_1 b2_2 b3 := by kernel_rfl
  rw [h]
  rfl

theorem spec_l03Drawn_l3_eq (n : Nat) : ∀ (k : Nat) (v4 : Int) (b0_0 : List (Int)) (b0_1 : Int) (b0_2 : Int) (b1_1 : Int) (b1_2 : Int) (b2_1 : Int) (b2_2 : Int) (b3 : List (Int)), iter (interp ([spec_l00Src_amongF n, spec_l00Src_oneF n, spec_l00Src_pickF n]) ty 38 1 n spec_l03Drawnkp (codeAt spec_l03Drawnc [1, 1, 0, 1, 0, 0])) (canon 1 (spec_l03Drawnkp.loop 3)) (kAt ([spec_l00Src_amongF n, spec_l00Src_oneF n, spec_l00Src_pickF n]) ty 38 1 n spec_l03Drawnkp spec_l03Drawnc [1, 1, 0, 1, 0] [] (ending ty 1 Go.Proofs.Try.f157.results.toList spec_l03Drawnrs spec_l03Drawnbs)) k { env := [(4, .one (.sc (.int .i64 v4))), (3, .one (.ref 1 0 0 0 0 0)), (0, .one (.ref 0 0 0 0 0 0)), (2, .one (.ref 2 0 0 0 0 0))], bx := [(0, .var 226 [.list true (.int .u8) b0_0, .sc (.int .i64 b0_1), .sc (.int .u64 b0_2)]), (1, .var 62 [.slice 3 0 none, .sc (.int .i64 b1_1), .sc (.int .i64 b1_2)]), (2, .var 62 [.sc (.slice none 0 0), .sc (.int .i64 b2_1), .sc (.int .i64 b2_2)]), (3, .row 0 (.int .i16) b3)], nx := 4 } = spec_l03Drawn_l3 n k v4 b0_0 b0_1 b0_2 b1_1 b1_2 b2_1 b2_2 b3
  | 0, _, _, _, _, _, _, _, _, _ => by kernel_rfl
  | k + 1, v4, b0_0, b0_1, b0_2, b1_1, b1_2, b2_1, b2_2, b3 => by
    have h : iter (interp ([spec_l00Src_amongF n, spec_l00Src_oneF n, spec_l00Src_pickF n]) ty 38 1 n spec_l03Drawnkp (codeAt spec_l03Drawnc [1, 1, 0, 1, 0, 0])) (canon 1 (spec_l03Drawnkp.loop 3)) (kAt ([spec_l00Src_amongF n, spec_l00Src_oneF n, spec_l00Src_pickF n]) ty 38 1 n spec_l03Drawnkp spec_l03Drawnc [1, 1, 0, 1, 0] [] (ending ty 1 Go.Proofs.Try.f157.results.toList spec_l03Drawnrs spec_l03Drawnbs)) (k + 1) { env := [(4, .one (.sc (.int .i64 v4))), (3, .one (.ref 1 0 0 0 0 0)), (0, .one (.ref 0 0 0 0 0 0)), (2, .one (.ref 2 0 0 0 0 0))], bx := [(0, .var 226 [.list true (.int .u8) b0_0, .sc (.int .i64 b0_1), .sc (.int .u64 b0_2)]), (1, .var 62 [.slice 3 0 none, .sc (.int .i64 b1_1), .sc (.int .i64 b1_2)]), (2, .var 62 [.sc (.slice none 0 0), .sc (.int .i64 b2_1), .sc (.int .i64 b2_2)]), (3, .row 0 (.int .i16) b3)], nx := 4 } = spec_l03Drawn_t3 n (fun v4 v5 b0_0 b0_1 b0_2 b1_1 b1_2 b2_1 b2_2 b3 => (interp ([spec_l00Src_amongF n, spec_l00Src_oneF n, spec_l00Src_pickF n]) ty 38 1 n spec_l03Drawnkp (codeAt spec_l03Drawnc [1, 1, 0, 1, 0, 0, 1, 0, 0, 1, 1])) { env := [(3, .one (.ref 1 0 0 0 0 0)), (0, .one (.ref 0 0 0 0 0 0)), (2, .one (.ref 2 0 0 0 0 0)), (4, .one (.sc (.int .i64 v4))), (5, .one (.sc (.int .i16 v5)))], bx := [(0, .var 226 [.list true (.int .u8) b0_0, .sc (.int .i64 b0_1), .sc (.int .u64 b0_2)]), (1, .var 62 [.slice 3 0 none, .sc (.int .i64 b1_1), .sc (.int .i64 b1_2)]), (2, .var 62 [.sc (.slice none 0 0), .sc (.int .i64 b2_1), .sc (.int .i64 b2_2)]), (3, .row 0 (.int .i16) b3)], nx := 4 } (kAt ([spec_l00Src_amongF n, spec_l00Src_oneF n, spec_l00Src_pickF n]) ty 38 1 n spec_l03Drawnkp spec_l03Drawnc [1, 1, 0, 1, 0, 0, 1, 0, 0, 1, 1] [(fun s => iter (interp ([spec_l00Src_amongF n, spec_l00Src_oneF n, spec_l00Src_pickF n]) ty 38 1 n spec_l03Drawnkp (codeAt spec_l03Drawnc [1, 1, 0, 1, 0, 0])) (canon 1 (spec_l03Drawnkp.loop 3)) (kAt ([spec_l00Src_amongF n, spec_l00Src_oneF n, spec_l00Src_pickF n]) ty 38 1 n spec_l03Drawnkp spec_l03Drawnc [1, 1, 0, 1, 0] [] (ending ty 1 Go.Proofs.Try.f157.results.toList spec_l03Drawnrs spec_l03Drawnbs)) k s)] (ending ty 1 Go.Proofs.Try.f157.results.toList spec_l03Drawnrs spec_l03Drawnbs))) (fun b0_0 b0_1 b0_2 b1_1 b1_2 b2_1 b2_2 b3 => (interp ([spec_l00Src_amongF n, spec_l00Src_oneF n, spec_l00Src_pickF n]) ty 38 1 n spec_l03Drawnkp (codeAt spec_l03Drawnc [1, 1, 1, 1])) { env := [(2, .one (.ref 1 0 0 0 0 0)), (3, .one (.ref 2 0 0 0 0 0))], bx := [(0, .var 226 [.list true (.int .u8) b0_0, .sc (.int .i64 b0_1), .sc (.int .u64 b0_2)]), (1, .var 62 [.sc (.slice none 0 0), .sc (.int .i64 b1_1), .sc (.int .i64 b1_2)]), (2, .var 62 [.slice 3 0 none, .sc (.int .i64 b2_1), .sc (.int .i64 b2_2)]), (3, .row 0 (.int .i16) b3)], nx := 4 } (kAt ([spec_l00Src_amongF n, spec_l00Src_oneF n, spec_l00Src_pickF n]) ty 38 1 n spec_l03Drawnkp spec_l03Drawnc [1, 1, 1, 1] [] (ending ty 1 Go.Proofs.Try.f157.results.toList spec_l03Drawnrs spec_l03Drawnbs))) (fun v4 b0_0 b0_1 b0_2 b1_1 b1_2 b2_1 b2_2 b3 => iter (interp ([spec_l00Src_amongF n, spec_l00Src_oneF n, spec_l00Src_pickF n]) ty 38 1 n spec_l03Drawnkp (codeAt spec_l03Drawnc [1, 1, 0, 1, 0, 0])) (canon 1 (spec_l03Drawnkp.loop 3)) (kAt ([spec_l00Src_amongF n, spec_l00Src_oneF n, spec_l00Src_pickF n]) ty 38 1 n spec_l03Drawnkp spec_l03Drawnc [1, 1, 0, 1, 0] [] (ending ty 1 Go.Proofs.Try.f157.results.toList spec_l03Drawnrs spec_l03Drawnbs)) k { env := [(4, .one (.sc (.int .i64 v4))), (3, .one (.ref 1 0 0 0 0 0)), (0, .one (.ref 0 0 0 0 0 0)), (2, .one (.ref 2 0 0 0 0 0))], bx := [(0, .var 226 [.list true (.int .u8) b0_0, .sc (.int .i64 b0_1), .sc (.int .u64 b0_2)]), (1, .var 62 [.slice 3 0 none, .sc (.int .i64 b1_1), .sc (.int .i64 b1_2)]), (2, .var 62 [.sc (.slice none 0 0), .sc (.int .i64 b2_1), .sc (.int .i64 b2_2)]), (3, .row 0 (.int .i16) b3)], nx := 4 }) v4 b0_0 b0_1 b0_2 b1_1 b1_2 b2_1 b2_2 b3 := by kernel_rfl
    rw [h]
    have e := congr (congr (congrArg (fun h8 h12 g => spec_l03Drawn_t3 n h8 h12 g v4 b0_0 b0_1 b0_2 b1_1 b1_2 b2_1 b2_2 b3) ((funext fun v4 => funext fun v5 => funext fun b0_0 => funext fun b0_1 => funext fun b0_2 => funext fun b1_1 => funext fun b1_2 => funext fun b2_1 => funext fun b2_2 => funext fun b3 => spec_l03Drawn_j8_eq n (fun s => iter (interp ([spec_l00Src_amongF n, spec_l00Src_oneF n, spec_l00Src_pickF n]) ty 38 1 n spec_l03Drawnkp (codeAt spec_l03Drawnc [1, 1, 0, 1, 0, 0])) (canon 1 (spec_l03Drawnkp.loop 3)) (kAt ([spec_l00Src_amongF n, spec_l00Src_oneF n, spec_l00Src_pickF n]) ty 38 1 n spec_l03Drawnkp spec_l03Drawnc [1, 1, 0, 1, 0] [] (ending ty 1 Go.Proofs.Try.f157.results.toList spec_l03Drawnrs spec_l03Drawnbs)) k s) v4 v5 b0_0 b0_1 b0_2 b1_1 b1_2 b2_1 b2_2 b3).trans (congrArg (fun z => spec_l03Drawn_j8 n z) (funext fun v4 => funext fun b0_0 => funext fun b0_1 => funext fun b0_2 => funext fun b1_1 => funext fun b1_2 => funext fun b2_1 => funext fun b2_2 => funext fun b3 => spec_l03Drawn_l3_eq n k v4 b0_0 b0_1 b0_2 b1_1 b1_2 b2_1 b2_2 b3)))) (funext fun b0_0 => funext fun b0_1 => funext fun b0_2 => funext fun b1_1 => funext fun b1_2 => funext fun b2_1 => funext fun b2_2 => funext fun b3 => spec_l03Drawn_j12_eq n b0_0 b0_1 b0_2 b1_1 b1_2 b2_1 b2_2 b3)) (funext fun v4 => funext fun b0_0 => funext fun b0_1 => funext fun b0_2 => funext fun b1_1 => funext fun b1_2 => funext fun b2_1 => funext fun b2_2 => funext fun b3 => spec_l03Drawn_l3_eq n k v4 b0_0 b0_1 b0_2 b1_1 b1_2 b2_1 b2_2 b3)
    exact e

theorem spec_l03Drawn_eq (n : Nat) (b0 : (List (Int)) × ((Int) × (Int))) : runBody ([spec_l00Src_amongF n, spec_l00Src_oneF n, spec_l00Src_pickF n]) ty 38 n spec_l03Drawnkp spec_l03Drawnc Go.Proofs.Try.f157.results.toList spec_l03Drawnrs spec_l03Drawnsp spec_l03Drawnbs ((), ()) (b0, ()) = spec_l03Drawn n b0 := by
  have h : runBody ([spec_l00Src_amongF n, spec_l00Src_oneF n, spec_l00Src_pickF n]) ty 38 n spec_l03Drawnkp spec_l03Drawnc Go.Proofs.Try.f157.results.toList spec_l03Drawnrs spec_l03Drawnsp spec_l03Drawnbs ((), ()) (b0, ()) = spec_l03Drawn_t n (fun k v4 b0_0 b0_1 b0_2 b1_1 b1_2 b2_1 b2_2 b3 => iter (interp ([spec_l00Src_amongF n, spec_l00Src_oneF n, spec_l00Src_pickF n]) ty 38 1 n spec_l03Drawnkp (codeAt spec_l03Drawnc [1, 1, 0, 1, 0, 0])) (canon 1 (spec_l03Drawnkp.loop 3)) (kAt ([spec_l00Src_amongF n, spec_l00Src_oneF n, spec_l00Src_pickF n]) ty 38 1 n spec_l03Drawnkp spec_l03Drawnc [1, 1, 0, 1, 0] [] (ending ty 1 Go.Proofs.Try.f157.results.toList spec_l03Drawnrs spec_l03Drawnbs)) k { env := [(4, .one (.sc (.int .i64 v4))), (3, .one (.ref 1 0 0 0 0 0)), (0, .one (.ref 0 0 0 0 0 0)), (2, .one (.ref 2 0 0 0 0 0))], bx := [(0, .var 226 [.list true (.int .u8) b0_0, .sc (.int .i64 b0_1), .sc (.int .u64 b0_2)]), (1, .var 62 [.slice 3 0 none, .sc (.int .i64 b1_1), .sc (.int .i64 b1_2)]), (2, .var 62 [.sc (.slice none 0 0), .sc (.int .i64 b2_1), .sc (.int .i64 b2_2)]), (3, .row 0 (.int .i16) b3)], nx := 4 }) b0 := by kernel_rfl
  rw [h]
  have e := congrArg (fun h3 => spec_l03Drawn_t n h3 b0) (funext fun k => funext fun v4 => funext fun b0_0 => funext fun b0_1 => funext fun b0_2 => funext fun b1_1 => funext fun b1_2 => funext fun b2_1 => funext fun b2_2 => funext fun b3 => spec_l03Drawn_l3_eq n k v4 b0_0 b0_1 b0_2 b1_1 b1_2 b2_1 b2_2 b3)
  exact e

theorem spec_l03Drawn_ok (n : Nat) : FunOk P (spec_l03DrawnF n) :=
  funOk_mk (C := [spec_l00Src_amongF n, spec_l00Src_oneF n, spec_l00Src_pickF n]) (N := 38) (kp := spec_l03Drawnkp) (c := spec_l03Drawnc) (n := n) (G := fun x y => spec_l03Drawn n y.1) follows (AllOk.mem (⟨spec_l00Src_among_ok n, ⟨spec_l00Src_one_ok n, ⟨spec_l00Src_pick_ok n, trivial⟩⟩⟩ : AllOk P ([spec_l00Src_amongF n, spec_l00Src_oneF n, spec_l00Src_pickF n]))) (by kernel_rfl : P.funcs[157]? = some Go.Proofs.Try.f157) (by kernel_rfl) (by kernel_rfl) (by kernel_rfl)
    (fun x y => spec_l03Drawn_eq n y.1) (fun _ _ => map_same (fun _ => rfl) _) (fun _ _ _ _ => rfl)

abbrev spec_A2Disksp : List Sp := [.v false (.list (.int .u8))]
abbrev spec_A2Diskbs : List (Bs × Bool) := []
abbrev spec_A2Diskrs : List (Bool × List Rp) := [(true, [.v false (.pair (.list (.int .i16)) (.pair (.int .i64) (.int .i64)))])]
noncomputable def spec_A2Diskkp : Keep := { loop := fun id => match id with | _ => ([], []), join := fun id => match id with | _ => none }
noncomputable def spec_A2Diskc : Code := bodyOf Go.Proofs.Try.f39
noncomputable def spec_A2DiskF (n : Nat) : Fun := { id := 39, sp := spec_A2Disksp, bs := spec_A2Diskbs, rs := spec_A2Diskrs, f := fun x y => spec_A2Disk n x.1 }

theorem spec_A2Disk_eq (n : Nat) (a0 : List (Int)) : runBody ([spec_l00FromF n, spec_l03DrawnF n]) ty 6 n spec_A2Diskkp spec_A2Diskc Go.Proofs.Try.f39.results.toList spec_A2Diskrs spec_A2Disksp spec_A2Diskbs (a0, ()) () = spec_A2Disk n a0 := by
  have h : runBody ([spec_l00FromF n, spec_l03DrawnF n]) ty 6 n spec_A2Diskkp spec_A2Diskc Go.Proofs.Try.f39.results.toList spec_A2Diskrs spec_A2Disksp spec_A2Diskbs (a0, ()) () = spec_A2Disk_t n a0 := by kernel_rfl
  rw [h]
  rfl

theorem spec_A2Disk_ok (n : Nat) : FunOk P (spec_A2DiskF n) :=
  funOk_mk (C := [spec_l00FromF n, spec_l03DrawnF n]) (N := 6) (kp := spec_A2Diskkp) (c := spec_A2Diskc) (n := n) (G := fun x y => spec_A2Disk n x.1) follows (AllOk.mem (⟨spec_l00From_ok n, ⟨spec_l03Drawn_ok n, trivial⟩⟩ : AllOk P ([spec_l00FromF n, spec_l03DrawnF n]))) (by kernel_rfl : P.funcs[39]? = some Go.Proofs.Try.f39) (by kernel_rfl) (by kernel_rfl) (by kernel_rfl)
    (fun x y => spec_A2Disk_eq n x.1) (fun _ _ => map_same (fun _ => rfl) _) (fun _ _ _ _ => rfl)

abbrev spec_l03Drawingsp : List Sp := [.ref 0]
abbrev spec_l03Drawingbs : List (Bs × Bool) := [(.var 226 (.pair (.list (.int .u8)) (.pair (.int .i64) (.int .u64))), true)]
abbrev spec_l03Drawingrs : List (Bool × List Rp) := [(false, [.v false (.int .i64)])]
noncomputable def spec_l03Drawingkp : Keep := { loop := fun id => match id with | _ => ([], []), join := fun id => match id with | _ => none }
noncomputable def spec_l03Drawingc : Code := bodyOf Go.Proofs.Try.f162
noncomputable def spec_l03DrawingF (n : Nat) : Fun := { id := 162, sp := spec_l03Drawingsp, bs := spec_l03Drawingbs, rs := spec_l03Drawingrs, f := fun x y => spec_l03Drawing n y.1 }

theorem spec_l03Drawing_eq (n : Nat) (b0 : (List (Int)) × ((Int) × (Int))) : runBody ([spec_l00Src_pickF n, spec_l00Src_amongF n]) ty 17 n spec_l03Drawingkp spec_l03Drawingc Go.Proofs.Try.f162.results.toList spec_l03Drawingrs spec_l03Drawingsp spec_l03Drawingbs ((), ()) (b0, ()) = spec_l03Drawing n b0 := by
  have h : runBody ([spec_l00Src_pickF n, spec_l00Src_amongF n]) ty 17 n spec_l03Drawingkp spec_l03Drawingc Go.Proofs.Try.f162.results.toList spec_l03Drawingrs spec_l03Drawingsp spec_l03Drawingbs ((), ()) (b0, ()) = spec_l03Drawing_t n b0 := by kernel_rfl
  rw [h]
  rfl

theorem spec_l03Drawing_ok (n : Nat) : FunOk P (spec_l03DrawingF n) :=
  funOk_mk (C := [spec_l00Src_pickF n, spec_l00Src_amongF n]) (N := 17) (kp := spec_l03Drawingkp) (c := spec_l03Drawingc) (n := n) (G := fun x y => spec_l03Drawing n y.1) follows (AllOk.mem (⟨spec_l00Src_pick_ok n, ⟨spec_l00Src_among_ok n, trivial⟩⟩ : AllOk P ([spec_l00Src_pickF n, spec_l00Src_amongF n]))) (by kernel_rfl : P.funcs[162]? = some Go.Proofs.Try.f162) (by kernel_rfl) (by kernel_rfl) (by kernel_rfl)
    (fun x y => spec_l03Drawing_eq n y.1) (fun _ _ => map_same (fun _ => rfl) _) (fun _ _ _ _ => rfl)

abbrev spec_l03Wrapsp : List Sp := [.v false (.int .i64)]
abbrev spec_l03Wrapbs : List (Bs × Bool) := []
abbrev spec_l03Wraprs : List (Bool × List Rp) := [(false, [.v false (.int .i64)])]
noncomputable def spec_l03Wrapkp : Keep := { loop := fun id => match id with | _ => ([], []), join := fun id => match id with | _ => none }
noncomputable def spec_l03Wrapc : Code := bodyOf Go.Proofs.Try.f160
noncomputable def spec_l03WrapF (n : Nat) : Fun := { id := 160, sp := spec_l03Wrapsp, bs := spec_l03Wrapbs, rs := spec_l03Wraprs, f := fun x y => spec_l03Wrap n x.1 }

theorem spec_l03Wrap_eq (n : Nat) (a0 : Int) : runBody ([]) ty 10 n spec_l03Wrapkp spec_l03Wrapc Go.Proofs.Try.f160.results.toList spec_l03Wraprs spec_l03Wrapsp spec_l03Wrapbs (a0, ()) () = spec_l03Wrap n a0 := by
  have h : runBody ([]) ty 10 n spec_l03Wrapkp spec_l03Wrapc Go.Proofs.Try.f160.results.toList spec_l03Wraprs spec_l03Wrapsp spec_l03Wrapbs (a0, ()) () = spec_l03Wrap_t n a0 := by kernel_rfl
  rw [h]
  rfl

theorem spec_l03Wrap_ok (n : Nat) : FunOk P (spec_l03WrapF n) :=
  funOk_mk (C := []) (N := 10) (kp := spec_l03Wrapkp) (c := spec_l03Wrapc) (n := n) (G := fun x y => spec_l03Wrap n x.1) follows (AllOk.mem (trivial : AllOk P ([]))) (by kernel_rfl : P.funcs[160]? = some Go.Proofs.Try.f160) (by kernel_rfl) (by kernel_rfl) (by kernel_rfl)
    (fun x y => spec_l03Wrap_eq n x.1) (fun _ _ => map_same (fun _ => rfl) _) (fun _ _ _ _ => rfl)

abbrev spec_A2Anglesp : List Sp := [.v false (.list (.int .u8))]
abbrev spec_A2Anglebs : List (Bs × Bool) := []
abbrev spec_A2Anglers : List (Bool × List Rp) := [(false, [.v false (.int .i64)])]
noncomputable def spec_A2Anglekp : Keep := { loop := fun id => match id with | _ => ([], []), join := fun id => match id with | _ => none }
noncomputable def spec_A2Anglec : Code := bodyOf Go.Proofs.Try.f41
noncomputable def spec_A2AngleF (n : Nat) : Fun := { id := 41, sp := spec_A2Anglesp, bs := spec_A2Anglebs, rs := spec_A2Anglers, f := fun x y => spec_A2Angle n x.1 }

theorem spec_A2Angle_eq (n : Nat) (a0 : List (Int)) : runBody ([spec_l00FromF n, spec_l03DrawingF n, spec_l03WrapF n]) ty 7 n spec_A2Anglekp spec_A2Anglec Go.Proofs.Try.f41.results.toList spec_A2Anglers spec_A2Anglesp spec_A2Anglebs (a0, ()) () = spec_A2Angle n a0 := by
  have h : runBody ([spec_l00FromF n, spec_l03DrawingF n, spec_l03WrapF n]) ty 7 n spec_A2Anglekp spec_A2Anglec Go.Proofs.Try.f41.results.toList spec_A2Anglers spec_A2Anglesp spec_A2Anglebs (a0, ()) () = spec_A2Angle_t n a0 := by kernel_rfl
  rw [h]
  rfl

theorem spec_A2Angle_ok (n : Nat) : FunOk P (spec_A2AngleF n) :=
  funOk_mk (C := [spec_l00FromF n, spec_l03DrawingF n, spec_l03WrapF n]) (N := 7) (kp := spec_A2Anglekp) (c := spec_A2Anglec) (n := n) (G := fun x y => spec_A2Angle n x.1) follows (AllOk.mem (⟨spec_l00From_ok n, ⟨spec_l03Drawing_ok n, ⟨spec_l03Wrap_ok n, trivial⟩⟩⟩ : AllOk P ([spec_l00FromF n, spec_l03DrawingF n, spec_l03WrapF n]))) (by kernel_rfl : P.funcs[41]? = some Go.Proofs.Try.f41) (by kernel_rfl) (by kernel_rfl) (by kernel_rfl)
    (fun x y => spec_A2Angle_eq n x.1) (fun _ _ => map_same (fun _ => rfl) _) (fun _ _ _ _ => rfl)

abbrev laws_a2Atsp : List Sp := [.v false (.list (.int .u8)), .v false (.int .i64), .v false (.int .i64)]
abbrev laws_a2Atbs : List (Bs × Bool) := []
abbrev laws_a2Atrs : List (Bool × List Rp) := [(false, [.v false (.int .i64)])]
noncomputable def laws_a2Atkp : Keep := { loop := fun id => match id with | _ => ([], []), join := fun id => match id with | _ => none }
noncomputable def laws_a2Atc : Code := bodyOf Go.Proofs.Try.f51
noncomputable def laws_a2AtF (n : Nat) : Fun := { id := 51, sp := laws_a2Atsp, bs := laws_a2Atbs, rs := laws_a2Atrs, f := fun x y => laws_a2At n x.1 x.2.1 x.2.2.1 }

theorem laws_a2At_eq (n : Nat) (a0 : List (Int)) (a1 : Int) (a2 : Int) : runBody ([]) ty 22 n laws_a2Atkp laws_a2Atc Go.Proofs.Try.f51.results.toList laws_a2Atrs laws_a2Atsp laws_a2Atbs (a0, (a1, (a2, ()))) () = laws_a2At n a0 a1 a2 := by
  have h : runBody ([]) ty 22 n laws_a2Atkp laws_a2Atc Go.Proofs.Try.f51.results.toList laws_a2Atrs laws_a2Atsp laws_a2Atbs (a0, (a1, (a2, ()))) () = laws_a2At_t n a0 a1 a2 := by kernel_rfl
  rw [h]
  rfl

theorem laws_a2At_ok (n : Nat) : FunOk P (laws_a2AtF n) :=
  funOk_mk (C := []) (N := 22) (kp := laws_a2Atkp) (c := laws_a2Atc) (n := n) (G := fun x y => laws_a2At n x.1 x.2.1 x.2.2.1) follows (AllOk.mem (trivial : AllOk P ([]))) (by kernel_rfl : P.funcs[51]? = some Go.Proofs.Try.f51) (by kernel_rfl) (by kernel_rfl) (by kernel_rfl)
    (fun x y => laws_a2At_eq n x.1 x.2.1 x.2.2.1) (fun _ _ => map_same (fun _ => rfl) _) (fun _ _ _ _ => rfl)

abbrev impl_withinsp : List Sp := [.v false (.int .i64), .v false (.int .i64), .v false (.int .i64)]
abbrev impl_withinbs : List (Bs × Bool) := []
abbrev impl_withinrs : List (Bool × List Rp) := [(false, [.v false .bool])]
noncomputable def impl_withinkp : Keep := { loop := fun id => match id with | _ => ([], []), join := fun id => match id with | _ => none }
noncomputable def impl_withinc : Code := bodyOf Go.Proofs.Try.f141
noncomputable def impl_withinF (n : Nat) : Fun := { id := 141, sp := impl_withinsp, bs := impl_withinbs, rs := impl_withinrs, f := fun x y => impl_within n x.1 x.2.1 x.2.2.1 }

theorem impl_within_eq (n : Nat) (a0 : Int) (a1 : Int) (a2 : Int) : runBody ([]) ty 15 n impl_withinkp impl_withinc Go.Proofs.Try.f141.results.toList impl_withinrs impl_withinsp impl_withinbs (a0, (a1, (a2, ()))) () = impl_within n a0 a1 a2 := by
  have h : runBody ([]) ty 15 n impl_withinkp impl_withinc Go.Proofs.Try.f141.results.toList impl_withinrs impl_withinsp impl_withinbs (a0, (a1, (a2, ()))) () = impl_within_t n a0 a1 a2 := by kernel_rfl
  rw [h]
  rfl

theorem impl_within_ok (n : Nat) : FunOk P (impl_withinF n) :=
  funOk_mk (C := []) (N := 15) (kp := impl_withinkp) (c := impl_withinc) (n := n) (G := fun x y => impl_within n x.1 x.2.1 x.2.2.1) follows (AllOk.mem (trivial : AllOk P ([]))) (by kernel_rfl : P.funcs[141]? = some Go.Proofs.Try.f141) (by kernel_rfl) (by kernel_rfl) (by kernel_rfl)
    (fun x y => impl_within_eq n x.1 x.2.1 x.2.2.1) (fun _ _ => map_same (fun _ => rfl) _) (fun _ _ _ _ => rfl)

abbrev impl_ValidDisk_1sp : List Sp := [.v false (.int .i16)]
abbrev impl_ValidDisk_1bs : List (Bs × Bool) := []
abbrev impl_ValidDisk_1rs : List (Bool × List Rp) := [(false, [.v false .bool])]
noncomputable def impl_ValidDisk_1kp : Keep := { loop := fun id => match id with | _ => ([], []), join := fun id => match id with | _ => none }
noncomputable def impl_ValidDisk_1c : Code := bodyOf Go.Proofs.Try.f171
noncomputable def impl_ValidDisk_1F (n : Nat) : Fun := { id := 171, sp := impl_ValidDisk_1sp, bs := impl_ValidDisk_1bs, rs := impl_ValidDisk_1rs, f := fun x y => impl_ValidDisk_1 n x.1 }

theorem impl_ValidDisk_1_eq (n : Nat) (a0 : Int) : runBody ([impl_withinF n]) ty 7 n impl_ValidDisk_1kp impl_ValidDisk_1c Go.Proofs.Try.f171.results.toList impl_ValidDisk_1rs impl_ValidDisk_1sp impl_ValidDisk_1bs (a0, ()) () = impl_ValidDisk_1 n a0 := by
  have h : runBody ([impl_withinF n]) ty 7 n impl_ValidDisk_1kp impl_ValidDisk_1c Go.Proofs.Try.f171.results.toList impl_ValidDisk_1rs impl_ValidDisk_1sp impl_ValidDisk_1bs (a0, ()) () = impl_ValidDisk_1_t n a0 := by kernel_rfl
  rw [h]
  rfl

theorem impl_ValidDisk_1_ok (n : Nat) : FunOk P (impl_ValidDisk_1F n) :=
  funOk_mk (C := [impl_withinF n]) (N := 7) (kp := impl_ValidDisk_1kp) (c := impl_ValidDisk_1c) (n := n) (G := fun x y => impl_ValidDisk_1 n x.1) follows (AllOk.mem (⟨impl_within_ok n, trivial⟩ : AllOk P ([impl_withinF n]))) (by kernel_rfl : P.funcs[171]? = some Go.Proofs.Try.f171) (by kernel_rfl) (by kernel_rfl) (by kernel_rfl)
    (fun x y => impl_ValidDisk_1_eq n x.1) (fun _ _ => map_same (fun _ => rfl) _) (fun _ _ _ _ => rfl)

abbrev slices_IndexFunc_int16_int16_at_impl_ValidDisk_1sp : List Sp := [.v false (.list (.int .i16)), .cl 171 []]
abbrev slices_IndexFunc_int16_int16_at_impl_ValidDisk_1bs : List (Bs × Bool) := []
abbrev slices_IndexFunc_int16_int16_at_impl_ValidDisk_1rs : List (Bool × List Rp) := [(false, [.v false (.int .i64)])]
noncomputable def slices_IndexFunc_int16_int16_at_impl_ValidDisk_1kp : Keep := { loop := fun id => match id with | 2 => ([8, 0, 1, 7], []) | _ => ([], []), join := fun id => match id with | _ => none }
noncomputable def slices_IndexFunc_int16_int16_at_impl_ValidDisk_1c : Code := bodyOf Go.Proofs.Try.f242
noncomputable def slices_IndexFunc_int16_int16_at_impl_ValidDisk_1F (n : Nat) : Fun := { id := 242, sp := slices_IndexFunc_int16_int16_at_impl_ValidDisk_1sp, bs := slices_IndexFunc_int16_int16_at_impl_ValidDisk_1bs, rs := slices_IndexFunc_int16_int16_at_impl_ValidDisk_1rs, f := fun x y => slices_IndexFunc_int16_int16_at_impl_ValidDisk_1 n x.1 }

theorem slices_IndexFunc_int16_int16_at_impl_ValidDisk_1_l2_eq (n : Nat) : ∀ (k : Nat) (v8 : Int) (v0 : List (Int)) (v7 : Int), iter (interp ([impl_ValidDisk_1F n]) ty 19 0 n slices_IndexFunc_int16_int16_at_impl_ValidDisk_1kp (codeAt slices_IndexFunc_int16_int16_at_impl_ValidDisk_1c [1, 0, 1, 0, 0])) (canon 0 (slices_IndexFunc_int16_int16_at_impl_ValidDisk_1kp.loop 2)) (kAt ([impl_ValidDisk_1F n]) ty 19 0 n slices_IndexFunc_int16_int16_at_impl_ValidDisk_1kp slices_IndexFunc_int16_int16_at_impl_ValidDisk_1c [1, 0, 1, 0] [] (ending ty 0 Go.Proofs.Try.f242.results.toList slices_IndexFunc_int16_int16_at_impl_ValidDisk_1rs slices_IndexFunc_int16_int16_at_impl_ValidDisk_1bs)) k { env := [(8, .one (.sc (.int .i64 v8))), (0, .one (.list true (.int .i16) v0)), (1, .one (.clos 171 [])), (7, .one (.sc (.int .i64 v7)))], bx := [], nx := 0 } = slices_IndexFunc_int16_int16_at_impl_ValidDisk_1_l2 n k v8 v0 v7
  | 0, _, _, _ => by kernel_rfl
  | k + 1, v8, v0, v7 => by
    have h : iter (interp ([impl_ValidDisk_1F n]) ty 19 0 n slices_IndexFunc_int16_int16_at_impl_ValidDisk_1kp (codeAt slices_IndexFunc_int16_int16_at_impl_ValidDisk_1c [1, 0, 1, 0, 0])) (canon 0 (slices_IndexFunc_int16_int16_at_impl_ValidDisk_1kp.loop 2)) (kAt ([impl_ValidDisk_1F n]) ty 19 0 n slices_IndexFunc_int16_int16_at_impl_ValidDisk_1kp slices_IndexFunc_int16_int16_at_impl_ValidDisk_1c [1, 0, 1, 0] [] (ending ty 0 Go.Proofs.Try.f242.results.toList slices_IndexFunc_int16_int16_at_impl_ValidDisk_1rs slices_IndexFunc_int16_int16_at_impl_ValidDisk_1bs)) (k + 1) { env := [(8, .one (.sc (.int .i64 v8))), (0, .one (.list true (.int .i16) v0)), (1, .one (.clos 171 [])), (7, .one (.sc (.int .i64 v7)))], bx := [], nx := 0 } = slices_IndexFunc_int16_int16_at_impl_ValidDisk_1_t2 n (fun v8 v0 v7 => iter (interp ([impl_ValidDisk_1F n]) ty 19 0 n slices_IndexFunc_int16_int16_at_impl_ValidDisk_1kp (codeAt slices_IndexFunc_int16_int16_at_impl_ValidDisk_1c [1, 0, 1, 0, 0])) (canon 0 (slices_IndexFunc_int16_int16_at_impl_ValidDisk_1kp.loop 2)) (kAt ([impl_ValidDisk_1F n]) ty 19 0 n slices_IndexFunc_int16_int16_at_impl_ValidDisk_1kp slices_IndexFunc_int16_int16_at_impl_ValidDisk_1c [1, 0, 1, 0] [] (ending ty 0 Go.Proofs.Try.f242.results.toList slices_IndexFunc_int16_int16_at_impl_ValidDisk_1rs slices_IndexFunc_int16_int16_at_impl_ValidDisk_1bs)) k { env := [(8, .one (.sc (.int .i64 v8))), (0, .one (.list true (.int .i16) v0)), (1, .one (.clos 171 [])), (7, .one (.sc (.int .i64 v7)))], bx := [], nx := 0 }) v8 v0 v7 := by kernel_rfl
    rw [h]
    have e := congrArg (fun g => slices_IndexFunc_int16_int16_at_impl_ValidDisk_1_t2 n g v8 v0 v7) (funext fun v8 => funext fun v0 => funext fun v7 => slices_IndexFunc_int16_int16_at_impl_ValidDisk_1_l2_eq n k v8 v0 v7)
    exact e

theorem slices_IndexFunc_int16_int16_at_impl_ValidDisk_1_eq (n : Nat) (a0 : List (Int)) : runBody ([impl_ValidDisk_1F n]) ty 19 n slices_IndexFunc_int16_int16_at_impl_ValidDisk_1kp slices_IndexFunc_int16_int16_at_impl_ValidDisk_1c Go.Proofs.Try.f242.results.toList slices_IndexFunc_int16_int16_at_impl_ValidDisk_1rs slices_IndexFunc_int16_int16_at_impl_ValidDisk_1sp slices_IndexFunc_int16_int16_at_impl_ValidDisk_1bs (a0, ((), ())) () = slices_IndexFunc_int16_int16_at_impl_ValidDisk_1 n a0 := by
  have h : runBody ([impl_ValidDisk_1F n]) ty 19 n slices_IndexFunc_int16_int16_at_impl_ValidDisk_1kp slices_IndexFunc_int16_int16_at_impl_ValidDisk_1c Go.Proofs.Try.f242.results.toList slices_IndexFunc_int16_int16_at_impl_ValidDisk_1rs slices_IndexFunc_int16_int16_at_impl_ValidDisk_1sp slices_IndexFunc_int16_int16_at_impl_ValidDisk_1bs (a0, ((), ())) () = slices_IndexFunc_int16_int16_at_impl_ValidDisk_1_t n (fun k v8 v0 v7 => iter (interp ([impl_ValidDisk_1F n]) ty 19 0 n slices_IndexFunc_int16_int16_at_impl_ValidDisk_1kp (codeAt slices_IndexFunc_int16_int16_at_impl_ValidDisk_1c [1, 0, 1, 0, 0])) (canon 0 (slices_IndexFunc_int16_int16_at_impl_ValidDisk_1kp.loop 2)) (kAt ([impl_ValidDisk_1F n]) ty 19 0 n slices_IndexFunc_int16_int16_at_impl_ValidDisk_1kp slices_IndexFunc_int16_int16_at_impl_ValidDisk_1c [1, 0, 1, 0] [] (ending ty 0 Go.Proofs.Try.f242.results.toList slices_IndexFunc_int16_int16_at_impl_ValidDisk_1rs slices_IndexFunc_int16_int16_at_impl_ValidDisk_1bs)) k { env := [(8, .one (.sc (.int .i64 v8))), (0, .one (.list true (.int .i16) v0)), (1, .one (.clos 171 [])), (7, .one (.sc (.int .i64 v7)))], bx := [], nx := 0 }) a0 := by kernel_rfl
  rw [h]
  have e := congrArg (fun h2 => slices_IndexFunc_int16_int16_at_impl_ValidDisk_1_t n h2 a0) (funext fun k => funext fun v8 => funext fun v0 => funext fun v7 => slices_IndexFunc_int16_int16_at_impl_ValidDisk_1_l2_eq n k v8 v0 v7)
  exact e

theorem slices_IndexFunc_int16_int16_at_impl_ValidDisk_1_ok (n : Nat) : FunOk P (slices_IndexFunc_int16_int16_at_impl_ValidDisk_1F n) :=
  funOk_mk (C := [impl_ValidDisk_1F n]) (N := 19) (kp := slices_IndexFunc_int16_int16_at_impl_ValidDisk_1kp) (c := slices_IndexFunc_int16_int16_at_impl_ValidDisk_1c) (n := n) (G := fun x y => slices_IndexFunc_int16_int16_at_impl_ValidDisk_1 n x.1) follows (AllOk.mem (⟨impl_ValidDisk_1_ok n, trivial⟩ : AllOk P ([impl_ValidDisk_1F n]))) (by kernel_rfl : P.funcs[242]? = some Go.Proofs.Try.f242) (by kernel_rfl) (by kernel_rfl) (by kernel_rfl)
    (fun x y => slices_IndexFunc_int16_int16_at_impl_ValidDisk_1_eq n x.1) (fun _ _ => map_same (fun _ => rfl) _) (fun _ _ _ _ => rfl)

abbrev slices_ContainsFunc_int16_int16_at_impl_ValidDisk_1sp : List Sp := [.v false (.list (.int .i16)), .cl 171 []]
abbrev slices_ContainsFunc_int16_int16_at_impl_ValidDisk_1bs : List (Bs × Bool) := []
abbrev slices_ContainsFunc_int16_int16_at_impl_ValidDisk_1rs : List (Bool × List Rp) := [(false, [.v false .bool])]
noncomputable def slices_ContainsFunc_int16_int16_at_impl_ValidDisk_1kp : Keep := { loop := fun id => match id with | _ => ([], []), join := fun id => match id with | _ => none }
noncomputable def slices_ContainsFunc_int16_int16_at_impl_ValidDisk_1c : Code := bodyOf Go.Proofs.Try.f170
noncomputable def slices_ContainsFunc_int16_int16_at_impl_ValidDisk_1F (n : Nat) : Fun := { id := 170, sp := slices_ContainsFunc_int16_int16_at_impl_ValidDisk_1sp, bs := slices_ContainsFunc_int16_int16_at_impl_ValidDisk_1bs, rs := slices_ContainsFunc_int16_int16_at_impl_ValidDisk_1rs, f := fun x y => slices_ContainsFunc_int16_int16_at_impl_ValidDisk_1 n x.1 }

theorem slices_ContainsFunc_int16_int16_at_impl_ValidDisk_1_eq (n : Nat) (a0 : List (Int)) : runBody ([slices_IndexFunc_int16_int16_at_impl_ValidDisk_1F n]) ty 9 n slices_ContainsFunc_int16_int16_at_impl_ValidDisk_1kp slices_ContainsFunc_int16_int16_at_impl_ValidDisk_1c Go.Proofs.Try.f170.results.toList slices_ContainsFunc_int16_int16_at_impl_ValidDisk_1rs slices_ContainsFunc_int16_int16_at_impl_ValidDisk_1sp slices_ContainsFunc_int16_int16_at_impl_ValidDisk_1bs (a0, ((), ())) () = slices_ContainsFunc_int16_int16_at_impl_ValidDisk_1 n a0 := by
  have h : runBody ([slices_IndexFunc_int16_int16_at_impl_ValidDisk_1F n]) ty 9 n slices_ContainsFunc_int16_int16_at_impl_ValidDisk_1kp slices_ContainsFunc_int16_int16_at_impl_ValidDisk_1c Go.Proofs.Try.f170.results.toList slices_ContainsFunc_int16_int16_at_impl_ValidDisk_1rs slices_ContainsFunc_int16_int16_at_impl_ValidDisk_1sp slices_ContainsFunc_int16_int16_at_impl_ValidDisk_1bs (a0, ((), ())) () = slices_ContainsFunc_int16_int16_at_impl_ValidDisk_1_t n a0 := by kernel_rfl
  rw [h]
  rfl

theorem slices_ContainsFunc_int16_int16_at_impl_ValidDisk_1_ok (n : Nat) : FunOk P (slices_ContainsFunc_int16_int16_at_impl_ValidDisk_1F n) :=
  funOk_mk (C := [slices_IndexFunc_int16_int16_at_impl_ValidDisk_1F n]) (N := 9) (kp := slices_ContainsFunc_int16_int16_at_impl_ValidDisk_1kp) (c := slices_ContainsFunc_int16_int16_at_impl_ValidDisk_1c) (n := n) (G := fun x y => slices_ContainsFunc_int16_int16_at_impl_ValidDisk_1 n x.1) follows (AllOk.mem (⟨slices_IndexFunc_int16_int16_at_impl_ValidDisk_1_ok n, trivial⟩ : AllOk P ([slices_IndexFunc_int16_int16_at_impl_ValidDisk_1F n]))) (by kernel_rfl : P.funcs[170]? = some Go.Proofs.Try.f170) (by kernel_rfl) (by kernel_rfl) (by kernel_rfl)
    (fun x y => slices_ContainsFunc_int16_int16_at_impl_ValidDisk_1_eq n x.1) (fun _ _ => map_same (fun _ => rfl) _) (fun _ _ _ _ => rfl)

abbrev impl_ValidDisksp : List Sp := [.v true (.pair (.list (.int .i16)) (.pair (.int .i64) (.int .i64)))]
abbrev impl_ValidDiskbs : List (Bs × Bool) := []
abbrev impl_ValidDiskrs : List (Bool × List Rp) := [(false, [.v false .bool])]
noncomputable def impl_ValidDiskkp : Keep := { loop := fun id => match id with | _ => ([], []), join := fun id => match id with | _ => none }
noncomputable def impl_ValidDiskc : Code := bodyOf Go.Proofs.Try.f44
noncomputable def impl_ValidDiskF (n : Nat) : Fun := { id := 44, sp := impl_ValidDisksp, bs := impl_ValidDiskbs, rs := impl_ValidDiskrs, f := fun x y => impl_ValidDisk n x.1 }

theorem impl_ValidDisk_eq (n : Nat) (a0 : (List (Int)) × ((Int) × (Int))) : runBody ([impl_withinF n, slices_ContainsFunc_int16_int16_at_impl_ValidDisk_1F n]) ty 30 n impl_ValidDiskkp impl_ValidDiskc Go.Proofs.Try.f44.results.toList impl_ValidDiskrs impl_ValidDisksp impl_ValidDiskbs (a0, ()) () = impl_ValidDisk n a0 := by
  have h : runBody ([impl_withinF n, slices_ContainsFunc_int16_int16_at_impl_ValidDisk_1F n]) ty 30 n impl_ValidDiskkp impl_ValidDiskc Go.Proofs.Try.f44.results.toList impl_ValidDiskrs impl_ValidDisksp impl_ValidDiskbs (a0, ()) () = impl_ValidDisk_t n a0 := by kernel_rfl
  rw [h]
  rfl

theorem impl_ValidDisk_ok (n : Nat) : FunOk P (impl_ValidDiskF n) :=
  funOk_mk (C := [impl_withinF n, slices_ContainsFunc_int16_int16_at_impl_ValidDisk_1F n]) (N := 30) (kp := impl_ValidDiskkp) (c := impl_ValidDiskc) (n := n) (G := fun x y => impl_ValidDisk n x.1) follows (AllOk.mem (⟨impl_within_ok n, ⟨slices_ContainsFunc_int16_int16_at_impl_ValidDisk_1_ok n, trivial⟩⟩ : AllOk P ([impl_withinF n, slices_ContainsFunc_int16_int16_at_impl_ValidDisk_1F n]))) (by kernel_rfl : P.funcs[44]? = some Go.Proofs.Try.f44) (by kernel_rfl) (by kernel_rfl) (by kernel_rfl)
    (fun x y => impl_ValidDisk_eq n x.1) (fun _ _ => map_same (fun _ => rfl) _) (fun _ _ _ _ => rfl)

abbrev impl_isAnglesp : List Sp := [.v false (.int .i64)]
abbrev impl_isAnglebs : List (Bs × Bool) := []
abbrev impl_isAnglers : List (Bool × List Rp) := [(false, [.v false .bool])]
noncomputable def impl_isAnglekp : Keep := { loop := fun id => match id with | _ => ([], []), join := fun id => match id with | _ => none }
noncomputable def impl_isAnglec : Code := bodyOf Go.Proofs.Try.f163
noncomputable def impl_isAngleF (n : Nat) : Fun := { id := 163, sp := impl_isAnglesp, bs := impl_isAnglebs, rs := impl_isAnglers, f := fun x y => impl_isAngle n x.1 }

theorem impl_isAngle_eq (n : Nat) (a0 : Int) : runBody ([impl_withinF n]) ty 5 n impl_isAnglekp impl_isAnglec Go.Proofs.Try.f163.results.toList impl_isAnglers impl_isAnglesp impl_isAnglebs (a0, ()) () = impl_isAngle n a0 := by
  have h : runBody ([impl_withinF n]) ty 5 n impl_isAnglekp impl_isAnglec Go.Proofs.Try.f163.results.toList impl_isAnglers impl_isAnglesp impl_isAnglebs (a0, ()) () = impl_isAngle_t n a0 := by kernel_rfl
  rw [h]
  rfl

theorem impl_isAngle_ok (n : Nat) : FunOk P (impl_isAngleF n) :=
  funOk_mk (C := [impl_withinF n]) (N := 5) (kp := impl_isAnglekp) (c := impl_isAnglec) (n := n) (G := fun x y => impl_isAngle n x.1) follows (AllOk.mem (⟨impl_within_ok n, trivial⟩ : AllOk P ([impl_withinF n]))) (by kernel_rfl : P.funcs[163]? = some Go.Proofs.Try.f163) (by kernel_rfl) (by kernel_rfl) (by kernel_rfl)
    (fun x y => impl_isAngle_eq n x.1) (fun _ _ => map_same (fun _ => rfl) _) (fun _ _ _ _ => rfl)

abbrev impl_headCode_1sp : List Sp := [.v false (.int .i64)]
abbrev impl_headCode_1bs : List (Bs × Bool) := []
abbrev impl_headCode_1rs : List (Bool × List Rp) := [(false, [.v false .bool])]
noncomputable def impl_headCode_1kp : Keep := { loop := fun id => match id with | _ => ([], []), join := fun id => match id with | _ => none }
noncomputable def impl_headCode_1c : Code := bodyOf Go.Proofs.Try.f240
noncomputable def impl_headCode_1F (n : Nat) : Fun := { id := 240, sp := impl_headCode_1sp, bs := impl_headCode_1bs, rs := impl_headCode_1rs, f := fun x y => impl_headCode_1 n x.1 }

theorem impl_headCode_1_eq (n : Nat) (a0 : Int) : runBody ([impl_isAngleF n]) ty 6 n impl_headCode_1kp impl_headCode_1c Go.Proofs.Try.f240.results.toList impl_headCode_1rs impl_headCode_1sp impl_headCode_1bs (a0, ()) () = impl_headCode_1 n a0 := by
  have h : runBody ([impl_isAngleF n]) ty 6 n impl_headCode_1kp impl_headCode_1c Go.Proofs.Try.f240.results.toList impl_headCode_1rs impl_headCode_1sp impl_headCode_1bs (a0, ()) () = impl_headCode_1_t n a0 := by kernel_rfl
  rw [h]
  rfl

theorem impl_headCode_1_ok (n : Nat) : FunOk P (impl_headCode_1F n) :=
  funOk_mk (C := [impl_isAngleF n]) (N := 6) (kp := impl_headCode_1kp) (c := impl_headCode_1c) (n := n) (G := fun x y => impl_headCode_1 n x.1) follows (AllOk.mem (⟨impl_isAngle_ok n, trivial⟩ : AllOk P ([impl_isAngleF n]))) (by kernel_rfl : P.funcs[240]? = some Go.Proofs.Try.f240) (by kernel_rfl) (by kernel_rfl) (by kernel_rfl)
    (fun x y => impl_headCode_1_eq n x.1) (fun _ _ => map_same (fun _ => rfl) _) (fun _ _ _ _ => rfl)

abbrev slices_IndexFunc_int64_int64_at_impl_headCode_1sp : List Sp := [.v false (.list (.int .i64)), .cl 240 []]
abbrev slices_IndexFunc_int64_int64_at_impl_headCode_1bs : List (Bs × Bool) := []
abbrev slices_IndexFunc_int64_int64_at_impl_headCode_1rs : List (Bool × List Rp) := [(false, [.v false (.int .i64)])]
noncomputable def slices_IndexFunc_int64_int64_at_impl_headCode_1kp : Keep := { loop := fun id => match id with | 2 => ([8, 0, 1, 7], []) | _ => ([], []), join := fun id => match id with | _ => none }
noncomputable def slices_IndexFunc_int64_int64_at_impl_headCode_1c : Code := bodyOf Go.Proofs.Try.f247
noncomputable def slices_IndexFunc_int64_int64_at_impl_headCode_1F (n : Nat) : Fun := { id := 247, sp := slices_IndexFunc_int64_int64_at_impl_headCode_1sp, bs := slices_IndexFunc_int64_int64_at_impl_headCode_1bs, rs := slices_IndexFunc_int64_int64_at_impl_headCode_1rs, f := fun x y => slices_IndexFunc_int64_int64_at_impl_headCode_1 n x.1 }

theorem slices_IndexFunc_int64_int64_at_impl_headCode_1_l2_eq (n : Nat) : ∀ (k : Nat) (v8 : Int) (v0 : List (Int)) (v7 : Int), iter (interp ([impl_headCode_1F n]) ty 19 0 n slices_IndexFunc_int64_int64_at_impl_headCode_1kp (codeAt slices_IndexFunc_int64_int64_at_impl_headCode_1c [1, 0, 1, 0, 0])) (canon 0 (slices_IndexFunc_int64_int64_at_impl_headCode_1kp.loop 2)) (kAt ([impl_headCode_1F n]) ty 19 0 n slices_IndexFunc_int64_int64_at_impl_headCode_1kp slices_IndexFunc_int64_int64_at_impl_headCode_1c [1, 0, 1, 0] [] (ending ty 0 Go.Proofs.Try.f247.results.toList slices_IndexFunc_int64_int64_at_impl_headCode_1rs slices_IndexFunc_int64_int64_at_impl_headCode_1bs)) k { env := [(8, .one (.sc (.int .i64 v8))), (0, .one (.list true (.int .i64) v0)), (1, .one (.clos 240 [])), (7, .one (.sc (.int .i64 v7)))], bx := [], nx := 0 } = slices_IndexFunc_int64_int64_at_impl_headCode_1_l2 n k v8 v0 v7
  | 0, _, _, _ => by kernel_rfl
  | k + 1, v8, v0, v7 => by
    have h : iter (interp ([impl_headCode_1F n]) ty 19 0 n slices_IndexFunc_int64_int64_at_impl_headCode_1kp (codeAt slices_IndexFunc_int64_int64_at_impl_headCode_1c [1, 0, 1, 0, 0])) (canon 0 (slices_IndexFunc_int64_int64_at_impl_headCode_1kp.loop 2)) (kAt ([impl_headCode_1F n]) ty 19 0 n slices_IndexFunc_int64_int64_at_impl_headCode_1kp slices_IndexFunc_int64_int64_at_impl_headCode_1c [1, 0, 1, 0] [] (ending ty 0 Go.Proofs.Try.f247.results.toList slices_IndexFunc_int64_int64_at_impl_headCode_1rs slices_IndexFunc_int64_int64_at_impl_headCode_1bs)) (k + 1) { env := [(8, .one (.sc (.int .i64 v8))), (0, .one (.list true (.int .i64) v0)), (1, .one (.clos 240 [])), (7, .one (.sc (.int .i64 v7)))], bx := [], nx := 0 } = slices_IndexFunc_int64_int64_at_impl_headCode_1_t2 n (fun v8 v0 v7 => iter (interp ([impl_headCode_1F n]) ty 19 0 n slices_IndexFunc_int64_int64_at_impl_headCode_1kp (codeAt slices_IndexFunc_int64_int64_at_impl_headCode_1c [1, 0, 1, 0, 0])) (canon 0 (slices_IndexFunc_int64_int64_at_impl_headCode_1kp.loop 2)) (kAt ([impl_headCode_1F n]) ty 19 0 n slices_IndexFunc_int64_int64_at_impl_headCode_1kp slices_IndexFunc_int64_int64_at_impl_headCode_1c [1, 0, 1, 0] [] (ending ty 0 Go.Proofs.Try.f247.results.toList slices_IndexFunc_int64_int64_at_impl_headCode_1rs slices_IndexFunc_int64_int64_at_impl_headCode_1bs)) k { env := [(8, .one (.sc (.int .i64 v8))), (0, .one (.list true (.int .i64) v0)), (1, .one (.clos 240 [])), (7, .one (.sc (.int .i64 v7)))], bx := [], nx := 0 }) v8 v0 v7 := by kernel_rfl
    rw [h]
    have e := congrArg (fun g => slices_IndexFunc_int64_int64_at_impl_headCode_1_t2 n g v8 v0 v7) (funext fun v8 => funext fun v0 => funext fun v7 => slices_IndexFunc_int64_int64_at_impl_headCode_1_l2_eq n k v8 v0 v7)
    exact e

theorem slices_IndexFunc_int64_int64_at_impl_headCode_1_eq (n : Nat) (a0 : List (Int)) : runBody ([impl_headCode_1F n]) ty 19 n slices_IndexFunc_int64_int64_at_impl_headCode_1kp slices_IndexFunc_int64_int64_at_impl_headCode_1c Go.Proofs.Try.f247.results.toList slices_IndexFunc_int64_int64_at_impl_headCode_1rs slices_IndexFunc_int64_int64_at_impl_headCode_1sp slices_IndexFunc_int64_int64_at_impl_headCode_1bs (a0, ((), ())) () = slices_IndexFunc_int64_int64_at_impl_headCode_1 n a0 := by
  have h : runBody ([impl_headCode_1F n]) ty 19 n slices_IndexFunc_int64_int64_at_impl_headCode_1kp slices_IndexFunc_int64_int64_at_impl_headCode_1c Go.Proofs.Try.f247.results.toList slices_IndexFunc_int64_int64_at_impl_headCode_1rs slices_IndexFunc_int64_int64_at_impl_headCode_1sp slices_IndexFunc_int64_int64_at_impl_headCode_1bs (a0, ((), ())) () = slices_IndexFunc_int64_int64_at_impl_headCode_1_t n (fun k v8 v0 v7 => iter (interp ([impl_headCode_1F n]) ty 19 0 n slices_IndexFunc_int64_int64_at_impl_headCode_1kp (codeAt slices_IndexFunc_int64_int64_at_impl_headCode_1c [1, 0, 1, 0, 0])) (canon 0 (slices_IndexFunc_int64_int64_at_impl_headCode_1kp.loop 2)) (kAt ([impl_headCode_1F n]) ty 19 0 n slices_IndexFunc_int64_int64_at_impl_headCode_1kp slices_IndexFunc_int64_int64_at_impl_headCode_1c [1, 0, 1, 0] [] (ending ty 0 Go.Proofs.Try.f247.results.toList slices_IndexFunc_int64_int64_at_impl_headCode_1rs slices_IndexFunc_int64_int64_at_impl_headCode_1bs)) k { env := [(8, .one (.sc (.int .i64 v8))), (0, .one (.list true (.int .i64) v0)), (1, .one (.clos 240 [])), (7, .one (.sc (.int .i64 v7)))], bx := [], nx := 0 }) a0 := by kernel_rfl
  rw [h]
  have e := congrArg (fun h2 => slices_IndexFunc_int64_int64_at_impl_headCode_1_t n h2 a0) (funext fun k => funext fun v8 => funext fun v0 => funext fun v7 => slices_IndexFunc_int64_int64_at_impl_headCode_1_l2_eq n k v8 v0 v7)
  exact e

theorem slices_IndexFunc_int64_int64_at_impl_headCode_1_ok (n : Nat) : FunOk P (slices_IndexFunc_int64_int64_at_impl_headCode_1F n) :=
  funOk_mk (C := [impl_headCode_1F n]) (N := 19) (kp := slices_IndexFunc_int64_int64_at_impl_headCode_1kp) (c := slices_IndexFunc_int64_int64_at_impl_headCode_1c) (n := n) (G := fun x y => slices_IndexFunc_int64_int64_at_impl_headCode_1 n x.1) follows (AllOk.mem (⟨impl_headCode_1_ok n, trivial⟩ : AllOk P ([impl_headCode_1F n]))) (by kernel_rfl : P.funcs[247]? = some Go.Proofs.Try.f247) (by kernel_rfl) (by kernel_rfl) (by kernel_rfl)
    (fun x y => slices_IndexFunc_int64_int64_at_impl_headCode_1_eq n x.1) (fun _ _ => map_same (fun _ => rfl) _) (fun _ _ _ _ => rfl)

abbrev slices_ContainsFunc_int64_int64_at_impl_headCode_1sp : List Sp := [.v false (.list (.int .i64)), .cl 240 []]
abbrev slices_ContainsFunc_int64_int64_at_impl_headCode_1bs : List (Bs × Bool) := []
abbrev slices_ContainsFunc_int64_int64_at_impl_headCode_1rs : List (Bool × List Rp) := [(false, [.v false .bool])]
noncomputable def slices_ContainsFunc_int64_int64_at_impl_headCode_1kp : Keep := { loop := fun id => match id with | _ => ([], []), join := fun id => match id with | _ => none }
noncomputable def slices_ContainsFunc_int64_int64_at_impl_headCode_1c : Code := bodyOf Go.Proofs.Try.f194
noncomputable def slices_ContainsFunc_int64_int64_at_impl_headCode_1F (n : Nat) : Fun := { id := 194, sp := slices_ContainsFunc_int64_int64_at_impl_headCode_1sp, bs := slices_ContainsFunc_int64_int64_at_impl_headCode_1bs, rs := slices_ContainsFunc_int64_int64_at_impl_headCode_1rs, f := fun x y => slices_ContainsFunc_int64_int64_at_impl_headCode_1 n x.1 }

theorem slices_ContainsFunc_int64_int64_at_impl_headCode_1_eq (n : Nat) (a0 : List (Int)) : runBody ([slices_IndexFunc_int64_int64_at_impl_headCode_1F n]) ty 9 n slices_ContainsFunc_int64_int64_at_impl_headCode_1kp slices_ContainsFunc_int64_int64_at_impl_headCode_1c Go.Proofs.Try.f194.results.toList slices_ContainsFunc_int64_int64_at_impl_headCode_1rs slices_ContainsFunc_int64_int64_at_impl_headCode_1sp slices_ContainsFunc_int64_int64_at_impl_headCode_1bs (a0, ((), ())) () = slices_ContainsFunc_int64_int64_at_impl_headCode_1 n a0 := by
  have h : runBody ([slices_IndexFunc_int64_int64_at_impl_headCode_1F n]) ty 9 n slices_ContainsFunc_int64_int64_at_impl_headCode_1kp slices_ContainsFunc_int64_int64_at_impl_headCode_1c Go.Proofs.Try.f194.results.toList slices_ContainsFunc_int64_int64_at_impl_headCode_1rs slices_ContainsFunc_int64_int64_at_impl_headCode_1sp slices_ContainsFunc_int64_int64_at_impl_headCode_1bs (a0, ((), ())) () = slices_ContainsFunc_int64_int64_at_impl_headCode_1_t n a0 := by kernel_rfl
  rw [h]
  rfl

theorem slices_ContainsFunc_int64_int64_at_impl_headCode_1_ok (n : Nat) : FunOk P (slices_ContainsFunc_int64_int64_at_impl_headCode_1F n) :=
  funOk_mk (C := [slices_IndexFunc_int64_int64_at_impl_headCode_1F n]) (N := 9) (kp := slices_ContainsFunc_int64_int64_at_impl_headCode_1kp) (c := slices_ContainsFunc_int64_int64_at_impl_headCode_1c) (n := n) (G := fun x y => slices_ContainsFunc_int64_int64_at_impl_headCode_1 n x.1) follows (AllOk.mem (⟨slices_IndexFunc_int64_int64_at_impl_headCode_1_ok n, trivial⟩ : AllOk P ([slices_IndexFunc_int64_int64_at_impl_headCode_1F n]))) (by kernel_rfl : P.funcs[194]? = some Go.Proofs.Try.f194) (by kernel_rfl) (by kernel_rfl) (by kernel_rfl)
    (fun x y => slices_ContainsFunc_int64_int64_at_impl_headCode_1_eq n x.1) (fun _ _ => map_same (fun _ => rfl) _) (fun _ _ _ _ => rfl)

abbrev impl_headCodesp : List Sp := [.v true (.pair (.list (.int .i16)) (.pair (.int .i64) (.int .i64))), .v false (.int .i64), .v false (.list (.int .i64))]
abbrev impl_headCodebs : List (Bs × Bool) := []
abbrev impl_headCoders : List (Bool × List Rp) := [(false, [.v false (.int .i64)])]
noncomputable def impl_headCodekp : Keep := { loop := fun id => match id with | _ => ([], []), join := fun id => match id with | _ => none }
noncomputable def impl_headCodec : Code := bodyOf Go.Proofs.Try.f153
noncomputable def impl_headCodeF (n : Nat) : Fun := { id := 153, sp := impl_headCodesp, bs := impl_headCodebs, rs := impl_headCoders, f := fun x y => impl_headCode n x.1 x.2.1 x.2.2.1 }

theorem impl_headCode_eq (n : Nat) (a0 : (List (Int)) × ((Int) × (Int))) (a1 : Int) (a2 : List (Int)) : runBody ([impl_ValidDiskF n, slices_ContainsFunc_int64_int64_at_impl_headCode_1F n, impl_withinF n]) ty 19 n impl_headCodekp impl_headCodec Go.Proofs.Try.f153.results.toList impl_headCoders impl_headCodesp impl_headCodebs (a0, (a1, (a2, ()))) () = impl_headCode n a0 a1 a2 := by
  have h : runBody ([impl_ValidDiskF n, slices_ContainsFunc_int64_int64_at_impl_headCode_1F n, impl_withinF n]) ty 19 n impl_headCodekp impl_headCodec Go.Proofs.Try.f153.results.toList impl_headCoders impl_headCodesp impl_headCodebs (a0, (a1, (a2, ()))) () = impl_headCode_t n a0 a1 a2 := by kernel_rfl
  rw [h]
  rfl

theorem impl_headCode_ok (n : Nat) : FunOk P (impl_headCodeF n) :=
  funOk_mk (C := [impl_ValidDiskF n, slices_ContainsFunc_int64_int64_at_impl_headCode_1F n, impl_withinF n]) (N := 19) (kp := impl_headCodekp) (c := impl_headCodec) (n := n) (G := fun x y => impl_headCode n x.1 x.2.1 x.2.2.1) follows (AllOk.mem (⟨impl_ValidDisk_ok n, ⟨slices_ContainsFunc_int64_int64_at_impl_headCode_1_ok n, ⟨impl_within_ok n, trivial⟩⟩⟩ : AllOk P ([impl_ValidDiskF n, slices_ContainsFunc_int64_int64_at_impl_headCode_1F n, impl_withinF n]))) (by kernel_rfl : P.funcs[153]? = some Go.Proofs.Try.f153) (by kernel_rfl) (by kernel_rfl) (by kernel_rfl)
    (fun x y => impl_headCode_eq n x.1 x.2.1 x.2.2.1) (fun _ _ => map_same (fun _ => rfl) _) (fun _ _ _ _ => rfl)

abbrev impl_faultAtsp : List Sp := [.v true (.pair (.list (.int .i16)) (.pair (.int .i64) (.int .i64))), .v false (.int .i64)]
abbrev impl_faultAtbs : List (Bs × Bool) := []
abbrev impl_faultAtrs : List (Bool × List Rp) := [(false, [.v false (.int .i64)]), (false, [.v false (.int .i64)])]
noncomputable def impl_faultAtkp : Keep := { loop := fun id => match id with | _ => ([], []), join := fun id => match id with | _ => none }
noncomputable def impl_faultAtc : Code := bodyOf Go.Proofs.Try.f166
noncomputable def impl_faultAtF (n : Nat) : Fun := { id := 166, sp := impl_faultAtsp, bs := impl_faultAtbs, rs := impl_faultAtrs, f := fun x y => impl_faultAt n x.1 x.2.1 }

theorem impl_faultAt_eq (n : Nat) (a0 : (List (Int)) × ((Int) × (Int))) (a1 : Int) : runBody ([]) ty 46 n impl_faultAtkp impl_faultAtc Go.Proofs.Try.f166.results.toList impl_faultAtrs impl_faultAtsp impl_faultAtbs (a0, (a1, ())) () = impl_faultAt n a0 a1 := by
  have h : runBody ([]) ty 46 n impl_faultAtkp impl_faultAtc Go.Proofs.Try.f166.results.toList impl_faultAtrs impl_faultAtsp impl_faultAtbs (a0, (a1, ())) () = impl_faultAt_t n a0 a1 := by kernel_rfl
  rw [h]
  rfl

theorem impl_faultAt_ok (n : Nat) : FunOk P (impl_faultAtF n) :=
  funOk_mk (C := []) (N := 46) (kp := impl_faultAtkp) (c := impl_faultAtc) (n := n) (G := fun x y => impl_faultAt n x.1 x.2.1) follows (AllOk.mem (trivial : AllOk P ([]))) (by kernel_rfl : P.funcs[166]? = some Go.Proofs.Try.f166) (by kernel_rfl) (by kernel_rfl) (by kernel_rfl)
    (fun x y => impl_faultAt_eq n x.1 x.2.1) (fun _ _ => map_same (fun _ => rfl) _) (fun _ _ _ _ => rfl)

abbrev impl_swingsp : List Sp := [.v false (.int .i64)]
abbrev impl_swingbs : List (Bs × Bool) := []
abbrev impl_swingrs : List (Bool × List Rp) := [(false, [.v false (.int .i64)])]
noncomputable def impl_swingkp : Keep := { loop := fun id => match id with | _ => ([], []), join := fun id => match id with | _ => none }
noncomputable def impl_swingc : Code := bodyOf Go.Proofs.Try.f243
noncomputable def impl_swingF (n : Nat) : Fun := { id := 243, sp := impl_swingsp, bs := impl_swingbs, rs := impl_swingrs, f := fun x y => impl_swing n x.1 }

theorem impl_swing_eq (n : Nat) (a0 : Int) : runBody ([]) ty 14 n impl_swingkp impl_swingc Go.Proofs.Try.f243.results.toList impl_swingrs impl_swingsp impl_swingbs (a0, ()) () = impl_swing n a0 := by
  have h : runBody ([]) ty 14 n impl_swingkp impl_swingc Go.Proofs.Try.f243.results.toList impl_swingrs impl_swingsp impl_swingbs (a0, ()) () = impl_swing_t n a0 := by kernel_rfl
  rw [h]
  rfl

theorem impl_swing_ok (n : Nat) : FunOk P (impl_swingF n) :=
  funOk_mk (C := []) (N := 14) (kp := impl_swingkp) (c := impl_swingc) (n := n) (G := fun x y => impl_swing n x.1) follows (AllOk.mem (trivial : AllOk P ([]))) (by kernel_rfl : P.funcs[243]? = some Go.Proofs.Try.f243) (by kernel_rfl) (by kernel_rfl) (by kernel_rfl)
    (fun x y => impl_swing_eq n x.1) (fun _ _ => map_same (fun _ => rfl) _) (fun _ _ _ _ => rfl)

abbrev impl_wrapsp : List Sp := [.v false (.int .i64)]
abbrev impl_wrapbs : List (Bs × Bool) := []
abbrev impl_wraprs : List (Bool × List Rp) := [(false, [.v false (.int .i64)])]
noncomputable def impl_wrapkp : Keep := { loop := fun id => match id with | _ => ([], []), join := fun id => match id with | _ => none }
noncomputable def impl_wrapc : Code := bodyOf Go.Proofs.Try.f156
noncomputable def impl_wrapF (n : Nat) : Fun := { id := 156, sp := impl_wrapsp, bs := impl_wrapbs, rs := impl_wraprs, f := fun x y => impl_wrap n x.1 }

theorem impl_wrap_eq (n : Nat) (a0 : Int) : runBody ([]) ty 7 n impl_wrapkp impl_wrapc Go.Proofs.Try.f156.results.toList impl_wraprs impl_wrapsp impl_wrapbs (a0, ()) () = impl_wrap n a0 := by
  have h : runBody ([]) ty 7 n impl_wrapkp impl_wrapc Go.Proofs.Try.f156.results.toList impl_wraprs impl_wrapsp impl_wrapbs (a0, ()) () = impl_wrap_t n a0 := by kernel_rfl
  rw [h]
  rfl

theorem impl_wrap_ok (n : Nat) : FunOk P (impl_wrapF n) :=
  funOk_mk (C := []) (N := 7) (kp := impl_wrapkp) (c := impl_wrapc) (n := n) (G := fun x y => impl_wrap n x.1) follows (AllOk.mem (trivial : AllOk P ([]))) (by kernel_rfl : P.funcs[156]? = some Go.Proofs.Try.f156) (by kernel_rfl) (by kernel_rfl) (by kernel_rfl)
    (fun x y => impl_wrap_eq n x.1) (fun _ _ => map_same (fun _ => rfl) _) (fun _ _ _ _ => rfl)

abbrev impl_swingAtsp : List Sp := [.v true (.pair (.list (.int .i16)) (.pair (.int .i64) (.int .i64))), .v false (.int .i64)]
abbrev impl_swingAtbs : List (Bs × Bool) := []
abbrev impl_swingAtrs : List (Bool × List Rp) := [(false, [.v false (.int .i64)]), (false, [.v false (.int .i64)])]
noncomputable def impl_swingAtkp : Keep := { loop := fun id => match id with | _ => ([], []), join := fun id => match id with | _ => none }
noncomputable def impl_swingAtc : Code := bodyOf Go.Proofs.Try.f173
noncomputable def impl_swingAtF (n : Nat) : Fun := { id := 173, sp := impl_swingAtsp, bs := impl_swingAtbs, rs := impl_swingAtrs, f := fun x y => impl_swingAt n x.1 x.2.1 }

theorem impl_swingAt_eq (n : Nat) (a0 : (List (Int)) × ((Int) × (Int))) (a1 : Int) : runBody ([impl_swingF n, impl_wrapF n]) ty 19 n impl_swingAtkp impl_swingAtc Go.Proofs.Try.f173.results.toList impl_swingAtrs impl_swingAtsp impl_swingAtbs (a0, (a1, ())) () = impl_swingAt n a0 a1 := by
  have h : runBody ([impl_swingF n, impl_wrapF n]) ty 19 n impl_swingAtkp impl_swingAtc Go.Proofs.Try.f173.results.toList impl_swingAtrs impl_swingAtsp impl_swingAtbs (a0, (a1, ())) () = impl_swingAt_t n a0 a1 := by kernel_rfl
  rw [h]
  rfl

theorem impl_swingAt_ok (n : Nat) : FunOk P (impl_swingAtF n) :=
  funOk_mk (C := [impl_swingF n, impl_wrapF n]) (N := 19) (kp := impl_swingAtkp) (c := impl_swingAtc) (n := n) (G := fun x y => impl_swingAt n x.1 x.2.1) follows (AllOk.mem (⟨impl_swing_ok n, ⟨impl_wrap_ok n, trivial⟩⟩ : AllOk P ([impl_swingF n, impl_wrapF n]))) (by kernel_rfl : P.funcs[173]? = some Go.Proofs.Try.f173) (by kernel_rfl) (by kernel_rfl) (by kernel_rfl)
    (fun x y => impl_swingAt_eq n x.1 x.2.1) (fun _ _ => map_same (fun _ => rfl) _) (fun _ _ _ _ => rfl)

abbrev impl_floorDivsp : List Sp := [.v false (.int .i64), .v false (.int .i64)]
abbrev impl_floorDivbs : List (Bs × Bool) := []
abbrev impl_floorDivrs : List (Bool × List Rp) := [(false, [.v false (.int .i64)])]
noncomputable def impl_floorDivkp : Keep := { loop := fun id => match id with | _ => ([], []), join := fun id => match id with | _ => none }
noncomputable def impl_floorDivc : Code := bodyOf Go.Proofs.Try.f150
noncomputable def impl_floorDivF (n : Nat) : Fun := { id := 150, sp := impl_floorDivsp, bs := impl_floorDivbs, rs := impl_floorDivrs, f := fun x y => impl_floorDiv n x.1 x.2.1 }

theorem impl_floorDiv_eq (n : Nat) (a0 : Int) (a1 : Int) : runBody ([]) ty 23 n impl_floorDivkp impl_floorDivc Go.Proofs.Try.f150.results.toList impl_floorDivrs impl_floorDivsp impl_floorDivbs (a0, (a1, ())) () = impl_floorDiv n a0 a1 := by
  have h : runBody ([]) ty 23 n impl_floorDivkp impl_floorDivc Go.Proofs.Try.f150.results.toList impl_floorDivrs impl_floorDivsp impl_floorDivbs (a0, (a1, ())) () = impl_floorDiv_t n a0 a1 := by kernel_rfl
  rw [h]
  rfl

theorem impl_floorDiv_ok (n : Nat) : FunOk P (impl_floorDivF n) :=
  funOk_mk (C := []) (N := 23) (kp := impl_floorDivkp) (c := impl_floorDivc) (n := n) (G := fun x y => impl_floorDiv n x.1 x.2.1) follows (AllOk.mem (trivial : AllOk P ([]))) (by kernel_rfl : P.funcs[150]? = some Go.Proofs.Try.f150) (by kernel_rfl) (by kernel_rfl) (by kernel_rfl)
    (fun x y => impl_floorDiv_eq n x.1 x.2.1) (fun _ _ => map_same (fun _ => rfl) _) (fun _ _ _ _ => rfl)

abbrev impl_nearestsp : List Sp := [.v false (.int .i64), .v false (.int .i64)]
abbrev impl_nearestbs : List (Bs × Bool) := []
abbrev impl_nearestrs : List (Bool × List Rp) := [(false, [.v false (.int .i64)]), (false, [.v false .bool])]
noncomputable def impl_nearestkp : Keep := { loop := fun id => match id with | _ => ([], []), join := fun id => match id with | _ => none }
noncomputable def impl_nearestc : Code := bodyOf Go.Proofs.Try.f209
noncomputable def impl_nearestF (n : Nat) : Fun := { id := 209, sp := impl_nearestsp, bs := impl_nearestbs, rs := impl_nearestrs, f := fun x y => impl_nearest n x.1 x.2.1 }

theorem impl_nearest_eq (n : Nat) (a0 : Int) (a1 : Int) : runBody ([impl_floorDivF n, impl_withinF n]) ty 17 n impl_nearestkp impl_nearestc Go.Proofs.Try.f209.results.toList impl_nearestrs impl_nearestsp impl_nearestbs (a0, (a1, ())) () = impl_nearest n a0 a1 := by
  have h : runBody ([impl_floorDivF n, impl_withinF n]) ty 17 n impl_nearestkp impl_nearestc Go.Proofs.Try.f209.results.toList impl_nearestrs impl_nearestsp impl_nearestbs (a0, (a1, ())) () = impl_nearest_t n a0 a1 := by kernel_rfl
  rw [h]
  rfl

theorem impl_nearest_ok (n : Nat) : FunOk P (impl_nearestF n) :=
  funOk_mk (C := [impl_floorDivF n, impl_withinF n]) (N := 17) (kp := impl_nearestkp) (c := impl_nearestc) (n := n) (G := fun x y => impl_nearest n x.1 x.2.1) follows (AllOk.mem (⟨impl_floorDiv_ok n, ⟨impl_within_ok n, trivial⟩⟩ : AllOk P ([impl_floorDivF n, impl_withinF n]))) (by kernel_rfl : P.funcs[209]? = some Go.Proofs.Try.f209) (by kernel_rfl) (by kernel_rfl) (by kernel_rfl)
    (fun x y => impl_nearest_eq n x.1 x.2.1) (fun _ _ => map_same (fun _ => rfl) _) (fun _ _ _ _ => rfl)

abbrev impl_headsp : List Sp := [.v true (.pair (.list (.int .i16)) (.pair (.int .i64) (.int .i64))), .v false (.int .i64), .v false (.int .i64)]
abbrev impl_headbs : List (Bs × Bool) := []
abbrev impl_headrs : List (Bool × List Rp) := [(false, [.v false (.int .i64)])]
noncomputable def impl_headkp : Keep := { loop := fun id => match id with | _ => ([], []), join := fun id => match id with | _ => none }
noncomputable def impl_headc : Code := bodyOf Go.Proofs.Try.f155
noncomputable def impl_headF (n : Nat) : Fun := { id := 155, sp := impl_headsp, bs := impl_headbs, rs := impl_headrs, f := fun x y => impl_head n x.1 x.2.1 x.2.2.1 }

theorem impl_head_eq (n : Nat) (a0 : (List (Int)) × ((Int) × (Int))) (a1 : Int) (a2 : Int) : runBody ([impl_faultAtF n, impl_swingAtF n, impl_nearestF n, impl_wrapF n]) ty 51 n impl_headkp impl_headc Go.Proofs.Try.f155.results.toList impl_headrs impl_headsp impl_headbs (a0, (a1, (a2, ()))) () = impl_head n a0 a1 a2 := by
  have h : runBody ([impl_faultAtF n, impl_swingAtF n, impl_nearestF n, impl_wrapF n]) ty 51 n impl_headkp impl_headc Go.Proofs.Try.f155.results.toList impl_headrs impl_headsp impl_headbs (a0, (a1, (a2, ()))) () = impl_head_t n a0 a1 a2 := by kernel_rfl
  rw [h]
  rfl

theorem impl_head_ok (n : Nat) : FunOk P (impl_headF n) :=
  funOk_mk (C := [impl_faultAtF n, impl_swingAtF n, impl_nearestF n, impl_wrapF n]) (N := 51) (kp := impl_headkp) (c := impl_headc) (n := n) (G := fun x y => impl_head n x.1 x.2.1 x.2.2.1) follows (AllOk.mem (⟨impl_faultAt_ok n, ⟨impl_swingAt_ok n, ⟨impl_nearest_ok n, ⟨impl_wrap_ok n, trivial⟩⟩⟩⟩ : AllOk P ([impl_faultAtF n, impl_swingAtF n, impl_nearestF n, impl_wrapF n]))) (by kernel_rfl : P.funcs[155]? = some Go.Proofs.Try.f155) (by kernel_rfl) (by kernel_rfl) (by kernel_rfl)
    (fun x y => impl_head_eq n x.1 x.2.1 x.2.2.1) (fun _ _ => map_same (fun _ => rfl) _) (fun _ _ _ _ => rfl)

abbrev impl_ReadHeadsp : List Sp := [.v true (.pair (.list (.int .i16)) (.pair (.int .i64) (.int .i64))), .v false (.int .i64), .v false (.int .i64)]
abbrev impl_ReadHeadbs : List (Bs × Bool) := []
abbrev impl_ReadHeadrs : List (Bool × List Rp) := [(false, [.v false (.int .i64)]), (false, [.v false (.int .i64)])]
noncomputable def impl_ReadHeadkp : Keep := { loop := fun id => match id with | _ => ([], []), join := fun id => match id with | _ => none }
noncomputable def impl_ReadHeadc : Code := bodyOf Go.Proofs.Try.f57
noncomputable def impl_ReadHeadF (n : Nat) : Fun := { id := 57, sp := impl_ReadHeadsp, bs := impl_ReadHeadbs, rs := impl_ReadHeadrs, f := fun x y => impl_ReadHead n x.1 x.2.1 x.2.2.1 }

theorem impl_ReadHead_eq (n : Nat) (a0 : (List (Int)) × ((Int) × (Int))) (a1 : Int) (a2 : Int) : runBody ([impl_headCodeF n, impl_headF n]) ty 21 n impl_ReadHeadkp impl_ReadHeadc Go.Proofs.Try.f57.results.toList impl_ReadHeadrs impl_ReadHeadsp impl_ReadHeadbs (a0, (a1, (a2, ()))) () = impl_ReadHead n a0 a1 a2 := by
  have h : runBody ([impl_headCodeF n, impl_headF n]) ty 21 n impl_ReadHeadkp impl_ReadHeadc Go.Proofs.Try.f57.results.toList impl_ReadHeadrs impl_ReadHeadsp impl_ReadHeadbs (a0, (a1, (a2, ()))) () = impl_ReadHead_t n a0 a1 a2 := by kernel_rfl
  rw [h]
  rfl

theorem impl_ReadHead_ok (n : Nat) : FunOk P (impl_ReadHeadF n) :=
  funOk_mk (C := [impl_headCodeF n, impl_headF n]) (N := 21) (kp := impl_ReadHeadkp) (c := impl_ReadHeadc) (n := n) (G := fun x y => impl_ReadHead n x.1 x.2.1 x.2.2.1) follows (AllOk.mem (⟨impl_headCode_ok n, ⟨impl_head_ok n, trivial⟩⟩ : AllOk P ([impl_headCodeF n, impl_headF n]))) (by kernel_rfl : P.funcs[57]? = some Go.Proofs.Try.f57) (by kernel_rfl) (by kernel_rfl) (by kernel_rfl)
    (fun x y => impl_ReadHead_eq n x.1 x.2.1 x.2.2.1) (fun _ _ => map_same (fun _ => rfl) _) (fun _ _ _ _ => rfl)

abbrev spec_l00Insp : List Sp := [.v false (.int .i64), .v false (.int .i64), .v false (.int .i64)]
abbrev spec_l00Inbs : List (Bs × Bool) := []
abbrev spec_l00Inrs : List (Bool × List Rp) := [(false, [.v false .bool])]
noncomputable def spec_l00Inkp : Keep := { loop := fun id => match id with | _ => ([], []), join := fun id => match id with | _ => none }
noncomputable def spec_l00Inc : Code := bodyOf Go.Proofs.Try.f128
noncomputable def spec_l00InF (n : Nat) : Fun := { id := 128, sp := spec_l00Insp, bs := spec_l00Inbs, rs := spec_l00Inrs, f := fun x y => spec_l00In n x.1 x.2.1 x.2.2.1 }

theorem spec_l00In_eq (n : Nat) (a0 : Int) (a1 : Int) (a2 : Int) : runBody ([]) ty 15 n spec_l00Inkp spec_l00Inc Go.Proofs.Try.f128.results.toList spec_l00Inrs spec_l00Insp spec_l00Inbs (a0, (a1, (a2, ()))) () = spec_l00In n a0 a1 a2 := by
  have h : runBody ([]) ty 15 n spec_l00Inkp spec_l00Inc Go.Proofs.Try.f128.results.toList spec_l00Inrs spec_l00Insp spec_l00Inbs (a0, (a1, (a2, ()))) () = spec_l00In_t n a0 a1 a2 := by kernel_rfl
  rw [h]
  rfl

theorem spec_l00In_ok (n : Nat) : FunOk P (spec_l00InF n) :=
  funOk_mk (C := []) (N := 15) (kp := spec_l00Inkp) (c := spec_l00Inc) (n := n) (G := fun x y => spec_l00In n x.1 x.2.1 x.2.2.1) follows (AllOk.mem (trivial : AllOk P ([]))) (by kernel_rfl : P.funcs[128]? = some Go.Proofs.Try.f128) (by kernel_rfl) (by kernel_rfl) (by kernel_rfl)
    (fun x y => spec_l00In_eq n x.1 x.2.1 x.2.2.1) (fun _ _ => map_same (fun _ => rfl) _) (fun _ _ _ _ => rfl)

abbrev spec_l03Oksp : List Sp := [.ref 0]
abbrev spec_l03Okbs : List (Bs × Bool) := [(.var 62 (.pair (.list (.int .i16)) (.pair (.int .i64) (.int .i64))), true)]
abbrev spec_l03Okrs : List (Bool × List Rp) := [(false, [.v false .bool])]
noncomputable def spec_l03Okkp : Keep := { loop := fun id => match id with | 5 => ([4, 0], []) | _ => ([], []), join := fun id => match id with | _ => none }
noncomputable def spec_l03Okc : Code := bodyOf Go.Proofs.Try.f158
noncomputable def spec_l03OkF (n : Nat) : Fun := { id := 158, sp := spec_l03Oksp, bs := spec_l03Okbs, rs := spec_l03Okrs, f := fun x y => spec_l03Ok n y.1 }

theorem spec_l03Ok_l5_eq (n : Nat) : ∀ (k : Nat) (v4 : Int) (b0_0 : List (Int)) (b0_1 : Int) (b0_2 : Int), iter (interp ([spec_l00InF n]) ty 49 1 n spec_l03Okkp (codeAt spec_l03Okc [1, 1, 1, 0, 1, 0, 0])) (canon 1 (spec_l03Okkp.loop 5)) (kAt ([spec_l00InF n]) ty 49 1 n spec_l03Okkp spec_l03Okc [1, 1, 1, 0, 1, 0] [] (ending ty 1 Go.Proofs.Try.f158.results.toList spec_l03Okrs spec_l03Okbs)) k { env := [(4, .one (.sc (.int .i64 v4))), (0, .one (.ref 0 0 0 0 0 0))], bx := [(0, .var 62 [.list true (.int .i16) b0_0, .sc (.int .i64 b0_1), .sc (.int .i64 b0_2)])], nx := 1 } = spec_l03Ok_l5 n k v4 b0_0 b0_1 b0_2
  | 0, _, _, _, _ => by kernel_rfl
  | k + 1, v4, b0_0, b0_1, b0_2 => by
    have h : iter (interp ([spec_l00InF n]) ty 49 1 n spec_l03Okkp (codeAt spec_l03Okc [1, 1, 1, 0, 1, 0, 0])) (canon 1 (spec_l03Okkp.loop 5)) (kAt ([spec_l00InF n]) ty 49 1 n spec_l03Okkp spec_l03Okc [1, 1, 1, 0, 1, 0] [] (ending ty 1 Go.Proofs.Try.f158.results.toList spec_l03Okrs spec_l03Okbs)) (k + 1) { env := [(4, .one (.sc (.int .i64 v4))), (0, .one (.ref 0 0 0 0 0 0))], bx := [(0, .var 62 [.list true (.int .i16) b0_0, .sc (.int .i64 b0_1), .sc (.int .i64 b0_2)])], nx := 1 } = spec_l03Ok_t5 n (fun v4 b0_0 b0_1 b0_2 => iter (interp ([spec_l00InF n]) ty 49 1 n spec_l03Okkp (codeAt spec_l03Okc [1, 1, 1, 0, 1, 0, 0])) (canon 1 (spec_l03Okkp.loop 5)) (kAt ([spec_l00InF n]) ty 49 1 n spec_l03Okkp spec_l03Okc [1, 1, 1, 0, 1, 0] [] (ending ty 1 Go.Proofs.Try.f158.results.toList spec_l03Okrs spec_l03Okbs)) k { env := [(4, .one (.sc (.int .i64 v4))), (0, .one (.ref 0 0 0 0 0 0))], bx := [(0, .var 62 [.list true (.int .i16) b0_0, .sc (.int .i64 b0_1), .sc (.int .i64 b0_2)])], nx := 1 }) v4 b0_0 b0_1 b0_2 := by kernel_rfl
    rw [h]
    have e := congrArg (fun g => spec_l03Ok_t5 n g v4 b0_0 b0_1 b0_2) (funext fun v4 => funext fun b0_0 => funext fun b0_1 => funext fun b0_2 => spec_l03Ok_l5_eq n k v4 b0_0 b0_1 b0_2)
    exact e

theorem spec_l03Ok_eq (n : Nat) (b0 : (List (Int)) × ((Int) × (Int))) : runBody ([spec_l00InF n]) ty 49 n spec_l03Okkp spec_l03Okc Go.Proofs.Try.f158.results.toList spec_l03Okrs spec_l03Oksp spec_l03Okbs ((), ()) (b0, ()) = spec_l03Ok n b0 := by
  have h : runBody ([spec_l00InF n]) ty 49 n spec_l03Okkp spec_l03Okc Go.Proofs.Try.f158.results.toList spec_l03Okrs spec_l03Oksp spec_l03Okbs ((), ()) (b0, ()) = spec_l03Ok_t n (fun k v4 b0_0 b0_1 b0_2 => iter (interp ([spec_l00InF n]) ty 49 1 n spec_l03Okkp (codeAt spec_l03Okc [1, 1, 1, 0, 1, 0, 0])) (canon 1 (spec_l03Okkp.loop 5)) (kAt ([spec_l00InF n]) ty 49 1 n spec_l03Okkp spec_l03Okc [1, 1, 1, 0, 1, 0] [] (ending ty 1 Go.Proofs.Try.f158.results.toList spec_l03Okrs spec_l03Okbs)) k { env := [(4, .one (.sc (.int .i64 v4))), (0, .one (.ref 0 0 0 0 0 0))], bx := [(0, .var 62 [.list true (.int .i16) b0_0, .sc (.int .i64 b0_1), .sc (.int .i64 b0_2)])], nx := 1 }) b0 := by kernel_rfl
  rw [h]
  have e := congrArg (fun h5 => spec_l03Ok_t n h5 b0) (funext fun k => funext fun v4 => funext fun b0_0 => funext fun b0_1 => funext fun b0_2 => spec_l03Ok_l5_eq n k v4 b0_0 b0_1 b0_2)
  exact e

theorem spec_l03Ok_ok (n : Nat) : FunOk P (spec_l03OkF n) :=
  funOk_mk (C := [spec_l00InF n]) (N := 49) (kp := spec_l03Okkp) (c := spec_l03Okc) (n := n) (G := fun x y => spec_l03Ok n y.1) follows (AllOk.mem (⟨spec_l00In_ok n, trivial⟩ : AllOk P ([spec_l00InF n]))) (by kernel_rfl : P.funcs[158]? = some Go.Proofs.Try.f158) (by kernel_rfl) (by kernel_rfl) (by kernel_rfl)
    (fun x y => spec_l03Ok_eq n y.1) (fun _ _ => map_same (fun _ => rfl) _) (fun _ _ _ _ => rfl)

abbrev spec_l03Anglesp : List Sp := [.v false (.int .i64)]
abbrev spec_l03Anglebs : List (Bs × Bool) := []
abbrev spec_l03Anglers : List (Bool × List Rp) := [(false, [.v false .bool])]
noncomputable def spec_l03Anglekp : Keep := { loop := fun id => match id with | _ => ([], []), join := fun id => match id with | _ => none }
noncomputable def spec_l03Anglec : Code := bodyOf Go.Proofs.Try.f182
noncomputable def spec_l03AngleF (n : Nat) : Fun := { id := 182, sp := spec_l03Anglesp, bs := spec_l03Anglebs, rs := spec_l03Anglers, f := fun x y => spec_l03Angle n x.1 }

theorem spec_l03Angle_eq (n : Nat) (a0 : Int) : runBody ([spec_l00InF n]) ty 5 n spec_l03Anglekp spec_l03Anglec Go.Proofs.Try.f182.results.toList spec_l03Anglers spec_l03Anglesp spec_l03Anglebs (a0, ()) () = spec_l03Angle n a0 := by
  have h : runBody ([spec_l00InF n]) ty 5 n spec_l03Anglekp spec_l03Anglec Go.Proofs.Try.f182.results.toList spec_l03Anglers spec_l03Anglesp spec_l03Anglebs (a0, ()) () = spec_l03Angle_t n a0 := by kernel_rfl
  rw [h]
  rfl

theorem spec_l03Angle_ok (n : Nat) : FunOk P (spec_l03AngleF n) :=
  funOk_mk (C := [spec_l00InF n]) (N := 5) (kp := spec_l03Anglekp) (c := spec_l03Anglec) (n := n) (G := fun x y => spec_l03Angle n x.1) follows (AllOk.mem (⟨spec_l00In_ok n, trivial⟩ : AllOk P ([spec_l00InF n]))) (by kernel_rfl : P.funcs[182]? = some Go.Proofs.Try.f182) (by kernel_rfl) (by kernel_rfl) (by kernel_rfl)
    (fun x y => spec_l03Angle_eq n x.1) (fun _ _ => map_same (fun _ => rfl) _) (fun _ _ _ _ => rfl)

abbrev spec_l03Askedsp : List Sp := [.ref 0, .v false (.int .i64)]
abbrev spec_l03Askedbs : List (Bs × Bool) := [(.var 62 (.pair (.list (.int .i16)) (.pair (.int .i64) (.int .i64))), true)]
abbrev spec_l03Askedrs : List (Bool × List Rp) := [(false, [.v false (.int .i64)])]
noncomputable def spec_l03Askedkp : Keep := { loop := fun id => match id with | _ => ([], []), join := fun id => match id with | _ => none }
noncomputable def spec_l03Askedc : Code := bodyOf Go.Proofs.Try.f167
noncomputable def spec_l03AskedF (n : Nat) : Fun := { id := 167, sp := spec_l03Askedsp, bs := spec_l03Askedbs, rs := spec_l03Askedrs, f := fun x y => spec_l03Asked n x.2.1 y.1 }

theorem spec_l03Asked_eq (n : Nat) (a1 : Int) (b0 : (List (Int)) × ((Int) × (Int))) : runBody ([spec_l03OkF n, spec_l03AngleF n]) ty 13 n spec_l03Askedkp spec_l03Askedc Go.Proofs.Try.f167.results.toList spec_l03Askedrs spec_l03Askedsp spec_l03Askedbs ((), (a1, ())) (b0, ()) = spec_l03Asked n a1 b0 := by
  have h : runBody ([spec_l03OkF n, spec_l03AngleF n]) ty 13 n spec_l03Askedkp spec_l03Askedc Go.Proofs.Try.f167.results.toList spec_l03Askedrs spec_l03Askedsp spec_l03Askedbs ((), (a1, ())) (b0, ()) = spec_l03Asked_t n a1 b0 := by kernel_rfl
  rw [h]
  rfl

theorem spec_l03Asked_ok (n : Nat) : FunOk P (spec_l03AskedF n) :=
  funOk_mk (C := [spec_l03OkF n, spec_l03AngleF n]) (N := 13) (kp := spec_l03Askedkp) (c := spec_l03Askedc) (n := n) (G := fun x y => spec_l03Asked n x.2.1 y.1) follows (AllOk.mem (⟨spec_l03Ok_ok n, ⟨spec_l03Angle_ok n, trivial⟩⟩ : AllOk P ([spec_l03OkF n, spec_l03AngleF n]))) (by kernel_rfl : P.funcs[167]? = some Go.Proofs.Try.f167) (by kernel_rfl) (by kernel_rfl) (by kernel_rfl)
    (fun x y => spec_l03Asked_eq n x.2.1 y.1) (fun _ _ => map_same (fun _ => rfl) _) (fun _ _ _ _ => rfl)

abbrev spec_l03Leastsp : List Sp := [.ref 0, .v false (.int .i64), .v false (.int .i64)]
abbrev spec_l03Leastbs : List (Bs × Bool) := [(.var 62 (.pair (.list (.int .i16)) (.pair (.int .i64) (.int .i64))), true)]
abbrev spec_l03Leastrs : List (Bool × List Rp) := [(false, [.v false (.int .i64)])]
noncomputable def spec_l03Leastkp : Keep := { loop := fun id => match id with | _ => ([], []), join := fun id => match id with | _ => none }
noncomputable def spec_l03Leastc : Code := bodyOf Go.Proofs.Try.f181
noncomputable def spec_l03LeastF (n : Nat) : Fun := { id := 181, sp := spec_l03Leastsp, bs := spec_l03Leastbs, rs := spec_l03Leastrs, f := fun x y => spec_l03Least n x.2.1 x.2.2.1 y.1 }

theorem spec_l03Least_eq (n : Nat) (a1 : Int) (a2 : Int) (b0 : (List (Int)) × ((Int) × (Int))) : runBody ([spec_l03AskedF n, spec_l00InF n]) ty 19 n spec_l03Leastkp spec_l03Leastc Go.Proofs.Try.f181.results.toList spec_l03Leastrs spec_l03Leastsp spec_l03Leastbs ((), (a1, (a2, ()))) (b0, ()) = spec_l03Least n a1 a2 b0 := by
  have h : runBody ([spec_l03AskedF n, spec_l00InF n]) ty 19 n spec_l03Leastkp spec_l03Leastc Go.Proofs.Try.f181.results.toList spec_l03Leastrs spec_l03Leastsp spec_l03Leastbs ((), (a1, (a2, ()))) (b0, ()) = spec_l03Least_t n a1 a2 b0 := by kernel_rfl
  rw [h]
  rfl

theorem spec_l03Least_ok (n : Nat) : FunOk P (spec_l03LeastF n) :=
  funOk_mk (C := [spec_l03AskedF n, spec_l00InF n]) (N := 19) (kp := spec_l03Leastkp) (c := spec_l03Leastc) (n := n) (G := fun x y => spec_l03Least n x.2.1 x.2.2.1 y.1) follows (AllOk.mem (⟨spec_l03Asked_ok n, ⟨spec_l00In_ok n, trivial⟩⟩ : AllOk P ([spec_l03AskedF n, spec_l00InF n]))) (by kernel_rfl : P.funcs[181]? = some Go.Proofs.Try.f181) (by kernel_rfl) (by kernel_rfl) (by kernel_rfl)
    (fun x y => spec_l03Least_eq n x.2.1 x.2.2.1 y.1) (fun _ _ => map_same (fun _ => rfl) _) (fun _ _ _ _ => rfl)

abbrev spec_l03Faultsp : List Sp := [.ref 0, .v false (.int .i64)]
abbrev spec_l03Faultbs : List (Bs × Bool) := [(.var 62 (.pair (.list (.int .i16)) (.pair (.int .i64) (.int .i64))), true)]
abbrev spec_l03Faultrs : List (Bool × List Rp) := [(false, [.v false (.int .i64)]), (false, [.v false (.int .i64)])]
noncomputable def spec_l03Faultkp : Keep := { loop := fun id => match id with | _ => ([], []), join := fun id => match id with | _ => none }
noncomputable def spec_l03Faultc : Code := bodyOf Go.Proofs.Try.f168
noncomputable def spec_l03FaultF (n : Nat) : Fun := { id := 168, sp := spec_l03Faultsp, bs := spec_l03Faultbs, rs := spec_l03Faultrs, f := fun x y => spec_l03Fault n x.2.1 y.1 }

theorem spec_l03Fault_eq (n : Nat) (a1 : Int) (b0 : (List (Int)) × ((Int) × (Int))) : runBody ([]) ty 54 n spec_l03Faultkp spec_l03Faultc Go.Proofs.Try.f168.results.toList spec_l03Faultrs spec_l03Faultsp spec_l03Faultbs ((), (a1, ())) (b0, ()) = spec_l03Fault n a1 b0 := by
  have h : runBody ([]) ty 54 n spec_l03Faultkp spec_l03Faultc Go.Proofs.Try.f168.results.toList spec_l03Faultrs spec_l03Faultsp spec_l03Faultbs ((), (a1, ())) (b0, ()) = spec_l03Fault_t n a1 b0 := by kernel_rfl
  rw [h]
  rfl

theorem spec_l03Fault_ok (n : Nat) : FunOk P (spec_l03FaultF n) :=
  funOk_mk (C := []) (N := 54) (kp := spec_l03Faultkp) (c := spec_l03Faultc) (n := n) (G := fun x y => spec_l03Fault n x.2.1 y.1) follows (AllOk.mem (trivial : AllOk P ([]))) (by kernel_rfl : P.funcs[168]? = some Go.Proofs.Try.f168) (by kernel_rfl) (by kernel_rfl) (by kernel_rfl)
    (fun x y => spec_l03Fault_eq n x.2.1 y.1) (fun _ _ => map_same (fun _ => rfl) _) (fun _ _ _ _ => rfl)

abbrev spec_l03Swingsp : List Sp := [.v false (.int .i64)]
abbrev spec_l03Swingbs : List (Bs × Bool) := []
abbrev spec_l03Swingrs : List (Bool × List Rp) := [(false, [.v false (.int .i64)])]
noncomputable def spec_l03Swingkp : Keep := { loop := fun id => match id with | _ => ([], []), join := fun id => match id with | _ => none }
noncomputable def spec_l03Swingc : Code := bodyOf Go.Proofs.Try.f244
noncomputable def spec_l03SwingF (n : Nat) : Fun := { id := 244, sp := spec_l03Swingsp, bs := spec_l03Swingbs, rs := spec_l03Swingrs, f := fun x y => spec_l03Swing n x.1 }

theorem spec_l03Swing_eq (n : Nat) (a0 : Int) : runBody ([]) ty 12 n spec_l03Swingkp spec_l03Swingc Go.Proofs.Try.f244.results.toList spec_l03Swingrs spec_l03Swingsp spec_l03Swingbs (a0, ()) () = spec_l03Swing n a0 := by
  have h : runBody ([]) ty 12 n spec_l03Swingkp spec_l03Swingc Go.Proofs.Try.f244.results.toList spec_l03Swingrs spec_l03Swingsp spec_l03Swingbs (a0, ()) () = spec_l03Swing_t n a0 := by kernel_rfl
  rw [h]
  rfl

theorem spec_l03Swing_ok (n : Nat) : FunOk P (spec_l03SwingF n) :=
  funOk_mk (C := []) (N := 12) (kp := spec_l03Swingkp) (c := spec_l03Swingc) (n := n) (G := fun x y => spec_l03Swing n x.1) follows (AllOk.mem (trivial : AllOk P ([]))) (by kernel_rfl : P.funcs[244]? = some Go.Proofs.Try.f244) (by kernel_rfl) (by kernel_rfl) (by kernel_rfl)
    (fun x y => spec_l03Swing_eq n x.1) (fun _ _ => map_same (fun _ => rfl) _) (fun _ _ _ _ => rfl)

abbrev spec_l03Offsp : List Sp := [.ref 0, .v false (.int .i64)]
abbrev spec_l03Offbs : List (Bs × Bool) := [(.var 62 (.pair (.list (.int .i16)) (.pair (.int .i64) (.int .i64))), true)]
abbrev spec_l03Offrs : List (Bool × List Rp) := [(false, [.v false (.int .i64)])]
noncomputable def spec_l03Offkp : Keep := { loop := fun id => match id with | _ => ([], []), join := fun id => match id with | _ => none }
noncomputable def spec_l03Offc : Code := bodyOf Go.Proofs.Try.f174
noncomputable def spec_l03OffF (n : Nat) : Fun := { id := 174, sp := spec_l03Offsp, bs := spec_l03Offbs, rs := spec_l03Offrs, f := fun x y => spec_l03Off n x.2.1 y.1 }

theorem spec_l03Off_eq (n : Nat) (a1 : Int) (b0 : (List (Int)) × ((Int) × (Int))) : runBody ([spec_l03SwingF n, spec_l03WrapF n]) ty 22 n spec_l03Offkp spec_l03Offc Go.Proofs.Try.f174.results.toList spec_l03Offrs spec_l03Offsp spec_l03Offbs ((), (a1, ())) (b0, ()) = spec_l03Off n a1 b0 := by
  have h : runBody ([spec_l03SwingF n, spec_l03WrapF n]) ty 22 n spec_l03Offkp spec_l03Offc Go.Proofs.Try.f174.results.toList spec_l03Offrs spec_l03Offsp spec_l03Offbs ((), (a1, ())) (b0, ()) = spec_l03Off_t n a1 b0 := by kernel_rfl
  rw [h]
  rfl

theorem spec_l03Off_ok (n : Nat) : FunOk P (spec_l03OffF n) :=
  funOk_mk (C := [spec_l03SwingF n, spec_l03WrapF n]) (N := 22) (kp := spec_l03Offkp) (c := spec_l03Offc) (n := n) (G := fun x y => spec_l03Off n x.2.1 y.1) follows (AllOk.mem (⟨spec_l03Swing_ok n, ⟨spec_l03Wrap_ok n, trivial⟩⟩ : AllOk P ([spec_l03SwingF n, spec_l03WrapF n]))) (by kernel_rfl : P.funcs[174]? = some Go.Proofs.Try.f174) (by kernel_rfl) (by kernel_rfl) (by kernel_rfl)
    (fun x y => spec_l03Off_eq n x.2.1 y.1) (fun _ _ => map_same (fun _ => rfl) _) (fun _ _ _ _ => rfl)

abbrev spec_l01Downsp : List Sp := [.v false (.int .i64), .v false (.int .i64)]
abbrev spec_l01Downbs : List (Bs × Bool) := []
abbrev spec_l01Downrs : List (Bool × List Rp) := [(false, [.v false (.int .i64)])]
noncomputable def spec_l01Downkp : Keep := { loop := fun id => match id with | _ => ([], []), join := fun id => match id with | _ => none }
noncomputable def spec_l01Downc : Code := bodyOf Go.Proofs.Try.f196
noncomputable def spec_l01DownF (n : Nat) : Fun := { id := 196, sp := spec_l01Downsp, bs := spec_l01Downbs, rs := spec_l01Downrs, f := fun x y => spec_l01Down n x.1 x.2.1 }

theorem spec_l01Down_eq (n : Nat) (a0 : Int) (a1 : Int) : runBody ([]) ty 16 n spec_l01Downkp spec_l01Downc Go.Proofs.Try.f196.results.toList spec_l01Downrs spec_l01Downsp spec_l01Downbs (a0, (a1, ())) () = spec_l01Down n a0 a1 := by
  have h : runBody ([]) ty 16 n spec_l01Downkp spec_l01Downc Go.Proofs.Try.f196.results.toList spec_l01Downrs spec_l01Downsp spec_l01Downbs (a0, (a1, ())) () = spec_l01Down_t n a0 a1 := by kernel_rfl
  rw [h]
  rfl

theorem spec_l01Down_ok (n : Nat) : FunOk P (spec_l01DownF n) :=
  funOk_mk (C := []) (N := 16) (kp := spec_l01Downkp) (c := spec_l01Downc) (n := n) (G := fun x y => spec_l01Down n x.1 x.2.1) follows (AllOk.mem (trivial : AllOk P ([]))) (by kernel_rfl : P.funcs[196]? = some Go.Proofs.Try.f196) (by kernel_rfl) (by kernel_rfl) (by kernel_rfl)
    (fun x y => spec_l01Down_eq n x.1 x.2.1) (fun _ _ => map_same (fun _ => rfl) _) (fun _ _ _ _ => rfl)

abbrev spec_l03Headsp : List Sp := [.ref 0, .v false (.int .i64), .v false (.int .i64)]
abbrev spec_l03Headbs : List (Bs × Bool) := [(.var 62 (.pair (.list (.int .i16)) (.pair (.int .i64) (.int .i64))), true)]
abbrev spec_l03Headrs : List (Bool × List Rp) := [(false, [.v false (.int .i64)])]
noncomputable def spec_l03Headkp : Keep := { loop := fun id => match id with | _ => ([], []), join := fun id => match id with | _ => none }
noncomputable def spec_l03Headc : Code := bodyOf Go.Proofs.Try.f159
noncomputable def spec_l03HeadF (n : Nat) : Fun := { id := 159, sp := spec_l03Headsp, bs := spec_l03Headbs, rs := spec_l03Headrs, f := fun x y => spec_l03Head n x.2.1 x.2.2.1 y.1 }

theorem spec_l03Head_eq (n : Nat) (a1 : Int) (a2 : Int) (b0 : (List (Int)) × ((Int) × (Int))) : runBody ([spec_l03FaultF n, spec_l03OffF n, spec_l01DownF n, spec_l03WrapF n]) ty 44 n spec_l03Headkp spec_l03Headc Go.Proofs.Try.f159.results.toList spec_l03Headrs spec_l03Headsp spec_l03Headbs ((), (a1, (a2, ()))) (b0, ()) = spec_l03Head n a1 a2 b0 := by
  have h : runBody ([spec_l03FaultF n, spec_l03OffF n, spec_l01DownF n, spec_l03WrapF n]) ty 44 n spec_l03Headkp spec_l03Headc Go.Proofs.Try.f159.results.toList spec_l03Headrs spec_l03Headsp spec_l03Headbs ((), (a1, (a2, ()))) (b0, ()) = spec_l03Head_t n a1 a2 b0 := by kernel_rfl
  rw [h]
  rfl

theorem spec_l03Head_ok (n : Nat) : FunOk P (spec_l03HeadF n) :=
  funOk_mk (C := [spec_l03FaultF n, spec_l03OffF n, spec_l01DownF n, spec_l03WrapF n]) (N := 44) (kp := spec_l03Headkp) (c := spec_l03Headc) (n := n) (G := fun x y => spec_l03Head n x.2.1 x.2.2.1 y.1) follows (AllOk.mem (⟨spec_l03Fault_ok n, ⟨spec_l03Off_ok n, ⟨spec_l01Down_ok n, ⟨spec_l03Wrap_ok n, trivial⟩⟩⟩⟩ : AllOk P ([spec_l03FaultF n, spec_l03OffF n, spec_l01DownF n, spec_l03WrapF n]))) (by kernel_rfl : P.funcs[159]? = some Go.Proofs.Try.f159) (by kernel_rfl) (by kernel_rfl) (by kernel_rfl)
    (fun x y => spec_l03Head_eq n x.2.1 x.2.2.1 y.1) (fun _ _ => map_same (fun _ => rfl) _) (fun _ _ _ _ => rfl)

abbrev spec_ReadHeadsp : List Sp := [.v true (.pair (.list (.int .i16)) (.pair (.int .i64) (.int .i64))), .v false (.int .i64), .v false (.int .i64)]
abbrev spec_ReadHeadbs : List (Bs × Bool) := []
abbrev spec_ReadHeadrs : List (Bool × List Rp) := [(false, [.v false (.int .i64)]), (false, [.v false (.int .i64)])]
noncomputable def spec_ReadHeadkp : Keep := { loop := fun id => match id with | _ => ([], []), join := fun id => match id with | _ => none }
noncomputable def spec_ReadHeadc : Code := bodyOf Go.Proofs.Try.f58
noncomputable def spec_ReadHeadF (n : Nat) : Fun := { id := 58, sp := spec_ReadHeadsp, bs := spec_ReadHeadbs, rs := spec_ReadHeadrs, f := fun x y => spec_ReadHead n x.1 x.2.1 x.2.2.1 }

theorem spec_ReadHead_eq (n : Nat) (a0 : (List (Int)) × ((Int) × (Int))) (a1 : Int) (a2 : Int) : runBody ([spec_l03LeastF n, spec_l03HeadF n]) ty 18 n spec_ReadHeadkp spec_ReadHeadc Go.Proofs.Try.f58.results.toList spec_ReadHeadrs spec_ReadHeadsp spec_ReadHeadbs (a0, (a1, (a2, ()))) () = spec_ReadHead n a0 a1 a2 := by
  have h : runBody ([spec_l03LeastF n, spec_l03HeadF n]) ty 18 n spec_ReadHeadkp spec_ReadHeadc Go.Proofs.Try.f58.results.toList spec_ReadHeadrs spec_ReadHeadsp spec_ReadHeadbs (a0, (a1, (a2, ()))) () = spec_ReadHead_t n a0 a1 a2 := by kernel_rfl
  rw [h]
  rfl

theorem spec_ReadHead_ok (n : Nat) : FunOk P (spec_ReadHeadF n) :=
  funOk_mk (C := [spec_l03LeastF n, spec_l03HeadF n]) (N := 18) (kp := spec_ReadHeadkp) (c := spec_ReadHeadc) (n := n) (G := fun x y => spec_ReadHead n x.1 x.2.1 x.2.2.1) follows (AllOk.mem (⟨spec_l03Least_ok n, ⟨spec_l03Head_ok n, trivial⟩⟩ : AllOk P ([spec_l03LeastF n, spec_l03HeadF n]))) (by kernel_rfl : P.funcs[58]? = some Go.Proofs.Try.f58) (by kernel_rfl) (by kernel_rfl) (by kernel_rfl)
    (fun x y => spec_ReadHead_eq n x.1 x.2.1 x.2.2.1) (fun _ _ => map_same (fun _ => rfl) _) (fun _ _ _ _ => rfl)

abbrev spec_l01Abssp : List Sp := [.v false (.int .i64)]
abbrev spec_l01Absbs : List (Bs × Bool) := []
abbrev spec_l01Absrs : List (Bool × List Rp) := [(false, [.v false (.int .i64)])]
noncomputable def spec_l01Abskp : Keep := { loop := fun id => match id with | _ => ([], []), join := fun id => match id with | _ => none }
noncomputable def spec_l01Absc : Code := bodyOf Go.Proofs.Try.f180
noncomputable def spec_l01AbsF (n : Nat) : Fun := { id := 180, sp := spec_l01Abssp, bs := spec_l01Absbs, rs := spec_l01Absrs, f := fun x y => spec_l01Abs n x.1 }

theorem spec_l01Abs_eq (n : Nat) (a0 : Int) : runBody ([]) ty 8 n spec_l01Abskp spec_l01Absc Go.Proofs.Try.f180.results.toList spec_l01Absrs spec_l01Abssp spec_l01Absbs (a0, ()) () = spec_l01Abs n a0 := by
  have h : runBody ([]) ty 8 n spec_l01Abskp spec_l01Absc Go.Proofs.Try.f180.results.toList spec_l01Absrs spec_l01Abssp spec_l01Absbs (a0, ()) () = spec_l01Abs_t n a0 := by kernel_rfl
  rw [h]
  rfl

theorem spec_l01Abs_ok (n : Nat) : FunOk P (spec_l01AbsF n) :=
  funOk_mk (C := []) (N := 8) (kp := spec_l01Abskp) (c := spec_l01Absc) (n := n) (G := fun x y => spec_l01Abs n x.1) follows (AllOk.mem (trivial : AllOk P ([]))) (by kernel_rfl : P.funcs[180]? = some Go.Proofs.Try.f180) (by kernel_rfl) (by kernel_rfl) (by kernel_rfl)
    (fun x y => spec_l01Abs_eq n x.1) (fun _ _ => map_same (fun _ => rfl) _) (fun _ _ _ _ => rfl)

abbrev spec_l01Gcdsp : List Sp := [.v false (.int .i64), .v false (.int .i64)]
abbrev spec_l01Gcdbs : List (Bs × Bool) := []
abbrev spec_l01Gcdrs : List (Bool × List Rp) := [(false, [.v false (.int .i64)])]
noncomputable def spec_l01Gcdkp : Keep := { loop := fun id => match id with | 1 => ([1, 0], []) | _ => ([], []), join := fun id => match id with | _ => none }
noncomputable def spec_l01Gcdc : Code := bodyOf Go.Proofs.Try.f241
noncomputable def spec_l01GcdF (n : Nat) : Fun := { id := 241, sp := spec_l01Gcdsp, bs := spec_l01Gcdbs, rs := spec_l01Gcdrs, f := fun x y => spec_l01Gcd n x.1 x.2.1 }

theorem spec_l01Gcd_l1_eq (n : Nat) : ∀ (k : Nat) (v1 : Int) (v0 : Int), iter (interp ([]) ty 14 0 n spec_l01Gcdkp (codeAt spec_l01Gcdc [1, 0, 0, 0])) (canon 0 (spec_l01Gcdkp.loop 1)) (kAt ([]) ty 14 0 n spec_l01Gcdkp spec_l01Gcdc [1, 0, 0] [] (ending ty 0 Go.Proofs.Try.f241.results.toList spec_l01Gcdrs spec_l01Gcdbs)) k { env := [(1, .one (.sc (.int .i64 v1))), (0, .one (.sc (.int .i64 v0)))], bx := [], nx := 0 } = spec_l01Gcd_l1 n k v1 v0
  | 0, _, _ => by kernel_rfl
  | k + 1, v1, v0 => by
    have h : iter (interp ([]) ty 14 0 n spec_l01Gcdkp (codeAt spec_l01Gcdc [1, 0, 0, 0])) (canon 0 (spec_l01Gcdkp.loop 1)) (kAt ([]) ty 14 0 n spec_l01Gcdkp spec_l01Gcdc [1, 0, 0] [] (ending ty 0 Go.Proofs.Try.f241.results.toList spec_l01Gcdrs spec_l01Gcdbs)) (k + 1) { env := [(1, .one (.sc (.int .i64 v1))), (0, .one (.sc (.int .i64 v0)))], bx := [], nx := 0 } = spec_l01Gcd_t1 n (fun v1 v0 => iter (interp ([]) ty 14 0 n spec_l01Gcdkp (codeAt spec_l01Gcdc [1, 0, 0, 0])) (canon 0 (spec_l01Gcdkp.loop 1)) (kAt ([]) ty 14 0 n spec_l01Gcdkp spec_l01Gcdc [1, 0, 0] [] (ending ty 0 Go.Proofs.Try.f241.results.toList spec_l01Gcdrs spec_l01Gcdbs)) k { env := [(1, .one (.sc (.int .i64 v1))), (0, .one (.sc (.int .i64 v0)))], bx := [], nx := 0 }) v1 v0 := by kernel_rfl
    rw [h]
    have e := congrArg (fun g => spec_l01Gcd_t1 n g v1 v0) (funext fun v1 => funext fun v0 => spec_l01Gcd_l1_eq n k v1 v0)
    exact e

theorem spec_l01Gcd_eq (n : Nat) (a0 : Int) (a1 : Int) : runBody ([]) ty 14 n spec_l01Gcdkp spec_l01Gcdc Go.Proofs.Try.f241.results.toList spec_l01Gcdrs spec_l01Gcdsp spec_l01Gcdbs (a0, (a1, ())) () = spec_l01Gcd n a0 a1 := by
  have h : runBody ([]) ty 14 n spec_l01Gcdkp spec_l01Gcdc Go.Proofs.Try.f241.results.toList spec_l01Gcdrs spec_l01Gcdsp spec_l01Gcdbs (a0, (a1, ())) () = spec_l01Gcd_t n (fun k v1 v0 => iter (interp ([]) ty 14 0 n spec_l01Gcdkp (codeAt spec_l01Gcdc [1, 0, 0, 0])) (canon 0 (spec_l01Gcdkp.loop 1)) (kAt ([]) ty 14 0 n spec_l01Gcdkp spec_l01Gcdc [1, 0, 0] [] (ending ty 0 Go.Proofs.Try.f241.results.toList spec_l01Gcdrs spec_l01Gcdbs)) k { env := [(1, .one (.sc (.int .i64 v1))), (0, .one (.sc (.int .i64 v0)))], bx := [], nx := 0 }) a0 a1 := by kernel_rfl
  rw [h]
  have e := congrArg (fun h1 => spec_l01Gcd_t n h1 a0 a1) (funext fun k => funext fun v1 => funext fun v0 => spec_l01Gcd_l1_eq n k v1 v0)
  exact e

theorem spec_l01Gcd_ok (n : Nat) : FunOk P (spec_l01GcdF n) :=
  funOk_mk (C := []) (N := 14) (kp := spec_l01Gcdkp) (c := spec_l01Gcdc) (n := n) (G := fun x y => spec_l01Gcd n x.1 x.2.1) follows (AllOk.mem (trivial : AllOk P ([]))) (by kernel_rfl : P.funcs[241]? = some Go.Proofs.Try.f241) (by kernel_rfl) (by kernel_rfl) (by kernel_rfl)
    (fun x y => spec_l01Gcd_eq n x.1 x.2.1) (fun _ _ => map_same (fun _ => rfl) _) (fun _ _ _ _ => rfl)

abbrev spec_l01Oksp : List Sp := [.v true (.pair (.int .i64) (.int .i64))]
abbrev spec_l01Okbs : List (Bs × Bool) := []
abbrev spec_l01Okrs : List (Bool × List Rp) := [(false, [.v false .bool])]
noncomputable def spec_l01Okkp : Keep := { loop := fun id => match id with | _ => ([], []), join := fun id => match id with | _ => none }
noncomputable def spec_l01Okc : Code := bodyOf Go.Proofs.Try.f189
noncomputable def spec_l01OkF (n : Nat) : Fun := { id := 189, sp := spec_l01Oksp, bs := spec_l01Okbs, rs := spec_l01Okrs, f := fun x y => spec_l01Ok n x.1 }

theorem spec_l01Ok_eq (n : Nat) (a0 : (Int) × (Int)) : runBody ([spec_l00InF n, spec_l01AbsF n, spec_l01GcdF n]) ty 20 n spec_l01Okkp spec_l01Okc Go.Proofs.Try.f189.results.toList spec_l01Okrs spec_l01Oksp spec_l01Okbs (a0, ()) () = spec_l01Ok n a0 := by
  have h : runBody ([spec_l00InF n, spec_l01AbsF n, spec_l01GcdF n]) ty 20 n spec_l01Okkp spec_l01Okc Go.Proofs.Try.f189.results.toList spec_l01Okrs spec_l01Oksp spec_l01Okbs (a0, ()) () = spec_l01Ok_t n a0 := by kernel_rfl
  rw [h]
  rfl

theorem spec_l01Ok_ok (n : Nat) : FunOk P (spec_l01OkF n) :=
  funOk_mk (C := [spec_l00InF n, spec_l01AbsF n, spec_l01GcdF n]) (N := 20) (kp := spec_l01Okkp) (c := spec_l01Okc) (n := n) (G := fun x y => spec_l01Ok n x.1) follows (AllOk.mem (⟨spec_l00In_ok n, ⟨spec_l01Abs_ok n, ⟨spec_l01Gcd_ok n, trivial⟩⟩⟩ : AllOk P ([spec_l00InF n, spec_l01AbsF n, spec_l01GcdF n]))) (by kernel_rfl : P.funcs[189]? = some Go.Proofs.Try.f189) (by kernel_rfl) (by kernel_rfl) (by kernel_rfl)
    (fun x y => spec_l01Ok_eq n x.1) (fun _ _ => map_same (fun _ => rfl) _) (fun _ _ _ _ => rfl)

abbrev spec_l01Reducedsp : List Sp := [.v false (.int .i64), .v false (.int .i64)]
abbrev spec_l01Reducedbs : List (Bs × Bool) := []
abbrev spec_l01Reducedrs : List (Bool × List Rp) := [(true, [.v false (.pair (.int .i64) (.int .i64))]), (false, [.v false (.int .i64)])]
noncomputable def spec_l01Reducedkp : Keep := { loop := fun id => match id with | _ => ([], []), join := fun id => match id with | _ => none }
noncomputable def spec_l01Reducedc : Code := bodyOf Go.Proofs.Try.f169
noncomputable def spec_l01ReducedF (n : Nat) : Fun := { id := 169, sp := spec_l01Reducedsp, bs := spec_l01Reducedbs, rs := spec_l01Reducedrs, f := fun x y => spec_l01Reduced n x.1 x.2.1 }

theorem spec_l01Reduced_eq (n : Nat) (a0 : Int) (a1 : Int) : runBody ([spec_l01AbsF n, spec_l01GcdF n, spec_l01OkF n]) ty 33 n spec_l01Reducedkp spec_l01Reducedc Go.Proofs.Try.f169.results.toList spec_l01Reducedrs spec_l01Reducedsp spec_l01Reducedbs (a0, (a1, ())) () = spec_l01Reduced n a0 a1 := by
  have h : runBody ([spec_l01AbsF n, spec_l01GcdF n, spec_l01OkF n]) ty 33 n spec_l01Reducedkp spec_l01Reducedc Go.Proofs.Try.f169.results.toList spec_l01Reducedrs spec_l01Reducedsp spec_l01Reducedbs (a0, (a1, ())) () = spec_l01Reduced_t n a0 a1 := by kernel_rfl
  rw [h]
  rfl

theorem spec_l01Reduced_ok (n : Nat) : FunOk P (spec_l01ReducedF n) :=
  funOk_mk (C := [spec_l01AbsF n, spec_l01GcdF n, spec_l01OkF n]) (N := 33) (kp := spec_l01Reducedkp) (c := spec_l01Reducedc) (n := n) (G := fun x y => spec_l01Reduced n x.1 x.2.1) follows (AllOk.mem (⟨spec_l01Abs_ok n, ⟨spec_l01Gcd_ok n, ⟨spec_l01Ok_ok n, trivial⟩⟩⟩ : AllOk P ([spec_l01AbsF n, spec_l01GcdF n, spec_l01OkF n]))) (by kernel_rfl : P.funcs[169]? = some Go.Proofs.Try.f169) (by kernel_rfl) (by kernel_rfl) (by kernel_rfl)
    (fun x y => spec_l01Reduced_eq n x.1 x.2.1) (fun _ _ => map_same (fun _ => rfl) _) (fun _ _ _ _ => rfl)

abbrev spec_FaultAtsp : List Sp := [.v true (.pair (.list (.int .i16)) (.pair (.int .i64) (.int .i64))), .v false (.int .i64)]
abbrev spec_FaultAtbs : List (Bs × Bool) := []
abbrev spec_FaultAtrs : List (Bool × List Rp) := [(true, [.v false (.pair (.int .i64) (.int .i64))]), (false, [.v false (.int .i64)])]
noncomputable def spec_FaultAtkp : Keep := { loop := fun id => match id with | _ => ([], []), join := fun id => match id with | _ => none }
noncomputable def spec_FaultAtc : Code := bodyOf Go.Proofs.Try.f43
noncomputable def spec_FaultAtF (n : Nat) : Fun := { id := 43, sp := spec_FaultAtsp, bs := spec_FaultAtbs, rs := spec_FaultAtrs, f := fun x y => spec_FaultAt n x.1 x.2.1 }

theorem spec_FaultAt_eq (n : Nat) (a0 : (List (Int)) × ((Int) × (Int))) (a1 : Int) : runBody ([spec_l03AskedF n, spec_l03FaultF n, spec_l01ReducedF n]) ty 25 n spec_FaultAtkp spec_FaultAtc Go.Proofs.Try.f43.results.toList spec_FaultAtrs spec_FaultAtsp spec_FaultAtbs (a0, (a1, ())) () = spec_FaultAt n a0 a1 := by
  have h : runBody ([spec_l03AskedF n, spec_l03FaultF n, spec_l01ReducedF n]) ty 25 n spec_FaultAtkp spec_FaultAtc Go.Proofs.Try.f43.results.toList spec_FaultAtrs spec_FaultAtsp spec_FaultAtbs (a0, (a1, ())) () = spec_FaultAt_t n a0 a1 := by kernel_rfl
  rw [h]
  rfl

theorem spec_FaultAt_ok (n : Nat) : FunOk P (spec_FaultAtF n) :=
  funOk_mk (C := [spec_l03AskedF n, spec_l03FaultF n, spec_l01ReducedF n]) (N := 25) (kp := spec_FaultAtkp) (c := spec_FaultAtc) (n := n) (G := fun x y => spec_FaultAt n x.1 x.2.1) follows (AllOk.mem (⟨spec_l03Asked_ok n, ⟨spec_l03Fault_ok n, ⟨spec_l01Reduced_ok n, trivial⟩⟩⟩ : AllOk P ([spec_l03AskedF n, spec_l03FaultF n, spec_l01ReducedF n]))) (by kernel_rfl : P.funcs[43]? = some Go.Proofs.Try.f43) (by kernel_rfl) (by kernel_rfl) (by kernel_rfl)
    (fun x y => spec_FaultAt_eq n x.1 x.2.1) (fun _ _ => map_same (fun _ => rfl) _) (fun _ _ _ _ => rfl)

abbrev spec_SwingAtsp : List Sp := [.v true (.pair (.list (.int .i16)) (.pair (.int .i64) (.int .i64))), .v false (.int .i64)]
abbrev spec_SwingAtbs : List (Bs × Bool) := []
abbrev spec_SwingAtrs : List (Bool × List Rp) := [(true, [.v false (.pair (.int .i64) (.int .i64))]), (false, [.v false (.int .i64)])]
noncomputable def spec_SwingAtkp : Keep := { loop := fun id => match id with | _ => ([], []), join := fun id => match id with | _ => none }
noncomputable def spec_SwingAtc : Code := bodyOf Go.Proofs.Try.f49
noncomputable def spec_SwingAtF (n : Nat) : Fun := { id := 49, sp := spec_SwingAtsp, bs := spec_SwingAtbs, rs := spec_SwingAtrs, f := fun x y => spec_SwingAt n x.1 x.2.1 }

theorem spec_SwingAt_eq (n : Nat) (a0 : (List (Int)) × ((Int) × (Int))) (a1 : Int) : runBody ([spec_l03AskedF n, spec_l03OffF n, spec_l01ReducedF n]) ty 18 n spec_SwingAtkp spec_SwingAtc Go.Proofs.Try.f49.results.toList spec_SwingAtrs spec_SwingAtsp spec_SwingAtbs (a0, (a1, ())) () = spec_SwingAt n a0 a1 := by
  have h : runBody ([spec_l03AskedF n, spec_l03OffF n, spec_l01ReducedF n]) ty 18 n spec_SwingAtkp spec_SwingAtc Go.Proofs.Try.f49.results.toList spec_SwingAtrs spec_SwingAtsp spec_SwingAtbs (a0, (a1, ())) () = spec_SwingAt_t n a0 a1 := by kernel_rfl
  rw [h]
  rfl

theorem spec_SwingAt_ok (n : Nat) : FunOk P (spec_SwingAtF n) :=
  funOk_mk (C := [spec_l03AskedF n, spec_l03OffF n, spec_l01ReducedF n]) (N := 18) (kp := spec_SwingAtkp) (c := spec_SwingAtc) (n := n) (G := fun x y => spec_SwingAt n x.1 x.2.1) follows (AllOk.mem (⟨spec_l03Asked_ok n, ⟨spec_l03Off_ok n, ⟨spec_l01Reduced_ok n, trivial⟩⟩⟩ : AllOk P ([spec_l03AskedF n, spec_l03OffF n, spec_l01ReducedF n]))) (by kernel_rfl : P.funcs[49]? = some Go.Proofs.Try.f49) (by kernel_rfl) (by kernel_rfl) (by kernel_rfl)
    (fun x y => spec_SwingAt_eq n x.1 x.2.1) (fun _ _ => map_same (fun _ => rfl) _) (fun _ _ _ _ => rfl)

abbrev spec_l03Turnsp : List Sp := [.v false (.int .i64), .v false (.int .i64)]
abbrev spec_l03Turnbs : List (Bs × Bool) := []
abbrev spec_l03Turnrs : List (Bool × List Rp) := [(false, [.v false (.int .i64)])]
noncomputable def spec_l03Turnkp : Keep := { loop := fun id => match id with | _ => ([], []), join := fun id => match id with | _ => none }
noncomputable def spec_l03Turnc : Code := bodyOf Go.Proofs.Try.f161
noncomputable def spec_l03TurnF (n : Nat) : Fun := { id := 161, sp := spec_l03Turnsp, bs := spec_l03Turnbs, rs := spec_l03Turnrs, f := fun x y => spec_l03Turn n x.1 x.2.1 }

theorem spec_l03Turn_eq (n : Nat) (a0 : Int) (a1 : Int) : runBody ([spec_l03WrapF n]) ty 15 n spec_l03Turnkp spec_l03Turnc Go.Proofs.Try.f161.results.toList spec_l03Turnrs spec_l03Turnsp spec_l03Turnbs (a0, (a1, ())) () = spec_l03Turn n a0 a1 := by
  have h : runBody ([spec_l03WrapF n]) ty 15 n spec_l03Turnkp spec_l03Turnc Go.Proofs.Try.f161.results.toList spec_l03Turnrs spec_l03Turnsp spec_l03Turnbs (a0, (a1, ())) () = spec_l03Turn_t n a0 a1 := by kernel_rfl
  rw [h]
  rfl

theorem spec_l03Turn_ok (n : Nat) : FunOk P (spec_l03TurnF n) :=
  funOk_mk (C := [spec_l03WrapF n]) (N := 15) (kp := spec_l03Turnkp) (c := spec_l03Turnc) (n := n) (G := fun x y => spec_l03Turn n x.1 x.2.1) follows (AllOk.mem (⟨spec_l03Wrap_ok n, trivial⟩ : AllOk P ([spec_l03WrapF n]))) (by kernel_rfl : P.funcs[161]? = some Go.Proofs.Try.f161) (by kernel_rfl) (by kernel_rfl) (by kernel_rfl)
    (fun x y => spec_l03Turn_eq n x.1 x.2.1) (fun _ _ => map_same (fun _ => rfl) _) (fun _ _ _ _ => rfl)

abbrev spec_TurnFromsp : List Sp := [.v false (.int .i64), .v false (.int .i64)]
abbrev spec_TurnFrombs : List (Bs × Bool) := []
abbrev spec_TurnFromrs : List (Bool × List Rp) := [(false, [.v false (.int .i64)]), (false, [.v false (.int .i64)])]
noncomputable def spec_TurnFromkp : Keep := { loop := fun id => match id with | _ => ([], []), join := fun id => match id with | _ => none }
noncomputable def spec_TurnFromc : Code := bodyOf Go.Proofs.Try.f59
noncomputable def spec_TurnFromF (n : Nat) : Fun := { id := 59, sp := spec_TurnFromsp, bs := spec_TurnFrombs, rs := spec_TurnFromrs, f := fun x y => spec_TurnFrom n x.1 x.2.1 }

theorem spec_TurnFrom_eq (n : Nat) (a0 : Int) (a1 : Int) : runBody ([spec_l03AngleF n, spec_l03TurnF n]) ty 17 n spec_TurnFromkp spec_TurnFromc Go.Proofs.Try.f59.results.toList spec_TurnFromrs spec_TurnFromsp spec_TurnFrombs (a0, (a1, ())) () = spec_TurnFrom n a0 a1 := by
  have h : runBody ([spec_l03AngleF n, spec_l03TurnF n]) ty 17 n spec_TurnFromkp spec_TurnFromc Go.Proofs.Try.f59.results.toList spec_TurnFromrs spec_TurnFromsp spec_TurnFrombs (a0, (a1, ())) () = spec_TurnFrom_t n a0 a1 := by kernel_rfl
  rw [h]
  rfl

theorem spec_TurnFrom_ok (n : Nat) : FunOk P (spec_TurnFromF n) :=
  funOk_mk (C := [spec_l03AngleF n, spec_l03TurnF n]) (N := 17) (kp := spec_TurnFromkp) (c := spec_TurnFromc) (n := n) (G := fun x y => spec_TurnFrom n x.1 x.2.1) follows (AllOk.mem (⟨spec_l03Angle_ok n, ⟨spec_l03Turn_ok n, trivial⟩⟩ : AllOk P ([spec_l03AngleF n, spec_l03TurnF n]))) (by kernel_rfl : P.funcs[59]? = some Go.Proofs.Try.f59) (by kernel_rfl) (by kernel_rfl) (by kernel_rfl)
    (fun x y => spec_TurnFrom_eq n x.1 x.2.1) (fun _ _ => map_same (fun _ => rfl) _) (fun _ _ _ _ => rfl)

abbrev spec_l01Twosp : List Sp := [.v true (.pair (.int .i64) (.int .i64)), .v true (.pair (.int .i64) (.int .i64))]
abbrev spec_l01Twobs : List (Bs × Bool) := []
abbrev spec_l01Twors : List (Bool × List Rp) := [(false, [.v false (.int .i64)])]
noncomputable def spec_l01Twokp : Keep := { loop := fun id => match id with | _ => ([], []), join := fun id => match id with | _ => none }
noncomputable def spec_l01Twoc : Code := bodyOf Go.Proofs.Try.f130
noncomputable def spec_l01TwoF (n : Nat) : Fun := { id := 130, sp := spec_l01Twosp, bs := spec_l01Twobs, rs := spec_l01Twors, f := fun x y => spec_l01Two n x.1 x.2.1 }

theorem spec_l01Two_eq (n : Nat) (a0 : (Int) × (Int)) (a1 : (Int) × (Int)) : runBody ([spec_l01OkF n]) ty 13 n spec_l01Twokp spec_l01Twoc Go.Proofs.Try.f130.results.toList spec_l01Twors spec_l01Twosp spec_l01Twobs (a0, (a1, ())) () = spec_l01Two n a0 a1 := by
  have h : runBody ([spec_l01OkF n]) ty 13 n spec_l01Twokp spec_l01Twoc Go.Proofs.Try.f130.results.toList spec_l01Twors spec_l01Twosp spec_l01Twobs (a0, (a1, ())) () = spec_l01Two_t n a0 a1 := by kernel_rfl
  rw [h]
  rfl

theorem spec_l01Two_ok (n : Nat) : FunOk P (spec_l01TwoF n) :=
  funOk_mk (C := [spec_l01OkF n]) (N := 13) (kp := spec_l01Twokp) (c := spec_l01Twoc) (n := n) (G := fun x y => spec_l01Two n x.1 x.2.1) follows (AllOk.mem (⟨spec_l01Ok_ok n, trivial⟩ : AllOk P ([spec_l01OkF n]))) (by kernel_rfl : P.funcs[130]? = some Go.Proofs.Try.f130) (by kernel_rfl) (by kernel_rfl) (by kernel_rfl)
    (fun x y => spec_l01Two_eq n x.1 x.2.1) (fun _ _ => map_same (fun _ => rfl) _) (fun _ _ _ _ => rfl)

abbrev spec_l01Addsp : List Sp := [.v true (.pair (.int .i64) (.int .i64)), .v true (.pair (.int .i64) (.int .i64))]
abbrev spec_l01Addbs : List (Bs × Bool) := []
abbrev spec_l01Addrs : List (Bool × List Rp) := [(true, [.v false (.pair (.int .i64) (.int .i64))]), (false, [.v false (.int .i64)])]
noncomputable def spec_l01Addkp : Keep := { loop := fun id => match id with | _ => ([], []), join := fun id => match id with | _ => none }
noncomputable def spec_l01Addc : Code := bodyOf Go.Proofs.Try.f132
noncomputable def spec_l01AddF (n : Nat) : Fun := { id := 132, sp := spec_l01Addsp, bs := spec_l01Addbs, rs := spec_l01Addrs, f := fun x y => spec_l01Add n x.1 x.2.1 }

theorem spec_l01Add_eq (n : Nat) (a0 : (Int) × (Int)) (a1 : (Int) × (Int)) : runBody ([spec_l01ReducedF n]) ty 25 n spec_l01Addkp spec_l01Addc Go.Proofs.Try.f132.results.toList spec_l01Addrs spec_l01Addsp spec_l01Addbs (a0, (a1, ())) () = spec_l01Add n a0 a1 := by
  have h : runBody ([spec_l01ReducedF n]) ty 25 n spec_l01Addkp spec_l01Addc Go.Proofs.Try.f132.results.toList spec_l01Addrs spec_l01Addsp spec_l01Addbs (a0, (a1, ())) () = spec_l01Add_t n a0 a1 := by kernel_rfl
  rw [h]
  rfl

theorem spec_l01Add_ok (n : Nat) : FunOk P (spec_l01AddF n) :=
  funOk_mk (C := [spec_l01ReducedF n]) (N := 25) (kp := spec_l01Addkp) (c := spec_l01Addc) (n := n) (G := fun x y => spec_l01Add n x.1 x.2.1) follows (AllOk.mem (⟨spec_l01Reduced_ok n, trivial⟩ : AllOk P ([spec_l01ReducedF n]))) (by kernel_rfl : P.funcs[132]? = some Go.Proofs.Try.f132) (by kernel_rfl) (by kernel_rfl) (by kernel_rfl)
    (fun x y => spec_l01Add_eq n x.1 x.2.1) (fun _ _ => map_same (fun _ => rfl) _) (fun _ _ _ _ => rfl)

abbrev spec_AddFracssp : List Sp := [.v true (.pair (.int .i64) (.int .i64)), .v true (.pair (.int .i64) (.int .i64))]
abbrev spec_AddFracsbs : List (Bs × Bool) := []
abbrev spec_AddFracsrs : List (Bool × List Rp) := [(true, [.v false (.pair (.int .i64) (.int .i64))]), (false, [.v false (.int .i64)])]
noncomputable def spec_AddFracskp : Keep := { loop := fun id => match id with | _ => ([], []), join := fun id => match id with | _ => none }
noncomputable def spec_AddFracsc : Code := bodyOf Go.Proofs.Try.f22
noncomputable def spec_AddFracsF (n : Nat) : Fun := { id := 22, sp := spec_AddFracssp, bs := spec_AddFracsbs, rs := spec_AddFracsrs, f := fun x y => spec_AddFracs n x.1 x.2.1 }

theorem spec_AddFracs_eq (n : Nat) (a0 : (Int) × (Int)) (a1 : (Int) × (Int)) : runBody ([spec_l01TwoF n, spec_l01AddF n]) ty 19 n spec_AddFracskp spec_AddFracsc Go.Proofs.Try.f22.results.toList spec_AddFracsrs spec_AddFracssp spec_AddFracsbs (a0, (a1, ())) () = spec_AddFracs n a0 a1 := by
  have h : runBody ([spec_l01TwoF n, spec_l01AddF n]) ty 19 n spec_AddFracskp spec_AddFracsc Go.Proofs.Try.f22.results.toList spec_AddFracsrs spec_AddFracssp spec_AddFracsbs (a0, (a1, ())) () = spec_AddFracs_t n a0 a1 := by kernel_rfl
  rw [h]
  rfl

theorem spec_AddFracs_ok (n : Nat) : FunOk P (spec_AddFracsF n) :=
  funOk_mk (C := [spec_l01TwoF n, spec_l01AddF n]) (N := 19) (kp := spec_AddFracskp) (c := spec_AddFracsc) (n := n) (G := fun x y => spec_AddFracs n x.1 x.2.1) follows (AllOk.mem (⟨spec_l01Two_ok n, ⟨spec_l01Add_ok n, trivial⟩⟩ : AllOk P ([spec_l01TwoF n, spec_l01AddF n]))) (by kernel_rfl : P.funcs[22]? = some Go.Proofs.Try.f22) (by kernel_rfl) (by kernel_rfl) (by kernel_rfl)
    (fun x y => spec_AddFracs_eq n x.1 x.2.1) (fun _ _ => map_same (fun _ => rfl) _) (fun _ _ _ _ => rfl)

abbrev spec_l01Negsp : List Sp := [.v true (.pair (.int .i64) (.int .i64))]
abbrev spec_l01Negbs : List (Bs × Bool) := []
abbrev spec_l01Negrs : List (Bool × List Rp) := [(true, [.v false (.pair (.int .i64) (.int .i64))])]
noncomputable def spec_l01Negkp : Keep := { loop := fun id => match id with | _ => ([], []), join := fun id => match id with | _ => none }
noncomputable def spec_l01Negc : Code := bodyOf Go.Proofs.Try.f246
noncomputable def spec_l01NegF (n : Nat) : Fun := { id := 246, sp := spec_l01Negsp, bs := spec_l01Negbs, rs := spec_l01Negrs, f := fun x y => spec_l01Neg n x.1 }

theorem spec_l01Neg_eq (n : Nat) (a0 : (Int) × (Int)) : runBody ([]) ty 9 n spec_l01Negkp spec_l01Negc Go.Proofs.Try.f246.results.toList spec_l01Negrs spec_l01Negsp spec_l01Negbs (a0, ()) () = spec_l01Neg n a0 := by
  have h : runBody ([]) ty 9 n spec_l01Negkp spec_l01Negc Go.Proofs.Try.f246.results.toList spec_l01Negrs spec_l01Negsp spec_l01Negbs (a0, ()) () = spec_l01Neg_t n a0 := by kernel_rfl
  rw [h]
  rfl

theorem spec_l01Neg_ok (n : Nat) : FunOk P (spec_l01NegF n) :=
  funOk_mk (C := []) (N := 9) (kp := spec_l01Negkp) (c := spec_l01Negc) (n := n) (G := fun x y => spec_l01Neg n x.1) follows (AllOk.mem (trivial : AllOk P ([]))) (by kernel_rfl : P.funcs[246]? = some Go.Proofs.Try.f246) (by kernel_rfl) (by kernel_rfl) (by kernel_rfl)
    (fun x y => spec_l01Neg_eq n x.1) (fun _ _ => map_same (fun _ => rfl) _) (fun _ _ _ _ => rfl)

abbrev spec_l01Subsp : List Sp := [.v true (.pair (.int .i64) (.int .i64)), .v true (.pair (.int .i64) (.int .i64))]
abbrev spec_l01Subbs : List (Bs × Bool) := []
abbrev spec_l01Subrs : List (Bool × List Rp) := [(true, [.v false (.pair (.int .i64) (.int .i64))]), (false, [.v false (.int .i64)])]
noncomputable def spec_l01Subkp : Keep := { loop := fun id => match id with | _ => ([], []), join := fun id => match id with | _ => none }
noncomputable def spec_l01Subc : Code := bodyOf Go.Proofs.Try.f183
noncomputable def spec_l01SubF (n : Nat) : Fun := { id := 183, sp := spec_l01Subsp, bs := spec_l01Subbs, rs := spec_l01Subrs, f := fun x y => spec_l01Sub n x.1 x.2.1 }

theorem spec_l01Sub_eq (n : Nat) (a0 : (Int) × (Int)) (a1 : (Int) × (Int)) : runBody ([spec_l01NegF n, spec_l01AddF n]) ty 12 n spec_l01Subkp spec_l01Subc Go.Proofs.Try.f183.results.toList spec_l01Subrs spec_l01Subsp spec_l01Subbs (a0, (a1, ())) () = spec_l01Sub n a0 a1 := by
  have h : runBody ([spec_l01NegF n, spec_l01AddF n]) ty 12 n spec_l01Subkp spec_l01Subc Go.Proofs.Try.f183.results.toList spec_l01Subrs spec_l01Subsp spec_l01Subbs (a0, (a1, ())) () = spec_l01Sub_t n a0 a1 := by kernel_rfl
  rw [h]
  rfl

theorem spec_l01Sub_ok (n : Nat) : FunOk P (spec_l01SubF n) :=
  funOk_mk (C := [spec_l01NegF n, spec_l01AddF n]) (N := 12) (kp := spec_l01Subkp) (c := spec_l01Subc) (n := n) (G := fun x y => spec_l01Sub n x.1 x.2.1) follows (AllOk.mem (⟨spec_l01Neg_ok n, ⟨spec_l01Add_ok n, trivial⟩⟩ : AllOk P ([spec_l01NegF n, spec_l01AddF n]))) (by kernel_rfl : P.funcs[183]? = some Go.Proofs.Try.f183) (by kernel_rfl) (by kernel_rfl) (by kernel_rfl)
    (fun x y => spec_l01Sub_eq n x.1 x.2.1) (fun _ _ => map_same (fun _ => rfl) _) (fun _ _ _ _ => rfl)

abbrev spec_SubFracssp : List Sp := [.v true (.pair (.int .i64) (.int .i64)), .v true (.pair (.int .i64) (.int .i64))]
abbrev spec_SubFracsbs : List (Bs × Bool) := []
abbrev spec_SubFracsrs : List (Bool × List Rp) := [(true, [.v false (.pair (.int .i64) (.int .i64))]), (false, [.v false (.int .i64)])]
noncomputable def spec_SubFracskp : Keep := { loop := fun id => match id with | _ => ([], []), join := fun id => match id with | _ => none }
noncomputable def spec_SubFracsc : Code := bodyOf Go.Proofs.Try.f60
noncomputable def spec_SubFracsF (n : Nat) : Fun := { id := 60, sp := spec_SubFracssp, bs := spec_SubFracsbs, rs := spec_SubFracsrs, f := fun x y => spec_SubFracs n x.1 x.2.1 }

theorem spec_SubFracs_eq (n : Nat) (a0 : (Int) × (Int)) (a1 : (Int) × (Int)) : runBody ([spec_l01TwoF n, spec_l01SubF n]) ty 19 n spec_SubFracskp spec_SubFracsc Go.Proofs.Try.f60.results.toList spec_SubFracsrs spec_SubFracssp spec_SubFracsbs (a0, (a1, ())) () = spec_SubFracs n a0 a1 := by
  have h : runBody ([spec_l01TwoF n, spec_l01SubF n]) ty 19 n spec_SubFracskp spec_SubFracsc Go.Proofs.Try.f60.results.toList spec_SubFracsrs spec_SubFracssp spec_SubFracsbs (a0, (a1, ())) () = spec_SubFracs_t n a0 a1 := by kernel_rfl
  rw [h]
  rfl

theorem spec_SubFracs_ok (n : Nat) : FunOk P (spec_SubFracsF n) :=
  funOk_mk (C := [spec_l01TwoF n, spec_l01SubF n]) (N := 19) (kp := spec_SubFracskp) (c := spec_SubFracsc) (n := n) (G := fun x y => spec_SubFracs n x.1 x.2.1) follows (AllOk.mem (⟨spec_l01Two_ok n, ⟨spec_l01Sub_ok n, trivial⟩⟩ : AllOk P ([spec_l01TwoF n, spec_l01SubF n]))) (by kernel_rfl : P.funcs[60]? = some Go.Proofs.Try.f60) (by kernel_rfl) (by kernel_rfl) (by kernel_rfl)
    (fun x y => spec_SubFracs_eq n x.1 x.2.1) (fun _ _ => map_same (fun _ => rfl) _) (fun _ _ _ _ => rfl)

abbrev impl_gcdsp : List Sp := [.v false (.int .i64), .v false (.int .i64)]
abbrev impl_gcdbs : List (Bs × Bool) := []
abbrev impl_gcdrs : List (Bool × List Rp) := [(false, [.v false (.int .i64)])]
noncomputable def impl_gcdkp : Keep := { loop := fun id => match id with | 1 => ([1, 0], []) | _ => ([], []), join := fun id => match id with | _ => none }
noncomputable def impl_gcdc : Code := bodyOf Go.Proofs.Try.f245
noncomputable def impl_gcdF (n : Nat) : Fun := { id := 245, sp := impl_gcdsp, bs := impl_gcdbs, rs := impl_gcdrs, f := fun x y => impl_gcd n x.1 x.2.1 }

theorem impl_gcd_l1_eq (n : Nat) : ∀ (k : Nat) (v1 : Int) (v0 : Int), iter (interp ([]) ty 15 0 n impl_gcdkp (codeAt impl_gcdc [1, 0, 0, 0])) (canon 0 (impl_gcdkp.loop 1)) (kAt ([]) ty 15 0 n impl_gcdkp impl_gcdc [1, 0, 0] [] (ending ty 0 Go.Proofs.Try.f245.results.toList impl_gcdrs impl_gcdbs)) k { env := [(1, .one (.sc (.int .i64 v1))), (0, .one (.sc (.int .i64 v0)))], bx := [], nx := 0 } = impl_gcd_l1 n k v1 v0
  | 0, _, _ => by kernel_rfl
  | k + 1, v1, v0 => by
    have h : iter (interp ([]) ty 15 0 n impl_gcdkp (codeAt impl_gcdc [1, 0, 0, 0])) (canon 0 (impl_gcdkp.loop 1)) (kAt ([]) ty 15 0 n impl_gcdkp impl_gcdc [1, 0, 0] [] (ending ty 0 Go.Proofs.Try.f245.results.toList impl_gcdrs impl_gcdbs)) (k + 1) { env := [(1, .one (.sc (.int .i64 v1))), (0, .one (.sc (.int .i64 v0)))], bx := [], nx := 0 } = impl_gcd_t1 n (fun v1 v0 => iter (interp ([]) ty 15 0 n impl_gcdkp (codeAt impl_gcdc [1, 0, 0, 0])) (canon 0 (impl_gcdkp.loop 1)) (kAt ([]) ty 15 0 n impl_gcdkp impl_gcdc [1, 0, 0] [] (ending ty 0 Go.Proofs.Try.f245.results.toList impl_gcdrs impl_gcdbs)) k { env := [(1, .one (.sc (.int .i64 v1))), (0, .one (.sc (.int .i64 v0)))], bx := [], nx := 0 }) v1 v0 := by kernel_rfl
    rw [h]
    have e := congrArg (fun g => impl_gcd_t1 n g v1 v0) (funext fun v1 => funext fun v0 => impl_gcd_l1_eq n k v1 v0)
    exact e

theorem impl_gcd_eq (n : Nat) (a0 : Int) (a1 : Int) : runBody ([]) ty 15 n impl_gcdkp impl_gcdc Go.Proofs.Try.f245.results.toList impl_gcdrs impl_gcdsp impl_gcdbs (a0, (a1, ())) () = impl_gcd n a0 a1 := by
  have h : runBody ([]) ty 15 n impl_gcdkp impl_gcdc Go.Proofs.Try.f245.results.toList impl_gcdrs impl_gcdsp impl_gcdbs (a0, (a1, ())) () = impl_gcd_t n (fun k v1 v0 => iter (interp ([]) ty 15 0 n impl_gcdkp (codeAt impl_gcdc [1, 0, 0, 0])) (canon 0 (impl_gcdkp.loop 1)) (kAt ([]) ty 15 0 n impl_gcdkp impl_gcdc [1, 0, 0] [] (ending ty 0 Go.Proofs.Try.f245.results.toList impl_gcdrs impl_gcdbs)) k { env := [(1, .one (.sc (.int .i64 v1))), (0, .one (.sc (.int .i64 v0)))], bx := [], nx := 0 }) a0 a1 := by kernel_rfl
  rw [h]
  have e := congrArg (fun h1 => impl_gcd_t n h1 a0 a1) (funext fun k => funext fun v1 => funext fun v0 => impl_gcd_l1_eq n k v1 v0)
  exact e

theorem impl_gcd_ok (n : Nat) : FunOk P (impl_gcdF n) :=
  funOk_mk (C := []) (N := 15) (kp := impl_gcdkp) (c := impl_gcdc) (n := n) (G := fun x y => impl_gcd n x.1 x.2.1) follows (AllOk.mem (trivial : AllOk P ([]))) (by kernel_rfl : P.funcs[245]? = some Go.Proofs.Try.f245) (by kernel_rfl) (by kernel_rfl) (by kernel_rfl)
    (fun x y => impl_gcd_eq n x.1 x.2.1) (fun _ _ => map_same (fun _ => rfl) _) (fun _ _ _ _ => rfl)

abbrev impl_ValidFracsp : List Sp := [.v true (.pair (.int .i64) (.int .i64))]
abbrev impl_ValidFracbs : List (Bs × Bool) := []
abbrev impl_ValidFracrs : List (Bool × List Rp) := [(false, [.v false .bool])]
noncomputable def impl_ValidFrackp : Keep := { loop := fun id => match id with | _ => ([], []), join := fun id => match id with | _ => none }
noncomputable def impl_ValidFracc : Code := bodyOf Go.Proofs.Try.f184
noncomputable def impl_ValidFracF (n : Nat) : Fun := { id := 184, sp := impl_ValidFracsp, bs := impl_ValidFracbs, rs := impl_ValidFracrs, f := fun x y => impl_ValidFrac n x.1 }

theorem impl_ValidFrac_eq (n : Nat) (a0 : (Int) × (Int)) : runBody ([impl_withinF n, impl_gcdF n]) ty 19 n impl_ValidFrackp impl_ValidFracc Go.Proofs.Try.f184.results.toList impl_ValidFracrs impl_ValidFracsp impl_ValidFracbs (a0, ()) () = impl_ValidFrac n a0 := by
  have h : runBody ([impl_withinF n, impl_gcdF n]) ty 19 n impl_ValidFrackp impl_ValidFracc Go.Proofs.Try.f184.results.toList impl_ValidFracrs impl_ValidFracsp impl_ValidFracbs (a0, ()) () = impl_ValidFrac_t n a0 := by kernel_rfl
  rw [h]
  rfl

theorem impl_ValidFrac_ok (n : Nat) : FunOk P (impl_ValidFracF n) :=
  funOk_mk (C := [impl_withinF n, impl_gcdF n]) (N := 19) (kp := impl_ValidFrackp) (c := impl_ValidFracc) (n := n) (G := fun x y => impl_ValidFrac n x.1) follows (AllOk.mem (⟨impl_within_ok n, ⟨impl_gcd_ok n, trivial⟩⟩ : AllOk P ([impl_withinF n, impl_gcdF n]))) (by kernel_rfl : P.funcs[184]? = some Go.Proofs.Try.f184) (by kernel_rfl) (by kernel_rfl) (by kernel_rfl)
    (fun x y => impl_ValidFrac_eq n x.1) (fun _ _ => map_same (fun _ => rfl) _) (fun _ _ _ _ => rfl)

abbrev impl_areValid_1sp : List Sp := [.v true (.pair (.int .i64) (.int .i64))]
abbrev impl_areValid_1bs : List (Bs × Bool) := []
abbrev impl_areValid_1rs : List (Bool × List Rp) := [(false, [.v false .bool])]
noncomputable def impl_areValid_1kp : Keep := { loop := fun id => match id with | _ => ([], []), join := fun id => match id with | _ => none }
noncomputable def impl_areValid_1c : Code := bodyOf Go.Proofs.Try.f230
noncomputable def impl_areValid_1F (n : Nat) : Fun := { id := 230, sp := impl_areValid_1sp, bs := impl_areValid_1bs, rs := impl_areValid_1rs, f := fun x y => impl_areValid_1 n x.1 }

theorem impl_areValid_1_eq (n : Nat) (a0 : (Int) × (Int)) : runBody ([impl_ValidFracF n]) ty 6 n impl_areValid_1kp impl_areValid_1c Go.Proofs.Try.f230.results.toList impl_areValid_1rs impl_areValid_1sp impl_areValid_1bs (a0, ()) () = impl_areValid_1 n a0 := by
  have h : runBody ([impl_ValidFracF n]) ty 6 n impl_areValid_1kp impl_areValid_1c Go.Proofs.Try.f230.results.toList impl_areValid_1rs impl_areValid_1sp impl_areValid_1bs (a0, ()) () = impl_areValid_1_t n a0 := by kernel_rfl
  rw [h]
  rfl

theorem impl_areValid_1_ok (n : Nat) : FunOk P (impl_areValid_1F n) :=
  funOk_mk (C := [impl_ValidFracF n]) (N := 6) (kp := impl_areValid_1kp) (c := impl_areValid_1c) (n := n) (G := fun x y => impl_areValid_1 n x.1) follows (AllOk.mem (⟨impl_ValidFrac_ok n, trivial⟩ : AllOk P ([impl_ValidFracF n]))) (by kernel_rfl : P.funcs[230]? = some Go.Proofs.Try.f230) (by kernel_rfl) (by kernel_rfl) (by kernel_rfl)
    (fun x y => impl_areValid_1_eq n x.1) (fun _ _ => map_same (fun _ => rfl) _) (fun _ _ _ _ => rfl)

abbrev slices_IndexFunc_impl_Frac_impl_Frac_at_impl_areValid_1sp : List Sp := [.v false (.list (.pair (.int .i64) (.int .i64))), .cl 230 []]
abbrev slices_IndexFunc_impl_Frac_impl_Frac_at_impl_areValid_1bs : List (Bs × Bool) := []
abbrev slices_IndexFunc_impl_Frac_impl_Frac_at_impl_areValid_1rs : List (Bool × List Rp) := [(false, [.v false (.int .i64)])]
noncomputable def slices_IndexFunc_impl_Frac_impl_Frac_at_impl_areValid_1kp : Keep := { loop := fun id => match id with | 2 => ([8, 0, 1, 7], []) | _ => ([], []), join := fun id => match id with | _ => none }
noncomputable def slices_IndexFunc_impl_Frac_impl_Frac_at_impl_areValid_1c : Code := bodyOf Go.Proofs.Try.f259
noncomputable def slices_IndexFunc_impl_Frac_impl_Frac_at_impl_areValid_1F (n : Nat) : Fun := { id := 259, sp := slices_IndexFunc_impl_Frac_impl_Frac_at_impl_areValid_1sp, bs := slices_IndexFunc_impl_Frac_impl_Frac_at_impl_areValid_1bs, rs := slices_IndexFunc_impl_Frac_impl_Frac_at_impl_areValid_1rs, f := fun x y => slices_IndexFunc_impl_Frac_impl_Frac_at_impl_areValid_1 n x.1 }

theorem slices_IndexFunc_impl_Frac_impl_Frac_at_impl_areValid_1_l2_eq (n : Nat) : ∀ (k : Nat) (v8 : Int) (v0 : List ((Int) × (Int))) (v7 : Int), iter (interp ([impl_areValid_1F n]) ty 19 0 n slices_IndexFunc_impl_Frac_impl_Frac_at_impl_areValid_1kp (codeAt slices_IndexFunc_impl_Frac_impl_Frac_at_impl_areValid_1c [1, 0, 1, 0, 0])) (canon 0 (slices_IndexFunc_impl_Frac_impl_Frac_at_impl_areValid_1kp.loop 2)) (kAt ([impl_areValid_1F n]) ty 19 0 n slices_IndexFunc_impl_Frac_impl_Frac_at_impl_areValid_1kp slices_IndexFunc_impl_Frac_impl_Frac_at_impl_areValid_1c [1, 0, 1, 0] [] (ending ty 0 Go.Proofs.Try.f259.results.toList slices_IndexFunc_impl_Frac_impl_Frac_at_impl_areValid_1rs slices_IndexFunc_impl_Frac_impl_Frac_at_impl_areValid_1bs)) k { env := [(8, .one (.sc (.int .i64 v8))), (0, .one (.list true (.pair (.int .i64) (.int .i64)) v0)), (1, .one (.clos 230 [])), (7, .one (.sc (.int .i64 v7)))], bx := [], nx := 0 } = slices_IndexFunc_impl_Frac_impl_Frac_at_impl_areValid_1_l2 n k v8 v0 v7
  | 0, _, _, _ => by kernel_rfl
  | k + 1, v8, v0, v7 => by
    have h : iter (interp ([impl_areValid_1F n]) ty 19 0 n slices_IndexFunc_impl_Frac_impl_Frac_at_impl_areValid_1kp (codeAt slices_IndexFunc_impl_Frac_impl_Frac_at_impl_areValid_1c [1, 0, 1, 0, 0])) (canon 0 (slices_IndexFunc_impl_Frac_impl_Frac_at_impl_areValid_1kp.loop 2)) (kAt ([impl_areValid_1F n]) ty 19 0 n slices_IndexFunc_impl_Frac_impl_Frac_at_impl_areValid_1kp slices_IndexFunc_impl_Frac_impl_Frac_at_impl_areValid_1c [1, 0, 1, 0] [] (ending ty 0 Go.Proofs.Try.f259.results.toList slices_IndexFunc_impl_Frac_impl_Frac_at_impl_areValid_1rs slices_IndexFunc_impl_Frac_impl_Frac_at_impl_areValid_1bs)) (k + 1) { env := [(8, .one (.sc (.int .i64 v8))), (0, .one (.list true (.pair (.int .i64) (.int .i64)) v0)), (1, .one (.clos 230 [])), (7, .one (.sc (.int .i64 v7)))], bx := [], nx := 0 } = slices_IndexFunc_impl_Frac_impl_Frac_at_impl_areValid_1_t2 n (fun v8 v0 v7 => iter (interp ([impl_areValid_1F n]) ty 19 0 n slices_IndexFunc_impl_Frac_impl_Frac_at_impl_areValid_1kp (codeAt slices_IndexFunc_impl_Frac_impl_Frac_at_impl_areValid_1c [1, 0, 1, 0, 0])) (canon 0 (slices_IndexFunc_impl_Frac_impl_Frac_at_impl_areValid_1kp.loop 2)) (kAt ([impl_areValid_1F n]) ty 19 0 n slices_IndexFunc_impl_Frac_impl_Frac_at_impl_areValid_1kp slices_IndexFunc_impl_Frac_impl_Frac_at_impl_areValid_1c [1, 0, 1, 0] [] (ending ty 0 Go.Proofs.Try.f259.results.toList slices_IndexFunc_impl_Frac_impl_Frac_at_impl_areValid_1rs slices_IndexFunc_impl_Frac_impl_Frac_at_impl_areValid_1bs)) k { env := [(8, .one (.sc (.int .i64 v8))), (0, .one (.list true (.pair (.int .i64) (.int .i64)) v0)), (1, .one (.clos 230 [])), (7, .one (.sc (.int .i64 v7)))], bx := [], nx := 0 }) v8 v0 v7 := by kernel_rfl
    rw [h]
    have e := congrArg (fun g => slices_IndexFunc_impl_Frac_impl_Frac_at_impl_areValid_1_t2 n g v8 v0 v7) (funext fun v8 => funext fun v0 => funext fun v7 => slices_IndexFunc_impl_Frac_impl_Frac_at_impl_areValid_1_l2_eq n k v8 v0 v7)
    exact e

theorem slices_IndexFunc_impl_Frac_impl_Frac_at_impl_areValid_1_eq (n : Nat) (a0 : List ((Int) × (Int))) : runBody ([impl_areValid_1F n]) ty 19 n slices_IndexFunc_impl_Frac_impl_Frac_at_impl_areValid_1kp slices_IndexFunc_impl_Frac_impl_Frac_at_impl_areValid_1c Go.Proofs.Try.f259.results.toList slices_IndexFunc_impl_Frac_impl_Frac_at_impl_areValid_1rs slices_IndexFunc_impl_Frac_impl_Frac_at_impl_areValid_1sp slices_IndexFunc_impl_Frac_impl_Frac_at_impl_areValid_1bs (a0, ((), ())) () = slices_IndexFunc_impl_Frac_impl_Frac_at_impl_areValid_1 n a0 := by
  have h : runBody ([impl_areValid_1F n]) ty 19 n slices_IndexFunc_impl_Frac_impl_Frac_at_impl_areValid_1kp slices_IndexFunc_impl_Frac_impl_Frac_at_impl_areValid_1c Go.Proofs.Try.f259.results.toList slices_IndexFunc_impl_Frac_impl_Frac_at_impl_areValid_1rs slices_IndexFunc_impl_Frac_impl_Frac_at_impl_areValid_1sp slices_IndexFunc_impl_Frac_impl_Frac_at_impl_areValid_1bs (a0, ((), ())) () = slices_IndexFunc_impl_Frac_impl_Frac_at_impl_areValid_1_t n (fun k v8 v0 v7 => iter (interp ([impl_areValid_1F n]) ty 19 0 n slices_IndexFunc_impl_Frac_impl_Frac_at_impl_areValid_1kp (codeAt slices_IndexFunc_impl_Frac_impl_Frac_at_impl_areValid_1c [1, 0, 1, 0, 0])) (canon 0 (slices_IndexFunc_impl_Frac_impl_Frac_at_impl_areValid_1kp.loop 2)) (kAt ([impl_areValid_1F n]) ty 19 0 n slices_IndexFunc_impl_Frac_impl_Frac_at_impl_areValid_1kp slices_IndexFunc_impl_Frac_impl_Frac_at_impl_areValid_1c [1, 0, 1, 0] [] (ending ty 0 Go.Proofs.Try.f259.results.toList slices_IndexFunc_impl_Frac_impl_Frac_at_impl_areValid_1rs slices_IndexFunc_impl_Frac_impl_Frac_at_impl_areValid_1bs)) k { env := [(8, .one (.sc (.int .i64 v8))), (0, .one (.list true (.pair (.int .i64) (.int .i64)) v0)), (1, .one (.clos 230 [])), (7, .one (.sc (.int .i64 v7)))], bx := [], nx := 0 }) a0 := by kernel_rfl
  rw [h]
  have e := congrArg (fun h2 => slices_IndexFunc_impl_Frac_impl_Frac_at_impl_areValid_1_t n h2 a0) (funext fun k => funext fun v8 => funext fun v0 => funext fun v7 => slices_IndexFunc_impl_Frac_impl_Frac_at_impl_areValid_1_l2_eq n k v8 v0 v7)
  exact e

theorem slices_IndexFunc_impl_Frac_impl_Frac_at_impl_areValid_1_ok (n : Nat) : FunOk P (slices_IndexFunc_impl_Frac_impl_Frac_at_impl_areValid_1F n) :=
  funOk_mk (C := [impl_areValid_1F n]) (N := 19) (kp := slices_IndexFunc_impl_Frac_impl_Frac_at_impl_areValid_1kp) (c := slices_IndexFunc_impl_Frac_impl_Frac_at_impl_areValid_1c) (n := n) (G := fun x y => slices_IndexFunc_impl_Frac_impl_Frac_at_impl_areValid_1 n x.1) follows (AllOk.mem (⟨impl_areValid_1_ok n, trivial⟩ : AllOk P ([impl_areValid_1F n]))) (by kernel_rfl : P.funcs[259]? = some Go.Proofs.Try.f259) (by kernel_rfl) (by kernel_rfl) (by kernel_rfl)
    (fun x y => slices_IndexFunc_impl_Frac_impl_Frac_at_impl_areValid_1_eq n x.1) (fun _ _ => map_same (fun _ => rfl) _) (fun _ _ _ _ => rfl)

abbrev slices_ContainsFunc_impl_Frac_impl_Frac_at_impl_areValid_1sp : List Sp := [.v false (.list (.pair (.int .i64) (.int .i64))), .cl 230 []]
abbrev slices_ContainsFunc_impl_Frac_impl_Frac_at_impl_areValid_1bs : List (Bs × Bool) := []
abbrev slices_ContainsFunc_impl_Frac_impl_Frac_at_impl_areValid_1rs : List (Bool × List Rp) := [(false, [.v false .bool])]
noncomputable def slices_ContainsFunc_impl_Frac_impl_Frac_at_impl_areValid_1kp : Keep := { loop := fun id => match id with | _ => ([], []), join := fun id => match id with | _ => none }
noncomputable def slices_ContainsFunc_impl_Frac_impl_Frac_at_impl_areValid_1c : Code := bodyOf Go.Proofs.Try.f229
noncomputable def slices_ContainsFunc_impl_Frac_impl_Frac_at_impl_areValid_1F (n : Nat) : Fun := { id := 229, sp := slices_ContainsFunc_impl_Frac_impl_Frac_at_impl_areValid_1sp, bs := slices_ContainsFunc_impl_Frac_impl_Frac_at_impl_areValid_1bs, rs := slices_ContainsFunc_impl_Frac_impl_Frac_at_impl_areValid_1rs, f := fun x y => slices_ContainsFunc_impl_Frac_impl_Frac_at_impl_areValid_1 n x.1 }

theorem slices_ContainsFunc_impl_Frac_impl_Frac_at_impl_areValid_1_eq (n : Nat) (a0 : List ((Int) × (Int))) : runBody ([slices_IndexFunc_impl_Frac_impl_Frac_at_impl_areValid_1F n]) ty 9 n slices_ContainsFunc_impl_Frac_impl_Frac_at_impl_areValid_1kp slices_ContainsFunc_impl_Frac_impl_Frac_at_impl_areValid_1c Go.Proofs.Try.f229.results.toList slices_ContainsFunc_impl_Frac_impl_Frac_at_impl_areValid_1rs slices_ContainsFunc_impl_Frac_impl_Frac_at_impl_areValid_1sp slices_ContainsFunc_impl_Frac_impl_Frac_at_impl_areValid_1bs (a0, ((), ())) () = slices_ContainsFunc_impl_Frac_impl_Frac_at_impl_areValid_1 n a0 := by
  have h : runBody ([slices_IndexFunc_impl_Frac_impl_Frac_at_impl_areValid_1F n]) ty 9 n slices_ContainsFunc_impl_Frac_impl_Frac_at_impl_areValid_1kp slices_ContainsFunc_impl_Frac_impl_Frac_at_impl_areValid_1c Go.Proofs.Try.f229.results.toList slices_ContainsFunc_impl_Frac_impl_Frac_at_impl_areValid_1rs slices_ContainsFunc_impl_Frac_impl_Frac_at_impl_areValid_1sp slices_ContainsFunc_impl_Frac_impl_Frac_at_impl_areValid_1bs (a0, ((), ())) () = slices_ContainsFunc_impl_Frac_impl_Frac_at_impl_areValid_1_t n a0 := by kernel_rfl
  rw [h]
  rfl

theorem slices_ContainsFunc_impl_Frac_impl_Frac_at_impl_areValid_1_ok (n : Nat) : FunOk P (slices_ContainsFunc_impl_Frac_impl_Frac_at_impl_areValid_1F n) :=
  funOk_mk (C := [slices_IndexFunc_impl_Frac_impl_Frac_at_impl_areValid_1F n]) (N := 9) (kp := slices_ContainsFunc_impl_Frac_impl_Frac_at_impl_areValid_1kp) (c := slices_ContainsFunc_impl_Frac_impl_Frac_at_impl_areValid_1c) (n := n) (G := fun x y => slices_ContainsFunc_impl_Frac_impl_Frac_at_impl_areValid_1 n x.1) follows (AllOk.mem (⟨slices_IndexFunc_impl_Frac_impl_Frac_at_impl_areValid_1_ok n, trivial⟩ : AllOk P ([slices_IndexFunc_impl_Frac_impl_Frac_at_impl_areValid_1F n]))) (by kernel_rfl : P.funcs[229]? = some Go.Proofs.Try.f229) (by kernel_rfl) (by kernel_rfl) (by kernel_rfl)
    (fun x y => slices_ContainsFunc_impl_Frac_impl_Frac_at_impl_areValid_1_eq n x.1) (fun _ _ => map_same (fun _ => rfl) _) (fun _ _ _ _ => rfl)

abbrev impl_areValidsp : List Sp := [.v false (.list (.pair (.int .i64) (.int .i64)))]
abbrev impl_areValidbs : List (Bs × Bool) := []
abbrev impl_areValidrs : List (Bool × List Rp) := [(false, [.v false .bool])]
noncomputable def impl_areValidkp : Keep := { loop := fun id => match id with | _ => ([], []), join := fun id => match id with | _ => none }
noncomputable def impl_areValidc : Code := bodyOf Go.Proofs.Try.f121
noncomputable def impl_areValidF (n : Nat) : Fun := { id := 121, sp := impl_areValidsp, bs := impl_areValidbs, rs := impl_areValidrs, f := fun x y => impl_areValid n x.1 }

theorem impl_areValid_eq (n : Nat) (a0 : List ((Int) × (Int))) : runBody ([slices_ContainsFunc_impl_Frac_impl_Frac_at_impl_areValid_1F n]) ty 6 n impl_areValidkp impl_areValidc Go.Proofs.Try.f121.results.toList impl_areValidrs impl_areValidsp impl_areValidbs (a0, ()) () = impl_areValid n a0 := by
  have h : runBody ([slices_ContainsFunc_impl_Frac_impl_Frac_at_impl_areValid_1F n]) ty 6 n impl_areValidkp impl_areValidc Go.Proofs.Try.f121.results.toList impl_areValidrs impl_areValidsp impl_areValidbs (a0, ()) () = impl_areValid_t n a0 := by kernel_rfl
  rw [h]
  rfl

theorem impl_areValid_ok (n : Nat) : FunOk P (impl_areValidF n) :=
  funOk_mk (C := [slices_ContainsFunc_impl_Frac_impl_Frac_at_impl_areValid_1F n]) (N := 6) (kp := impl_areValidkp) (c := impl_areValidc) (n := n) (G := fun x y => impl_areValid n x.1) follows (AllOk.mem (⟨slices_ContainsFunc_impl_Frac_impl_Frac_at_impl_areValid_1_ok n, trivial⟩ : AllOk P ([slices_ContainsFunc_impl_Frac_impl_Frac_at_impl_areValid_1F n]))) (by kernel_rfl : P.funcs[121]? = some Go.Proofs.Try.f121) (by kernel_rfl) (by kernel_rfl) (by kernel_rfl)
    (fun x y => impl_areValid_eq n x.1) (fun _ _ => map_same (fun _ => rfl) _) (fun _ _ _ _ => rfl)

abbrev impl_comparesp : List Sp := [.v true (.pair (.int .i64) (.int .i64)), .v true (.pair (.int .i64) (.int .i64))]
abbrev impl_comparebs : List (Bs × Bool) := []
abbrev impl_comparers : List (Bool × List Rp) := [(false, [.v false (.int .i64)])]
noncomputable def impl_comparekp : Keep := { loop := fun id => match id with | _ => ([], []), join := fun id => match id with | _ => none }
noncomputable def impl_comparec : Code := bodyOf Go.Proofs.Try.f138
noncomputable def impl_compareF (n : Nat) : Fun := { id := 138, sp := impl_comparesp, bs := impl_comparebs, rs := impl_comparers, f := fun x y => impl_compare n x.1 x.2.1 }

theorem impl_compare_eq (n : Nat) (a0 : (Int) × (Int)) (a1 : (Int) × (Int)) : runBody ([]) ty 25 n impl_comparekp impl_comparec Go.Proofs.Try.f138.results.toList impl_comparers impl_comparesp impl_comparebs (a0, (a1, ())) () = impl_compare n a0 a1 := by
  have h : runBody ([]) ty 25 n impl_comparekp impl_comparec Go.Proofs.Try.f138.results.toList impl_comparers impl_comparesp impl_comparebs (a0, (a1, ())) () = impl_compare_t n a0 a1 := by kernel_rfl
  rw [h]
  rfl

theorem impl_compare_ok (n : Nat) : FunOk P (impl_compareF n) :=
  funOk_mk (C := []) (N := 25) (kp := impl_comparekp) (c := impl_comparec) (n := n) (G := fun x y => impl_compare n x.1 x.2.1) follows (AllOk.mem (trivial : AllOk P ([]))) (by kernel_rfl : P.funcs[138]? = some Go.Proofs.Try.f138) (by kernel_rfl) (by kernel_rfl) (by kernel_rfl)
    (fun x y => impl_compare_eq n x.1 x.2.1) (fun _ _ => map_same (fun _ => rfl) _) (fun _ _ _ _ => rfl)

abbrev impl_CompareFracssp : List Sp := [.v true (.pair (.int .i64) (.int .i64)), .v true (.pair (.int .i64) (.int .i64))]
abbrev impl_CompareFracsbs : List (Bs × Bool) := []
abbrev impl_CompareFracsrs : List (Bool × List Rp) := [(false, [.v false (.int .i64)]), (false, [.v false (.int .i64)])]
noncomputable def impl_CompareFracskp : Keep := { loop := fun id => match id with | _ => ([], []), join := fun id => match id with | _ => none }
noncomputable def impl_CompareFracsc : Code := bodyOf Go.Proofs.Try.f46
noncomputable def impl_CompareFracsF (n : Nat) : Fun := { id := 46, sp := impl_CompareFracssp, bs := impl_CompareFracsbs, rs := impl_CompareFracsrs, f := fun x y => impl_CompareFracs n x.1 x.2.1 }

theorem impl_CompareFracs_eq (n : Nat) (a0 : (Int) × (Int)) (a1 : (Int) × (Int)) : runBody ([impl_areValidF n, impl_compareF n]) ty 14 n impl_CompareFracskp impl_CompareFracsc Go.Proofs.Try.f46.results.toList impl_CompareFracsrs impl_CompareFracssp impl_CompareFracsbs (a0, (a1, ())) () = impl_CompareFracs n a0 a1 := by
  have h : runBody ([impl_areValidF n, impl_compareF n]) ty 14 n impl_CompareFracskp impl_CompareFracsc Go.Proofs.Try.f46.results.toList impl_CompareFracsrs impl_CompareFracssp impl_CompareFracsbs (a0, (a1, ())) () = impl_CompareFracs_t n a0 a1 := by kernel_rfl
  rw [h]
  rfl

theorem impl_CompareFracs_ok (n : Nat) : FunOk P (impl_CompareFracsF n) :=
  funOk_mk (C := [impl_areValidF n, impl_compareF n]) (N := 14) (kp := impl_CompareFracskp) (c := impl_CompareFracsc) (n := n) (G := fun x y => impl_CompareFracs n x.1 x.2.1) follows (AllOk.mem (⟨impl_areValid_ok n, ⟨impl_compare_ok n, trivial⟩⟩ : AllOk P ([impl_areValidF n, impl_compareF n]))) (by kernel_rfl : P.funcs[46]? = some Go.Proofs.Try.f46) (by kernel_rfl) (by kernel_rfl) (by kernel_rfl)
    (fun x y => impl_CompareFracs_eq n x.1 x.2.1) (fun _ _ => map_same (fun _ => rfl) _) (fun _ _ _ _ => rfl)

abbrev impl_ReadTwosp : List Sp := [.v true (.pair (.list (.int .i16)) (.pair (.int .i64) (.int .i64))), .v false (.int .i64), .v false (.int .i64)]
abbrev impl_ReadTwobs : List (Bs × Bool) := []
abbrev impl_ReadTwors : List (Bool × List Rp) := [(false, [.v false (.int .i64)]), (false, [.v false (.int .i64)]), (false, [.v false (.int .i64)])]
noncomputable def impl_ReadTwokp : Keep := { loop := fun id => match id with | _ => ([], []), join := fun id => match id with | _ => none }
noncomputable def impl_ReadTwoc : Code := bodyOf Go.Proofs.Try.f61
noncomputable def impl_ReadTwoF (n : Nat) : Fun := { id := 61, sp := impl_ReadTwosp, bs := impl_ReadTwobs, rs := impl_ReadTwors, f := fun x y => impl_ReadTwo n x.1 x.2.1 x.2.2.1 }

theorem impl_ReadTwo_eq (n : Nat) (a0 : (List (Int)) × ((Int) × (Int))) (a1 : Int) (a2 : Int) : runBody ([impl_headCodeF n, impl_headF n, impl_wrapF n]) ty 28 n impl_ReadTwokp impl_ReadTwoc Go.Proofs.Try.f61.results.toList impl_ReadTwors impl_ReadTwosp impl_ReadTwobs (a0, (a1, (a2, ()))) () = impl_ReadTwo n a0 a1 a2 := by
  have h : runBody ([impl_headCodeF n, impl_headF n, impl_wrapF n]) ty 28 n impl_ReadTwokp impl_ReadTwoc Go.Proofs.Try.f61.results.toList impl_ReadTwors impl_ReadTwosp impl_ReadTwobs (a0, (a1, (a2, ()))) () = impl_ReadTwo_t n a0 a1 a2 := by kernel_rfl
  rw [h]
  rfl

theorem impl_ReadTwo_ok (n : Nat) : FunOk P (impl_ReadTwoF n) :=
  funOk_mk (C := [impl_headCodeF n, impl_headF n, impl_wrapF n]) (N := 28) (kp := impl_ReadTwokp) (c := impl_ReadTwoc) (n := n) (G := fun x y => impl_ReadTwo n x.1 x.2.1 x.2.2.1) follows (AllOk.mem (⟨impl_headCode_ok n, ⟨impl_head_ok n, ⟨impl_wrap_ok n, trivial⟩⟩⟩ : AllOk P ([impl_headCodeF n, impl_headF n, impl_wrapF n]))) (by kernel_rfl : P.funcs[61]? = some Go.Proofs.Try.f61) (by kernel_rfl) (by kernel_rfl) (by kernel_rfl)
    (fun x y => impl_ReadTwo_eq n x.1 x.2.1 x.2.2.1) (fun _ _ => map_same (fun _ => rfl) _) (fun _ _ _ _ => rfl)

abbrev spec_ReadTwosp : List Sp := [.v true (.pair (.list (.int .i16)) (.pair (.int .i64) (.int .i64))), .v false (.int .i64), .v false (.int .i64)]
abbrev spec_ReadTwobs : List (Bs × Bool) := []
abbrev spec_ReadTwors : List (Bool × List Rp) := [(false, [.v false (.int .i64)]), (false, [.v false (.int .i64)]), (false, [.v false (.int .i64)])]
noncomputable def spec_ReadTwokp : Keep := { loop := fun id => match id with | _ => ([], []), join := fun id => match id with | _ => none }
noncomputable def spec_ReadTwoc : Code := bodyOf Go.Proofs.Try.f62
noncomputable def spec_ReadTwoF (n : Nat) : Fun := { id := 62, sp := spec_ReadTwosp, bs := spec_ReadTwobs, rs := spec_ReadTwors, f := fun x y => spec_ReadTwo n x.1 x.2.1 x.2.2.1 }

theorem spec_ReadTwo_eq (n : Nat) (a0 : (List (Int)) × ((Int) × (Int))) (a1 : Int) (a2 : Int) : runBody ([spec_l03LeastF n, spec_l03HeadF n, spec_l03WrapF n]) ty 24 n spec_ReadTwokp spec_ReadTwoc Go.Proofs.Try.f62.results.toList spec_ReadTwors spec_ReadTwosp spec_ReadTwobs (a0, (a1, (a2, ()))) () = spec_ReadTwo n a0 a1 a2 := by
  have h : runBody ([spec_l03LeastF n, spec_l03HeadF n, spec_l03WrapF n]) ty 24 n spec_ReadTwokp spec_ReadTwoc Go.Proofs.Try.f62.results.toList spec_ReadTwors spec_ReadTwosp spec_ReadTwobs (a0, (a1, (a2, ()))) () = spec_ReadTwo_t n a0 a1 a2 := by kernel_rfl
  rw [h]
  rfl

theorem spec_ReadTwo_ok (n : Nat) : FunOk P (spec_ReadTwoF n) :=
  funOk_mk (C := [spec_l03LeastF n, spec_l03HeadF n, spec_l03WrapF n]) (N := 24) (kp := spec_ReadTwokp) (c := spec_ReadTwoc) (n := n) (G := fun x y => spec_ReadTwo n x.1 x.2.1 x.2.2.1) follows (AllOk.mem (⟨spec_l03Least_ok n, ⟨spec_l03Head_ok n, ⟨spec_l03Wrap_ok n, trivial⟩⟩⟩ : AllOk P ([spec_l03LeastF n, spec_l03HeadF n, spec_l03WrapF n]))) (by kernel_rfl : P.funcs[62]? = some Go.Proofs.Try.f62) (by kernel_rfl) (by kernel_rfl) (by kernel_rfl)
    (fun x y => spec_ReadTwo_eq n x.1 x.2.1 x.2.2.1) (fun _ _ => map_same (fun _ => rfl) _) (fun _ _ _ _ => rfl)

abbrev impl_turnFromsp : List Sp := [.v false (.int .i64), .v false (.int .i64)]
abbrev impl_turnFrombs : List (Bs × Bool) := []
abbrev impl_turnFromrs : List (Bool × List Rp) := [(false, [.v false (.int .i64)])]
noncomputable def impl_turnFromkp : Keep := { loop := fun id => match id with | _ => ([], []), join := fun id => match id with | _ => none }
noncomputable def impl_turnFromc : Code := bodyOf Go.Proofs.Try.f154
noncomputable def impl_turnFromF (n : Nat) : Fun := { id := 154, sp := impl_turnFromsp, bs := impl_turnFrombs, rs := impl_turnFromrs, f := fun x y => impl_turnFrom n x.1 x.2.1 }

theorem impl_turnFrom_eq (n : Nat) (a0 : Int) (a1 : Int) : runBody ([impl_wrapF n]) ty 15 n impl_turnFromkp impl_turnFromc Go.Proofs.Try.f154.results.toList impl_turnFromrs impl_turnFromsp impl_turnFrombs (a0, (a1, ())) () = impl_turnFrom n a0 a1 := by
  have h : runBody ([impl_wrapF n]) ty 15 n impl_turnFromkp impl_turnFromc Go.Proofs.Try.f154.results.toList impl_turnFromrs impl_turnFromsp impl_turnFrombs (a0, (a1, ())) () = impl_turnFrom_t n a0 a1 := by kernel_rfl
  rw [h]
  rfl

theorem impl_turnFrom_ok (n : Nat) : FunOk P (impl_turnFromF n) :=
  funOk_mk (C := [impl_wrapF n]) (N := 15) (kp := impl_turnFromkp) (c := impl_turnFromc) (n := n) (G := fun x y => impl_turnFrom n x.1 x.2.1) follows (AllOk.mem (⟨impl_wrap_ok n, trivial⟩ : AllOk P ([impl_wrapF n]))) (by kernel_rfl : P.funcs[154]? = some Go.Proofs.Try.f154) (by kernel_rfl) (by kernel_rfl) (by kernel_rfl)
    (fun x y => impl_turnFrom_eq n x.1 x.2.1) (fun _ _ => map_same (fun _ => rfl) _) (fun _ _ _ _ => rfl)

abbrev impl_fracOfsp : List Sp := [.v false (.int .i64), .v false (.int .i64)]
abbrev impl_fracOfbs : List (Bs × Bool) := []
abbrev impl_fracOfrs : List (Bool × List Rp) := [(true, [.v false (.pair (.int .i64) (.int .i64))]), (false, [.v false .bool])]
noncomputable def impl_fracOfkp : Keep := { loop := fun id => match id with | _ => ([], []), join := fun id => match id with | _ => none }
noncomputable def impl_fracOfc : Code := bodyOf Go.Proofs.Try.f177
noncomputable def impl_fracOfF (n : Nat) : Fun := { id := 177, sp := impl_fracOfsp, bs := impl_fracOfbs, rs := impl_fracOfrs, f := fun x y => impl_fracOf n x.1 x.2.1 }

theorem impl_fracOf_eq (n : Nat) (a0 : Int) (a1 : Int) : runBody ([impl_gcdF n, impl_ValidFracF n]) ty 29 n impl_fracOfkp impl_fracOfc Go.Proofs.Try.f177.results.toList impl_fracOfrs impl_fracOfsp impl_fracOfbs (a0, (a1, ())) () = impl_fracOf n a0 a1 := by
  have h : runBody ([impl_gcdF n, impl_ValidFracF n]) ty 29 n impl_fracOfkp impl_fracOfc Go.Proofs.Try.f177.results.toList impl_fracOfrs impl_fracOfsp impl_fracOfbs (a0, (a1, ())) () = impl_fracOf_t n a0 a1 := by kernel_rfl
  rw [h]
  rfl

theorem impl_fracOf_ok (n : Nat) : FunOk P (impl_fracOfF n) :=
  funOk_mk (C := [impl_gcdF n, impl_ValidFracF n]) (N := 29) (kp := impl_fracOfkp) (c := impl_fracOfc) (n := n) (G := fun x y => impl_fracOf n x.1 x.2.1) follows (AllOk.mem (⟨impl_gcd_ok n, ⟨impl_ValidFrac_ok n, trivial⟩⟩ : AllOk P ([impl_gcdF n, impl_ValidFracF n]))) (by kernel_rfl : P.funcs[177]? = some Go.Proofs.Try.f177) (by kernel_rfl) (by kernel_rfl) (by kernel_rfl)
    (fun x y => impl_fracOf_eq n x.1 x.2.1) (fun _ _ => map_same (fun _ => rfl) _) (fun _ _ _ _ => rfl)

abbrev impl_zerosp : List Sp := []
abbrev impl_zerobs : List (Bs × Bool) := []
abbrev impl_zerors : List (Bool × List Rp) := [(true, [.v false (.pair (.int .i64) (.int .i64))])]
noncomputable def impl_zerokp : Keep := { loop := fun id => match id with | _ => ([], []), join := fun id => match id with | _ => none }
noncomputable def impl_zeroc : Code := bodyOf Go.Proofs.Try.f204
noncomputable def impl_zeroF (n : Nat) : Fun := { id := 204, sp := impl_zerosp, bs := impl_zerobs, rs := impl_zerors, f := fun x y => impl_zero n }

theorem impl_zero_eq (n : Nat) : runBody ([]) ty 2 n impl_zerokp impl_zeroc Go.Proofs.Try.f204.results.toList impl_zerors impl_zerosp impl_zerobs () () = impl_zero n := by
  have h : runBody ([]) ty 2 n impl_zerokp impl_zeroc Go.Proofs.Try.f204.results.toList impl_zerors impl_zerosp impl_zerobs () () = impl_zero_t n := by kernel_rfl
  rw [h]
  rfl

theorem impl_zero_ok (n : Nat) : FunOk P (impl_zeroF n) :=
  funOk_mk (C := []) (N := 2) (kp := impl_zerokp) (c := impl_zeroc) (n := n) (G := fun x y => impl_zero n) follows (AllOk.mem (trivial : AllOk P ([]))) (by kernel_rfl : P.funcs[204]? = some Go.Proofs.Try.f204) (by kernel_rfl) (by kernel_rfl) (by kernel_rfl)
    (fun x y => impl_zero_eq n) (fun _ _ => map_same (fun _ => rfl) _) (fun _ _ _ _ => rfl)

abbrev impl_calc_toldsp : List Sp := [.ref 0, .v false (.int .i64), .v false (.int .i64)]
abbrev impl_calc_toldbs : List (Bs × Bool) := [(.var 139 .bool, true)]
abbrev impl_calc_toldrs : List (Bool × List Rp) := [(true, [.v false (.pair (.int .i64) (.int .i64))])]
noncomputable def impl_calc_toldkp : Keep := { loop := fun id => match id with | _ => ([], []), join := fun id => match id with | _ => none }
noncomputable def impl_calc_toldc : Code := bodyOf Go.Proofs.Try.f165
noncomputable def impl_calc_toldF (n : Nat) : Fun := { id := 165, sp := impl_calc_toldsp, bs := impl_calc_toldbs, rs := impl_calc_toldrs, f := fun x y => impl_calc_told n x.2.1 x.2.2.1 y.1 }

theorem impl_calc_told_eq (n : Nat) (a1 : Int) (a2 : Int) (b0 : Bool) : runBody ([impl_fracOfF n, impl_zeroF n]) ty 22 n impl_calc_toldkp impl_calc_toldc Go.Proofs.Try.f165.results.toList impl_calc_toldrs impl_calc_toldsp impl_calc_toldbs ((), (a1, (a2, ()))) (b0, ()) = impl_calc_told n a1 a2 b0 := by
  have h : runBody ([impl_fracOfF n, impl_zeroF n]) ty 22 n impl_calc_toldkp impl_calc_toldc Go.Proofs.Try.f165.results.toList impl_calc_toldrs impl_calc_toldsp impl_calc_toldbs ((), (a1, (a2, ()))) (b0, ()) = impl_calc_told_t n a1 a2 b0 := by kernel_rfl
  rw [h]
  rfl

theorem impl_calc_told_ok (n : Nat) : FunOk P (impl_calc_toldF n) :=
  funOk_mk (C := [impl_fracOfF n, impl_zeroF n]) (N := 22) (kp := impl_calc_toldkp) (c := impl_calc_toldc) (n := n) (G := fun x y => impl_calc_told n x.2.1 x.2.2.1 y.1) follows (AllOk.mem (⟨impl_fracOf_ok n, ⟨impl_zero_ok n, trivial⟩⟩ : AllOk P ([impl_fracOfF n, impl_zeroF n]))) (by kernel_rfl : P.funcs[165]? = some Go.Proofs.Try.f165) (by kernel_rfl) (by kernel_rfl) (by kernel_rfl)
    (fun x y => impl_calc_told_eq n x.2.1 x.2.2.1 y.1) (fun _ _ => map_same (fun _ => rfl) _) (fun _ _ _ _ => rfl)

abbrev impl_calc_onesp : List Sp := [.ref 0, .v true (.pair (.int .i64) (.int .i64))]
abbrev impl_calc_onebs : List (Bs × Bool) := [(.var 139 .bool, true)]
abbrev impl_calc_oners : List (Bool × List Rp) := [(true, [.v false (.pair (.int .i64) (.int .i64))]), (false, [.v false (.int .i64)])]
noncomputable def impl_calc_onekp : Keep := { loop := fun id => match id with | _ => ([], []), join := fun id => match id with | _ => none }
noncomputable def impl_calc_onec : Code := bodyOf Go.Proofs.Try.f164
noncomputable def impl_calc_oneF (n : Nat) : Fun := { id := 164, sp := impl_calc_onesp, bs := impl_calc_onebs, rs := impl_calc_oners, f := fun x y => impl_calc_one n x.2.1 y.1 }

theorem impl_calc_one_eq (n : Nat) (a1 : (Int) × (Int)) (b0 : Bool) : runBody ([]) ty 12 n impl_calc_onekp impl_calc_onec Go.Proofs.Try.f164.results.toList impl_calc_oners impl_calc_onesp impl_calc_onebs ((), (a1, ())) (b0, ()) = impl_calc_one n a1 b0 := by
  have h : runBody ([]) ty 12 n impl_calc_onekp impl_calc_onec Go.Proofs.Try.f164.results.toList impl_calc_oners impl_calc_onesp impl_calc_onebs ((), (a1, ())) (b0, ()) = impl_calc_one_t n a1 b0 := by kernel_rfl
  rw [h]
  rfl

theorem impl_calc_one_ok (n : Nat) : FunOk P (impl_calc_oneF n) :=
  funOk_mk (C := []) (N := 12) (kp := impl_calc_onekp) (c := impl_calc_onec) (n := n) (G := fun x y => impl_calc_one n x.2.1 y.1) follows (AllOk.mem (trivial : AllOk P ([]))) (by kernel_rfl : P.funcs[164]? = some Go.Proofs.Try.f164) (by kernel_rfl) (by kernel_rfl) (by kernel_rfl)
    (fun x y => impl_calc_one_eq n x.2.1 y.1) (fun _ _ => map_same (fun _ => rfl) _) (fun _ _ _ _ => rfl)

abbrev impl_MeanOfTwosp : List Sp := [.v false (.int .i64), .v false (.int .i64)]
abbrev impl_MeanOfTwobs : List (Bs × Bool) := []
abbrev impl_MeanOfTwors : List (Bool × List Rp) := [(true, [.v false (.pair (.int .i64) (.int .i64))]), (false, [.v false (.int .i64)])]
noncomputable def impl_MeanOfTwokp : Keep := { loop := fun id => match id with | _ => ([], []), join := fun id => match id with | _ => none }
noncomputable def impl_MeanOfTwoc : Code := bodyOf Go.Proofs.Try.f63
noncomputable def impl_MeanOfTwoF (n : Nat) : Fun := { id := 63, sp := impl_MeanOfTwosp, bs := impl_MeanOfTwobs, rs := impl_MeanOfTwors, f := fun x y => impl_MeanOfTwo n x.1 x.2.1 }

theorem impl_MeanOfTwo_eq (n : Nat) (a0 : Int) (a1 : Int) : runBody ([impl_isAngleF n, impl_wrapF n, impl_turnFromF n, impl_calc_toldF n, impl_calc_oneF n]) ty 32 n impl_MeanOfTwokp impl_MeanOfTwoc Go.Proofs.Try.f63.results.toList impl_MeanOfTwors impl_MeanOfTwosp impl_MeanOfTwobs (a0, (a1, ())) () = impl_MeanOfTwo n a0 a1 := by
  have h : runBody ([impl_isAngleF n, impl_wrapF n, impl_turnFromF n, impl_calc_toldF n, impl_calc_oneF n]) ty 32 n impl_MeanOfTwokp impl_MeanOfTwoc Go.Proofs.Try.f63.results.toList impl_MeanOfTwors impl_MeanOfTwosp impl_MeanOfTwobs (a0, (a1, ())) () = impl_MeanOfTwo_t n a0 a1 := by kernel_rfl
  rw [h]
  rfl

theorem impl_MeanOfTwo_ok (n : Nat) : FunOk P (impl_MeanOfTwoF n) :=
  funOk_mk (C := [impl_isAngleF n, impl_wrapF n, impl_turnFromF n, impl_calc_toldF n, impl_calc_oneF n]) (N := 32) (kp := impl_MeanOfTwokp) (c := impl_MeanOfTwoc) (n := n) (G := fun x y => impl_MeanOfTwo n x.1 x.2.1) follows (AllOk.mem (⟨impl_isAngle_ok n, ⟨impl_wrap_ok n, ⟨impl_turnFrom_ok n, ⟨impl_calc_told_ok n, ⟨impl_calc_one_ok n, trivial⟩⟩⟩⟩⟩ : AllOk P ([impl_isAngleF n, impl_wrapF n, impl_turnFromF n, impl_calc_toldF n, impl_calc_oneF n]))) (by kernel_rfl : P.funcs[63]? = some Go.Proofs.Try.f63) (by kernel_rfl) (by kernel_rfl) (by kernel_rfl)
    (fun x y => impl_MeanOfTwo_eq n x.1 x.2.1) (fun _ _ => map_same (fun _ => rfl) _) (fun _ _ _ _ => rfl)

abbrev impl_WorstHeadsp : List Sp := [.v true (.pair (.list (.int .i16)) (.pair (.int .i64) (.int .i64))), .v false (.list (.int .i64)), .v false (.int .i64)]
abbrev impl_WorstHeadbs : List (Bs × Bool) := []
abbrev impl_WorstHeadrs : List (Bool × List Rp) := [(false, [.v false (.int .i64)]), (false, [.v false (.int .i64)]), (false, [.v false (.int .i64)])]
noncomputable def impl_WorstHeadkp : Keep := { loop := fun id => match id with | 8 => ([36, 10, 2, 3, 34, 11, 35], []) | _ => ([], []), join := fun id => match id with | _ => none }
noncomputable def impl_WorstHeadc : Code := bodyOf Go.Proofs.Try.f54
noncomputable def impl_WorstHeadF (n : Nat) : Fun := { id := 54, sp := impl_WorstHeadsp, bs := impl_WorstHeadbs, rs := impl_WorstHeadrs, f := fun x y => impl_WorstHead n x.1 x.2.1 x.2.2.1 }

theorem impl_WorstHead_l8_eq (n : Nat) : ∀ (k : Nat) (v36 : Int) (v10 : Int) (v2 : Int) (v34 : List (Int)) (v11 : Int) (v35 : Int) (b0_0 : List (Int)) (b0_1 : Int) (b0_2 : Int), iter (interp ([impl_headCodeF n, impl_headF n, impl_turnFromF n]) ty 58 0 n impl_WorstHeadkp (codeAt impl_WorstHeadc [1, 1, 1, 1, 1, 0, 1, 0, 0])) (canon 0 (impl_WorstHeadkp.loop 8)) (kAt ([impl_headCodeF n, impl_headF n, impl_turnFromF n]) ty 58 0 n impl_WorstHeadkp impl_WorstHeadc [1, 1, 1, 1, 1, 0, 1, 0] [] (ending ty 0 Go.Proofs.Try.f54.results.toList impl_WorstHeadrs impl_WorstHeadbs)) k { env := [(36, .one (.sc (.int .i64 v36))), (10, .one (.sc (.int .i64 v10))), (2, .one (.sc (.int .i64 v2))), (3, .one (.ref 0 0 0 0 0 0)), (34, .one (.list true (.int .i64) v34)), (11, .one (.sc (.int .i64 v11))), (35, .one (.sc (.int .i64 v35)))], bx := [(0, .var 62 [.list true (.int .i16) b0_0, .sc (.int .i64 b0_1), .sc (.int .i64 b0_2)])], nx := 1 } = impl_WorstHead_l8 n k v36 v10 v2 v34 v11 v35 b0_0 b0_1 b0_2
  | 0, _, _, _, _, _, _, _, _, _ => by kernel_rfl
  | k + 1, v36, v10, v2, v34, v11, v35, b0_0, b0_1, b0_2 => by
    have h : iter (interp ([impl_headCodeF n, impl_headF n, impl_turnFromF n]) ty 58 0 n impl_WorstHeadkp (codeAt impl_WorstHeadc [1, 1, 1, 1, 1, 0, 1, 0, 0])) (canon 0 (impl_WorstHeadkp.loop 8)) (kAt ([impl_headCodeF n, impl_headF n, impl_turnFromF n]) ty 58 0 n impl_WorstHeadkp impl_WorstHeadc [1, 1, 1, 1, 1, 0, 1, 0] [] (ending ty 0 Go.Proofs.Try.f54.results.toList impl_WorstHeadrs impl_WorstHeadbs)) (k + 1) { env := [(36, .one (.sc (.int .i64 v36))), (10, .one (.sc (.int .i64 v10))), (2, .one (.sc (.int .i64 v2))), (3, .one (.ref 0 0 0 0 0 0)), (34, .one (.list true (.int .i64) v34)), (11, .one (.sc (.int .i64 v11))), (35, .one (.sc (.int .i64 v35)))], bx := [(0, .var 62 [.list true (.int .i16) b0_0, .sc (.int .i64 b0_1), .sc (.int .i64 b0_2)])], nx := 1 } = impl_WorstHead_t8 n (fun v36 v10 v2 v34 v11 v35 b0_0 b0_1 b0_2 => iter (interp ([impl_headCodeF n, impl_headF n, impl_turnFromF n]) ty 58 0 n impl_WorstHeadkp (codeAt impl_WorstHeadc [1, 1, 1, 1, 1, 0, 1, 0, 0])) (canon 0 (impl_WorstHeadkp.loop 8)) (kAt ([impl_headCodeF n, impl_headF n, impl_turnFromF n]) ty 58 0 n impl_WorstHeadkp impl_WorstHeadc [1, 1, 1, 1, 1, 0, 1, 0] [] (ending ty 0 Go.Proofs.Try.f54.results.toList impl_WorstHeadrs impl_WorstHeadbs)) k { env := [(36, .one (.sc (.int .i64 v36))), (10, .one (.sc (.int .i64 v10))), (2, .one (.sc (.int .i64 v2))), (3, .one (.ref 0 0 0 0 0 0)), (34, .one (.list true (.int .i64) v34)), (11, .one (.sc (.int .i64 v11))), (35, .one (.sc (.int .i64 v35)))], bx := [(0, .var 62 [.list true (.int .i16) b0_0, .sc (.int .i64 b0_1), .sc (.int .i64 b0_2)])], nx := 1 }) v36 v10 v2 v34 v11 v35 b0_0 b0_1 b0_2 := by kernel_rfl
    rw [h]
    have e := congrArg (fun g => impl_WorstHead_t8 n g v36 v10 v2 v34 v11 v35 b0_0 b0_1 b0_2) (funext fun v36 => funext fun v10 => funext fun v2 => funext fun v34 => funext fun v11 => funext fun v35 => funext fun b0_0 => funext fun b0_1 => funext fun b0_2 => impl_WorstHead_l8_eq n k v36 v10 v2 v34 v11 v35 b0_0 b0_1 b0_2)
    exact e

theorem impl_WorstHead_eq (n : Nat) (a0 : (List (Int)) × ((Int) × (Int))) (a1 : List (Int)) (a2 : Int) : runBody ([impl_headCodeF n, impl_headF n, impl_turnFromF n]) ty 58 n impl_WorstHeadkp impl_WorstHeadc Go.Proofs.Try.f54.results.toList impl_WorstHeadrs impl_WorstHeadsp impl_WorstHeadbs (a0, (a1, (a2, ()))) () = impl_WorstHead n a0 a1 a2 := by
  have h : runBody ([impl_headCodeF n, impl_headF n, impl_turnFromF n]) ty 58 n impl_WorstHeadkp impl_WorstHeadc Go.Proofs.Try.f54.results.toList impl_WorstHeadrs impl_WorstHeadsp impl_WorstHeadbs (a0, (a1, (a2, ()))) () = impl_WorstHead_t n (fun k v36 v10 v2 v34 v11 v35 b0_0 b0_1 b0_2 => iter (interp ([impl_headCodeF n, impl_headF n, impl_turnFromF n]) ty 58 0 n impl_WorstHeadkp (codeAt impl_WorstHeadc [1, 1, 1, 1, 1, 0, 1, 0, 0])) (canon 0 (impl_WorstHeadkp.loop 8)) (kAt ([impl_headCodeF n, impl_headF n, impl_turnFromF n]) ty 58 0 n impl_WorstHeadkp impl_WorstHeadc [1, 1, 1, 1, 1, 0, 1, 0] [] (ending ty 0 Go.Proofs.Try.f54.results.toList impl_WorstHeadrs impl_WorstHeadbs)) k { env := [(36, .one (.sc (.int .i64 v36))), (10, .one (.sc (.int .i64 v10))), (2, .one (.sc (.int .i64 v2))), (3, .one (.ref 0 0 0 0 0 0)), (34, .one (.list true (.int .i64) v34)), (11, .one (.sc (.int .i64 v11))), (35, .one (.sc (.int .i64 v35)))], bx := [(0, .var 62 [.list true (.int .i16) b0_0, .sc (.int .i64 b0_1), .sc (.int .i64 b0_2)])], nx := 1 }) a0 a1 a2 := by kernel_rfl
  rw [h]
  have e := congrArg (fun h8 => impl_WorstHead_t n h8 a0 a1 a2) (funext fun k => funext fun v36 => funext fun v10 => funext fun v2 => funext fun v34 => funext fun v11 => funext fun v35 => funext fun b0_0 => funext fun b0_1 => funext fun b0_2 => impl_WorstHead_l8_eq n k v36 v10 v2 v34 v11 v35 b0_0 b0_1 b0_2)
  exact e

theorem impl_WorstHead_ok (n : Nat) : FunOk P (impl_WorstHeadF n) :=
  funOk_mk (C := [impl_headCodeF n, impl_headF n, impl_turnFromF n]) (N := 58) (kp := impl_WorstHeadkp) (c := impl_WorstHeadc) (n := n) (G := fun x y => impl_WorstHead n x.1 x.2.1 x.2.2.1) follows (AllOk.mem (⟨impl_headCode_ok n, ⟨impl_head_ok n, ⟨impl_turnFrom_ok n, trivial⟩⟩⟩ : AllOk P ([impl_headCodeF n, impl_headF n, impl_turnFromF n]))) (by kernel_rfl : P.funcs[54]? = some Go.Proofs.Try.f54) (by kernel_rfl) (by kernel_rfl) (by kernel_rfl)
    (fun x y => impl_WorstHead_eq n x.1 x.2.1 x.2.2.1) (fun _ _ => map_same (fun _ => rfl) _) (fun _ _ _ _ => rfl)

abbrev spec_WorstHeadsp : List Sp := [.v true (.pair (.list (.int .i16)) (.pair (.int .i64) (.int .i64))), .v false (.list (.int .i64)), .v false (.int .i64)]
abbrev spec_WorstHeadbs : List (Bs × Bool) := []
abbrev spec_WorstHeadrs : List (Bool × List Rp) := [(false, [.v false (.int .i64)]), (false, [.v false (.int .i64)]), (false, [.v false (.int .i64)])]
noncomputable def spec_WorstHeadkp : Keep := { loop := fun id => match id with | 3 => ([10, 1, 3, 2, 9], []) | 13 => ([13, 1, 11, 3, 2, 12], []) | _ => ([], []), join := fun id => match id with | _ => none }
noncomputable def spec_WorstHeadc : Code := bodyOf Go.Proofs.Try.f64
noncomputable def spec_WorstHeadF (n : Nat) : Fun := { id := 64, sp := spec_WorstHeadsp, bs := spec_WorstHeadbs, rs := spec_WorstHeadrs, f := fun x y => spec_WorstHead n x.1 x.2.1 x.2.2.1 }

theorem spec_WorstHead_l13_eq (n : Nat) : ∀ (k : Nat) (v13 : Int) (v1 : List (Int)) (v11 : Int) (v2 : Int) (v12 : Int) (b0_0 : List (Int)) (b0_1 : Int) (b0_2 : Int), iter (interp ([spec_l03OkF n, spec_l03AngleF n, spec_l00InF n, spec_l03HeadF n, spec_l03TurnF n, spec_l01AbsF n]) ty 69 0 n spec_WorstHeadkp (codeAt spec_WorstHeadc [1, 1, 1, 1, 1, 1, 1, 0, 1, 0, 0])) (canon 0 (spec_WorstHeadkp.loop 13)) (kAt ([spec_l03OkF n, spec_l03AngleF n, spec_l00InF n, spec_l03HeadF n, spec_l03TurnF n, spec_l01AbsF n]) ty 69 0 n spec_WorstHeadkp spec_WorstHeadc [1, 1, 1, 1, 1, 1, 1, 0, 1, 0] [] (ending ty 0 Go.Proofs.Try.f64.results.toList spec_WorstHeadrs spec_WorstHeadbs)) k { env := [(13, .one (.sc (.int .i64 v13))), (1, .one (.list true (.int .i64) v1)), (11, .one (.sc (.int .i64 v11))), (3, .one (.ref 0 0 0 0 0 0)), (2, .one (.sc (.int .i64 v2))), (12, .one (.sc (.int .i64 v12)))], bx := [(0, .var 62 [.list true (.int .i16) b0_0, .sc (.int .i64 b0_1), .sc (.int .i64 b0_2)])], nx := 1 } = spec_WorstHead_l13 n k v13 v1 v11 v2 v12 b0_0 b0_1 b0_2
  | 0, _, _, _, _, _, _, _, _ => by kernel_rfl
  | k + 1, v13, v1, v11, v2, v12, b0_0, b0_1, b0_2 => by
    have h : iter (interp ([spec_l03OkF n, spec_l03AngleF n, spec_l00InF n, spec_l03HeadF n, spec_l03TurnF n, spec_l01AbsF n]) ty 69 0 n spec_WorstHeadkp (codeAt spec_WorstHeadc [1, 1, 1, 1, 1, 1, 1, 0, 1, 0, 0])) (canon 0 (spec_WorstHeadkp.loop 13)) (kAt ([spec_l03OkF n, spec_l03AngleF n, spec_l00InF n, spec_l03HeadF n, spec_l03TurnF n, spec_l01AbsF n]) ty 69 0 n spec_WorstHeadkp spec_WorstHeadc [1, 1, 1, 1, 1, 1, 1, 0, 1, 0] [] (ending ty 0 Go.Proofs.Try.f64.results.toList spec_WorstHeadrs spec_WorstHeadbs)) (k + 1) { env := [(13, .one (.sc (.int .i64 v13))), (1, .one (.list true (.int .i64) v1)), (11, .one (.sc (.int .i64 v11))), (3, .one (.ref 0 0 0 0 0 0)), (2, .one (.sc (.int .i64 v2))), (12, .one (.sc (.int .i64 v12)))], bx := [(0, .var 62 [.list true (.int .i16) b0_0, .sc (.int .i64 b0_1), .sc (.int .i64 b0_2)])], nx := 1 } = spec_WorstHead_t13 n (fun v13 v1 v11 v2 v12 b0_0 b0_1 b0_2 => iter (interp ([spec_l03OkF n, spec_l03AngleF n, spec_l00InF n, spec_l03HeadF n, spec_l03TurnF n, spec_l01AbsF n]) ty 69 0 n spec_WorstHeadkp (codeAt spec_WorstHeadc [1, 1, 1, 1, 1, 1, 1, 0, 1, 0, 0])) (canon 0 (spec_WorstHeadkp.loop 13)) (kAt ([spec_l03OkF n, spec_l03AngleF n, spec_l00InF n, spec_l03HeadF n, spec_l03TurnF n, spec_l01AbsF n]) ty 69 0 n spec_WorstHeadkp spec_WorstHeadc [1, 1, 1, 1, 1, 1, 1, 0, 1, 0] [] (ending ty 0 Go.Proofs.Try.f64.results.toList spec_WorstHeadrs spec_WorstHeadbs)) k { env := [(13, .one (.sc (.int .i64 v13))), (1, .one (.list true (.int .i64) v1)), (11, .one (.sc (.int .i64 v11))), (3, .one (.ref 0 0 0 0 0 0)), (2, .one (.sc (.int .i64 v2))), (12, .one (.sc (.int .i64 v12)))], bx := [(0, .var 62 [.list true (.int .i16) b0_0, .sc (.int .i64 b0_1), .sc (.int .i64 b0_2)])], nx := 1 }) v13 v1 v11 v2 v12 b0_0 b0_1 b0_2 := by kernel_rfl
    rw [h]
    have e := congrArg (fun g => spec_WorstHead_t13 n g v13 v1 v11 v2 v12 b0_0 b0_1 b0_2) (funext fun v13 => funext fun v1 => funext fun v11 => funext fun v2 => funext fun v12 => funext fun b0_0 => funext fun b0_1 => funext fun b0_2 => spec_WorstHead_l13_eq n k v13 v1 v11 v2 v12 b0_0 b0_1 b0_2)
    exact e

theorem spec_WorstHead_l3_eq (n : Nat) : ∀ (k : Nat) (v10 : Int) (v1 : List (Int)) (v2 : Int) (v9 : Bool) (b0_0 : List (Int)) (b0_1 : Int) (b0_2 : Int), iter (interp ([spec_l03OkF n, spec_l03AngleF n, spec_l00InF n, spec_l03HeadF n, spec_l03TurnF n, spec_l01AbsF n]) ty 69 0 n spec_WorstHeadkp (codeAt spec_WorstHeadc [1, 1, 0, 1, 0, 0])) (canon 0 (spec_WorstHeadkp.loop 3)) (kAt ([spec_l03OkF n, spec_l03AngleF n, spec_l00InF n, spec_l03HeadF n, spec_l03TurnF n, spec_l01AbsF n]) ty 69 0 n spec_WorstHeadkp spec_WorstHeadc [1, 1, 0, 1, 0] [] (ending ty 0 Go.Proofs.Try.f64.results.toList spec_WorstHeadrs spec_WorstHeadbs)) k { env := [(10, .one (.sc (.int .i64 v10))), (1, .one (.list true (.int .i64) v1)), (3, .one (.ref 0 0 0 0 0 0)), (2, .one (.sc (.int .i64 v2))), (9, .one (.sc (.bool v9)))], bx := [(0, .var 62 [.list true (.int .i16) b0_0, .sc (.int .i64 b0_1), .sc (.int .i64 b0_2)])], nx := 1 } = spec_WorstHead_l3 n k v10 v1 v2 v9 b0_0 b0_1 b0_2
  | 0, _, _, _, _, _, _, _ => by kernel_rfl
  | k + 1, v10, v1, v2, v9, b0_0, b0_1, b0_2 => by
    have h : iter (interp ([spec_l03OkF n, spec_l03AngleF n, spec_l00InF n, spec_l03HeadF n, spec_l03TurnF n, spec_l01AbsF n]) ty 69 0 n spec_WorstHeadkp (codeAt spec_WorstHeadc [1, 1, 0, 1, 0, 0])) (canon 0 (spec_WorstHeadkp.loop 3)) (kAt ([spec_l03OkF n, spec_l03AngleF n, spec_l00InF n, spec_l03HeadF n, spec_l03TurnF n, spec_l01AbsF n]) ty 69 0 n spec_WorstHeadkp spec_WorstHeadc [1, 1, 0, 1, 0] [] (ending ty 0 Go.Proofs.Try.f64.results.toList spec_WorstHeadrs spec_WorstHeadbs)) (k + 1) { env := [(10, .one (.sc (.int .i64 v10))), (1, .one (.list true (.int .i64) v1)), (3, .one (.ref 0 0 0 0 0 0)), (2, .one (.sc (.int .i64 v2))), (9, .one (.sc (.bool v9)))], bx := [(0, .var 62 [.list true (.int .i16) b0_0, .sc (.int .i64 b0_1), .sc (.int .i64 b0_2)])], nx := 1 } = spec_WorstHead_t3 n (fun k' v13 v1 v11 v2 v12 b0_0 b0_1 b0_2 => iter (interp ([spec_l03OkF n, spec_l03AngleF n, spec_l00InF n, spec_l03HeadF n, spec_l03TurnF n, spec_l01AbsF n]) ty 69 0 n spec_WorstHeadkp (codeAt spec_WorstHeadc [1, 1, 1, 1, 1, 1, 1, 0, 1, 0, 0])) (canon 0 (spec_WorstHeadkp.loop 13)) (kAt ([spec_l03OkF n, spec_l03AngleF n, spec_l00InF n, spec_l03HeadF n, spec_l03TurnF n, spec_l01AbsF n]) ty 69 0 n spec_WorstHeadkp spec_WorstHeadc [1, 1, 1, 1, 1, 1, 1, 0, 1, 0] [] (ending ty 0 Go.Proofs.Try.f64.results.toList spec_WorstHeadrs spec_WorstHeadbs)) k' { env := [(13, .one (.sc (.int .i64 v13))), (1, .one (.list true (.int .i64) v1)), (11, .one (.sc (.int .i64 v11))), (3, .one (.ref 0 0 0 0 0 0)), (2, .one (.sc (.int .i64 v2))), (12, .one (.sc (.int .i64 v12)))], bx := [(0, .var 62 [.list true (.int .i16) b0_0, .sc (.int .i64 b0_1), .sc (.int .i64 b0_2)])], nx := 1 }) (fun v10 v1 v2 v9 b0_0 b0_1 b0_2 => iter (interp ([spec_l03OkF n, spec_l03AngleF n, spec_l00InF n, spec_l03HeadF n, spec_l03TurnF n, spec_l01AbsF n]) ty 69 0 n spec_WorstHeadkp (codeAt spec_WorstHeadc [1, 1, 0, 1, 0, 0])) (canon 0 (spec_WorstHeadkp.loop 3)) (kAt ([spec_l03OkF n, spec_l03AngleF n, spec_l00InF n, spec_l03HeadF n, spec_l03TurnF n, spec_l01AbsF n]) ty 69 0 n spec_WorstHeadkp spec_WorstHeadc [1, 1, 0, 1, 0] [] (ending ty 0 Go.Proofs.Try.f64.results.toList spec_WorstHeadrs spec_WorstHeadbs)) k { env := [(10, .one (.sc (.int .i64 v10))), (1, .one (.list true (.int .i64) v1)), (3, .one (.ref 0 0 0 0 0 0)), (2, .one (.sc (.int .i64 v2))), (9, .one (.sc (.bool v9)))], bx := [(0, .var 62 [.list true (.int .i16) b0_0, .sc (.int .i64 b0_1), .sc (.int .i64 b0_2)])], nx := 1 }) v10 v1 v2 v9 b0_0 b0_1 b0_2 := by kernel_rfl
    rw [h]
    have e := congr (congrArg (fun h13 g => spec_WorstHead_t3 n h13 g v10 v1 v2 v9 b0_0 b0_1 b0_2) (funext fun k' => funext fun v13 => funext fun v1 => funext fun v11 => funext fun v2 => funext fun v12 => funext fun b0_0 => funext fun b0_1 => funext fun b0_2 => spec_WorstHead_l13_eq n k' v13 v1 v11 v2 v12 b0_0 b0_1 b0_2)) (funext fun v10 => funext fun v1 => funext fun v2 => funext fun v9 => funext fun b0_0 => funext fun b0_1 => funext fun b0_2 => spec_WorstHead_l3_eq n k v10 v1 v2 v9 b0_0 b0_1 b0_2)
    exact e

theorem spec_WorstHead_eq (n : Nat) (a0 : (List (Int)) × ((Int) × (Int))) (a1 : List (Int)) (a2 : Int) : runBody ([spec_l03OkF n, spec_l03AngleF n, spec_l00InF n, spec_l03HeadF n, spec_l03TurnF n, spec_l01AbsF n]) ty 69 n spec_WorstHeadkp spec_WorstHeadc Go.Proofs.Try.f64.results.toList spec_WorstHeadrs spec_WorstHeadsp spec_WorstHeadbs (a0, (a1, (a2, ()))) () = spec_WorstHead n a0 a1 a2 := by
  have h : runBody ([spec_l03OkF n, spec_l03AngleF n, spec_l00InF n, spec_l03HeadF n, spec_l03TurnF n, spec_l01AbsF n]) ty 69 n spec_WorstHeadkp spec_WorstHeadc Go.Proofs.Try.f64.results.toList spec_WorstHeadrs spec_WorstHeadsp spec_WorstHeadbs (a0, (a1, (a2, ()))) () = spec_WorstHead_t n (fun k v10 v1 v2 v9 b0_0 b0_1 b0_2 => iter (interp ([spec_l03OkF n, spec_l03AngleF n, spec_l00InF n, spec_l03HeadF n, spec_l03TurnF n, spec_l01AbsF n]) ty 69 0 n spec_WorstHeadkp (codeAt spec_WorstHeadc [1, 1, 0, 1, 0, 0])) (canon 0 (spec_WorstHeadkp.loop 3)) (kAt ([spec_l03OkF n, spec_l03AngleF n, spec_l00InF n, spec_l03HeadF n, spec_l03TurnF n, spec_l01AbsF n]) ty 69 0 n spec_WorstHeadkp spec_WorstHeadc [1, 1, 0, 1, 0] [] (ending ty 0 Go.Proofs.Try.f64.results.toList spec_WorstHeadrs spec_WorstHeadbs)) k { env := [(10, .one (.sc (.int .i64 v10))), (1, .one (.list true (.int .i64) v1)), (3, .one (.ref 0 0 0 0 0 0)), (2, .one (.sc (.int .i64 v2))), (9, .one (.sc (.bool v9)))], bx := [(0, .var 62 [.list true (.int .i16) b0_0, .sc (.int .i64 b0_1), .sc (.int .i64 b0_2)])], nx := 1 }) a0 a1 a2 := by kernel_rfl
  rw [h]
  have e := congrArg (fun h3 => spec_WorstHead_t n h3 a0 a1 a2) (funext fun k => funext fun v10 => funext fun v1 => funext fun v2 => funext fun v9 => funext fun b0_0 => funext fun b0_1 => funext fun b0_2 => spec_WorstHead_l3_eq n k v10 v1 v2 v9 b0_0 b0_1 b0_2)
  exact e

theorem spec_WorstHead_ok (n : Nat) : FunOk P (spec_WorstHeadF n) :=
  funOk_mk (C := [spec_l03OkF n, spec_l03AngleF n, spec_l00InF n, spec_l03HeadF n, spec_l03TurnF n, spec_l01AbsF n]) (N := 69) (kp := spec_WorstHeadkp) (c := spec_WorstHeadc) (n := n) (G := fun x y => spec_WorstHead n x.1 x.2.1 x.2.2.1) follows (AllOk.mem (⟨spec_l03Ok_ok n, ⟨spec_l03Angle_ok n, ⟨spec_l00In_ok n, ⟨spec_l03Head_ok n, ⟨spec_l03Turn_ok n, ⟨spec_l01Abs_ok n, trivial⟩⟩⟩⟩⟩⟩ : AllOk P ([spec_l03OkF n, spec_l03AngleF n, spec_l00InF n, spec_l03HeadF n, spec_l03TurnF n, spec_l01AbsF n]))) (by kernel_rfl : P.funcs[64]? = some Go.Proofs.Try.f64) (by kernel_rfl) (by kernel_rfl) (by kernel_rfl)
    (fun x y => spec_WorstHead_eq n x.1 x.2.1 x.2.2.1) (fun _ _ => map_same (fun _ => rfl) _) (fun _ _ _ _ => rfl)

abbrev spec_A2Hassp : List Sp := [.v false (.list (.int .i64)), .v false (.int .i64)]
abbrev spec_A2Hasbs : List (Bs × Bool) := []
abbrev spec_A2Hasrs : List (Bool × List Rp) := [(false, [.v false .bool])]
noncomputable def spec_A2Haskp : Keep := { loop := fun id => match id with | 2 => ([5, 1, 0], []) | _ => ([], []), join := fun id => match id with | _ => none }
noncomputable def spec_A2Hasc : Code := bodyOf Go.Proofs.Try.f65
noncomputable def spec_A2HasF (n : Nat) : Fun := { id := 65, sp := spec_A2Hassp, bs := spec_A2Hasbs, rs := spec_A2Hasrs, f := fun x y => spec_A2Has n x.1 x.2.1 }

theorem spec_A2Has_l2_eq (n : Nat) : ∀ (k : Nat) (v5 : Int) (v1 : Int) (v0 : List (Int)), iter (interp ([]) ty 18 0 n spec_A2Haskp (codeAt spec_A2Hasc [1, 0, 1, 0, 0])) (canon 0 (spec_A2Haskp.loop 2)) (kAt ([]) ty 18 0 n spec_A2Haskp spec_A2Hasc [1, 0, 1, 0] [] (ending ty 0 Go.Proofs.Try.f65.results.toList spec_A2Hasrs spec_A2Hasbs)) k { env := [(5, .one (.sc (.int .i64 v5))), (1, .one (.sc (.int .i64 v1))), (0, .one (.list true (.int .i64) v0))], bx := [], nx := 0 } = spec_A2Has_l2 n k v5 v1 v0
  | 0, _, _, _ => by kernel_rfl
  | k + 1, v5, v1, v0 => by
    have h : iter (interp ([]) ty 18 0 n spec_A2Haskp (codeAt spec_A2Hasc [1, 0, 1, 0, 0])) (canon 0 (spec_A2Haskp.loop 2)) (kAt ([]) ty 18 0 n spec_A2Haskp spec_A2Hasc [1, 0, 1, 0] [] (ending ty 0 Go.Proofs.Try.f65.results.toList spec_A2Hasrs spec_A2Hasbs)) (k + 1) { env := [(5, .one (.sc (.int .i64 v5))), (1, .one (.sc (.int .i64 v1))), (0, .one (.list true (.int .i64) v0))], bx := [], nx := 0 } = spec_A2Has_t2 n (fun v5 v1 v0 => iter (interp ([]) ty 18 0 n spec_A2Haskp (codeAt spec_A2Hasc [1, 0, 1, 0, 0])) (canon 0 (spec_A2Haskp.loop 2)) (kAt ([]) ty 18 0 n spec_A2Haskp spec_A2Hasc [1, 0, 1, 0] [] (ending ty 0 Go.Proofs.Try.f65.results.toList spec_A2Hasrs spec_A2Hasbs)) k { env := [(5, .one (.sc (.int .i64 v5))), (1, .one (.sc (.int .i64 v1))), (0, .one (.list true (.int .i64) v0))], bx := [], nx := 0 }) v5 v1 v0 := by kernel_rfl
    rw [h]
    have e := congrArg (fun g => spec_A2Has_t2 n g v5 v1 v0) (funext fun v5 => funext fun v1 => funext fun v0 => spec_A2Has_l2_eq n k v5 v1 v0)
    exact e

theorem spec_A2Has_eq (n : Nat) (a0 : List (Int)) (a1 : Int) : runBody ([]) ty 18 n spec_A2Haskp spec_A2Hasc Go.Proofs.Try.f65.results.toList spec_A2Hasrs spec_A2Hassp spec_A2Hasbs (a0, (a1, ())) () = spec_A2Has n a0 a1 := by
  have h : runBody ([]) ty 18 n spec_A2Haskp spec_A2Hasc Go.Proofs.Try.f65.results.toList spec_A2Hasrs spec_A2Hassp spec_A2Hasbs (a0, (a1, ())) () = spec_A2Has_t n (fun k v5 v1 v0 => iter (interp ([]) ty 18 0 n spec_A2Haskp (codeAt spec_A2Hasc [1, 0, 1, 0, 0])) (canon 0 (spec_A2Haskp.loop 2)) (kAt ([]) ty 18 0 n spec_A2Haskp spec_A2Hasc [1, 0, 1, 0] [] (ending ty 0 Go.Proofs.Try.f65.results.toList spec_A2Hasrs spec_A2Hasbs)) k { env := [(5, .one (.sc (.int .i64 v5))), (1, .one (.sc (.int .i64 v1))), (0, .one (.list true (.int .i64) v0))], bx := [], nx := 0 }) a0 a1 := by kernel_rfl
  rw [h]
  have e := congrArg (fun h2 => spec_A2Has_t n h2 a0 a1) (funext fun k => funext fun v5 => funext fun v1 => funext fun v0 => spec_A2Has_l2_eq n k v5 v1 v0)
  exact e

theorem spec_A2Has_ok (n : Nat) : FunOk P (spec_A2HasF n) :=
  funOk_mk (C := []) (N := 18) (kp := spec_A2Haskp) (c := spec_A2Hasc) (n := n) (G := fun x y => spec_A2Has n x.1 x.2.1) follows (AllOk.mem (trivial : AllOk P ([]))) (by kernel_rfl : P.funcs[65]? = some Go.Proofs.Try.f65) (by kernel_rfl) (by kernel_rfl) (by kernel_rfl)
    (fun x y => spec_A2Has_eq n x.1 x.2.1) (fun _ _ => map_same (fun _ => rfl) _) (fun _ _ _ _ => rfl)

abbrev laws_FnHeadssp : List Sp := [.v false (.list (.int .u8)), .v false (.list (.int .u8))]
abbrev laws_FnHeadsbs : List (Bs × Bool) := []
abbrev laws_FnHeadsrs : List (Bool × List Rp) := [(false, [.v false .bool])]
noncomputable def laws_FnHeadskp : Keep := { loop := fun id => match id with | _ => ([], []), join := fun id => match id with | _ => none }
noncomputable def laws_FnHeadsc : Code := bodyOf Go.Proofs.Try.f8
noncomputable def laws_FnHeadsF (n : Nat) : Fun := { id := 8, sp := laws_FnHeadssp, bs := laws_FnHeadsbs, rs := laws_FnHeadsrs, f := fun x y => laws_FnHeads n x.1 x.2.1 }

theorem laws_FnHeads_eq (n : Nat) (a0 : List (Int)) (a1 : List (Int)) : runBody ([laws_a2LongF n, spec_A2DiskF n, spec_A2AngleF n, laws_a2AtF n, impl_ReadHeadF n, spec_ReadHeadF n, spec_FaultAtF n, spec_SwingAtF n, spec_TurnFromF n, spec_AddFracsF n, spec_SubFracsF n, impl_CompareFracsF n, impl_ReadTwoF n, spec_ReadTwoF n, impl_MeanOfTwoF n, impl_WorstHeadF n, spec_WorstHeadF n, spec_A2HasF n]) ty 301 n laws_FnHeadskp laws_FnHeadsc Go.Proofs.Try.f8.results.toList laws_FnHeadsrs laws_FnHeadssp laws_FnHeadsbs (a0, (a1, ())) () = laws_FnHeads n a0 a1 := by
  have h : runBody ([laws_a2LongF n, spec_A2DiskF n, spec_A2AngleF n, laws_a2AtF n, impl_ReadHeadF n, spec_ReadHeadF n, spec_FaultAtF n, spec_SwingAtF n, spec_TurnFromF n, spec_AddFracsF n, spec_SubFracsF n, impl_CompareFracsF n, impl_ReadTwoF n, spec_ReadTwoF n, impl_MeanOfTwoF n, impl_WorstHeadF n, spec_WorstHeadF n, spec_A2HasF n]) ty 301 n laws_FnHeadskp laws_FnHeadsc Go.Proofs.Try.f8.results.toList laws_FnHeadsrs laws_FnHeadssp laws_FnHeadsbs (a0, (a1, ())) () = laws_FnHeads_t n a0 a1 := by kernel_rfl
  rw [h]
  rfl

theorem laws_FnHeads_ok (n : Nat) : FunOk P (laws_FnHeadsF n) :=
  funOk_mk (C := [laws_a2LongF n, spec_A2DiskF n, spec_A2AngleF n, laws_a2AtF n, impl_ReadHeadF n, spec_ReadHeadF n, spec_FaultAtF n, spec_SwingAtF n, spec_TurnFromF n, spec_AddFracsF n, spec_SubFracsF n, impl_CompareFracsF n, impl_ReadTwoF n, spec_ReadTwoF n, impl_MeanOfTwoF n, impl_WorstHeadF n, spec_WorstHeadF n, spec_A2HasF n]) (N := 301) (kp := laws_FnHeadskp) (c := laws_FnHeadsc) (n := n) (G := fun x y => laws_FnHeads n x.1 x.2.1) follows (AllOk.mem (⟨laws_a2Long_ok n, ⟨spec_A2Disk_ok n, ⟨spec_A2Angle_ok n, ⟨laws_a2At_ok n, ⟨impl_ReadHead_ok n, ⟨spec_ReadHead_ok n, ⟨spec_FaultAt_ok n, ⟨spec_SwingAt_ok n, ⟨spec_TurnFrom_ok n, ⟨spec_AddFracs_ok n, ⟨spec_SubFracs_ok n, ⟨impl_CompareFracs_ok n, ⟨impl_ReadTwo_ok n, ⟨spec_ReadTwo_ok n, ⟨impl_MeanOfTwo_ok n, ⟨impl_WorstHead_ok n, ⟨spec_WorstHead_ok n, ⟨spec_A2Has_ok n, trivial⟩⟩⟩⟩⟩⟩⟩⟩⟩⟩⟩⟩⟩⟩⟩⟩⟩⟩ : AllOk P ([laws_a2LongF n, spec_A2DiskF n, spec_A2AngleF n, laws_a2AtF n, impl_ReadHeadF n, spec_ReadHeadF n, spec_FaultAtF n, spec_SwingAtF n, spec_TurnFromF n, spec_AddFracsF n, spec_SubFracsF n, impl_CompareFracsF n, impl_ReadTwoF n, spec_ReadTwoF n, impl_MeanOfTwoF n, impl_WorstHeadF n, spec_WorstHeadF n, spec_A2HasF n]))) (by kernel_rfl : P.funcs[8]? = some Go.Proofs.Try.f8) (by kernel_rfl) (by kernel_rfl) (by kernel_rfl)
    (fun x y => laws_FnHeads_eq n x.1 x.2.1) (fun _ _ => map_same (fun _ => rfl) _) (fun _ _ _ _ => rfl)

end Go.Abs
