import Derived.Test.YtbdbfoffekcjoaaDShareWhole0
import Derived.Test.YtbdbfoffekcjoaaProg
import Derived.Test.YtbdbfoffekcjoaaRow
import Derived.KernelRfl
namespace Go.Abs
open Go.Proofs
set_option maxRecDepth 100000
set_option linter.unusedVariables false

noncomputable abbrev P : Program := Try.prog
noncomputable abbrev ty : Nat → Option TyI := tyOf P
def bodyOf (f : Func) : Code := match f.body with | some c => c | none => .skip
theorem follows : P.follows .mixedOrders = true := by kernel_rfl

abbrev laws_toInt64Ssp : List Sp := [.v false (.list (.int .i64))]
abbrev laws_toInt64Sbs : List (Bs × Bool) := []
abbrev laws_toInt64Srs : List (Bool × List Rp) := [(false, [.new  (.int .i64)])]
noncomputable def laws_toInt64Skp : Keep := { loop := fun id => match id with | 3 => [4, 0, 3] | _ => [], join := fun id => match id with | _ => none }
noncomputable def laws_toInt64Sc : Code := bodyOf Go.Proofs.Try.f16
noncomputable def laws_toInt64SF (n : Nat) : Fun := { id := 16, sp := laws_toInt64Ssp, bs := laws_toInt64Sbs, rs := laws_toInt64Srs, f := fun x y => laws_toInt64S n x.1 }

theorem laws_toInt64S_l3_eq (n : Nat) : ∀ (k : Nat) (v4 : Int) (v0 : List (Int)) (b0 : List (Int)), iter (interp ([]) ty 22 0 n laws_toInt64Skp (codeAt laws_toInt64Sc [1, 1, 0, 1, 0, 0])) (canon 0 (laws_toInt64Skp.loop 3)) (kAt ([]) ty 22 0 n laws_toInt64Skp laws_toInt64Sc [1, 1, 0, 1, 0] [] (ending ty 0 Go.Proofs.Try.f16.results.toList laws_toInt64Srs laws_toInt64Sbs)) k { env := [(4, .one (.sc (.int .i64 v4))), (0, .one (.list true (.int .i64) v0)), (3, .one (.slice 0 0 none))], bx := [(0, .row 0 (.int .i64) b0)], nx := 1 } = laws_toInt64S_l3 n k v4 v0 b0
  | 0, _, _, _ => by kernel_rfl
  | k + 1, v4, v0, b0 => by
    have h : iter (interp ([]) ty 22 0 n laws_toInt64Skp (codeAt laws_toInt64Sc [1, 1, 0, 1, 0, 0])) (canon 0 (laws_toInt64Skp.loop 3)) (kAt ([]) ty 22 0 n laws_toInt64Skp laws_toInt64Sc [1, 1, 0, 1, 0] [] (ending ty 0 Go.Proofs.Try.f16.results.toList laws_toInt64Srs laws_toInt64Sbs)) (k + 1) { env := [(4, .one (.sc (.int .i64 v4))), (0, .one (.list true (.int .i64) v0)), (3, .one (.slice 0 0 none))], bx := [(0, .row 0 (.int .i64) b0)], nx := 1 } = laws_toInt64S_t3 n (fun v4 v0 b0 => iter (interp ([]) ty 22 0 n laws_toInt64Skp (codeAt laws_toInt64Sc [1, 1, 0, 1, 0, 0])) (canon 0 (laws_toInt64Skp.loop 3)) (kAt ([]) ty 22 0 n laws_toInt64Skp laws_toInt64Sc [1, 1, 0, 1, 0] [] (ending ty 0 Go.Proofs.Try.f16.results.toList laws_toInt64Srs laws_toInt64Sbs)) k { env := [(4, .one (.sc (.int .i64 v4))), (0, .one (.list true (.int .i64) v0)), (3, .one (.slice 0 0 none))], bx := [(0, .row 0 (.int .i64) b0)], nx := 1 }) v4 v0 b0 := by kernel_rfl
    rw [h]
    have e := congrArg (fun g => laws_toInt64S_t3 n g v4 v0 b0) (funext fun v4 => funext fun v0 => funext fun b0 => laws_toInt64S_l3_eq n k v4 v0 b0)
    exact e

theorem laws_toInt64S_eq (n : Nat) (a0 : List (Int)) : runBody ([]) ty 22 n laws_toInt64Skp laws_toInt64Sc Go.Proofs.Try.f16.results.toList laws_toInt64Srs laws_toInt64Ssp laws_toInt64Sbs (a0, ()) () = laws_toInt64S n a0 := by
  have h : runBody ([]) ty 22 n laws_toInt64Skp laws_toInt64Sc Go.Proofs.Try.f16.results.toList laws_toInt64Srs laws_toInt64Ssp laws_toInt64Sbs (a0, ()) () = laws_toInt64S_t n (fun k v4 v0 b0 => iter (interp ([]) ty 22 0 n laws_toInt64Skp (codeAt laws_toInt64Sc [1, 1, 0, 1, 0, 0])) (canon 0 (laws_toInt64Skp.loop 3)) (kAt ([]) ty 22 0 n laws_toInt64Skp laws_toInt64Sc [1, 1, 0, 1, 0] [] (ending ty 0 Go.Proofs.Try.f16.results.toList laws_toInt64Srs laws_toInt64Sbs)) k { env := [(4, .one (.sc (.int .i64 v4))), (0, .one (.list true (.int .i64) v0)), (3, .one (.slice 0 0 none))], bx := [(0, .row 0 (.int .i64) b0)], nx := 1 }) a0 := by kernel_rfl
  rw [h]
  have e := congrArg (fun h3 => laws_toInt64S_t n h3 a0) (funext fun k => funext fun v4 => funext fun v0 => funext fun b0 => laws_toInt64S_l3_eq n k v4 v0 b0)
  exact e

theorem laws_toInt64S_ok (n : Nat) : FunOk P (laws_toInt64SF n) :=
  funOk_mk (C := []) (N := 22) (kp := laws_toInt64Skp) (c := laws_toInt64Sc) (n := n) (G := fun x y => laws_toInt64S n x.1) follows (AllOk.mem (trivial : AllOk P ([]))) (by kernel_rfl : P.funcs[16]? = some Go.Proofs.Try.f16) (by kernel_rfl) (by kernel_rfl) (by kernel_rfl)
    (fun x y => laws_toInt64S_eq n x.1) (fun _ _ => map_same (fun _ => rfl) _) (fun _ _ _ _ => rfl)

abbrev spec_l00Insp : List Sp := [.v false (.int .i64), .v false (.int .i64), .v false (.int .i64)]
abbrev spec_l00Inbs : List (Bs × Bool) := []
abbrev spec_l00Inrs : List (Bool × List Rp) := [(false, [.v false .bool])]
noncomputable def spec_l00Inkp : Keep := { loop := fun id => match id with | _ => [], join := fun id => match id with | _ => none }
noncomputable def spec_l00Inc : Code := bodyOf Go.Proofs.Try.f66
noncomputable def spec_l00InF (n : Nat) : Fun := { id := 66, sp := spec_l00Insp, bs := spec_l00Inbs, rs := spec_l00Inrs, f := fun x y => spec_l00In n x.1 x.2.1 x.2.2.1 }

theorem spec_l00In_eq (n : Nat) (a0 : Int) (a1 : Int) (a2 : Int) : runBody ([]) ty 15 n spec_l00Inkp spec_l00Inc Go.Proofs.Try.f66.results.toList spec_l00Inrs spec_l00Insp spec_l00Inbs (a0, (a1, (a2, ()))) () = spec_l00In n a0 a1 a2 := by
  have h : runBody ([]) ty 15 n spec_l00Inkp spec_l00Inc Go.Proofs.Try.f66.results.toList spec_l00Inrs spec_l00Insp spec_l00Inbs (a0, (a1, (a2, ()))) () = spec_l00In_t n a0 a1 a2 := by kernel_rfl
  rw [h]
  rfl

theorem spec_l00In_ok (n : Nat) : FunOk P (spec_l00InF n) :=
  funOk_mk (C := []) (N := 15) (kp := spec_l00Inkp) (c := spec_l00Inc) (n := n) (G := fun x y => spec_l00In n x.1 x.2.1 x.2.2.1) follows (AllOk.mem (trivial : AllOk P ([]))) (by kernel_rfl : P.funcs[66]? = some Go.Proofs.Try.f66) (by kernel_rfl) (by kernel_rfl) (by kernel_rfl)
    (fun x y => spec_l00In_eq n x.1 x.2.1 x.2.2.1) (fun _ _ => map_same (fun _ => rfl) _) (fun _ _ _ _ => rfl)

abbrev spec_l01Downsp : List Sp := [.v false (.int .i64), .v false (.int .i64)]
abbrev spec_l01Downbs : List (Bs × Bool) := []
abbrev spec_l01Downrs : List (Bool × List Rp) := [(false, [.v false (.int .i64)])]
noncomputable def spec_l01Downkp : Keep := { loop := fun id => match id with | _ => [], join := fun id => match id with | _ => none }
noncomputable def spec_l01Downc : Code := bodyOf Go.Proofs.Try.f67
noncomputable def spec_l01DownF (n : Nat) : Fun := { id := 67, sp := spec_l01Downsp, bs := spec_l01Downbs, rs := spec_l01Downrs, f := fun x y => spec_l01Down n x.1 x.2.1 }

theorem spec_l01Down_eq (n : Nat) (a0 : Int) (a1 : Int) : runBody ([]) ty 16 n spec_l01Downkp spec_l01Downc Go.Proofs.Try.f67.results.toList spec_l01Downrs spec_l01Downsp spec_l01Downbs (a0, (a1, ())) () = spec_l01Down n a0 a1 := by
  have h : runBody ([]) ty 16 n spec_l01Downkp spec_l01Downc Go.Proofs.Try.f67.results.toList spec_l01Downrs spec_l01Downsp spec_l01Downbs (a0, (a1, ())) () = spec_l01Down_t n a0 a1 := by kernel_rfl
  rw [h]
  rfl

theorem spec_l01Down_ok (n : Nat) : FunOk P (spec_l01DownF n) :=
  funOk_mk (C := []) (N := 16) (kp := spec_l01Downkp) (c := spec_l01Downc) (n := n) (G := fun x y => spec_l01Down n x.1 x.2.1) follows (AllOk.mem (trivial : AllOk P ([]))) (by kernel_rfl : P.funcs[67]? = some Go.Proofs.Try.f67) (by kernel_rfl) (by kernel_rfl) (by kernel_rfl)
    (fun x y => spec_l01Down_eq n x.1 x.2.1) (fun _ _ => map_same (fun _ => rfl) _) (fun _ _ _ _ => rfl)

abbrev spec_ShareWholesp : List Sp := [.v false (.list (.int .i64)), .v false (.int .i64)]
abbrev spec_ShareWholebs : List (Bs × Bool) := []
abbrev spec_ShareWholers : List (Bool × List Rp) := [(false, [.new  (.int .i64)]), (false, [.v false (.int .i64)])]
noncomputable def spec_ShareWholekp : Keep := { loop := fun id => match id with | 4 => [8, 0, 6, 1, 7] | 11 => [10, 0, 9, 6] | 17 => [13, 12, 6, 11, 9, 0] | _ => [], join := fun id => match id with | _ => none }
noncomputable def spec_ShareWholec : Code := bodyOf Go.Proofs.Try.f15
noncomputable def spec_ShareWholeF (n : Nat) : Fun := { id := 15, sp := spec_ShareWholesp, bs := spec_ShareWholebs, rs := spec_ShareWholers, f := fun x y => spec_ShareWhole n x.1 x.2.1 }

theorem spec_ShareWhole_l17_eq (n : Nat) : ∀ (k : Nat) (v13 : Int) (v6 : Int) (v11 : Int) (v9 : Int) (v0 : List (Int)) (b0 : List (Int)), iter (interp ([spec_l00InF n, spec_l01DownF n]) ty 83 0 n spec_ShareWholekp (codeAt spec_ShareWholec [1, 1, 1, 1, 1, 1, 1, 1, 1, 0, 1, 0, 0])) (canon 0 (spec_ShareWholekp.loop 17)) (kAt ([spec_l00InF n, spec_l01DownF n]) ty 83 0 n spec_ShareWholekp spec_ShareWholec [1, 1, 1, 1, 1, 1, 1, 1, 1, 0, 1, 0] [] (ending ty 0 Go.Proofs.Try.f15.results.toList spec_ShareWholers spec_ShareWholebs)) k { env := [(13, .one (.sc (.int .i64 v13))), (12, .one (.slice 0 0 none)), (6, .one (.sc (.int .i64 v6))), (11, .one (.sc (.int .i64 v11))), (9, .one (.sc (.int .i64 v9))), (0, .one (.list true (.int .i64) v0))], bx := [(0, .row 0 (.int .i64) b0)], nx := 1 } = spec_ShareWhole_l17 n k v13 v6 v11 v9 v0 b0
  | 0, _, _, _, _, _, _ => by kernel_rfl
  | k + 1, v13, v6, v11, v9, v0, b0 => by
    have h : iter (interp ([spec_l00InF n, spec_l01DownF n]) ty 83 0 n spec_ShareWholekp (codeAt spec_ShareWholec [1, 1, 1, 1, 1, 1, 1, 1, 1, 0, 1, 0, 0])) (canon 0 (spec_ShareWholekp.loop 17)) (kAt ([spec_l00InF n, spec_l01DownF n]) ty 83 0 n spec_ShareWholekp spec_ShareWholec [1, 1, 1, 1, 1, 1, 1, 1, 1, 0, 1, 0] [] (ending ty 0 Go.Proofs.Try.f15.results.toList spec_ShareWholers spec_ShareWholebs)) (k + 1) { env := [(13, .one (.sc (.int .i64 v13))), (12, .one (.slice 0 0 none)), (6, .one (.sc (.int .i64 v6))), (11, .one (.sc (.int .i64 v11))), (9, .one (.sc (.int .i64 v9))), (0, .one (.list true (.int .i64) v0))], bx := [(0, .row 0 (.int .i64) b0)], nx := 1 } = spec_ShareWhole_t17 n (fun v13 v6 v11 v9 v0 b0 => iter (interp ([spec_l00InF n, spec_l01DownF n]) ty 83 0 n spec_ShareWholekp (codeAt spec_ShareWholec [1, 1, 1, 1, 1, 1, 1, 1, 1, 0, 1, 0, 0])) (canon 0 (spec_ShareWholekp.loop 17)) (kAt ([spec_l00InF n, spec_l01DownF n]) ty 83 0 n spec_ShareWholekp spec_ShareWholec [1, 1, 1, 1, 1, 1, 1, 1, 1, 0, 1, 0] [] (ending ty 0 Go.Proofs.Try.f15.results.toList spec_ShareWholers spec_ShareWholebs)) k { env := [(13, .one (.sc (.int .i64 v13))), (12, .one (.slice 0 0 none)), (6, .one (.sc (.int .i64 v6))), (11, .one (.sc (.int .i64 v11))), (9, .one (.sc (.int .i64 v9))), (0, .one (.list true (.int .i64) v0))], bx := [(0, .row 0 (.int .i64) b0)], nx := 1 }) v13 v6 v11 v9 v0 b0 := by kernel_rfl
    rw [h]
    have e := congrArg (fun g => spec_ShareWhole_t17 n g v13 v6 v11 v9 v0 b0) (funext fun v13 => funext fun v6 => funext fun v11 => funext fun v9 => funext fun v0 => funext fun b0 => spec_ShareWhole_l17_eq n k v13 v6 v11 v9 v0 b0)
    exact e

theorem spec_ShareWhole_l11_eq (n : Nat) : ∀ (k : Nat) (v10 : Int) (v0 : List (Int)) (v9 : Int) (v6 : Int), iter (interp ([spec_l00InF n, spec_l01DownF n]) ty 83 0 n spec_ShareWholekp (codeAt spec_ShareWholec [1, 1, 1, 1, 1, 1, 0, 1, 0, 0])) (canon 0 (spec_ShareWholekp.loop 11)) (kAt ([spec_l00InF n, spec_l01DownF n]) ty 83 0 n spec_ShareWholekp spec_ShareWholec [1, 1, 1, 1, 1, 1, 0, 1, 0] [] (ending ty 0 Go.Proofs.Try.f15.results.toList spec_ShareWholers spec_ShareWholebs)) k { env := [(10, .one (.sc (.int .i64 v10))), (0, .one (.list true (.int .i64) v0)), (9, .one (.sc (.int .i64 v9))), (6, .one (.sc (.int .i64 v6)))], bx := [], nx := 0 } = spec_ShareWhole_l11 n k v10 v0 v9 v6
  | 0, _, _, _, _ => by kernel_rfl
  | k + 1, v10, v0, v9, v6 => by
    have h : iter (interp ([spec_l00InF n, spec_l01DownF n]) ty 83 0 n spec_ShareWholekp (codeAt spec_ShareWholec [1, 1, 1, 1, 1, 1, 0, 1, 0, 0])) (canon 0 (spec_ShareWholekp.loop 11)) (kAt ([spec_l00InF n, spec_l01DownF n]) ty 83 0 n spec_ShareWholekp spec_ShareWholec [1, 1, 1, 1, 1, 1, 0, 1, 0] [] (ending ty 0 Go.Proofs.Try.f15.results.toList spec_ShareWholers spec_ShareWholebs)) (k + 1) { env := [(10, .one (.sc (.int .i64 v10))), (0, .one (.list true (.int .i64) v0)), (9, .one (.sc (.int .i64 v9))), (6, .one (.sc (.int .i64 v6)))], bx := [], nx := 0 } = spec_ShareWhole_t11 n (fun k' v13 v6 v11 v9 v0 b0 => iter (interp ([spec_l00InF n, spec_l01DownF n]) ty 83 0 n spec_ShareWholekp (codeAt spec_ShareWholec [1, 1, 1, 1, 1, 1, 1, 1, 1, 0, 1, 0, 0])) (canon 0 (spec_ShareWholekp.loop 17)) (kAt ([spec_l00InF n, spec_l01DownF n]) ty 83 0 n spec_ShareWholekp spec_ShareWholec [1, 1, 1, 1, 1, 1, 1, 1, 1, 0, 1, 0] [] (ending ty 0 Go.Proofs.Try.f15.results.toList spec_ShareWholers spec_ShareWholebs)) k' { env := [(13, .one (.sc (.int .i64 v13))), (12, .one (.slice 0 0 none)), (6, .one (.sc (.int .i64 v6))), (11, .one (.sc (.int .i64 v11))), (9, .one (.sc (.int .i64 v9))), (0, .one (.list true (.int .i64) v0))], bx := [(0, .row 0 (.int .i64) b0)], nx := 1 }) (fun v10 v0 v9 v6 => iter (interp ([spec_l00InF n, spec_l01DownF n]) ty 83 0 n spec_ShareWholekp (codeAt spec_ShareWholec [1, 1, 1, 1, 1, 1, 0, 1, 0, 0])) (canon 0 (spec_ShareWholekp.loop 11)) (kAt ([spec_l00InF n, spec_l01DownF n]) ty 83 0 n spec_ShareWholekp spec_ShareWholec [1, 1, 1, 1, 1, 1, 0, 1, 0] [] (ending ty 0 Go.Proofs.Try.f15.results.toList spec_ShareWholers spec_ShareWholebs)) k { env := [(10, .one (.sc (.int .i64 v10))), (0, .one (.list true (.int .i64) v0)), (9, .one (.sc (.int .i64 v9))), (6, .one (.sc (.int .i64 v6)))], bx := [], nx := 0 }) v10 v0 v9 v6 := by kernel_rfl
    rw [h]
    have e := congr (congrArg (fun h17 g => spec_ShareWhole_t11 n h17 g v10 v0 v9 v6) ((funext fun k' => funext fun v13 => funext fun v6 => funext fun v11 => funext fun v9 => funext fun v0 => funext fun b0 => spec_ShareWhole_l17_eq n k' v13 v6 v11 v9 v0 b0).trans (congrArg (fun z => spec_ShareWhole_l17 n) (funext fun v10 => funext fun v0 => funext fun v9 => funext fun v6 => spec_ShareWhole_l11_eq n k v10 v0 v9 v6)))) (funext fun v10 => funext fun v0 => funext fun v9 => funext fun v6 => spec_ShareWhole_l11_eq n k v10 v0 v9 v6)
    exact e

theorem spec_ShareWhole_l4_eq (n : Nat) : ∀ (k : Nat) (v8 : Int) (v0 : List (Int)) (v6 : Int) (v1 : Int) (v7 : Bool), iter (interp ([spec_l00InF n, spec_l01DownF n]) ty 83 0 n spec_ShareWholekp (codeAt spec_ShareWholec [1, 1, 1, 0, 1, 0, 0])) (canon 0 (spec_ShareWholekp.loop 4)) (kAt ([spec_l00InF n, spec_l01DownF n]) ty 83 0 n spec_ShareWholekp spec_ShareWholec [1, 1, 1, 0, 1, 0] [] (ending ty 0 Go.Proofs.Try.f15.results.toList spec_ShareWholers spec_ShareWholebs)) k { env := [(8, .one (.sc (.int .i64 v8))), (0, .one (.list true (.int .i64) v0)), (6, .one (.sc (.int .i64 v6))), (1, .one (.sc (.int .i64 v1))), (7, .one (.sc (.bool v7)))], bx := [], nx := 0 } = spec_ShareWhole_l4 n k v8 v0 v6 v1 v7
  | 0, _, _, _, _, _ => by kernel_rfl
  | k + 1, v8, v0, v6, v1, v7 => by
    have h : iter (interp ([spec_l00InF n, spec_l01DownF n]) ty 83 0 n spec_ShareWholekp (codeAt spec_ShareWholec [1, 1, 1, 0, 1, 0, 0])) (canon 0 (spec_ShareWholekp.loop 4)) (kAt ([spec_l00InF n, spec_l01DownF n]) ty 83 0 n spec_ShareWholekp spec_ShareWholec [1, 1, 1, 0, 1, 0] [] (ending ty 0 Go.Proofs.Try.f15.results.toList spec_ShareWholers spec_ShareWholebs)) (k + 1) { env := [(8, .one (.sc (.int .i64 v8))), (0, .one (.list true (.int .i64) v0)), (6, .one (.sc (.int .i64 v6))), (1, .one (.sc (.int .i64 v1))), (7, .one (.sc (.bool v7)))], bx := [], nx := 0 } = spec_ShareWhole_t4 n (fun k' v10 v0 v9 v6 => iter (interp ([spec_l00InF n, spec_l01DownF n]) ty 83 0 n spec_ShareWholekp (codeAt spec_ShareWholec [1, 1, 1, 1, 1, 1, 0, 1, 0, 0])) (canon 0 (spec_ShareWholekp.loop 11)) (kAt ([spec_l00InF n, spec_l01DownF n]) ty 83 0 n spec_ShareWholekp spec_ShareWholec [1, 1, 1, 1, 1, 1, 0, 1, 0] [] (ending ty 0 Go.Proofs.Try.f15.results.toList spec_ShareWholers spec_ShareWholebs)) k' { env := [(10, .one (.sc (.int .i64 v10))), (0, .one (.list true (.int .i64) v0)), (9, .one (.sc (.int .i64 v9))), (6, .one (.sc (.int .i64 v6)))], bx := [], nx := 0 }) (fun v8 v0 v6 v1 v7 => iter (interp ([spec_l00InF n, spec_l01DownF n]) ty 83 0 n spec_ShareWholekp (codeAt spec_ShareWholec [1, 1, 1, 0, 1, 0, 0])) (canon 0 (spec_ShareWholekp.loop 4)) (kAt ([spec_l00InF n, spec_l01DownF n]) ty 83 0 n spec_ShareWholekp spec_ShareWholec [1, 1, 1, 0, 1, 0] [] (ending ty 0 Go.Proofs.Try.f15.results.toList spec_ShareWholers spec_ShareWholebs)) k { env := [(8, .one (.sc (.int .i64 v8))), (0, .one (.list true (.int .i64) v0)), (6, .one (.sc (.int .i64 v6))), (1, .one (.sc (.int .i64 v1))), (7, .one (.sc (.bool v7)))], bx := [], nx := 0 }) v8 v0 v6 v1 v7 := by kernel_rfl
    rw [h]
    have e := congr (congrArg (fun h11 g => spec_ShareWhole_t4 n h11 g v8 v0 v6 v1 v7) ((funext fun k' => funext fun v10 => funext fun v0 => funext fun v9 => funext fun v6 => spec_ShareWhole_l11_eq n k' v10 v0 v9 v6).trans (congrArg (fun z => spec_ShareWhole_l11 n) (funext fun v8 => funext fun v0 => funext fun v6 => funext fun v1 => funext fun v7 => spec_ShareWhole_l4_eq n k v8 v0 v6 v1 v7)))) (funext fun v8 => funext fun v0 => funext fun v6 => funext fun v1 => funext fun v7 => spec_ShareWhole_l4_eq n k v8 v0 v6 v1 v7)
    exact e

theorem spec_ShareWhole_eq (n : Nat) (a0 : List (Int)) (a1 : Int) : runBody ([spec_l00InF n, spec_l01DownF n]) ty 83 n spec_ShareWholekp spec_ShareWholec Go.Proofs.Try.f15.results.toList spec_ShareWholers spec_ShareWholesp spec_ShareWholebs (a0, (a1, ())) () = spec_ShareWhole n a0 a1 := by
  have h : runBody ([spec_l00InF n, spec_l01DownF n]) ty 83 n spec_ShareWholekp spec_ShareWholec Go.Proofs.Try.f15.results.toList spec_ShareWholers spec_ShareWholesp spec_ShareWholebs (a0, (a1, ())) () = spec_ShareWhole_t n (fun k v8 v0 v6 v1 v7 => iter (interp ([spec_l00InF n, spec_l01DownF n]) ty 83 0 n spec_ShareWholekp (codeAt spec_ShareWholec [1, 1, 1, 0, 1, 0, 0])) (canon 0 (spec_ShareWholekp.loop 4)) (kAt ([spec_l00InF n, spec_l01DownF n]) ty 83 0 n spec_ShareWholekp spec_ShareWholec [1, 1, 1, 0, 1, 0] [] (ending ty 0 Go.Proofs.Try.f15.results.toList spec_ShareWholers spec_ShareWholebs)) k { env := [(8, .one (.sc (.int .i64 v8))), (0, .one (.list true (.int .i64) v0)), (6, .one (.sc (.int .i64 v6))), (1, .one (.sc (.int .i64 v1))), (7, .one (.sc (.bool v7)))], bx := [], nx := 0 }) a0 a1 := by kernel_rfl
  rw [h]
  have e := congrArg (fun h4 => spec_ShareWhole_t n h4 a0 a1) (funext fun k => funext fun v8 => funext fun v0 => funext fun v6 => funext fun v1 => funext fun v7 => spec_ShareWhole_l4_eq n k v8 v0 v6 v1 v7)
  exact e

theorem spec_ShareWhole_ok (n : Nat) : FunOk P (spec_ShareWholeF n) :=
  funOk_mk (C := [spec_l00InF n, spec_l01DownF n]) (N := 83) (kp := spec_ShareWholekp) (c := spec_ShareWholec) (n := n) (G := fun x y => spec_ShareWhole n x.1 x.2.1) follows (AllOk.mem (⟨spec_l00In_ok n, ⟨spec_l01Down_ok n, trivial⟩⟩ : AllOk P ([spec_l00InF n, spec_l01DownF n]))) (by kernel_rfl : P.funcs[15]? = some Go.Proofs.Try.f15) (by kernel_rfl) (by kernel_rfl) (by kernel_rfl)
    (fun x y => spec_ShareWhole_eq n x.1 x.2.1) (fun _ _ => map_same (fun _ => rfl) _) (fun _ _ _ _ => rfl)

abbrev impl_withinsp : List Sp := [.v false (.int .i64), .v false (.int .i64), .v false (.int .i64)]
abbrev impl_withinbs : List (Bs × Bool) := []
abbrev impl_withinrs : List (Bool × List Rp) := [(false, [.v false .bool])]
noncomputable def impl_withinkp : Keep := { loop := fun id => match id with | _ => [], join := fun id => match id with | _ => none }
noncomputable def impl_withinc : Code := bodyOf Go.Proofs.Try.f70
noncomputable def impl_withinF (n : Nat) : Fun := { id := 70, sp := impl_withinsp, bs := impl_withinbs, rs := impl_withinrs, f := fun x y => impl_within n x.1 x.2.1 x.2.2.1 }

theorem impl_within_eq (n : Nat) (a0 : Int) (a1 : Int) (a2 : Int) : runBody ([]) ty 15 n impl_withinkp impl_withinc Go.Proofs.Try.f70.results.toList impl_withinrs impl_withinsp impl_withinbs (a0, (a1, (a2, ()))) () = impl_within n a0 a1 a2 := by
  have h : runBody ([]) ty 15 n impl_withinkp impl_withinc Go.Proofs.Try.f70.results.toList impl_withinrs impl_withinsp impl_withinbs (a0, (a1, (a2, ()))) () = impl_within_t n a0 a1 a2 := by kernel_rfl
  rw [h]
  rfl

theorem impl_within_ok (n : Nat) : FunOk P (impl_withinF n) :=
  funOk_mk (C := []) (N := 15) (kp := impl_withinkp) (c := impl_withinc) (n := n) (G := fun x y => impl_within n x.1 x.2.1 x.2.2.1) follows (AllOk.mem (trivial : AllOk P ([]))) (by kernel_rfl : P.funcs[70]? = some Go.Proofs.Try.f70) (by kernel_rfl) (by kernel_rfl) (by kernel_rfl)
    (fun x y => impl_within_eq n x.1 x.2.1 x.2.2.1) (fun _ _ => map_same (fun _ => rfl) _) (fun _ _ _ _ => rfl)

abbrev impl_ShareWhole_1sp : List Sp := [.v false (.int .i64)]
abbrev impl_ShareWhole_1bs : List (Bs × Bool) := []
abbrev impl_ShareWhole_1rs : List (Bool × List Rp) := [(false, [.v false .bool])]
noncomputable def impl_ShareWhole_1kp : Keep := { loop := fun id => match id with | _ => [], join := fun id => match id with | _ => none }
noncomputable def impl_ShareWhole_1c : Code := bodyOf Go.Proofs.Try.f69
noncomputable def impl_ShareWhole_1F (n : Nat) : Fun := { id := 69, sp := impl_ShareWhole_1sp, bs := impl_ShareWhole_1bs, rs := impl_ShareWhole_1rs, f := fun x y => impl_ShareWhole_1 n x.1 }

theorem impl_ShareWhole_1_eq (n : Nat) (a0 : Int) : runBody ([impl_withinF n]) ty 6 n impl_ShareWhole_1kp impl_ShareWhole_1c Go.Proofs.Try.f69.results.toList impl_ShareWhole_1rs impl_ShareWhole_1sp impl_ShareWhole_1bs (a0, ()) () = impl_ShareWhole_1 n a0 := by
  have h : runBody ([impl_withinF n]) ty 6 n impl_ShareWhole_1kp impl_ShareWhole_1c Go.Proofs.Try.f69.results.toList impl_ShareWhole_1rs impl_ShareWhole_1sp impl_ShareWhole_1bs (a0, ()) () = impl_ShareWhole_1_t n a0 := by kernel_rfl
  rw [h]
  rfl

theorem impl_ShareWhole_1_ok (n : Nat) : FunOk P (impl_ShareWhole_1F n) :=
  funOk_mk (C := [impl_withinF n]) (N := 6) (kp := impl_ShareWhole_1kp) (c := impl_ShareWhole_1c) (n := n) (G := fun x y => impl_ShareWhole_1 n x.1) follows (AllOk.mem (⟨impl_within_ok n, trivial⟩ : AllOk P ([impl_withinF n]))) (by kernel_rfl : P.funcs[69]? = some Go.Proofs.Try.f69) (by kernel_rfl) (by kernel_rfl) (by kernel_rfl)
    (fun x y => impl_ShareWhole_1_eq n x.1) (fun _ _ => map_same (fun _ => rfl) _) (fun _ _ _ _ => rfl)

abbrev slices_IndexFunc_int64_int64_at_impl_ShareWhole_1sp : List Sp := [.v false (.list (.int .i64)), .cl 69 []]
abbrev slices_IndexFunc_int64_int64_at_impl_ShareWhole_1bs : List (Bs × Bool) := []
abbrev slices_IndexFunc_int64_int64_at_impl_ShareWhole_1rs : List (Bool × List Rp) := [(false, [.v false (.int .i64)])]
noncomputable def slices_IndexFunc_int64_int64_at_impl_ShareWhole_1kp : Keep := { loop := fun id => match id with | 2 => [8, 0, 1, 7] | _ => [], join := fun id => match id with | _ => none }
noncomputable def slices_IndexFunc_int64_int64_at_impl_ShareWhole_1c : Code := bodyOf Go.Proofs.Try.f134
noncomputable def slices_IndexFunc_int64_int64_at_impl_ShareWhole_1F (n : Nat) : Fun := { id := 134, sp := slices_IndexFunc_int64_int64_at_impl_ShareWhole_1sp, bs := slices_IndexFunc_int64_int64_at_impl_ShareWhole_1bs, rs := slices_IndexFunc_int64_int64_at_impl_ShareWhole_1rs, f := fun x y => slices_IndexFunc_int64_int64_at_impl_ShareWhole_1 n x.1 }

theorem slices_IndexFunc_int64_int64_at_impl_ShareWhole_1_l2_eq (n : Nat) : ∀ (k : Nat) (v8 : Int) (v0 : List (Int)) (v7 : Int), iter (interp ([impl_ShareWhole_1F n]) ty 19 0 n slices_IndexFunc_int64_int64_at_impl_ShareWhole_1kp (codeAt slices_IndexFunc_int64_int64_at_impl_ShareWhole_1c [1, 0, 1, 0, 0])) (canon 0 (slices_IndexFunc_int64_int64_at_impl_ShareWhole_1kp.loop 2)) (kAt ([impl_ShareWhole_1F n]) ty 19 0 n slices_IndexFunc_int64_int64_at_impl_ShareWhole_1kp slices_IndexFunc_int64_int64_at_impl_ShareWhole_1c [1, 0, 1, 0] [] (ending ty 0 Go.Proofs.Try.f134.results.toList slices_IndexFunc_int64_int64_at_impl_ShareWhole_1rs slices_IndexFunc_int64_int64_at_impl_ShareWhole_1bs)) k { env := [(8, .one (.sc (.int .i64 v8))), (0, .one (.list true (.int .i64) v0)), (1, .one (.clos 69 [])), (7, .one (.sc (.int .i64 v7)))], bx := [], nx := 0 } = slices_IndexFunc_int64_int64_at_impl_ShareWhole_1_l2 n k v8 v0 v7
  | 0, _, _, _ => by kernel_rfl
  | k + 1, v8, v0, v7 => by
    have h : iter (interp ([impl_ShareWhole_1F n]) ty 19 0 n slices_IndexFunc_int64_int64_at_impl_ShareWhole_1kp (codeAt slices_IndexFunc_int64_int64_at_impl_ShareWhole_1c [1, 0, 1, 0, 0])) (canon 0 (slices_IndexFunc_int64_int64_at_impl_ShareWhole_1kp.loop 2)) (kAt ([impl_ShareWhole_1F n]) ty 19 0 n slices_IndexFunc_int64_int64_at_impl_ShareWhole_1kp slices_IndexFunc_int64_int64_at_impl_ShareWhole_1c [1, 0, 1, 0] [] (ending ty 0 Go.Proofs.Try.f134.results.toList slices_IndexFunc_int64_int64_at_impl_ShareWhole_1rs slices_IndexFunc_int64_int64_at_impl_ShareWhole_1bs)) (k + 1) { env := [(8, .one (.sc (.int .i64 v8))), (0, .one (.list true (.int .i64) v0)), (1, .one (.clos 69 [])), (7, .one (.sc (.int .i64 v7)))], bx := [], nx := 0 } = slices_IndexFunc_int64_int64_at_impl_ShareWhole_1_t2 n (fun v8 v0 v7 => iter (interp ([impl_ShareWhole_1F n]) ty 19 0 n slices_IndexFunc_int64_int64_at_impl_ShareWhole_1kp (codeAt slices_IndexFunc_int64_int64_at_impl_ShareWhole_1c [1, 0, 1, 0, 0])) (canon 0 (slices_IndexFunc_int64_int64_at_impl_ShareWhole_1kp.loop 2)) (kAt ([impl_ShareWhole_1F n]) ty 19 0 n slices_IndexFunc_int64_int64_at_impl_ShareWhole_1kp slices_IndexFunc_int64_int64_at_impl_ShareWhole_1c [1, 0, 1, 0] [] (ending ty 0 Go.Proofs.Try.f134.results.toList slices_IndexFunc_int64_int64_at_impl_ShareWhole_1rs slices_IndexFunc_int64_int64_at_impl_ShareWhole_1bs)) k { env := [(8, .one (.sc (.int .i64 v8))), (0, .one (.list true (.int .i64) v0)), (1, .one (.clos 69 [])), (7, .one (.sc (.int .i64 v7)))], bx := [], nx := 0 }) v8 v0 v7 := by kernel_rfl
    rw [h]
    have e := congrArg (fun g => slices_IndexFunc_int64_int64_at_impl_ShareWhole_1_t2 n g v8 v0 v7) (funext fun v8 => funext fun v0 => funext fun v7 => slices_IndexFunc_int64_int64_at_impl_ShareWhole_1_l2_eq n k v8 v0 v7)
    exact e

theorem slices_IndexFunc_int64_int64_at_impl_ShareWhole_1_eq (n : Nat) (a0 : List (Int)) : runBody ([impl_ShareWhole_1F n]) ty 19 n slices_IndexFunc_int64_int64_at_impl_ShareWhole_1kp slices_IndexFunc_int64_int64_at_impl_ShareWhole_1c Go.Proofs.Try.f134.results.toList slices_IndexFunc_int64_int64_at_impl_ShareWhole_1rs slices_IndexFunc_int64_int64_at_impl_ShareWhole_1sp slices_IndexFunc_int64_int64_at_impl_ShareWhole_1bs (a0, ((), ())) () = slices_IndexFunc_int64_int64_at_impl_ShareWhole_1 n a0 := by
  have h : runBody ([impl_ShareWhole_1F n]) ty 19 n slices_IndexFunc_int64_int64_at_impl_ShareWhole_1kp slices_IndexFunc_int64_int64_at_impl_ShareWhole_1c Go.Proofs.Try.f134.results.toList slices_IndexFunc_int64_int64_at_impl_ShareWhole_1rs slices_IndexFunc_int64_int64_at_impl_ShareWhole_1sp slices_IndexFunc_int64_int64_at_impl_ShareWhole_1bs (a0, ((), ())) () = slices_IndexFunc_int64_int64_at_impl_ShareWhole_1_t n (fun k v8 v0 v7 => iter (interp ([impl_ShareWhole_1F n]) ty 19 0 n slices_IndexFunc_int64_int64_at_impl_ShareWhole_1kp (codeAt slices_IndexFunc_int64_int64_at_impl_ShareWhole_1c [1, 0, 1, 0, 0])) (canon 0 (slices_IndexFunc_int64_int64_at_impl_ShareWhole_1kp.loop 2)) (kAt ([impl_ShareWhole_1F n]) ty 19 0 n slices_IndexFunc_int64_int64_at_impl_ShareWhole_1kp slices_IndexFunc_int64_int64_at_impl_ShareWhole_1c [1, 0, 1, 0] [] (ending ty 0 Go.Proofs.Try.f134.results.toList slices_IndexFunc_int64_int64_at_impl_ShareWhole_1rs slices_IndexFunc_int64_int64_at_impl_ShareWhole_1bs)) k { env := [(8, .one (.sc (.int .i64 v8))), (0, .one (.list true (.int .i64) v0)), (1, .one (.clos 69 [])), (7, .one (.sc (.int .i64 v7)))], bx := [], nx := 0 }) a0 := by kernel_rfl
  rw [h]
  have e := congrArg (fun h2 => slices_IndexFunc_int64_int64_at_impl_ShareWhole_1_t n h2 a0) (funext fun k => funext fun v8 => funext fun v0 => funext fun v7 => slices_IndexFunc_int64_int64_at_impl_ShareWhole_1_l2_eq n k v8 v0 v7)
  exact e

theorem slices_IndexFunc_int64_int64_at_impl_ShareWhole_1_ok (n : Nat) : FunOk P (slices_IndexFunc_int64_int64_at_impl_ShareWhole_1F n) :=
  funOk_mk (C := [impl_ShareWhole_1F n]) (N := 19) (kp := slices_IndexFunc_int64_int64_at_impl_ShareWhole_1kp) (c := slices_IndexFunc_int64_int64_at_impl_ShareWhole_1c) (n := n) (G := fun x y => slices_IndexFunc_int64_int64_at_impl_ShareWhole_1 n x.1) follows (AllOk.mem (⟨impl_ShareWhole_1_ok n, trivial⟩ : AllOk P ([impl_ShareWhole_1F n]))) (by kernel_rfl : P.funcs[134]? = some Go.Proofs.Try.f134) (by kernel_rfl) (by kernel_rfl) (by kernel_rfl)
    (fun x y => slices_IndexFunc_int64_int64_at_impl_ShareWhole_1_eq n x.1) (fun _ _ => map_same (fun _ => rfl) _) (fun _ _ _ _ => rfl)

abbrev slices_ContainsFunc_int64_int64_at_impl_ShareWhole_1sp : List Sp := [.v false (.list (.int .i64)), .cl 69 []]
abbrev slices_ContainsFunc_int64_int64_at_impl_ShareWhole_1bs : List (Bs × Bool) := []
abbrev slices_ContainsFunc_int64_int64_at_impl_ShareWhole_1rs : List (Bool × List Rp) := [(false, [.v false .bool])]
noncomputable def slices_ContainsFunc_int64_int64_at_impl_ShareWhole_1kp : Keep := { loop := fun id => match id with | _ => [], join := fun id => match id with | _ => none }
noncomputable def slices_ContainsFunc_int64_int64_at_impl_ShareWhole_1c : Code := bodyOf Go.Proofs.Try.f68
noncomputable def slices_ContainsFunc_int64_int64_at_impl_ShareWhole_1F (n : Nat) : Fun := { id := 68, sp := slices_ContainsFunc_int64_int64_at_impl_ShareWhole_1sp, bs := slices_ContainsFunc_int64_int64_at_impl_ShareWhole_1bs, rs := slices_ContainsFunc_int64_int64_at_impl_ShareWhole_1rs, f := fun x y => slices_ContainsFunc_int64_int64_at_impl_ShareWhole_1 n x.1 }

theorem slices_ContainsFunc_int64_int64_at_impl_ShareWhole_1_eq (n : Nat) (a0 : List (Int)) : runBody ([slices_IndexFunc_int64_int64_at_impl_ShareWhole_1F n, impl_ShareWhole_1F n]) ty 9 n slices_ContainsFunc_int64_int64_at_impl_ShareWhole_1kp slices_ContainsFunc_int64_int64_at_impl_ShareWhole_1c Go.Proofs.Try.f68.results.toList slices_ContainsFunc_int64_int64_at_impl_ShareWhole_1rs slices_ContainsFunc_int64_int64_at_impl_ShareWhole_1sp slices_ContainsFunc_int64_int64_at_impl_ShareWhole_1bs (a0, ((), ())) () = slices_ContainsFunc_int64_int64_at_impl_ShareWhole_1 n a0 := by
  have h : runBody ([slices_IndexFunc_int64_int64_at_impl_ShareWhole_1F n, impl_ShareWhole_1F n]) ty 9 n slices_ContainsFunc_int64_int64_at_impl_ShareWhole_1kp slices_ContainsFunc_int64_int64_at_impl_ShareWhole_1c Go.Proofs.Try.f68.results.toList slices_ContainsFunc_int64_int64_at_impl_ShareWhole_1rs slices_ContainsFunc_int64_int64_at_impl_ShareWhole_1sp slices_ContainsFunc_int64_int64_at_impl_ShareWhole_1bs (a0, ((), ())) () = slices_ContainsFunc_int64_int64_at_impl_ShareWhole_1_t n a0 := by kernel_rfl
  rw [h]
  rfl

theorem slices_ContainsFunc_int64_int64_at_impl_ShareWhole_1_ok (n : Nat) : FunOk P (slices_ContainsFunc_int64_int64_at_impl_ShareWhole_1F n) :=
  funOk_mk (C := [slices_IndexFunc_int64_int64_at_impl_ShareWhole_1F n, impl_ShareWhole_1F n]) (N := 9) (kp := slices_ContainsFunc_int64_int64_at_impl_ShareWhole_1kp) (c := slices_ContainsFunc_int64_int64_at_impl_ShareWhole_1c) (n := n) (G := fun x y => slices_ContainsFunc_int64_int64_at_impl_ShareWhole_1 n x.1) follows (AllOk.mem (⟨slices_IndexFunc_int64_int64_at_impl_ShareWhole_1_ok n, ⟨impl_ShareWhole_1_ok n, trivial⟩⟩ : AllOk P ([slices_IndexFunc_int64_int64_at_impl_ShareWhole_1F n, impl_ShareWhole_1F n]))) (by kernel_rfl : P.funcs[68]? = some Go.Proofs.Try.f68) (by kernel_rfl) (by kernel_rfl) (by kernel_rfl)
    (fun x y => slices_ContainsFunc_int64_int64_at_impl_ShareWhole_1_eq n x.1) (fun _ _ => map_same (fun _ => rfl) _) (fun _ _ _ _ => rfl)

abbrev impl_floorDivsp : List Sp := [.v false (.int .i64), .v false (.int .i64)]
abbrev impl_floorDivbs : List (Bs × Bool) := []
abbrev impl_floorDivrs : List (Bool × List Rp) := [(false, [.v false (.int .i64)])]
noncomputable def impl_floorDivkp : Keep := { loop := fun id => match id with | _ => [], join := fun id => match id with | _ => none }
noncomputable def impl_floorDivc : Code := bodyOf Go.Proofs.Try.f71
noncomputable def impl_floorDivF (n : Nat) : Fun := { id := 71, sp := impl_floorDivsp, bs := impl_floorDivbs, rs := impl_floorDivrs, f := fun x y => impl_floorDiv n x.1 x.2.1 }

theorem impl_floorDiv_eq (n : Nat) (a0 : Int) (a1 : Int) : runBody ([]) ty 23 n impl_floorDivkp impl_floorDivc Go.Proofs.Try.f71.results.toList impl_floorDivrs impl_floorDivsp impl_floorDivbs (a0, (a1, ())) () = impl_floorDiv n a0 a1 := by
  have h : runBody ([]) ty 23 n impl_floorDivkp impl_floorDivc Go.Proofs.Try.f71.results.toList impl_floorDivrs impl_floorDivsp impl_floorDivbs (a0, (a1, ())) () = impl_floorDiv_t n a0 a1 := by kernel_rfl
  rw [h]
  rfl

theorem impl_floorDiv_ok (n : Nat) : FunOk P (impl_floorDivF n) :=
  funOk_mk (C := []) (N := 23) (kp := impl_floorDivkp) (c := impl_floorDivc) (n := n) (G := fun x y => impl_floorDiv n x.1 x.2.1) follows (AllOk.mem (trivial : AllOk P ([]))) (by kernel_rfl : P.funcs[71]? = some Go.Proofs.Try.f71) (by kernel_rfl) (by kernel_rfl) (by kernel_rfl)
    (fun x y => impl_floorDiv_eq n x.1 x.2.1) (fun _ _ => map_same (fun _ => rfl) _) (fun _ _ _ _ => rfl)

abbrev impl_ShareWholesp : List Sp := [.v false (.list (.int .i64)), .v false (.int .i64)]
abbrev impl_ShareWholebs : List (Bs × Bool) := []
abbrev impl_ShareWholers : List (Bool × List Rp) := [(false, [.new  (.int .i64)]), (false, [.v false (.int .i64)])]
noncomputable def impl_ShareWholekp : Keep := { loop := fun id => match id with | 5 => [35, 6, 33, 7, 0, 34] | 11 => [49, 10, 11, 7, 6, 47, 48] | _ => [], join := fun id => match id with | _ => none }
noncomputable def impl_ShareWholec : Code := bodyOf Go.Proofs.Try.f17
noncomputable def impl_ShareWholeF (n : Nat) : Fun := { id := 17, sp := impl_ShareWholesp, bs := impl_ShareWholebs, rs := impl_ShareWholers, f := fun x y => impl_ShareWhole n x.1 x.2.1 }

theorem impl_ShareWhole_l11_eq (n : Nat) : ∀ (k : Nat) (v49 : Int) (v10 : Int) (v7 : Int) (v6 : Int) (v47 : List (Int)) (v48 : Int) (b0 : List (Int)), iter (interp ([slices_ContainsFunc_int64_int64_at_impl_ShareWhole_1F n, impl_floorDivF n]) ty 71 0 n impl_ShareWholekp (codeAt impl_ShareWholec [1, 1, 1, 1, 1, 0, 1, 0, 0])) (canon 0 (impl_ShareWholekp.loop 11)) (kAt ([slices_ContainsFunc_int64_int64_at_impl_ShareWhole_1F n, impl_floorDivF n]) ty 71 0 n impl_ShareWholekp impl_ShareWholec [1, 1, 1, 1, 1, 0, 1, 0] [] (ending ty 0 Go.Proofs.Try.f17.results.toList impl_ShareWholers impl_ShareWholebs)) k { env := [(49, .one (.sc (.int .i64 v49))), (10, .one (.sc (.int .i64 v10))), (11, .one (.slice 0 0 none)), (7, .one (.sc (.int .i64 v7))), (6, .one (.sc (.int .i64 v6))), (47, .one (.list true (.int .i64) v47)), (48, .one (.sc (.int .i64 v48)))], bx := [(0, .row 0 (.int .i64) b0)], nx := 1 } = impl_ShareWhole_l11 n k v49 v10 v7 v6 v47 v48 b0
  | 0, _, _, _, _, _, _, _ => by kernel_rfl
  | k + 1, v49, v10, v7, v6, v47, v48, b0 => by
    have h : iter (interp ([slices_ContainsFunc_int64_int64_at_impl_ShareWhole_1F n, impl_floorDivF n]) ty 71 0 n impl_ShareWholekp (codeAt impl_ShareWholec [1, 1, 1, 1, 1, 0, 1, 0, 0])) (canon 0 (impl_ShareWholekp.loop 11)) (kAt ([slices_ContainsFunc_int64_int64_at_impl_ShareWhole_1F n, impl_floorDivF n]) ty 71 0 n impl_ShareWholekp impl_ShareWholec [1, 1, 1, 1, 1, 0, 1, 0] [] (ending ty 0 Go.Proofs.Try.f17.results.toList impl_ShareWholers impl_ShareWholebs)) (k + 1) { env := [(49, .one (.sc (.int .i64 v49))), (10, .one (.sc (.int .i64 v10))), (11, .one (.slice 0 0 none)), (7, .one (.sc (.int .i64 v7))), (6, .one (.sc (.int .i64 v6))), (47, .one (.list true (.int .i64) v47)), (48, .one (.sc (.int .i64 v48)))], bx := [(0, .row 0 (.int .i64) b0)], nx := 1 } = impl_ShareWhole_t11 n (fun v49 v10 v7 v6 v47 v48 b0 => iter (interp ([slices_ContainsFunc_int64_int64_at_impl_ShareWhole_1F n, impl_floorDivF n]) ty 71 0 n impl_ShareWholekp (codeAt impl_ShareWholec [1, 1, 1, 1, 1, 0, 1, 0, 0])) (canon 0 (impl_ShareWholekp.loop 11)) (kAt ([slices_ContainsFunc_int64_int64_at_impl_ShareWhole_1F n, impl_floorDivF n]) ty 71 0 n impl_ShareWholekp impl_ShareWholec [1, 1, 1, 1, 1, 0, 1, 0] [] (ending ty 0 Go.Proofs.Try.f17.results.toList impl_ShareWholers impl_ShareWholebs)) k { env := [(49, .one (.sc (.int .i64 v49))), (10, .one (.sc (.int .i64 v10))), (11, .one (.slice 0 0 none)), (7, .one (.sc (.int .i64 v7))), (6, .one (.sc (.int .i64 v6))), (47, .one (.list true (.int .i64) v47)), (48, .one (.sc (.int .i64 v48)))], bx := [(0, .row 0 (.int .i64) b0)], nx := 1 }) v49 v10 v7 v6 v47 v48 b0 := by kernel_rfl
    rw [h]
    have e := congrArg (fun g => impl_ShareWhole_t11 n g v49 v10 v7 v6 v47 v48 b0) (funext fun v49 => funext fun v10 => funext fun v7 => funext fun v6 => funext fun v47 => funext fun v48 => funext fun b0 => impl_ShareWhole_l11_eq n k v49 v10 v7 v6 v47 v48 b0)
    exact e

theorem impl_ShareWhole_l5_eq (n : Nat) : ∀ (k : Nat) (v35 : Int) (v6 : Int) (v33 : List (Int)) (v7 : Int) (v0 : List (Int)) (v34 : Int), iter (interp ([slices_ContainsFunc_int64_int64_at_impl_ShareWhole_1F n, impl_floorDivF n]) ty 71 0 n impl_ShareWholekp (codeAt impl_ShareWholec [1, 1, 1, 0, 1, 0, 0])) (canon 0 (impl_ShareWholekp.loop 5)) (kAt ([slices_ContainsFunc_int64_int64_at_impl_ShareWhole_1F n, impl_floorDivF n]) ty 71 0 n impl_ShareWholekp impl_ShareWholec [1, 1, 1, 0, 1, 0] [] (ending ty 0 Go.Proofs.Try.f17.results.toList impl_ShareWholers impl_ShareWholebs)) k { env := [(35, .one (.sc (.int .i64 v35))), (6, .one (.sc (.int .i64 v6))), (33, .one (.list true (.int .i64) v33)), (7, .one (.sc (.int .i64 v7))), (0, .one (.list true (.int .i64) v0)), (34, .one (.sc (.int .i64 v34)))], bx := [], nx := 0 } = impl_ShareWhole_l5 n k v35 v6 v33 v7 v0 v34
  | 0, _, _, _, _, _, _ => by kernel_rfl
  | k + 1, v35, v6, v33, v7, v0, v34 => by
    have h : iter (interp ([slices_ContainsFunc_int64_int64_at_impl_ShareWhole_1F n, impl_floorDivF n]) ty 71 0 n impl_ShareWholekp (codeAt impl_ShareWholec [1, 1, 1, 0, 1, 0, 0])) (canon 0 (impl_ShareWholekp.loop 5)) (kAt ([slices_ContainsFunc_int64_int64_at_impl_ShareWhole_1F n, impl_floorDivF n]) ty 71 0 n impl_ShareWholekp impl_ShareWholec [1, 1, 1, 0, 1, 0] [] (ending ty 0 Go.Proofs.Try.f17.results.toList impl_ShareWholers impl_ShareWholebs)) (k + 1) { env := [(35, .one (.sc (.int .i64 v35))), (6, .one (.sc (.int .i64 v6))), (33, .one (.list true (.int .i64) v33)), (7, .one (.sc (.int .i64 v7))), (0, .one (.list true (.int .i64) v0)), (34, .one (.sc (.int .i64 v34)))], bx := [], nx := 0 } = impl_ShareWhole_t5 n (fun k' v49 v10 v7 v6 v47 v48 b0 => iter (interp ([slices_ContainsFunc_int64_int64_at_impl_ShareWhole_1F n, impl_floorDivF n]) ty 71 0 n impl_ShareWholekp (codeAt impl_ShareWholec [1, 1, 1, 1, 1, 0, 1, 0, 0])) (canon 0 (impl_ShareWholekp.loop 11)) (kAt ([slices_ContainsFunc_int64_int64_at_impl_ShareWhole_1F n, impl_floorDivF n]) ty 71 0 n impl_ShareWholekp impl_ShareWholec [1, 1, 1, 1, 1, 0, 1, 0] [] (ending ty 0 Go.Proofs.Try.f17.results.toList impl_ShareWholers impl_ShareWholebs)) k' { env := [(49, .one (.sc (.int .i64 v49))), (10, .one (.sc (.int .i64 v10))), (11, .one (.slice 0 0 none)), (7, .one (.sc (.int .i64 v7))), (6, .one (.sc (.int .i64 v6))), (47, .one (.list true (.int .i64) v47)), (48, .one (.sc (.int .i64 v48)))], bx := [(0, .row 0 (.int .i64) b0)], nx := 1 }) (fun v35 v6 v33 v7 v0 v34 => iter (interp ([slices_ContainsFunc_int64_int64_at_impl_ShareWhole_1F n, impl_floorDivF n]) ty 71 0 n impl_ShareWholekp (codeAt impl_ShareWholec [1, 1, 1, 0, 1, 0, 0])) (canon 0 (impl_ShareWholekp.loop 5)) (kAt ([slices_ContainsFunc_int64_int64_at_impl_ShareWhole_1F n, impl_floorDivF n]) ty 71 0 n impl_ShareWholekp impl_ShareWholec [1, 1, 1, 0, 1, 0] [] (ending ty 0 Go.Proofs.Try.f17.results.toList impl_ShareWholers impl_ShareWholebs)) k { env := [(35, .one (.sc (.int .i64 v35))), (6, .one (.sc (.int .i64 v6))), (33, .one (.list true (.int .i64) v33)), (7, .one (.sc (.int .i64 v7))), (0, .one (.list true (.int .i64) v0)), (34, .one (.sc (.int .i64 v34)))], bx := [], nx := 0 }) v35 v6 v33 v7 v0 v34 := by kernel_rfl
    rw [h]
    have e := congr (congrArg (fun h11 g => impl_ShareWhole_t5 n h11 g v35 v6 v33 v7 v0 v34) ((funext fun k' => funext fun v49 => funext fun v10 => funext fun v7 => funext fun v6 => funext fun v47 => funext fun v48 => funext fun b0 => impl_ShareWhole_l11_eq n k' v49 v10 v7 v6 v47 v48 b0).trans (congrArg (fun z => impl_ShareWhole_l11 n) (funext fun v35 => funext fun v6 => funext fun v33 => funext fun v7 => funext fun v0 => funext fun v34 => impl_ShareWhole_l5_eq n k v35 v6 v33 v7 v0 v34)))) (funext fun v35 => funext fun v6 => funext fun v33 => funext fun v7 => funext fun v0 => funext fun v34 => impl_ShareWhole_l5_eq n k v35 v6 v33 v7 v0 v34)
    exact e

theorem impl_ShareWhole_eq (n : Nat) (a0 : List (Int)) (a1 : Int) : runBody ([slices_ContainsFunc_int64_int64_at_impl_ShareWhole_1F n, impl_floorDivF n]) ty 71 n impl_ShareWholekp impl_ShareWholec Go.Proofs.Try.f17.results.toList impl_ShareWholers impl_ShareWholesp impl_ShareWholebs (a0, (a1, ())) () = impl_ShareWhole n a0 a1 := by
  have h : runBody ([slices_ContainsFunc_int64_int64_at_impl_ShareWhole_1F n, impl_floorDivF n]) ty 71 n impl_ShareWholekp impl_ShareWholec Go.Proofs.Try.f17.results.toList impl_ShareWholers impl_ShareWholesp impl_ShareWholebs (a0, (a1, ())) () = impl_ShareWhole_t n (fun k v35 v6 v33 v7 v0 v34 => iter (interp ([slices_ContainsFunc_int64_int64_at_impl_ShareWhole_1F n, impl_floorDivF n]) ty 71 0 n impl_ShareWholekp (codeAt impl_ShareWholec [1, 1, 1, 0, 1, 0, 0])) (canon 0 (impl_ShareWholekp.loop 5)) (kAt ([slices_ContainsFunc_int64_int64_at_impl_ShareWhole_1F n, impl_floorDivF n]) ty 71 0 n impl_ShareWholekp impl_ShareWholec [1, 1, 1, 0, 1, 0] [] (ending ty 0 Go.Proofs.Try.f17.results.toList impl_ShareWholers impl_ShareWholebs)) k { env := [(35, .one (.sc (.int .i64 v35))), (6, .one (.sc (.int .i64 v6))), (33, .one (.list true (.int .i64) v33)), (7, .one (.sc (.int .i64 v7))), (0, .one (.list true (.int .i64) v0)), (34, .one (.sc (.int .i64 v34)))], bx := [], nx := 0 }) a0 a1 := by kernel_rfl
  rw [h]
  have e := congrArg (fun h5 => impl_ShareWhole_t n h5 a0 a1) (funext fun k => funext fun v35 => funext fun v6 => funext fun v33 => funext fun v7 => funext fun v0 => funext fun v34 => impl_ShareWhole_l5_eq n k v35 v6 v33 v7 v0 v34)
  exact e

theorem impl_ShareWhole_ok (n : Nat) : FunOk P (impl_ShareWholeF n) :=
  funOk_mk (C := [slices_ContainsFunc_int64_int64_at_impl_ShareWhole_1F n, impl_floorDivF n]) (N := 71) (kp := impl_ShareWholekp) (c := impl_ShareWholec) (n := n) (G := fun x y => impl_ShareWhole n x.1 x.2.1) follows (AllOk.mem (⟨slices_ContainsFunc_int64_int64_at_impl_ShareWhole_1_ok n, ⟨impl_floorDiv_ok n, trivial⟩⟩ : AllOk P ([slices_ContainsFunc_int64_int64_at_impl_ShareWhole_1F n, impl_floorDivF n]))) (by kernel_rfl : P.funcs[17]? = some Go.Proofs.Try.f17) (by kernel_rfl) (by kernel_rfl) (by kernel_rfl)
    (fun x y => impl_ShareWhole_eq n x.1 x.2.1) (fun _ _ => map_same (fun _ => rfl) _) (fun _ _ _ _ => rfl)

abbrev laws_eqInt64Ssp : List Sp := [.v false (.list (.int .i64)), .v false (.list (.int .i64))]
abbrev laws_eqInt64Sbs : List (Bs × Bool) := []
abbrev laws_eqInt64Srs : List (Bool × List Rp) := [(false, [.v false .bool])]
noncomputable def laws_eqInt64Skp : Keep := { loop := fun id => match id with | 4 => [5, 1, 0] | _ => [], join := fun id => match id with | _ => none }
noncomputable def laws_eqInt64Sc : Code := bodyOf Go.Proofs.Try.f18
noncomputable def laws_eqInt64SF (n : Nat) : Fun := { id := 18, sp := laws_eqInt64Ssp, bs := laws_eqInt64Sbs, rs := laws_eqInt64Srs, f := fun x y => laws_eqInt64S n x.1 x.2.1 }

theorem laws_eqInt64S_l4_eq (n : Nat) : ∀ (k : Nat) (v5 : Int) (v1 : List (Int)) (v0 : List (Int)), iter (interp ([]) ty 26 0 n laws_eqInt64Skp (codeAt laws_eqInt64Sc [1, 1, 0, 1, 0, 0])) (canon 0 (laws_eqInt64Skp.loop 4)) (kAt ([]) ty 26 0 n laws_eqInt64Skp laws_eqInt64Sc [1, 1, 0, 1, 0] [] (ending ty 0 Go.Proofs.Try.f18.results.toList laws_eqInt64Srs laws_eqInt64Sbs)) k { env := [(5, .one (.sc (.int .i64 v5))), (1, .one (.list true (.int .i64) v1)), (0, .one (.list true (.int .i64) v0))], bx := [], nx := 0 } = laws_eqInt64S_l4 n k v5 v1 v0
  | 0, _, _, _ => by kernel_rfl
  | k + 1, v5, v1, v0 => by
    have h : iter (interp ([]) ty 26 0 n laws_eqInt64Skp (codeAt laws_eqInt64Sc [1, 1, 0, 1, 0, 0])) (canon 0 (laws_eqInt64Skp.loop 4)) (kAt ([]) ty 26 0 n laws_eqInt64Skp laws_eqInt64Sc [1, 1, 0, 1, 0] [] (ending ty 0 Go.Proofs.Try.f18.results.toList laws_eqInt64Srs laws_eqInt64Sbs)) (k + 1) { env := [(5, .one (.sc (.int .i64 v5))), (1, .one (.list true (.int .i64) v1)), (0, .one (.list true (.int .i64) v0))], bx := [], nx := 0 } = laws_eqInt64S_t4 n (fun v5 v1 v0 => iter (interp ([]) ty 26 0 n laws_eqInt64Skp (codeAt laws_eqInt64Sc [1, 1, 0, 1, 0, 0])) (canon 0 (laws_eqInt64Skp.loop 4)) (kAt ([]) ty 26 0 n laws_eqInt64Skp laws_eqInt64Sc [1, 1, 0, 1, 0] [] (ending ty 0 Go.Proofs.Try.f18.results.toList laws_eqInt64Srs laws_eqInt64Sbs)) k { env := [(5, .one (.sc (.int .i64 v5))), (1, .one (.list true (.int .i64) v1)), (0, .one (.list true (.int .i64) v0))], bx := [], nx := 0 }) v5 v1 v0 := by kernel_rfl
    rw [h]
    have e := congrArg (fun g => laws_eqInt64S_t4 n g v5 v1 v0) (funext fun v5 => funext fun v1 => funext fun v0 => laws_eqInt64S_l4_eq n k v5 v1 v0)
    exact e

theorem laws_eqInt64S_eq (n : Nat) (a0 : List (Int)) (a1 : List (Int)) : runBody ([]) ty 26 n laws_eqInt64Skp laws_eqInt64Sc Go.Proofs.Try.f18.results.toList laws_eqInt64Srs laws_eqInt64Ssp laws_eqInt64Sbs (a0, (a1, ())) () = laws_eqInt64S n a0 a1 := by
  have h : runBody ([]) ty 26 n laws_eqInt64Skp laws_eqInt64Sc Go.Proofs.Try.f18.results.toList laws_eqInt64Srs laws_eqInt64Ssp laws_eqInt64Sbs (a0, (a1, ())) () = laws_eqInt64S_t n (fun k v5 v1 v0 => iter (interp ([]) ty 26 0 n laws_eqInt64Skp (codeAt laws_eqInt64Sc [1, 1, 0, 1, 0, 0])) (canon 0 (laws_eqInt64Skp.loop 4)) (kAt ([]) ty 26 0 n laws_eqInt64Skp laws_eqInt64Sc [1, 1, 0, 1, 0] [] (ending ty 0 Go.Proofs.Try.f18.results.toList laws_eqInt64Srs laws_eqInt64Sbs)) k { env := [(5, .one (.sc (.int .i64 v5))), (1, .one (.list true (.int .i64) v1)), (0, .one (.list true (.int .i64) v0))], bx := [], nx := 0 }) a0 a1 := by kernel_rfl
  rw [h]
  have e := congrArg (fun h4 => laws_eqInt64S_t n h4 a0 a1) (funext fun k => funext fun v5 => funext fun v1 => funext fun v0 => laws_eqInt64S_l4_eq n k v5 v1 v0)
  exact e

theorem laws_eqInt64S_ok (n : Nat) : FunOk P (laws_eqInt64SF n) :=
  funOk_mk (C := []) (N := 26) (kp := laws_eqInt64Skp) (c := laws_eqInt64Sc) (n := n) (G := fun x y => laws_eqInt64S n x.1 x.2.1) follows (AllOk.mem (trivial : AllOk P ([]))) (by kernel_rfl : P.funcs[18]? = some Go.Proofs.Try.f18) (by kernel_rfl) (by kernel_rfl) (by kernel_rfl)
    (fun x y => laws_eqInt64S_eq n x.1 x.2.1) (fun _ _ => map_same (fun _ => rfl) _) (fun _ _ _ _ => rfl)

abbrev laws_markInt64Ssp : List Sp := [.sl 0, .v false (.int .i64)]
abbrev laws_markInt64Sbs : List (Bs × Bool) := [(.row  (.int .i64), true)]
abbrev laws_markInt64Srs : List (Bool × List Rp) := [(false, [.v false (.int .i64)])]
noncomputable def laws_markInt64Skp : Keep := { loop := fun id => match id with | 2 => [5, 1, 0] | _ => [], join := fun id => match id with | _ => none }
noncomputable def laws_markInt64Sc : Code := bodyOf Go.Proofs.Try.f19
noncomputable def laws_markInt64SF (n : Nat) : Fun := { id := 19, sp := laws_markInt64Ssp, bs := laws_markInt64Sbs, rs := laws_markInt64Srs, f := fun x y => laws_markInt64S n x.2.1 y.1 }

theorem laws_markInt64S_l2_eq (n : Nat) : ∀ (k : Nat) (v5 : Int) (v1 : Int) (b0 : List (Int)), iter (interp ([]) ty 19 1 n laws_markInt64Skp (codeAt laws_markInt64Sc [1, 0, 1, 0, 0])) (canon 1 (laws_markInt64Skp.loop 2)) (kAt ([]) ty 19 1 n laws_markInt64Skp laws_markInt64Sc [1, 0, 1, 0] [] (ending ty 1 Go.Proofs.Try.f19.results.toList laws_markInt64Srs laws_markInt64Sbs)) k { env := [(5, .one (.sc (.int .i64 v5))), (1, .one (.sc (.int .i64 v1))), (0, .one (.slice 0 0 none))], bx := [(0, .row 0 (.int .i64) b0)], nx := 1 } = laws_markInt64S_l2 n k v5 v1 b0
  | 0, _, _, _ => by kernel_rfl
  | k + 1, v5, v1, b0 => by
    have h : iter (interp ([]) ty 19 1 n laws_markInt64Skp (codeAt laws_markInt64Sc [1, 0, 1, 0, 0])) (canon 1 (laws_markInt64Skp.loop 2)) (kAt ([]) ty 19 1 n laws_markInt64Skp laws_markInt64Sc [1, 0, 1, 0] [] (ending ty 1 Go.Proofs.Try.f19.results.toList laws_markInt64Srs laws_markInt64Sbs)) (k + 1) { env := [(5, .one (.sc (.int .i64 v5))), (1, .one (.sc (.int .i64 v1))), (0, .one (.slice 0 0 none))], bx := [(0, .row 0 (.int .i64) b0)], nx := 1 } = laws_markInt64S_t2 n (fun v5 v1 b0 => iter (interp ([]) ty 19 1 n laws_markInt64Skp (codeAt laws_markInt64Sc [1, 0, 1, 0, 0])) (canon 1 (laws_markInt64Skp.loop 2)) (kAt ([]) ty 19 1 n laws_markInt64Skp laws_markInt64Sc [1, 0, 1, 0] [] (ending ty 1 Go.Proofs.Try.f19.results.toList laws_markInt64Srs laws_markInt64Sbs)) k { env := [(5, .one (.sc (.int .i64 v5))), (1, .one (.sc (.int .i64 v1))), (0, .one (.slice 0 0 none))], bx := [(0, .row 0 (.int .i64) b0)], nx := 1 }) v5 v1 b0 := by kernel_rfl
    rw [h]
    have e := congrArg (fun g => laws_markInt64S_t2 n g v5 v1 b0) (funext fun v5 => funext fun v1 => funext fun b0 => laws_markInt64S_l2_eq n k v5 v1 b0)
    exact e

theorem laws_markInt64S_eq (n : Nat) (a1 : Int) (b0 : List (Int)) : runBody ([]) ty 19 n laws_markInt64Skp laws_markInt64Sc Go.Proofs.Try.f19.results.toList laws_markInt64Srs laws_markInt64Ssp laws_markInt64Sbs ((), (a1, ())) (b0, ()) = laws_markInt64S n a1 b0 := by
  have h : runBody ([]) ty 19 n laws_markInt64Skp laws_markInt64Sc Go.Proofs.Try.f19.results.toList laws_markInt64Srs laws_markInt64Ssp laws_markInt64Sbs ((), (a1, ())) (b0, ()) = laws_markInt64S_t n (fun k v5 v1 b0 => iter (interp ([]) ty 19 1 n laws_markInt64Skp (codeAt laws_markInt64Sc [1, 0, 1, 0, 0])) (canon 1 (laws_markInt64Skp.loop 2)) (kAt ([]) ty 19 1 n laws_markInt64Skp laws_markInt64Sc [1, 0, 1, 0] [] (ending ty 1 Go.Proofs.Try.f19.results.toList laws_markInt64Srs laws_markInt64Sbs)) k { env := [(5, .one (.sc (.int .i64 v5))), (1, .one (.sc (.int .i64 v1))), (0, .one (.slice 0 0 none))], bx := [(0, .row 0 (.int .i64) b0)], nx := 1 }) a1 b0 := by kernel_rfl
  rw [h]
  have e := congrArg (fun h2 => laws_markInt64S_t n h2 a1 b0) (funext fun k => funext fun v5 => funext fun v1 => funext fun b0 => laws_markInt64S_l2_eq n k v5 v1 b0)
  exact e

theorem laws_markInt64S_ok (n : Nat) : FunOk P (laws_markInt64SF n) :=
  funOk_mk (C := []) (N := 19) (kp := laws_markInt64Skp) (c := laws_markInt64Sc) (n := n) (G := fun x y => laws_markInt64S n x.2.1 y.1) follows (AllOk.mem (trivial : AllOk P ([]))) (by kernel_rfl : P.funcs[19]? = some Go.Proofs.Try.f19) (by kernel_rfl) (by kernel_rfl) (by kernel_rfl)
    (fun x y => laws_markInt64S_eq n x.2.1 y.1) (fun _ _ => map_same (fun _ => rfl) _) (fun _ _ _ _ => rfl)

abbrev laws_heldInt64Ssp : List Sp := [.v false (.list (.int .i64)), .v false (.int .i64)]
abbrev laws_heldInt64Sbs : List (Bs × Bool) := []
abbrev laws_heldInt64Srs : List (Bool × List Rp) := [(false, [.v false (.int .i64)])]
noncomputable def laws_heldInt64Skp : Keep := { loop := fun id => match id with | 2 => [5, 1, 0] | _ => [], join := fun id => match id with | _ => none }
noncomputable def laws_heldInt64Sc : Code := bodyOf Go.Proofs.Try.f20
noncomputable def laws_heldInt64SF (n : Nat) : Fun := { id := 20, sp := laws_heldInt64Ssp, bs := laws_heldInt64Sbs, rs := laws_heldInt64Srs, f := fun x y => laws_heldInt64S n x.1 x.2.1 }

theorem laws_heldInt64S_l2_eq (n : Nat) : ∀ (k : Nat) (v5 : Int) (v1 : Int) (v0 : List (Int)), iter (interp ([]) ty 21 0 n laws_heldInt64Skp (codeAt laws_heldInt64Sc [1, 0, 1, 0, 0])) (canon 0 (laws_heldInt64Skp.loop 2)) (kAt ([]) ty 21 0 n laws_heldInt64Skp laws_heldInt64Sc [1, 0, 1, 0] [] (ending ty 0 Go.Proofs.Try.f20.results.toList laws_heldInt64Srs laws_heldInt64Sbs)) k { env := [(5, .one (.sc (.int .i64 v5))), (1, .one (.sc (.int .i64 v1))), (0, .one (.list true (.int .i64) v0))], bx := [], nx := 0 } = laws_heldInt64S_l2 n k v5 v1 v0
  | 0, _, _, _ => by kernel_rfl
  | k + 1, v5, v1, v0 => by
    have h : iter (interp ([]) ty 21 0 n laws_heldInt64Skp (codeAt laws_heldInt64Sc [1, 0, 1, 0, 0])) (canon 0 (laws_heldInt64Skp.loop 2)) (kAt ([]) ty 21 0 n laws_heldInt64Skp laws_heldInt64Sc [1, 0, 1, 0] [] (ending ty 0 Go.Proofs.Try.f20.results.toList laws_heldInt64Srs laws_heldInt64Sbs)) (k + 1) { env := [(5, .one (.sc (.int .i64 v5))), (1, .one (.sc (.int .i64 v1))), (0, .one (.list true (.int .i64) v0))], bx := [], nx := 0 } = laws_heldInt64S_t2 n (fun v5 v1 v0 => iter (interp ([]) ty 21 0 n laws_heldInt64Skp (codeAt laws_heldInt64Sc [1, 0, 1, 0, 0])) (canon 0 (laws_heldInt64Skp.loop 2)) (kAt ([]) ty 21 0 n laws_heldInt64Skp laws_heldInt64Sc [1, 0, 1, 0] [] (ending ty 0 Go.Proofs.Try.f20.results.toList laws_heldInt64Srs laws_heldInt64Sbs)) k { env := [(5, .one (.sc (.int .i64 v5))), (1, .one (.sc (.int .i64 v1))), (0, .one (.list true (.int .i64) v0))], bx := [], nx := 0 }) v5 v1 v0 := by kernel_rfl
    rw [h]
    have e := congrArg (fun g => laws_heldInt64S_t2 n g v5 v1 v0) (funext fun v5 => funext fun v1 => funext fun v0 => laws_heldInt64S_l2_eq n k v5 v1 v0)
    exact e

theorem laws_heldInt64S_eq (n : Nat) (a0 : List (Int)) (a1 : Int) : runBody ([]) ty 21 n laws_heldInt64Skp laws_heldInt64Sc Go.Proofs.Try.f20.results.toList laws_heldInt64Srs laws_heldInt64Ssp laws_heldInt64Sbs (a0, (a1, ())) () = laws_heldInt64S n a0 a1 := by
  have h : runBody ([]) ty 21 n laws_heldInt64Skp laws_heldInt64Sc Go.Proofs.Try.f20.results.toList laws_heldInt64Srs laws_heldInt64Ssp laws_heldInt64Sbs (a0, (a1, ())) () = laws_heldInt64S_t n (fun k v5 v1 v0 => iter (interp ([]) ty 21 0 n laws_heldInt64Skp (codeAt laws_heldInt64Sc [1, 0, 1, 0, 0])) (canon 0 (laws_heldInt64Skp.loop 2)) (kAt ([]) ty 21 0 n laws_heldInt64Skp laws_heldInt64Sc [1, 0, 1, 0] [] (ending ty 0 Go.Proofs.Try.f20.results.toList laws_heldInt64Srs laws_heldInt64Sbs)) k { env := [(5, .one (.sc (.int .i64 v5))), (1, .one (.sc (.int .i64 v1))), (0, .one (.list true (.int .i64) v0))], bx := [], nx := 0 }) a0 a1 := by kernel_rfl
  rw [h]
  have e := congrArg (fun h2 => laws_heldInt64S_t n h2 a0 a1) (funext fun k => funext fun v5 => funext fun v1 => funext fun v0 => laws_heldInt64S_l2_eq n k v5 v1 v0)
  exact e

theorem laws_heldInt64S_ok (n : Nat) : FunOk P (laws_heldInt64SF n) :=
  funOk_mk (C := []) (N := 21) (kp := laws_heldInt64Skp) (c := laws_heldInt64Sc) (n := n) (G := fun x y => laws_heldInt64S n x.1 x.2.1) follows (AllOk.mem (trivial : AllOk P ([]))) (by kernel_rfl : P.funcs[20]? = some Go.Proofs.Try.f20) (by kernel_rfl) (by kernel_rfl) (by kernel_rfl)
    (fun x y => laws_heldInt64S_eq n x.1 x.2.1) (fun _ _ => map_same (fun _ => rfl) _) (fun _ _ _ _ => rfl)

abbrev laws_FnExactShareWholesp : List Sp := [.v false (.list (.int .i64)), .v false (.int .i64)]
abbrev laws_FnExactShareWholebs : List (Bs × Bool) := []
abbrev laws_FnExactShareWholers : List (Bool × List Rp) := [(false, [.v false .bool])]
noncomputable def laws_FnExactShareWholekp : Keep := { loop := fun id => match id with | _ => [], join := fun id => match id with | _ => none }
noncomputable def laws_FnExactShareWholec : Code := bodyOf Go.Proofs.Try.f3
noncomputable def laws_FnExactShareWholeF (n : Nat) : Fun := { id := 3, sp := laws_FnExactShareWholesp, bs := laws_FnExactShareWholebs, rs := laws_FnExactShareWholers, f := fun x y => laws_FnExactShareWhole n x.1 x.2.1 }

theorem laws_FnExactShareWhole_eq (n : Nat) (a0 : List (Int)) (a1 : Int) : runBody ([laws_toInt64SF n, spec_ShareWholeF n, impl_ShareWholeF n, laws_eqInt64SF n, laws_markInt64SF n, laws_heldInt64SF n]) ty 98 n laws_FnExactShareWholekp laws_FnExactShareWholec Go.Proofs.Try.f3.results.toList laws_FnExactShareWholers laws_FnExactShareWholesp laws_FnExactShareWholebs (a0, (a1, ())) () = laws_FnExactShareWhole n a0 a1 := by
  have h : runBody ([laws_toInt64SF n, spec_ShareWholeF n, impl_ShareWholeF n, laws_eqInt64SF n, laws_markInt64SF n, laws_heldInt64SF n]) ty 98 n laws_FnExactShareWholekp laws_FnExactShareWholec Go.Proofs.Try.f3.results.toList laws_FnExactShareWholers laws_FnExactShareWholesp laws_FnExactShareWholebs (a0, (a1, ())) () = laws_FnExactShareWhole_t n a0 a1 := by kernel_rfl
  rw [h]
  rfl

theorem laws_FnExactShareWhole_ok (n : Nat) : FunOk P (laws_FnExactShareWholeF n) :=
  funOk_mk (C := [laws_toInt64SF n, spec_ShareWholeF n, impl_ShareWholeF n, laws_eqInt64SF n, laws_markInt64SF n, laws_heldInt64SF n]) (N := 98) (kp := laws_FnExactShareWholekp) (c := laws_FnExactShareWholec) (n := n) (G := fun x y => laws_FnExactShareWhole n x.1 x.2.1) follows (AllOk.mem (⟨laws_toInt64S_ok n, ⟨spec_ShareWhole_ok n, ⟨impl_ShareWhole_ok n, ⟨laws_eqInt64S_ok n, ⟨laws_markInt64S_ok n, ⟨laws_heldInt64S_ok n, trivial⟩⟩⟩⟩⟩⟩ : AllOk P ([laws_toInt64SF n, spec_ShareWholeF n, impl_ShareWholeF n, laws_eqInt64SF n, laws_markInt64SF n, laws_heldInt64SF n]))) (by kernel_rfl : P.funcs[3]? = some Go.Proofs.Try.f3) (by kernel_rfl) (by kernel_rfl) (by kernel_rfl)
    (fun x y => laws_FnExactShareWhole_eq n x.1 x.2.1) (fun _ _ => map_same (fun _ => rfl) _) (fun _ _ _ _ => rfl)

end Go.Abs
