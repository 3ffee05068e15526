import Derived.Test.YtbdbfoffekcjoaaDFaultsFrom0
import Derived.Test.YtbdbfoffekcjoaaProg
import Derived.Test.YtbdbfoffekcjoaaRow
import Derived.KernelRfl
namespace Go.Abs
open Go.Proofs
set_option maxRecDepth 100000
set_option linter.unusedVariables false

noncomputable abbrev P : Program := Try.prog
noncomputable abbrev ty : Nat → Option TyI := tyOf P
def bodyOf (f : Func) : Code := match f.body with | some c => c | none => .skip
theorem follows : P.follows .mixedOrders = true := by kernel_rfl

abbrev laws_toInt64Ssp : List Sp := [.v false (.list (.int .i64))]
abbrev laws_toInt64Sbs : List (Bs × Bool) := []
abbrev laws_toInt64Srs : List (Bool × List Rp) := [(false, [.new  (.int .i64)])]
noncomputable def laws_toInt64Skp : Keep := { loop := fun id => match id with | 3 => [4, 0, 3] | _ => [], join := fun id => match id with | _ => none }
noncomputable def laws_toInt64Sc : Code := bodyOf Go.Proofs.Try.f16
noncomputable def laws_toInt64SF (n : Nat) : Fun := { id := 16, sp := laws_toInt64Ssp, bs := laws_toInt64Sbs, rs := laws_toInt64Srs, f := fun x y => laws_toInt64S n x.1 }

theorem laws_toInt64S_l3_eq (n : Nat) : ∀ (k : Nat) (v4 : Int) (v0 : List (Int)) (b0 : List (Int)), iter (interp ([]) ty 22 0 n laws_toInt64Skp (codeAt laws_toInt64Sc [1, 1, 0, 1, 0, 0])) (canon 0 (laws_toInt64Skp.loop 3)) (kAt ([]) ty 22 0 n laws_toInt64Skp laws_toInt64Sc [1, 1, 0, 1, 0] [] (ending ty 0 Go.Proofs.Try.f16.results.toList laws_toInt64Srs laws_toInt64Sbs)) k { env := [(4, .one (.sc (.int .i64 v4))), (0, .one (.list true (.int .i64) v0)), (3, .one (.slice 0 0 none))], bx := [(0, .row 0 (.int .i64) b0)], nx := 1 } = laws_toInt64S_l3 n k v4 v0 b0
  | 0, _, _, _ => by kernel_rfl
  | k + 1, v4, v0, b0 => by
    have h : iter (interp ([]) ty 22 0 n laws_toInt64Skp (codeAt laws_toInt64Sc [1, 1, 0, 1, 0, 0])) (canon 0 (laws_toInt64Skp.loop 3)) (kAt ([]) ty 22 0 n laws_toInt64Skp laws_toInt64Sc [1, 1, 0, 1, 0] [] (ending ty 0 Go.Proofs.Try.f16.results.toList laws_toInt64Srs laws_toInt64Sbs)) (k + 1) { env := [(4, .one (.sc (.int .i64 v4))), (0, .one (.list true (.int .i64) v0)), (3, .one (.slice 0 0 none))], bx := [(0, .row 0 (.int .i64) b0)], nx := 1 } = laws_toInt64S_t3 n (fun v4 v0 b0 => iter (interp ([]) ty 22 0 n laws_toInt64Skp (codeAt laws_toInt64Sc [1, 1, 0, 1, 0, 0])) (canon 0 (laws_toInt64Skp.loop 3)) (kAt ([]) ty 22 0 n laws_toInt64Skp laws_toInt64Sc [1, 1, 0, 1, 0] [] (ending ty 0 Go.Proofs.Try.f16.results.toList laws_toInt64Srs laws_toInt64Sbs)) k { env := [(4, .one (.sc (.int .i64 v4))), (0, .one (.list true (.int .i64) v0)), (3, .one (.slice 0 0 none))], bx := [(0, .row 0 (.int .i64) b0)], nx := 1 }) v4 v0 b0 := by kernel_rfl
    rw [h]
    have e := congrArg (fun g => laws_toInt64S_t3 n g v4 v0 b0) (funext fun v4 => funext fun v0 => funext fun b0 => laws_toInt64S_l3_eq n k v4 v0 b0)
    exact e

theorem laws_toInt64S_eq (n : Nat) (a0 : List (Int)) : runBody ([]) ty 22 n laws_toInt64Skp laws_toInt64Sc Go.Proofs.Try.f16.results.toList laws_toInt64Srs laws_toInt64Ssp laws_toInt64Sbs (a0, ()) () = laws_toInt64S n a0 := by
  have h : runBody ([]) ty 22 n laws_toInt64Skp laws_toInt64Sc Go.Proofs.Try.f16.results.toList laws_toInt64Srs laws_toInt64Ssp laws_toInt64Sbs (a0, ()) () = laws_toInt64S_t n (fun k v4 v0 b0 => iter (interp ([]) ty 22 0 n laws_toInt64Skp (codeAt laws_toInt64Sc [1, 1, 0, 1, 0, 0])) (canon 0 (laws_toInt64Skp.loop 3)) (kAt ([]) ty 22 0 n laws_toInt64Skp laws_toInt64Sc [1, 1, 0, 1, 0] [] (ending ty 0 Go.Proofs.Try.f16.results.toList laws_toInt64Srs laws_toInt64Sbs)) k { env := [(4, .one (.sc (.int .i64 v4))), (0, .one (.list true (.int .i64) v0)), (3, .one (.slice 0 0 none))], bx := [(0, .row 0 (.int .i64) b0)], nx := 1 }) a0 := by kernel_rfl
  rw [h]
  have e := congrArg (fun h3 => laws_toInt64S_t n h3 a0) (funext fun k => funext fun v4 => funext fun v0 => funext fun b0 => laws_toInt64S_l3_eq n k v4 v0 b0)
  exact e

theorem laws_toInt64S_ok (n : Nat) : FunOk P (laws_toInt64SF n) :=
  funOk_mk (C := []) (N := 22) (kp := laws_toInt64Skp) (c := laws_toInt64Sc) (n := n) (G := fun x y => laws_toInt64S n x.1) follows (AllOk.mem (trivial : AllOk P ([]))) (by kernel_rfl : P.funcs[16]? = some Go.Proofs.Try.f16) (by kernel_rfl) (by kernel_rfl) (by kernel_rfl)
    (fun x y => laws_toInt64S_eq n x.1) (fun _ _ => map_same (fun _ => rfl) _) (fun _ _ _ _ => rfl)

abbrev spec_l00Insp : List Sp := [.v false (.int .i64), .v false (.int .i64), .v false (.int .i64)]
abbrev spec_l00Inbs : List (Bs × Bool) := []
abbrev spec_l00Inrs : List (Bool × List Rp) := [(false, [.v false .bool])]
noncomputable def spec_l00Inkp : Keep := { loop := fun id => match id with | _ => [], join := fun id => match id with | _ => none }
noncomputable def spec_l00Inc : Code := bodyOf Go.Proofs.Try.f66
noncomputable def spec_l00InF (n : Nat) : Fun := { id := 66, sp := spec_l00Insp, bs := spec_l00Inbs, rs := spec_l00Inrs, f := fun x y => spec_l00In n x.1 x.2.1 x.2.2.1 }

theorem spec_l00In_eq (n : Nat) (a0 : Int) (a1 : Int) (a2 : Int) : runBody ([]) ty 15 n spec_l00Inkp spec_l00Inc Go.Proofs.Try.f66.results.toList spec_l00Inrs spec_l00Insp spec_l00Inbs (a0, (a1, (a2, ()))) () = spec_l00In n a0 a1 a2 := by
  have h : runBody ([]) ty 15 n spec_l00Inkp spec_l00Inc Go.Proofs.Try.f66.results.toList spec_l00Inrs spec_l00Insp spec_l00Inbs (a0, (a1, (a2, ()))) () = spec_l00In_t n a0 a1 a2 := by kernel_rfl
  rw [h]
  rfl

theorem spec_l00In_ok (n : Nat) : FunOk P (spec_l00InF n) :=
  funOk_mk (C := []) (N := 15) (kp := spec_l00Inkp) (c := spec_l00Inc) (n := n) (G := fun x y => spec_l00In n x.1 x.2.1 x.2.2.1) follows (AllOk.mem (trivial : AllOk P ([]))) (by kernel_rfl : P.funcs[66]? = some Go.Proofs.Try.f66) (by kernel_rfl) (by kernel_rfl) (by kernel_rfl)
    (fun x y => spec_l00In_eq n x.1 x.2.1 x.2.2.1) (fun _ _ => map_same (fun _ => rfl) _) (fun _ _ _ _ => rfl)

abbrev spec_l03Sectorssp : List Sp := [.v false (.list (.int .i64))]
abbrev spec_l03Sectorsbs : List (Bs × Bool) := []
abbrev spec_l03Sectorsrs : List (Bool × List Rp) := [(false, [.v false (.int .i64)])]
noncomputable def spec_l03Sectorskp : Keep := { loop := fun id => match id with | 4 => [3, 0] | _ => [], join := fun id => match id with | _ => none }
noncomputable def spec_l03Sectorsc : Code := bodyOf Go.Proofs.Try.f81
noncomputable def spec_l03SectorsF (n : Nat) : Fun := { id := 81, sp := spec_l03Sectorssp, bs := spec_l03Sectorsbs, rs := spec_l03Sectorsrs, f := fun x y => spec_l03Sectors n x.1 }

theorem spec_l03Sectors_l4_eq (n : Nat) : ∀ (k : Nat) (v3 : Int) (v0 : List (Int)), iter (interp ([spec_l00InF n]) ty 20 0 n spec_l03Sectorskp (codeAt spec_l03Sectorsc [1, 1, 0, 1, 0, 0])) (canon 0 (spec_l03Sectorskp.loop 4)) (kAt ([spec_l00InF n]) ty 20 0 n spec_l03Sectorskp spec_l03Sectorsc [1, 1, 0, 1, 0] [] (ending ty 0 Go.Proofs.Try.f81.results.toList spec_l03Sectorsrs spec_l03Sectorsbs)) k { env := [(3, .one (.sc (.int .i64 v3))), (0, .one (.list true (.int .i64) v0))], bx := [], nx := 0 } = spec_l03Sectors_l4 n k v3 v0
  | 0, _, _ => by kernel_rfl
  | k + 1, v3, v0 => by
    have h : iter (interp ([spec_l00InF n]) ty 20 0 n spec_l03Sectorskp (codeAt spec_l03Sectorsc [1, 1, 0, 1, 0, 0])) (canon 0 (spec_l03Sectorskp.loop 4)) (kAt ([spec_l00InF n]) ty 20 0 n spec_l03Sectorskp spec_l03Sectorsc [1, 1, 0, 1, 0] [] (ending ty 0 Go.Proofs.Try.f81.results.toList spec_l03Sectorsrs spec_l03Sectorsbs)) (k + 1) { env := [(3, .one (.sc (.int .i64 v3))), (0, .one (.list true (.int .i64) v0))], bx := [], nx := 0 } = spec_l03Sectors_t4 n (fun v3 v0 => iter (interp ([spec_l00InF n]) ty 20 0 n spec_l03Sectorskp (codeAt spec_l03Sectorsc [1, 1, 0, 1, 0, 0])) (canon 0 (spec_l03Sectorskp.loop 4)) (kAt ([spec_l00InF n]) ty 20 0 n spec_l03Sectorskp spec_l03Sectorsc [1, 1, 0, 1, 0] [] (ending ty 0 Go.Proofs.Try.f81.results.toList spec_l03Sectorsrs spec_l03Sectorsbs)) k { env := [(3, .one (.sc (.int .i64 v3))), (0, .one (.list true (.int .i64) v0))], bx := [], nx := 0 }) v3 v0 := by kernel_rfl
    rw [h]
    have e := congrArg (fun g => spec_l03Sectors_t4 n g v3 v0) (funext fun v3 => funext fun v0 => spec_l03Sectors_l4_eq n k v3 v0)
    exact e

theorem spec_l03Sectors_eq (n : Nat) (a0 : List (Int)) : runBody ([spec_l00InF n]) ty 20 n spec_l03Sectorskp spec_l03Sectorsc Go.Proofs.Try.f81.results.toList spec_l03Sectorsrs spec_l03Sectorssp spec_l03Sectorsbs (a0, ()) () = spec_l03Sectors n a0 := by
  have h : runBody ([spec_l00InF n]) ty 20 n spec_l03Sectorskp spec_l03Sectorsc Go.Proofs.Try.f81.results.toList spec_l03Sectorsrs spec_l03Sectorssp spec_l03Sectorsbs (a0, ()) () = spec_l03Sectors_t n (fun k v3 v0 => iter (interp ([spec_l00InF n]) ty 20 0 n spec_l03Sectorskp (codeAt spec_l03Sectorsc [1, 1, 0, 1, 0, 0])) (canon 0 (spec_l03Sectorskp.loop 4)) (kAt ([spec_l00InF n]) ty 20 0 n spec_l03Sectorskp spec_l03Sectorsc [1, 1, 0, 1, 0] [] (ending ty 0 Go.Proofs.Try.f81.results.toList spec_l03Sectorsrs spec_l03Sectorsbs)) k { env := [(3, .one (.sc (.int .i64 v3))), (0, .one (.list true (.int .i64) v0))], bx := [], nx := 0 }) a0 := by kernel_rfl
  rw [h]
  have e := congrArg (fun h4 => spec_l03Sectors_t n h4 a0) (funext fun k => funext fun v3 => funext fun v0 => spec_l03Sectors_l4_eq n k v3 v0)
  exact e

theorem spec_l03Sectors_ok (n : Nat) : FunOk P (spec_l03SectorsF n) :=
  funOk_mk (C := [spec_l00InF n]) (N := 20) (kp := spec_l03Sectorskp) (c := spec_l03Sectorsc) (n := n) (G := fun x y => spec_l03Sectors n x.1) follows (AllOk.mem (⟨spec_l00In_ok n, trivial⟩ : AllOk P ([spec_l00InF n]))) (by kernel_rfl : P.funcs[81]? = some Go.Proofs.Try.f81) (by kernel_rfl) (by kernel_rfl) (by kernel_rfl)
    (fun x y => spec_l03Sectors_eq n x.1) (fun _ _ => map_same (fun _ => rfl) _) (fun _ _ _ _ => rfl)

abbrev spec_l03Closingsp : List Sp := [.v false (.list (.int .i64))]
abbrev spec_l03Closingbs : List (Bs × Bool) := []
abbrev spec_l03Closingrs : List (Bool × List Rp) := [(false, [.v false (.int .i64)])]
noncomputable def spec_l03Closingkp : Keep := { loop := fun id => match id with | 3 => [4, 0, 3] | _ => [], join := fun id => match id with | _ => none }
noncomputable def spec_l03Closingc : Code := bodyOf Go.Proofs.Try.f140
noncomputable def spec_l03ClosingF (n : Nat) : Fun := { id := 140, sp := spec_l03Closingsp, bs := spec_l03Closingbs, rs := spec_l03Closingrs, f := fun x y => spec_l03Closing n x.1 }

theorem spec_l03Closing_l3_eq (n : Nat) : ∀ (k : Nat) (v4 : Int) (v0 : List (Int)) (v3 : Int), iter (interp ([]) ty 18 0 n spec_l03Closingkp (codeAt spec_l03Closingc [1, 1, 0, 1, 0, 0])) (canon 0 (spec_l03Closingkp.loop 3)) (kAt ([]) ty 18 0 n spec_l03Closingkp spec_l03Closingc [1, 1, 0, 1, 0] [] (ending ty 0 Go.Proofs.Try.f140.results.toList spec_l03Closingrs spec_l03Closingbs)) k { env := [(4, .one (.sc (.int .i64 v4))), (0, .one (.list true (.int .i64) v0)), (3, .one (.sc (.int .i64 v3)))], bx := [], nx := 0 } = spec_l03Closing_l3 n k v4 v0 v3
  | 0, _, _, _ => by kernel_rfl
  | k + 1, v4, v0, v3 => by
    have h : iter (interp ([]) ty 18 0 n spec_l03Closingkp (codeAt spec_l03Closingc [1, 1, 0, 1, 0, 0])) (canon 0 (spec_l03Closingkp.loop 3)) (kAt ([]) ty 18 0 n spec_l03Closingkp spec_l03Closingc [1, 1, 0, 1, 0] [] (ending ty 0 Go.Proofs.Try.f140.results.toList spec_l03Closingrs spec_l03Closingbs)) (k + 1) { env := [(4, .one (.sc (.int .i64 v4))), (0, .one (.list true (.int .i64) v0)), (3, .one (.sc (.int .i64 v3)))], bx := [], nx := 0 } = spec_l03Closing_t3 n (fun v4 v0 v3 => iter (interp ([]) ty 18 0 n spec_l03Closingkp (codeAt spec_l03Closingc [1, 1, 0, 1, 0, 0])) (canon 0 (spec_l03Closingkp.loop 3)) (kAt ([]) ty 18 0 n spec_l03Closingkp spec_l03Closingc [1, 1, 0, 1, 0] [] (ending ty 0 Go.Proofs.Try.f140.results.toList spec_l03Closingrs spec_l03Closingbs)) k { env := [(4, .one (.sc (.int .i64 v4))), (0, .one (.list true (.int .i64) v0)), (3, .one (.sc (.int .i64 v3)))], bx := [], nx := 0 }) v4 v0 v3 := by kernel_rfl
    rw [h]
    have e := congrArg (fun g => spec_l03Closing_t3 n g v4 v0 v3) (funext fun v4 => funext fun v0 => funext fun v3 => spec_l03Closing_l3_eq n k v4 v0 v3)
    exact e

theorem spec_l03Closing_eq (n : Nat) (a0 : List (Int)) : runBody ([]) ty 18 n spec_l03Closingkp spec_l03Closingc Go.Proofs.Try.f140.results.toList spec_l03Closingrs spec_l03Closingsp spec_l03Closingbs (a0, ()) () = spec_l03Closing n a0 := by
  have h : runBody ([]) ty 18 n spec_l03Closingkp spec_l03Closingc Go.Proofs.Try.f140.results.toList spec_l03Closingrs spec_l03Closingsp spec_l03Closingbs (a0, ()) () = spec_l03Closing_t n (fun k v4 v0 v3 => iter (interp ([]) ty 18 0 n spec_l03Closingkp (codeAt spec_l03Closingc [1, 1, 0, 1, 0, 0])) (canon 0 (spec_l03Closingkp.loop 3)) (kAt ([]) ty 18 0 n spec_l03Closingkp spec_l03Closingc [1, 1, 0, 1, 0] [] (ending ty 0 Go.Proofs.Try.f140.results.toList spec_l03Closingrs spec_l03Closingbs)) k { env := [(4, .one (.sc (.int .i64 v4))), (0, .one (.list true (.int .i64) v0)), (3, .one (.sc (.int .i64 v3)))], bx := [], nx := 0 }) a0 := by kernel_rfl
  rw [h]
  have e := congrArg (fun h3 => spec_l03Closing_t n h3 a0) (funext fun k => funext fun v4 => funext fun v0 => funext fun v3 => spec_l03Closing_l3_eq n k v4 v0 v3)
  exact e

theorem spec_l03Closing_ok (n : Nat) : FunOk P (spec_l03ClosingF n) :=
  funOk_mk (C := []) (N := 18) (kp := spec_l03Closingkp) (c := spec_l03Closingc) (n := n) (G := fun x y => spec_l03Closing n x.1) follows (AllOk.mem (trivial : AllOk P ([]))) (by kernel_rfl : P.funcs[140]? = some Go.Proofs.Try.f140) (by kernel_rfl) (by kernel_rfl) (by kernel_rfl)
    (fun x y => spec_l03Closing_eq n x.1) (fun _ _ => map_same (fun _ => rfl) _) (fun _ _ _ _ => rfl)

abbrev spec_l01Downsp : List Sp := [.v false (.int .i64), .v false (.int .i64)]
abbrev spec_l01Downbs : List (Bs × Bool) := []
abbrev spec_l01Downrs : List (Bool × List Rp) := [(false, [.v false (.int .i64)])]
noncomputable def spec_l01Downkp : Keep := { loop := fun id => match id with | _ => [], join := fun id => match id with | _ => none }
noncomputable def spec_l01Downc : Code := bodyOf Go.Proofs.Try.f67
noncomputable def spec_l01DownF (n : Nat) : Fun := { id := 67, sp := spec_l01Downsp, bs := spec_l01Downbs, rs := spec_l01Downrs, f := fun x y => spec_l01Down n x.1 x.2.1 }

theorem spec_l01Down_eq (n : Nat) (a0 : Int) (a1 : Int) : runBody ([]) ty 16 n spec_l01Downkp spec_l01Downc Go.Proofs.Try.f67.results.toList spec_l01Downrs spec_l01Downsp spec_l01Downbs (a0, (a1, ())) () = spec_l01Down n a0 a1 := by
  have h : runBody ([]) ty 16 n spec_l01Downkp spec_l01Downc Go.Proofs.Try.f67.results.toList spec_l01Downrs spec_l01Downsp spec_l01Downbs (a0, (a1, ())) () = spec_l01Down_t n a0 a1 := by kernel_rfl
  rw [h]
  rfl

theorem spec_l01Down_ok (n : Nat) : FunOk P (spec_l01DownF n) :=
  funOk_mk (C := []) (N := 16) (kp := spec_l01Downkp) (c := spec_l01Downc) (n := n) (G := fun x y => spec_l01Down n x.1 x.2.1) follows (AllOk.mem (trivial : AllOk P ([]))) (by kernel_rfl : P.funcs[67]? = some Go.Proofs.Try.f67) (by kernel_rfl) (by kernel_rfl) (by kernel_rfl)
    (fun x y => spec_l01Down_eq n x.1 x.2.1) (fun _ _ => map_same (fun _ => rfl) _) (fun _ _ _ _ => rfl)

abbrev spec_l03Sharedsp : List Sp := [.v false (.list (.int .i64))]
abbrev spec_l03Sharedbs : List (Bs × Bool) := []
abbrev spec_l03Sharedrs : List (Bool × List Rp) := [(false, [.new  (.int .i64)])]
noncomputable def spec_l03Sharedkp : Keep := { loop := fun id => match id with | 5 => [6, 3, 4, 0, 5] | _ => [], join := fun id => match id with | _ => none }
noncomputable def spec_l03Sharedc : Code := bodyOf Go.Proofs.Try.f82
noncomputable def spec_l03SharedF (n : Nat) : Fun := { id := 82, sp := spec_l03Sharedsp, bs := spec_l03Sharedbs, rs := spec_l03Sharedrs, f := fun x y => spec_l03Shared n x.1 }

theorem spec_l03Shared_l5_eq (n : Nat) : ∀ (k : Nat) (v6 : Int) (v3 : Int) (v4 : Int) (v0 : List (Int)) (b0 : List (Int)), iter (interp ([spec_l03ClosingF n, spec_l01DownF n]) ty 38 0 n spec_l03Sharedkp (codeAt spec_l03Sharedc [1, 1, 1, 1, 0, 1, 0, 0])) (canon 0 (spec_l03Sharedkp.loop 5)) (kAt ([spec_l03ClosingF n, spec_l01DownF n]) ty 38 0 n spec_l03Sharedkp spec_l03Sharedc [1, 1, 1, 1, 0, 1, 0] [] (ending ty 0 Go.Proofs.Try.f82.results.toList spec_l03Sharedrs spec_l03Sharedbs)) k { env := [(6, .one (.sc (.int .i64 v6))), (3, .one (.sc (.int .i64 v3))), (4, .one (.sc (.int .i64 v4))), (0, .one (.list true (.int .i64) v0)), (5, .one (.slice 0 0 none))], bx := [(0, .row 0 (.int .i64) b0)], nx := 1 } = spec_l03Shared_l5 n k v6 v3 v4 v0 b0
  | 0, _, _, _, _, _ => by kernel_rfl
  | k + 1, v6, v3, v4, v0, b0 => by
    have h : iter (interp ([spec_l03ClosingF n, spec_l01DownF n]) ty 38 0 n spec_l03Sharedkp (codeAt spec_l03Sharedc [1, 1, 1, 1, 0, 1, 0, 0])) (canon 0 (spec_l03Sharedkp.loop 5)) (kAt ([spec_l03ClosingF n, spec_l01DownF n]) ty 38 0 n spec_l03Sharedkp spec_l03Sharedc [1, 1, 1, 1, 0, 1, 0] [] (ending ty 0 Go.Proofs.Try.f82.results.toList spec_l03Sharedrs spec_l03Sharedbs)) (k + 1) { env := [(6, .one (.sc (.int .i64 v6))), (3, .one (.sc (.int .i64 v3))), (4, .one (.sc (.int .i64 v4))), (0, .one (.list true (.int .i64) v0)), (5, .one (.slice 0 0 none))], bx := [(0, .row 0 (.int .i64) b0)], nx := 1 } = spec_l03Shared_t5 n (fun v6 v3 v4 v0 b0 => iter (interp ([spec_l03ClosingF n, spec_l01DownF n]) ty 38 0 n spec_l03Sharedkp (codeAt spec_l03Sharedc [1, 1, 1, 1, 0, 1, 0, 0])) (canon 0 (spec_l03Sharedkp.loop 5)) (kAt ([spec_l03ClosingF n, spec_l01DownF n]) ty 38 0 n spec_l03Sharedkp spec_l03Sharedc [1, 1, 1, 1, 0, 1, 0] [] (ending ty 0 Go.Proofs.Try.f82.results.toList spec_l03Sharedrs spec_l03Sharedbs)) k { env := [(6, .one (.sc (.int .i64 v6))), (3, .one (.sc (.int .i64 v3))), (4, .one (.sc (.int .i64 v4))), (0, .one (.list true (.int .i64) v0)), (5, .one (.slice 0 0 none))], bx := [(0, .row 0 (.int .i64) b0)], nx := 1 }) v6 v3 v4 v0 b0 := by kernel_rfl
    rw [h]
    have e := congrArg (fun g => spec_l03Shared_t5 n g v6 v3 v4 v0 b0) (funext fun v6 => funext fun v3 => funext fun v4 => funext fun v0 => funext fun b0 => spec_l03Shared_l5_eq n k v6 v3 v4 v0 b0)
    exact e

theorem spec_l03Shared_eq (n : Nat) (a0 : List (Int)) : runBody ([spec_l03ClosingF n, spec_l01DownF n]) ty 38 n spec_l03Sharedkp spec_l03Sharedc Go.Proofs.Try.f82.results.toList spec_l03Sharedrs spec_l03Sharedsp spec_l03Sharedbs (a0, ()) () = spec_l03Shared n a0 := by
  have h : runBody ([spec_l03ClosingF n, spec_l01DownF n]) ty 38 n spec_l03Sharedkp spec_l03Sharedc Go.Proofs.Try.f82.results.toList spec_l03Sharedrs spec_l03Sharedsp spec_l03Sharedbs (a0, ()) () = spec_l03Shared_t n (fun k v6 v3 v4 v0 b0 => iter (interp ([spec_l03ClosingF n, spec_l01DownF n]) ty 38 0 n spec_l03Sharedkp (codeAt spec_l03Sharedc [1, 1, 1, 1, 0, 1, 0, 0])) (canon 0 (spec_l03Sharedkp.loop 5)) (kAt ([spec_l03ClosingF n, spec_l01DownF n]) ty 38 0 n spec_l03Sharedkp spec_l03Sharedc [1, 1, 1, 1, 0, 1, 0] [] (ending ty 0 Go.Proofs.Try.f82.results.toList spec_l03Sharedrs spec_l03Sharedbs)) k { env := [(6, .one (.sc (.int .i64 v6))), (3, .one (.sc (.int .i64 v3))), (4, .one (.sc (.int .i64 v4))), (0, .one (.list true (.int .i64) v0)), (5, .one (.slice 0 0 none))], bx := [(0, .row 0 (.int .i64) b0)], nx := 1 }) a0 := by kernel_rfl
  rw [h]
  have e := congrArg (fun h5 => spec_l03Shared_t n h5 a0) (funext fun k => funext fun v6 => funext fun v3 => funext fun v4 => funext fun v0 => funext fun b0 => spec_l03Shared_l5_eq n k v6 v3 v4 v0 b0)
  exact e

theorem spec_l03Shared_ok (n : Nat) : FunOk P (spec_l03SharedF n) :=
  funOk_mk (C := [spec_l03ClosingF n, spec_l01DownF n]) (N := 38) (kp := spec_l03Sharedkp) (c := spec_l03Sharedc) (n := n) (G := fun x y => spec_l03Shared n x.1) follows (AllOk.mem (⟨spec_l03Closing_ok n, ⟨spec_l01Down_ok n, trivial⟩⟩ : AllOk P ([spec_l03ClosingF n, spec_l01DownF n]))) (by kernel_rfl : P.funcs[82]? = some Go.Proofs.Try.f82) (by kernel_rfl) (by kernel_rfl) (by kernel_rfl)
    (fun x y => spec_l03Shared_eq n x.1) (fun _ _ => map_same (fun _ => rfl) _) (fun _ _ _ _ => rfl)

abbrev spec_FaultsFromsp : List Sp := [.v false (.list (.int .i64))]
abbrev spec_FaultsFrombs : List (Bs × Bool) := []
abbrev spec_FaultsFromrs : List (Bool × List Rp) := [(false, [.new  (.int .i64)]), (false, [.v false (.int .i64)])]
noncomputable def spec_FaultsFromkp : Keep := { loop := fun id => match id with | 10 => [8, 5, 6, 7] | _ => [], join := fun id => match id with | _ => none }
noncomputable def spec_FaultsFromc : Code := bodyOf Go.Proofs.Try.f36
noncomputable def spec_FaultsFromF (n : Nat) : Fun := { id := 36, sp := spec_FaultsFromsp, bs := spec_FaultsFrombs, rs := spec_FaultsFromrs, f := fun x y => spec_FaultsFrom n x.1 }

theorem spec_FaultsFrom_l10_eq (n : Nat) : ∀ (k : Nat) (v8 : Int) (v5 : Int) (b0 : List (Int)) (b1 : List (Int)), iter (interp ([spec_l03SectorsF n, spec_l03SharedF n]) ty 47 0 n spec_FaultsFromkp (codeAt spec_FaultsFromc [1, 1, 1, 1, 1, 1, 0, 1, 0, 0])) (canon 0 (spec_FaultsFromkp.loop 10)) (kAt ([spec_l03SectorsF n, spec_l03SharedF n]) ty 47 0 n spec_FaultsFromkp spec_FaultsFromc [1, 1, 1, 1, 1, 1, 0, 1, 0] [] (ending ty 0 Go.Proofs.Try.f36.results.toList spec_FaultsFromrs spec_FaultsFrombs)) k { env := [(8, .one (.sc (.int .i64 v8))), (5, .one (.sc (.int .i64 v5))), (6, .one (.slice 0 0 none)), (7, .one (.slice 1 0 none))], bx := [(0, .row 0 (.int .i64) b0), (1, .row 0 (.int .i64) b1)], nx := 2 } = spec_FaultsFrom_l10 n k v8 v5 b0 b1
  | 0, _, _, _, _ => by kernel_rfl
  | k + 1, v8, v5, b0, b1 => by
    have h : iter (interp ([spec_l03SectorsF n, spec_l03SharedF n]) ty 47 0 n spec_FaultsFromkp (codeAt spec_FaultsFromc [1, 1, 1, 1, 1, 1, 0, 1, 0, 0])) (canon 0 (spec_FaultsFromkp.loop 10)) (kAt ([spec_l03SectorsF n, spec_l03SharedF n]) ty 47 0 n spec_FaultsFromkp spec_FaultsFromc [1, 1, 1, 1, 1, 1, 0, 1, 0] [] (ending ty 0 Go.Proofs.Try.f36.results.toList spec_FaultsFromrs spec_FaultsFrombs)) (k + 1) { env := [(8, .one (.sc (.int .i64 v8))), (5, .one (.sc (.int .i64 v5))), (6, .one (.slice 0 0 none)), (7, .one (.slice 1 0 none))], bx := [(0, .row 0 (.int .i64) b0), (1, .row 0 (.int .i64) b1)], nx := 2 } = spec_FaultsFrom_t10 n (fun v8 v5 b0 b1 => iter (interp ([spec_l03SectorsF n, spec_l03SharedF n]) ty 47 0 n spec_FaultsFromkp (codeAt spec_FaultsFromc [1, 1, 1, 1, 1, 1, 0, 1, 0, 0])) (canon 0 (spec_FaultsFromkp.loop 10)) (kAt ([spec_l03SectorsF n, spec_l03SharedF n]) ty 47 0 n spec_FaultsFromkp spec_FaultsFromc [1, 1, 1, 1, 1, 1, 0, 1, 0] [] (ending ty 0 Go.Proofs.Try.f36.results.toList spec_FaultsFromrs spec_FaultsFrombs)) k { env := [(8, .one (.sc (.int .i64 v8))), (5, .one (.sc (.int .i64 v5))), (6, .one (.slice 0 0 none)), (7, .one (.slice 1 0 none))], bx := [(0, .row 0 (.int .i64) b0), (1, .row 0 (.int .i64) b1)], nx := 2 }) v8 v5 b0 b1 := by kernel_rfl
    rw [h]
    have e := congrArg (fun g => spec_FaultsFrom_t10 n g v8 v5 b0 b1) (funext fun v8 => funext fun v5 => funext fun b0 => funext fun b1 => spec_FaultsFrom_l10_eq n k v8 v5 b0 b1)
    exact e

theorem spec_FaultsFrom_eq (n : Nat) (a0 : List (Int)) : runBody ([spec_l03SectorsF n, spec_l03SharedF n]) ty 47 n spec_FaultsFromkp spec_FaultsFromc Go.Proofs.Try.f36.results.toList spec_FaultsFromrs spec_FaultsFromsp spec_FaultsFrombs (a0, ()) () = spec_FaultsFrom n a0 := by
  have h : runBody ([spec_l03SectorsF n, spec_l03SharedF n]) ty 47 n spec_FaultsFromkp spec_FaultsFromc Go.Proofs.Try.f36.results.toList spec_FaultsFromrs spec_FaultsFromsp spec_FaultsFrombs (a0, ()) () = spec_FaultsFrom_t n (fun k v8 v5 b0 b1 => iter (interp ([spec_l03SectorsF n, spec_l03SharedF n]) ty 47 0 n spec_FaultsFromkp (codeAt spec_FaultsFromc [1, 1, 1, 1, 1, 1, 0, 1, 0, 0])) (canon 0 (spec_FaultsFromkp.loop 10)) (kAt ([spec_l03SectorsF n, spec_l03SharedF n]) ty 47 0 n spec_FaultsFromkp spec_FaultsFromc [1, 1, 1, 1, 1, 1, 0, 1, 0] [] (ending ty 0 Go.Proofs.Try.f36.results.toList spec_FaultsFromrs spec_FaultsFrombs)) k { env := [(8, .one (.sc (.int .i64 v8))), (5, .one (.sc (.int .i64 v5))), (6, .one (.slice 0 0 none)), (7, .one (.slice 1 0 none))], bx := [(0, .row 0 (.int .i64) b0), (1, .row 0 (.int .i64) b1)], nx := 2 }) a0 := by kernel_rfl
  rw [h]
  have e := congrArg (fun h10 => spec_FaultsFrom_t n h10 a0) (funext fun k => funext fun v8 => funext fun v5 => funext fun b0 => funext fun b1 => spec_FaultsFrom_l10_eq n k v8 v5 b0 b1)
  exact e

theorem spec_FaultsFrom_ok (n : Nat) : FunOk P (spec_FaultsFromF n) :=
  funOk_mk (C := [spec_l03SectorsF n, spec_l03SharedF n]) (N := 47) (kp := spec_FaultsFromkp) (c := spec_FaultsFromc) (n := n) (G := fun x y => spec_FaultsFrom n x.1) follows (AllOk.mem (⟨spec_l03Sectors_ok n, ⟨spec_l03Shared_ok n, trivial⟩⟩ : AllOk P ([spec_l03SectorsF n, spec_l03SharedF n]))) (by kernel_rfl : P.funcs[36]? = some Go.Proofs.Try.f36) (by kernel_rfl) (by kernel_rfl) (by kernel_rfl)
    (fun x y => spec_FaultsFrom_eq n x.1) (fun _ _ => map_same (fun _ => rfl) _) (fun _ _ _ _ => rfl)

abbrev impl_withinsp : List Sp := [.v false (.int .i64), .v false (.int .i64), .v false (.int .i64)]
abbrev impl_withinbs : List (Bs × Bool) := []
abbrev impl_withinrs : List (Bool × List Rp) := [(false, [.v false .bool])]
noncomputable def impl_withinkp : Keep := { loop := fun id => match id with | _ => [], join := fun id => match id with | _ => none }
noncomputable def impl_withinc : Code := bodyOf Go.Proofs.Try.f70
noncomputable def impl_withinF (n : Nat) : Fun := { id := 70, sp := impl_withinsp, bs := impl_withinbs, rs := impl_withinrs, f := fun x y => impl_within n x.1 x.2.1 x.2.2.1 }

theorem impl_within_eq (n : Nat) (a0 : Int) (a1 : Int) (a2 : Int) : runBody ([]) ty 15 n impl_withinkp impl_withinc Go.Proofs.Try.f70.results.toList impl_withinrs impl_withinsp impl_withinbs (a0, (a1, (a2, ()))) () = impl_within n a0 a1 a2 := by
  have h : runBody ([]) ty 15 n impl_withinkp impl_withinc Go.Proofs.Try.f70.results.toList impl_withinrs impl_withinsp impl_withinbs (a0, (a1, (a2, ()))) () = impl_within_t n a0 a1 a2 := by kernel_rfl
  rw [h]
  rfl

theorem impl_within_ok (n : Nat) : FunOk P (impl_withinF n) :=
  funOk_mk (C := []) (N := 15) (kp := impl_withinkp) (c := impl_withinc) (n := n) (G := fun x y => impl_within n x.1 x.2.1 x.2.2.1) follows (AllOk.mem (trivial : AllOk P ([]))) (by kernel_rfl : P.funcs[70]? = some Go.Proofs.Try.f70) (by kernel_rfl) (by kernel_rfl) (by kernel_rfl)
    (fun x y => impl_within_eq n x.1 x.2.1 x.2.2.1) (fun _ _ => map_same (fun _ => rfl) _) (fun _ _ _ _ => rfl)

abbrev impl_areSectors_1sp : List Sp := [.v false (.int .i64)]
abbrev impl_areSectors_1bs : List (Bs × Bool) := []
abbrev impl_areSectors_1rs : List (Bool × List Rp) := [(false, [.v false .bool])]
noncomputable def impl_areSectors_1kp : Keep := { loop := fun id => match id with | _ => [], join := fun id => match id with | _ => none }
noncomputable def impl_areSectors_1c : Code := bodyOf Go.Proofs.Try.f174
noncomputable def impl_areSectors_1F (n : Nat) : Fun := { id := 174, sp := impl_areSectors_1sp, bs := impl_areSectors_1bs, rs := impl_areSectors_1rs, f := fun x y => impl_areSectors_1 n x.1 }

theorem impl_areSectors_1_eq (n : Nat) (a0 : Int) : runBody ([impl_withinF n]) ty 6 n impl_areSectors_1kp impl_areSectors_1c Go.Proofs.Try.f174.results.toList impl_areSectors_1rs impl_areSectors_1sp impl_areSectors_1bs (a0, ()) () = impl_areSectors_1 n a0 := by
  have h : runBody ([impl_withinF n]) ty 6 n impl_areSectors_1kp impl_areSectors_1c Go.Proofs.Try.f174.results.toList impl_areSectors_1rs impl_areSectors_1sp impl_areSectors_1bs (a0, ()) () = impl_areSectors_1_t n a0 := by kernel_rfl
  rw [h]
  rfl

theorem impl_areSectors_1_ok (n : Nat) : FunOk P (impl_areSectors_1F n) :=
  funOk_mk (C := [impl_withinF n]) (N := 6) (kp := impl_areSectors_1kp) (c := impl_areSectors_1c) (n := n) (G := fun x y => impl_areSectors_1 n x.1) follows (AllOk.mem (⟨impl_within_ok n, trivial⟩ : AllOk P ([impl_withinF n]))) (by kernel_rfl : P.funcs[174]? = some Go.Proofs.Try.f174) (by kernel_rfl) (by kernel_rfl) (by kernel_rfl)
    (fun x y => impl_areSectors_1_eq n x.1) (fun _ _ => map_same (fun _ => rfl) _) (fun _ _ _ _ => rfl)

abbrev slices_IndexFunc_int64_int64_at_impl_areSectors_1sp : List Sp := [.v false (.list (.int .i64)), .cl 174 []]
abbrev slices_IndexFunc_int64_int64_at_impl_areSectors_1bs : List (Bs × Bool) := []
abbrev slices_IndexFunc_int64_int64_at_impl_areSectors_1rs : List (Bool × List Rp) := [(false, [.v false (.int .i64)])]
noncomputable def slices_IndexFunc_int64_int64_at_impl_areSectors_1kp : Keep := { loop := fun id => match id with | 2 => [8, 0, 1, 7] | _ => [], join := fun id => match id with | _ => none }
noncomputable def slices_IndexFunc_int64_int64_at_impl_areSectors_1c : Code := bodyOf Go.Proofs.Try.f134
noncomputable def slices_IndexFunc_int64_int64_at_impl_areSectors_1F (n : Nat) : Fun := { id := 134, sp := slices_IndexFunc_int64_int64_at_impl_areSectors_1sp, bs := slices_IndexFunc_int64_int64_at_impl_areSectors_1bs, rs := slices_IndexFunc_int64_int64_at_impl_areSectors_1rs, f := fun x y => slices_IndexFunc_int64_int64_at_impl_areSectors_1 n x.1 }

theorem slices_IndexFunc_int64_int64_at_impl_areSectors_1_l2_eq (n : Nat) : ∀ (k : Nat) (v8 : Int) (v0 : List (Int)) (v7 : Int), iter (interp ([impl_areSectors_1F n]) ty 19 0 n slices_IndexFunc_int64_int64_at_impl_areSectors_1kp (codeAt slices_IndexFunc_int64_int64_at_impl_areSectors_1c [1, 0, 1, 0, 0])) (canon 0 (slices_IndexFunc_int64_int64_at_impl_areSectors_1kp.loop 2)) (kAt ([impl_areSectors_1F n]) ty 19 0 n slices_IndexFunc_int64_int64_at_impl_areSectors_1kp slices_IndexFunc_int64_int64_at_impl_areSectors_1c [1, 0, 1, 0] [] (ending ty 0 Go.Proofs.Try.f134.results.toList slices_IndexFunc_int64_int64_at_impl_areSectors_1rs slices_IndexFunc_int64_int64_at_impl_areSectors_1bs)) k { env := [(8, .one (.sc (.int .i64 v8))), (0, .one (.list true (.int .i64) v0)), (1, .one (.clos 174 [])), (7, .one (.sc (.int .i64 v7)))], bx := [], nx := 0 } = slices_IndexFunc_int64_int64_at_impl_areSectors_1_l2 n k v8 v0 v7
  | 0, _, _, _ => by kernel_rfl
  | k + 1, v8, v0, v7 => by
    have h : iter (interp ([impl_areSectors_1F n]) ty 19 0 n slices_IndexFunc_int64_int64_at_impl_areSectors_1kp (codeAt slices_IndexFunc_int64_int64_at_impl_areSectors_1c [1, 0, 1, 0, 0])) (canon 0 (slices_IndexFunc_int64_int64_at_impl_areSectors_1kp.loop 2)) (kAt ([impl_areSectors_1F n]) ty 19 0 n slices_IndexFunc_int64_int64_at_impl_areSectors_1kp slices_IndexFunc_int64_int64_at_impl_areSectors_1c [1, 0, 1, 0] [] (ending ty 0 Go.Proofs.Try.f134.results.toList slices_IndexFunc_int64_int64_at_impl_areSectors_1rs slices_IndexFunc_int64_int64_at_impl_areSectors_1bs)) (k + 1) { env := [(8, .one (.sc (.int .i64 v8))), (0, .one (.list true (.int .i64) v0)), (1, .one (.clos 174 [])), (7, .one (.sc (.int .i64 v7)))], bx := [], nx := 0 } = slices_IndexFunc_int64_int64_at_impl_areSectors_1_t2 n (fun v8 v0 v7 => iter (interp ([impl_areSectors_1F n]) ty 19 0 n slices_IndexFunc_int64_int64_at_impl_areSectors_1kp (codeAt slices_IndexFunc_int64_int64_at_impl_areSectors_1c [1, 0, 1, 0, 0])) (canon 0 (slices_IndexFunc_int64_int64_at_impl_areSectors_1kp.loop 2)) (kAt ([impl_areSectors_1F n]) ty 19 0 n slices_IndexFunc_int64_int64_at_impl_areSectors_1kp slices_IndexFunc_int64_int64_at_impl_areSectors_1c [1, 0, 1, 0] [] (ending ty 0 Go.Proofs.Try.f134.results.toList slices_IndexFunc_int64_int64_at_impl_areSectors_1rs slices_IndexFunc_int64_int64_at_impl_areSectors_1bs)) k { env := [(8, .one (.sc (.int .i64 v8))), (0, .one (.list true (.int .i64) v0)), (1, .one (.clos 174 [])), (7, .one (.sc (.int .i64 v7)))], bx := [], nx := 0 }) v8 v0 v7 := by kernel_rfl
    rw [h]
    have e := congrArg (fun g => slices_IndexFunc_int64_int64_at_impl_areSectors_1_t2 n g v8 v0 v7) (funext fun v8 => funext fun v0 => funext fun v7 => slices_IndexFunc_int64_int64_at_impl_areSectors_1_l2_eq n k v8 v0 v7)
    exact e

theorem slices_IndexFunc_int64_int64_at_impl_areSectors_1_eq (n : Nat) (a0 : List (Int)) : runBody ([impl_areSectors_1F n]) ty 19 n slices_IndexFunc_int64_int64_at_impl_areSectors_1kp slices_IndexFunc_int64_int64_at_impl_areSectors_1c Go.Proofs.Try.f134.results.toList slices_IndexFunc_int64_int64_at_impl_areSectors_1rs slices_IndexFunc_int64_int64_at_impl_areSectors_1sp slices_IndexFunc_int64_int64_at_impl_areSectors_1bs (a0, ((), ())) () = slices_IndexFunc_int64_int64_at_impl_areSectors_1 n a0 := by
  have h : runBody ([impl_areSectors_1F n]) ty 19 n slices_IndexFunc_int64_int64_at_impl_areSectors_1kp slices_IndexFunc_int64_int64_at_impl_areSectors_1c Go.Proofs.Try.f134.results.toList slices_IndexFunc_int64_int64_at_impl_areSectors_1rs slices_IndexFunc_int64_int64_at_impl_areSectors_1sp slices_IndexFunc_int64_int64_at_impl_areSectors_1bs (a0, ((), ())) () = slices_IndexFunc_int64_int64_at_impl_areSectors_1_t n (fun k v8 v0 v7 => iter (interp ([impl_areSectors_1F n]) ty 19 0 n slices_IndexFunc_int64_int64_at_impl_areSectors_1kp (codeAt slices_IndexFunc_int64_int64_at_impl_areSectors_1c [1, 0, 1, 0, 0])) (canon 0 (slices_IndexFunc_int64_int64_at_impl_areSectors_1kp.loop 2)) (kAt ([impl_areSectors_1F n]) ty 19 0 n slices_IndexFunc_int64_int64_at_impl_areSectors_1kp slices_IndexFunc_int64_int64_at_impl_areSectors_1c [1, 0, 1, 0] [] (ending ty 0 Go.Proofs.Try.f134.results.toList slices_IndexFunc_int64_int64_at_impl_areSectors_1rs slices_IndexFunc_int64_int64_at_impl_areSectors_1bs)) k { env := [(8, .one (.sc (.int .i64 v8))), (0, .one (.list true (.int .i64) v0)), (1, .one (.clos 174 [])), (7, .one (.sc (.int .i64 v7)))], bx := [], nx := 0 }) a0 := by kernel_rfl
  rw [h]
  have e := congrArg (fun h2 => slices_IndexFunc_int64_int64_at_impl_areSectors_1_t n h2 a0) (funext fun k => funext fun v8 => funext fun v0 => funext fun v7 => slices_IndexFunc_int64_int64_at_impl_areSectors_1_l2_eq n k v8 v0 v7)
  exact e

theorem slices_IndexFunc_int64_int64_at_impl_areSectors_1_ok (n : Nat) : FunOk P (slices_IndexFunc_int64_int64_at_impl_areSectors_1F n) :=
  funOk_mk (C := [impl_areSectors_1F n]) (N := 19) (kp := slices_IndexFunc_int64_int64_at_impl_areSectors_1kp) (c := slices_IndexFunc_int64_int64_at_impl_areSectors_1c) (n := n) (G := fun x y => slices_IndexFunc_int64_int64_at_impl_areSectors_1 n x.1) follows (AllOk.mem (⟨impl_areSectors_1_ok n, trivial⟩ : AllOk P ([impl_areSectors_1F n]))) (by kernel_rfl : P.funcs[134]? = some Go.Proofs.Try.f134) (by kernel_rfl) (by kernel_rfl) (by kernel_rfl)
    (fun x y => slices_IndexFunc_int64_int64_at_impl_areSectors_1_eq n x.1) (fun _ _ => map_same (fun _ => rfl) _) (fun _ _ _ _ => rfl)

abbrev slices_ContainsFunc_int64_int64_at_impl_areSectors_1sp : List Sp := [.v false (.list (.int .i64)), .cl 174 []]
abbrev slices_ContainsFunc_int64_int64_at_impl_areSectors_1bs : List (Bs × Bool) := []
abbrev slices_ContainsFunc_int64_int64_at_impl_areSectors_1rs : List (Bool × List Rp) := [(false, [.v false .bool])]
noncomputable def slices_ContainsFunc_int64_int64_at_impl_areSectors_1kp : Keep := { loop := fun id => match id with | _ => [], join := fun id => match id with | _ => none }
noncomputable def slices_ContainsFunc_int64_int64_at_impl_areSectors_1c : Code := bodyOf Go.Proofs.Try.f68
noncomputable def slices_ContainsFunc_int64_int64_at_impl_areSectors_1F (n : Nat) : Fun := { id := 68, sp := slices_ContainsFunc_int64_int64_at_impl_areSectors_1sp, bs := slices_ContainsFunc_int64_int64_at_impl_areSectors_1bs, rs := slices_ContainsFunc_int64_int64_at_impl_areSectors_1rs, f := fun x y => slices_ContainsFunc_int64_int64_at_impl_areSectors_1 n x.1 }

theorem slices_ContainsFunc_int64_int64_at_impl_areSectors_1_eq (n : Nat) (a0 : List (Int)) : runBody ([slices_IndexFunc_int64_int64_at_impl_areSectors_1F n, impl_areSectors_1F n]) ty 9 n slices_ContainsFunc_int64_int64_at_impl_areSectors_1kp slices_ContainsFunc_int64_int64_at_impl_areSectors_1c Go.Proofs.Try.f68.results.toList slices_ContainsFunc_int64_int64_at_impl_areSectors_1rs slices_ContainsFunc_int64_int64_at_impl_areSectors_1sp slices_ContainsFunc_int64_int64_at_impl_areSectors_1bs (a0, ((), ())) () = slices_ContainsFunc_int64_int64_at_impl_areSectors_1 n a0 := by
  have h : runBody ([slices_IndexFunc_int64_int64_at_impl_areSectors_1F n, impl_areSectors_1F n]) ty 9 n slices_ContainsFunc_int64_int64_at_impl_areSectors_1kp slices_ContainsFunc_int64_int64_at_impl_areSectors_1c Go.Proofs.Try.f68.results.toList slices_ContainsFunc_int64_int64_at_impl_areSectors_1rs slices_ContainsFunc_int64_int64_at_impl_areSectors_1sp slices_ContainsFunc_int64_int64_at_impl_areSectors_1bs (a0, ((), ())) () = slices_ContainsFunc_int64_int64_at_impl_areSectors_1_t n a0 := by kernel_rfl
  rw [h]
  rfl

theorem slices_ContainsFunc_int64_int64_at_impl_areSectors_1_ok (n : Nat) : FunOk P (slices_ContainsFunc_int64_int64_at_impl_areSectors_1F n) :=
  funOk_mk (C := [slices_IndexFunc_int64_int64_at_impl_areSectors_1F n, impl_areSectors_1F n]) (N := 9) (kp := slices_ContainsFunc_int64_int64_at_impl_areSectors_1kp) (c := slices_ContainsFunc_int64_int64_at_impl_areSectors_1c) (n := n) (G := fun x y => slices_ContainsFunc_int64_int64_at_impl_areSectors_1 n x.1) follows (AllOk.mem (⟨slices_IndexFunc_int64_int64_at_impl_areSectors_1_ok n, ⟨impl_areSectors_1_ok n, trivial⟩⟩ : AllOk P ([slices_IndexFunc_int64_int64_at_impl_areSectors_1F n, impl_areSectors_1F n]))) (by kernel_rfl : P.funcs[68]? = some Go.Proofs.Try.f68) (by kernel_rfl) (by kernel_rfl) (by kernel_rfl)
    (fun x y => slices_ContainsFunc_int64_int64_at_impl_areSectors_1_eq n x.1) (fun _ _ => map_same (fun _ => rfl) _) (fun _ _ _ _ => rfl)

abbrev impl_areSectorssp : List Sp := [.v false (.list (.int .i64))]
abbrev impl_areSectorsbs : List (Bs × Bool) := []
abbrev impl_areSectorsrs : List (Bool × List Rp) := [(false, [.v false .bool])]
noncomputable def impl_areSectorskp : Keep := { loop := fun id => match id with | _ => [], join := fun id => match id with | _ => none }
noncomputable def impl_areSectorsc : Code := bodyOf Go.Proofs.Try.f141
noncomputable def impl_areSectorsF (n : Nat) : Fun := { id := 141, sp := impl_areSectorssp, bs := impl_areSectorsbs, rs := impl_areSectorsrs, f := fun x y => impl_areSectors n x.1 }

theorem impl_areSectors_eq (n : Nat) (a0 : List (Int)) : runBody ([impl_withinF n, slices_ContainsFunc_int64_int64_at_impl_areSectors_1F n]) ty 11 n impl_areSectorskp impl_areSectorsc Go.Proofs.Try.f141.results.toList impl_areSectorsrs impl_areSectorssp impl_areSectorsbs (a0, ()) () = impl_areSectors n a0 := by
  have h : runBody ([impl_withinF n, slices_ContainsFunc_int64_int64_at_impl_areSectors_1F n]) ty 11 n impl_areSectorskp impl_areSectorsc Go.Proofs.Try.f141.results.toList impl_areSectorsrs impl_areSectorssp impl_areSectorsbs (a0, ()) () = impl_areSectors_t n a0 := by kernel_rfl
  rw [h]
  rfl

theorem impl_areSectors_ok (n : Nat) : FunOk P (impl_areSectorsF n) :=
  funOk_mk (C := [impl_withinF n, slices_ContainsFunc_int64_int64_at_impl_areSectors_1F n]) (N := 11) (kp := impl_areSectorskp) (c := impl_areSectorsc) (n := n) (G := fun x y => impl_areSectors n x.1) follows (AllOk.mem (⟨impl_within_ok n, ⟨slices_ContainsFunc_int64_int64_at_impl_areSectors_1_ok n, trivial⟩⟩ : AllOk P ([impl_withinF n, slices_ContainsFunc_int64_int64_at_impl_areSectors_1F n]))) (by kernel_rfl : P.funcs[141]? = some Go.Proofs.Try.f141) (by kernel_rfl) (by kernel_rfl) (by kernel_rfl)
    (fun x y => impl_areSectors_eq n x.1) (fun _ _ => map_same (fun _ => rfl) _) (fun _ _ _ _ => rfl)

abbrev impl_ClosingOfsp : List Sp := [.v false (.list (.int .i64))]
abbrev impl_ClosingOfbs : List (Bs × Bool) := []
abbrev impl_ClosingOfrs : List (Bool × List Rp) := [(false, [.v false (.int .i64)]), (false, [.v false (.int .i64)])]
noncomputable def impl_ClosingOfkp : Keep := { loop := fun id => match id with | 5 => [12, 4, 10, 11] | _ => [], join := fun id => match id with | _ => none }
noncomputable def impl_ClosingOfc : Code := bodyOf Go.Proofs.Try.f83
noncomputable def impl_ClosingOfF (n : Nat) : Fun := { id := 83, sp := impl_ClosingOfsp, bs := impl_ClosingOfbs, rs := impl_ClosingOfrs, f := fun x y => impl_ClosingOf n x.1 }

theorem impl_ClosingOf_l5_eq (n : Nat) : ∀ (k : Nat) (v12 : Int) (v4 : Int) (v10 : List (Int)) (v11 : Int), iter (interp ([impl_areSectorsF n]) ty 21 0 n impl_ClosingOfkp (codeAt impl_ClosingOfc [1, 1, 1, 0, 1, 0, 0])) (canon 0 (impl_ClosingOfkp.loop 5)) (kAt ([impl_areSectorsF n]) ty 21 0 n impl_ClosingOfkp impl_ClosingOfc [1, 1, 1, 0, 1, 0] [] (ending ty 0 Go.Proofs.Try.f83.results.toList impl_ClosingOfrs impl_ClosingOfbs)) k { env := [(12, .one (.sc (.int .i64 v12))), (4, .one (.sc (.int .i64 v4))), (10, .one (.list true (.int .i64) v10)), (11, .one (.sc (.int .i64 v11)))], bx := [], nx := 0 } = impl_ClosingOf_l5 n k v12 v4 v10 v11
  | 0, _, _, _, _ => by kernel_rfl
  | k + 1, v12, v4, v10, v11 => by
    have h : iter (interp ([impl_areSectorsF n]) ty 21 0 n impl_ClosingOfkp (codeAt impl_ClosingOfc [1, 1, 1, 0, 1, 0, 0])) (canon 0 (impl_ClosingOfkp.loop 5)) (kAt ([impl_areSectorsF n]) ty 21 0 n impl_ClosingOfkp impl_ClosingOfc [1, 1, 1, 0, 1, 0] [] (ending ty 0 Go.Proofs.Try.f83.results.toList impl_ClosingOfrs impl_ClosingOfbs)) (k + 1) { env := [(12, .one (.sc (.int .i64 v12))), (4, .one (.sc (.int .i64 v4))), (10, .one (.list true (.int .i64) v10)), (11, .one (.sc (.int .i64 v11)))], bx := [], nx := 0 } = impl_ClosingOf_t5 n (fun v12 v4 v10 v11 => iter (interp ([impl_areSectorsF n]) ty 21 0 n impl_ClosingOfkp (codeAt impl_ClosingOfc [1, 1, 1, 0, 1, 0, 0])) (canon 0 (impl_ClosingOfkp.loop 5)) (kAt ([impl_areSectorsF n]) ty 21 0 n impl_ClosingOfkp impl_ClosingOfc [1, 1, 1, 0, 1, 0] [] (ending ty 0 Go.Proofs.Try.f83.results.toList impl_ClosingOfrs impl_ClosingOfbs)) k { env := [(12, .one (.sc (.int .i64 v12))), (4, .one (.sc (.int .i64 v4))), (10, .one (.list true (.int .i64) v10)), (11, .one (.sc (.int .i64 v11)))], bx := [], nx := 0 }) v12 v4 v10 v11 := by kernel_rfl
    rw [h]
    have e := congrArg (fun g => impl_ClosingOf_t5 n g v12 v4 v10 v11) (funext fun v12 => funext fun v4 => funext fun v10 => funext fun v11 => impl_ClosingOf_l5_eq n k v12 v4 v10 v11)
    exact e

theorem impl_ClosingOf_eq (n : Nat) (a0 : List (Int)) : runBody ([impl_areSectorsF n]) ty 21 n impl_ClosingOfkp impl_ClosingOfc Go.Proofs.Try.f83.results.toList impl_ClosingOfrs impl_ClosingOfsp impl_ClosingOfbs (a0, ()) () = impl_ClosingOf n a0 := by
  have h : runBody ([impl_areSectorsF n]) ty 21 n impl_ClosingOfkp impl_ClosingOfc Go.Proofs.Try.f83.results.toList impl_ClosingOfrs impl_ClosingOfsp impl_ClosingOfbs (a0, ()) () = impl_ClosingOf_t n (fun k v12 v4 v10 v11 => iter (interp ([impl_areSectorsF n]) ty 21 0 n impl_ClosingOfkp (codeAt impl_ClosingOfc [1, 1, 1, 0, 1, 0, 0])) (canon 0 (impl_ClosingOfkp.loop 5)) (kAt ([impl_areSectorsF n]) ty 21 0 n impl_ClosingOfkp impl_ClosingOfc [1, 1, 1, 0, 1, 0] [] (ending ty 0 Go.Proofs.Try.f83.results.toList impl_ClosingOfrs impl_ClosingOfbs)) k { env := [(12, .one (.sc (.int .i64 v12))), (4, .one (.sc (.int .i64 v4))), (10, .one (.list true (.int .i64) v10)), (11, .one (.sc (.int .i64 v11)))], bx := [], nx := 0 }) a0 := by kernel_rfl
  rw [h]
  have e := congrArg (fun h5 => impl_ClosingOf_t n h5 a0) (funext fun k => funext fun v12 => funext fun v4 => funext fun v10 => funext fun v11 => impl_ClosingOf_l5_eq n k v12 v4 v10 v11)
  exact e

theorem impl_ClosingOf_ok (n : Nat) : FunOk P (impl_ClosingOfF n) :=
  funOk_mk (C := [impl_areSectorsF n]) (N := 21) (kp := impl_ClosingOfkp) (c := impl_ClosingOfc) (n := n) (G := fun x y => impl_ClosingOf n x.1) follows (AllOk.mem (⟨impl_areSectors_ok n, trivial⟩ : AllOk P ([impl_areSectorsF n]))) (by kernel_rfl : P.funcs[83]? = some Go.Proofs.Try.f83) (by kernel_rfl) (by kernel_rfl) (by kernel_rfl)
    (fun x y => impl_ClosingOf_eq n x.1) (fun _ _ => map_same (fun _ => rfl) _) (fun _ _ _ _ => rfl)

abbrev impl_floorDivsp : List Sp := [.v false (.int .i64), .v false (.int .i64)]
abbrev impl_floorDivbs : List (Bs × Bool) := []
abbrev impl_floorDivrs : List (Bool × List Rp) := [(false, [.v false (.int .i64)])]
noncomputable def impl_floorDivkp : Keep := { loop := fun id => match id with | _ => [], join := fun id => match id with | _ => none }
noncomputable def impl_floorDivc : Code := bodyOf Go.Proofs.Try.f71
noncomputable def impl_floorDivF (n : Nat) : Fun := { id := 71, sp := impl_floorDivsp, bs := impl_floorDivbs, rs := impl_floorDivrs, f := fun x y => impl_floorDiv n x.1 x.2.1 }

theorem impl_floorDiv_eq (n : Nat) (a0 : Int) (a1 : Int) : runBody ([]) ty 23 n impl_floorDivkp impl_floorDivc Go.Proofs.Try.f71.results.toList impl_floorDivrs impl_floorDivsp impl_floorDivbs (a0, (a1, ())) () = impl_floorDiv n a0 a1 := by
  have h : runBody ([]) ty 23 n impl_floorDivkp impl_floorDivc Go.Proofs.Try.f71.results.toList impl_floorDivrs impl_floorDivsp impl_floorDivbs (a0, (a1, ())) () = impl_floorDiv_t n a0 a1 := by kernel_rfl
  rw [h]
  rfl

theorem impl_floorDiv_ok (n : Nat) : FunOk P (impl_floorDivF n) :=
  funOk_mk (C := []) (N := 23) (kp := impl_floorDivkp) (c := impl_floorDivc) (n := n) (G := fun x y => impl_floorDiv n x.1 x.2.1) follows (AllOk.mem (trivial : AllOk P ([]))) (by kernel_rfl : P.funcs[71]? = some Go.Proofs.Try.f71) (by kernel_rfl) (by kernel_rfl) (by kernel_rfl)
    (fun x y => impl_floorDiv_eq n x.1 x.2.1) (fun _ _ => map_same (fun _ => rfl) _) (fun _ _ _ _ => rfl)

abbrev impl_ShareClosingsp : List Sp := [.v false (.list (.int .i64))]
abbrev impl_ShareClosingbs : List (Bs × Bool) := []
abbrev impl_ShareClosingrs : List (Bool × List Rp) := [(false, [.new  (.int .i64)]), (false, [.v false (.int .i64)])]
noncomputable def impl_ShareClosingkp : Keep := { loop := fun id => match id with | 6 => [24, 7, 4, 6, 22, 23] | _ => [], join := fun id => match id with | _ => none }
noncomputable def impl_ShareClosingc : Code := bodyOf Go.Proofs.Try.f25
noncomputable def impl_ShareClosingF (n : Nat) : Fun := { id := 25, sp := impl_ShareClosingsp, bs := impl_ShareClosingbs, rs := impl_ShareClosingrs, f := fun x y => impl_ShareClosing n x.1 }

theorem impl_ShareClosing_l6_eq (n : Nat) : ∀ (k : Nat) (v24 : Int) (v7 : Int) (v4 : Int) (v22 : List (Int)) (v23 : Int) (b0 : List (Int)), iter (interp ([impl_ClosingOfF n, impl_floorDivF n]) ty 49 0 n impl_ShareClosingkp (codeAt impl_ShareClosingc [1, 1, 1, 1, 0, 1, 0, 0])) (canon 0 (impl_ShareClosingkp.loop 6)) (kAt ([impl_ClosingOfF n, impl_floorDivF n]) ty 49 0 n impl_ShareClosingkp impl_ShareClosingc [1, 1, 1, 1, 0, 1, 0] [] (ending ty 0 Go.Proofs.Try.f25.results.toList impl_ShareClosingrs impl_ShareClosingbs)) k { env := [(24, .one (.sc (.int .i64 v24))), (7, .one (.sc (.int .i64 v7))), (4, .one (.sc (.int .i64 v4))), (6, .one (.slice 0 0 none)), (22, .one (.list true (.int .i64) v22)), (23, .one (.sc (.int .i64 v23)))], bx := [(0, .row 0 (.int .i64) b0)], nx := 1 } = impl_ShareClosing_l6 n k v24 v7 v4 v22 v23 b0
  | 0, _, _, _, _, _, _ => by kernel_rfl
  | k + 1, v24, v7, v4, v22, v23, b0 => by
    have h : iter (interp ([impl_ClosingOfF n, impl_floorDivF n]) ty 49 0 n impl_ShareClosingkp (codeAt impl_ShareClosingc [1, 1, 1, 1, 0, 1, 0, 0])) (canon 0 (impl_ShareClosingkp.loop 6)) (kAt ([impl_ClosingOfF n, impl_floorDivF n]) ty 49 0 n impl_ShareClosingkp impl_ShareClosingc [1, 1, 1, 1, 0, 1, 0] [] (ending ty 0 Go.Proofs.Try.f25.results.toList impl_ShareClosingrs impl_ShareClosingbs)) (k + 1) { env := [(24, .one (.sc (.int .i64 v24))), (7, .one (.sc (.int .i64 v7))), (4, .one (.sc (.int .i64 v4))), (6, .one (.slice 0 0 none)), (22, .one (.list true (.int .i64) v22)), (23, .one (.sc (.int .i64 v23)))], bx := [(0, .row 0 (.int .i64) b0)], nx := 1 } = impl_ShareClosing_t6 n (fun v24 v7 v4 v22 v23 b0 => iter (interp ([impl_ClosingOfF n, impl_floorDivF n]) ty 49 0 n impl_ShareClosingkp (codeAt impl_ShareClosingc [1, 1, 1, 1, 0, 1, 0, 0])) (canon 0 (impl_ShareClosingkp.loop 6)) (kAt ([impl_ClosingOfF n, impl_floorDivF n]) ty 49 0 n impl_ShareClosingkp impl_ShareClosingc [1, 1, 1, 1, 0, 1, 0] [] (ending ty 0 Go.Proofs.Try.f25.results.toList impl_ShareClosingrs impl_ShareClosingbs)) k { env := [(24, .one (.sc (.int .i64 v24))), (7, .one (.sc (.int .i64 v7))), (4, .one (.sc (.int .i64 v4))), (6, .one (.slice 0 0 none)), (22, .one (.list true (.int .i64) v22)), (23, .one (.sc (.int .i64 v23)))], bx := [(0, .row 0 (.int .i64) b0)], nx := 1 }) v24 v7 v4 v22 v23 b0 := by kernel_rfl
    rw [h]
    have e := congrArg (fun g => impl_ShareClosing_t6 n g v24 v7 v4 v22 v23 b0) (funext fun v24 => funext fun v7 => funext fun v4 => funext fun v22 => funext fun v23 => funext fun b0 => impl_ShareClosing_l6_eq n k v24 v7 v4 v22 v23 b0)
    exact e

theorem impl_ShareClosing_eq (n : Nat) (a0 : List (Int)) : runBody ([impl_ClosingOfF n, impl_floorDivF n]) ty 49 n impl_ShareClosingkp impl_ShareClosingc Go.Proofs.Try.f25.results.toList impl_ShareClosingrs impl_ShareClosingsp impl_ShareClosingbs (a0, ()) () = impl_ShareClosing n a0 := by
  have h : runBody ([impl_ClosingOfF n, impl_floorDivF n]) ty 49 n impl_ShareClosingkp impl_ShareClosingc Go.Proofs.Try.f25.results.toList impl_ShareClosingrs impl_ShareClosingsp impl_ShareClosingbs (a0, ()) () = impl_ShareClosing_t n (fun k v24 v7 v4 v22 v23 b0 => iter (interp ([impl_ClosingOfF n, impl_floorDivF n]) ty 49 0 n impl_ShareClosingkp (codeAt impl_ShareClosingc [1, 1, 1, 1, 0, 1, 0, 0])) (canon 0 (impl_ShareClosingkp.loop 6)) (kAt ([impl_ClosingOfF n, impl_floorDivF n]) ty 49 0 n impl_ShareClosingkp impl_ShareClosingc [1, 1, 1, 1, 0, 1, 0] [] (ending ty 0 Go.Proofs.Try.f25.results.toList impl_ShareClosingrs impl_ShareClosingbs)) k { env := [(24, .one (.sc (.int .i64 v24))), (7, .one (.sc (.int .i64 v7))), (4, .one (.sc (.int .i64 v4))), (6, .one (.slice 0 0 none)), (22, .one (.list true (.int .i64) v22)), (23, .one (.sc (.int .i64 v23)))], bx := [(0, .row 0 (.int .i64) b0)], nx := 1 }) a0 := by kernel_rfl
  rw [h]
  have e := congrArg (fun h6 => impl_ShareClosing_t n h6 a0) (funext fun k => funext fun v24 => funext fun v7 => funext fun v4 => funext fun v22 => funext fun v23 => funext fun b0 => impl_ShareClosing_l6_eq n k v24 v7 v4 v22 v23 b0)
  exact e

theorem impl_ShareClosing_ok (n : Nat) : FunOk P (impl_ShareClosingF n) :=
  funOk_mk (C := [impl_ClosingOfF n, impl_floorDivF n]) (N := 49) (kp := impl_ShareClosingkp) (c := impl_ShareClosingc) (n := n) (G := fun x y => impl_ShareClosing n x.1) follows (AllOk.mem (⟨impl_ClosingOf_ok n, ⟨impl_floorDiv_ok n, trivial⟩⟩ : AllOk P ([impl_ClosingOfF n, impl_floorDivF n]))) (by kernel_rfl : P.funcs[25]? = some Go.Proofs.Try.f25) (by kernel_rfl) (by kernel_rfl) (by kernel_rfl)
    (fun x y => impl_ShareClosing_eq n x.1) (fun _ _ => map_same (fun _ => rfl) _) (fun _ _ _ _ => rfl)

abbrev impl_FaultsFromsp : List Sp := [.v false (.list (.int .i64))]
abbrev impl_FaultsFrombs : List (Bs × Bool) := []
abbrev impl_FaultsFromrs : List (Bool × List Rp) := [(false, [.new  (.int .i64)]), (false, [.v false (.int .i64)])]
noncomputable def impl_FaultsFromkp : Keep := { loop := fun id => match id with | 9 => [30, 6, 4, 7, 29] | _ => [], join := fun id => match id with | _ => none }
noncomputable def impl_FaultsFromc : Code := bodyOf Go.Proofs.Try.f37
noncomputable def impl_FaultsFromF (n : Nat) : Fun := { id := 37, sp := impl_FaultsFromsp, bs := impl_FaultsFrombs, rs := impl_FaultsFromrs, f := fun x y => impl_FaultsFrom n x.1 }

theorem impl_FaultsFrom_l9_eq (n : Nat) : ∀ (k : Nat) (v30 : Int) (v6 : Int) (v29 : Int) (b0 : List (Int)) (b1 : List (Int)), iter (interp ([impl_ShareClosingF n]) ty 50 0 n impl_FaultsFromkp (codeAt impl_FaultsFromc [1, 1, 1, 1, 1, 1, 0, 1, 0, 0])) (canon 0 (impl_FaultsFromkp.loop 9)) (kAt ([impl_ShareClosingF n]) ty 50 0 n impl_FaultsFromkp impl_FaultsFromc [1, 1, 1, 1, 1, 1, 0, 1, 0] [] (ending ty 0 Go.Proofs.Try.f37.results.toList impl_FaultsFromrs impl_FaultsFrombs)) k { env := [(30, .one (.sc (.int .i64 v30))), (6, .one (.sc (.int .i64 v6))), (4, .one (.slice 0 0 none)), (7, .one (.slice 1 0 none)), (29, .one (.sc (.int .i64 v29)))], bx := [(0, .row 0 (.int .i64) b0), (1, .row 0 (.int .i64) b1)], nx := 2 } = impl_FaultsFrom_l9 n k v30 v6 v29 b0 b1
  | 0, _, _, _, _, _ => by kernel_rfl
  | k + 1, v30, v6, v29, b0, b1 => by
    have h : iter (interp ([impl_ShareClosingF n]) ty 50 0 n impl_FaultsFromkp (codeAt impl_FaultsFromc [1, 1, 1, 1, 1, 1, 0, 1, 0, 0])) (canon 0 (impl_FaultsFromkp.loop 9)) (kAt ([impl_ShareClosingF n]) ty 50 0 n impl_FaultsFromkp impl_FaultsFromc [1, 1, 1, 1, 1, 1, 0, 1, 0] [] (ending ty 0 Go.Proofs.Try.f37.results.toList impl_FaultsFromrs impl_FaultsFrombs)) (k + 1) { env := [(30, .one (.sc (.int .i64 v30))), (6, .one (.sc (.int .i64 v6))), (4, .one (.slice 0 0 none)), (7, .one (.slice 1 0 none)), (29, .one (.sc (.int .i64 v29)))], bx := [(0, .row 0 (.int .i64) b0), (1, .row 0 (.int .i64) b1)], nx := 2 } = impl_FaultsFrom_t9 n (fun v30 v6 v29 b0 b1 => iter (interp ([impl_ShareClosingF n]) ty 50 0 n impl_FaultsFromkp (codeAt impl_FaultsFromc [1, 1, 1, 1, 1, 1, 0, 1, 0, 0])) (canon 0 (impl_FaultsFromkp.loop 9)) (kAt ([impl_ShareClosingF n]) ty 50 0 n impl_FaultsFromkp impl_FaultsFromc [1, 1, 1, 1, 1, 1, 0, 1, 0] [] (ending ty 0 Go.Proofs.Try.f37.results.toList impl_FaultsFromrs impl_FaultsFrombs)) k { env := [(30, .one (.sc (.int .i64 v30))), (6, .one (.sc (.int .i64 v6))), (4, .one (.slice 0 0 none)), (7, .one (.slice 1 0 none)), (29, .one (.sc (.int .i64 v29)))], bx := [(0, .row 0 (.int .i64) b0), (1, .row 0 (.int .i64) b1)], nx := 2 }) v30 v6 v29 b0 b1 := by kernel_rfl
    rw [h]
    have e := congrArg (fun g => impl_FaultsFrom_t9 n g v30 v6 v29 b0 b1) (funext fun v30 => funext fun v6 => funext fun v29 => funext fun b0 => funext fun b1 => impl_FaultsFrom_l9_eq n k v30 v6 v29 b0 b1)
    exact e

theorem impl_FaultsFrom_eq (n : Nat) (a0 : List (Int)) : runBody ([impl_ShareClosingF n]) ty 50 n impl_FaultsFromkp impl_FaultsFromc Go.Proofs.Try.f37.results.toList impl_FaultsFromrs impl_FaultsFromsp impl_FaultsFrombs (a0, ()) () = impl_FaultsFrom n a0 := by
  have h : runBody ([impl_ShareClosingF n]) ty 50 n impl_FaultsFromkp impl_FaultsFromc Go.Proofs.Try.f37.results.toList impl_FaultsFromrs impl_FaultsFromsp impl_FaultsFrombs (a0, ()) () = impl_FaultsFrom_t n (fun k v30 v6 v29 b0 b1 => iter (interp ([impl_ShareClosingF n]) ty 50 0 n impl_FaultsFromkp (codeAt impl_FaultsFromc [1, 1, 1, 1, 1, 1, 0, 1, 0, 0])) (canon 0 (impl_FaultsFromkp.loop 9)) (kAt ([impl_ShareClosingF n]) ty 50 0 n impl_FaultsFromkp impl_FaultsFromc [1, 1, 1, 1, 1, 1, 0, 1, 0] [] (ending ty 0 Go.Proofs.Try.f37.results.toList impl_FaultsFromrs impl_FaultsFrombs)) k { env := [(30, .one (.sc (.int .i64 v30))), (6, .one (.sc (.int .i64 v6))), (4, .one (.slice 0 0 none)), (7, .one (.slice 1 0 none)), (29, .one (.sc (.int .i64 v29)))], bx := [(0, .row 0 (.int .i64) b0), (1, .row 0 (.int .i64) b1)], nx := 2 }) a0 := by kernel_rfl
  rw [h]
  have e := congrArg (fun h9 => impl_FaultsFrom_t n h9 a0) (funext fun k => funext fun v30 => funext fun v6 => funext fun v29 => funext fun b0 => funext fun b1 => impl_FaultsFrom_l9_eq n k v30 v6 v29 b0 b1)
  exact e

theorem impl_FaultsFrom_ok (n : Nat) : FunOk P (impl_FaultsFromF n) :=
  funOk_mk (C := [impl_ShareClosingF n]) (N := 50) (kp := impl_FaultsFromkp) (c := impl_FaultsFromc) (n := n) (G := fun x y => impl_FaultsFrom n x.1) follows (AllOk.mem (⟨impl_ShareClosing_ok n, trivial⟩ : AllOk P ([impl_ShareClosingF n]))) (by kernel_rfl : P.funcs[37]? = some Go.Proofs.Try.f37) (by kernel_rfl) (by kernel_rfl) (by kernel_rfl)
    (fun x y => impl_FaultsFrom_eq n x.1) (fun _ _ => map_same (fun _ => rfl) _) (fun _ _ _ _ => rfl)

abbrev laws_eqInt64Ssp : List Sp := [.v false (.list (.int .i64)), .v false (.list (.int .i64))]
abbrev laws_eqInt64Sbs : List (Bs × Bool) := []
abbrev laws_eqInt64Srs : List (Bool × List Rp) := [(false, [.v false .bool])]
noncomputable def laws_eqInt64Skp : Keep := { loop := fun id => match id with | 4 => [5, 1, 0] | _ => [], join := fun id => match id with | _ => none }
noncomputable def laws_eqInt64Sc : Code := bodyOf Go.Proofs.Try.f18
noncomputable def laws_eqInt64SF (n : Nat) : Fun := { id := 18, sp := laws_eqInt64Ssp, bs := laws_eqInt64Sbs, rs := laws_eqInt64Srs, f := fun x y => laws_eqInt64S n x.1 x.2.1 }

theorem laws_eqInt64S_l4_eq (n : Nat) : ∀ (k : Nat) (v5 : Int) (v1 : List (Int)) (v0 : List (Int)), iter (interp ([]) ty 26 0 n laws_eqInt64Skp (codeAt laws_eqInt64Sc [1, 1, 0, 1, 0, 0])) (canon 0 (laws_eqInt64Skp.loop 4)) (kAt ([]) ty 26 0 n laws_eqInt64Skp laws_eqInt64Sc [1, 1, 0, 1, 0] [] (ending ty 0 Go.Proofs.Try.f18.results.toList laws_eqInt64Srs laws_eqInt64Sbs)) k { env := [(5, .one (.sc (.int .i64 v5))), (1, .one (.list true (.int .i64) v1)), (0, .one (.list true (.int .i64) v0))], bx := [], nx := 0 } = laws_eqInt64S_l4 n k v5 v1 v0
  | 0, _, _, _ => by kernel_rfl
  | k + 1, v5, v1, v0 => by
    have h : iter (interp ([]) ty 26 0 n laws_eqInt64Skp (codeAt laws_eqInt64Sc [1, 1, 0, 1, 0, 0])) (canon 0 (laws_eqInt64Skp.loop 4)) (kAt ([]) ty 26 0 n laws_eqInt64Skp laws_eqInt64Sc [1, 1, 0, 1, 0] [] (ending ty 0 Go.Proofs.Try.f18.results.toList laws_eqInt64Srs laws_eqInt64Sbs)) (k + 1) { env := [(5, .one (.sc (.int .i64 v5))), (1, .one (.list true (.int .i64) v1)), (0, .one (.list true (.int .i64) v0))], bx := [], nx := 0 } = laws_eqInt64S_t4 n (fun v5 v1 v0 => iter (interp ([]) ty 26 0 n laws_eqInt64Skp (codeAt laws_eqInt64Sc [1, 1, 0, 1, 0, 0])) (canon 0 (laws_eqInt64Skp.loop 4)) (kAt ([]) ty 26 0 n laws_eqInt64Skp laws_eqInt64Sc [1, 1, 0, 1, 0] [] (ending ty 0 Go.Proofs.Try.f18.results.toList laws_eqInt64Srs laws_eqInt64Sbs)) k { env := [(5, .one (.sc (.int .i64 v5))), (1, .one (.list true (.int .i64) v1)), (0, .one (.list true (.int .i64) v0))], bx := [], nx := 0 }) v5 v1 v0 := by kernel_rfl
    rw [h]
    have e := congrArg (fun g => laws_eqInt64S_t4 n g v5 v1 v0) (funext fun v5 => funext fun v1 => funext fun v0 => laws_eqInt64S_l4_eq n k v5 v1 v0)
    exact e

theorem laws_eqInt64S_eq (n : Nat) (a0 : List (Int)) (a1 : List (Int)) : runBody ([]) ty 26 n laws_eqInt64Skp laws_eqInt64Sc Go.Proofs.Try.f18.results.toList laws_eqInt64Srs laws_eqInt64Ssp laws_eqInt64Sbs (a0, (a1, ())) () = laws_eqInt64S n a0 a1 := by
  have h : runBody ([]) ty 26 n laws_eqInt64Skp laws_eqInt64Sc Go.Proofs.Try.f18.results.toList laws_eqInt64Srs laws_eqInt64Ssp laws_eqInt64Sbs (a0, (a1, ())) () = laws_eqInt64S_t n (fun k v5 v1 v0 => iter (interp ([]) ty 26 0 n laws_eqInt64Skp (codeAt laws_eqInt64Sc [1, 1, 0, 1, 0, 0])) (canon 0 (laws_eqInt64Skp.loop 4)) (kAt ([]) ty 26 0 n laws_eqInt64Skp laws_eqInt64Sc [1, 1, 0, 1, 0] [] (ending ty 0 Go.Proofs.Try.f18.results.toList laws_eqInt64Srs laws_eqInt64Sbs)) k { env := [(5, .one (.sc (.int .i64 v5))), (1, .one (.list true (.int .i64) v1)), (0, .one (.list true (.int .i64) v0))], bx := [], nx := 0 }) a0 a1 := by kernel_rfl
  rw [h]
  have e := congrArg (fun h4 => laws_eqInt64S_t n h4 a0 a1) (funext fun k => funext fun v5 => funext fun v1 => funext fun v0 => laws_eqInt64S_l4_eq n k v5 v1 v0)
  exact e

theorem laws_eqInt64S_ok (n : Nat) : FunOk P (laws_eqInt64SF n) :=
  funOk_mk (C := []) (N := 26) (kp := laws_eqInt64Skp) (c := laws_eqInt64Sc) (n := n) (G := fun x y => laws_eqInt64S n x.1 x.2.1) follows (AllOk.mem (trivial : AllOk P ([]))) (by kernel_rfl : P.funcs[18]? = some Go.Proofs.Try.f18) (by kernel_rfl) (by kernel_rfl) (by kernel_rfl)
    (fun x y => laws_eqInt64S_eq n x.1 x.2.1) (fun _ _ => map_same (fun _ => rfl) _) (fun _ _ _ _ => rfl)

abbrev laws_markInt64Ssp : List Sp := [.sl 0, .v false (.int .i64)]
abbrev laws_markInt64Sbs : List (Bs × Bool) := [(.row  (.int .i64), true)]
abbrev laws_markInt64Srs : List (Bool × List Rp) := [(false, [.v false (.int .i64)])]
noncomputable def laws_markInt64Skp : Keep := { loop := fun id => match id with | 2 => [5, 1, 0] | _ => [], join := fun id => match id with | _ => none }
noncomputable def laws_markInt64Sc : Code := bodyOf Go.Proofs.Try.f19
noncomputable def laws_markInt64SF (n : Nat) : Fun := { id := 19, sp := laws_markInt64Ssp, bs := laws_markInt64Sbs, rs := laws_markInt64Srs, f := fun x y => laws_markInt64S n x.2.1 y.1 }

theorem laws_markInt64S_l2_eq (n : Nat) : ∀ (k : Nat) (v5 : Int) (v1 : Int) (b0 : List (Int)), iter (interp ([]) ty 19 1 n laws_markInt64Skp (codeAt laws_markInt64Sc [1, 0, 1, 0, 0])) (canon 1 (laws_markInt64Skp.loop 2)) (kAt ([]) ty 19 1 n laws_markInt64Skp laws_markInt64Sc [1, 0, 1, 0] [] (ending ty 1 Go.Proofs.Try.f19.results.toList laws_markInt64Srs laws_markInt64Sbs)) k { env := [(5, .one (.sc (.int .i64 v5))), (1, .one (.sc (.int .i64 v1))), (0, .one (.slice 0 0 none))], bx := [(0, .row 0 (.int .i64) b0)], nx := 1 } = laws_markInt64S_l2 n k v5 v1 b0
  | 0, _, _, _ => by kernel_rfl
  | k + 1, v5, v1, b0 => by
    have h : iter (interp ([]) ty 19 1 n laws_markInt64Skp (codeAt laws_markInt64Sc [1, 0, 1, 0, 0])) (canon 1 (laws_markInt64Skp.loop 2)) (kAt ([]) ty 19 1 n laws_markInt64Skp laws_markInt64Sc [1, 0, 1, 0] [] (ending ty 1 Go.Proofs.Try.f19.results.toList laws_markInt64Srs laws_markInt64Sbs)) (k + 1) { env := [(5, .one (.sc (.int .i64 v5))), (1, .one (.sc (.int .i64 v1))), (0, .one (.slice 0 0 none))], bx := [(0, .row 0 (.int .i64) b0)], nx := 1 } = laws_markInt64S_t2 n (fun v5 v1 b0 => iter (interp ([]) ty 19 1 n laws_markInt64Skp (codeAt laws_markInt64Sc [1, 0, 1, 0, 0])) (canon 1 (laws_markInt64Skp.loop 2)) (kAt ([]) ty 19 1 n laws_markInt64Skp laws_markInt64Sc [1, 0, 1, 0] [] (ending ty 1 Go.Proofs.Try.f19.results.toList laws_markInt64Srs laws_markInt64Sbs)) k { env := [(5, .one (.sc (.int .i64 v5))), (1, .one (.sc (.int .i64 v1))), (0, .one (.slice 0 0 none))], bx := [(0, .row 0 (.int .i64) b0)], nx := 1 }) v5 v1 b0 := by kernel_rfl
    rw [h]
    have e := congrArg (fun g => laws_markInt64S_t2 n g v5 v1 b0) (funext fun v5 => funext fun v1 => funext fun b0 => laws_markInt64S_l2_eq n k v5 v1 b0)
    exact e

theorem laws_markInt64S_eq (n : Nat) (a1 : Int) (b0 : List (Int)) : runBody ([]) ty 19 n laws_markInt64Skp laws_markInt64Sc Go.Proofs.Try.f19.results.toList laws_markInt64Srs laws_markInt64Ssp laws_markInt64Sbs ((), (a1, ())) (b0, ()) = laws_markInt64S n a1 b0 := by
  have h : runBody ([]) ty 19 n laws_markInt64Skp laws_markInt64Sc Go.Proofs.Try.f19.results.toList laws_markInt64Srs laws_markInt64Ssp laws_markInt64Sbs ((), (a1, ())) (b0, ()) = laws_markInt64S_t n (fun k v5 v1 b0 => iter (interp ([]) ty 19 1 n laws_markInt64Skp (codeAt laws_markInt64Sc [1, 0, 1, 0, 0])) (canon 1 (laws_markInt64Skp.loop 2)) (kAt ([]) ty 19 1 n laws_markInt64Skp laws_markInt64Sc [1, 0, 1, 0] [] (ending ty 1 Go.Proofs.Try.f19.results.toList laws_markInt64Srs laws_markInt64Sbs)) k { env := [(5, .one (.sc (.int .i64 v5))), (1, .one (.sc (.int .i64 v1))), (0, .one (.slice 0 0 none))], bx := [(0, .row 0 (.int .i64) b0)], nx := 1 }) a1 b0 := by kernel_rfl
  rw [h]
  have e := congrArg (fun h2 => laws_markInt64S_t n h2 a1 b0) (funext fun k => funext fun v5 => funext fun v1 => funext fun b0 => laws_markInt64S_l2_eq n k v5 v1 b0)
  exact e

theorem laws_markInt64S_ok (n : Nat) : FunOk P (laws_markInt64SF n) :=
  funOk_mk (C := []) (N := 19) (kp := laws_markInt64Skp) (c := laws_markInt64Sc) (n := n) (G := fun x y => laws_markInt64S n x.2.1 y.1) follows (AllOk.mem (trivial : AllOk P ([]))) (by kernel_rfl : P.funcs[19]? = some Go.Proofs.Try.f19) (by kernel_rfl) (by kernel_rfl) (by kernel_rfl)
    (fun x y => laws_markInt64S_eq n x.2.1 y.1) (fun _ _ => map_same (fun _ => rfl) _) (fun _ _ _ _ => rfl)

abbrev laws_heldInt64Ssp : List Sp := [.v false (.list (.int .i64)), .v false (.int .i64)]
abbrev laws_heldInt64Sbs : List (Bs × Bool) := []
abbrev laws_heldInt64Srs : List (Bool × List Rp) := [(false, [.v false (.int .i64)])]
noncomputable def laws_heldInt64Skp : Keep := { loop := fun id => match id with | 2 => [5, 1, 0] | _ => [], join := fun id => match id with | _ => none }
noncomputable def laws_heldInt64Sc : Code := bodyOf Go.Proofs.Try.f20
noncomputable def laws_heldInt64SF (n : Nat) : Fun := { id := 20, sp := laws_heldInt64Ssp, bs := laws_heldInt64Sbs, rs := laws_heldInt64Srs, f := fun x y => laws_heldInt64S n x.1 x.2.1 }

theorem laws_heldInt64S_l2_eq (n : Nat) : ∀ (k : Nat) (v5 : Int) (v1 : Int) (v0 : List (Int)), iter (interp ([]) ty 21 0 n laws_heldInt64Skp (codeAt laws_heldInt64Sc [1, 0, 1, 0, 0])) (canon 0 (laws_heldInt64Skp.loop 2)) (kAt ([]) ty 21 0 n laws_heldInt64Skp laws_heldInt64Sc [1, 0, 1, 0] [] (ending ty 0 Go.Proofs.Try.f20.results.toList laws_heldInt64Srs laws_heldInt64Sbs)) k { env := [(5, .one (.sc (.int .i64 v5))), (1, .one (.sc (.int .i64 v1))), (0, .one (.list true (.int .i64) v0))], bx := [], nx := 0 } = laws_heldInt64S_l2 n k v5 v1 v0
  | 0, _, _, _ => by kernel_rfl
  | k + 1, v5, v1, v0 => by
    have h : iter (interp ([]) ty 21 0 n laws_heldInt64Skp (codeAt laws_heldInt64Sc [1, 0, 1, 0, 0])) (canon 0 (laws_heldInt64Skp.loop 2)) (kAt ([]) ty 21 0 n laws_heldInt64Skp laws_heldInt64Sc [1, 0, 1, 0] [] (ending ty 0 Go.Proofs.Try.f20.results.toList laws_heldInt64Srs laws_heldInt64Sbs)) (k + 1) { env := [(5, .one (.sc (.int .i64 v5))), (1, .one (.sc (.int .i64 v1))), (0, .one (.list true (.int .i64) v0))], bx := [], nx := 0 } = laws_heldInt64S_t2 n (fun v5 v1 v0 => iter (interp ([]) ty 21 0 n laws_heldInt64Skp (codeAt laws_heldInt64Sc [1, 0, 1, 0, 0])) (canon 0 (laws_heldInt64Skp.loop 2)) (kAt ([]) ty 21 0 n laws_heldInt64Skp laws_heldInt64Sc [1, 0, 1, 0] [] (ending ty 0 Go.Proofs.Try.f20.results.toList laws_heldInt64Srs laws_heldInt64Sbs)) k { env := [(5, .one (.sc (.int .i64 v5))), (1, .one (.sc (.int .i64 v1))), (0, .one (.list true (.int .i64) v0))], bx := [], nx := 0 }) v5 v1 v0 := by kernel_rfl
    rw [h]
    have e := congrArg (fun g => laws_heldInt64S_t2 n g v5 v1 v0) (funext fun v5 => funext fun v1 => funext fun v0 => laws_heldInt64S_l2_eq n k v5 v1 v0)
    exact e

theorem laws_heldInt64S_eq (n : Nat) (a0 : List (Int)) (a1 : Int) : runBody ([]) ty 21 n laws_heldInt64Skp laws_heldInt64Sc Go.Proofs.Try.f20.results.toList laws_heldInt64Srs laws_heldInt64Ssp laws_heldInt64Sbs (a0, (a1, ())) () = laws_heldInt64S n a0 a1 := by
  have h : runBody ([]) ty 21 n laws_heldInt64Skp laws_heldInt64Sc Go.Proofs.Try.f20.results.toList laws_heldInt64Srs laws_heldInt64Ssp laws_heldInt64Sbs (a0, (a1, ())) () = laws_heldInt64S_t n (fun k v5 v1 v0 => iter (interp ([]) ty 21 0 n laws_heldInt64Skp (codeAt laws_heldInt64Sc [1, 0, 1, 0, 0])) (canon 0 (laws_heldInt64Skp.loop 2)) (kAt ([]) ty 21 0 n laws_heldInt64Skp laws_heldInt64Sc [1, 0, 1, 0] [] (ending ty 0 Go.Proofs.Try.f20.results.toList laws_heldInt64Srs laws_heldInt64Sbs)) k { env := [(5, .one (.sc (.int .i64 v5))), (1, .one (.sc (.int .i64 v1))), (0, .one (.list true (.int .i64) v0))], bx := [], nx := 0 }) a0 a1 := by kernel_rfl
  rw [h]
  have e := congrArg (fun h2 => laws_heldInt64S_t n h2 a0 a1) (funext fun k => funext fun v5 => funext fun v1 => funext fun v0 => laws_heldInt64S_l2_eq n k v5 v1 v0)
  exact e

theorem laws_heldInt64S_ok (n : Nat) : FunOk P (laws_heldInt64SF n) :=
  funOk_mk (C := []) (N := 21) (kp := laws_heldInt64Skp) (c := laws_heldInt64Sc) (n := n) (G := fun x y => laws_heldInt64S n x.1 x.2.1) follows (AllOk.mem (trivial : AllOk P ([]))) (by kernel_rfl : P.funcs[20]? = some Go.Proofs.Try.f20) (by kernel_rfl) (by kernel_rfl) (by kernel_rfl)
    (fun x y => laws_heldInt64S_eq n x.1 x.2.1) (fun _ _ => map_same (fun _ => rfl) _) (fun _ _ _ _ => rfl)

abbrev laws_FnExactFaultsFromsp : List Sp := [.v false (.list (.int .i64))]
abbrev laws_FnExactFaultsFrombs : List (Bs × Bool) := []
abbrev laws_FnExactFaultsFromrs : List (Bool × List Rp) := [(false, [.v false .bool])]
noncomputable def laws_FnExactFaultsFromkp : Keep := { loop := fun id => match id with | _ => [], join := fun id => match id with | _ => none }
noncomputable def laws_FnExactFaultsFromc : Code := bodyOf Go.Proofs.Try.f8
noncomputable def laws_FnExactFaultsFromF (n : Nat) : Fun := { id := 8, sp := laws_FnExactFaultsFromsp, bs := laws_FnExactFaultsFrombs, rs := laws_FnExactFaultsFromrs, f := fun x y => laws_FnExactFaultsFrom n x.1 }

theorem laws_FnExactFaultsFrom_eq (n : Nat) (a0 : List (Int)) : runBody ([laws_toInt64SF n, spec_FaultsFromF n, impl_FaultsFromF n, laws_eqInt64SF n, laws_markInt64SF n, laws_heldInt64SF n]) ty 93 n laws_FnExactFaultsFromkp laws_FnExactFaultsFromc Go.Proofs.Try.f8.results.toList laws_FnExactFaultsFromrs laws_FnExactFaultsFromsp laws_FnExactFaultsFrombs (a0, ()) () = laws_FnExactFaultsFrom n a0 := by
  have h : runBody ([laws_toInt64SF n, spec_FaultsFromF n, impl_FaultsFromF n, laws_eqInt64SF n, laws_markInt64SF n, laws_heldInt64SF n]) ty 93 n laws_FnExactFaultsFromkp laws_FnExactFaultsFromc Go.Proofs.Try.f8.results.toList laws_FnExactFaultsFromrs laws_FnExactFaultsFromsp laws_FnExactFaultsFrombs (a0, ()) () = laws_FnExactFaultsFrom_t n a0 := by kernel_rfl
  rw [h]
  rfl

theorem laws_FnExactFaultsFrom_ok (n : Nat) : FunOk P (laws_FnExactFaultsFromF n) :=
  funOk_mk (C := [laws_toInt64SF n, spec_FaultsFromF n, impl_FaultsFromF n, laws_eqInt64SF n, laws_markInt64SF n, laws_heldInt64SF n]) (N := 93) (kp := laws_FnExactFaultsFromkp) (c := laws_FnExactFaultsFromc) (n := n) (G := fun x y => laws_FnExactFaultsFrom n x.1) follows (AllOk.mem (⟨laws_toInt64S_ok n, ⟨spec_FaultsFrom_ok n, ⟨impl_FaultsFrom_ok n, ⟨laws_eqInt64S_ok n, ⟨laws_markInt64S_ok n, ⟨laws_heldInt64S_ok n, trivial⟩⟩⟩⟩⟩⟩ : AllOk P ([laws_toInt64SF n, spec_FaultsFromF n, impl_FaultsFromF n, laws_eqInt64SF n, laws_markInt64SF n, laws_heldInt64SF n]))) (by kernel_rfl : P.funcs[8]? = some Go.Proofs.Try.f8) (by kernel_rfl) (by kernel_rfl) (by kernel_rfl)
    (fun x y => laws_FnExactFaultsFrom_eq n x.1) (fun _ _ => map_same (fun _ => rfl) _) (fun _ _ _ _ => rfl)

end Go.Abs
