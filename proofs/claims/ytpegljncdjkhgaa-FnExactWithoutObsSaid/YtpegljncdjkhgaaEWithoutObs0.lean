import Derived.Test.YtpegljncdjkhgaaDWithoutObs0
import Derived.Test.YtpegljncdjkhgaaProg
import Derived.Test.YtpegljncdjkhgaaRow
import Derived.KernelRfl
namespace Go.Abs
open Go.Proofs
set_option maxRecDepth 100000
set_option linter.unusedVariables false

noncomputable abbrev P : Program := Try.prog
noncomputable abbrev ty : Nat → Option TyI := tyOf P
def bodyOf (f : Func) : Code := match f.body with | some c => c | none => .skip
theorem follows : P.follows .mixedOrders = true := by kernel_rfl

noncomputable instance : Laid P := Laid.none P

abbrev impl_gcdsp : List Sp := [.v false (.int .i64), .v false (.int .i64)]
abbrev impl_gcdbs : List (Bs × Bool) := []
abbrev impl_gcdrs : List (Bool × List Rp) := [(false, [.v false (.int .i64)])]
noncomputable def impl_gcdkp : Keep := { loop := fun id => match id with | 1 => ([1, 0], []) | _ => ([], []), join := fun id => match id with | _ => none }
noncomputable def impl_gcdc : Code := bodyOf Go.Proofs.Try.f74
noncomputable def impl_gcdF (n : Nat) : Fun := { id := 74, sp := impl_gcdsp, bs := impl_gcdbs, rs := impl_gcdrs, f := fun x y => impl_gcd n x.1 x.2.1 }

theorem impl_gcd_l1_eq (n : Nat) : ∀ (k : Nat) (v1 : Int) (v0 : Int), iter (interp ([]) ty 15 0 n impl_gcdkp (codeAt impl_gcdc [1, 0, 0, 0])) (canon 0 (impl_gcdkp.loop 1)) (kAt ([]) ty 15 0 n impl_gcdkp impl_gcdc [1, 0, 0] [] (ending ty 0 Go.Proofs.Try.f74.results.toList impl_gcdrs impl_gcdbs)) k { env := [(1, .one (.sc (.int .i64 v1))), (0, .one (.sc (.int .i64 v0)))], bx := [], nx := 0 } = impl_gcd_l1 n k v1 v0
  | 0, _, _ => by kernel_rfl
  | k + 1, v1, v0 => by
    have h : iter (interp ([]) ty 15 0 n impl_gcdkp (codeAt impl_gcdc [1, 0, 0, 0])) (canon 0 (impl_gcdkp.loop 1)) (kAt ([]) ty 15 0 n impl_gcdkp impl_gcdc [1, 0, 0] [] (ending ty 0 Go.Proofs.Try.f74.results.toList impl_gcdrs impl_gcdbs)) (k + 1) { env := [(1, .one (.sc (.int .i64 v1))), (0, .one (.sc (.int .i64 v0)))], bx := [], nx := 0 } = impl_gcd_t1 n (fun v1 v0 => iter (interp ([]) ty 15 0 n impl_gcdkp (codeAt impl_gcdc [1, 0, 0, 0])) (canon 0 (impl_gcdkp.loop 1)) (kAt ([]) ty 15 0 n impl_gcdkp impl_gcdc [1, 0, 0] [] (ending ty 0 Go.Proofs.Try.f74.results.toList impl_gcdrs impl_gcdbs)) k { env := [(1, .one (.sc (.int .i64 v1))), (0, .one (.sc (.int .i64 v0)))], bx := [], nx := 0 }) v1 v0 := by kernel_rfl
    rw [h]
    have e := congrArg (fun g => impl_gcd_t1 n g v1 v0) (funext fun v1 => funext fun v0 => impl_gcd_l1_eq n k v1 v0)
    exact e

theorem impl_gcd_eq (n : Nat) (a0 : Int) (a1 : Int) : runBody ([]) ty 15 n impl_gcdkp impl_gcdc Go.Proofs.Try.f74.results.toList impl_gcdrs impl_gcdsp impl_gcdbs (a0, (a1, ())) () = impl_gcd n a0 a1 := by
  have h : runBody ([]) ty 15 n impl_gcdkp impl_gcdc Go.Proofs.Try.f74.results.toList impl_gcdrs impl_gcdsp impl_gcdbs (a0, (a1, ())) () = impl_gcd_t n (fun k v1 v0 => iter (interp ([]) ty 15 0 n impl_gcdkp (codeAt impl_gcdc [1, 0, 0, 0])) (canon 0 (impl_gcdkp.loop 1)) (kAt ([]) ty 15 0 n impl_gcdkp impl_gcdc [1, 0, 0] [] (ending ty 0 Go.Proofs.Try.f74.results.toList impl_gcdrs impl_gcdbs)) k { env := [(1, .one (.sc (.int .i64 v1))), (0, .one (.sc (.int .i64 v0)))], bx := [], nx := 0 }) a0 a1 := by kernel_rfl
  rw [h]
  have e := congrArg (fun h1 => impl_gcd_t n h1 a0 a1) (funext fun k => funext fun v1 => funext fun v0 => impl_gcd_l1_eq n k v1 v0)
  exact e

theorem impl_gcd_ok (n : Nat) : FunOk P (impl_gcdF n) :=
  funOk_mk (C := []) (N := 15) (kp := impl_gcdkp) (c := impl_gcdc) (n := n) (G := fun x y => impl_gcd n x.1 x.2.1) follows (AllOk.mem (trivial : AllOk P ([]))) (by kernel_rfl : P.funcs[74]? = some Go.Proofs.Try.f74) (by kernel_rfl) (by kernel_rfl) (by kernel_rfl)
    (fun x y => impl_gcd_eq n x.1 x.2.1) (fun _ _ => map_same (fun _ => rfl) _) (fun _ _ _ _ => rfl)

abbrev impl_withinsp : List Sp := [.v false (.int .i64), .v false (.int .i64), .v false (.int .i64)]
abbrev impl_withinbs : List (Bs × Bool) := []
abbrev impl_withinrs : List (Bool × List Rp) := [(false, [.v false .bool])]
noncomputable def impl_withinkp : Keep := { loop := fun id => match id with | _ => ([], []), join := fun id => match id with | _ => none }
noncomputable def impl_withinc : Code := bodyOf Go.Proofs.Try.f24
noncomputable def impl_withinF (n : Nat) : Fun := { id := 24, sp := impl_withinsp, bs := impl_withinbs, rs := impl_withinrs, f := fun x y => impl_within n x.1 x.2.1 x.2.2.1 }

theorem impl_within_eq (n : Nat) (a0 : Int) (a1 : Int) (a2 : Int) : runBody ([]) ty 15 n impl_withinkp impl_withinc Go.Proofs.Try.f24.results.toList impl_withinrs impl_withinsp impl_withinbs (a0, (a1, (a2, ()))) () = impl_within n a0 a1 a2 := by
  have h : runBody ([]) ty 15 n impl_withinkp impl_withinc Go.Proofs.Try.f24.results.toList impl_withinrs impl_withinsp impl_withinbs (a0, (a1, (a2, ()))) () = impl_within_t n a0 a1 a2 := by kernel_rfl
  rw [h]
  rfl

theorem impl_within_ok (n : Nat) : FunOk P (impl_withinF n) :=
  funOk_mk (C := []) (N := 15) (kp := impl_withinkp) (c := impl_withinc) (n := n) (G := fun x y => impl_within n x.1 x.2.1 x.2.2.1) follows (AllOk.mem (trivial : AllOk P ([]))) (by kernel_rfl : P.funcs[24]? = some Go.Proofs.Try.f24) (by kernel_rfl) (by kernel_rfl) (by kernel_rfl)
    (fun x y => impl_within_eq n x.1 x.2.1 x.2.2.1) (fun _ _ => map_same (fun _ => rfl) _) (fun _ _ _ _ => rfl)

abbrev impl_ValidFracsp : List Sp := [.v true (.pair (.int .i64) (.int .i64))]
abbrev impl_ValidFracbs : List (Bs × Bool) := []
abbrev impl_ValidFracrs : List (Bool × List Rp) := [(false, [.v false .bool])]
noncomputable def impl_ValidFrackp : Keep := { loop := fun id => match id with | _ => ([], []), join := fun id => match id with | _ => none }
noncomputable def impl_ValidFracc : Code := bodyOf Go.Proofs.Try.f51
noncomputable def impl_ValidFracF (n : Nat) : Fun := { id := 51, sp := impl_ValidFracsp, bs := impl_ValidFracbs, rs := impl_ValidFracrs, f := fun x y => impl_ValidFrac n x.1 }

theorem impl_ValidFrac_eq (n : Nat) (a0 : (Int) × (Int)) : runBody ([impl_withinF n, impl_gcdF n]) ty 19 n impl_ValidFrackp impl_ValidFracc Go.Proofs.Try.f51.results.toList impl_ValidFracrs impl_ValidFracsp impl_ValidFracbs (a0, ()) () = impl_ValidFrac n a0 := by
  have h : runBody ([impl_withinF n, impl_gcdF n]) ty 19 n impl_ValidFrackp impl_ValidFracc Go.Proofs.Try.f51.results.toList impl_ValidFracrs impl_ValidFracsp impl_ValidFracbs (a0, ()) () = impl_ValidFrac_t n a0 := by kernel_rfl
  rw [h]
  rfl

theorem impl_ValidFrac_ok (n : Nat) : FunOk P (impl_ValidFracF n) :=
  funOk_mk (C := [impl_withinF n, impl_gcdF n]) (N := 19) (kp := impl_ValidFrackp) (c := impl_ValidFracc) (n := n) (G := fun x y => impl_ValidFrac n x.1) follows (AllOk.mem (⟨impl_within_ok n, ⟨impl_gcd_ok n, trivial⟩⟩ : AllOk P ([impl_withinF n, impl_gcdF n]))) (by kernel_rfl : P.funcs[51]? = some Go.Proofs.Try.f51) (by kernel_rfl) (by kernel_rfl) (by kernel_rfl)
    (fun x y => impl_ValidFrac_eq n x.1) (fun _ _ => map_same (fun _ => rfl) _) (fun _ _ _ _ => rfl)

abbrev impl_ValidTablesp : List Sp := [.v true (.pair (.int .i64) (.pair (.list (.pair (.pair (.int .i8) (.pair (.int .i8) (.pair (.int .i8) (.pair (.int .i8) (.pair (.int .i8) (.int .i8)))))) (.pair (.pair (.int .i64) (.int .i64)) (.int .i64)))) (.pair .bool (.pair (.int .i64) (.int .i64)))))]
abbrev impl_ValidTablebs : List (Bs × Bool) := []
abbrev impl_ValidTablers : List (Bool × List Rp) := [(false, [.v false .bool])]
noncomputable def impl_ValidTablekp : Keep := { loop := fun id => match id with | 4 => ([1, 38, 36, 37], []) | 8 => ([44, 5, 1, 43, 36, 37, 38, 4], []) | _ => ([], []), join := fun id => match id with | _ => none }
noncomputable def impl_ValidTablec : Code := bodyOf Go.Proofs.Try.f23
noncomputable def impl_ValidTableF (n : Nat) : Fun := { id := 23, sp := impl_ValidTablesp, bs := impl_ValidTablebs, rs := impl_ValidTablers, f := fun x y => impl_ValidTable n x.1 }

theorem impl_ValidTable_l8_eq (n : Nat) (G4 : St → Option ((((Bool) × (Unit)) × (Unit)) × (Unit))) : ∀ (k : Nat) (v44 : Int) (v5 : Bool) (v43_0 : Int) (v43_1 : Int) (v43_2 : Int) (v43_3 : Int) (v43_4 : Int) (v43_5 : Int) (v36 : List (((Int) × ((Int) × ((Int) × ((Int) × ((Int) × (Int)))))) × (((Int) × (Int)) × (Int)))) (v37 : Int) (v38 : Int) (b0_0 : Int) (b0_1 : List (((Int) × ((Int) × ((Int) × ((Int) × ((Int) × (Int)))))) × (((Int) × (Int)) × (Int)))) (b0_2 : Bool) (b0_3 : Int) (b0_4 : Int) (b1_0 : Int) (b1_1 : Int) (b1_2 : Int) (b1_3 : Int) (b1_4 : Int) (b1_5 : Int) (b1_6 : Int) (b1_7 : Int) (b1_8 : Int), iter (interp ([impl_withinF n, impl_ValidFracF n]) ty 83 0 n impl_ValidTablekp (codeAt impl_ValidTablec [1, 1, 0, 1, 0, 0, 1, 1, 0, 0, 1, 1, 0, 1, 0, 0])) (canon 0 (impl_ValidTablekp.loop 8)) (kAt ([impl_withinF n, impl_ValidFracF n]) ty 83 0 n impl_ValidTablekp impl_ValidTablec [1, 1, 0, 1, 0, 0, 1, 1, 0, 0, 1, 1, 0, 1, 0] [G4] (ending ty 0 Go.Proofs.Try.f23.results.toList impl_ValidTablers impl_ValidTablebs)) k { env := [(44, .one (.sc (.int .i64 v44))), (5, .one (.sc (.bool v5))), (1, .one (.ref 0 0 0 0 0 0)), (43, .agg [.sc (.int .i8 v43_0), .sc (.int .i8 v43_1), .sc (.int .i8 v43_2), .sc (.int .i8 v43_3), .sc (.int .i8 v43_4), .sc (.int .i8 v43_5)]), (36, .one (.list true (.pair (.pair (.int .i8) (.pair (.int .i8) (.pair (.int .i8) (.pair (.int .i8) (.pair (.int .i8) (.int .i8)))))) (.pair (.pair (.int .i64) (.int .i64)) (.int .i64))) v36)), (37, .one (.sc (.int .i64 v37))), (38, .one (.sc (.int .i64 v38))), (4, .one (.ref 1 0 0 0 0 0))], bx := [(0, .var 31 [.sc (.int .i64 b0_0), .list true (.pair (.pair (.int .i8) (.pair (.int .i8) (.pair (.int .i8) (.pair (.int .i8) (.pair (.int .i8) (.int .i8)))))) (.pair (.pair (.int .i64) (.int .i64)) (.int .i64))) b0_1, .sc (.bool b0_2), .sc (.int .i64 b0_3), .sc (.int .i64 b0_4)]), (1, .var 60 [.sc (.int .i8 b1_0), .sc (.int .i8 b1_1), .sc (.int .i8 b1_2), .sc (.int .i8 b1_3), .sc (.int .i8 b1_4), .sc (.int .i8 b1_5), .sc (.int .i64 b1_6), .sc (.int .i64 b1_7), .sc (.int .i64 b1_8)])], nx := 2 } = impl_ValidTable_l8 n (fun v38 v36 v37 b0_0 b0_1 b0_2 b0_3 b0_4 => G4 { env := [(1, .one (.ref 0 0 0 0 0 0)), (38, .one (.sc (.int .i64 v38))), (36, .one (.list true (.pair (.pair (.int .i8) (.pair (.int .i8) (.pair (.int .i8) (.pair (.int .i8) (.pair (.int .i8) (.int .i8)))))) (.pair (.pair (.int .i64) (.int .i64)) (.int .i64))) v36)), (37, .one (.sc (.int .i64 v37)))], bx := [(0, .var 31 [.sc (.int .i64 b0_0), .list true (.pair (.pair (.int .i8) (.pair (.int .i8) (.pair (.int .i8) (.pair (.int .i8) (.pair (.int .i8) (.int .i8)))))) (.pair (.pair (.int .i64) (.int .i64)) (.int .i64))) b0_1, .sc (.bool b0_2), .sc (.int .i64 b0_3), .sc (.int .i64 b0_4)])], nx := 1 }) k v44 v5 v43_0 v43_1 v43_2 v43_3 v43_4 v43_5 v36 v37 v38 b0_0 b0_1 b0_2 b0_3 b0_4 b1_0 b1_1 b1_2 b1_3 b1_4 b1_5 b1_6 b1_7 b1_8
  | 0, _, _, _, _, _, _, _, _, _, _, _, _, _, _, _, _, _, _, _, _, _, _, _, _, _ => by kernel_rfl
  | k + 1, v44, v5, v43_0, v43_1, v43_2, v43_3, v43_4, v43_5, v36, v37, v38, b0_0, b0_1, b0_2, b0_3, b0_4, b1_0, b1_1, b1_2, b1_3, b1_4, b1_5, b1_6, b1_7, b1_8 => by
    have h : iter (interp ([impl_withinF n, impl_ValidFracF n]) ty 83 0 n impl_ValidTablekp (codeAt impl_ValidTablec [1, 1, 0, 1, 0, 0, 1, 1, 0, 0, 1, 1, 0, 1, 0, 0])) (canon 0 (impl_ValidTablekp.loop 8)) (kAt ([impl_withinF n, impl_ValidFracF n]) ty 83 0 n impl_ValidTablekp impl_ValidTablec [1, 1, 0, 1, 0, 0, 1, 1, 0, 0, 1, 1, 0, 1, 0] [G4] (ending ty 0 Go.Proofs.Try.f23.results.toList impl_ValidTablers impl_ValidTablebs)) (k + 1) { env := [(44, .one (.sc (.int .i64 v44))), (5, .one (.sc (.bool v5))), (1, .one (.ref 0 0 0 0 0 0)), (43, .agg [.sc (.int .i8 v43_0), .sc (.int .i8 v43_1), .sc (.int .i8 v43_2), .sc (.int .i8 v43_3), .sc (.int .i8 v43_4), .sc (.int .i8 v43_5)]), (36, .one (.list true (.pair (.pair (.int .i8) (.pair (.int .i8) (.pair (.int .i8) (.pair (.int .i8) (.pair (.int .i8) (.int .i8)))))) (.pair (.pair (.int .i64) (.int .i64)) (.int .i64))) v36)), (37, .one (.sc (.int .i64 v37))), (38, .one (.sc (.int .i64 v38))), (4, .one (.ref 1 0 0 0 0 0))], bx := [(0, .var 31 [.sc (.int .i64 b0_0), .list true (.pair (.pair (.int .i8) (.pair (.int .i8) (.pair (.int .i8) (.pair (.int .i8) (.pair (.int .i8) (.int .i8)))))) (.pair (.pair (.int .i64) (.int .i64)) (.int .i64))) b0_1, .sc (.bool b0_2), .sc (.int .i64 b0_3), .sc (.int .i64 b0_4)]), (1, .var 60 [.sc (.int .i8 b1_0), .sc (.int .i8 b1_1), .sc (.int .i8 b1_2), .sc (.int .i8 b1_3), .sc (.int .i8 b1_4), .sc (.int .i8 b1_5), .sc (.int .i64 b1_6), .sc (.int .i64 b1_7), .sc (.int .i64 b1_8)])], nx := 2 } = impl_ValidTable_t8 n (fun v38 v36 v37 b0_0 b0_1 b0_2 b0_3 b0_4 => G4 { env := [(1, .one (.ref 0 0 0 0 0 0)), (38, .one (.sc (.int .i64 v38))), (36, .one (.list true (.pair (.pair (.int .i8) (.pair (.int .i8) (.pair (.int .i8) (.pair (.int .i8) (.pair (.int .i8) (.int .i8)))))) (.pair (.pair (.int .i64) (.int .i64)) (.int .i64))) v36)), (37, .one (.sc (.int .i64 v37)))], bx := [(0, .var 31 [.sc (.int .i64 b0_0), .list true (.pair (.pair (.int .i8) (.pair (.int .i8) (.pair (.int .i8) (.pair (.int .i8) (.pair (.int .i8) (.int .i8)))))) (.pair (.pair (.int .i64) (.int .i64)) (.int .i64))) b0_1, .sc (.bool b0_2), .sc (.int .i64 b0_3), .sc (.int .i64 b0_4)])], nx := 1 }) (fun v44 v5 v43_0 v43_1 v43_2 v43_3 v43_4 v43_5 v36 v37 v38 b0_0 b0_1 b0_2 b0_3 b0_4 b1_0 b1_1 b1_2 b1_3 b1_4 b1_5 b1_6 b1_7 b1_8 => iter (interp ([impl_withinF n, impl_ValidFracF n]) ty 83 0 n impl_ValidTablekp (codeAt impl_ValidTablec [1, 1, 0, 1, 0, 0, 1, 1, 0, 0, 1, 1, 0, 1, 0, 0])) (canon 0 (impl_ValidTablekp.loop 8)) (kAt ([impl_withinF n, impl_ValidFracF n]) ty 83 0 n impl_ValidTablekp impl_ValidTablec [1, 1, 0, 1, 0, 0, 1, 1, 0, 0, 1, 1, 0, 1, 0] [G4] (ending ty 0 Go.Proofs.Try.f23.results.toList impl_ValidTablers impl_ValidTablebs)) k { env := [(44, .one (.sc (.int .i64 v44))), (5, .one (.sc (.bool v5))), (1, .one (.ref 0 0 0 0 0 0)), (43, .agg [.sc (.int .i8 v43_0), .sc (.int .i8 v43_1), .sc (.int .i8 v43_2), .sc (.int .i8 v43_3), .sc (.int .i8 v43_4), .sc (.int .i8 v43_5)]), (36, .one (.list true (.pair (.pair (.int .i8) (.pair (.int .i8) (.pair (.int .i8) (.pair (.int .i8) (.pair (.int .i8) (.int .i8)))))) (.pair (.pair (.int .i64) (.int .i64)) (.int .i64))) v36)), (37, .one (.sc (.int .i64 v37))), (38, .one (.sc (.int .i64 v38))), (4, .one (.ref 1 0 0 0 0 0))], bx := [(0, .var 31 [.sc (.int .i64 b0_0), .list true (.pair (.pair (.int .i8) (.pair (.int .i8) (.pair (.int .i8) (.pair (.int .i8) (.pair (.int .i8) (.int .i8)))))) (.pair (.pair (.int .i64) (.int .i64)) (.int .i64))) b0_1, .sc (.bool b0_2), .sc (.int .i64 b0_3), .sc (.int .i64 b0_4)]), (1, .var 60 [.sc (.int .i8 b1_0), .sc (.int .i8 b1_1), .sc (.int .i8 b1_2), .sc (.int .i8 b1_3), .sc (.int .i8 b1_4), .sc (.int .i8 b1_5), .sc (.int .i64 b1_6), .sc (.int .i64 b1_7), .sc (.int .i64 b1_8)])], nx := 2 }) v44 v5 v43_0 v43_1 v43_2 v43_3 v43_4 v43_5 v36 v37 v38 b0_0 b0_1 b0_2 b0_3 b0_4 b1_0 b1_1 b1_2 b1_3 b1_4 b1_5 b1_6 b1_7 b1_8 := by kernel_rfl
    rw [h]
    have e := congrArg (fun g => impl_ValidTable_t8 n (fun v38 v36 v37 b0_0 b0_1 b0_2 b0_3 b0_4 => G4 { env := [(1, .one (.ref 0 0 0 0 0 0)), (38, .one (.sc (.int .i64 v38))), (36, .one (.list true (.pair (.pair (.int .i8) (.pair (.int .i8) (.pair (.int .i8) (.pair (.int .i8) (.pair (.int .i8) (.int .i8)))))) (.pair (.pair (.int .i64) (.int .i64)) (.int .i64))) v36)), (37, .one (.sc (.int .i64 v37)))], bx := [(0, .var 31 [.sc (.int .i64 b0_0), .list true (.pair (.pair (.int .i8) (.pair (.int .i8) (.pair (.int .i8) (.pair (.int .i8) (.pair (.int .i8) (.int .i8)))))) (.pair (.pair (.int .i64) (.int .i64)) (.int .i64))) b0_1, .sc (.bool b0_2), .sc (.int .i64 b0_3), .sc (.int .i64 b0_4)])], nx := 1 }) g v44 v5 v43_0 v43_1 v43_2 v43_3 v43_4 v43_5 v36 v37 v38 b0_0 b0_1 b0_2 b0_3 b0_4 b1_0 b1_1 b1_2 b1_3 b1_4 b1_5 b1_6 b1_7 b1_8) (funext fun v44 => funext fun v5 => funext fun v43_0 => funext fun v43_1 => funext fun v43_2 => funext fun v43_3 => funext fun v43_4 => funext fun v43_5 => funext fun v36 => funext fun v37 => funext fun v38 => funext fun b0_0 => funext fun b0_1 => funext fun b0_2 => funext fun b0_3 => funext fun b0_4 => funext fun b1_0 => funext fun b1_1 => funext fun b1_2 => funext fun b1_3 => funext fun b1_4 => funext fun b1_5 => funext fun b1_6 => funext fun b1_7 => funext fun b1_8 => impl_ValidTable_l8_eq n G4 k v44 v5 v43_0 v43_1 v43_2 v43_3 v43_4 v43_5 v36 v37 v38 b0_0 b0_1 b0_2 b0_3 b0_4 b1_0 b1_1 b1_2 b1_3 b1_4 b1_5 b1_6 b1_7 b1_8)
    exact e

theorem impl_ValidTable_l4_eq (n : Nat) : ∀ (k : Nat) (v38 : Int) (v36 : List (((Int) × ((Int) × ((Int) × ((Int) × ((Int) × (Int)))))) × (((Int) × (Int)) × (Int)))) (v37 : Int) (b0_0 : Int) (b0_1 : List (((Int) × ((Int) × ((Int) × ((Int) × ((Int) × (Int)))))) × (((Int) × (Int)) × (Int)))) (b0_2 : Bool) (b0_3 : Int) (b0_4 : Int), iter (interp ([impl_withinF n, impl_ValidFracF n]) ty 83 0 n impl_ValidTablekp (codeAt impl_ValidTablec [1, 1, 0, 1, 0, 0])) (canon 0 (impl_ValidTablekp.loop 4)) (kAt ([impl_withinF n, impl_ValidFracF n]) ty 83 0 n impl_ValidTablekp impl_ValidTablec [1, 1, 0, 1, 0] [] (ending ty 0 Go.Proofs.Try.f23.results.toList impl_ValidTablers impl_ValidTablebs)) k { env := [(1, .one (.ref 0 0 0 0 0 0)), (38, .one (.sc (.int .i64 v38))), (36, .one (.list true (.pair (.pair (.int .i8) (.pair (.int .i8) (.pair (.int .i8) (.pair (.int .i8) (.pair (.int .i8) (.int .i8)))))) (.pair (.pair (.int .i64) (.int .i64)) (.int .i64))) v36)), (37, .one (.sc (.int .i64 v37)))], bx := [(0, .var 31 [.sc (.int .i64 b0_0), .list true (.pair (.pair (.int .i8) (.pair (.int .i8) (.pair (.int .i8) (.pair (.int .i8) (.pair (.int .i8) (.int .i8)))))) (.pair (.pair (.int .i64) (.int .i64)) (.int .i64))) b0_1, .sc (.bool b0_2), .sc (.int .i64 b0_3), .sc (.int .i64 b0_4)])], nx := 1 } = impl_ValidTable_l4 n k v38 v36 v37 b0_0 b0_1 b0_2 b0_3 b0_4
  | 0, _, _, _, _, _, _, _, _ => by kernel_rfl
  | k + 1, v38, v36, v37, b0_0, b0_1, b0_2, b0_3, b0_4 => by
    have h : iter (interp ([impl_withinF n, impl_ValidFracF n]) ty 83 0 n impl_ValidTablekp (codeAt impl_ValidTablec [1, 1, 0, 1, 0, 0])) (canon 0 (impl_ValidTablekp.loop 4)) (kAt ([impl_withinF n, impl_ValidFracF n]) ty 83 0 n impl_ValidTablekp impl_ValidTablec [1, 1, 0, 1, 0] [] (ending ty 0 Go.Proofs.Try.f23.results.toList impl_ValidTablers impl_ValidTablebs)) (k + 1) { env := [(1, .one (.ref 0 0 0 0 0 0)), (38, .one (.sc (.int .i64 v38))), (36, .one (.list true (.pair (.pair (.int .i8) (.pair (.int .i8) (.pair (.int .i8) (.pair (.int .i8) (.pair (.int .i8) (.int .i8)))))) (.pair (.pair (.int .i64) (.int .i64)) (.int .i64))) v36)), (37, .one (.sc (.int .i64 v37)))], bx := [(0, .var 31 [.sc (.int .i64 b0_0), .list true (.pair (.pair (.int .i8) (.pair (.int .i8) (.pair (.int .i8) (.pair (.int .i8) (.pair (.int .i8) (.int .i8)))))) (.pair (.pair (.int .i64) (.int .i64)) (.int .i64))) b0_1, .sc (.bool b0_2), .sc (.int .i64 b0_3), .sc (.int .i64 b0_4)])], nx := 1 } = impl_ValidTable_t4 n (fun k' v44 v5 v43_0 v43_1 v43_2 v43_3 v43_4 v43_5 v36 v37 v38 b0_0 b0_1 b0_2 b0_3 b0_4 b1_0 b1_1 b1_2 b1_3 b1_4 b1_5 b1_6 b1_7 b1_8 => iter (interp ([impl_withinF n, impl_ValidFracF n]) ty 83 0 n impl_ValidTablekp (codeAt impl_ValidTablec [1, 1, 0, 1, 0, 0, 1, 1, 0, 0, 1, 1, 0, 1, 0, 0])) (canon 0 (impl_ValidTablekp.loop 8)) (kAt ([impl_withinF n, impl_ValidFracF n]) ty 83 0 n impl_ValidTablekp impl_ValidTablec [1, 1, 0, 1, 0, 0, 1, 1, 0, 0, 1, 1, 0, 1, 0] [(fun s => iter (interp ([impl_withinF n, impl_ValidFracF n]) ty 83 0 n impl_ValidTablekp (codeAt impl_ValidTablec [1, 1, 0, 1, 0, 0])) (canon 0 (impl_ValidTablekp.loop 4)) (kAt ([impl_withinF n, impl_ValidFracF n]) ty 83 0 n impl_ValidTablekp impl_ValidTablec [1, 1, 0, 1, 0] [] (ending ty 0 Go.Proofs.Try.f23.results.toList impl_ValidTablers impl_ValidTablebs)) k s)] (ending ty 0 Go.Proofs.Try.f23.results.toList impl_ValidTablers impl_ValidTablebs)) k' { env := [(44, .one (.sc (.int .i64 v44))), (5, .one (.sc (.bool v5))), (1, .one (.ref 0 0 0 0 0 0)), (43, .agg [.sc (.int .i8 v43_0), .sc (.int .i8 v43_1), .sc (.int .i8 v43_2), .sc (.int .i8 v43_3), .sc (.int .i8 v43_4), .sc (.int .i8 v43_5)]), (36, .one (.list true (.pair (.pair (.int .i8) (.pair (.int .i8) (.pair (.int .i8) (.pair (.int .i8) (.pair (.int .i8) (.int .i8)))))) (.pair (.pair (.int .i64) (.int .i64)) (.int .i64))) v36)), (37, .one (.sc (.int .i64 v37))), (38, .one (.sc (.int .i64 v38))), (4, .one (.ref 1 0 0 0 0 0))], bx := [(0, .var 31 [.sc (.int .i64 b0_0), .list true (.pair (.pair (.int .i8) (.pair (.int .i8) (.pair (.int .i8) (.pair (.int .i8) (.pair (.int .i8) (.int .i8)))))) (.pair (.pair (.int .i64) (.int .i64)) (.int .i64))) b0_1, .sc (.bool b0_2), .sc (.int .i64 b0_3), .sc (.int .i64 b0_4)]), (1, .var 60 [.sc (.int .i8 b1_0), .sc (.int .i8 b1_1), .sc (.int .i8 b1_2), .sc (.int .i8 b1_3), .sc (.int .i8 b1_4), .sc (.int .i8 b1_5), .sc (.int .i64 b1_6), .sc (.int .i64 b1_7), .sc (.int .i64 b1_8)])], nx := 2 }) (fun v38 v36 v37 b0_0 b0_1 b0_2 b0_3 b0_4 => iter (interp ([impl_withinF n, impl_ValidFracF n]) ty 83 0 n impl_ValidTablekp (codeAt impl_ValidTablec [1, 1, 0, 1, 0, 0])) (canon 0 (impl_ValidTablekp.loop 4)) (kAt ([impl_withinF n, impl_ValidFracF n]) ty 83 0 n impl_ValidTablekp impl_ValidTablec [1, 1, 0, 1, 0] [] (ending ty 0 Go.Proofs.Try.f23.results.toList impl_ValidTablers impl_ValidTablebs)) k { env := [(1, .one (.ref 0 0 0 0 0 0)), (38, .one (.sc (.int .i64 v38))), (36, .one (.list true (.pair (.pair (.int .i8) (.pair (.int .i8) (.pair (.int .i8) (.pair (.int .i8) (.pair (.int .i8) (.int .i8)))))) (.pair (.pair (.int .i64) (.int .i64)) (.int .i64))) v36)), (37, .one (.sc (.int .i64 v37)))], bx := [(0, .var 31 [.sc (.int .i64 b0_0), .list true (.pair (.pair (.int .i8) (.pair (.int .i8) (.pair (.int .i8) (.pair (.int .i8) (.pair (.int .i8) (.int .i8)))))) (.pair (.pair (.int .i64) (.int .i64)) (.int .i64))) b0_1, .sc (.bool b0_2), .sc (.int .i64 b0_3), .sc (.int .i64 b0_4)])], nx := 1 }) v38 v36 v37 b0_0 b0_1 b0_2 b0_3 b0_4 := by kernel_rfl
    rw [h]
    have e := congr (congrArg (fun h8 g => impl_ValidTable_t4 n h8 g v38 v36 v37 b0_0 b0_1 b0_2 b0_3 b0_4) ((funext fun k' => funext fun v44 => funext fun v5 => funext fun v43_0 => funext fun v43_1 => funext fun v43_2 => funext fun v43_3 => funext fun v43_4 => funext fun v43_5 => funext fun v36 => funext fun v37 => funext fun v38 => funext fun b0_0 => funext fun b0_1 => funext fun b0_2 => funext fun b0_3 => funext fun b0_4 => funext fun b1_0 => funext fun b1_1 => funext fun b1_2 => funext fun b1_3 => funext fun b1_4 => funext fun b1_5 => funext fun b1_6 => funext fun b1_7 => funext fun b1_8 => impl_ValidTable_l8_eq n (fun s => iter (interp ([impl_withinF n, impl_ValidFracF n]) ty 83 0 n impl_ValidTablekp (codeAt impl_ValidTablec [1, 1, 0, 1, 0, 0])) (canon 0 (impl_ValidTablekp.loop 4)) (kAt ([impl_withinF n, impl_ValidFracF n]) ty 83 0 n impl_ValidTablekp impl_ValidTablec [1, 1, 0, 1, 0] [] (ending ty 0 Go.Proofs.Try.f23.results.toList impl_ValidTablers impl_ValidTablebs)) k s) k' v44 v5 v43_0 v43_1 v43_2 v43_3 v43_4 v43_5 v36 v37 v38 b0_0 b0_1 b0_2 b0_3 b0_4 b1_0 b1_1 b1_2 b1_3 b1_4 b1_5 b1_6 b1_7 b1_8).trans (congrArg (fun z => impl_ValidTable_l8 n z) (funext fun v38 => funext fun v36 => funext fun v37 => funext fun b0_0 => funext fun b0_1 => funext fun b0_2 => funext fun b0_3 => funext fun b0_4 => impl_ValidTable_l4_eq n k v38 v36 v37 b0_0 b0_1 b0_2 b0_3 b0_4)))) (funext fun v38 => funext fun v36 => funext fun v37 => funext fun b0_0 => funext fun b0_1 => funext fun b0_2 => funext fun b0_3 => funext fun b0_4 => impl_ValidTable_l4_eq n k v38 v36 v37 b0_0 b0_1 b0_2 b0_3 b0_4)
    exact e

theorem impl_ValidTable_eq (n : Nat) (a0 : (Int) × ((List (((Int) × ((Int) × ((Int) × ((Int) × ((Int) × (Int)))))) × (((Int) × (Int)) × (Int)))) × ((Bool) × ((Int) × (Int))))) : runBody ([impl_withinF n, impl_ValidFracF n]) ty 83 n impl_ValidTablekp impl_ValidTablec Go.Proofs.Try.f23.results.toList impl_ValidTablers impl_ValidTablesp impl_ValidTablebs (a0, ()) () = impl_ValidTable n a0 := by
  have h : runBody ([impl_withinF n, impl_ValidFracF n]) ty 83 n impl_ValidTablekp impl_ValidTablec Go.Proofs.Try.f23.results.toList impl_ValidTablers impl_ValidTablesp impl_ValidTablebs (a0, ()) () = impl_ValidTable_t n (fun k v38 v36 v37 b0_0 b0_1 b0_2 b0_3 b0_4 => iter (interp ([impl_withinF n, impl_ValidFracF n]) ty 83 0 n impl_ValidTablekp (codeAt impl_ValidTablec [1, 1, 0, 1, 0, 0])) (canon 0 (impl_ValidTablekp.loop 4)) (kAt ([impl_withinF n, impl_ValidFracF n]) ty 83 0 n impl_ValidTablekp impl_ValidTablec [1, 1, 0, 1, 0] [] (ending ty 0 Go.Proofs.Try.f23.results.toList impl_ValidTablers impl_ValidTablebs)) k { env := [(1, .one (.ref 0 0 0 0 0 0)), (38, .one (.sc (.int .i64 v38))), (36, .one (.list true (.pair (.pair (.int .i8) (.pair (.int .i8) (.pair (.int .i8) (.pair (.int .i8) (.pair (.int .i8) (.int .i8)))))) (.pair (.pair (.int .i64) (.int .i64)) (.int .i64))) v36)), (37, .one (.sc (.int .i64 v37)))], bx := [(0, .var 31 [.sc (.int .i64 b0_0), .list true (.pair (.pair (.int .i8) (.pair (.int .i8) (.pair (.int .i8) (.pair (.int .i8) (.pair (.int .i8) (.int .i8)))))) (.pair (.pair (.int .i64) (.int .i64)) (.int .i64))) b0_1, .sc (.bool b0_2), .sc (.int .i64 b0_3), .sc (.int .i64 b0_4)])], nx := 1 }) a0 := by kernel_rfl
  rw [h]
  have e := congrArg (fun h4 => impl_ValidTable_t n h4 a0) (funext fun k => funext fun v38 => funext fun v36 => funext fun v37 => funext fun b0_0 => funext fun b0_1 => funext fun b0_2 => funext fun b0_3 => funext fun b0_4 => impl_ValidTable_l4_eq n k v38 v36 v37 b0_0 b0_1 b0_2 b0_3 b0_4)
  exact e

theorem impl_ValidTable_ok (n : Nat) : FunOk P (impl_ValidTableF n) :=
  funOk_mk (C := [impl_withinF n, impl_ValidFracF n]) (N := 83) (kp := impl_ValidTablekp) (c := impl_ValidTablec) (n := n) (G := fun x y => impl_ValidTable n x.1) follows (AllOk.mem (⟨impl_within_ok n, ⟨impl_ValidFrac_ok n, trivial⟩⟩ : AllOk P ([impl_withinF n, impl_ValidFracF n]))) (by kernel_rfl : P.funcs[23]? = some Go.Proofs.Try.f23) (by kernel_rfl) (by kernel_rfl) (by kernel_rfl)
    (fun x y => impl_ValidTable_eq n x.1) (fun _ _ => map_same (fun _ => rfl) _) (fun _ _ _ _ => rfl)

abbrev slices_Clone_impl_Obs_impl_Obssp : List Sp := [.v false (.list (.pair (.pair (.int .i8) (.pair (.int .i8) (.pair (.int .i8) (.pair (.int .i8) (.pair (.int .i8) (.int .i8)))))) (.pair (.pair (.int .i64) (.int .i64)) (.int .i64))))]
abbrev slices_Clone_impl_Obs_impl_Obsbs : List (Bs × Bool) := []
abbrev slices_Clone_impl_Obs_impl_Obsrs : List (Bool × List Rp) := [(false, [.new  (.pair (.pair (.int .i8) (.pair (.int .i8) (.pair (.int .i8) (.pair (.int .i8) (.pair (.int .i8) (.int .i8)))))) (.pair (.pair (.int .i64) (.int .i64)) (.int .i64)))])]
noncomputable def slices_Clone_impl_Obs_impl_Obskp : Keep := { loop := fun id => match id with | _ => ([], []), join := fun id => match id with | _ => none }
noncomputable def slices_Clone_impl_Obs_impl_Obsc : Code := bodyOf Go.Proofs.Try.f26
noncomputable def slices_Clone_impl_Obs_impl_ObsF (n : Nat) : Fun := { id := 26, sp := slices_Clone_impl_Obs_impl_Obssp, bs := slices_Clone_impl_Obs_impl_Obsbs, rs := slices_Clone_impl_Obs_impl_Obsrs, f := fun x y => slices_Clone_impl_Obs_impl_Obs n x.1 }

theorem slices_Clone_impl_Obs_impl_Obs_eq (n : Nat) (a0 : List (((Int) × ((Int) × ((Int) × ((Int) × ((Int) × (Int)))))) × (((Int) × (Int)) × (Int)))) : runBody ([]) ty 8 n slices_Clone_impl_Obs_impl_Obskp slices_Clone_impl_Obs_impl_Obsc Go.Proofs.Try.f26.results.toList slices_Clone_impl_Obs_impl_Obsrs slices_Clone_impl_Obs_impl_Obssp slices_Clone_impl_Obs_impl_Obsbs (a0, ()) () = slices_Clone_impl_Obs_impl_Obs n a0 := by
  have h : runBody ([]) ty 8 n slices_Clone_impl_Obs_impl_Obskp slices_Clone_impl_Obs_impl_Obsc Go.Proofs.Try.f26.results.toList slices_Clone_impl_Obs_impl_Obsrs slices_Clone_impl_Obs_impl_Obssp slices_Clone_impl_Obs_impl_Obsbs (a0, ()) () = slices_Clone_impl_Obs_impl_Obs_t n a0 := by kernel_rfl
  rw [h]
  rfl

theorem slices_Clone_impl_Obs_impl_Obs_ok (n : Nat) : FunOk P (slices_Clone_impl_Obs_impl_ObsF n) :=
  funOk_mk (C := []) (N := 8) (kp := slices_Clone_impl_Obs_impl_Obskp) (c := slices_Clone_impl_Obs_impl_Obsc) (n := n) (G := fun x y => slices_Clone_impl_Obs_impl_Obs n x.1) follows (AllOk.mem (trivial : AllOk P ([]))) (by kernel_rfl : P.funcs[26]? = some Go.Proofs.Try.f26) (by kernel_rfl) (by kernel_rfl) (by kernel_rfl)
    (fun x y => slices_Clone_impl_Obs_impl_Obs_eq n x.1) (fun _ _ => map_same (fun _ => rfl) _) (fun _ _ _ _ => rfl)

abbrev slices_Delete_impl_Obs_impl_Obssp : List Sp := [.sl 0, .v false (.int .i64), .v false (.int .i64)]
abbrev slices_Delete_impl_Obs_impl_Obsbs : List (Bs × Bool) := [(.row  (.pair (.pair (.int .i8) (.pair (.int .i8) (.pair (.int .i8) (.pair (.int .i8) (.pair (.int .i8) (.int .i8)))))) (.pair (.pair (.int .i64) (.int .i64)) (.int .i64))), true)]
abbrev slices_Delete_impl_Obs_impl_Obsrs : List (Bool × List Rp) := [(false, [.pre 0])]
noncomputable def slices_Delete_impl_Obs_impl_Obskp : Keep := { loop := fun id => match id with | _ => ([], []), join := fun id => match id with | _ => none }
noncomputable def slices_Delete_impl_Obs_impl_Obsc : Code := bodyOf Go.Proofs.Try.f25
noncomputable def slices_Delete_impl_Obs_impl_ObsF (n : Nat) : Fun := { id := 25, sp := slices_Delete_impl_Obs_impl_Obssp, bs := slices_Delete_impl_Obs_impl_Obsbs, rs := slices_Delete_impl_Obs_impl_Obsrs, f := fun x y => slices_Delete_impl_Obs_impl_Obs n x.2.1 x.2.2.1 y.1 }

theorem slices_Delete_impl_Obs_impl_Obs_eq (n : Nat) (a1 : Int) (a2 : Int) (b0 : List (((Int) × ((Int) × ((Int) × ((Int) × ((Int) × (Int)))))) × (((Int) × (Int)) × (Int)))) : runBody ([]) ty 33 n slices_Delete_impl_Obs_impl_Obskp slices_Delete_impl_Obs_impl_Obsc Go.Proofs.Try.f25.results.toList slices_Delete_impl_Obs_impl_Obsrs slices_Delete_impl_Obs_impl_Obssp slices_Delete_impl_Obs_impl_Obsbs ((), (a1, (a2, ()))) (b0, ()) = slices_Delete_impl_Obs_impl_Obs n a1 a2 b0 := by
  have h : runBody ([]) ty 33 n slices_Delete_impl_Obs_impl_Obskp slices_Delete_impl_Obs_impl_Obsc Go.Proofs.Try.f25.results.toList slices_Delete_impl_Obs_impl_Obsrs slices_Delete_impl_Obs_impl_Obssp slices_Delete_impl_Obs_impl_Obsbs ((), (a1, (a2, ()))) (b0, ()) = slices_Delete_impl_Obs_impl_Obs_t n a1 a2 b0 := by kernel_rfl
  rw [h]
  rfl

theorem slices_Delete_impl_Obs_impl_Obs_ok (n : Nat) : FunOk P (slices_Delete_impl_Obs_impl_ObsF n) :=
  funOk_mk (C := []) (N := 33) (kp := slices_Delete_impl_Obs_impl_Obskp) (c := slices_Delete_impl_Obs_impl_Obsc) (n := n) (G := fun x y => slices_Delete_impl_Obs_impl_Obs n x.2.1 x.2.2.1 y.1) follows (AllOk.mem (trivial : AllOk P ([]))) (by kernel_rfl : P.funcs[25]? = some Go.Proofs.Try.f25) (by kernel_rfl) (by kernel_rfl) (by kernel_rfl)
    (fun x y => slices_Delete_impl_Obs_impl_Obs_eq n x.2.1 x.2.2.1 y.1) (fun _ _ => map_same (fun _ => rfl) _) (fun _ _ _ _ => rfl)

abbrev impl_WithoutObssp : List Sp := [.v true (.pair (.int .i64) (.pair (.list (.pair (.pair (.int .i8) (.pair (.int .i8) (.pair (.int .i8) (.pair (.int .i8) (.pair (.int .i8) (.int .i8)))))) (.pair (.pair (.int .i64) (.int .i64)) (.int .i64)))) (.pair .bool (.pair (.int .i64) (.int .i64))))), .v false (.int .i64)]
abbrev impl_WithoutObsbs : List (Bs × Bool) := []
abbrev impl_WithoutObsrs : List (Bool × List Rp) := [(true, [.v false (.int .i64), .new (.pair (.pair (.int .i8) (.pair (.int .i8) (.pair (.int .i8) (.pair (.int .i8) (.pair (.int .i8) (.int .i8)))))) (.pair (.pair (.int .i64) (.int .i64)) (.int .i64))), .v false (.pair .bool (.pair (.int .i64) (.int .i64)))]), (false, [.v false (.int .i64)])]
noncomputable def impl_WithoutObskp : Keep := { loop := fun id => match id with | _ => ([], []), join := fun id => match id with | _ => none }
noncomputable def impl_WithoutObsc : Code := bodyOf Go.Proofs.Try.f8
noncomputable def impl_WithoutObsF (n : Nat) : Fun := { id := 8, sp := impl_WithoutObssp, bs := impl_WithoutObsbs, rs := impl_WithoutObsrs, f := fun x y => impl_WithoutObs n x.1 x.2.1 }

theorem impl_WithoutObs_eq (n : Nat) (a0 : (Int) × ((List (((Int) × ((Int) × ((Int) × ((Int) × ((Int) × (Int)))))) × (((Int) × (Int)) × (Int)))) × ((Bool) × ((Int) × (Int))))) (a1 : Int) : runBody ([impl_ValidTableF n, impl_withinF n, slices_Clone_impl_Obs_impl_ObsF n, slices_Delete_impl_Obs_impl_ObsF n]) ty 31 n impl_WithoutObskp impl_WithoutObsc Go.Proofs.Try.f8.results.toList impl_WithoutObsrs impl_WithoutObssp impl_WithoutObsbs (a0, (a1, ())) () = impl_WithoutObs n a0 a1 := by
  have h : runBody ([impl_ValidTableF n, impl_withinF n, slices_Clone_impl_Obs_impl_ObsF n, slices_Delete_impl_Obs_impl_ObsF n]) ty 31 n impl_WithoutObskp impl_WithoutObsc Go.Proofs.Try.f8.results.toList impl_WithoutObsrs impl_WithoutObssp impl_WithoutObsbs (a0, (a1, ())) () = impl_WithoutObs_t n a0 a1 := by kernel_rfl
  rw [h]
  rfl

theorem impl_WithoutObs_ok (n : Nat) : FunOk P (impl_WithoutObsF n) :=
  funOk_mk (C := [impl_ValidTableF n, impl_withinF n, slices_Clone_impl_Obs_impl_ObsF n, slices_Delete_impl_Obs_impl_ObsF n]) (N := 31) (kp := impl_WithoutObskp) (c := impl_WithoutObsc) (n := n) (G := fun x y => impl_WithoutObs n x.1 x.2.1) follows (AllOk.mem (⟨impl_ValidTable_ok n, ⟨impl_within_ok n, ⟨slices_Clone_impl_Obs_impl_Obs_ok n, ⟨slices_Delete_impl_Obs_impl_Obs_ok n, trivial⟩⟩⟩⟩ : AllOk P ([impl_ValidTableF n, impl_withinF n, slices_Clone_impl_Obs_impl_ObsF n, slices_Delete_impl_Obs_impl_ObsF n]))) (by kernel_rfl : P.funcs[8]? = some Go.Proofs.Try.f8) (by kernel_rfl) (by kernel_rfl) (by kernel_rfl)
    (fun x y => impl_WithoutObs_eq n x.1 x.2.1) (fun _ _ => map_same (fun _ => rfl) _) (fun _ _ _ _ => rfl)

abbrev laws_eqFracsp : List Sp := [.v true (.pair (.int .i64) (.int .i64)), .v true (.pair (.int .i64) (.int .i64))]
abbrev laws_eqFracbs : List (Bs × Bool) := []
abbrev laws_eqFracrs : List (Bool × List Rp) := [(false, [.v false .bool])]
noncomputable def laws_eqFrackp : Keep := { loop := fun id => match id with | _ => ([], []), join := fun id => match id with | _ => none }
noncomputable def laws_eqFracc : Code := bodyOf Go.Proofs.Try.f28
noncomputable def laws_eqFracF (n : Nat) : Fun := { id := 28, sp := laws_eqFracsp, bs := laws_eqFracbs, rs := laws_eqFracrs, f := fun x y => laws_eqFrac n x.1 x.2.1 }

theorem laws_eqFrac_eq (n : Nat) (a0 : (Int) × (Int)) (a1 : (Int) × (Int)) : runBody ([]) ty 15 n laws_eqFrackp laws_eqFracc Go.Proofs.Try.f28.results.toList laws_eqFracrs laws_eqFracsp laws_eqFracbs (a0, (a1, ())) () = laws_eqFrac n a0 a1 := by
  have h : runBody ([]) ty 15 n laws_eqFrackp laws_eqFracc Go.Proofs.Try.f28.results.toList laws_eqFracrs laws_eqFracsp laws_eqFracbs (a0, (a1, ())) () = laws_eqFrac_t n a0 a1 := by kernel_rfl
  rw [h]
  rfl

theorem laws_eqFrac_ok (n : Nat) : FunOk P (laws_eqFracF n) :=
  funOk_mk (C := []) (N := 15) (kp := laws_eqFrackp) (c := laws_eqFracc) (n := n) (G := fun x y => laws_eqFrac n x.1 x.2.1) follows (AllOk.mem (trivial : AllOk P ([]))) (by kernel_rfl : P.funcs[28]? = some Go.Proofs.Try.f28) (by kernel_rfl) (by kernel_rfl) (by kernel_rfl)
    (fun x y => laws_eqFrac_eq n x.1 x.2.1) (fun _ _ => map_same (fun _ => rfl) _) (fun _ _ _ _ => rfl)

abbrev laws_eqInt8A6sp : List Sp := [.v true (.pair (.int .i8) (.pair (.int .i8) (.pair (.int .i8) (.pair (.int .i8) (.pair (.int .i8) (.int .i8)))))), .v true (.pair (.int .i8) (.pair (.int .i8) (.pair (.int .i8) (.pair (.int .i8) (.pair (.int .i8) (.int .i8))))))]
abbrev laws_eqInt8A6bs : List (Bs × Bool) := []
abbrev laws_eqInt8A6rs : List (Bool × List Rp) := [(false, [.v false .bool])]
noncomputable def laws_eqInt8A6kp : Keep := { loop := fun id => match id with | 2 => ([5, 3, 2], []) | _ => ([], []), join := fun id => match id with | _ => none }
noncomputable def laws_eqInt8A6c : Code := bodyOf Go.Proofs.Try.f75
noncomputable def laws_eqInt8A6F (n : Nat) : Fun := { id := 75, sp := laws_eqInt8A6sp, bs := laws_eqInt8A6bs, rs := laws_eqInt8A6rs, f := fun x y => laws_eqInt8A6 n x.1 x.2.1 }

theorem laws_eqInt8A6_l2_eq (n : Nat) : ∀ (k : Nat) (v5 : Int) (b0_0 : Int) (b0_1 : Int) (b0_2 : Int) (b0_3 : Int) (b0_4 : Int) (b0_5 : Int) (b1_0 : Int) (b1_1 : Int) (b1_2 : Int) (b1_3 : Int) (b1_4 : Int) (b1_5 : Int), iter (interp ([]) ty 17 0 n laws_eqInt8A6kp (codeAt laws_eqInt8A6c [1, 0, 1, 0, 0])) (canon 0 (laws_eqInt8A6kp.loop 2)) (kAt ([]) ty 17 0 n laws_eqInt8A6kp laws_eqInt8A6c [1, 0, 1, 0] [] (ending ty 0 Go.Proofs.Try.f75.results.toList laws_eqInt8A6rs laws_eqInt8A6bs)) k { env := [(5, .one (.sc (.int .i64 v5))), (3, .one (.ref 0 0 0 0 0 0)), (2, .one (.ref 1 0 0 0 0 0))], bx := [(0, .var 58 [.sc (.int .i8 b0_0), .sc (.int .i8 b0_1), .sc (.int .i8 b0_2), .sc (.int .i8 b0_3), .sc (.int .i8 b0_4), .sc (.int .i8 b0_5)]), (1, .var 58 [.sc (.int .i8 b1_0), .sc (.int .i8 b1_1), .sc (.int .i8 b1_2), .sc (.int .i8 b1_3), .sc (.int .i8 b1_4), .sc (.int .i8 b1_5)])], nx := 2 } = laws_eqInt8A6_l2 n k v5 b0_0 b0_1 b0_2 b0_3 b0_4 b0_5 b1_0 b1_1 b1_2 b1_3 b1_4 b1_5
  | 0, _, _, _, _, _, _, _, _, _, _, _, _, _ => by kernel_rfl
  | k + 1, v5, b0_0, b0_1, b0_2, b0_3, b0_4, b0_5, b1_0, b1_1, b1_2, b1_3, b1_4, b1_5 => by
    have h : iter (interp ([]) ty 17 0 n laws_eqInt8A6kp (codeAt laws_eqInt8A6c [1, 0, 1, 0, 0])) (canon 0 (laws_eqInt8A6kp.loop 2)) (kAt ([]) ty 17 0 n laws_eqInt8A6kp laws_eqInt8A6c [1, 0, 1, 0] [] (ending ty 0 Go.Proofs.Try.f75.results.toList laws_eqInt8A6rs laws_eqInt8A6bs)) (k + 1) { env := [(5, .one (.sc (.int .i64 v5))), (3, .one (.ref 0 0 0 0 0 0)), (2, .one (.ref 1 0 0 0 0 0))], bx := [(0, .var 58 [.sc (.int .i8 b0_0), .sc (.int .i8 b0_1), .sc (.int .i8 b0_2), .sc (.int .i8 b0_3), .sc (.int .i8 b0_4), .sc (.int .i8 b0_5)]), (1, .var 58 [.sc (.int .i8 b1_0), .sc (.int .i8 b1_1), .sc (.int .i8 b1_2), .sc (.int .i8 b1_3), .sc (.int .i8 b1_4), .sc (.int .i8 b1_5)])], nx := 2 } = laws_eqInt8A6_t2 n (fun v5 b0_0 b0_1 b0_2 b0_3 b0_4 b0_5 b1_0 b1_1 b1_2 b1_3 b1_4 b1_5 => iter (interp ([]) ty 17 0 n laws_eqInt8A6kp (codeAt laws_eqInt8A6c [1, 0, 1, 0, 0])) (canon 0 (laws_eqInt8A6kp.loop 2)) (kAt ([]) ty 17 0 n laws_eqInt8A6kp laws_eqInt8A6c [1, 0, 1, 0] [] (ending ty 0 Go.Proofs.Try.f75.results.toList laws_eqInt8A6rs laws_eqInt8A6bs)) k { env := [(5, .one (.sc (.int .i64 v5))), (3, .one (.ref 0 0 0 0 0 0)), (2, .one (.ref 1 0 0 0 0 0))], bx := [(0, .var 58 [.sc (.int .i8 b0_0), .sc (.int .i8 b0_1), .sc (.int .i8 b0_2), .sc (.int .i8 b0_3), .sc (.int .i8 b0_4), .sc (.int .i8 b0_5)]), (1, .var 58 [.sc (.int .i8 b1_0), .sc (.int .i8 b1_1), .sc (.int .i8 b1_2), .sc (.int .i8 b1_3), .sc (.int .i8 b1_4), .sc (.int .i8 b1_5)])], nx := 2 }) v5 b0_0 b0_1 b0_2 b0_3 b0_4 b0_5 b1_0 b1_1 b1_2 b1_3 b1_4 b1_5 := by kernel_rfl
    rw [h]
    have e := congrArg (fun g => laws_eqInt8A6_t2 n g v5 b0_0 b0_1 b0_2 b0_3 b0_4 b0_5 b1_0 b1_1 b1_2 b1_3 b1_4 b1_5) (funext fun v5 => funext fun b0_0 => funext fun b0_1 => funext fun b0_2 => funext fun b0_3 => funext fun b0_4 => funext fun b0_5 => funext fun b1_0 => funext fun b1_1 => funext fun b1_2 => funext fun b1_3 => funext fun b1_4 => funext fun b1_5 => laws_eqInt8A6_l2_eq n k v5 b0_0 b0_1 b0_2 b0_3 b0_4 b0_5 b1_0 b1_1 b1_2 b1_3 b1_4 b1_5)
    exact e

theorem laws_eqInt8A6_eq (n : Nat) (a0 : (Int) × ((Int) × ((Int) × ((Int) × ((Int) × (Int)))))) (a1 : (Int) × ((Int) × ((Int) × ((Int) × ((Int) × (Int)))))) : runBody ([]) ty 17 n laws_eqInt8A6kp laws_eqInt8A6c Go.Proofs.Try.f75.results.toList laws_eqInt8A6rs laws_eqInt8A6sp laws_eqInt8A6bs (a0, (a1, ())) () = laws_eqInt8A6 n a0 a1 := by
  have h : runBody ([]) ty 17 n laws_eqInt8A6kp laws_eqInt8A6c Go.Proofs.Try.f75.results.toList laws_eqInt8A6rs laws_eqInt8A6sp laws_eqInt8A6bs (a0, (a1, ())) () = laws_eqInt8A6_t n (fun k v5 b0_0 b0_1 b0_2 b0_3 b0_4 b0_5 b1_0 b1_1 b1_2 b1_3 b1_4 b1_5 => iter (interp ([]) ty 17 0 n laws_eqInt8A6kp (codeAt laws_eqInt8A6c [1, 0, 1, 0, 0])) (canon 0 (laws_eqInt8A6kp.loop 2)) (kAt ([]) ty 17 0 n laws_eqInt8A6kp laws_eqInt8A6c [1, 0, 1, 0] [] (ending ty 0 Go.Proofs.Try.f75.results.toList laws_eqInt8A6rs laws_eqInt8A6bs)) k { env := [(5, .one (.sc (.int .i64 v5))), (3, .one (.ref 0 0 0 0 0 0)), (2, .one (.ref 1 0 0 0 0 0))], bx := [(0, .var 58 [.sc (.int .i8 b0_0), .sc (.int .i8 b0_1), .sc (.int .i8 b0_2), .sc (.int .i8 b0_3), .sc (.int .i8 b0_4), .sc (.int .i8 b0_5)]), (1, .var 58 [.sc (.int .i8 b1_0), .sc (.int .i8 b1_1), .sc (.int .i8 b1_2), .sc (.int .i8 b1_3), .sc (.int .i8 b1_4), .sc (.int .i8 b1_5)])], nx := 2 }) a0 a1 := by kernel_rfl
  rw [h]
  have e := congrArg (fun h2 => laws_eqInt8A6_t n h2 a0 a1) (funext fun k => funext fun v5 => funext fun b0_0 => funext fun b0_1 => funext fun b0_2 => funext fun b0_3 => funext fun b0_4 => funext fun b0_5 => funext fun b1_0 => funext fun b1_1 => funext fun b1_2 => funext fun b1_3 => funext fun b1_4 => funext fun b1_5 => laws_eqInt8A6_l2_eq n k v5 b0_0 b0_1 b0_2 b0_3 b0_4 b0_5 b1_0 b1_1 b1_2 b1_3 b1_4 b1_5)
  exact e

theorem laws_eqInt8A6_ok (n : Nat) : FunOk P (laws_eqInt8A6F n) :=
  funOk_mk (C := []) (N := 17) (kp := laws_eqInt8A6kp) (c := laws_eqInt8A6c) (n := n) (G := fun x y => laws_eqInt8A6 n x.1 x.2.1) follows (AllOk.mem (trivial : AllOk P ([]))) (by kernel_rfl : P.funcs[75]? = some Go.Proofs.Try.f75) (by kernel_rfl) (by kernel_rfl) (by kernel_rfl)
    (fun x y => laws_eqInt8A6_eq n x.1 x.2.1) (fun _ _ => map_same (fun _ => rfl) _) (fun _ _ _ _ => rfl)

abbrev laws_eqObssp : List Sp := [.v true (.pair (.pair (.int .i8) (.pair (.int .i8) (.pair (.int .i8) (.pair (.int .i8) (.pair (.int .i8) (.int .i8)))))) (.pair (.pair (.int .i64) (.int .i64)) (.int .i64))), .v true (.pair (.pair (.int .i8) (.pair (.int .i8) (.pair (.int .i8) (.pair (.int .i8) (.pair (.int .i8) (.int .i8)))))) (.pair (.pair (.int .i64) (.int .i64)) (.int .i64)))]
abbrev laws_eqObsbs : List (Bs × Bool) := []
abbrev laws_eqObsrs : List (Bool × List Rp) := [(false, [.v false .bool])]
noncomputable def laws_eqObskp : Keep := { loop := fun id => match id with | _ => ([], []), join := fun id => match id with | _ => none }
noncomputable def laws_eqObsc : Code := bodyOf Go.Proofs.Try.f52
noncomputable def laws_eqObsF (n : Nat) : Fun := { id := 52, sp := laws_eqObssp, bs := laws_eqObsbs, rs := laws_eqObsrs, f := fun x y => laws_eqObs n x.1 x.2.1 }

theorem laws_eqObs_eq (n : Nat) (a0 : ((Int) × ((Int) × ((Int) × ((Int) × ((Int) × (Int)))))) × (((Int) × (Int)) × (Int))) (a1 : ((Int) × ((Int) × ((Int) × ((Int) × ((Int) × (Int)))))) × (((Int) × (Int)) × (Int))) : runBody ([laws_eqInt8A6F n, laws_eqFracF n]) ty 22 n laws_eqObskp laws_eqObsc Go.Proofs.Try.f52.results.toList laws_eqObsrs laws_eqObssp laws_eqObsbs (a0, (a1, ())) () = laws_eqObs n a0 a1 := by
  have h : runBody ([laws_eqInt8A6F n, laws_eqFracF n]) ty 22 n laws_eqObskp laws_eqObsc Go.Proofs.Try.f52.results.toList laws_eqObsrs laws_eqObssp laws_eqObsbs (a0, (a1, ())) () = laws_eqObs_t n a0 a1 := by kernel_rfl
  rw [h]
  rfl

theorem laws_eqObs_ok (n : Nat) : FunOk P (laws_eqObsF n) :=
  funOk_mk (C := [laws_eqInt8A6F n, laws_eqFracF n]) (N := 22) (kp := laws_eqObskp) (c := laws_eqObsc) (n := n) (G := fun x y => laws_eqObs n x.1 x.2.1) follows (AllOk.mem (⟨laws_eqInt8A6_ok n, ⟨laws_eqFrac_ok n, trivial⟩⟩ : AllOk P ([laws_eqInt8A6F n, laws_eqFracF n]))) (by kernel_rfl : P.funcs[52]? = some Go.Proofs.Try.f52) (by kernel_rfl) (by kernel_rfl) (by kernel_rfl)
    (fun x y => laws_eqObs_eq n x.1 x.2.1) (fun _ _ => map_same (fun _ => rfl) _) (fun _ _ _ _ => rfl)

abbrev laws_eqObsSsp : List Sp := [.v false (.list (.pair (.pair (.int .i8) (.pair (.int .i8) (.pair (.int .i8) (.pair (.int .i8) (.pair (.int .i8) (.int .i8)))))) (.pair (.pair (.int .i64) (.int .i64)) (.int .i64)))), .v false (.list (.pair (.pair (.int .i8) (.pair (.int .i8) (.pair (.int .i8) (.pair (.int .i8) (.pair (.int .i8) (.int .i8)))))) (.pair (.pair (.int .i64) (.int .i64)) (.int .i64))))]
abbrev laws_eqObsSbs : List (Bs × Bool) := []
abbrev laws_eqObsSrs : List (Bool × List Rp) := [(false, [.v false .bool])]
noncomputable def laws_eqObsSkp : Keep := { loop := fun id => match id with | 4 => ([5, 1, 0], []) | _ => ([], []), join := fun id => match id with | _ => none }
noncomputable def laws_eqObsSc : Code := bodyOf Go.Proofs.Try.f27
noncomputable def laws_eqObsSF (n : Nat) : Fun := { id := 27, sp := laws_eqObsSsp, bs := laws_eqObsSbs, rs := laws_eqObsSrs, f := fun x y => laws_eqObsS n x.1 x.2.1 }

theorem laws_eqObsS_l4_eq (n : Nat) : ∀ (k : Nat) (v5 : Int) (v1 : List (((Int) × ((Int) × ((Int) × ((Int) × ((Int) × (Int)))))) × (((Int) × (Int)) × (Int)))) (v0 : List (((Int) × ((Int) × ((Int) × ((Int) × ((Int) × (Int)))))) × (((Int) × (Int)) × (Int)))), iter (interp ([laws_eqObsF n]) ty 27 0 n laws_eqObsSkp (codeAt laws_eqObsSc [1, 1, 0, 1, 0, 0])) (canon 0 (laws_eqObsSkp.loop 4)) (kAt ([laws_eqObsF n]) ty 27 0 n laws_eqObsSkp laws_eqObsSc [1, 1, 0, 1, 0] [] (ending ty 0 Go.Proofs.Try.f27.results.toList laws_eqObsSrs laws_eqObsSbs)) k { env := [(5, .one (.sc (.int .i64 v5))), (1, .one (.list true (.pair (.pair (.int .i8) (.pair (.int .i8) (.pair (.int .i8) (.pair (.int .i8) (.pair (.int .i8) (.int .i8)))))) (.pair (.pair (.int .i64) (.int .i64)) (.int .i64))) v1)), (0, .one (.list true (.pair (.pair (.int .i8) (.pair (.int .i8) (.pair (.int .i8) (.pair (.int .i8) (.pair (.int .i8) (.int .i8)))))) (.pair (.pair (.int .i64) (.int .i64)) (.int .i64))) v0))], bx := [], nx := 0 } = laws_eqObsS_l4 n k v5 v1 v0
  | 0, _, _, _ => by kernel_rfl
  | k + 1, v5, v1, v0 => by
    have h : iter (interp ([laws_eqObsF n]) ty 27 0 n laws_eqObsSkp (codeAt laws_eqObsSc [1, 1, 0, 1, 0, 0])) (canon 0 (laws_eqObsSkp.loop 4)) (kAt ([laws_eqObsF n]) ty 27 0 n laws_eqObsSkp laws_eqObsSc [1, 1, 0, 1, 0] [] (ending ty 0 Go.Proofs.Try.f27.results.toList laws_eqObsSrs laws_eqObsSbs)) (k + 1) { env := [(5, .one (.sc (.int .i64 v5))), (1, .one (.list true (.pair (.pair (.int .i8) (.pair (.int .i8) (.pair (.int .i8) (.pair (.int .i8) (.pair (.int .i8) (.int .i8)))))) (.pair (.pair (.int .i64) (.int .i64)) (.int .i64))) v1)), (0, .one (.list true (.pair (.pair (.int .i8) (.pair (.int .i8) (.pair (.int .i8) (.pair (.int .i8) (.pair (.int .i8) (.int .i8)))))) (.pair (.pair (.int .i64) (.int .i64)) (.int .i64))) v0))], bx := [], nx := 0 } = laws_eqObsS_t4 n (fun v5 v1 v0 => iter (interp ([laws_eqObsF n]) ty 27 0 n laws_eqObsSkp (codeAt laws_eqObsSc [1, 1, 0, 1, 0, 0])) (canon 0 (laws_eqObsSkp.loop 4)) (kAt ([laws_eqObsF n]) ty 27 0 n laws_eqObsSkp laws_eqObsSc [1, 1, 0, 1, 0] [] (ending ty 0 Go.Proofs.Try.f27.results.toList laws_eqObsSrs laws_eqObsSbs)) k { env := [(5, .one (.sc (.int .i64 v5))), (1, .one (.list true (.pair (.pair (.int .i8) (.pair (.int .i8) (.pair (.int .i8) (.pair (.int .i8) (.pair (.int .i8) (.int .i8)))))) (.pair (.pair (.int .i64) (.int .i64)) (.int .i64))) v1)), (0, .one (.list true (.pair (.pair (.int .i8) (.pair (.int .i8) (.pair (.int .i8) (.pair (.int .i8) (.pair (.int .i8) (.int .i8)))))) (.pair (.pair (.int .i64) (.int .i64)) (.int .i64))) v0))], bx := [], nx := 0 }) v5 v1 v0 := by kernel_rfl
    rw [h]
    have e := congrArg (fun g => laws_eqObsS_t4 n g v5 v1 v0) (funext fun v5 => funext fun v1 => funext fun v0 => laws_eqObsS_l4_eq n k v5 v1 v0)
    exact e

theorem laws_eqObsS_eq (n : Nat) (a0 : List (((Int) × ((Int) × ((Int) × ((Int) × ((Int) × (Int)))))) × (((Int) × (Int)) × (Int)))) (a1 : List (((Int) × ((Int) × ((Int) × ((Int) × ((Int) × (Int)))))) × (((Int) × (Int)) × (Int)))) : runBody ([laws_eqObsF n]) ty 27 n laws_eqObsSkp laws_eqObsSc Go.Proofs.Try.f27.results.toList laws_eqObsSrs laws_eqObsSsp laws_eqObsSbs (a0, (a1, ())) () = laws_eqObsS n a0 a1 := by
  have h : runBody ([laws_eqObsF n]) ty 27 n laws_eqObsSkp laws_eqObsSc Go.Proofs.Try.f27.results.toList laws_eqObsSrs laws_eqObsSsp laws_eqObsSbs (a0, (a1, ())) () = laws_eqObsS_t n (fun k v5 v1 v0 => iter (interp ([laws_eqObsF n]) ty 27 0 n laws_eqObsSkp (codeAt laws_eqObsSc [1, 1, 0, 1, 0, 0])) (canon 0 (laws_eqObsSkp.loop 4)) (kAt ([laws_eqObsF n]) ty 27 0 n laws_eqObsSkp laws_eqObsSc [1, 1, 0, 1, 0] [] (ending ty 0 Go.Proofs.Try.f27.results.toList laws_eqObsSrs laws_eqObsSbs)) k { env := [(5, .one (.sc (.int .i64 v5))), (1, .one (.list true (.pair (.pair (.int .i8) (.pair (.int .i8) (.pair (.int .i8) (.pair (.int .i8) (.pair (.int .i8) (.int .i8)))))) (.pair (.pair (.int .i64) (.int .i64)) (.int .i64))) v1)), (0, .one (.list true (.pair (.pair (.int .i8) (.pair (.int .i8) (.pair (.int .i8) (.pair (.int .i8) (.pair (.int .i8) (.int .i8)))))) (.pair (.pair (.int .i64) (.int .i64)) (.int .i64))) v0))], bx := [], nx := 0 }) a0 a1 := by kernel_rfl
  rw [h]
  have e := congrArg (fun h4 => laws_eqObsS_t n h4 a0 a1) (funext fun k => funext fun v5 => funext fun v1 => funext fun v0 => laws_eqObsS_l4_eq n k v5 v1 v0)
  exact e

theorem laws_eqObsS_ok (n : Nat) : FunOk P (laws_eqObsSF n) :=
  funOk_mk (C := [laws_eqObsF n]) (N := 27) (kp := laws_eqObsSkp) (c := laws_eqObsSc) (n := n) (G := fun x y => laws_eqObsS n x.1 x.2.1) follows (AllOk.mem (⟨laws_eqObs_ok n, trivial⟩ : AllOk P ([laws_eqObsF n]))) (by kernel_rfl : P.funcs[27]? = some Go.Proofs.Try.f27) (by kernel_rfl) (by kernel_rfl) (by kernel_rfl)
    (fun x y => laws_eqObsS_eq n x.1 x.2.1) (fun _ _ => map_same (fun _ => rfl) _) (fun _ _ _ _ => rfl)

abbrev laws_eqTablesp : List Sp := [.v true (.pair (.int .i64) (.pair (.list (.pair (.pair (.int .i8) (.pair (.int .i8) (.pair (.int .i8) (.pair (.int .i8) (.pair (.int .i8) (.int .i8)))))) (.pair (.pair (.int .i64) (.int .i64)) (.int .i64)))) (.pair .bool (.pair (.int .i64) (.int .i64))))), .v true (.pair (.int .i64) (.pair (.list (.pair (.pair (.int .i8) (.pair (.int .i8) (.pair (.int .i8) (.pair (.int .i8) (.pair (.int .i8) (.int .i8)))))) (.pair (.pair (.int .i64) (.int .i64)) (.int .i64)))) (.pair .bool (.pair (.int .i64) (.int .i64)))))]
abbrev laws_eqTablebs : List (Bs × Bool) := []
abbrev laws_eqTablers : List (Bool × List Rp) := [(false, [.v false .bool])]
noncomputable def laws_eqTablekp : Keep := { loop := fun id => match id with | _ => ([], []), join := fun id => match id with | _ => none }
noncomputable def laws_eqTablec : Code := bodyOf Go.Proofs.Try.f9
noncomputable def laws_eqTableF (n : Nat) : Fun := { id := 9, sp := laws_eqTablesp, bs := laws_eqTablebs, rs := laws_eqTablers, f := fun x y => laws_eqTable n x.1 x.2.1 }

theorem laws_eqTable_eq (n : Nat) (a0 : (Int) × ((List (((Int) × ((Int) × ((Int) × ((Int) × ((Int) × (Int)))))) × (((Int) × (Int)) × (Int)))) × ((Bool) × ((Int) × (Int))))) (a1 : (Int) × ((List (((Int) × ((Int) × ((Int) × ((Int) × ((Int) × (Int)))))) × (((Int) × (Int)) × (Int)))) × ((Bool) × ((Int) × (Int))))) : runBody ([laws_eqObsSF n, laws_eqFracF n]) ty 27 n laws_eqTablekp laws_eqTablec Go.Proofs.Try.f9.results.toList laws_eqTablers laws_eqTablesp laws_eqTablebs (a0, (a1, ())) () = laws_eqTable n a0 a1 := by
  have h : runBody ([laws_eqObsSF n, laws_eqFracF n]) ty 27 n laws_eqTablekp laws_eqTablec Go.Proofs.Try.f9.results.toList laws_eqTablers laws_eqTablesp laws_eqTablebs (a0, (a1, ())) () = laws_eqTable_t n a0 a1 := by kernel_rfl
  rw [h]
  rfl

theorem laws_eqTable_ok (n : Nat) : FunOk P (laws_eqTableF n) :=
  funOk_mk (C := [laws_eqObsSF n, laws_eqFracF n]) (N := 27) (kp := laws_eqTablekp) (c := laws_eqTablec) (n := n) (G := fun x y => laws_eqTable n x.1 x.2.1) follows (AllOk.mem (⟨laws_eqObsS_ok n, ⟨laws_eqFrac_ok n, trivial⟩⟩ : AllOk P ([laws_eqObsSF n, laws_eqFracF n]))) (by kernel_rfl : P.funcs[9]? = some Go.Proofs.Try.f9) (by kernel_rfl) (by kernel_rfl) (by kernel_rfl)
    (fun x y => laws_eqTable_eq n x.1 x.2.1) (fun _ _ => map_same (fun _ => rfl) _) (fun _ _ _ _ => rfl)

abbrev laws_heldObsSsp : List Sp := [.v false (.list (.pair (.pair (.int .i8) (.pair (.int .i8) (.pair (.int .i8) (.pair (.int .i8) (.pair (.int .i8) (.int .i8)))))) (.pair (.pair (.int .i64) (.int .i64)) (.int .i64)))), .v false (.int .i64)]
abbrev laws_heldObsSbs : List (Bs × Bool) := []
abbrev laws_heldObsSrs : List (Bool × List Rp) := [(false, [.v false (.int .i64)])]
noncomputable def laws_heldObsSkp : Keep := { loop := fun id => match id with | 2 => ([1, 5, 0], []) | 5 => ([6, 1, 5, 0], []) | _ => ([], []), join := fun id => match id with | _ => none }
noncomputable def laws_heldObsSc : Code := bodyOf Go.Proofs.Try.f30
noncomputable def laws_heldObsSF (n : Nat) : Fun := { id := 30, sp := laws_heldObsSsp, bs := laws_heldObsSbs, rs := laws_heldObsSrs, f := fun x y => laws_heldObsS n x.1 x.2.1 }

theorem laws_heldObsS_l5_eq (n : Nat) (G2 : St → Option ((((Int) × (Unit)) × (Unit)) × (Unit))) : ∀ (k : Nat) (v6 : Int) (v1 : Int) (v5 : Int) (v0 : List (((Int) × ((Int) × ((Int) × ((Int) × ((Int) × (Int)))))) × (((Int) × (Int)) × (Int)))), iter (interp ([]) ty 59 0 n laws_heldObsSkp (codeAt laws_heldObsSc [1, 0, 1, 0, 0, 1, 0, 0, 0, 1, 0, 0])) (canon 0 (laws_heldObsSkp.loop 5)) (kAt ([]) ty 59 0 n laws_heldObsSkp laws_heldObsSc [1, 0, 1, 0, 0, 1, 0, 0, 0, 1, 0] [G2] (ending ty 0 Go.Proofs.Try.f30.results.toList laws_heldObsSrs laws_heldObsSbs)) k { env := [(6, .one (.sc (.int .i64 v6))), (1, .one (.sc (.int .i64 v1))), (5, .one (.sc (.int .i64 v5))), (0, .one (.list true (.pair (.pair (.int .i8) (.pair (.int .i8) (.pair (.int .i8) (.pair (.int .i8) (.pair (.int .i8) (.int .i8)))))) (.pair (.pair (.int .i64) (.int .i64)) (.int .i64))) v0))], bx := [], nx := 0 } = laws_heldObsS_l5 n (fun v1 v5 v0 => G2 { env := [(1, .one (.sc (.int .i64 v1))), (5, .one (.sc (.int .i64 v5))), (0, .one (.list true (.pair (.pair (.int .i8) (.pair (.int .i8) (.pair (.int .i8) (.pair (.int .i8) (.pair (.int .i8) (.int .i8)))))) (.pair (.pair (.int .i64) (.int .i64)) (.int .i64))) v0))], bx := [], nx := 0 }) k v6 v1 v5 v0
  | 0, _, _, _, _ => by kernel_rfl
  | k + 1, v6, v1, v5, v0 => by
    have h : iter (interp ([]) ty 59 0 n laws_heldObsSkp (codeAt laws_heldObsSc [1, 0, 1, 0, 0, 1, 0, 0, 0, 1, 0, 0])) (canon 0 (laws_heldObsSkp.loop 5)) (kAt ([]) ty 59 0 n laws_heldObsSkp laws_heldObsSc [1, 0, 1, 0, 0, 1, 0, 0, 0, 1, 0] [G2] (ending ty 0 Go.Proofs.Try.f30.results.toList laws_heldObsSrs laws_heldObsSbs)) (k + 1) { env := [(6, .one (.sc (.int .i64 v6))), (1, .one (.sc (.int .i64 v1))), (5, .one (.sc (.int .i64 v5))), (0, .one (.list true (.pair (.pair (.int .i8) (.pair (.int .i8) (.pair (.int .i8) (.pair (.int .i8) (.pair (.int .i8) (.int .i8)))))) (.pair (.pair (.int .i64) (.int .i64)) (.int .i64))) v0))], bx := [], nx := 0 } = laws_heldObsS_t5 n (fun v1 v5 v0 => G2 { env := [(1, .one (.sc (.int .i64 v1))), (5, .one (.sc (.int .i64 v5))), (0, .one (.list true (.pair (.pair (.int .i8) (.pair (.int .i8) (.pair (.int .i8) (.pair (.int .i8) (.pair (.int .i8) (.int .i8)))))) (.pair (.pair (.int .i64) (.int .i64)) (.int .i64))) v0))], bx := [], nx := 0 }) (fun v6 v1 v5 v0 => iter (interp ([]) ty 59 0 n laws_heldObsSkp (codeAt laws_heldObsSc [1, 0, 1, 0, 0, 1, 0, 0, 0, 1, 0, 0])) (canon 0 (laws_heldObsSkp.loop 5)) (kAt ([]) ty 59 0 n laws_heldObsSkp laws_heldObsSc [1, 0, 1, 0, 0, 1, 0, 0, 0, 1, 0] [G2] (ending ty 0 Go.Proofs.Try.f30.results.toList laws_heldObsSrs laws_heldObsSbs)) k { env := [(6, .one (.sc (.int .i64 v6))), (1, .one (.sc (.int .i64 v1))), (5, .one (.sc (.int .i64 v5))), (0, .one (.list true (.pair (.pair (.int .i8) (.pair (.int .i8) (.pair (.int .i8) (.pair (.int .i8) (.pair (.int .i8) (.int .i8)))))) (.pair (.pair (.int .i64) (.int .i64)) (.int .i64))) v0))], bx := [], nx := 0 }) v6 v1 v5 v0 := by kernel_rfl
    rw [h]
    have e := congrArg (fun g => laws_heldObsS_t5 n (fun v1 v5 v0 => G2 { env := [(1, .one (.sc (.int .i64 v1))), (5, .one (.sc (.int .i64 v5))), (0, .one (.list true (.pair (.pair (.int .i8) (.pair (.int .i8) (.pair (.int .i8) (.pair (.int .i8) (.pair (.int .i8) (.int .i8)))))) (.pair (.pair (.int .i64) (.int .i64)) (.int .i64))) v0))], bx := [], nx := 0 }) g v6 v1 v5 v0) (funext fun v6 => funext fun v1 => funext fun v5 => funext fun v0 => laws_heldObsS_l5_eq n G2 k v6 v1 v5 v0)
    exact e

theorem laws_heldObsS_l2_eq (n : Nat) : ∀ (k : Nat) (v1 : Int) (v5 : Int) (v0 : List (((Int) × ((Int) × ((Int) × ((Int) × ((Int) × (Int)))))) × (((Int) × (Int)) × (Int)))), iter (interp ([]) ty 59 0 n laws_heldObsSkp (codeAt laws_heldObsSc [1, 0, 1, 0, 0])) (canon 0 (laws_heldObsSkp.loop 2)) (kAt ([]) ty 59 0 n laws_heldObsSkp laws_heldObsSc [1, 0, 1, 0] [] (ending ty 0 Go.Proofs.Try.f30.results.toList laws_heldObsSrs laws_heldObsSbs)) k { env := [(1, .one (.sc (.int .i64 v1))), (5, .one (.sc (.int .i64 v5))), (0, .one (.list true (.pair (.pair (.int .i8) (.pair (.int .i8) (.pair (.int .i8) (.pair (.int .i8) (.pair (.int .i8) (.int .i8)))))) (.pair (.pair (.int .i64) (.int .i64)) (.int .i64))) v0))], bx := [], nx := 0 } = laws_heldObsS_l2 n k v1 v5 v0
  | 0, _, _, _ => by kernel_rfl
  | k + 1, v1, v5, v0 => by
    have h : iter (interp ([]) ty 59 0 n laws_heldObsSkp (codeAt laws_heldObsSc [1, 0, 1, 0, 0])) (canon 0 (laws_heldObsSkp.loop 2)) (kAt ([]) ty 59 0 n laws_heldObsSkp laws_heldObsSc [1, 0, 1, 0] [] (ending ty 0 Go.Proofs.Try.f30.results.toList laws_heldObsSrs laws_heldObsSbs)) (k + 1) { env := [(1, .one (.sc (.int .i64 v1))), (5, .one (.sc (.int .i64 v5))), (0, .one (.list true (.pair (.pair (.int .i8) (.pair (.int .i8) (.pair (.int .i8) (.pair (.int .i8) (.pair (.int .i8) (.int .i8)))))) (.pair (.pair (.int .i64) (.int .i64)) (.int .i64))) v0))], bx := [], nx := 0 } = laws_heldObsS_t2 n (fun k' v6 v1 v5 v0 => iter (interp ([]) ty 59 0 n laws_heldObsSkp (codeAt laws_heldObsSc [1, 0, 1, 0, 0, 1, 0, 0, 0, 1, 0, 0])) (canon 0 (laws_heldObsSkp.loop 5)) (kAt ([]) ty 59 0 n laws_heldObsSkp laws_heldObsSc [1, 0, 1, 0, 0, 1, 0, 0, 0, 1, 0] [(fun s => iter (interp ([]) ty 59 0 n laws_heldObsSkp (codeAt laws_heldObsSc [1, 0, 1, 0, 0])) (canon 0 (laws_heldObsSkp.loop 2)) (kAt ([]) ty 59 0 n laws_heldObsSkp laws_heldObsSc [1, 0, 1, 0] [] (ending ty 0 Go.Proofs.Try.f30.results.toList laws_heldObsSrs laws_heldObsSbs)) k s)] (ending ty 0 Go.Proofs.Try.f30.results.toList laws_heldObsSrs laws_heldObsSbs)) k' { env := [(6, .one (.sc (.int .i64 v6))), (1, .one (.sc (.int .i64 v1))), (5, .one (.sc (.int .i64 v5))), (0, .one (.list true (.pair (.pair (.int .i8) (.pair (.int .i8) (.pair (.int .i8) (.pair (.int .i8) (.pair (.int .i8) (.int .i8)))))) (.pair (.pair (.int .i64) (.int .i64)) (.int .i64))) v0))], bx := [], nx := 0 }) (fun v1 v5 v0 => iter (interp ([]) ty 59 0 n laws_heldObsSkp (codeAt laws_heldObsSc [1, 0, 1, 0, 0])) (canon 0 (laws_heldObsSkp.loop 2)) (kAt ([]) ty 59 0 n laws_heldObsSkp laws_heldObsSc [1, 0, 1, 0] [] (ending ty 0 Go.Proofs.Try.f30.results.toList laws_heldObsSrs laws_heldObsSbs)) k { env := [(1, .one (.sc (.int .i64 v1))), (5, .one (.sc (.int .i64 v5))), (0, .one (.list true (.pair (.pair (.int .i8) (.pair (.int .i8) (.pair (.int .i8) (.pair (.int .i8) (.pair (.int .i8) (.int .i8)))))) (.pair (.pair (.int .i64) (.int .i64)) (.int .i64))) v0))], bx := [], nx := 0 }) v1 v5 v0 := by kernel_rfl
    rw [h]
    have e := congr (congrArg (fun h5 g => laws_heldObsS_t2 n h5 g v1 v5 v0) ((funext fun k' => funext fun v6 => funext fun v1 => funext fun v5 => funext fun v0 => laws_heldObsS_l5_eq n (fun s => iter (interp ([]) ty 59 0 n laws_heldObsSkp (codeAt laws_heldObsSc [1, 0, 1, 0, 0])) (canon 0 (laws_heldObsSkp.loop 2)) (kAt ([]) ty 59 0 n laws_heldObsSkp laws_heldObsSc [1, 0, 1, 0] [] (ending ty 0 Go.Proofs.Try.f30.results.toList laws_heldObsSrs laws_heldObsSbs)) k s) k' v6 v1 v5 v0).trans (congrArg (fun z => laws_heldObsS_l5 n z) (funext fun v1 => funext fun v5 => funext fun v0 => laws_heldObsS_l2_eq n k v1 v5 v0)))) (funext fun v1 => funext fun v5 => funext fun v0 => laws_heldObsS_l2_eq n k v1 v5 v0)
    exact e

theorem laws_heldObsS_eq (n : Nat) (a0 : List (((Int) × ((Int) × ((Int) × ((Int) × ((Int) × (Int)))))) × (((Int) × (Int)) × (Int)))) (a1 : Int) : runBody ([]) ty 59 n laws_heldObsSkp laws_heldObsSc Go.Proofs.Try.f30.results.toList laws_heldObsSrs laws_heldObsSsp laws_heldObsSbs (a0, (a1, ())) () = laws_heldObsS n a0 a1 := by
  have h : runBody ([]) ty 59 n laws_heldObsSkp laws_heldObsSc Go.Proofs.Try.f30.results.toList laws_heldObsSrs laws_heldObsSsp laws_heldObsSbs (a0, (a1, ())) () = laws_heldObsS_t n (fun k v1 v5 v0 => iter (interp ([]) ty 59 0 n laws_heldObsSkp (codeAt laws_heldObsSc [1, 0, 1, 0, 0])) (canon 0 (laws_heldObsSkp.loop 2)) (kAt ([]) ty 59 0 n laws_heldObsSkp laws_heldObsSc [1, 0, 1, 0] [] (ending ty 0 Go.Proofs.Try.f30.results.toList laws_heldObsSrs laws_heldObsSbs)) k { env := [(1, .one (.sc (.int .i64 v1))), (5, .one (.sc (.int .i64 v5))), (0, .one (.list true (.pair (.pair (.int .i8) (.pair (.int .i8) (.pair (.int .i8) (.pair (.int .i8) (.pair (.int .i8) (.int .i8)))))) (.pair (.pair (.int .i64) (.int .i64)) (.int .i64))) v0))], bx := [], nx := 0 }) a0 a1 := by kernel_rfl
  rw [h]
  have e := congrArg (fun h2 => laws_heldObsS_t n h2 a0 a1) (funext fun k => funext fun v1 => funext fun v5 => funext fun v0 => laws_heldObsS_l2_eq n k v1 v5 v0)
  exact e

theorem laws_heldObsS_ok (n : Nat) : FunOk P (laws_heldObsSF n) :=
  funOk_mk (C := []) (N := 59) (kp := laws_heldObsSkp) (c := laws_heldObsSc) (n := n) (G := fun x y => laws_heldObsS n x.1 x.2.1) follows (AllOk.mem (trivial : AllOk P ([]))) (by kernel_rfl : P.funcs[30]? = some Go.Proofs.Try.f30) (by kernel_rfl) (by kernel_rfl) (by kernel_rfl)
    (fun x y => laws_heldObsS_eq n x.1 x.2.1) (fun _ _ => map_same (fun _ => rfl) _) (fun _ _ _ _ => rfl)

abbrev laws_heldTablesp : List Sp := [.v true (.pair (.int .i64) (.pair (.list (.pair (.pair (.int .i8) (.pair (.int .i8) (.pair (.int .i8) (.pair (.int .i8) (.pair (.int .i8) (.int .i8)))))) (.pair (.pair (.int .i64) (.int .i64)) (.int .i64)))) (.pair .bool (.pair (.int .i64) (.int .i64))))), .v false (.int .i64)]
abbrev laws_heldTablebs : List (Bs × Bool) := []
abbrev laws_heldTablers : List (Bool × List Rp) := [(false, [.v false (.int .i64)])]
noncomputable def laws_heldTablekp : Keep := { loop := fun id => match id with | _ => ([], []), join := fun id => match id with | _ => none }
noncomputable def laws_heldTablec : Code := bodyOf Go.Proofs.Try.f11
noncomputable def laws_heldTableF (n : Nat) : Fun := { id := 11, sp := laws_heldTablesp, bs := laws_heldTablebs, rs := laws_heldTablers, f := fun x y => laws_heldTable n x.1 x.2.1 }

theorem laws_heldTable_eq (n : Nat) (a0 : (Int) × ((List (((Int) × ((Int) × ((Int) × ((Int) × ((Int) × (Int)))))) × (((Int) × (Int)) × (Int)))) × ((Bool) × ((Int) × (Int))))) (a1 : Int) : runBody ([laws_heldObsSF n]) ty 12 n laws_heldTablekp laws_heldTablec Go.Proofs.Try.f11.results.toList laws_heldTablers laws_heldTablesp laws_heldTablebs (a0, (a1, ())) () = laws_heldTable n a0 a1 := by
  have h : runBody ([laws_heldObsSF n]) ty 12 n laws_heldTablekp laws_heldTablec Go.Proofs.Try.f11.results.toList laws_heldTablers laws_heldTablesp laws_heldTablebs (a0, (a1, ())) () = laws_heldTable_t n a0 a1 := by kernel_rfl
  rw [h]
  rfl

theorem laws_heldTable_ok (n : Nat) : FunOk P (laws_heldTableF n) :=
  funOk_mk (C := [laws_heldObsSF n]) (N := 12) (kp := laws_heldTablekp) (c := laws_heldTablec) (n := n) (G := fun x y => laws_heldTable n x.1 x.2.1) follows (AllOk.mem (⟨laws_heldObsS_ok n, trivial⟩ : AllOk P ([laws_heldObsSF n]))) (by kernel_rfl : P.funcs[11]? = some Go.Proofs.Try.f11) (by kernel_rfl) (by kernel_rfl) (by kernel_rfl)
    (fun x y => laws_heldTable_eq n x.1 x.2.1) (fun _ _ => map_same (fun _ => rfl) _) (fun _ _ _ _ => rfl)

abbrev laws_markObsSsp : List Sp := [.sl 0, .v false (.int .i64)]
abbrev laws_markObsSbs : List (Bs × Bool) := [(.row  (.pair (.pair (.int .i8) (.pair (.int .i8) (.pair (.int .i8) (.pair (.int .i8) (.pair (.int .i8) (.int .i8)))))) (.pair (.pair (.int .i64) (.int .i64)) (.int .i64))), true)]
abbrev laws_markObsSrs : List (Bool × List Rp) := [(false, [.v false (.int .i64)])]
noncomputable def laws_markObsSkp : Keep := { loop := fun id => match id with | 2 => ([1, 5, 0], []) | 5 => ([6, 1, 5, 0], []) | _ => ([], []), join := fun id => match id with | _ => none }
noncomputable def laws_markObsSc : Code := bodyOf Go.Proofs.Try.f29
noncomputable def laws_markObsSF (n : Nat) : Fun := { id := 29, sp := laws_markObsSsp, bs := laws_markObsSbs, rs := laws_markObsSrs, f := fun x y => laws_markObsS n x.2.1 y.1 }

theorem laws_markObsS_l5_eq (n : Nat) (G2 : St → Option ((((Int) × (Unit)) × (Unit)) × ((List (((Int) × ((Int) × ((Int) × ((Int) × ((Int) × (Int)))))) × (((Int) × (Int)) × (Int)))) × (Unit)))) : ∀ (k : Nat) (v6 : Int) (v1 : Int) (v5 : Int) (b0 : List (((Int) × ((Int) × ((Int) × ((Int) × ((Int) × (Int)))))) × (((Int) × (Int)) × (Int)))), iter (interp ([]) ty 51 1 n laws_markObsSkp (codeAt laws_markObsSc [1, 0, 1, 0, 0, 1, 0, 0, 0, 1, 0, 0])) (canon 1 (laws_markObsSkp.loop 5)) (kAt ([]) ty 51 1 n laws_markObsSkp laws_markObsSc [1, 0, 1, 0, 0, 1, 0, 0, 0, 1, 0] [G2] (ending ty 1 Go.Proofs.Try.f29.results.toList laws_markObsSrs laws_markObsSbs)) k { env := [(6, .one (.sc (.int .i64 v6))), (1, .one (.sc (.int .i64 v1))), (5, .one (.sc (.int .i64 v5))), (0, .one (.slice 0 0 none))], bx := [(0, .row 0 (.pair (.pair (.int .i8) (.pair (.int .i8) (.pair (.int .i8) (.pair (.int .i8) (.pair (.int .i8) (.int .i8)))))) (.pair (.pair (.int .i64) (.int .i64)) (.int .i64))) b0)], nx := 1 } = laws_markObsS_l5 n (fun v1 v5 b0 => G2 { env := [(1, .one (.sc (.int .i64 v1))), (5, .one (.sc (.int .i64 v5))), (0, .one (.slice 0 0 none))], bx := [(0, .row 0 (.pair (.pair (.int .i8) (.pair (.int .i8) (.pair (.int .i8) (.pair (.int .i8) (.pair (.int .i8) (.int .i8)))))) (.pair (.pair (.int .i64) (.int .i64)) (.int .i64))) b0)], nx := 1 }) k v6 v1 v5 b0
  | 0, _, _, _, _ => by kernel_rfl
  | k + 1, v6, v1, v5, b0 => by
    have h : iter (interp ([]) ty 51 1 n laws_markObsSkp (codeAt laws_markObsSc [1, 0, 1, 0, 0, 1, 0, 0, 0, 1, 0, 0])) (canon 1 (laws_markObsSkp.loop 5)) (kAt ([]) ty 51 1 n laws_markObsSkp laws_markObsSc [1, 0, 1, 0, 0, 1, 0, 0, 0, 1, 0] [G2] (ending ty 1 Go.Proofs.Try.f29.results.toList laws_markObsSrs laws_markObsSbs)) (k + 1) { env := [(6, .one (.sc (.int .i64 v6))), (1, .one (.sc (.int .i64 v1))), (5, .one (.sc (.int .i64 v5))), (0, .one (.slice 0 0 none))], bx := [(0, .row 0 (.pair (.pair (.int .i8) (.pair (.int .i8) (.pair (.int .i8) (.pair (.int .i8) (.pair (.int .i8) (.int .i8)))))) (.pair (.pair (.int .i64) (.int .i64)) (.int .i64))) b0)], nx := 1 } = laws_markObsS_t5 n (fun v1 v5 b0 => G2 { env := [(1, .one (.sc (.int .i64 v1))), (5, .one (.sc (.int .i64 v5))), (0, .one (.slice 0 0 none))], bx := [(0, .row 0 (.pair (.pair (.int .i8) (.pair (.int .i8) (.pair (.int .i8) (.pair (.int .i8) (.pair (.int .i8) (.int .i8)))))) (.pair (.pair (.int .i64) (.int .i64)) (.int .i64))) b0)], nx := 1 }) (fun v6 v1 v5 b0 => iter (interp ([]) ty 51 1 n laws_markObsSkp (codeAt laws_markObsSc [1, 0, 1, 0, 0, 1, 0, 0, 0, 1, 0, 0])) (canon 1 (laws_markObsSkp.loop 5)) (kAt ([]) ty 51 1 n laws_markObsSkp laws_markObsSc [1, 0, 1, 0, 0, 1, 0, 0, 0, 1, 0] [G2] (ending ty 1 Go.Proofs.Try.f29.results.toList laws_markObsSrs laws_markObsSbs)) k { env := [(6, .one (.sc (.int .i64 v6))), (1, .one (.sc (.int .i64 v1))), (5, .one (.sc (.int .i64 v5))), (0, .one (.slice 0 0 none))], bx := [(0, .row 0 (.pair (.pair (.int .i8) (.pair (.int .i8) (.pair (.int .i8) (.pair (.int .i8) (.pair (.int .i8) (.int .i8)))))) (.pair (.pair (.int .i64) (.int .i64)) (.int .i64))) b0)], nx := 1 }) v6 v1 v5 b0 := by kernel_rfl
    rw [h]
    have e := congrArg (fun g => laws_markObsS_t5 n (fun v1 v5 b0 => G2 { env := [(1, .one (.sc (.int .i64 v1))), (5, .one (.sc (.int .i64 v5))), (0, .one (.slice 0 0 none))], bx := [(0, .row 0 (.pair (.pair (.int .i8) (.pair (.int .i8) (.pair (.int .i8) (.pair (.int .i8) (.pair (.int .i8) (.int .i8)))))) (.pair (.pair (.int .i64) (.int .i64)) (.int .i64))) b0)], nx := 1 }) g v6 v1 v5 b0) (funext fun v6 => funext fun v1 => funext fun v5 => funext fun b0 => laws_markObsS_l5_eq n G2 k v6 v1 v5 b0)
    exact e

theorem laws_markObsS_l2_eq (n : Nat) : ∀ (k : Nat) (v1 : Int) (v5 : Int) (b0 : List (((Int) × ((Int) × ((Int) × ((Int) × ((Int) × (Int)))))) × (((Int) × (Int)) × (Int)))), iter (interp ([]) ty 51 1 n laws_markObsSkp (codeAt laws_markObsSc [1, 0, 1, 0, 0])) (canon 1 (laws_markObsSkp.loop 2)) (kAt ([]) ty 51 1 n laws_markObsSkp laws_markObsSc [1, 0, 1, 0] [] (ending ty 1 Go.Proofs.Try.f29.results.toList laws_markObsSrs laws_markObsSbs)) k { env := [(1, .one (.sc (.int .i64 v1))), (5, .one (.sc (.int .i64 v5))), (0, .one (.slice 0 0 none))], bx := [(0, .row 0 (.pair (.pair (.int .i8) (.pair (.int .i8) (.pair (.int .i8) (.pair (.int .i8) (.pair (.int .i8) (.int .i8)))))) (.pair (.pair (.int .i64) (.int .i64)) (.int .i64))) b0)], nx := 1 } = laws_markObsS_l2 n k v1 v5 b0
  | 0, _, _, _ => by kernel_rfl
  | k + 1, v1, v5, b0 => by
    have h : iter (interp ([]) ty 51 1 n laws_markObsSkp (codeAt laws_markObsSc [1, 0, 1, 0, 0])) (canon 1 (laws_markObsSkp.loop 2)) (kAt ([]) ty 51 1 n laws_markObsSkp laws_markObsSc [1, 0, 1, 0] [] (ending ty 1 Go.Proofs.Try.f29.results.toList laws_markObsSrs laws_markObsSbs)) (k + 1) { env := [(1, .one (.sc (.int .i64 v1))), (5, .one (.sc (.int .i64 v5))), (0, .one (.slice 0 0 none))], bx := [(0, .row 0 (.pair (.pair (.int .i8) (.pair (.int .i8) (.pair (.int .i8) (.pair (.int .i8) (.pair (.int .i8) (.int .i8)))))) (.pair (.pair (.int .i64) (.int .i64)) (.int .i64))) b0)], nx := 1 } = laws_markObsS_t2 n (fun k' v6 v1 v5 b0 => iter (interp ([]) ty 51 1 n laws_markObsSkp (codeAt laws_markObsSc [1, 0, 1, 0, 0, 1, 0, 0, 0, 1, 0, 0])) (canon 1 (laws_markObsSkp.loop 5)) (kAt ([]) ty 51 1 n laws_markObsSkp laws_markObsSc [1, 0, 1, 0, 0, 1, 0, 0, 0, 1, 0] [(fun s => iter (interp ([]) ty 51 1 n laws_markObsSkp (codeAt laws_markObsSc [1, 0, 1, 0, 0])) (canon 1 (laws_markObsSkp.loop 2)) (kAt ([]) ty 51 1 n laws_markObsSkp laws_markObsSc [1, 0, 1, 0] [] (ending ty 1 Go.Proofs.Try.f29.results.toList laws_markObsSrs laws_markObsSbs)) k s)] (ending ty 1 Go.Proofs.Try.f29.results.toList laws_markObsSrs laws_markObsSbs)) k' { env := [(6, .one (.sc (.int .i64 v6))), (1, .one (.sc (.int .i64 v1))), (5, .one (.sc (.int .i64 v5))), (0, .one (.slice 0 0 none))], bx := [(0, .row 0 (.pair (.pair (.int .i8) (.pair (.int .i8) (.pair (.int .i8) (.pair (.int .i8) (.pair (.int .i8) (.int .i8)))))) (.pair (.pair (.int .i64) (.int .i64)) (.int .i64))) b0)], nx := 1 }) (fun v1 v5 b0 => iter (interp ([]) ty 51 1 n laws_markObsSkp (codeAt laws_markObsSc [1, 0, 1, 0, 0])) (canon 1 (laws_markObsSkp.loop 2)) (kAt ([]) ty 51 1 n laws_markObsSkp laws_markObsSc [1, 0, 1, 0] [] (ending ty 1 Go.Proofs.Try.f29.results.toList laws_markObsSrs laws_markObsSbs)) k { env := [(1, .one (.sc (.int .i64 v1))), (5, .one (.sc (.int .i64 v5))), (0, .one (.slice 0 0 none))], bx := [(0, .row 0 (.pair (.pair (.int .i8) (.pair (.int .i8) (.pair (.int .i8) (.pair (.int .i8) (.pair (.int .i8) (.int .i8)))))) (.pair (.pair (.int .i64) (.int .i64)) (.int .i64))) b0)], nx := 1 }) v1 v5 b0 := by kernel_rfl
    rw [h]
    have e := congr (congrArg (fun h5 g => laws_markObsS_t2 n h5 g v1 v5 b0) ((funext fun k' => funext fun v6 => funext fun v1 => funext fun v5 => funext fun b0 => laws_markObsS_l5_eq n (fun s => iter (interp ([]) ty 51 1 n laws_markObsSkp (codeAt laws_markObsSc [1, 0, 1, 0, 0])) (canon 1 (laws_markObsSkp.loop 2)) (kAt ([]) ty 51 1 n laws_markObsSkp laws_markObsSc [1, 0, 1, 0] [] (ending ty 1 Go.Proofs.Try.f29.results.toList laws_markObsSrs laws_markObsSbs)) k s) k' v6 v1 v5 b0).trans (congrArg (fun z => laws_markObsS_l5 n z) (funext fun v1 => funext fun v5 => funext fun b0 => laws_markObsS_l2_eq n k v1 v5 b0)))) (funext fun v1 => funext fun v5 => funext fun b0 => laws_markObsS_l2_eq n k v1 v5 b0)
    exact e

theorem laws_markObsS_eq (n : Nat) (a1 : Int) (b0 : List (((Int) × ((Int) × ((Int) × ((Int) × ((Int) × (Int)))))) × (((Int) × (Int)) × (Int)))) : runBody ([]) ty 51 n laws_markObsSkp laws_markObsSc Go.Proofs.Try.f29.results.toList laws_markObsSrs laws_markObsSsp laws_markObsSbs ((), (a1, ())) (b0, ()) = laws_markObsS n a1 b0 := by
  have h : runBody ([]) ty 51 n laws_markObsSkp laws_markObsSc Go.Proofs.Try.f29.results.toList laws_markObsSrs laws_markObsSsp laws_markObsSbs ((), (a1, ())) (b0, ()) = laws_markObsS_t n (fun k v1 v5 b0 => iter (interp ([]) ty 51 1 n laws_markObsSkp (codeAt laws_markObsSc [1, 0, 1, 0, 0])) (canon 1 (laws_markObsSkp.loop 2)) (kAt ([]) ty 51 1 n laws_markObsSkp laws_markObsSc [1, 0, 1, 0] [] (ending ty 1 Go.Proofs.Try.f29.results.toList laws_markObsSrs laws_markObsSbs)) k { env := [(1, .one (.sc (.int .i64 v1))), (5, .one (.sc (.int .i64 v5))), (0, .one (.slice 0 0 none))], bx := [(0, .row 0 (.pair (.pair (.int .i8) (.pair (.int .i8) (.pair (.int .i8) (.pair (.int .i8) (.pair (.int .i8) (.int .i8)))))) (.pair (.pair (.int .i64) (.int .i64)) (.int .i64))) b0)], nx := 1 }) a1 b0 := by kernel_rfl
  rw [h]
  have e := congrArg (fun h2 => laws_markObsS_t n h2 a1 b0) (funext fun k => funext fun v1 => funext fun v5 => funext fun b0 => laws_markObsS_l2_eq n k v1 v5 b0)
  exact e

theorem laws_markObsS_ok (n : Nat) : FunOk P (laws_markObsSF n) :=
  funOk_mk (C := []) (N := 51) (kp := laws_markObsSkp) (c := laws_markObsSc) (n := n) (G := fun x y => laws_markObsS n x.2.1 y.1) follows (AllOk.mem (trivial : AllOk P ([]))) (by kernel_rfl : P.funcs[29]? = some Go.Proofs.Try.f29) (by kernel_rfl) (by kernel_rfl) (by kernel_rfl)
    (fun x y => laws_markObsS_eq n x.2.1 y.1) (fun _ _ => map_same (fun _ => rfl) _) (fun _ _ _ _ => rfl)

abbrev laws_markTablesp : List Sp := [.rc [.v (.int .i64), .sl 0, .v (.pair .bool (.pair (.int .i64) (.int .i64)))], .v false (.int .i64)]
abbrev laws_markTablebs : List (Bs × Bool) := [(.row (.pair (.pair (.int .i8) (.pair (.int .i8) (.pair (.int .i8) (.pair (.int .i8) (.pair (.int .i8) (.int .i8)))))) (.pair (.pair (.int .i64) (.int .i64)) (.int .i64))), true)]
abbrev laws_markTablers : List (Bool × List Rp) := [(false, [.v false (.int .i64)])]
noncomputable def laws_markTablekp : Keep := { loop := fun id => match id with | _ => ([], []), join := fun id => match id with | _ => none }
noncomputable def laws_markTablec : Code := bodyOf Go.Proofs.Try.f10
noncomputable def laws_markTableF (n : Nat) : Fun := { id := 10, sp := laws_markTablesp, bs := laws_markTablebs, rs := laws_markTablers, f := fun x y => laws_markTable n x.1 x.2.1 y.1 }

theorem laws_markTable_eq (n : Nat) (a0 : (Int) × (((Bool) × ((Int) × (Int))) × (Unit))) (a1 : Int) (b0 : List (((Int) × ((Int) × ((Int) × ((Int) × ((Int) × (Int)))))) × (((Int) × (Int)) × (Int)))) : runBody ([laws_markObsSF n]) ty 10 n laws_markTablekp laws_markTablec Go.Proofs.Try.f10.results.toList laws_markTablers laws_markTablesp laws_markTablebs (a0, (a1, ())) (b0, ()) = laws_markTable n a0 a1 b0 := by
  have h : runBody ([laws_markObsSF n]) ty 10 n laws_markTablekp laws_markTablec Go.Proofs.Try.f10.results.toList laws_markTablers laws_markTablesp laws_markTablebs (a0, (a1, ())) (b0, ()) = laws_markTable_t n a0 a1 b0 := by kernel_rfl
  rw [h]
  rfl

theorem laws_markTable_ok (n : Nat) : FunOk P (laws_markTableF n) :=
  funOk_mk (C := [laws_markObsSF n]) (N := 10) (kp := laws_markTablekp) (c := laws_markTablec) (n := n) (G := fun x y => laws_markTable n x.1 x.2.1 y.1) follows (AllOk.mem (⟨laws_markObsS_ok n, trivial⟩ : AllOk P ([laws_markObsSF n]))) (by kernel_rfl : P.funcs[10]? = some Go.Proofs.Try.f10) (by kernel_rfl) (by kernel_rfl) (by kernel_rfl)
    (fun x y => laws_markTable_eq n x.1 x.2.1 y.1) (fun _ _ => map_same (fun _ => rfl) _) (fun _ _ _ _ => rfl)

abbrev laws_szObsSsp : List Sp := [.v false (.list (.pair (.pair (.int .i8) (.pair (.int .i8) (.pair (.int .i8) (.pair (.int .i8) (.pair (.int .i8) (.int .i8)))))) (.pair (.pair (.int .i64) (.int .i64)) (.int .i64)))), .v false (.int .i64)]
abbrev laws_szObsSbs : List (Bs × Bool) := []
abbrev laws_szObsSrs : List (Bool × List Rp) := [(false, [.v false (.int .i64)])]
noncomputable def laws_szObsSkp : Keep := { loop := fun id => match id with | _ => ([], []), join := fun id => match id with | _ => none }
noncomputable def laws_szObsSc : Code := bodyOf Go.Proofs.Try.f18
noncomputable def laws_szObsSF (n : Nat) : Fun := { id := 18, sp := laws_szObsSsp, bs := laws_szObsSbs, rs := laws_szObsSrs, f := fun x y => laws_szObsS n x.1 x.2.1 }

theorem laws_szObsS_eq (n : Nat) (a0 : List (((Int) × ((Int) × ((Int) × ((Int) × ((Int) × (Int)))))) × (((Int) × (Int)) × (Int)))) (a1 : Int) : runBody ([]) ty 12 n laws_szObsSkp laws_szObsSc Go.Proofs.Try.f18.results.toList laws_szObsSrs laws_szObsSsp laws_szObsSbs (a0, (a1, ())) () = laws_szObsS n a0 a1 := by
  have h : runBody ([]) ty 12 n laws_szObsSkp laws_szObsSc Go.Proofs.Try.f18.results.toList laws_szObsSrs laws_szObsSsp laws_szObsSbs (a0, (a1, ())) () = laws_szObsS_t n a0 a1 := by kernel_rfl
  rw [h]
  rfl

theorem laws_szObsS_ok (n : Nat) : FunOk P (laws_szObsSF n) :=
  funOk_mk (C := []) (N := 12) (kp := laws_szObsSkp) (c := laws_szObsSc) (n := n) (G := fun x y => laws_szObsS n x.1 x.2.1) follows (AllOk.mem (trivial : AllOk P ([]))) (by kernel_rfl : P.funcs[18]? = some Go.Proofs.Try.f18) (by kernel_rfl) (by kernel_rfl) (by kernel_rfl)
    (fun x y => laws_szObsS_eq n x.1 x.2.1) (fun _ _ => map_same (fun _ => rfl) _) (fun _ _ _ _ => rfl)

abbrev laws_szTablesp : List Sp := [.v true (.pair (.int .i64) (.pair (.list (.pair (.pair (.int .i8) (.pair (.int .i8) (.pair (.int .i8) (.pair (.int .i8) (.pair (.int .i8) (.int .i8)))))) (.pair (.pair (.int .i64) (.int .i64)) (.int .i64)))) (.pair .bool (.pair (.int .i64) (.int .i64))))), .v false (.int .i64)]
abbrev laws_szTablebs : List (Bs × Bool) := []
abbrev laws_szTablers : List (Bool × List Rp) := [(false, [.v false (.int .i64)])]
noncomputable def laws_szTablekp : Keep := { loop := fun id => match id with | _ => ([], []), join := fun id => match id with | _ => none }
noncomputable def laws_szTablec : Code := bodyOf Go.Proofs.Try.f5
noncomputable def laws_szTableF (n : Nat) : Fun := { id := 5, sp := laws_szTablesp, bs := laws_szTablebs, rs := laws_szTablers, f := fun x y => laws_szTable n x.1 x.2.1 }

theorem laws_szTable_eq (n : Nat) (a0 : (Int) × ((List (((Int) × ((Int) × ((Int) × ((Int) × ((Int) × (Int)))))) × (((Int) × (Int)) × (Int)))) × ((Bool) × ((Int) × (Int))))) (a1 : Int) : runBody ([laws_szObsSF n]) ty 12 n laws_szTablekp laws_szTablec Go.Proofs.Try.f5.results.toList laws_szTablers laws_szTablesp laws_szTablebs (a0, (a1, ())) () = laws_szTable n a0 a1 := by
  have h : runBody ([laws_szObsSF n]) ty 12 n laws_szTablekp laws_szTablec Go.Proofs.Try.f5.results.toList laws_szTablers laws_szTablesp laws_szTablebs (a0, (a1, ())) () = laws_szTable_t n a0 a1 := by kernel_rfl
  rw [h]
  rfl

theorem laws_szTable_ok (n : Nat) : FunOk P (laws_szTableF n) :=
  funOk_mk (C := [laws_szObsSF n]) (N := 12) (kp := laws_szTablekp) (c := laws_szTablec) (n := n) (G := fun x y => laws_szTable n x.1 x.2.1) follows (AllOk.mem (⟨laws_szObsS_ok n, trivial⟩ : AllOk P ([laws_szObsSF n]))) (by kernel_rfl : P.funcs[5]? = some Go.Proofs.Try.f5) (by kernel_rfl) (by kernel_rfl) (by kernel_rfl)
    (fun x y => laws_szTable_eq n x.1 x.2.1) (fun _ _ => map_same (fun _ => rfl) _) (fun _ _ _ _ => rfl)

abbrev laws_toFracsp : List Sp := [.v true (.pair (.int .i64) (.int .i64))]
abbrev laws_toFracbs : List (Bs × Bool) := []
abbrev laws_toFracrs : List (Bool × List Rp) := [(true, [.v false (.pair (.int .i64) (.int .i64))])]
noncomputable def laws_toFrackp : Keep := { loop := fun id => match id with | _ => ([], []), join := fun id => match id with | _ => none }
noncomputable def laws_toFracc : Code := bodyOf Go.Proofs.Try.f22
noncomputable def laws_toFracF (n : Nat) : Fun := { id := 22, sp := laws_toFracsp, bs := laws_toFracbs, rs := laws_toFracrs, f := fun x y => laws_toFrac n x.1 }

theorem laws_toFrac_eq (n : Nat) (a0 : (Int) × (Int)) : runBody ([]) ty 11 n laws_toFrackp laws_toFracc Go.Proofs.Try.f22.results.toList laws_toFracrs laws_toFracsp laws_toFracbs (a0, ()) () = laws_toFrac n a0 := by
  have h : runBody ([]) ty 11 n laws_toFrackp laws_toFracc Go.Proofs.Try.f22.results.toList laws_toFracrs laws_toFracsp laws_toFracbs (a0, ()) () = laws_toFrac_t n a0 := by kernel_rfl
  rw [h]
  rfl

theorem laws_toFrac_ok (n : Nat) : FunOk P (laws_toFracF n) :=
  funOk_mk (C := []) (N := 11) (kp := laws_toFrackp) (c := laws_toFracc) (n := n) (G := fun x y => laws_toFrac n x.1) follows (AllOk.mem (trivial : AllOk P ([]))) (by kernel_rfl : P.funcs[22]? = some Go.Proofs.Try.f22) (by kernel_rfl) (by kernel_rfl) (by kernel_rfl)
    (fun x y => laws_toFrac_eq n x.1) (fun _ _ => map_same (fun _ => rfl) _) (fun _ _ _ _ => rfl)

abbrev laws_toInt8A6sp : List Sp := [.v true (.pair (.int .i8) (.pair (.int .i8) (.pair (.int .i8) (.pair (.int .i8) (.pair (.int .i8) (.int .i8))))))]
abbrev laws_toInt8A6bs : List (Bs × Bool) := []
abbrev laws_toInt8A6rs : List (Bool × List Rp) := [(true, [.v false (.pair (.int .i8) (.pair (.int .i8) (.pair (.int .i8) (.pair (.int .i8) (.pair (.int .i8) (.int .i8))))))])]
noncomputable def laws_toInt8A6kp : Keep := { loop := fun id => match id with | 3 => ([4, 3, 1, 2], []) | _ => ([], []), join := fun id => match id with | _ => none }
noncomputable def laws_toInt8A6c : Code := bodyOf Go.Proofs.Try.f73
noncomputable def laws_toInt8A6F (n : Nat) : Fun := { id := 73, sp := laws_toInt8A6sp, bs := laws_toInt8A6bs, rs := laws_toInt8A6rs, f := fun x y => laws_toInt8A6 n x.1 }

theorem laws_toInt8A6_l3_eq (n : Nat) : ∀ (k : Nat) (v4 : Int) (b0_0 : Int) (b0_1 : Int) (b0_2 : Int) (b0_3 : Int) (b0_4 : Int) (b0_5 : Int) (b1_0 : Int) (b1_1 : Int) (b1_2 : Int) (b1_3 : Int) (b1_4 : Int) (b1_5 : Int) (b2_0 : Int) (b2_1 : Int) (b2_2 : Int) (b2_3 : Int) (b2_4 : Int) (b2_5 : Int), iter (interp ([]) ty 15 0 n laws_toInt8A6kp (codeAt laws_toInt8A6c [1, 1, 0, 1, 0, 0])) (canon 0 (laws_toInt8A6kp.loop 3)) (kAt ([]) ty 15 0 n laws_toInt8A6kp laws_toInt8A6c [1, 1, 0, 1, 0] [] (ending ty 0 Go.Proofs.Try.f73.results.toList laws_toInt8A6rs laws_toInt8A6bs)) k { env := [(4, .one (.sc (.int .i64 v4))), (3, .one (.ref 0 0 0 0 0 0)), (1, .one (.ref 1 0 0 0 0 0)), (2, .one (.ref 2 0 0 0 0 0))], bx := [(0, .var 58 [.sc (.int .i8 b0_0), .sc (.int .i8 b0_1), .sc (.int .i8 b0_2), .sc (.int .i8 b0_3), .sc (.int .i8 b0_4), .sc (.int .i8 b0_5)]), (1, .var 58 [.sc (.int .i8 b1_0), .sc (.int .i8 b1_1), .sc (.int .i8 b1_2), .sc (.int .i8 b1_3), .sc (.int .i8 b1_4), .sc (.int .i8 b1_5)]), (2, .var 58 [.sc (.int .i8 b2_0), .sc (.int .i8 b2_1), .sc (.int .i8 b2_2), .sc (.int .i8 b2_3), .sc (.int .i8 b2_4), .sc (.int .i8 b2_5)])], nx := 3 } = laws_toInt8A6_l3 n k v4 b0_0 b0_1 b0_2 b0_3 b0_4 b0_5 b1_0 b1_1 b1_2 b1_3 b1_4 b1_5 b2_0 b2_1 b2_2 b2_3 b2_4 b2_5
  | 0, _, _, _, _, _, _, _, _, _, _, _, _, _, _, _, _, _, _, _ => by kernel_rfl
  | k + 1, v4, b0_0, b0_1, b0_2, b0_3, b0_4, b0_5, b1_0, b1_1, b1_2, b1_3, b1_4, b1_5, b2_0, b2_1, b2_2, b2_3, b2_4, b2_5 => by
    have h : iter (interp ([]) ty 15 0 n laws_toInt8A6kp (codeAt laws_toInt8A6c [1, 1, 0, 1, 0, 0])) (canon 0 (laws_toInt8A6kp.loop 3)) (kAt ([]) ty 15 0 n laws_toInt8A6kp laws_toInt8A6c [1, 1, 0, 1, 0] [] (ending ty 0 Go.Proofs.Try.f73.results.toList laws_toInt8A6rs laws_toInt8A6bs)) (k + 1) { env := [(4, .one (.sc (.int .i64 v4))), (3, .one (.ref 0 0 0 0 0 0)), (1, .one (.ref 1 0 0 0 0 0)), (2, .one (.ref 2 0 0 0 0 0))], bx := [(0, .var 58 [.sc (.int .i8 b0_0), .sc (.int .i8 b0_1), .sc (.int .i8 b0_2), .sc (.int .i8 b0_3), .sc (.int .i8 b0_4), .sc (.int .i8 b0_5)]), (1, .var 58 [.sc (.int .i8 b1_0), .sc (.int .i8 b1_1), .sc (.int .i8 b1_2), .sc (.int .i8 b1_3), .sc (.int .i8 b1_4), .sc (.int .i8 b1_5)]), (2, .var 58 [.sc (.int .i8 b2_0), .sc (.int .i8 b2_1), .sc (.int .i8 b2_2), .sc (.int .i8 b2_3), .sc (.int .i8 b2_4), .sc (.int .i8 b2_5)])], nx := 3 } = laws_toInt8A6_t3 n (fun v4 b0_0 b0_1 b0_2 b0_3 b0_4 b0_5 b1_0 b1_1 b1_2 b1_3 b1_4 b1_5 b2_0 b2_1 b2_2 b2_3 b2_4 b2_5 => iter (interp ([]) ty 15 0 n laws_toInt8A6kp (codeAt laws_toInt8A6c [1, 1, 0, 1, 0, 0])) (canon 0 (laws_toInt8A6kp.loop 3)) (kAt ([]) ty 15 0 n laws_toInt8A6kp laws_toInt8A6c [1, 1, 0, 1, 0] [] (ending ty 0 Go.Proofs.Try.f73.results.toList laws_toInt8A6rs laws_toInt8A6bs)) k { env := [(4, .one (.sc (.int .i64 v4))), (3, .one (.ref 0 0 0 0 0 0)), (1, .one (.ref 1 0 0 0 0 0)), (2, .one (.ref 2 0 0 0 0 0))], bx := [(0, .var 58 [.sc (.int .i8 b0_0), .sc (.int .i8 b0_1), .sc (.int .i8 b0_2), .sc (.int .i8 b0_3), .sc (.int .i8 b0_4), .sc (.int .i8 b0_5)]), (1, .var 58 [.sc (.int .i8 b1_0), .sc (.int .i8 b1_1), .sc (.int .i8 b1_2), .sc (.int .i8 b1_3), .sc (.int .i8 b1_4), .sc (.int .i8 b1_5)]), (2, .var 58 [.sc (.int .i8 b2_0), .sc (.int .i8 b2_1), .sc (.int .i8 b2_2), .sc (.int .i8 b2_3), .sc (.int .i8 b2_4), .sc (.int .i8 b2_5)])], nx := 3 }) v4 b0_0 b0_1 b0_2 b0_3 b0_4 b0_5 b1_0 b1_1 b1_2 b1_3 b1_4 b1_5 b2_0 b2_1 b2_2 b2_3 b2_4 b2_5 := by kernel_rfl
    rw [h]
    have e := congrArg (fun g => laws_toInt8A6_t3 n g v4 b0_0 b0_1 b0_2 b0_3 b0_4 b0_5 b1_0 b1_1 b1_2 b1_3 b1_4 b1_5 b2_0 b2_1 b2_2 b2_3 b2_4 b2_5) (funext fun v4 => funext fun b0_0 => funext fun b0_1 => funext fun b0_2 => funext fun b0_3 => funext fun b0_4 => funext fun b0_5 => funext fun b1_0 => funext fun b1_1 => funext fun b1_2 => funext fun b1_3 => funext fun b1_4 => funext fun b1_5 => funext fun b2_0 => funext fun b2_1 => funext fun b2_2 => funext fun b2_3 => funext fun b2_4 => funext fun b2_5 => laws_toInt8A6_l3_eq n k v4 b0_0 b0_1 b0_2 b0_3 b0_4 b0_5 b1_0 b1_1 b1_2 b1_3 b1_4 b1_5 b2_0 b2_1 b2_2 b2_3 b2_4 b2_5)
    exact e

theorem laws_toInt8A6_eq (n : Nat) (a0 : (Int) × ((Int) × ((Int) × ((Int) × ((Int) × (Int)))))) : runBody ([]) ty 15 n laws_toInt8A6kp laws_toInt8A6c Go.Proofs.Try.f73.results.toList laws_toInt8A6rs laws_toInt8A6sp laws_toInt8A6bs (a0, ()) () = laws_toInt8A6 n a0 := by
  have h : runBody ([]) ty 15 n laws_toInt8A6kp laws_toInt8A6c Go.Proofs.Try.f73.results.toList laws_toInt8A6rs laws_toInt8A6sp laws_toInt8A6bs (a0, ()) () = laws_toInt8A6_t n (fun k v4 b0_0 b0_1 b0_2 b0_3 b0_4 b0_5 b1_0 b1_1 b1_2 b1_3 b1_4 b1_5 b2_0 b2_1 b2_2 b2_3 b2_4 b2_5 => iter (interp ([]) ty 15 0 n laws_toInt8A6kp (codeAt laws_toInt8A6c [1, 1, 0, 1, 0, 0])) (canon 0 (laws_toInt8A6kp.loop 3)) (kAt ([]) ty 15 0 n laws_toInt8A6kp laws_toInt8A6c [1, 1, 0, 1, 0] [] (ending ty 0 Go.Proofs.Try.f73.results.toList laws_toInt8A6rs laws_toInt8A6bs)) k { env := [(4, .one (.sc (.int .i64 v4))), (3, .one (.ref 0 0 0 0 0 0)), (1, .one (.ref 1 0 0 0 0 0)), (2, .one (.ref 2 0 0 0 0 0))], bx := [(0, .var 58 [.sc (.int .i8 b0_0), .sc (.int .i8 b0_1), .sc (.int .i8 b0_2), .sc (.int .i8 b0_3), .sc (.int .i8 b0_4), .sc (.int .i8 b0_5)]), (1, .var 58 [.sc (.int .i8 b1_0), .sc (.int .i8 b1_1), .sc (.int .i8 b1_2), .sc (.int .i8 b1_3), .sc (.int .i8 b1_4), .sc (.int .i8 b1_5)]), (2, .var 58 [.sc (.int .i8 b2_0), .sc (.int .i8 b2_1), .sc (.int .i8 b2_2), .sc (.int .i8 b2_3), .sc (.int .i8 b2_4), .sc (.int .i8 b2_5)])], nx := 3 }) a0 := by kernel_rfl
  rw [h]
  have e := congrArg (fun h3 => laws_toInt8A6_t n h3 a0) (funext fun k => funext fun v4 => funext fun b0_0 => funext fun b0_1 => funext fun b0_2 => funext fun b0_3 => funext fun b0_4 => funext fun b0_5 => funext fun b1_0 => funext fun b1_1 => funext fun b1_2 => funext fun b1_3 => funext fun b1_4 => funext fun b1_5 => funext fun b2_0 => funext fun b2_1 => funext fun b2_2 => funext fun b2_3 => funext fun b2_4 => funext fun b2_5 => laws_toInt8A6_l3_eq n k v4 b0_0 b0_1 b0_2 b0_3 b0_4 b0_5 b1_0 b1_1 b1_2 b1_3 b1_4 b1_5 b2_0 b2_1 b2_2 b2_3 b2_4 b2_5)
  exact e

theorem laws_toInt8A6_ok (n : Nat) : FunOk P (laws_toInt8A6F n) :=
  funOk_mk (C := []) (N := 15) (kp := laws_toInt8A6kp) (c := laws_toInt8A6c) (n := n) (G := fun x y => laws_toInt8A6 n x.1) follows (AllOk.mem (trivial : AllOk P ([]))) (by kernel_rfl : P.funcs[73]? = some Go.Proofs.Try.f73) (by kernel_rfl) (by kernel_rfl) (by kernel_rfl)
    (fun x y => laws_toInt8A6_eq n x.1) (fun _ _ => map_same (fun _ => rfl) _) (fun _ _ _ _ => rfl)

abbrev laws_toObssp : List Sp := [.v true (.pair (.pair (.int .i8) (.pair (.int .i8) (.pair (.int .i8) (.pair (.int .i8) (.pair (.int .i8) (.int .i8)))))) (.pair (.pair (.int .i64) (.int .i64)) (.int .i64)))]
abbrev laws_toObsbs : List (Bs × Bool) := []
abbrev laws_toObsrs : List (Bool × List Rp) := [(true, [.v false (.pair (.pair (.int .i8) (.pair (.int .i8) (.pair (.int .i8) (.pair (.int .i8) (.pair (.int .i8) (.int .i8)))))) (.pair (.pair (.int .i64) (.int .i64)) (.int .i64)))])]
noncomputable def laws_toObskp : Keep := { loop := fun id => match id with | _ => ([], []), join := fun id => match id with | _ => none }
noncomputable def laws_toObsc : Code := bodyOf Go.Proofs.Try.f50
noncomputable def laws_toObsF (n : Nat) : Fun := { id := 50, sp := laws_toObssp, bs := laws_toObsbs, rs := laws_toObsrs, f := fun x y => laws_toObs n x.1 }

theorem laws_toObs_eq (n : Nat) (a0 : ((Int) × ((Int) × ((Int) × ((Int) × ((Int) × (Int)))))) × (((Int) × (Int)) × (Int))) : runBody ([laws_toInt8A6F n, laws_toFracF n]) ty 16 n laws_toObskp laws_toObsc Go.Proofs.Try.f50.results.toList laws_toObsrs laws_toObssp laws_toObsbs (a0, ()) () = laws_toObs n a0 := by
  have h : runBody ([laws_toInt8A6F n, laws_toFracF n]) ty 16 n laws_toObskp laws_toObsc Go.Proofs.Try.f50.results.toList laws_toObsrs laws_toObssp laws_toObsbs (a0, ()) () = laws_toObs_t n a0 := by kernel_rfl
  rw [h]
  rfl

theorem laws_toObs_ok (n : Nat) : FunOk P (laws_toObsF n) :=
  funOk_mk (C := [laws_toInt8A6F n, laws_toFracF n]) (N := 16) (kp := laws_toObskp) (c := laws_toObsc) (n := n) (G := fun x y => laws_toObs n x.1) follows (AllOk.mem (⟨laws_toInt8A6_ok n, ⟨laws_toFrac_ok n, trivial⟩⟩ : AllOk P ([laws_toInt8A6F n, laws_toFracF n]))) (by kernel_rfl : P.funcs[50]? = some Go.Proofs.Try.f50) (by kernel_rfl) (by kernel_rfl) (by kernel_rfl)
    (fun x y => laws_toObs_eq n x.1) (fun _ _ => map_same (fun _ => rfl) _) (fun _ _ _ _ => rfl)

abbrev laws_toObsSsp : List Sp := [.v false (.list (.pair (.pair (.int .i8) (.pair (.int .i8) (.pair (.int .i8) (.pair (.int .i8) (.pair (.int .i8) (.int .i8)))))) (.pair (.pair (.int .i64) (.int .i64)) (.int .i64))))]
abbrev laws_toObsSbs : List (Bs × Bool) := []
abbrev laws_toObsSrs : List (Bool × List Rp) := [(false, [.new  (.pair (.pair (.int .i8) (.pair (.int .i8) (.pair (.int .i8) (.pair (.int .i8) (.pair (.int .i8) (.int .i8)))))) (.pair (.pair (.int .i64) (.int .i64)) (.int .i64)))])]
noncomputable def laws_toObsSkp : Keep := { loop := fun id => match id with | 3 => ([4, 0, 3], []) | _ => ([], []), join := fun id => match id with | _ => none }
noncomputable def laws_toObsSc : Code := bodyOf Go.Proofs.Try.f21
noncomputable def laws_toObsSF (n : Nat) : Fun := { id := 21, sp := laws_toObsSsp, bs := laws_toObsSbs, rs := laws_toObsSrs, f := fun x y => laws_toObsS n x.1 }

theorem laws_toObsS_l3_eq (n : Nat) : ∀ (k : Nat) (v4 : Int) (v0 : List (((Int) × ((Int) × ((Int) × ((Int) × ((Int) × (Int)))))) × (((Int) × (Int)) × (Int)))) (b0 : List (((Int) × ((Int) × ((Int) × ((Int) × ((Int) × (Int)))))) × (((Int) × (Int)) × (Int)))), iter (interp ([laws_toObsF n]) ty 23 0 n laws_toObsSkp (codeAt laws_toObsSc [1, 1, 0, 1, 0, 0])) (canon 0 (laws_toObsSkp.loop 3)) (kAt ([laws_toObsF n]) ty 23 0 n laws_toObsSkp laws_toObsSc [1, 1, 0, 1, 0] [] (ending ty 0 Go.Proofs.Try.f21.results.toList laws_toObsSrs laws_toObsSbs)) k { env := [(4, .one (.sc (.int .i64 v4))), (0, .one (.list true (.pair (.pair (.int .i8) (.pair (.int .i8) (.pair (.int .i8) (.pair (.int .i8) (.pair (.int .i8) (.int .i8)))))) (.pair (.pair (.int .i64) (.int .i64)) (.int .i64))) v0)), (3, .one (.slice 0 0 none))], bx := [(0, .row 0 (.pair (.pair (.int .i8) (.pair (.int .i8) (.pair (.int .i8) (.pair (.int .i8) (.pair (.int .i8) (.int .i8)))))) (.pair (.pair (.int .i64) (.int .i64)) (.int .i64))) b0)], nx := 1 } = laws_toObsS_l3 n k v4 v0 b0
  | 0, _, _, _ => by kernel_rfl
  | k + 1, v4, v0, b0 => by
    have h : iter (interp ([laws_toObsF n]) ty 23 0 n laws_toObsSkp (codeAt laws_toObsSc [1, 1, 0, 1, 0, 0])) (canon 0 (laws_toObsSkp.loop 3)) (kAt ([laws_toObsF n]) ty 23 0 n laws_toObsSkp laws_toObsSc [1, 1, 0, 1, 0] [] (ending ty 0 Go.Proofs.Try.f21.results.toList laws_toObsSrs laws_toObsSbs)) (k + 1) { env := [(4, .one (.sc (.int .i64 v4))), (0, .one (.list true (.pair (.pair (.int .i8) (.pair (.int .i8) (.pair (.int .i8) (.pair (.int .i8) (.pair (.int .i8) (.int .i8)))))) (.pair (.pair (.int .i64) (.int .i64)) (.int .i64))) v0)), (3, .one (.slice 0 0 none))], bx := [(0, .row 0 (.pair (.pair (.int .i8) (.pair (.int .i8) (.pair (.int .i8) (.pair (.int .i8) (.pair (.int .i8) (.int .i8)))))) (.pair (.pair (.int .i64) (.int .i64)) (.int .i64))) b0)], nx := 1 } = laws_toObsS_t3 n (fun v4 v0 b0 => iter (interp ([laws_toObsF n]) ty 23 0 n laws_toObsSkp (codeAt laws_toObsSc [1, 1, 0, 1, 0, 0])) (canon 0 (laws_toObsSkp.loop 3)) (kAt ([laws_toObsF n]) ty 23 0 n laws_toObsSkp laws_toObsSc [1, 1, 0, 1, 0] [] (ending ty 0 Go.Proofs.Try.f21.results.toList laws_toObsSrs laws_toObsSbs)) k { env := [(4, .one (.sc (.int .i64 v4))), (0, .one (.list true (.pair (.pair (.int .i8) (.pair (.int .i8) (.pair (.int .i8) (.pair (.int .i8) (.pair (.int .i8) (.int .i8)))))) (.pair (.pair (.int .i64) (.int .i64)) (.int .i64))) v0)), (3, .one (.slice 0 0 none))], bx := [(0, .row 0 (.pair (.pair (.int .i8) (.pair (.int .i8) (.pair (.int .i8) (.pair (.int .i8) (.pair (.int .i8) (.int .i8)))))) (.pair (.pair (.int .i64) (.int .i64)) (.int .i64))) b0)], nx := 1 }) v4 v0 b0 := by kernel_rfl
    rw [h]
    have e := congrArg (fun g => laws_toObsS_t3 n g v4 v0 b0) (funext fun v4 => funext fun v0 => funext fun b0 => laws_toObsS_l3_eq n k v4 v0 b0)
    exact e

theorem laws_toObsS_eq (n : Nat) (a0 : List (((Int) × ((Int) × ((Int) × ((Int) × ((Int) × (Int)))))) × (((Int) × (Int)) × (Int)))) : runBody ([laws_toObsF n]) ty 23 n laws_toObsSkp laws_toObsSc Go.Proofs.Try.f21.results.toList laws_toObsSrs laws_toObsSsp laws_toObsSbs (a0, ()) () = laws_toObsS n a0 := by
  have h : runBody ([laws_toObsF n]) ty 23 n laws_toObsSkp laws_toObsSc Go.Proofs.Try.f21.results.toList laws_toObsSrs laws_toObsSsp laws_toObsSbs (a0, ()) () = laws_toObsS_t n (fun k v4 v0 b0 => iter (interp ([laws_toObsF n]) ty 23 0 n laws_toObsSkp (codeAt laws_toObsSc [1, 1, 0, 1, 0, 0])) (canon 0 (laws_toObsSkp.loop 3)) (kAt ([laws_toObsF n]) ty 23 0 n laws_toObsSkp laws_toObsSc [1, 1, 0, 1, 0] [] (ending ty 0 Go.Proofs.Try.f21.results.toList laws_toObsSrs laws_toObsSbs)) k { env := [(4, .one (.sc (.int .i64 v4))), (0, .one (.list true (.pair (.pair (.int .i8) (.pair (.int .i8) (.pair (.int .i8) (.pair (.int .i8) (.pair (.int .i8) (.int .i8)))))) (.pair (.pair (.int .i64) (.int .i64)) (.int .i64))) v0)), (3, .one (.slice 0 0 none))], bx := [(0, .row 0 (.pair (.pair (.int .i8) (.pair (.int .i8) (.pair (.int .i8) (.pair (.int .i8) (.pair (.int .i8) (.int .i8)))))) (.pair (.pair (.int .i64) (.int .i64)) (.int .i64))) b0)], nx := 1 }) a0 := by kernel_rfl
  rw [h]
  have e := congrArg (fun h3 => laws_toObsS_t n h3 a0) (funext fun k => funext fun v4 => funext fun v0 => funext fun b0 => laws_toObsS_l3_eq n k v4 v0 b0)
  exact e

theorem laws_toObsS_ok (n : Nat) : FunOk P (laws_toObsSF n) :=
  funOk_mk (C := [laws_toObsF n]) (N := 23) (kp := laws_toObsSkp) (c := laws_toObsSc) (n := n) (G := fun x y => laws_toObsS n x.1) follows (AllOk.mem (⟨laws_toObs_ok n, trivial⟩ : AllOk P ([laws_toObsF n]))) (by kernel_rfl : P.funcs[21]? = some Go.Proofs.Try.f21) (by kernel_rfl) (by kernel_rfl) (by kernel_rfl)
    (fun x y => laws_toObsS_eq n x.1) (fun _ _ => map_same (fun _ => rfl) _) (fun _ _ _ _ => rfl)

abbrev laws_toTablesp : List Sp := [.v true (.pair (.int .i64) (.pair (.list (.pair (.pair (.int .i8) (.pair (.int .i8) (.pair (.int .i8) (.pair (.int .i8) (.pair (.int .i8) (.int .i8)))))) (.pair (.pair (.int .i64) (.int .i64)) (.int .i64)))) (.pair .bool (.pair (.int .i64) (.int .i64)))))]
abbrev laws_toTablebs : List (Bs × Bool) := []
abbrev laws_toTablers : List (Bool × List Rp) := [(true, [.v false (.int .i64), .new (.pair (.pair (.int .i8) (.pair (.int .i8) (.pair (.int .i8) (.pair (.int .i8) (.pair (.int .i8) (.int .i8)))))) (.pair (.pair (.int .i64) (.int .i64)) (.int .i64))), .v false (.pair .bool (.pair (.int .i64) (.int .i64)))])]
noncomputable def laws_toTablekp : Keep := { loop := fun id => match id with | _ => ([], []), join := fun id => match id with | _ => none }
noncomputable def laws_toTablec : Code := bodyOf Go.Proofs.Try.f7
noncomputable def laws_toTableF (n : Nat) : Fun := { id := 7, sp := laws_toTablesp, bs := laws_toTablebs, rs := laws_toTablers, f := fun x y => laws_toTable n x.1 }

theorem laws_toTable_eq (n : Nat) (a0 : (Int) × ((List (((Int) × ((Int) × ((Int) × ((Int) × ((Int) × (Int)))))) × (((Int) × (Int)) × (Int)))) × ((Bool) × ((Int) × (Int))))) : runBody ([laws_toObsSF n, laws_toFracF n]) ty 19 n laws_toTablekp laws_toTablec Go.Proofs.Try.f7.results.toList laws_toTablers laws_toTablesp laws_toTablebs (a0, ()) () = laws_toTable n a0 := by
  have h : runBody ([laws_toObsSF n, laws_toFracF n]) ty 19 n laws_toTablekp laws_toTablec Go.Proofs.Try.f7.results.toList laws_toTablers laws_toTablesp laws_toTablebs (a0, ()) () = laws_toTable_t n a0 := by kernel_rfl
  rw [h]
  rfl

theorem laws_toTable_ok (n : Nat) : FunOk P (laws_toTableF n) :=
  funOk_mk (C := [laws_toObsSF n, laws_toFracF n]) (N := 19) (kp := laws_toTablekp) (c := laws_toTablec) (n := n) (G := fun x y => laws_toTable n x.1) follows (AllOk.mem (⟨laws_toObsS_ok n, ⟨laws_toFrac_ok n, trivial⟩⟩ : AllOk P ([laws_toObsSF n, laws_toFracF n]))) (by kernel_rfl : P.funcs[7]? = some Go.Proofs.Try.f7) (by kernel_rfl) (by kernel_rfl) (by kernel_rfl)
    (fun x y => laws_toTable_eq n x.1) (fun _ _ => map_same (fun _ => rfl) _) (fun _ _ _ _ => rfl)

abbrev spec_l00Insp : List Sp := [.v false (.int .i64), .v false (.int .i64), .v false (.int .i64)]
abbrev spec_l00Inbs : List (Bs × Bool) := []
abbrev spec_l00Inrs : List (Bool × List Rp) := [(false, [.v false .bool])]
noncomputable def spec_l00Inkp : Keep := { loop := fun id => match id with | _ => ([], []), join := fun id => match id with | _ => none }
noncomputable def spec_l00Inc : Code := bodyOf Go.Proofs.Try.f20
noncomputable def spec_l00InF (n : Nat) : Fun := { id := 20, sp := spec_l00Insp, bs := spec_l00Inbs, rs := spec_l00Inrs, f := fun x y => spec_l00In n x.1 x.2.1 x.2.2.1 }

theorem spec_l00In_eq (n : Nat) (a0 : Int) (a1 : Int) (a2 : Int) : runBody ([]) ty 15 n spec_l00Inkp spec_l00Inc Go.Proofs.Try.f20.results.toList spec_l00Inrs spec_l00Insp spec_l00Inbs (a0, (a1, (a2, ()))) () = spec_l00In n a0 a1 a2 := by
  have h : runBody ([]) ty 15 n spec_l00Inkp spec_l00Inc Go.Proofs.Try.f20.results.toList spec_l00Inrs spec_l00Insp spec_l00Inbs (a0, (a1, (a2, ()))) () = spec_l00In_t n a0 a1 a2 := by kernel_rfl
  rw [h]
  rfl

theorem spec_l00In_ok (n : Nat) : FunOk P (spec_l00InF n) :=
  funOk_mk (C := []) (N := 15) (kp := spec_l00Inkp) (c := spec_l00Inc) (n := n) (G := fun x y => spec_l00In n x.1 x.2.1 x.2.2.1) follows (AllOk.mem (trivial : AllOk P ([]))) (by kernel_rfl : P.funcs[20]? = some Go.Proofs.Try.f20) (by kernel_rfl) (by kernel_rfl) (by kernel_rfl)
    (fun x y => spec_l00In_eq n x.1 x.2.1 x.2.2.1) (fun _ _ => map_same (fun _ => rfl) _) (fun _ _ _ _ => rfl)

abbrev spec_l01Abssp : List Sp := [.v false (.int .i64)]
abbrev spec_l01Absbs : List (Bs × Bool) := []
abbrev spec_l01Absrs : List (Bool × List Rp) := [(false, [.v false (.int .i64)])]
noncomputable def spec_l01Abskp : Keep := { loop := fun id => match id with | _ => ([], []), join := fun id => match id with | _ => none }
noncomputable def spec_l01Absc : Code := bodyOf Go.Proofs.Try.f59
noncomputable def spec_l01AbsF (n : Nat) : Fun := { id := 59, sp := spec_l01Abssp, bs := spec_l01Absbs, rs := spec_l01Absrs, f := fun x y => spec_l01Abs n x.1 }

theorem spec_l01Abs_eq (n : Nat) (a0 : Int) : runBody ([]) ty 8 n spec_l01Abskp spec_l01Absc Go.Proofs.Try.f59.results.toList spec_l01Absrs spec_l01Abssp spec_l01Absbs (a0, ()) () = spec_l01Abs n a0 := by
  have h : runBody ([]) ty 8 n spec_l01Abskp spec_l01Absc Go.Proofs.Try.f59.results.toList spec_l01Absrs spec_l01Abssp spec_l01Absbs (a0, ()) () = spec_l01Abs_t n a0 := by kernel_rfl
  rw [h]
  rfl

theorem spec_l01Abs_ok (n : Nat) : FunOk P (spec_l01AbsF n) :=
  funOk_mk (C := []) (N := 8) (kp := spec_l01Abskp) (c := spec_l01Absc) (n := n) (G := fun x y => spec_l01Abs n x.1) follows (AllOk.mem (trivial : AllOk P ([]))) (by kernel_rfl : P.funcs[59]? = some Go.Proofs.Try.f59) (by kernel_rfl) (by kernel_rfl) (by kernel_rfl)
    (fun x y => spec_l01Abs_eq n x.1) (fun _ _ => map_same (fun _ => rfl) _) (fun _ _ _ _ => rfl)

abbrev spec_l01Gcdsp : List Sp := [.v false (.int .i64), .v false (.int .i64)]
abbrev spec_l01Gcdbs : List (Bs × Bool) := []
abbrev spec_l01Gcdrs : List (Bool × List Rp) := [(false, [.v false (.int .i64)])]
noncomputable def spec_l01Gcdkp : Keep := { loop := fun id => match id with | 1 => ([1, 0], []) | _ => ([], []), join := fun id => match id with | _ => none }
noncomputable def spec_l01Gcdc : Code := bodyOf Go.Proofs.Try.f72
noncomputable def spec_l01GcdF (n : Nat) : Fun := { id := 72, sp := spec_l01Gcdsp, bs := spec_l01Gcdbs, rs := spec_l01Gcdrs, f := fun x y => spec_l01Gcd n x.1 x.2.1 }

theorem spec_l01Gcd_l1_eq (n : Nat) : ∀ (k : Nat) (v1 : Int) (v0 : Int), iter (interp ([]) ty 14 0 n spec_l01Gcdkp (codeAt spec_l01Gcdc [1, 0, 0, 0])) (canon 0 (spec_l01Gcdkp.loop 1)) (kAt ([]) ty 14 0 n spec_l01Gcdkp spec_l01Gcdc [1, 0, 0] [] (ending ty 0 Go.Proofs.Try.f72.results.toList spec_l01Gcdrs spec_l01Gcdbs)) k { env := [(1, .one (.sc (.int .i64 v1))), (0, .one (.sc (.int .i64 v0)))], bx := [], nx := 0 } = spec_l01Gcd_l1 n k v1 v0
  | 0, _, _ => by kernel_rfl
  | k + 1, v1, v0 => by
    have h : iter (interp ([]) ty 14 0 n spec_l01Gcdkp (codeAt spec_l01Gcdc [1, 0, 0, 0])) (canon 0 (spec_l01Gcdkp.loop 1)) (kAt ([]) ty 14 0 n spec_l01Gcdkp spec_l01Gcdc [1, 0, 0] [] (ending ty 0 Go.Proofs.Try.f72.results.toList spec_l01Gcdrs spec_l01Gcdbs)) (k + 1) { env := [(1, .one (.sc (.int .i64 v1))), (0, .one (.sc (.int .i64 v0)))], bx := [], nx := 0 } = spec_l01Gcd_t1 n (fun v1 v0 => iter (interp ([]) ty 14 0 n spec_l01Gcdkp (codeAt spec_l01Gcdc [1, 0, 0, 0])) (canon 0 (spec_l01Gcdkp.loop 1)) (kAt ([]) ty 14 0 n spec_l01Gcdkp spec_l01Gcdc [1, 0, 0] [] (ending ty 0 Go.Proofs.Try.f72.results.toList spec_l01Gcdrs spec_l01Gcdbs)) k { env := [(1, .one (.sc (.int .i64 v1))), (0, .one (.sc (.int .i64 v0)))], bx := [], nx := 0 }) v1 v0 := by kernel_rfl
    rw [h]
    have e := congrArg (fun g => spec_l01Gcd_t1 n g v1 v0) (funext fun v1 => funext fun v0 => spec_l01Gcd_l1_eq n k v1 v0)
    exact e

theorem spec_l01Gcd_eq (n : Nat) (a0 : Int) (a1 : Int) : runBody ([]) ty 14 n spec_l01Gcdkp spec_l01Gcdc Go.Proofs.Try.f72.results.toList spec_l01Gcdrs spec_l01Gcdsp spec_l01Gcdbs (a0, (a1, ())) () = spec_l01Gcd n a0 a1 := by
  have h : runBody ([]) ty 14 n spec_l01Gcdkp spec_l01Gcdc Go.Proofs.Try.f72.results.toList spec_l01Gcdrs spec_l01Gcdsp spec_l01Gcdbs (a0, (a1, ())) () = spec_l01Gcd_t n (fun k v1 v0 => iter (interp ([]) ty 14 0 n spec_l01Gcdkp (codeAt spec_l01Gcdc [1, 0, 0, 0])) (canon 0 (spec_l01Gcdkp.loop 1)) (kAt ([]) ty 14 0 n spec_l01Gcdkp spec_l01Gcdc [1, 0, 0] [] (ending ty 0 Go.Proofs.Try.f72.results.toList spec_l01Gcdrs spec_l01Gcdbs)) k { env := [(1, .one (.sc (.int .i64 v1))), (0, .one (.sc (.int .i64 v0)))], bx := [], nx := 0 }) a0 a1 := by kernel_rfl
  rw [h]
  have e := congrArg (fun h1 => spec_l01Gcd_t n h1 a0 a1) (funext fun k => funext fun v1 => funext fun v0 => spec_l01Gcd_l1_eq n k v1 v0)
  exact e

theorem spec_l01Gcd_ok (n : Nat) : FunOk P (spec_l01GcdF n) :=
  funOk_mk (C := []) (N := 14) (kp := spec_l01Gcdkp) (c := spec_l01Gcdc) (n := n) (G := fun x y => spec_l01Gcd n x.1 x.2.1) follows (AllOk.mem (trivial : AllOk P ([]))) (by kernel_rfl : P.funcs[72]? = some Go.Proofs.Try.f72) (by kernel_rfl) (by kernel_rfl) (by kernel_rfl)
    (fun x y => spec_l01Gcd_eq n x.1 x.2.1) (fun _ _ => map_same (fun _ => rfl) _) (fun _ _ _ _ => rfl)

abbrev spec_l01Oksp : List Sp := [.v true (.pair (.int .i64) (.int .i64))]
abbrev spec_l01Okbs : List (Bs × Bool) := []
abbrev spec_l01Okrs : List (Bool × List Rp) := [(false, [.v false .bool])]
noncomputable def spec_l01Okkp : Keep := { loop := fun id => match id with | _ => ([], []), join := fun id => match id with | _ => none }
noncomputable def spec_l01Okc : Code := bodyOf Go.Proofs.Try.f48
noncomputable def spec_l01OkF (n : Nat) : Fun := { id := 48, sp := spec_l01Oksp, bs := spec_l01Okbs, rs := spec_l01Okrs, f := fun x y => spec_l01Ok n x.1 }

theorem spec_l01Ok_eq (n : Nat) (a0 : (Int) × (Int)) : runBody ([spec_l00InF n, spec_l01AbsF n, spec_l01GcdF n]) ty 20 n spec_l01Okkp spec_l01Okc Go.Proofs.Try.f48.results.toList spec_l01Okrs spec_l01Oksp spec_l01Okbs (a0, ()) () = spec_l01Ok n a0 := by
  have h : runBody ([spec_l00InF n, spec_l01AbsF n, spec_l01GcdF n]) ty 20 n spec_l01Okkp spec_l01Okc Go.Proofs.Try.f48.results.toList spec_l01Okrs spec_l01Oksp spec_l01Okbs (a0, ()) () = spec_l01Ok_t n a0 := by kernel_rfl
  rw [h]
  rfl

theorem spec_l01Ok_ok (n : Nat) : FunOk P (spec_l01OkF n) :=
  funOk_mk (C := [spec_l00InF n, spec_l01AbsF n, spec_l01GcdF n]) (N := 20) (kp := spec_l01Okkp) (c := spec_l01Okc) (n := n) (G := fun x y => spec_l01Ok n x.1) follows (AllOk.mem (⟨spec_l00In_ok n, ⟨spec_l01Abs_ok n, ⟨spec_l01Gcd_ok n, trivial⟩⟩⟩ : AllOk P ([spec_l00InF n, spec_l01AbsF n, spec_l01GcdF n]))) (by kernel_rfl : P.funcs[48]? = some Go.Proofs.Try.f48) (by kernel_rfl) (by kernel_rfl) (by kernel_rfl)
    (fun x y => spec_l01Ok_eq n x.1) (fun _ _ => map_same (fun _ => rfl) _) (fun _ _ _ _ => rfl)

abbrev spec_l04Obs_esp : List Sp := [.er (.pair (.pair (.int .i8) (.pair (.int .i8) (.pair (.int .i8) (.pair (.int .i8) (.pair (.int .i8) (.int .i8)))))) (.pair (.pair (.int .i64) (.int .i64)) (.int .i64))), .v false (.int .i64)]
abbrev spec_l04Obs_ebs : List (Bs × Bool) := []
abbrev spec_l04Obs_ers : List (Bool × List Rp) := [(false, [.v false .bool])]
noncomputable def spec_l04Obs_ekp : Keep := { loop := fun id => match id with | 3 => ([6, 5, 1, 0], []) | _ => ([], []), join := fun id => match id with | _ => none }
noncomputable def spec_l04Obs_ec : Code := bodyOf Go.Proofs.Try.f49
noncomputable def spec_l04Obs_eF (n : Nat) : Fun := { id := 49, sp := spec_l04Obs_esp, bs := spec_l04Obs_ebs, rs := spec_l04Obs_ers, f := fun x y => spec_l04Obs_e n x.1 x.2.1 }

theorem spec_l04Obs_e_l3_eq (n : Nat) : ∀ (k : Nat) (v6 : Int) (v5 : Bool) (v1 : Int) (v0 : ((Int) × ((Int) × ((Int) × ((Int) × ((Int) × (Int)))))) × (((Int) × (Int)) × (Int))), iter (interp ([spec_l01OkF n, spec_l00InF n]) ty 53 0 n spec_l04Obs_ekp (codeAt spec_l04Obs_ec [1, 1, 0, 1, 0, 0])) (canon 0 (spec_l04Obs_ekp.loop 3)) (kAt ([spec_l01OkF n, spec_l00InF n]) ty 53 0 n spec_l04Obs_ekp spec_l04Obs_ec [1, 1, 0, 1, 0] [] (ending ty 0 Go.Proofs.Try.f49.results.toList spec_l04Obs_ers spec_l04Obs_ebs)) k { env := [(6, .one (.sc (.int .i64 v6))), (5, .one (.sc (.bool v5))), (1, .one (.sc (.int .i64 v1))), (0, .one (.eref true (.pair (.pair (.int .i8) (.pair (.int .i8) (.pair (.int .i8) (.pair (.int .i8) (.pair (.int .i8) (.int .i8)))))) (.pair (.pair (.int .i64) (.int .i64)) (.int .i64))) [v0] 0 0 0 0))], bx := [], nx := 0 } = spec_l04Obs_e_l3 n k v6 v5 v1 v0
  | 0, _, _, _, _ => by kernel_rfl
  | k + 1, v6, v5, v1, v0 => by
    have h : iter (interp ([spec_l01OkF n, spec_l00InF n]) ty 53 0 n spec_l04Obs_ekp (codeAt spec_l04Obs_ec [1, 1, 0, 1, 0, 0])) (canon 0 (spec_l04Obs_ekp.loop 3)) (kAt ([spec_l01OkF n, spec_l00InF n]) ty 53 0 n spec_l04Obs_ekp spec_l04Obs_ec [1, 1, 0, 1, 0] [] (ending ty 0 Go.Proofs.Try.f49.results.toList spec_l04Obs_ers spec_l04Obs_ebs)) (k + 1) { env := [(6, .one (.sc (.int .i64 v6))), (5, .one (.sc (.bool v5))), (1, .one (.sc (.int .i64 v1))), (0, .one (.eref true (.pair (.pair (.int .i8) (.pair (.int .i8) (.pair (.int .i8) (.pair (.int .i8) (.pair (.int .i8) (.int .i8)))))) (.pair (.pair (.int .i64) (.int .i64)) (.int .i64))) [v0] 0 0 0 0))], bx := [], nx := 0 } = spec_l04Obs_e_t3 n (fun v6 v5 v1 v0 => iter (interp ([spec_l01OkF n, spec_l00InF n]) ty 53 0 n spec_l04Obs_ekp (codeAt spec_l04Obs_ec [1, 1, 0, 1, 0, 0])) (canon 0 (spec_l04Obs_ekp.loop 3)) (kAt ([spec_l01OkF n, spec_l00InF n]) ty 53 0 n spec_l04Obs_ekp spec_l04Obs_ec [1, 1, 0, 1, 0] [] (ending ty 0 Go.Proofs.Try.f49.results.toList spec_l04Obs_ers spec_l04Obs_ebs)) k { env := [(6, .one (.sc (.int .i64 v6))), (5, .one (.sc (.bool v5))), (1, .one (.sc (.int .i64 v1))), (0, .one (.eref true (.pair (.pair (.int .i8) (.pair (.int .i8) (.pair (.int .i8) (.pair (.int .i8) (.pair (.int .i8) (.int .i8)))))) (.pair (.pair (.int .i64) (.int .i64)) (.int .i64))) [v0] 0 0 0 0))], bx := [], nx := 0 }) v6 v5 v1 v0 := by kernel_rfl
    rw [h]
    have e := congrArg (fun g => spec_l04Obs_e_t3 n g v6 v5 v1 v0) (funext fun v6 => funext fun v5 => funext fun v1 => funext fun v0 => spec_l04Obs_e_l3_eq n k v6 v5 v1 v0)
    exact e

theorem spec_l04Obs_e_eq (n : Nat) (a0 : ((Int) × ((Int) × ((Int) × ((Int) × ((Int) × (Int)))))) × (((Int) × (Int)) × (Int))) (a1 : Int) : runBody ([spec_l01OkF n, spec_l00InF n]) ty 53 n spec_l04Obs_ekp spec_l04Obs_ec Go.Proofs.Try.f49.results.toList spec_l04Obs_ers spec_l04Obs_esp spec_l04Obs_ebs (a0, (a1, ())) () = spec_l04Obs_e n a0 a1 := by
  have h : runBody ([spec_l01OkF n, spec_l00InF n]) ty 53 n spec_l04Obs_ekp spec_l04Obs_ec Go.Proofs.Try.f49.results.toList spec_l04Obs_ers spec_l04Obs_esp spec_l04Obs_ebs (a0, (a1, ())) () = spec_l04Obs_e_t n (fun k v6 v5 v1 v0 => iter (interp ([spec_l01OkF n, spec_l00InF n]) ty 53 0 n spec_l04Obs_ekp (codeAt spec_l04Obs_ec [1, 1, 0, 1, 0, 0])) (canon 0 (spec_l04Obs_ekp.loop 3)) (kAt ([spec_l01OkF n, spec_l00InF n]) ty 53 0 n spec_l04Obs_ekp spec_l04Obs_ec [1, 1, 0, 1, 0] [] (ending ty 0 Go.Proofs.Try.f49.results.toList spec_l04Obs_ers spec_l04Obs_ebs)) k { env := [(6, .one (.sc (.int .i64 v6))), (5, .one (.sc (.bool v5))), (1, .one (.sc (.int .i64 v1))), (0, .one (.eref true (.pair (.pair (.int .i8) (.pair (.int .i8) (.pair (.int .i8) (.pair (.int .i8) (.pair (.int .i8) (.int .i8)))))) (.pair (.pair (.int .i64) (.int .i64)) (.int .i64))) [v0] 0 0 0 0))], bx := [], nx := 0 }) a0 a1 := by kernel_rfl
  rw [h]
  have e := congrArg (fun h3 => spec_l04Obs_e_t n h3 a0 a1) (funext fun k => funext fun v6 => funext fun v5 => funext fun v1 => funext fun v0 => spec_l04Obs_e_l3_eq n k v6 v5 v1 v0)
  exact e

theorem spec_l04Obs_e_ok (n : Nat) : FunOk P (spec_l04Obs_eF n) :=
  funOk_mk (C := [spec_l01OkF n, spec_l00InF n]) (N := 53) (kp := spec_l04Obs_ekp) (c := spec_l04Obs_ec) (n := n) (G := fun x y => spec_l04Obs_e n x.1 x.2.1) follows (AllOk.mem (⟨spec_l01Ok_ok n, ⟨spec_l00In_ok n, trivial⟩⟩ : AllOk P ([spec_l01OkF n, spec_l00InF n]))) (by kernel_rfl : P.funcs[49]? = some Go.Proofs.Try.f49) (by kernel_rfl) (by kernel_rfl) (by kernel_rfl)
    (fun x y => spec_l04Obs_e_eq n x.1 x.2.1) (fun _ _ => map_same (fun _ => rfl) _) (fun _ _ _ _ => rfl)

abbrev spec_l04Oksp : List Sp := [.ref 0]
abbrev spec_l04Okbs : List (Bs × Bool) := [(.var 31 (.pair (.int .i64) (.pair (.list (.pair (.pair (.int .i8) (.pair (.int .i8) (.pair (.int .i8) (.pair (.int .i8) (.pair (.int .i8) (.int .i8)))))) (.pair (.pair (.int .i64) (.int .i64)) (.int .i64)))) (.pair .bool (.pair (.int .i64) (.int .i64))))), true)]
abbrev spec_l04Okrs : List (Bool × List Rp) := [(false, [.v false .bool])]
noncomputable def spec_l04Okkp : Keep := { loop := fun id => match id with | 4 => ([3, 0], []) | _ => ([], []), join := fun id => match id with | _ => none }
noncomputable def spec_l04Okc : Code := bodyOf Go.Proofs.Try.f19
noncomputable def spec_l04OkF (n : Nat) : Fun := { id := 19, sp := spec_l04Oksp, bs := spec_l04Okbs, rs := spec_l04Okrs, f := fun x y => spec_l04Ok n y.1 }

theorem spec_l04Ok_l4_eq (n : Nat) : ∀ (k : Nat) (v3 : Int) (b0_0 : Int) (b0_1 : List (((Int) × ((Int) × ((Int) × ((Int) × ((Int) × (Int)))))) × (((Int) × (Int)) × (Int)))) (b0_2 : Bool) (b0_3 : Int) (b0_4 : Int), iter (interp ([spec_l00InF n, spec_l01OkF n, spec_l04Obs_eF n]) ty 62 1 n spec_l04Okkp (codeAt spec_l04Okc [1, 1, 0, 1, 0, 0])) (canon 1 (spec_l04Okkp.loop 4)) (kAt ([spec_l00InF n, spec_l01OkF n, spec_l04Obs_eF n]) ty 62 1 n spec_l04Okkp spec_l04Okc [1, 1, 0, 1, 0] [] (ending ty 1 Go.Proofs.Try.f19.results.toList spec_l04Okrs spec_l04Okbs)) k { env := [(3, .one (.sc (.int .i64 v3))), (0, .one (.ref 0 0 0 0 0 0))], bx := [(0, .var 31 [.sc (.int .i64 b0_0), .list true (.pair (.pair (.int .i8) (.pair (.int .i8) (.pair (.int .i8) (.pair (.int .i8) (.pair (.int .i8) (.int .i8)))))) (.pair (.pair (.int .i64) (.int .i64)) (.int .i64))) b0_1, .sc (.bool b0_2), .sc (.int .i64 b0_3), .sc (.int .i64 b0_4)])], nx := 1 } = spec_l04Ok_l4 n k v3 b0_0 b0_1 b0_2 b0_3 b0_4
  | 0, _, _, _, _, _, _ => by kernel_rfl
  | k + 1, v3, b0_0, b0_1, b0_2, b0_3, b0_4 => by
    have h : iter (interp ([spec_l00InF n, spec_l01OkF n, spec_l04Obs_eF n]) ty 62 1 n spec_l04Okkp (codeAt spec_l04Okc [1, 1, 0, 1, 0, 0])) (canon 1 (spec_l04Okkp.loop 4)) (kAt ([spec_l00InF n, spec_l01OkF n, spec_l04Obs_eF n]) ty 62 1 n spec_l04Okkp spec_l04Okc [1, 1, 0, 1, 0] [] (ending ty 1 Go.Proofs.Try.f19.results.toList spec_l04Okrs spec_l04Okbs)) (k + 1) { env := [(3, .one (.sc (.int .i64 v3))), (0, .one (.ref 0 0 0 0 0 0))], bx := [(0, .var 31 [.sc (.int .i64 b0_0), .list true (.pair (.pair (.int .i8) (.pair (.int .i8) (.pair (.int .i8) (.pair (.int .i8) (.pair (.int .i8) (.int .i8)))))) (.pair (.pair (.int .i64) (.int .i64)) (.int .i64))) b0_1, .sc (.bool b0_2), .sc (.int .i64 b0_3), .sc (.int .i64 b0_4)])], nx := 1 } = spec_l04Ok_t4 n (fun v3 b0_0 b0_1 b0_2 b0_3 b0_4 => iter (interp ([spec_l00InF n, spec_l01OkF n, spec_l04Obs_eF n]) ty 62 1 n spec_l04Okkp (codeAt spec_l04Okc [1, 1, 0, 1, 0, 0])) (canon 1 (spec_l04Okkp.loop 4)) (kAt ([spec_l00InF n, spec_l01OkF n, spec_l04Obs_eF n]) ty 62 1 n spec_l04Okkp spec_l04Okc [1, 1, 0, 1, 0] [] (ending ty 1 Go.Proofs.Try.f19.results.toList spec_l04Okrs spec_l04Okbs)) k { env := [(3, .one (.sc (.int .i64 v3))), (0, .one (.ref 0 0 0 0 0 0))], bx := [(0, .var 31 [.sc (.int .i64 b0_0), .list true (.pair (.pair (.int .i8) (.pair (.int .i8) (.pair (.int .i8) (.pair (.int .i8) (.pair (.int .i8) (.int .i8)))))) (.pair (.pair (.int .i64) (.int .i64)) (.int .i64))) b0_1, .sc (.bool b0_2), .sc (.int .i64 b0_3), .sc (.int .i64 b0_4)])], nx := 1 }) v3 b0_0 b0_1 b0_2 b0_3 b0_4 := by kernel_rfl
    rw [h]
    have e := congrArg (fun g => spec_l04Ok_t4 n g v3 b0_0 b0_1 b0_2 b0_3 b0_4) (funext fun v3 => funext fun b0_0 => funext fun b0_1 => funext fun b0_2 => funext fun b0_3 => funext fun b0_4 => spec_l04Ok_l4_eq n k v3 b0_0 b0_1 b0_2 b0_3 b0_4)
    exact e

theorem spec_l04Ok_eq (n : Nat) (b0 : (Int) × ((List (((Int) × ((Int) × ((Int) × ((Int) × ((Int) × (Int)))))) × (((Int) × (Int)) × (Int)))) × ((Bool) × ((Int) × (Int))))) : runBody ([spec_l00InF n, spec_l01OkF n, spec_l04Obs_eF n]) ty 62 n spec_l04Okkp spec_l04Okc Go.Proofs.Try.f19.results.toList spec_l04Okrs spec_l04Oksp spec_l04Okbs ((), ()) (b0, ()) = spec_l04Ok n b0 := by
  have h : runBody ([spec_l00InF n, spec_l01OkF n, spec_l04Obs_eF n]) ty 62 n spec_l04Okkp spec_l04Okc Go.Proofs.Try.f19.results.toList spec_l04Okrs spec_l04Oksp spec_l04Okbs ((), ()) (b0, ()) = spec_l04Ok_t n (fun k v3 b0_0 b0_1 b0_2 b0_3 b0_4 => iter (interp ([spec_l00InF n, spec_l01OkF n, spec_l04Obs_eF n]) ty 62 1 n spec_l04Okkp (codeAt spec_l04Okc [1, 1, 0, 1, 0, 0])) (canon 1 (spec_l04Okkp.loop 4)) (kAt ([spec_l00InF n, spec_l01OkF n, spec_l04Obs_eF n]) ty 62 1 n spec_l04Okkp spec_l04Okc [1, 1, 0, 1, 0] [] (ending ty 1 Go.Proofs.Try.f19.results.toList spec_l04Okrs spec_l04Okbs)) k { env := [(3, .one (.sc (.int .i64 v3))), (0, .one (.ref 0 0 0 0 0 0))], bx := [(0, .var 31 [.sc (.int .i64 b0_0), .list true (.pair (.pair (.int .i8) (.pair (.int .i8) (.pair (.int .i8) (.pair (.int .i8) (.pair (.int .i8) (.int .i8)))))) (.pair (.pair (.int .i64) (.int .i64)) (.int .i64))) b0_1, .sc (.bool b0_2), .sc (.int .i64 b0_3), .sc (.int .i64 b0_4)])], nx := 1 }) b0 := by kernel_rfl
  rw [h]
  have e := congrArg (fun h4 => spec_l04Ok_t n h4 b0) (funext fun k => funext fun v3 => funext fun b0_0 => funext fun b0_1 => funext fun b0_2 => funext fun b0_3 => funext fun b0_4 => spec_l04Ok_l4_eq n k v3 b0_0 b0_1 b0_2 b0_3 b0_4)
  exact e

theorem spec_l04Ok_ok (n : Nat) : FunOk P (spec_l04OkF n) :=
  funOk_mk (C := [spec_l00InF n, spec_l01OkF n, spec_l04Obs_eF n]) (N := 62) (kp := spec_l04Okkp) (c := spec_l04Okc) (n := n) (G := fun x y => spec_l04Ok n y.1) follows (AllOk.mem (⟨spec_l00In_ok n, ⟨spec_l01Ok_ok n, ⟨spec_l04Obs_e_ok n, trivial⟩⟩⟩ : AllOk P ([spec_l00InF n, spec_l01OkF n, spec_l04Obs_eF n]))) (by kernel_rfl : P.funcs[19]? = some Go.Proofs.Try.f19) (by kernel_rfl) (by kernel_rfl) (by kernel_rfl)
    (fun x y => spec_l04Ok_eq n y.1) (fun _ _ => map_same (fun _ => rfl) _) (fun _ _ _ _ => rfl)

abbrev spec_WithoutObssp : List Sp := [.v true (.pair (.int .i64) (.pair (.list (.pair (.pair (.int .i8) (.pair (.int .i8) (.pair (.int .i8) (.pair (.int .i8) (.pair (.int .i8) (.int .i8)))))) (.pair (.pair (.int .i64) (.int .i64)) (.int .i64)))) (.pair .bool (.pair (.int .i64) (.int .i64))))), .v false (.int .i64)]
abbrev spec_WithoutObsbs : List (Bs × Bool) := []
abbrev spec_WithoutObsrs : List (Bool × List Rp) := [(true, [.v false (.pair (.int .i64) (.pair (.list (.pair (.pair (.int .i8) (.pair (.int .i8) (.pair (.int .i8) (.pair (.int .i8) (.pair (.int .i8) (.int .i8)))))) (.pair (.pair (.int .i64) (.int .i64)) (.int .i64)))) (.pair .bool (.pair (.int .i64) (.int .i64)))))]), (false, [.v false (.int .i64)])]
noncomputable def spec_WithoutObskp : Keep := { loop := fun id => match id with | _ => ([], []), join := fun id => match id with | _ => none }
noncomputable def spec_WithoutObsc : Code := bodyOf Go.Proofs.Try.f6
noncomputable def spec_WithoutObsF (n : Nat) : Fun := { id := 6, sp := spec_WithoutObssp, bs := spec_WithoutObsbs, rs := spec_WithoutObsrs, f := fun x y => spec_WithoutObs n x.1 x.2.1 }

theorem spec_WithoutObs_eq (n : Nat) (a0 : (Int) × ((List (((Int) × ((Int) × ((Int) × ((Int) × ((Int) × (Int)))))) × (((Int) × (Int)) × (Int)))) × ((Bool) × ((Int) × (Int))))) (a1 : Int) : runBody ([spec_l04OkF n, spec_l00InF n]) ty 31 n spec_WithoutObskp spec_WithoutObsc Go.Proofs.Try.f6.results.toList spec_WithoutObsrs spec_WithoutObssp spec_WithoutObsbs (a0, (a1, ())) () = spec_WithoutObs n a0 a1 := by
  have h : runBody ([spec_l04OkF n, spec_l00InF n]) ty 31 n spec_WithoutObskp spec_WithoutObsc Go.Proofs.Try.f6.results.toList spec_WithoutObsrs spec_WithoutObssp spec_WithoutObsbs (a0, (a1, ())) () = spec_WithoutObs_t n a0 a1 := by kernel_rfl
  rw [h]
  rfl

theorem spec_WithoutObs_ok (n : Nat) : FunOk P (spec_WithoutObsF n) :=
  funOk_mk (C := [spec_l04OkF n, spec_l00InF n]) (N := 31) (kp := spec_WithoutObskp) (c := spec_WithoutObsc) (n := n) (G := fun x y => spec_WithoutObs n x.1 x.2.1) follows (AllOk.mem (⟨spec_l04Ok_ok n, ⟨spec_l00In_ok n, trivial⟩⟩ : AllOk P ([spec_l04OkF n, spec_l00InF n]))) (by kernel_rfl : P.funcs[6]? = some Go.Proofs.Try.f6) (by kernel_rfl) (by kernel_rfl) (by kernel_rfl)
    (fun x y => spec_WithoutObs_eq n x.1 x.2.1) (fun _ _ => map_same (fun _ => rfl) _) (fun _ _ _ _ => rfl)

abbrev laws_FnExactWithoutObssp : List Sp := [.v true (.pair (.int .i64) (.pair (.list (.pair (.pair (.int .i8) (.pair (.int .i8) (.pair (.int .i8) (.pair (.int .i8) (.pair (.int .i8) (.int .i8)))))) (.pair (.pair (.int .i64) (.int .i64)) (.int .i64)))) (.pair .bool (.pair (.int .i64) (.int .i64))))), .v false (.int .i64)]
abbrev laws_FnExactWithoutObsbs : List (Bs × Bool) := []
abbrev laws_FnExactWithoutObsrs : List (Bool × List Rp) := [(false, [.v false .bool])]
noncomputable def laws_FnExactWithoutObskp : Keep := { loop := fun id => match id with | _ => ([], []), join := fun id => match id with | _ => none }
noncomputable def laws_FnExactWithoutObsc : Code := bodyOf Go.Proofs.Try.f3
noncomputable def laws_FnExactWithoutObsF (n : Nat) : Fun := { id := 3, sp := laws_FnExactWithoutObssp, bs := laws_FnExactWithoutObsbs, rs := laws_FnExactWithoutObsrs, f := fun x y => laws_FnExactWithoutObs n x.1 x.2.1 }

theorem laws_FnExactWithoutObs_eq (n : Nat) (a0 : (Int) × ((List (((Int) × ((Int) × ((Int) × ((Int) × ((Int) × (Int)))))) × (((Int) × (Int)) × (Int)))) × ((Bool) × ((Int) × (Int))))) (a1 : Int) : runBody ([laws_szTableF n, laws_toTableF n, spec_WithoutObsF n, impl_WithoutObsF n, laws_eqTableF n, laws_markTableF n, laws_heldTableF n]) ty 101 n laws_FnExactWithoutObskp laws_FnExactWithoutObsc Go.Proofs.Try.f3.results.toList laws_FnExactWithoutObsrs laws_FnExactWithoutObssp laws_FnExactWithoutObsbs (a0, (a1, ())) () = laws_FnExactWithoutObs n a0 a1 := by
  have h : runBody ([laws_szTableF n, laws_toTableF n, spec_WithoutObsF n, impl_WithoutObsF n, laws_eqTableF n, laws_markTableF n, laws_heldTableF n]) ty 101 n laws_FnExactWithoutObskp laws_FnExactWithoutObsc Go.Proofs.Try.f3.results.toList laws_FnExactWithoutObsrs laws_FnExactWithoutObssp laws_FnExactWithoutObsbs (a0, (a1, ())) () = laws_FnExactWithoutObs_t n a0 a1 := by kernel_rfl
  rw [h]
  rfl

theorem laws_FnExactWithoutObs_ok (n : Nat) : FunOk P (laws_FnExactWithoutObsF n) :=
  funOk_mk (C := [laws_szTableF n, laws_toTableF n, spec_WithoutObsF n, impl_WithoutObsF n, laws_eqTableF n, laws_markTableF n, laws_heldTableF n]) (N := 101) (kp := laws_FnExactWithoutObskp) (c := laws_FnExactWithoutObsc) (n := n) (G := fun x y => laws_FnExactWithoutObs n x.1 x.2.1) follows (AllOk.mem (⟨laws_szTable_ok n, ⟨laws_toTable_ok n, ⟨spec_WithoutObs_ok n, ⟨impl_WithoutObs_ok n, ⟨laws_eqTable_ok n, ⟨laws_markTable_ok n, ⟨laws_heldTable_ok n, trivial⟩⟩⟩⟩⟩⟩⟩ : AllOk P ([laws_szTableF n, laws_toTableF n, spec_WithoutObsF n, impl_WithoutObsF n, laws_eqTableF n, laws_markTableF n, laws_heldTableF n]))) (by kernel_rfl : P.funcs[3]? = some Go.Proofs.Try.f3) (by kernel_rfl) (by kernel_rfl) (by kernel_rfl)
    (fun x y => laws_FnExactWithoutObs_eq n x.1 x.2.1) (fun _ _ => map_same (fun _ => rfl) _) (fun _ _ _ _ => rfl)

end Go.Abs
