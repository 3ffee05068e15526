import Derived.Test.YtpegljncdjkhgaaDDifferenceOn0
import Derived.Test.YtpegljncdjkhgaaProg
import Derived.Test.YtpegljncdjkhgaaRow
import Derived.KernelRfl
namespace Go.Abs
open Go.Proofs
set_option maxRecDepth 100000
set_option linter.unusedVariables false

noncomputable abbrev P : Program := Try.prog
noncomputable abbrev ty : Nat → Option TyI := tyOf P
def bodyOf (f : Func) : Code := match f.body with | some c => c | none => .skip
theorem follows : P.follows .mixedOrders = true := by kernel_rfl

abbrev impl_gcdsp : List Sp := [.v false (.int .i64), .v false (.int .i64)]
abbrev impl_gcdbs : List (Bs × Bool) := []
abbrev impl_gcdrs : List (Bool × List Rp) := [(false, [.v false (.int .i64)])]
noncomputable def impl_gcdkp : Keep := { loop := fun id => match id with | 1 => ([1, 0], []) | _ => ([], []), join := fun id => match id with | _ => none }
noncomputable def impl_gcdc : Code := bodyOf Go.Proofs.Try.f74
noncomputable def impl_gcdF (n : Nat) : Fun := { id := 74, sp := impl_gcdsp, bs := impl_gcdbs, rs := impl_gcdrs, f := fun x y => impl_gcd n x.1 x.2.1 }

theorem impl_gcd_l1_eq (n : Nat) : ∀ (k : Nat) (v1 : Int) (v0 : Int), iter (interp ([]) ty 15 0 n impl_gcdkp (codeAt impl_gcdc [1, 0, 0, 0])) (canon 0 (impl_gcdkp.loop 1)) (kAt ([]) ty 15 0 n impl_gcdkp impl_gcdc [1, 0, 0] [] (ending ty 0 Go.Proofs.Try.f74.results.toList impl_gcdrs impl_gcdbs)) k { env := [(1, .one (.sc (.int .i64 v1))), (0, .one (.sc (.int .i64 v0)))], bx := [], nx := 0 } = impl_gcd_l1 n k v1 v0
  | 0, _, _ => by kernel_rfl
  | k + 1, v1, v0 => by
    have h : iter (interp ([]) ty 15 0 n impl_gcdkp (codeAt impl_gcdc [1, 0, 0, 0])) (canon 0 (impl_gcdkp.loop 1)) (kAt ([]) ty 15 0 n impl_gcdkp impl_gcdc [1, 0, 0] [] (ending ty 0 Go.Proofs.Try.f74.results.toList impl_gcdrs impl_gcdbs)) (k + 1) { env := [(1, .one (.sc (.int .i64 v1))), (0, .one (.sc (.int .i64 v0)))], bx := [], nx := 0 } = impl_gcd_t1 n (fun v1 v0 => iter (interp ([]) ty 15 0 n impl_gcdkp (codeAt impl_gcdc [1, 0, 0, 0])) (canon 0 (impl_gcdkp.loop 1)) (kAt ([]) ty 15 0 n impl_gcdkp impl_gcdc [1, 0, 0] [] (ending ty 0 Go.Proofs.Try.f74.results.toList impl_gcdrs impl_gcdbs)) k { env := [(1, .one (.sc (.int .i64 v1))), (0, .one (.sc (.int .i64 v0)))], bx := [], nx := 0 }) v1 v0 := by kernel_rfl
    rw [h]
    have e := congrArg (fun g => impl_gcd_t1 n g v1 v0) (funext fun v1 => funext fun v0 => impl_gcd_l1_eq n k v1 v0)
    exact e

theorem impl_gcd_eq (n : Nat) (a0 : Int) (a1 : Int) : runBody ([]) ty 15 n impl_gcdkp impl_gcdc Go.Proofs.Try.f74.results.toList impl_gcdrs impl_gcdsp impl_gcdbs (a0, (a1, ())) () = impl_gcd n a0 a1 := by
  have h : runBody ([]) ty 15 n impl_gcdkp impl_gcdc Go.Proofs.Try.f74.results.toList impl_gcdrs impl_gcdsp impl_gcdbs (a0, (a1, ())) () = impl_gcd_t n (fun k v1 v0 => iter (interp ([]) ty 15 0 n impl_gcdkp (codeAt impl_gcdc [1, 0, 0, 0])) (canon 0 (impl_gcdkp.loop 1)) (kAt ([]) ty 15 0 n impl_gcdkp impl_gcdc [1, 0, 0] [] (ending ty 0 Go.Proofs.Try.f74.results.toList impl_gcdrs impl_gcdbs)) k { env := [(1, .one (.sc (.int .i64 v1))), (0, .one (.sc (.int .i64 v0)))], bx := [], nx := 0 }) a0 a1 := by kernel_rfl
  rw [h]
  have e := congrArg (fun h1 => impl_gcd_t n h1 a0 a1) (funext fun k => funext fun v1 => funext fun v0 => impl_gcd_l1_eq n k v1 v0)
  exact e

theorem impl_gcd_ok (n : Nat) : FunOk P (impl_gcdF n) :=
  funOk_mk (C := []) (N := 15) (kp := impl_gcdkp) (c := impl_gcdc) (n := n) (G := fun x y => impl_gcd n x.1 x.2.1) follows (AllOk.mem (trivial : AllOk P ([]))) (by kernel_rfl : P.funcs[74]? = some Go.Proofs.Try.f74) (by kernel_rfl) (by kernel_rfl) (by kernel_rfl)
    (fun x y => impl_gcd_eq n x.1 x.2.1) (fun _ _ => map_same (fun _ => rfl) _) (fun _ _ _ _ => rfl)

abbrev impl_withinsp : List Sp := [.v false (.int .i64), .v false (.int .i64), .v false (.int .i64)]
abbrev impl_withinbs : List (Bs × Bool) := []
abbrev impl_withinrs : List (Bool × List Rp) := [(false, [.v false .bool])]
noncomputable def impl_withinkp : Keep := { loop := fun id => match id with | _ => ([], []), join := fun id => match id with | _ => none }
noncomputable def impl_withinc : Code := bodyOf Go.Proofs.Try.f24
noncomputable def impl_withinF (n : Nat) : Fun := { id := 24, sp := impl_withinsp, bs := impl_withinbs, rs := impl_withinrs, f := fun x y => impl_within n x.1 x.2.1 x.2.2.1 }

theorem impl_within_eq (n : Nat) (a0 : Int) (a1 : Int) (a2 : Int) : runBody ([]) ty 15 n impl_withinkp impl_withinc Go.Proofs.Try.f24.results.toList impl_withinrs impl_withinsp impl_withinbs (a0, (a1, (a2, ()))) () = impl_within n a0 a1 a2 := by
  have h : runBody ([]) ty 15 n impl_withinkp impl_withinc Go.Proofs.Try.f24.results.toList impl_withinrs impl_withinsp impl_withinbs (a0, (a1, (a2, ()))) () = impl_within_t n a0 a1 a2 := by kernel_rfl
  rw [h]
  rfl

theorem impl_within_ok (n : Nat) : FunOk P (impl_withinF n) :=
  funOk_mk (C := []) (N := 15) (kp := impl_withinkp) (c := impl_withinc) (n := n) (G := fun x y => impl_within n x.1 x.2.1 x.2.2.1) follows (AllOk.mem (trivial : AllOk P ([]))) (by kernel_rfl : P.funcs[24]? = some Go.Proofs.Try.f24) (by kernel_rfl) (by kernel_rfl) (by kernel_rfl)
    (fun x y => impl_within_eq n x.1 x.2.1 x.2.2.1) (fun _ _ => map_same (fun _ => rfl) _) (fun _ _ _ _ => rfl)

abbrev impl_ValidFracsp : List Sp := [.v true (.pair (.int .i64) (.int .i64))]
abbrev impl_ValidFracbs : List (Bs × Bool) := []
abbrev impl_ValidFracrs : List (Bool × List Rp) := [(false, [.v false .bool])]
noncomputable def impl_ValidFrackp : Keep := { loop := fun id => match id with | _ => ([], []), join := fun id => match id with | _ => none }
noncomputable def impl_ValidFracc : Code := bodyOf Go.Proofs.Try.f51
noncomputable def impl_ValidFracF (n : Nat) : Fun := { id := 51, sp := impl_ValidFracsp, bs := impl_ValidFracbs, rs := impl_ValidFracrs, f := fun x y => impl_ValidFrac n x.1 }

theorem impl_ValidFrac_eq (n : Nat) (a0 : (Int) × (Int)) : runBody ([impl_withinF n, impl_gcdF n]) ty 19 n impl_ValidFrackp impl_ValidFracc Go.Proofs.Try.f51.results.toList impl_ValidFracrs impl_ValidFracsp impl_ValidFracbs (a0, ()) () = impl_ValidFrac n a0 := by
  have h : runBody ([impl_withinF n, impl_gcdF n]) ty 19 n impl_ValidFrackp impl_ValidFracc Go.Proofs.Try.f51.results.toList impl_ValidFracrs impl_ValidFracsp impl_ValidFracbs (a0, ()) () = impl_ValidFrac_t n a0 := by kernel_rfl
  rw [h]
  rfl

theorem impl_ValidFrac_ok (n : Nat) : FunOk P (impl_ValidFracF n) :=
  funOk_mk (C := [impl_withinF n, impl_gcdF n]) (N := 19) (kp := impl_ValidFrackp) (c := impl_ValidFracc) (n := n) (G := fun x y => impl_ValidFrac n x.1) follows (AllOk.mem (⟨impl_within_ok n, ⟨impl_gcd_ok n, trivial⟩⟩ : AllOk P ([impl_withinF n, impl_gcdF n]))) (by kernel_rfl : P.funcs[51]? = some Go.Proofs.Try.f51) (by kernel_rfl) (by kernel_rfl) (by kernel_rfl)
    (fun x y => impl_ValidFrac_eq n x.1) (fun _ _ => map_same (fun _ => rfl) _) (fun _ _ _ _ => rfl)

abbrev impl_fracOfsp : List Sp := [.v false (.int .i64), .v false (.int .i64)]
abbrev impl_fracOfbs : List (Bs × Bool) := []
abbrev impl_fracOfrs : List (Bool × List Rp) := [(true, [.v false (.pair (.int .i64) (.int .i64))]), (false, [.v false .bool])]
noncomputable def impl_fracOfkp : Keep := { loop := fun id => match id with | _ => ([], []), join := fun id => match id with | _ => none }
noncomputable def impl_fracOfc : Code := bodyOf Go.Proofs.Try.f89
noncomputable def impl_fracOfF (n : Nat) : Fun := { id := 89, sp := impl_fracOfsp, bs := impl_fracOfbs, rs := impl_fracOfrs, f := fun x y => impl_fracOf n x.1 x.2.1 }

theorem impl_fracOf_eq (n : Nat) (a0 : Int) (a1 : Int) : runBody ([impl_gcdF n, impl_ValidFracF n]) ty 29 n impl_fracOfkp impl_fracOfc Go.Proofs.Try.f89.results.toList impl_fracOfrs impl_fracOfsp impl_fracOfbs (a0, (a1, ())) () = impl_fracOf n a0 a1 := by
  have h : runBody ([impl_gcdF n, impl_ValidFracF n]) ty 29 n impl_fracOfkp impl_fracOfc Go.Proofs.Try.f89.results.toList impl_fracOfrs impl_fracOfsp impl_fracOfbs (a0, (a1, ())) () = impl_fracOf_t n a0 a1 := by kernel_rfl
  rw [h]
  rfl

theorem impl_fracOf_ok (n : Nat) : FunOk P (impl_fracOfF n) :=
  funOk_mk (C := [impl_gcdF n, impl_ValidFracF n]) (N := 29) (kp := impl_fracOfkp) (c := impl_fracOfc) (n := n) (G := fun x y => impl_fracOf n x.1 x.2.1) follows (AllOk.mem (⟨impl_gcd_ok n, ⟨impl_ValidFrac_ok n, trivial⟩⟩ : AllOk P ([impl_gcdF n, impl_ValidFracF n]))) (by kernel_rfl : P.funcs[89]? = some Go.Proofs.Try.f89) (by kernel_rfl) (by kernel_rfl) (by kernel_rfl)
    (fun x y => impl_fracOf_eq n x.1 x.2.1) (fun _ _ => map_same (fun _ => rfl) _) (fun _ _ _ _ => rfl)

abbrev impl_zerosp : List Sp := []
abbrev impl_zerobs : List (Bs × Bool) := []
abbrev impl_zerors : List (Bool × List Rp) := [(true, [.v false (.pair (.int .i64) (.int .i64))])]
noncomputable def impl_zerokp : Keep := { loop := fun id => match id with | _ => ([], []), join := fun id => match id with | _ => none }
noncomputable def impl_zeroc : Code := bodyOf Go.Proofs.Try.f67
noncomputable def impl_zeroF (n : Nat) : Fun := { id := 67, sp := impl_zerosp, bs := impl_zerobs, rs := impl_zerors, f := fun x y => impl_zero n }

theorem impl_zero_eq (n : Nat) : runBody ([]) ty 2 n impl_zerokp impl_zeroc Go.Proofs.Try.f67.results.toList impl_zerors impl_zerosp impl_zerobs () () = impl_zero n := by
  have h : runBody ([]) ty 2 n impl_zerokp impl_zeroc Go.Proofs.Try.f67.results.toList impl_zerors impl_zerosp impl_zerobs () () = impl_zero_t n := by kernel_rfl
  rw [h]
  rfl

theorem impl_zero_ok (n : Nat) : FunOk P (impl_zeroF n) :=
  funOk_mk (C := []) (N := 2) (kp := impl_zerokp) (c := impl_zeroc) (n := n) (G := fun x y => impl_zero n) follows (AllOk.mem (trivial : AllOk P ([]))) (by kernel_rfl : P.funcs[67]? = some Go.Proofs.Try.f67) (by kernel_rfl) (by kernel_rfl) (by kernel_rfl)
    (fun x y => impl_zero_eq n) (fun _ _ => map_same (fun _ => rfl) _) (fun _ _ _ _ => rfl)

abbrev impl_calc_toldsp : List Sp := [.ref 0, .v false (.int .i64), .v false (.int .i64)]
abbrev impl_calc_toldbs : List (Bs × Bool) := [(.var 79 .bool, true)]
abbrev impl_calc_toldrs : List (Bool × List Rp) := [(true, [.v false (.pair (.int .i64) (.int .i64))])]
noncomputable def impl_calc_toldkp : Keep := { loop := fun id => match id with | _ => ([], []), join := fun id => match id with | _ => none }
noncomputable def impl_calc_toldc : Code := bodyOf Go.Proofs.Try.f71
noncomputable def impl_calc_toldF (n : Nat) : Fun := { id := 71, sp := impl_calc_toldsp, bs := impl_calc_toldbs, rs := impl_calc_toldrs, f := fun x y => impl_calc_told n x.2.1 x.2.2.1 y.1 }

theorem impl_calc_told_eq (n : Nat) (a1 : Int) (a2 : Int) (b0 : Bool) : runBody ([impl_fracOfF n, impl_zeroF n]) ty 22 n impl_calc_toldkp impl_calc_toldc Go.Proofs.Try.f71.results.toList impl_calc_toldrs impl_calc_toldsp impl_calc_toldbs ((), (a1, (a2, ()))) (b0, ()) = impl_calc_told n a1 a2 b0 := by
  have h : runBody ([impl_fracOfF n, impl_zeroF n]) ty 22 n impl_calc_toldkp impl_calc_toldc Go.Proofs.Try.f71.results.toList impl_calc_toldrs impl_calc_toldsp impl_calc_toldbs ((), (a1, (a2, ()))) (b0, ()) = impl_calc_told_t n a1 a2 b0 := by kernel_rfl
  rw [h]
  rfl

theorem impl_calc_told_ok (n : Nat) : FunOk P (impl_calc_toldF n) :=
  funOk_mk (C := [impl_fracOfF n, impl_zeroF n]) (N := 22) (kp := impl_calc_toldkp) (c := impl_calc_toldc) (n := n) (G := fun x y => impl_calc_told n x.2.1 x.2.2.1 y.1) follows (AllOk.mem (⟨impl_fracOf_ok n, ⟨impl_zero_ok n, trivial⟩⟩ : AllOk P ([impl_fracOfF n, impl_zeroF n]))) (by kernel_rfl : P.funcs[71]? = some Go.Proofs.Try.f71) (by kernel_rfl) (by kernel_rfl) (by kernel_rfl)
    (fun x y => impl_calc_told_eq n x.2.1 x.2.2.1 y.1) (fun _ _ => map_same (fun _ => rfl) _) (fun _ _ _ _ => rfl)

abbrev impl_calc_mulsp : List Sp := [.ref 0, .v true (.pair (.int .i64) (.int .i64)), .v true (.pair (.int .i64) (.int .i64))]
abbrev impl_calc_mulbs : List (Bs × Bool) := [(.var 79 .bool, true)]
abbrev impl_calc_mulrs : List (Bool × List Rp) := [(true, [.v false (.pair (.int .i64) (.int .i64))])]
noncomputable def impl_calc_mulkp : Keep := { loop := fun id => match id with | _ => ([], []), join := fun id => match id with | _ => none }
noncomputable def impl_calc_mulc : Code := bodyOf Go.Proofs.Try.f45
noncomputable def impl_calc_mulF (n : Nat) : Fun := { id := 45, sp := impl_calc_mulsp, bs := impl_calc_mulbs, rs := impl_calc_mulrs, f := fun x y => impl_calc_mul n x.2.1 x.2.2.1 y.1 }

theorem impl_calc_mul_eq (n : Nat) (a1 : (Int) × (Int)) (a2 : (Int) × (Int)) (b0 : Bool) : runBody ([impl_calc_toldF n]) ty 19 n impl_calc_mulkp impl_calc_mulc Go.Proofs.Try.f45.results.toList impl_calc_mulrs impl_calc_mulsp impl_calc_mulbs ((), (a1, (a2, ()))) (b0, ()) = impl_calc_mul n a1 a2 b0 := by
  have h : runBody ([impl_calc_toldF n]) ty 19 n impl_calc_mulkp impl_calc_mulc Go.Proofs.Try.f45.results.toList impl_calc_mulrs impl_calc_mulsp impl_calc_mulbs ((), (a1, (a2, ()))) (b0, ()) = impl_calc_mul_t n a1 a2 b0 := by kernel_rfl
  rw [h]
  rfl

theorem impl_calc_mul_ok (n : Nat) : FunOk P (impl_calc_mulF n) :=
  funOk_mk (C := [impl_calc_toldF n]) (N := 19) (kp := impl_calc_mulkp) (c := impl_calc_mulc) (n := n) (G := fun x y => impl_calc_mul n x.2.1 x.2.2.1 y.1) follows (AllOk.mem (⟨impl_calc_told_ok n, trivial⟩ : AllOk P ([impl_calc_toldF n]))) (by kernel_rfl : P.funcs[45]? = some Go.Proofs.Try.f45) (by kernel_rfl) (by kernel_rfl) (by kernel_rfl)
    (fun x y => impl_calc_mul_eq n x.2.1 x.2.2.1 y.1) (fun _ _ => map_same (fun _ => rfl) _) (fun _ _ _ _ => rfl)

abbrev impl_calc_addsp : List Sp := [.ref 0, .v true (.pair (.int .i64) (.int .i64)), .v true (.pair (.int .i64) (.int .i64))]
abbrev impl_calc_addbs : List (Bs × Bool) := [(.var 79 .bool, true)]
abbrev impl_calc_addrs : List (Bool × List Rp) := [(true, [.v false (.pair (.int .i64) (.int .i64))])]
noncomputable def impl_calc_addkp : Keep := { loop := fun id => match id with | _ => ([], []), join := fun id => match id with | _ => none }
noncomputable def impl_calc_addc : Code := bodyOf Go.Proofs.Try.f70
noncomputable def impl_calc_addF (n : Nat) : Fun := { id := 70, sp := impl_calc_addsp, bs := impl_calc_addbs, rs := impl_calc_addrs, f := fun x y => impl_calc_add n x.2.1 x.2.2.1 y.1 }

theorem impl_calc_add_eq (n : Nat) (a1 : (Int) × (Int)) (a2 : (Int) × (Int)) (b0 : Bool) : runBody ([impl_calc_toldF n]) ty 25 n impl_calc_addkp impl_calc_addc Go.Proofs.Try.f70.results.toList impl_calc_addrs impl_calc_addsp impl_calc_addbs ((), (a1, (a2, ()))) (b0, ()) = impl_calc_add n a1 a2 b0 := by
  have h : runBody ([impl_calc_toldF n]) ty 25 n impl_calc_addkp impl_calc_addc Go.Proofs.Try.f70.results.toList impl_calc_addrs impl_calc_addsp impl_calc_addbs ((), (a1, (a2, ()))) (b0, ()) = impl_calc_add_t n a1 a2 b0 := by kernel_rfl
  rw [h]
  rfl

theorem impl_calc_add_ok (n : Nat) : FunOk P (impl_calc_addF n) :=
  funOk_mk (C := [impl_calc_toldF n]) (N := 25) (kp := impl_calc_addkp) (c := impl_calc_addc) (n := n) (G := fun x y => impl_calc_add n x.2.1 x.2.2.1 y.1) follows (AllOk.mem (⟨impl_calc_told_ok n, trivial⟩ : AllOk P ([impl_calc_toldF n]))) (by kernel_rfl : P.funcs[70]? = some Go.Proofs.Try.f70) (by kernel_rfl) (by kernel_rfl) (by kernel_rfl)
    (fun x y => impl_calc_add_eq n x.2.1 x.2.2.1 y.1) (fun _ _ => map_same (fun _ => rfl) _) (fun _ _ _ _ => rfl)

abbrev impl_calc_plussp : List Sp := [.ref 0, .v true (.pair (.pair (.int .i64) (.int .i64)) (.pair (.int .i64) (.int .i64))), .v true (.pair (.pair (.int .i64) (.int .i64)) (.pair (.int .i64) (.int .i64)))]
abbrev impl_calc_plusbs : List (Bs × Bool) := [(.var 79 .bool, true)]
abbrev impl_calc_plusrs : List (Bool × List Rp) := [(true, [.v false (.pair (.pair (.int .i64) (.int .i64)) (.pair (.int .i64) (.int .i64)))])]
noncomputable def impl_calc_pluskp : Keep := { loop := fun id => match id with | _ => ([], []), join := fun id => match id with | _ => none }
noncomputable def impl_calc_plusc : Code := bodyOf Go.Proofs.Try.f69
noncomputable def impl_calc_plusF (n : Nat) : Fun := { id := 69, sp := impl_calc_plussp, bs := impl_calc_plusbs, rs := impl_calc_plusrs, f := fun x y => impl_calc_plus n x.2.1 x.2.2.1 y.1 }

theorem impl_calc_plus_eq (n : Nat) (a1 : ((Int) × (Int)) × ((Int) × (Int))) (a2 : ((Int) × (Int)) × ((Int) × (Int))) (b0 : Bool) : runBody ([impl_calc_addF n]) ty 20 n impl_calc_pluskp impl_calc_plusc Go.Proofs.Try.f69.results.toList impl_calc_plusrs impl_calc_plussp impl_calc_plusbs ((), (a1, (a2, ()))) (b0, ()) = impl_calc_plus n a1 a2 b0 := by
  have h : runBody ([impl_calc_addF n]) ty 20 n impl_calc_pluskp impl_calc_plusc Go.Proofs.Try.f69.results.toList impl_calc_plusrs impl_calc_plussp impl_calc_plusbs ((), (a1, (a2, ()))) (b0, ()) = impl_calc_plus_t n a1 a2 b0 := by kernel_rfl
  rw [h]
  rfl

theorem impl_calc_plus_ok (n : Nat) : FunOk P (impl_calc_plusF n) :=
  funOk_mk (C := [impl_calc_addF n]) (N := 20) (kp := impl_calc_pluskp) (c := impl_calc_plusc) (n := n) (G := fun x y => impl_calc_plus n x.2.1 x.2.2.1 y.1) follows (AllOk.mem (⟨impl_calc_add_ok n, trivial⟩ : AllOk P ([impl_calc_addF n]))) (by kernel_rfl : P.funcs[69]? = some Go.Proofs.Try.f69) (by kernel_rfl) (by kernel_rfl) (by kernel_rfl)
    (fun x y => impl_calc_plus_eq n x.2.1 x.2.2.1 y.1) (fun _ _ => map_same (fun _ => rfl) _) (fun _ _ _ _ => rfl)

abbrev impl_calc_subsp : List Sp := [.ref 0, .v true (.pair (.int .i64) (.int .i64)), .v true (.pair (.int .i64) (.int .i64))]
abbrev impl_calc_subbs : List (Bs × Bool) := [(.var 79 .bool, true)]
abbrev impl_calc_subrs : List (Bool × List Rp) := [(true, [.v false (.pair (.int .i64) (.int .i64))])]
noncomputable def impl_calc_subkp : Keep := { loop := fun id => match id with | _ => ([], []), join := fun id => match id with | _ => none }
noncomputable def impl_calc_subc : Code := bodyOf Go.Proofs.Try.f68
noncomputable def impl_calc_subF (n : Nat) : Fun := { id := 68, sp := impl_calc_subsp, bs := impl_calc_subbs, rs := impl_calc_subrs, f := fun x y => impl_calc_sub n x.2.1 x.2.2.1 y.1 }

theorem impl_calc_sub_eq (n : Nat) (a1 : (Int) × (Int)) (a2 : (Int) × (Int)) (b0 : Bool) : runBody ([impl_calc_toldF n]) ty 25 n impl_calc_subkp impl_calc_subc Go.Proofs.Try.f68.results.toList impl_calc_subrs impl_calc_subsp impl_calc_subbs ((), (a1, (a2, ()))) (b0, ()) = impl_calc_sub n a1 a2 b0 := by
  have h : runBody ([impl_calc_toldF n]) ty 25 n impl_calc_subkp impl_calc_subc Go.Proofs.Try.f68.results.toList impl_calc_subrs impl_calc_subsp impl_calc_subbs ((), (a1, (a2, ()))) (b0, ()) = impl_calc_sub_t n a1 a2 b0 := by kernel_rfl
  rw [h]
  rfl

theorem impl_calc_sub_ok (n : Nat) : FunOk P (impl_calc_subF n) :=
  funOk_mk (C := [impl_calc_toldF n]) (N := 25) (kp := impl_calc_subkp) (c := impl_calc_subc) (n := n) (G := fun x y => impl_calc_sub n x.2.1 x.2.2.1 y.1) follows (AllOk.mem (⟨impl_calc_told_ok n, trivial⟩ : AllOk P ([impl_calc_toldF n]))) (by kernel_rfl : P.funcs[68]? = some Go.Proofs.Try.f68) (by kernel_rfl) (by kernel_rfl) (by kernel_rfl)
    (fun x y => impl_calc_sub_eq n x.2.1 x.2.2.1 y.1) (fun _ _ => map_same (fun _ => rfl) _) (fun _ _ _ _ => rfl)

abbrev impl_calc_widensp : List Sp := [.ref 0, .v true (.pair (.pair (.int .i64) (.int .i64)) (.pair (.int .i64) (.int .i64))), .v true (.pair (.int .i64) (.int .i64))]
abbrev impl_calc_widenbs : List (Bs × Bool) := [(.var 79 .bool, true)]
abbrev impl_calc_widenrs : List (Bool × List Rp) := [(true, [.v false (.pair (.pair (.int .i64) (.int .i64)) (.pair (.int .i64) (.int .i64)))])]
noncomputable def impl_calc_widenkp : Keep := { loop := fun id => match id with | _ => ([], []), join := fun id => match id with | _ => none }
noncomputable def impl_calc_widenc : Code := bodyOf Go.Proofs.Try.f44
noncomputable def impl_calc_widenF (n : Nat) : Fun := { id := 44, sp := impl_calc_widensp, bs := impl_calc_widenbs, rs := impl_calc_widenrs, f := fun x y => impl_calc_widen n x.2.1 x.2.2.1 y.1 }

theorem impl_calc_widen_eq (n : Nat) (a1 : ((Int) × (Int)) × ((Int) × (Int))) (a2 : (Int) × (Int)) (b0 : Bool) : runBody ([impl_calc_subF n, impl_calc_addF n]) ty 18 n impl_calc_widenkp impl_calc_widenc Go.Proofs.Try.f44.results.toList impl_calc_widenrs impl_calc_widensp impl_calc_widenbs ((), (a1, (a2, ()))) (b0, ()) = impl_calc_widen n a1 a2 b0 := by
  have h : runBody ([impl_calc_subF n, impl_calc_addF n]) ty 18 n impl_calc_widenkp impl_calc_widenc Go.Proofs.Try.f44.results.toList impl_calc_widenrs impl_calc_widensp impl_calc_widenbs ((), (a1, (a2, ()))) (b0, ()) = impl_calc_widen_t n a1 a2 b0 := by kernel_rfl
  rw [h]
  rfl

theorem impl_calc_widen_ok (n : Nat) : FunOk P (impl_calc_widenF n) :=
  funOk_mk (C := [impl_calc_subF n, impl_calc_addF n]) (N := 18) (kp := impl_calc_widenkp) (c := impl_calc_widenc) (n := n) (G := fun x y => impl_calc_widen n x.2.1 x.2.2.1 y.1) follows (AllOk.mem (⟨impl_calc_sub_ok n, ⟨impl_calc_add_ok n, trivial⟩⟩ : AllOk P ([impl_calc_subF n, impl_calc_addF n]))) (by kernel_rfl : P.funcs[44]? = some Go.Proofs.Try.f44) (by kernel_rfl) (by kernel_rfl) (by kernel_rfl)
    (fun x y => impl_calc_widen_eq n x.2.1 x.2.2.1 y.1) (fun _ _ => map_same (fun _ => rfl) _) (fun _ _ _ _ => rfl)

abbrev impl_numsp : List Sp := [.v false (.int .i64)]
abbrev impl_numbs : List (Bs × Bool) := []
abbrev impl_numrs : List (Bool × List Rp) := [(true, [.v false (.pair (.int .i64) (.int .i64))])]
noncomputable def impl_numkp : Keep := { loop := fun id => match id with | _ => ([], []), join := fun id => match id with | _ => none }
noncomputable def impl_numc : Code := bodyOf Go.Proofs.Try.f46
noncomputable def impl_numF (n : Nat) : Fun := { id := 46, sp := impl_numsp, bs := impl_numbs, rs := impl_numrs, f := fun x y => impl_num n x.1 }

theorem impl_num_eq (n : Nat) (a0 : Int) : runBody ([]) ty 5 n impl_numkp impl_numc Go.Proofs.Try.f46.results.toList impl_numrs impl_numsp impl_numbs (a0, ()) () = impl_num n a0 := by
  have h : runBody ([]) ty 5 n impl_numkp impl_numc Go.Proofs.Try.f46.results.toList impl_numrs impl_numsp impl_numbs (a0, ()) () = impl_num_t n a0 := by kernel_rfl
  rw [h]
  rfl

theorem impl_num_ok (n : Nat) : FunOk P (impl_numF n) :=
  funOk_mk (C := []) (N := 5) (kp := impl_numkp) (c := impl_numc) (n := n) (G := fun x y => impl_num n x.1) follows (AllOk.mem (trivial : AllOk P ([]))) (by kernel_rfl : P.funcs[46]? = some Go.Proofs.Try.f46) (by kernel_rfl) (by kernel_rfl) (by kernel_rfl)
    (fun x y => impl_num_eq n x.1) (fun _ _ => map_same (fun _ => rfl) _) (fun _ _ _ _ => rfl)

abbrev impl_calc_alongsp : List Sp := [.ref 0, .v false (.list (.pair .str (.pair (.int .i64) (.pair (.pair (.pair (.int .i64) (.int .i64)) (.pair (.int .i64) (.int .i64))) (.pair (.pair (.int .i64) (.int .i64)) (.pair (.int .i64) (.int .i64))))))), .v false (.list (.int .i64)), .v false (.int .i64), .v true (.pair (.pair (.int .i64) (.int .i64)) (.pair (.int .i64) (.int .i64)))]
abbrev impl_calc_alongbs : List (Bs × Bool) := [(.var 79 .bool, true)]
abbrev impl_calc_alongrs : List (Bool × List Rp) := [(true, [.v false (.pair (.pair (.int .i64) (.int .i64)) (.pair (.int .i64) (.int .i64)))])]
noncomputable def impl_calc_alongkp : Keep := { loop := fun id => match id with | 2 => ([17, 9, 0, 2, 1, 3, 15, 10, 16], []) | _ => ([], []), join := fun id => match id with | _ => none }
noncomputable def impl_calc_alongc : Code := bodyOf Go.Proofs.Try.f43
noncomputable def impl_calc_alongF (n : Nat) : Fun := { id := 43, sp := impl_calc_alongsp, bs := impl_calc_alongbs, rs := impl_calc_alongrs, f := fun x y => impl_calc_along n x.2.1 x.2.2.1 x.2.2.2.1 x.2.2.2.2.1 y.1 }

theorem impl_calc_along_l2_eq (n : Nat) : ∀ (k : Nat) (v17 : Int) (v2 : List (Int)) (v1 : List ((ByteArray) × ((Int) × ((((Int) × (Int)) × ((Int) × (Int))) × (((Int) × (Int)) × ((Int) × (Int))))))) (v3 : Int) (v15 : List (Int)) (v16 : Int) (b0 : Bool) (b1_0 : Int) (b1_1 : Int) (b1_2 : Int) (b1_3 : Int) (b2_0 : Int) (b2_1 : Int) (b2_2 : Int) (b2_3 : Int), iter (interp ([impl_calc_plusF n, impl_numF n, impl_calc_mulF n, impl_calc_widenF n]) ty 59 1 n impl_calc_alongkp (codeAt impl_calc_alongc [1, 0, 1, 0, 0])) (canon 1 (impl_calc_alongkp.loop 2)) (kAt ([impl_calc_plusF n, impl_numF n, impl_calc_mulF n, impl_calc_widenF n]) ty 59 1 n impl_calc_alongkp impl_calc_alongc [1, 0, 1, 0] [] (ending ty 1 Go.Proofs.Try.f43.results.toList impl_calc_alongrs impl_calc_alongbs)) k { env := [(17, .one (.sc (.int .i64 v17))), (9, .one (.ref 1 0 0 0 0 0)), (0, .one (.ref 0 0 0 0 0 0)), (2, .one (.list true (.int .i64) v2)), (1, .one (.list true (.pair .str (.pair (.int .i64) (.pair (.pair (.pair (.int .i64) (.int .i64)) (.pair (.int .i64) (.int .i64))) (.pair (.pair (.int .i64) (.int .i64)) (.pair (.int .i64) (.int .i64)))))) v1)), (3, .one (.sc (.int .i64 v3))), (15, .one (.list true (.int .i64) v15)), (10, .one (.ref 2 0 0 0 0 0)), (16, .one (.sc (.int .i64 v16)))], bx := [(0, .var 79 [.sc (.bool b0)]), (1, .var 41 [.sc (.int .i64 b1_0), .sc (.int .i64 b1_1), .sc (.int .i64 b1_2), .sc (.int .i64 b1_3)]), (2, .var 41 [.sc (.int .i64 b2_0), .sc (.int .i64 b2_1), .sc (.int .i64 b2_2), .sc (.int .i64 b2_3)])], nx := 3 } = impl_calc_along_l2 n k v17 v2 v1 v3 v15 v16 b0 b1_0 b1_1 b1_2 b1_3 b2_0 b2_1 b2_2 b2_3
  | 0, _, _, _, _, _, _, _, _, _, _, _, _, _, _, _ => by kernel_rfl
  | k + 1, v17, v2, v1, v3, v15, v16, b0, b1_0, b1_1, b1_2, b1_3, b2_0, b2_1, b2_2, b2_3 => by
    have h : iter (interp ([impl_calc_plusF n, impl_numF n, impl_calc_mulF n, impl_calc_widenF n]) ty 59 1 n impl_calc_alongkp (codeAt impl_calc_alongc [1, 0, 1, 0, 0])) (canon 1 (impl_calc_alongkp.loop 2)) (kAt ([impl_calc_plusF n, impl_numF n, impl_calc_mulF n, impl_calc_widenF n]) ty 59 1 n impl_calc_alongkp impl_calc_alongc [1, 0, 1, 0] [] (ending ty 1 Go.Proofs.Try.f43.results.toList impl_calc_alongrs impl_calc_alongbs)) (k + 1) { env := [(17, .one (.sc (.int .i64 v17))), (9, .one (.ref 1 0 0 0 0 0)), (0, .one (.ref 0 0 0 0 0 0)), (2, .one (.list true (.int .i64) v2)), (1, .one (.list true (.pair .str (.pair (.int .i64) (.pair (.pair (.pair (.int .i64) (.int .i64)) (.pair (.int .i64) (.int .i64))) (.pair (.pair (.int .i64) (.int .i64)) (.pair (.int .i64) (.int .i64)))))) v1)), (3, .one (.sc (.int .i64 v3))), (15, .one (.list true (.int .i64) v15)), (10, .one (.ref 2 0 0 0 0 0)), (16, .one (.sc (.int .i64 v16)))], bx := [(0, .var 79 [.sc (.bool b0)]), (1, .var 41 [.sc (.int .i64 b1_0), .sc (.int .i64 b1_1), .sc (.int .i64 b1_2), .sc (.int .i64 b1_3)]), (2, .var 41 [.sc (.int .i64 b2_0), .sc (.int .i64 b2_1), .sc (.int .i64 b2_2), .sc (.int .i64 b2_3)])], nx := 3 } = impl_calc_along_t2 n (fun v17 v2 v1 v3 v15 v16 b0 b1_0 b1_1 b1_2 b1_3 b2_0 b2_1 b2_2 b2_3 => iter (interp ([impl_calc_plusF n, impl_numF n, impl_calc_mulF n, impl_calc_widenF n]) ty 59 1 n impl_calc_alongkp (codeAt impl_calc_alongc [1, 0, 1, 0, 0])) (canon 1 (impl_calc_alongkp.loop 2)) (kAt ([impl_calc_plusF n, impl_numF n, impl_calc_mulF n, impl_calc_widenF n]) ty 59 1 n impl_calc_alongkp impl_calc_alongc [1, 0, 1, 0] [] (ending ty 1 Go.Proofs.Try.f43.results.toList impl_calc_alongrs impl_calc_alongbs)) k { env := [(17, .one (.sc (.int .i64 v17))), (9, .one (.ref 1 0 0 0 0 0)), (0, .one (.ref 0 0 0 0 0 0)), (2, .one (.list true (.int .i64) v2)), (1, .one (.list true (.pair .str (.pair (.int .i64) (.pair (.pair (.pair (.int .i64) (.int .i64)) (.pair (.int .i64) (.int .i64))) (.pair (.pair (.int .i64) (.int .i64)) (.pair (.int .i64) (.int .i64)))))) v1)), (3, .one (.sc (.int .i64 v3))), (15, .one (.list true (.int .i64) v15)), (10, .one (.ref 2 0 0 0 0 0)), (16, .one (.sc (.int .i64 v16)))], bx := [(0, .var 79 [.sc (.bool b0)]), (1, .var 41 [.sc (.int .i64 b1_0), .sc (.int .i64 b1_1), .sc (.int .i64 b1_2), .sc (.int .i64 b1_3)]), (2, .var 41 [.sc (.int .i64 b2_0), .sc (.int .i64 b2_1), .sc (.int .i64 b2_2), .sc (.int .i64 b2_3)])], nx := 3 }) v17 v2 v1 v3 v15 v16 b0 b1_0 b1_1 b1_2 b1_3 b2_0 b2_1 b2_2 b2_3 := by kernel_rfl
    rw [h]
    have e := congrArg (fun g => impl_calc_along_t2 n g v17 v2 v1 v3 v15 v16 b0 b1_0 b1_1 b1_2 b1_3 b2_0 b2_1 b2_2 b2_3) (funext fun v17 => funext fun v2 => funext fun v1 => funext fun v3 => funext fun v15 => funext fun v16 => funext fun b0 => funext fun b1_0 => funext fun b1_1 => funext fun b1_2 => funext fun b1_3 => funext fun b2_0 => funext fun b2_1 => funext fun b2_2 => funext fun b2_3 => impl_calc_along_l2_eq n k v17 v2 v1 v3 v15 v16 b0 b1_0 b1_1 b1_2 b1_3 b2_0 b2_1 b2_2 b2_3)
    exact e

theorem impl_calc_along_eq (n : Nat) (a1 : List ((ByteArray) × ((Int) × ((((Int) × (Int)) × ((Int) × (Int))) × (((Int) × (Int)) × ((Int) × (Int))))))) (a2 : List (Int)) (a3 : Int) (a4 : ((Int) × (Int)) × ((Int) × (Int))) (b0 : Bool) : runBody ([impl_calc_plusF n, impl_numF n, impl_calc_mulF n, impl_calc_widenF n]) ty 59 n impl_calc_alongkp impl_calc_alongc Go.Proofs.Try.f43.results.toList impl_calc_alongrs impl_calc_alongsp impl_calc_alongbs ((), (a1, (a2, (a3, (a4, ()))))) (b0, ()) = impl_calc_along n a1 a2 a3 a4 b0 := by
  have h : runBody ([impl_calc_plusF n, impl_numF n, impl_calc_mulF n, impl_calc_widenF n]) ty 59 n impl_calc_alongkp impl_calc_alongc Go.Proofs.Try.f43.results.toList impl_calc_alongrs impl_calc_alongsp impl_calc_alongbs ((), (a1, (a2, (a3, (a4, ()))))) (b0, ()) = impl_calc_along_t n (fun k v17 v2 v1 v3 v15 v16 b0 b1_0 b1_1 b1_2 b1_3 b2_0 b2_1 b2_2 b2_3 => iter (interp ([impl_calc_plusF n, impl_numF n, impl_calc_mulF n, impl_calc_widenF n]) ty 59 1 n impl_calc_alongkp (codeAt impl_calc_alongc [1, 0, 1, 0, 0])) (canon 1 (impl_calc_alongkp.loop 2)) (kAt ([impl_calc_plusF n, impl_numF n, impl_calc_mulF n, impl_calc_widenF n]) ty 59 1 n impl_calc_alongkp impl_calc_alongc [1, 0, 1, 0] [] (ending ty 1 Go.Proofs.Try.f43.results.toList impl_calc_alongrs impl_calc_alongbs)) k { env := [(17, .one (.sc (.int .i64 v17))), (9, .one (.ref 1 0 0 0 0 0)), (0, .one (.ref 0 0 0 0 0 0)), (2, .one (.list true (.int .i64) v2)), (1, .one (.list true (.pair .str (.pair (.int .i64) (.pair (.pair (.pair (.int .i64) (.int .i64)) (.pair (.int .i64) (.int .i64))) (.pair (.pair (.int .i64) (.int .i64)) (.pair (.int .i64) (.int .i64)))))) v1)), (3, .one (.sc (.int .i64 v3))), (15, .one (.list true (.int .i64) v15)), (10, .one (.ref 2 0 0 0 0 0)), (16, .one (.sc (.int .i64 v16)))], bx := [(0, .var 79 [.sc (.bool b0)]), (1, .var 41 [.sc (.int .i64 b1_0), .sc (.int .i64 b1_1), .sc (.int .i64 b1_2), .sc (.int .i64 b1_3)]), (2, .var 41 [.sc (.int .i64 b2_0), .sc (.int .i64 b2_1), .sc (.int .i64 b2_2), .sc (.int .i64 b2_3)])], nx := 3 }) a1 a2 a3 a4 b0 := by kernel_rfl
  rw [h]
  have e := congrArg (fun h2 => impl_calc_along_t n h2 a1 a2 a3 a4 b0) (funext fun k => funext fun v17 => funext fun v2 => funext fun v1 => funext fun v3 => funext fun v15 => funext fun v16 => funext fun b0 => funext fun b1_0 => funext fun b1_1 => funext fun b1_2 => funext fun b1_3 => funext fun b2_0 => funext fun b2_1 => funext fun b2_2 => funext fun b2_3 => impl_calc_along_l2_eq n k v17 v2 v1 v3 v15 v16 b0 b1_0 b1_1 b1_2 b1_3 b2_0 b2_1 b2_2 b2_3)
  exact e

theorem impl_calc_along_ok (n : Nat) : FunOk P (impl_calc_alongF n) :=
  funOk_mk (C := [impl_calc_plusF n, impl_numF n, impl_calc_mulF n, impl_calc_widenF n]) (N := 59) (kp := impl_calc_alongkp) (c := impl_calc_alongc) (n := n) (G := fun x y => impl_calc_along n x.2.1 x.2.2.1 x.2.2.2.1 x.2.2.2.2.1 y.1) follows (AllOk.mem (⟨impl_calc_plus_ok n, ⟨impl_num_ok n, ⟨impl_calc_mul_ok n, ⟨impl_calc_widen_ok n, trivial⟩⟩⟩⟩ : AllOk P ([impl_calc_plusF n, impl_numF n, impl_calc_mulF n, impl_calc_widenF n]))) (by kernel_rfl : P.funcs[43]? = some Go.Proofs.Try.f43) (by kernel_rfl) (by kernel_rfl) (by kernel_rfl)
    (fun x y => impl_calc_along_eq n x.2.1 x.2.2.1 x.2.2.2.1 x.2.2.2.2.1 y.1) (fun _ _ => map_same (fun _ => rfl) _) (fun _ _ _ _ => rfl)

abbrev impl_nonesp : List Sp := []
abbrev impl_nonebs : List (Bs × Bool) := []
abbrev impl_noners : List (Bool × List Rp) := [(true, [.v false (.pair (.pair (.int .i64) (.int .i64)) (.pair (.int .i64) (.int .i64)))])]
noncomputable def impl_nonekp : Keep := { loop := fun id => match id with | _ => ([], []), join := fun id => match id with | _ => none }
noncomputable def impl_nonec : Code := bodyOf Go.Proofs.Try.f38
noncomputable def impl_noneF (n : Nat) : Fun := { id := 38, sp := impl_nonesp, bs := impl_nonebs, rs := impl_noners, f := fun x y => impl_none n }

theorem impl_none_eq (n : Nat) : runBody ([impl_zeroF n]) ty 4 n impl_nonekp impl_nonec Go.Proofs.Try.f38.results.toList impl_noners impl_nonesp impl_nonebs () () = impl_none n := by
  have h : runBody ([impl_zeroF n]) ty 4 n impl_nonekp impl_nonec Go.Proofs.Try.f38.results.toList impl_noners impl_nonesp impl_nonebs () () = impl_none_t n := by kernel_rfl
  rw [h]
  rfl

theorem impl_none_ok (n : Nat) : FunOk P (impl_noneF n) :=
  funOk_mk (C := [impl_zeroF n]) (N := 4) (kp := impl_nonekp) (c := impl_nonec) (n := n) (G := fun x y => impl_none n) follows (AllOk.mem (⟨impl_zero_ok n, trivial⟩ : AllOk P ([impl_zeroF n]))) (by kernel_rfl : P.funcs[38]? = some Go.Proofs.Try.f38) (by kernel_rfl) (by kernel_rfl) (by kernel_rfl)
    (fun x y => impl_none_eq n) (fun _ _ => map_same (fun _ => rfl) _) (fun _ _ _ _ => rfl)

abbrev impl_DifferenceOn_1sp : List Sp := [.sl 0, .ref 1, .ref 2, .ref 3, .ref 4]
abbrev impl_DifferenceOn_1bs : List (Bs × Bool) := [(.row  (.int .i64), true), (.var 3 (.int .i64), true), (.var 2 (.int .i64), true), (.pv 77 5, true), (.var 44 (.list (.pair .str (.pair (.int .i64) (.pair (.pair (.pair (.int .i64) (.int .i64)) (.pair (.int .i64) (.int .i64))) (.pair (.pair (.int .i64) (.int .i64)) (.pair (.int .i64) (.int .i64))))))), true), (.var 79 .bool, true)]
abbrev impl_DifferenceOn_1rs : List (Bool × List Rp) := [(true, [.v false (.pair (.pair (.int .i64) (.int .i64)) (.pair (.int .i64) (.int .i64)))]), (false, [.v false (.int .i64)])]
noncomputable def impl_DifferenceOn_1kp : Keep := { loop := fun id => match id with | _ => ([], []), join := fun id => match id with | _ => none }
noncomputable def impl_DifferenceOn_1c : Code := bodyOf Go.Proofs.Try.f42
noncomputable def impl_DifferenceOn_1F (n : Nat) : Fun := { id := 42, sp := impl_DifferenceOn_1sp, bs := impl_DifferenceOn_1bs, rs := impl_DifferenceOn_1rs, f := fun x y => impl_DifferenceOn_1 n y.1 y.2.1 y.2.2.1 y.2.2.2.2.1 y.2.2.2.2.2.1 }

theorem impl_DifferenceOn_1_eq (n : Nat) (b0 : List (Int)) (b1 : Int) (b2 : Int) (b4 : List ((ByteArray) × ((Int) × ((((Int) × (Int)) × ((Int) × (Int))) × (((Int) × (Int)) × ((Int) × (Int))))))) (b5 : Bool) : runBody ([impl_noneF n, impl_calc_alongF n]) ty 30 n impl_DifferenceOn_1kp impl_DifferenceOn_1c Go.Proofs.Try.f42.results.toList impl_DifferenceOn_1rs impl_DifferenceOn_1sp impl_DifferenceOn_1bs ((), ((), ((), ((), ((), ()))))) (b0, (b1, (b2, ((), (b4, (b5, ())))))) = impl_DifferenceOn_1 n b0 b1 b2 b4 b5 := by
  have h : runBody ([impl_noneF n, impl_calc_alongF n]) ty 30 n impl_DifferenceOn_1kp impl_DifferenceOn_1c Go.Proofs.Try.f42.results.toList impl_DifferenceOn_1rs impl_DifferenceOn_1sp impl_DifferenceOn_1bs ((), ((), ((), ((), ((), ()))))) (b0, (b1, (b2, ((), (b4, (b5, ())))))) = impl_DifferenceOn_1_t n b0 b1 b2 b4 b5 := by kernel_rfl
  rw [h]
  rfl

theorem impl_DifferenceOn_1_ok (n : Nat) : FunOk P (impl_DifferenceOn_1F n) :=
  funOk_mk (C := [impl_noneF n, impl_calc_alongF n]) (N := 30) (kp := impl_DifferenceOn_1kp) (c := impl_DifferenceOn_1c) (n := n) (G := fun x y => impl_DifferenceOn_1 n y.1 y.2.1 y.2.2.1 y.2.2.2.2.1 y.2.2.2.2.2.1) follows (AllOk.mem (⟨impl_none_ok n, ⟨impl_calc_along_ok n, trivial⟩⟩ : AllOk P ([impl_noneF n, impl_calc_alongF n]))) (by kernel_rfl : P.funcs[42]? = some Go.Proofs.Try.f42) (by kernel_rfl) (by kernel_rfl) (by kernel_rfl)
    (fun x y => impl_DifferenceOn_1_eq n y.1 y.2.1 y.2.2.1 y.2.2.2.2.1 y.2.2.2.2.2.1) (fun _ _ => map_same (fun _ => rfl) _) (fun _ _ _ _ => rfl)

abbrev impl_Standard_goodsp : List Sp := [.v true (.pair .str (.pair (.int .i64) (.pair (.pair (.pair (.int .i64) (.int .i64)) (.pair (.int .i64) (.int .i64))) (.pair (.pair (.int .i64) (.int .i64)) (.pair (.int .i64) (.int .i64)))))), .v false (.int .i64)]
abbrev impl_Standard_goodbs : List (Bs × Bool) := []
abbrev impl_Standard_goodrs : List (Bool × List Rp) := [(false, [.v false .bool])]
noncomputable def impl_Standard_goodkp : Keep := { loop := fun id => match id with | _ => ([], []), join := fun id => match id with | _ => none }
noncomputable def impl_Standard_goodc : Code := bodyOf Go.Proofs.Try.f36
noncomputable def impl_Standard_goodF (n : Nat) : Fun := { id := 36, sp := impl_Standard_goodsp, bs := impl_Standard_goodbs, rs := impl_Standard_goodrs, f := fun x y => impl_Standard_good n x.1 x.2.1 }

theorem impl_Standard_good_eq (n : Nat) (a0 : (ByteArray) × ((Int) × ((((Int) × (Int)) × ((Int) × (Int))) × (((Int) × (Int)) × ((Int) × (Int)))))) (a1 : Int) : runBody ([impl_withinF n]) ty 14 n impl_Standard_goodkp impl_Standard_goodc Go.Proofs.Try.f36.results.toList impl_Standard_goodrs impl_Standard_goodsp impl_Standard_goodbs (a0, (a1, ())) () = impl_Standard_good n a0 a1 := by
  have h : runBody ([impl_withinF n]) ty 14 n impl_Standard_goodkp impl_Standard_goodc Go.Proofs.Try.f36.results.toList impl_Standard_goodrs impl_Standard_goodsp impl_Standard_goodbs (a0, (a1, ())) () = impl_Standard_good_t n a0 a1 := by kernel_rfl
  rw [h]
  rfl

theorem impl_Standard_good_ok (n : Nat) : FunOk P (impl_Standard_goodF n) :=
  funOk_mk (C := [impl_withinF n]) (N := 14) (kp := impl_Standard_goodkp) (c := impl_Standard_goodc) (n := n) (G := fun x y => impl_Standard_good n x.1 x.2.1) follows (AllOk.mem (⟨impl_within_ok n, trivial⟩ : AllOk P ([impl_withinF n]))) (by kernel_rfl : P.funcs[36]? = some Go.Proofs.Try.f36) (by kernel_rfl) (by kernel_rfl) (by kernel_rfl)
    (fun x y => impl_Standard_good_eq n x.1 x.2.1) (fun _ _ => map_same (fun _ => rfl) _) (fun _ _ _ _ => rfl)

abbrev impl_calc_minussp : List Sp := [.ref 0, .v true (.pair (.pair (.int .i64) (.int .i64)) (.pair (.int .i64) (.int .i64))), .v true (.pair (.pair (.int .i64) (.int .i64)) (.pair (.int .i64) (.int .i64)))]
abbrev impl_calc_minusbs : List (Bs × Bool) := [(.var 79 .bool, true)]
abbrev impl_calc_minusrs : List (Bool × List Rp) := [(true, [.v false (.pair (.pair (.int .i64) (.int .i64)) (.pair (.int .i64) (.int .i64)))])]
noncomputable def impl_calc_minuskp : Keep := { loop := fun id => match id with | _ => ([], []), join := fun id => match id with | _ => none }
noncomputable def impl_calc_minusc : Code := bodyOf Go.Proofs.Try.f40
noncomputable def impl_calc_minusF (n : Nat) : Fun := { id := 40, sp := impl_calc_minussp, bs := impl_calc_minusbs, rs := impl_calc_minusrs, f := fun x y => impl_calc_minus n x.2.1 x.2.2.1 y.1 }

theorem impl_calc_minus_eq (n : Nat) (a1 : ((Int) × (Int)) × ((Int) × (Int))) (a2 : ((Int) × (Int)) × ((Int) × (Int))) (b0 : Bool) : runBody ([impl_calc_subF n]) ty 20 n impl_calc_minuskp impl_calc_minusc Go.Proofs.Try.f40.results.toList impl_calc_minusrs impl_calc_minussp impl_calc_minusbs ((), (a1, (a2, ()))) (b0, ()) = impl_calc_minus n a1 a2 b0 := by
  have h : runBody ([impl_calc_subF n]) ty 20 n impl_calc_minuskp impl_calc_minusc Go.Proofs.Try.f40.results.toList impl_calc_minusrs impl_calc_minussp impl_calc_minusbs ((), (a1, (a2, ()))) (b0, ()) = impl_calc_minus_t n a1 a2 b0 := by kernel_rfl
  rw [h]
  rfl

theorem impl_calc_minus_ok (n : Nat) : FunOk P (impl_calc_minusF n) :=
  funOk_mk (C := [impl_calc_subF n]) (N := 20) (kp := impl_calc_minuskp) (c := impl_calc_minusc) (n := n) (G := fun x y => impl_calc_minus n x.2.1 x.2.2.1 y.1) follows (AllOk.mem (⟨impl_calc_sub_ok n, trivial⟩ : AllOk P ([impl_calc_subF n]))) (by kernel_rfl : P.funcs[40]? = some Go.Proofs.Try.f40) (by kernel_rfl) (by kernel_rfl) (by kernel_rfl)
    (fun x y => impl_calc_minus_eq n x.2.1 x.2.2.1 y.1) (fun _ _ => map_same (fun _ => rfl) _) (fun _ _ _ _ => rfl)

abbrev impl_calc_spansp : List Sp := [.ref 0, .v true (.pair (.pair (.int .i64) (.int .i64)) (.pair (.int .i64) (.int .i64)))]
abbrev impl_calc_spanbs : List (Bs × Bool) := [(.var 79 .bool, true)]
abbrev impl_calc_spanrs : List (Bool × List Rp) := [(true, [.v false (.pair (.pair (.int .i64) (.int .i64)) (.pair (.int .i64) (.int .i64)))]), (false, [.v false (.int .i64)])]
noncomputable def impl_calc_spankp : Keep := { loop := fun id => match id with | _ => ([], []), join := fun id => match id with | _ => none }
noncomputable def impl_calc_spanc : Code := bodyOf Go.Proofs.Try.f39
noncomputable def impl_calc_spanF (n : Nat) : Fun := { id := 39, sp := impl_calc_spansp, bs := impl_calc_spanbs, rs := impl_calc_spanrs, f := fun x y => impl_calc_span n x.2.1 y.1 }

theorem impl_calc_span_eq (n : Nat) (a1 : ((Int) × (Int)) × ((Int) × (Int))) (b0 : Bool) : runBody ([]) ty 12 n impl_calc_spankp impl_calc_spanc Go.Proofs.Try.f39.results.toList impl_calc_spanrs impl_calc_spansp impl_calc_spanbs ((), (a1, ())) (b0, ()) = impl_calc_span n a1 b0 := by
  have h : runBody ([]) ty 12 n impl_calc_spankp impl_calc_spanc Go.Proofs.Try.f39.results.toList impl_calc_spanrs impl_calc_spansp impl_calc_spanbs ((), (a1, ())) (b0, ()) = impl_calc_span_t n a1 b0 := by kernel_rfl
  rw [h]
  rfl

theorem impl_calc_span_ok (n : Nat) : FunOk P (impl_calc_spanF n) :=
  funOk_mk (C := []) (N := 12) (kp := impl_calc_spankp) (c := impl_calc_spanc) (n := n) (G := fun x y => impl_calc_span n x.2.1 y.1) follows (AllOk.mem (trivial : AllOk P ([]))) (by kernel_rfl : P.funcs[39]? = some Go.Proofs.Try.f39) (by kernel_rfl) (by kernel_rfl) (by kernel_rfl)
    (fun x y => impl_calc_span_eq n x.2.1 y.1) (fun _ _ => map_same (fun _ => rfl) _) (fun _ _ _ _ => rfl)

abbrev impl_pathsp : List Sp := [.v false (.list (.pair .str (.pair (.int .i64) (.pair (.pair (.pair (.int .i64) (.int .i64)) (.pair (.int .i64) (.int .i64))) (.pair (.pair (.int .i64) (.int .i64)) (.pair (.int .i64) (.int .i64))))))), .v false (.int .i64)]
abbrev impl_pathbs : List (Bs × Bool) := []
abbrev impl_pathrs : List (Bool × List Rp) := [(false, [.new  (.int .i64)])]
noncomputable def impl_pathkp : Keep := { loop := fun id => match id with | 2 => ([1, 0, 5], []) | _ => ([], []), join := fun id => match id with | _ => none }
noncomputable def impl_pathc : Code := bodyOf Go.Proofs.Try.f37
noncomputable def impl_pathF (n : Nat) : Fun := { id := 37, sp := impl_pathsp, bs := impl_pathbs, rs := impl_pathrs, f := fun x y => impl_path n x.1 x.2.1 }

theorem impl_path_l2_eq (n : Nat) : ∀ (k : Nat) (v1 : Int) (v0 : List ((ByteArray) × ((Int) × ((((Int) × (Int)) × ((Int) × (Int))) × (((Int) × (Int)) × ((Int) × (Int))))))) (b0 : List (Int)), iter (interp ([]) ty 19 0 n impl_pathkp (codeAt impl_pathc [1, 1, 0, 0, 0])) (canon 0 (impl_pathkp.loop 2)) (kAt ([]) ty 19 0 n impl_pathkp impl_pathc [1, 1, 0, 0] [] (ending ty 0 Go.Proofs.Try.f37.results.toList impl_pathrs impl_pathbs)) k { env := [(1, .one (.sc (.int .i64 v1))), (0, .one (.list true (.pair .str (.pair (.int .i64) (.pair (.pair (.pair (.int .i64) (.int .i64)) (.pair (.int .i64) (.int .i64))) (.pair (.pair (.int .i64) (.int .i64)) (.pair (.int .i64) (.int .i64)))))) v0)), (5, .one (.slice 0 0 none))], bx := [(0, .row 0 (.int .i64) b0)], nx := 1 } = impl_path_l2 n k v1 v0 b0
  | 0, _, _, _ => by kernel_rfl
  | k + 1, v1, v0, b0 => by
    have h : iter (interp ([]) ty 19 0 n impl_pathkp (codeAt impl_pathc [1, 1, 0, 0, 0])) (canon 0 (impl_pathkp.loop 2)) (kAt ([]) ty 19 0 n impl_pathkp impl_pathc [1, 1, 0, 0] [] (ending ty 0 Go.Proofs.Try.f37.results.toList impl_pathrs impl_pathbs)) (k + 1) { env := [(1, .one (.sc (.int .i64 v1))), (0, .one (.list true (.pair .str (.pair (.int .i64) (.pair (.pair (.pair (.int .i64) (.int .i64)) (.pair (.int .i64) (.int .i64))) (.pair (.pair (.int .i64) (.int .i64)) (.pair (.int .i64) (.int .i64)))))) v0)), (5, .one (.slice 0 0 none))], bx := [(0, .row 0 (.int .i64) b0)], nx := 1 } = impl_path_t2 n (fun v1 v0 b0 => iter (interp ([]) ty 19 0 n impl_pathkp (codeAt impl_pathc [1, 1, 0, 0, 0])) (canon 0 (impl_pathkp.loop 2)) (kAt ([]) ty 19 0 n impl_pathkp impl_pathc [1, 1, 0, 0] [] (ending ty 0 Go.Proofs.Try.f37.results.toList impl_pathrs impl_pathbs)) k { env := [(1, .one (.sc (.int .i64 v1))), (0, .one (.list true (.pair .str (.pair (.int .i64) (.pair (.pair (.pair (.int .i64) (.int .i64)) (.pair (.int .i64) (.int .i64))) (.pair (.pair (.int .i64) (.int .i64)) (.pair (.int .i64) (.int .i64)))))) v0)), (5, .one (.slice 0 0 none))], bx := [(0, .row 0 (.int .i64) b0)], nx := 1 }) v1 v0 b0 := by kernel_rfl
    rw [h]
    have e := congrArg (fun g => impl_path_t2 n g v1 v0 b0) (funext fun v1 => funext fun v0 => funext fun b0 => impl_path_l2_eq n k v1 v0 b0)
    exact e

theorem impl_path_eq (n : Nat) (a0 : List ((ByteArray) × ((Int) × ((((Int) × (Int)) × ((Int) × (Int))) × (((Int) × (Int)) × ((Int) × (Int))))))) (a1 : Int) : runBody ([]) ty 19 n impl_pathkp impl_pathc Go.Proofs.Try.f37.results.toList impl_pathrs impl_pathsp impl_pathbs (a0, (a1, ())) () = impl_path n a0 a1 := by
  have h : runBody ([]) ty 19 n impl_pathkp impl_pathc Go.Proofs.Try.f37.results.toList impl_pathrs impl_pathsp impl_pathbs (a0, (a1, ())) () = impl_path_t n (fun k v1 v0 b0 => iter (interp ([]) ty 19 0 n impl_pathkp (codeAt impl_pathc [1, 1, 0, 0, 0])) (canon 0 (impl_pathkp.loop 2)) (kAt ([]) ty 19 0 n impl_pathkp impl_pathc [1, 1, 0, 0] [] (ending ty 0 Go.Proofs.Try.f37.results.toList impl_pathrs impl_pathbs)) k { env := [(1, .one (.sc (.int .i64 v1))), (0, .one (.list true (.pair .str (.pair (.int .i64) (.pair (.pair (.pair (.int .i64) (.int .i64)) (.pair (.int .i64) (.int .i64))) (.pair (.pair (.int .i64) (.int .i64)) (.pair (.int .i64) (.int .i64)))))) v0)), (5, .one (.slice 0 0 none))], bx := [(0, .row 0 (.int .i64) b0)], nx := 1 }) a0 a1 := by kernel_rfl
  rw [h]
  have e := congrArg (fun h2 => impl_path_t n h2 a0 a1) (funext fun k => funext fun v1 => funext fun v0 => funext fun b0 => impl_path_l2_eq n k v1 v0 b0)
  exact e

theorem impl_path_ok (n : Nat) : FunOk P (impl_pathF n) :=
  funOk_mk (C := []) (N := 19) (kp := impl_pathkp) (c := impl_pathc) (n := n) (G := fun x y => impl_path n x.1 x.2.1) follows (AllOk.mem (trivial : AllOk P ([]))) (by kernel_rfl : P.funcs[37]? = some Go.Proofs.Try.f37) (by kernel_rfl) (by kernel_rfl) (by kernel_rfl)
    (fun x y => impl_path_eq n x.1 x.2.1) (fun _ _ => map_same (fun _ => rfl) _) (fun _ _ _ _ => rfl)

abbrev impl_calc_spanOnsp : List Sp := [.ref 0, .v false (.list (.pair .str (.pair (.int .i64) (.pair (.pair (.pair (.int .i64) (.int .i64)) (.pair (.int .i64) (.int .i64))) (.pair (.pair (.int .i64) (.int .i64)) (.pair (.int .i64) (.int .i64))))))), .v false (.int .i64), .v false (.int .i64)]
abbrev impl_calc_spanOnbs : List (Bs × Bool) := [(.var 79 .bool, true)]
abbrev impl_calc_spanOnrs : List (Bool × List Rp) := [(true, [.v false (.pair (.pair (.int .i64) (.int .i64)) (.pair (.int .i64) (.int .i64)))])]
noncomputable def impl_calc_spanOnkp : Keep := { loop := fun id => match id with | _ => ([], []), join := fun id => match id with | _ => none }
noncomputable def impl_calc_spanOnc : Code := bodyOf Go.Proofs.Try.f41
noncomputable def impl_calc_spanOnF (n : Nat) : Fun := { id := 41, sp := impl_calc_spanOnsp, bs := impl_calc_spanOnbs, rs := impl_calc_spanOnrs, f := fun x y => impl_calc_spanOn n x.2.1 x.2.2.1 x.2.2.2.1 y.1 }

theorem impl_calc_spanOn_eq (n : Nat) (a1 : List ((ByteArray) × ((Int) × ((((Int) × (Int)) × ((Int) × (Int))) × (((Int) × (Int)) × ((Int) × (Int))))))) (a2 : Int) (a3 : Int) (b0 : Bool) : runBody ([impl_pathF n, impl_noneF n, impl_calc_alongF n]) ty 17 n impl_calc_spanOnkp impl_calc_spanOnc Go.Proofs.Try.f41.results.toList impl_calc_spanOnrs impl_calc_spanOnsp impl_calc_spanOnbs ((), (a1, (a2, (a3, ())))) (b0, ()) = impl_calc_spanOn n a1 a2 a3 b0 := by
  have h : runBody ([impl_pathF n, impl_noneF n, impl_calc_alongF n]) ty 17 n impl_calc_spanOnkp impl_calc_spanOnc Go.Proofs.Try.f41.results.toList impl_calc_spanOnrs impl_calc_spanOnsp impl_calc_spanOnbs ((), (a1, (a2, (a3, ())))) (b0, ()) = impl_calc_spanOn_t n a1 a2 a3 b0 := by kernel_rfl
  rw [h]
  rfl

theorem impl_calc_spanOn_ok (n : Nat) : FunOk P (impl_calc_spanOnF n) :=
  funOk_mk (C := [impl_pathF n, impl_noneF n, impl_calc_alongF n]) (N := 17) (kp := impl_calc_spanOnkp) (c := impl_calc_spanOnc) (n := n) (G := fun x y => impl_calc_spanOn n x.2.1 x.2.2.1 x.2.2.2.1 y.1) follows (AllOk.mem (⟨impl_path_ok n, ⟨impl_none_ok n, ⟨impl_calc_along_ok n, trivial⟩⟩⟩ : AllOk P ([impl_pathF n, impl_noneF n, impl_calc_alongF n]))) (by kernel_rfl : P.funcs[41]? = some Go.Proofs.Try.f41) (by kernel_rfl) (by kernel_rfl) (by kernel_rfl)
    (fun x y => impl_calc_spanOn_eq n x.2.1 x.2.2.1 x.2.2.2.1 y.1) (fun _ _ => map_same (fun _ => rfl) _) (fun _ _ _ _ => rfl)

abbrev impl_areValid_1sp : List Sp := [.v true (.pair (.int .i64) (.int .i64))]
abbrev impl_areValid_1bs : List (Bs × Bool) := []
abbrev impl_areValid_1rs : List (Bool × List Rp) := [(false, [.v false .bool])]
noncomputable def impl_areValid_1kp : Keep := { loop := fun id => match id with | _ => ([], []), join := fun id => match id with | _ => none }
noncomputable def impl_areValid_1c : Code := bodyOf Go.Proofs.Try.f99
noncomputable def impl_areValid_1F (n : Nat) : Fun := { id := 99, sp := impl_areValid_1sp, bs := impl_areValid_1bs, rs := impl_areValid_1rs, f := fun x y => impl_areValid_1 n x.1 }

theorem impl_areValid_1_eq (n : Nat) (a0 : (Int) × (Int)) : runBody ([impl_ValidFracF n]) ty 6 n impl_areValid_1kp impl_areValid_1c Go.Proofs.Try.f99.results.toList impl_areValid_1rs impl_areValid_1sp impl_areValid_1bs (a0, ()) () = impl_areValid_1 n a0 := by
  have h : runBody ([impl_ValidFracF n]) ty 6 n impl_areValid_1kp impl_areValid_1c Go.Proofs.Try.f99.results.toList impl_areValid_1rs impl_areValid_1sp impl_areValid_1bs (a0, ()) () = impl_areValid_1_t n a0 := by kernel_rfl
  rw [h]
  rfl

theorem impl_areValid_1_ok (n : Nat) : FunOk P (impl_areValid_1F n) :=
  funOk_mk (C := [impl_ValidFracF n]) (N := 6) (kp := impl_areValid_1kp) (c := impl_areValid_1c) (n := n) (G := fun x y => impl_areValid_1 n x.1) follows (AllOk.mem (⟨impl_ValidFrac_ok n, trivial⟩ : AllOk P ([impl_ValidFracF n]))) (by kernel_rfl : P.funcs[99]? = some Go.Proofs.Try.f99) (by kernel_rfl) (by kernel_rfl) (by kernel_rfl)
    (fun x y => impl_areValid_1_eq n x.1) (fun _ _ => map_same (fun _ => rfl) _) (fun _ _ _ _ => rfl)

abbrev slices_IndexFunc_impl_Frac_impl_Frac_at_impl_areValid_1sp : List Sp := [.v false (.list (.pair (.int .i64) (.int .i64))), .cl 99 []]
abbrev slices_IndexFunc_impl_Frac_impl_Frac_at_impl_areValid_1bs : List (Bs × Bool) := []
abbrev slices_IndexFunc_impl_Frac_impl_Frac_at_impl_areValid_1rs : List (Bool × List Rp) := [(false, [.v false (.int .i64)])]
noncomputable def slices_IndexFunc_impl_Frac_impl_Frac_at_impl_areValid_1kp : Keep := { loop := fun id => match id with | 2 => ([8, 0, 1, 7], []) | _ => ([], []), join := fun id => match id with | _ => none }
noncomputable def slices_IndexFunc_impl_Frac_impl_Frac_at_impl_areValid_1c : Code := bodyOf Go.Proofs.Try.f101
noncomputable def slices_IndexFunc_impl_Frac_impl_Frac_at_impl_areValid_1F (n : Nat) : Fun := { id := 101, sp := slices_IndexFunc_impl_Frac_impl_Frac_at_impl_areValid_1sp, bs := slices_IndexFunc_impl_Frac_impl_Frac_at_impl_areValid_1bs, rs := slices_IndexFunc_impl_Frac_impl_Frac_at_impl_areValid_1rs, f := fun x y => slices_IndexFunc_impl_Frac_impl_Frac_at_impl_areValid_1 n x.1 }

theorem slices_IndexFunc_impl_Frac_impl_Frac_at_impl_areValid_1_l2_eq (n : Nat) : ∀ (k : Nat) (v8 : Int) (v0 : List ((Int) × (Int))) (v7 : Int), iter (interp ([impl_areValid_1F n]) ty 19 0 n slices_IndexFunc_impl_Frac_impl_Frac_at_impl_areValid_1kp (codeAt slices_IndexFunc_impl_Frac_impl_Frac_at_impl_areValid_1c [1, 0, 1, 0, 0])) (canon 0 (slices_IndexFunc_impl_Frac_impl_Frac_at_impl_areValid_1kp.loop 2)) (kAt ([impl_areValid_1F n]) ty 19 0 n slices_IndexFunc_impl_Frac_impl_Frac_at_impl_areValid_1kp slices_IndexFunc_impl_Frac_impl_Frac_at_impl_areValid_1c [1, 0, 1, 0] [] (ending ty 0 Go.Proofs.Try.f101.results.toList slices_IndexFunc_impl_Frac_impl_Frac_at_impl_areValid_1rs slices_IndexFunc_impl_Frac_impl_Frac_at_impl_areValid_1bs)) k { env := [(8, .one (.sc (.int .i64 v8))), (0, .one (.list true (.pair (.int .i64) (.int .i64)) v0)), (1, .one (.clos 99 [])), (7, .one (.sc (.int .i64 v7)))], bx := [], nx := 0 } = slices_IndexFunc_impl_Frac_impl_Frac_at_impl_areValid_1_l2 n k v8 v0 v7
  | 0, _, _, _ => by kernel_rfl
  | k + 1, v8, v0, v7 => by
    have h : iter (interp ([impl_areValid_1F n]) ty 19 0 n slices_IndexFunc_impl_Frac_impl_Frac_at_impl_areValid_1kp (codeAt slices_IndexFunc_impl_Frac_impl_Frac_at_impl_areValid_1c [1, 0, 1, 0, 0])) (canon 0 (slices_IndexFunc_impl_Frac_impl_Frac_at_impl_areValid_1kp.loop 2)) (kAt ([impl_areValid_1F n]) ty 19 0 n slices_IndexFunc_impl_Frac_impl_Frac_at_impl_areValid_1kp slices_IndexFunc_impl_Frac_impl_Frac_at_impl_areValid_1c [1, 0, 1, 0] [] (ending ty 0 Go.Proofs.Try.f101.results.toList slices_IndexFunc_impl_Frac_impl_Frac_at_impl_areValid_1rs slices_IndexFunc_impl_Frac_impl_Frac_at_impl_areValid_1bs)) (k + 1) { env := [(8, .one (.sc (.int .i64 v8))), (0, .one (.list true (.pair (.int .i64) (.int .i64)) v0)), (1, .one (.clos 99 [])), (7, .one (.sc (.int .i64 v7)))], bx := [], nx := 0 } = slices_IndexFunc_impl_Frac_impl_Frac_at_impl_areValid_1_t2 n (fun v8 v0 v7 => iter (interp ([impl_areValid_1F n]) ty 19 0 n slices_IndexFunc_impl_Frac_impl_Frac_at_impl_areValid_1kp (codeAt slices_IndexFunc_impl_Frac_impl_Frac_at_impl_areValid_1c [1, 0, 1, 0, 0])) (canon 0 (slices_IndexFunc_impl_Frac_impl_Frac_at_impl_areValid_1kp.loop 2)) (kAt ([impl_areValid_1F n]) ty 19 0 n slices_IndexFunc_impl_Frac_impl_Frac_at_impl_areValid_1kp slices_IndexFunc_impl_Frac_impl_Frac_at_impl_areValid_1c [1, 0, 1, 0] [] (ending ty 0 Go.Proofs.Try.f101.results.toList slices_IndexFunc_impl_Frac_impl_Frac_at_impl_areValid_1rs slices_IndexFunc_impl_Frac_impl_Frac_at_impl_areValid_1bs)) k { env := [(8, .one (.sc (.int .i64 v8))), (0, .one (.list true (.pair (.int .i64) (.int .i64)) v0)), (1, .one (.clos 99 [])), (7, .one (.sc (.int .i64 v7)))], bx := [], nx := 0 }) v8 v0 v7 := by kernel_rfl
    rw [h]
    have e := congrArg (fun g => slices_IndexFunc_impl_Frac_impl_Frac_at_impl_areValid_1_t2 n g v8 v0 v7) (funext fun v8 => funext fun v0 => funext fun v7 => slices_IndexFunc_impl_Frac_impl_Frac_at_impl_areValid_1_l2_eq n k v8 v0 v7)
    exact e

theorem slices_IndexFunc_impl_Frac_impl_Frac_at_impl_areValid_1_eq (n : Nat) (a0 : List ((Int) × (Int))) : runBody ([impl_areValid_1F n]) ty 19 n slices_IndexFunc_impl_Frac_impl_Frac_at_impl_areValid_1kp slices_IndexFunc_impl_Frac_impl_Frac_at_impl_areValid_1c Go.Proofs.Try.f101.results.toList slices_IndexFunc_impl_Frac_impl_Frac_at_impl_areValid_1rs slices_IndexFunc_impl_Frac_impl_Frac_at_impl_areValid_1sp slices_IndexFunc_impl_Frac_impl_Frac_at_impl_areValid_1bs (a0, ((), ())) () = slices_IndexFunc_impl_Frac_impl_Frac_at_impl_areValid_1 n a0 := by
  have h : runBody ([impl_areValid_1F n]) ty 19 n slices_IndexFunc_impl_Frac_impl_Frac_at_impl_areValid_1kp slices_IndexFunc_impl_Frac_impl_Frac_at_impl_areValid_1c Go.Proofs.Try.f101.results.toList slices_IndexFunc_impl_Frac_impl_Frac_at_impl_areValid_1rs slices_IndexFunc_impl_Frac_impl_Frac_at_impl_areValid_1sp slices_IndexFunc_impl_Frac_impl_Frac_at_impl_areValid_1bs (a0, ((), ())) () = slices_IndexFunc_impl_Frac_impl_Frac_at_impl_areValid_1_t n (fun k v8 v0 v7 => iter (interp ([impl_areValid_1F n]) ty 19 0 n slices_IndexFunc_impl_Frac_impl_Frac_at_impl_areValid_1kp (codeAt slices_IndexFunc_impl_Frac_impl_Frac_at_impl_areValid_1c [1, 0, 1, 0, 0])) (canon 0 (slices_IndexFunc_impl_Frac_impl_Frac_at_impl_areValid_1kp.loop 2)) (kAt ([impl_areValid_1F n]) ty 19 0 n slices_IndexFunc_impl_Frac_impl_Frac_at_impl_areValid_1kp slices_IndexFunc_impl_Frac_impl_Frac_at_impl_areValid_1c [1, 0, 1, 0] [] (ending ty 0 Go.Proofs.Try.f101.results.toList slices_IndexFunc_impl_Frac_impl_Frac_at_impl_areValid_1rs slices_IndexFunc_impl_Frac_impl_Frac_at_impl_areValid_1bs)) k { env := [(8, .one (.sc (.int .i64 v8))), (0, .one (.list true (.pair (.int .i64) (.int .i64)) v0)), (1, .one (.clos 99 [])), (7, .one (.sc (.int .i64 v7)))], bx := [], nx := 0 }) a0 := by kernel_rfl
  rw [h]
  have e := congrArg (fun h2 => slices_IndexFunc_impl_Frac_impl_Frac_at_impl_areValid_1_t n h2 a0) (funext fun k => funext fun v8 => funext fun v0 => funext fun v7 => slices_IndexFunc_impl_Frac_impl_Frac_at_impl_areValid_1_l2_eq n k v8 v0 v7)
  exact e

theorem slices_IndexFunc_impl_Frac_impl_Frac_at_impl_areValid_1_ok (n : Nat) : FunOk P (slices_IndexFunc_impl_Frac_impl_Frac_at_impl_areValid_1F n) :=
  funOk_mk (C := [impl_areValid_1F n]) (N := 19) (kp := slices_IndexFunc_impl_Frac_impl_Frac_at_impl_areValid_1kp) (c := slices_IndexFunc_impl_Frac_impl_Frac_at_impl_areValid_1c) (n := n) (G := fun x y => slices_IndexFunc_impl_Frac_impl_Frac_at_impl_areValid_1 n x.1) follows (AllOk.mem (⟨impl_areValid_1_ok n, trivial⟩ : AllOk P ([impl_areValid_1F n]))) (by kernel_rfl : P.funcs[101]? = some Go.Proofs.Try.f101) (by kernel_rfl) (by kernel_rfl) (by kernel_rfl)
    (fun x y => slices_IndexFunc_impl_Frac_impl_Frac_at_impl_areValid_1_eq n x.1) (fun _ _ => map_same (fun _ => rfl) _) (fun _ _ _ _ => rfl)

abbrev slices_ContainsFunc_impl_Frac_impl_Frac_at_impl_areValid_1sp : List Sp := [.v false (.list (.pair (.int .i64) (.int .i64))), .cl 99 []]
abbrev slices_ContainsFunc_impl_Frac_impl_Frac_at_impl_areValid_1bs : List (Bs × Bool) := []
abbrev slices_ContainsFunc_impl_Frac_impl_Frac_at_impl_areValid_1rs : List (Bool × List Rp) := [(false, [.v false .bool])]
noncomputable def slices_ContainsFunc_impl_Frac_impl_Frac_at_impl_areValid_1kp : Keep := { loop := fun id => match id with | _ => ([], []), join := fun id => match id with | _ => none }
noncomputable def slices_ContainsFunc_impl_Frac_impl_Frac_at_impl_areValid_1c : Code := bodyOf Go.Proofs.Try.f98
noncomputable def slices_ContainsFunc_impl_Frac_impl_Frac_at_impl_areValid_1F (n : Nat) : Fun := { id := 98, sp := slices_ContainsFunc_impl_Frac_impl_Frac_at_impl_areValid_1sp, bs := slices_ContainsFunc_impl_Frac_impl_Frac_at_impl_areValid_1bs, rs := slices_ContainsFunc_impl_Frac_impl_Frac_at_impl_areValid_1rs, f := fun x y => slices_ContainsFunc_impl_Frac_impl_Frac_at_impl_areValid_1 n x.1 }

theorem slices_ContainsFunc_impl_Frac_impl_Frac_at_impl_areValid_1_eq (n : Nat) (a0 : List ((Int) × (Int))) : runBody ([slices_IndexFunc_impl_Frac_impl_Frac_at_impl_areValid_1F n]) ty 9 n slices_ContainsFunc_impl_Frac_impl_Frac_at_impl_areValid_1kp slices_ContainsFunc_impl_Frac_impl_Frac_at_impl_areValid_1c Go.Proofs.Try.f98.results.toList slices_ContainsFunc_impl_Frac_impl_Frac_at_impl_areValid_1rs slices_ContainsFunc_impl_Frac_impl_Frac_at_impl_areValid_1sp slices_ContainsFunc_impl_Frac_impl_Frac_at_impl_areValid_1bs (a0, ((), ())) () = slices_ContainsFunc_impl_Frac_impl_Frac_at_impl_areValid_1 n a0 := by
  have h : runBody ([slices_IndexFunc_impl_Frac_impl_Frac_at_impl_areValid_1F n]) ty 9 n slices_ContainsFunc_impl_Frac_impl_Frac_at_impl_areValid_1kp slices_ContainsFunc_impl_Frac_impl_Frac_at_impl_areValid_1c Go.Proofs.Try.f98.results.toList slices_ContainsFunc_impl_Frac_impl_Frac_at_impl_areValid_1rs slices_ContainsFunc_impl_Frac_impl_Frac_at_impl_areValid_1sp slices_ContainsFunc_impl_Frac_impl_Frac_at_impl_areValid_1bs (a0, ((), ())) () = slices_ContainsFunc_impl_Frac_impl_Frac_at_impl_areValid_1_t n a0 := by kernel_rfl
  rw [h]
  rfl

theorem slices_ContainsFunc_impl_Frac_impl_Frac_at_impl_areValid_1_ok (n : Nat) : FunOk P (slices_ContainsFunc_impl_Frac_impl_Frac_at_impl_areValid_1F n) :=
  funOk_mk (C := [slices_IndexFunc_impl_Frac_impl_Frac_at_impl_areValid_1F n]) (N := 9) (kp := slices_ContainsFunc_impl_Frac_impl_Frac_at_impl_areValid_1kp) (c := slices_ContainsFunc_impl_Frac_impl_Frac_at_impl_areValid_1c) (n := n) (G := fun x y => slices_ContainsFunc_impl_Frac_impl_Frac_at_impl_areValid_1 n x.1) follows (AllOk.mem (⟨slices_IndexFunc_impl_Frac_impl_Frac_at_impl_areValid_1_ok n, trivial⟩ : AllOk P ([slices_IndexFunc_impl_Frac_impl_Frac_at_impl_areValid_1F n]))) (by kernel_rfl : P.funcs[98]? = some Go.Proofs.Try.f98) (by kernel_rfl) (by kernel_rfl) (by kernel_rfl)
    (fun x y => slices_ContainsFunc_impl_Frac_impl_Frac_at_impl_areValid_1_eq n x.1) (fun _ _ => map_same (fun _ => rfl) _) (fun _ _ _ _ => rfl)

abbrev impl_areValidsp : List Sp := [.v false (.list (.pair (.int .i64) (.int .i64)))]
abbrev impl_areValidbs : List (Bs × Bool) := []
abbrev impl_areValidrs : List (Bool × List Rp) := [(false, [.v false .bool])]
noncomputable def impl_areValidkp : Keep := { loop := fun id => match id with | _ => ([], []), join := fun id => match id with | _ => none }
noncomputable def impl_areValidc : Code := bodyOf Go.Proofs.Try.f95
noncomputable def impl_areValidF (n : Nat) : Fun := { id := 95, sp := impl_areValidsp, bs := impl_areValidbs, rs := impl_areValidrs, f := fun x y => impl_areValid n x.1 }

theorem impl_areValid_eq (n : Nat) (a0 : List ((Int) × (Int))) : runBody ([slices_ContainsFunc_impl_Frac_impl_Frac_at_impl_areValid_1F n]) ty 6 n impl_areValidkp impl_areValidc Go.Proofs.Try.f95.results.toList impl_areValidrs impl_areValidsp impl_areValidbs (a0, ()) () = impl_areValid n a0 := by
  have h : runBody ([slices_ContainsFunc_impl_Frac_impl_Frac_at_impl_areValid_1F n]) ty 6 n impl_areValidkp impl_areValidc Go.Proofs.Try.f95.results.toList impl_areValidrs impl_areValidsp impl_areValidbs (a0, ()) () = impl_areValid_t n a0 := by kernel_rfl
  rw [h]
  rfl

theorem impl_areValid_ok (n : Nat) : FunOk P (impl_areValidF n) :=
  funOk_mk (C := [slices_ContainsFunc_impl_Frac_impl_Frac_at_impl_areValid_1F n]) (N := 6) (kp := impl_areValidkp) (c := impl_areValidc) (n := n) (G := fun x y => impl_areValid n x.1) follows (AllOk.mem (⟨slices_ContainsFunc_impl_Frac_impl_Frac_at_impl_areValid_1_ok n, trivial⟩ : AllOk P ([slices_ContainsFunc_impl_Frac_impl_Frac_at_impl_areValid_1F n]))) (by kernel_rfl : P.funcs[95]? = some Go.Proofs.Try.f95) (by kernel_rfl) (by kernel_rfl) (by kernel_rfl)
    (fun x y => impl_areValid_eq n x.1) (fun _ _ => map_same (fun _ => rfl) _) (fun _ _ _ _ => rfl)

abbrev impl_comparesp : List Sp := [.v true (.pair (.int .i64) (.int .i64)), .v true (.pair (.int .i64) (.int .i64))]
abbrev impl_comparebs : List (Bs × Bool) := []
abbrev impl_comparers : List (Bool × List Rp) := [(false, [.v false (.int .i64)])]
noncomputable def impl_comparekp : Keep := { loop := fun id => match id with | _ => ([], []), join := fun id => match id with | _ => none }
noncomputable def impl_comparec : Code := bodyOf Go.Proofs.Try.f96
noncomputable def impl_compareF (n : Nat) : Fun := { id := 96, sp := impl_comparesp, bs := impl_comparebs, rs := impl_comparers, f := fun x y => impl_compare n x.1 x.2.1 }

theorem impl_compare_eq (n : Nat) (a0 : (Int) × (Int)) (a1 : (Int) × (Int)) : runBody ([]) ty 25 n impl_comparekp impl_comparec Go.Proofs.Try.f96.results.toList impl_comparers impl_comparesp impl_comparebs (a0, (a1, ())) () = impl_compare n a0 a1 := by
  have h : runBody ([]) ty 25 n impl_comparekp impl_comparec Go.Proofs.Try.f96.results.toList impl_comparers impl_comparesp impl_comparebs (a0, (a1, ())) () = impl_compare_t n a0 a1 := by kernel_rfl
  rw [h]
  rfl

theorem impl_compare_ok (n : Nat) : FunOk P (impl_compareF n) :=
  funOk_mk (C := []) (N := 25) (kp := impl_comparekp) (c := impl_comparec) (n := n) (G := fun x y => impl_compare n x.1 x.2.1) follows (AllOk.mem (trivial : AllOk P ([]))) (by kernel_rfl : P.funcs[96]? = some Go.Proofs.Try.f96) (by kernel_rfl) (by kernel_rfl) (by kernel_rfl)
    (fun x y => impl_compare_eq n x.1 x.2.1) (fun _ _ => map_same (fun _ => rfl) _) (fun _ _ _ _ => rfl)

abbrev impl_ValidSpansp : List Sp := [.v true (.pair (.pair (.int .i64) (.int .i64)) (.pair (.int .i64) (.int .i64)))]
abbrev impl_ValidSpanbs : List (Bs × Bool) := []
abbrev impl_ValidSpanrs : List (Bool × List Rp) := [(false, [.v false .bool])]
noncomputable def impl_ValidSpankp : Keep := { loop := fun id => match id with | _ => ([], []), join := fun id => match id with | _ => none }
noncomputable def impl_ValidSpanc : Code := bodyOf Go.Proofs.Try.f87
noncomputable def impl_ValidSpanF (n : Nat) : Fun := { id := 87, sp := impl_ValidSpansp, bs := impl_ValidSpanbs, rs := impl_ValidSpanrs, f := fun x y => impl_ValidSpan n x.1 }

theorem impl_ValidSpan_eq (n : Nat) (a0 : ((Int) × (Int)) × ((Int) × (Int))) : runBody ([impl_areValidF n, impl_compareF n]) ty 17 n impl_ValidSpankp impl_ValidSpanc Go.Proofs.Try.f87.results.toList impl_ValidSpanrs impl_ValidSpansp impl_ValidSpanbs (a0, ()) () = impl_ValidSpan n a0 := by
  have h : runBody ([impl_areValidF n, impl_compareF n]) ty 17 n impl_ValidSpankp impl_ValidSpanc Go.Proofs.Try.f87.results.toList impl_ValidSpanrs impl_ValidSpansp impl_ValidSpanbs (a0, ()) () = impl_ValidSpan_t n a0 := by kernel_rfl
  rw [h]
  rfl

theorem impl_ValidSpan_ok (n : Nat) : FunOk P (impl_ValidSpanF n) :=
  funOk_mk (C := [impl_areValidF n, impl_compareF n]) (N := 17) (kp := impl_ValidSpankp) (c := impl_ValidSpanc) (n := n) (G := fun x y => impl_ValidSpan n x.1) follows (AllOk.mem (⟨impl_areValid_ok n, ⟨impl_compare_ok n, trivial⟩⟩ : AllOk P ([impl_areValidF n, impl_compareF n]))) (by kernel_rfl : P.funcs[87]? = some Go.Proofs.Try.f87) (by kernel_rfl) (by kernel_rfl) (by kernel_rfl)
    (fun x y => impl_ValidSpan_eq n x.1) (fun _ _ => map_same (fun _ => rfl) _) (fun _ _ _ _ => rfl)

abbrev impl_isWordsp : List Sp := [.v false .str]
abbrev impl_isWordbs : List (Bs × Bool) := []
abbrev impl_isWordrs : List (Bool × List Rp) := [(false, [.v false .bool])]
noncomputable def impl_isWordkp : Keep := { loop := fun id => match id with | 2 => ([6, 0, 5], []) | _ => ([], []), join := fun id => match id with | _ => none }
noncomputable def impl_isWordc : Code := bodyOf Go.Proofs.Try.f84
noncomputable def impl_isWordF (n : Nat) : Fun := { id := 84, sp := impl_isWordsp, bs := impl_isWordbs, rs := impl_isWordrs, f := fun x y => impl_isWord n x.1 }

theorem impl_isWord_l2_eq (n : Nat) : ∀ (k : Nat) (v6 : Int) (v0 : ByteArray) (v5 : Int), iter (interp ([impl_withinF n]) ty 23 0 n impl_isWordkp (codeAt impl_isWordc [1, 0, 1, 0, 0])) (canon 0 (impl_isWordkp.loop 2)) (kAt ([impl_withinF n]) ty 23 0 n impl_isWordkp impl_isWordc [1, 0, 1, 0] [] (ending ty 0 Go.Proofs.Try.f84.results.toList impl_isWordrs impl_isWordbs)) k { env := [(6, .one (.sc (.int .i64 v6))), (0, .one (.sc (.string v0))), (5, .one (.sc (.int .i64 v5)))], bx := [], nx := 0 } = impl_isWord_l2 n k v6 v0 v5
  | 0, _, _, _ => by kernel_rfl
  | k + 1, v6, v0, v5 => by
    have h : iter (interp ([impl_withinF n]) ty 23 0 n impl_isWordkp (codeAt impl_isWordc [1, 0, 1, 0, 0])) (canon 0 (impl_isWordkp.loop 2)) (kAt ([impl_withinF n]) ty 23 0 n impl_isWordkp impl_isWordc [1, 0, 1, 0] [] (ending ty 0 Go.Proofs.Try.f84.results.toList impl_isWordrs impl_isWordbs)) (k + 1) { env := [(6, .one (.sc (.int .i64 v6))), (0, .one (.sc (.string v0))), (5, .one (.sc (.int .i64 v5)))], bx := [], nx := 0 } = impl_isWord_t2 n (fun v6 v0 v5 => iter (interp ([impl_withinF n]) ty 23 0 n impl_isWordkp (codeAt impl_isWordc [1, 0, 1, 0, 0])) (canon 0 (impl_isWordkp.loop 2)) (kAt ([impl_withinF n]) ty 23 0 n impl_isWordkp impl_isWordc [1, 0, 1, 0] [] (ending ty 0 Go.Proofs.Try.f84.results.toList impl_isWordrs impl_isWordbs)) k { env := [(6, .one (.sc (.int .i64 v6))), (0, .one (.sc (.string v0))), (5, .one (.sc (.int .i64 v5)))], bx := [], nx := 0 }) v6 v0 v5 := by kernel_rfl
    rw [h]
    have e := congrArg (fun g => impl_isWord_t2 n g v6 v0 v5) (funext fun v6 => funext fun v0 => funext fun v5 => impl_isWord_l2_eq n k v6 v0 v5)
    exact e

theorem impl_isWord_eq (n : Nat) (a0 : ByteArray) : runBody ([impl_withinF n]) ty 23 n impl_isWordkp impl_isWordc Go.Proofs.Try.f84.results.toList impl_isWordrs impl_isWordsp impl_isWordbs (a0, ()) () = impl_isWord n a0 := by
  have h : runBody ([impl_withinF n]) ty 23 n impl_isWordkp impl_isWordc Go.Proofs.Try.f84.results.toList impl_isWordrs impl_isWordsp impl_isWordbs (a0, ()) () = impl_isWord_t n (fun k v6 v0 v5 => iter (interp ([impl_withinF n]) ty 23 0 n impl_isWordkp (codeAt impl_isWordc [1, 0, 1, 0, 0])) (canon 0 (impl_isWordkp.loop 2)) (kAt ([impl_withinF n]) ty 23 0 n impl_isWordkp impl_isWordc [1, 0, 1, 0] [] (ending ty 0 Go.Proofs.Try.f84.results.toList impl_isWordrs impl_isWordbs)) k { env := [(6, .one (.sc (.int .i64 v6))), (0, .one (.sc (.string v0))), (5, .one (.sc (.int .i64 v5)))], bx := [], nx := 0 }) a0 := by kernel_rfl
  rw [h]
  have e := congrArg (fun h2 => impl_isWord_t n h2 a0) (funext fun k => funext fun v6 => funext fun v0 => funext fun v5 => impl_isWord_l2_eq n k v6 v0 v5)
  exact e

theorem impl_isWord_ok (n : Nat) : FunOk P (impl_isWordF n) :=
  funOk_mk (C := [impl_withinF n]) (N := 23) (kp := impl_isWordkp) (c := impl_isWordc) (n := n) (G := fun x y => impl_isWord n x.1) follows (AllOk.mem (⟨impl_within_ok n, trivial⟩ : AllOk P ([impl_withinF n]))) (by kernel_rfl : P.funcs[84]? = some Go.Proofs.Try.f84) (by kernel_rfl) (by kernel_rfl) (by kernel_rfl)
    (fun x y => impl_isWord_eq n x.1) (fun _ _ => map_same (fun _ => rfl) _) (fun _ _ _ _ => rfl)

abbrev impl_ValidChain_1sp : List Sp := [.v true (.pair .str (.pair (.int .i64) (.pair (.pair (.pair (.int .i64) (.int .i64)) (.pair (.int .i64) (.int .i64))) (.pair (.pair (.int .i64) (.int .i64)) (.pair (.int .i64) (.int .i64)))))), .ref 0]
abbrev impl_ValidChain_1bs : List (Bs × Bool) := [(.var 72 (.pair .str (.pair (.int .i64) (.pair (.pair (.pair (.int .i64) (.int .i64)) (.pair (.int .i64) (.int .i64))) (.pair (.pair (.int .i64) (.int .i64)) (.pair (.int .i64) (.int .i64)))))), true)]
abbrev impl_ValidChain_1rs : List (Bool × List Rp) := [(false, [.v false .bool])]
noncomputable def impl_ValidChain_1kp : Keep := { loop := fun id => match id with | _ => ([], []), join := fun id => match id with | _ => none }
noncomputable def impl_ValidChain_1c : Code := bodyOf Go.Proofs.Try.f86
noncomputable def impl_ValidChain_1F (n : Nat) : Fun := { id := 86, sp := impl_ValidChain_1sp, bs := impl_ValidChain_1bs, rs := impl_ValidChain_1rs, f := fun x y => impl_ValidChain_1 n x.1 y.1 }

theorem impl_ValidChain_1_eq (n : Nat) (a0 : (ByteArray) × ((Int) × ((((Int) × (Int)) × ((Int) × (Int))) × (((Int) × (Int)) × ((Int) × (Int)))))) (b0 : (ByteArray) × ((Int) × ((((Int) × (Int)) × ((Int) × (Int))) × (((Int) × (Int)) × ((Int) × (Int)))))) : runBody ([]) ty 9 n impl_ValidChain_1kp impl_ValidChain_1c Go.Proofs.Try.f86.results.toList impl_ValidChain_1rs impl_ValidChain_1sp impl_ValidChain_1bs (a0, ((), ())) (b0, ()) = impl_ValidChain_1 n a0 b0 := by
  have h : runBody ([]) ty 9 n impl_ValidChain_1kp impl_ValidChain_1c Go.Proofs.Try.f86.results.toList impl_ValidChain_1rs impl_ValidChain_1sp impl_ValidChain_1bs (a0, ((), ())) (b0, ()) = impl_ValidChain_1_t n a0 b0 := by kernel_rfl
  rw [h]
  rfl

theorem impl_ValidChain_1_ok (n : Nat) : FunOk P (impl_ValidChain_1F n) :=
  funOk_mk (C := []) (N := 9) (kp := impl_ValidChain_1kp) (c := impl_ValidChain_1c) (n := n) (G := fun x y => impl_ValidChain_1 n x.1 y.1) follows (AllOk.mem (trivial : AllOk P ([]))) (by kernel_rfl : P.funcs[86]? = some Go.Proofs.Try.f86) (by kernel_rfl) (by kernel_rfl) (by kernel_rfl)
    (fun x y => impl_ValidChain_1_eq n x.1 y.1) (fun _ _ => map_same (fun _ => rfl) _) (fun _ _ _ _ => rfl)

abbrev slices_IndexFunc_impl_Standard_impl_Standard_at_impl_ValidChain_1sp : List Sp := [.v false (.list (.pair .str (.pair (.int .i64) (.pair (.pair (.pair (.int .i64) (.int .i64)) (.pair (.int .i64) (.int .i64))) (.pair (.pair (.int .i64) (.int .i64)) (.pair (.int .i64) (.int .i64))))))), .cl 86 [0]]
abbrev slices_IndexFunc_impl_Standard_impl_Standard_at_impl_ValidChain_1bs : List (Bs × Bool) := [(.var 72 (.pair .str (.pair (.int .i64) (.pair (.pair (.pair (.int .i64) (.int .i64)) (.pair (.int .i64) (.int .i64))) (.pair (.pair (.int .i64) (.int .i64)) (.pair (.int .i64) (.int .i64)))))), true)]
abbrev slices_IndexFunc_impl_Standard_impl_Standard_at_impl_ValidChain_1rs : List (Bool × List Rp) := [(false, [.v false (.int .i64)])]
noncomputable def slices_IndexFunc_impl_Standard_impl_Standard_at_impl_ValidChain_1kp : Keep := { loop := fun id => match id with | 2 => ([8, 0, 1, 7], []) | _ => ([], []), join := fun id => match id with | _ => none }
noncomputable def slices_IndexFunc_impl_Standard_impl_Standard_at_impl_ValidChain_1c : Code := bodyOf Go.Proofs.Try.f94
noncomputable def slices_IndexFunc_impl_Standard_impl_Standard_at_impl_ValidChain_1F (n : Nat) : Fun := { id := 94, sp := slices_IndexFunc_impl_Standard_impl_Standard_at_impl_ValidChain_1sp, bs := slices_IndexFunc_impl_Standard_impl_Standard_at_impl_ValidChain_1bs, rs := slices_IndexFunc_impl_Standard_impl_Standard_at_impl_ValidChain_1rs, f := fun x y => slices_IndexFunc_impl_Standard_impl_Standard_at_impl_ValidChain_1 n x.1 y.1 }

theorem slices_IndexFunc_impl_Standard_impl_Standard_at_impl_ValidChain_1_l2_eq (n : Nat) : ∀ (k : Nat) (v8 : Int) (v0 : List ((ByteArray) × ((Int) × ((((Int) × (Int)) × ((Int) × (Int))) × (((Int) × (Int)) × ((Int) × (Int))))))) (v7 : Int) (b0_0 : ByteArray) (b0_1 : Int) (b0_2 : Int) (b0_3 : Int) (b0_4 : Int) (b0_5 : Int) (b0_6 : Int) (b0_7 : Int) (b0_8 : Int) (b0_9 : Int), iter (interp ([impl_ValidChain_1F n]) ty 19 1 n slices_IndexFunc_impl_Standard_impl_Standard_at_impl_ValidChain_1kp (codeAt slices_IndexFunc_impl_Standard_impl_Standard_at_impl_ValidChain_1c [1, 0, 1, 0, 0])) (canon 1 (slices_IndexFunc_impl_Standard_impl_Standard_at_impl_ValidChain_1kp.loop 2)) (kAt ([impl_ValidChain_1F n]) ty 19 1 n slices_IndexFunc_impl_Standard_impl_Standard_at_impl_ValidChain_1kp slices_IndexFunc_impl_Standard_impl_Standard_at_impl_ValidChain_1c [1, 0, 1, 0] [] (ending ty 1 Go.Proofs.Try.f94.results.toList slices_IndexFunc_impl_Standard_impl_Standard_at_impl_ValidChain_1rs slices_IndexFunc_impl_Standard_impl_Standard_at_impl_ValidChain_1bs)) k { env := [(8, .one (.sc (.int .i64 v8))), (0, .one (.list true (.pair .str (.pair (.int .i64) (.pair (.pair (.pair (.int .i64) (.int .i64)) (.pair (.int .i64) (.int .i64))) (.pair (.pair (.int .i64) (.int .i64)) (.pair (.int .i64) (.int .i64)))))) v0)), (1, .one (.clos 86 (0 :: []))), (7, .one (.sc (.int .i64 v7)))], bx := [(0, .var 72 [.sc (.string b0_0), .sc (.int .i64 b0_1), .sc (.int .i64 b0_2), .sc (.int .i64 b0_3), .sc (.int .i64 b0_4), .sc (.int .i64 b0_5), .sc (.int .i64 b0_6), .sc (.int .i64 b0_7), .sc (.int .i64 b0_8), .sc (.int .i64 b0_9)])], nx := 1 } = slices_IndexFunc_impl_Standard_impl_Standard_at_impl_ValidChain_1_l2 n k v8 v0 v7 b0_0 b0_1 b0_2 b0_3 b0_4 b0_5 b0_6 b0_7 b0_8 b0_9
  | 0, _, _, _, _, _, _, _, _, _, _, _, _, _ => by kernel_rfl
  | k + 1, v8, v0, v7, b0_0, b0_1, b0_2, b0_3, b0_4, b0_5, b0_6, b0_7, b0_8, b0_9 => by
    have h : iter (interp ([impl_ValidChain_1F n]) ty 19 1 n slices_IndexFunc_impl_Standard_impl_Standard_at_impl_ValidChain_1kp (codeAt slices_IndexFunc_impl_Standard_impl_Standard_at_impl_ValidChain_1c [1, 0, 1, 0, 0])) (canon 1 (slices_IndexFunc_impl_Standard_impl_Standard_at_impl_ValidChain_1kp.loop 2)) (kAt ([impl_ValidChain_1F n]) ty 19 1 n slices_IndexFunc_impl_Standard_impl_Standard_at_impl_ValidChain_1kp slices_IndexFunc_impl_Standard_impl_Standard_at_impl_ValidChain_1c [1, 0, 1, 0] [] (ending ty 1 Go.Proofs.Try.f94.results.toList slices_IndexFunc_impl_Standard_impl_Standard_at_impl_ValidChain_1rs slices_IndexFunc_impl_Standard_impl_Standard_at_impl_ValidChain_1bs)) (k + 1) { env := [(8, .one (.sc (.int .i64 v8))), (0, .one (.list true (.pair .str (.pair (.int .i64) (.pair (.pair (.pair (.int .i64) (.int .i64)) (.pair (.int .i64) (.int .i64))) (.pair (.pair (.int .i64) (.int .i64)) (.pair (.int .i64) (.int .i64)))))) v0)), (1, .one (.clos 86 (0 :: []))), (7, .one (.sc (.int .i64 v7)))], bx := [(0, .var 72 [.sc (.string b0_0), .sc (.int .i64 b0_1), .sc (.int .i64 b0_2), .sc (.int .i64 b0_3), .sc (.int .i64 b0_4), .sc (.int .i64 b0_5), .sc (.int .i64 b0_6), .sc (.int .i64 b0_7), .sc (.int .i64 b0_8), .sc (.int .i64 b0_9)])], nx := 1 } = slices_IndexFunc_impl_Standard_impl_Standard_at_impl_ValidChain_1_t2 n (fun v8 v0 v7 b0_0 b0_1 b0_2 b0_3 b0_4 b0_5 b0_6 b0_7 b0_8 b0_9 => iter (interp ([impl_ValidChain_1F n]) ty 19 1 n slices_IndexFunc_impl_Standard_impl_Standard_at_impl_ValidChain_1kp (codeAt slices_IndexFunc_impl_Standard_impl_Standard_at_impl_ValidChain_1c [1, 0, 1, 0, 0])) (canon 1 (slices_IndexFunc_impl_Standard_impl_Standard_at_impl_ValidChain_1kp.loop 2)) (kAt ([impl_ValidChain_1F n]) ty 19 1 n slices_IndexFunc_impl_Standard_impl_Standard_at_impl_ValidChain_1kp slices_IndexFunc_impl_Standard_impl_Standard_at_impl_ValidChain_1c [1, 0, 1, 0] [] (ending ty 1 Go.Proofs.Try.f94.results.toList slices_IndexFunc_impl_Standard_impl_Standard_at_impl_ValidChain_1rs slices_IndexFunc_impl_Standard_impl_Standard_at_impl_ValidChain_1bs)) k { env := [(8, .one (.sc (.int .i64 v8))), (0, .one (.list true (.pair .str (.pair (.int .i64) (.pair (.pair (.pair (.int .i64) (.int .i64)) (.pair (.int .i64) (.int .i64))) (.pair (.pair (.int .i64) (.int .i64)) (.pair (.int .i64) (.int .i64)))))) v0)), (1, .one (.clos 86 (0 :: []))), (7, .one (.sc (.int .i64 v7)))], bx := [(0, .var 72 [.sc (.string b0_0), .sc (.int .i64 b0_1), .sc (.int .i64 b0_2), .sc (.int .i64 b0_3), .sc (.int .i64 b0_4), .sc (.int .i64 b0_5), .sc (.int .i64 b0_6), .sc (.int .i64 b0_7), .sc (.int .i64 b0_8), .sc (.int .i64 b0_9)])], nx := 1 }) v8 v0 v7 b0_0 b0_1 b0_2 b0_3 b0_4 b0_5 b0_6 b0_7 b0_8 b0_9 := by kernel_rfl
    rw [h]
    have e := congrArg (fun g => slices_IndexFunc_impl_Standard_impl_Standard_at_impl_ValidChain_1_t2 n g v8 v0 v7 b0_0 b0_1 b0_2 b0_3 b0_4 b0_5 b0_6 b0_7 b0_8 b0_9) (funext fun v8 => funext fun v0 => funext fun v7 => funext fun b0_0 => funext fun b0_1 => funext fun b0_2 => funext fun b0_3 => funext fun b0_4 => funext fun b0_5 => funext fun b0_6 => funext fun b0_7 => funext fun b0_8 => funext fun b0_9 => slices_IndexFunc_impl_Standard_impl_Standard_at_impl_ValidChain_1_l2_eq n k v8 v0 v7 b0_0 b0_1 b0_2 b0_3 b0_4 b0_5 b0_6 b0_7 b0_8 b0_9)
    exact e

theorem slices_IndexFunc_impl_Standard_impl_Standard_at_impl_ValidChain_1_eq (n : Nat) (a0 : List ((ByteArray) × ((Int) × ((((Int) × (Int)) × ((Int) × (Int))) × (((Int) × (Int)) × ((Int) × (Int))))))) (b0 : (ByteArray) × ((Int) × ((((Int) × (Int)) × ((Int) × (Int))) × (((Int) × (Int)) × ((Int) × (Int)))))) : runBody ([impl_ValidChain_1F n]) ty 19 n slices_IndexFunc_impl_Standard_impl_Standard_at_impl_ValidChain_1kp slices_IndexFunc_impl_Standard_impl_Standard_at_impl_ValidChain_1c Go.Proofs.Try.f94.results.toList slices_IndexFunc_impl_Standard_impl_Standard_at_impl_ValidChain_1rs slices_IndexFunc_impl_Standard_impl_Standard_at_impl_ValidChain_1sp slices_IndexFunc_impl_Standard_impl_Standard_at_impl_ValidChain_1bs (a0, ((), ())) (b0, ()) = slices_IndexFunc_impl_Standard_impl_Standard_at_impl_ValidChain_1 n a0 b0 := by
  have h : runBody ([impl_ValidChain_1F n]) ty 19 n slices_IndexFunc_impl_Standard_impl_Standard_at_impl_ValidChain_1kp slices_IndexFunc_impl_Standard_impl_Standard_at_impl_ValidChain_1c Go.Proofs.Try.f94.results.toList slices_IndexFunc_impl_Standard_impl_Standard_at_impl_ValidChain_1rs slices_IndexFunc_impl_Standard_impl_Standard_at_impl_ValidChain_1sp slices_IndexFunc_impl_Standard_impl_Standard_at_impl_ValidChain_1bs (a0, ((), ())) (b0, ()) = slices_IndexFunc_impl_Standard_impl_Standard_at_impl_ValidChain_1_t n (fun k v8 v0 v7 b0_0 b0_1 b0_2 b0_3 b0_4 b0_5 b0_6 b0_7 b0_8 b0_9 => iter (interp ([impl_ValidChain_1F n]) ty 19 1 n slices_IndexFunc_impl_Standard_impl_Standard_at_impl_ValidChain_1kp (codeAt slices_IndexFunc_impl_Standard_impl_Standard_at_impl_ValidChain_1c [1, 0, 1, 0, 0])) (canon 1 (slices_IndexFunc_impl_Standard_impl_Standard_at_impl_ValidChain_1kp.loop 2)) (kAt ([impl_ValidChain_1F n]) ty 19 1 n slices_IndexFunc_impl_Standard_impl_Standard_at_impl_ValidChain_1kp slices_IndexFunc_impl_Standard_impl_Standard_at_impl_ValidChain_1c [1, 0, 1, 0] [] (ending ty 1 Go.Proofs.Try.f94.results.toList slices_IndexFunc_impl_Standard_impl_Standard_at_impl_ValidChain_1rs slices_IndexFunc_impl_Standard_impl_Standard_at_impl_ValidChain_1bs)) k { env := [(8, .one (.sc (.int .i64 v8))), (0, .one (.list true (.pair .str (.pair (.int .i64) (.pair (.pair (.pair (.int .i64) (.int .i64)) (.pair (.int .i64) (.int .i64))) (.pair (.pair (.int .i64) (.int .i64)) (.pair (.int .i64) (.int .i64)))))) v0)), (1, .one (.clos 86 (0 :: []))), (7, .one (.sc (.int .i64 v7)))], bx := [(0, .var 72 [.sc (.string b0_0), .sc (.int .i64 b0_1), .sc (.int .i64 b0_2), .sc (.int .i64 b0_3), .sc (.int .i64 b0_4), .sc (.int .i64 b0_5), .sc (.int .i64 b0_6), .sc (.int .i64 b0_7), .sc (.int .i64 b0_8), .sc (.int .i64 b0_9)])], nx := 1 }) a0 b0 := by kernel_rfl
  rw [h]
  have e := congrArg (fun h2 => slices_IndexFunc_impl_Standard_impl_Standard_at_impl_ValidChain_1_t n h2 a0 b0) (funext fun k => funext fun v8 => funext fun v0 => funext fun v7 => funext fun b0_0 => funext fun b0_1 => funext fun b0_2 => funext fun b0_3 => funext fun b0_4 => funext fun b0_5 => funext fun b0_6 => funext fun b0_7 => funext fun b0_8 => funext fun b0_9 => slices_IndexFunc_impl_Standard_impl_Standard_at_impl_ValidChain_1_l2_eq n k v8 v0 v7 b0_0 b0_1 b0_2 b0_3 b0_4 b0_5 b0_6 b0_7 b0_8 b0_9)
  exact e

theorem slices_IndexFunc_impl_Standard_impl_Standard_at_impl_ValidChain_1_ok (n : Nat) : FunOk P (slices_IndexFunc_impl_Standard_impl_Standard_at_impl_ValidChain_1F n) :=
  funOk_mk (C := [impl_ValidChain_1F n]) (N := 19) (kp := slices_IndexFunc_impl_Standard_impl_Standard_at_impl_ValidChain_1kp) (c := slices_IndexFunc_impl_Standard_impl_Standard_at_impl_ValidChain_1c) (n := n) (G := fun x y => slices_IndexFunc_impl_Standard_impl_Standard_at_impl_ValidChain_1 n x.1 y.1) follows (AllOk.mem (⟨impl_ValidChain_1_ok n, trivial⟩ : AllOk P ([impl_ValidChain_1F n]))) (by kernel_rfl : P.funcs[94]? = some Go.Proofs.Try.f94) (by kernel_rfl) (by kernel_rfl) (by kernel_rfl)
    (fun x y => slices_IndexFunc_impl_Standard_impl_Standard_at_impl_ValidChain_1_eq n x.1 y.1) (fun _ _ => map_same (fun _ => rfl) _) (fun _ _ _ _ => rfl)

abbrev slices_ContainsFunc_impl_Standard_impl_Standard_at_impl_ValidChain_1sp : List Sp := [.v false (.list (.pair .str (.pair (.int .i64) (.pair (.pair (.pair (.int .i64) (.int .i64)) (.pair (.int .i64) (.int .i64))) (.pair (.pair (.int .i64) (.int .i64)) (.pair (.int .i64) (.int .i64))))))), .cl 86 [0]]
abbrev slices_ContainsFunc_impl_Standard_impl_Standard_at_impl_ValidChain_1bs : List (Bs × Bool) := [(.var 72 (.pair .str (.pair (.int .i64) (.pair (.pair (.pair (.int .i64) (.int .i64)) (.pair (.int .i64) (.int .i64))) (.pair (.pair (.int .i64) (.int .i64)) (.pair (.int .i64) (.int .i64)))))), true)]
abbrev slices_ContainsFunc_impl_Standard_impl_Standard_at_impl_ValidChain_1rs : List (Bool × List Rp) := [(false, [.v false .bool])]
noncomputable def slices_ContainsFunc_impl_Standard_impl_Standard_at_impl_ValidChain_1kp : Keep := { loop := fun id => match id with | _ => ([], []), join := fun id => match id with | _ => none }
noncomputable def slices_ContainsFunc_impl_Standard_impl_Standard_at_impl_ValidChain_1c : Code := bodyOf Go.Proofs.Try.f85
noncomputable def slices_ContainsFunc_impl_Standard_impl_Standard_at_impl_ValidChain_1F (n : Nat) : Fun := { id := 85, sp := slices_ContainsFunc_impl_Standard_impl_Standard_at_impl_ValidChain_1sp, bs := slices_ContainsFunc_impl_Standard_impl_Standard_at_impl_ValidChain_1bs, rs := slices_ContainsFunc_impl_Standard_impl_Standard_at_impl_ValidChain_1rs, f := fun x y => slices_ContainsFunc_impl_Standard_impl_Standard_at_impl_ValidChain_1 n x.1 y.1 }

theorem slices_ContainsFunc_impl_Standard_impl_Standard_at_impl_ValidChain_1_eq (n : Nat) (a0 : List ((ByteArray) × ((Int) × ((((Int) × (Int)) × ((Int) × (Int))) × (((Int) × (Int)) × ((Int) × (Int))))))) (b0 : (ByteArray) × ((Int) × ((((Int) × (Int)) × ((Int) × (Int))) × (((Int) × (Int)) × ((Int) × (Int)))))) : runBody ([slices_IndexFunc_impl_Standard_impl_Standard_at_impl_ValidChain_1F n]) ty 9 n slices_ContainsFunc_impl_Standard_impl_Standard_at_impl_ValidChain_1kp slices_ContainsFunc_impl_Standard_impl_Standard_at_impl_ValidChain_1c Go.Proofs.Try.f85.results.toList slices_ContainsFunc_impl_Standard_impl_Standard_at_impl_ValidChain_1rs slices_ContainsFunc_impl_Standard_impl_Standard_at_impl_ValidChain_1sp slices_ContainsFunc_impl_Standard_impl_Standard_at_impl_ValidChain_1bs (a0, ((), ())) (b0, ()) = slices_ContainsFunc_impl_Standard_impl_Standard_at_impl_ValidChain_1 n a0 b0 := by
  have h : runBody ([slices_IndexFunc_impl_Standard_impl_Standard_at_impl_ValidChain_1F n]) ty 9 n slices_ContainsFunc_impl_Standard_impl_Standard_at_impl_ValidChain_1kp slices_ContainsFunc_impl_Standard_impl_Standard_at_impl_ValidChain_1c Go.Proofs.Try.f85.results.toList slices_ContainsFunc_impl_Standard_impl_Standard_at_impl_ValidChain_1rs slices_ContainsFunc_impl_Standard_impl_Standard_at_impl_ValidChain_1sp slices_ContainsFunc_impl_Standard_impl_Standard_at_impl_ValidChain_1bs (a0, ((), ())) (b0, ()) = slices_ContainsFunc_impl_Standard_impl_Standard_at_impl_ValidChain_1_t n a0 b0 := by kernel_rfl
  rw [h]
  rfl

theorem slices_ContainsFunc_impl_Standard_impl_Standard_at_impl_ValidChain_1_ok (n : Nat) : FunOk P (slices_ContainsFunc_impl_Standard_impl_Standard_at_impl_ValidChain_1F n) :=
  funOk_mk (C := [slices_IndexFunc_impl_Standard_impl_Standard_at_impl_ValidChain_1F n]) (N := 9) (kp := slices_ContainsFunc_impl_Standard_impl_Standard_at_impl_ValidChain_1kp) (c := slices_ContainsFunc_impl_Standard_impl_Standard_at_impl_ValidChain_1c) (n := n) (G := fun x y => slices_ContainsFunc_impl_Standard_impl_Standard_at_impl_ValidChain_1 n x.1 y.1) follows (AllOk.mem (⟨slices_IndexFunc_impl_Standard_impl_Standard_at_impl_ValidChain_1_ok n, trivial⟩ : AllOk P ([slices_IndexFunc_impl_Standard_impl_Standard_at_impl_ValidChain_1F n]))) (by kernel_rfl : P.funcs[85]? = some Go.Proofs.Try.f85) (by kernel_rfl) (by kernel_rfl) (by kernel_rfl)
    (fun x y => slices_ContainsFunc_impl_Standard_impl_Standard_at_impl_ValidChain_1_eq n x.1 y.1) (fun _ _ => map_same (fun _ => rfl) _) (fun _ _ _ _ => rfl)

abbrev impl_ValidChainsp : List Sp := [.v false (.list (.pair .str (.pair (.int .i64) (.pair (.pair (.pair (.int .i64) (.int .i64)) (.pair (.int .i64) (.int .i64))) (.pair (.pair (.int .i64) (.int .i64)) (.pair (.int .i64) (.int .i64)))))))]
abbrev impl_ValidChainbs : List (Bs × Bool) := []
abbrev impl_ValidChainrs : List (Bool × List Rp) := [(false, [.v false .bool])]
noncomputable def impl_ValidChainkp : Keep := { loop := fun id => match id with | 2 => ([7, 0, 5, 6], []) | _ => ([], []), join := fun id => match id with | _ => none }
noncomputable def impl_ValidChainc : Code := bodyOf Go.Proofs.Try.f63
noncomputable def impl_ValidChainF (n : Nat) : Fun := { id := 63, sp := impl_ValidChainsp, bs := impl_ValidChainbs, rs := impl_ValidChainrs, f := fun x y => impl_ValidChain n x.1 }

theorem impl_ValidChain_l2_eq (n : Nat) : ∀ (k : Nat) (v7 : Int) (v0 : List ((ByteArray) × ((Int) × ((((Int) × (Int)) × ((Int) × (Int))) × (((Int) × (Int)) × ((Int) × (Int))))))) (v5 : List ((ByteArray) × ((Int) × ((((Int) × (Int)) × ((Int) × (Int))) × (((Int) × (Int)) × ((Int) × (Int))))))) (v6 : Int), iter (interp ([impl_isWordF n, slices_ContainsFunc_impl_Standard_impl_Standard_at_impl_ValidChain_1F n, impl_withinF n, impl_ValidSpanF n, impl_ValidFracF n, impl_Standard_goodF n]) ty 77 0 n impl_ValidChainkp (codeAt impl_ValidChainc [1, 0, 1, 0, 0])) (canon 0 (impl_ValidChainkp.loop 2)) (kAt ([impl_isWordF n, slices_ContainsFunc_impl_Standard_impl_Standard_at_impl_ValidChain_1F n, impl_withinF n, impl_ValidSpanF n, impl_ValidFracF n, impl_Standard_goodF n]) ty 77 0 n impl_ValidChainkp impl_ValidChainc [1, 0, 1, 0] [] (ending ty 0 Go.Proofs.Try.f63.results.toList impl_ValidChainrs impl_ValidChainbs)) k { env := [(7, .one (.sc (.int .i64 v7))), (0, .one (.list true (.pair .str (.pair (.int .i64) (.pair (.pair (.pair (.int .i64) (.int .i64)) (.pair (.int .i64) (.int .i64))) (.pair (.pair (.int .i64) (.int .i64)) (.pair (.int .i64) (.int .i64)))))) v0)), (5, .one (.list true (.pair .str (.pair (.int .i64) (.pair (.pair (.pair (.int .i64) (.int .i64)) (.pair (.int .i64) (.int .i64))) (.pair (.pair (.int .i64) (.int .i64)) (.pair (.int .i64) (.int .i64)))))) v5)), (6, .one (.sc (.int .i64 v6)))], bx := [], nx := 0 } = impl_ValidChain_l2 n k v7 v0 v5 v6
  | 0, _, _, _, _ => by kernel_rfl
  | k + 1, v7, v0, v5, v6 => by
    have h : iter (interp ([impl_isWordF n, slices_ContainsFunc_impl_Standard_impl_Standard_at_impl_ValidChain_1F n, impl_withinF n, impl_ValidSpanF n, impl_ValidFracF n, impl_Standard_goodF n]) ty 77 0 n impl_ValidChainkp (codeAt impl_ValidChainc [1, 0, 1, 0, 0])) (canon 0 (impl_ValidChainkp.loop 2)) (kAt ([impl_isWordF n, slices_ContainsFunc_impl_Standard_impl_Standard_at_impl_ValidChain_1F n, impl_withinF n, impl_ValidSpanF n, impl_ValidFracF n, impl_Standard_goodF n]) ty 77 0 n impl_ValidChainkp impl_ValidChainc [1, 0, 1, 0] [] (ending ty 0 Go.Proofs.Try.f63.results.toList impl_ValidChainrs impl_ValidChainbs)) (k + 1) { env := [(7, .one (.sc (.int .i64 v7))), (0, .one (.list true (.pair .str (.pair (.int .i64) (.pair (.pair (.pair (.int .i64) (.int .i64)) (.pair (.int .i64) (.int .i64))) (.pair (.pair (.int .i64) (.int .i64)) (.pair (.int .i64) (.int .i64)))))) v0)), (5, .one (.list true (.pair .str (.pair (.int .i64) (.pair (.pair (.pair (.int .i64) (.int .i64)) (.pair (.int .i64) (.int .i64))) (.pair (.pair (.int .i64) (.int .i64)) (.pair (.int .i64) (.int .i64)))))) v5)), (6, .one (.sc (.int .i64 v6)))], bx := [], nx := 0 } = impl_ValidChain_t2 n (fun v7 v0 v5 v6 => iter (interp ([impl_isWordF n, slices_ContainsFunc_impl_Standard_impl_Standard_at_impl_ValidChain_1F n, impl_withinF n, impl_ValidSpanF n, impl_ValidFracF n, impl_Standard_goodF n]) ty 77 0 n impl_ValidChainkp (codeAt impl_ValidChainc [1, 0, 1, 0, 0])) (canon 0 (impl_ValidChainkp.loop 2)) (kAt ([impl_isWordF n, slices_ContainsFunc_impl_Standard_impl_Standard_at_impl_ValidChain_1F n, impl_withinF n, impl_ValidSpanF n, impl_ValidFracF n, impl_Standard_goodF n]) ty 77 0 n impl_ValidChainkp impl_ValidChainc [1, 0, 1, 0] [] (ending ty 0 Go.Proofs.Try.f63.results.toList impl_ValidChainrs impl_ValidChainbs)) k { env := [(7, .one (.sc (.int .i64 v7))), (0, .one (.list true (.pair .str (.pair (.int .i64) (.pair (.pair (.pair (.int .i64) (.int .i64)) (.pair (.int .i64) (.int .i64))) (.pair (.pair (.int .i64) (.int .i64)) (.pair (.int .i64) (.int .i64)))))) v0)), (5, .one (.list true (.pair .str (.pair (.int .i64) (.pair (.pair (.pair (.int .i64) (.int .i64)) (.pair (.int .i64) (.int .i64))) (.pair (.pair (.int .i64) (.int .i64)) (.pair (.int .i64) (.int .i64)))))) v5)), (6, .one (.sc (.int .i64 v6)))], bx := [], nx := 0 }) v7 v0 v5 v6 := by kernel_rfl
    rw [h]
    have e := congrArg (fun g => impl_ValidChain_t2 n g v7 v0 v5 v6) (funext fun v7 => funext fun v0 => funext fun v5 => funext fun v6 => impl_ValidChain_l2_eq n k v7 v0 v5 v6)
    exact e

theorem impl_ValidChain_eq (n : Nat) (a0 : List ((ByteArray) × ((Int) × ((((Int) × (Int)) × ((Int) × (Int))) × (((Int) × (Int)) × ((Int) × (Int))))))) : runBody ([impl_isWordF n, slices_ContainsFunc_impl_Standard_impl_Standard_at_impl_ValidChain_1F n, impl_withinF n, impl_ValidSpanF n, impl_ValidFracF n, impl_Standard_goodF n]) ty 77 n impl_ValidChainkp impl_ValidChainc Go.Proofs.Try.f63.results.toList impl_ValidChainrs impl_ValidChainsp impl_ValidChainbs (a0, ()) () = impl_ValidChain n a0 := by
  have h : runBody ([impl_isWordF n, slices_ContainsFunc_impl_Standard_impl_Standard_at_impl_ValidChain_1F n, impl_withinF n, impl_ValidSpanF n, impl_ValidFracF n, impl_Standard_goodF n]) ty 77 n impl_ValidChainkp impl_ValidChainc Go.Proofs.Try.f63.results.toList impl_ValidChainrs impl_ValidChainsp impl_ValidChainbs (a0, ()) () = impl_ValidChain_t n (fun k v7 v0 v5 v6 => iter (interp ([impl_isWordF n, slices_ContainsFunc_impl_Standard_impl_Standard_at_impl_ValidChain_1F n, impl_withinF n, impl_ValidSpanF n, impl_ValidFracF n, impl_Standard_goodF n]) ty 77 0 n impl_ValidChainkp (codeAt impl_ValidChainc [1, 0, 1, 0, 0])) (canon 0 (impl_ValidChainkp.loop 2)) (kAt ([impl_isWordF n, slices_ContainsFunc_impl_Standard_impl_Standard_at_impl_ValidChain_1F n, impl_withinF n, impl_ValidSpanF n, impl_ValidFracF n, impl_Standard_goodF n]) ty 77 0 n impl_ValidChainkp impl_ValidChainc [1, 0, 1, 0] [] (ending ty 0 Go.Proofs.Try.f63.results.toList impl_ValidChainrs impl_ValidChainbs)) k { env := [(7, .one (.sc (.int .i64 v7))), (0, .one (.list true (.pair .str (.pair (.int .i64) (.pair (.pair (.pair (.int .i64) (.int .i64)) (.pair (.int .i64) (.int .i64))) (.pair (.pair (.int .i64) (.int .i64)) (.pair (.int .i64) (.int .i64)))))) v0)), (5, .one (.list true (.pair .str (.pair (.int .i64) (.pair (.pair (.pair (.int .i64) (.int .i64)) (.pair (.int .i64) (.int .i64))) (.pair (.pair (.int .i64) (.int .i64)) (.pair (.int .i64) (.int .i64)))))) v5)), (6, .one (.sc (.int .i64 v6)))], bx := [], nx := 0 }) a0 := by kernel_rfl
  rw [h]
  have e := congrArg (fun h2 => impl_ValidChain_t n h2 a0) (funext fun k => funext fun v7 => funext fun v0 => funext fun v5 => funext fun v6 => impl_ValidChain_l2_eq n k v7 v0 v5 v6)
  exact e

theorem impl_ValidChain_ok (n : Nat) : FunOk P (impl_ValidChainF n) :=
  funOk_mk (C := [impl_isWordF n, slices_ContainsFunc_impl_Standard_impl_Standard_at_impl_ValidChain_1F n, impl_withinF n, impl_ValidSpanF n, impl_ValidFracF n, impl_Standard_goodF n]) (N := 77) (kp := impl_ValidChainkp) (c := impl_ValidChainc) (n := n) (G := fun x y => impl_ValidChain n x.1) follows (AllOk.mem (⟨impl_isWord_ok n, ⟨slices_ContainsFunc_impl_Standard_impl_Standard_at_impl_ValidChain_1_ok n, ⟨impl_within_ok n, ⟨impl_ValidSpan_ok n, ⟨impl_ValidFrac_ok n, ⟨impl_Standard_good_ok n, trivial⟩⟩⟩⟩⟩⟩ : AllOk P ([impl_isWordF n, slices_ContainsFunc_impl_Standard_impl_Standard_at_impl_ValidChain_1F n, impl_withinF n, impl_ValidSpanF n, impl_ValidFracF n, impl_Standard_goodF n]))) (by kernel_rfl : P.funcs[63]? = some Go.Proofs.Try.f63) (by kernel_rfl) (by kernel_rfl) (by kernel_rfl)
    (fun x y => impl_ValidChain_eq n x.1) (fun _ _ => map_same (fun _ => rfl) _) (fun _ _ _ _ => rfl)

abbrev impl_chainCode_1sp : List Sp := [.v false (.int .i64), .ref 0]
abbrev impl_chainCode_1bs : List (Bs × Bool) := [(.var 44 (.list (.pair .str (.pair (.int .i64) (.pair (.pair (.pair (.int .i64) (.int .i64)) (.pair (.int .i64) (.int .i64))) (.pair (.pair (.int .i64) (.int .i64)) (.pair (.int .i64) (.int .i64))))))), true)]
abbrev impl_chainCode_1rs : List (Bool × List Rp) := [(false, [.v false .bool])]
noncomputable def impl_chainCode_1kp : Keep := { loop := fun id => match id with | _ => ([], []), join := fun id => match id with | _ => none }
noncomputable def impl_chainCode_1c : Code := bodyOf Go.Proofs.Try.f65
noncomputable def impl_chainCode_1F (n : Nat) : Fun := { id := 65, sp := impl_chainCode_1sp, bs := impl_chainCode_1bs, rs := impl_chainCode_1rs, f := fun x y => impl_chainCode_1 n x.1 y.1 }

theorem impl_chainCode_1_eq (n : Nat) (a0 : Int) (b0 : List ((ByteArray) × ((Int) × ((((Int) × (Int)) × ((Int) × (Int))) × (((Int) × (Int)) × ((Int) × (Int))))))) : runBody ([impl_withinF n]) ty 10 n impl_chainCode_1kp impl_chainCode_1c Go.Proofs.Try.f65.results.toList impl_chainCode_1rs impl_chainCode_1sp impl_chainCode_1bs (a0, ((), ())) (b0, ()) = impl_chainCode_1 n a0 b0 := by
  have h : runBody ([impl_withinF n]) ty 10 n impl_chainCode_1kp impl_chainCode_1c Go.Proofs.Try.f65.results.toList impl_chainCode_1rs impl_chainCode_1sp impl_chainCode_1bs (a0, ((), ())) (b0, ()) = impl_chainCode_1_t n a0 b0 := by kernel_rfl
  rw [h]
  rfl

theorem impl_chainCode_1_ok (n : Nat) : FunOk P (impl_chainCode_1F n) :=
  funOk_mk (C := [impl_withinF n]) (N := 10) (kp := impl_chainCode_1kp) (c := impl_chainCode_1c) (n := n) (G := fun x y => impl_chainCode_1 n x.1 y.1) follows (AllOk.mem (⟨impl_within_ok n, trivial⟩ : AllOk P ([impl_withinF n]))) (by kernel_rfl : P.funcs[65]? = some Go.Proofs.Try.f65) (by kernel_rfl) (by kernel_rfl) (by kernel_rfl)
    (fun x y => impl_chainCode_1_eq n x.1 y.1) (fun _ _ => map_same (fun _ => rfl) _) (fun _ _ _ _ => rfl)

abbrev slices_IndexFunc_int64_int64_at_impl_chainCode_1sp : List Sp := [.v false (.list (.int .i64)), .cl 65 [0]]
abbrev slices_IndexFunc_int64_int64_at_impl_chainCode_1bs : List (Bs × Bool) := [(.var 44 (.list (.pair .str (.pair (.int .i64) (.pair (.pair (.pair (.int .i64) (.int .i64)) (.pair (.int .i64) (.int .i64))) (.pair (.pair (.int .i64) (.int .i64)) (.pair (.int .i64) (.int .i64))))))), true)]
abbrev slices_IndexFunc_int64_int64_at_impl_chainCode_1rs : List (Bool × List Rp) := [(false, [.v false (.int .i64)])]
noncomputable def slices_IndexFunc_int64_int64_at_impl_chainCode_1kp : Keep := { loop := fun id => match id with | 2 => ([8, 0, 1, 7], []) | _ => ([], []), join := fun id => match id with | _ => none }
noncomputable def slices_IndexFunc_int64_int64_at_impl_chainCode_1c : Code := bodyOf Go.Proofs.Try.f88
noncomputable def slices_IndexFunc_int64_int64_at_impl_chainCode_1F (n : Nat) : Fun := { id := 88, sp := slices_IndexFunc_int64_int64_at_impl_chainCode_1sp, bs := slices_IndexFunc_int64_int64_at_impl_chainCode_1bs, rs := slices_IndexFunc_int64_int64_at_impl_chainCode_1rs, f := fun x y => slices_IndexFunc_int64_int64_at_impl_chainCode_1 n x.1 y.1 }

theorem slices_IndexFunc_int64_int64_at_impl_chainCode_1_l2_eq (n : Nat) : ∀ (k : Nat) (v8 : Int) (v0 : List (Int)) (v7 : Int) (b0 : List ((ByteArray) × ((Int) × ((((Int) × (Int)) × ((Int) × (Int))) × (((Int) × (Int)) × ((Int) × (Int))))))), iter (interp ([impl_chainCode_1F n]) ty 19 1 n slices_IndexFunc_int64_int64_at_impl_chainCode_1kp (codeAt slices_IndexFunc_int64_int64_at_impl_chainCode_1c [1, 0, 1, 0, 0])) (canon 1 (slices_IndexFunc_int64_int64_at_impl_chainCode_1kp.loop 2)) (kAt ([impl_chainCode_1F n]) ty 19 1 n slices_IndexFunc_int64_int64_at_impl_chainCode_1kp slices_IndexFunc_int64_int64_at_impl_chainCode_1c [1, 0, 1, 0] [] (ending ty 1 Go.Proofs.Try.f88.results.toList slices_IndexFunc_int64_int64_at_impl_chainCode_1rs slices_IndexFunc_int64_int64_at_impl_chainCode_1bs)) k { env := [(8, .one (.sc (.int .i64 v8))), (0, .one (.list true (.int .i64) v0)), (1, .one (.clos 65 (0 :: []))), (7, .one (.sc (.int .i64 v7)))], bx := [(0, .var 44 [.list true (.pair .str (.pair (.int .i64) (.pair (.pair (.pair (.int .i64) (.int .i64)) (.pair (.int .i64) (.int .i64))) (.pair (.pair (.int .i64) (.int .i64)) (.pair (.int .i64) (.int .i64)))))) b0])], nx := 1 } = slices_IndexFunc_int64_int64_at_impl_chainCode_1_l2 n k v8 v0 v7 b0
  | 0, _, _, _, _ => by kernel_rfl
  | k + 1, v8, v0, v7, b0 => by
    have h : iter (interp ([impl_chainCode_1F n]) ty 19 1 n slices_IndexFunc_int64_int64_at_impl_chainCode_1kp (codeAt slices_IndexFunc_int64_int64_at_impl_chainCode_1c [1, 0, 1, 0, 0])) (canon 1 (slices_IndexFunc_int64_int64_at_impl_chainCode_1kp.loop 2)) (kAt ([impl_chainCode_1F n]) ty 19 1 n slices_IndexFunc_int64_int64_at_impl_chainCode_1kp slices_IndexFunc_int64_int64_at_impl_chainCode_1c [1, 0, 1, 0] [] (ending ty 1 Go.Proofs.Try.f88.results.toList slices_IndexFunc_int64_int64_at_impl_chainCode_1rs slices_IndexFunc_int64_int64_at_impl_chainCode_1bs)) (k + 1) { env := [(8, .one (.sc (.int .i64 v8))), (0, .one (.list true (.int .i64) v0)), (1, .one (.clos 65 (0 :: []))), (7, .one (.sc (.int .i64 v7)))], bx := [(0, .var 44 [.list true (.pair .str (.pair (.int .i64) (.pair (.pair (.pair (.int .i64) (.int .i64)) (.pair (.int .i64) (.int .i64))) (.pair (.pair (.int .i64) (.int .i64)) (.pair (.int .i64) (.int .i64)))))) b0])], nx := 1 } = slices_IndexFunc_int64_int64_at_impl_chainCode_1_t2 n (fun v8 v0 v7 b0 => iter (interp ([impl_chainCode_1F n]) ty 19 1 n slices_IndexFunc_int64_int64_at_impl_chainCode_1kp (codeAt slices_IndexFunc_int64_int64_at_impl_chainCode_1c [1, 0, 1, 0, 0])) (canon 1 (slices_IndexFunc_int64_int64_at_impl_chainCode_1kp.loop 2)) (kAt ([impl_chainCode_1F n]) ty 19 1 n slices_IndexFunc_int64_int64_at_impl_chainCode_1kp slices_IndexFunc_int64_int64_at_impl_chainCode_1c [1, 0, 1, 0] [] (ending ty 1 Go.Proofs.Try.f88.results.toList slices_IndexFunc_int64_int64_at_impl_chainCode_1rs slices_IndexFunc_int64_int64_at_impl_chainCode_1bs)) k { env := [(8, .one (.sc (.int .i64 v8))), (0, .one (.list true (.int .i64) v0)), (1, .one (.clos 65 (0 :: []))), (7, .one (.sc (.int .i64 v7)))], bx := [(0, .var 44 [.list true (.pair .str (.pair (.int .i64) (.pair (.pair (.pair (.int .i64) (.int .i64)) (.pair (.int .i64) (.int .i64))) (.pair (.pair (.int .i64) (.int .i64)) (.pair (.int .i64) (.int .i64)))))) b0])], nx := 1 }) v8 v0 v7 b0 := by kernel_rfl
    rw [h]
    have e := congrArg (fun g => slices_IndexFunc_int64_int64_at_impl_chainCode_1_t2 n g v8 v0 v7 b0) (funext fun v8 => funext fun v0 => funext fun v7 => funext fun b0 => slices_IndexFunc_int64_int64_at_impl_chainCode_1_l2_eq n k v8 v0 v7 b0)
    exact e

theorem slices_IndexFunc_int64_int64_at_impl_chainCode_1_eq (n : Nat) (a0 : List (Int)) (b0 : List ((ByteArray) × ((Int) × ((((Int) × (Int)) × ((Int) × (Int))) × (((Int) × (Int)) × ((Int) × (Int))))))) : runBody ([impl_chainCode_1F n]) ty 19 n slices_IndexFunc_int64_int64_at_impl_chainCode_1kp slices_IndexFunc_int64_int64_at_impl_chainCode_1c Go.Proofs.Try.f88.results.toList slices_IndexFunc_int64_int64_at_impl_chainCode_1rs slices_IndexFunc_int64_int64_at_impl_chainCode_1sp slices_IndexFunc_int64_int64_at_impl_chainCode_1bs (a0, ((), ())) (b0, ()) = slices_IndexFunc_int64_int64_at_impl_chainCode_1 n a0 b0 := by
  have h : runBody ([impl_chainCode_1F n]) ty 19 n slices_IndexFunc_int64_int64_at_impl_chainCode_1kp slices_IndexFunc_int64_int64_at_impl_chainCode_1c Go.Proofs.Try.f88.results.toList slices_IndexFunc_int64_int64_at_impl_chainCode_1rs slices_IndexFunc_int64_int64_at_impl_chainCode_1sp slices_IndexFunc_int64_int64_at_impl_chainCode_1bs (a0, ((), ())) (b0, ()) = slices_IndexFunc_int64_int64_at_impl_chainCode_1_t n (fun k v8 v0 v7 b0 => iter (interp ([impl_chainCode_1F n]) ty 19 1 n slices_IndexFunc_int64_int64_at_impl_chainCode_1kp (codeAt slices_IndexFunc_int64_int64_at_impl_chainCode_1c [1, 0, 1, 0, 0])) (canon 1 (slices_IndexFunc_int64_int64_at_impl_chainCode_1kp.loop 2)) (kAt ([impl_chainCode_1F n]) ty 19 1 n slices_IndexFunc_int64_int64_at_impl_chainCode_1kp slices_IndexFunc_int64_int64_at_impl_chainCode_1c [1, 0, 1, 0] [] (ending ty 1 Go.Proofs.Try.f88.results.toList slices_IndexFunc_int64_int64_at_impl_chainCode_1rs slices_IndexFunc_int64_int64_at_impl_chainCode_1bs)) k { env := [(8, .one (.sc (.int .i64 v8))), (0, .one (.list true (.int .i64) v0)), (1, .one (.clos 65 (0 :: []))), (7, .one (.sc (.int .i64 v7)))], bx := [(0, .var 44 [.list true (.pair .str (.pair (.int .i64) (.pair (.pair (.pair (.int .i64) (.int .i64)) (.pair (.int .i64) (.int .i64))) (.pair (.pair (.int .i64) (.int .i64)) (.pair (.int .i64) (.int .i64)))))) b0])], nx := 1 }) a0 b0 := by kernel_rfl
  rw [h]
  have e := congrArg (fun h2 => slices_IndexFunc_int64_int64_at_impl_chainCode_1_t n h2 a0 b0) (funext fun k => funext fun v8 => funext fun v0 => funext fun v7 => funext fun b0 => slices_IndexFunc_int64_int64_at_impl_chainCode_1_l2_eq n k v8 v0 v7 b0)
  exact e

theorem slices_IndexFunc_int64_int64_at_impl_chainCode_1_ok (n : Nat) : FunOk P (slices_IndexFunc_int64_int64_at_impl_chainCode_1F n) :=
  funOk_mk (C := [impl_chainCode_1F n]) (N := 19) (kp := slices_IndexFunc_int64_int64_at_impl_chainCode_1kp) (c := slices_IndexFunc_int64_int64_at_impl_chainCode_1c) (n := n) (G := fun x y => slices_IndexFunc_int64_int64_at_impl_chainCode_1 n x.1 y.1) follows (AllOk.mem (⟨impl_chainCode_1_ok n, trivial⟩ : AllOk P ([impl_chainCode_1F n]))) (by kernel_rfl : P.funcs[88]? = some Go.Proofs.Try.f88) (by kernel_rfl) (by kernel_rfl) (by kernel_rfl)
    (fun x y => slices_IndexFunc_int64_int64_at_impl_chainCode_1_eq n x.1 y.1) (fun _ _ => map_same (fun _ => rfl) _) (fun _ _ _ _ => rfl)

abbrev slices_ContainsFunc_int64_int64_at_impl_chainCode_1sp : List Sp := [.v false (.list (.int .i64)), .cl 65 [0]]
abbrev slices_ContainsFunc_int64_int64_at_impl_chainCode_1bs : List (Bs × Bool) := [(.var 44 (.list (.pair .str (.pair (.int .i64) (.pair (.pair (.pair (.int .i64) (.int .i64)) (.pair (.int .i64) (.int .i64))) (.pair (.pair (.int .i64) (.int .i64)) (.pair (.int .i64) (.int .i64))))))), true)]
abbrev slices_ContainsFunc_int64_int64_at_impl_chainCode_1rs : List (Bool × List Rp) := [(false, [.v false .bool])]
noncomputable def slices_ContainsFunc_int64_int64_at_impl_chainCode_1kp : Keep := { loop := fun id => match id with | _ => ([], []), join := fun id => match id with | _ => none }
noncomputable def slices_ContainsFunc_int64_int64_at_impl_chainCode_1c : Code := bodyOf Go.Proofs.Try.f64
noncomputable def slices_ContainsFunc_int64_int64_at_impl_chainCode_1F (n : Nat) : Fun := { id := 64, sp := slices_ContainsFunc_int64_int64_at_impl_chainCode_1sp, bs := slices_ContainsFunc_int64_int64_at_impl_chainCode_1bs, rs := slices_ContainsFunc_int64_int64_at_impl_chainCode_1rs, f := fun x y => slices_ContainsFunc_int64_int64_at_impl_chainCode_1 n x.1 y.1 }

theorem slices_ContainsFunc_int64_int64_at_impl_chainCode_1_eq (n : Nat) (a0 : List (Int)) (b0 : List ((ByteArray) × ((Int) × ((((Int) × (Int)) × ((Int) × (Int))) × (((Int) × (Int)) × ((Int) × (Int))))))) : runBody ([slices_IndexFunc_int64_int64_at_impl_chainCode_1F n]) ty 9 n slices_ContainsFunc_int64_int64_at_impl_chainCode_1kp slices_ContainsFunc_int64_int64_at_impl_chainCode_1c Go.Proofs.Try.f64.results.toList slices_ContainsFunc_int64_int64_at_impl_chainCode_1rs slices_ContainsFunc_int64_int64_at_impl_chainCode_1sp slices_ContainsFunc_int64_int64_at_impl_chainCode_1bs (a0, ((), ())) (b0, ()) = slices_ContainsFunc_int64_int64_at_impl_chainCode_1 n a0 b0 := by
  have h : runBody ([slices_IndexFunc_int64_int64_at_impl_chainCode_1F n]) ty 9 n slices_ContainsFunc_int64_int64_at_impl_chainCode_1kp slices_ContainsFunc_int64_int64_at_impl_chainCode_1c Go.Proofs.Try.f64.results.toList slices_ContainsFunc_int64_int64_at_impl_chainCode_1rs slices_ContainsFunc_int64_int64_at_impl_chainCode_1sp slices_ContainsFunc_int64_int64_at_impl_chainCode_1bs (a0, ((), ())) (b0, ()) = slices_ContainsFunc_int64_int64_at_impl_chainCode_1_t n a0 b0 := by kernel_rfl
  rw [h]
  rfl

theorem slices_ContainsFunc_int64_int64_at_impl_chainCode_1_ok (n : Nat) : FunOk P (slices_ContainsFunc_int64_int64_at_impl_chainCode_1F n) :=
  funOk_mk (C := [slices_IndexFunc_int64_int64_at_impl_chainCode_1F n]) (N := 9) (kp := slices_ContainsFunc_int64_int64_at_impl_chainCode_1kp) (c := slices_ContainsFunc_int64_int64_at_impl_chainCode_1c) (n := n) (G := fun x y => slices_ContainsFunc_int64_int64_at_impl_chainCode_1 n x.1 y.1) follows (AllOk.mem (⟨slices_IndexFunc_int64_int64_at_impl_chainCode_1_ok n, trivial⟩ : AllOk P ([slices_IndexFunc_int64_int64_at_impl_chainCode_1F n]))) (by kernel_rfl : P.funcs[64]? = some Go.Proofs.Try.f64) (by kernel_rfl) (by kernel_rfl) (by kernel_rfl)
    (fun x y => slices_ContainsFunc_int64_int64_at_impl_chainCode_1_eq n x.1 y.1) (fun _ _ => map_same (fun _ => rfl) _) (fun _ _ _ _ => rfl)

abbrev impl_chainCode_2sp : List Sp := [.v false (.int .i64)]
abbrev impl_chainCode_2bs : List (Bs × Bool) := []
abbrev impl_chainCode_2rs : List (Bool × List Rp) := [(false, [.v false .bool])]
noncomputable def impl_chainCode_2kp : Keep := { loop := fun id => match id with | _ => ([], []), join := fun id => match id with | _ => none }
noncomputable def impl_chainCode_2c : Code := bodyOf Go.Proofs.Try.f66
noncomputable def impl_chainCode_2F (n : Nat) : Fun := { id := 66, sp := impl_chainCode_2sp, bs := impl_chainCode_2bs, rs := impl_chainCode_2rs, f := fun x y => impl_chainCode_2 n x.1 }

theorem impl_chainCode_2_eq (n : Nat) (a0 : Int) : runBody ([impl_withinF n]) ty 6 n impl_chainCode_2kp impl_chainCode_2c Go.Proofs.Try.f66.results.toList impl_chainCode_2rs impl_chainCode_2sp impl_chainCode_2bs (a0, ()) () = impl_chainCode_2 n a0 := by
  have h : runBody ([impl_withinF n]) ty 6 n impl_chainCode_2kp impl_chainCode_2c Go.Proofs.Try.f66.results.toList impl_chainCode_2rs impl_chainCode_2sp impl_chainCode_2bs (a0, ()) () = impl_chainCode_2_t n a0 := by kernel_rfl
  rw [h]
  rfl

theorem impl_chainCode_2_ok (n : Nat) : FunOk P (impl_chainCode_2F n) :=
  funOk_mk (C := [impl_withinF n]) (N := 6) (kp := impl_chainCode_2kp) (c := impl_chainCode_2c) (n := n) (G := fun x y => impl_chainCode_2 n x.1) follows (AllOk.mem (⟨impl_within_ok n, trivial⟩ : AllOk P ([impl_withinF n]))) (by kernel_rfl : P.funcs[66]? = some Go.Proofs.Try.f66) (by kernel_rfl) (by kernel_rfl) (by kernel_rfl)
    (fun x y => impl_chainCode_2_eq n x.1) (fun _ _ => map_same (fun _ => rfl) _) (fun _ _ _ _ => rfl)

abbrev slices_IndexFunc_int64_int64_at_impl_chainCode_2sp : List Sp := [.v false (.list (.int .i64)), .cl 66 []]
abbrev slices_IndexFunc_int64_int64_at_impl_chainCode_2bs : List (Bs × Bool) := []
abbrev slices_IndexFunc_int64_int64_at_impl_chainCode_2rs : List (Bool × List Rp) := [(false, [.v false (.int .i64)])]
noncomputable def slices_IndexFunc_int64_int64_at_impl_chainCode_2kp : Keep := { loop := fun id => match id with | 2 => ([8, 0, 1, 7], []) | _ => ([], []), join := fun id => match id with | _ => none }
noncomputable def slices_IndexFunc_int64_int64_at_impl_chainCode_2c : Code := bodyOf Go.Proofs.Try.f88
noncomputable def slices_IndexFunc_int64_int64_at_impl_chainCode_2F (n : Nat) : Fun := { id := 88, sp := slices_IndexFunc_int64_int64_at_impl_chainCode_2sp, bs := slices_IndexFunc_int64_int64_at_impl_chainCode_2bs, rs := slices_IndexFunc_int64_int64_at_impl_chainCode_2rs, f := fun x y => slices_IndexFunc_int64_int64_at_impl_chainCode_2 n x.1 }

theorem slices_IndexFunc_int64_int64_at_impl_chainCode_2_l2_eq (n : Nat) : ∀ (k : Nat) (v8 : Int) (v0 : List (Int)) (v7 : Int), iter (interp ([impl_chainCode_2F n]) ty 19 0 n slices_IndexFunc_int64_int64_at_impl_chainCode_2kp (codeAt slices_IndexFunc_int64_int64_at_impl_chainCode_2c [1, 0, 1, 0, 0])) (canon 0 (slices_IndexFunc_int64_int64_at_impl_chainCode_2kp.loop 2)) (kAt ([impl_chainCode_2F n]) ty 19 0 n slices_IndexFunc_int64_int64_at_impl_chainCode_2kp slices_IndexFunc_int64_int64_at_impl_chainCode_2c [1, 0, 1, 0] [] (ending ty 0 Go.Proofs.Try.f88.results.toList slices_IndexFunc_int64_int64_at_impl_chainCode_2rs slices_IndexFunc_int64_int64_at_impl_chainCode_2bs)) k { env := [(8, .one (.sc (.int .i64 v8))), (0, .one (.list true (.int .i64) v0)), (1, .one (.clos 66 [])), (7, .one (.sc (.int .i64 v7)))], bx := [], nx := 0 } = slices_IndexFunc_int64_int64_at_impl_chainCode_2_l2 n k v8 v0 v7
  | 0, _, _, _ => by kernel_rfl
  | k + 1, v8, v0, v7 => by
    have h : iter (interp ([impl_chainCode_2F n]) ty 19 0 n slices_IndexFunc_int64_int64_at_impl_chainCode_2kp (codeAt slices_IndexFunc_int64_int64_at_impl_chainCode_2c [1, 0, 1, 0, 0])) (canon 0 (slices_IndexFunc_int64_int64_at_impl_chainCode_2kp.loop 2)) (kAt ([impl_chainCode_2F n]) ty 19 0 n slices_IndexFunc_int64_int64_at_impl_chainCode_2kp slices_IndexFunc_int64_int64_at_impl_chainCode_2c [1, 0, 1, 0] [] (ending ty 0 Go.Proofs.Try.f88.results.toList slices_IndexFunc_int64_int64_at_impl_chainCode_2rs slices_IndexFunc_int64_int64_at_impl_chainCode_2bs)) (k + 1) { env := [(8, .one (.sc (.int .i64 v8))), (0, .one (.list true (.int .i64) v0)), (1, .one (.clos 66 [])), (7, .one (.sc (.int .i64 v7)))], bx := [], nx := 0 } = slices_IndexFunc_int64_int64_at_impl_chainCode_2_t2 n (fun v8 v0 v7 => iter (interp ([impl_chainCode_2F n]) ty 19 0 n slices_IndexFunc_int64_int64_at_impl_chainCode_2kp (codeAt slices_IndexFunc_int64_int64_at_impl_chainCode_2c [1, 0, 1, 0, 0])) (canon 0 (slices_IndexFunc_int64_int64_at_impl_chainCode_2kp.loop 2)) (kAt ([impl_chainCode_2F n]) ty 19 0 n slices_IndexFunc_int64_int64_at_impl_chainCode_2kp slices_IndexFunc_int64_int64_at_impl_chainCode_2c [1, 0, 1, 0] [] (ending ty 0 Go.Proofs.Try.f88.results.toList slices_IndexFunc_int64_int64_at_impl_chainCode_2rs slices_IndexFunc_int64_int64_at_impl_chainCode_2bs)) k { env := [(8, .one (.sc (.int .i64 v8))), (0, .one (.list true (.int .i64) v0)), (1, .one (.clos 66 [])), (7, .one (.sc (.int .i64 v7)))], bx := [], nx := 0 }) v8 v0 v7 := by kernel_rfl
    rw [h]
    have e := congrArg (fun g => slices_IndexFunc_int64_int64_at_impl_chainCode_2_t2 n g v8 v0 v7) (funext fun v8 => funext fun v0 => funext fun v7 => slices_IndexFunc_int64_int64_at_impl_chainCode_2_l2_eq n k v8 v0 v7)
    exact e

theorem slices_IndexFunc_int64_int64_at_impl_chainCode_2_eq (n : Nat) (a0 : List (Int)) : runBody ([impl_chainCode_2F n]) ty 19 n slices_IndexFunc_int64_int64_at_impl_chainCode_2kp slices_IndexFunc_int64_int64_at_impl_chainCode_2c Go.Proofs.Try.f88.results.toList slices_IndexFunc_int64_int64_at_impl_chainCode_2rs slices_IndexFunc_int64_int64_at_impl_chainCode_2sp slices_IndexFunc_int64_int64_at_impl_chainCode_2bs (a0, ((), ())) () = slices_IndexFunc_int64_int64_at_impl_chainCode_2 n a0 := by
  have h : runBody ([impl_chainCode_2F n]) ty 19 n slices_IndexFunc_int64_int64_at_impl_chainCode_2kp slices_IndexFunc_int64_int64_at_impl_chainCode_2c Go.Proofs.Try.f88.results.toList slices_IndexFunc_int64_int64_at_impl_chainCode_2rs slices_IndexFunc_int64_int64_at_impl_chainCode_2sp slices_IndexFunc_int64_int64_at_impl_chainCode_2bs (a0, ((), ())) () = slices_IndexFunc_int64_int64_at_impl_chainCode_2_t n (fun k v8 v0 v7 => iter (interp ([impl_chainCode_2F n]) ty 19 0 n slices_IndexFunc_int64_int64_at_impl_chainCode_2kp (codeAt slices_IndexFunc_int64_int64_at_impl_chainCode_2c [1, 0, 1, 0, 0])) (canon 0 (slices_IndexFunc_int64_int64_at_impl_chainCode_2kp.loop 2)) (kAt ([impl_chainCode_2F n]) ty 19 0 n slices_IndexFunc_int64_int64_at_impl_chainCode_2kp slices_IndexFunc_int64_int64_at_impl_chainCode_2c [1, 0, 1, 0] [] (ending ty 0 Go.Proofs.Try.f88.results.toList slices_IndexFunc_int64_int64_at_impl_chainCode_2rs slices_IndexFunc_int64_int64_at_impl_chainCode_2bs)) k { env := [(8, .one (.sc (.int .i64 v8))), (0, .one (.list true (.int .i64) v0)), (1, .one (.clos 66 [])), (7, .one (.sc (.int .i64 v7)))], bx := [], nx := 0 }) a0 := by kernel_rfl
  rw [h]
  have e := congrArg (fun h2 => slices_IndexFunc_int64_int64_at_impl_chainCode_2_t n h2 a0) (funext fun k => funext fun v8 => funext fun v0 => funext fun v7 => slices_IndexFunc_int64_int64_at_impl_chainCode_2_l2_eq n k v8 v0 v7)
  exact e

theorem slices_IndexFunc_int64_int64_at_impl_chainCode_2_ok (n : Nat) : FunOk P (slices_IndexFunc_int64_int64_at_impl_chainCode_2F n) :=
  funOk_mk (C := [impl_chainCode_2F n]) (N := 19) (kp := slices_IndexFunc_int64_int64_at_impl_chainCode_2kp) (c := slices_IndexFunc_int64_int64_at_impl_chainCode_2c) (n := n) (G := fun x y => slices_IndexFunc_int64_int64_at_impl_chainCode_2 n x.1) follows (AllOk.mem (⟨impl_chainCode_2_ok n, trivial⟩ : AllOk P ([impl_chainCode_2F n]))) (by kernel_rfl : P.funcs[88]? = some Go.Proofs.Try.f88) (by kernel_rfl) (by kernel_rfl) (by kernel_rfl)
    (fun x y => slices_IndexFunc_int64_int64_at_impl_chainCode_2_eq n x.1) (fun _ _ => map_same (fun _ => rfl) _) (fun _ _ _ _ => rfl)

abbrev slices_ContainsFunc_int64_int64_at_impl_chainCode_2sp : List Sp := [.v false (.list (.int .i64)), .cl 66 []]
abbrev slices_ContainsFunc_int64_int64_at_impl_chainCode_2bs : List (Bs × Bool) := []
abbrev slices_ContainsFunc_int64_int64_at_impl_chainCode_2rs : List (Bool × List Rp) := [(false, [.v false .bool])]
noncomputable def slices_ContainsFunc_int64_int64_at_impl_chainCode_2kp : Keep := { loop := fun id => match id with | _ => ([], []), join := fun id => match id with | _ => none }
noncomputable def slices_ContainsFunc_int64_int64_at_impl_chainCode_2c : Code := bodyOf Go.Proofs.Try.f64
noncomputable def slices_ContainsFunc_int64_int64_at_impl_chainCode_2F (n : Nat) : Fun := { id := 64, sp := slices_ContainsFunc_int64_int64_at_impl_chainCode_2sp, bs := slices_ContainsFunc_int64_int64_at_impl_chainCode_2bs, rs := slices_ContainsFunc_int64_int64_at_impl_chainCode_2rs, f := fun x y => slices_ContainsFunc_int64_int64_at_impl_chainCode_2 n x.1 }

theorem slices_ContainsFunc_int64_int64_at_impl_chainCode_2_eq (n : Nat) (a0 : List (Int)) : runBody ([slices_IndexFunc_int64_int64_at_impl_chainCode_2F n]) ty 9 n slices_ContainsFunc_int64_int64_at_impl_chainCode_2kp slices_ContainsFunc_int64_int64_at_impl_chainCode_2c Go.Proofs.Try.f64.results.toList slices_ContainsFunc_int64_int64_at_impl_chainCode_2rs slices_ContainsFunc_int64_int64_at_impl_chainCode_2sp slices_ContainsFunc_int64_int64_at_impl_chainCode_2bs (a0, ((), ())) () = slices_ContainsFunc_int64_int64_at_impl_chainCode_2 n a0 := by
  have h : runBody ([slices_IndexFunc_int64_int64_at_impl_chainCode_2F n]) ty 9 n slices_ContainsFunc_int64_int64_at_impl_chainCode_2kp slices_ContainsFunc_int64_int64_at_impl_chainCode_2c Go.Proofs.Try.f64.results.toList slices_ContainsFunc_int64_int64_at_impl_chainCode_2rs slices_ContainsFunc_int64_int64_at_impl_chainCode_2sp slices_ContainsFunc_int64_int64_at_impl_chainCode_2bs (a0, ((), ())) () = slices_ContainsFunc_int64_int64_at_impl_chainCode_2_t n a0 := by kernel_rfl
  rw [h]
  rfl

theorem slices_ContainsFunc_int64_int64_at_impl_chainCode_2_ok (n : Nat) : FunOk P (slices_ContainsFunc_int64_int64_at_impl_chainCode_2F n) :=
  funOk_mk (C := [slices_IndexFunc_int64_int64_at_impl_chainCode_2F n]) (N := 9) (kp := slices_ContainsFunc_int64_int64_at_impl_chainCode_2kp) (c := slices_ContainsFunc_int64_int64_at_impl_chainCode_2c) (n := n) (G := fun x y => slices_ContainsFunc_int64_int64_at_impl_chainCode_2 n x.1) follows (AllOk.mem (⟨slices_IndexFunc_int64_int64_at_impl_chainCode_2_ok n, trivial⟩ : AllOk P ([slices_IndexFunc_int64_int64_at_impl_chainCode_2F n]))) (by kernel_rfl : P.funcs[64]? = some Go.Proofs.Try.f64) (by kernel_rfl) (by kernel_rfl) (by kernel_rfl)
    (fun x y => slices_ContainsFunc_int64_int64_at_impl_chainCode_2_eq n x.1) (fun _ _ => map_same (fun _ => rfl) _) (fun _ _ _ _ => rfl)

abbrev impl_chainCodesp : List Sp := [.v false (.list (.pair .str (.pair (.int .i64) (.pair (.pair (.pair (.int .i64) (.int .i64)) (.pair (.int .i64) (.int .i64))) (.pair (.pair (.int .i64) (.int .i64)) (.pair (.int .i64) (.int .i64))))))), .v false (.list (.int .i64)), .v false (.list (.int .i64))]
abbrev impl_chainCodebs : List (Bs × Bool) := []
abbrev impl_chainCoders : List (Bool × List Rp) := [(false, [.v false (.int .i64)])]
noncomputable def impl_chainCodekp : Keep := { loop := fun id => match id with | _ => ([], []), join := fun id => match id with | _ => none }
noncomputable def impl_chainCodec : Code := bodyOf Go.Proofs.Try.f35
noncomputable def impl_chainCodeF (n : Nat) : Fun := { id := 35, sp := impl_chainCodesp, bs := impl_chainCodebs, rs := impl_chainCoders, f := fun x y => impl_chainCode n x.1 x.2.1 x.2.2.1 }

theorem impl_chainCode_eq (n : Nat) (a0 : List ((ByteArray) × ((Int) × ((((Int) × (Int)) × ((Int) × (Int))) × (((Int) × (Int)) × ((Int) × (Int))))))) (a1 : List (Int)) (a2 : List (Int)) : runBody ([impl_ValidChainF n, slices_ContainsFunc_int64_int64_at_impl_chainCode_1F n, slices_ContainsFunc_int64_int64_at_impl_chainCode_2F n]) ty 18 n impl_chainCodekp impl_chainCodec Go.Proofs.Try.f35.results.toList impl_chainCoders impl_chainCodesp impl_chainCodebs (a0, (a1, (a2, ()))) () = impl_chainCode n a0 a1 a2 := by
  have h : runBody ([impl_ValidChainF n, slices_ContainsFunc_int64_int64_at_impl_chainCode_1F n, slices_ContainsFunc_int64_int64_at_impl_chainCode_2F n]) ty 18 n impl_chainCodekp impl_chainCodec Go.Proofs.Try.f35.results.toList impl_chainCoders impl_chainCodesp impl_chainCodebs (a0, (a1, (a2, ()))) () = impl_chainCode_t n a0 a1 a2 := by kernel_rfl
  rw [h]
  rfl

theorem impl_chainCode_ok (n : Nat) : FunOk P (impl_chainCodeF n) :=
  funOk_mk (C := [impl_ValidChainF n, slices_ContainsFunc_int64_int64_at_impl_chainCode_1F n, slices_ContainsFunc_int64_int64_at_impl_chainCode_2F n]) (N := 18) (kp := impl_chainCodekp) (c := impl_chainCodec) (n := n) (G := fun x y => impl_chainCode n x.1 x.2.1 x.2.2.1) follows (AllOk.mem (⟨impl_ValidChain_ok n, ⟨slices_ContainsFunc_int64_int64_at_impl_chainCode_1_ok n, ⟨slices_ContainsFunc_int64_int64_at_impl_chainCode_2_ok n, trivial⟩⟩⟩ : AllOk P ([impl_ValidChainF n, slices_ContainsFunc_int64_int64_at_impl_chainCode_1F n, slices_ContainsFunc_int64_int64_at_impl_chainCode_2F n]))) (by kernel_rfl : P.funcs[35]? = some Go.Proofs.Try.f35) (by kernel_rfl) (by kernel_rfl) (by kernel_rfl)
    (fun x y => impl_chainCode_eq n x.1 x.2.1 x.2.2.1) (fun _ _ => map_same (fun _ => rfl) _) (fun _ _ _ _ => rfl)

abbrev impl_DifferenceOnsp : List Sp := [.v false (.list (.pair .str (.pair (.int .i64) (.pair (.pair (.pair (.int .i64) (.int .i64)) (.pair (.int .i64) (.int .i64))) (.pair (.pair (.int .i64) (.int .i64)) (.pair (.int .i64) (.int .i64))))))), .v false (.int .i64), .v false (.int .i64), .v false (.int .i64)]
abbrev impl_DifferenceOnbs : List (Bs × Bool) := []
abbrev impl_DifferenceOnrs : List (Bool × List Rp) := [(true, [.v false (.pair (.pair (.int .i64) (.int .i64)) (.pair (.int .i64) (.int .i64)))]), (false, [.v false (.int .i64)])]
noncomputable def impl_DifferenceOnkp : Keep := { loop := fun id => match id with | 7 => ([14, 8, 7, 2, 4, 11, 1, 12, 13], []) | _ => ([], []), join := fun id => match id with | _ => none }
noncomputable def impl_DifferenceOnc : Code := bodyOf Go.Proofs.Try.f15
noncomputable def impl_DifferenceOnF (n : Nat) : Fun := { id := 15, sp := impl_DifferenceOnsp, bs := impl_DifferenceOnbs, rs := impl_DifferenceOnrs, f := fun x y => impl_DifferenceOn n x.1 x.2.1 x.2.2.1 x.2.2.2.1 }

theorem impl_DifferenceOn_l7_eq (n : Nat) : ∀ (k : Nat) (v2 : Int) (v1 : Int) (b0 : Int) (b1_0 : Int) (b1_1 : Int) (b1_2 : Int) (b1_3 : Int) (b2 : Int) (b3 : List ((ByteArray) × ((Int) × ((((Int) × (Int)) × ((Int) × (Int))) × (((Int) × (Int)) × ((Int) × (Int))))))) (b5 : List (Int)) (b6 : List (Int)) (b7 : Bool), iter (interp ([impl_chainCodeF n, impl_Standard_goodF n, impl_pathF n, impl_noneF n, impl_calc_spanOnF n, impl_calc_minusF n, impl_calc_spanF n, impl_numF n, impl_calc_mulF n, impl_calc_widenF n, impl_DifferenceOn_1F n]) ty 145 0 n impl_DifferenceOnkp (codeAt impl_DifferenceOnc [1, 1, 1, 1, 0, 0, 0])) (canon 0 (impl_DifferenceOnkp.loop 7)) (kAt ([impl_chainCodeF n, impl_Standard_goodF n, impl_pathF n, impl_noneF n, impl_calc_spanOnF n, impl_calc_minusF n, impl_calc_spanF n, impl_numF n, impl_calc_mulF n, impl_calc_widenF n, impl_DifferenceOn_1F n]) ty 145 0 n impl_DifferenceOnkp impl_DifferenceOnc [1, 1, 1, 1, 0, 0] [] (ending ty 0 Go.Proofs.Try.f15.results.toList impl_DifferenceOnrs impl_DifferenceOnbs)) k { env := [(14, .one (.ref 0 0 0 0 0 0)), (8, .one (.ref 1 0 0 0 0 0)), (7, .one (.ref 2 0 0 0 0 0)), (2, .one (.sc (.int .i64 v2))), (4, .one (.ref 3 0 0 0 0 0)), (11, .one (.ref 4 0 0 0 0 0)), (1, .one (.sc (.int .i64 v1))), (12, .one (.slice 5 0 none)), (13, .one (.slice 6 0 none))], bx := [(0, .var 3 [.sc (.int .i64 b0)]), (1, .var 41 [.sc (.int .i64 b1_0), .sc (.int .i64 b1_1), .sc (.int .i64 b1_2), .sc (.int .i64 b1_3)]), (2, .var 2 [.sc (.int .i64 b2)]), (3, .var 44 [.list true (.pair .str (.pair (.int .i64) (.pair (.pair (.pair (.int .i64) (.int .i64)) (.pair (.int .i64) (.int .i64))) (.pair (.pair (.int .i64) (.int .i64)) (.pair (.int .i64) (.int .i64)))))) b3]), (4, .var 77 [.ref 7 0 0 0 0 0]), (5, .row 0 (.int .i64) b5), (6, .row 0 (.int .i64) b6), (7, .var 79 [.sc (.bool b7)])], nx := 8 } = impl_DifferenceOn_l7 n k v2 v1 b0 b1_0 b1_1 b1_2 b1_3 b2 b3 b5 b6 b7
  | 0, _, _, _, _, _, _, _, _, _, _, _, _ => by kernel_rfl
  | k + 1, v2, v1, b0, b1_0, b1_1, b1_2, b1_3, b2, b3, b5, b6, b7 => by
    have h : iter (interp ([impl_chainCodeF n, impl_Standard_goodF n, impl_pathF n, impl_noneF n, impl_calc_spanOnF n, impl_calc_minusF n, impl_calc_spanF n, impl_numF n, impl_calc_mulF n, impl_calc_widenF n, impl_DifferenceOn_1F n]) ty 145 0 n impl_DifferenceOnkp (codeAt impl_DifferenceOnc [1, 1, 1, 1, 0, 0, 0])) (canon 0 (impl_DifferenceOnkp.loop 7)) (kAt ([impl_chainCodeF n, impl_Standard_goodF n, impl_pathF n, impl_noneF n, impl_calc_spanOnF n, impl_calc_minusF n, impl_calc_spanF n, impl_numF n, impl_calc_mulF n, impl_calc_widenF n, impl_DifferenceOn_1F n]) ty 145 0 n impl_DifferenceOnkp impl_DifferenceOnc [1, 1, 1, 1, 0, 0] [] (ending ty 0 Go.Proofs.Try.f15.results.toList impl_DifferenceOnrs impl_DifferenceOnbs)) (k + 1) { env := [(14, .one (.ref 0 0 0 0 0 0)), (8, .one (.ref 1 0 0 0 0 0)), (7, .one (.ref 2 0 0 0 0 0)), (2, .one (.sc (.int .i64 v2))), (4, .one (.ref 3 0 0 0 0 0)), (11, .one (.ref 4 0 0 0 0 0)), (1, .one (.sc (.int .i64 v1))), (12, .one (.slice 5 0 none)), (13, .one (.slice 6 0 none))], bx := [(0, .var 3 [.sc (.int .i64 b0)]), (1, .var 41 [.sc (.int .i64 b1_0), .sc (.int .i64 b1_1), .sc (.int .i64 b1_2), .sc (.int .i64 b1_3)]), (2, .var 2 [.sc (.int .i64 b2)]), (3, .var 44 [.list true (.pair .str (.pair (.int .i64) (.pair (.pair (.pair (.int .i64) (.int .i64)) (.pair (.int .i64) (.int .i64))) (.pair (.pair (.int .i64) (.int .i64)) (.pair (.int .i64) (.int .i64)))))) b3]), (4, .var 77 [.ref 7 0 0 0 0 0]), (5, .row 0 (.int .i64) b5), (6, .row 0 (.int .i64) b6), (7, .var 79 [.sc (.bool b7)])], nx := 8 } = impl_DifferenceOn_t7 n (fun v2 v1 b0 b1_0 b1_1 b1_2 b1_3 b2 b3 b5 b6 b7 => iter (interp ([impl_chainCodeF n, impl_Standard_goodF n, impl_pathF n, impl_noneF n, impl_calc_spanOnF n, impl_calc_minusF n, impl_calc_spanF n, impl_numF n, impl_calc_mulF n, impl_calc_widenF n, impl_DifferenceOn_1F n]) ty 145 0 n impl_DifferenceOnkp (codeAt impl_DifferenceOnc [1, 1, 1, 1, 0, 0, 0])) (canon 0 (impl_DifferenceOnkp.loop 7)) (kAt ([impl_chainCodeF n, impl_Standard_goodF n, impl_pathF n, impl_noneF n, impl_calc_spanOnF n, impl_calc_minusF n, impl_calc_spanF n, impl_numF n, impl_calc_mulF n, impl_calc_widenF n, impl_DifferenceOn_1F n]) ty 145 0 n impl_DifferenceOnkp impl_DifferenceOnc [1, 1, 1, 1, 0, 0] [] (ending ty 0 Go.Proofs.Try.f15.results.toList impl_DifferenceOnrs impl_DifferenceOnbs)) k { env := [(14, .one (.ref 0 0 0 0 0 0)), (8, .one (.ref 1 0 0 0 0 0)), (7, .one (.ref 2 0 0 0 0 0)), (2, .one (.sc (.int .i64 v2))), (4, .one (.ref 3 0 0 0 0 0)), (11, .one (.ref 4 0 0 0 0 0)), (1, .one (.sc (.int .i64 v1))), (12, .one (.slice 5 0 none)), (13, .one (.slice 6 0 none))], bx := [(0, .var 3 [.sc (.int .i64 b0)]), (1, .var 41 [.sc (.int .i64 b1_0), .sc (.int .i64 b1_1), .sc (.int .i64 b1_2), .sc (.int .i64 b1_3)]), (2, .var 2 [.sc (.int .i64 b2)]), (3, .var 44 [.list true (.pair .str (.pair (.int .i64) (.pair (.pair (.pair (.int .i64) (.int .i64)) (.pair (.int .i64) (.int .i64))) (.pair (.pair (.int .i64) (.int .i64)) (.pair (.int .i64) (.int .i64)))))) b3]), (4, .var 77 [.ref 7 0 0 0 0 0]), (5, .row 0 (.int .i64) b5), (6, .row 0 (.int .i64) b6), (7, .var 79 [.sc (.bool b7)])], nx := 8 }) v2 v1 b0 b1_0 b1_1 b1_2 b1_3 b2 b3 b5 b6 b7 := by kernel_rfl
    rw [h]
    have e := congrArg (fun g => impl_DifferenceOn_t7 n g v2 v1 b0 b1_0 b1_1 b1_2 b1_3 b2 b3 b5 b6 b7) (funext fun v2 => funext fun v1 => funext fun b0 => funext fun b1_0 => funext fun b1_1 => funext fun b1_2 => funext fun b1_3 => funext fun b2 => funext fun b3 => funext fun b5 => funext fun b6 => funext fun b7 => impl_DifferenceOn_l7_eq n k v2 v1 b0 b1_0 b1_1 b1_2 b1_3 b2 b3 b5 b6 b7)
    exact e

theorem impl_DifferenceOn_eq (n : Nat) (a0 : List ((ByteArray) × ((Int) × ((((Int) × (Int)) × ((Int) × (Int))) × (((Int) × (Int)) × ((Int) × (Int))))))) (a1 : Int) (a2 : Int) (a3 : Int) : runBody ([impl_chainCodeF n, impl_Standard_goodF n, impl_pathF n, impl_noneF n, impl_calc_spanOnF n, impl_calc_minusF n, impl_calc_spanF n, impl_numF n, impl_calc_mulF n, impl_calc_widenF n, impl_DifferenceOn_1F n]) ty 145 n impl_DifferenceOnkp impl_DifferenceOnc Go.Proofs.Try.f15.results.toList impl_DifferenceOnrs impl_DifferenceOnsp impl_DifferenceOnbs (a0, (a1, (a2, (a3, ())))) () = impl_DifferenceOn n a0 a1 a2 a3 := by
  have h : runBody ([impl_chainCodeF n, impl_Standard_goodF n, impl_pathF n, impl_noneF n, impl_calc_spanOnF n, impl_calc_minusF n, impl_calc_spanF n, impl_numF n, impl_calc_mulF n, impl_calc_widenF n, impl_DifferenceOn_1F n]) ty 145 n impl_DifferenceOnkp impl_DifferenceOnc Go.Proofs.Try.f15.results.toList impl_DifferenceOnrs impl_DifferenceOnsp impl_DifferenceOnbs (a0, (a1, (a2, (a3, ())))) () = impl_DifferenceOn_t n (fun k v2 v1 b0 b1_0 b1_1 b1_2 b1_3 b2 b3 b5 b6 b7 => iter (interp ([impl_chainCodeF n, impl_Standard_goodF n, impl_pathF n, impl_noneF n, impl_calc_spanOnF n, impl_calc_minusF n, impl_calc_spanF n, impl_numF n, impl_calc_mulF n, impl_calc_widenF n, impl_DifferenceOn_1F n]) ty 145 0 n impl_DifferenceOnkp (codeAt impl_DifferenceOnc [1, 1, 1, 1, 0, 0, 0])) (canon 0 (impl_DifferenceOnkp.loop 7)) (kAt ([impl_chainCodeF n, impl_Standard_goodF n, impl_pathF n, impl_noneF n, impl_calc_spanOnF n, impl_calc_minusF n, impl_calc_spanF n, impl_numF n, impl_calc_mulF n, impl_calc_widenF n, impl_DifferenceOn_1F n]) ty 145 0 n impl_DifferenceOnkp impl_DifferenceOnc [1, 1, 1, 1, 0, 0] [] (ending ty 0 Go.Proofs.Try.f15.results.toList impl_DifferenceOnrs impl_DifferenceOnbs)) k { env := [(14, .one (.ref 0 0 0 0 0 0)), (8, .one (.ref 1 0 0 0 0 0)), (7, .one (.ref 2 0 0 0 0 0)), (2, .one (.sc (.int .i64 v2))), (4, .one (.ref 3 0 0 0 0 0)), (11, .one (.ref 4 0 0 0 0 0)), (1, .one (.sc (.int .i64 v1))), (12, .one (.slice 5 0 none)), (13, .one (.slice 6 0 none))], bx := [(0, .var 3 [.sc (.int .i64 b0)]), (1, .var 41 [.sc (.int .i64 b1_0), .sc (.int .i64 b1_1), .sc (.int .i64 b1_2), .sc (.int .i64 b1_3)]), (2, .var 2 [.sc (.int .i64 b2)]), (3, .var 44 [.list true (.pair .str (.pair (.int .i64) (.pair (.pair (.pair (.int .i64) (.int .i64)) (.pair (.int .i64) (.int .i64))) (.pair (.pair (.int .i64) (.int .i64)) (.pair (.int .i64) (.int .i64)))))) b3]), (4, .var 77 [.ref 7 0 0 0 0 0]), (5, .row 0 (.int .i64) b5), (6, .row 0 (.int .i64) b6), (7, .var 79 [.sc (.bool b7)])], nx := 8 }) a0 a1 a2 a3 := by kernel_rfl
  rw [h]
  have e := congrArg (fun h7 => impl_DifferenceOn_t n h7 a0 a1 a2 a3) (funext fun k => funext fun v2 => funext fun v1 => funext fun b0 => funext fun b1_0 => funext fun b1_1 => funext fun b1_2 => funext fun b1_3 => funext fun b2 => funext fun b3 => funext fun b5 => funext fun b6 => funext fun b7 => impl_DifferenceOn_l7_eq n k v2 v1 b0 b1_0 b1_1 b1_2 b1_3 b2 b3 b5 b6 b7)
  exact e

theorem impl_DifferenceOn_ok (n : Nat) : FunOk P (impl_DifferenceOnF n) :=
  funOk_mk (C := [impl_chainCodeF n, impl_Standard_goodF n, impl_pathF n, impl_noneF n, impl_calc_spanOnF n, impl_calc_minusF n, impl_calc_spanF n, impl_numF n, impl_calc_mulF n, impl_calc_widenF n, impl_DifferenceOn_1F n]) (N := 145) (kp := impl_DifferenceOnkp) (c := impl_DifferenceOnc) (n := n) (G := fun x y => impl_DifferenceOn n x.1 x.2.1 x.2.2.1 x.2.2.2.1) follows (AllOk.mem (⟨impl_chainCode_ok n, ⟨impl_Standard_good_ok n, ⟨impl_path_ok n, ⟨impl_none_ok n, ⟨impl_calc_spanOn_ok n, ⟨impl_calc_minus_ok n, ⟨impl_calc_span_ok n, ⟨impl_num_ok n, ⟨impl_calc_mul_ok n, ⟨impl_calc_widen_ok n, ⟨impl_DifferenceOn_1_ok n, trivial⟩⟩⟩⟩⟩⟩⟩⟩⟩⟩⟩ : AllOk P ([impl_chainCodeF n, impl_Standard_goodF n, impl_pathF n, impl_noneF n, impl_calc_spanOnF n, impl_calc_minusF n, impl_calc_spanF n, impl_numF n, impl_calc_mulF n, impl_calc_widenF n, impl_DifferenceOn_1F n]))) (by kernel_rfl : P.funcs[15]? = some Go.Proofs.Try.f15) (by kernel_rfl) (by kernel_rfl) (by kernel_rfl)
    (fun x y => impl_DifferenceOn_eq n x.1 x.2.1 x.2.2.1 x.2.2.2.1) (fun _ _ => map_same (fun _ => rfl) _) (fun _ _ _ _ => rfl)

abbrev laws_eqFracsp : List Sp := [.v true (.pair (.int .i64) (.int .i64)), .v true (.pair (.int .i64) (.int .i64))]
abbrev laws_eqFracbs : List (Bs × Bool) := []
abbrev laws_eqFracrs : List (Bool × List Rp) := [(false, [.v false .bool])]
noncomputable def laws_eqFrackp : Keep := { loop := fun id => match id with | _ => ([], []), join := fun id => match id with | _ => none }
noncomputable def laws_eqFracc : Code := bodyOf Go.Proofs.Try.f28
noncomputable def laws_eqFracF (n : Nat) : Fun := { id := 28, sp := laws_eqFracsp, bs := laws_eqFracbs, rs := laws_eqFracrs, f := fun x y => laws_eqFrac n x.1 x.2.1 }

theorem laws_eqFrac_eq (n : Nat) (a0 : (Int) × (Int)) (a1 : (Int) × (Int)) : runBody ([]) ty 15 n laws_eqFrackp laws_eqFracc Go.Proofs.Try.f28.results.toList laws_eqFracrs laws_eqFracsp laws_eqFracbs (a0, (a1, ())) () = laws_eqFrac n a0 a1 := by
  have h : runBody ([]) ty 15 n laws_eqFrackp laws_eqFracc Go.Proofs.Try.f28.results.toList laws_eqFracrs laws_eqFracsp laws_eqFracbs (a0, (a1, ())) () = laws_eqFrac_t n a0 a1 := by kernel_rfl
  rw [h]
  rfl

theorem laws_eqFrac_ok (n : Nat) : FunOk P (laws_eqFracF n) :=
  funOk_mk (C := []) (N := 15) (kp := laws_eqFrackp) (c := laws_eqFracc) (n := n) (G := fun x y => laws_eqFrac n x.1 x.2.1) follows (AllOk.mem (trivial : AllOk P ([]))) (by kernel_rfl : P.funcs[28]? = some Go.Proofs.Try.f28) (by kernel_rfl) (by kernel_rfl) (by kernel_rfl)
    (fun x y => laws_eqFrac_eq n x.1 x.2.1) (fun _ _ => map_same (fun _ => rfl) _) (fun _ _ _ _ => rfl)

abbrev laws_eqSpansp : List Sp := [.v true (.pair (.pair (.int .i64) (.int .i64)) (.pair (.int .i64) (.int .i64))), .v true (.pair (.pair (.int .i64) (.int .i64)) (.pair (.int .i64) (.int .i64)))]
abbrev laws_eqSpanbs : List (Bs × Bool) := []
abbrev laws_eqSpanrs : List (Bool × List Rp) := [(false, [.v false .bool])]
noncomputable def laws_eqSpankp : Keep := { loop := fun id => match id with | _ => ([], []), join := fun id => match id with | _ => none }
noncomputable def laws_eqSpanc : Code := bodyOf Go.Proofs.Try.f16
noncomputable def laws_eqSpanF (n : Nat) : Fun := { id := 16, sp := laws_eqSpansp, bs := laws_eqSpanbs, rs := laws_eqSpanrs, f := fun x y => laws_eqSpan n x.1 x.2.1 }

theorem laws_eqSpan_eq (n : Nat) (a0 : ((Int) × (Int)) × ((Int) × (Int))) (a1 : ((Int) × (Int)) × ((Int) × (Int))) : runBody ([laws_eqFracF n]) ty 17 n laws_eqSpankp laws_eqSpanc Go.Proofs.Try.f16.results.toList laws_eqSpanrs laws_eqSpansp laws_eqSpanbs (a0, (a1, ())) () = laws_eqSpan n a0 a1 := by
  have h : runBody ([laws_eqFracF n]) ty 17 n laws_eqSpankp laws_eqSpanc Go.Proofs.Try.f16.results.toList laws_eqSpanrs laws_eqSpansp laws_eqSpanbs (a0, (a1, ())) () = laws_eqSpan_t n a0 a1 := by kernel_rfl
  rw [h]
  rfl

theorem laws_eqSpan_ok (n : Nat) : FunOk P (laws_eqSpanF n) :=
  funOk_mk (C := [laws_eqFracF n]) (N := 17) (kp := laws_eqSpankp) (c := laws_eqSpanc) (n := n) (G := fun x y => laws_eqSpan n x.1 x.2.1) follows (AllOk.mem (⟨laws_eqFrac_ok n, trivial⟩ : AllOk P ([laws_eqFracF n]))) (by kernel_rfl : P.funcs[16]? = some Go.Proofs.Try.f16) (by kernel_rfl) (by kernel_rfl) (by kernel_rfl)
    (fun x y => laws_eqSpan_eq n x.1 x.2.1) (fun _ _ => map_same (fun _ => rfl) _) (fun _ _ _ _ => rfl)

abbrev laws_eqStandardsp : List Sp := [.v true (.pair .str (.pair (.int .i64) (.pair (.pair (.pair (.int .i64) (.int .i64)) (.pair (.int .i64) (.int .i64))) (.pair (.pair (.int .i64) (.int .i64)) (.pair (.int .i64) (.int .i64)))))), .v true (.pair .str (.pair (.int .i64) (.pair (.pair (.pair (.int .i64) (.int .i64)) (.pair (.int .i64) (.int .i64))) (.pair (.pair (.int .i64) (.int .i64)) (.pair (.int .i64) (.int .i64))))))]
abbrev laws_eqStandardbs : List (Bs × Bool) := []
abbrev laws_eqStandardrs : List (Bool × List Rp) := [(false, [.v false .bool])]
noncomputable def laws_eqStandardkp : Keep := { loop := fun id => match id with | _ => ([], []), join := fun id => match id with | _ => none }
noncomputable def laws_eqStandardc : Code := bodyOf Go.Proofs.Try.f47
noncomputable def laws_eqStandardF (n : Nat) : Fun := { id := 47, sp := laws_eqStandardsp, bs := laws_eqStandardbs, rs := laws_eqStandardrs, f := fun x y => laws_eqStandard n x.1 x.2.1 }

theorem laws_eqStandard_eq (n : Nat) (a0 : (ByteArray) × ((Int) × ((((Int) × (Int)) × ((Int) × (Int))) × (((Int) × (Int)) × ((Int) × (Int)))))) (a1 : (ByteArray) × ((Int) × ((((Int) × (Int)) × ((Int) × (Int))) × (((Int) × (Int)) × ((Int) × (Int)))))) : runBody ([laws_eqSpanF n, laws_eqFracF n]) ty 37 n laws_eqStandardkp laws_eqStandardc Go.Proofs.Try.f47.results.toList laws_eqStandardrs laws_eqStandardsp laws_eqStandardbs (a0, (a1, ())) () = laws_eqStandard n a0 a1 := by
  have h : runBody ([laws_eqSpanF n, laws_eqFracF n]) ty 37 n laws_eqStandardkp laws_eqStandardc Go.Proofs.Try.f47.results.toList laws_eqStandardrs laws_eqStandardsp laws_eqStandardbs (a0, (a1, ())) () = laws_eqStandard_t n a0 a1 := by kernel_rfl
  rw [h]
  rfl

theorem laws_eqStandard_ok (n : Nat) : FunOk P (laws_eqStandardF n) :=
  funOk_mk (C := [laws_eqSpanF n, laws_eqFracF n]) (N := 37) (kp := laws_eqStandardkp) (c := laws_eqStandardc) (n := n) (G := fun x y => laws_eqStandard n x.1 x.2.1) follows (AllOk.mem (⟨laws_eqSpan_ok n, ⟨laws_eqFrac_ok n, trivial⟩⟩ : AllOk P ([laws_eqSpanF n, laws_eqFracF n]))) (by kernel_rfl : P.funcs[47]? = some Go.Proofs.Try.f47) (by kernel_rfl) (by kernel_rfl) (by kernel_rfl)
    (fun x y => laws_eqStandard_eq n x.1 x.2.1) (fun _ _ => map_same (fun _ => rfl) _) (fun _ _ _ _ => rfl)

abbrev laws_eqStandardSsp : List Sp := [.v false (.list (.pair .str (.pair (.int .i64) (.pair (.pair (.pair (.int .i64) (.int .i64)) (.pair (.int .i64) (.int .i64))) (.pair (.pair (.int .i64) (.int .i64)) (.pair (.int .i64) (.int .i64))))))), .v false (.list (.pair .str (.pair (.int .i64) (.pair (.pair (.pair (.int .i64) (.int .i64)) (.pair (.int .i64) (.int .i64))) (.pair (.pair (.int .i64) (.int .i64)) (.pair (.int .i64) (.int .i64)))))))]
abbrev laws_eqStandardSbs : List (Bs × Bool) := []
abbrev laws_eqStandardSrs : List (Bool × List Rp) := [(false, [.v false .bool])]
noncomputable def laws_eqStandardSkp : Keep := { loop := fun id => match id with | 4 => ([5, 1, 0], []) | _ => ([], []), join := fun id => match id with | _ => none }
noncomputable def laws_eqStandardSc : Code := bodyOf Go.Proofs.Try.f17
noncomputable def laws_eqStandardSF (n : Nat) : Fun := { id := 17, sp := laws_eqStandardSsp, bs := laws_eqStandardSbs, rs := laws_eqStandardSrs, f := fun x y => laws_eqStandardS n x.1 x.2.1 }

theorem laws_eqStandardS_l4_eq (n : Nat) : ∀ (k : Nat) (v5 : Int) (v1 : List ((ByteArray) × ((Int) × ((((Int) × (Int)) × ((Int) × (Int))) × (((Int) × (Int)) × ((Int) × (Int))))))) (v0 : List ((ByteArray) × ((Int) × ((((Int) × (Int)) × ((Int) × (Int))) × (((Int) × (Int)) × ((Int) × (Int))))))), iter (interp ([laws_eqStandardF n]) ty 27 0 n laws_eqStandardSkp (codeAt laws_eqStandardSc [1, 1, 0, 1, 0, 0])) (canon 0 (laws_eqStandardSkp.loop 4)) (kAt ([laws_eqStandardF n]) ty 27 0 n laws_eqStandardSkp laws_eqStandardSc [1, 1, 0, 1, 0] [] (ending ty 0 Go.Proofs.Try.f17.results.toList laws_eqStandardSrs laws_eqStandardSbs)) k { env := [(5, .one (.sc (.int .i64 v5))), (1, .one (.list true (.pair .str (.pair (.int .i64) (.pair (.pair (.pair (.int .i64) (.int .i64)) (.pair (.int .i64) (.int .i64))) (.pair (.pair (.int .i64) (.int .i64)) (.pair (.int .i64) (.int .i64)))))) v1)), (0, .one (.list true (.pair .str (.pair (.int .i64) (.pair (.pair (.pair (.int .i64) (.int .i64)) (.pair (.int .i64) (.int .i64))) (.pair (.pair (.int .i64) (.int .i64)) (.pair (.int .i64) (.int .i64)))))) v0))], bx := [], nx := 0 } = laws_eqStandardS_l4 n k v5 v1 v0
  | 0, _, _, _ => by kernel_rfl
  | k + 1, v5, v1, v0 => by
    have h : iter (interp ([laws_eqStandardF n]) ty 27 0 n laws_eqStandardSkp (codeAt laws_eqStandardSc [1, 1, 0, 1, 0, 0])) (canon 0 (laws_eqStandardSkp.loop 4)) (kAt ([laws_eqStandardF n]) ty 27 0 n laws_eqStandardSkp laws_eqStandardSc [1, 1, 0, 1, 0] [] (ending ty 0 Go.Proofs.Try.f17.results.toList laws_eqStandardSrs laws_eqStandardSbs)) (k + 1) { env := [(5, .one (.sc (.int .i64 v5))), (1, .one (.list true (.pair .str (.pair (.int .i64) (.pair (.pair (.pair (.int .i64) (.int .i64)) (.pair (.int .i64) (.int .i64))) (.pair (.pair (.int .i64) (.int .i64)) (.pair (.int .i64) (.int .i64)))))) v1)), (0, .one (.list true (.pair .str (.pair (.int .i64) (.pair (.pair (.pair (.int .i64) (.int .i64)) (.pair (.int .i64) (.int .i64))) (.pair (.pair (.int .i64) (.int .i64)) (.pair (.int .i64) (.int .i64)))))) v0))], bx := [], nx := 0 } = laws_eqStandardS_t4 n (fun v5 v1 v0 => iter (interp ([laws_eqStandardF n]) ty 27 0 n laws_eqStandardSkp (codeAt laws_eqStandardSc [1, 1, 0, 1, 0, 0])) (canon 0 (laws_eqStandardSkp.loop 4)) (kAt ([laws_eqStandardF n]) ty 27 0 n laws_eqStandardSkp laws_eqStandardSc [1, 1, 0, 1, 0] [] (ending ty 0 Go.Proofs.Try.f17.results.toList laws_eqStandardSrs laws_eqStandardSbs)) k { env := [(5, .one (.sc (.int .i64 v5))), (1, .one (.list true (.pair .str (.pair (.int .i64) (.pair (.pair (.pair (.int .i64) (.int .i64)) (.pair (.int .i64) (.int .i64))) (.pair (.pair (.int .i64) (.int .i64)) (.pair (.int .i64) (.int .i64)))))) v1)), (0, .one (.list true (.pair .str (.pair (.int .i64) (.pair (.pair (.pair (.int .i64) (.int .i64)) (.pair (.int .i64) (.int .i64))) (.pair (.pair (.int .i64) (.int .i64)) (.pair (.int .i64) (.int .i64)))))) v0))], bx := [], nx := 0 }) v5 v1 v0 := by kernel_rfl
    rw [h]
    have e := congrArg (fun g => laws_eqStandardS_t4 n g v5 v1 v0) (funext fun v5 => funext fun v1 => funext fun v0 => laws_eqStandardS_l4_eq n k v5 v1 v0)
    exact e

theorem laws_eqStandardS_eq (n : Nat) (a0 : List ((ByteArray) × ((Int) × ((((Int) × (Int)) × ((Int) × (Int))) × (((Int) × (Int)) × ((Int) × (Int))))))) (a1 : List ((ByteArray) × ((Int) × ((((Int) × (Int)) × ((Int) × (Int))) × (((Int) × (Int)) × ((Int) × (Int))))))) : runBody ([laws_eqStandardF n]) ty 27 n laws_eqStandardSkp laws_eqStandardSc Go.Proofs.Try.f17.results.toList laws_eqStandardSrs laws_eqStandardSsp laws_eqStandardSbs (a0, (a1, ())) () = laws_eqStandardS n a0 a1 := by
  have h : runBody ([laws_eqStandardF n]) ty 27 n laws_eqStandardSkp laws_eqStandardSc Go.Proofs.Try.f17.results.toList laws_eqStandardSrs laws_eqStandardSsp laws_eqStandardSbs (a0, (a1, ())) () = laws_eqStandardS_t n (fun k v5 v1 v0 => iter (interp ([laws_eqStandardF n]) ty 27 0 n laws_eqStandardSkp (codeAt laws_eqStandardSc [1, 1, 0, 1, 0, 0])) (canon 0 (laws_eqStandardSkp.loop 4)) (kAt ([laws_eqStandardF n]) ty 27 0 n laws_eqStandardSkp laws_eqStandardSc [1, 1, 0, 1, 0] [] (ending ty 0 Go.Proofs.Try.f17.results.toList laws_eqStandardSrs laws_eqStandardSbs)) k { env := [(5, .one (.sc (.int .i64 v5))), (1, .one (.list true (.pair .str (.pair (.int .i64) (.pair (.pair (.pair (.int .i64) (.int .i64)) (.pair (.int .i64) (.int .i64))) (.pair (.pair (.int .i64) (.int .i64)) (.pair (.int .i64) (.int .i64)))))) v1)), (0, .one (.list true (.pair .str (.pair (.int .i64) (.pair (.pair (.pair (.int .i64) (.int .i64)) (.pair (.int .i64) (.int .i64))) (.pair (.pair (.int .i64) (.int .i64)) (.pair (.int .i64) (.int .i64)))))) v0))], bx := [], nx := 0 }) a0 a1 := by kernel_rfl
  rw [h]
  have e := congrArg (fun h4 => laws_eqStandardS_t n h4 a0 a1) (funext fun k => funext fun v5 => funext fun v1 => funext fun v0 => laws_eqStandardS_l4_eq n k v5 v1 v0)
  exact e

theorem laws_eqStandardS_ok (n : Nat) : FunOk P (laws_eqStandardSF n) :=
  funOk_mk (C := [laws_eqStandardF n]) (N := 27) (kp := laws_eqStandardSkp) (c := laws_eqStandardSc) (n := n) (G := fun x y => laws_eqStandardS n x.1 x.2.1) follows (AllOk.mem (⟨laws_eqStandard_ok n, trivial⟩ : AllOk P ([laws_eqStandardF n]))) (by kernel_rfl : P.funcs[17]? = some Go.Proofs.Try.f17) (by kernel_rfl) (by kernel_rfl) (by kernel_rfl)
    (fun x y => laws_eqStandardS_eq n x.1 x.2.1) (fun _ _ => map_same (fun _ => rfl) _) (fun _ _ _ _ => rfl)

abbrev laws_szStandardsp : List Sp := [.v true (.pair .str (.pair (.int .i64) (.pair (.pair (.pair (.int .i64) (.int .i64)) (.pair (.int .i64) (.int .i64))) (.pair (.pair (.int .i64) (.int .i64)) (.pair (.int .i64) (.int .i64)))))), .v false (.int .i64)]
abbrev laws_szStandardbs : List (Bs × Bool) := []
abbrev laws_szStandardrs : List (Bool × List Rp) := [(false, [.v false (.int .i64)])]
noncomputable def laws_szStandardkp : Keep := { loop := fun id => match id with | _ => ([], []), join := fun id => match id with | _ => none }
noncomputable def laws_szStandardc : Code := bodyOf Go.Proofs.Try.f31
noncomputable def laws_szStandardF (n : Nat) : Fun := { id := 31, sp := laws_szStandardsp, bs := laws_szStandardbs, rs := laws_szStandardrs, f := fun x y => laws_szStandard n x.1 x.2.1 }

theorem laws_szStandard_eq (n : Nat) (a0 : (ByteArray) × ((Int) × ((((Int) × (Int)) × ((Int) × (Int))) × (((Int) × (Int)) × ((Int) × (Int)))))) (a1 : Int) : runBody ([]) ty 13 n laws_szStandardkp laws_szStandardc Go.Proofs.Try.f31.results.toList laws_szStandardrs laws_szStandardsp laws_szStandardbs (a0, (a1, ())) () = laws_szStandard n a0 a1 := by
  have h : runBody ([]) ty 13 n laws_szStandardkp laws_szStandardc Go.Proofs.Try.f31.results.toList laws_szStandardrs laws_szStandardsp laws_szStandardbs (a0, (a1, ())) () = laws_szStandard_t n a0 a1 := by kernel_rfl
  rw [h]
  rfl

theorem laws_szStandard_ok (n : Nat) : FunOk P (laws_szStandardF n) :=
  funOk_mk (C := []) (N := 13) (kp := laws_szStandardkp) (c := laws_szStandardc) (n := n) (G := fun x y => laws_szStandard n x.1 x.2.1) follows (AllOk.mem (trivial : AllOk P ([]))) (by kernel_rfl : P.funcs[31]? = some Go.Proofs.Try.f31) (by kernel_rfl) (by kernel_rfl) (by kernel_rfl)
    (fun x y => laws_szStandard_eq n x.1 x.2.1) (fun _ _ => map_same (fun _ => rfl) _) (fun _ _ _ _ => rfl)

abbrev laws_szStandardSsp : List Sp := [.v false (.list (.pair .str (.pair (.int .i64) (.pair (.pair (.pair (.int .i64) (.int .i64)) (.pair (.int .i64) (.int .i64))) (.pair (.pair (.int .i64) (.int .i64)) (.pair (.int .i64) (.int .i64))))))), .v false (.int .i64)]
abbrev laws_szStandardSbs : List (Bs × Bool) := []
abbrev laws_szStandardSrs : List (Bool × List Rp) := [(false, [.v false (.int .i64)])]
noncomputable def laws_szStandardSkp : Keep := { loop := fun id => match id with | 5 => ([5, 1, 0], []) | _ => ([], []), join := fun id => match id with | _ => none }
noncomputable def laws_szStandardSc : Code := bodyOf Go.Proofs.Try.f12
noncomputable def laws_szStandardSF (n : Nat) : Fun := { id := 12, sp := laws_szStandardSsp, bs := laws_szStandardSbs, rs := laws_szStandardSrs, f := fun x y => laws_szStandardS n x.1 x.2.1 }

theorem laws_szStandardS_l5_eq (n : Nat) : ∀ (k : Nat) (v5 : Int) (v1 : Int) (v0 : List ((ByteArray) × ((Int) × ((((Int) × (Int)) × ((Int) × (Int))) × (((Int) × (Int)) × ((Int) × (Int))))))), iter (interp ([laws_szStandardF n]) ty 27 0 n laws_szStandardSkp (codeAt laws_szStandardSc [1, 1, 1, 0, 1, 0, 0])) (canon 0 (laws_szStandardSkp.loop 5)) (kAt ([laws_szStandardF n]) ty 27 0 n laws_szStandardSkp laws_szStandardSc [1, 1, 1, 0, 1, 0] [] (ending ty 0 Go.Proofs.Try.f12.results.toList laws_szStandardSrs laws_szStandardSbs)) k { env := [(5, .one (.sc (.int .i64 v5))), (1, .one (.sc (.int .i64 v1))), (0, .one (.list true (.pair .str (.pair (.int .i64) (.pair (.pair (.pair (.int .i64) (.int .i64)) (.pair (.int .i64) (.int .i64))) (.pair (.pair (.int .i64) (.int .i64)) (.pair (.int .i64) (.int .i64)))))) v0))], bx := [], nx := 0 } = laws_szStandardS_l5 n k v5 v1 v0
  | 0, _, _, _ => by kernel_rfl
  | k + 1, v5, v1, v0 => by
    have h : iter (interp ([laws_szStandardF n]) ty 27 0 n laws_szStandardSkp (codeAt laws_szStandardSc [1, 1, 1, 0, 1, 0, 0])) (canon 0 (laws_szStandardSkp.loop 5)) (kAt ([laws_szStandardF n]) ty 27 0 n laws_szStandardSkp laws_szStandardSc [1, 1, 1, 0, 1, 0] [] (ending ty 0 Go.Proofs.Try.f12.results.toList laws_szStandardSrs laws_szStandardSbs)) (k + 1) { env := [(5, .one (.sc (.int .i64 v5))), (1, .one (.sc (.int .i64 v1))), (0, .one (.list true (.pair .str (.pair (.int .i64) (.pair (.pair (.pair (.int .i64) (.int .i64)) (.pair (.int .i64) (.int .i64))) (.pair (.pair (.int .i64) (.int .i64)) (.pair (.int .i64) (.int .i64)))))) v0))], bx := [], nx := 0 } = laws_szStandardS_t5 n (fun v5 v1 v0 => iter (interp ([laws_szStandardF n]) ty 27 0 n laws_szStandardSkp (codeAt laws_szStandardSc [1, 1, 1, 0, 1, 0, 0])) (canon 0 (laws_szStandardSkp.loop 5)) (kAt ([laws_szStandardF n]) ty 27 0 n laws_szStandardSkp laws_szStandardSc [1, 1, 1, 0, 1, 0] [] (ending ty 0 Go.Proofs.Try.f12.results.toList laws_szStandardSrs laws_szStandardSbs)) k { env := [(5, .one (.sc (.int .i64 v5))), (1, .one (.sc (.int .i64 v1))), (0, .one (.list true (.pair .str (.pair (.int .i64) (.pair (.pair (.pair (.int .i64) (.int .i64)) (.pair (.int .i64) (.int .i64))) (.pair (.pair (.int .i64) (.int .i64)) (.pair (.int .i64) (.int .i64)))))) v0))], bx := [], nx := 0 }) v5 v1 v0 := by kernel_rfl
    rw [h]
    have e := congrArg (fun g => laws_szStandardS_t5 n g v5 v1 v0) (funext fun v5 => funext fun v1 => funext fun v0 => laws_szStandardS_l5_eq n k v5 v1 v0)
    exact e

theorem laws_szStandardS_eq (n : Nat) (a0 : List ((ByteArray) × ((Int) × ((((Int) × (Int)) × ((Int) × (Int))) × (((Int) × (Int)) × ((Int) × (Int))))))) (a1 : Int) : runBody ([laws_szStandardF n]) ty 27 n laws_szStandardSkp laws_szStandardSc Go.Proofs.Try.f12.results.toList laws_szStandardSrs laws_szStandardSsp laws_szStandardSbs (a0, (a1, ())) () = laws_szStandardS n a0 a1 := by
  have h : runBody ([laws_szStandardF n]) ty 27 n laws_szStandardSkp laws_szStandardSc Go.Proofs.Try.f12.results.toList laws_szStandardSrs laws_szStandardSsp laws_szStandardSbs (a0, (a1, ())) () = laws_szStandardS_t n (fun k v5 v1 v0 => iter (interp ([laws_szStandardF n]) ty 27 0 n laws_szStandardSkp (codeAt laws_szStandardSc [1, 1, 1, 0, 1, 0, 0])) (canon 0 (laws_szStandardSkp.loop 5)) (kAt ([laws_szStandardF n]) ty 27 0 n laws_szStandardSkp laws_szStandardSc [1, 1, 1, 0, 1, 0] [] (ending ty 0 Go.Proofs.Try.f12.results.toList laws_szStandardSrs laws_szStandardSbs)) k { env := [(5, .one (.sc (.int .i64 v5))), (1, .one (.sc (.int .i64 v1))), (0, .one (.list true (.pair .str (.pair (.int .i64) (.pair (.pair (.pair (.int .i64) (.int .i64)) (.pair (.int .i64) (.int .i64))) (.pair (.pair (.int .i64) (.int .i64)) (.pair (.int .i64) (.int .i64)))))) v0))], bx := [], nx := 0 }) a0 a1 := by kernel_rfl
  rw [h]
  have e := congrArg (fun h5 => laws_szStandardS_t n h5 a0 a1) (funext fun k => funext fun v5 => funext fun v1 => funext fun v0 => laws_szStandardS_l5_eq n k v5 v1 v0)
  exact e

theorem laws_szStandardS_ok (n : Nat) : FunOk P (laws_szStandardSF n) :=
  funOk_mk (C := [laws_szStandardF n]) (N := 27) (kp := laws_szStandardSkp) (c := laws_szStandardSc) (n := n) (G := fun x y => laws_szStandardS n x.1 x.2.1) follows (AllOk.mem (⟨laws_szStandard_ok n, trivial⟩ : AllOk P ([laws_szStandardF n]))) (by kernel_rfl : P.funcs[12]? = some Go.Proofs.Try.f12) (by kernel_rfl) (by kernel_rfl) (by kernel_rfl)
    (fun x y => laws_szStandardS_eq n x.1 x.2.1) (fun _ _ => map_same (fun _ => rfl) _) (fun _ _ _ _ => rfl)

abbrev laws_toFracsp : List Sp := [.v true (.pair (.int .i64) (.int .i64))]
abbrev laws_toFracbs : List (Bs × Bool) := []
abbrev laws_toFracrs : List (Bool × List Rp) := [(true, [.v false (.pair (.int .i64) (.int .i64))])]
noncomputable def laws_toFrackp : Keep := { loop := fun id => match id with | _ => ([], []), join := fun id => match id with | _ => none }
noncomputable def laws_toFracc : Code := bodyOf Go.Proofs.Try.f22
noncomputable def laws_toFracF (n : Nat) : Fun := { id := 22, sp := laws_toFracsp, bs := laws_toFracbs, rs := laws_toFracrs, f := fun x y => laws_toFrac n x.1 }

theorem laws_toFrac_eq (n : Nat) (a0 : (Int) × (Int)) : runBody ([]) ty 11 n laws_toFrackp laws_toFracc Go.Proofs.Try.f22.results.toList laws_toFracrs laws_toFracsp laws_toFracbs (a0, ()) () = laws_toFrac n a0 := by
  have h : runBody ([]) ty 11 n laws_toFrackp laws_toFracc Go.Proofs.Try.f22.results.toList laws_toFracrs laws_toFracsp laws_toFracbs (a0, ()) () = laws_toFrac_t n a0 := by kernel_rfl
  rw [h]
  rfl

theorem laws_toFrac_ok (n : Nat) : FunOk P (laws_toFracF n) :=
  funOk_mk (C := []) (N := 11) (kp := laws_toFrackp) (c := laws_toFracc) (n := n) (G := fun x y => laws_toFrac n x.1) follows (AllOk.mem (trivial : AllOk P ([]))) (by kernel_rfl : P.funcs[22]? = some Go.Proofs.Try.f22) (by kernel_rfl) (by kernel_rfl) (by kernel_rfl)
    (fun x y => laws_toFrac_eq n x.1) (fun _ _ => map_same (fun _ => rfl) _) (fun _ _ _ _ => rfl)

abbrev laws_toSpansp : List Sp := [.v true (.pair (.pair (.int .i64) (.int .i64)) (.pair (.int .i64) (.int .i64)))]
abbrev laws_toSpanbs : List (Bs × Bool) := []
abbrev laws_toSpanrs : List (Bool × List Rp) := [(true, [.v false (.pair (.pair (.int .i64) (.int .i64)) (.pair (.int .i64) (.int .i64)))])]
noncomputable def laws_toSpankp : Keep := { loop := fun id => match id with | _ => ([], []), join := fun id => match id with | _ => none }
noncomputable def laws_toSpanc : Code := bodyOf Go.Proofs.Try.f62
noncomputable def laws_toSpanF (n : Nat) : Fun := { id := 62, sp := laws_toSpansp, bs := laws_toSpanbs, rs := laws_toSpanrs, f := fun x y => laws_toSpan n x.1 }

theorem laws_toSpan_eq (n : Nat) (a0 : ((Int) × (Int)) × ((Int) × (Int))) : runBody ([laws_toFracF n]) ty 13 n laws_toSpankp laws_toSpanc Go.Proofs.Try.f62.results.toList laws_toSpanrs laws_toSpansp laws_toSpanbs (a0, ()) () = laws_toSpan n a0 := by
  have h : runBody ([laws_toFracF n]) ty 13 n laws_toSpankp laws_toSpanc Go.Proofs.Try.f62.results.toList laws_toSpanrs laws_toSpansp laws_toSpanbs (a0, ()) () = laws_toSpan_t n a0 := by kernel_rfl
  rw [h]
  rfl

theorem laws_toSpan_ok (n : Nat) : FunOk P (laws_toSpanF n) :=
  funOk_mk (C := [laws_toFracF n]) (N := 13) (kp := laws_toSpankp) (c := laws_toSpanc) (n := n) (G := fun x y => laws_toSpan n x.1) follows (AllOk.mem (⟨laws_toFrac_ok n, trivial⟩ : AllOk P ([laws_toFracF n]))) (by kernel_rfl : P.funcs[62]? = some Go.Proofs.Try.f62) (by kernel_rfl) (by kernel_rfl) (by kernel_rfl)
    (fun x y => laws_toSpan_eq n x.1) (fun _ _ => map_same (fun _ => rfl) _) (fun _ _ _ _ => rfl)

abbrev laws_toStandardsp : List Sp := [.v true (.pair .str (.pair (.int .i64) (.pair (.pair (.pair (.int .i64) (.int .i64)) (.pair (.int .i64) (.int .i64))) (.pair (.pair (.int .i64) (.int .i64)) (.pair (.int .i64) (.int .i64))))))]
abbrev laws_toStandardbs : List (Bs × Bool) := []
abbrev laws_toStandardrs : List (Bool × List Rp) := [(true, [.v false (.pair .str (.pair (.int .i64) (.pair (.pair (.pair (.int .i64) (.int .i64)) (.pair (.int .i64) (.int .i64))) (.pair (.pair (.int .i64) (.int .i64)) (.pair (.int .i64) (.int .i64))))))])]
noncomputable def laws_toStandardkp : Keep := { loop := fun id => match id with | _ => ([], []), join := fun id => match id with | _ => none }
noncomputable def laws_toStandardc : Code := bodyOf Go.Proofs.Try.f34
noncomputable def laws_toStandardF (n : Nat) : Fun := { id := 34, sp := laws_toStandardsp, bs := laws_toStandardbs, rs := laws_toStandardrs, f := fun x y => laws_toStandard n x.1 }

theorem laws_toStandard_eq (n : Nat) (a0 : (ByteArray) × ((Int) × ((((Int) × (Int)) × ((Int) × (Int))) × (((Int) × (Int)) × ((Int) × (Int)))))) : runBody ([laws_toSpanF n, laws_toFracF n]) ty 25 n laws_toStandardkp laws_toStandardc Go.Proofs.Try.f34.results.toList laws_toStandardrs laws_toStandardsp laws_toStandardbs (a0, ()) () = laws_toStandard n a0 := by
  have h : runBody ([laws_toSpanF n, laws_toFracF n]) ty 25 n laws_toStandardkp laws_toStandardc Go.Proofs.Try.f34.results.toList laws_toStandardrs laws_toStandardsp laws_toStandardbs (a0, ()) () = laws_toStandard_t n a0 := by kernel_rfl
  rw [h]
  rfl

theorem laws_toStandard_ok (n : Nat) : FunOk P (laws_toStandardF n) :=
  funOk_mk (C := [laws_toSpanF n, laws_toFracF n]) (N := 25) (kp := laws_toStandardkp) (c := laws_toStandardc) (n := n) (G := fun x y => laws_toStandard n x.1) follows (AllOk.mem (⟨laws_toSpan_ok n, ⟨laws_toFrac_ok n, trivial⟩⟩ : AllOk P ([laws_toSpanF n, laws_toFracF n]))) (by kernel_rfl : P.funcs[34]? = some Go.Proofs.Try.f34) (by kernel_rfl) (by kernel_rfl) (by kernel_rfl)
    (fun x y => laws_toStandard_eq n x.1) (fun _ _ => map_same (fun _ => rfl) _) (fun _ _ _ _ => rfl)

abbrev laws_toStandardSsp : List Sp := [.v false (.list (.pair .str (.pair (.int .i64) (.pair (.pair (.pair (.int .i64) (.int .i64)) (.pair (.int .i64) (.int .i64))) (.pair (.pair (.int .i64) (.int .i64)) (.pair (.int .i64) (.int .i64)))))))]
abbrev laws_toStandardSbs : List (Bs × Bool) := []
abbrev laws_toStandardSrs : List (Bool × List Rp) := [(false, [.new  (.pair .str (.pair (.int .i64) (.pair (.pair (.pair (.int .i64) (.int .i64)) (.pair (.int .i64) (.int .i64))) (.pair (.pair (.int .i64) (.int .i64)) (.pair (.int .i64) (.int .i64))))))])]
noncomputable def laws_toStandardSkp : Keep := { loop := fun id => match id with | 3 => ([4, 0, 3], []) | _ => ([], []), join := fun id => match id with | _ => none }
noncomputable def laws_toStandardSc : Code := bodyOf Go.Proofs.Try.f14
noncomputable def laws_toStandardSF (n : Nat) : Fun := { id := 14, sp := laws_toStandardSsp, bs := laws_toStandardSbs, rs := laws_toStandardSrs, f := fun x y => laws_toStandardS n x.1 }

theorem laws_toStandardS_l3_eq (n : Nat) : ∀ (k : Nat) (v4 : Int) (v0 : List ((ByteArray) × ((Int) × ((((Int) × (Int)) × ((Int) × (Int))) × (((Int) × (Int)) × ((Int) × (Int))))))) (b0 : List ((ByteArray) × ((Int) × ((((Int) × (Int)) × ((Int) × (Int))) × (((Int) × (Int)) × ((Int) × (Int))))))), iter (interp ([laws_toStandardF n]) ty 23 0 n laws_toStandardSkp (codeAt laws_toStandardSc [1, 1, 0, 1, 0, 0])) (canon 0 (laws_toStandardSkp.loop 3)) (kAt ([laws_toStandardF n]) ty 23 0 n laws_toStandardSkp laws_toStandardSc [1, 1, 0, 1, 0] [] (ending ty 0 Go.Proofs.Try.f14.results.toList laws_toStandardSrs laws_toStandardSbs)) k { env := [(4, .one (.sc (.int .i64 v4))), (0, .one (.list true (.pair .str (.pair (.int .i64) (.pair (.pair (.pair (.int .i64) (.int .i64)) (.pair (.int .i64) (.int .i64))) (.pair (.pair (.int .i64) (.int .i64)) (.pair (.int .i64) (.int .i64)))))) v0)), (3, .one (.slice 0 0 none))], bx := [(0, .row 0 (.pair .str (.pair (.int .i64) (.pair (.pair (.pair (.int .i64) (.int .i64)) (.pair (.int .i64) (.int .i64))) (.pair (.pair (.int .i64) (.int .i64)) (.pair (.int .i64) (.int .i64)))))) b0)], nx := 1 } = laws_toStandardS_l3 n k v4 v0 b0
  | 0, _, _, _ => by kernel_rfl
  | k + 1, v4, v0, b0 => by
    have h : iter (interp ([laws_toStandardF n]) ty 23 0 n laws_toStandardSkp (codeAt laws_toStandardSc [1, 1, 0, 1, 0, 0])) (canon 0 (laws_toStandardSkp.loop 3)) (kAt ([laws_toStandardF n]) ty 23 0 n laws_toStandardSkp laws_toStandardSc [1, 1, 0, 1, 0] [] (ending ty 0 Go.Proofs.Try.f14.results.toList laws_toStandardSrs laws_toStandardSbs)) (k + 1) { env := [(4, .one (.sc (.int .i64 v4))), (0, .one (.list true (.pair .str (.pair (.int .i64) (.pair (.pair (.pair (.int .i64) (.int .i64)) (.pair (.int .i64) (.int .i64))) (.pair (.pair (.int .i64) (.int .i64)) (.pair (.int .i64) (.int .i64)))))) v0)), (3, .one (.slice 0 0 none))], bx := [(0, .row 0 (.pair .str (.pair (.int .i64) (.pair (.pair (.pair (.int .i64) (.int .i64)) (.pair (.int .i64) (.int .i64))) (.pair (.pair (.int .i64) (.int .i64)) (.pair (.int .i64) (.int .i64)))))) b0)], nx := 1 } = laws_toStandardS_t3 n (fun v4 v0 b0 => iter (interp ([laws_toStandardF n]) ty 23 0 n laws_toStandardSkp (codeAt laws_toStandardSc [1, 1, 0, 1, 0, 0])) (canon 0 (laws_toStandardSkp.loop 3)) (kAt ([laws_toStandardF n]) ty 23 0 n laws_toStandardSkp laws_toStandardSc [1, 1, 0, 1, 0] [] (ending ty 0 Go.Proofs.Try.f14.results.toList laws_toStandardSrs laws_toStandardSbs)) k { env := [(4, .one (.sc (.int .i64 v4))), (0, .one (.list true (.pair .str (.pair (.int .i64) (.pair (.pair (.pair (.int .i64) (.int .i64)) (.pair (.int .i64) (.int .i64))) (.pair (.pair (.int .i64) (.int .i64)) (.pair (.int .i64) (.int .i64)))))) v0)), (3, .one (.slice 0 0 none))], bx := [(0, .row 0 (.pair .str (.pair (.int .i64) (.pair (.pair (.pair (.int .i64) (.int .i64)) (.pair (.int .i64) (.int .i64))) (.pair (.pair (.int .i64) (.int .i64)) (.pair (.int .i64) (.int .i64)))))) b0)], nx := 1 }) v4 v0 b0 := by kernel_rfl
    rw [h]
    have e := congrArg (fun g => laws_toStandardS_t3 n g v4 v0 b0) (funext fun v4 => funext fun v0 => funext fun b0 => laws_toStandardS_l3_eq n k v4 v0 b0)
    exact e

theorem laws_toStandardS_eq (n : Nat) (a0 : List ((ByteArray) × ((Int) × ((((Int) × (Int)) × ((Int) × (Int))) × (((Int) × (Int)) × ((Int) × (Int))))))) : runBody ([laws_toStandardF n]) ty 23 n laws_toStandardSkp laws_toStandardSc Go.Proofs.Try.f14.results.toList laws_toStandardSrs laws_toStandardSsp laws_toStandardSbs (a0, ()) () = laws_toStandardS n a0 := by
  have h : runBody ([laws_toStandardF n]) ty 23 n laws_toStandardSkp laws_toStandardSc Go.Proofs.Try.f14.results.toList laws_toStandardSrs laws_toStandardSsp laws_toStandardSbs (a0, ()) () = laws_toStandardS_t n (fun k v4 v0 b0 => iter (interp ([laws_toStandardF n]) ty 23 0 n laws_toStandardSkp (codeAt laws_toStandardSc [1, 1, 0, 1, 0, 0])) (canon 0 (laws_toStandardSkp.loop 3)) (kAt ([laws_toStandardF n]) ty 23 0 n laws_toStandardSkp laws_toStandardSc [1, 1, 0, 1, 0] [] (ending ty 0 Go.Proofs.Try.f14.results.toList laws_toStandardSrs laws_toStandardSbs)) k { env := [(4, .one (.sc (.int .i64 v4))), (0, .one (.list true (.pair .str (.pair (.int .i64) (.pair (.pair (.pair (.int .i64) (.int .i64)) (.pair (.int .i64) (.int .i64))) (.pair (.pair (.int .i64) (.int .i64)) (.pair (.int .i64) (.int .i64)))))) v0)), (3, .one (.slice 0 0 none))], bx := [(0, .row 0 (.pair .str (.pair (.int .i64) (.pair (.pair (.pair (.int .i64) (.int .i64)) (.pair (.int .i64) (.int .i64))) (.pair (.pair (.int .i64) (.int .i64)) (.pair (.int .i64) (.int .i64)))))) b0)], nx := 1 }) a0 := by kernel_rfl
  rw [h]
  have e := congrArg (fun h3 => laws_toStandardS_t n h3 a0) (funext fun k => funext fun v4 => funext fun v0 => funext fun b0 => laws_toStandardS_l3_eq n k v4 v0 b0)
  exact e

theorem laws_toStandardS_ok (n : Nat) : FunOk P (laws_toStandardSF n) :=
  funOk_mk (C := [laws_toStandardF n]) (N := 23) (kp := laws_toStandardSkp) (c := laws_toStandardSc) (n := n) (G := fun x y => laws_toStandardS n x.1) follows (AllOk.mem (⟨laws_toStandard_ok n, trivial⟩ : AllOk P ([laws_toStandardF n]))) (by kernel_rfl : P.funcs[14]? = some Go.Proofs.Try.f14) (by kernel_rfl) (by kernel_rfl) (by kernel_rfl)
    (fun x y => laws_toStandardS_eq n x.1) (fun _ _ => map_same (fun _ => rfl) _) (fun _ _ _ _ => rfl)

abbrev spec_l01Abssp : List Sp := [.v false (.int .i64)]
abbrev spec_l01Absbs : List (Bs × Bool) := []
abbrev spec_l01Absrs : List (Bool × List Rp) := [(false, [.v false (.int .i64)])]
noncomputable def spec_l01Abskp : Keep := { loop := fun id => match id with | _ => ([], []), join := fun id => match id with | _ => none }
noncomputable def spec_l01Absc : Code := bodyOf Go.Proofs.Try.f59
noncomputable def spec_l01AbsF (n : Nat) : Fun := { id := 59, sp := spec_l01Abssp, bs := spec_l01Absbs, rs := spec_l01Absrs, f := fun x y => spec_l01Abs n x.1 }

theorem spec_l01Abs_eq (n : Nat) (a0 : Int) : runBody ([]) ty 8 n spec_l01Abskp spec_l01Absc Go.Proofs.Try.f59.results.toList spec_l01Absrs spec_l01Abssp spec_l01Absbs (a0, ()) () = spec_l01Abs n a0 := by
  have h : runBody ([]) ty 8 n spec_l01Abskp spec_l01Absc Go.Proofs.Try.f59.results.toList spec_l01Absrs spec_l01Abssp spec_l01Absbs (a0, ()) () = spec_l01Abs_t n a0 := by kernel_rfl
  rw [h]
  rfl

theorem spec_l01Abs_ok (n : Nat) : FunOk P (spec_l01AbsF n) :=
  funOk_mk (C := []) (N := 8) (kp := spec_l01Abskp) (c := spec_l01Absc) (n := n) (G := fun x y => spec_l01Abs n x.1) follows (AllOk.mem (trivial : AllOk P ([]))) (by kernel_rfl : P.funcs[59]? = some Go.Proofs.Try.f59) (by kernel_rfl) (by kernel_rfl) (by kernel_rfl)
    (fun x y => spec_l01Abs_eq n x.1) (fun _ _ => map_same (fun _ => rfl) _) (fun _ _ _ _ => rfl)

abbrev spec_l01Negsp : List Sp := [.v true (.pair (.int .i64) (.int .i64))]
abbrev spec_l01Negbs : List (Bs × Bool) := []
abbrev spec_l01Negrs : List (Bool × List Rp) := [(true, [.v false (.pair (.int .i64) (.int .i64))])]
noncomputable def spec_l01Negkp : Keep := { loop := fun id => match id with | _ => ([], []), join := fun id => match id with | _ => none }
noncomputable def spec_l01Negc : Code := bodyOf Go.Proofs.Try.f80
noncomputable def spec_l01NegF (n : Nat) : Fun := { id := 80, sp := spec_l01Negsp, bs := spec_l01Negbs, rs := spec_l01Negrs, f := fun x y => spec_l01Neg n x.1 }

theorem spec_l01Neg_eq (n : Nat) (a0 : (Int) × (Int)) : runBody ([]) ty 9 n spec_l01Negkp spec_l01Negc Go.Proofs.Try.f80.results.toList spec_l01Negrs spec_l01Negsp spec_l01Negbs (a0, ()) () = spec_l01Neg n a0 := by
  have h : runBody ([]) ty 9 n spec_l01Negkp spec_l01Negc Go.Proofs.Try.f80.results.toList spec_l01Negrs spec_l01Negsp spec_l01Negbs (a0, ()) () = spec_l01Neg_t n a0 := by kernel_rfl
  rw [h]
  rfl

theorem spec_l01Neg_ok (n : Nat) : FunOk P (spec_l01NegF n) :=
  funOk_mk (C := []) (N := 9) (kp := spec_l01Negkp) (c := spec_l01Negc) (n := n) (G := fun x y => spec_l01Neg n x.1) follows (AllOk.mem (trivial : AllOk P ([]))) (by kernel_rfl : P.funcs[80]? = some Go.Proofs.Try.f80) (by kernel_rfl) (by kernel_rfl) (by kernel_rfl)
    (fun x y => spec_l01Neg_eq n x.1) (fun _ _ => map_same (fun _ => rfl) _) (fun _ _ _ _ => rfl)

abbrev spec_l01Gcdsp : List Sp := [.v false (.int .i64), .v false (.int .i64)]
abbrev spec_l01Gcdbs : List (Bs × Bool) := []
abbrev spec_l01Gcdrs : List (Bool × List Rp) := [(false, [.v false (.int .i64)])]
noncomputable def spec_l01Gcdkp : Keep := { loop := fun id => match id with | 1 => ([1, 0], []) | _ => ([], []), join := fun id => match id with | _ => none }
noncomputable def spec_l01Gcdc : Code := bodyOf Go.Proofs.Try.f72
noncomputable def spec_l01GcdF (n : Nat) : Fun := { id := 72, sp := spec_l01Gcdsp, bs := spec_l01Gcdbs, rs := spec_l01Gcdrs, f := fun x y => spec_l01Gcd n x.1 x.2.1 }

theorem spec_l01Gcd_l1_eq (n : Nat) : ∀ (k : Nat) (v1 : Int) (v0 : Int), iter (interp ([]) ty 14 0 n spec_l01Gcdkp (codeAt spec_l01Gcdc [1, 0, 0, 0])) (canon 0 (spec_l01Gcdkp.loop 1)) (kAt ([]) ty 14 0 n spec_l01Gcdkp spec_l01Gcdc [1, 0, 0] [] (ending ty 0 Go.Proofs.Try.f72.results.toList spec_l01Gcdrs spec_l01Gcdbs)) k { env := [(1, .one (.sc (.int .i64 v1))), (0, .one (.sc (.int .i64 v0)))], bx := [], nx := 0 } = spec_l01Gcd_l1 n k v1 v0
  | 0, _, _ => by kernel_rfl
  | k + 1, v1, v0 => by
    have h : iter (interp ([]) ty 14 0 n spec_l01Gcdkp (codeAt spec_l01Gcdc [1, 0, 0, 0])) (canon 0 (spec_l01Gcdkp.loop 1)) (kAt ([]) ty 14 0 n spec_l01Gcdkp spec_l01Gcdc [1, 0, 0] [] (ending ty 0 Go.Proofs.Try.f72.results.toList spec_l01Gcdrs spec_l01Gcdbs)) (k + 1) { env := [(1, .one (.sc (.int .i64 v1))), (0, .one (.sc (.int .i64 v0)))], bx := [], nx := 0 } = spec_l01Gcd_t1 n (fun v1 v0 => iter (interp ([]) ty 14 0 n spec_l01Gcdkp (codeAt spec_l01Gcdc [1, 0, 0, 0])) (canon 0 (spec_l01Gcdkp.loop 1)) (kAt ([]) ty 14 0 n spec_l01Gcdkp spec_l01Gcdc [1, 0, 0] [] (ending ty 0 Go.Proofs.Try.f72.results.toList spec_l01Gcdrs spec_l01Gcdbs)) k { env := [(1, .one (.sc (.int .i64 v1))), (0, .one (.sc (.int .i64 v0)))], bx := [], nx := 0 }) v1 v0 := by kernel_rfl
    rw [h]
    have e := congrArg (fun g => spec_l01Gcd_t1 n g v1 v0) (funext fun v1 => funext fun v0 => spec_l01Gcd_l1_eq n k v1 v0)
    exact e

theorem spec_l01Gcd_eq (n : Nat) (a0 : Int) (a1 : Int) : runBody ([]) ty 14 n spec_l01Gcdkp spec_l01Gcdc Go.Proofs.Try.f72.results.toList spec_l01Gcdrs spec_l01Gcdsp spec_l01Gcdbs (a0, (a1, ())) () = spec_l01Gcd n a0 a1 := by
  have h : runBody ([]) ty 14 n spec_l01Gcdkp spec_l01Gcdc Go.Proofs.Try.f72.results.toList spec_l01Gcdrs spec_l01Gcdsp spec_l01Gcdbs (a0, (a1, ())) () = spec_l01Gcd_t n (fun k v1 v0 => iter (interp ([]) ty 14 0 n spec_l01Gcdkp (codeAt spec_l01Gcdc [1, 0, 0, 0])) (canon 0 (spec_l01Gcdkp.loop 1)) (kAt ([]) ty 14 0 n spec_l01Gcdkp spec_l01Gcdc [1, 0, 0] [] (ending ty 0 Go.Proofs.Try.f72.results.toList spec_l01Gcdrs spec_l01Gcdbs)) k { env := [(1, .one (.sc (.int .i64 v1))), (0, .one (.sc (.int .i64 v0)))], bx := [], nx := 0 }) a0 a1 := by kernel_rfl
  rw [h]
  have e := congrArg (fun h1 => spec_l01Gcd_t n h1 a0 a1) (funext fun k => funext fun v1 => funext fun v0 => spec_l01Gcd_l1_eq n k v1 v0)
  exact e

theorem spec_l01Gcd_ok (n : Nat) : FunOk P (spec_l01GcdF n) :=
  funOk_mk (C := []) (N := 14) (kp := spec_l01Gcdkp) (c := spec_l01Gcdc) (n := n) (G := fun x y => spec_l01Gcd n x.1 x.2.1) follows (AllOk.mem (trivial : AllOk P ([]))) (by kernel_rfl : P.funcs[72]? = some Go.Proofs.Try.f72) (by kernel_rfl) (by kernel_rfl) (by kernel_rfl)
    (fun x y => spec_l01Gcd_eq n x.1 x.2.1) (fun _ _ => map_same (fun _ => rfl) _) (fun _ _ _ _ => rfl)

abbrev spec_l00Insp : List Sp := [.v false (.int .i64), .v false (.int .i64), .v false (.int .i64)]
abbrev spec_l00Inbs : List (Bs × Bool) := []
abbrev spec_l00Inrs : List (Bool × List Rp) := [(false, [.v false .bool])]
noncomputable def spec_l00Inkp : Keep := { loop := fun id => match id with | _ => ([], []), join := fun id => match id with | _ => none }
noncomputable def spec_l00Inc : Code := bodyOf Go.Proofs.Try.f20
noncomputable def spec_l00InF (n : Nat) : Fun := { id := 20, sp := spec_l00Insp, bs := spec_l00Inbs, rs := spec_l00Inrs, f := fun x y => spec_l00In n x.1 x.2.1 x.2.2.1 }

theorem spec_l00In_eq (n : Nat) (a0 : Int) (a1 : Int) (a2 : Int) : runBody ([]) ty 15 n spec_l00Inkp spec_l00Inc Go.Proofs.Try.f20.results.toList spec_l00Inrs spec_l00Insp spec_l00Inbs (a0, (a1, (a2, ()))) () = spec_l00In n a0 a1 a2 := by
  have h : runBody ([]) ty 15 n spec_l00Inkp spec_l00Inc Go.Proofs.Try.f20.results.toList spec_l00Inrs spec_l00Insp spec_l00Inbs (a0, (a1, (a2, ()))) () = spec_l00In_t n a0 a1 a2 := by kernel_rfl
  rw [h]
  rfl

theorem spec_l00In_ok (n : Nat) : FunOk P (spec_l00InF n) :=
  funOk_mk (C := []) (N := 15) (kp := spec_l00Inkp) (c := spec_l00Inc) (n := n) (G := fun x y => spec_l00In n x.1 x.2.1 x.2.2.1) follows (AllOk.mem (trivial : AllOk P ([]))) (by kernel_rfl : P.funcs[20]? = some Go.Proofs.Try.f20) (by kernel_rfl) (by kernel_rfl) (by kernel_rfl)
    (fun x y => spec_l00In_eq n x.1 x.2.1 x.2.2.1) (fun _ _ => map_same (fun _ => rfl) _) (fun _ _ _ _ => rfl)

abbrev spec_l01Oksp : List Sp := [.v true (.pair (.int .i64) (.int .i64))]
abbrev spec_l01Okbs : List (Bs × Bool) := []
abbrev spec_l01Okrs : List (Bool × List Rp) := [(false, [.v false .bool])]
noncomputable def spec_l01Okkp : Keep := { loop := fun id => match id with | _ => ([], []), join := fun id => match id with | _ => none }
noncomputable def spec_l01Okc : Code := bodyOf Go.Proofs.Try.f48
noncomputable def spec_l01OkF (n : Nat) : Fun := { id := 48, sp := spec_l01Oksp, bs := spec_l01Okbs, rs := spec_l01Okrs, f := fun x y => spec_l01Ok n x.1 }

theorem spec_l01Ok_eq (n : Nat) (a0 : (Int) × (Int)) : runBody ([spec_l00InF n, spec_l01AbsF n, spec_l01GcdF n]) ty 20 n spec_l01Okkp spec_l01Okc Go.Proofs.Try.f48.results.toList spec_l01Okrs spec_l01Oksp spec_l01Okbs (a0, ()) () = spec_l01Ok n a0 := by
  have h : runBody ([spec_l00InF n, spec_l01AbsF n, spec_l01GcdF n]) ty 20 n spec_l01Okkp spec_l01Okc Go.Proofs.Try.f48.results.toList spec_l01Okrs spec_l01Oksp spec_l01Okbs (a0, ()) () = spec_l01Ok_t n a0 := by kernel_rfl
  rw [h]
  rfl

theorem spec_l01Ok_ok (n : Nat) : FunOk P (spec_l01OkF n) :=
  funOk_mk (C := [spec_l00InF n, spec_l01AbsF n, spec_l01GcdF n]) (N := 20) (kp := spec_l01Okkp) (c := spec_l01Okc) (n := n) (G := fun x y => spec_l01Ok n x.1) follows (AllOk.mem (⟨spec_l00In_ok n, ⟨spec_l01Abs_ok n, ⟨spec_l01Gcd_ok n, trivial⟩⟩⟩ : AllOk P ([spec_l00InF n, spec_l01AbsF n, spec_l01GcdF n]))) (by kernel_rfl : P.funcs[48]? = some Go.Proofs.Try.f48) (by kernel_rfl) (by kernel_rfl) (by kernel_rfl)
    (fun x y => spec_l01Ok_eq n x.1) (fun _ _ => map_same (fun _ => rfl) _) (fun _ _ _ _ => rfl)

abbrev spec_l01Reducedsp : List Sp := [.v false (.int .i64), .v false (.int .i64)]
abbrev spec_l01Reducedbs : List (Bs × Bool) := []
abbrev spec_l01Reducedrs : List (Bool × List Rp) := [(true, [.v false (.pair (.int .i64) (.int .i64))]), (false, [.v false (.int .i64)])]
noncomputable def spec_l01Reducedkp : Keep := { loop := fun id => match id with | _ => ([], []), join := fun id => match id with | _ => none }
noncomputable def spec_l01Reducedc : Code := bodyOf Go.Proofs.Try.f93
noncomputable def spec_l01ReducedF (n : Nat) : Fun := { id := 93, sp := spec_l01Reducedsp, bs := spec_l01Reducedbs, rs := spec_l01Reducedrs, f := fun x y => spec_l01Reduced n x.1 x.2.1 }

theorem spec_l01Reduced_eq (n : Nat) (a0 : Int) (a1 : Int) : runBody ([spec_l01AbsF n, spec_l01GcdF n, spec_l01OkF n]) ty 33 n spec_l01Reducedkp spec_l01Reducedc Go.Proofs.Try.f93.results.toList spec_l01Reducedrs spec_l01Reducedsp spec_l01Reducedbs (a0, (a1, ())) () = spec_l01Reduced n a0 a1 := by
  have h : runBody ([spec_l01AbsF n, spec_l01GcdF n, spec_l01OkF n]) ty 33 n spec_l01Reducedkp spec_l01Reducedc Go.Proofs.Try.f93.results.toList spec_l01Reducedrs spec_l01Reducedsp spec_l01Reducedbs (a0, (a1, ())) () = spec_l01Reduced_t n a0 a1 := by kernel_rfl
  rw [h]
  rfl

theorem spec_l01Reduced_ok (n : Nat) : FunOk P (spec_l01ReducedF n) :=
  funOk_mk (C := [spec_l01AbsF n, spec_l01GcdF n, spec_l01OkF n]) (N := 33) (kp := spec_l01Reducedkp) (c := spec_l01Reducedc) (n := n) (G := fun x y => spec_l01Reduced n x.1 x.2.1) follows (AllOk.mem (⟨spec_l01Abs_ok n, ⟨spec_l01Gcd_ok n, ⟨spec_l01Ok_ok n, trivial⟩⟩⟩ : AllOk P ([spec_l01AbsF n, spec_l01GcdF n, spec_l01OkF n]))) (by kernel_rfl : P.funcs[93]? = some Go.Proofs.Try.f93) (by kernel_rfl) (by kernel_rfl) (by kernel_rfl)
    (fun x y => spec_l01Reduced_eq n x.1 x.2.1) (fun _ _ => map_same (fun _ => rfl) _) (fun _ _ _ _ => rfl)

abbrev spec_l01Addsp : List Sp := [.v true (.pair (.int .i64) (.int .i64)), .v true (.pair (.int .i64) (.int .i64))]
abbrev spec_l01Addbs : List (Bs × Bool) := []
abbrev spec_l01Addrs : List (Bool × List Rp) := [(true, [.v false (.pair (.int .i64) (.int .i64))]), (false, [.v false (.int .i64)])]
noncomputable def spec_l01Addkp : Keep := { loop := fun id => match id with | _ => ([], []), join := fun id => match id with | _ => none }
noncomputable def spec_l01Addc : Code := bodyOf Go.Proofs.Try.f83
noncomputable def spec_l01AddF (n : Nat) : Fun := { id := 83, sp := spec_l01Addsp, bs := spec_l01Addbs, rs := spec_l01Addrs, f := fun x y => spec_l01Add n x.1 x.2.1 }

theorem spec_l01Add_eq (n : Nat) (a0 : (Int) × (Int)) (a1 : (Int) × (Int)) : runBody ([spec_l01ReducedF n]) ty 25 n spec_l01Addkp spec_l01Addc Go.Proofs.Try.f83.results.toList spec_l01Addrs spec_l01Addsp spec_l01Addbs (a0, (a1, ())) () = spec_l01Add n a0 a1 := by
  have h : runBody ([spec_l01ReducedF n]) ty 25 n spec_l01Addkp spec_l01Addc Go.Proofs.Try.f83.results.toList spec_l01Addrs spec_l01Addsp spec_l01Addbs (a0, (a1, ())) () = spec_l01Add_t n a0 a1 := by kernel_rfl
  rw [h]
  rfl

theorem spec_l01Add_ok (n : Nat) : FunOk P (spec_l01AddF n) :=
  funOk_mk (C := [spec_l01ReducedF n]) (N := 25) (kp := spec_l01Addkp) (c := spec_l01Addc) (n := n) (G := fun x y => spec_l01Add n x.1 x.2.1) follows (AllOk.mem (⟨spec_l01Reduced_ok n, trivial⟩ : AllOk P ([spec_l01ReducedF n]))) (by kernel_rfl : P.funcs[83]? = some Go.Proofs.Try.f83) (by kernel_rfl) (by kernel_rfl) (by kernel_rfl)
    (fun x y => spec_l01Add_eq n x.1 x.2.1) (fun _ _ => map_same (fun _ => rfl) _) (fun _ _ _ _ => rfl)

abbrev spec_l01Bothsp : List Sp := [.v true (.pair (.int .i64) (.int .i64)), .v false (.int .i64), .v true (.pair (.int .i64) (.int .i64)), .v false (.int .i64)]
abbrev spec_l01Bothbs : List (Bs × Bool) := []
abbrev spec_l01Bothrs : List (Bool × List Rp) := [(true, [.v false (.pair (.pair (.int .i64) (.int .i64)) (.pair (.int .i64) (.int .i64)))]), (false, [.v false (.int .i64)])]
noncomputable def spec_l01Bothkp : Keep := { loop := fun id => match id with | _ => ([], []), join := fun id => match id with | _ => none }
noncomputable def spec_l01Bothc : Code := bodyOf Go.Proofs.Try.f92
noncomputable def spec_l01BothF (n : Nat) : Fun := { id := 92, sp := spec_l01Bothsp, bs := spec_l01Bothbs, rs := spec_l01Bothrs, f := fun x y => spec_l01Both n x.1 x.2.1 x.2.2.1 x.2.2.2.1 }

theorem spec_l01Both_eq (n : Nat) (a0 : (Int) × (Int)) (a1 : Int) (a2 : (Int) × (Int)) (a3 : Int) : runBody ([]) ty 21 n spec_l01Bothkp spec_l01Bothc Go.Proofs.Try.f92.results.toList spec_l01Bothrs spec_l01Bothsp spec_l01Bothbs (a0, (a1, (a2, (a3, ())))) () = spec_l01Both n a0 a1 a2 a3 := by
  have h : runBody ([]) ty 21 n spec_l01Bothkp spec_l01Bothc Go.Proofs.Try.f92.results.toList spec_l01Bothrs spec_l01Bothsp spec_l01Bothbs (a0, (a1, (a2, (a3, ())))) () = spec_l01Both_t n a0 a1 a2 a3 := by kernel_rfl
  rw [h]
  rfl

theorem spec_l01Both_ok (n : Nat) : FunOk P (spec_l01BothF n) :=
  funOk_mk (C := []) (N := 21) (kp := spec_l01Bothkp) (c := spec_l01Bothc) (n := n) (G := fun x y => spec_l01Both n x.1 x.2.1 x.2.2.1 x.2.2.2.1) follows (AllOk.mem (trivial : AllOk P ([]))) (by kernel_rfl : P.funcs[92]? = some Go.Proofs.Try.f92) (by kernel_rfl) (by kernel_rfl) (by kernel_rfl)
    (fun x y => spec_l01Both_eq n x.1 x.2.1 x.2.2.1 x.2.2.2.1) (fun _ _ => map_same (fun _ => rfl) _) (fun _ _ _ _ => rfl)

abbrev spec_l01Sumssp : List Sp := [.v true (.pair (.pair (.int .i64) (.int .i64)) (.pair (.int .i64) (.int .i64))), .v true (.pair (.pair (.int .i64) (.int .i64)) (.pair (.int .i64) (.int .i64)))]
abbrev spec_l01Sumsbs : List (Bs × Bool) := []
abbrev spec_l01Sumsrs : List (Bool × List Rp) := [(true, [.v false (.pair (.pair (.int .i64) (.int .i64)) (.pair (.int .i64) (.int .i64)))]), (false, [.v false (.int .i64)])]
noncomputable def spec_l01Sumskp : Keep := { loop := fun id => match id with | _ => ([], []), join := fun id => match id with | _ => none }
noncomputable def spec_l01Sumsc : Code := bodyOf Go.Proofs.Try.f78
noncomputable def spec_l01SumsF (n : Nat) : Fun := { id := 78, sp := spec_l01Sumssp, bs := spec_l01Sumsbs, rs := spec_l01Sumsrs, f := fun x y => spec_l01Sums n x.1 x.2.1 }

theorem spec_l01Sums_eq (n : Nat) (a0 : ((Int) × (Int)) × ((Int) × (Int))) (a1 : ((Int) × (Int)) × ((Int) × (Int))) : runBody ([spec_l01AddF n, spec_l01BothF n]) ty 33 n spec_l01Sumskp spec_l01Sumsc Go.Proofs.Try.f78.results.toList spec_l01Sumsrs spec_l01Sumssp spec_l01Sumsbs (a0, (a1, ())) () = spec_l01Sums n a0 a1 := by
  have h : runBody ([spec_l01AddF n, spec_l01BothF n]) ty 33 n spec_l01Sumskp spec_l01Sumsc Go.Proofs.Try.f78.results.toList spec_l01Sumsrs spec_l01Sumssp spec_l01Sumsbs (a0, (a1, ())) () = spec_l01Sums_t n a0 a1 := by kernel_rfl
  rw [h]
  rfl

theorem spec_l01Sums_ok (n : Nat) : FunOk P (spec_l01SumsF n) :=
  funOk_mk (C := [spec_l01AddF n, spec_l01BothF n]) (N := 33) (kp := spec_l01Sumskp) (c := spec_l01Sumsc) (n := n) (G := fun x y => spec_l01Sums n x.1 x.2.1) follows (AllOk.mem (⟨spec_l01Add_ok n, ⟨spec_l01Both_ok n, trivial⟩⟩ : AllOk P ([spec_l01AddF n, spec_l01BothF n]))) (by kernel_rfl : P.funcs[78]? = some Go.Proofs.Try.f78) (by kernel_rfl) (by kernel_rfl) (by kernel_rfl)
    (fun x y => spec_l01Sums_eq n x.1 x.2.1) (fun _ _ => map_same (fun _ => rfl) _) (fun _ _ _ _ => rfl)

abbrev spec_l01Againstsp : List Sp := [.v true (.pair (.pair (.int .i64) (.int .i64)) (.pair (.int .i64) (.int .i64))), .v true (.pair (.pair (.int .i64) (.int .i64)) (.pair (.int .i64) (.int .i64)))]
abbrev spec_l01Againstbs : List (Bs × Bool) := []
abbrev spec_l01Againstrs : List (Bool × List Rp) := [(true, [.v false (.pair (.pair (.int .i64) (.int .i64)) (.pair (.int .i64) (.int .i64)))]), (false, [.v false (.int .i64)])]
noncomputable def spec_l01Againstkp : Keep := { loop := fun id => match id with | _ => ([], []), join := fun id => match id with | _ => none }
noncomputable def spec_l01Againstc : Code := bodyOf Go.Proofs.Try.f58
noncomputable def spec_l01AgainstF (n : Nat) : Fun := { id := 58, sp := spec_l01Againstsp, bs := spec_l01Againstbs, rs := spec_l01Againstrs, f := fun x y => spec_l01Against n x.1 x.2.1 }

theorem spec_l01Against_eq (n : Nat) (a0 : ((Int) × (Int)) × ((Int) × (Int))) (a1 : ((Int) × (Int)) × ((Int) × (Int))) : runBody ([spec_l01NegF n, spec_l01SumsF n]) ty 17 n spec_l01Againstkp spec_l01Againstc Go.Proofs.Try.f58.results.toList spec_l01Againstrs spec_l01Againstsp spec_l01Againstbs (a0, (a1, ())) () = spec_l01Against n a0 a1 := by
  have h : runBody ([spec_l01NegF n, spec_l01SumsF n]) ty 17 n spec_l01Againstkp spec_l01Againstc Go.Proofs.Try.f58.results.toList spec_l01Againstrs spec_l01Againstsp spec_l01Againstbs (a0, (a1, ())) () = spec_l01Against_t n a0 a1 := by kernel_rfl
  rw [h]
  rfl

theorem spec_l01Against_ok (n : Nat) : FunOk P (spec_l01AgainstF n) :=
  funOk_mk (C := [spec_l01NegF n, spec_l01SumsF n]) (N := 17) (kp := spec_l01Againstkp) (c := spec_l01Againstc) (n := n) (G := fun x y => spec_l01Against n x.1 x.2.1) follows (AllOk.mem (⟨spec_l01Neg_ok n, ⟨spec_l01Sums_ok n, trivial⟩⟩ : AllOk P ([spec_l01NegF n, spec_l01SumsF n]))) (by kernel_rfl : P.funcs[58]? = some Go.Proofs.Try.f58) (by kernel_rfl) (by kernel_rfl) (by kernel_rfl)
    (fun x y => spec_l01Against_eq n x.1 x.2.1) (fun _ _ => map_same (fun _ => rfl) _) (fun _ _ _ _ => rfl)

abbrev spec_l01Mulsp : List Sp := [.v true (.pair (.int .i64) (.int .i64)), .v true (.pair (.int .i64) (.int .i64))]
abbrev spec_l01Mulbs : List (Bs × Bool) := []
abbrev spec_l01Mulrs : List (Bool × List Rp) := [(true, [.v false (.pair (.int .i64) (.int .i64))]), (false, [.v false (.int .i64)])]
noncomputable def spec_l01Mulkp : Keep := { loop := fun id => match id with | _ => ([], []), join := fun id => match id with | _ => none }
noncomputable def spec_l01Mulc : Code := bodyOf Go.Proofs.Try.f81
noncomputable def spec_l01MulF (n : Nat) : Fun := { id := 81, sp := spec_l01Mulsp, bs := spec_l01Mulbs, rs := spec_l01Mulrs, f := fun x y => spec_l01Mul n x.1 x.2.1 }

theorem spec_l01Mul_eq (n : Nat) (a0 : (Int) × (Int)) (a1 : (Int) × (Int)) : runBody ([spec_l01ReducedF n]) ty 19 n spec_l01Mulkp spec_l01Mulc Go.Proofs.Try.f81.results.toList spec_l01Mulrs spec_l01Mulsp spec_l01Mulbs (a0, (a1, ())) () = spec_l01Mul n a0 a1 := by
  have h : runBody ([spec_l01ReducedF n]) ty 19 n spec_l01Mulkp spec_l01Mulc Go.Proofs.Try.f81.results.toList spec_l01Mulrs spec_l01Mulsp spec_l01Mulbs (a0, (a1, ())) () = spec_l01Mul_t n a0 a1 := by kernel_rfl
  rw [h]
  rfl

theorem spec_l01Mul_ok (n : Nat) : FunOk P (spec_l01MulF n) :=
  funOk_mk (C := [spec_l01ReducedF n]) (N := 19) (kp := spec_l01Mulkp) (c := spec_l01Mulc) (n := n) (G := fun x y => spec_l01Mul n x.1 x.2.1) follows (AllOk.mem (⟨spec_l01Reduced_ok n, trivial⟩ : AllOk P ([spec_l01ReducedF n]))) (by kernel_rfl : P.funcs[81]? = some Go.Proofs.Try.f81) (by kernel_rfl) (by kernel_rfl) (by kernel_rfl)
    (fun x y => spec_l01Mul_eq n x.1 x.2.1) (fun _ _ => map_same (fun _ => rfl) _) (fun _ _ _ _ => rfl)

abbrev spec_l01Subsp : List Sp := [.v true (.pair (.int .i64) (.int .i64)), .v true (.pair (.int .i64) (.int .i64))]
abbrev spec_l01Subbs : List (Bs × Bool) := []
abbrev spec_l01Subrs : List (Bool × List Rp) := [(true, [.v false (.pair (.int .i64) (.int .i64))]), (false, [.v false (.int .i64)])]
noncomputable def spec_l01Subkp : Keep := { loop := fun id => match id with | _ => ([], []), join := fun id => match id with | _ => none }
noncomputable def spec_l01Subc : Code := bodyOf Go.Proofs.Try.f82
noncomputable def spec_l01SubF (n : Nat) : Fun := { id := 82, sp := spec_l01Subsp, bs := spec_l01Subbs, rs := spec_l01Subrs, f := fun x y => spec_l01Sub n x.1 x.2.1 }

theorem spec_l01Sub_eq (n : Nat) (a0 : (Int) × (Int)) (a1 : (Int) × (Int)) : runBody ([spec_l01NegF n, spec_l01AddF n]) ty 12 n spec_l01Subkp spec_l01Subc Go.Proofs.Try.f82.results.toList spec_l01Subrs spec_l01Subsp spec_l01Subbs (a0, (a1, ())) () = spec_l01Sub n a0 a1 := by
  have h : runBody ([spec_l01NegF n, spec_l01AddF n]) ty 12 n spec_l01Subkp spec_l01Subc Go.Proofs.Try.f82.results.toList spec_l01Subrs spec_l01Subsp spec_l01Subbs (a0, (a1, ())) () = spec_l01Sub_t n a0 a1 := by kernel_rfl
  rw [h]
  rfl

theorem spec_l01Sub_ok (n : Nat) : FunOk P (spec_l01SubF n) :=
  funOk_mk (C := [spec_l01NegF n, spec_l01AddF n]) (N := 12) (kp := spec_l01Subkp) (c := spec_l01Subc) (n := n) (G := fun x y => spec_l01Sub n x.1 x.2.1) follows (AllOk.mem (⟨spec_l01Neg_ok n, ⟨spec_l01Add_ok n, trivial⟩⟩ : AllOk P ([spec_l01NegF n, spec_l01AddF n]))) (by kernel_rfl : P.funcs[82]? = some Go.Proofs.Try.f82) (by kernel_rfl) (by kernel_rfl) (by kernel_rfl)
    (fun x y => spec_l01Sub_eq n x.1 x.2.1) (fun _ _ => map_same (fun _ => rfl) _) (fun _ _ _ _ => rfl)

abbrev spec_l01Wholesp : List Sp := [.v false (.int .i64)]
abbrev spec_l01Wholebs : List (Bs × Bool) := []
abbrev spec_l01Wholers : List (Bool × List Rp) := [(true, [.v false (.pair (.int .i64) (.int .i64))])]
noncomputable def spec_l01Wholekp : Keep := { loop := fun id => match id with | _ => ([], []), join := fun id => match id with | _ => none }
noncomputable def spec_l01Wholec : Code := bodyOf Go.Proofs.Try.f79
noncomputable def spec_l01WholeF (n : Nat) : Fun := { id := 79, sp := spec_l01Wholesp, bs := spec_l01Wholebs, rs := spec_l01Wholers, f := fun x y => spec_l01Whole n x.1 }

theorem spec_l01Whole_eq (n : Nat) (a0 : Int) : runBody ([]) ty 5 n spec_l01Wholekp spec_l01Wholec Go.Proofs.Try.f79.results.toList spec_l01Wholers spec_l01Wholesp spec_l01Wholebs (a0, ()) () = spec_l01Whole n a0 := by
  have h : runBody ([]) ty 5 n spec_l01Wholekp spec_l01Wholec Go.Proofs.Try.f79.results.toList spec_l01Wholers spec_l01Wholesp spec_l01Wholebs (a0, ()) () = spec_l01Whole_t n a0 := by kernel_rfl
  rw [h]
  rfl

theorem spec_l01Whole_ok (n : Nat) : FunOk P (spec_l01WholeF n) :=
  funOk_mk (C := []) (N := 5) (kp := spec_l01Wholekp) (c := spec_l01Wholec) (n := n) (G := fun x y => spec_l01Whole n x.1) follows (AllOk.mem (trivial : AllOk P ([]))) (by kernel_rfl : P.funcs[79]? = some Go.Proofs.Try.f79) (by kernel_rfl) (by kernel_rfl) (by kernel_rfl)
    (fun x y => spec_l01Whole_eq n x.1) (fun _ _ => map_same (fun _ => rfl) _) (fun _ _ _ _ => rfl)

abbrev spec_l05Widersp : List Sp := [.v true (.pair (.pair (.int .i64) (.int .i64)) (.pair (.int .i64) (.int .i64))), .v true (.pair (.int .i64) (.int .i64)), .v false (.int .i64)]
abbrev spec_l05Widerbs : List (Bs × Bool) := []
abbrev spec_l05Widerrs : List (Bool × List Rp) := [(true, [.v false (.pair (.pair (.int .i64) (.int .i64)) (.pair (.int .i64) (.int .i64)))]), (false, [.v false (.int .i64)])]
noncomputable def spec_l05Widerkp : Keep := { loop := fun id => match id with | _ => ([], []), join := fun id => match id with | _ => none }
noncomputable def spec_l05Widerc : Code := bodyOf Go.Proofs.Try.f61
noncomputable def spec_l05WiderF (n : Nat) : Fun := { id := 61, sp := spec_l05Widersp, bs := spec_l05Widerbs, rs := spec_l05Widerrs, f := fun x y => spec_l05Wider n x.1 x.2.1 x.2.2.1 }

theorem spec_l05Wider_eq (n : Nat) (a0 : ((Int) × (Int)) × ((Int) × (Int))) (a1 : (Int) × (Int)) (a2 : Int) : runBody ([spec_l01WholeF n, spec_l01MulF n, spec_l01SubF n, spec_l01AddF n]) ty 49 n spec_l05Widerkp spec_l05Widerc Go.Proofs.Try.f61.results.toList spec_l05Widerrs spec_l05Widersp spec_l05Widerbs (a0, (a1, (a2, ()))) () = spec_l05Wider n a0 a1 a2 := by
  have h : runBody ([spec_l01WholeF n, spec_l01MulF n, spec_l01SubF n, spec_l01AddF n]) ty 49 n spec_l05Widerkp spec_l05Widerc Go.Proofs.Try.f61.results.toList spec_l05Widerrs spec_l05Widersp spec_l05Widerbs (a0, (a1, (a2, ()))) () = spec_l05Wider_t n a0 a1 a2 := by kernel_rfl
  rw [h]
  rfl

theorem spec_l05Wider_ok (n : Nat) : FunOk P (spec_l05WiderF n) :=
  funOk_mk (C := [spec_l01WholeF n, spec_l01MulF n, spec_l01SubF n, spec_l01AddF n]) (N := 49) (kp := spec_l05Widerkp) (c := spec_l05Widerc) (n := n) (G := fun x y => spec_l05Wider n x.1 x.2.1 x.2.2.1) follows (AllOk.mem (⟨spec_l01Whole_ok n, ⟨spec_l01Mul_ok n, ⟨spec_l01Sub_ok n, ⟨spec_l01Add_ok n, trivial⟩⟩⟩⟩ : AllOk P ([spec_l01WholeF n, spec_l01MulF n, spec_l01SubF n, spec_l01AddF n]))) (by kernel_rfl : P.funcs[61]? = some Go.Proofs.Try.f61) (by kernel_rfl) (by kernel_rfl) (by kernel_rfl)
    (fun x y => spec_l05Wider_eq n x.1 x.2.1 x.2.2.1) (fun _ _ => map_same (fun _ => rfl) _) (fun _ _ _ _ => rfl)

abbrev spec_l05Alongsp : List Sp := [.v false (.list (.pair .str (.pair (.int .i64) (.pair (.pair (.pair (.int .i64) (.int .i64)) (.pair (.int .i64) (.int .i64))) (.pair (.pair (.int .i64) (.int .i64)) (.pair (.int .i64) (.int .i64))))))), .v false (.list (.int .i64)), .v true (.pair (.pair (.int .i64) (.int .i64)) (.pair (.int .i64) (.int .i64))), .v false (.int .i64)]
abbrev spec_l05Alongbs : List (Bs × Bool) := []
abbrev spec_l05Alongrs : List (Bool × List Rp) := [(true, [.v false (.pair (.pair (.int .i64) (.int .i64)) (.pair (.int .i64) (.int .i64)))]), (false, [.v false (.int .i64)])]
noncomputable def spec_l05Alongkp : Keep := { loop := fun id => match id with | 2 => ([8, 10, 6, 1, 0, 3], []) | _ => ([], []), join := fun id => match id with | _ => none }
noncomputable def spec_l05Alongc : Code := bodyOf Go.Proofs.Try.f56
noncomputable def spec_l05AlongF (n : Nat) : Fun := { id := 56, sp := spec_l05Alongsp, bs := spec_l05Alongbs, rs := spec_l05Alongrs, f := fun x y => spec_l05Along n x.1 x.2.1 x.2.2.1 x.2.2.2.1 }

theorem spec_l05Along_l2_eq (n : Nat) : ∀ (k : Nat) (v10 : Int) (v1 : List (Int)) (v0 : List ((ByteArray) × ((Int) × ((((Int) × (Int)) × ((Int) × (Int))) × (((Int) × (Int)) × ((Int) × (Int))))))) (v3 : Int) (b0_0 : Int) (b0_1 : Int) (b0_2 : Int) (b0_3 : Int) (b1_0 : Int) (b1_1 : Int) (b1_2 : Int) (b1_3 : Int), iter (interp ([spec_l01SumsF n, spec_l05WiderF n]) ty 78 0 n spec_l05Alongkp (codeAt spec_l05Alongc [1, 0, 1, 0, 0])) (canon 0 (spec_l05Alongkp.loop 2)) (kAt ([spec_l01SumsF n, spec_l05WiderF n]) ty 78 0 n spec_l05Alongkp spec_l05Alongc [1, 0, 1, 0] [] (ending ty 0 Go.Proofs.Try.f56.results.toList spec_l05Alongrs spec_l05Alongbs)) k { env := [(8, .one (.ref 0 0 0 0 0 0)), (10, .one (.sc (.int .i64 v10))), (6, .one (.ref 1 0 0 0 0 0)), (1, .one (.list true (.int .i64) v1)), (0, .one (.list true (.pair .str (.pair (.int .i64) (.pair (.pair (.pair (.int .i64) (.int .i64)) (.pair (.int .i64) (.int .i64))) (.pair (.pair (.int .i64) (.int .i64)) (.pair (.int .i64) (.int .i64)))))) v0)), (3, .one (.sc (.int .i64 v3)))], bx := [(0, .var 41 [.sc (.int .i64 b0_0), .sc (.int .i64 b0_1), .sc (.int .i64 b0_2), .sc (.int .i64 b0_3)]), (1, .var 41 [.sc (.int .i64 b1_0), .sc (.int .i64 b1_1), .sc (.int .i64 b1_2), .sc (.int .i64 b1_3)])], nx := 2 } = spec_l05Along_l2 n k v10 v1 v0 v3 b0_0 b0_1 b0_2 b0_3 b1_0 b1_1 b1_2 b1_3
  | 0, _, _, _, _, _, _, _, _, _, _, _, _ => by kernel_rfl
  | k + 1, v10, v1, v0, v3, b0_0, b0_1, b0_2, b0_3, b1_0, b1_1, b1_2, b1_3 => by
    have h : iter (interp ([spec_l01SumsF n, spec_l05WiderF n]) ty 78 0 n spec_l05Alongkp (codeAt spec_l05Alongc [1, 0, 1, 0, 0])) (canon 0 (spec_l05Alongkp.loop 2)) (kAt ([spec_l01SumsF n, spec_l05WiderF n]) ty 78 0 n spec_l05Alongkp spec_l05Alongc [1, 0, 1, 0] [] (ending ty 0 Go.Proofs.Try.f56.results.toList spec_l05Alongrs spec_l05Alongbs)) (k + 1) { env := [(8, .one (.ref 0 0 0 0 0 0)), (10, .one (.sc (.int .i64 v10))), (6, .one (.ref 1 0 0 0 0 0)), (1, .one (.list true (.int .i64) v1)), (0, .one (.list true (.pair .str (.pair (.int .i64) (.pair (.pair (.pair (.int .i64) (.int .i64)) (.pair (.int .i64) (.int .i64))) (.pair (.pair (.int .i64) (.int .i64)) (.pair (.int .i64) (.int .i64)))))) v0)), (3, .one (.sc (.int .i64 v3)))], bx := [(0, .var 41 [.sc (.int .i64 b0_0), .sc (.int .i64 b0_1), .sc (.int .i64 b0_2), .sc (.int .i64 b0_3)]), (1, .var 41 [.sc (.int .i64 b1_0), .sc (.int .i64 b1_1), .sc (.int .i64 b1_2), .sc (.int .i64 b1_3)])], nx := 2 } = spec_l05Along_t2 n (fun v10 v1 v0 v3 b0_0 b0_1 b0_2 b0_3 b1_0 b1_1 b1_2 b1_3 => iter (interp ([spec_l01SumsF n, spec_l05WiderF n]) ty 78 0 n spec_l05Alongkp (codeAt spec_l05Alongc [1, 0, 1, 0, 0])) (canon 0 (spec_l05Alongkp.loop 2)) (kAt ([spec_l01SumsF n, spec_l05WiderF n]) ty 78 0 n spec_l05Alongkp spec_l05Alongc [1, 0, 1, 0] [] (ending ty 0 Go.Proofs.Try.f56.results.toList spec_l05Alongrs spec_l05Alongbs)) k { env := [(8, .one (.ref 0 0 0 0 0 0)), (10, .one (.sc (.int .i64 v10))), (6, .one (.ref 1 0 0 0 0 0)), (1, .one (.list true (.int .i64) v1)), (0, .one (.list true (.pair .str (.pair (.int .i64) (.pair (.pair (.pair (.int .i64) (.int .i64)) (.pair (.int .i64) (.int .i64))) (.pair (.pair (.int .i64) (.int .i64)) (.pair (.int .i64) (.int .i64)))))) v0)), (3, .one (.sc (.int .i64 v3)))], bx := [(0, .var 41 [.sc (.int .i64 b0_0), .sc (.int .i64 b0_1), .sc (.int .i64 b0_2), .sc (.int .i64 b0_3)]), (1, .var 41 [.sc (.int .i64 b1_0), .sc (.int .i64 b1_1), .sc (.int .i64 b1_2), .sc (.int .i64 b1_3)])], nx := 2 }) v10 v1 v0 v3 b0_0 b0_1 b0_2 b0_3 b1_0 b1_1 b1_2 b1_3 := by kernel_rfl
    rw [h]
    have e := congrArg (fun g => spec_l05Along_t2 n g v10 v1 v0 v3 b0_0 b0_1 b0_2 b0_3 b1_0 b1_1 b1_2 b1_3) (funext fun v10 => funext fun v1 => funext fun v0 => funext fun v3 => funext fun b0_0 => funext fun b0_1 => funext fun b0_2 => funext fun b0_3 => funext fun b1_0 => funext fun b1_1 => funext fun b1_2 => funext fun b1_3 => spec_l05Along_l2_eq n k v10 v1 v0 v3 b0_0 b0_1 b0_2 b0_3 b1_0 b1_1 b1_2 b1_3)
    exact e

theorem spec_l05Along_eq (n : Nat) (a0 : List ((ByteArray) × ((Int) × ((((Int) × (Int)) × ((Int) × (Int))) × (((Int) × (Int)) × ((Int) × (Int))))))) (a1 : List (Int)) (a2 : ((Int) × (Int)) × ((Int) × (Int))) (a3 : Int) : runBody ([spec_l01SumsF n, spec_l05WiderF n]) ty 78 n spec_l05Alongkp spec_l05Alongc Go.Proofs.Try.f56.results.toList spec_l05Alongrs spec_l05Alongsp spec_l05Alongbs (a0, (a1, (a2, (a3, ())))) () = spec_l05Along n a0 a1 a2 a3 := by
  have h : runBody ([spec_l01SumsF n, spec_l05WiderF n]) ty 78 n spec_l05Alongkp spec_l05Alongc Go.Proofs.Try.f56.results.toList spec_l05Alongrs spec_l05Alongsp spec_l05Alongbs (a0, (a1, (a2, (a3, ())))) () = spec_l05Along_t n (fun k v10 v1 v0 v3 b0_0 b0_1 b0_2 b0_3 b1_0 b1_1 b1_2 b1_3 => iter (interp ([spec_l01SumsF n, spec_l05WiderF n]) ty 78 0 n spec_l05Alongkp (codeAt spec_l05Alongc [1, 0, 1, 0, 0])) (canon 0 (spec_l05Alongkp.loop 2)) (kAt ([spec_l01SumsF n, spec_l05WiderF n]) ty 78 0 n spec_l05Alongkp spec_l05Alongc [1, 0, 1, 0] [] (ending ty 0 Go.Proofs.Try.f56.results.toList spec_l05Alongrs spec_l05Alongbs)) k { env := [(8, .one (.ref 0 0 0 0 0 0)), (10, .one (.sc (.int .i64 v10))), (6, .one (.ref 1 0 0 0 0 0)), (1, .one (.list true (.int .i64) v1)), (0, .one (.list true (.pair .str (.pair (.int .i64) (.pair (.pair (.pair (.int .i64) (.int .i64)) (.pair (.int .i64) (.int .i64))) (.pair (.pair (.int .i64) (.int .i64)) (.pair (.int .i64) (.int .i64)))))) v0)), (3, .one (.sc (.int .i64 v3)))], bx := [(0, .var 41 [.sc (.int .i64 b0_0), .sc (.int .i64 b0_1), .sc (.int .i64 b0_2), .sc (.int .i64 b0_3)]), (1, .var 41 [.sc (.int .i64 b1_0), .sc (.int .i64 b1_1), .sc (.int .i64 b1_2), .sc (.int .i64 b1_3)])], nx := 2 }) a0 a1 a2 a3 := by kernel_rfl
  rw [h]
  have e := congrArg (fun h2 => spec_l05Along_t n h2 a0 a1 a2 a3) (funext fun k => funext fun v10 => funext fun v1 => funext fun v0 => funext fun v3 => funext fun b0_0 => funext fun b0_1 => funext fun b0_2 => funext fun b0_3 => funext fun b1_0 => funext fun b1_1 => funext fun b1_2 => funext fun b1_3 => spec_l05Along_l2_eq n k v10 v1 v0 v3 b0_0 b0_1 b0_2 b0_3 b1_0 b1_1 b1_2 b1_3)
  exact e

theorem spec_l05Along_ok (n : Nat) : FunOk P (spec_l05AlongF n) :=
  funOk_mk (C := [spec_l01SumsF n, spec_l05WiderF n]) (N := 78) (kp := spec_l05Alongkp) (c := spec_l05Alongc) (n := n) (G := fun x y => spec_l05Along n x.1 x.2.1 x.2.2.1 x.2.2.2.1) follows (AllOk.mem (⟨spec_l01Sums_ok n, ⟨spec_l05Wider_ok n, trivial⟩⟩ : AllOk P ([spec_l01SumsF n, spec_l05WiderF n]))) (by kernel_rfl : P.funcs[56]? = some Go.Proofs.Try.f56) (by kernel_rfl) (by kernel_rfl) (by kernel_rfl)
    (fun x y => spec_l05Along_eq n x.1 x.2.1 x.2.2.1 x.2.2.2.1) (fun _ _ => map_same (fun _ => rfl) _) (fun _ _ _ _ => rfl)

abbrev spec_l05Beginsp : List Sp := [.v false (.list (.pair .str (.pair (.int .i64) (.pair (.pair (.pair (.int .i64) (.int .i64)) (.pair (.int .i64) (.int .i64))) (.pair (.pair (.int .i64) (.int .i64)) (.pair (.int .i64) (.int .i64))))))), .v false (.list (.int .i64)), .v false (.int .i64)]
abbrev spec_l05Beginbs : List (Bs × Bool) := []
abbrev spec_l05Beginrs : List (Bool × List Rp) := [(false, [.v false (.int .i64)])]
noncomputable def spec_l05Beginkp : Keep := { loop := fun id => match id with | _ => ([], []), join := fun id => match id with | _ => none }
noncomputable def spec_l05Beginc : Code := bodyOf Go.Proofs.Try.f60
noncomputable def spec_l05BeginF (n : Nat) : Fun := { id := 60, sp := spec_l05Beginsp, bs := spec_l05Beginbs, rs := spec_l05Beginrs, f := fun x y => spec_l05Begin n x.1 x.2.1 x.2.2.1 }

theorem spec_l05Begin_eq (n : Nat) (a0 : List ((ByteArray) × ((Int) × ((((Int) × (Int)) × ((Int) × (Int))) × (((Int) × (Int)) × ((Int) × (Int))))))) (a1 : List (Int)) (a2 : Int) : runBody ([]) ty 18 n spec_l05Beginkp spec_l05Beginc Go.Proofs.Try.f60.results.toList spec_l05Beginrs spec_l05Beginsp spec_l05Beginbs (a0, (a1, (a2, ()))) () = spec_l05Begin n a0 a1 a2 := by
  have h : runBody ([]) ty 18 n spec_l05Beginkp spec_l05Beginc Go.Proofs.Try.f60.results.toList spec_l05Beginrs spec_l05Beginsp spec_l05Beginbs (a0, (a1, (a2, ()))) () = spec_l05Begin_t n a0 a1 a2 := by kernel_rfl
  rw [h]
  rfl

theorem spec_l05Begin_ok (n : Nat) : FunOk P (spec_l05BeginF n) :=
  funOk_mk (C := []) (N := 18) (kp := spec_l05Beginkp) (c := spec_l05Beginc) (n := n) (G := fun x y => spec_l05Begin n x.1 x.2.1 x.2.2.1) follows (AllOk.mem (trivial : AllOk P ([]))) (by kernel_rfl : P.funcs[60]? = some Go.Proofs.Try.f60) (by kernel_rfl) (by kernel_rfl) (by kernel_rfl)
    (fun x y => spec_l05Begin_eq n x.1 x.2.1 x.2.2.1) (fun _ _ => map_same (fun _ => rfl) _) (fun _ _ _ _ => rfl)

abbrev spec_l05Good_esp : List Sp := [.er (.pair .str (.pair (.int .i64) (.pair (.pair (.pair (.int .i64) (.int .i64)) (.pair (.int .i64) (.int .i64))) (.pair (.pair (.int .i64) (.int .i64)) (.pair (.int .i64) (.int .i64)))))), .v false (.int .i64)]
abbrev spec_l05Good_ebs : List (Bs × Bool) := []
abbrev spec_l05Good_ers : List (Bool × List Rp) := [(false, [.v false .bool])]
noncomputable def spec_l05Good_ekp : Keep := { loop := fun id => match id with | _ => ([], []), join := fun id => match id with | _ => none }
noncomputable def spec_l05Good_ec : Code := bodyOf Go.Proofs.Try.f54
noncomputable def spec_l05Good_eF (n : Nat) : Fun := { id := 54, sp := spec_l05Good_esp, bs := spec_l05Good_ebs, rs := spec_l05Good_ers, f := fun x y => spec_l05Good_e n x.1 x.2.1 }

theorem spec_l05Good_e_eq (n : Nat) (a0 : (ByteArray) × ((Int) × ((((Int) × (Int)) × ((Int) × (Int))) × (((Int) × (Int)) × ((Int) × (Int)))))) (a1 : Int) : runBody ([]) ty 24 n spec_l05Good_ekp spec_l05Good_ec Go.Proofs.Try.f54.results.toList spec_l05Good_ers spec_l05Good_esp spec_l05Good_ebs (a0, (a1, ())) () = spec_l05Good_e n a0 a1 := by
  have h : runBody ([]) ty 24 n spec_l05Good_ekp spec_l05Good_ec Go.Proofs.Try.f54.results.toList spec_l05Good_ers spec_l05Good_esp spec_l05Good_ebs (a0, (a1, ())) () = spec_l05Good_e_t n a0 a1 := by kernel_rfl
  rw [h]
  rfl

theorem spec_l05Good_e_ok (n : Nat) : FunOk P (spec_l05Good_eF n) :=
  funOk_mk (C := []) (N := 24) (kp := spec_l05Good_ekp) (c := spec_l05Good_ec) (n := n) (G := fun x y => spec_l05Good_e n x.1 x.2.1) follows (AllOk.mem (trivial : AllOk P ([]))) (by kernel_rfl : P.funcs[54]? = some Go.Proofs.Try.f54) (by kernel_rfl) (by kernel_rfl) (by kernel_rfl)
    (fun x y => spec_l05Good_e_eq n x.1 x.2.1) (fun _ _ => map_same (fun _ => rfl) _) (fun _ _ _ _ => rfl)

abbrev spec_l05Nothingsp : List Sp := []
abbrev spec_l05Nothingbs : List (Bs × Bool) := []
abbrev spec_l05Nothingrs : List (Bool × List Rp) := [(true, [.v false (.pair (.pair (.int .i64) (.int .i64)) (.pair (.int .i64) (.int .i64)))])]
noncomputable def spec_l05Nothingkp : Keep := { loop := fun id => match id with | _ => ([], []), join := fun id => match id with | _ => none }
noncomputable def spec_l05Nothingc : Code := bodyOf Go.Proofs.Try.f57
noncomputable def spec_l05NothingF (n : Nat) : Fun := { id := 57, sp := spec_l05Nothingsp, bs := spec_l05Nothingbs, rs := spec_l05Nothingrs, f := fun x y => spec_l05Nothing n }

theorem spec_l05Nothing_eq (n : Nat) : runBody ([spec_l01WholeF n]) ty 4 n spec_l05Nothingkp spec_l05Nothingc Go.Proofs.Try.f57.results.toList spec_l05Nothingrs spec_l05Nothingsp spec_l05Nothingbs () () = spec_l05Nothing n := by
  have h : runBody ([spec_l01WholeF n]) ty 4 n spec_l05Nothingkp spec_l05Nothingc Go.Proofs.Try.f57.results.toList spec_l05Nothingrs spec_l05Nothingsp spec_l05Nothingbs () () = spec_l05Nothing_t n := by kernel_rfl
  rw [h]
  rfl

theorem spec_l05Nothing_ok (n : Nat) : FunOk P (spec_l05NothingF n) :=
  funOk_mk (C := [spec_l01WholeF n]) (N := 4) (kp := spec_l05Nothingkp) (c := spec_l05Nothingc) (n := n) (G := fun x y => spec_l05Nothing n) follows (AllOk.mem (⟨spec_l01Whole_ok n, trivial⟩ : AllOk P ([spec_l01WholeF n]))) (by kernel_rfl : P.funcs[57]? = some Go.Proofs.Try.f57) (by kernel_rfl) (by kernel_rfl) (by kernel_rfl)
    (fun x y => spec_l05Nothing_eq n) (fun _ _ => map_same (fun _ => rfl) _) (fun _ _ _ _ => rfl)

abbrev spec_l05Pathsp : List Sp := [.v false (.list (.pair .str (.pair (.int .i64) (.pair (.pair (.pair (.int .i64) (.int .i64)) (.pair (.int .i64) (.int .i64))) (.pair (.pair (.int .i64) (.int .i64)) (.pair (.int .i64) (.int .i64))))))), .v false (.int .i64)]
abbrev spec_l05Pathbs : List (Bs × Bool) := []
abbrev spec_l05Pathrs : List (Bool × List Rp) := [(false, [.new  (.int .i64)])]
noncomputable def spec_l05Pathkp : Keep := { loop := fun id => match id with | _ => ([], []), join := fun id => match id with | _ => none }
noncomputable def spec_l05Pathc : Code := bodyOf Go.Proofs.Try.f55
noncomputable def spec_l05PathFr (n d : Nat) : Fun := { id := 55, sp := spec_l05Pathsp, bs := spec_l05Pathbs, rs := spec_l05Pathrs, f := fun x y => spec_l05Path_r n d x.1 x.2.1 }
noncomputable def spec_l05PathF (n : Nat) : Fun := spec_l05PathFr n n

theorem spec_l05Path_eq (n d : Nat) (a0 : List ((ByteArray) × ((Int) × ((((Int) × (Int)) × ((Int) × (Int))) × (((Int) × (Int)) × ((Int) × (Int))))))) (a1 : Int) : runBody ([spec_l05PathFr n d]) ty 18 n spec_l05Pathkp spec_l05Pathc Go.Proofs.Try.f55.results.toList spec_l05Pathrs spec_l05Pathsp spec_l05Pathbs (a0, (a1, ())) () = spec_l05Path_r n (d + 1) a0 a1 := by
  have h : runBody ([spec_l05PathFr n d]) ty 18 n spec_l05Pathkp spec_l05Pathc Go.Proofs.Try.f55.results.toList spec_l05Pathrs spec_l05Pathsp spec_l05Pathbs (a0, (a1, ())) () = spec_l05Path_t n (spec_l05Path_r n d) a0 a1 := by kernel_rfl
  rw [h]
  rfl

theorem spec_l05Path_okr (n : Nat) : ∀ d, FunOk P (spec_l05PathFr n d)
  | 0 => funOk_none (F := spec_l05PathFr n 0) (by kernel_rfl : P.funcs[55]? = some Go.Proofs.Try.f55) (by kernel_rfl) (by kernel_rfl : Go.Proofs.Try.f55.body = some spec_l05Pathc) (fun _ _ => rfl)
  | d + 1 => funOk_mk (C := [spec_l05PathFr n d]) (N := 18) (kp := spec_l05Pathkp) (c := spec_l05Pathc) (n := n) (G := fun x y => spec_l05Path_r n (d + 1) x.1 x.2.1) follows (AllOk.mem (⟨spec_l05Path_okr n d, trivial⟩ : AllOk P ([spec_l05PathFr n d]))) (by kernel_rfl : P.funcs[55]? = some Go.Proofs.Try.f55) (by kernel_rfl) (by kernel_rfl) (by kernel_rfl)
    (fun x y => spec_l05Path_eq n d x.1 x.2.1) (fun _ _ => map_same (fun _ => rfl) _) (fun _ _ _ _ => rfl)

theorem spec_l05Path_ok (n : Nat) : FunOk P (spec_l05PathF n) := spec_l05Path_okr n n

abbrev spec_l05Differencesp : List Sp := [.v false (.list (.pair .str (.pair (.int .i64) (.pair (.pair (.pair (.int .i64) (.int .i64)) (.pair (.int .i64) (.int .i64))) (.pair (.pair (.int .i64) (.int .i64)) (.pair (.int .i64) (.int .i64))))))), .v false (.int .i64), .v false (.int .i64), .v false (.int .i64)]
abbrev spec_l05Differencebs : List (Bs × Bool) := []
abbrev spec_l05Differencers : List (Bool × List Rp) := [(true, [.v false (.pair (.pair (.int .i64) (.int .i64)) (.pair (.int .i64) (.int .i64)))]), (false, [.v false (.int .i64)])]
noncomputable def spec_l05Differencekp : Keep := { loop := fun id => match id with | 6 => ([12, 8, 10, 0, 3, 11], []) | _ => ([], []), join := fun id => match id with | _ => none }
noncomputable def spec_l05Differencec : Code := bodyOf Go.Proofs.Try.f33
noncomputable def spec_l05DifferenceF (n : Nat) : Fun := { id := 33, sp := spec_l05Differencesp, bs := spec_l05Differencebs, rs := spec_l05Differencers, f := fun x y => spec_l05Difference n x.1 x.2.1 x.2.2.1 x.2.2.2.1 }

theorem spec_l05Difference_l6_eq (n : Nat) : ∀ (k : Nat) (v12 : Int) (v0 : List ((ByteArray) × ((Int) × ((((Int) × (Int)) × ((Int) × (Int))) × (((Int) × (Int)) × ((Int) × (Int))))))) (v3 : Int) (b0_0 : Int) (b0_1 : Int) (b0_2 : Int) (b0_3 : Int) (b1 : List (Int)) (b2 : List (Int)), iter (interp ([spec_l05Good_eF n, spec_l05PathF n, spec_l05NothingF n, spec_l05AlongF n, spec_l01AgainstF n, spec_l05BeginF n, spec_l01AbsF n, spec_l05WiderF n]) ty 134 0 n spec_l05Differencekp (codeAt spec_l05Differencec [1, 1, 1, 1, 1, 0, 0, 0])) (canon 0 (spec_l05Differencekp.loop 6)) (kAt ([spec_l05Good_eF n, spec_l05PathF n, spec_l05NothingF n, spec_l05AlongF n, spec_l01AgainstF n, spec_l05BeginF n, spec_l01AbsF n, spec_l05WiderF n]) ty 134 0 n spec_l05Differencekp spec_l05Differencec [1, 1, 1, 1, 1, 0, 0] [] (ending ty 0 Go.Proofs.Try.f33.results.toList spec_l05Differencers spec_l05Differencebs)) k { env := [(12, .one (.sc (.int .i64 v12))), (8, .one (.ref 0 0 0 0 0 0)), (10, .one (.slice 1 0 none)), (0, .one (.list true (.pair .str (.pair (.int .i64) (.pair (.pair (.pair (.int .i64) (.int .i64)) (.pair (.int .i64) (.int .i64))) (.pair (.pair (.int .i64) (.int .i64)) (.pair (.int .i64) (.int .i64)))))) v0)), (3, .one (.sc (.int .i64 v3))), (11, .one (.slice 2 0 none))], bx := [(0, .var 41 [.sc (.int .i64 b0_0), .sc (.int .i64 b0_1), .sc (.int .i64 b0_2), .sc (.int .i64 b0_3)]), (1, .row 0 (.int .i64) b1), (2, .row 0 (.int .i64) b2)], nx := 3 } = spec_l05Difference_l6 n k v12 v0 v3 b0_0 b0_1 b0_2 b0_3 b1 b2
  | 0, _, _, _, _, _, _, _, _, _ => by kernel_rfl
  | k + 1, v12, v0, v3, b0_0, b0_1, b0_2, b0_3, b1, b2 => by
    have h : iter (interp ([spec_l05Good_eF n, spec_l05PathF n, spec_l05NothingF n, spec_l05AlongF n, spec_l01AgainstF n, spec_l05BeginF n, spec_l01AbsF n, spec_l05WiderF n]) ty 134 0 n spec_l05Differencekp (codeAt spec_l05Differencec [1, 1, 1, 1, 1, 0, 0, 0])) (canon 0 (spec_l05Differencekp.loop 6)) (kAt ([spec_l05Good_eF n, spec_l05PathF n, spec_l05NothingF n, spec_l05AlongF n, spec_l01AgainstF n, spec_l05BeginF n, spec_l01AbsF n, spec_l05WiderF n]) ty 134 0 n spec_l05Differencekp spec_l05Differencec [1, 1, 1, 1, 1, 0, 0] [] (ending ty 0 Go.Proofs.Try.f33.results.toList spec_l05Differencers spec_l05Differencebs)) (k + 1) { env := [(12, .one (.sc (.int .i64 v12))), (8, .one (.ref 0 0 0 0 0 0)), (10, .one (.slice 1 0 none)), (0, .one (.list true (.pair .str (.pair (.int .i64) (.pair (.pair (.pair (.int .i64) (.int .i64)) (.pair (.int .i64) (.int .i64))) (.pair (.pair (.int .i64) (.int .i64)) (.pair (.int .i64) (.int .i64)))))) v0)), (3, .one (.sc (.int .i64 v3))), (11, .one (.slice 2 0 none))], bx := [(0, .var 41 [.sc (.int .i64 b0_0), .sc (.int .i64 b0_1), .sc (.int .i64 b0_2), .sc (.int .i64 b0_3)]), (1, .row 0 (.int .i64) b1), (2, .row 0 (.int .i64) b2)], nx := 3 } = spec_l05Difference_t6 n (fun v12 v0 v3 b0_0 b0_1 b0_2 b0_3 b1 b2 => iter (interp ([spec_l05Good_eF n, spec_l05PathF n, spec_l05NothingF n, spec_l05AlongF n, spec_l01AgainstF n, spec_l05BeginF n, spec_l01AbsF n, spec_l05WiderF n]) ty 134 0 n spec_l05Differencekp (codeAt spec_l05Differencec [1, 1, 1, 1, 1, 0, 0, 0])) (canon 0 (spec_l05Differencekp.loop 6)) (kAt ([spec_l05Good_eF n, spec_l05PathF n, spec_l05NothingF n, spec_l05AlongF n, spec_l01AgainstF n, spec_l05BeginF n, spec_l01AbsF n, spec_l05WiderF n]) ty 134 0 n spec_l05Differencekp spec_l05Differencec [1, 1, 1, 1, 1, 0, 0] [] (ending ty 0 Go.Proofs.Try.f33.results.toList spec_l05Differencers spec_l05Differencebs)) k { env := [(12, .one (.sc (.int .i64 v12))), (8, .one (.ref 0 0 0 0 0 0)), (10, .one (.slice 1 0 none)), (0, .one (.list true (.pair .str (.pair (.int .i64) (.pair (.pair (.pair (.int .i64) (.int .i64)) (.pair (.int .i64) (.int .i64))) (.pair (.pair (.int .i64) (.int .i64)) (.pair (.int .i64) (.int .i64)))))) v0)), (3, .one (.sc (.int .i64 v3))), (11, .one (.slice 2 0 none))], bx := [(0, .var 41 [.sc (.int .i64 b0_0), .sc (.int .i64 b0_1), .sc (.int .i64 b0_2), .sc (.int .i64 b0_3)]), (1, .row 0 (.int .i64) b1), (2, .row 0 (.int .i64) b2)], nx := 3 }) v12 v0 v3 b0_0 b0_1 b0_2 b0_3 b1 b2 := by kernel_rfl
    rw [h]
    have e := congrArg (fun g => spec_l05Difference_t6 n g v12 v0 v3 b0_0 b0_1 b0_2 b0_3 b1 b2) (funext fun v12 => funext fun v0 => funext fun v3 => funext fun b0_0 => funext fun b0_1 => funext fun b0_2 => funext fun b0_3 => funext fun b1 => funext fun b2 => spec_l05Difference_l6_eq n k v12 v0 v3 b0_0 b0_1 b0_2 b0_3 b1 b2)
    exact e

theorem spec_l05Difference_eq (n : Nat) (a0 : List ((ByteArray) × ((Int) × ((((Int) × (Int)) × ((Int) × (Int))) × (((Int) × (Int)) × ((Int) × (Int))))))) (a1 : Int) (a2 : Int) (a3 : Int) : runBody ([spec_l05Good_eF n, spec_l05PathF n, spec_l05NothingF n, spec_l05AlongF n, spec_l01AgainstF n, spec_l05BeginF n, spec_l01AbsF n, spec_l05WiderF n]) ty 134 n spec_l05Differencekp spec_l05Differencec Go.Proofs.Try.f33.results.toList spec_l05Differencers spec_l05Differencesp spec_l05Differencebs (a0, (a1, (a2, (a3, ())))) () = spec_l05Difference n a0 a1 a2 a3 := by
  have h : runBody ([spec_l05Good_eF n, spec_l05PathF n, spec_l05NothingF n, spec_l05AlongF n, spec_l01AgainstF n, spec_l05BeginF n, spec_l01AbsF n, spec_l05WiderF n]) ty 134 n spec_l05Differencekp spec_l05Differencec Go.Proofs.Try.f33.results.toList spec_l05Differencers spec_l05Differencesp spec_l05Differencebs (a0, (a1, (a2, (a3, ())))) () = spec_l05Difference_t n (fun k v12 v0 v3 b0_0 b0_1 b0_2 b0_3 b1 b2 => iter (interp ([spec_l05Good_eF n, spec_l05PathF n, spec_l05NothingF n, spec_l05AlongF n, spec_l01AgainstF n, spec_l05BeginF n, spec_l01AbsF n, spec_l05WiderF n]) ty 134 0 n spec_l05Differencekp (codeAt spec_l05Differencec [1, 1, 1, 1, 1, 0, 0, 0])) (canon 0 (spec_l05Differencekp.loop 6)) (kAt ([spec_l05Good_eF n, spec_l05PathF n, spec_l05NothingF n, spec_l05AlongF n, spec_l01AgainstF n, spec_l05BeginF n, spec_l01AbsF n, spec_l05WiderF n]) ty 134 0 n spec_l05Differencekp spec_l05Differencec [1, 1, 1, 1, 1, 0, 0] [] (ending ty 0 Go.Proofs.Try.f33.results.toList spec_l05Differencers spec_l05Differencebs)) k { env := [(12, .one (.sc (.int .i64 v12))), (8, .one (.ref 0 0 0 0 0 0)), (10, .one (.slice 1 0 none)), (0, .one (.list true (.pair .str (.pair (.int .i64) (.pair (.pair (.pair (.int .i64) (.int .i64)) (.pair (.int .i64) (.int .i64))) (.pair (.pair (.int .i64) (.int .i64)) (.pair (.int .i64) (.int .i64)))))) v0)), (3, .one (.sc (.int .i64 v3))), (11, .one (.slice 2 0 none))], bx := [(0, .var 41 [.sc (.int .i64 b0_0), .sc (.int .i64 b0_1), .sc (.int .i64 b0_2), .sc (.int .i64 b0_3)]), (1, .row 0 (.int .i64) b1), (2, .row 0 (.int .i64) b2)], nx := 3 }) a0 a1 a2 a3 := by kernel_rfl
  rw [h]
  have e := congrArg (fun h6 => spec_l05Difference_t n h6 a0 a1 a2 a3) (funext fun k => funext fun v12 => funext fun v0 => funext fun v3 => funext fun b0_0 => funext fun b0_1 => funext fun b0_2 => funext fun b0_3 => funext fun b1 => funext fun b2 => spec_l05Difference_l6_eq n k v12 v0 v3 b0_0 b0_1 b0_2 b0_3 b1 b2)
  exact e

theorem spec_l05Difference_ok (n : Nat) : FunOk P (spec_l05DifferenceF n) :=
  funOk_mk (C := [spec_l05Good_eF n, spec_l05PathF n, spec_l05NothingF n, spec_l05AlongF n, spec_l01AgainstF n, spec_l05BeginF n, spec_l01AbsF n, spec_l05WiderF n]) (N := 134) (kp := spec_l05Differencekp) (c := spec_l05Differencec) (n := n) (G := fun x y => spec_l05Difference n x.1 x.2.1 x.2.2.1 x.2.2.2.1) follows (AllOk.mem (⟨spec_l05Good_e_ok n, ⟨spec_l05Path_ok n, ⟨spec_l05Nothing_ok n, ⟨spec_l05Along_ok n, ⟨spec_l01Against_ok n, ⟨spec_l05Begin_ok n, ⟨spec_l01Abs_ok n, ⟨spec_l05Wider_ok n, trivial⟩⟩⟩⟩⟩⟩⟩⟩ : AllOk P ([spec_l05Good_eF n, spec_l05PathF n, spec_l05NothingF n, spec_l05AlongF n, spec_l01AgainstF n, spec_l05BeginF n, spec_l01AbsF n, spec_l05WiderF n]))) (by kernel_rfl : P.funcs[33]? = some Go.Proofs.Try.f33) (by kernel_rfl) (by kernel_rfl) (by kernel_rfl)
    (fun x y => spec_l05Difference_eq n x.1 x.2.1 x.2.2.1 x.2.2.2.1) (fun _ _ => map_same (fun _ => rfl) _) (fun _ _ _ _ => rfl)

abbrev spec_l05Daysp : List Sp := [.v false (.int .i64)]
abbrev spec_l05Daybs : List (Bs × Bool) := []
abbrev spec_l05Dayrs : List (Bool × List Rp) := [(false, [.v false .bool])]
noncomputable def spec_l05Daykp : Keep := { loop := fun id => match id with | _ => ([], []), join := fun id => match id with | _ => none }
noncomputable def spec_l05Dayc : Code := bodyOf Go.Proofs.Try.f77
noncomputable def spec_l05DayF (n : Nat) : Fun := { id := 77, sp := spec_l05Daysp, bs := spec_l05Daybs, rs := spec_l05Dayrs, f := fun x y => spec_l05Day n x.1 }

theorem spec_l05Day_eq (n : Nat) (a0 : Int) : runBody ([spec_l00InF n]) ty 5 n spec_l05Daykp spec_l05Dayc Go.Proofs.Try.f77.results.toList spec_l05Dayrs spec_l05Daysp spec_l05Daybs (a0, ()) () = spec_l05Day n a0 := by
  have h : runBody ([spec_l00InF n]) ty 5 n spec_l05Daykp spec_l05Dayc Go.Proofs.Try.f77.results.toList spec_l05Dayrs spec_l05Daysp spec_l05Daybs (a0, ()) () = spec_l05Day_t n a0 := by kernel_rfl
  rw [h]
  rfl

theorem spec_l05Day_ok (n : Nat) : FunOk P (spec_l05DayF n) :=
  funOk_mk (C := [spec_l00InF n]) (N := 5) (kp := spec_l05Daykp) (c := spec_l05Dayc) (n := n) (G := fun x y => spec_l05Day n x.1) follows (AllOk.mem (⟨spec_l00In_ok n, trivial⟩ : AllOk P ([spec_l00InF n]))) (by kernel_rfl : P.funcs[77]? = some Go.Proofs.Try.f77) (by kernel_rfl) (by kernel_rfl) (by kernel_rfl)
    (fun x y => spec_l05Day_eq n x.1) (fun _ _ => map_same (fun _ => rfl) _) (fun _ _ _ _ => rfl)

abbrev spec_l05Namesp : List Sp := [.v false .str]
abbrev spec_l05Namebs : List (Bs × Bool) := []
abbrev spec_l05Namers : List (Bool × List Rp) := [(false, [.v false .bool])]
noncomputable def spec_l05Namekp : Keep := { loop := fun id => match id with | 4 => ([3, 0], []) | _ => ([], []), join := fun id => match id with | _ => none }
noncomputable def spec_l05Namec : Code := bodyOf Go.Proofs.Try.f90
noncomputable def spec_l05NameF (n : Nat) : Fun := { id := 90, sp := spec_l05Namesp, bs := spec_l05Namebs, rs := spec_l05Namers, f := fun x y => spec_l05Name n x.1 }

theorem spec_l05Name_l4_eq (n : Nat) : ∀ (k : Nat) (v3 : Int) (v0 : ByteArray), iter (interp ([]) ty 28 0 n spec_l05Namekp (codeAt spec_l05Namec [1, 1, 0, 1, 0, 0])) (canon 0 (spec_l05Namekp.loop 4)) (kAt ([]) ty 28 0 n spec_l05Namekp spec_l05Namec [1, 1, 0, 1, 0] [] (ending ty 0 Go.Proofs.Try.f90.results.toList spec_l05Namers spec_l05Namebs)) k { env := [(3, .one (.sc (.int .i64 v3))), (0, .one (.sc (.string v0)))], bx := [], nx := 0 } = spec_l05Name_l4 n k v3 v0
  | 0, _, _ => by kernel_rfl
  | k + 1, v3, v0 => by
    have h : iter (interp ([]) ty 28 0 n spec_l05Namekp (codeAt spec_l05Namec [1, 1, 0, 1, 0, 0])) (canon 0 (spec_l05Namekp.loop 4)) (kAt ([]) ty 28 0 n spec_l05Namekp spec_l05Namec [1, 1, 0, 1, 0] [] (ending ty 0 Go.Proofs.Try.f90.results.toList spec_l05Namers spec_l05Namebs)) (k + 1) { env := [(3, .one (.sc (.int .i64 v3))), (0, .one (.sc (.string v0)))], bx := [], nx := 0 } = spec_l05Name_t4 n (fun v3 v0 => iter (interp ([]) ty 28 0 n spec_l05Namekp (codeAt spec_l05Namec [1, 1, 0, 1, 0, 0])) (canon 0 (spec_l05Namekp.loop 4)) (kAt ([]) ty 28 0 n spec_l05Namekp spec_l05Namec [1, 1, 0, 1, 0] [] (ending ty 0 Go.Proofs.Try.f90.results.toList spec_l05Namers spec_l05Namebs)) k { env := [(3, .one (.sc (.int .i64 v3))), (0, .one (.sc (.string v0)))], bx := [], nx := 0 }) v3 v0 := by kernel_rfl
    rw [h]
    have e := congrArg (fun g => spec_l05Name_t4 n g v3 v0) (funext fun v3 => funext fun v0 => spec_l05Name_l4_eq n k v3 v0)
    exact e

theorem spec_l05Name_eq (n : Nat) (a0 : ByteArray) : runBody ([]) ty 28 n spec_l05Namekp spec_l05Namec Go.Proofs.Try.f90.results.toList spec_l05Namers spec_l05Namesp spec_l05Namebs (a0, ()) () = spec_l05Name n a0 := by
  have h : runBody ([]) ty 28 n spec_l05Namekp spec_l05Namec Go.Proofs.Try.f90.results.toList spec_l05Namers spec_l05Namesp spec_l05Namebs (a0, ()) () = spec_l05Name_t n (fun k v3 v0 => iter (interp ([]) ty 28 0 n spec_l05Namekp (codeAt spec_l05Namec [1, 1, 0, 1, 0, 0])) (canon 0 (spec_l05Namekp.loop 4)) (kAt ([]) ty 28 0 n spec_l05Namekp spec_l05Namec [1, 1, 0, 1, 0] [] (ending ty 0 Go.Proofs.Try.f90.results.toList spec_l05Namers spec_l05Namebs)) k { env := [(3, .one (.sc (.int .i64 v3))), (0, .one (.sc (.string v0)))], bx := [], nx := 0 }) a0 := by kernel_rfl
  rw [h]
  have e := congrArg (fun h4 => spec_l05Name_t n h4 a0) (funext fun k => funext fun v3 => funext fun v0 => spec_l05Name_l4_eq n k v3 v0)
  exact e

theorem spec_l05Name_ok (n : Nat) : FunOk P (spec_l05NameF n) :=
  funOk_mk (C := []) (N := 28) (kp := spec_l05Namekp) (c := spec_l05Namec) (n := n) (G := fun x y => spec_l05Name n x.1) follows (AllOk.mem (trivial : AllOk P ([]))) (by kernel_rfl : P.funcs[90]? = some Go.Proofs.Try.f90) (by kernel_rfl) (by kernel_rfl) (by kernel_rfl)
    (fun x y => spec_l05Name_eq n x.1) (fun _ _ => map_same (fun _ => rfl) _) (fun _ _ _ _ => rfl)

abbrev spec_l01Cmpsp : List Sp := [.v true (.pair (.int .i64) (.int .i64)), .v true (.pair (.int .i64) (.int .i64))]
abbrev spec_l01Cmpbs : List (Bs × Bool) := []
abbrev spec_l01Cmprs : List (Bool × List Rp) := [(false, [.v false (.int .i64)])]
noncomputable def spec_l01Cmpkp : Keep := { loop := fun id => match id with | _ => ([], []), join := fun id => match id with | _ => none }
noncomputable def spec_l01Cmpc : Code := bodyOf Go.Proofs.Try.f100
noncomputable def spec_l01CmpF (n : Nat) : Fun := { id := 100, sp := spec_l01Cmpsp, bs := spec_l01Cmpbs, rs := spec_l01Cmprs, f := fun x y => spec_l01Cmp n x.1 x.2.1 }

theorem spec_l01Cmp_eq (n : Nat) (a0 : (Int) × (Int)) (a1 : (Int) × (Int)) : runBody ([]) ty 25 n spec_l01Cmpkp spec_l01Cmpc Go.Proofs.Try.f100.results.toList spec_l01Cmprs spec_l01Cmpsp spec_l01Cmpbs (a0, (a1, ())) () = spec_l01Cmp n a0 a1 := by
  have h : runBody ([]) ty 25 n spec_l01Cmpkp spec_l01Cmpc Go.Proofs.Try.f100.results.toList spec_l01Cmprs spec_l01Cmpsp spec_l01Cmpbs (a0, (a1, ())) () = spec_l01Cmp_t n a0 a1 := by kernel_rfl
  rw [h]
  rfl

theorem spec_l01Cmp_ok (n : Nat) : FunOk P (spec_l01CmpF n) :=
  funOk_mk (C := []) (N := 25) (kp := spec_l01Cmpkp) (c := spec_l01Cmpc) (n := n) (G := fun x y => spec_l01Cmp n x.1 x.2.1) follows (AllOk.mem (trivial : AllOk P ([]))) (by kernel_rfl : P.funcs[100]? = some Go.Proofs.Try.f100) (by kernel_rfl) (by kernel_rfl) (by kernel_rfl)
    (fun x y => spec_l01Cmp_eq n x.1 x.2.1) (fun _ _ => map_same (fun _ => rfl) _) (fun _ _ _ _ => rfl)

abbrev spec_l01Span_esp : List Sp := [.er (.pair (.pair (.int .i64) (.int .i64)) (.pair (.int .i64) (.int .i64)))]
abbrev spec_l01Span_ebs : List (Bs × Bool) := []
abbrev spec_l01Span_ers : List (Bool × List Rp) := [(false, [.v false .bool])]
noncomputable def spec_l01Span_ekp : Keep := { loop := fun id => match id with | _ => ([], []), join := fun id => match id with | _ => none }
noncomputable def spec_l01Span_ec : Code := bodyOf Go.Proofs.Try.f97
noncomputable def spec_l01Span_eF (n : Nat) : Fun := { id := 97, sp := spec_l01Span_esp, bs := spec_l01Span_ebs, rs := spec_l01Span_ers, f := fun x y => spec_l01Span_e n x.1 }

theorem spec_l01Span_e_eq (n : Nat) (a0 : ((Int) × (Int)) × ((Int) × (Int))) : runBody ([spec_l01OkF n, spec_l01CmpF n]) ty 27 n spec_l01Span_ekp spec_l01Span_ec Go.Proofs.Try.f97.results.toList spec_l01Span_ers spec_l01Span_esp spec_l01Span_ebs (a0, ()) () = spec_l01Span_e n a0 := by
  have h : runBody ([spec_l01OkF n, spec_l01CmpF n]) ty 27 n spec_l01Span_ekp spec_l01Span_ec Go.Proofs.Try.f97.results.toList spec_l01Span_ers spec_l01Span_esp spec_l01Span_ebs (a0, ()) () = spec_l01Span_e_t n a0 := by kernel_rfl
  rw [h]
  rfl

theorem spec_l01Span_e_ok (n : Nat) : FunOk P (spec_l01Span_eF n) :=
  funOk_mk (C := [spec_l01OkF n, spec_l01CmpF n]) (N := 27) (kp := spec_l01Span_ekp) (c := spec_l01Span_ec) (n := n) (G := fun x y => spec_l01Span_e n x.1) follows (AllOk.mem (⟨spec_l01Ok_ok n, ⟨spec_l01Cmp_ok n, trivial⟩⟩ : AllOk P ([spec_l01OkF n, spec_l01CmpF n]))) (by kernel_rfl : P.funcs[97]? = some Go.Proofs.Try.f97) (by kernel_rfl) (by kernel_rfl) (by kernel_rfl)
    (fun x y => spec_l01Span_e_eq n x.1) (fun _ _ => map_same (fun _ => rfl) _) (fun _ _ _ _ => rfl)

abbrev spec_l05Standard_esp : List Sp := [.v false (.list (.pair .str (.pair (.int .i64) (.pair (.pair (.pair (.int .i64) (.int .i64)) (.pair (.int .i64) (.int .i64))) (.pair (.pair (.int .i64) (.int .i64)) (.pair (.int .i64) (.int .i64))))))), .er (.pair .str (.pair (.int .i64) (.pair (.pair (.pair (.int .i64) (.int .i64)) (.pair (.int .i64) (.int .i64))) (.pair (.pair (.int .i64) (.int .i64)) (.pair (.int .i64) (.int .i64))))))]
abbrev spec_l05Standard_ebs : List (Bs × Bool) := []
abbrev spec_l05Standard_ers : List (Bool × List Rp) := [(false, [.v false .bool])]
noncomputable def spec_l05Standard_ekp : Keep := { loop := fun id => match id with | _ => ([], []), join := fun id => match id with | _ => none }
noncomputable def spec_l05Standard_ec : Code := bodyOf Go.Proofs.Try.f91
noncomputable def spec_l05Standard_eF (n : Nat) : Fun := { id := 91, sp := spec_l05Standard_esp, bs := spec_l05Standard_ebs, rs := spec_l05Standard_ers, f := fun x y => spec_l05Standard_e n x.1 x.2.1 }

theorem spec_l05Standard_e_eq (n : Nat) (a0 : List ((ByteArray) × ((Int) × ((((Int) × (Int)) × ((Int) × (Int))) × (((Int) × (Int)) × ((Int) × (Int))))))) (a1 : (ByteArray) × ((Int) × ((((Int) × (Int)) × ((Int) × (Int))) × (((Int) × (Int)) × ((Int) × (Int)))))) : runBody ([spec_l01Span_eF n, spec_l01OkF n, spec_l05DayF n, spec_l00InF n, spec_l05Good_eF n]) ty 68 n spec_l05Standard_ekp spec_l05Standard_ec Go.Proofs.Try.f91.results.toList spec_l05Standard_ers spec_l05Standard_esp spec_l05Standard_ebs (a0, (a1, ())) () = spec_l05Standard_e n a0 a1 := by
  have h : runBody ([spec_l01Span_eF n, spec_l01OkF n, spec_l05DayF n, spec_l00InF n, spec_l05Good_eF n]) ty 68 n spec_l05Standard_ekp spec_l05Standard_ec Go.Proofs.Try.f91.results.toList spec_l05Standard_ers spec_l05Standard_esp spec_l05Standard_ebs (a0, (a1, ())) () = spec_l05Standard_e_t n a0 a1 := by kernel_rfl
  rw [h]
  rfl

theorem spec_l05Standard_e_ok (n : Nat) : FunOk P (spec_l05Standard_eF n) :=
  funOk_mk (C := [spec_l01Span_eF n, spec_l01OkF n, spec_l05DayF n, spec_l00InF n, spec_l05Good_eF n]) (N := 68) (kp := spec_l05Standard_ekp) (c := spec_l05Standard_ec) (n := n) (G := fun x y => spec_l05Standard_e n x.1 x.2.1) follows (AllOk.mem (⟨spec_l01Span_e_ok n, ⟨spec_l01Ok_ok n, ⟨spec_l05Day_ok n, ⟨spec_l00In_ok n, ⟨spec_l05Good_e_ok n, trivial⟩⟩⟩⟩⟩ : AllOk P ([spec_l01Span_eF n, spec_l01OkF n, spec_l05DayF n, spec_l00InF n, spec_l05Good_eF n]))) (by kernel_rfl : P.funcs[91]? = some Go.Proofs.Try.f91) (by kernel_rfl) (by kernel_rfl) (by kernel_rfl)
    (fun x y => spec_l05Standard_e_eq n x.1 x.2.1) (fun _ _ => map_same (fun _ => rfl) _) (fun _ _ _ _ => rfl)

abbrev spec_l05Oksp : List Sp := [.v false (.list (.pair .str (.pair (.int .i64) (.pair (.pair (.pair (.int .i64) (.int .i64)) (.pair (.int .i64) (.int .i64))) (.pair (.pair (.int .i64) (.int .i64)) (.pair (.int .i64) (.int .i64)))))))]
abbrev spec_l05Okbs : List (Bs × Bool) := []
abbrev spec_l05Okrs : List (Bool × List Rp) := [(false, [.v false .bool])]
noncomputable def spec_l05Okkp : Keep := { loop := fun id => match id with | 4 => ([3, 0], []) | 9 => ([4, 3, 0], []) | _ => ([], []), join := fun id => match id with | _ => none }
noncomputable def spec_l05Okc : Code := bodyOf Go.Proofs.Try.f76
noncomputable def spec_l05OkF (n : Nat) : Fun := { id := 76, sp := spec_l05Oksp, bs := spec_l05Okbs, rs := spec_l05Okrs, f := fun x y => spec_l05Ok n x.1 }

theorem spec_l05Ok_l9_eq (n : Nat) (G4 : St → Option ((((Bool) × (Unit)) × (Unit)) × (Unit))) : ∀ (k : Nat) (v4 : Int) (v3 : Int) (v0 : List ((ByteArray) × ((Int) × ((((Int) × (Int)) × ((Int) × (Int))) × (((Int) × (Int)) × ((Int) × (Int))))))), iter (interp ([spec_l05NameF n, spec_l05Standard_eF n]) ty 47 0 n spec_l05Okkp (codeAt spec_l05Okc [1, 1, 0, 1, 0, 0, 1, 0, 0, 1, 1, 0, 0])) (canon 0 (spec_l05Okkp.loop 9)) (kAt ([spec_l05NameF n, spec_l05Standard_eF n]) ty 47 0 n spec_l05Okkp spec_l05Okc [1, 1, 0, 1, 0, 0, 1, 0, 0, 1, 1, 0] [G4] (ending ty 0 Go.Proofs.Try.f76.results.toList spec_l05Okrs spec_l05Okbs)) k { env := [(4, .one (.sc (.int .i64 v4))), (3, .one (.sc (.int .i64 v3))), (0, .one (.list true (.pair .str (.pair (.int .i64) (.pair (.pair (.pair (.int .i64) (.int .i64)) (.pair (.int .i64) (.int .i64))) (.pair (.pair (.int .i64) (.int .i64)) (.pair (.int .i64) (.int .i64)))))) v0))], bx := [], nx := 0 } = spec_l05Ok_l9 n (fun v3 v0 => G4 { env := [(3, .one (.sc (.int .i64 v3))), (0, .one (.list true (.pair .str (.pair (.int .i64) (.pair (.pair (.pair (.int .i64) (.int .i64)) (.pair (.int .i64) (.int .i64))) (.pair (.pair (.int .i64) (.int .i64)) (.pair (.int .i64) (.int .i64)))))) v0))], bx := [], nx := 0 }) k v4 v3 v0
  | 0, _, _, _ => by kernel_rfl
  | k + 1, v4, v3, v0 => by
    have h : iter (interp ([spec_l05NameF n, spec_l05Standard_eF n]) ty 47 0 n spec_l05Okkp (codeAt spec_l05Okc [1, 1, 0, 1, 0, 0, 1, 0, 0, 1, 1, 0, 0])) (canon 0 (spec_l05Okkp.loop 9)) (kAt ([spec_l05NameF n, spec_l05Standard_eF n]) ty 47 0 n spec_l05Okkp spec_l05Okc [1, 1, 0, 1, 0, 0, 1, 0, 0, 1, 1, 0] [G4] (ending ty 0 Go.Proofs.Try.f76.results.toList spec_l05Okrs spec_l05Okbs)) (k + 1) { env := [(4, .one (.sc (.int .i64 v4))), (3, .one (.sc (.int .i64 v3))), (0, .one (.list true (.pair .str (.pair (.int .i64) (.pair (.pair (.pair (.int .i64) (.int .i64)) (.pair (.int .i64) (.int .i64))) (.pair (.pair (.int .i64) (.int .i64)) (.pair (.int .i64) (.int .i64)))))) v0))], bx := [], nx := 0 } = spec_l05Ok_t9 n (fun v3 v0 => G4 { env := [(3, .one (.sc (.int .i64 v3))), (0, .one (.list true (.pair .str (.pair (.int .i64) (.pair (.pair (.pair (.int .i64) (.int .i64)) (.pair (.int .i64) (.int .i64))) (.pair (.pair (.int .i64) (.int .i64)) (.pair (.int .i64) (.int .i64)))))) v0))], bx := [], nx := 0 }) (fun v4 v3 v0 => iter (interp ([spec_l05NameF n, spec_l05Standard_eF n]) ty 47 0 n spec_l05Okkp (codeAt spec_l05Okc [1, 1, 0, 1, 0, 0, 1, 0, 0, 1, 1, 0, 0])) (canon 0 (spec_l05Okkp.loop 9)) (kAt ([spec_l05NameF n, spec_l05Standard_eF n]) ty 47 0 n spec_l05Okkp spec_l05Okc [1, 1, 0, 1, 0, 0, 1, 0, 0, 1, 1, 0] [G4] (ending ty 0 Go.Proofs.Try.f76.results.toList spec_l05Okrs spec_l05Okbs)) k { env := [(4, .one (.sc (.int .i64 v4))), (3, .one (.sc (.int .i64 v3))), (0, .one (.list true (.pair .str (.pair (.int .i64) (.pair (.pair (.pair (.int .i64) (.int .i64)) (.pair (.int .i64) (.int .i64))) (.pair (.pair (.int .i64) (.int .i64)) (.pair (.int .i64) (.int .i64)))))) v0))], bx := [], nx := 0 }) v4 v3 v0 := by kernel_rfl
    rw [h]
    have e := congrArg (fun g => spec_l05Ok_t9 n (fun v3 v0 => G4 { env := [(3, .one (.sc (.int .i64 v3))), (0, .one (.list true (.pair .str (.pair (.int .i64) (.pair (.pair (.pair (.int .i64) (.int .i64)) (.pair (.int .i64) (.int .i64))) (.pair (.pair (.int .i64) (.int .i64)) (.pair (.int .i64) (.int .i64)))))) v0))], bx := [], nx := 0 }) g v4 v3 v0) (funext fun v4 => funext fun v3 => funext fun v0 => spec_l05Ok_l9_eq n G4 k v4 v3 v0)
    exact e

theorem spec_l05Ok_l4_eq (n : Nat) : ∀ (k : Nat) (v3 : Int) (v0 : List ((ByteArray) × ((Int) × ((((Int) × (Int)) × ((Int) × (Int))) × (((Int) × (Int)) × ((Int) × (Int))))))), iter (interp ([spec_l05NameF n, spec_l05Standard_eF n]) ty 47 0 n spec_l05Okkp (codeAt spec_l05Okc [1, 1, 0, 1, 0, 0])) (canon 0 (spec_l05Okkp.loop 4)) (kAt ([spec_l05NameF n, spec_l05Standard_eF n]) ty 47 0 n spec_l05Okkp spec_l05Okc [1, 1, 0, 1, 0] [] (ending ty 0 Go.Proofs.Try.f76.results.toList spec_l05Okrs spec_l05Okbs)) k { env := [(3, .one (.sc (.int .i64 v3))), (0, .one (.list true (.pair .str (.pair (.int .i64) (.pair (.pair (.pair (.int .i64) (.int .i64)) (.pair (.int .i64) (.int .i64))) (.pair (.pair (.int .i64) (.int .i64)) (.pair (.int .i64) (.int .i64)))))) v0))], bx := [], nx := 0 } = spec_l05Ok_l4 n k v3 v0
  | 0, _, _ => by kernel_rfl
  | k + 1, v3, v0 => by
    have h : iter (interp ([spec_l05NameF n, spec_l05Standard_eF n]) ty 47 0 n spec_l05Okkp (codeAt spec_l05Okc [1, 1, 0, 1, 0, 0])) (canon 0 (spec_l05Okkp.loop 4)) (kAt ([spec_l05NameF n, spec_l05Standard_eF n]) ty 47 0 n spec_l05Okkp spec_l05Okc [1, 1, 0, 1, 0] [] (ending ty 0 Go.Proofs.Try.f76.results.toList spec_l05Okrs spec_l05Okbs)) (k + 1) { env := [(3, .one (.sc (.int .i64 v3))), (0, .one (.list true (.pair .str (.pair (.int .i64) (.pair (.pair (.pair (.int .i64) (.int .i64)) (.pair (.int .i64) (.int .i64))) (.pair (.pair (.int .i64) (.int .i64)) (.pair (.int .i64) (.int .i64)))))) v0))], bx := [], nx := 0 } = spec_l05Ok_t4 n (fun k' v4 v3 v0 => iter (interp ([spec_l05NameF n, spec_l05Standard_eF n]) ty 47 0 n spec_l05Okkp (codeAt spec_l05Okc [1, 1, 0, 1, 0, 0, 1, 0, 0, 1, 1, 0, 0])) (canon 0 (spec_l05Okkp.loop 9)) (kAt ([spec_l05NameF n, spec_l05Standard_eF n]) ty 47 0 n spec_l05Okkp spec_l05Okc [1, 1, 0, 1, 0, 0, 1, 0, 0, 1, 1, 0] [(fun s => iter (interp ([spec_l05NameF n, spec_l05Standard_eF n]) ty 47 0 n spec_l05Okkp (codeAt spec_l05Okc [1, 1, 0, 1, 0, 0])) (canon 0 (spec_l05Okkp.loop 4)) (kAt ([spec_l05NameF n, spec_l05Standard_eF n]) ty 47 0 n spec_l05Okkp spec_l05Okc [1, 1, 0, 1, 0] [] (ending ty 0 Go.Proofs.Try.f76.results.toList spec_l05Okrs spec_l05Okbs)) k s)] (ending ty 0 Go.Proofs.Try.f76.results.toList spec_l05Okrs spec_l05Okbs)) k' { env := [(4, .one (.sc (.int .i64 v4))), (3, .one (.sc (.int .i64 v3))), (0, .one (.list true (.pair .str (.pair (.int .i64) (.pair (.pair (.pair (.int .i64) (.int .i64)) (.pair (.int .i64) (.int .i64))) (.pair (.pair (.int .i64) (.int .i64)) (.pair (.int .i64) (.int .i64)))))) v0))], bx := [], nx := 0 }) (fun v3 v0 => iter (interp ([spec_l05NameF n, spec_l05Standard_eF n]) ty 47 0 n spec_l05Okkp (codeAt spec_l05Okc [1, 1, 0, 1, 0, 0])) (canon 0 (spec_l05Okkp.loop 4)) (kAt ([spec_l05NameF n, spec_l05Standard_eF n]) ty 47 0 n spec_l05Okkp spec_l05Okc [1, 1, 0, 1, 0] [] (ending ty 0 Go.Proofs.Try.f76.results.toList spec_l05Okrs spec_l05Okbs)) k { env := [(3, .one (.sc (.int .i64 v3))), (0, .one (.list true (.pair .str (.pair (.int .i64) (.pair (.pair (.pair (.int .i64) (.int .i64)) (.pair (.int .i64) (.int .i64))) (.pair (.pair (.int .i64) (.int .i64)) (.pair (.int .i64) (.int .i64)))))) v0))], bx := [], nx := 0 }) v3 v0 := by kernel_rfl
    rw [h]
    have e := congr (congrArg (fun h9 g => spec_l05Ok_t4 n h9 g v3 v0) ((funext fun k' => funext fun v4 => funext fun v3 => funext fun v0 => spec_l05Ok_l9_eq n (fun s => iter (interp ([spec_l05NameF n, spec_l05Standard_eF n]) ty 47 0 n spec_l05Okkp (codeAt spec_l05Okc [1, 1, 0, 1, 0, 0])) (canon 0 (spec_l05Okkp.loop 4)) (kAt ([spec_l05NameF n, spec_l05Standard_eF n]) ty 47 0 n spec_l05Okkp spec_l05Okc [1, 1, 0, 1, 0] [] (ending ty 0 Go.Proofs.Try.f76.results.toList spec_l05Okrs spec_l05Okbs)) k s) k' v4 v3 v0).trans (congrArg (fun z => spec_l05Ok_l9 n z) (funext fun v3 => funext fun v0 => spec_l05Ok_l4_eq n k v3 v0)))) (funext fun v3 => funext fun v0 => spec_l05Ok_l4_eq n k v3 v0)
    exact e

theorem spec_l05Ok_eq (n : Nat) (a0 : List ((ByteArray) × ((Int) × ((((Int) × (Int)) × ((Int) × (Int))) × (((Int) × (Int)) × ((Int) × (Int))))))) : runBody ([spec_l05NameF n, spec_l05Standard_eF n]) ty 47 n spec_l05Okkp spec_l05Okc Go.Proofs.Try.f76.results.toList spec_l05Okrs spec_l05Oksp spec_l05Okbs (a0, ()) () = spec_l05Ok n a0 := by
  have h : runBody ([spec_l05NameF n, spec_l05Standard_eF n]) ty 47 n spec_l05Okkp spec_l05Okc Go.Proofs.Try.f76.results.toList spec_l05Okrs spec_l05Oksp spec_l05Okbs (a0, ()) () = spec_l05Ok_t n (fun k v3 v0 => iter (interp ([spec_l05NameF n, spec_l05Standard_eF n]) ty 47 0 n spec_l05Okkp (codeAt spec_l05Okc [1, 1, 0, 1, 0, 0])) (canon 0 (spec_l05Okkp.loop 4)) (kAt ([spec_l05NameF n, spec_l05Standard_eF n]) ty 47 0 n spec_l05Okkp spec_l05Okc [1, 1, 0, 1, 0] [] (ending ty 0 Go.Proofs.Try.f76.results.toList spec_l05Okrs spec_l05Okbs)) k { env := [(3, .one (.sc (.int .i64 v3))), (0, .one (.list true (.pair .str (.pair (.int .i64) (.pair (.pair (.pair (.int .i64) (.int .i64)) (.pair (.int .i64) (.int .i64))) (.pair (.pair (.int .i64) (.int .i64)) (.pair (.int .i64) (.int .i64)))))) v0))], bx := [], nx := 0 }) a0 := by kernel_rfl
  rw [h]
  have e := congrArg (fun h4 => spec_l05Ok_t n h4 a0) (funext fun k => funext fun v3 => funext fun v0 => spec_l05Ok_l4_eq n k v3 v0)
  exact e

theorem spec_l05Ok_ok (n : Nat) : FunOk P (spec_l05OkF n) :=
  funOk_mk (C := [spec_l05NameF n, spec_l05Standard_eF n]) (N := 47) (kp := spec_l05Okkp) (c := spec_l05Okc) (n := n) (G := fun x y => spec_l05Ok n x.1) follows (AllOk.mem (⟨spec_l05Name_ok n, ⟨spec_l05Standard_e_ok n, trivial⟩⟩ : AllOk P ([spec_l05NameF n, spec_l05Standard_eF n]))) (by kernel_rfl : P.funcs[76]? = some Go.Proofs.Try.f76) (by kernel_rfl) (by kernel_rfl) (by kernel_rfl)
    (fun x y => spec_l05Ok_eq n x.1) (fun _ _ => map_same (fun _ => rfl) _) (fun _ _ _ _ => rfl)

abbrev spec_l05Atsp : List Sp := [.v false (.list (.pair .str (.pair (.int .i64) (.pair (.pair (.pair (.int .i64) (.int .i64)) (.pair (.int .i64) (.int .i64))) (.pair (.pair (.int .i64) (.int .i64)) (.pair (.int .i64) (.int .i64))))))), .v false (.int .i64), .v false (.int .i64)]
abbrev spec_l05Atbs : List (Bs × Bool) := []
abbrev spec_l05Atrs : List (Bool × List Rp) := [(false, [.v false (.int .i64)])]
noncomputable def spec_l05Atkp : Keep := { loop := fun id => match id with | _ => ([], []), join := fun id => match id with | _ => none }
noncomputable def spec_l05Atc : Code := bodyOf Go.Proofs.Try.f53
noncomputable def spec_l05AtF (n : Nat) : Fun := { id := 53, sp := spec_l05Atsp, bs := spec_l05Atbs, rs := spec_l05Atrs, f := fun x y => spec_l05At n x.1 x.2.1 x.2.2.1 }

theorem spec_l05At_eq (n : Nat) (a0 : List ((ByteArray) × ((Int) × ((((Int) × (Int)) × ((Int) × (Int))) × (((Int) × (Int)) × ((Int) × (Int))))))) (a1 : Int) (a2 : Int) : runBody ([spec_l05OkF n, spec_l00InF n, spec_l05DayF n]) ty 21 n spec_l05Atkp spec_l05Atc Go.Proofs.Try.f53.results.toList spec_l05Atrs spec_l05Atsp spec_l05Atbs (a0, (a1, (a2, ()))) () = spec_l05At n a0 a1 a2 := by
  have h : runBody ([spec_l05OkF n, spec_l00InF n, spec_l05DayF n]) ty 21 n spec_l05Atkp spec_l05Atc Go.Proofs.Try.f53.results.toList spec_l05Atrs spec_l05Atsp spec_l05Atbs (a0, (a1, (a2, ()))) () = spec_l05At_t n a0 a1 a2 := by kernel_rfl
  rw [h]
  rfl

theorem spec_l05At_ok (n : Nat) : FunOk P (spec_l05AtF n) :=
  funOk_mk (C := [spec_l05OkF n, spec_l00InF n, spec_l05DayF n]) (N := 21) (kp := spec_l05Atkp) (c := spec_l05Atc) (n := n) (G := fun x y => spec_l05At n x.1 x.2.1 x.2.2.1) follows (AllOk.mem (⟨spec_l05Ok_ok n, ⟨spec_l00In_ok n, ⟨spec_l05Day_ok n, trivial⟩⟩⟩ : AllOk P ([spec_l05OkF n, spec_l00InF n, spec_l05DayF n]))) (by kernel_rfl : P.funcs[53]? = some Go.Proofs.Try.f53) (by kernel_rfl) (by kernel_rfl) (by kernel_rfl)
    (fun x y => spec_l05At_eq n x.1 x.2.1 x.2.2.1) (fun _ _ => map_same (fun _ => rfl) _) (fun _ _ _ _ => rfl)

abbrev spec_l05Twosp : List Sp := [.v false (.list (.pair .str (.pair (.int .i64) (.pair (.pair (.pair (.int .i64) (.int .i64)) (.pair (.int .i64) (.int .i64))) (.pair (.pair (.int .i64) (.int .i64)) (.pair (.int .i64) (.int .i64))))))), .v false (.int .i64), .v false (.int .i64), .v false (.int .i64)]
abbrev spec_l05Twobs : List (Bs × Bool) := []
abbrev spec_l05Twors : List (Bool × List Rp) := [(false, [.v false (.int .i64)])]
noncomputable def spec_l05Twokp : Keep := { loop := fun id => match id with | _ => ([], []), join := fun id => match id with | _ => none }
noncomputable def spec_l05Twoc : Code := bodyOf Go.Proofs.Try.f32
noncomputable def spec_l05TwoF (n : Nat) : Fun := { id := 32, sp := spec_l05Twosp, bs := spec_l05Twobs, rs := spec_l05Twors, f := fun x y => spec_l05Two n x.1 x.2.1 x.2.2.1 x.2.2.2.1 }

theorem spec_l05Two_eq (n : Nat) (a0 : List ((ByteArray) × ((Int) × ((((Int) × (Int)) × ((Int) × (Int))) × (((Int) × (Int)) × ((Int) × (Int))))))) (a1 : Int) (a2 : Int) (a3 : Int) : runBody ([spec_l05AtF n]) ty 21 n spec_l05Twokp spec_l05Twoc Go.Proofs.Try.f32.results.toList spec_l05Twors spec_l05Twosp spec_l05Twobs (a0, (a1, (a2, (a3, ())))) () = spec_l05Two n a0 a1 a2 a3 := by
  have h : runBody ([spec_l05AtF n]) ty 21 n spec_l05Twokp spec_l05Twoc Go.Proofs.Try.f32.results.toList spec_l05Twors spec_l05Twosp spec_l05Twobs (a0, (a1, (a2, (a3, ())))) () = spec_l05Two_t n a0 a1 a2 a3 := by kernel_rfl
  rw [h]
  rfl

theorem spec_l05Two_ok (n : Nat) : FunOk P (spec_l05TwoF n) :=
  funOk_mk (C := [spec_l05AtF n]) (N := 21) (kp := spec_l05Twokp) (c := spec_l05Twoc) (n := n) (G := fun x y => spec_l05Two n x.1 x.2.1 x.2.2.1 x.2.2.2.1) follows (AllOk.mem (⟨spec_l05At_ok n, trivial⟩ : AllOk P ([spec_l05AtF n]))) (by kernel_rfl : P.funcs[32]? = some Go.Proofs.Try.f32) (by kernel_rfl) (by kernel_rfl) (by kernel_rfl)
    (fun x y => spec_l05Two_eq n x.1 x.2.1 x.2.2.1 x.2.2.2.1) (fun _ _ => map_same (fun _ => rfl) _) (fun _ _ _ _ => rfl)

abbrev spec_DifferenceOnsp : List Sp := [.v false (.list (.pair .str (.pair (.int .i64) (.pair (.pair (.pair (.int .i64) (.int .i64)) (.pair (.int .i64) (.int .i64))) (.pair (.pair (.int .i64) (.int .i64)) (.pair (.int .i64) (.int .i64))))))), .v false (.int .i64), .v false (.int .i64), .v false (.int .i64)]
abbrev spec_DifferenceOnbs : List (Bs × Bool) := []
abbrev spec_DifferenceOnrs : List (Bool × List Rp) := [(true, [.v false (.pair (.pair (.int .i64) (.int .i64)) (.pair (.int .i64) (.int .i64)))]), (false, [.v false (.int .i64)])]
noncomputable def spec_DifferenceOnkp : Keep := { loop := fun id => match id with | _ => ([], []), join := fun id => match id with | _ => none }
noncomputable def spec_DifferenceOnc : Code := bodyOf Go.Proofs.Try.f13
noncomputable def spec_DifferenceOnF (n : Nat) : Fun := { id := 13, sp := spec_DifferenceOnsp, bs := spec_DifferenceOnbs, rs := spec_DifferenceOnrs, f := fun x y => spec_DifferenceOn n x.1 x.2.1 x.2.2.1 x.2.2.2.1 }

theorem spec_DifferenceOn_eq (n : Nat) (a0 : List ((ByteArray) × ((Int) × ((((Int) × (Int)) × ((Int) × (Int))) × (((Int) × (Int)) × ((Int) × (Int))))))) (a1 : Int) (a2 : Int) (a3 : Int) : runBody ([spec_l05TwoF n, spec_l05DifferenceF n]) ty 27 n spec_DifferenceOnkp spec_DifferenceOnc Go.Proofs.Try.f13.results.toList spec_DifferenceOnrs spec_DifferenceOnsp spec_DifferenceOnbs (a0, (a1, (a2, (a3, ())))) () = spec_DifferenceOn n a0 a1 a2 a3 := by
  have h : runBody ([spec_l05TwoF n, spec_l05DifferenceF n]) ty 27 n spec_DifferenceOnkp spec_DifferenceOnc Go.Proofs.Try.f13.results.toList spec_DifferenceOnrs spec_DifferenceOnsp spec_DifferenceOnbs (a0, (a1, (a2, (a3, ())))) () = spec_DifferenceOn_t n a0 a1 a2 a3 := by kernel_rfl
  rw [h]
  rfl

theorem spec_DifferenceOn_ok (n : Nat) : FunOk P (spec_DifferenceOnF n) :=
  funOk_mk (C := [spec_l05TwoF n, spec_l05DifferenceF n]) (N := 27) (kp := spec_DifferenceOnkp) (c := spec_DifferenceOnc) (n := n) (G := fun x y => spec_DifferenceOn n x.1 x.2.1 x.2.2.1 x.2.2.2.1) follows (AllOk.mem (⟨spec_l05Two_ok n, ⟨spec_l05Difference_ok n, trivial⟩⟩ : AllOk P ([spec_l05TwoF n, spec_l05DifferenceF n]))) (by kernel_rfl : P.funcs[13]? = some Go.Proofs.Try.f13) (by kernel_rfl) (by kernel_rfl) (by kernel_rfl)
    (fun x y => spec_DifferenceOn_eq n x.1 x.2.1 x.2.2.1 x.2.2.2.1) (fun _ _ => map_same (fun _ => rfl) _) (fun _ _ _ _ => rfl)

end Go.Abs
