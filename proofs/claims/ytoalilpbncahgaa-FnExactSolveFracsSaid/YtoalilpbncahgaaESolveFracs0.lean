import Derived.Test.YtoalilpbncahgaaDSolveFracs0
import Derived.Test.YtoalilpbncahgaaProg
import Derived.Test.YtoalilpbncahgaaRow
import Derived.KernelRfl
namespace Go.Abs
open Go.Proofs
set_option maxRecDepth 100000
set_option linter.unusedVariables false

noncomputable abbrev P : Program := Try.prog
noncomputable abbrev ty : Nat → Option TyI := tyOf P
noncomputable abbrev typ : Nat → Option TyI := tyP P
def bodyOf (f : Func) : Code := match f.body with | some c => c | none => .skip
theorem follows : P.follows .mixedOrders = true := by kernel_rfl

noncomputable instance : Laid P := Laid.none P

abbrev impl_gcdsp : List Sp := [.v false (.int .i64), .v false (.int .i64)]
abbrev impl_gcdbs : List (Bs × Bool) := []
abbrev impl_gcdrs : List (Bool × List Rp) := [(false, [.v false (.int .i64)])]
noncomputable def impl_gcdkp : Keep := { loop := fun id => match id with | 1 => ([1, 0], []) | _ => ([], []), join := fun id => match id with | _ => none }
noncomputable def impl_gcdc : Code := bodyOf Go.Proofs.Try.f130
noncomputable def impl_gcdF (n : Nat) : Fun := { id := 130, sp := impl_gcdsp, bs := impl_gcdbs, rs := impl_gcdrs, f := fun x y => impl_gcd n x.1 x.2.1 }

theorem impl_gcd_l1_eq (n : Nat) : ∀ (k : Nat) (v1 : Int) (v0 : Int), iter (interp ([]) ty 15 0 n impl_gcdkp (codeAt impl_gcdc [1, 0, 0, 0])) (canon 0 (impl_gcdkp.loop 1)) (kAt ([]) ty 15 0 n impl_gcdkp impl_gcdc [1, 0, 0] [] (ending ty 0 Go.Proofs.Try.f130.results.toList impl_gcdrs impl_gcdbs)) k { env := [(1, .one (.sc (.int .i64 v1))), (0, .one (.sc (.int .i64 v0)))], bx := [], nx := 0 } = impl_gcd_l1 n k v1 v0
  | 0, _, _ => by kernel_rfl
  | k + 1, v1, v0 => by
    have h : iter (interp ([]) ty 15 0 n impl_gcdkp (codeAt impl_gcdc [1, 0, 0, 0])) (canon 0 (impl_gcdkp.loop 1)) (kAt ([]) ty 15 0 n impl_gcdkp impl_gcdc [1, 0, 0] [] (ending ty 0 Go.Proofs.Try.f130.results.toList impl_gcdrs impl_gcdbs)) (k + 1) { env := [(1, .one (.sc (.int .i64 v1))), (0, .one (.sc (.int .i64 v0)))], bx := [], nx := 0 } = impl_gcd_t1 n (fun v1 v0 => iter (interp ([]) ty 15 0 n impl_gcdkp (codeAt impl_gcdc [1, 0, 0, 0])) (canon 0 (impl_gcdkp.loop 1)) (kAt ([]) ty 15 0 n impl_gcdkp impl_gcdc [1, 0, 0] [] (ending ty 0 Go.Proofs.Try.f130.results.toList impl_gcdrs impl_gcdbs)) k { env := [(1, .one (.sc (.int .i64 v1))), (0, .one (.sc (.int .i64 v0)))], bx := [], nx := 0 }) v1 v0 := by kernel_rfl
    rw [h]
    have e := congrArg (fun g => impl_gcd_t1 n g v1 v0) (funext fun v1 => funext fun v0 => impl_gcd_l1_eq n k v1 v0)
    exact e

theorem impl_gcd_eq (n : Nat) (a0 : Int) (a1 : Int) : runBody ([]) ty 15 n impl_gcdkp impl_gcdc Go.Proofs.Try.f130.results.toList impl_gcdrs impl_gcdsp impl_gcdbs (a0, (a1, ())) () = impl_gcd n a0 a1 := by
  have h : runBody ([]) ty 15 n impl_gcdkp impl_gcdc Go.Proofs.Try.f130.results.toList impl_gcdrs impl_gcdsp impl_gcdbs (a0, (a1, ())) () = impl_gcd_t n (fun k v1 v0 => iter (interp ([]) ty 15 0 n impl_gcdkp (codeAt impl_gcdc [1, 0, 0, 0])) (canon 0 (impl_gcdkp.loop 1)) (kAt ([]) ty 15 0 n impl_gcdkp impl_gcdc [1, 0, 0] [] (ending ty 0 Go.Proofs.Try.f130.results.toList impl_gcdrs impl_gcdbs)) k { env := [(1, .one (.sc (.int .i64 v1))), (0, .one (.sc (.int .i64 v0)))], bx := [], nx := 0 }) a0 a1 := by kernel_rfl
  rw [h]
  have e := congrArg (fun h1 => impl_gcd_t n h1 a0 a1) (funext fun k => funext fun v1 => funext fun v0 => impl_gcd_l1_eq n k v1 v0)
  exact e

theorem impl_gcd_ok (n : Nat) : FunOk P (impl_gcdF n) :=
  funOk_mk (C := []) (N := 15) (kp := impl_gcdkp) (c := impl_gcdc) (n := n) (G := fun x y => impl_gcd n x.1 x.2.1) follows (AllOk.mem (trivial : AllOk P ([]))) (by kernel_rfl : P.funcs[130]? = some Go.Proofs.Try.f130) (by kernel_rfl) (by kernel_rfl) (by kernel_rfl)
    (fun x y => impl_gcd_eq n x.1 x.2.1) (fun _ _ => map_same (fun _ => rfl) _) (fun _ _ _ _ => rfl)

abbrev impl_withinsp : List Sp := [.v false (.int .i64), .v false (.int .i64), .v false (.int .i64)]
abbrev impl_withinbs : List (Bs × Bool) := []
abbrev impl_withinrs : List (Bool × List Rp) := [(false, [.v false .bool])]
noncomputable def impl_withinkp : Keep := { loop := fun id => match id with | _ => ([], []), join := fun id => match id with | _ => none }
noncomputable def impl_withinc : Code := bodyOf Go.Proofs.Try.f81
noncomputable def impl_withinF (n : Nat) : Fun := { id := 81, sp := impl_withinsp, bs := impl_withinbs, rs := impl_withinrs, f := fun x y => impl_within n x.1 x.2.1 x.2.2.1 }

theorem impl_within_eq (n : Nat) (a0 : Int) (a1 : Int) (a2 : Int) : runBody ([]) ty 15 n impl_withinkp impl_withinc Go.Proofs.Try.f81.results.toList impl_withinrs impl_withinsp impl_withinbs (a0, (a1, (a2, ()))) () = impl_within n a0 a1 a2 := by
  have h : runBody ([]) ty 15 n impl_withinkp impl_withinc Go.Proofs.Try.f81.results.toList impl_withinrs impl_withinsp impl_withinbs (a0, (a1, (a2, ()))) () = impl_within_t n a0 a1 a2 := by kernel_rfl
  rw [h]
  rfl

theorem impl_within_ok (n : Nat) : FunOk P (impl_withinF n) :=
  funOk_mk (C := []) (N := 15) (kp := impl_withinkp) (c := impl_withinc) (n := n) (G := fun x y => impl_within n x.1 x.2.1 x.2.2.1) follows (AllOk.mem (trivial : AllOk P ([]))) (by kernel_rfl : P.funcs[81]? = some Go.Proofs.Try.f81) (by kernel_rfl) (by kernel_rfl) (by kernel_rfl)
    (fun x y => impl_within_eq n x.1 x.2.1 x.2.2.1) (fun _ _ => map_same (fun _ => rfl) _) (fun _ _ _ _ => rfl)

abbrev impl_ValidFracsp : List Sp := [.v true (.pair (.int .i64) (.int .i64))]
abbrev impl_ValidFracbs : List (Bs × Bool) := []
abbrev impl_ValidFracrs : List (Bool × List Rp) := [(false, [.v false .bool])]
noncomputable def impl_ValidFrackp : Keep := { loop := fun id => match id with | _ => ([], []), join := fun id => match id with | _ => none }
noncomputable def impl_ValidFracc : Code := bodyOf Go.Proofs.Try.f86
noncomputable def impl_ValidFracF (n : Nat) : Fun := { id := 86, sp := impl_ValidFracsp, bs := impl_ValidFracbs, rs := impl_ValidFracrs, f := fun x y => impl_ValidFrac n x.1 }

theorem impl_ValidFrac_eq (n : Nat) (a0 : (Int) × (Int)) : runBody ([impl_withinF n, impl_gcdF n]) ty 19 n impl_ValidFrackp impl_ValidFracc Go.Proofs.Try.f86.results.toList impl_ValidFracrs impl_ValidFracsp impl_ValidFracbs (a0, ()) () = impl_ValidFrac n a0 := by
  have h : runBody ([impl_withinF n, impl_gcdF n]) ty 19 n impl_ValidFrackp impl_ValidFracc Go.Proofs.Try.f86.results.toList impl_ValidFracrs impl_ValidFracsp impl_ValidFracbs (a0, ()) () = impl_ValidFrac_t n a0 := by kernel_rfl
  rw [h]
  rfl

theorem impl_ValidFrac_ok (n : Nat) : FunOk P (impl_ValidFracF n) :=
  funOk_mk (C := [impl_withinF n, impl_gcdF n]) (N := 19) (kp := impl_ValidFrackp) (c := impl_ValidFracc) (n := n) (G := fun x y => impl_ValidFrac n x.1) follows (AllOk.mem (⟨impl_within_ok n, ⟨impl_gcd_ok n, trivial⟩⟩ : AllOk P ([impl_withinF n, impl_gcdF n]))) (by kernel_rfl : P.funcs[86]? = some Go.Proofs.Try.f86) (by kernel_rfl) (by kernel_rfl) (by kernel_rfl)
    (fun x y => impl_ValidFrac_eq n x.1) (fun _ _ => map_same (fun _ => rfl) _) (fun _ _ _ _ => rfl)

abbrev impl_areValid_1sp : List Sp := [.v true (.pair (.int .i64) (.int .i64))]
abbrev impl_areValid_1bs : List (Bs × Bool) := []
abbrev impl_areValid_1rs : List (Bool × List Rp) := [(false, [.v false .bool])]
noncomputable def impl_areValid_1kp : Keep := { loop := fun id => match id with | _ => ([], []), join := fun id => match id with | _ => none }
noncomputable def impl_areValid_1c : Code := bodyOf Go.Proofs.Try.f122
noncomputable def impl_areValid_1F (n : Nat) : Fun := { id := 122, sp := impl_areValid_1sp, bs := impl_areValid_1bs, rs := impl_areValid_1rs, f := fun x y => impl_areValid_1 n x.1 }

theorem impl_areValid_1_eq (n : Nat) (a0 : (Int) × (Int)) : runBody ([impl_ValidFracF n]) ty 6 n impl_areValid_1kp impl_areValid_1c Go.Proofs.Try.f122.results.toList impl_areValid_1rs impl_areValid_1sp impl_areValid_1bs (a0, ()) () = impl_areValid_1 n a0 := by
  have h : runBody ([impl_ValidFracF n]) ty 6 n impl_areValid_1kp impl_areValid_1c Go.Proofs.Try.f122.results.toList impl_areValid_1rs impl_areValid_1sp impl_areValid_1bs (a0, ()) () = impl_areValid_1_t n a0 := by kernel_rfl
  rw [h]
  rfl

theorem impl_areValid_1_ok (n : Nat) : FunOk P (impl_areValid_1F n) :=
  funOk_mk (C := [impl_ValidFracF n]) (N := 6) (kp := impl_areValid_1kp) (c := impl_areValid_1c) (n := n) (G := fun x y => impl_areValid_1 n x.1) follows (AllOk.mem (⟨impl_ValidFrac_ok n, trivial⟩ : AllOk P ([impl_ValidFracF n]))) (by kernel_rfl : P.funcs[122]? = some Go.Proofs.Try.f122) (by kernel_rfl) (by kernel_rfl) (by kernel_rfl)
    (fun x y => impl_areValid_1_eq n x.1) (fun _ _ => map_same (fun _ => rfl) _) (fun _ _ _ _ => rfl)

abbrev slices_IndexFunc_impl_Frac_impl_Frac_at_impl_areValid_1sp : List Sp := [.v false (.list (.pair (.int .i64) (.int .i64))), .cl 122 []]
abbrev slices_IndexFunc_impl_Frac_impl_Frac_at_impl_areValid_1bs : List (Bs × Bool) := []
abbrev slices_IndexFunc_impl_Frac_impl_Frac_at_impl_areValid_1rs : List (Bool × List Rp) := [(false, [.v false (.int .i64)])]
noncomputable def slices_IndexFunc_impl_Frac_impl_Frac_at_impl_areValid_1kp : Keep := { loop := fun id => match id with | 2 => ([8, 0, 1, 7], []) | _ => ([], []), join := fun id => match id with | _ => none }
noncomputable def slices_IndexFunc_impl_Frac_impl_Frac_at_impl_areValid_1c : Code := bodyOf Go.Proofs.Try.f136
noncomputable def slices_IndexFunc_impl_Frac_impl_Frac_at_impl_areValid_1F (n : Nat) : Fun := { id := 136, sp := slices_IndexFunc_impl_Frac_impl_Frac_at_impl_areValid_1sp, bs := slices_IndexFunc_impl_Frac_impl_Frac_at_impl_areValid_1bs, rs := slices_IndexFunc_impl_Frac_impl_Frac_at_impl_areValid_1rs, f := fun x y => slices_IndexFunc_impl_Frac_impl_Frac_at_impl_areValid_1 n x.1 }

theorem slices_IndexFunc_impl_Frac_impl_Frac_at_impl_areValid_1_l2_eq (n : Nat) : ∀ (k : Nat) (v8 : Int) (v0 : List ((Int) × (Int))) (v7 : Int), iter (interp ([impl_areValid_1F n]) ty 19 0 n slices_IndexFunc_impl_Frac_impl_Frac_at_impl_areValid_1kp (codeAt slices_IndexFunc_impl_Frac_impl_Frac_at_impl_areValid_1c [1, 0, 1, 0, 0])) (canon 0 (slices_IndexFunc_impl_Frac_impl_Frac_at_impl_areValid_1kp.loop 2)) (kAt ([impl_areValid_1F n]) ty 19 0 n slices_IndexFunc_impl_Frac_impl_Frac_at_impl_areValid_1kp slices_IndexFunc_impl_Frac_impl_Frac_at_impl_areValid_1c [1, 0, 1, 0] [] (ending ty 0 Go.Proofs.Try.f136.results.toList slices_IndexFunc_impl_Frac_impl_Frac_at_impl_areValid_1rs slices_IndexFunc_impl_Frac_impl_Frac_at_impl_areValid_1bs)) k { env := [(8, .one (.sc (.int .i64 v8))), (0, .one (.list true (.pair (.int .i64) (.int .i64)) v0)), (1, .one (.clos 122 [])), (7, .one (.sc (.int .i64 v7)))], bx := [], nx := 0 } = slices_IndexFunc_impl_Frac_impl_Frac_at_impl_areValid_1_l2 n k v8 v0 v7
  | 0, _, _, _ => by kernel_rfl
  | k + 1, v8, v0, v7 => by
    have h : iter (interp ([impl_areValid_1F n]) ty 19 0 n slices_IndexFunc_impl_Frac_impl_Frac_at_impl_areValid_1kp (codeAt slices_IndexFunc_impl_Frac_impl_Frac_at_impl_areValid_1c [1, 0, 1, 0, 0])) (canon 0 (slices_IndexFunc_impl_Frac_impl_Frac_at_impl_areValid_1kp.loop 2)) (kAt ([impl_areValid_1F n]) ty 19 0 n slices_IndexFunc_impl_Frac_impl_Frac_at_impl_areValid_1kp slices_IndexFunc_impl_Frac_impl_Frac_at_impl_areValid_1c [1, 0, 1, 0] [] (ending ty 0 Go.Proofs.Try.f136.results.toList slices_IndexFunc_impl_Frac_impl_Frac_at_impl_areValid_1rs slices_IndexFunc_impl_Frac_impl_Frac_at_impl_areValid_1bs)) (k + 1) { env := [(8, .one (.sc (.int .i64 v8))), (0, .one (.list true (.pair (.int .i64) (.int .i64)) v0)), (1, .one (.clos 122 [])), (7, .one (.sc (.int .i64 v7)))], bx := [], nx := 0 } = slices_IndexFunc_impl_Frac_impl_Frac_at_impl_areValid_1_t2 n (fun v8 v0 v7 => iter (interp ([impl_areValid_1F n]) ty 19 0 n slices_IndexFunc_impl_Frac_impl_Frac_at_impl_areValid_1kp (codeAt slices_IndexFunc_impl_Frac_impl_Frac_at_impl_areValid_1c [1, 0, 1, 0, 0])) (canon 0 (slices_IndexFunc_impl_Frac_impl_Frac_at_impl_areValid_1kp.loop 2)) (kAt ([impl_areValid_1F n]) ty 19 0 n slices_IndexFunc_impl_Frac_impl_Frac_at_impl_areValid_1kp slices_IndexFunc_impl_Frac_impl_Frac_at_impl_areValid_1c [1, 0, 1, 0] [] (ending ty 0 Go.Proofs.Try.f136.results.toList slices_IndexFunc_impl_Frac_impl_Frac_at_impl_areValid_1rs slices_IndexFunc_impl_Frac_impl_Frac_at_impl_areValid_1bs)) k { env := [(8, .one (.sc (.int .i64 v8))), (0, .one (.list true (.pair (.int .i64) (.int .i64)) v0)), (1, .one (.clos 122 [])), (7, .one (.sc (.int .i64 v7)))], bx := [], nx := 0 }) v8 v0 v7 := by kernel_rfl
    rw [h]
    have e := congrArg (fun g => slices_IndexFunc_impl_Frac_impl_Frac_at_impl_areValid_1_t2 n g v8 v0 v7) (funext fun v8 => funext fun v0 => funext fun v7 => slices_IndexFunc_impl_Frac_impl_Frac_at_impl_areValid_1_l2_eq n k v8 v0 v7)
    exact e

theorem slices_IndexFunc_impl_Frac_impl_Frac_at_impl_areValid_1_eq (n : Nat) (a0 : List ((Int) × (Int))) : runBody ([impl_areValid_1F n]) ty 19 n slices_IndexFunc_impl_Frac_impl_Frac_at_impl_areValid_1kp slices_IndexFunc_impl_Frac_impl_Frac_at_impl_areValid_1c Go.Proofs.Try.f136.results.toList slices_IndexFunc_impl_Frac_impl_Frac_at_impl_areValid_1rs slices_IndexFunc_impl_Frac_impl_Frac_at_impl_areValid_1sp slices_IndexFunc_impl_Frac_impl_Frac_at_impl_areValid_1bs (a0, ((), ())) () = slices_IndexFunc_impl_Frac_impl_Frac_at_impl_areValid_1 n a0 := by
  have h : runBody ([impl_areValid_1F n]) ty 19 n slices_IndexFunc_impl_Frac_impl_Frac_at_impl_areValid_1kp slices_IndexFunc_impl_Frac_impl_Frac_at_impl_areValid_1c Go.Proofs.Try.f136.results.toList slices_IndexFunc_impl_Frac_impl_Frac_at_impl_areValid_1rs slices_IndexFunc_impl_Frac_impl_Frac_at_impl_areValid_1sp slices_IndexFunc_impl_Frac_impl_Frac_at_impl_areValid_1bs (a0, ((), ())) () = slices_IndexFunc_impl_Frac_impl_Frac_at_impl_areValid_1_t n (fun k v8 v0 v7 => iter (interp ([impl_areValid_1F n]) ty 19 0 n slices_IndexFunc_impl_Frac_impl_Frac_at_impl_areValid_1kp (codeAt slices_IndexFunc_impl_Frac_impl_Frac_at_impl_areValid_1c [1, 0, 1, 0, 0])) (canon 0 (slices_IndexFunc_impl_Frac_impl_Frac_at_impl_areValid_1kp.loop 2)) (kAt ([impl_areValid_1F n]) ty 19 0 n slices_IndexFunc_impl_Frac_impl_Frac_at_impl_areValid_1kp slices_IndexFunc_impl_Frac_impl_Frac_at_impl_areValid_1c [1, 0, 1, 0] [] (ending ty 0 Go.Proofs.Try.f136.results.toList slices_IndexFunc_impl_Frac_impl_Frac_at_impl_areValid_1rs slices_IndexFunc_impl_Frac_impl_Frac_at_impl_areValid_1bs)) k { env := [(8, .one (.sc (.int .i64 v8))), (0, .one (.list true (.pair (.int .i64) (.int .i64)) v0)), (1, .one (.clos 122 [])), (7, .one (.sc (.int .i64 v7)))], bx := [], nx := 0 }) a0 := by kernel_rfl
  rw [h]
  have e := congrArg (fun h2 => slices_IndexFunc_impl_Frac_impl_Frac_at_impl_areValid_1_t n h2 a0) (funext fun k => funext fun v8 => funext fun v0 => funext fun v7 => slices_IndexFunc_impl_Frac_impl_Frac_at_impl_areValid_1_l2_eq n k v8 v0 v7)
  exact e

theorem slices_IndexFunc_impl_Frac_impl_Frac_at_impl_areValid_1_ok (n : Nat) : FunOk P (slices_IndexFunc_impl_Frac_impl_Frac_at_impl_areValid_1F n) :=
  funOk_mk (C := [impl_areValid_1F n]) (N := 19) (kp := slices_IndexFunc_impl_Frac_impl_Frac_at_impl_areValid_1kp) (c := slices_IndexFunc_impl_Frac_impl_Frac_at_impl_areValid_1c) (n := n) (G := fun x y => slices_IndexFunc_impl_Frac_impl_Frac_at_impl_areValid_1 n x.1) follows (AllOk.mem (⟨impl_areValid_1_ok n, trivial⟩ : AllOk P ([impl_areValid_1F n]))) (by kernel_rfl : P.funcs[136]? = some Go.Proofs.Try.f136) (by kernel_rfl) (by kernel_rfl) (by kernel_rfl)
    (fun x y => slices_IndexFunc_impl_Frac_impl_Frac_at_impl_areValid_1_eq n x.1) (fun _ _ => map_same (fun _ => rfl) _) (fun _ _ _ _ => rfl)

abbrev slices_ContainsFunc_impl_Frac_impl_Frac_at_impl_areValid_1sp : List Sp := [.v false (.list (.pair (.int .i64) (.int .i64))), .cl 122 []]
abbrev slices_ContainsFunc_impl_Frac_impl_Frac_at_impl_areValid_1bs : List (Bs × Bool) := []
abbrev slices_ContainsFunc_impl_Frac_impl_Frac_at_impl_areValid_1rs : List (Bool × List Rp) := [(false, [.v false .bool])]
noncomputable def slices_ContainsFunc_impl_Frac_impl_Frac_at_impl_areValid_1kp : Keep := { loop := fun id => match id with | _ => ([], []), join := fun id => match id with | _ => none }
noncomputable def slices_ContainsFunc_impl_Frac_impl_Frac_at_impl_areValid_1c : Code := bodyOf Go.Proofs.Try.f121
noncomputable def slices_ContainsFunc_impl_Frac_impl_Frac_at_impl_areValid_1F (n : Nat) : Fun := { id := 121, sp := slices_ContainsFunc_impl_Frac_impl_Frac_at_impl_areValid_1sp, bs := slices_ContainsFunc_impl_Frac_impl_Frac_at_impl_areValid_1bs, rs := slices_ContainsFunc_impl_Frac_impl_Frac_at_impl_areValid_1rs, f := fun x y => slices_ContainsFunc_impl_Frac_impl_Frac_at_impl_areValid_1 n x.1 }

theorem slices_ContainsFunc_impl_Frac_impl_Frac_at_impl_areValid_1_eq (n : Nat) (a0 : List ((Int) × (Int))) : runBody ([slices_IndexFunc_impl_Frac_impl_Frac_at_impl_areValid_1F n]) ty 9 n slices_ContainsFunc_impl_Frac_impl_Frac_at_impl_areValid_1kp slices_ContainsFunc_impl_Frac_impl_Frac_at_impl_areValid_1c Go.Proofs.Try.f121.results.toList slices_ContainsFunc_impl_Frac_impl_Frac_at_impl_areValid_1rs slices_ContainsFunc_impl_Frac_impl_Frac_at_impl_areValid_1sp slices_ContainsFunc_impl_Frac_impl_Frac_at_impl_areValid_1bs (a0, ((), ())) () = slices_ContainsFunc_impl_Frac_impl_Frac_at_impl_areValid_1 n a0 := by
  have h : runBody ([slices_IndexFunc_impl_Frac_impl_Frac_at_impl_areValid_1F n]) ty 9 n slices_ContainsFunc_impl_Frac_impl_Frac_at_impl_areValid_1kp slices_ContainsFunc_impl_Frac_impl_Frac_at_impl_areValid_1c Go.Proofs.Try.f121.results.toList slices_ContainsFunc_impl_Frac_impl_Frac_at_impl_areValid_1rs slices_ContainsFunc_impl_Frac_impl_Frac_at_impl_areValid_1sp slices_ContainsFunc_impl_Frac_impl_Frac_at_impl_areValid_1bs (a0, ((), ())) () = slices_ContainsFunc_impl_Frac_impl_Frac_at_impl_areValid_1_t n a0 := by kernel_rfl
  rw [h]
  rfl

theorem slices_ContainsFunc_impl_Frac_impl_Frac_at_impl_areValid_1_ok (n : Nat) : FunOk P (slices_ContainsFunc_impl_Frac_impl_Frac_at_impl_areValid_1F n) :=
  funOk_mk (C := [slices_IndexFunc_impl_Frac_impl_Frac_at_impl_areValid_1F n]) (N := 9) (kp := slices_ContainsFunc_impl_Frac_impl_Frac_at_impl_areValid_1kp) (c := slices_ContainsFunc_impl_Frac_impl_Frac_at_impl_areValid_1c) (n := n) (G := fun x y => slices_ContainsFunc_impl_Frac_impl_Frac_at_impl_areValid_1 n x.1) follows (AllOk.mem (⟨slices_IndexFunc_impl_Frac_impl_Frac_at_impl_areValid_1_ok n, trivial⟩ : AllOk P ([slices_IndexFunc_impl_Frac_impl_Frac_at_impl_areValid_1F n]))) (by kernel_rfl : P.funcs[121]? = some Go.Proofs.Try.f121) (by kernel_rfl) (by kernel_rfl) (by kernel_rfl)
    (fun x y => slices_ContainsFunc_impl_Frac_impl_Frac_at_impl_areValid_1_eq n x.1) (fun _ _ => map_same (fun _ => rfl) _) (fun _ _ _ _ => rfl)

abbrev impl_areValidsp : List Sp := [.v false (.list (.pair (.int .i64) (.int .i64)))]
abbrev impl_areValidbs : List (Bs × Bool) := []
abbrev impl_areValidrs : List (Bool × List Rp) := [(false, [.v false .bool])]
noncomputable def impl_areValidkp : Keep := { loop := fun id => match id with | _ => ([], []), join := fun id => match id with | _ => none }
noncomputable def impl_areValidc : Code := bodyOf Go.Proofs.Try.f61
noncomputable def impl_areValidF (n : Nat) : Fun := { id := 61, sp := impl_areValidsp, bs := impl_areValidbs, rs := impl_areValidrs, f := fun x y => impl_areValid n x.1 }

theorem impl_areValid_eq (n : Nat) (a0 : List ((Int) × (Int))) : runBody ([slices_ContainsFunc_impl_Frac_impl_Frac_at_impl_areValid_1F n]) ty 6 n impl_areValidkp impl_areValidc Go.Proofs.Try.f61.results.toList impl_areValidrs impl_areValidsp impl_areValidbs (a0, ()) () = impl_areValid n a0 := by
  have h : runBody ([slices_ContainsFunc_impl_Frac_impl_Frac_at_impl_areValid_1F n]) ty 6 n impl_areValidkp impl_areValidc Go.Proofs.Try.f61.results.toList impl_areValidrs impl_areValidsp impl_areValidbs (a0, ()) () = impl_areValid_t n a0 := by kernel_rfl
  rw [h]
  rfl

theorem impl_areValid_ok (n : Nat) : FunOk P (impl_areValidF n) :=
  funOk_mk (C := [slices_ContainsFunc_impl_Frac_impl_Frac_at_impl_areValid_1F n]) (N := 6) (kp := impl_areValidkp) (c := impl_areValidc) (n := n) (G := fun x y => impl_areValid n x.1) follows (AllOk.mem (⟨slices_ContainsFunc_impl_Frac_impl_Frac_at_impl_areValid_1_ok n, trivial⟩ : AllOk P ([slices_ContainsFunc_impl_Frac_impl_Frac_at_impl_areValid_1F n]))) (by kernel_rfl : P.funcs[61]? = some Go.Proofs.Try.f61) (by kernel_rfl) (by kernel_rfl) (by kernel_rfl)
    (fun x y => impl_areValid_eq n x.1) (fun _ _ => map_same (fun _ => rfl) _) (fun _ _ _ _ => rfl)

abbrev impl_fracOfsp : List Sp := [.v false (.int .i64), .v false (.int .i64)]
abbrev impl_fracOfbs : List (Bs × Bool) := []
abbrev impl_fracOfrs : List (Bool × List Rp) := [(true, [.v false (.pair (.int .i64) (.int .i64))]), (false, [.v false .bool])]
noncomputable def impl_fracOfkp : Keep := { loop := fun id => match id with | _ => ([], []), join := fun id => match id with | _ => none }
noncomputable def impl_fracOfc : Code := bodyOf Go.Proofs.Try.f137
noncomputable def impl_fracOfF (n : Nat) : Fun := { id := 137, sp := impl_fracOfsp, bs := impl_fracOfbs, rs := impl_fracOfrs, f := fun x y => impl_fracOf n x.1 x.2.1 }

theorem impl_fracOf_eq (n : Nat) (a0 : Int) (a1 : Int) : runBody ([impl_gcdF n, impl_ValidFracF n]) ty 29 n impl_fracOfkp impl_fracOfc Go.Proofs.Try.f137.results.toList impl_fracOfrs impl_fracOfsp impl_fracOfbs (a0, (a1, ())) () = impl_fracOf n a0 a1 := by
  have h : runBody ([impl_gcdF n, impl_ValidFracF n]) ty 29 n impl_fracOfkp impl_fracOfc Go.Proofs.Try.f137.results.toList impl_fracOfrs impl_fracOfsp impl_fracOfbs (a0, (a1, ())) () = impl_fracOf_t n a0 a1 := by kernel_rfl
  rw [h]
  rfl

theorem impl_fracOf_ok (n : Nat) : FunOk P (impl_fracOfF n) :=
  funOk_mk (C := [impl_gcdF n, impl_ValidFracF n]) (N := 29) (kp := impl_fracOfkp) (c := impl_fracOfc) (n := n) (G := fun x y => impl_fracOf n x.1 x.2.1) follows (AllOk.mem (⟨impl_gcd_ok n, ⟨impl_ValidFrac_ok n, trivial⟩⟩ : AllOk P ([impl_gcdF n, impl_ValidFracF n]))) (by kernel_rfl : P.funcs[137]? = some Go.Proofs.Try.f137) (by kernel_rfl) (by kernel_rfl) (by kernel_rfl)
    (fun x y => impl_fracOf_eq n x.1 x.2.1) (fun _ _ => map_same (fun _ => rfl) _) (fun _ _ _ _ => rfl)

abbrev impl_zerosp : List Sp := []
abbrev impl_zerobs : List (Bs × Bool) := []
abbrev impl_zerors : List (Bool × List Rp) := [(true, [.v false (.pair (.int .i64) (.int .i64))])]
noncomputable def impl_zerokp : Keep := { loop := fun id => match id with | _ => ([], []), join := fun id => match id with | _ => none }
noncomputable def impl_zeroc : Code := bodyOf Go.Proofs.Try.f116
noncomputable def impl_zeroF (n : Nat) : Fun := { id := 116, sp := impl_zerosp, bs := impl_zerobs, rs := impl_zerors, f := fun x y => impl_zero n }

theorem impl_zero_eq (n : Nat) : runBody ([]) ty 2 n impl_zerokp impl_zeroc Go.Proofs.Try.f116.results.toList impl_zerors impl_zerosp impl_zerobs () () = impl_zero n := by
  have h : runBody ([]) ty 2 n impl_zerokp impl_zeroc Go.Proofs.Try.f116.results.toList impl_zerors impl_zerosp impl_zerobs () () = impl_zero_t n := by kernel_rfl
  rw [h]
  rfl

theorem impl_zero_ok (n : Nat) : FunOk P (impl_zeroF n) :=
  funOk_mk (C := []) (N := 2) (kp := impl_zerokp) (c := impl_zeroc) (n := n) (G := fun x y => impl_zero n) follows (AllOk.mem (trivial : AllOk P ([]))) (by kernel_rfl : P.funcs[116]? = some Go.Proofs.Try.f116) (by kernel_rfl) (by kernel_rfl) (by kernel_rfl)
    (fun x y => impl_zero_eq n) (fun _ _ => map_same (fun _ => rfl) _) (fun _ _ _ _ => rfl)

abbrev impl_calc_toldsp : List Sp := [.ref 0, .v false (.int .i64), .v false (.int .i64)]
abbrev impl_calc_toldbs : List (Bs × Bool) := [(.var 89 .bool, true)]
abbrev impl_calc_toldrs : List (Bool × List Rp) := [(true, [.v false (.pair (.int .i64) (.int .i64))])]
noncomputable def impl_calc_toldkp : Keep := { loop := fun id => match id with | _ => ([], []), join := fun id => match id with | _ => none }
noncomputable def impl_calc_toldc : Code := bodyOf Go.Proofs.Try.f124
noncomputable def impl_calc_toldF (n : Nat) : Fun := { id := 124, sp := impl_calc_toldsp, bs := impl_calc_toldbs, rs := impl_calc_toldrs, f := fun x y => impl_calc_told n x.2.1 x.2.2.1 y.1 }

theorem impl_calc_told_eq (n : Nat) (a1 : Int) (a2 : Int) (b0 : Bool) : runBody ([impl_fracOfF n, impl_zeroF n]) ty 22 n impl_calc_toldkp impl_calc_toldc Go.Proofs.Try.f124.results.toList impl_calc_toldrs impl_calc_toldsp impl_calc_toldbs ((), (a1, (a2, ()))) (b0, ()) = impl_calc_told n a1 a2 b0 := by
  have h : runBody ([impl_fracOfF n, impl_zeroF n]) ty 22 n impl_calc_toldkp impl_calc_toldc Go.Proofs.Try.f124.results.toList impl_calc_toldrs impl_calc_toldsp impl_calc_toldbs ((), (a1, (a2, ()))) (b0, ()) = impl_calc_told_t n a1 a2 b0 := by kernel_rfl
  rw [h]
  rfl

theorem impl_calc_told_ok (n : Nat) : FunOk P (impl_calc_toldF n) :=
  funOk_mk (C := [impl_fracOfF n, impl_zeroF n]) (N := 22) (kp := impl_calc_toldkp) (c := impl_calc_toldc) (n := n) (G := fun x y => impl_calc_told n x.2.1 x.2.2.1 y.1) follows (AllOk.mem (⟨impl_fracOf_ok n, ⟨impl_zero_ok n, trivial⟩⟩ : AllOk P ([impl_fracOfF n, impl_zeroF n]))) (by kernel_rfl : P.funcs[124]? = some Go.Proofs.Try.f124) (by kernel_rfl) (by kernel_rfl) (by kernel_rfl)
    (fun x y => impl_calc_told_eq n x.2.1 x.2.2.1 y.1) (fun _ _ => map_same (fun _ => rfl) _) (fun _ _ _ _ => rfl)

abbrev impl_calc_divsp : List Sp := [.ref 0, .v true (.pair (.int .i64) (.int .i64)), .v true (.pair (.int .i64) (.int .i64))]
abbrev impl_calc_divbs : List (Bs × Bool) := [(.var 89 .bool, true)]
abbrev impl_calc_divrs : List (Bool × List Rp) := [(true, [.v false (.pair (.int .i64) (.int .i64))])]
noncomputable def impl_calc_divkp : Keep := { loop := fun id => match id with | _ => ([], []), join := fun id => match id with | _ => none }
noncomputable def impl_calc_divc : Code := bodyOf Go.Proofs.Try.f66
noncomputable def impl_calc_divF (n : Nat) : Fun := { id := 66, sp := impl_calc_divsp, bs := impl_calc_divbs, rs := impl_calc_divrs, f := fun x y => impl_calc_div n x.2.1 x.2.2.1 y.1 }

theorem impl_calc_div_eq (n : Nat) (a1 : (Int) × (Int)) (a2 : (Int) × (Int)) (b0 : Bool) : runBody ([impl_zeroF n, impl_calc_toldF n]) ty 26 n impl_calc_divkp impl_calc_divc Go.Proofs.Try.f66.results.toList impl_calc_divrs impl_calc_divsp impl_calc_divbs ((), (a1, (a2, ()))) (b0, ()) = impl_calc_div n a1 a2 b0 := by
  have h : runBody ([impl_zeroF n, impl_calc_toldF n]) ty 26 n impl_calc_divkp impl_calc_divc Go.Proofs.Try.f66.results.toList impl_calc_divrs impl_calc_divsp impl_calc_divbs ((), (a1, (a2, ()))) (b0, ()) = impl_calc_div_t n a1 a2 b0 := by kernel_rfl
  rw [h]
  rfl

theorem impl_calc_div_ok (n : Nat) : FunOk P (impl_calc_divF n) :=
  funOk_mk (C := [impl_zeroF n, impl_calc_toldF n]) (N := 26) (kp := impl_calc_divkp) (c := impl_calc_divc) (n := n) (G := fun x y => impl_calc_div n x.2.1 x.2.2.1 y.1) follows (AllOk.mem (⟨impl_zero_ok n, ⟨impl_calc_told_ok n, trivial⟩⟩ : AllOk P ([impl_zeroF n, impl_calc_toldF n]))) (by kernel_rfl : P.funcs[66]? = some Go.Proofs.Try.f66) (by kernel_rfl) (by kernel_rfl) (by kernel_rfl)
    (fun x y => impl_calc_div_eq n x.2.1 x.2.2.1 y.1) (fun _ _ => map_same (fun _ => rfl) _) (fun _ _ _ _ => rfl)

abbrev impl_calc_mulsp : List Sp := [.ref 0, .v true (.pair (.int .i64) (.int .i64)), .v true (.pair (.int .i64) (.int .i64))]
abbrev impl_calc_mulbs : List (Bs × Bool) := [(.var 89 .bool, true)]
abbrev impl_calc_mulrs : List (Bool × List Rp) := [(true, [.v false (.pair (.int .i64) (.int .i64))])]
noncomputable def impl_calc_mulkp : Keep := { loop := fun id => match id with | _ => ([], []), join := fun id => match id with | _ => none }
noncomputable def impl_calc_mulc : Code := bodyOf Go.Proofs.Try.f118
noncomputable def impl_calc_mulF (n : Nat) : Fun := { id := 118, sp := impl_calc_mulsp, bs := impl_calc_mulbs, rs := impl_calc_mulrs, f := fun x y => impl_calc_mul n x.2.1 x.2.2.1 y.1 }

theorem impl_calc_mul_eq (n : Nat) (a1 : (Int) × (Int)) (a2 : (Int) × (Int)) (b0 : Bool) : runBody ([impl_calc_toldF n]) ty 19 n impl_calc_mulkp impl_calc_mulc Go.Proofs.Try.f118.results.toList impl_calc_mulrs impl_calc_mulsp impl_calc_mulbs ((), (a1, (a2, ()))) (b0, ()) = impl_calc_mul n a1 a2 b0 := by
  have h : runBody ([impl_calc_toldF n]) ty 19 n impl_calc_mulkp impl_calc_mulc Go.Proofs.Try.f118.results.toList impl_calc_mulrs impl_calc_mulsp impl_calc_mulbs ((), (a1, (a2, ()))) (b0, ()) = impl_calc_mul_t n a1 a2 b0 := by kernel_rfl
  rw [h]
  rfl

theorem impl_calc_mul_ok (n : Nat) : FunOk P (impl_calc_mulF n) :=
  funOk_mk (C := [impl_calc_toldF n]) (N := 19) (kp := impl_calc_mulkp) (c := impl_calc_mulc) (n := n) (G := fun x y => impl_calc_mul n x.2.1 x.2.2.1 y.1) follows (AllOk.mem (⟨impl_calc_told_ok n, trivial⟩ : AllOk P ([impl_calc_toldF n]))) (by kernel_rfl : P.funcs[118]? = some Go.Proofs.Try.f118) (by kernel_rfl) (by kernel_rfl) (by kernel_rfl)
    (fun x y => impl_calc_mul_eq n x.2.1 x.2.2.1 y.1) (fun _ _ => map_same (fun _ => rfl) _) (fun _ _ _ _ => rfl)

abbrev impl_calc_subsp : List Sp := [.ref 0, .v true (.pair (.int .i64) (.int .i64)), .v true (.pair (.int .i64) (.int .i64))]
abbrev impl_calc_subbs : List (Bs × Bool) := [(.var 89 .bool, true)]
abbrev impl_calc_subrs : List (Bool × List Rp) := [(true, [.v false (.pair (.int .i64) (.int .i64))])]
noncomputable def impl_calc_subkp : Keep := { loop := fun id => match id with | _ => ([], []), join := fun id => match id with | _ => none }
noncomputable def impl_calc_subc : Code := bodyOf Go.Proofs.Try.f88
noncomputable def impl_calc_subF (n : Nat) : Fun := { id := 88, sp := impl_calc_subsp, bs := impl_calc_subbs, rs := impl_calc_subrs, f := fun x y => impl_calc_sub n x.2.1 x.2.2.1 y.1 }

theorem impl_calc_sub_eq (n : Nat) (a1 : (Int) × (Int)) (a2 : (Int) × (Int)) (b0 : Bool) : runBody ([impl_calc_toldF n]) ty 25 n impl_calc_subkp impl_calc_subc Go.Proofs.Try.f88.results.toList impl_calc_subrs impl_calc_subsp impl_calc_subbs ((), (a1, (a2, ()))) (b0, ()) = impl_calc_sub n a1 a2 b0 := by
  have h : runBody ([impl_calc_toldF n]) ty 25 n impl_calc_subkp impl_calc_subc Go.Proofs.Try.f88.results.toList impl_calc_subrs impl_calc_subsp impl_calc_subbs ((), (a1, (a2, ()))) (b0, ()) = impl_calc_sub_t n a1 a2 b0 := by kernel_rfl
  rw [h]
  rfl

theorem impl_calc_sub_ok (n : Nat) : FunOk P (impl_calc_subF n) :=
  funOk_mk (C := [impl_calc_toldF n]) (N := 25) (kp := impl_calc_subkp) (c := impl_calc_subc) (n := n) (G := fun x y => impl_calc_sub n x.2.1 x.2.2.1 y.1) follows (AllOk.mem (⟨impl_calc_told_ok n, trivial⟩ : AllOk P ([impl_calc_toldF n]))) (by kernel_rfl : P.funcs[88]? = some Go.Proofs.Try.f88) (by kernel_rfl) (by kernel_rfl) (by kernel_rfl)
    (fun x y => impl_calc_sub_eq n x.2.1 x.2.2.1 y.1) (fun _ _ => map_same (fun _ => rfl) _) (fun _ _ _ _ => rfl)

abbrev impl_calc_eliminatesp : List Sp := [.ref 0, .sl 1, .sl 2, .v false (.int .i64), .v false (.int .i64)]
abbrev impl_calc_eliminatebs : List (Bs × Bool) := [(.var 89 .bool, true), (.pool  (.pair (.int .i64) (.int .i64)), true), (.row  (.pair (.int .i64) (.int .i64)), true)]
abbrev impl_calc_eliminaters : List (Bool × List Rp) := [(false, [.v false .bool])]
noncomputable def impl_calc_eliminatekp : Keep := { loop := fun id => match id with | 2 => ([11, 4, 1, 0, 2, 3], []) | 9 => ([67, 4, 1, 0, 2, 3, 66], []) | 14 => ([14, 4, 1, 13, 0, 12, 2, 3, 66, 67], []) | _ => ([], []), join := fun id => match id with | _ => none }
noncomputable def impl_calc_eliminatec : Code := bodyOf Go.Proofs.Try.f65
noncomputable def impl_calc_eliminateF (n : Nat) : Fun := { id := 65, sp := impl_calc_eliminatesp, bs := impl_calc_eliminatebs, rs := impl_calc_eliminaters, f := fun x y => impl_calc_eliminate n x.2.2.2.1 x.2.2.2.2.1 y.1 y.2.1 y.2.2.1 }

theorem impl_calc_eliminate_l14_eq (n : Nat) (G9 : St → Option ((((Bool) × (Unit)) × (Unit)) × ((Bool) × (((List Nat) × (List (List ((Int) × (Int))))) × ((List ((Int) × (Int))) × (Unit)))))) : ∀ (k : Nat) (v14 : Int) (v4 : Int) (v12 : Int) (v3 : Int) (v66 : Int) (v67 : Int) (b0 : Bool) (b1p : List Nat) (b1i : List (List ((Int) × (Int)))) (b2 : List ((Int) × (Int))) (b3_0 : Int) (b3_1 : Int), iter (interp ([impl_calc_divF n, impl_calc_mulF n, impl_calc_subF n]) typ 158 3 n impl_calc_eliminatekp (codeAt impl_calc_eliminatec [1, 1, 1, 1, 1, 1, 0, 1, 0, 0, 1, 1, 0, 0, 1, 1, 1, 0, 1, 0, 0])) (canon 3 (impl_calc_eliminatekp.loop 14)) (kAt ([impl_calc_divF n, impl_calc_mulF n, impl_calc_subF n]) typ 158 3 n impl_calc_eliminatekp impl_calc_eliminatec [1, 1, 1, 1, 1, 1, 0, 1, 0, 0, 1, 1, 0, 0, 1, 1, 1, 0, 1, 0] [G9] (ending typ 3 Go.Proofs.Try.f65.results.toList impl_calc_eliminaters impl_calc_eliminatebs)) k { env := [(14, .one (.sc (.int .i64 v14))), (4, .one (.sc (.int .i64 v4))), (1, .one (.slice 1 0 none)), (13, .one (.ref 3 0 0 0 0 0)), (0, .one (.ref 0 0 0 0 0 0)), (12, .one (.sc (.int .i64 v12))), (2, .one (.slice 2 0 none)), (3, .one (.sc (.int .i64 v3))), (66, .one (.sc (.int .i64 v66))), (67, .one (.sc (.int .i64 v67)))], bx := [(0, .var 89 [.sc (.bool b0)]), (1, .pool 0 (.pair (.int .i64) (.int .i64)) b1p b1i), (2, .row 0 (.pair (.int .i64) (.int .i64)) b2), (3, .var 26 [.sc (.int .i64 b3_0), .sc (.int .i64 b3_1)])], nx := 4 } = impl_calc_eliminate_l14 n (fun v67 v4 v3 v66 b0 b1p b1i b2 => G9 { env := [(67, .one (.sc (.int .i64 v67))), (4, .one (.sc (.int .i64 v4))), (1, .one (.slice 1 0 none)), (0, .one (.ref 0 0 0 0 0 0)), (2, .one (.slice 2 0 none)), (3, .one (.sc (.int .i64 v3))), (66, .one (.sc (.int .i64 v66)))], bx := [(0, .var 89 [.sc (.bool b0)]), (1, .pool 0 (.pair (.int .i64) (.int .i64)) b1p b1i), (2, .row 0 (.pair (.int .i64) (.int .i64)) b2)], nx := 3 }) k v14 v4 v12 v3 v66 v67 b0 b1p b1i b2 b3_0 b3_1
  | 0, _, _, _, _, _, _, _, _, _, _, _, _ => by kernel_rfl
  | k + 1, v14, v4, v12, v3, v66, v67, b0, b1p, b1i, b2, b3_0, b3_1 => by
    have h : iter (interp ([impl_calc_divF n, impl_calc_mulF n, impl_calc_subF n]) typ 158 3 n impl_calc_eliminatekp (codeAt impl_calc_eliminatec [1, 1, 1, 1, 1, 1, 0, 1, 0, 0, 1, 1, 0, 0, 1, 1, 1, 0, 1, 0, 0])) (canon 3 (impl_calc_eliminatekp.loop 14)) (kAt ([impl_calc_divF n, impl_calc_mulF n, impl_calc_subF n]) typ 158 3 n impl_calc_eliminatekp impl_calc_eliminatec [1, 1, 1, 1, 1, 1, 0, 1, 0, 0, 1, 1, 0, 0, 1, 1, 1, 0, 1, 0] [G9] (ending typ 3 Go.Proofs.Try.f65.results.toList impl_calc_eliminaters impl_calc_eliminatebs)) (k + 1) { env := [(14, .one (.sc (.int .i64 v14))), (4, .one (.sc (.int .i64 v4))), (1, .one (.slice 1 0 none)), (13, .one (.ref 3 0 0 0 0 0)), (0, .one (.ref 0 0 0 0 0 0)), (12, .one (.sc (.int .i64 v12))), (2, .one (.slice 2 0 none)), (3, .one (.sc (.int .i64 v3))), (66, .one (.sc (.int .i64 v66))), (67, .one (.sc (.int .i64 v67)))], bx := [(0, .var 89 [.sc (.bool b0)]), (1, .pool 0 (.pair (.int .i64) (.int .i64)) b1p b1i), (2, .row 0 (.pair (.int .i64) (.int .i64)) b2), (3, .var 26 [.sc (.int .i64 b3_0), .sc (.int .i64 b3_1)])], nx := 4 } = impl_calc_eliminate_t14 n (fun v67 v4 v3 v66 b0 b1p b1i b2 => G9 { env := [(67, .one (.sc (.int .i64 v67))), (4, .one (.sc (.int .i64 v4))), (1, .one (.slice 1 0 none)), (0, .one (.ref 0 0 0 0 0 0)), (2, .one (.slice 2 0 none)), (3, .one (.sc (.int .i64 v3))), (66, .one (.sc (.int .i64 v66)))], bx := [(0, .var 89 [.sc (.bool b0)]), (1, .pool 0 (.pair (.int .i64) (.int .i64)) b1p b1i), (2, .row 0 (.pair (.int .i64) (.int .i64)) b2)], nx := 3 }) (fun v14 v4 v12 v3 v66 v67 b0 b1p b1i b2 b3_0 b3_1 => iter (interp ([impl_calc_divF n, impl_calc_mulF n, impl_calc_subF n]) typ 158 3 n impl_calc_eliminatekp (codeAt impl_calc_eliminatec [1, 1, 1, 1, 1, 1, 0, 1, 0, 0, 1, 1, 0, 0, 1, 1, 1, 0, 1, 0, 0])) (canon 3 (impl_calc_eliminatekp.loop 14)) (kAt ([impl_calc_divF n, impl_calc_mulF n, impl_calc_subF n]) typ 158 3 n impl_calc_eliminatekp impl_calc_eliminatec [1, 1, 1, 1, 1, 1, 0, 1, 0, 0, 1, 1, 0, 0, 1, 1, 1, 0, 1, 0] [G9] (ending typ 3 Go.Proofs.Try.f65.results.toList impl_calc_eliminaters impl_calc_eliminatebs)) k { env := [(14, .one (.sc (.int .i64 v14))), (4, .one (.sc (.int .i64 v4))), (1, .one (.slice 1 0 none)), (13, .one (.ref 3 0 0 0 0 0)), (0, .one (.ref 0 0 0 0 0 0)), (12, .one (.sc (.int .i64 v12))), (2, .one (.slice 2 0 none)), (3, .one (.sc (.int .i64 v3))), (66, .one (.sc (.int .i64 v66))), (67, .one (.sc (.int .i64 v67)))], bx := [(0, .var 89 [.sc (.bool b0)]), (1, .pool 0 (.pair (.int .i64) (.int .i64)) b1p b1i), (2, .row 0 (.pair (.int .i64) (.int .i64)) b2), (3, .var 26 [.sc (.int .i64 b3_0), .sc (.int .i64 b3_1)])], nx := 4 }) v14 v4 v12 v3 v66 v67 b0 b1p b1i b2 b3_0 b3_1 := by kernel_rfl
    rw [h]
    have e := congrArg (fun g => impl_calc_eliminate_t14 n (fun v67 v4 v3 v66 b0 b1p b1i b2 => G9 { env := [(67, .one (.sc (.int .i64 v67))), (4, .one (.sc (.int .i64 v4))), (1, .one (.slice 1 0 none)), (0, .one (.ref 0 0 0 0 0 0)), (2, .one (.slice 2 0 none)), (3, .one (.sc (.int .i64 v3))), (66, .one (.sc (.int .i64 v66)))], bx := [(0, .var 89 [.sc (.bool b0)]), (1, .pool 0 (.pair (.int .i64) (.int .i64)) b1p b1i), (2, .row 0 (.pair (.int .i64) (.int .i64)) b2)], nx := 3 }) g v14 v4 v12 v3 v66 v67 b0 b1p b1i b2 b3_0 b3_1) (funext fun v14 => funext fun v4 => funext fun v12 => funext fun v3 => funext fun v66 => funext fun v67 => funext fun b0 => funext fun b1p => funext fun b1i => funext fun b2 => funext fun b3_0 => funext fun b3_1 => impl_calc_eliminate_l14_eq n G9 k v14 v4 v12 v3 v66 v67 b0 b1p b1i b2 b3_0 b3_1)
    exact e

theorem impl_calc_eliminate_l9_eq (n : Nat) : ∀ (k : Nat) (v67 : Int) (v4 : Int) (v3 : Int) (v66 : Int) (b0 : Bool) (b1p : List Nat) (b1i : List (List ((Int) × (Int)))) (b2 : List ((Int) × (Int))), iter (interp ([impl_calc_divF n, impl_calc_mulF n, impl_calc_subF n]) typ 158 3 n impl_calc_eliminatekp (codeAt impl_calc_eliminatec [1, 1, 1, 1, 1, 1, 0, 1, 0, 0])) (canon 3 (impl_calc_eliminatekp.loop 9)) (kAt ([impl_calc_divF n, impl_calc_mulF n, impl_calc_subF n]) typ 158 3 n impl_calc_eliminatekp impl_calc_eliminatec [1, 1, 1, 1, 1, 1, 0, 1, 0] [] (ending typ 3 Go.Proofs.Try.f65.results.toList impl_calc_eliminaters impl_calc_eliminatebs)) k { env := [(67, .one (.sc (.int .i64 v67))), (4, .one (.sc (.int .i64 v4))), (1, .one (.slice 1 0 none)), (0, .one (.ref 0 0 0 0 0 0)), (2, .one (.slice 2 0 none)), (3, .one (.sc (.int .i64 v3))), (66, .one (.sc (.int .i64 v66)))], bx := [(0, .var 89 [.sc (.bool b0)]), (1, .pool 0 (.pair (.int .i64) (.int .i64)) b1p b1i), (2, .row 0 (.pair (.int .i64) (.int .i64)) b2)], nx := 3 } = impl_calc_eliminate_l9 n k v67 v4 v3 v66 b0 b1p b1i b2
  | 0, _, _, _, _, _, _, _, _ => by kernel_rfl
  | k + 1, v67, v4, v3, v66, b0, b1p, b1i, b2 => by
    have h : iter (interp ([impl_calc_divF n, impl_calc_mulF n, impl_calc_subF n]) typ 158 3 n impl_calc_eliminatekp (codeAt impl_calc_eliminatec [1, 1, 1, 1, 1, 1, 0, 1, 0, 0])) (canon 3 (impl_calc_eliminatekp.loop 9)) (kAt ([impl_calc_divF n, impl_calc_mulF n, impl_calc_subF n]) typ 158 3 n impl_calc_eliminatekp impl_calc_eliminatec [1, 1, 1, 1, 1, 1, 0, 1, 0] [] (ending typ 3 Go.Proofs.Try.f65.results.toList impl_calc_eliminaters impl_calc_eliminatebs)) (k + 1) { env := [(67, .one (.sc (.int .i64 v67))), (4, .one (.sc (.int .i64 v4))), (1, .one (.slice 1 0 none)), (0, .one (.ref 0 0 0 0 0 0)), (2, .one (.slice 2 0 none)), (3, .one (.sc (.int .i64 v3))), (66, .one (.sc (.int .i64 v66)))], bx := [(0, .var 89 [.sc (.bool b0)]), (1, .pool 0 (.pair (.int .i64) (.int .i64)) b1p b1i), (2, .row 0 (.pair (.int .i64) (.int .i64)) b2)], nx := 3 } = impl_calc_eliminate_t9 n (fun k' v14 v4 v12 v3 v66 v67 b0 b1p b1i b2 b3_0 b3_1 => iter (interp ([impl_calc_divF n, impl_calc_mulF n, impl_calc_subF n]) typ 158 3 n impl_calc_eliminatekp (codeAt impl_calc_eliminatec [1, 1, 1, 1, 1, 1, 0, 1, 0, 0, 1, 1, 0, 0, 1, 1, 1, 0, 1, 0, 0])) (canon 3 (impl_calc_eliminatekp.loop 14)) (kAt ([impl_calc_divF n, impl_calc_mulF n, impl_calc_subF n]) typ 158 3 n impl_calc_eliminatekp impl_calc_eliminatec [1, 1, 1, 1, 1, 1, 0, 1, 0, 0, 1, 1, 0, 0, 1, 1, 1, 0, 1, 0] [(fun s => iter (interp ([impl_calc_divF n, impl_calc_mulF n, impl_calc_subF n]) typ 158 3 n impl_calc_eliminatekp (codeAt impl_calc_eliminatec [1, 1, 1, 1, 1, 1, 0, 1, 0, 0])) (canon 3 (impl_calc_eliminatekp.loop 9)) (kAt ([impl_calc_divF n, impl_calc_mulF n, impl_calc_subF n]) typ 158 3 n impl_calc_eliminatekp impl_calc_eliminatec [1, 1, 1, 1, 1, 1, 0, 1, 0] [] (ending typ 3 Go.Proofs.Try.f65.results.toList impl_calc_eliminaters impl_calc_eliminatebs)) k s)] (ending typ 3 Go.Proofs.Try.f65.results.toList impl_calc_eliminaters impl_calc_eliminatebs)) k' { env := [(14, .one (.sc (.int .i64 v14))), (4, .one (.sc (.int .i64 v4))), (1, .one (.slice 1 0 none)), (13, .one (.ref 3 0 0 0 0 0)), (0, .one (.ref 0 0 0 0 0 0)), (12, .one (.sc (.int .i64 v12))), (2, .one (.slice 2 0 none)), (3, .one (.sc (.int .i64 v3))), (66, .one (.sc (.int .i64 v66))), (67, .one (.sc (.int .i64 v67)))], bx := [(0, .var 89 [.sc (.bool b0)]), (1, .pool 0 (.pair (.int .i64) (.int .i64)) b1p b1i), (2, .row 0 (.pair (.int .i64) (.int .i64)) b2), (3, .var 26 [.sc (.int .i64 b3_0), .sc (.int .i64 b3_1)])], nx := 4 }) (fun v67 v4 v3 v66 b0 b1p b1i b2 => iter (interp ([impl_calc_divF n, impl_calc_mulF n, impl_calc_subF n]) typ 158 3 n impl_calc_eliminatekp (codeAt impl_calc_eliminatec [1, 1, 1, 1, 1, 1, 0, 1, 0, 0])) (canon 3 (impl_calc_eliminatekp.loop 9)) (kAt ([impl_calc_divF n, impl_calc_mulF n, impl_calc_subF n]) typ 158 3 n impl_calc_eliminatekp impl_calc_eliminatec [1, 1, 1, 1, 1, 1, 0, 1, 0] [] (ending typ 3 Go.Proofs.Try.f65.results.toList impl_calc_eliminaters impl_calc_eliminatebs)) k { env := [(67, .one (.sc (.int .i64 v67))), (4, .one (.sc (.int .i64 v4))), (1, .one (.slice 1 0 none)), (0, .one (.ref 0 0 0 0 0 0)), (2, .one (.slice 2 0 none)), (3, .one (.sc (.int .i64 v3))), (66, .one (.sc (.int .i64 v66)))], bx := [(0, .var 89 [.sc (.bool b0)]), (1, .pool 0 (.pair (.int .i64) (.int .i64)) b1p b1i), (2, .row 0 (.pair (.int .i64) (.int .i64)) b2)], nx := 3 }) v67 v4 v3 v66 b0 b1p b1i b2 := by kernel_rfl
    rw [h]
    have e := congr (congrArg (fun h14 g => impl_calc_eliminate_t9 n h14 g v67 v4 v3 v66 b0 b1p b1i b2) ((funext fun k' => funext fun v14 => funext fun v4 => funext fun v12 => funext fun v3 => funext fun v66 => funext fun v67 => funext fun b0 => funext fun b1p => funext fun b1i => funext fun b2 => funext fun b3_0 => funext fun b3_1 => impl_calc_eliminate_l14_eq n (fun s => iter (interp ([impl_calc_divF n, impl_calc_mulF n, impl_calc_subF n]) typ 158 3 n impl_calc_eliminatekp (codeAt impl_calc_eliminatec [1, 1, 1, 1, 1, 1, 0, 1, 0, 0])) (canon 3 (impl_calc_eliminatekp.loop 9)) (kAt ([impl_calc_divF n, impl_calc_mulF n, impl_calc_subF n]) typ 158 3 n impl_calc_eliminatekp impl_calc_eliminatec [1, 1, 1, 1, 1, 1, 0, 1, 0] [] (ending typ 3 Go.Proofs.Try.f65.results.toList impl_calc_eliminaters impl_calc_eliminatebs)) k s) k' v14 v4 v12 v3 v66 v67 b0 b1p b1i b2 b3_0 b3_1).trans (congrArg (fun z => impl_calc_eliminate_l14 n z) (funext fun v67 => funext fun v4 => funext fun v3 => funext fun v66 => funext fun b0 => funext fun b1p => funext fun b1i => funext fun b2 => impl_calc_eliminate_l9_eq n k v67 v4 v3 v66 b0 b1p b1i b2)))) (funext fun v67 => funext fun v4 => funext fun v3 => funext fun v66 => funext fun b0 => funext fun b1p => funext fun b1i => funext fun b2 => impl_calc_eliminate_l9_eq n k v67 v4 v3 v66 b0 b1p b1i b2)
    exact e

theorem impl_calc_eliminate_l2_eq (n : Nat) : ∀ (k : Nat) (v11 : Int) (v4 : Int) (v3 : Int) (b0 : Bool) (b1p : List Nat) (b1i : List (List ((Int) × (Int)))) (b2 : List ((Int) × (Int))), iter (interp ([impl_calc_divF n, impl_calc_mulF n, impl_calc_subF n]) typ 158 3 n impl_calc_eliminatekp (codeAt impl_calc_eliminatec [1, 1, 0, 0, 0])) (canon 3 (impl_calc_eliminatekp.loop 2)) (kAt ([impl_calc_divF n, impl_calc_mulF n, impl_calc_subF n]) typ 158 3 n impl_calc_eliminatekp impl_calc_eliminatec [1, 1, 0, 0] [] (ending typ 3 Go.Proofs.Try.f65.results.toList impl_calc_eliminaters impl_calc_eliminatebs)) k { env := [(11, .one (.sc (.int .i64 v11))), (4, .one (.sc (.int .i64 v4))), (1, .one (.slice 1 0 none)), (0, .one (.ref 0 0 0 0 0 0)), (2, .one (.slice 2 0 none)), (3, .one (.sc (.int .i64 v3)))], bx := [(0, .var 89 [.sc (.bool b0)]), (1, .pool 0 (.pair (.int .i64) (.int .i64)) b1p b1i), (2, .row 0 (.pair (.int .i64) (.int .i64)) b2)], nx := 3 } = impl_calc_eliminate_l2 n k v11 v4 v3 b0 b1p b1i b2
  | 0, _, _, _, _, _, _, _ => by kernel_rfl
  | k + 1, v11, v4, v3, b0, b1p, b1i, b2 => by
    have h : iter (interp ([impl_calc_divF n, impl_calc_mulF n, impl_calc_subF n]) typ 158 3 n impl_calc_eliminatekp (codeAt impl_calc_eliminatec [1, 1, 0, 0, 0])) (canon 3 (impl_calc_eliminatekp.loop 2)) (kAt ([impl_calc_divF n, impl_calc_mulF n, impl_calc_subF n]) typ 158 3 n impl_calc_eliminatekp impl_calc_eliminatec [1, 1, 0, 0] [] (ending typ 3 Go.Proofs.Try.f65.results.toList impl_calc_eliminaters impl_calc_eliminatebs)) (k + 1) { env := [(11, .one (.sc (.int .i64 v11))), (4, .one (.sc (.int .i64 v4))), (1, .one (.slice 1 0 none)), (0, .one (.ref 0 0 0 0 0 0)), (2, .one (.slice 2 0 none)), (3, .one (.sc (.int .i64 v3)))], bx := [(0, .var 89 [.sc (.bool b0)]), (1, .pool 0 (.pair (.int .i64) (.int .i64)) b1p b1i), (2, .row 0 (.pair (.int .i64) (.int .i64)) b2)], nx := 3 } = impl_calc_eliminate_t2 n (fun k' v67 v4 v3 v66 b0 b1p b1i b2 => iter (interp ([impl_calc_divF n, impl_calc_mulF n, impl_calc_subF n]) typ 158 3 n impl_calc_eliminatekp (codeAt impl_calc_eliminatec [1, 1, 1, 1, 1, 1, 0, 1, 0, 0])) (canon 3 (impl_calc_eliminatekp.loop 9)) (kAt ([impl_calc_divF n, impl_calc_mulF n, impl_calc_subF n]) typ 158 3 n impl_calc_eliminatekp impl_calc_eliminatec [1, 1, 1, 1, 1, 1, 0, 1, 0] [] (ending typ 3 Go.Proofs.Try.f65.results.toList impl_calc_eliminaters impl_calc_eliminatebs)) k' { env := [(67, .one (.sc (.int .i64 v67))), (4, .one (.sc (.int .i64 v4))), (1, .one (.slice 1 0 none)), (0, .one (.ref 0 0 0 0 0 0)), (2, .one (.slice 2 0 none)), (3, .one (.sc (.int .i64 v3))), (66, .one (.sc (.int .i64 v66)))], bx := [(0, .var 89 [.sc (.bool b0)]), (1, .pool 0 (.pair (.int .i64) (.int .i64)) b1p b1i), (2, .row 0 (.pair (.int .i64) (.int .i64)) b2)], nx := 3 }) (fun v11 v4 v3 b0 b1p b1i b2 => iter (interp ([impl_calc_divF n, impl_calc_mulF n, impl_calc_subF n]) typ 158 3 n impl_calc_eliminatekp (codeAt impl_calc_eliminatec [1, 1, 0, 0, 0])) (canon 3 (impl_calc_eliminatekp.loop 2)) (kAt ([impl_calc_divF n, impl_calc_mulF n, impl_calc_subF n]) typ 158 3 n impl_calc_eliminatekp impl_calc_eliminatec [1, 1, 0, 0] [] (ending typ 3 Go.Proofs.Try.f65.results.toList impl_calc_eliminaters impl_calc_eliminatebs)) k { env := [(11, .one (.sc (.int .i64 v11))), (4, .one (.sc (.int .i64 v4))), (1, .one (.slice 1 0 none)), (0, .one (.ref 0 0 0 0 0 0)), (2, .one (.slice 2 0 none)), (3, .one (.sc (.int .i64 v3)))], bx := [(0, .var 89 [.sc (.bool b0)]), (1, .pool 0 (.pair (.int .i64) (.int .i64)) b1p b1i), (2, .row 0 (.pair (.int .i64) (.int .i64)) b2)], nx := 3 }) v11 v4 v3 b0 b1p b1i b2 := by kernel_rfl
    rw [h]
    have e := congr (congrArg (fun h9 g => impl_calc_eliminate_t2 n h9 g v11 v4 v3 b0 b1p b1i b2) (funext fun k' => funext fun v67 => funext fun v4 => funext fun v3 => funext fun v66 => funext fun b0 => funext fun b1p => funext fun b1i => funext fun b2 => impl_calc_eliminate_l9_eq n k' v67 v4 v3 v66 b0 b1p b1i b2)) (funext fun v11 => funext fun v4 => funext fun v3 => funext fun b0 => funext fun b1p => funext fun b1i => funext fun b2 => impl_calc_eliminate_l2_eq n k v11 v4 v3 b0 b1p b1i b2)
    exact e

theorem impl_calc_eliminate_eq (n : Nat) (a3 : Int) (a4 : Int) (b0 : Bool) (b1 : (List Nat) × (List (List ((Int) × (Int))))) (b2 : List ((Int) × (Int))) : runBody ([impl_calc_divF n, impl_calc_mulF n, impl_calc_subF n]) typ 158 n impl_calc_eliminatekp impl_calc_eliminatec Go.Proofs.Try.f65.results.toList impl_calc_eliminaters impl_calc_eliminatesp impl_calc_eliminatebs ((), ((), ((), (a3, (a4, ()))))) (b0, (b1, (b2, ()))) = impl_calc_eliminate n a3 a4 b0 b1 b2 := by
  have h : runBody ([impl_calc_divF n, impl_calc_mulF n, impl_calc_subF n]) typ 158 n impl_calc_eliminatekp impl_calc_eliminatec Go.Proofs.Try.f65.results.toList impl_calc_eliminaters impl_calc_eliminatesp impl_calc_eliminatebs ((), ((), ((), (a3, (a4, ()))))) (b0, (b1, (b2, ()))) = impl_calc_eliminate_t n (fun k v11 v4 v3 b0 b1p b1i b2 => iter (interp ([impl_calc_divF n, impl_calc_mulF n, impl_calc_subF n]) typ 158 3 n impl_calc_eliminatekp (codeAt impl_calc_eliminatec [1, 1, 0, 0, 0])) (canon 3 (impl_calc_eliminatekp.loop 2)) (kAt ([impl_calc_divF n, impl_calc_mulF n, impl_calc_subF n]) typ 158 3 n impl_calc_eliminatekp impl_calc_eliminatec [1, 1, 0, 0] [] (ending typ 3 Go.Proofs.Try.f65.results.toList impl_calc_eliminaters impl_calc_eliminatebs)) k { env := [(11, .one (.sc (.int .i64 v11))), (4, .one (.sc (.int .i64 v4))), (1, .one (.slice 1 0 none)), (0, .one (.ref 0 0 0 0 0 0)), (2, .one (.slice 2 0 none)), (3, .one (.sc (.int .i64 v3)))], bx := [(0, .var 89 [.sc (.bool b0)]), (1, .pool 0 (.pair (.int .i64) (.int .i64)) b1p b1i), (2, .row 0 (.pair (.int .i64) (.int .i64)) b2)], nx := 3 }) a3 a4 b0 b1 b2 := by kernel_rfl
  rw [h]
  have e := congrArg (fun h2 => impl_calc_eliminate_t n h2 a3 a4 b0 b1 b2) (funext fun k => funext fun v11 => funext fun v4 => funext fun v3 => funext fun b0 => funext fun b1p => funext fun b1i => funext fun b2 => impl_calc_eliminate_l2_eq n k v11 v4 v3 b0 b1p b1i b2)
  exact e

theorem impl_calc_eliminate_ok (n : Nat) : FunOk P (impl_calc_eliminateF n) :=
  funOk_mkP (C := [impl_calc_divF n, impl_calc_mulF n, impl_calc_subF n]) (N := 158) (kp := impl_calc_eliminatekp) (c := impl_calc_eliminatec) (n := n) (G := fun x y => impl_calc_eliminate n x.2.2.2.1 x.2.2.2.2.1 y.1 y.2.1 y.2.2.1) follows (AllOk.mem (⟨impl_calc_div_ok n, ⟨impl_calc_mul_ok n, ⟨impl_calc_sub_ok n, trivial⟩⟩⟩ : AllOk P ([impl_calc_divF n, impl_calc_mulF n, impl_calc_subF n]))) (by kernel_rfl : P.funcs[65]? = some Go.Proofs.Try.f65) (by kernel_rfl) (by kernel_rfl) (by kernel_rfl)
    (fun x y => impl_calc_eliminate_eq n x.2.2.2.1 x.2.2.2.2.1 y.1 y.2.1 y.2.2.1) (fun _ _ => map_same (fun _ => rfl) _) (fun _ _ _ _ => rfl)

abbrev slices_Clone_impl_Frac_impl_Fracsp : List Sp := [.v false (.list (.pair (.int .i64) (.int .i64)))]
abbrev slices_Clone_impl_Frac_impl_Fracbs : List (Bs × Bool) := []
abbrev slices_Clone_impl_Frac_impl_Fracrs : List (Bool × List Rp) := [(false, [.new  (.pair (.int .i64) (.int .i64))])]
noncomputable def slices_Clone_impl_Frac_impl_Frackp : Keep := { loop := fun id => match id with | _ => ([], []), join := fun id => match id with | _ => none }
noncomputable def slices_Clone_impl_Frac_impl_Fracc : Code := bodyOf Go.Proofs.Try.f64
noncomputable def slices_Clone_impl_Frac_impl_FracF (n : Nat) : Fun := { id := 64, sp := slices_Clone_impl_Frac_impl_Fracsp, bs := slices_Clone_impl_Frac_impl_Fracbs, rs := slices_Clone_impl_Frac_impl_Fracrs, f := fun x y => slices_Clone_impl_Frac_impl_Frac n x.1 }

theorem slices_Clone_impl_Frac_impl_Frac_eq (n : Nat) (a0 : List ((Int) × (Int))) : runBody ([]) ty 8 n slices_Clone_impl_Frac_impl_Frackp slices_Clone_impl_Frac_impl_Fracc Go.Proofs.Try.f64.results.toList slices_Clone_impl_Frac_impl_Fracrs slices_Clone_impl_Frac_impl_Fracsp slices_Clone_impl_Frac_impl_Fracbs (a0, ()) () = slices_Clone_impl_Frac_impl_Frac n a0 := by
  have h : runBody ([]) ty 8 n slices_Clone_impl_Frac_impl_Frackp slices_Clone_impl_Frac_impl_Fracc Go.Proofs.Try.f64.results.toList slices_Clone_impl_Frac_impl_Fracrs slices_Clone_impl_Frac_impl_Fracsp slices_Clone_impl_Frac_impl_Fracbs (a0, ()) () = slices_Clone_impl_Frac_impl_Frac_t n a0 := by kernel_rfl
  rw [h]
  rfl

theorem slices_Clone_impl_Frac_impl_Frac_ok (n : Nat) : FunOk P (slices_Clone_impl_Frac_impl_FracF n) :=
  funOk_mk (C := []) (N := 8) (kp := slices_Clone_impl_Frac_impl_Frackp) (c := slices_Clone_impl_Frac_impl_Fracc) (n := n) (G := fun x y => slices_Clone_impl_Frac_impl_Frac n x.1) follows (AllOk.mem (trivial : AllOk P ([]))) (by kernel_rfl : P.funcs[64]? = some Go.Proofs.Try.f64) (by kernel_rfl) (by kernel_rfl) (by kernel_rfl)
    (fun x y => slices_Clone_impl_Frac_impl_Frac_eq n x.1) (fun _ _ => map_same (fun _ => rfl) _) (fun _ _ _ _ => rfl)

abbrev impl_copyRowssp : List Sp := [.v false (.list (.list (.pair (.int .i64) (.int .i64))))]
abbrev impl_copyRowsbs : List (Bs × Bool) := []
abbrev impl_copyRowsrs : List (Bool × List Rp) := [(false, [.newp  (.pair (.int .i64) (.int .i64))])]
noncomputable def impl_copyRowskp : Keep := { loop := fun id => match id with | 3 => ([9, 3, 7, 8], []) | _ => ([], []), join := fun id => match id with | _ => none }
noncomputable def impl_copyRowsc : Code := bodyOf Go.Proofs.Try.f60
noncomputable def impl_copyRowsF (n : Nat) : Fun := { id := 60, sp := impl_copyRowssp, bs := impl_copyRowsbs, rs := impl_copyRowsrs, f := fun x y => impl_copyRows n x.1 }

theorem impl_copyRows_l3_eq (n : Nat) : ∀ (k : Nat) (v9 : Int) (v7 : List (List ((Int) × (Int)))) (v8 : Int) (b0p : List Nat) (b0i : List (List ((Int) × (Int)))), iter (interp ([slices_Clone_impl_Frac_impl_FracF n]) typ 20 0 n impl_copyRowskp (codeAt impl_copyRowsc [1, 1, 0, 1, 0, 0])) (canon 0 (impl_copyRowskp.loop 3)) (kAt ([slices_Clone_impl_Frac_impl_FracF n]) typ 20 0 n impl_copyRowskp impl_copyRowsc [1, 1, 0, 1, 0] [] (ending typ 0 Go.Proofs.Try.f60.results.toList impl_copyRowsrs impl_copyRowsbs)) k { env := [(9, .one (.sc (.int .i64 v9))), (3, .one (.slice 0 0 none)), (7, .one (.list true (.list (.pair (.int .i64) (.int .i64))) v7)), (8, .one (.sc (.int .i64 v8)))], bx := [(0, .pool 0 (.pair (.int .i64) (.int .i64)) b0p b0i)], nx := 1 } = impl_copyRows_l3 n k v9 v7 v8 b0p b0i
  | 0, _, _, _, _, _ => by kernel_rfl
  | k + 1, v9, v7, v8, b0p, b0i => by
    have h : iter (interp ([slices_Clone_impl_Frac_impl_FracF n]) typ 20 0 n impl_copyRowskp (codeAt impl_copyRowsc [1, 1, 0, 1, 0, 0])) (canon 0 (impl_copyRowskp.loop 3)) (kAt ([slices_Clone_impl_Frac_impl_FracF n]) typ 20 0 n impl_copyRowskp impl_copyRowsc [1, 1, 0, 1, 0] [] (ending typ 0 Go.Proofs.Try.f60.results.toList impl_copyRowsrs impl_copyRowsbs)) (k + 1) { env := [(9, .one (.sc (.int .i64 v9))), (3, .one (.slice 0 0 none)), (7, .one (.list true (.list (.pair (.int .i64) (.int .i64))) v7)), (8, .one (.sc (.int .i64 v8)))], bx := [(0, .pool 0 (.pair (.int .i64) (.int .i64)) b0p b0i)], nx := 1 } = impl_copyRows_t3 n (fun v9 v7 v8 b0p b0i => iter (interp ([slices_Clone_impl_Frac_impl_FracF n]) typ 20 0 n impl_copyRowskp (codeAt impl_copyRowsc [1, 1, 0, 1, 0, 0])) (canon 0 (impl_copyRowskp.loop 3)) (kAt ([slices_Clone_impl_Frac_impl_FracF n]) typ 20 0 n impl_copyRowskp impl_copyRowsc [1, 1, 0, 1, 0] [] (ending typ 0 Go.Proofs.Try.f60.results.toList impl_copyRowsrs impl_copyRowsbs)) k { env := [(9, .one (.sc (.int .i64 v9))), (3, .one (.slice 0 0 none)), (7, .one (.list true (.list (.pair (.int .i64) (.int .i64))) v7)), (8, .one (.sc (.int .i64 v8)))], bx := [(0, .pool 0 (.pair (.int .i64) (.int .i64)) b0p b0i)], nx := 1 }) v9 v7 v8 b0p b0i := by kernel_rfl
    rw [h]
    have e := congrArg (fun g => impl_copyRows_t3 n g v9 v7 v8 b0p b0i) (funext fun v9 => funext fun v7 => funext fun v8 => funext fun b0p => funext fun b0i => impl_copyRows_l3_eq n k v9 v7 v8 b0p b0i)
    exact e

theorem impl_copyRows_eq (n : Nat) (a0 : List (List ((Int) × (Int)))) : runBody ([slices_Clone_impl_Frac_impl_FracF n]) typ 20 n impl_copyRowskp impl_copyRowsc Go.Proofs.Try.f60.results.toList impl_copyRowsrs impl_copyRowssp impl_copyRowsbs (a0, ()) () = impl_copyRows n a0 := by
  have h : runBody ([slices_Clone_impl_Frac_impl_FracF n]) typ 20 n impl_copyRowskp impl_copyRowsc Go.Proofs.Try.f60.results.toList impl_copyRowsrs impl_copyRowssp impl_copyRowsbs (a0, ()) () = impl_copyRows_t n (fun k v9 v7 v8 b0p b0i => iter (interp ([slices_Clone_impl_Frac_impl_FracF n]) typ 20 0 n impl_copyRowskp (codeAt impl_copyRowsc [1, 1, 0, 1, 0, 0])) (canon 0 (impl_copyRowskp.loop 3)) (kAt ([slices_Clone_impl_Frac_impl_FracF n]) typ 20 0 n impl_copyRowskp impl_copyRowsc [1, 1, 0, 1, 0] [] (ending typ 0 Go.Proofs.Try.f60.results.toList impl_copyRowsrs impl_copyRowsbs)) k { env := [(9, .one (.sc (.int .i64 v9))), (3, .one (.slice 0 0 none)), (7, .one (.list true (.list (.pair (.int .i64) (.int .i64))) v7)), (8, .one (.sc (.int .i64 v8)))], bx := [(0, .pool 0 (.pair (.int .i64) (.int .i64)) b0p b0i)], nx := 1 }) a0 := by kernel_rfl
  rw [h]
  have e := congrArg (fun h3 => impl_copyRows_t n h3 a0) (funext fun k => funext fun v9 => funext fun v7 => funext fun v8 => funext fun b0p => funext fun b0i => impl_copyRows_l3_eq n k v9 v7 v8 b0p b0i)
  exact e

theorem impl_copyRows_ok (n : Nat) : FunOk P (impl_copyRowsF n) :=
  funOk_mkP (C := [slices_Clone_impl_Frac_impl_FracF n]) (N := 20) (kp := impl_copyRowskp) (c := impl_copyRowsc) (n := n) (G := fun x y => impl_copyRows n x.1) follows (AllOk.mem (⟨slices_Clone_impl_Frac_impl_Frac_ok n, trivial⟩ : AllOk P ([slices_Clone_impl_Frac_impl_FracF n]))) (by kernel_rfl : P.funcs[60]? = some Go.Proofs.Try.f60) (by kernel_rfl) (by kernel_rfl) (by kernel_rfl)
    (fun x y => impl_copyRows_eq n x.1) (fun _ _ => map_same (fun _ => rfl) _) (fun _ _ _ _ => rfl)

abbrev impl_SolveFracs_1sp : List Sp := [.v false (.list (.pair (.int .i64) (.int .i64))), .ref 0]
abbrev impl_SolveFracs_1bs : List (Bs × Bool) := [(.var 3 (.int .i64), true)]
abbrev impl_SolveFracs_1rs : List (Bool × List Rp) := [(false, [.v false .bool])]
noncomputable def impl_SolveFracs_1kp : Keep := { loop := fun id => match id with | _ => ([], []), join := fun id => match id with | _ => none }
noncomputable def impl_SolveFracs_1c : Code := bodyOf Go.Proofs.Try.f63
noncomputable def impl_SolveFracs_1F (n : Nat) : Fun := { id := 63, sp := impl_SolveFracs_1sp, bs := impl_SolveFracs_1bs, rs := impl_SolveFracs_1rs, f := fun x y => impl_SolveFracs_1 n x.1 y.1 }

theorem impl_SolveFracs_1_eq (n : Nat) (a0 : List ((Int) × (Int))) (b0 : Int) : runBody ([]) typ 8 n impl_SolveFracs_1kp impl_SolveFracs_1c Go.Proofs.Try.f63.results.toList impl_SolveFracs_1rs impl_SolveFracs_1sp impl_SolveFracs_1bs (a0, ((), ())) (b0, ()) = impl_SolveFracs_1 n a0 b0 := by
  have h : runBody ([]) typ 8 n impl_SolveFracs_1kp impl_SolveFracs_1c Go.Proofs.Try.f63.results.toList impl_SolveFracs_1rs impl_SolveFracs_1sp impl_SolveFracs_1bs (a0, ((), ())) (b0, ()) = impl_SolveFracs_1_t n a0 b0 := by kernel_rfl
  rw [h]
  rfl

theorem impl_SolveFracs_1_ok (n : Nat) : FunOk P (impl_SolveFracs_1F n) :=
  funOk_mkP (C := []) (N := 8) (kp := impl_SolveFracs_1kp) (c := impl_SolveFracs_1c) (n := n) (G := fun x y => impl_SolveFracs_1 n x.1 y.1) follows (AllOk.mem (trivial : AllOk P ([]))) (by kernel_rfl : P.funcs[63]? = some Go.Proofs.Try.f63) (by kernel_rfl) (by kernel_rfl) (by kernel_rfl)
    (fun x y => impl_SolveFracs_1_eq n x.1 y.1) (fun _ _ => map_same (fun _ => rfl) _) (fun _ _ _ _ => rfl)

abbrev slices_IndexFunc_impl_Frac_impl_Frac_at_impl_SolveFracs_1sp : List Sp := [.v false (.list (.list (.pair (.int .i64) (.int .i64)))), .cl 63 [0]]
abbrev slices_IndexFunc_impl_Frac_impl_Frac_at_impl_SolveFracs_1bs : List (Bs × Bool) := [(.var 3 (.int .i64), true)]
abbrev slices_IndexFunc_impl_Frac_impl_Frac_at_impl_SolveFracs_1rs : List (Bool × List Rp) := [(false, [.v false (.int .i64)])]
noncomputable def slices_IndexFunc_impl_Frac_impl_Frac_at_impl_SolveFracs_1kp : Keep := { loop := fun id => match id with | 2 => ([8, 0, 1, 7], []) | _ => ([], []), join := fun id => match id with | _ => none }
noncomputable def slices_IndexFunc_impl_Frac_impl_Frac_at_impl_SolveFracs_1c : Code := bodyOf Go.Proofs.Try.f123
noncomputable def slices_IndexFunc_impl_Frac_impl_Frac_at_impl_SolveFracs_1F (n : Nat) : Fun := { id := 123, sp := slices_IndexFunc_impl_Frac_impl_Frac_at_impl_SolveFracs_1sp, bs := slices_IndexFunc_impl_Frac_impl_Frac_at_impl_SolveFracs_1bs, rs := slices_IndexFunc_impl_Frac_impl_Frac_at_impl_SolveFracs_1rs, f := fun x y => slices_IndexFunc_impl_Frac_impl_Frac_at_impl_SolveFracs_1 n x.1 y.1 }

theorem slices_IndexFunc_impl_Frac_impl_Frac_at_impl_SolveFracs_1_l2_eq (n : Nat) : ∀ (k : Nat) (v8 : Int) (v0 : List (List ((Int) × (Int)))) (v7 : Int) (b0 : Int), iter (interp ([impl_SolveFracs_1F n]) ty 19 1 n slices_IndexFunc_impl_Frac_impl_Frac_at_impl_SolveFracs_1kp (codeAt slices_IndexFunc_impl_Frac_impl_Frac_at_impl_SolveFracs_1c [1, 0, 1, 0, 0])) (canon 1 (slices_IndexFunc_impl_Frac_impl_Frac_at_impl_SolveFracs_1kp.loop 2)) (kAt ([impl_SolveFracs_1F n]) ty 19 1 n slices_IndexFunc_impl_Frac_impl_Frac_at_impl_SolveFracs_1kp slices_IndexFunc_impl_Frac_impl_Frac_at_impl_SolveFracs_1c [1, 0, 1, 0] [] (ending ty 1 Go.Proofs.Try.f123.results.toList slices_IndexFunc_impl_Frac_impl_Frac_at_impl_SolveFracs_1rs slices_IndexFunc_impl_Frac_impl_Frac_at_impl_SolveFracs_1bs)) k { env := [(8, .one (.sc (.int .i64 v8))), (0, .one (.list true (.list (.pair (.int .i64) (.int .i64))) v0)), (1, .one (.clos 63 (0 :: []))), (7, .one (.sc (.int .i64 v7)))], bx := [(0, .var 3 [.sc (.int .i64 b0)])], nx := 1 } = slices_IndexFunc_impl_Frac_impl_Frac_at_impl_SolveFracs_1_l2 n k v8 v0 v7 b0
  | 0, _, _, _, _ => by kernel_rfl
  | k + 1, v8, v0, v7, b0 => by
    have h : iter (interp ([impl_SolveFracs_1F n]) ty 19 1 n slices_IndexFunc_impl_Frac_impl_Frac_at_impl_SolveFracs_1kp (codeAt slices_IndexFunc_impl_Frac_impl_Frac_at_impl_SolveFracs_1c [1, 0, 1, 0, 0])) (canon 1 (slices_IndexFunc_impl_Frac_impl_Frac_at_impl_SolveFracs_1kp.loop 2)) (kAt ([impl_SolveFracs_1F n]) ty 19 1 n slices_IndexFunc_impl_Frac_impl_Frac_at_impl_SolveFracs_1kp slices_IndexFunc_impl_Frac_impl_Frac_at_impl_SolveFracs_1c [1, 0, 1, 0] [] (ending ty 1 Go.Proofs.Try.f123.results.toList slices_IndexFunc_impl_Frac_impl_Frac_at_impl_SolveFracs_1rs slices_IndexFunc_impl_Frac_impl_Frac_at_impl_SolveFracs_1bs)) (k + 1) { env := [(8, .one (.sc (.int .i64 v8))), (0, .one (.list true (.list (.pair (.int .i64) (.int .i64))) v0)), (1, .one (.clos 63 (0 :: []))), (7, .one (.sc (.int .i64 v7)))], bx := [(0, .var 3 [.sc (.int .i64 b0)])], nx := 1 } = slices_IndexFunc_impl_Frac_impl_Frac_at_impl_SolveFracs_1_t2 n (fun v8 v0 v7 b0 => iter (interp ([impl_SolveFracs_1F n]) ty 19 1 n slices_IndexFunc_impl_Frac_impl_Frac_at_impl_SolveFracs_1kp (codeAt slices_IndexFunc_impl_Frac_impl_Frac_at_impl_SolveFracs_1c [1, 0, 1, 0, 0])) (canon 1 (slices_IndexFunc_impl_Frac_impl_Frac_at_impl_SolveFracs_1kp.loop 2)) (kAt ([impl_SolveFracs_1F n]) ty 19 1 n slices_IndexFunc_impl_Frac_impl_Frac_at_impl_SolveFracs_1kp slices_IndexFunc_impl_Frac_impl_Frac_at_impl_SolveFracs_1c [1, 0, 1, 0] [] (ending ty 1 Go.Proofs.Try.f123.results.toList slices_IndexFunc_impl_Frac_impl_Frac_at_impl_SolveFracs_1rs slices_IndexFunc_impl_Frac_impl_Frac_at_impl_SolveFracs_1bs)) k { env := [(8, .one (.sc (.int .i64 v8))), (0, .one (.list true (.list (.pair (.int .i64) (.int .i64))) v0)), (1, .one (.clos 63 (0 :: []))), (7, .one (.sc (.int .i64 v7)))], bx := [(0, .var 3 [.sc (.int .i64 b0)])], nx := 1 }) v8 v0 v7 b0 := by kernel_rfl
    rw [h]
    have e := congrArg (fun g => slices_IndexFunc_impl_Frac_impl_Frac_at_impl_SolveFracs_1_t2 n g v8 v0 v7 b0) (funext fun v8 => funext fun v0 => funext fun v7 => funext fun b0 => slices_IndexFunc_impl_Frac_impl_Frac_at_impl_SolveFracs_1_l2_eq n k v8 v0 v7 b0)
    exact e

theorem slices_IndexFunc_impl_Frac_impl_Frac_at_impl_SolveFracs_1_eq (n : Nat) (a0 : List (List ((Int) × (Int)))) (b0 : Int) : runBody ([impl_SolveFracs_1F n]) ty 19 n slices_IndexFunc_impl_Frac_impl_Frac_at_impl_SolveFracs_1kp slices_IndexFunc_impl_Frac_impl_Frac_at_impl_SolveFracs_1c Go.Proofs.Try.f123.results.toList slices_IndexFunc_impl_Frac_impl_Frac_at_impl_SolveFracs_1rs slices_IndexFunc_impl_Frac_impl_Frac_at_impl_SolveFracs_1sp slices_IndexFunc_impl_Frac_impl_Frac_at_impl_SolveFracs_1bs (a0, ((), ())) (b0, ()) = slices_IndexFunc_impl_Frac_impl_Frac_at_impl_SolveFracs_1 n a0 b0 := by
  have h : runBody ([impl_SolveFracs_1F n]) ty 19 n slices_IndexFunc_impl_Frac_impl_Frac_at_impl_SolveFracs_1kp slices_IndexFunc_impl_Frac_impl_Frac_at_impl_SolveFracs_1c Go.Proofs.Try.f123.results.toList slices_IndexFunc_impl_Frac_impl_Frac_at_impl_SolveFracs_1rs slices_IndexFunc_impl_Frac_impl_Frac_at_impl_SolveFracs_1sp slices_IndexFunc_impl_Frac_impl_Frac_at_impl_SolveFracs_1bs (a0, ((), ())) (b0, ()) = slices_IndexFunc_impl_Frac_impl_Frac_at_impl_SolveFracs_1_t n (fun k v8 v0 v7 b0 => iter (interp ([impl_SolveFracs_1F n]) ty 19 1 n slices_IndexFunc_impl_Frac_impl_Frac_at_impl_SolveFracs_1kp (codeAt slices_IndexFunc_impl_Frac_impl_Frac_at_impl_SolveFracs_1c [1, 0, 1, 0, 0])) (canon 1 (slices_IndexFunc_impl_Frac_impl_Frac_at_impl_SolveFracs_1kp.loop 2)) (kAt ([impl_SolveFracs_1F n]) ty 19 1 n slices_IndexFunc_impl_Frac_impl_Frac_at_impl_SolveFracs_1kp slices_IndexFunc_impl_Frac_impl_Frac_at_impl_SolveFracs_1c [1, 0, 1, 0] [] (ending ty 1 Go.Proofs.Try.f123.results.toList slices_IndexFunc_impl_Frac_impl_Frac_at_impl_SolveFracs_1rs slices_IndexFunc_impl_Frac_impl_Frac_at_impl_SolveFracs_1bs)) k { env := [(8, .one (.sc (.int .i64 v8))), (0, .one (.list true (.list (.pair (.int .i64) (.int .i64))) v0)), (1, .one (.clos 63 (0 :: []))), (7, .one (.sc (.int .i64 v7)))], bx := [(0, .var 3 [.sc (.int .i64 b0)])], nx := 1 }) a0 b0 := by kernel_rfl
  rw [h]
  have e := congrArg (fun h2 => slices_IndexFunc_impl_Frac_impl_Frac_at_impl_SolveFracs_1_t n h2 a0 b0) (funext fun k => funext fun v8 => funext fun v0 => funext fun v7 => funext fun b0 => slices_IndexFunc_impl_Frac_impl_Frac_at_impl_SolveFracs_1_l2_eq n k v8 v0 v7 b0)
  exact e

theorem slices_IndexFunc_impl_Frac_impl_Frac_at_impl_SolveFracs_1_ok (n : Nat) : FunOk P (slices_IndexFunc_impl_Frac_impl_Frac_at_impl_SolveFracs_1F n) :=
  funOk_mk (C := [impl_SolveFracs_1F n]) (N := 19) (kp := slices_IndexFunc_impl_Frac_impl_Frac_at_impl_SolveFracs_1kp) (c := slices_IndexFunc_impl_Frac_impl_Frac_at_impl_SolveFracs_1c) (n := n) (G := fun x y => slices_IndexFunc_impl_Frac_impl_Frac_at_impl_SolveFracs_1 n x.1 y.1) follows (AllOk.mem (⟨impl_SolveFracs_1_ok n, trivial⟩ : AllOk P ([impl_SolveFracs_1F n]))) (by kernel_rfl : P.funcs[123]? = some Go.Proofs.Try.f123) (by kernel_rfl) (by kernel_rfl) (by kernel_rfl)
    (fun x y => slices_IndexFunc_impl_Frac_impl_Frac_at_impl_SolveFracs_1_eq n x.1 y.1) (fun _ _ => map_same (fun _ => rfl) _) (fun _ _ _ _ => rfl)

abbrev slices_ContainsFunc_impl_Frac_impl_Frac_at_impl_SolveFracs_1sp : List Sp := [.v false (.list (.list (.pair (.int .i64) (.int .i64)))), .cl 63 [0]]
abbrev slices_ContainsFunc_impl_Frac_impl_Frac_at_impl_SolveFracs_1bs : List (Bs × Bool) := [(.var 3 (.int .i64), true)]
abbrev slices_ContainsFunc_impl_Frac_impl_Frac_at_impl_SolveFracs_1rs : List (Bool × List Rp) := [(false, [.v false .bool])]
noncomputable def slices_ContainsFunc_impl_Frac_impl_Frac_at_impl_SolveFracs_1kp : Keep := { loop := fun id => match id with | _ => ([], []), join := fun id => match id with | _ => none }
noncomputable def slices_ContainsFunc_impl_Frac_impl_Frac_at_impl_SolveFracs_1c : Code := bodyOf Go.Proofs.Try.f62
noncomputable def slices_ContainsFunc_impl_Frac_impl_Frac_at_impl_SolveFracs_1F (n : Nat) : Fun := { id := 62, sp := slices_ContainsFunc_impl_Frac_impl_Frac_at_impl_SolveFracs_1sp, bs := slices_ContainsFunc_impl_Frac_impl_Frac_at_impl_SolveFracs_1bs, rs := slices_ContainsFunc_impl_Frac_impl_Frac_at_impl_SolveFracs_1rs, f := fun x y => slices_ContainsFunc_impl_Frac_impl_Frac_at_impl_SolveFracs_1 n x.1 y.1 }

theorem slices_ContainsFunc_impl_Frac_impl_Frac_at_impl_SolveFracs_1_eq (n : Nat) (a0 : List (List ((Int) × (Int)))) (b0 : Int) : runBody ([slices_IndexFunc_impl_Frac_impl_Frac_at_impl_SolveFracs_1F n]) ty 9 n slices_ContainsFunc_impl_Frac_impl_Frac_at_impl_SolveFracs_1kp slices_ContainsFunc_impl_Frac_impl_Frac_at_impl_SolveFracs_1c Go.Proofs.Try.f62.results.toList slices_ContainsFunc_impl_Frac_impl_Frac_at_impl_SolveFracs_1rs slices_ContainsFunc_impl_Frac_impl_Frac_at_impl_SolveFracs_1sp slices_ContainsFunc_impl_Frac_impl_Frac_at_impl_SolveFracs_1bs (a0, ((), ())) (b0, ()) = slices_ContainsFunc_impl_Frac_impl_Frac_at_impl_SolveFracs_1 n a0 b0 := by
  have h : runBody ([slices_IndexFunc_impl_Frac_impl_Frac_at_impl_SolveFracs_1F n]) ty 9 n slices_ContainsFunc_impl_Frac_impl_Frac_at_impl_SolveFracs_1kp slices_ContainsFunc_impl_Frac_impl_Frac_at_impl_SolveFracs_1c Go.Proofs.Try.f62.results.toList slices_ContainsFunc_impl_Frac_impl_Frac_at_impl_SolveFracs_1rs slices_ContainsFunc_impl_Frac_impl_Frac_at_impl_SolveFracs_1sp slices_ContainsFunc_impl_Frac_impl_Frac_at_impl_SolveFracs_1bs (a0, ((), ())) (b0, ()) = slices_ContainsFunc_impl_Frac_impl_Frac_at_impl_SolveFracs_1_t n a0 b0 := by kernel_rfl
  rw [h]
  rfl

theorem slices_ContainsFunc_impl_Frac_impl_Frac_at_impl_SolveFracs_1_ok (n : Nat) : FunOk P (slices_ContainsFunc_impl_Frac_impl_Frac_at_impl_SolveFracs_1F n) :=
  funOk_mk (C := [slices_IndexFunc_impl_Frac_impl_Frac_at_impl_SolveFracs_1F n]) (N := 9) (kp := slices_ContainsFunc_impl_Frac_impl_Frac_at_impl_SolveFracs_1kp) (c := slices_ContainsFunc_impl_Frac_impl_Frac_at_impl_SolveFracs_1c) (n := n) (G := fun x y => slices_ContainsFunc_impl_Frac_impl_Frac_at_impl_SolveFracs_1 n x.1 y.1) follows (AllOk.mem (⟨slices_IndexFunc_impl_Frac_impl_Frac_at_impl_SolveFracs_1_ok n, trivial⟩ : AllOk P ([slices_IndexFunc_impl_Frac_impl_Frac_at_impl_SolveFracs_1F n]))) (by kernel_rfl : P.funcs[62]? = some Go.Proofs.Try.f62) (by kernel_rfl) (by kernel_rfl) (by kernel_rfl)
    (fun x y => slices_ContainsFunc_impl_Frac_impl_Frac_at_impl_SolveFracs_1_eq n x.1 y.1) (fun _ _ => map_same (fun _ => rfl) _) (fun _ _ _ _ => rfl)

abbrev impl_SolveFracssp : List Sp := [.v false (.list (.list (.pair (.int .i64) (.int .i64)))), .v false (.list (.pair (.int .i64) (.int .i64)))]
abbrev impl_SolveFracsbs : List (Bs × Bool) := []
abbrev impl_SolveFracsrs : List (Bool × List Rp) := [(false, [.new  (.pair (.int .i64) (.int .i64))]), (false, [.v false (.int .i64)])]
noncomputable def impl_SolveFracskp : Keep := { loop := fun id => match id with | 2 => ([20, 18, 1, 0, 19], []) | 12 => ([54, 9, 11, 10, 8, 53], []) | 20 => ([70, 10, 11, 9, 69], []) | _ => ([], []), join := fun id => match id with | _ => none }
noncomputable def impl_SolveFracsc : Code := bodyOf Go.Proofs.Try.f14
noncomputable def impl_SolveFracsF (n : Nat) : Fun := { id := 14, sp := impl_SolveFracssp, bs := impl_SolveFracsbs, rs := impl_SolveFracsrs, f := fun x y => impl_SolveFracs n x.1 x.2.1 }

theorem impl_SolveFracs_l20_eq (n : Nat) : ∀ (k : Nat) (v70 : Int) (v69 : Int) (b0p : List Nat) (b0i : List (List ((Int) × (Int)))) (b1 : List ((Int) × (Int))) (b2 : Bool), iter (interp ([impl_copyRowsF n, impl_areValidF n, slices_ContainsFunc_impl_Frac_impl_Frac_at_impl_SolveFracs_1F n, slices_Clone_impl_Frac_impl_FracF n, impl_calc_eliminateF n, impl_calc_divF n]) typ 95 0 n impl_SolveFracskp (codeAt impl_SolveFracsc [1, 1, 1, 1, 1, 1, 0, 1, 0, 0])) (canon 0 (impl_SolveFracskp.loop 20)) (kAt ([impl_copyRowsF n, impl_areValidF n, slices_ContainsFunc_impl_Frac_impl_Frac_at_impl_SolveFracs_1F n, slices_Clone_impl_Frac_impl_FracF n, impl_calc_eliminateF n, impl_calc_divF n]) typ 95 0 n impl_SolveFracskp impl_SolveFracsc [1, 1, 1, 1, 1, 1, 0, 1, 0] [] (ending typ 0 Go.Proofs.Try.f14.results.toList impl_SolveFracsrs impl_SolveFracsbs)) k { env := [(70, .one (.sc (.int .i64 v70))), (10, .one (.slice 0 0 none)), (11, .one (.slice 1 0 none)), (9, .one (.ref 2 0 0 0 0 0)), (69, .one (.sc (.int .i64 v69)))], bx := [(0, .pool 0 (.pair (.int .i64) (.int .i64)) b0p b0i), (1, .row 0 (.pair (.int .i64) (.int .i64)) b1), (2, .var 89 [.sc (.bool b2)])], nx := 3 } = impl_SolveFracs_l20 n k v70 v69 b0p b0i b1 b2
  | 0, _, _, _, _, _, _ => by kernel_rfl
  | k + 1, v70, v69, b0p, b0i, b1, b2 => by
    have h : iter (interp ([impl_copyRowsF n, impl_areValidF n, slices_ContainsFunc_impl_Frac_impl_Frac_at_impl_SolveFracs_1F n, slices_Clone_impl_Frac_impl_FracF n, impl_calc_eliminateF n, impl_calc_divF n]) typ 95 0 n impl_SolveFracskp (codeAt impl_SolveFracsc [1, 1, 1, 1, 1, 1, 0, 1, 0, 0])) (canon 0 (impl_SolveFracskp.loop 20)) (kAt ([impl_copyRowsF n, impl_areValidF n, slices_ContainsFunc_impl_Frac_impl_Frac_at_impl_SolveFracs_1F n, slices_Clone_impl_Frac_impl_FracF n, impl_calc_eliminateF n, impl_calc_divF n]) typ 95 0 n impl_SolveFracskp impl_SolveFracsc [1, 1, 1, 1, 1, 1, 0, 1, 0] [] (ending typ 0 Go.Proofs.Try.f14.results.toList impl_SolveFracsrs impl_SolveFracsbs)) (k + 1) { env := [(70, .one (.sc (.int .i64 v70))), (10, .one (.slice 0 0 none)), (11, .one (.slice 1 0 none)), (9, .one (.ref 2 0 0 0 0 0)), (69, .one (.sc (.int .i64 v69)))], bx := [(0, .pool 0 (.pair (.int .i64) (.int .i64)) b0p b0i), (1, .row 0 (.pair (.int .i64) (.int .i64)) b1), (2, .var 89 [.sc (.bool b2)])], nx := 3 } = impl_SolveFracs_t20 n (fun v70 v69 b0p b0i b1 b2 => iter (interp ([impl_copyRowsF n, impl_areValidF n, slices_ContainsFunc_impl_Frac_impl_Frac_at_impl_SolveFracs_1F n, slices_Clone_impl_Frac_impl_FracF n, impl_calc_eliminateF n, impl_calc_divF n]) typ 95 0 n impl_SolveFracskp (codeAt impl_SolveFracsc [1, 1, 1, 1, 1, 1, 0, 1, 0, 0])) (canon 0 (impl_SolveFracskp.loop 20)) (kAt ([impl_copyRowsF n, impl_areValidF n, slices_ContainsFunc_impl_Frac_impl_Frac_at_impl_SolveFracs_1F n, slices_Clone_impl_Frac_impl_FracF n, impl_calc_eliminateF n, impl_calc_divF n]) typ 95 0 n impl_SolveFracskp impl_SolveFracsc [1, 1, 1, 1, 1, 1, 0, 1, 0] [] (ending typ 0 Go.Proofs.Try.f14.results.toList impl_SolveFracsrs impl_SolveFracsbs)) k { env := [(70, .one (.sc (.int .i64 v70))), (10, .one (.slice 0 0 none)), (11, .one (.slice 1 0 none)), (9, .one (.ref 2 0 0 0 0 0)), (69, .one (.sc (.int .i64 v69)))], bx := [(0, .pool 0 (.pair (.int .i64) (.int .i64)) b0p b0i), (1, .row 0 (.pair (.int .i64) (.int .i64)) b1), (2, .var 89 [.sc (.bool b2)])], nx := 3 }) v70 v69 b0p b0i b1 b2 := by kernel_rfl
    rw [h]
    have e := congrArg (fun g => impl_SolveFracs_t20 n g v70 v69 b0p b0i b1 b2) (funext fun v70 => funext fun v69 => funext fun b0p => funext fun b0i => funext fun b1 => funext fun b2 => impl_SolveFracs_l20_eq n k v70 v69 b0p b0i b1 b2)
    exact e

theorem impl_SolveFracs_l12_eq (n : Nat) : ∀ (k : Nat) (v54 : Int) (v53 : Int) (b0 : Bool) (b1 : List ((Int) × (Int))) (b2p : List Nat) (b2i : List (List ((Int) × (Int)))) (b3 : Int), iter (interp ([impl_copyRowsF n, impl_areValidF n, slices_ContainsFunc_impl_Frac_impl_Frac_at_impl_SolveFracs_1F n, slices_Clone_impl_Frac_impl_FracF n, impl_calc_eliminateF n, impl_calc_divF n]) typ 95 0 n impl_SolveFracskp (codeAt impl_SolveFracsc [1, 1, 1, 1, 1, 0, 1, 0, 0])) (canon 0 (impl_SolveFracskp.loop 12)) (kAt ([impl_copyRowsF n, impl_areValidF n, slices_ContainsFunc_impl_Frac_impl_Frac_at_impl_SolveFracs_1F n, slices_Clone_impl_Frac_impl_FracF n, impl_calc_eliminateF n, impl_calc_divF n]) typ 95 0 n impl_SolveFracskp impl_SolveFracsc [1, 1, 1, 1, 1, 0, 1, 0] [] (ending typ 0 Go.Proofs.Try.f14.results.toList impl_SolveFracsrs impl_SolveFracsbs)) k { env := [(54, .one (.sc (.int .i64 v54))), (9, .one (.ref 0 0 0 0 0 0)), (11, .one (.slice 1 0 none)), (10, .one (.slice 2 0 none)), (8, .one (.ref 3 0 0 0 0 0)), (53, .one (.sc (.int .i64 v53)))], bx := [(0, .var 89 [.sc (.bool b0)]), (1, .row 0 (.pair (.int .i64) (.int .i64)) b1), (2, .pool 0 (.pair (.int .i64) (.int .i64)) b2p b2i), (3, .var 3 [.sc (.int .i64 b3)])], nx := 4 } = impl_SolveFracs_l12 n k v54 v53 b0 b1 b2p b2i b3
  | 0, _, _, _, _, _, _, _ => by kernel_rfl
  | k + 1, v54, v53, b0, b1, b2p, b2i, b3 => by
    have h : iter (interp ([impl_copyRowsF n, impl_areValidF n, slices_ContainsFunc_impl_Frac_impl_Frac_at_impl_SolveFracs_1F n, slices_Clone_impl_Frac_impl_FracF n, impl_calc_eliminateF n, impl_calc_divF n]) typ 95 0 n impl_SolveFracskp (codeAt impl_SolveFracsc [1, 1, 1, 1, 1, 0, 1, 0, 0])) (canon 0 (impl_SolveFracskp.loop 12)) (kAt ([impl_copyRowsF n, impl_areValidF n, slices_ContainsFunc_impl_Frac_impl_Frac_at_impl_SolveFracs_1F n, slices_Clone_impl_Frac_impl_FracF n, impl_calc_eliminateF n, impl_calc_divF n]) typ 95 0 n impl_SolveFracskp impl_SolveFracsc [1, 1, 1, 1, 1, 0, 1, 0] [] (ending typ 0 Go.Proofs.Try.f14.results.toList impl_SolveFracsrs impl_SolveFracsbs)) (k + 1) { env := [(54, .one (.sc (.int .i64 v54))), (9, .one (.ref 0 0 0 0 0 0)), (11, .one (.slice 1 0 none)), (10, .one (.slice 2 0 none)), (8, .one (.ref 3 0 0 0 0 0)), (53, .one (.sc (.int .i64 v53)))], bx := [(0, .var 89 [.sc (.bool b0)]), (1, .row 0 (.pair (.int .i64) (.int .i64)) b1), (2, .pool 0 (.pair (.int .i64) (.int .i64)) b2p b2i), (3, .var 3 [.sc (.int .i64 b3)])], nx := 4 } = impl_SolveFracs_t12 n (fun k' v70 v69 b0p b0i b1 b2 => iter (interp ([impl_copyRowsF n, impl_areValidF n, slices_ContainsFunc_impl_Frac_impl_Frac_at_impl_SolveFracs_1F n, slices_Clone_impl_Frac_impl_FracF n, impl_calc_eliminateF n, impl_calc_divF n]) typ 95 0 n impl_SolveFracskp (codeAt impl_SolveFracsc [1, 1, 1, 1, 1, 1, 0, 1, 0, 0])) (canon 0 (impl_SolveFracskp.loop 20)) (kAt ([impl_copyRowsF n, impl_areValidF n, slices_ContainsFunc_impl_Frac_impl_Frac_at_impl_SolveFracs_1F n, slices_Clone_impl_Frac_impl_FracF n, impl_calc_eliminateF n, impl_calc_divF n]) typ 95 0 n impl_SolveFracskp impl_SolveFracsc [1, 1, 1, 1, 1, 1, 0, 1, 0] [] (ending typ 0 Go.Proofs.Try.f14.results.toList impl_SolveFracsrs impl_SolveFracsbs)) k' { env := [(70, .one (.sc (.int .i64 v70))), (10, .one (.slice 0 0 none)), (11, .one (.slice 1 0 none)), (9, .one (.ref 2 0 0 0 0 0)), (69, .one (.sc (.int .i64 v69)))], bx := [(0, .pool 0 (.pair (.int .i64) (.int .i64)) b0p b0i), (1, .row 0 (.pair (.int .i64) (.int .i64)) b1), (2, .var 89 [.sc (.bool b2)])], nx := 3 }) (fun v54 v53 b0 b1 b2p b2i b3 => iter (interp ([impl_copyRowsF n, impl_areValidF n, slices_ContainsFunc_impl_Frac_impl_Frac_at_impl_SolveFracs_1F n, slices_Clone_impl_Frac_impl_FracF n, impl_calc_eliminateF n, impl_calc_divF n]) typ 95 0 n impl_SolveFracskp (codeAt impl_SolveFracsc [1, 1, 1, 1, 1, 0, 1, 0, 0])) (canon 0 (impl_SolveFracskp.loop 12)) (kAt ([impl_copyRowsF n, impl_areValidF n, slices_ContainsFunc_impl_Frac_impl_Frac_at_impl_SolveFracs_1F n, slices_Clone_impl_Frac_impl_FracF n, impl_calc_eliminateF n, impl_calc_divF n]) typ 95 0 n impl_SolveFracskp impl_SolveFracsc [1, 1, 1, 1, 1, 0, 1, 0] [] (ending typ 0 Go.Proofs.Try.f14.results.toList impl_SolveFracsrs impl_SolveFracsbs)) k { env := [(54, .one (.sc (.int .i64 v54))), (9, .one (.ref 0 0 0 0 0 0)), (11, .one (.slice 1 0 none)), (10, .one (.slice 2 0 none)), (8, .one (.ref 3 0 0 0 0 0)), (53, .one (.sc (.int .i64 v53)))], bx := [(0, .var 89 [.sc (.bool b0)]), (1, .row 0 (.pair (.int .i64) (.int .i64)) b1), (2, .pool 0 (.pair (.int .i64) (.int .i64)) b2p b2i), (3, .var 3 [.sc (.int .i64 b3)])], nx := 4 }) v54 v53 b0 b1 b2p b2i b3 := by kernel_rfl
    rw [h]
    have e := congr (congrArg (fun h20 g => impl_SolveFracs_t12 n h20 g v54 v53 b0 b1 b2p b2i b3) (funext fun k' => funext fun v70 => funext fun v69 => funext fun b0p => funext fun b0i => funext fun b1 => funext fun b2 => impl_SolveFracs_l20_eq n k' v70 v69 b0p b0i b1 b2)) (funext fun v54 => funext fun v53 => funext fun b0 => funext fun b1 => funext fun b2p => funext fun b2i => funext fun b3 => impl_SolveFracs_l12_eq n k v54 v53 b0 b1 b2p b2i b3)
    exact e

theorem impl_SolveFracs_l2_eq (n : Nat) : ∀ (k : Nat) (v20 : Int) (v18 : List (List ((Int) × (Int)))) (v1 : List ((Int) × (Int))) (v0 : List (List ((Int) × (Int)))) (v19 : Int), iter (interp ([impl_copyRowsF n, impl_areValidF n, slices_ContainsFunc_impl_Frac_impl_Frac_at_impl_SolveFracs_1F n, slices_Clone_impl_Frac_impl_FracF n, impl_calc_eliminateF n, impl_calc_divF n]) typ 95 0 n impl_SolveFracskp (codeAt impl_SolveFracsc [1, 0, 1, 0, 0])) (canon 0 (impl_SolveFracskp.loop 2)) (kAt ([impl_copyRowsF n, impl_areValidF n, slices_ContainsFunc_impl_Frac_impl_Frac_at_impl_SolveFracs_1F n, slices_Clone_impl_Frac_impl_FracF n, impl_calc_eliminateF n, impl_calc_divF n]) typ 95 0 n impl_SolveFracskp impl_SolveFracsc [1, 0, 1, 0] [] (ending typ 0 Go.Proofs.Try.f14.results.toList impl_SolveFracsrs impl_SolveFracsbs)) k { env := [(20, .one (.sc (.int .i64 v20))), (18, .one (.list true (.list (.pair (.int .i64) (.int .i64))) v18)), (1, .one (.list true (.pair (.int .i64) (.int .i64)) v1)), (0, .one (.list true (.list (.pair (.int .i64) (.int .i64))) v0)), (19, .one (.sc (.int .i64 v19)))], bx := [], nx := 0 } = impl_SolveFracs_l2 n k v20 v18 v1 v0 v19
  | 0, _, _, _, _, _ => by kernel_rfl
  | k + 1, v20, v18, v1, v0, v19 => by
    have h : iter (interp ([impl_copyRowsF n, impl_areValidF n, slices_ContainsFunc_impl_Frac_impl_Frac_at_impl_SolveFracs_1F n, slices_Clone_impl_Frac_impl_FracF n, impl_calc_eliminateF n, impl_calc_divF n]) typ 95 0 n impl_SolveFracskp (codeAt impl_SolveFracsc [1, 0, 1, 0, 0])) (canon 0 (impl_SolveFracskp.loop 2)) (kAt ([impl_copyRowsF n, impl_areValidF n, slices_ContainsFunc_impl_Frac_impl_Frac_at_impl_SolveFracs_1F n, slices_Clone_impl_Frac_impl_FracF n, impl_calc_eliminateF n, impl_calc_divF n]) typ 95 0 n impl_SolveFracskp impl_SolveFracsc [1, 0, 1, 0] [] (ending typ 0 Go.Proofs.Try.f14.results.toList impl_SolveFracsrs impl_SolveFracsbs)) (k + 1) { env := [(20, .one (.sc (.int .i64 v20))), (18, .one (.list true (.list (.pair (.int .i64) (.int .i64))) v18)), (1, .one (.list true (.pair (.int .i64) (.int .i64)) v1)), (0, .one (.list true (.list (.pair (.int .i64) (.int .i64))) v0)), (19, .one (.sc (.int .i64 v19)))], bx := [], nx := 0 } = impl_SolveFracs_t2 n (fun k' v54 v53 b0 b1 b2p b2i b3 => iter (interp ([impl_copyRowsF n, impl_areValidF n, slices_ContainsFunc_impl_Frac_impl_Frac_at_impl_SolveFracs_1F n, slices_Clone_impl_Frac_impl_FracF n, impl_calc_eliminateF n, impl_calc_divF n]) typ 95 0 n impl_SolveFracskp (codeAt impl_SolveFracsc [1, 1, 1, 1, 1, 0, 1, 0, 0])) (canon 0 (impl_SolveFracskp.loop 12)) (kAt ([impl_copyRowsF n, impl_areValidF n, slices_ContainsFunc_impl_Frac_impl_Frac_at_impl_SolveFracs_1F n, slices_Clone_impl_Frac_impl_FracF n, impl_calc_eliminateF n, impl_calc_divF n]) typ 95 0 n impl_SolveFracskp impl_SolveFracsc [1, 1, 1, 1, 1, 0, 1, 0] [] (ending typ 0 Go.Proofs.Try.f14.results.toList impl_SolveFracsrs impl_SolveFracsbs)) k' { env := [(54, .one (.sc (.int .i64 v54))), (9, .one (.ref 0 0 0 0 0 0)), (11, .one (.slice 1 0 none)), (10, .one (.slice 2 0 none)), (8, .one (.ref 3 0 0 0 0 0)), (53, .one (.sc (.int .i64 v53)))], bx := [(0, .var 89 [.sc (.bool b0)]), (1, .row 0 (.pair (.int .i64) (.int .i64)) b1), (2, .pool 0 (.pair (.int .i64) (.int .i64)) b2p b2i), (3, .var 3 [.sc (.int .i64 b3)])], nx := 4 }) (fun v20 v18 v1 v0 v19 => iter (interp ([impl_copyRowsF n, impl_areValidF n, slices_ContainsFunc_impl_Frac_impl_Frac_at_impl_SolveFracs_1F n, slices_Clone_impl_Frac_impl_FracF n, impl_calc_eliminateF n, impl_calc_divF n]) typ 95 0 n impl_SolveFracskp (codeAt impl_SolveFracsc [1, 0, 1, 0, 0])) (canon 0 (impl_SolveFracskp.loop 2)) (kAt ([impl_copyRowsF n, impl_areValidF n, slices_ContainsFunc_impl_Frac_impl_Frac_at_impl_SolveFracs_1F n, slices_Clone_impl_Frac_impl_FracF n, impl_calc_eliminateF n, impl_calc_divF n]) typ 95 0 n impl_SolveFracskp impl_SolveFracsc [1, 0, 1, 0] [] (ending typ 0 Go.Proofs.Try.f14.results.toList impl_SolveFracsrs impl_SolveFracsbs)) k { env := [(20, .one (.sc (.int .i64 v20))), (18, .one (.list true (.list (.pair (.int .i64) (.int .i64))) v18)), (1, .one (.list true (.pair (.int .i64) (.int .i64)) v1)), (0, .one (.list true (.list (.pair (.int .i64) (.int .i64))) v0)), (19, .one (.sc (.int .i64 v19)))], bx := [], nx := 0 }) v20 v18 v1 v0 v19 := by kernel_rfl
    rw [h]
    have e := congr (congrArg (fun h12 g => impl_SolveFracs_t2 n h12 g v20 v18 v1 v0 v19) (funext fun k' => funext fun v54 => funext fun v53 => funext fun b0 => funext fun b1 => funext fun b2p => funext fun b2i => funext fun b3 => impl_SolveFracs_l12_eq n k' v54 v53 b0 b1 b2p b2i b3)) (funext fun v20 => funext fun v18 => funext fun v1 => funext fun v0 => funext fun v19 => impl_SolveFracs_l2_eq n k v20 v18 v1 v0 v19)
    exact e

theorem impl_SolveFracs_eq (n : Nat) (a0 : List (List ((Int) × (Int)))) (a1 : List ((Int) × (Int))) : runBody ([impl_copyRowsF n, impl_areValidF n, slices_ContainsFunc_impl_Frac_impl_Frac_at_impl_SolveFracs_1F n, slices_Clone_impl_Frac_impl_FracF n, impl_calc_eliminateF n, impl_calc_divF n]) typ 95 n impl_SolveFracskp impl_SolveFracsc Go.Proofs.Try.f14.results.toList impl_SolveFracsrs impl_SolveFracssp impl_SolveFracsbs (a0, (a1, ())) () = impl_SolveFracs n a0 a1 := by
  have h : runBody ([impl_copyRowsF n, impl_areValidF n, slices_ContainsFunc_impl_Frac_impl_Frac_at_impl_SolveFracs_1F n, slices_Clone_impl_Frac_impl_FracF n, impl_calc_eliminateF n, impl_calc_divF n]) typ 95 n impl_SolveFracskp impl_SolveFracsc Go.Proofs.Try.f14.results.toList impl_SolveFracsrs impl_SolveFracssp impl_SolveFracsbs (a0, (a1, ())) () = impl_SolveFracs_t n (fun k v20 v18 v1 v0 v19 => iter (interp ([impl_copyRowsF n, impl_areValidF n, slices_ContainsFunc_impl_Frac_impl_Frac_at_impl_SolveFracs_1F n, slices_Clone_impl_Frac_impl_FracF n, impl_calc_eliminateF n, impl_calc_divF n]) typ 95 0 n impl_SolveFracskp (codeAt impl_SolveFracsc [1, 0, 1, 0, 0])) (canon 0 (impl_SolveFracskp.loop 2)) (kAt ([impl_copyRowsF n, impl_areValidF n, slices_ContainsFunc_impl_Frac_impl_Frac_at_impl_SolveFracs_1F n, slices_Clone_impl_Frac_impl_FracF n, impl_calc_eliminateF n, impl_calc_divF n]) typ 95 0 n impl_SolveFracskp impl_SolveFracsc [1, 0, 1, 0] [] (ending typ 0 Go.Proofs.Try.f14.results.toList impl_SolveFracsrs impl_SolveFracsbs)) k { env := [(20, .one (.sc (.int .i64 v20))), (18, .one (.list true (.list (.pair (.int .i64) (.int .i64))) v18)), (1, .one (.list true (.pair (.int .i64) (.int .i64)) v1)), (0, .one (.list true (.list (.pair (.int .i64) (.int .i64))) v0)), (19, .one (.sc (.int .i64 v19)))], bx := [], nx := 0 }) a0 a1 := by kernel_rfl
  rw [h]
  have e := congrArg (fun h2 => impl_SolveFracs_t n h2 a0 a1) (funext fun k => funext fun v20 => funext fun v18 => funext fun v1 => funext fun v0 => funext fun v19 => impl_SolveFracs_l2_eq n k v20 v18 v1 v0 v19)
  exact e

theorem impl_SolveFracs_ok (n : Nat) : FunOk P (impl_SolveFracsF n) :=
  funOk_mkP (C := [impl_copyRowsF n, impl_areValidF n, slices_ContainsFunc_impl_Frac_impl_Frac_at_impl_SolveFracs_1F n, slices_Clone_impl_Frac_impl_FracF n, impl_calc_eliminateF n, impl_calc_divF n]) (N := 95) (kp := impl_SolveFracskp) (c := impl_SolveFracsc) (n := n) (G := fun x y => impl_SolveFracs n x.1 x.2.1) follows (AllOk.mem (⟨impl_copyRows_ok n, ⟨impl_areValid_ok n, ⟨slices_ContainsFunc_impl_Frac_impl_Frac_at_impl_SolveFracs_1_ok n, ⟨slices_Clone_impl_Frac_impl_Frac_ok n, ⟨impl_calc_eliminate_ok n, ⟨impl_calc_div_ok n, trivial⟩⟩⟩⟩⟩⟩ : AllOk P ([impl_copyRowsF n, impl_areValidF n, slices_ContainsFunc_impl_Frac_impl_Frac_at_impl_SolveFracs_1F n, slices_Clone_impl_Frac_impl_FracF n, impl_calc_eliminateF n, impl_calc_divF n]))) (by kernel_rfl : P.funcs[14]? = some Go.Proofs.Try.f14) (by kernel_rfl) (by kernel_rfl) (by kernel_rfl)
    (fun x y => impl_SolveFracs_eq n x.1 x.2.1) (fun _ _ => map_same (fun _ => rfl) _) (fun _ _ _ _ => rfl)

abbrev laws_eqFracsp : List Sp := [.v true (.pair (.int .i64) (.int .i64)), .v true (.pair (.int .i64) (.int .i64))]
abbrev laws_eqFracbs : List (Bs × Bool) := []
abbrev laws_eqFracrs : List (Bool × List Rp) := [(false, [.v false .bool])]
noncomputable def laws_eqFrackp : Keep := { loop := fun id => match id with | _ => ([], []), join := fun id => match id with | _ => none }
noncomputable def laws_eqFracc : Code := bodyOf Go.Proofs.Try.f105
noncomputable def laws_eqFracF (n : Nat) : Fun := { id := 105, sp := laws_eqFracsp, bs := laws_eqFracbs, rs := laws_eqFracrs, f := fun x y => laws_eqFrac n x.1 x.2.1 }

theorem laws_eqFrac_eq (n : Nat) (a0 : (Int) × (Int)) (a1 : (Int) × (Int)) : runBody ([]) ty 15 n laws_eqFrackp laws_eqFracc Go.Proofs.Try.f105.results.toList laws_eqFracrs laws_eqFracsp laws_eqFracbs (a0, (a1, ())) () = laws_eqFrac n a0 a1 := by
  have h : runBody ([]) ty 15 n laws_eqFrackp laws_eqFracc Go.Proofs.Try.f105.results.toList laws_eqFracrs laws_eqFracsp laws_eqFracbs (a0, (a1, ())) () = laws_eqFrac_t n a0 a1 := by kernel_rfl
  rw [h]
  rfl

theorem laws_eqFrac_ok (n : Nat) : FunOk P (laws_eqFracF n) :=
  funOk_mk (C := []) (N := 15) (kp := laws_eqFrackp) (c := laws_eqFracc) (n := n) (G := fun x y => laws_eqFrac n x.1 x.2.1) follows (AllOk.mem (trivial : AllOk P ([]))) (by kernel_rfl : P.funcs[105]? = some Go.Proofs.Try.f105) (by kernel_rfl) (by kernel_rfl) (by kernel_rfl)
    (fun x y => laws_eqFrac_eq n x.1 x.2.1) (fun _ _ => map_same (fun _ => rfl) _) (fun _ _ _ _ => rfl)

abbrev laws_eqFracSsp : List Sp := [.v false (.list (.pair (.int .i64) (.int .i64))), .v false (.list (.pair (.int .i64) (.int .i64)))]
abbrev laws_eqFracSbs : List (Bs × Bool) := []
abbrev laws_eqFracSrs : List (Bool × List Rp) := [(false, [.v false .bool])]
noncomputable def laws_eqFracSkp : Keep := { loop := fun id => match id with | 4 => ([5, 1, 0], []) | _ => ([], []), join := fun id => match id with | _ => none }
noncomputable def laws_eqFracSc : Code := bodyOf Go.Proofs.Try.f41
noncomputable def laws_eqFracSF (n : Nat) : Fun := { id := 41, sp := laws_eqFracSsp, bs := laws_eqFracSbs, rs := laws_eqFracSrs, f := fun x y => laws_eqFracS n x.1 x.2.1 }

theorem laws_eqFracS_l4_eq (n : Nat) : ∀ (k : Nat) (v5 : Int) (v1 : List ((Int) × (Int))) (v0 : List ((Int) × (Int))), iter (interp ([laws_eqFracF n]) ty 27 0 n laws_eqFracSkp (codeAt laws_eqFracSc [1, 1, 0, 1, 0, 0])) (canon 0 (laws_eqFracSkp.loop 4)) (kAt ([laws_eqFracF n]) ty 27 0 n laws_eqFracSkp laws_eqFracSc [1, 1, 0, 1, 0] [] (ending ty 0 Go.Proofs.Try.f41.results.toList laws_eqFracSrs laws_eqFracSbs)) k { env := [(5, .one (.sc (.int .i64 v5))), (1, .one (.list true (.pair (.int .i64) (.int .i64)) v1)), (0, .one (.list true (.pair (.int .i64) (.int .i64)) v0))], bx := [], nx := 0 } = laws_eqFracS_l4 n k v5 v1 v0
  | 0, _, _, _ => by kernel_rfl
  | k + 1, v5, v1, v0 => by
    have h : iter (interp ([laws_eqFracF n]) ty 27 0 n laws_eqFracSkp (codeAt laws_eqFracSc [1, 1, 0, 1, 0, 0])) (canon 0 (laws_eqFracSkp.loop 4)) (kAt ([laws_eqFracF n]) ty 27 0 n laws_eqFracSkp laws_eqFracSc [1, 1, 0, 1, 0] [] (ending ty 0 Go.Proofs.Try.f41.results.toList laws_eqFracSrs laws_eqFracSbs)) (k + 1) { env := [(5, .one (.sc (.int .i64 v5))), (1, .one (.list true (.pair (.int .i64) (.int .i64)) v1)), (0, .one (.list true (.pair (.int .i64) (.int .i64)) v0))], bx := [], nx := 0 } = laws_eqFracS_t4 n (fun v5 v1 v0 => iter (interp ([laws_eqFracF n]) ty 27 0 n laws_eqFracSkp (codeAt laws_eqFracSc [1, 1, 0, 1, 0, 0])) (canon 0 (laws_eqFracSkp.loop 4)) (kAt ([laws_eqFracF n]) ty 27 0 n laws_eqFracSkp laws_eqFracSc [1, 1, 0, 1, 0] [] (ending ty 0 Go.Proofs.Try.f41.results.toList laws_eqFracSrs laws_eqFracSbs)) k { env := [(5, .one (.sc (.int .i64 v5))), (1, .one (.list true (.pair (.int .i64) (.int .i64)) v1)), (0, .one (.list true (.pair (.int .i64) (.int .i64)) v0))], bx := [], nx := 0 }) v5 v1 v0 := by kernel_rfl
    rw [h]
    have e := congrArg (fun g => laws_eqFracS_t4 n g v5 v1 v0) (funext fun v5 => funext fun v1 => funext fun v0 => laws_eqFracS_l4_eq n k v5 v1 v0)
    exact e

theorem laws_eqFracS_eq (n : Nat) (a0 : List ((Int) × (Int))) (a1 : List ((Int) × (Int))) : runBody ([laws_eqFracF n]) ty 27 n laws_eqFracSkp laws_eqFracSc Go.Proofs.Try.f41.results.toList laws_eqFracSrs laws_eqFracSsp laws_eqFracSbs (a0, (a1, ())) () = laws_eqFracS n a0 a1 := by
  have h : runBody ([laws_eqFracF n]) ty 27 n laws_eqFracSkp laws_eqFracSc Go.Proofs.Try.f41.results.toList laws_eqFracSrs laws_eqFracSsp laws_eqFracSbs (a0, (a1, ())) () = laws_eqFracS_t n (fun k v5 v1 v0 => iter (interp ([laws_eqFracF n]) ty 27 0 n laws_eqFracSkp (codeAt laws_eqFracSc [1, 1, 0, 1, 0, 0])) (canon 0 (laws_eqFracSkp.loop 4)) (kAt ([laws_eqFracF n]) ty 27 0 n laws_eqFracSkp laws_eqFracSc [1, 1, 0, 1, 0] [] (ending ty 0 Go.Proofs.Try.f41.results.toList laws_eqFracSrs laws_eqFracSbs)) k { env := [(5, .one (.sc (.int .i64 v5))), (1, .one (.list true (.pair (.int .i64) (.int .i64)) v1)), (0, .one (.list true (.pair (.int .i64) (.int .i64)) v0))], bx := [], nx := 0 }) a0 a1 := by kernel_rfl
  rw [h]
  have e := congrArg (fun h4 => laws_eqFracS_t n h4 a0 a1) (funext fun k => funext fun v5 => funext fun v1 => funext fun v0 => laws_eqFracS_l4_eq n k v5 v1 v0)
  exact e

theorem laws_eqFracS_ok (n : Nat) : FunOk P (laws_eqFracSF n) :=
  funOk_mk (C := [laws_eqFracF n]) (N := 27) (kp := laws_eqFracSkp) (c := laws_eqFracSc) (n := n) (G := fun x y => laws_eqFracS n x.1 x.2.1) follows (AllOk.mem (⟨laws_eqFrac_ok n, trivial⟩ : AllOk P ([laws_eqFracF n]))) (by kernel_rfl : P.funcs[41]? = some Go.Proofs.Try.f41) (by kernel_rfl) (by kernel_rfl) (by kernel_rfl)
    (fun x y => laws_eqFracS_eq n x.1 x.2.1) (fun _ _ => map_same (fun _ => rfl) _) (fun _ _ _ _ => rfl)

abbrev laws_eqFracSSsp : List Sp := [.v false (.list (.list (.pair (.int .i64) (.int .i64)))), .v false (.list (.list (.pair (.int .i64) (.int .i64))))]
abbrev laws_eqFracSSbs : List (Bs × Bool) := []
abbrev laws_eqFracSSrs : List (Bool × List Rp) := [(false, [.v false .bool])]
noncomputable def laws_eqFracSSkp : Keep := { loop := fun id => match id with | 4 => ([5, 1, 0], []) | _ => ([], []), join := fun id => match id with | _ => none }
noncomputable def laws_eqFracSSc : Code := bodyOf Go.Proofs.Try.f42
noncomputable def laws_eqFracSSF (n : Nat) : Fun := { id := 42, sp := laws_eqFracSSsp, bs := laws_eqFracSSbs, rs := laws_eqFracSSrs, f := fun x y => laws_eqFracSS n x.1 x.2.1 }

theorem laws_eqFracSS_l4_eq (n : Nat) : ∀ (k : Nat) (v5 : Int) (v1 : List (List ((Int) × (Int)))) (v0 : List (List ((Int) × (Int)))), iter (interp ([laws_eqFracSF n]) ty 27 0 n laws_eqFracSSkp (codeAt laws_eqFracSSc [1, 1, 0, 1, 0, 0])) (canon 0 (laws_eqFracSSkp.loop 4)) (kAt ([laws_eqFracSF n]) ty 27 0 n laws_eqFracSSkp laws_eqFracSSc [1, 1, 0, 1, 0] [] (ending ty 0 Go.Proofs.Try.f42.results.toList laws_eqFracSSrs laws_eqFracSSbs)) k { env := [(5, .one (.sc (.int .i64 v5))), (1, .one (.list true (.list (.pair (.int .i64) (.int .i64))) v1)), (0, .one (.list true (.list (.pair (.int .i64) (.int .i64))) v0))], bx := [], nx := 0 } = laws_eqFracSS_l4 n k v5 v1 v0
  | 0, _, _, _ => by kernel_rfl
  | k + 1, v5, v1, v0 => by
    have h : iter (interp ([laws_eqFracSF n]) ty 27 0 n laws_eqFracSSkp (codeAt laws_eqFracSSc [1, 1, 0, 1, 0, 0])) (canon 0 (laws_eqFracSSkp.loop 4)) (kAt ([laws_eqFracSF n]) ty 27 0 n laws_eqFracSSkp laws_eqFracSSc [1, 1, 0, 1, 0] [] (ending ty 0 Go.Proofs.Try.f42.results.toList laws_eqFracSSrs laws_eqFracSSbs)) (k + 1) { env := [(5, .one (.sc (.int .i64 v5))), (1, .one (.list true (.list (.pair (.int .i64) (.int .i64))) v1)), (0, .one (.list true (.list (.pair (.int .i64) (.int .i64))) v0))], bx := [], nx := 0 } = laws_eqFracSS_t4 n (fun v5 v1 v0 => iter (interp ([laws_eqFracSF n]) ty 27 0 n laws_eqFracSSkp (codeAt laws_eqFracSSc [1, 1, 0, 1, 0, 0])) (canon 0 (laws_eqFracSSkp.loop 4)) (kAt ([laws_eqFracSF n]) ty 27 0 n laws_eqFracSSkp laws_eqFracSSc [1, 1, 0, 1, 0] [] (ending ty 0 Go.Proofs.Try.f42.results.toList laws_eqFracSSrs laws_eqFracSSbs)) k { env := [(5, .one (.sc (.int .i64 v5))), (1, .one (.list true (.list (.pair (.int .i64) (.int .i64))) v1)), (0, .one (.list true (.list (.pair (.int .i64) (.int .i64))) v0))], bx := [], nx := 0 }) v5 v1 v0 := by kernel_rfl
    rw [h]
    have e := congrArg (fun g => laws_eqFracSS_t4 n g v5 v1 v0) (funext fun v5 => funext fun v1 => funext fun v0 => laws_eqFracSS_l4_eq n k v5 v1 v0)
    exact e

theorem laws_eqFracSS_eq (n : Nat) (a0 : List (List ((Int) × (Int)))) (a1 : List (List ((Int) × (Int)))) : runBody ([laws_eqFracSF n]) ty 27 n laws_eqFracSSkp laws_eqFracSSc Go.Proofs.Try.f42.results.toList laws_eqFracSSrs laws_eqFracSSsp laws_eqFracSSbs (a0, (a1, ())) () = laws_eqFracSS n a0 a1 := by
  have h : runBody ([laws_eqFracSF n]) ty 27 n laws_eqFracSSkp laws_eqFracSSc Go.Proofs.Try.f42.results.toList laws_eqFracSSrs laws_eqFracSSsp laws_eqFracSSbs (a0, (a1, ())) () = laws_eqFracSS_t n (fun k v5 v1 v0 => iter (interp ([laws_eqFracSF n]) ty 27 0 n laws_eqFracSSkp (codeAt laws_eqFracSSc [1, 1, 0, 1, 0, 0])) (canon 0 (laws_eqFracSSkp.loop 4)) (kAt ([laws_eqFracSF n]) ty 27 0 n laws_eqFracSSkp laws_eqFracSSc [1, 1, 0, 1, 0] [] (ending ty 0 Go.Proofs.Try.f42.results.toList laws_eqFracSSrs laws_eqFracSSbs)) k { env := [(5, .one (.sc (.int .i64 v5))), (1, .one (.list true (.list (.pair (.int .i64) (.int .i64))) v1)), (0, .one (.list true (.list (.pair (.int .i64) (.int .i64))) v0))], bx := [], nx := 0 }) a0 a1 := by kernel_rfl
  rw [h]
  have e := congrArg (fun h4 => laws_eqFracSS_t n h4 a0 a1) (funext fun k => funext fun v5 => funext fun v1 => funext fun v0 => laws_eqFracSS_l4_eq n k v5 v1 v0)
  exact e

theorem laws_eqFracSS_ok (n : Nat) : FunOk P (laws_eqFracSSF n) :=
  funOk_mk (C := [laws_eqFracSF n]) (N := 27) (kp := laws_eqFracSSkp) (c := laws_eqFracSSc) (n := n) (G := fun x y => laws_eqFracSS n x.1 x.2.1) follows (AllOk.mem (⟨laws_eqFracS_ok n, trivial⟩ : AllOk P ([laws_eqFracSF n]))) (by kernel_rfl : P.funcs[42]? = some Go.Proofs.Try.f42) (by kernel_rfl) (by kernel_rfl) (by kernel_rfl)
    (fun x y => laws_eqFracSS_eq n x.1 x.2.1) (fun _ _ => map_same (fun _ => rfl) _) (fun _ _ _ _ => rfl)

abbrev laws_heldFracSsp : List Sp := [.v false (.list (.pair (.int .i64) (.int .i64))), .v false (.int .i64)]
abbrev laws_heldFracSbs : List (Bs × Bool) := []
abbrev laws_heldFracSrs : List (Bool × List Rp) := [(false, [.v false (.int .i64)])]
noncomputable def laws_heldFracSkp : Keep := { loop := fun id => match id with | 2 => ([5, 0, 1], []) | _ => ([], []), join := fun id => match id with | _ => none }
noncomputable def laws_heldFracSc : Code := bodyOf Go.Proofs.Try.f45
noncomputable def laws_heldFracSF (n : Nat) : Fun := { id := 45, sp := laws_heldFracSsp, bs := laws_heldFracSbs, rs := laws_heldFracSrs, f := fun x y => laws_heldFracS n x.1 x.2.1 }

theorem laws_heldFracS_l2_eq (n : Nat) : ∀ (k : Nat) (v5 : Int) (v0 : List ((Int) × (Int))) (v1 : Int), iter (interp ([]) ty 31 0 n laws_heldFracSkp (codeAt laws_heldFracSc [1, 0, 1, 0, 0])) (canon 0 (laws_heldFracSkp.loop 2)) (kAt ([]) ty 31 0 n laws_heldFracSkp laws_heldFracSc [1, 0, 1, 0] [] (ending ty 0 Go.Proofs.Try.f45.results.toList laws_heldFracSrs laws_heldFracSbs)) k { env := [(5, .one (.sc (.int .i64 v5))), (0, .one (.list true (.pair (.int .i64) (.int .i64)) v0)), (1, .one (.sc (.int .i64 v1)))], bx := [], nx := 0 } = laws_heldFracS_l2 n k v5 v0 v1
  | 0, _, _, _ => by kernel_rfl
  | k + 1, v5, v0, v1 => by
    have h : iter (interp ([]) ty 31 0 n laws_heldFracSkp (codeAt laws_heldFracSc [1, 0, 1, 0, 0])) (canon 0 (laws_heldFracSkp.loop 2)) (kAt ([]) ty 31 0 n laws_heldFracSkp laws_heldFracSc [1, 0, 1, 0] [] (ending ty 0 Go.Proofs.Try.f45.results.toList laws_heldFracSrs laws_heldFracSbs)) (k + 1) { env := [(5, .one (.sc (.int .i64 v5))), (0, .one (.list true (.pair (.int .i64) (.int .i64)) v0)), (1, .one (.sc (.int .i64 v1)))], bx := [], nx := 0 } = laws_heldFracS_t2 n (fun v5 v0 v1 => iter (interp ([]) ty 31 0 n laws_heldFracSkp (codeAt laws_heldFracSc [1, 0, 1, 0, 0])) (canon 0 (laws_heldFracSkp.loop 2)) (kAt ([]) ty 31 0 n laws_heldFracSkp laws_heldFracSc [1, 0, 1, 0] [] (ending ty 0 Go.Proofs.Try.f45.results.toList laws_heldFracSrs laws_heldFracSbs)) k { env := [(5, .one (.sc (.int .i64 v5))), (0, .one (.list true (.pair (.int .i64) (.int .i64)) v0)), (1, .one (.sc (.int .i64 v1)))], bx := [], nx := 0 }) v5 v0 v1 := by kernel_rfl
    rw [h]
    have e := congrArg (fun g => laws_heldFracS_t2 n g v5 v0 v1) (funext fun v5 => funext fun v0 => funext fun v1 => laws_heldFracS_l2_eq n k v5 v0 v1)
    exact e

theorem laws_heldFracS_eq (n : Nat) (a0 : List ((Int) × (Int))) (a1 : Int) : runBody ([]) ty 31 n laws_heldFracSkp laws_heldFracSc Go.Proofs.Try.f45.results.toList laws_heldFracSrs laws_heldFracSsp laws_heldFracSbs (a0, (a1, ())) () = laws_heldFracS n a0 a1 := by
  have h : runBody ([]) ty 31 n laws_heldFracSkp laws_heldFracSc Go.Proofs.Try.f45.results.toList laws_heldFracSrs laws_heldFracSsp laws_heldFracSbs (a0, (a1, ())) () = laws_heldFracS_t n (fun k v5 v0 v1 => iter (interp ([]) ty 31 0 n laws_heldFracSkp (codeAt laws_heldFracSc [1, 0, 1, 0, 0])) (canon 0 (laws_heldFracSkp.loop 2)) (kAt ([]) ty 31 0 n laws_heldFracSkp laws_heldFracSc [1, 0, 1, 0] [] (ending ty 0 Go.Proofs.Try.f45.results.toList laws_heldFracSrs laws_heldFracSbs)) k { env := [(5, .one (.sc (.int .i64 v5))), (0, .one (.list true (.pair (.int .i64) (.int .i64)) v0)), (1, .one (.sc (.int .i64 v1)))], bx := [], nx := 0 }) a0 a1 := by kernel_rfl
  rw [h]
  have e := congrArg (fun h2 => laws_heldFracS_t n h2 a0 a1) (funext fun k => funext fun v5 => funext fun v0 => funext fun v1 => laws_heldFracS_l2_eq n k v5 v0 v1)
  exact e

theorem laws_heldFracS_ok (n : Nat) : FunOk P (laws_heldFracSF n) :=
  funOk_mk (C := []) (N := 31) (kp := laws_heldFracSkp) (c := laws_heldFracSc) (n := n) (G := fun x y => laws_heldFracS n x.1 x.2.1) follows (AllOk.mem (trivial : AllOk P ([]))) (by kernel_rfl : P.funcs[45]? = some Go.Proofs.Try.f45) (by kernel_rfl) (by kernel_rfl) (by kernel_rfl)
    (fun x y => laws_heldFracS_eq n x.1 x.2.1) (fun _ _ => map_same (fun _ => rfl) _) (fun _ _ _ _ => rfl)

abbrev laws_markFracSsp : List Sp := [.sl 0, .v false (.int .i64)]
abbrev laws_markFracSbs : List (Bs × Bool) := [(.row  (.pair (.int .i64) (.int .i64)), true)]
abbrev laws_markFracSrs : List (Bool × List Rp) := [(false, [.v false (.int .i64)])]
noncomputable def laws_markFracSkp : Keep := { loop := fun id => match id with | 2 => ([5, 0, 1], []) | _ => ([], []), join := fun id => match id with | _ => none }
noncomputable def laws_markFracSc : Code := bodyOf Go.Proofs.Try.f44
noncomputable def laws_markFracSF (n : Nat) : Fun := { id := 44, sp := laws_markFracSsp, bs := laws_markFracSbs, rs := laws_markFracSrs, f := fun x y => laws_markFracS n x.2.1 y.1 }

theorem laws_markFracS_l2_eq (n : Nat) : ∀ (k : Nat) (v5 : Int) (v1 : Int) (b0 : List ((Int) × (Int))), iter (interp ([]) ty 27 1 n laws_markFracSkp (codeAt laws_markFracSc [1, 0, 1, 0, 0])) (canon 1 (laws_markFracSkp.loop 2)) (kAt ([]) ty 27 1 n laws_markFracSkp laws_markFracSc [1, 0, 1, 0] [] (ending ty 1 Go.Proofs.Try.f44.results.toList laws_markFracSrs laws_markFracSbs)) k { env := [(5, .one (.sc (.int .i64 v5))), (0, .one (.slice 0 0 none)), (1, .one (.sc (.int .i64 v1)))], bx := [(0, .row 0 (.pair (.int .i64) (.int .i64)) b0)], nx := 1 } = laws_markFracS_l2 n k v5 v1 b0
  | 0, _, _, _ => by kernel_rfl
  | k + 1, v5, v1, b0 => by
    have h : iter (interp ([]) ty 27 1 n laws_markFracSkp (codeAt laws_markFracSc [1, 0, 1, 0, 0])) (canon 1 (laws_markFracSkp.loop 2)) (kAt ([]) ty 27 1 n laws_markFracSkp laws_markFracSc [1, 0, 1, 0] [] (ending ty 1 Go.Proofs.Try.f44.results.toList laws_markFracSrs laws_markFracSbs)) (k + 1) { env := [(5, .one (.sc (.int .i64 v5))), (0, .one (.slice 0 0 none)), (1, .one (.sc (.int .i64 v1)))], bx := [(0, .row 0 (.pair (.int .i64) (.int .i64)) b0)], nx := 1 } = laws_markFracS_t2 n (fun v5 v1 b0 => iter (interp ([]) ty 27 1 n laws_markFracSkp (codeAt laws_markFracSc [1, 0, 1, 0, 0])) (canon 1 (laws_markFracSkp.loop 2)) (kAt ([]) ty 27 1 n laws_markFracSkp laws_markFracSc [1, 0, 1, 0] [] (ending ty 1 Go.Proofs.Try.f44.results.toList laws_markFracSrs laws_markFracSbs)) k { env := [(5, .one (.sc (.int .i64 v5))), (0, .one (.slice 0 0 none)), (1, .one (.sc (.int .i64 v1)))], bx := [(0, .row 0 (.pair (.int .i64) (.int .i64)) b0)], nx := 1 }) v5 v1 b0 := by kernel_rfl
    rw [h]
    have e := congrArg (fun g => laws_markFracS_t2 n g v5 v1 b0) (funext fun v5 => funext fun v1 => funext fun b0 => laws_markFracS_l2_eq n k v5 v1 b0)
    exact e

theorem laws_markFracS_eq (n : Nat) (a1 : Int) (b0 : List ((Int) × (Int))) : runBody ([]) ty 27 n laws_markFracSkp laws_markFracSc Go.Proofs.Try.f44.results.toList laws_markFracSrs laws_markFracSsp laws_markFracSbs ((), (a1, ())) (b0, ()) = laws_markFracS n a1 b0 := by
  have h : runBody ([]) ty 27 n laws_markFracSkp laws_markFracSc Go.Proofs.Try.f44.results.toList laws_markFracSrs laws_markFracSsp laws_markFracSbs ((), (a1, ())) (b0, ()) = laws_markFracS_t n (fun k v5 v1 b0 => iter (interp ([]) ty 27 1 n laws_markFracSkp (codeAt laws_markFracSc [1, 0, 1, 0, 0])) (canon 1 (laws_markFracSkp.loop 2)) (kAt ([]) ty 27 1 n laws_markFracSkp laws_markFracSc [1, 0, 1, 0] [] (ending ty 1 Go.Proofs.Try.f44.results.toList laws_markFracSrs laws_markFracSbs)) k { env := [(5, .one (.sc (.int .i64 v5))), (0, .one (.slice 0 0 none)), (1, .one (.sc (.int .i64 v1)))], bx := [(0, .row 0 (.pair (.int .i64) (.int .i64)) b0)], nx := 1 }) a1 b0 := by kernel_rfl
  rw [h]
  have e := congrArg (fun h2 => laws_markFracS_t n h2 a1 b0) (funext fun k => funext fun v5 => funext fun v1 => funext fun b0 => laws_markFracS_l2_eq n k v5 v1 b0)
  exact e

theorem laws_markFracS_ok (n : Nat) : FunOk P (laws_markFracSF n) :=
  funOk_mk (C := []) (N := 27) (kp := laws_markFracSkp) (c := laws_markFracSc) (n := n) (G := fun x y => laws_markFracS n x.2.1 y.1) follows (AllOk.mem (trivial : AllOk P ([]))) (by kernel_rfl : P.funcs[44]? = some Go.Proofs.Try.f44) (by kernel_rfl) (by kernel_rfl) (by kernel_rfl)
    (fun x y => laws_markFracS_eq n x.2.1 y.1) (fun _ _ => map_same (fun _ => rfl) _) (fun _ _ _ _ => rfl)

abbrev laws_markFracS_isp : List Sp := [.inn 0, .v false (.int .i64)]
abbrev laws_markFracS_ibs : List (Bs × Bool) := [(.pool  (.pair (.int .i64) (.int .i64)), true)]
abbrev laws_markFracS_irs : List (Bool × List Rp) := [(false, [.v false (.int .i64)])]
noncomputable def laws_markFracS_ikp : Keep := { loop := fun id => match id with | 2 => ([5, 0, 1], []) | _ => ([], []), join := fun id => match id with | _ => none }
noncomputable def laws_markFracS_ic : Code := bodyOf Go.Proofs.Try.f44
noncomputable def laws_markFracS_iF (n : Nat) : Fun := { id := 44, sp := laws_markFracS_isp, bs := laws_markFracS_ibs, rs := laws_markFracS_irs, f := fun x y => laws_markFracS_i n x.1 x.2.1 y.1 }

theorem laws_markFracS_i_l2_eq (n : Nat) : ∀ (k : Nat) (v5 : Int) (v0p : Nat) (v1 : Int) (b0p : List Nat) (b0i : List (List ((Int) × (Int)))), iter (interp ([]) ty 27 1 n laws_markFracS_ikp (codeAt laws_markFracS_ic [1, 0, 1, 0, 0])) (canon 1 (laws_markFracS_ikp.loop 2)) (kAt ([]) ty 27 1 n laws_markFracS_ikp laws_markFracS_ic [1, 0, 1, 0] [] (ending ty 1 Go.Proofs.Try.f44.results.toList laws_markFracS_irs laws_markFracS_ibs)) k { env := [(5, .one (.sc (.int .i64 v5))), (0, .one (.inn 0 v0p)), (1, .one (.sc (.int .i64 v1)))], bx := [(0, .pool 0 (.pair (.int .i64) (.int .i64)) b0p b0i)], nx := 1 } = laws_markFracS_i_l2 n k v5 v0p v1 b0p b0i
  | 0, _, _, _, _, _ => by kernel_rfl
  | k + 1, v5, v0p, v1, b0p, b0i => by
    have h : iter (interp ([]) ty 27 1 n laws_markFracS_ikp (codeAt laws_markFracS_ic [1, 0, 1, 0, 0])) (canon 1 (laws_markFracS_ikp.loop 2)) (kAt ([]) ty 27 1 n laws_markFracS_ikp laws_markFracS_ic [1, 0, 1, 0] [] (ending ty 1 Go.Proofs.Try.f44.results.toList laws_markFracS_irs laws_markFracS_ibs)) (k + 1) { env := [(5, .one (.sc (.int .i64 v5))), (0, .one (.inn 0 v0p)), (1, .one (.sc (.int .i64 v1)))], bx := [(0, .pool 0 (.pair (.int .i64) (.int .i64)) b0p b0i)], nx := 1 } = laws_markFracS_i_t2 n (fun v5 v0p v1 b0p b0i => iter (interp ([]) ty 27 1 n laws_markFracS_ikp (codeAt laws_markFracS_ic [1, 0, 1, 0, 0])) (canon 1 (laws_markFracS_ikp.loop 2)) (kAt ([]) ty 27 1 n laws_markFracS_ikp laws_markFracS_ic [1, 0, 1, 0] [] (ending ty 1 Go.Proofs.Try.f44.results.toList laws_markFracS_irs laws_markFracS_ibs)) k { env := [(5, .one (.sc (.int .i64 v5))), (0, .one (.inn 0 v0p)), (1, .one (.sc (.int .i64 v1)))], bx := [(0, .pool 0 (.pair (.int .i64) (.int .i64)) b0p b0i)], nx := 1 }) v5 v0p v1 b0p b0i := by kernel_rfl
    rw [h]
    have e := congrArg (fun g => laws_markFracS_i_t2 n g v5 v0p v1 b0p b0i) (funext fun v5 => funext fun v0p => funext fun v1 => funext fun b0p => funext fun b0i => laws_markFracS_i_l2_eq n k v5 v0p v1 b0p b0i)
    exact e

theorem laws_markFracS_i_eq (n : Nat) (a0 : Nat) (a1 : Int) (b0 : (List Nat) × (List (List ((Int) × (Int))))) : runBody ([]) ty 27 n laws_markFracS_ikp laws_markFracS_ic Go.Proofs.Try.f44.results.toList laws_markFracS_irs laws_markFracS_isp laws_markFracS_ibs (a0, (a1, ())) (b0, ()) = laws_markFracS_i n a0 a1 b0 := by
  have h : runBody ([]) ty 27 n laws_markFracS_ikp laws_markFracS_ic Go.Proofs.Try.f44.results.toList laws_markFracS_irs laws_markFracS_isp laws_markFracS_ibs (a0, (a1, ())) (b0, ()) = laws_markFracS_i_t n (fun k v5 v0p v1 b0p b0i => iter (interp ([]) ty 27 1 n laws_markFracS_ikp (codeAt laws_markFracS_ic [1, 0, 1, 0, 0])) (canon 1 (laws_markFracS_ikp.loop 2)) (kAt ([]) ty 27 1 n laws_markFracS_ikp laws_markFracS_ic [1, 0, 1, 0] [] (ending ty 1 Go.Proofs.Try.f44.results.toList laws_markFracS_irs laws_markFracS_ibs)) k { env := [(5, .one (.sc (.int .i64 v5))), (0, .one (.inn 0 v0p)), (1, .one (.sc (.int .i64 v1)))], bx := [(0, .pool 0 (.pair (.int .i64) (.int .i64)) b0p b0i)], nx := 1 }) a0 a1 b0 := by kernel_rfl
  rw [h]
  have e := congrArg (fun h2 => laws_markFracS_i_t n h2 a0 a1 b0) (funext fun k => funext fun v5 => funext fun v0p => funext fun v1 => funext fun b0p => funext fun b0i => laws_markFracS_i_l2_eq n k v5 v0p v1 b0p b0i)
  exact e

theorem laws_markFracS_i_ok (n : Nat) : FunOk P (laws_markFracS_iF n) :=
  funOk_mk (C := []) (N := 27) (kp := laws_markFracS_ikp) (c := laws_markFracS_ic) (n := n) (G := fun x y => laws_markFracS_i n x.1 x.2.1 y.1) follows (AllOk.mem (trivial : AllOk P ([]))) (by kernel_rfl : P.funcs[44]? = some Go.Proofs.Try.f44) (by kernel_rfl) (by kernel_rfl) (by kernel_rfl)
    (fun x y => laws_markFracS_i_eq n x.1 x.2.1 y.1) (fun _ _ => map_same (fun _ => rfl) _) (fun _ _ _ _ => rfl)

abbrev laws_markFracSSsp : List Sp := [.sl 0, .v false (.int .i64)]
abbrev laws_markFracSSbs : List (Bs × Bool) := [(.pool  (.pair (.int .i64) (.int .i64)), true)]
abbrev laws_markFracSSrs : List (Bool × List Rp) := [(false, [.v false (.int .i64)])]
noncomputable def laws_markFracSSkp : Keep := { loop := fun id => match id with | 2 => ([5, 1, 0], []) | _ => ([], []), join := fun id => match id with | _ => none }
noncomputable def laws_markFracSSc : Code := bodyOf Go.Proofs.Try.f43
noncomputable def laws_markFracSSF (n : Nat) : Fun := { id := 43, sp := laws_markFracSSsp, bs := laws_markFracSSbs, rs := laws_markFracSSrs, f := fun x y => laws_markFracSS n x.2.1 y.1 }

theorem laws_markFracSS_l2_eq (n : Nat) : ∀ (k : Nat) (v5 : Int) (v1 : Int) (b0p : List Nat) (b0i : List (List ((Int) × (Int)))), iter (interp ([laws_markFracS_iF n]) typ 19 1 n laws_markFracSSkp (codeAt laws_markFracSSc [1, 0, 1, 0, 0])) (canon 1 (laws_markFracSSkp.loop 2)) (kAt ([laws_markFracS_iF n]) typ 19 1 n laws_markFracSSkp laws_markFracSSc [1, 0, 1, 0] [] (ending typ 1 Go.Proofs.Try.f43.results.toList laws_markFracSSrs laws_markFracSSbs)) k { env := [(5, .one (.sc (.int .i64 v5))), (1, .one (.sc (.int .i64 v1))), (0, .one (.slice 0 0 none))], bx := [(0, .pool 0 (.pair (.int .i64) (.int .i64)) b0p b0i)], nx := 1 } = laws_markFracSS_l2 n k v5 v1 b0p b0i
  | 0, _, _, _, _ => by kernel_rfl
  | k + 1, v5, v1, b0p, b0i => by
    have h : iter (interp ([laws_markFracS_iF n]) typ 19 1 n laws_markFracSSkp (codeAt laws_markFracSSc [1, 0, 1, 0, 0])) (canon 1 (laws_markFracSSkp.loop 2)) (kAt ([laws_markFracS_iF n]) typ 19 1 n laws_markFracSSkp laws_markFracSSc [1, 0, 1, 0] [] (ending typ 1 Go.Proofs.Try.f43.results.toList laws_markFracSSrs laws_markFracSSbs)) (k + 1) { env := [(5, .one (.sc (.int .i64 v5))), (1, .one (.sc (.int .i64 v1))), (0, .one (.slice 0 0 none))], bx := [(0, .pool 0 (.pair (.int .i64) (.int .i64)) b0p b0i)], nx := 1 } = laws_markFracSS_t2 n (fun v5 v1 b0p b0i => iter (interp ([laws_markFracS_iF n]) typ 19 1 n laws_markFracSSkp (codeAt laws_markFracSSc [1, 0, 1, 0, 0])) (canon 1 (laws_markFracSSkp.loop 2)) (kAt ([laws_markFracS_iF n]) typ 19 1 n laws_markFracSSkp laws_markFracSSc [1, 0, 1, 0] [] (ending typ 1 Go.Proofs.Try.f43.results.toList laws_markFracSSrs laws_markFracSSbs)) k { env := [(5, .one (.sc (.int .i64 v5))), (1, .one (.sc (.int .i64 v1))), (0, .one (.slice 0 0 none))], bx := [(0, .pool 0 (.pair (.int .i64) (.int .i64)) b0p b0i)], nx := 1 }) v5 v1 b0p b0i := by kernel_rfl
    rw [h]
    have e := congrArg (fun g => laws_markFracSS_t2 n g v5 v1 b0p b0i) (funext fun v5 => funext fun v1 => funext fun b0p => funext fun b0i => laws_markFracSS_l2_eq n k v5 v1 b0p b0i)
    exact e

theorem laws_markFracSS_eq (n : Nat) (a1 : Int) (b0 : (List Nat) × (List (List ((Int) × (Int))))) : runBody ([laws_markFracS_iF n]) typ 19 n laws_markFracSSkp laws_markFracSSc Go.Proofs.Try.f43.results.toList laws_markFracSSrs laws_markFracSSsp laws_markFracSSbs ((), (a1, ())) (b0, ()) = laws_markFracSS n a1 b0 := by
  have h : runBody ([laws_markFracS_iF n]) typ 19 n laws_markFracSSkp laws_markFracSSc Go.Proofs.Try.f43.results.toList laws_markFracSSrs laws_markFracSSsp laws_markFracSSbs ((), (a1, ())) (b0, ()) = laws_markFracSS_t n (fun k v5 v1 b0p b0i => iter (interp ([laws_markFracS_iF n]) typ 19 1 n laws_markFracSSkp (codeAt laws_markFracSSc [1, 0, 1, 0, 0])) (canon 1 (laws_markFracSSkp.loop 2)) (kAt ([laws_markFracS_iF n]) typ 19 1 n laws_markFracSSkp laws_markFracSSc [1, 0, 1, 0] [] (ending typ 1 Go.Proofs.Try.f43.results.toList laws_markFracSSrs laws_markFracSSbs)) k { env := [(5, .one (.sc (.int .i64 v5))), (1, .one (.sc (.int .i64 v1))), (0, .one (.slice 0 0 none))], bx := [(0, .pool 0 (.pair (.int .i64) (.int .i64)) b0p b0i)], nx := 1 }) a1 b0 := by kernel_rfl
  rw [h]
  have e := congrArg (fun h2 => laws_markFracSS_t n h2 a1 b0) (funext fun k => funext fun v5 => funext fun v1 => funext fun b0p => funext fun b0i => laws_markFracSS_l2_eq n k v5 v1 b0p b0i)
  exact e

theorem laws_markFracSS_ok (n : Nat) : FunOk P (laws_markFracSSF n) :=
  funOk_mkP (C := [laws_markFracS_iF n]) (N := 19) (kp := laws_markFracSSkp) (c := laws_markFracSSc) (n := n) (G := fun x y => laws_markFracSS n x.2.1 y.1) follows (AllOk.mem (⟨laws_markFracS_i_ok n, trivial⟩ : AllOk P ([laws_markFracS_iF n]))) (by kernel_rfl : P.funcs[43]? = some Go.Proofs.Try.f43) (by kernel_rfl) (by kernel_rfl) (by kernel_rfl)
    (fun x y => laws_markFracSS_eq n x.2.1 y.1) (fun _ _ => map_same (fun _ => rfl) _) (fun _ _ _ _ => rfl)

abbrev laws_szFracSsp : List Sp := [.v false (.list (.pair (.int .i64) (.int .i64))), .v false (.int .i64)]
abbrev laws_szFracSbs : List (Bs × Bool) := []
abbrev laws_szFracSrs : List (Bool × List Rp) := [(false, [.v false (.int .i64)])]
noncomputable def laws_szFracSkp : Keep := { loop := fun id => match id with | _ => ([], []), join := fun id => match id with | _ => none }
noncomputable def laws_szFracSc : Code := bodyOf Go.Proofs.Try.f38
noncomputable def laws_szFracSF (n : Nat) : Fun := { id := 38, sp := laws_szFracSsp, bs := laws_szFracSbs, rs := laws_szFracSrs, f := fun x y => laws_szFracS n x.1 x.2.1 }

theorem laws_szFracS_eq (n : Nat) (a0 : List ((Int) × (Int))) (a1 : Int) : runBody ([]) ty 12 n laws_szFracSkp laws_szFracSc Go.Proofs.Try.f38.results.toList laws_szFracSrs laws_szFracSsp laws_szFracSbs (a0, (a1, ())) () = laws_szFracS n a0 a1 := by
  have h : runBody ([]) ty 12 n laws_szFracSkp laws_szFracSc Go.Proofs.Try.f38.results.toList laws_szFracSrs laws_szFracSsp laws_szFracSbs (a0, (a1, ())) () = laws_szFracS_t n a0 a1 := by kernel_rfl
  rw [h]
  rfl

theorem laws_szFracS_ok (n : Nat) : FunOk P (laws_szFracSF n) :=
  funOk_mk (C := []) (N := 12) (kp := laws_szFracSkp) (c := laws_szFracSc) (n := n) (G := fun x y => laws_szFracS n x.1 x.2.1) follows (AllOk.mem (trivial : AllOk P ([]))) (by kernel_rfl : P.funcs[38]? = some Go.Proofs.Try.f38) (by kernel_rfl) (by kernel_rfl) (by kernel_rfl)
    (fun x y => laws_szFracS_eq n x.1 x.2.1) (fun _ _ => map_same (fun _ => rfl) _) (fun _ _ _ _ => rfl)

abbrev laws_szFracSSsp : List Sp := [.v false (.list (.list (.pair (.int .i64) (.int .i64)))), .v false (.int .i64)]
abbrev laws_szFracSSbs : List (Bs × Bool) := []
abbrev laws_szFracSSrs : List (Bool × List Rp) := [(false, [.v false (.int .i64)])]
noncomputable def laws_szFracSSkp : Keep := { loop := fun id => match id with | 5 => ([5, 1, 0], []) | _ => ([], []), join := fun id => match id with | _ => none }
noncomputable def laws_szFracSSc : Code := bodyOf Go.Proofs.Try.f37
noncomputable def laws_szFracSSF (n : Nat) : Fun := { id := 37, sp := laws_szFracSSsp, bs := laws_szFracSSbs, rs := laws_szFracSSrs, f := fun x y => laws_szFracSS n x.1 x.2.1 }

theorem laws_szFracSS_l5_eq (n : Nat) : ∀ (k : Nat) (v5 : Int) (v1 : Int) (v0 : List (List ((Int) × (Int)))), iter (interp ([laws_szFracSF n]) ty 27 0 n laws_szFracSSkp (codeAt laws_szFracSSc [1, 1, 1, 0, 1, 0, 0])) (canon 0 (laws_szFracSSkp.loop 5)) (kAt ([laws_szFracSF n]) ty 27 0 n laws_szFracSSkp laws_szFracSSc [1, 1, 1, 0, 1, 0] [] (ending ty 0 Go.Proofs.Try.f37.results.toList laws_szFracSSrs laws_szFracSSbs)) k { env := [(5, .one (.sc (.int .i64 v5))), (1, .one (.sc (.int .i64 v1))), (0, .one (.list true (.list (.pair (.int .i64) (.int .i64))) v0))], bx := [], nx := 0 } = laws_szFracSS_l5 n k v5 v1 v0
  | 0, _, _, _ => by kernel_rfl
  | k + 1, v5, v1, v0 => by
    have h : iter (interp ([laws_szFracSF n]) ty 27 0 n laws_szFracSSkp (codeAt laws_szFracSSc [1, 1, 1, 0, 1, 0, 0])) (canon 0 (laws_szFracSSkp.loop 5)) (kAt ([laws_szFracSF n]) ty 27 0 n laws_szFracSSkp laws_szFracSSc [1, 1, 1, 0, 1, 0] [] (ending ty 0 Go.Proofs.Try.f37.results.toList laws_szFracSSrs laws_szFracSSbs)) (k + 1) { env := [(5, .one (.sc (.int .i64 v5))), (1, .one (.sc (.int .i64 v1))), (0, .one (.list true (.list (.pair (.int .i64) (.int .i64))) v0))], bx := [], nx := 0 } = laws_szFracSS_t5 n (fun v5 v1 v0 => iter (interp ([laws_szFracSF n]) ty 27 0 n laws_szFracSSkp (codeAt laws_szFracSSc [1, 1, 1, 0, 1, 0, 0])) (canon 0 (laws_szFracSSkp.loop 5)) (kAt ([laws_szFracSF n]) ty 27 0 n laws_szFracSSkp laws_szFracSSc [1, 1, 1, 0, 1, 0] [] (ending ty 0 Go.Proofs.Try.f37.results.toList laws_szFracSSrs laws_szFracSSbs)) k { env := [(5, .one (.sc (.int .i64 v5))), (1, .one (.sc (.int .i64 v1))), (0, .one (.list true (.list (.pair (.int .i64) (.int .i64))) v0))], bx := [], nx := 0 }) v5 v1 v0 := by kernel_rfl
    rw [h]
    have e := congrArg (fun g => laws_szFracSS_t5 n g v5 v1 v0) (funext fun v5 => funext fun v1 => funext fun v0 => laws_szFracSS_l5_eq n k v5 v1 v0)
    exact e

theorem laws_szFracSS_eq (n : Nat) (a0 : List (List ((Int) × (Int)))) (a1 : Int) : runBody ([laws_szFracSF n]) ty 27 n laws_szFracSSkp laws_szFracSSc Go.Proofs.Try.f37.results.toList laws_szFracSSrs laws_szFracSSsp laws_szFracSSbs (a0, (a1, ())) () = laws_szFracSS n a0 a1 := by
  have h : runBody ([laws_szFracSF n]) ty 27 n laws_szFracSSkp laws_szFracSSc Go.Proofs.Try.f37.results.toList laws_szFracSSrs laws_szFracSSsp laws_szFracSSbs (a0, (a1, ())) () = laws_szFracSS_t n (fun k v5 v1 v0 => iter (interp ([laws_szFracSF n]) ty 27 0 n laws_szFracSSkp (codeAt laws_szFracSSc [1, 1, 1, 0, 1, 0, 0])) (canon 0 (laws_szFracSSkp.loop 5)) (kAt ([laws_szFracSF n]) ty 27 0 n laws_szFracSSkp laws_szFracSSc [1, 1, 1, 0, 1, 0] [] (ending ty 0 Go.Proofs.Try.f37.results.toList laws_szFracSSrs laws_szFracSSbs)) k { env := [(5, .one (.sc (.int .i64 v5))), (1, .one (.sc (.int .i64 v1))), (0, .one (.list true (.list (.pair (.int .i64) (.int .i64))) v0))], bx := [], nx := 0 }) a0 a1 := by kernel_rfl
  rw [h]
  have e := congrArg (fun h5 => laws_szFracSS_t n h5 a0 a1) (funext fun k => funext fun v5 => funext fun v1 => funext fun v0 => laws_szFracSS_l5_eq n k v5 v1 v0)
  exact e

theorem laws_szFracSS_ok (n : Nat) : FunOk P (laws_szFracSSF n) :=
  funOk_mk (C := [laws_szFracSF n]) (N := 27) (kp := laws_szFracSSkp) (c := laws_szFracSSc) (n := n) (G := fun x y => laws_szFracSS n x.1 x.2.1) follows (AllOk.mem (⟨laws_szFracS_ok n, trivial⟩ : AllOk P ([laws_szFracSF n]))) (by kernel_rfl : P.funcs[37]? = some Go.Proofs.Try.f37) (by kernel_rfl) (by kernel_rfl) (by kernel_rfl)
    (fun x y => laws_szFracSS_eq n x.1 x.2.1) (fun _ _ => map_same (fun _ => rfl) _) (fun _ _ _ _ => rfl)

abbrev laws_toFracsp : List Sp := [.v true (.pair (.int .i64) (.int .i64))]
abbrev laws_toFracbs : List (Bs × Bool) := []
abbrev laws_toFracrs : List (Bool × List Rp) := [(true, [.v false (.pair (.int .i64) (.int .i64))])]
noncomputable def laws_toFrackp : Keep := { loop := fun id => match id with | _ => ([], []), join := fun id => match id with | _ => none }
noncomputable def laws_toFracc : Code := bodyOf Go.Proofs.Try.f104
noncomputable def laws_toFracF (n : Nat) : Fun := { id := 104, sp := laws_toFracsp, bs := laws_toFracbs, rs := laws_toFracrs, f := fun x y => laws_toFrac n x.1 }

theorem laws_toFrac_eq (n : Nat) (a0 : (Int) × (Int)) : runBody ([]) ty 11 n laws_toFrackp laws_toFracc Go.Proofs.Try.f104.results.toList laws_toFracrs laws_toFracsp laws_toFracbs (a0, ()) () = laws_toFrac n a0 := by
  have h : runBody ([]) ty 11 n laws_toFrackp laws_toFracc Go.Proofs.Try.f104.results.toList laws_toFracrs laws_toFracsp laws_toFracbs (a0, ()) () = laws_toFrac_t n a0 := by kernel_rfl
  rw [h]
  rfl

theorem laws_toFrac_ok (n : Nat) : FunOk P (laws_toFracF n) :=
  funOk_mk (C := []) (N := 11) (kp := laws_toFrackp) (c := laws_toFracc) (n := n) (G := fun x y => laws_toFrac n x.1) follows (AllOk.mem (trivial : AllOk P ([]))) (by kernel_rfl : P.funcs[104]? = some Go.Proofs.Try.f104) (by kernel_rfl) (by kernel_rfl) (by kernel_rfl)
    (fun x y => laws_toFrac_eq n x.1) (fun _ _ => map_same (fun _ => rfl) _) (fun _ _ _ _ => rfl)

abbrev laws_toFracSsp : List Sp := [.v false (.list (.pair (.int .i64) (.int .i64)))]
abbrev laws_toFracSbs : List (Bs × Bool) := []
abbrev laws_toFracSrs : List (Bool × List Rp) := [(false, [.new  (.pair (.int .i64) (.int .i64))])]
noncomputable def laws_toFracSkp : Keep := { loop := fun id => match id with | 3 => ([4, 0, 3], []) | _ => ([], []), join := fun id => match id with | _ => none }
noncomputable def laws_toFracSc : Code := bodyOf Go.Proofs.Try.f40
noncomputable def laws_toFracSF (n : Nat) : Fun := { id := 40, sp := laws_toFracSsp, bs := laws_toFracSbs, rs := laws_toFracSrs, f := fun x y => laws_toFracS n x.1 }

theorem laws_toFracS_l3_eq (n : Nat) : ∀ (k : Nat) (v4 : Int) (v0 : List ((Int) × (Int))) (b0 : List ((Int) × (Int))), iter (interp ([laws_toFracF n]) ty 23 0 n laws_toFracSkp (codeAt laws_toFracSc [1, 1, 0, 1, 0, 0])) (canon 0 (laws_toFracSkp.loop 3)) (kAt ([laws_toFracF n]) ty 23 0 n laws_toFracSkp laws_toFracSc [1, 1, 0, 1, 0] [] (ending ty 0 Go.Proofs.Try.f40.results.toList laws_toFracSrs laws_toFracSbs)) k { env := [(4, .one (.sc (.int .i64 v4))), (0, .one (.list true (.pair (.int .i64) (.int .i64)) v0)), (3, .one (.slice 0 0 none))], bx := [(0, .row 0 (.pair (.int .i64) (.int .i64)) b0)], nx := 1 } = laws_toFracS_l3 n k v4 v0 b0
  | 0, _, _, _ => by kernel_rfl
  | k + 1, v4, v0, b0 => by
    have h : iter (interp ([laws_toFracF n]) ty 23 0 n laws_toFracSkp (codeAt laws_toFracSc [1, 1, 0, 1, 0, 0])) (canon 0 (laws_toFracSkp.loop 3)) (kAt ([laws_toFracF n]) ty 23 0 n laws_toFracSkp laws_toFracSc [1, 1, 0, 1, 0] [] (ending ty 0 Go.Proofs.Try.f40.results.toList laws_toFracSrs laws_toFracSbs)) (k + 1) { env := [(4, .one (.sc (.int .i64 v4))), (0, .one (.list true (.pair (.int .i64) (.int .i64)) v0)), (3, .one (.slice 0 0 none))], bx := [(0, .row 0 (.pair (.int .i64) (.int .i64)) b0)], nx := 1 } = laws_toFracS_t3 n (fun v4 v0 b0 => iter (interp ([laws_toFracF n]) ty 23 0 n laws_toFracSkp (codeAt laws_toFracSc [1, 1, 0, 1, 0, 0])) (canon 0 (laws_toFracSkp.loop 3)) (kAt ([laws_toFracF n]) ty 23 0 n laws_toFracSkp laws_toFracSc [1, 1, 0, 1, 0] [] (ending ty 0 Go.Proofs.Try.f40.results.toList laws_toFracSrs laws_toFracSbs)) k { env := [(4, .one (.sc (.int .i64 v4))), (0, .one (.list true (.pair (.int .i64) (.int .i64)) v0)), (3, .one (.slice 0 0 none))], bx := [(0, .row 0 (.pair (.int .i64) (.int .i64)) b0)], nx := 1 }) v4 v0 b0 := by kernel_rfl
    rw [h]
    have e := congrArg (fun g => laws_toFracS_t3 n g v4 v0 b0) (funext fun v4 => funext fun v0 => funext fun b0 => laws_toFracS_l3_eq n k v4 v0 b0)
    exact e

theorem laws_toFracS_eq (n : Nat) (a0 : List ((Int) × (Int))) : runBody ([laws_toFracF n]) ty 23 n laws_toFracSkp laws_toFracSc Go.Proofs.Try.f40.results.toList laws_toFracSrs laws_toFracSsp laws_toFracSbs (a0, ()) () = laws_toFracS n a0 := by
  have h : runBody ([laws_toFracF n]) ty 23 n laws_toFracSkp laws_toFracSc Go.Proofs.Try.f40.results.toList laws_toFracSrs laws_toFracSsp laws_toFracSbs (a0, ()) () = laws_toFracS_t n (fun k v4 v0 b0 => iter (interp ([laws_toFracF n]) ty 23 0 n laws_toFracSkp (codeAt laws_toFracSc [1, 1, 0, 1, 0, 0])) (canon 0 (laws_toFracSkp.loop 3)) (kAt ([laws_toFracF n]) ty 23 0 n laws_toFracSkp laws_toFracSc [1, 1, 0, 1, 0] [] (ending ty 0 Go.Proofs.Try.f40.results.toList laws_toFracSrs laws_toFracSbs)) k { env := [(4, .one (.sc (.int .i64 v4))), (0, .one (.list true (.pair (.int .i64) (.int .i64)) v0)), (3, .one (.slice 0 0 none))], bx := [(0, .row 0 (.pair (.int .i64) (.int .i64)) b0)], nx := 1 }) a0 := by kernel_rfl
  rw [h]
  have e := congrArg (fun h3 => laws_toFracS_t n h3 a0) (funext fun k => funext fun v4 => funext fun v0 => funext fun b0 => laws_toFracS_l3_eq n k v4 v0 b0)
  exact e

theorem laws_toFracS_ok (n : Nat) : FunOk P (laws_toFracSF n) :=
  funOk_mk (C := [laws_toFracF n]) (N := 23) (kp := laws_toFracSkp) (c := laws_toFracSc) (n := n) (G := fun x y => laws_toFracS n x.1) follows (AllOk.mem (⟨laws_toFrac_ok n, trivial⟩ : AllOk P ([laws_toFracF n]))) (by kernel_rfl : P.funcs[40]? = some Go.Proofs.Try.f40) (by kernel_rfl) (by kernel_rfl) (by kernel_rfl)
    (fun x y => laws_toFracS_eq n x.1) (fun _ _ => map_same (fun _ => rfl) _) (fun _ _ _ _ => rfl)

abbrev laws_toFracSSsp : List Sp := [.v false (.list (.list (.pair (.int .i64) (.int .i64))))]
abbrev laws_toFracSSbs : List (Bs × Bool) := []
abbrev laws_toFracSSrs : List (Bool × List Rp) := [(false, [.newp  (.pair (.int .i64) (.int .i64))])]
noncomputable def laws_toFracSSkp : Keep := { loop := fun id => match id with | 3 => ([4, 0, 3], []) | _ => ([], []), join := fun id => match id with | _ => none }
noncomputable def laws_toFracSSc : Code := bodyOf Go.Proofs.Try.f39
noncomputable def laws_toFracSSF (n : Nat) : Fun := { id := 39, sp := laws_toFracSSsp, bs := laws_toFracSSbs, rs := laws_toFracSSrs, f := fun x y => laws_toFracSS n x.1 }

theorem laws_toFracSS_l3_eq (n : Nat) : ∀ (k : Nat) (v4 : Int) (v0 : List (List ((Int) × (Int)))) (b0p : List Nat) (b0i : List (List ((Int) × (Int)))), iter (interp ([laws_toFracSF n]) typ 23 0 n laws_toFracSSkp (codeAt laws_toFracSSc [1, 1, 0, 1, 0, 0])) (canon 0 (laws_toFracSSkp.loop 3)) (kAt ([laws_toFracSF n]) typ 23 0 n laws_toFracSSkp laws_toFracSSc [1, 1, 0, 1, 0] [] (ending typ 0 Go.Proofs.Try.f39.results.toList laws_toFracSSrs laws_toFracSSbs)) k { env := [(4, .one (.sc (.int .i64 v4))), (0, .one (.list true (.list (.pair (.int .i64) (.int .i64))) v0)), (3, .one (.slice 0 0 none))], bx := [(0, .pool 0 (.pair (.int .i64) (.int .i64)) b0p b0i)], nx := 1 } = laws_toFracSS_l3 n k v4 v0 b0p b0i
  | 0, _, _, _, _ => by kernel_rfl
  | k + 1, v4, v0, b0p, b0i => by
    have h : iter (interp ([laws_toFracSF n]) typ 23 0 n laws_toFracSSkp (codeAt laws_toFracSSc [1, 1, 0, 1, 0, 0])) (canon 0 (laws_toFracSSkp.loop 3)) (kAt ([laws_toFracSF n]) typ 23 0 n laws_toFracSSkp laws_toFracSSc [1, 1, 0, 1, 0] [] (ending typ 0 Go.Proofs.Try.f39.results.toList laws_toFracSSrs laws_toFracSSbs)) (k + 1) { env := [(4, .one (.sc (.int .i64 v4))), (0, .one (.list true (.list (.pair (.int .i64) (.int .i64))) v0)), (3, .one (.slice 0 0 none))], bx := [(0, .pool 0 (.pair (.int .i64) (.int .i64)) b0p b0i)], nx := 1 } = laws_toFracSS_t3 n (fun v4 v0 b0p b0i => iter (interp ([laws_toFracSF n]) typ 23 0 n laws_toFracSSkp (codeAt laws_toFracSSc [1, 1, 0, 1, 0, 0])) (canon 0 (laws_toFracSSkp.loop 3)) (kAt ([laws_toFracSF n]) typ 23 0 n laws_toFracSSkp laws_toFracSSc [1, 1, 0, 1, 0] [] (ending typ 0 Go.Proofs.Try.f39.results.toList laws_toFracSSrs laws_toFracSSbs)) k { env := [(4, .one (.sc (.int .i64 v4))), (0, .one (.list true (.list (.pair (.int .i64) (.int .i64))) v0)), (3, .one (.slice 0 0 none))], bx := [(0, .pool 0 (.pair (.int .i64) (.int .i64)) b0p b0i)], nx := 1 }) v4 v0 b0p b0i := by kernel_rfl
    rw [h]
    have e := congrArg (fun g => laws_toFracSS_t3 n g v4 v0 b0p b0i) (funext fun v4 => funext fun v0 => funext fun b0p => funext fun b0i => laws_toFracSS_l3_eq n k v4 v0 b0p b0i)
    exact e

theorem laws_toFracSS_eq (n : Nat) (a0 : List (List ((Int) × (Int)))) : runBody ([laws_toFracSF n]) typ 23 n laws_toFracSSkp laws_toFracSSc Go.Proofs.Try.f39.results.toList laws_toFracSSrs laws_toFracSSsp laws_toFracSSbs (a0, ()) () = laws_toFracSS n a0 := by
  have h : runBody ([laws_toFracSF n]) typ 23 n laws_toFracSSkp laws_toFracSSc Go.Proofs.Try.f39.results.toList laws_toFracSSrs laws_toFracSSsp laws_toFracSSbs (a0, ()) () = laws_toFracSS_t n (fun k v4 v0 b0p b0i => iter (interp ([laws_toFracSF n]) typ 23 0 n laws_toFracSSkp (codeAt laws_toFracSSc [1, 1, 0, 1, 0, 0])) (canon 0 (laws_toFracSSkp.loop 3)) (kAt ([laws_toFracSF n]) typ 23 0 n laws_toFracSSkp laws_toFracSSc [1, 1, 0, 1, 0] [] (ending typ 0 Go.Proofs.Try.f39.results.toList laws_toFracSSrs laws_toFracSSbs)) k { env := [(4, .one (.sc (.int .i64 v4))), (0, .one (.list true (.list (.pair (.int .i64) (.int .i64))) v0)), (3, .one (.slice 0 0 none))], bx := [(0, .pool 0 (.pair (.int .i64) (.int .i64)) b0p b0i)], nx := 1 }) a0 := by kernel_rfl
  rw [h]
  have e := congrArg (fun h3 => laws_toFracSS_t n h3 a0) (funext fun k => funext fun v4 => funext fun v0 => funext fun b0p => funext fun b0i => laws_toFracSS_l3_eq n k v4 v0 b0p b0i)
  exact e

theorem laws_toFracSS_ok (n : Nat) : FunOk P (laws_toFracSSF n) :=
  funOk_mkP (C := [laws_toFracSF n]) (N := 23) (kp := laws_toFracSSkp) (c := laws_toFracSSc) (n := n) (G := fun x y => laws_toFracSS n x.1) follows (AllOk.mem (⟨laws_toFracS_ok n, trivial⟩ : AllOk P ([laws_toFracSF n]))) (by kernel_rfl : P.funcs[39]? = some Go.Proofs.Try.f39) (by kernel_rfl) (by kernel_rfl) (by kernel_rfl)
    (fun x y => laws_toFracSS_eq n x.1) (fun _ _ => map_same (fun _ => rfl) _) (fun _ _ _ _ => rfl)

abbrev spec_l00Insp : List Sp := [.v false (.int .i64), .v false (.int .i64), .v false (.int .i64)]
abbrev spec_l00Inbs : List (Bs × Bool) := []
abbrev spec_l00Inrs : List (Bool × List Rp) := [(false, [.v false .bool])]
noncomputable def spec_l00Inkp : Keep := { loop := fun id => match id with | _ => ([], []), join := fun id => match id with | _ => none }
noncomputable def spec_l00Inc : Code := bodyOf Go.Proofs.Try.f68
noncomputable def spec_l00InF (n : Nat) : Fun := { id := 68, sp := spec_l00Insp, bs := spec_l00Inbs, rs := spec_l00Inrs, f := fun x y => spec_l00In n x.1 x.2.1 x.2.2.1 }

theorem spec_l00In_eq (n : Nat) (a0 : Int) (a1 : Int) (a2 : Int) : runBody ([]) ty 15 n spec_l00Inkp spec_l00Inc Go.Proofs.Try.f68.results.toList spec_l00Inrs spec_l00Insp spec_l00Inbs (a0, (a1, (a2, ()))) () = spec_l00In n a0 a1 a2 := by
  have h : runBody ([]) ty 15 n spec_l00Inkp spec_l00Inc Go.Proofs.Try.f68.results.toList spec_l00Inrs spec_l00Insp spec_l00Inbs (a0, (a1, (a2, ()))) () = spec_l00In_t n a0 a1 a2 := by kernel_rfl
  rw [h]
  rfl

theorem spec_l00In_ok (n : Nat) : FunOk P (spec_l00InF n) :=
  funOk_mk (C := []) (N := 15) (kp := spec_l00Inkp) (c := spec_l00Inc) (n := n) (G := fun x y => spec_l00In n x.1 x.2.1 x.2.2.1) follows (AllOk.mem (trivial : AllOk P ([]))) (by kernel_rfl : P.funcs[68]? = some Go.Proofs.Try.f68) (by kernel_rfl) (by kernel_rfl) (by kernel_rfl)
    (fun x y => spec_l00In_eq n x.1 x.2.1 x.2.2.1) (fun _ _ => map_same (fun _ => rfl) _) (fun _ _ _ _ => rfl)

abbrev spec_l01Abssp : List Sp := [.v false (.int .i64)]
abbrev spec_l01Absbs : List (Bs × Bool) := []
abbrev spec_l01Absrs : List (Bool × List Rp) := [(false, [.v false (.int .i64)])]
noncomputable def spec_l01Abskp : Keep := { loop := fun id => match id with | _ => ([], []), join := fun id => match id with | _ => none }
noncomputable def spec_l01Absc : Code := bodyOf Go.Proofs.Try.f129
noncomputable def spec_l01AbsF (n : Nat) : Fun := { id := 129, sp := spec_l01Abssp, bs := spec_l01Absbs, rs := spec_l01Absrs, f := fun x y => spec_l01Abs n x.1 }

theorem spec_l01Abs_eq (n : Nat) (a0 : Int) : runBody ([]) ty 8 n spec_l01Abskp spec_l01Absc Go.Proofs.Try.f129.results.toList spec_l01Absrs spec_l01Abssp spec_l01Absbs (a0, ()) () = spec_l01Abs n a0 := by
  have h : runBody ([]) ty 8 n spec_l01Abskp spec_l01Absc Go.Proofs.Try.f129.results.toList spec_l01Absrs spec_l01Abssp spec_l01Absbs (a0, ()) () = spec_l01Abs_t n a0 := by kernel_rfl
  rw [h]
  rfl

theorem spec_l01Abs_ok (n : Nat) : FunOk P (spec_l01AbsF n) :=
  funOk_mk (C := []) (N := 8) (kp := spec_l01Abskp) (c := spec_l01Absc) (n := n) (G := fun x y => spec_l01Abs n x.1) follows (AllOk.mem (trivial : AllOk P ([]))) (by kernel_rfl : P.funcs[129]? = some Go.Proofs.Try.f129) (by kernel_rfl) (by kernel_rfl) (by kernel_rfl)
    (fun x y => spec_l01Abs_eq n x.1) (fun _ _ => map_same (fun _ => rfl) _) (fun _ _ _ _ => rfl)

abbrev spec_l01Gcdsp : List Sp := [.v false (.int .i64), .v false (.int .i64)]
abbrev spec_l01Gcdbs : List (Bs × Bool) := []
abbrev spec_l01Gcdrs : List (Bool × List Rp) := [(false, [.v false (.int .i64)])]
noncomputable def spec_l01Gcdkp : Keep := { loop := fun id => match id with | 1 => ([1, 0], []) | _ => ([], []), join := fun id => match id with | _ => none }
noncomputable def spec_l01Gcdc : Code := bodyOf Go.Proofs.Try.f128
noncomputable def spec_l01GcdF (n : Nat) : Fun := { id := 128, sp := spec_l01Gcdsp, bs := spec_l01Gcdbs, rs := spec_l01Gcdrs, f := fun x y => spec_l01Gcd n x.1 x.2.1 }

theorem spec_l01Gcd_l1_eq (n : Nat) : ∀ (k : Nat) (v1 : Int) (v0 : Int), iter (interp ([]) ty 14 0 n spec_l01Gcdkp (codeAt spec_l01Gcdc [1, 0, 0, 0])) (canon 0 (spec_l01Gcdkp.loop 1)) (kAt ([]) ty 14 0 n spec_l01Gcdkp spec_l01Gcdc [1, 0, 0] [] (ending ty 0 Go.Proofs.Try.f128.results.toList spec_l01Gcdrs spec_l01Gcdbs)) k { env := [(1, .one (.sc (.int .i64 v1))), (0, .one (.sc (.int .i64 v0)))], bx := [], nx := 0 } = spec_l01Gcd_l1 n k v1 v0
  | 0, _, _ => by kernel_rfl
  | k + 1, v1, v0 => by
    have h : iter (interp ([]) ty 14 0 n spec_l01Gcdkp (codeAt spec_l01Gcdc [1, 0, 0, 0])) (canon 0 (spec_l01Gcdkp.loop 1)) (kAt ([]) ty 14 0 n spec_l01Gcdkp spec_l01Gcdc [1, 0, 0] [] (ending ty 0 Go.Proofs.Try.f128.results.toList spec_l01Gcdrs spec_l01Gcdbs)) (k + 1) { env := [(1, .one (.sc (.int .i64 v1))), (0, .one (.sc (.int .i64 v0)))], bx := [], nx := 0 } = spec_l01Gcd_t1 n (fun v1 v0 => iter (interp ([]) ty 14 0 n spec_l01Gcdkp (codeAt spec_l01Gcdc [1, 0, 0, 0])) (canon 0 (spec_l01Gcdkp.loop 1)) (kAt ([]) ty 14 0 n spec_l01Gcdkp spec_l01Gcdc [1, 0, 0] [] (ending ty 0 Go.Proofs.Try.f128.results.toList spec_l01Gcdrs spec_l01Gcdbs)) k { env := [(1, .one (.sc (.int .i64 v1))), (0, .one (.sc (.int .i64 v0)))], bx := [], nx := 0 }) v1 v0 := by kernel_rfl
    rw [h]
    have e := congrArg (fun g => spec_l01Gcd_t1 n g v1 v0) (funext fun v1 => funext fun v0 => spec_l01Gcd_l1_eq n k v1 v0)
    exact e

theorem spec_l01Gcd_eq (n : Nat) (a0 : Int) (a1 : Int) : runBody ([]) ty 14 n spec_l01Gcdkp spec_l01Gcdc Go.Proofs.Try.f128.results.toList spec_l01Gcdrs spec_l01Gcdsp spec_l01Gcdbs (a0, (a1, ())) () = spec_l01Gcd n a0 a1 := by
  have h : runBody ([]) ty 14 n spec_l01Gcdkp spec_l01Gcdc Go.Proofs.Try.f128.results.toList spec_l01Gcdrs spec_l01Gcdsp spec_l01Gcdbs (a0, (a1, ())) () = spec_l01Gcd_t n (fun k v1 v0 => iter (interp ([]) ty 14 0 n spec_l01Gcdkp (codeAt spec_l01Gcdc [1, 0, 0, 0])) (canon 0 (spec_l01Gcdkp.loop 1)) (kAt ([]) ty 14 0 n spec_l01Gcdkp spec_l01Gcdc [1, 0, 0] [] (ending ty 0 Go.Proofs.Try.f128.results.toList spec_l01Gcdrs spec_l01Gcdbs)) k { env := [(1, .one (.sc (.int .i64 v1))), (0, .one (.sc (.int .i64 v0)))], bx := [], nx := 0 }) a0 a1 := by kernel_rfl
  rw [h]
  have e := congrArg (fun h1 => spec_l01Gcd_t n h1 a0 a1) (funext fun k => funext fun v1 => funext fun v0 => spec_l01Gcd_l1_eq n k v1 v0)
  exact e

theorem spec_l01Gcd_ok (n : Nat) : FunOk P (spec_l01GcdF n) :=
  funOk_mk (C := []) (N := 14) (kp := spec_l01Gcdkp) (c := spec_l01Gcdc) (n := n) (G := fun x y => spec_l01Gcd n x.1 x.2.1) follows (AllOk.mem (trivial : AllOk P ([]))) (by kernel_rfl : P.funcs[128]? = some Go.Proofs.Try.f128) (by kernel_rfl) (by kernel_rfl) (by kernel_rfl)
    (fun x y => spec_l01Gcd_eq n x.1 x.2.1) (fun _ _ => map_same (fun _ => rfl) _) (fun _ _ _ _ => rfl)

abbrev spec_l01Oksp : List Sp := [.v true (.pair (.int .i64) (.int .i64))]
abbrev spec_l01Okbs : List (Bs × Bool) := []
abbrev spec_l01Okrs : List (Bool × List Rp) := [(false, [.v false .bool])]
noncomputable def spec_l01Okkp : Keep := { loop := fun id => match id with | _ => ([], []), join := fun id => match id with | _ => none }
noncomputable def spec_l01Okc : Code := bodyOf Go.Proofs.Try.f91
noncomputable def spec_l01OkF (n : Nat) : Fun := { id := 91, sp := spec_l01Oksp, bs := spec_l01Okbs, rs := spec_l01Okrs, f := fun x y => spec_l01Ok n x.1 }

theorem spec_l01Ok_eq (n : Nat) (a0 : (Int) × (Int)) : runBody ([spec_l00InF n, spec_l01AbsF n, spec_l01GcdF n]) ty 20 n spec_l01Okkp spec_l01Okc Go.Proofs.Try.f91.results.toList spec_l01Okrs spec_l01Oksp spec_l01Okbs (a0, ()) () = spec_l01Ok n a0 := by
  have h : runBody ([spec_l00InF n, spec_l01AbsF n, spec_l01GcdF n]) ty 20 n spec_l01Okkp spec_l01Okc Go.Proofs.Try.f91.results.toList spec_l01Okrs spec_l01Oksp spec_l01Okbs (a0, ()) () = spec_l01Ok_t n a0 := by kernel_rfl
  rw [h]
  rfl

theorem spec_l01Ok_ok (n : Nat) : FunOk P (spec_l01OkF n) :=
  funOk_mk (C := [spec_l00InF n, spec_l01AbsF n, spec_l01GcdF n]) (N := 20) (kp := spec_l01Okkp) (c := spec_l01Okc) (n := n) (G := fun x y => spec_l01Ok n x.1) follows (AllOk.mem (⟨spec_l00In_ok n, ⟨spec_l01Abs_ok n, ⟨spec_l01Gcd_ok n, trivial⟩⟩⟩ : AllOk P ([spec_l00InF n, spec_l01AbsF n, spec_l01GcdF n]))) (by kernel_rfl : P.funcs[91]? = some Go.Proofs.Try.f91) (by kernel_rfl) (by kernel_rfl) (by kernel_rfl)
    (fun x y => spec_l01Ok_eq n x.1) (fun _ _ => map_same (fun _ => rfl) _) (fun _ _ _ _ => rfl)

abbrev spec_l04Fracssp : List Sp := [.v false (.list (.pair (.int .i64) (.int .i64)))]
abbrev spec_l04Fracsbs : List (Bs × Bool) := []
abbrev spec_l04Fracsrs : List (Bool × List Rp) := [(false, [.v false .bool])]
noncomputable def spec_l04Fracskp : Keep := { loop := fun id => match id with | 2 => ([3, 0], []) | _ => ([], []), join := fun id => match id with | _ => none }
noncomputable def spec_l04Fracsc : Code := bodyOf Go.Proofs.Try.f67
noncomputable def spec_l04FracsF (n : Nat) : Fun := { id := 67, sp := spec_l04Fracssp, bs := spec_l04Fracsbs, rs := spec_l04Fracsrs, f := fun x y => spec_l04Fracs n x.1 }

theorem spec_l04Fracs_l2_eq (n : Nat) : ∀ (k : Nat) (v3 : Int) (v0 : List ((Int) × (Int))), iter (interp ([spec_l01OkF n]) ty 16 0 n spec_l04Fracskp (codeAt spec_l04Fracsc [1, 0, 1, 0, 0])) (canon 0 (spec_l04Fracskp.loop 2)) (kAt ([spec_l01OkF n]) ty 16 0 n spec_l04Fracskp spec_l04Fracsc [1, 0, 1, 0] [] (ending ty 0 Go.Proofs.Try.f67.results.toList spec_l04Fracsrs spec_l04Fracsbs)) k { env := [(3, .one (.sc (.int .i64 v3))), (0, .one (.list true (.pair (.int .i64) (.int .i64)) v0))], bx := [], nx := 0 } = spec_l04Fracs_l2 n k v3 v0
  | 0, _, _ => by kernel_rfl
  | k + 1, v3, v0 => by
    have h : iter (interp ([spec_l01OkF n]) ty 16 0 n spec_l04Fracskp (codeAt spec_l04Fracsc [1, 0, 1, 0, 0])) (canon 0 (spec_l04Fracskp.loop 2)) (kAt ([spec_l01OkF n]) ty 16 0 n spec_l04Fracskp spec_l04Fracsc [1, 0, 1, 0] [] (ending ty 0 Go.Proofs.Try.f67.results.toList spec_l04Fracsrs spec_l04Fracsbs)) (k + 1) { env := [(3, .one (.sc (.int .i64 v3))), (0, .one (.list true (.pair (.int .i64) (.int .i64)) v0))], bx := [], nx := 0 } = spec_l04Fracs_t2 n (fun v3 v0 => iter (interp ([spec_l01OkF n]) ty 16 0 n spec_l04Fracskp (codeAt spec_l04Fracsc [1, 0, 1, 0, 0])) (canon 0 (spec_l04Fracskp.loop 2)) (kAt ([spec_l01OkF n]) ty 16 0 n spec_l04Fracskp spec_l04Fracsc [1, 0, 1, 0] [] (ending ty 0 Go.Proofs.Try.f67.results.toList spec_l04Fracsrs spec_l04Fracsbs)) k { env := [(3, .one (.sc (.int .i64 v3))), (0, .one (.list true (.pair (.int .i64) (.int .i64)) v0))], bx := [], nx := 0 }) v3 v0 := by kernel_rfl
    rw [h]
    have e := congrArg (fun g => spec_l04Fracs_t2 n g v3 v0) (funext fun v3 => funext fun v0 => spec_l04Fracs_l2_eq n k v3 v0)
    exact e

theorem spec_l04Fracs_eq (n : Nat) (a0 : List ((Int) × (Int))) : runBody ([spec_l01OkF n]) ty 16 n spec_l04Fracskp spec_l04Fracsc Go.Proofs.Try.f67.results.toList spec_l04Fracsrs spec_l04Fracssp spec_l04Fracsbs (a0, ()) () = spec_l04Fracs n a0 := by
  have h : runBody ([spec_l01OkF n]) ty 16 n spec_l04Fracskp spec_l04Fracsc Go.Proofs.Try.f67.results.toList spec_l04Fracsrs spec_l04Fracssp spec_l04Fracsbs (a0, ()) () = spec_l04Fracs_t n (fun k v3 v0 => iter (interp ([spec_l01OkF n]) ty 16 0 n spec_l04Fracskp (codeAt spec_l04Fracsc [1, 0, 1, 0, 0])) (canon 0 (spec_l04Fracskp.loop 2)) (kAt ([spec_l01OkF n]) ty 16 0 n spec_l04Fracskp spec_l04Fracsc [1, 0, 1, 0] [] (ending ty 0 Go.Proofs.Try.f67.results.toList spec_l04Fracsrs spec_l04Fracsbs)) k { env := [(3, .one (.sc (.int .i64 v3))), (0, .one (.list true (.pair (.int .i64) (.int .i64)) v0))], bx := [], nx := 0 }) a0 := by kernel_rfl
  rw [h]
  have e := congrArg (fun h2 => spec_l04Fracs_t n h2 a0) (funext fun k => funext fun v3 => funext fun v0 => spec_l04Fracs_l2_eq n k v3 v0)
  exact e

theorem spec_l04Fracs_ok (n : Nat) : FunOk P (spec_l04FracsF n) :=
  funOk_mk (C := [spec_l01OkF n]) (N := 16) (kp := spec_l04Fracskp) (c := spec_l04Fracsc) (n := n) (G := fun x y => spec_l04Fracs n x.1) follows (AllOk.mem (⟨spec_l01Ok_ok n, trivial⟩ : AllOk P ([spec_l01OkF n]))) (by kernel_rfl : P.funcs[67]? = some Go.Proofs.Try.f67) (by kernel_rfl) (by kernel_rfl) (by kernel_rfl)
    (fun x y => spec_l04Fracs_eq n x.1) (fun _ _ => map_same (fun _ => rfl) _) (fun _ _ _ _ => rfl)

abbrev spec_l01Reducedsp : List Sp := [.v false (.int .i64), .v false (.int .i64)]
abbrev spec_l01Reducedbs : List (Bs × Bool) := []
abbrev spec_l01Reducedrs : List (Bool × List Rp) := [(true, [.v false (.pair (.int .i64) (.int .i64))]), (false, [.v false (.int .i64)])]
noncomputable def spec_l01Reducedkp : Keep := { loop := fun id => match id with | _ => ([], []), join := fun id => match id with | _ => none }
noncomputable def spec_l01Reducedc : Code := bodyOf Go.Proofs.Try.f85
noncomputable def spec_l01ReducedF (n : Nat) : Fun := { id := 85, sp := spec_l01Reducedsp, bs := spec_l01Reducedbs, rs := spec_l01Reducedrs, f := fun x y => spec_l01Reduced n x.1 x.2.1 }

theorem spec_l01Reduced_eq (n : Nat) (a0 : Int) (a1 : Int) : runBody ([spec_l01AbsF n, spec_l01GcdF n, spec_l01OkF n]) ty 33 n spec_l01Reducedkp spec_l01Reducedc Go.Proofs.Try.f85.results.toList spec_l01Reducedrs spec_l01Reducedsp spec_l01Reducedbs (a0, (a1, ())) () = spec_l01Reduced n a0 a1 := by
  have h : runBody ([spec_l01AbsF n, spec_l01GcdF n, spec_l01OkF n]) ty 33 n spec_l01Reducedkp spec_l01Reducedc Go.Proofs.Try.f85.results.toList spec_l01Reducedrs spec_l01Reducedsp spec_l01Reducedbs (a0, (a1, ())) () = spec_l01Reduced_t n a0 a1 := by kernel_rfl
  rw [h]
  rfl

theorem spec_l01Reduced_ok (n : Nat) : FunOk P (spec_l01ReducedF n) :=
  funOk_mk (C := [spec_l01AbsF n, spec_l01GcdF n, spec_l01OkF n]) (N := 33) (kp := spec_l01Reducedkp) (c := spec_l01Reducedc) (n := n) (G := fun x y => spec_l01Reduced n x.1 x.2.1) follows (AllOk.mem (⟨spec_l01Abs_ok n, ⟨spec_l01Gcd_ok n, ⟨spec_l01Ok_ok n, trivial⟩⟩⟩ : AllOk P ([spec_l01AbsF n, spec_l01GcdF n, spec_l01OkF n]))) (by kernel_rfl : P.funcs[85]? = some Go.Proofs.Try.f85) (by kernel_rfl) (by kernel_rfl) (by kernel_rfl)
    (fun x y => spec_l01Reduced_eq n x.1 x.2.1) (fun _ _ => map_same (fun _ => rfl) _) (fun _ _ _ _ => rfl)

abbrev spec_l01Divsp : List Sp := [.v true (.pair (.int .i64) (.int .i64)), .v true (.pair (.int .i64) (.int .i64))]
abbrev spec_l01Divbs : List (Bs × Bool) := []
abbrev spec_l01Divrs : List (Bool × List Rp) := [(true, [.v false (.pair (.int .i64) (.int .i64))]), (false, [.v false (.int .i64)])]
noncomputable def spec_l01Divkp : Keep := { loop := fun id => match id with | _ => ([], []), join := fun id => match id with | _ => none }
noncomputable def spec_l01Divc : Code := bodyOf Go.Proofs.Try.f94
noncomputable def spec_l01DivF (n : Nat) : Fun := { id := 94, sp := spec_l01Divsp, bs := spec_l01Divbs, rs := spec_l01Divrs, f := fun x y => spec_l01Div n x.1 x.2.1 }

theorem spec_l01Div_eq (n : Nat) (a0 : (Int) × (Int)) (a1 : (Int) × (Int)) : runBody ([spec_l01ReducedF n]) ty 19 n spec_l01Divkp spec_l01Divc Go.Proofs.Try.f94.results.toList spec_l01Divrs spec_l01Divsp spec_l01Divbs (a0, (a1, ())) () = spec_l01Div n a0 a1 := by
  have h : runBody ([spec_l01ReducedF n]) ty 19 n spec_l01Divkp spec_l01Divc Go.Proofs.Try.f94.results.toList spec_l01Divrs spec_l01Divsp spec_l01Divbs (a0, (a1, ())) () = spec_l01Div_t n a0 a1 := by kernel_rfl
  rw [h]
  rfl

theorem spec_l01Div_ok (n : Nat) : FunOk P (spec_l01DivF n) :=
  funOk_mk (C := [spec_l01ReducedF n]) (N := 19) (kp := spec_l01Divkp) (c := spec_l01Divc) (n := n) (G := fun x y => spec_l01Div n x.1 x.2.1) follows (AllOk.mem (⟨spec_l01Reduced_ok n, trivial⟩ : AllOk P ([spec_l01ReducedF n]))) (by kernel_rfl : P.funcs[94]? = some Go.Proofs.Try.f94) (by kernel_rfl) (by kernel_rfl) (by kernel_rfl)
    (fun x y => spec_l01Div_eq n x.1 x.2.1) (fun _ _ => map_same (fun _ => rfl) _) (fun _ _ _ _ => rfl)

abbrev spec_l04Beginsp : List Sp := [.v false (.list (.list (.pair (.int .i64) (.int .i64)))), .v false (.list (.pair (.int .i64) (.int .i64)))]
abbrev spec_l04Beginbs : List (Bs × Bool) := []
abbrev spec_l04Beginrs : List (Bool × List Rp) := [(false, [.nrc 132 [.pool (.pair (.int .i64) (.int .i64)), .row (.pair (.int .i64) (.int .i64)), .v (.int .i64)]])]
noncomputable def spec_l04Beginkp : Keep := { loop := fun id => match id with | 3 => ([6, 0, 5], [.boxp 0 0 (.pair (.int .i64) (.int .i64))]) | _ => ([], []), join := fun id => match id with | _ => none }
noncomputable def spec_l04Beginc : Code := bodyOf Go.Proofs.Try.f107
noncomputable def spec_l04BeginF (n : Nat) : Fun := { id := 107, sp := spec_l04Beginsp, bs := spec_l04Beginbs, rs := spec_l04Beginrs, f := fun x y => spec_l04Begin n x.1 x.2.1 }

theorem spec_l04Begin_l3_eq (n : Nat) : ∀ (k : Nat) (v6 : Int) (v0 : List (List ((Int) × (Int)))) (b0_2 : Int) (b1p : List Nat) (b1i : List (List ((Int) × (Int)))) (b2 : List ((Int) × (Int))), iter (interp ([]) typ 34 0 n spec_l04Beginkp (codeAt spec_l04Beginc [1, 1, 0, 1, 0, 0])) (canon 0 (spec_l04Beginkp.loop 3)) (kAt ([]) typ 34 0 n spec_l04Beginkp spec_l04Beginc [1, 1, 0, 1, 0] [] (ending typ 0 Go.Proofs.Try.f107.results.toList spec_l04Beginrs spec_l04Beginbs)) k { env := [(6, .one (.sc (.int .i64 v6))), (0, .one (.list true (.list (.pair (.int .i64) (.int .i64))) v0)), (5, .one (.ref 0 0 0 0 0 0))], bx := [(0, .var 132 [.slice 1 0 none, .slice 2 0 none, .sc (.int .i64 b0_2)]), (1, .pool 0 (.pair (.int .i64) (.int .i64)) b1p b1i), (2, .row 0 (.pair (.int .i64) (.int .i64)) b2)], nx := 3 } = spec_l04Begin_l3 n k v6 v0 b0_2 b1p b1i b2
  | 0, _, _, _, _, _, _ => by kernel_rfl
  | k + 1, v6, v0, b0_2, b1p, b1i, b2 => by
    have h : iter (interp ([]) typ 34 0 n spec_l04Beginkp (codeAt spec_l04Beginc [1, 1, 0, 1, 0, 0])) (canon 0 (spec_l04Beginkp.loop 3)) (kAt ([]) typ 34 0 n spec_l04Beginkp spec_l04Beginc [1, 1, 0, 1, 0] [] (ending typ 0 Go.Proofs.Try.f107.results.toList spec_l04Beginrs spec_l04Beginbs)) (k + 1) { env := [(6, .one (.sc (.int .i64 v6))), (0, .one (.list true (.list (.pair (.int .i64) (.int .i64))) v0)), (5, .one (.ref 0 0 0 0 0 0))], bx := [(0, .var 132 [.slice 1 0 none, .slice 2 0 none, .sc (.int .i64 b0_2)]), (1, .pool 0 (.pair (.int .i64) (.int .i64)) b1p b1i), (2, .row 0 (.pair (.int .i64) (.int .i64)) b2)], nx := 3 } = spec_l04Begin_t3 n (fun v6 v0 b0_2 b1p b1i b2 => iter (interp ([]) typ 34 0 n spec_l04Beginkp (codeAt spec_l04Beginc [1, 1, 0, 1, 0, 0])) (canon 0 (spec_l04Beginkp.loop 3)) (kAt ([]) typ 34 0 n spec_l04Beginkp spec_l04Beginc [1, 1, 0, 1, 0] [] (ending typ 0 Go.Proofs.Try.f107.results.toList spec_l04Beginrs spec_l04Beginbs)) k { env := [(6, .one (.sc (.int .i64 v6))), (0, .one (.list true (.list (.pair (.int .i64) (.int .i64))) v0)), (5, .one (.ref 0 0 0 0 0 0))], bx := [(0, .var 132 [.slice 1 0 none, .slice 2 0 none, .sc (.int .i64 b0_2)]), (1, .pool 0 (.pair (.int .i64) (.int .i64)) b1p b1i), (2, .row 0 (.pair (.int .i64) (.int .i64)) b2)], nx := 3 }) v6 v0 b0_2 b1p b1i b2 := by kernel_rfl
    rw [h]
    have e := congrArg (fun g => spec_l04Begin_t3 n g v6 v0 b0_2 b1p b1i b2) (funext fun v6 => funext fun v0 => funext fun b0_2 => funext fun b1p => funext fun b1i => funext fun b2 => spec_l04Begin_l3_eq n k v6 v0 b0_2 b1p b1i b2)
    exact e

theorem spec_l04Begin_eq (n : Nat) (a0 : List (List ((Int) × (Int)))) (a1 : List ((Int) × (Int))) : runBody ([]) typ 34 n spec_l04Beginkp spec_l04Beginc Go.Proofs.Try.f107.results.toList spec_l04Beginrs spec_l04Beginsp spec_l04Beginbs (a0, (a1, ())) () = spec_l04Begin n a0 a1 := by
  have h : runBody ([]) typ 34 n spec_l04Beginkp spec_l04Beginc Go.Proofs.Try.f107.results.toList spec_l04Beginrs spec_l04Beginsp spec_l04Beginbs (a0, (a1, ())) () = spec_l04Begin_t n (fun k v6 v0 b0_2 b1p b1i b2 => iter (interp ([]) typ 34 0 n spec_l04Beginkp (codeAt spec_l04Beginc [1, 1, 0, 1, 0, 0])) (canon 0 (spec_l04Beginkp.loop 3)) (kAt ([]) typ 34 0 n spec_l04Beginkp spec_l04Beginc [1, 1, 0, 1, 0] [] (ending typ 0 Go.Proofs.Try.f107.results.toList spec_l04Beginrs spec_l04Beginbs)) k { env := [(6, .one (.sc (.int .i64 v6))), (0, .one (.list true (.list (.pair (.int .i64) (.int .i64))) v0)), (5, .one (.ref 0 0 0 0 0 0))], bx := [(0, .var 132 [.slice 1 0 none, .slice 2 0 none, .sc (.int .i64 b0_2)]), (1, .pool 0 (.pair (.int .i64) (.int .i64)) b1p b1i), (2, .row 0 (.pair (.int .i64) (.int .i64)) b2)], nx := 3 }) a0 a1 := by kernel_rfl
  rw [h]
  have e := congrArg (fun h3 => spec_l04Begin_t n h3 a0 a1) (funext fun k => funext fun v6 => funext fun v0 => funext fun b0_2 => funext fun b1p => funext fun b1i => funext fun b2 => spec_l04Begin_l3_eq n k v6 v0 b0_2 b1p b1i b2)
  exact e

theorem spec_l04Begin_ok (n : Nat) : FunOk P (spec_l04BeginF n) :=
  funOk_mkP (C := []) (N := 34) (kp := spec_l04Beginkp) (c := spec_l04Beginc) (n := n) (G := fun x y => spec_l04Begin n x.1 x.2.1) follows (AllOk.mem (trivial : AllOk P ([]))) (by kernel_rfl : P.funcs[107]? = some Go.Proofs.Try.f107) (by kernel_rfl) (by kernel_rfl) (by kernel_rfl)
    (fun x y => spec_l04Begin_eq n x.1 x.2.1) (fun _ _ => map_same (fun _ => rfl) _) (fun _ _ _ _ => rfl)

abbrev spec_l01Mulsp : List Sp := [.v true (.pair (.int .i64) (.int .i64)), .v true (.pair (.int .i64) (.int .i64))]
abbrev spec_l01Mulbs : List (Bs × Bool) := []
abbrev spec_l01Mulrs : List (Bool × List Rp) := [(true, [.v false (.pair (.int .i64) (.int .i64))]), (false, [.v false (.int .i64)])]
noncomputable def spec_l01Mulkp : Keep := { loop := fun id => match id with | _ => ([], []), join := fun id => match id with | _ => none }
noncomputable def spec_l01Mulc : Code := bodyOf Go.Proofs.Try.f71
noncomputable def spec_l01MulF (n : Nat) : Fun := { id := 71, sp := spec_l01Mulsp, bs := spec_l01Mulbs, rs := spec_l01Mulrs, f := fun x y => spec_l01Mul n x.1 x.2.1 }

theorem spec_l01Mul_eq (n : Nat) (a0 : (Int) × (Int)) (a1 : (Int) × (Int)) : runBody ([spec_l01ReducedF n]) ty 19 n spec_l01Mulkp spec_l01Mulc Go.Proofs.Try.f71.results.toList spec_l01Mulrs spec_l01Mulsp spec_l01Mulbs (a0, (a1, ())) () = spec_l01Mul n a0 a1 := by
  have h : runBody ([spec_l01ReducedF n]) ty 19 n spec_l01Mulkp spec_l01Mulc Go.Proofs.Try.f71.results.toList spec_l01Mulrs spec_l01Mulsp spec_l01Mulbs (a0, (a1, ())) () = spec_l01Mul_t n a0 a1 := by kernel_rfl
  rw [h]
  rfl

theorem spec_l01Mul_ok (n : Nat) : FunOk P (spec_l01MulF n) :=
  funOk_mk (C := [spec_l01ReducedF n]) (N := 19) (kp := spec_l01Mulkp) (c := spec_l01Mulc) (n := n) (G := fun x y => spec_l01Mul n x.1 x.2.1) follows (AllOk.mem (⟨spec_l01Reduced_ok n, trivial⟩ : AllOk P ([spec_l01ReducedF n]))) (by kernel_rfl : P.funcs[71]? = some Go.Proofs.Try.f71) (by kernel_rfl) (by kernel_rfl) (by kernel_rfl)
    (fun x y => spec_l01Mul_eq n x.1 x.2.1) (fun _ _ => map_same (fun _ => rfl) _) (fun _ _ _ _ => rfl)

abbrev spec_l01Addsp : List Sp := [.v true (.pair (.int .i64) (.int .i64)), .v true (.pair (.int .i64) (.int .i64))]
abbrev spec_l01Addbs : List (Bs × Bool) := []
abbrev spec_l01Addrs : List (Bool × List Rp) := [(true, [.v false (.pair (.int .i64) (.int .i64))]), (false, [.v false (.int .i64)])]
noncomputable def spec_l01Addkp : Keep := { loop := fun id => match id with | _ => ([], []), join := fun id => match id with | _ => none }
noncomputable def spec_l01Addc : Code := bodyOf Go.Proofs.Try.f72
noncomputable def spec_l01AddF (n : Nat) : Fun := { id := 72, sp := spec_l01Addsp, bs := spec_l01Addbs, rs := spec_l01Addrs, f := fun x y => spec_l01Add n x.1 x.2.1 }

theorem spec_l01Add_eq (n : Nat) (a0 : (Int) × (Int)) (a1 : (Int) × (Int)) : runBody ([spec_l01ReducedF n]) ty 25 n spec_l01Addkp spec_l01Addc Go.Proofs.Try.f72.results.toList spec_l01Addrs spec_l01Addsp spec_l01Addbs (a0, (a1, ())) () = spec_l01Add n a0 a1 := by
  have h : runBody ([spec_l01ReducedF n]) ty 25 n spec_l01Addkp spec_l01Addc Go.Proofs.Try.f72.results.toList spec_l01Addrs spec_l01Addsp spec_l01Addbs (a0, (a1, ())) () = spec_l01Add_t n a0 a1 := by kernel_rfl
  rw [h]
  rfl

theorem spec_l01Add_ok (n : Nat) : FunOk P (spec_l01AddF n) :=
  funOk_mk (C := [spec_l01ReducedF n]) (N := 25) (kp := spec_l01Addkp) (c := spec_l01Addc) (n := n) (G := fun x y => spec_l01Add n x.1 x.2.1) follows (AllOk.mem (⟨spec_l01Reduced_ok n, trivial⟩ : AllOk P ([spec_l01ReducedF n]))) (by kernel_rfl : P.funcs[72]? = some Go.Proofs.Try.f72) (by kernel_rfl) (by kernel_rfl) (by kernel_rfl)
    (fun x y => spec_l01Add_eq n x.1 x.2.1) (fun _ _ => map_same (fun _ => rfl) _) (fun _ _ _ _ => rfl)

abbrev spec_l01Negsp : List Sp := [.v true (.pair (.int .i64) (.int .i64))]
abbrev spec_l01Negbs : List (Bs × Bool) := []
abbrev spec_l01Negrs : List (Bool × List Rp) := [(true, [.v false (.pair (.int .i64) (.int .i64))])]
noncomputable def spec_l01Negkp : Keep := { loop := fun id => match id with | _ => ([], []), join := fun id => match id with | _ => none }
noncomputable def spec_l01Negc : Code := bodyOf Go.Proofs.Try.f131
noncomputable def spec_l01NegF (n : Nat) : Fun := { id := 131, sp := spec_l01Negsp, bs := spec_l01Negbs, rs := spec_l01Negrs, f := fun x y => spec_l01Neg n x.1 }

theorem spec_l01Neg_eq (n : Nat) (a0 : (Int) × (Int)) : runBody ([]) ty 9 n spec_l01Negkp spec_l01Negc Go.Proofs.Try.f131.results.toList spec_l01Negrs spec_l01Negsp spec_l01Negbs (a0, ()) () = spec_l01Neg n a0 := by
  have h : runBody ([]) ty 9 n spec_l01Negkp spec_l01Negc Go.Proofs.Try.f131.results.toList spec_l01Negrs spec_l01Negsp spec_l01Negbs (a0, ()) () = spec_l01Neg_t n a0 := by kernel_rfl
  rw [h]
  rfl

theorem spec_l01Neg_ok (n : Nat) : FunOk P (spec_l01NegF n) :=
  funOk_mk (C := []) (N := 9) (kp := spec_l01Negkp) (c := spec_l01Negc) (n := n) (G := fun x y => spec_l01Neg n x.1) follows (AllOk.mem (trivial : AllOk P ([]))) (by kernel_rfl : P.funcs[131]? = some Go.Proofs.Try.f131) (by kernel_rfl) (by kernel_rfl) (by kernel_rfl)
    (fun x y => spec_l01Neg_eq n x.1) (fun _ _ => map_same (fun _ => rfl) _) (fun _ _ _ _ => rfl)

abbrev spec_l01Subsp : List Sp := [.v true (.pair (.int .i64) (.int .i64)), .v true (.pair (.int .i64) (.int .i64))]
abbrev spec_l01Subbs : List (Bs × Bool) := []
abbrev spec_l01Subrs : List (Bool × List Rp) := [(true, [.v false (.pair (.int .i64) (.int .i64))]), (false, [.v false (.int .i64)])]
noncomputable def spec_l01Subkp : Keep := { loop := fun id => match id with | _ => ([], []), join := fun id => match id with | _ => none }
noncomputable def spec_l01Subc : Code := bodyOf Go.Proofs.Try.f93
noncomputable def spec_l01SubF (n : Nat) : Fun := { id := 93, sp := spec_l01Subsp, bs := spec_l01Subbs, rs := spec_l01Subrs, f := fun x y => spec_l01Sub n x.1 x.2.1 }

theorem spec_l01Sub_eq (n : Nat) (a0 : (Int) × (Int)) (a1 : (Int) × (Int)) : runBody ([spec_l01NegF n, spec_l01AddF n]) ty 12 n spec_l01Subkp spec_l01Subc Go.Proofs.Try.f93.results.toList spec_l01Subrs spec_l01Subsp spec_l01Subbs (a0, (a1, ())) () = spec_l01Sub n a0 a1 := by
  have h : runBody ([spec_l01NegF n, spec_l01AddF n]) ty 12 n spec_l01Subkp spec_l01Subc Go.Proofs.Try.f93.results.toList spec_l01Subrs spec_l01Subsp spec_l01Subbs (a0, (a1, ())) () = spec_l01Sub_t n a0 a1 := by kernel_rfl
  rw [h]
  rfl

theorem spec_l01Sub_ok (n : Nat) : FunOk P (spec_l01SubF n) :=
  funOk_mk (C := [spec_l01NegF n, spec_l01AddF n]) (N := 12) (kp := spec_l01Subkp) (c := spec_l01Subc) (n := n) (G := fun x y => spec_l01Sub n x.1 x.2.1) follows (AllOk.mem (⟨spec_l01Neg_ok n, ⟨spec_l01Add_ok n, trivial⟩⟩ : AllOk P ([spec_l01NegF n, spec_l01AddF n]))) (by kernel_rfl : P.funcs[93]? = some Go.Proofs.Try.f93) (by kernel_rfl) (by kernel_rfl) (by kernel_rfl)
    (fun x y => spec_l01Sub_eq n x.1 x.2.1) (fun _ _ => map_same (fun _ => rfl) _) (fun _ _ _ _ => rfl)

abbrev spec_l04Lesssp : List Sp := [.v true (.pair (.int .i64) (.int .i64)), .v true (.pair (.int .i64) (.int .i64)), .v true (.pair (.int .i64) (.int .i64))]
abbrev spec_l04Lessbs : List (Bs × Bool) := []
abbrev spec_l04Lessrs : List (Bool × List Rp) := [(true, [.v false (.pair (.int .i64) (.int .i64))]), (false, [.v false (.int .i64)])]
noncomputable def spec_l04Lesskp : Keep := { loop := fun id => match id with | _ => ([], []), join := fun id => match id with | _ => none }
noncomputable def spec_l04Lessc : Code := bodyOf Go.Proofs.Try.f125
noncomputable def spec_l04LessF (n : Nat) : Fun := { id := 125, sp := spec_l04Lesssp, bs := spec_l04Lessbs, rs := spec_l04Lessrs, f := fun x y => spec_l04Less n x.1 x.2.1 x.2.2.1 }

theorem spec_l04Less_eq (n : Nat) (a0 : (Int) × (Int)) (a1 : (Int) × (Int)) (a2 : (Int) × (Int)) : runBody ([spec_l01MulF n, spec_l01SubF n]) ty 25 n spec_l04Lesskp spec_l04Lessc Go.Proofs.Try.f125.results.toList spec_l04Lessrs spec_l04Lesssp spec_l04Lessbs (a0, (a1, (a2, ()))) () = spec_l04Less n a0 a1 a2 := by
  have h : runBody ([spec_l01MulF n, spec_l01SubF n]) ty 25 n spec_l04Lesskp spec_l04Lessc Go.Proofs.Try.f125.results.toList spec_l04Lessrs spec_l04Lesssp spec_l04Lessbs (a0, (a1, (a2, ()))) () = spec_l04Less_t n a0 a1 a2 := by kernel_rfl
  rw [h]
  rfl

theorem spec_l04Less_ok (n : Nat) : FunOk P (spec_l04LessF n) :=
  funOk_mk (C := [spec_l01MulF n, spec_l01SubF n]) (N := 25) (kp := spec_l04Lesskp) (c := spec_l04Lessc) (n := n) (G := fun x y => spec_l04Less n x.1 x.2.1 x.2.2.1) follows (AllOk.mem (⟨spec_l01Mul_ok n, ⟨spec_l01Sub_ok n, trivial⟩⟩ : AllOk P ([spec_l01MulF n, spec_l01SubF n]))) (by kernel_rfl : P.funcs[125]? = some Go.Proofs.Try.f125) (by kernel_rfl) (by kernel_rfl) (by kernel_rfl)
    (fun x y => spec_l04Less_eq n x.1 x.2.1 x.2.2.1) (fun _ _ => map_same (fun _ => rfl) _) (fun _ _ _ _ => rfl)

abbrev spec_l04Solver_clearsp : List Sp := [.ref 0, .v false (.int .i64), .v false (.int .i64)]
abbrev spec_l04Solver_clearbs : List (Bs × Bool) := [(.rc 132 [.sl 1, .sl 2, .v (.int .i64)], true), (.pool (.pair (.int .i64) (.int .i64)), true), (.row (.pair (.int .i64) (.int .i64)), true)]
abbrev spec_l04Solver_clearrs : List (Bool × List Rp) := []
noncomputable def spec_l04Solver_clearkp : Keep := { loop := fun id => match id with | 1 => ([6, 0, 1, 2], []) | 7 => ([9, 0, 6, 1, 7, 2], []) | _ => ([], []), join := fun id => match id with | _ => none }
noncomputable def spec_l04Solver_clearc : Code := bodyOf Go.Proofs.Try.f110
noncomputable def spec_l04Solver_clearF (n : Nat) : Fun := { id := 110, sp := spec_l04Solver_clearsp, bs := spec_l04Solver_clearbs, rs := spec_l04Solver_clearrs, f := fun x y => spec_l04Solver_clear n x.2.1 x.2.2.1 y.1 y.2.1 y.2.2.1 }

theorem spec_l04Solver_clear_l7_eq (n : Nat) (G1 : St → Option ((Unit) × (((Int) × (Unit)) × (((List Nat) × (List (List ((Int) × (Int))))) × ((List ((Int) × (Int))) × (Unit)))))) : ∀ (k : Nat) (v9 : Int) (v6 : Int) (v1 : Int) (v2 : Int) (b0_2 : Int) (b1p : List Nat) (b1i : List (List ((Int) × (Int)))) (b2 : List ((Int) × (Int))) (b3_0 : Int) (b3_1 : Int), iter (interp ([spec_l01DivF n, spec_l04LessF n]) typ 166 3 n spec_l04Solver_clearkp (codeAt spec_l04Solver_clearc [1, 0, 0, 1, 0, 0, 1, 1, 1, 0, 1, 0, 0])) (canon 3 (spec_l04Solver_clearkp.loop 7)) (kAt ([spec_l01DivF n, spec_l04LessF n]) typ 166 3 n spec_l04Solver_clearkp spec_l04Solver_clearc [1, 0, 0, 1, 0, 0, 1, 1, 1, 0, 1, 0] [G1] (ending typ 3 Go.Proofs.Try.f110.results.toList spec_l04Solver_clearrs spec_l04Solver_clearbs)) k { env := [(9, .one (.sc (.int .i64 v9))), (0, .one (.ref 0 0 0 0 0 0)), (6, .one (.sc (.int .i64 v6))), (1, .one (.sc (.int .i64 v1))), (7, .one (.ref 3 0 0 0 0 0)), (2, .one (.sc (.int .i64 v2)))], bx := [(0, .var 132 [.slice 1 0 none, .slice 2 0 none, .sc (.int .i64 b0_2)]), (1, .pool 0 (.pair (.int .i64) (.int .i64)) b1p b1i), (2, .row 0 (.pair (.int .i64) (.int .i64)) b2), (3, .var 26 [.sc (.int .i64 b3_0), .sc (.int .i64 b3_1)])], nx := 4 } = spec_l04Solver_clear_l7 n (fun v6 v1 v2 b0_2 b1p b1i b2 => G1 { env := [(6, .one (.sc (.int .i64 v6))), (0, .one (.ref 0 0 0 0 0 0)), (1, .one (.sc (.int .i64 v1))), (2, .one (.sc (.int .i64 v2)))], bx := [(0, .var 132 [.slice 1 0 none, .slice 2 0 none, .sc (.int .i64 b0_2)]), (1, .pool 0 (.pair (.int .i64) (.int .i64)) b1p b1i), (2, .row 0 (.pair (.int .i64) (.int .i64)) b2)], nx := 3 }) k v9 v6 v1 v2 b0_2 b1p b1i b2 b3_0 b3_1
  | 0, _, _, _, _, _, _, _, _, _, _ => by kernel_rfl
  | k + 1, v9, v6, v1, v2, b0_2, b1p, b1i, b2, b3_0, b3_1 => by
    have h : iter (interp ([spec_l01DivF n, spec_l04LessF n]) typ 166 3 n spec_l04Solver_clearkp (codeAt spec_l04Solver_clearc [1, 0, 0, 1, 0, 0, 1, 1, 1, 0, 1, 0, 0])) (canon 3 (spec_l04Solver_clearkp.loop 7)) (kAt ([spec_l01DivF n, spec_l04LessF n]) typ 166 3 n spec_l04Solver_clearkp spec_l04Solver_clearc [1, 0, 0, 1, 0, 0, 1, 1, 1, 0, 1, 0] [G1] (ending typ 3 Go.Proofs.Try.f110.results.toList spec_l04Solver_clearrs spec_l04Solver_clearbs)) (k + 1) { env := [(9, .one (.sc (.int .i64 v9))), (0, .one (.ref 0 0 0 0 0 0)), (6, .one (.sc (.int .i64 v6))), (1, .one (.sc (.int .i64 v1))), (7, .one (.ref 3 0 0 0 0 0)), (2, .one (.sc (.int .i64 v2)))], bx := [(0, .var 132 [.slice 1 0 none, .slice 2 0 none, .sc (.int .i64 b0_2)]), (1, .pool 0 (.pair (.int .i64) (.int .i64)) b1p b1i), (2, .row 0 (.pair (.int .i64) (.int .i64)) b2), (3, .var 26 [.sc (.int .i64 b3_0), .sc (.int .i64 b3_1)])], nx := 4 } = spec_l04Solver_clear_t7 n (fun v6 v1 v2 b0_2 b1p b1i b2 => G1 { env := [(6, .one (.sc (.int .i64 v6))), (0, .one (.ref 0 0 0 0 0 0)), (1, .one (.sc (.int .i64 v1))), (2, .one (.sc (.int .i64 v2)))], bx := [(0, .var 132 [.slice 1 0 none, .slice 2 0 none, .sc (.int .i64 b0_2)]), (1, .pool 0 (.pair (.int .i64) (.int .i64)) b1p b1i), (2, .row 0 (.pair (.int .i64) (.int .i64)) b2)], nx := 3 }) (fun v9 v6 v1 v2 b0_2 b1p b1i b2 b3_0 b3_1 => iter (interp ([spec_l01DivF n, spec_l04LessF n]) typ 166 3 n spec_l04Solver_clearkp (codeAt spec_l04Solver_clearc [1, 0, 0, 1, 0, 0, 1, 1, 1, 0, 1, 0, 0])) (canon 3 (spec_l04Solver_clearkp.loop 7)) (kAt ([spec_l01DivF n, spec_l04LessF n]) typ 166 3 n spec_l04Solver_clearkp spec_l04Solver_clearc [1, 0, 0, 1, 0, 0, 1, 1, 1, 0, 1, 0] [G1] (ending typ 3 Go.Proofs.Try.f110.results.toList spec_l04Solver_clearrs spec_l04Solver_clearbs)) k { env := [(9, .one (.sc (.int .i64 v9))), (0, .one (.ref 0 0 0 0 0 0)), (6, .one (.sc (.int .i64 v6))), (1, .one (.sc (.int .i64 v1))), (7, .one (.ref 3 0 0 0 0 0)), (2, .one (.sc (.int .i64 v2)))], bx := [(0, .var 132 [.slice 1 0 none, .slice 2 0 none, .sc (.int .i64 b0_2)]), (1, .pool 0 (.pair (.int .i64) (.int .i64)) b1p b1i), (2, .row 0 (.pair (.int .i64) (.int .i64)) b2), (3, .var 26 [.sc (.int .i64 b3_0), .sc (.int .i64 b3_1)])], nx := 4 }) v9 v6 v1 v2 b0_2 b1p b1i b2 b3_0 b3_1 := by kernel_rfl
    rw [h]
    have e := congrArg (fun g => spec_l04Solver_clear_t7 n (fun v6 v1 v2 b0_2 b1p b1i b2 => G1 { env := [(6, .one (.sc (.int .i64 v6))), (0, .one (.ref 0 0 0 0 0 0)), (1, .one (.sc (.int .i64 v1))), (2, .one (.sc (.int .i64 v2)))], bx := [(0, .var 132 [.slice 1 0 none, .slice 2 0 none, .sc (.int .i64 b0_2)]), (1, .pool 0 (.pair (.int .i64) (.int .i64)) b1p b1i), (2, .row 0 (.pair (.int .i64) (.int .i64)) b2)], nx := 3 }) g v9 v6 v1 v2 b0_2 b1p b1i b2 b3_0 b3_1) (funext fun v9 => funext fun v6 => funext fun v1 => funext fun v2 => funext fun b0_2 => funext fun b1p => funext fun b1i => funext fun b2 => funext fun b3_0 => funext fun b3_1 => spec_l04Solver_clear_l7_eq n G1 k v9 v6 v1 v2 b0_2 b1p b1i b2 b3_0 b3_1)
    exact e

theorem spec_l04Solver_clear_l1_eq (n : Nat) : ∀ (k : Nat) (v6 : Int) (v1 : Int) (v2 : Int) (b0_2 : Int) (b1p : List Nat) (b1i : List (List ((Int) × (Int)))) (b2 : List ((Int) × (Int))), iter (interp ([spec_l01DivF n, spec_l04LessF n]) typ 166 3 n spec_l04Solver_clearkp (codeAt spec_l04Solver_clearc [1, 0, 0])) (canon 3 (spec_l04Solver_clearkp.loop 1)) (kAt ([spec_l01DivF n, spec_l04LessF n]) typ 166 3 n spec_l04Solver_clearkp spec_l04Solver_clearc [1, 0] [] (ending typ 3 Go.Proofs.Try.f110.results.toList spec_l04Solver_clearrs spec_l04Solver_clearbs)) k { env := [(6, .one (.sc (.int .i64 v6))), (0, .one (.ref 0 0 0 0 0 0)), (1, .one (.sc (.int .i64 v1))), (2, .one (.sc (.int .i64 v2)))], bx := [(0, .var 132 [.slice 1 0 none, .slice 2 0 none, .sc (.int .i64 b0_2)]), (1, .pool 0 (.pair (.int .i64) (.int .i64)) b1p b1i), (2, .row 0 (.pair (.int .i64) (.int .i64)) b2)], nx := 3 } = spec_l04Solver_clear_l1 n k v6 v1 v2 b0_2 b1p b1i b2
  | 0, _, _, _, _, _, _, _ => by kernel_rfl
  | k + 1, v6, v1, v2, b0_2, b1p, b1i, b2 => by
    have h : iter (interp ([spec_l01DivF n, spec_l04LessF n]) typ 166 3 n spec_l04Solver_clearkp (codeAt spec_l04Solver_clearc [1, 0, 0])) (canon 3 (spec_l04Solver_clearkp.loop 1)) (kAt ([spec_l01DivF n, spec_l04LessF n]) typ 166 3 n spec_l04Solver_clearkp spec_l04Solver_clearc [1, 0] [] (ending typ 3 Go.Proofs.Try.f110.results.toList spec_l04Solver_clearrs spec_l04Solver_clearbs)) (k + 1) { env := [(6, .one (.sc (.int .i64 v6))), (0, .one (.ref 0 0 0 0 0 0)), (1, .one (.sc (.int .i64 v1))), (2, .one (.sc (.int .i64 v2)))], bx := [(0, .var 132 [.slice 1 0 none, .slice 2 0 none, .sc (.int .i64 b0_2)]), (1, .pool 0 (.pair (.int .i64) (.int .i64)) b1p b1i), (2, .row 0 (.pair (.int .i64) (.int .i64)) b2)], nx := 3 } = spec_l04Solver_clear_t1 n (fun k' v9 v6 v1 v2 b0_2 b1p b1i b2 b3_0 b3_1 => iter (interp ([spec_l01DivF n, spec_l04LessF n]) typ 166 3 n spec_l04Solver_clearkp (codeAt spec_l04Solver_clearc [1, 0, 0, 1, 0, 0, 1, 1, 1, 0, 1, 0, 0])) (canon 3 (spec_l04Solver_clearkp.loop 7)) (kAt ([spec_l01DivF n, spec_l04LessF n]) typ 166 3 n spec_l04Solver_clearkp spec_l04Solver_clearc [1, 0, 0, 1, 0, 0, 1, 1, 1, 0, 1, 0] [(fun s => iter (interp ([spec_l01DivF n, spec_l04LessF n]) typ 166 3 n spec_l04Solver_clearkp (codeAt spec_l04Solver_clearc [1, 0, 0])) (canon 3 (spec_l04Solver_clearkp.loop 1)) (kAt ([spec_l01DivF n, spec_l04LessF n]) typ 166 3 n spec_l04Solver_clearkp spec_l04Solver_clearc [1, 0] [] (ending typ 3 Go.Proofs.Try.f110.results.toList spec_l04Solver_clearrs spec_l04Solver_clearbs)) k s)] (ending typ 3 Go.Proofs.Try.f110.results.toList spec_l04Solver_clearrs spec_l04Solver_clearbs)) k' { env := [(9, .one (.sc (.int .i64 v9))), (0, .one (.ref 0 0 0 0 0 0)), (6, .one (.sc (.int .i64 v6))), (1, .one (.sc (.int .i64 v1))), (7, .one (.ref 3 0 0 0 0 0)), (2, .one (.sc (.int .i64 v2)))], bx := [(0, .var 132 [.slice 1 0 none, .slice 2 0 none, .sc (.int .i64 b0_2)]), (1, .pool 0 (.pair (.int .i64) (.int .i64)) b1p b1i), (2, .row 0 (.pair (.int .i64) (.int .i64)) b2), (3, .var 26 [.sc (.int .i64 b3_0), .sc (.int .i64 b3_1)])], nx := 4 }) (fun v6 v1 v2 b0_2 b1p b1i b2 => iter (interp ([spec_l01DivF n, spec_l04LessF n]) typ 166 3 n spec_l04Solver_clearkp (codeAt spec_l04Solver_clearc [1, 0, 0])) (canon 3 (spec_l04Solver_clearkp.loop 1)) (kAt ([spec_l01DivF n, spec_l04LessF n]) typ 166 3 n spec_l04Solver_clearkp spec_l04Solver_clearc [1, 0] [] (ending typ 3 Go.Proofs.Try.f110.results.toList spec_l04Solver_clearrs spec_l04Solver_clearbs)) k { env := [(6, .one (.sc (.int .i64 v6))), (0, .one (.ref 0 0 0 0 0 0)), (1, .one (.sc (.int .i64 v1))), (2, .one (.sc (.int .i64 v2)))], bx := [(0, .var 132 [.slice 1 0 none, .slice 2 0 none, .sc (.int .i64 b0_2)]), (1, .pool 0 (.pair (.int .i64) (.int .i64)) b1p b1i), (2, .row 0 (.pair (.int .i64) (.int .i64)) b2)], nx := 3 }) v6 v1 v2 b0_2 b1p b1i b2 := by kernel_rfl
    rw [h]
    have e := congr (congrArg (fun h7 g => spec_l04Solver_clear_t1 n h7 g v6 v1 v2 b0_2 b1p b1i b2) ((funext fun k' => funext fun v9 => funext fun v6 => funext fun v1 => funext fun v2 => funext fun b0_2 => funext fun b1p => funext fun b1i => funext fun b2 => funext fun b3_0 => funext fun b3_1 => spec_l04Solver_clear_l7_eq n (fun s => iter (interp ([spec_l01DivF n, spec_l04LessF n]) typ 166 3 n spec_l04Solver_clearkp (codeAt spec_l04Solver_clearc [1, 0, 0])) (canon 3 (spec_l04Solver_clearkp.loop 1)) (kAt ([spec_l01DivF n, spec_l04LessF n]) typ 166 3 n spec_l04Solver_clearkp spec_l04Solver_clearc [1, 0] [] (ending typ 3 Go.Proofs.Try.f110.results.toList spec_l04Solver_clearrs spec_l04Solver_clearbs)) k s) k' v9 v6 v1 v2 b0_2 b1p b1i b2 b3_0 b3_1).trans (congrArg (fun z => spec_l04Solver_clear_l7 n z) (funext fun v6 => funext fun v1 => funext fun v2 => funext fun b0_2 => funext fun b1p => funext fun b1i => funext fun b2 => spec_l04Solver_clear_l1_eq n k v6 v1 v2 b0_2 b1p b1i b2)))) (funext fun v6 => funext fun v1 => funext fun v2 => funext fun b0_2 => funext fun b1p => funext fun b1i => funext fun b2 => spec_l04Solver_clear_l1_eq n k v6 v1 v2 b0_2 b1p b1i b2)
    exact e

theorem spec_l04Solver_clear_eq (n : Nat) (a1 : Int) (a2 : Int) (b0 : (Int) × (Unit)) (b1 : (List Nat) × (List (List ((Int) × (Int))))) (b2 : List ((Int) × (Int))) : runBody ([spec_l01DivF n, spec_l04LessF n]) typ 166 n spec_l04Solver_clearkp spec_l04Solver_clearc Go.Proofs.Try.f110.results.toList spec_l04Solver_clearrs spec_l04Solver_clearsp spec_l04Solver_clearbs ((), (a1, (a2, ()))) (b0, (b1, (b2, ()))) = spec_l04Solver_clear n a1 a2 b0 b1 b2 := by
  have h : runBody ([spec_l01DivF n, spec_l04LessF n]) typ 166 n spec_l04Solver_clearkp spec_l04Solver_clearc Go.Proofs.Try.f110.results.toList spec_l04Solver_clearrs spec_l04Solver_clearsp spec_l04Solver_clearbs ((), (a1, (a2, ()))) (b0, (b1, (b2, ()))) = spec_l04Solver_clear_t n (fun k v6 v1 v2 b0_2 b1p b1i b2 => iter (interp ([spec_l01DivF n, spec_l04LessF n]) typ 166 3 n spec_l04Solver_clearkp (codeAt spec_l04Solver_clearc [1, 0, 0])) (canon 3 (spec_l04Solver_clearkp.loop 1)) (kAt ([spec_l01DivF n, spec_l04LessF n]) typ 166 3 n spec_l04Solver_clearkp spec_l04Solver_clearc [1, 0] [] (ending typ 3 Go.Proofs.Try.f110.results.toList spec_l04Solver_clearrs spec_l04Solver_clearbs)) k { env := [(6, .one (.sc (.int .i64 v6))), (0, .one (.ref 0 0 0 0 0 0)), (1, .one (.sc (.int .i64 v1))), (2, .one (.sc (.int .i64 v2)))], bx := [(0, .var 132 [.slice 1 0 none, .slice 2 0 none, .sc (.int .i64 b0_2)]), (1, .pool 0 (.pair (.int .i64) (.int .i64)) b1p b1i), (2, .row 0 (.pair (.int .i64) (.int .i64)) b2)], nx := 3 }) a1 a2 b0 b1 b2 := by kernel_rfl
  rw [h]
  have e := congrArg (fun h1 => spec_l04Solver_clear_t n h1 a1 a2 b0 b1 b2) (funext fun k => funext fun v6 => funext fun v1 => funext fun v2 => funext fun b0_2 => funext fun b1p => funext fun b1i => funext fun b2 => spec_l04Solver_clear_l1_eq n k v6 v1 v2 b0_2 b1p b1i b2)
  exact e

theorem spec_l04Solver_clear_ok (n : Nat) : FunOk P (spec_l04Solver_clearF n) :=
  funOk_mkP (C := [spec_l01DivF n, spec_l04LessF n]) (N := 166) (kp := spec_l04Solver_clearkp) (c := spec_l04Solver_clearc) (n := n) (G := fun x y => spec_l04Solver_clear n x.2.1 x.2.2.1 y.1 y.2.1 y.2.2.1) follows (AllOk.mem (⟨spec_l01Div_ok n, ⟨spec_l04Less_ok n, trivial⟩⟩ : AllOk P ([spec_l01DivF n, spec_l04LessF n]))) (by kernel_rfl : P.funcs[110]? = some Go.Proofs.Try.f110) (by kernel_rfl) (by kernel_rfl) (by kernel_rfl)
    (fun x y => spec_l04Solver_clear_eq n x.2.1 x.2.2.1 y.1 y.2.1 y.2.2.1) (fun _ _ => map_same (fun _ => rfl) _) (fun _ _ _ _ => rfl)

abbrev spec_l04Solver_findsp : List Sp := [.ref 0, .v false (.int .i64), .v false (.int .i64)]
abbrev spec_l04Solver_findbs : List (Bs × Bool) := [(.rc 132 [.sl 1, .sl 2, .v (.int .i64)], true), (.pool (.pair (.int .i64) (.int .i64)), true), (.row (.pair (.int .i64) (.int .i64)), true)]
abbrev spec_l04Solver_findrs : List (Bool × List Rp) := [(false, [.v false (.int .i64)])]
noncomputable def spec_l04Solver_findkp : Keep := { loop := fun id => match id with | 2 => ([7, 2, 0], []) | _ => ([], []), join := fun id => match id with | _ => none }
noncomputable def spec_l04Solver_findc : Code := bodyOf Go.Proofs.Try.f108
noncomputable def spec_l04Solver_findF (n : Nat) : Fun := { id := 108, sp := spec_l04Solver_findsp, bs := spec_l04Solver_findbs, rs := spec_l04Solver_findrs, f := fun x y => spec_l04Solver_find n x.2.1 x.2.2.1 y.1 y.2.1 y.2.2.1 }

theorem spec_l04Solver_find_l2_eq (n : Nat) : ∀ (k : Nat) (v7 : Int) (v2 : Int) (b0_2 : Int) (b1p : List Nat) (b1i : List (List ((Int) × (Int)))) (b2 : List ((Int) × (Int))), iter (interp ([]) typ 31 3 n spec_l04Solver_findkp (codeAt spec_l04Solver_findc [1, 0, 1, 0, 0])) (canon 3 (spec_l04Solver_findkp.loop 2)) (kAt ([]) typ 31 3 n spec_l04Solver_findkp spec_l04Solver_findc [1, 0, 1, 0] [] (ending typ 3 Go.Proofs.Try.f108.results.toList spec_l04Solver_findrs spec_l04Solver_findbs)) k { env := [(7, .one (.sc (.int .i64 v7))), (2, .one (.sc (.int .i64 v2))), (0, .one (.ref 0 0 0 0 0 0))], bx := [(0, .var 132 [.slice 1 0 none, .slice 2 0 none, .sc (.int .i64 b0_2)]), (1, .pool 0 (.pair (.int .i64) (.int .i64)) b1p b1i), (2, .row 0 (.pair (.int .i64) (.int .i64)) b2)], nx := 3 } = spec_l04Solver_find_l2 n k v7 v2 b0_2 b1p b1i b2
  | 0, _, _, _, _, _, _ => by kernel_rfl
  | k + 1, v7, v2, b0_2, b1p, b1i, b2 => by
    have h : iter (interp ([]) typ 31 3 n spec_l04Solver_findkp (codeAt spec_l04Solver_findc [1, 0, 1, 0, 0])) (canon 3 (spec_l04Solver_findkp.loop 2)) (kAt ([]) typ 31 3 n spec_l04Solver_findkp spec_l04Solver_findc [1, 0, 1, 0] [] (ending typ 3 Go.Proofs.Try.f108.results.toList spec_l04Solver_findrs spec_l04Solver_findbs)) (k + 1) { env := [(7, .one (.sc (.int .i64 v7))), (2, .one (.sc (.int .i64 v2))), (0, .one (.ref 0 0 0 0 0 0))], bx := [(0, .var 132 [.slice 1 0 none, .slice 2 0 none, .sc (.int .i64 b0_2)]), (1, .pool 0 (.pair (.int .i64) (.int .i64)) b1p b1i), (2, .row 0 (.pair (.int .i64) (.int .i64)) b2)], nx := 3 } = spec_l04Solver_find_t2 n (fun v7 v2 b0_2 b1p b1i b2 => iter (interp ([]) typ 31 3 n spec_l04Solver_findkp (codeAt spec_l04Solver_findc [1, 0, 1, 0, 0])) (canon 3 (spec_l04Solver_findkp.loop 2)) (kAt ([]) typ 31 3 n spec_l04Solver_findkp spec_l04Solver_findc [1, 0, 1, 0] [] (ending typ 3 Go.Proofs.Try.f108.results.toList spec_l04Solver_findrs spec_l04Solver_findbs)) k { env := [(7, .one (.sc (.int .i64 v7))), (2, .one (.sc (.int .i64 v2))), (0, .one (.ref 0 0 0 0 0 0))], bx := [(0, .var 132 [.slice 1 0 none, .slice 2 0 none, .sc (.int .i64 b0_2)]), (1, .pool 0 (.pair (.int .i64) (.int .i64)) b1p b1i), (2, .row 0 (.pair (.int .i64) (.int .i64)) b2)], nx := 3 }) v7 v2 b0_2 b1p b1i b2 := by kernel_rfl
    rw [h]
    have e := congrArg (fun g => spec_l04Solver_find_t2 n g v7 v2 b0_2 b1p b1i b2) (funext fun v7 => funext fun v2 => funext fun b0_2 => funext fun b1p => funext fun b1i => funext fun b2 => spec_l04Solver_find_l2_eq n k v7 v2 b0_2 b1p b1i b2)
    exact e

theorem spec_l04Solver_find_eq (n : Nat) (a1 : Int) (a2 : Int) (b0 : (Int) × (Unit)) (b1 : (List Nat) × (List (List ((Int) × (Int))))) (b2 : List ((Int) × (Int))) : runBody ([]) typ 31 n spec_l04Solver_findkp spec_l04Solver_findc Go.Proofs.Try.f108.results.toList spec_l04Solver_findrs spec_l04Solver_findsp spec_l04Solver_findbs ((), (a1, (a2, ()))) (b0, (b1, (b2, ()))) = spec_l04Solver_find n a1 a2 b0 b1 b2 := by
  have h : runBody ([]) typ 31 n spec_l04Solver_findkp spec_l04Solver_findc Go.Proofs.Try.f108.results.toList spec_l04Solver_findrs spec_l04Solver_findsp spec_l04Solver_findbs ((), (a1, (a2, ()))) (b0, (b1, (b2, ()))) = spec_l04Solver_find_t n (fun k v7 v2 b0_2 b1p b1i b2 => iter (interp ([]) typ 31 3 n spec_l04Solver_findkp (codeAt spec_l04Solver_findc [1, 0, 1, 0, 0])) (canon 3 (spec_l04Solver_findkp.loop 2)) (kAt ([]) typ 31 3 n spec_l04Solver_findkp spec_l04Solver_findc [1, 0, 1, 0] [] (ending typ 3 Go.Proofs.Try.f108.results.toList spec_l04Solver_findrs spec_l04Solver_findbs)) k { env := [(7, .one (.sc (.int .i64 v7))), (2, .one (.sc (.int .i64 v2))), (0, .one (.ref 0 0 0 0 0 0))], bx := [(0, .var 132 [.slice 1 0 none, .slice 2 0 none, .sc (.int .i64 b0_2)]), (1, .pool 0 (.pair (.int .i64) (.int .i64)) b1p b1i), (2, .row 0 (.pair (.int .i64) (.int .i64)) b2)], nx := 3 }) a1 a2 b0 b1 b2 := by kernel_rfl
  rw [h]
  have e := congrArg (fun h2 => spec_l04Solver_find_t n h2 a1 a2 b0 b1 b2) (funext fun k => funext fun v7 => funext fun v2 => funext fun b0_2 => funext fun b1p => funext fun b1i => funext fun b2 => spec_l04Solver_find_l2_eq n k v7 v2 b0_2 b1p b1i b2)
  exact e

theorem spec_l04Solver_find_ok (n : Nat) : FunOk P (spec_l04Solver_findF n) :=
  funOk_mkP (C := []) (N := 31) (kp := spec_l04Solver_findkp) (c := spec_l04Solver_findc) (n := n) (G := fun x y => spec_l04Solver_find n x.2.1 x.2.2.1 y.1 y.2.1 y.2.2.1) follows (AllOk.mem (trivial : AllOk P ([]))) (by kernel_rfl : P.funcs[108]? = some Go.Proofs.Try.f108) (by kernel_rfl) (by kernel_rfl) (by kernel_rfl)
    (fun x y => spec_l04Solver_find_eq n x.2.1 x.2.2.1 y.1 y.2.1 y.2.2.1) (fun _ _ => map_same (fun _ => rfl) _) (fun _ _ _ _ => rfl)

abbrev spec_l04Solver_swapsp : List Sp := [.ref 0, .v false (.int .i64), .v false (.int .i64)]
abbrev spec_l04Solver_swapbs : List (Bs × Bool) := [(.rc 132 [.sl 1, .sl 2, .v (.int .i64)], true), (.pool (.pair (.int .i64) (.int .i64)), true), (.row (.pair (.int .i64) (.int .i64)), true)]
abbrev spec_l04Solver_swaprs : List (Bool × List Rp) := []
noncomputable def spec_l04Solver_swapkp : Keep := { loop := fun id => match id with | _ => ([], []), join := fun id => match id with | _ => none }
noncomputable def spec_l04Solver_swapc : Code := bodyOf Go.Proofs.Try.f109
noncomputable def spec_l04Solver_swapF (n : Nat) : Fun := { id := 109, sp := spec_l04Solver_swapsp, bs := spec_l04Solver_swapbs, rs := spec_l04Solver_swaprs, f := fun x y => spec_l04Solver_swap n x.2.1 x.2.2.1 y.1 y.2.1 y.2.2.1 }

theorem spec_l04Solver_swap_eq (n : Nat) (a1 : Int) (a2 : Int) (b0 : (Int) × (Unit)) (b1 : (List Nat) × (List (List ((Int) × (Int))))) (b2 : List ((Int) × (Int))) : runBody ([]) typ 62 n spec_l04Solver_swapkp spec_l04Solver_swapc Go.Proofs.Try.f109.results.toList spec_l04Solver_swaprs spec_l04Solver_swapsp spec_l04Solver_swapbs ((), (a1, (a2, ()))) (b0, (b1, (b2, ()))) = spec_l04Solver_swap n a1 a2 b0 b1 b2 := by
  have h : runBody ([]) typ 62 n spec_l04Solver_swapkp spec_l04Solver_swapc Go.Proofs.Try.f109.results.toList spec_l04Solver_swaprs spec_l04Solver_swapsp spec_l04Solver_swapbs ((), (a1, (a2, ()))) (b0, (b1, (b2, ()))) = spec_l04Solver_swap_t n a1 a2 b0 b1 b2 := by kernel_rfl
  rw [h]
  rfl

theorem spec_l04Solver_swap_ok (n : Nat) : FunOk P (spec_l04Solver_swapF n) :=
  funOk_mkP (C := []) (N := 62) (kp := spec_l04Solver_swapkp) (c := spec_l04Solver_swapc) (n := n) (G := fun x y => spec_l04Solver_swap n x.2.1 x.2.2.1 y.1 y.2.1 y.2.2.1) follows (AllOk.mem (trivial : AllOk P ([]))) (by kernel_rfl : P.funcs[109]? = some Go.Proofs.Try.f109) (by kernel_rfl) (by kernel_rfl) (by kernel_rfl)
    (fun x y => spec_l04Solver_swap_eq n x.2.1 x.2.2.1 y.1 y.2.1 y.2.2.1) (fun _ _ => map_same (fun _ => rfl) _) (fun _ _ _ _ => rfl)

abbrev spec_l04Solvesp : List Sp := [.v false (.list (.list (.pair (.int .i64) (.int .i64)))), .v false (.list (.pair (.int .i64) (.int .i64)))]
abbrev spec_l04Solvebs : List (Bs × Bool) := []
abbrev spec_l04Solvers : List (Bool × List Rp) := [(false, [.new  (.pair (.int .i64) (.int .i64))]), (false, [.v false (.int .i64)])]
noncomputable def spec_l04Solvekp : Keep := { loop := fun id => match id with | 3 => ([6, 7, 0], []) | 14 => ([10, 9, 6, 0], []) | _ => ([], []), join := fun id => match id with | _ => none }
noncomputable def spec_l04Solvec : Code := bodyOf Go.Proofs.Try.f69
noncomputable def spec_l04SolveF (n : Nat) : Fun := { id := 69, sp := spec_l04Solvesp, bs := spec_l04Solvebs, rs := spec_l04Solvers, f := fun x y => spec_l04Solve n x.1 x.2.1 }

theorem spec_l04Solve_l14_eq (n : Nat) : ∀ (k : Nat) (v10 : Int) (v0 : List (List ((Int) × (Int)))) (b0 : List ((Int) × (Int))) (b1_2 : Int) (b2p : List Nat) (b2i : List (List ((Int) × (Int)))) (b3 : List ((Int) × (Int))), iter (interp ([spec_l04BeginF n, spec_l04Solver_findF n, spec_l04Solver_swapF n, spec_l04Solver_clearF n, spec_l01DivF n]) typ 84 0 n spec_l04Solvekp (codeAt spec_l04Solvec [1, 1, 1, 1, 0, 1, 0, 0])) (canon 0 (spec_l04Solvekp.loop 14)) (kAt ([spec_l04BeginF n, spec_l04Solver_findF n, spec_l04Solver_swapF n, spec_l04Solver_clearF n, spec_l01DivF n]) typ 84 0 n spec_l04Solvekp spec_l04Solvec [1, 1, 1, 1, 0, 1, 0] [] (ending typ 0 Go.Proofs.Try.f69.results.toList spec_l04Solvers spec_l04Solvebs)) k { env := [(10, .one (.sc (.int .i64 v10))), (9, .one (.slice 0 0 none)), (6, .one (.ref 1 0 0 0 0 0)), (0, .one (.list true (.list (.pair (.int .i64) (.int .i64))) v0))], bx := [(0, .row 0 (.pair (.int .i64) (.int .i64)) b0), (1, .var 132 [.slice 2 0 none, .slice 3 0 none, .sc (.int .i64 b1_2)]), (2, .pool 0 (.pair (.int .i64) (.int .i64)) b2p b2i), (3, .row 0 (.pair (.int .i64) (.int .i64)) b3)], nx := 4 } = spec_l04Solve_l14 n k v10 v0 b0 b1_2 b2p b2i b3
  | 0, _, _, _, _, _, _, _ => by kernel_rfl
  | k + 1, v10, v0, b0, b1_2, b2p, b2i, b3 => by
    have h : iter (interp ([spec_l04BeginF n, spec_l04Solver_findF n, spec_l04Solver_swapF n, spec_l04Solver_clearF n, spec_l01DivF n]) typ 84 0 n spec_l04Solvekp (codeAt spec_l04Solvec [1, 1, 1, 1, 0, 1, 0, 0])) (canon 0 (spec_l04Solvekp.loop 14)) (kAt ([spec_l04BeginF n, spec_l04Solver_findF n, spec_l04Solver_swapF n, spec_l04Solver_clearF n, spec_l01DivF n]) typ 84 0 n spec_l04Solvekp spec_l04Solvec [1, 1, 1, 1, 0, 1, 0] [] (ending typ 0 Go.Proofs.Try.f69.results.toList spec_l04Solvers spec_l04Solvebs)) (k + 1) { env := [(10, .one (.sc (.int .i64 v10))), (9, .one (.slice 0 0 none)), (6, .one (.ref 1 0 0 0 0 0)), (0, .one (.list true (.list (.pair (.int .i64) (.int .i64))) v0))], bx := [(0, .row 0 (.pair (.int .i64) (.int .i64)) b0), (1, .var 132 [.slice 2 0 none, .slice 3 0 none, .sc (.int .i64 b1_2)]), (2, .pool 0 (.pair (.int .i64) (.int .i64)) b2p b2i), (3, .row 0 (.pair (.int .i64) (.int .i64)) b3)], nx := 4 } = spec_l04Solve_t14 n (fun v10 v0 b0 b1_2 b2p b2i b3 => iter (interp ([spec_l04BeginF n, spec_l04Solver_findF n, spec_l04Solver_swapF n, spec_l04Solver_clearF n, spec_l01DivF n]) typ 84 0 n spec_l04Solvekp (codeAt spec_l04Solvec [1, 1, 1, 1, 0, 1, 0, 0])) (canon 0 (spec_l04Solvekp.loop 14)) (kAt ([spec_l04BeginF n, spec_l04Solver_findF n, spec_l04Solver_swapF n, spec_l04Solver_clearF n, spec_l01DivF n]) typ 84 0 n spec_l04Solvekp spec_l04Solvec [1, 1, 1, 1, 0, 1, 0] [] (ending typ 0 Go.Proofs.Try.f69.results.toList spec_l04Solvers spec_l04Solvebs)) k { env := [(10, .one (.sc (.int .i64 v10))), (9, .one (.slice 0 0 none)), (6, .one (.ref 1 0 0 0 0 0)), (0, .one (.list true (.list (.pair (.int .i64) (.int .i64))) v0))], bx := [(0, .row 0 (.pair (.int .i64) (.int .i64)) b0), (1, .var 132 [.slice 2 0 none, .slice 3 0 none, .sc (.int .i64 b1_2)]), (2, .pool 0 (.pair (.int .i64) (.int .i64)) b2p b2i), (3, .row 0 (.pair (.int .i64) (.int .i64)) b3)], nx := 4 }) v10 v0 b0 b1_2 b2p b2i b3 := by kernel_rfl
    rw [h]
    have e := congrArg (fun g => spec_l04Solve_t14 n g v10 v0 b0 b1_2 b2p b2i b3) (funext fun v10 => funext fun v0 => funext fun b0 => funext fun b1_2 => funext fun b2p => funext fun b2i => funext fun b3 => spec_l04Solve_l14_eq n k v10 v0 b0 b1_2 b2p b2i b3)
    exact e

theorem spec_l04Solve_l3_eq (n : Nat) : ∀ (k : Nat) (v7 : Int) (v0 : List (List ((Int) × (Int)))) (b0_2 : Int) (b1p : List Nat) (b1i : List (List ((Int) × (Int)))) (b2 : List ((Int) × (Int))), iter (interp ([spec_l04BeginF n, spec_l04Solver_findF n, spec_l04Solver_swapF n, spec_l04Solver_clearF n, spec_l01DivF n]) typ 84 0 n spec_l04Solvekp (codeAt spec_l04Solvec [1, 1, 0, 1, 0, 0])) (canon 0 (spec_l04Solvekp.loop 3)) (kAt ([spec_l04BeginF n, spec_l04Solver_findF n, spec_l04Solver_swapF n, spec_l04Solver_clearF n, spec_l01DivF n]) typ 84 0 n spec_l04Solvekp spec_l04Solvec [1, 1, 0, 1, 0] [] (ending typ 0 Go.Proofs.Try.f69.results.toList spec_l04Solvers spec_l04Solvebs)) k { env := [(6, .one (.ref 0 0 0 0 0 0)), (7, .one (.sc (.int .i64 v7))), (0, .one (.list true (.list (.pair (.int .i64) (.int .i64))) v0))], bx := [(0, .var 132 [.slice 1 0 none, .slice 2 0 none, .sc (.int .i64 b0_2)]), (1, .pool 0 (.pair (.int .i64) (.int .i64)) b1p b1i), (2, .row 0 (.pair (.int .i64) (.int .i64)) b2)], nx := 3 } = spec_l04Solve_l3 n k v7 v0 b0_2 b1p b1i b2
  | 0, _, _, _, _, _, _ => by kernel_rfl
  | k + 1, v7, v0, b0_2, b1p, b1i, b2 => by
    have h : iter (interp ([spec_l04BeginF n, spec_l04Solver_findF n, spec_l04Solver_swapF n, spec_l04Solver_clearF n, spec_l01DivF n]) typ 84 0 n spec_l04Solvekp (codeAt spec_l04Solvec [1, 1, 0, 1, 0, 0])) (canon 0 (spec_l04Solvekp.loop 3)) (kAt ([spec_l04BeginF n, spec_l04Solver_findF n, spec_l04Solver_swapF n, spec_l04Solver_clearF n, spec_l01DivF n]) typ 84 0 n spec_l04Solvekp spec_l04Solvec [1, 1, 0, 1, 0] [] (ending typ 0 Go.Proofs.Try.f69.results.toList spec_l04Solvers spec_l04Solvebs)) (k + 1) { env := [(6, .one (.ref 0 0 0 0 0 0)), (7, .one (.sc (.int .i64 v7))), (0, .one (.list true (.list (.pair (.int .i64) (.int .i64))) v0))], bx := [(0, .var 132 [.slice 1 0 none, .slice 2 0 none, .sc (.int .i64 b0_2)]), (1, .pool 0 (.pair (.int .i64) (.int .i64)) b1p b1i), (2, .row 0 (.pair (.int .i64) (.int .i64)) b2)], nx := 3 } = spec_l04Solve_t3 n (fun k' v10 v0 b0 b1_2 b2p b2i b3 => iter (interp ([spec_l04BeginF n, spec_l04Solver_findF n, spec_l04Solver_swapF n, spec_l04Solver_clearF n, spec_l01DivF n]) typ 84 0 n spec_l04Solvekp (codeAt spec_l04Solvec [1, 1, 1, 1, 0, 1, 0, 0])) (canon 0 (spec_l04Solvekp.loop 14)) (kAt ([spec_l04BeginF n, spec_l04Solver_findF n, spec_l04Solver_swapF n, spec_l04Solver_clearF n, spec_l01DivF n]) typ 84 0 n spec_l04Solvekp spec_l04Solvec [1, 1, 1, 1, 0, 1, 0] [] (ending typ 0 Go.Proofs.Try.f69.results.toList spec_l04Solvers spec_l04Solvebs)) k' { env := [(10, .one (.sc (.int .i64 v10))), (9, .one (.slice 0 0 none)), (6, .one (.ref 1 0 0 0 0 0)), (0, .one (.list true (.list (.pair (.int .i64) (.int .i64))) v0))], bx := [(0, .row 0 (.pair (.int .i64) (.int .i64)) b0), (1, .var 132 [.slice 2 0 none, .slice 3 0 none, .sc (.int .i64 b1_2)]), (2, .pool 0 (.pair (.int .i64) (.int .i64)) b2p b2i), (3, .row 0 (.pair (.int .i64) (.int .i64)) b3)], nx := 4 }) (fun v7 v0 b0_2 b1p b1i b2 => iter (interp ([spec_l04BeginF n, spec_l04Solver_findF n, spec_l04Solver_swapF n, spec_l04Solver_clearF n, spec_l01DivF n]) typ 84 0 n spec_l04Solvekp (codeAt spec_l04Solvec [1, 1, 0, 1, 0, 0])) (canon 0 (spec_l04Solvekp.loop 3)) (kAt ([spec_l04BeginF n, spec_l04Solver_findF n, spec_l04Solver_swapF n, spec_l04Solver_clearF n, spec_l01DivF n]) typ 84 0 n spec_l04Solvekp spec_l04Solvec [1, 1, 0, 1, 0] [] (ending typ 0 Go.Proofs.Try.f69.results.toList spec_l04Solvers spec_l04Solvebs)) k { env := [(6, .one (.ref 0 0 0 0 0 0)), (7, .one (.sc (.int .i64 v7))), (0, .one (.list true (.list (.pair (.int .i64) (.int .i64))) v0))], bx := [(0, .var 132 [.slice 1 0 none, .slice 2 0 none, .sc (.int .i64 b0_2)]), (1, .pool 0 (.pair (.int .i64) (.int .i64)) b1p b1i), (2, .row 0 (.pair (.int .i64) (.int .i64)) b2)], nx := 3 }) v7 v0 b0_2 b1p b1i b2 := by kernel_rfl
    rw [h]
    have e := congr (congrArg (fun h14 g => spec_l04Solve_t3 n h14 g v7 v0 b0_2 b1p b1i b2) (funext fun k' => funext fun v10 => funext fun v0 => funext fun b0 => funext fun b1_2 => funext fun b2p => funext fun b2i => funext fun b3 => spec_l04Solve_l14_eq n k' v10 v0 b0 b1_2 b2p b2i b3)) (funext fun v7 => funext fun v0 => funext fun b0_2 => funext fun b1p => funext fun b1i => funext fun b2 => spec_l04Solve_l3_eq n k v7 v0 b0_2 b1p b1i b2)
    exact e

theorem spec_l04Solve_eq (n : Nat) (a0 : List (List ((Int) × (Int)))) (a1 : List ((Int) × (Int))) : runBody ([spec_l04BeginF n, spec_l04Solver_findF n, spec_l04Solver_swapF n, spec_l04Solver_clearF n, spec_l01DivF n]) typ 84 n spec_l04Solvekp spec_l04Solvec Go.Proofs.Try.f69.results.toList spec_l04Solvers spec_l04Solvesp spec_l04Solvebs (a0, (a1, ())) () = spec_l04Solve n a0 a1 := by
  have h : runBody ([spec_l04BeginF n, spec_l04Solver_findF n, spec_l04Solver_swapF n, spec_l04Solver_clearF n, spec_l01DivF n]) typ 84 n spec_l04Solvekp spec_l04Solvec Go.Proofs.Try.f69.results.toList spec_l04Solvers spec_l04Solvesp spec_l04Solvebs (a0, (a1, ())) () = spec_l04Solve_t n (fun k v7 v0 b0_2 b1p b1i b2 => iter (interp ([spec_l04BeginF n, spec_l04Solver_findF n, spec_l04Solver_swapF n, spec_l04Solver_clearF n, spec_l01DivF n]) typ 84 0 n spec_l04Solvekp (codeAt spec_l04Solvec [1, 1, 0, 1, 0, 0])) (canon 0 (spec_l04Solvekp.loop 3)) (kAt ([spec_l04BeginF n, spec_l04Solver_findF n, spec_l04Solver_swapF n, spec_l04Solver_clearF n, spec_l01DivF n]) typ 84 0 n spec_l04Solvekp spec_l04Solvec [1, 1, 0, 1, 0] [] (ending typ 0 Go.Proofs.Try.f69.results.toList spec_l04Solvers spec_l04Solvebs)) k { env := [(6, .one (.ref 0 0 0 0 0 0)), (7, .one (.sc (.int .i64 v7))), (0, .one (.list true (.list (.pair (.int .i64) (.int .i64))) v0))], bx := [(0, .var 132 [.slice 1 0 none, .slice 2 0 none, .sc (.int .i64 b0_2)]), (1, .pool 0 (.pair (.int .i64) (.int .i64)) b1p b1i), (2, .row 0 (.pair (.int .i64) (.int .i64)) b2)], nx := 3 }) a0 a1 := by kernel_rfl
  rw [h]
  have e := congrArg (fun h3 => spec_l04Solve_t n h3 a0 a1) (funext fun k => funext fun v7 => funext fun v0 => funext fun b0_2 => funext fun b1p => funext fun b1i => funext fun b2 => spec_l04Solve_l3_eq n k v7 v0 b0_2 b1p b1i b2)
  exact e

theorem spec_l04Solve_ok (n : Nat) : FunOk P (spec_l04SolveF n) :=
  funOk_mkP (C := [spec_l04BeginF n, spec_l04Solver_findF n, spec_l04Solver_swapF n, spec_l04Solver_clearF n, spec_l01DivF n]) (N := 84) (kp := spec_l04Solvekp) (c := spec_l04Solvec) (n := n) (G := fun x y => spec_l04Solve n x.1 x.2.1) follows (AllOk.mem (⟨spec_l04Begin_ok n, ⟨spec_l04Solver_find_ok n, ⟨spec_l04Solver_swap_ok n, ⟨spec_l04Solver_clear_ok n, ⟨spec_l01Div_ok n, trivial⟩⟩⟩⟩⟩ : AllOk P ([spec_l04BeginF n, spec_l04Solver_findF n, spec_l04Solver_swapF n, spec_l04Solver_clearF n, spec_l01DivF n]))) (by kernel_rfl : P.funcs[69]? = some Go.Proofs.Try.f69) (by kernel_rfl) (by kernel_rfl) (by kernel_rfl)
    (fun x y => spec_l04Solve_eq n x.1 x.2.1) (fun _ _ => map_same (fun _ => rfl) _) (fun _ _ _ _ => rfl)

abbrev spec_SolveFracssp : List Sp := [.v false (.list (.list (.pair (.int .i64) (.int .i64)))), .v false (.list (.pair (.int .i64) (.int .i64)))]
abbrev spec_SolveFracsbs : List (Bs × Bool) := []
abbrev spec_SolveFracsrs : List (Bool × List Rp) := [(false, [.new  (.pair (.int .i64) (.int .i64))]), (false, [.v false (.int .i64)])]
noncomputable def spec_SolveFracskp : Keep := { loop := fun id => match id with | 3 => ([7, 0, 1, 6], []) | 10 => ([8, 0, 6, 1], []) | _ => ([], []), join := fun id => match id with | _ => none }
noncomputable def spec_SolveFracsc : Code := bodyOf Go.Proofs.Try.f15
noncomputable def spec_SolveFracsF (n : Nat) : Fun := { id := 15, sp := spec_SolveFracssp, bs := spec_SolveFracsbs, rs := spec_SolveFracsrs, f := fun x y => spec_SolveFracs n x.1 x.2.1 }

theorem spec_SolveFracs_l10_eq (n : Nat) : ∀ (k : Nat) (v8 : Int) (v0 : List (List ((Int) × (Int)))) (v6 : Bool) (v1 : List ((Int) × (Int))), iter (interp ([spec_l04FracsF n, spec_l00InF n, spec_l04SolveF n]) ty 63 0 n spec_SolveFracskp (codeAt spec_SolveFracsc [1, 1, 1, 1, 1, 0, 1, 0, 0])) (canon 0 (spec_SolveFracskp.loop 10)) (kAt ([spec_l04FracsF n, spec_l00InF n, spec_l04SolveF n]) ty 63 0 n spec_SolveFracskp spec_SolveFracsc [1, 1, 1, 1, 1, 0, 1, 0] [] (ending ty 0 Go.Proofs.Try.f15.results.toList spec_SolveFracsrs spec_SolveFracsbs)) k { env := [(8, .one (.sc (.int .i64 v8))), (0, .one (.list true (.list (.pair (.int .i64) (.int .i64))) v0)), (6, .one (.sc (.bool v6))), (1, .one (.list true (.pair (.int .i64) (.int .i64)) v1))], bx := [], nx := 0 } = spec_SolveFracs_l10 n k v8 v0 v6 v1
  | 0, _, _, _, _ => by kernel_rfl
  | k + 1, v8, v0, v6, v1 => by
    have h : iter (interp ([spec_l04FracsF n, spec_l00InF n, spec_l04SolveF n]) ty 63 0 n spec_SolveFracskp (codeAt spec_SolveFracsc [1, 1, 1, 1, 1, 0, 1, 0, 0])) (canon 0 (spec_SolveFracskp.loop 10)) (kAt ([spec_l04FracsF n, spec_l00InF n, spec_l04SolveF n]) ty 63 0 n spec_SolveFracskp spec_SolveFracsc [1, 1, 1, 1, 1, 0, 1, 0] [] (ending ty 0 Go.Proofs.Try.f15.results.toList spec_SolveFracsrs spec_SolveFracsbs)) (k + 1) { env := [(8, .one (.sc (.int .i64 v8))), (0, .one (.list true (.list (.pair (.int .i64) (.int .i64))) v0)), (6, .one (.sc (.bool v6))), (1, .one (.list true (.pair (.int .i64) (.int .i64)) v1))], bx := [], nx := 0 } = spec_SolveFracs_t10 n (fun v8 v0 v6 v1 => iter (interp ([spec_l04FracsF n, spec_l00InF n, spec_l04SolveF n]) ty 63 0 n spec_SolveFracskp (codeAt spec_SolveFracsc [1, 1, 1, 1, 1, 0, 1, 0, 0])) (canon 0 (spec_SolveFracskp.loop 10)) (kAt ([spec_l04FracsF n, spec_l00InF n, spec_l04SolveF n]) ty 63 0 n spec_SolveFracskp spec_SolveFracsc [1, 1, 1, 1, 1, 0, 1, 0] [] (ending ty 0 Go.Proofs.Try.f15.results.toList spec_SolveFracsrs spec_SolveFracsbs)) k { env := [(8, .one (.sc (.int .i64 v8))), (0, .one (.list true (.list (.pair (.int .i64) (.int .i64))) v0)), (6, .one (.sc (.bool v6))), (1, .one (.list true (.pair (.int .i64) (.int .i64)) v1))], bx := [], nx := 0 }) v8 v0 v6 v1 := by kernel_rfl
    rw [h]
    have e := congrArg (fun g => spec_SolveFracs_t10 n g v8 v0 v6 v1) (funext fun v8 => funext fun v0 => funext fun v6 => funext fun v1 => spec_SolveFracs_l10_eq n k v8 v0 v6 v1)
    exact e

theorem spec_SolveFracs_l3_eq (n : Nat) : ∀ (k : Nat) (v7 : Int) (v0 : List (List ((Int) × (Int)))) (v1 : List ((Int) × (Int))) (v6 : Bool), iter (interp ([spec_l04FracsF n, spec_l00InF n, spec_l04SolveF n]) ty 63 0 n spec_SolveFracskp (codeAt spec_SolveFracsc [1, 1, 0, 1, 0, 0])) (canon 0 (spec_SolveFracskp.loop 3)) (kAt ([spec_l04FracsF n, spec_l00InF n, spec_l04SolveF n]) ty 63 0 n spec_SolveFracskp spec_SolveFracsc [1, 1, 0, 1, 0] [] (ending ty 0 Go.Proofs.Try.f15.results.toList spec_SolveFracsrs spec_SolveFracsbs)) k { env := [(7, .one (.sc (.int .i64 v7))), (0, .one (.list true (.list (.pair (.int .i64) (.int .i64))) v0)), (1, .one (.list true (.pair (.int .i64) (.int .i64)) v1)), (6, .one (.sc (.bool v6)))], bx := [], nx := 0 } = spec_SolveFracs_l3 n k v7 v0 v1 v6
  | 0, _, _, _, _ => by kernel_rfl
  | k + 1, v7, v0, v1, v6 => by
    have h : iter (interp ([spec_l04FracsF n, spec_l00InF n, spec_l04SolveF n]) ty 63 0 n spec_SolveFracskp (codeAt spec_SolveFracsc [1, 1, 0, 1, 0, 0])) (canon 0 (spec_SolveFracskp.loop 3)) (kAt ([spec_l04FracsF n, spec_l00InF n, spec_l04SolveF n]) ty 63 0 n spec_SolveFracskp spec_SolveFracsc [1, 1, 0, 1, 0] [] (ending ty 0 Go.Proofs.Try.f15.results.toList spec_SolveFracsrs spec_SolveFracsbs)) (k + 1) { env := [(7, .one (.sc (.int .i64 v7))), (0, .one (.list true (.list (.pair (.int .i64) (.int .i64))) v0)), (1, .one (.list true (.pair (.int .i64) (.int .i64)) v1)), (6, .one (.sc (.bool v6)))], bx := [], nx := 0 } = spec_SolveFracs_t3 n (fun k' v8 v0 v6 v1 => iter (interp ([spec_l04FracsF n, spec_l00InF n, spec_l04SolveF n]) ty 63 0 n spec_SolveFracskp (codeAt spec_SolveFracsc [1, 1, 1, 1, 1, 0, 1, 0, 0])) (canon 0 (spec_SolveFracskp.loop 10)) (kAt ([spec_l04FracsF n, spec_l00InF n, spec_l04SolveF n]) ty 63 0 n spec_SolveFracskp spec_SolveFracsc [1, 1, 1, 1, 1, 0, 1, 0] [] (ending ty 0 Go.Proofs.Try.f15.results.toList spec_SolveFracsrs spec_SolveFracsbs)) k' { env := [(8, .one (.sc (.int .i64 v8))), (0, .one (.list true (.list (.pair (.int .i64) (.int .i64))) v0)), (6, .one (.sc (.bool v6))), (1, .one (.list true (.pair (.int .i64) (.int .i64)) v1))], bx := [], nx := 0 }) (fun v7 v0 v1 v6 => iter (interp ([spec_l04FracsF n, spec_l00InF n, spec_l04SolveF n]) ty 63 0 n spec_SolveFracskp (codeAt spec_SolveFracsc [1, 1, 0, 1, 0, 0])) (canon 0 (spec_SolveFracskp.loop 3)) (kAt ([spec_l04FracsF n, spec_l00InF n, spec_l04SolveF n]) ty 63 0 n spec_SolveFracskp spec_SolveFracsc [1, 1, 0, 1, 0] [] (ending ty 0 Go.Proofs.Try.f15.results.toList spec_SolveFracsrs spec_SolveFracsbs)) k { env := [(7, .one (.sc (.int .i64 v7))), (0, .one (.list true (.list (.pair (.int .i64) (.int .i64))) v0)), (1, .one (.list true (.pair (.int .i64) (.int .i64)) v1)), (6, .one (.sc (.bool v6)))], bx := [], nx := 0 }) v7 v0 v1 v6 := by kernel_rfl
    rw [h]
    have e := congr (congrArg (fun h10 g => spec_SolveFracs_t3 n h10 g v7 v0 v1 v6) (funext fun k' => funext fun v8 => funext fun v0 => funext fun v6 => funext fun v1 => spec_SolveFracs_l10_eq n k' v8 v0 v6 v1)) (funext fun v7 => funext fun v0 => funext fun v1 => funext fun v6 => spec_SolveFracs_l3_eq n k v7 v0 v1 v6)
    exact e

theorem spec_SolveFracs_eq (n : Nat) (a0 : List (List ((Int) × (Int)))) (a1 : List ((Int) × (Int))) : runBody ([spec_l04FracsF n, spec_l00InF n, spec_l04SolveF n]) ty 63 n spec_SolveFracskp spec_SolveFracsc Go.Proofs.Try.f15.results.toList spec_SolveFracsrs spec_SolveFracssp spec_SolveFracsbs (a0, (a1, ())) () = spec_SolveFracs n a0 a1 := by
  have h : runBody ([spec_l04FracsF n, spec_l00InF n, spec_l04SolveF n]) ty 63 n spec_SolveFracskp spec_SolveFracsc Go.Proofs.Try.f15.results.toList spec_SolveFracsrs spec_SolveFracssp spec_SolveFracsbs (a0, (a1, ())) () = spec_SolveFracs_t n (fun k v7 v0 v1 v6 => iter (interp ([spec_l04FracsF n, spec_l00InF n, spec_l04SolveF n]) ty 63 0 n spec_SolveFracskp (codeAt spec_SolveFracsc [1, 1, 0, 1, 0, 0])) (canon 0 (spec_SolveFracskp.loop 3)) (kAt ([spec_l04FracsF n, spec_l00InF n, spec_l04SolveF n]) ty 63 0 n spec_SolveFracskp spec_SolveFracsc [1, 1, 0, 1, 0] [] (ending ty 0 Go.Proofs.Try.f15.results.toList spec_SolveFracsrs spec_SolveFracsbs)) k { env := [(7, .one (.sc (.int .i64 v7))), (0, .one (.list true (.list (.pair (.int .i64) (.int .i64))) v0)), (1, .one (.list true (.pair (.int .i64) (.int .i64)) v1)), (6, .one (.sc (.bool v6)))], bx := [], nx := 0 }) a0 a1 := by kernel_rfl
  rw [h]
  have e := congrArg (fun h3 => spec_SolveFracs_t n h3 a0 a1) (funext fun k => funext fun v7 => funext fun v0 => funext fun v1 => funext fun v6 => spec_SolveFracs_l3_eq n k v7 v0 v1 v6)
  exact e

theorem spec_SolveFracs_ok (n : Nat) : FunOk P (spec_SolveFracsF n) :=
  funOk_mk (C := [spec_l04FracsF n, spec_l00InF n, spec_l04SolveF n]) (N := 63) (kp := spec_SolveFracskp) (c := spec_SolveFracsc) (n := n) (G := fun x y => spec_SolveFracs n x.1 x.2.1) follows (AllOk.mem (⟨spec_l04Fracs_ok n, ⟨spec_l00In_ok n, ⟨spec_l04Solve_ok n, trivial⟩⟩⟩ : AllOk P ([spec_l04FracsF n, spec_l00InF n, spec_l04SolveF n]))) (by kernel_rfl : P.funcs[15]? = some Go.Proofs.Try.f15) (by kernel_rfl) (by kernel_rfl) (by kernel_rfl)
    (fun x y => spec_SolveFracs_eq n x.1 x.2.1) (fun _ _ => map_same (fun _ => rfl) _) (fun _ _ _ _ => rfl)

abbrev laws_FnExactSolveFracssp : List Sp := [.v false (.list (.list (.pair (.int .i64) (.int .i64)))), .v false (.list (.pair (.int .i64) (.int .i64)))]
abbrev laws_FnExactSolveFracsbs : List (Bs × Bool) := []
abbrev laws_FnExactSolveFracsrs : List (Bool × List Rp) := [(false, [.v false .bool])]
noncomputable def laws_FnExactSolveFracskp : Keep := { loop := fun id => match id with | _ => ([], []), join := fun id => match id with | _ => none }
noncomputable def laws_FnExactSolveFracsc : Code := bodyOf Go.Proofs.Try.f5
noncomputable def laws_FnExactSolveFracsF (n : Nat) : Fun := { id := 5, sp := laws_FnExactSolveFracssp, bs := laws_FnExactSolveFracsbs, rs := laws_FnExactSolveFracsrs, f := fun x y => laws_FnExactSolveFracs n x.1 x.2.1 }

theorem laws_FnExactSolveFracs_eq (n : Nat) (a0 : List (List ((Int) × (Int)))) (a1 : List ((Int) × (Int))) : runBody ([laws_szFracSSF n, laws_szFracSF n, laws_toFracSSF n, laws_toFracSF n, spec_SolveFracsF n, impl_SolveFracsF n, laws_eqFracSF n, laws_eqFracSSF n, laws_markFracSSF n, laws_markFracSF n, laws_heldFracSF n]) typ 119 n laws_FnExactSolveFracskp laws_FnExactSolveFracsc Go.Proofs.Try.f5.results.toList laws_FnExactSolveFracsrs laws_FnExactSolveFracssp laws_FnExactSolveFracsbs (a0, (a1, ())) () = laws_FnExactSolveFracs n a0 a1 := by
  have h : runBody ([laws_szFracSSF n, laws_szFracSF n, laws_toFracSSF n, laws_toFracSF n, spec_SolveFracsF n, impl_SolveFracsF n, laws_eqFracSF n, laws_eqFracSSF n, laws_markFracSSF n, laws_markFracSF n, laws_heldFracSF n]) typ 119 n laws_FnExactSolveFracskp laws_FnExactSolveFracsc Go.Proofs.Try.f5.results.toList laws_FnExactSolveFracsrs laws_FnExactSolveFracssp laws_FnExactSolveFracsbs (a0, (a1, ())) () = laws_FnExactSolveFracs_t n a0 a1 := by kernel_rfl
  rw [h]
  rfl

theorem laws_FnExactSolveFracs_ok (n : Nat) : FunOk P (laws_FnExactSolveFracsF n) :=
  funOk_mkP (C := [laws_szFracSSF n, laws_szFracSF n, laws_toFracSSF n, laws_toFracSF n, spec_SolveFracsF n, impl_SolveFracsF n, laws_eqFracSF n, laws_eqFracSSF n, laws_markFracSSF n, laws_markFracSF n, laws_heldFracSF n]) (N := 119) (kp := laws_FnExactSolveFracskp) (c := laws_FnExactSolveFracsc) (n := n) (G := fun x y => laws_FnExactSolveFracs n x.1 x.2.1) follows (AllOk.mem (⟨laws_szFracSS_ok n, ⟨laws_szFracS_ok n, ⟨laws_toFracSS_ok n, ⟨laws_toFracS_ok n, ⟨spec_SolveFracs_ok n, ⟨impl_SolveFracs_ok n, ⟨laws_eqFracS_ok n, ⟨laws_eqFracSS_ok n, ⟨laws_markFracSS_ok n, ⟨laws_markFracS_ok n, ⟨laws_heldFracS_ok n, trivial⟩⟩⟩⟩⟩⟩⟩⟩⟩⟩⟩ : AllOk P ([laws_szFracSSF n, laws_szFracSF n, laws_toFracSSF n, laws_toFracSF n, spec_SolveFracsF n, impl_SolveFracsF n, laws_eqFracSF n, laws_eqFracSSF n, laws_markFracSSF n, laws_markFracSF n, laws_heldFracSF n]))) (by kernel_rfl : P.funcs[5]? = some Go.Proofs.Try.f5) (by kernel_rfl) (by kernel_rfl) (by kernel_rfl)
    (fun x y => laws_FnExactSolveFracs_eq n x.1 x.2.1) (fun _ _ => map_same (fun _ => rfl) _) (fun _ _ _ _ => rfl)

end Go.Abs
