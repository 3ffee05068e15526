import Derived.Test.YtpamckmeeamjjaaGreatDoorDPFracs0
import Derived.Test.YtpamckmeeamjjaaGreatDoorProg
import Derived.Test.YtpamckmeeamjjaaGreatDoorRowD
import Derived.WalkKit
import Derived.ProofKit
import Derived.Shelf.RegionOpenPlain
import Derived.Lib.ConvBytes
import Derived.Test.YtpamckmeeamjjaaGreatDoorShelf
import Derived.KernelRfl
namespace Go.Abs
open Go.Proofs
set_option maxRecDepth 100000
set_option linter.unusedVariables false

noncomputable abbrev P : Program := Tryz.prog
noncomputable abbrev ty : Nat → Option TyI := tyOf P
def bodyOf (f : Func) : Code := match f.body with | some c => c | none => .skip
theorem follows : P.follows .mixedOrders = true := by kernel_rfl

theorem globPow : P.globalNamed "internal/strconv.uint64pow10" = some 3 := by kernel_rfl
noncomputable instance : Laid P where
  g := fun b => b = 3 ∨ b = 0 ∨ b = 1 ∨ b = 2
  L := fun w => (Go.Lib.TabIs P w "internal/strconv.uint64pow10" .u64 Go.Lib.pow10Tab) ∧ (∃ m, w.cell? ⟨0, 0, none⟩ = some (.int .i64 m)) ∧ (∃ te pe, w.cell? ⟨1, 0, none⟩ = some (.iface te pe)) ∧ (∃ te pe, w.cell? ⟨2, 0, none⟩ = some (.iface te pe))
  keep := fun w w' h hl => ⟨tab_keep globPow (h 3 (.inl rfl)) (hl.1), (fun ⟨m, hm⟩ => ⟨m, (cell_eq (h 0 (.inr (.inl rfl))) 0).trans hm⟩) (hl.2.1), (fun ⟨t, p, hm⟩ => ⟨t, p, (cell_eq (h 1 (.inr (.inr (.inl rfl)))) 0).trans hm⟩) (hl.2.2.1), (fun ⟨t, p, hm⟩ => ⟨t, p, (cell_eq (h 2 (.inr (.inr (.inr (rfl))))) 0).trans hm⟩) (hl.2.2.2)⟩
theorem laidPow {w : World} (h : Laid.L P w) : Go.Lib.TabIs P w "internal/strconv.uint64pow10" .u64 Go.Lib.pow10Tab := (show (Go.Lib.TabIs P w "internal/strconv.uint64pow10" .u64 Go.Lib.pow10Tab) ∧ (∃ m, w.cell? ⟨0, 0, none⟩ = some (.int .i64 m)) ∧ (∃ te pe, w.cell? ⟨1, 0, none⟩ = some (.iface te pe)) ∧ (∃ te pe, w.cell? ⟨2, 0, none⟩ = some (.iface te pe)) from h).1
theorem laidMax {w : World} (h : Laid.L P w) : ∃ m, w.cell? ⟨0, 0, none⟩ = some (.int .i64 m) := (show (Go.Lib.TabIs P w "internal/strconv.uint64pow10" .u64 Go.Lib.pow10Tab) ∧ (∃ m, w.cell? ⟨0, 0, none⟩ = some (.int .i64 m)) ∧ (∃ te pe, w.cell? ⟨1, 0, none⟩ = some (.iface te pe)) ∧ (∃ te pe, w.cell? ⟨2, 0, none⟩ = some (.iface te pe)) from h).2.1
theorem laidSyn {w : World} (h : Laid.L P w) : ∃ te pe, w.cell? ⟨1, 0, none⟩ = some (.iface te pe) := (show (Go.Lib.TabIs P w "internal/strconv.uint64pow10" .u64 Go.Lib.pow10Tab) ∧ (∃ m, w.cell? ⟨0, 0, none⟩ = some (.int .i64 m)) ∧ (∃ te pe, w.cell? ⟨1, 0, none⟩ = some (.iface te pe)) ∧ (∃ te pe, w.cell? ⟨2, 0, none⟩ = some (.iface te pe)) from h).2.2.1
theorem laidRan {w : World} (h : Laid.L P w) : ∃ te pe, w.cell? ⟨2, 0, none⟩ = some (.iface te pe) := (show (Go.Lib.TabIs P w "internal/strconv.uint64pow10" .u64 Go.Lib.pow10Tab) ∧ (∃ m, w.cell? ⟨0, 0, none⟩ = some (.int .i64 m)) ∧ (∃ te pe, w.cell? ⟨1, 0, none⟩ = some (.iface te pe)) ∧ (∃ te pe, w.cell? ⟨2, 0, none⟩ = some (.iface te pe)) from h).2.2.2
theorem laid_lt {w : World} (h : Laid.L P w) : ∀ blk, Laid.g P blk → blk < w.heap.size := by
  intro blk hb
  rcases (show blk = 3 ∨ blk = 0 ∨ blk = 1 ∨ blk = 2 from hb) with rfl | rfl | rfl | rfl
  · exact var_lt globPow (laidPow h)
  · exact (fun ⟨m, hm⟩ => cell_lt hm) (laidMax h)
  · exact (fun ⟨t, p, hm⟩ => cell_lt hm) (laidSyn h)
  · exact (fun ⟨t, p, hm⟩ => cell_lt hm) (laidRan h)

abbrev impl_gcdsp : List Sp := [.v false (.int .i64), .v false (.int .i64)]
abbrev impl_gcdbs : List (Bs × Bool) := []
abbrev impl_gcdrs : List (Bool × List Rp) := [(false, [.v false (.int .i64)])]
noncomputable def impl_gcdkp : Keep := { loop := fun id => match id with | 1 => ([1, 0], []) | _ => ([], []), join := fun id => match id with | _ => none }
noncomputable def impl_gcdc : Code := bodyOf Go.Proofs.Tryz.f60
noncomputable def impl_gcdF (n : Nat) : Fun := { id := 60, sp := impl_gcdsp, bs := impl_gcdbs, rs := impl_gcdrs, f := fun x y => impl_gcd n x.1 x.2.1 }

theorem impl_gcd_l1_eq (n : Nat) : ∀ (k : Nat) (v1 : Int) (v0 : Int), iter (interp ([]) ty 15 0 n impl_gcdkp (codeAt impl_gcdc [1, 0, 0, 0])) (canon 0 (impl_gcdkp.loop 1)) (kAt ([]) ty 15 0 n impl_gcdkp impl_gcdc [1, 0, 0] [] (ending ty 0 Go.Proofs.Tryz.f60.results.toList impl_gcdrs impl_gcdbs)) k { env := [(1, .one (.sc (.int .i64 v1))), (0, .one (.sc (.int .i64 v0)))], bx := [], nx := 0 } = impl_gcd_l1 n k v1 v0
  | 0, _, _ => by kernel_rfl
  | k + 1, v1, v0 => by
    have h : iter (interp ([]) ty 15 0 n impl_gcdkp (codeAt impl_gcdc [1, 0, 0, 0])) (canon 0 (impl_gcdkp.loop 1)) (kAt ([]) ty 15 0 n impl_gcdkp impl_gcdc [1, 0, 0] [] (ending ty 0 Go.Proofs.Tryz.f60.results.toList impl_gcdrs impl_gcdbs)) (k + 1) { env := [(1, .one (.sc (.int .i64 v1))), (0, .one (.sc (.int .i64 v0)))], bx := [], nx := 0 } = impl_gcd_t1 n (fun v1 v0 => iter (interp ([]) ty 15 0 n impl_gcdkp (codeAt impl_gcdc [1, 0, 0, 0])) (canon 0 (impl_gcdkp.loop 1)) (kAt ([]) ty 15 0 n impl_gcdkp impl_gcdc [1, 0, 0] [] (ending ty 0 Go.Proofs.Tryz.f60.results.toList impl_gcdrs impl_gcdbs)) k { env := [(1, .one (.sc (.int .i64 v1))), (0, .one (.sc (.int .i64 v0)))], bx := [], nx := 0 }) v1 v0 := by kernel_rfl
    rw [h]
    have e := congrArg (fun g => impl_gcd_t1 n g v1 v0) (funext fun v1 => funext fun v0 => impl_gcd_l1_eq n k v1 v0)
    exact e

theorem impl_gcd_eq (n : Nat) (a0 : Int) (a1 : Int) : runBody ([]) ty 15 n impl_gcdkp impl_gcdc Go.Proofs.Tryz.f60.results.toList impl_gcdrs impl_gcdsp impl_gcdbs (a0, (a1, ())) () = impl_gcd n a0 a1 := by
  have h : runBody ([]) ty 15 n impl_gcdkp impl_gcdc Go.Proofs.Tryz.f60.results.toList impl_gcdrs impl_gcdsp impl_gcdbs (a0, (a1, ())) () = impl_gcd_t n (fun k v1 v0 => iter (interp ([]) ty 15 0 n impl_gcdkp (codeAt impl_gcdc [1, 0, 0, 0])) (canon 0 (impl_gcdkp.loop 1)) (kAt ([]) ty 15 0 n impl_gcdkp impl_gcdc [1, 0, 0] [] (ending ty 0 Go.Proofs.Tryz.f60.results.toList impl_gcdrs impl_gcdbs)) k { env := [(1, .one (.sc (.int .i64 v1))), (0, .one (.sc (.int .i64 v0)))], bx := [], nx := 0 }) a0 a1 := by kernel_rfl
  rw [h]
  have e := congrArg (fun h1 => impl_gcd_t n h1 a0 a1) (funext fun k => funext fun v1 => funext fun v0 => impl_gcd_l1_eq n k v1 v0)
  exact e

theorem impl_gcd_ok (n : Nat) : FunOk P (impl_gcdF n) :=
  funOk_mk (C := []) (N := 15) (kp := impl_gcdkp) (c := impl_gcdc) (n := n) (G := fun x y => impl_gcd n x.1 x.2.1) follows (AllOk.mem (trivial : AllOk P ([]))) (by kernel_rfl : P.funcs[60]? = some Go.Proofs.Tryz.f60) (by kernel_rfl) (by kernel_rfl) (by kernel_rfl)
    (fun x y => impl_gcd_eq n x.1 x.2.1) (fun _ _ => map_same (fun _ => rfl) _) (fun _ _ _ _ => rfl)

abbrev impl_withinsp : List Sp := [.v false (.int .i64), .v false (.int .i64), .v false (.int .i64)]
abbrev impl_withinbs : List (Bs × Bool) := []
abbrev impl_withinrs : List (Bool × List Rp) := [(false, [.v false .bool])]
noncomputable def impl_withinkp : Keep := { loop := fun id => match id with | _ => ([], []), join := fun id => match id with | _ => none }
noncomputable def impl_withinc : Code := bodyOf Go.Proofs.Tryz.f52
noncomputable def impl_withinF (n : Nat) : Fun := { id := 52, sp := impl_withinsp, bs := impl_withinbs, rs := impl_withinrs, f := fun x y => impl_within n x.1 x.2.1 x.2.2.1 }

theorem impl_within_eq (n : Nat) (a0 : Int) (a1 : Int) (a2 : Int) : runBody ([]) ty 15 n impl_withinkp impl_withinc Go.Proofs.Tryz.f52.results.toList impl_withinrs impl_withinsp impl_withinbs (a0, (a1, (a2, ()))) () = impl_within n a0 a1 a2 := by
  have h : runBody ([]) ty 15 n impl_withinkp impl_withinc Go.Proofs.Tryz.f52.results.toList impl_withinrs impl_withinsp impl_withinbs (a0, (a1, (a2, ()))) () = impl_within_t n a0 a1 a2 := by kernel_rfl
  rw [h]
  rfl

theorem impl_within_ok (n : Nat) : FunOk P (impl_withinF n) :=
  funOk_mk (C := []) (N := 15) (kp := impl_withinkp) (c := impl_withinc) (n := n) (G := fun x y => impl_within n x.1 x.2.1 x.2.2.1) follows (AllOk.mem (trivial : AllOk P ([]))) (by kernel_rfl : P.funcs[52]? = some Go.Proofs.Tryz.f52) (by kernel_rfl) (by kernel_rfl) (by kernel_rfl)
    (fun x y => impl_within_eq n x.1 x.2.1 x.2.2.1) (fun _ _ => map_same (fun _ => rfl) _) (fun _ _ _ _ => rfl)

abbrev impl_ValidFracsp : List Sp := [.v true (.pair (.int .i64) (.int .i64))]
abbrev impl_ValidFracbs : List (Bs × Bool) := []
abbrev impl_ValidFracrs : List (Bool × List Rp) := [(false, [.v false .bool])]
noncomputable def impl_ValidFrackp : Keep := { loop := fun id => match id with | _ => ([], []), join := fun id => match id with | _ => none }
noncomputable def impl_ValidFracc : Code := bodyOf Go.Proofs.Tryz.f13
noncomputable def impl_ValidFracF (n : Nat) : Fun := { id := 13, sp := impl_ValidFracsp, bs := impl_ValidFracbs, rs := impl_ValidFracrs, f := fun x y => impl_ValidFrac n x.1 }

theorem impl_ValidFrac_eq (n : Nat) (a0 : (Int) × (Int)) : runBody ([impl_withinF n, impl_gcdF n]) ty 19 n impl_ValidFrackp impl_ValidFracc Go.Proofs.Tryz.f13.results.toList impl_ValidFracrs impl_ValidFracsp impl_ValidFracbs (a0, ()) () = impl_ValidFrac n a0 := by
  have h : runBody ([impl_withinF n, impl_gcdF n]) ty 19 n impl_ValidFrackp impl_ValidFracc Go.Proofs.Tryz.f13.results.toList impl_ValidFracrs impl_ValidFracsp impl_ValidFracbs (a0, ()) () = impl_ValidFrac_t n a0 := by kernel_rfl
  rw [h]
  rfl

theorem impl_ValidFrac_ok (n : Nat) : FunOk P (impl_ValidFracF n) :=
  funOk_mk (C := [impl_withinF n, impl_gcdF n]) (N := 19) (kp := impl_ValidFrackp) (c := impl_ValidFracc) (n := n) (G := fun x y => impl_ValidFrac n x.1) follows (AllOk.mem (⟨impl_within_ok n, ⟨impl_gcd_ok n, trivial⟩⟩ : AllOk P ([impl_withinF n, impl_gcdF n]))) (by kernel_rfl : P.funcs[13]? = some Go.Proofs.Tryz.f13) (by kernel_rfl) (by kernel_rfl) (by kernel_rfl)
    (fun x y => impl_ValidFrac_eq n x.1) (fun _ _ => map_same (fun _ => rfl) _) (fun _ _ _ _ => rfl)

abbrev impl_areValid_1sp : List Sp := [.v true (.pair (.int .i64) (.int .i64))]
abbrev impl_areValid_1bs : List (Bs × Bool) := []
abbrev impl_areValid_1rs : List (Bool × List Rp) := [(false, [.v false .bool])]
noncomputable def impl_areValid_1kp : Keep := { loop := fun id => match id with | _ => ([], []), join := fun id => match id with | _ => none }
noncomputable def impl_areValid_1c : Code := bodyOf Go.Proofs.Tryz.f107
noncomputable def impl_areValid_1F (n : Nat) : Fun := { id := 107, sp := impl_areValid_1sp, bs := impl_areValid_1bs, rs := impl_areValid_1rs, f := fun x y => impl_areValid_1 n x.1 }

theorem impl_areValid_1_eq (n : Nat) (a0 : (Int) × (Int)) : runBody ([impl_ValidFracF n]) ty 6 n impl_areValid_1kp impl_areValid_1c Go.Proofs.Tryz.f107.results.toList impl_areValid_1rs impl_areValid_1sp impl_areValid_1bs (a0, ()) () = impl_areValid_1 n a0 := by
  have h : runBody ([impl_ValidFracF n]) ty 6 n impl_areValid_1kp impl_areValid_1c Go.Proofs.Tryz.f107.results.toList impl_areValid_1rs impl_areValid_1sp impl_areValid_1bs (a0, ()) () = impl_areValid_1_t n a0 := by kernel_rfl
  rw [h]
  rfl

theorem impl_areValid_1_ok (n : Nat) : FunOk P (impl_areValid_1F n) :=
  funOk_mk (C := [impl_ValidFracF n]) (N := 6) (kp := impl_areValid_1kp) (c := impl_areValid_1c) (n := n) (G := fun x y => impl_areValid_1 n x.1) follows (AllOk.mem (⟨impl_ValidFrac_ok n, trivial⟩ : AllOk P ([impl_ValidFracF n]))) (by kernel_rfl : P.funcs[107]? = some Go.Proofs.Tryz.f107) (by kernel_rfl) (by kernel_rfl) (by kernel_rfl)
    (fun x y => impl_areValid_1_eq n x.1) (fun _ _ => map_same (fun _ => rfl) _) (fun _ _ _ _ => rfl)

abbrev slices_IndexFunc_impl_Frac_impl_Frac_at_impl_areValid_1sp : List Sp := [.v false (.list (.pair (.int .i64) (.int .i64))), .cl 107 []]
abbrev slices_IndexFunc_impl_Frac_impl_Frac_at_impl_areValid_1bs : List (Bs × Bool) := []
abbrev slices_IndexFunc_impl_Frac_impl_Frac_at_impl_areValid_1rs : List (Bool × List Rp) := [(false, [.v false (.int .i64)])]
noncomputable def slices_IndexFunc_impl_Frac_impl_Frac_at_impl_areValid_1kp : Keep := { loop := fun id => match id with | 2 => ([8, 0, 1, 7], []) | _ => ([], []), join := fun id => match id with | _ => none }
noncomputable def slices_IndexFunc_impl_Frac_impl_Frac_at_impl_areValid_1c : Code := bodyOf Go.Proofs.Tryz.f131
noncomputable def slices_IndexFunc_impl_Frac_impl_Frac_at_impl_areValid_1F (n : Nat) : Fun := { id := 131, sp := slices_IndexFunc_impl_Frac_impl_Frac_at_impl_areValid_1sp, bs := slices_IndexFunc_impl_Frac_impl_Frac_at_impl_areValid_1bs, rs := slices_IndexFunc_impl_Frac_impl_Frac_at_impl_areValid_1rs, f := fun x y => slices_IndexFunc_impl_Frac_impl_Frac_at_impl_areValid_1 n x.1 }

theorem slices_IndexFunc_impl_Frac_impl_Frac_at_impl_areValid_1_l2_eq (n : Nat) : ∀ (k : Nat) (v8 : Int) (v0 : List ((Int) × (Int))) (v7 : Int), iter (interp ([impl_areValid_1F n]) ty 19 0 n slices_IndexFunc_impl_Frac_impl_Frac_at_impl_areValid_1kp (codeAt slices_IndexFunc_impl_Frac_impl_Frac_at_impl_areValid_1c [1, 0, 1, 0, 0])) (canon 0 (slices_IndexFunc_impl_Frac_impl_Frac_at_impl_areValid_1kp.loop 2)) (kAt ([impl_areValid_1F n]) ty 19 0 n slices_IndexFunc_impl_Frac_impl_Frac_at_impl_areValid_1kp slices_IndexFunc_impl_Frac_impl_Frac_at_impl_areValid_1c [1, 0, 1, 0] [] (ending ty 0 Go.Proofs.Tryz.f131.results.toList slices_IndexFunc_impl_Frac_impl_Frac_at_impl_areValid_1rs slices_IndexFunc_impl_Frac_impl_Frac_at_impl_areValid_1bs)) k { env := [(8, .one (.sc (.int .i64 v8))), (0, .one (.list true (.pair (.int .i64) (.int .i64)) v0)), (1, .one (.clos 107 [])), (7, .one (.sc (.int .i64 v7)))], bx := [], nx := 0 } = slices_IndexFunc_impl_Frac_impl_Frac_at_impl_areValid_1_l2 n k v8 v0 v7
  | 0, _, _, _ => by kernel_rfl
  | k + 1, v8, v0, v7 => by
    have h : iter (interp ([impl_areValid_1F n]) ty 19 0 n slices_IndexFunc_impl_Frac_impl_Frac_at_impl_areValid_1kp (codeAt slices_IndexFunc_impl_Frac_impl_Frac_at_impl_areValid_1c [1, 0, 1, 0, 0])) (canon 0 (slices_IndexFunc_impl_Frac_impl_Frac_at_impl_areValid_1kp.loop 2)) (kAt ([impl_areValid_1F n]) ty 19 0 n slices_IndexFunc_impl_Frac_impl_Frac_at_impl_areValid_1kp slices_IndexFunc_impl_Frac_impl_Frac_at_impl_areValid_1c [1, 0, 1, 0] [] (ending ty 0 Go.Proofs.Tryz.f131.results.toList slices_IndexFunc_impl_Frac_impl_Frac_at_impl_areValid_1rs slices_IndexFunc_impl_Frac_impl_Frac_at_impl_areValid_1bs)) (k + 1) { env := [(8, .one (.sc (.int .i64 v8))), (0, .one (.list true (.pair (.int .i64) (.int .i64)) v0)), (1, .one (.clos 107 [])), (7, .one (.sc (.int .i64 v7)))], bx := [], nx := 0 } = slices_IndexFunc_impl_Frac_impl_Frac_at_impl_areValid_1_t2 n (fun v8 v0 v7 => iter (interp ([impl_areValid_1F n]) ty 19 0 n slices_IndexFunc_impl_Frac_impl_Frac_at_impl_areValid_1kp (codeAt slices_IndexFunc_impl_Frac_impl_Frac_at_impl_areValid_1c [1, 0, 1, 0, 0])) (canon 0 (slices_IndexFunc_impl_Frac_impl_Frac_at_impl_areValid_1kp.loop 2)) (kAt ([impl_areValid_1F n]) ty 19 0 n slices_IndexFunc_impl_Frac_impl_Frac_at_impl_areValid_1kp slices_IndexFunc_impl_Frac_impl_Frac_at_impl_areValid_1c [1, 0, 1, 0] [] (ending ty 0 Go.Proofs.Tryz.f131.results.toList slices_IndexFunc_impl_Frac_impl_Frac_at_impl_areValid_1rs slices_IndexFunc_impl_Frac_impl_Frac_at_impl_areValid_1bs)) k { env := [(8, .one (.sc (.int .i64 v8))), (0, .one (.list true (.pair (.int .i64) (.int .i64)) v0)), (1, .one (.clos 107 [])), (7, .one (.sc (.int .i64 v7)))], bx := [], nx := 0 }) v8 v0 v7 := by kernel_rfl
    rw [h]
    have e := congrArg (fun g => slices_IndexFunc_impl_Frac_impl_Frac_at_impl_areValid_1_t2 n g v8 v0 v7) (funext fun v8 => funext fun v0 => funext fun v7 => slices_IndexFunc_impl_Frac_impl_Frac_at_impl_areValid_1_l2_eq n k v8 v0 v7)
    exact e

theorem slices_IndexFunc_impl_Frac_impl_Frac_at_impl_areValid_1_eq (n : Nat) (a0 : List ((Int) × (Int))) : runBody ([impl_areValid_1F n]) ty 19 n slices_IndexFunc_impl_Frac_impl_Frac_at_impl_areValid_1kp slices_IndexFunc_impl_Frac_impl_Frac_at_impl_areValid_1c Go.Proofs.Tryz.f131.results.toList slices_IndexFunc_impl_Frac_impl_Frac_at_impl_areValid_1rs slices_IndexFunc_impl_Frac_impl_Frac_at_impl_areValid_1sp slices_IndexFunc_impl_Frac_impl_Frac_at_impl_areValid_1bs (a0, ((), ())) () = slices_IndexFunc_impl_Frac_impl_Frac_at_impl_areValid_1 n a0 := by
  have h : runBody ([impl_areValid_1F n]) ty 19 n slices_IndexFunc_impl_Frac_impl_Frac_at_impl_areValid_1kp slices_IndexFunc_impl_Frac_impl_Frac_at_impl_areValid_1c Go.Proofs.Tryz.f131.results.toList slices_IndexFunc_impl_Frac_impl_Frac_at_impl_areValid_1rs slices_IndexFunc_impl_Frac_impl_Frac_at_impl_areValid_1sp slices_IndexFunc_impl_Frac_impl_Frac_at_impl_areValid_1bs (a0, ((), ())) () = slices_IndexFunc_impl_Frac_impl_Frac_at_impl_areValid_1_t n (fun k v8 v0 v7 => iter (interp ([impl_areValid_1F n]) ty 19 0 n slices_IndexFunc_impl_Frac_impl_Frac_at_impl_areValid_1kp (codeAt slices_IndexFunc_impl_Frac_impl_Frac_at_impl_areValid_1c [1, 0, 1, 0, 0])) (canon 0 (slices_IndexFunc_impl_Frac_impl_Frac_at_impl_areValid_1kp.loop 2)) (kAt ([impl_areValid_1F n]) ty 19 0 n slices_IndexFunc_impl_Frac_impl_Frac_at_impl_areValid_1kp slices_IndexFunc_impl_Frac_impl_Frac_at_impl_areValid_1c [1, 0, 1, 0] [] (ending ty 0 Go.Proofs.Tryz.f131.results.toList slices_IndexFunc_impl_Frac_impl_Frac_at_impl_areValid_1rs slices_IndexFunc_impl_Frac_impl_Frac_at_impl_areValid_1bs)) k { env := [(8, .one (.sc (.int .i64 v8))), (0, .one (.list true (.pair (.int .i64) (.int .i64)) v0)), (1, .one (.clos 107 [])), (7, .one (.sc (.int .i64 v7)))], bx := [], nx := 0 }) a0 := by kernel_rfl
  rw [h]
  have e := congrArg (fun h2 => slices_IndexFunc_impl_Frac_impl_Frac_at_impl_areValid_1_t n h2 a0) (funext fun k => funext fun v8 => funext fun v0 => funext fun v7 => slices_IndexFunc_impl_Frac_impl_Frac_at_impl_areValid_1_l2_eq n k v8 v0 v7)
  exact e

theorem slices_IndexFunc_impl_Frac_impl_Frac_at_impl_areValid_1_ok (n : Nat) : FunOk P (slices_IndexFunc_impl_Frac_impl_Frac_at_impl_areValid_1F n) :=
  funOk_mk (C := [impl_areValid_1F n]) (N := 19) (kp := slices_IndexFunc_impl_Frac_impl_Frac_at_impl_areValid_1kp) (c := slices_IndexFunc_impl_Frac_impl_Frac_at_impl_areValid_1c) (n := n) (G := fun x y => slices_IndexFunc_impl_Frac_impl_Frac_at_impl_areValid_1 n x.1) follows (AllOk.mem (⟨impl_areValid_1_ok n, trivial⟩ : AllOk P ([impl_areValid_1F n]))) (by kernel_rfl : P.funcs[131]? = some Go.Proofs.Tryz.f131) (by kernel_rfl) (by kernel_rfl) (by kernel_rfl)
    (fun x y => slices_IndexFunc_impl_Frac_impl_Frac_at_impl_areValid_1_eq n x.1) (fun _ _ => map_same (fun _ => rfl) _) (fun _ _ _ _ => rfl)

abbrev slices_ContainsFunc_impl_Frac_impl_Frac_at_impl_areValid_1sp : List Sp := [.v false (.list (.pair (.int .i64) (.int .i64))), .cl 107 []]
abbrev slices_ContainsFunc_impl_Frac_impl_Frac_at_impl_areValid_1bs : List (Bs × Bool) := []
abbrev slices_ContainsFunc_impl_Frac_impl_Frac_at_impl_areValid_1rs : List (Bool × List Rp) := [(false, [.v false .bool])]
noncomputable def slices_ContainsFunc_impl_Frac_impl_Frac_at_impl_areValid_1kp : Keep := { loop := fun id => match id with | _ => ([], []), join := fun id => match id with | _ => none }
noncomputable def slices_ContainsFunc_impl_Frac_impl_Frac_at_impl_areValid_1c : Code := bodyOf Go.Proofs.Tryz.f106
noncomputable def slices_ContainsFunc_impl_Frac_impl_Frac_at_impl_areValid_1F (n : Nat) : Fun := { id := 106, sp := slices_ContainsFunc_impl_Frac_impl_Frac_at_impl_areValid_1sp, bs := slices_ContainsFunc_impl_Frac_impl_Frac_at_impl_areValid_1bs, rs := slices_ContainsFunc_impl_Frac_impl_Frac_at_impl_areValid_1rs, f := fun x y => slices_ContainsFunc_impl_Frac_impl_Frac_at_impl_areValid_1 n x.1 }

theorem slices_ContainsFunc_impl_Frac_impl_Frac_at_impl_areValid_1_eq (n : Nat) (a0 : List ((Int) × (Int))) : runBody ([slices_IndexFunc_impl_Frac_impl_Frac_at_impl_areValid_1F n]) ty 9 n slices_ContainsFunc_impl_Frac_impl_Frac_at_impl_areValid_1kp slices_ContainsFunc_impl_Frac_impl_Frac_at_impl_areValid_1c Go.Proofs.Tryz.f106.results.toList slices_ContainsFunc_impl_Frac_impl_Frac_at_impl_areValid_1rs slices_ContainsFunc_impl_Frac_impl_Frac_at_impl_areValid_1sp slices_ContainsFunc_impl_Frac_impl_Frac_at_impl_areValid_1bs (a0, ((), ())) () = slices_ContainsFunc_impl_Frac_impl_Frac_at_impl_areValid_1 n a0 := by
  have h : runBody ([slices_IndexFunc_impl_Frac_impl_Frac_at_impl_areValid_1F n]) ty 9 n slices_ContainsFunc_impl_Frac_impl_Frac_at_impl_areValid_1kp slices_ContainsFunc_impl_Frac_impl_Frac_at_impl_areValid_1c Go.Proofs.Tryz.f106.results.toList slices_ContainsFunc_impl_Frac_impl_Frac_at_impl_areValid_1rs slices_ContainsFunc_impl_Frac_impl_Frac_at_impl_areValid_1sp slices_ContainsFunc_impl_Frac_impl_Frac_at_impl_areValid_1bs (a0, ((), ())) () = slices_ContainsFunc_impl_Frac_impl_Frac_at_impl_areValid_1_t n a0 := by kernel_rfl
  rw [h]
  rfl

theorem slices_ContainsFunc_impl_Frac_impl_Frac_at_impl_areValid_1_ok (n : Nat) : FunOk P (slices_ContainsFunc_impl_Frac_impl_Frac_at_impl_areValid_1F n) :=
  funOk_mk (C := [slices_IndexFunc_impl_Frac_impl_Frac_at_impl_areValid_1F n]) (N := 9) (kp := slices_ContainsFunc_impl_Frac_impl_Frac_at_impl_areValid_1kp) (c := slices_ContainsFunc_impl_Frac_impl_Frac_at_impl_areValid_1c) (n := n) (G := fun x y => slices_ContainsFunc_impl_Frac_impl_Frac_at_impl_areValid_1 n x.1) follows (AllOk.mem (⟨slices_IndexFunc_impl_Frac_impl_Frac_at_impl_areValid_1_ok n, trivial⟩ : AllOk P ([slices_IndexFunc_impl_Frac_impl_Frac_at_impl_areValid_1F n]))) (by kernel_rfl : P.funcs[106]? = some Go.Proofs.Tryz.f106) (by kernel_rfl) (by kernel_rfl) (by kernel_rfl)
    (fun x y => slices_ContainsFunc_impl_Frac_impl_Frac_at_impl_areValid_1_eq n x.1) (fun _ _ => map_same (fun _ => rfl) _) (fun _ _ _ _ => rfl)

abbrev impl_areValidsp : List Sp := [.v false (.list (.pair (.int .i64) (.int .i64)))]
abbrev impl_areValidbs : List (Bs × Bool) := []
abbrev impl_areValidrs : List (Bool × List Rp) := [(false, [.v false .bool])]
noncomputable def impl_areValidkp : Keep := { loop := fun id => match id with | _ => ([], []), join := fun id => match id with | _ => none }
noncomputable def impl_areValidc : Code := bodyOf Go.Proofs.Tryz.f55
noncomputable def impl_areValidF (n : Nat) : Fun := { id := 55, sp := impl_areValidsp, bs := impl_areValidbs, rs := impl_areValidrs, f := fun x y => impl_areValid n x.1 }

theorem impl_areValid_eq (n : Nat) (a0 : List ((Int) × (Int))) : runBody ([slices_ContainsFunc_impl_Frac_impl_Frac_at_impl_areValid_1F n]) ty 6 n impl_areValidkp impl_areValidc Go.Proofs.Tryz.f55.results.toList impl_areValidrs impl_areValidsp impl_areValidbs (a0, ()) () = impl_areValid n a0 := by
  have h : runBody ([slices_ContainsFunc_impl_Frac_impl_Frac_at_impl_areValid_1F n]) ty 6 n impl_areValidkp impl_areValidc Go.Proofs.Tryz.f55.results.toList impl_areValidrs impl_areValidsp impl_areValidbs (a0, ()) () = impl_areValid_t n a0 := by kernel_rfl
  rw [h]
  rfl

theorem impl_areValid_ok (n : Nat) : FunOk P (impl_areValidF n) :=
  funOk_mk (C := [slices_ContainsFunc_impl_Frac_impl_Frac_at_impl_areValid_1F n]) (N := 6) (kp := impl_areValidkp) (c := impl_areValidc) (n := n) (G := fun x y => impl_areValid n x.1) follows (AllOk.mem (⟨slices_ContainsFunc_impl_Frac_impl_Frac_at_impl_areValid_1_ok n, trivial⟩ : AllOk P ([slices_ContainsFunc_impl_Frac_impl_Frac_at_impl_areValid_1F n]))) (by kernel_rfl : P.funcs[55]? = some Go.Proofs.Tryz.f55) (by kernel_rfl) (by kernel_rfl) (by kernel_rfl)
    (fun x y => impl_areValid_eq n x.1) (fun _ _ => map_same (fun _ => rfl) _) (fun _ _ _ _ => rfl)

abbrev impl_fracOfsp : List Sp := [.v false (.int .i64), .v false (.int .i64)]
abbrev impl_fracOfbs : List (Bs × Bool) := []
abbrev impl_fracOfrs : List (Bool × List Rp) := [(true, [.v false (.pair (.int .i64) (.int .i64))]), (false, [.v false .bool])]
noncomputable def impl_fracOfkp : Keep := { loop := fun id => match id with | _ => ([], []), join := fun id => match id with | _ => none }
noncomputable def impl_fracOfc : Code := bodyOf Go.Proofs.Tryz.f105
noncomputable def impl_fracOfF (n : Nat) : Fun := { id := 105, sp := impl_fracOfsp, bs := impl_fracOfbs, rs := impl_fracOfrs, f := fun x y => impl_fracOf n x.1 x.2.1 }

theorem impl_fracOf_eq (n : Nat) (a0 : Int) (a1 : Int) : runBody ([impl_gcdF n, impl_ValidFracF n]) ty 29 n impl_fracOfkp impl_fracOfc Go.Proofs.Tryz.f105.results.toList impl_fracOfrs impl_fracOfsp impl_fracOfbs (a0, (a1, ())) () = impl_fracOf n a0 a1 := by
  have h : runBody ([impl_gcdF n, impl_ValidFracF n]) ty 29 n impl_fracOfkp impl_fracOfc Go.Proofs.Tryz.f105.results.toList impl_fracOfrs impl_fracOfsp impl_fracOfbs (a0, (a1, ())) () = impl_fracOf_t n a0 a1 := by kernel_rfl
  rw [h]
  rfl

theorem impl_fracOf_ok (n : Nat) : FunOk P (impl_fracOfF n) :=
  funOk_mk (C := [impl_gcdF n, impl_ValidFracF n]) (N := 29) (kp := impl_fracOfkp) (c := impl_fracOfc) (n := n) (G := fun x y => impl_fracOf n x.1 x.2.1) follows (AllOk.mem (⟨impl_gcd_ok n, ⟨impl_ValidFrac_ok n, trivial⟩⟩ : AllOk P ([impl_gcdF n, impl_ValidFracF n]))) (by kernel_rfl : P.funcs[105]? = some Go.Proofs.Tryz.f105) (by kernel_rfl) (by kernel_rfl) (by kernel_rfl)
    (fun x y => impl_fracOf_eq n x.1 x.2.1) (fun _ _ => map_same (fun _ => rfl) _) (fun _ _ _ _ => rfl)

abbrev impl_zerosp : List Sp := []
abbrev impl_zerobs : List (Bs × Bool) := []
abbrev impl_zerors : List (Bool × List Rp) := [(true, [.v false (.pair (.int .i64) (.int .i64))])]
noncomputable def impl_zerokp : Keep := { loop := fun id => match id with | _ => ([], []), join := fun id => match id with | _ => none }
noncomputable def impl_zeroc : Code := bodyOf Go.Proofs.Tryz.f80
noncomputable def impl_zeroF (n : Nat) : Fun := { id := 80, sp := impl_zerosp, bs := impl_zerobs, rs := impl_zerors, f := fun x y => impl_zero n }

theorem impl_zero_eq (n : Nat) : runBody ([]) ty 2 n impl_zerokp impl_zeroc Go.Proofs.Tryz.f80.results.toList impl_zerors impl_zerosp impl_zerobs () () = impl_zero n := by
  have h : runBody ([]) ty 2 n impl_zerokp impl_zeroc Go.Proofs.Tryz.f80.results.toList impl_zerors impl_zerosp impl_zerobs () () = impl_zero_t n := by kernel_rfl
  rw [h]
  rfl

theorem impl_zero_ok (n : Nat) : FunOk P (impl_zeroF n) :=
  funOk_mk (C := []) (N := 2) (kp := impl_zerokp) (c := impl_zeroc) (n := n) (G := fun x y => impl_zero n) follows (AllOk.mem (trivial : AllOk P ([]))) (by kernel_rfl : P.funcs[80]? = some Go.Proofs.Tryz.f80) (by kernel_rfl) (by kernel_rfl) (by kernel_rfl)
    (fun x y => impl_zero_eq n) (fun _ _ => map_same (fun _ => rfl) _) (fun _ _ _ _ => rfl)

abbrev impl_calc_toldsp : List Sp := [.ref 0, .v false (.int .i64), .v false (.int .i64)]
abbrev impl_calc_toldbs : List (Bs × Bool) := [(.var 74 .bool, true)]
abbrev impl_calc_toldrs : List (Bool × List Rp) := [(true, [.v false (.pair (.int .i64) (.int .i64))])]
noncomputable def impl_calc_toldkp : Keep := { loop := fun id => match id with | _ => ([], []), join := fun id => match id with | _ => none }
noncomputable def impl_calc_toldc : Code := bodyOf Go.Proofs.Tryz.f54
noncomputable def impl_calc_toldF (n : Nat) : Fun := { id := 54, sp := impl_calc_toldsp, bs := impl_calc_toldbs, rs := impl_calc_toldrs, f := fun x y => impl_calc_told n x.2.1 x.2.2.1 y.1 }

theorem impl_calc_told_eq (n : Nat) (a1 : Int) (a2 : Int) (b0 : Bool) : runBody ([impl_fracOfF n, impl_zeroF n]) ty 22 n impl_calc_toldkp impl_calc_toldc Go.Proofs.Tryz.f54.results.toList impl_calc_toldrs impl_calc_toldsp impl_calc_toldbs ((), (a1, (a2, ()))) (b0, ()) = impl_calc_told n a1 a2 b0 := by
  have h : runBody ([impl_fracOfF n, impl_zeroF n]) ty 22 n impl_calc_toldkp impl_calc_toldc Go.Proofs.Tryz.f54.results.toList impl_calc_toldrs impl_calc_toldsp impl_calc_toldbs ((), (a1, (a2, ()))) (b0, ()) = impl_calc_told_t n a1 a2 b0 := by kernel_rfl
  rw [h]
  rfl

theorem impl_calc_told_ok (n : Nat) : FunOk P (impl_calc_toldF n) :=
  funOk_mk (C := [impl_fracOfF n, impl_zeroF n]) (N := 22) (kp := impl_calc_toldkp) (c := impl_calc_toldc) (n := n) (G := fun x y => impl_calc_told n x.2.1 x.2.2.1 y.1) follows (AllOk.mem (⟨impl_fracOf_ok n, ⟨impl_zero_ok n, trivial⟩⟩ : AllOk P ([impl_fracOfF n, impl_zeroF n]))) (by kernel_rfl : P.funcs[54]? = some Go.Proofs.Tryz.f54) (by kernel_rfl) (by kernel_rfl) (by kernel_rfl)
    (fun x y => impl_calc_told_eq n x.2.1 x.2.2.1 y.1) (fun _ _ => map_same (fun _ => rfl) _) (fun _ _ _ _ => rfl)

abbrev impl_calc_addsp : List Sp := [.ref 0, .v true (.pair (.int .i64) (.int .i64)), .v true (.pair (.int .i64) (.int .i64))]
abbrev impl_calc_addbs : List (Bs × Bool) := [(.var 74 .bool, true)]
abbrev impl_calc_addrs : List (Bool × List Rp) := [(true, [.v false (.pair (.int .i64) (.int .i64))])]
noncomputable def impl_calc_addkp : Keep := { loop := fun id => match id with | _ => ([], []), join := fun id => match id with | _ => none }
noncomputable def impl_calc_addc : Code := bodyOf Go.Proofs.Tryz.f56
noncomputable def impl_calc_addF (n : Nat) : Fun := { id := 56, sp := impl_calc_addsp, bs := impl_calc_addbs, rs := impl_calc_addrs, f := fun x y => impl_calc_add n x.2.1 x.2.2.1 y.1 }

theorem impl_calc_add_eq (n : Nat) (a1 : (Int) × (Int)) (a2 : (Int) × (Int)) (b0 : Bool) : runBody ([impl_calc_toldF n]) ty 25 n impl_calc_addkp impl_calc_addc Go.Proofs.Tryz.f56.results.toList impl_calc_addrs impl_calc_addsp impl_calc_addbs ((), (a1, (a2, ()))) (b0, ()) = impl_calc_add n a1 a2 b0 := by
  have h : runBody ([impl_calc_toldF n]) ty 25 n impl_calc_addkp impl_calc_addc Go.Proofs.Tryz.f56.results.toList impl_calc_addrs impl_calc_addsp impl_calc_addbs ((), (a1, (a2, ()))) (b0, ()) = impl_calc_add_t n a1 a2 b0 := by kernel_rfl
  rw [h]
  rfl

theorem impl_calc_add_ok (n : Nat) : FunOk P (impl_calc_addF n) :=
  funOk_mk (C := [impl_calc_toldF n]) (N := 25) (kp := impl_calc_addkp) (c := impl_calc_addc) (n := n) (G := fun x y => impl_calc_add n x.2.1 x.2.2.1 y.1) follows (AllOk.mem (⟨impl_calc_told_ok n, trivial⟩ : AllOk P ([impl_calc_toldF n]))) (by kernel_rfl : P.funcs[56]? = some Go.Proofs.Tryz.f56) (by kernel_rfl) (by kernel_rfl) (by kernel_rfl)
    (fun x y => impl_calc_add_eq n x.2.1 x.2.2.1 y.1) (fun _ _ => map_same (fun _ => rfl) _) (fun _ _ _ _ => rfl)

abbrev impl_calc_onesp : List Sp := [.ref 0, .v true (.pair (.int .i64) (.int .i64))]
abbrev impl_calc_onebs : List (Bs × Bool) := [(.var 74 .bool, true)]
abbrev impl_calc_oners : List (Bool × List Rp) := [(true, [.v false (.pair (.int .i64) (.int .i64))]), (false, [.v false (.int .i64)])]
noncomputable def impl_calc_onekp : Keep := { loop := fun id => match id with | _ => ([], []), join := fun id => match id with | _ => none }
noncomputable def impl_calc_onec : Code := bodyOf Go.Proofs.Tryz.f53
noncomputable def impl_calc_oneF (n : Nat) : Fun := { id := 53, sp := impl_calc_onesp, bs := impl_calc_onebs, rs := impl_calc_oners, f := fun x y => impl_calc_one n x.2.1 y.1 }

theorem impl_calc_one_eq (n : Nat) (a1 : (Int) × (Int)) (b0 : Bool) : runBody ([]) ty 12 n impl_calc_onekp impl_calc_onec Go.Proofs.Tryz.f53.results.toList impl_calc_oners impl_calc_onesp impl_calc_onebs ((), (a1, ())) (b0, ()) = impl_calc_one n a1 b0 := by
  have h : runBody ([]) ty 12 n impl_calc_onekp impl_calc_onec Go.Proofs.Tryz.f53.results.toList impl_calc_oners impl_calc_onesp impl_calc_onebs ((), (a1, ())) (b0, ()) = impl_calc_one_t n a1 b0 := by kernel_rfl
  rw [h]
  rfl

theorem impl_calc_one_ok (n : Nat) : FunOk P (impl_calc_oneF n) :=
  funOk_mk (C := []) (N := 12) (kp := impl_calc_onekp) (c := impl_calc_onec) (n := n) (G := fun x y => impl_calc_one n x.2.1 y.1) follows (AllOk.mem (trivial : AllOk P ([]))) (by kernel_rfl : P.funcs[53]? = some Go.Proofs.Tryz.f53) (by kernel_rfl) (by kernel_rfl) (by kernel_rfl)
    (fun x y => impl_calc_one_eq n x.2.1 y.1) (fun _ _ => map_same (fun _ => rfl) _) (fun _ _ _ _ => rfl)

abbrev impl_AddFracssp : List Sp := [.v true (.pair (.int .i64) (.int .i64)), .v true (.pair (.int .i64) (.int .i64))]
abbrev impl_AddFracsbs : List (Bs × Bool) := []
abbrev impl_AddFracsrs : List (Bool × List Rp) := [(true, [.v false (.pair (.int .i64) (.int .i64))]), (false, [.v false (.int .i64)])]
noncomputable def impl_AddFracskp : Keep := { loop := fun id => match id with | _ => ([], []), join := fun id => match id with | _ => none }
noncomputable def impl_AddFracsc : Code := bodyOf Go.Proofs.Tryz.f10
noncomputable def impl_AddFracsF (n : Nat) : Fun := { id := 10, sp := impl_AddFracssp, bs := impl_AddFracsbs, rs := impl_AddFracsrs, f := fun x y => impl_AddFracs n x.1 x.2.1 }

theorem impl_AddFracs_eq (n : Nat) (a0 : (Int) × (Int)) (a1 : (Int) × (Int)) : runBody ([impl_areValidF n, impl_calc_addF n, impl_calc_oneF n]) ty 23 n impl_AddFracskp impl_AddFracsc Go.Proofs.Tryz.f10.results.toList impl_AddFracsrs impl_AddFracssp impl_AddFracsbs (a0, (a1, ())) () = impl_AddFracs n a0 a1 := by
  have h : runBody ([impl_areValidF n, impl_calc_addF n, impl_calc_oneF n]) ty 23 n impl_AddFracskp impl_AddFracsc Go.Proofs.Tryz.f10.results.toList impl_AddFracsrs impl_AddFracssp impl_AddFracsbs (a0, (a1, ())) () = impl_AddFracs_t n a0 a1 := by kernel_rfl
  rw [h]
  rfl

theorem impl_AddFracs_ok (n : Nat) : FunOk P (impl_AddFracsF n) :=
  funOk_mk (C := [impl_areValidF n, impl_calc_addF n, impl_calc_oneF n]) (N := 23) (kp := impl_AddFracskp) (c := impl_AddFracsc) (n := n) (G := fun x y => impl_AddFracs n x.1 x.2.1) follows (AllOk.mem (⟨impl_areValid_ok n, ⟨impl_calc_add_ok n, ⟨impl_calc_one_ok n, trivial⟩⟩⟩ : AllOk P ([impl_areValidF n, impl_calc_addF n, impl_calc_oneF n]))) (by kernel_rfl : P.funcs[10]? = some Go.Proofs.Tryz.f10) (by kernel_rfl) (by kernel_rfl) (by kernel_rfl)
    (fun x y => impl_AddFracs_eq n x.1 x.2.1) (fun _ _ => map_same (fun _ => rfl) _) (fun _ _ _ _ => rfl)

abbrev impl_comparesp : List Sp := [.v true (.pair (.int .i64) (.int .i64)), .v true (.pair (.int .i64) (.int .i64))]
abbrev impl_comparebs : List (Bs × Bool) := []
abbrev impl_comparers : List (Bool × List Rp) := [(false, [.v false (.int .i64)])]
noncomputable def impl_comparekp : Keep := { loop := fun id => match id with | _ => ([], []), join := fun id => match id with | _ => none }
noncomputable def impl_comparec : Code := bodyOf Go.Proofs.Tryz.f64
noncomputable def impl_compareF (n : Nat) : Fun := { id := 64, sp := impl_comparesp, bs := impl_comparebs, rs := impl_comparers, f := fun x y => impl_compare n x.1 x.2.1 }

theorem impl_compare_eq (n : Nat) (a0 : (Int) × (Int)) (a1 : (Int) × (Int)) : runBody ([]) ty 25 n impl_comparekp impl_comparec Go.Proofs.Tryz.f64.results.toList impl_comparers impl_comparesp impl_comparebs (a0, (a1, ())) () = impl_compare n a0 a1 := by
  have h : runBody ([]) ty 25 n impl_comparekp impl_comparec Go.Proofs.Tryz.f64.results.toList impl_comparers impl_comparesp impl_comparebs (a0, (a1, ())) () = impl_compare_t n a0 a1 := by kernel_rfl
  rw [h]
  rfl

theorem impl_compare_ok (n : Nat) : FunOk P (impl_compareF n) :=
  funOk_mk (C := []) (N := 25) (kp := impl_comparekp) (c := impl_comparec) (n := n) (G := fun x y => impl_compare n x.1 x.2.1) follows (AllOk.mem (trivial : AllOk P ([]))) (by kernel_rfl : P.funcs[64]? = some Go.Proofs.Tryz.f64) (by kernel_rfl) (by kernel_rfl) (by kernel_rfl)
    (fun x y => impl_compare_eq n x.1 x.2.1) (fun _ _ => map_same (fun _ => rfl) _) (fun _ _ _ _ => rfl)

abbrev impl_CompareFracssp : List Sp := [.v true (.pair (.int .i64) (.int .i64)), .v true (.pair (.int .i64) (.int .i64))]
abbrev impl_CompareFracsbs : List (Bs × Bool) := []
abbrev impl_CompareFracsrs : List (Bool × List Rp) := [(false, [.v false (.int .i64)]), (false, [.v false (.int .i64)])]
noncomputable def impl_CompareFracskp : Keep := { loop := fun id => match id with | _ => ([], []), join := fun id => match id with | _ => none }
noncomputable def impl_CompareFracsc : Code := bodyOf Go.Proofs.Tryz.f17
noncomputable def impl_CompareFracsF (n : Nat) : Fun := { id := 17, sp := impl_CompareFracssp, bs := impl_CompareFracsbs, rs := impl_CompareFracsrs, f := fun x y => impl_CompareFracs n x.1 x.2.1 }

theorem impl_CompareFracs_eq (n : Nat) (a0 : (Int) × (Int)) (a1 : (Int) × (Int)) : runBody ([impl_areValidF n, impl_compareF n]) ty 14 n impl_CompareFracskp impl_CompareFracsc Go.Proofs.Tryz.f17.results.toList impl_CompareFracsrs impl_CompareFracssp impl_CompareFracsbs (a0, (a1, ())) () = impl_CompareFracs n a0 a1 := by
  have h : runBody ([impl_areValidF n, impl_compareF n]) ty 14 n impl_CompareFracskp impl_CompareFracsc Go.Proofs.Tryz.f17.results.toList impl_CompareFracsrs impl_CompareFracssp impl_CompareFracsbs (a0, (a1, ())) () = impl_CompareFracs_t n a0 a1 := by kernel_rfl
  rw [h]
  rfl

theorem impl_CompareFracs_ok (n : Nat) : FunOk P (impl_CompareFracsF n) :=
  funOk_mk (C := [impl_areValidF n, impl_compareF n]) (N := 14) (kp := impl_CompareFracskp) (c := impl_CompareFracsc) (n := n) (G := fun x y => impl_CompareFracs n x.1 x.2.1) follows (AllOk.mem (⟨impl_areValid_ok n, ⟨impl_compare_ok n, trivial⟩⟩ : AllOk P ([impl_areValidF n, impl_compareF n]))) (by kernel_rfl : P.funcs[17]? = some Go.Proofs.Tryz.f17) (by kernel_rfl) (by kernel_rfl) (by kernel_rfl)
    (fun x y => impl_CompareFracs_eq n x.1 x.2.1) (fun _ _ => map_same (fun _ => rfl) _) (fun _ _ _ _ => rfl)

abbrev impl_calc_divsp : List Sp := [.ref 0, .v true (.pair (.int .i64) (.int .i64)), .v true (.pair (.int .i64) (.int .i64))]
abbrev impl_calc_divbs : List (Bs × Bool) := [(.var 74 .bool, true)]
abbrev impl_calc_divrs : List (Bool × List Rp) := [(true, [.v false (.pair (.int .i64) (.int .i64))])]
noncomputable def impl_calc_divkp : Keep := { loop := fun id => match id with | _ => ([], []), join := fun id => match id with | _ => none }
noncomputable def impl_calc_divc : Code := bodyOf Go.Proofs.Tryz.f63
noncomputable def impl_calc_divF (n : Nat) : Fun := { id := 63, sp := impl_calc_divsp, bs := impl_calc_divbs, rs := impl_calc_divrs, f := fun x y => impl_calc_div n x.2.1 x.2.2.1 y.1 }

theorem impl_calc_div_eq (n : Nat) (a1 : (Int) × (Int)) (a2 : (Int) × (Int)) (b0 : Bool) : runBody ([impl_zeroF n, impl_calc_toldF n]) ty 26 n impl_calc_divkp impl_calc_divc Go.Proofs.Tryz.f63.results.toList impl_calc_divrs impl_calc_divsp impl_calc_divbs ((), (a1, (a2, ()))) (b0, ()) = impl_calc_div n a1 a2 b0 := by
  have h : runBody ([impl_zeroF n, impl_calc_toldF n]) ty 26 n impl_calc_divkp impl_calc_divc Go.Proofs.Tryz.f63.results.toList impl_calc_divrs impl_calc_divsp impl_calc_divbs ((), (a1, (a2, ()))) (b0, ()) = impl_calc_div_t n a1 a2 b0 := by kernel_rfl
  rw [h]
  rfl

theorem impl_calc_div_ok (n : Nat) : FunOk P (impl_calc_divF n) :=
  funOk_mk (C := [impl_zeroF n, impl_calc_toldF n]) (N := 26) (kp := impl_calc_divkp) (c := impl_calc_divc) (n := n) (G := fun x y => impl_calc_div n x.2.1 x.2.2.1 y.1) follows (AllOk.mem (⟨impl_zero_ok n, ⟨impl_calc_told_ok n, trivial⟩⟩ : AllOk P ([impl_zeroF n, impl_calc_toldF n]))) (by kernel_rfl : P.funcs[63]? = some Go.Proofs.Tryz.f63) (by kernel_rfl) (by kernel_rfl) (by kernel_rfl)
    (fun x y => impl_calc_div_eq n x.2.1 x.2.2.1 y.1) (fun _ _ => map_same (fun _ => rfl) _) (fun _ _ _ _ => rfl)

abbrev impl_DivFracssp : List Sp := [.v true (.pair (.int .i64) (.int .i64)), .v true (.pair (.int .i64) (.int .i64))]
abbrev impl_DivFracsbs : List (Bs × Bool) := []
abbrev impl_DivFracsrs : List (Bool × List Rp) := [(true, [.v false (.pair (.int .i64) (.int .i64))]), (false, [.v false (.int .i64)])]
noncomputable def impl_DivFracskp : Keep := { loop := fun id => match id with | _ => ([], []), join := fun id => match id with | _ => none }
noncomputable def impl_DivFracsc : Code := bodyOf Go.Proofs.Tryz.f16
noncomputable def impl_DivFracsF (n : Nat) : Fun := { id := 16, sp := impl_DivFracssp, bs := impl_DivFracsbs, rs := impl_DivFracsrs, f := fun x y => impl_DivFracs n x.1 x.2.1 }

theorem impl_DivFracs_eq (n : Nat) (a0 : (Int) × (Int)) (a1 : (Int) × (Int)) : runBody ([impl_areValidF n, impl_calc_divF n, impl_calc_oneF n]) ty 27 n impl_DivFracskp impl_DivFracsc Go.Proofs.Tryz.f16.results.toList impl_DivFracsrs impl_DivFracssp impl_DivFracsbs (a0, (a1, ())) () = impl_DivFracs n a0 a1 := by
  have h : runBody ([impl_areValidF n, impl_calc_divF n, impl_calc_oneF n]) ty 27 n impl_DivFracskp impl_DivFracsc Go.Proofs.Tryz.f16.results.toList impl_DivFracsrs impl_DivFracssp impl_DivFracsbs (a0, (a1, ())) () = impl_DivFracs_t n a0 a1 := by kernel_rfl
  rw [h]
  rfl

theorem impl_DivFracs_ok (n : Nat) : FunOk P (impl_DivFracsF n) :=
  funOk_mk (C := [impl_areValidF n, impl_calc_divF n, impl_calc_oneF n]) (N := 27) (kp := impl_DivFracskp) (c := impl_DivFracsc) (n := n) (G := fun x y => impl_DivFracs n x.1 x.2.1) follows (AllOk.mem (⟨impl_areValid_ok n, ⟨impl_calc_div_ok n, ⟨impl_calc_one_ok n, trivial⟩⟩⟩ : AllOk P ([impl_areValidF n, impl_calc_divF n, impl_calc_oneF n]))) (by kernel_rfl : P.funcs[16]? = some Go.Proofs.Tryz.f16) (by kernel_rfl) (by kernel_rfl) (by kernel_rfl)
    (fun x y => impl_DivFracs_eq n x.1 x.2.1) (fun _ _ => map_same (fun _ => rfl) _) (fun _ _ _ _ => rfl)

abbrev impl_floorDivsp : List Sp := [.v false (.int .i64), .v false (.int .i64)]
abbrev impl_floorDivbs : List (Bs × Bool) := []
abbrev impl_floorDivrs : List (Bool × List Rp) := [(false, [.v false (.int .i64)])]
noncomputable def impl_floorDivkp : Keep := { loop := fun id => match id with | _ => ([], []), join := fun id => match id with | _ => none }
noncomputable def impl_floorDivc : Code := bodyOf Go.Proofs.Tryz.f65
noncomputable def impl_floorDivF (n : Nat) : Fun := { id := 65, sp := impl_floorDivsp, bs := impl_floorDivbs, rs := impl_floorDivrs, f := fun x y => impl_floorDiv n x.1 x.2.1 }

theorem impl_floorDiv_eq (n : Nat) (a0 : Int) (a1 : Int) : runBody ([]) ty 23 n impl_floorDivkp impl_floorDivc Go.Proofs.Tryz.f65.results.toList impl_floorDivrs impl_floorDivsp impl_floorDivbs (a0, (a1, ())) () = impl_floorDiv n a0 a1 := by
  have h : runBody ([]) ty 23 n impl_floorDivkp impl_floorDivc Go.Proofs.Tryz.f65.results.toList impl_floorDivrs impl_floorDivsp impl_floorDivbs (a0, (a1, ())) () = impl_floorDiv_t n a0 a1 := by kernel_rfl
  rw [h]
  rfl

theorem impl_floorDiv_ok (n : Nat) : FunOk P (impl_floorDivF n) :=
  funOk_mk (C := []) (N := 23) (kp := impl_floorDivkp) (c := impl_floorDivc) (n := n) (G := fun x y => impl_floorDiv n x.1 x.2.1) follows (AllOk.mem (trivial : AllOk P ([]))) (by kernel_rfl : P.funcs[65]? = some Go.Proofs.Tryz.f65) (by kernel_rfl) (by kernel_rfl) (by kernel_rfl)
    (fun x y => impl_floorDiv_eq n x.1 x.2.1) (fun _ _ => map_same (fun _ => rfl) _) (fun _ _ _ _ => rfl)

abbrev impl_FloorOfsp : List Sp := [.v true (.pair (.int .i64) (.int .i64))]
abbrev impl_FloorOfbs : List (Bs × Bool) := []
abbrev impl_FloorOfrs : List (Bool × List Rp) := [(false, [.v false (.int .i64)]), (false, [.v false (.int .i64)])]
noncomputable def impl_FloorOfkp : Keep := { loop := fun id => match id with | _ => ([], []), join := fun id => match id with | _ => none }
noncomputable def impl_FloorOfc : Code := bodyOf Go.Proofs.Tryz.f18
noncomputable def impl_FloorOfF (n : Nat) : Fun := { id := 18, sp := impl_FloorOfsp, bs := impl_FloorOfbs, rs := impl_FloorOfrs, f := fun x y => impl_FloorOf n x.1 }

theorem impl_FloorOf_eq (n : Nat) (a0 : (Int) × (Int)) : runBody ([impl_ValidFracF n, impl_floorDivF n]) ty 12 n impl_FloorOfkp impl_FloorOfc Go.Proofs.Tryz.f18.results.toList impl_FloorOfrs impl_FloorOfsp impl_FloorOfbs (a0, ()) () = impl_FloorOf n a0 := by
  have h : runBody ([impl_ValidFracF n, impl_floorDivF n]) ty 12 n impl_FloorOfkp impl_FloorOfc Go.Proofs.Tryz.f18.results.toList impl_FloorOfrs impl_FloorOfsp impl_FloorOfbs (a0, ()) () = impl_FloorOf_t n a0 := by kernel_rfl
  rw [h]
  rfl

theorem impl_FloorOf_ok (n : Nat) : FunOk P (impl_FloorOfF n) :=
  funOk_mk (C := [impl_ValidFracF n, impl_floorDivF n]) (N := 12) (kp := impl_FloorOfkp) (c := impl_FloorOfc) (n := n) (G := fun x y => impl_FloorOf n x.1) follows (AllOk.mem (⟨impl_ValidFrac_ok n, ⟨impl_floorDiv_ok n, trivial⟩⟩ : AllOk P ([impl_ValidFracF n, impl_floorDivF n]))) (by kernel_rfl : P.funcs[18]? = some Go.Proofs.Tryz.f18) (by kernel_rfl) (by kernel_rfl) (by kernel_rfl)
    (fun x y => impl_FloorOf_eq n x.1) (fun _ _ => map_same (fun _ => rfl) _) (fun _ _ _ _ => rfl)

abbrev strconv_FormatIntsp : List Sp := [.v false (.int .i64), .v false (.int .i64)]
abbrev strconv_FormatIntbs : List (Bs × Bool) := []
abbrev strconv_FormatIntrs : List (Bool × List Rp) := [(false, [.v false .str])]
noncomputable def strconv_FormatIntF (n : Nat) : Fun := { id := 104, sp := strconv_FormatIntsp, bs := strconv_FormatIntbs, rs := strconv_FormatIntrs, f := fun x y => strconv_FormatInt n x.1 x.2.1 }

theorem strconv_FormatInt_ok (n : Nat) : FunOk P (strconv_FormatIntF n) := by
  refine ⟨⟨Go.Proofs.Tryz.f104, bodyOf Go.Proofs.Tryz.f104, Go.Proofs.Tryz.func104, by kernel_rfl, by kernel_rfl⟩, ?_⟩
  intro x y r hr w I J β vs hG hg hL hv
  have hr' : cond ((decide (-9223372036854775808 ≤ x.1) && decide (x.1 ≤ 9223372036854775807)) && (x.2.1 == 10)) (some ((((ByteArray.mk (Go.Lib.itoa x.1).toArray, ()), ()), ()))) none = some r := hr
  cases hc : ((decide (-9223372036854775808 ≤ x.1) && decide (x.1 ≤ 9223372036854775807)) && (x.2.1 == 10)) with
  | false => rw [hc, cond_false] at hr'; cases hr'
  | true =>
    rw [hc, cond_true] at hr'
    injection hr' with hr'
    subst hr'
    simp only [Bool.and_eq_true, decide_eq_true_eq, beq_iff_eq] at hc
    obtain ⟨⟨h0, h1⟩, h2⟩ := hc
    have hv' : RVs I J β (listF []) w [.one (.sc (.int .i64 x.1)), .one (.sc (.int .i64 x.2.1))] vs := hv
    have e := args_ii hv'
    rw [h2] at e
    subst e
    exact leaf_call (v := .one (.sc (.string (ByteArray.mk (Go.Lib.itoa x.1).toArray)))) hG ((Go.Proofs.Tryz.strconv_FormatInt_10 x.1 h0 h1 w (laidPow hL)).mono fun e w' ⟨he, k, os, hw⟩ => ⟨_, he, rfl, hw ▸ wstep_grow k os⟩)

abbrev impl_decsp : List Sp := [.v false (.int .i64)]
abbrev impl_decbs : List (Bs × Bool) := []
abbrev impl_decrs : List (Bool × List Rp) := [(false, [.v false .str])]
noncomputable def impl_deckp : Keep := { loop := fun id => match id with | _ => ([], []), join := fun id => match id with | _ => none }
noncomputable def impl_decc : Code := bodyOf Go.Proofs.Tryz.f51
noncomputable def impl_decF (n : Nat) : Fun := { id := 51, sp := impl_decsp, bs := impl_decbs, rs := impl_decrs, f := fun x y => impl_dec n x.1 }

theorem impl_dec_eq (n : Nat) (a0 : Int) : runBody ([strconv_FormatIntF n]) ty 5 n impl_deckp impl_decc Go.Proofs.Tryz.f51.results.toList impl_decrs impl_decsp impl_decbs (a0, ()) () = impl_dec n a0 := by
  have h : runBody ([strconv_FormatIntF n]) ty 5 n impl_deckp impl_decc Go.Proofs.Tryz.f51.results.toList impl_decrs impl_decsp impl_decbs (a0, ()) () = impl_dec_t n a0 := by kernel_rfl
  rw [h]
  rfl

theorem impl_dec_ok (n : Nat) : FunOk P (impl_decF n) :=
  funOk_mk (C := [strconv_FormatIntF n]) (N := 5) (kp := impl_deckp) (c := impl_decc) (n := n) (G := fun x y => impl_dec n x.1) follows (AllOk.mem (⟨strconv_FormatInt_ok n, trivial⟩ : AllOk P ([strconv_FormatIntF n]))) (by kernel_rfl : P.funcs[51]? = some Go.Proofs.Tryz.f51) (by kernel_rfl) (by kernel_rfl) (by kernel_rfl)
    (fun x y => impl_dec_eq n x.1) (fun _ _ => map_same (fun _ => rfl) _) (fun _ _ _ _ => rfl)

abbrev impl_FracTextsp : List Sp := [.v true (.pair (.int .i64) (.int .i64))]
abbrev impl_FracTextbs : List (Bs × Bool) := []
abbrev impl_FracTextrs : List (Bool × List Rp) := [(false, [.v false .str])]
noncomputable def impl_FracTextkp : Keep := { loop := fun id => match id with | _ => ([], []), join := fun id => match id with | _ => none }
noncomputable def impl_FracTextc : Code := bodyOf Go.Proofs.Tryz.f8
noncomputable def impl_FracTextF (n : Nat) : Fun := { id := 8, sp := impl_FracTextsp, bs := impl_FracTextbs, rs := impl_FracTextrs, f := fun x y => impl_FracText n x.1 }

theorem impl_FracText_eq (n : Nat) (a0 : (Int) × (Int)) : runBody ([impl_ValidFracF n, impl_decF n]) ty 22 n impl_FracTextkp impl_FracTextc Go.Proofs.Tryz.f8.results.toList impl_FracTextrs impl_FracTextsp impl_FracTextbs (a0, ()) () = impl_FracText n a0 := by
  have h : runBody ([impl_ValidFracF n, impl_decF n]) ty 22 n impl_FracTextkp impl_FracTextc Go.Proofs.Tryz.f8.results.toList impl_FracTextrs impl_FracTextsp impl_FracTextbs (a0, ()) () = impl_FracText_t n a0 := by kernel_rfl
  rw [h]
  rfl

theorem impl_FracText_ok (n : Nat) : FunOk P (impl_FracTextF n) :=
  funOk_mk (C := [impl_ValidFracF n, impl_decF n]) (N := 22) (kp := impl_FracTextkp) (c := impl_FracTextc) (n := n) (G := fun x y => impl_FracText n x.1) follows (AllOk.mem (⟨impl_ValidFrac_ok n, ⟨impl_dec_ok n, trivial⟩⟩ : AllOk P ([impl_ValidFracF n, impl_decF n]))) (by kernel_rfl : P.funcs[8]? = some Go.Proofs.Tryz.f8) (by kernel_rfl) (by kernel_rfl) (by kernel_rfl)
    (fun x y => impl_FracText_eq n x.1) (fun _ _ => map_same (fun _ => rfl) _) (fun _ _ _ _ => rfl)

abbrev impl_MakeFracsp : List Sp := [.v false (.int .i64), .v false (.int .i64)]
abbrev impl_MakeFracbs : List (Bs × Bool) := []
abbrev impl_MakeFracrs : List (Bool × List Rp) := [(true, [.v false (.pair (.int .i64) (.int .i64))]), (false, [.v false (.int .i64)])]
noncomputable def impl_MakeFrackp : Keep := { loop := fun id => match id with | _ => ([], []), join := fun id => match id with | _ => none }
noncomputable def impl_MakeFracc : Code := bodyOf Go.Proofs.Tryz.f9
noncomputable def impl_MakeFracF (n : Nat) : Fun := { id := 9, sp := impl_MakeFracsp, bs := impl_MakeFracbs, rs := impl_MakeFracrs, f := fun x y => impl_MakeFrac n x.1 x.2.1 }

theorem impl_MakeFrac_eq (n : Nat) (a0 : Int) (a1 : Int) : runBody ([impl_withinF n, impl_calc_toldF n, impl_calc_oneF n]) ty 29 n impl_MakeFrackp impl_MakeFracc Go.Proofs.Tryz.f9.results.toList impl_MakeFracrs impl_MakeFracsp impl_MakeFracbs (a0, (a1, ())) () = impl_MakeFrac n a0 a1 := by
  have h : runBody ([impl_withinF n, impl_calc_toldF n, impl_calc_oneF n]) ty 29 n impl_MakeFrackp impl_MakeFracc Go.Proofs.Tryz.f9.results.toList impl_MakeFracrs impl_MakeFracsp impl_MakeFracbs (a0, (a1, ())) () = impl_MakeFrac_t n a0 a1 := by kernel_rfl
  rw [h]
  rfl

theorem impl_MakeFrac_ok (n : Nat) : FunOk P (impl_MakeFracF n) :=
  funOk_mk (C := [impl_withinF n, impl_calc_toldF n, impl_calc_oneF n]) (N := 29) (kp := impl_MakeFrackp) (c := impl_MakeFracc) (n := n) (G := fun x y => impl_MakeFrac n x.1 x.2.1) follows (AllOk.mem (⟨impl_within_ok n, ⟨impl_calc_told_ok n, ⟨impl_calc_one_ok n, trivial⟩⟩⟩ : AllOk P ([impl_withinF n, impl_calc_toldF n, impl_calc_oneF n]))) (by kernel_rfl : P.funcs[9]? = some Go.Proofs.Tryz.f9) (by kernel_rfl) (by kernel_rfl) (by kernel_rfl)
    (fun x y => impl_MakeFrac_eq n x.1 x.2.1) (fun _ _ => map_same (fun _ => rfl) _) (fun _ _ _ _ => rfl)

abbrev impl_calc_sumsp : List Sp := [.ref 0, .v false (.list (.pair (.int .i64) (.int .i64)))]
abbrev impl_calc_sumbs : List (Bs × Bool) := [(.var 74 .bool, true)]
abbrev impl_calc_sumrs : List (Bool × List Rp) := [(true, [.v false (.pair (.int .i64) (.int .i64))])]
noncomputable def impl_calc_sumkp : Keep := { loop := fun id => match id with | 3 => ([11, 5, 0, 9, 4, 10], []) | _ => ([], []), join := fun id => match id with | _ => none }
noncomputable def impl_calc_sumc : Code := bodyOf Go.Proofs.Tryz.f72
noncomputable def impl_calc_sumF (n : Nat) : Fun := { id := 72, sp := impl_calc_sumsp, bs := impl_calc_sumbs, rs := impl_calc_sumrs, f := fun x y => impl_calc_sum n x.2.1 y.1 }

theorem impl_calc_sum_l3_eq (n : Nat) : ∀ (k : Nat) (v11 : Int) (v9 : List ((Int) × (Int))) (v10 : Int) (b0 : Bool) (b1_0 : Int) (b1_1 : Int) (b2_0 : Int) (b2_1 : Int), iter (interp ([impl_zeroF n, impl_calc_addF n]) ty 21 1 n impl_calc_sumkp (codeAt impl_calc_sumc [1, 1, 0, 1, 0, 0])) (canon 1 (impl_calc_sumkp.loop 3)) (kAt ([impl_zeroF n, impl_calc_addF n]) ty 21 1 n impl_calc_sumkp impl_calc_sumc [1, 1, 0, 1, 0] [] (ending ty 1 Go.Proofs.Tryz.f72.results.toList impl_calc_sumrs impl_calc_sumbs)) k { env := [(11, .one (.sc (.int .i64 v11))), (5, .one (.ref 1 0 0 0 0 0)), (0, .one (.ref 0 0 0 0 0 0)), (9, .one (.list true (.pair (.int .i64) (.int .i64)) v9)), (4, .one (.ref 2 0 0 0 0 0)), (10, .one (.sc (.int .i64 v10)))], bx := [(0, .var 74 [.sc (.bool b0)]), (1, .var 25 [.sc (.int .i64 b1_0), .sc (.int .i64 b1_1)]), (2, .var 25 [.sc (.int .i64 b2_0), .sc (.int .i64 b2_1)])], nx := 3 } = impl_calc_sum_l3 n k v11 v9 v10 b0 b1_0 b1_1 b2_0 b2_1
  | 0, _, _, _, _, _, _, _, _ => by kernel_rfl
  | k + 1, v11, v9, v10, b0, b1_0, b1_1, b2_0, b2_1 => by
    have h : iter (interp ([impl_zeroF n, impl_calc_addF n]) ty 21 1 n impl_calc_sumkp (codeAt impl_calc_sumc [1, 1, 0, 1, 0, 0])) (canon 1 (impl_calc_sumkp.loop 3)) (kAt ([impl_zeroF n, impl_calc_addF n]) ty 21 1 n impl_calc_sumkp impl_calc_sumc [1, 1, 0, 1, 0] [] (ending ty 1 Go.Proofs.Tryz.f72.results.toList impl_calc_sumrs impl_calc_sumbs)) (k + 1) { env := [(11, .one (.sc (.int .i64 v11))), (5, .one (.ref 1 0 0 0 0 0)), (0, .one (.ref 0 0 0 0 0 0)), (9, .one (.list true (.pair (.int .i64) (.int .i64)) v9)), (4, .one (.ref 2 0 0 0 0 0)), (10, .one (.sc (.int .i64 v10)))], bx := [(0, .var 74 [.sc (.bool b0)]), (1, .var 25 [.sc (.int .i64 b1_0), .sc (.int .i64 b1_1)]), (2, .var 25 [.sc (.int .i64 b2_0), .sc (.int .i64 b2_1)])], nx := 3 } = impl_calc_sum_t3 n (fun v11 v9 v10 b0 b1_0 b1_1 b2_0 b2_1 => iter (interp ([impl_zeroF n, impl_calc_addF n]) ty 21 1 n impl_calc_sumkp (codeAt impl_calc_sumc [1, 1, 0, 1, 0, 0])) (canon 1 (impl_calc_sumkp.loop 3)) (kAt ([impl_zeroF n, impl_calc_addF n]) ty 21 1 n impl_calc_sumkp impl_calc_sumc [1, 1, 0, 1, 0] [] (ending ty 1 Go.Proofs.Tryz.f72.results.toList impl_calc_sumrs impl_calc_sumbs)) k { env := [(11, .one (.sc (.int .i64 v11))), (5, .one (.ref 1 0 0 0 0 0)), (0, .one (.ref 0 0 0 0 0 0)), (9, .one (.list true (.pair (.int .i64) (.int .i64)) v9)), (4, .one (.ref 2 0 0 0 0 0)), (10, .one (.sc (.int .i64 v10)))], bx := [(0, .var 74 [.sc (.bool b0)]), (1, .var 25 [.sc (.int .i64 b1_0), .sc (.int .i64 b1_1)]), (2, .var 25 [.sc (.int .i64 b2_0), .sc (.int .i64 b2_1)])], nx := 3 }) v11 v9 v10 b0 b1_0 b1_1 b2_0 b2_1 := by kernel_rfl
    rw [h]
    have e := congrArg (fun g => impl_calc_sum_t3 n g v11 v9 v10 b0 b1_0 b1_1 b2_0 b2_1) (funext fun v11 => funext fun v9 => funext fun v10 => funext fun b0 => funext fun b1_0 => funext fun b1_1 => funext fun b2_0 => funext fun b2_1 => impl_calc_sum_l3_eq n k v11 v9 v10 b0 b1_0 b1_1 b2_0 b2_1)
    exact e

theorem impl_calc_sum_eq (n : Nat) (a1 : List ((Int) × (Int))) (b0 : Bool) : runBody ([impl_zeroF n, impl_calc_addF n]) ty 21 n impl_calc_sumkp impl_calc_sumc Go.Proofs.Tryz.f72.results.toList impl_calc_sumrs impl_calc_sumsp impl_calc_sumbs ((), (a1, ())) (b0, ()) = impl_calc_sum n a1 b0 := by
  have h : runBody ([impl_zeroF n, impl_calc_addF n]) ty 21 n impl_calc_sumkp impl_calc_sumc Go.Proofs.Tryz.f72.results.toList impl_calc_sumrs impl_calc_sumsp impl_calc_sumbs ((), (a1, ())) (b0, ()) = impl_calc_sum_t n (fun k v11 v9 v10 b0 b1_0 b1_1 b2_0 b2_1 => iter (interp ([impl_zeroF n, impl_calc_addF n]) ty 21 1 n impl_calc_sumkp (codeAt impl_calc_sumc [1, 1, 0, 1, 0, 0])) (canon 1 (impl_calc_sumkp.loop 3)) (kAt ([impl_zeroF n, impl_calc_addF n]) ty 21 1 n impl_calc_sumkp impl_calc_sumc [1, 1, 0, 1, 0] [] (ending ty 1 Go.Proofs.Tryz.f72.results.toList impl_calc_sumrs impl_calc_sumbs)) k { env := [(11, .one (.sc (.int .i64 v11))), (5, .one (.ref 1 0 0 0 0 0)), (0, .one (.ref 0 0 0 0 0 0)), (9, .one (.list true (.pair (.int .i64) (.int .i64)) v9)), (4, .one (.ref 2 0 0 0 0 0)), (10, .one (.sc (.int .i64 v10)))], bx := [(0, .var 74 [.sc (.bool b0)]), (1, .var 25 [.sc (.int .i64 b1_0), .sc (.int .i64 b1_1)]), (2, .var 25 [.sc (.int .i64 b2_0), .sc (.int .i64 b2_1)])], nx := 3 }) a1 b0 := by kernel_rfl
  rw [h]
  have e := congrArg (fun h3 => impl_calc_sum_t n h3 a1 b0) (funext fun k => funext fun v11 => funext fun v9 => funext fun v10 => funext fun b0 => funext fun b1_0 => funext fun b1_1 => funext fun b2_0 => funext fun b2_1 => impl_calc_sum_l3_eq n k v11 v9 v10 b0 b1_0 b1_1 b2_0 b2_1)
  exact e

theorem impl_calc_sum_ok (n : Nat) : FunOk P (impl_calc_sumF n) :=
  funOk_mk (C := [impl_zeroF n, impl_calc_addF n]) (N := 21) (kp := impl_calc_sumkp) (c := impl_calc_sumc) (n := n) (G := fun x y => impl_calc_sum n x.2.1 y.1) follows (AllOk.mem (⟨impl_zero_ok n, ⟨impl_calc_add_ok n, trivial⟩⟩ : AllOk P ([impl_zeroF n, impl_calc_addF n]))) (by kernel_rfl : P.funcs[72]? = some Go.Proofs.Tryz.f72) (by kernel_rfl) (by kernel_rfl) (by kernel_rfl)
    (fun x y => impl_calc_sum_eq n x.2.1 y.1) (fun _ _ => map_same (fun _ => rfl) _) (fun _ _ _ _ => rfl)

abbrev impl_isSomesp : List Sp := [.v false (.list (.pair (.int .i64) (.int .i64)))]
abbrev impl_isSomebs : List (Bs × Bool) := []
abbrev impl_isSomers : List (Bool × List Rp) := [(false, [.v false (.int .i64)])]
noncomputable def impl_isSomekp : Keep := { loop := fun id => match id with | _ => ([], []), join := fun id => match id with | _ => none }
noncomputable def impl_isSomec : Code := bodyOf Go.Proofs.Tryz.f71
noncomputable def impl_isSomeF (n : Nat) : Fun := { id := 71, sp := impl_isSomesp, bs := impl_isSomebs, rs := impl_isSomers, f := fun x y => impl_isSome n x.1 }

theorem impl_isSome_eq (n : Nat) (a0 : List ((Int) × (Int))) : runBody ([impl_areValidF n]) ty 16 n impl_isSomekp impl_isSomec Go.Proofs.Tryz.f71.results.toList impl_isSomers impl_isSomesp impl_isSomebs (a0, ()) () = impl_isSome n a0 := by
  have h : runBody ([impl_areValidF n]) ty 16 n impl_isSomekp impl_isSomec Go.Proofs.Tryz.f71.results.toList impl_isSomers impl_isSomesp impl_isSomebs (a0, ()) () = impl_isSome_t n a0 := by kernel_rfl
  rw [h]
  rfl

theorem impl_isSome_ok (n : Nat) : FunOk P (impl_isSomeF n) :=
  funOk_mk (C := [impl_areValidF n]) (N := 16) (kp := impl_isSomekp) (c := impl_isSomec) (n := n) (G := fun x y => impl_isSome n x.1) follows (AllOk.mem (⟨impl_areValid_ok n, trivial⟩ : AllOk P ([impl_areValidF n]))) (by kernel_rfl : P.funcs[71]? = some Go.Proofs.Tryz.f71) (by kernel_rfl) (by kernel_rfl) (by kernel_rfl)
    (fun x y => impl_isSome_eq n x.1) (fun _ _ => map_same (fun _ => rfl) _) (fun _ _ _ _ => rfl)

abbrev impl_numsp : List Sp := [.v false (.int .i64)]
abbrev impl_numbs : List (Bs × Bool) := []
abbrev impl_numrs : List (Bool × List Rp) := [(true, [.v false (.pair (.int .i64) (.int .i64))])]
noncomputable def impl_numkp : Keep := { loop := fun id => match id with | _ => ([], []), join := fun id => match id with | _ => none }
noncomputable def impl_numc : Code := bodyOf Go.Proofs.Tryz.f73
noncomputable def impl_numF (n : Nat) : Fun := { id := 73, sp := impl_numsp, bs := impl_numbs, rs := impl_numrs, f := fun x y => impl_num n x.1 }

theorem impl_num_eq (n : Nat) (a0 : Int) : runBody ([]) ty 5 n impl_numkp impl_numc Go.Proofs.Tryz.f73.results.toList impl_numrs impl_numsp impl_numbs (a0, ()) () = impl_num n a0 := by
  have h : runBody ([]) ty 5 n impl_numkp impl_numc Go.Proofs.Tryz.f73.results.toList impl_numrs impl_numsp impl_numbs (a0, ()) () = impl_num_t n a0 := by kernel_rfl
  rw [h]
  rfl

theorem impl_num_ok (n : Nat) : FunOk P (impl_numF n) :=
  funOk_mk (C := []) (N := 5) (kp := impl_numkp) (c := impl_numc) (n := n) (G := fun x y => impl_num n x.1) follows (AllOk.mem (trivial : AllOk P ([]))) (by kernel_rfl : P.funcs[73]? = some Go.Proofs.Tryz.f73) (by kernel_rfl) (by kernel_rfl) (by kernel_rfl)
    (fun x y => impl_num_eq n x.1) (fun _ _ => map_same (fun _ => rfl) _) (fun _ _ _ _ => rfl)

abbrev impl_MeanOfsp : List Sp := [.v false (.list (.pair (.int .i64) (.int .i64)))]
abbrev impl_MeanOfbs : List (Bs × Bool) := []
abbrev impl_MeanOfrs : List (Bool × List Rp) := [(true, [.v false (.pair (.int .i64) (.int .i64))]), (false, [.v false (.int .i64)])]
noncomputable def impl_MeanOfkp : Keep := { loop := fun id => match id with | _ => ([], []), join := fun id => match id with | _ => none }
noncomputable def impl_MeanOfc : Code := bodyOf Go.Proofs.Tryz.f25
noncomputable def impl_MeanOfF (n : Nat) : Fun := { id := 25, sp := impl_MeanOfsp, bs := impl_MeanOfbs, rs := impl_MeanOfrs, f := fun x y => impl_MeanOf n x.1 }

theorem impl_MeanOf_eq (n : Nat) (a0 : List ((Int) × (Int))) : runBody ([impl_isSomeF n, impl_calc_sumF n, impl_numF n, impl_calc_divF n, impl_calc_oneF n]) ty 26 n impl_MeanOfkp impl_MeanOfc Go.Proofs.Tryz.f25.results.toList impl_MeanOfrs impl_MeanOfsp impl_MeanOfbs (a0, ()) () = impl_MeanOf n a0 := by
  have h : runBody ([impl_isSomeF n, impl_calc_sumF n, impl_numF n, impl_calc_divF n, impl_calc_oneF n]) ty 26 n impl_MeanOfkp impl_MeanOfc Go.Proofs.Tryz.f25.results.toList impl_MeanOfrs impl_MeanOfsp impl_MeanOfbs (a0, ()) () = impl_MeanOf_t n a0 := by kernel_rfl
  rw [h]
  rfl

theorem impl_MeanOf_ok (n : Nat) : FunOk P (impl_MeanOfF n) :=
  funOk_mk (C := [impl_isSomeF n, impl_calc_sumF n, impl_numF n, impl_calc_divF n, impl_calc_oneF n]) (N := 26) (kp := impl_MeanOfkp) (c := impl_MeanOfc) (n := n) (G := fun x y => impl_MeanOf n x.1) follows (AllOk.mem (⟨impl_isSome_ok n, ⟨impl_calc_sum_ok n, ⟨impl_num_ok n, ⟨impl_calc_div_ok n, ⟨impl_calc_one_ok n, trivial⟩⟩⟩⟩⟩ : AllOk P ([impl_isSomeF n, impl_calc_sumF n, impl_numF n, impl_calc_divF n, impl_calc_oneF n]))) (by kernel_rfl : P.funcs[25]? = some Go.Proofs.Tryz.f25) (by kernel_rfl) (by kernel_rfl) (by kernel_rfl)
    (fun x y => impl_MeanOf_eq n x.1) (fun _ _ => map_same (fun _ => rfl) _) (fun _ _ _ _ => rfl)

abbrev slices_Clone_impl_Frac_impl_Fracsp : List Sp := [.v false (.list (.pair (.int .i64) (.int .i64)))]
abbrev slices_Clone_impl_Frac_impl_Fracbs : List (Bs × Bool) := []
abbrev slices_Clone_impl_Frac_impl_Fracrs : List (Bool × List Rp) := [(false, [.new  (.pair (.int .i64) (.int .i64))])]
noncomputable def slices_Clone_impl_Frac_impl_Frackp : Keep := { loop := fun id => match id with | _ => ([], []), join := fun id => match id with | _ => none }
noncomputable def slices_Clone_impl_Frac_impl_Fracc : Code := bodyOf Go.Proofs.Tryz.f83
noncomputable def slices_Clone_impl_Frac_impl_FracF (n : Nat) : Fun := { id := 83, sp := slices_Clone_impl_Frac_impl_Fracsp, bs := slices_Clone_impl_Frac_impl_Fracbs, rs := slices_Clone_impl_Frac_impl_Fracrs, f := fun x y => slices_Clone_impl_Frac_impl_Frac n x.1 }

theorem slices_Clone_impl_Frac_impl_Frac_eq (n : Nat) (a0 : List ((Int) × (Int))) : runBody ([]) ty 8 n slices_Clone_impl_Frac_impl_Frackp slices_Clone_impl_Frac_impl_Fracc Go.Proofs.Tryz.f83.results.toList slices_Clone_impl_Frac_impl_Fracrs slices_Clone_impl_Frac_impl_Fracsp slices_Clone_impl_Frac_impl_Fracbs (a0, ()) () = slices_Clone_impl_Frac_impl_Frac n a0 := by
  have h : runBody ([]) ty 8 n slices_Clone_impl_Frac_impl_Frackp slices_Clone_impl_Frac_impl_Fracc Go.Proofs.Tryz.f83.results.toList slices_Clone_impl_Frac_impl_Fracrs slices_Clone_impl_Frac_impl_Fracsp slices_Clone_impl_Frac_impl_Fracbs (a0, ()) () = slices_Clone_impl_Frac_impl_Frac_t n a0 := by kernel_rfl
  rw [h]
  rfl

theorem slices_Clone_impl_Frac_impl_Frac_ok (n : Nat) : FunOk P (slices_Clone_impl_Frac_impl_FracF n) :=
  funOk_mk (C := []) (N := 8) (kp := slices_Clone_impl_Frac_impl_Frackp) (c := slices_Clone_impl_Frac_impl_Fracc) (n := n) (G := fun x y => slices_Clone_impl_Frac_impl_Frac n x.1) follows (AllOk.mem (trivial : AllOk P ([]))) (by kernel_rfl : P.funcs[83]? = some Go.Proofs.Tryz.f83) (by kernel_rfl) (by kernel_rfl) (by kernel_rfl)
    (fun x y => slices_Clone_impl_Frac_impl_Frac_eq n x.1) (fun _ _ => map_same (fun _ => rfl) _) (fun _ _ _ _ => rfl)

abbrev math_bits_Len64sp : List Sp := [.v false (.int .u64)]
abbrev math_bits_Len64bs : List (Bs × Bool) := []
abbrev math_bits_Len64rs : List (Bool × List Rp) := [(false, [.v false (.int .i64)])]
noncomputable def math_bits_Len64kp : Keep := { loop := fun id => match id with | _ => ([], []), join := fun id => match id with | _ => none }
noncomputable def math_bits_Len64c : Code := bodyOf Go.Proofs.Tryz.f162
noncomputable def math_bits_Len64F (n : Nat) : Fun := { id := 162, sp := math_bits_Len64sp, bs := math_bits_Len64bs, rs := math_bits_Len64rs, f := fun x y => math_bits_Len64 n x.1 }

theorem math_bits_Len64_eq (n : Nat) (a0 : Int) : runBody ([]) ty 25 n math_bits_Len64kp math_bits_Len64c Go.Proofs.Tryz.f162.results.toList math_bits_Len64rs math_bits_Len64sp math_bits_Len64bs (a0, ()) () = math_bits_Len64 n a0 := by
  have h : runBody ([]) ty 25 n math_bits_Len64kp math_bits_Len64c Go.Proofs.Tryz.f162.results.toList math_bits_Len64rs math_bits_Len64sp math_bits_Len64bs (a0, ()) () = math_bits_Len64_t n a0 := by kernel_rfl
  rw [h]
  rfl

theorem math_bits_Len64_ok (n : Nat) : FunOk P (math_bits_Len64F n) :=
  funOk_mk (C := []) (N := 25) (kp := math_bits_Len64kp) (c := math_bits_Len64c) (n := n) (G := fun x y => math_bits_Len64 n x.1) follows (AllOk.mem (trivial : AllOk P ([]))) (by kernel_rfl : P.funcs[162]? = some Go.Proofs.Tryz.f162) (by kernel_rfl) (by kernel_rfl) (by kernel_rfl)
    (fun x y => math_bits_Len64_eq n x.1) (fun _ _ => map_same (fun _ => rfl) _) (fun _ _ _ _ => rfl)

abbrev math_bits_Lensp : List Sp := [.v false (.int .u64)]
abbrev math_bits_Lenbs : List (Bs × Bool) := []
abbrev math_bits_Lenrs : List (Bool × List Rp) := [(false, [.v false (.int .i64)])]
noncomputable def math_bits_Lenkp : Keep := { loop := fun id => match id with | _ => ([], []), join := fun id => match id with | _ => none }
noncomputable def math_bits_Lenc : Code := bodyOf Go.Proofs.Tryz.f133
noncomputable def math_bits_LenF (n : Nat) : Fun := { id := 133, sp := math_bits_Lensp, bs := math_bits_Lenbs, rs := math_bits_Lenrs, f := fun x y => math_bits_Len n x.1 }

theorem math_bits_Len_eq (n : Nat) (a0 : Int) : runBody ([math_bits_Len64F n]) ty 8 n math_bits_Lenkp math_bits_Lenc Go.Proofs.Tryz.f133.results.toList math_bits_Lenrs math_bits_Lensp math_bits_Lenbs (a0, ()) () = math_bits_Len n a0 := by
  have h : runBody ([math_bits_Len64F n]) ty 8 n math_bits_Lenkp math_bits_Lenc Go.Proofs.Tryz.f133.results.toList math_bits_Lenrs math_bits_Lensp math_bits_Lenbs (a0, ()) () = math_bits_Len_t n a0 := by kernel_rfl
  rw [h]
  rfl

theorem math_bits_Len_ok (n : Nat) : FunOk P (math_bits_LenF n) :=
  funOk_mk (C := [math_bits_Len64F n]) (N := 8) (kp := math_bits_Lenkp) (c := math_bits_Lenc) (n := n) (G := fun x y => math_bits_Len n x.1) follows (AllOk.mem (⟨math_bits_Len64_ok n, trivial⟩ : AllOk P ([math_bits_Len64F n]))) (by kernel_rfl : P.funcs[133]? = some Go.Proofs.Tryz.f133) (by kernel_rfl) (by kernel_rfl) (by kernel_rfl)
    (fun x y => math_bits_Len_eq n x.1) (fun _ _ => map_same (fun _ => rfl) _) (fun _ _ _ _ => rfl)

abbrev impl_ascending_1sp : List Sp := [.v true (.pair (.int .i64) (.int .i64)), .v true (.pair (.int .i64) (.int .i64))]
abbrev impl_ascending_1bs : List (Bs × Bool) := []
abbrev impl_ascending_1rs : List (Bool × List Rp) := [(false, [.v false (.int .i64)])]
noncomputable def impl_ascending_1kp : Keep := { loop := fun id => match id with | _ => ([], []), join := fun id => match id with | _ => none }
noncomputable def impl_ascending_1c : Code := bodyOf Go.Proofs.Tryz.f112
noncomputable def impl_ascending_1F (n : Nat) : Fun := { id := 112, sp := impl_ascending_1sp, bs := impl_ascending_1bs, rs := impl_ascending_1rs, f := fun x y => impl_ascending_1 n x.1 x.2.1 }

theorem impl_ascending_1_eq (n : Nat) (a0 : (Int) × (Int)) (a1 : (Int) × (Int)) : runBody ([impl_compareF n]) ty 8 n impl_ascending_1kp impl_ascending_1c Go.Proofs.Tryz.f112.results.toList impl_ascending_1rs impl_ascending_1sp impl_ascending_1bs (a0, (a1, ())) () = impl_ascending_1 n a0 a1 := by
  have h : runBody ([impl_compareF n]) ty 8 n impl_ascending_1kp impl_ascending_1c Go.Proofs.Tryz.f112.results.toList impl_ascending_1rs impl_ascending_1sp impl_ascending_1bs (a0, (a1, ())) () = impl_ascending_1_t n a0 a1 := by kernel_rfl
  rw [h]
  rfl

theorem impl_ascending_1_ok (n : Nat) : FunOk P (impl_ascending_1F n) :=
  funOk_mk (C := [impl_compareF n]) (N := 8) (kp := impl_ascending_1kp) (c := impl_ascending_1c) (n := n) (G := fun x y => impl_ascending_1 n x.1 x.2.1) follows (AllOk.mem (⟨impl_compare_ok n, trivial⟩ : AllOk P ([impl_compareF n]))) (by kernel_rfl : P.funcs[112]? = some Go.Proofs.Tryz.f112) (by kernel_rfl) (by kernel_rfl) (by kernel_rfl)
    (fun x y => impl_ascending_1_eq n x.1 x.2.1) (fun _ _ => map_same (fun _ => rfl) _) (fun _ _ _ _ => rfl)

abbrev slices_insertionSortCmpFunc_impl_Frac_at_impl_ascending_1sp : List Sp := [.sl 0, .v false (.int .i64), .v false (.int .i64), .cl 112 []]
abbrev slices_insertionSortCmpFunc_impl_Frac_at_impl_ascending_1bs : List (Bs × Bool) := [(.row  (.pair (.int .i64) (.int .i64)), true)]
abbrev slices_insertionSortCmpFunc_impl_Frac_at_impl_ascending_1rs : List (Bool × List Rp) := []
noncomputable def slices_insertionSortCmpFunc_impl_Frac_at_impl_ascending_1kp : Keep := { loop := fun id => match id with | 1 => ([0, 8, 3, 1, 2], []) | 4 => ([9, 0, 3, 1, 2, 8], []) | _ => ([], []), join := fun id => match id with | _ => none }
noncomputable def slices_insertionSortCmpFunc_impl_Frac_at_impl_ascending_1c : Code := bodyOf Go.Proofs.Tryz.f153
noncomputable def slices_insertionSortCmpFunc_impl_Frac_at_impl_ascending_1F (n : Nat) : Fun := { id := 153, sp := slices_insertionSortCmpFunc_impl_Frac_at_impl_ascending_1sp, bs := slices_insertionSortCmpFunc_impl_Frac_at_impl_ascending_1bs, rs := slices_insertionSortCmpFunc_impl_Frac_at_impl_ascending_1rs, f := fun x y => slices_insertionSortCmpFunc_impl_Frac_at_impl_ascending_1 n x.2.1 x.2.2.1 y.1 }

theorem slices_insertionSortCmpFunc_impl_Frac_at_impl_ascending_1_l4_eq (n : Nat) (G1 : St → Option ((Unit) × ((List ((Int) × (Int))) × (Unit)))) : ∀ (k : Nat) (v9 : Int) (v1 : Int) (v2 : Int) (v8 : Int) (b0 : List ((Int) × (Int))), iter (interp ([impl_ascending_1F n]) ty 53 1 n slices_insertionSortCmpFunc_impl_Frac_at_impl_ascending_1kp (codeAt slices_insertionSortCmpFunc_impl_Frac_at_impl_ascending_1c [1, 0, 0, 1, 0, 0, 1, 0, 0])) (canon 1 (slices_insertionSortCmpFunc_impl_Frac_at_impl_ascending_1kp.loop 4)) (kAt ([impl_ascending_1F n]) ty 53 1 n slices_insertionSortCmpFunc_impl_Frac_at_impl_ascending_1kp slices_insertionSortCmpFunc_impl_Frac_at_impl_ascending_1c [1, 0, 0, 1, 0, 0, 1, 0] [G1] (ending ty 1 Go.Proofs.Tryz.f153.results.toList slices_insertionSortCmpFunc_impl_Frac_at_impl_ascending_1rs slices_insertionSortCmpFunc_impl_Frac_at_impl_ascending_1bs)) k { env := [(9, .one (.sc (.int .i64 v9))), (0, .one (.slice 0 0 none)), (3, .one (.clos 112 [])), (1, .one (.sc (.int .i64 v1))), (2, .one (.sc (.int .i64 v2))), (8, .one (.sc (.int .i64 v8)))], bx := [(0, .row 0 (.pair (.int .i64) (.int .i64)) b0)], nx := 1 } = slices_insertionSortCmpFunc_impl_Frac_at_impl_ascending_1_l4 n (fun v8 v1 v2 b0 => G1 { env := [(0, .one (.slice 0 0 none)), (8, .one (.sc (.int .i64 v8))), (3, .one (.clos 112 [])), (1, .one (.sc (.int .i64 v1))), (2, .one (.sc (.int .i64 v2)))], bx := [(0, .row 0 (.pair (.int .i64) (.int .i64)) b0)], nx := 1 }) k v9 v1 v2 v8 b0
  | 0, _, _, _, _, _ => by kernel_rfl
  | k + 1, v9, v1, v2, v8, b0 => by
    have h : iter (interp ([impl_ascending_1F n]) ty 53 1 n slices_insertionSortCmpFunc_impl_Frac_at_impl_ascending_1kp (codeAt slices_insertionSortCmpFunc_impl_Frac_at_impl_ascending_1c [1, 0, 0, 1, 0, 0, 1, 0, 0])) (canon 1 (slices_insertionSortCmpFunc_impl_Frac_at_impl_ascending_1kp.loop 4)) (kAt ([impl_ascending_1F n]) ty 53 1 n slices_insertionSortCmpFunc_impl_Frac_at_impl_ascending_1kp slices_insertionSortCmpFunc_impl_Frac_at_impl_ascending_1c [1, 0, 0, 1, 0, 0, 1, 0] [G1] (ending ty 1 Go.Proofs.Tryz.f153.results.toList slices_insertionSortCmpFunc_impl_Frac_at_impl_ascending_1rs slices_insertionSortCmpFunc_impl_Frac_at_impl_ascending_1bs)) (k + 1) { env := [(9, .one (.sc (.int .i64 v9))), (0, .one (.slice 0 0 none)), (3, .one (.clos 112 [])), (1, .one (.sc (.int .i64 v1))), (2, .one (.sc (.int .i64 v2))), (8, .one (.sc (.int .i64 v8)))], bx := [(0, .row 0 (.pair (.int .i64) (.int .i64)) b0)], nx := 1 } = slices_insertionSortCmpFunc_impl_Frac_at_impl_ascending_1_t4 n (fun v8 v1 v2 b0 => G1 { env := [(0, .one (.slice 0 0 none)), (8, .one (.sc (.int .i64 v8))), (3, .one (.clos 112 [])), (1, .one (.sc (.int .i64 v1))), (2, .one (.sc (.int .i64 v2)))], bx := [(0, .row 0 (.pair (.int .i64) (.int .i64)) b0)], nx := 1 }) (fun v9 v1 v2 v8 b0 => iter (interp ([impl_ascending_1F n]) ty 53 1 n slices_insertionSortCmpFunc_impl_Frac_at_impl_ascending_1kp (codeAt slices_insertionSortCmpFunc_impl_Frac_at_impl_ascending_1c [1, 0, 0, 1, 0, 0, 1, 0, 0])) (canon 1 (slices_insertionSortCmpFunc_impl_Frac_at_impl_ascending_1kp.loop 4)) (kAt ([impl_ascending_1F n]) ty 53 1 n slices_insertionSortCmpFunc_impl_Frac_at_impl_ascending_1kp slices_insertionSortCmpFunc_impl_Frac_at_impl_ascending_1c [1, 0, 0, 1, 0, 0, 1, 0] [G1] (ending ty 1 Go.Proofs.Tryz.f153.results.toList slices_insertionSortCmpFunc_impl_Frac_at_impl_ascending_1rs slices_insertionSortCmpFunc_impl_Frac_at_impl_ascending_1bs)) k { env := [(9, .one (.sc (.int .i64 v9))), (0, .one (.slice 0 0 none)), (3, .one (.clos 112 [])), (1, .one (.sc (.int .i64 v1))), (2, .one (.sc (.int .i64 v2))), (8, .one (.sc (.int .i64 v8)))], bx := [(0, .row 0 (.pair (.int .i64) (.int .i64)) b0)], nx := 1 }) v9 v1 v2 v8 b0 := by kernel_rfl
    rw [h]
    have e := congrArg (fun g => slices_insertionSortCmpFunc_impl_Frac_at_impl_ascending_1_t4 n (fun v8 v1 v2 b0 => G1 { env := [(0, .one (.slice 0 0 none)), (8, .one (.sc (.int .i64 v8))), (3, .one (.clos 112 [])), (1, .one (.sc (.int .i64 v1))), (2, .one (.sc (.int .i64 v2)))], bx := [(0, .row 0 (.pair (.int .i64) (.int .i64)) b0)], nx := 1 }) g v9 v1 v2 v8 b0) (funext fun v9 => funext fun v1 => funext fun v2 => funext fun v8 => funext fun b0 => slices_insertionSortCmpFunc_impl_Frac_at_impl_ascending_1_l4_eq n G1 k v9 v1 v2 v8 b0)
    exact e

theorem slices_insertionSortCmpFunc_impl_Frac_at_impl_ascending_1_l1_eq (n : Nat) : ∀ (k : Nat) (v8 : Int) (v1 : Int) (v2 : Int) (b0 : List ((Int) × (Int))), iter (interp ([impl_ascending_1F n]) ty 53 1 n slices_insertionSortCmpFunc_impl_Frac_at_impl_ascending_1kp (codeAt slices_insertionSortCmpFunc_impl_Frac_at_impl_ascending_1c [1, 0, 0])) (canon 1 (slices_insertionSortCmpFunc_impl_Frac_at_impl_ascending_1kp.loop 1)) (kAt ([impl_ascending_1F n]) ty 53 1 n slices_insertionSortCmpFunc_impl_Frac_at_impl_ascending_1kp slices_insertionSortCmpFunc_impl_Frac_at_impl_ascending_1c [1, 0] [] (ending ty 1 Go.Proofs.Tryz.f153.results.toList slices_insertionSortCmpFunc_impl_Frac_at_impl_ascending_1rs slices_insertionSortCmpFunc_impl_Frac_at_impl_ascending_1bs)) k { env := [(0, .one (.slice 0 0 none)), (8, .one (.sc (.int .i64 v8))), (3, .one (.clos 112 [])), (1, .one (.sc (.int .i64 v1))), (2, .one (.sc (.int .i64 v2)))], bx := [(0, .row 0 (.pair (.int .i64) (.int .i64)) b0)], nx := 1 } = slices_insertionSortCmpFunc_impl_Frac_at_impl_ascending_1_l1 n k v8 v1 v2 b0
  | 0, _, _, _, _ => by kernel_rfl
  | k + 1, v8, v1, v2, b0 => by
    have h : iter (interp ([impl_ascending_1F n]) ty 53 1 n slices_insertionSortCmpFunc_impl_Frac_at_impl_ascending_1kp (codeAt slices_insertionSortCmpFunc_impl_Frac_at_impl_ascending_1c [1, 0, 0])) (canon 1 (slices_insertionSortCmpFunc_impl_Frac_at_impl_ascending_1kp.loop 1)) (kAt ([impl_ascending_1F n]) ty 53 1 n slices_insertionSortCmpFunc_impl_Frac_at_impl_ascending_1kp slices_insertionSortCmpFunc_impl_Frac_at_impl_ascending_1c [1, 0] [] (ending ty 1 Go.Proofs.Tryz.f153.results.toList slices_insertionSortCmpFunc_impl_Frac_at_impl_ascending_1rs slices_insertionSortCmpFunc_impl_Frac_at_impl_ascending_1bs)) (k + 1) { env := [(0, .one (.slice 0 0 none)), (8, .one (.sc (.int .i64 v8))), (3, .one (.clos 112 [])), (1, .one (.sc (.int .i64 v1))), (2, .one (.sc (.int .i64 v2)))], bx := [(0, .row 0 (.pair (.int .i64) (.int .i64)) b0)], nx := 1 } = slices_insertionSortCmpFunc_impl_Frac_at_impl_ascending_1_t1 n (fun k' v9 v1 v2 v8 b0 => iter (interp ([impl_ascending_1F n]) ty 53 1 n slices_insertionSortCmpFunc_impl_Frac_at_impl_ascending_1kp (codeAt slices_insertionSortCmpFunc_impl_Frac_at_impl_ascending_1c [1, 0, 0, 1, 0, 0, 1, 0, 0])) (canon 1 (slices_insertionSortCmpFunc_impl_Frac_at_impl_ascending_1kp.loop 4)) (kAt ([impl_ascending_1F n]) ty 53 1 n slices_insertionSortCmpFunc_impl_Frac_at_impl_ascending_1kp slices_insertionSortCmpFunc_impl_Frac_at_impl_ascending_1c [1, 0, 0, 1, 0, 0, 1, 0] [(fun s => iter (interp ([impl_ascending_1F n]) ty 53 1 n slices_insertionSortCmpFunc_impl_Frac_at_impl_ascending_1kp (codeAt slices_insertionSortCmpFunc_impl_Frac_at_impl_ascending_1c [1, 0, 0])) (canon 1 (slices_insertionSortCmpFunc_impl_Frac_at_impl_ascending_1kp.loop 1)) (kAt ([impl_ascending_1F n]) ty 53 1 n slices_insertionSortCmpFunc_impl_Frac_at_impl_ascending_1kp slices_insertionSortCmpFunc_impl_Frac_at_impl_ascending_1c [1, 0] [] (ending ty 1 Go.Proofs.Tryz.f153.results.toList slices_insertionSortCmpFunc_impl_Frac_at_impl_ascending_1rs slices_insertionSortCmpFunc_impl_Frac_at_impl_ascending_1bs)) k s)] (ending ty 1 Go.Proofs.Tryz.f153.results.toList slices_insertionSortCmpFunc_impl_Frac_at_impl_ascending_1rs slices_insertionSortCmpFunc_impl_Frac_at_impl_ascending_1bs)) k' { env := [(9, .one (.sc (.int .i64 v9))), (0, .one (.slice 0 0 none)), (3, .one (.clos 112 [])), (1, .one (.sc (.int .i64 v1))), (2, .one (.sc (.int .i64 v2))), (8, .one (.sc (.int .i64 v8)))], bx := [(0, .row 0 (.pair (.int .i64) (.int .i64)) b0)], nx := 1 }) (fun v8 v1 v2 b0 => iter (interp ([impl_ascending_1F n]) ty 53 1 n slices_insertionSortCmpFunc_impl_Frac_at_impl_ascending_1kp (codeAt slices_insertionSortCmpFunc_impl_Frac_at_impl_ascending_1c [1, 0, 0])) (canon 1 (slices_insertionSortCmpFunc_impl_Frac_at_impl_ascending_1kp.loop 1)) (kAt ([impl_ascending_1F n]) ty 53 1 n slices_insertionSortCmpFunc_impl_Frac_at_impl_ascending_1kp slices_insertionSortCmpFunc_impl_Frac_at_impl_ascending_1c [1, 0] [] (ending ty 1 Go.Proofs.Tryz.f153.results.toList slices_insertionSortCmpFunc_impl_Frac_at_impl_ascending_1rs slices_insertionSortCmpFunc_impl_Frac_at_impl_ascending_1bs)) k { env := [(0, .one (.slice 0 0 none)), (8, .one (.sc (.int .i64 v8))), (3, .one (.clos 112 [])), (1, .one (.sc (.int .i64 v1))), (2, .one (.sc (.int .i64 v2)))], bx := [(0, .row 0 (.pair (.int .i64) (.int .i64)) b0)], nx := 1 }) v8 v1 v2 b0 := by kernel_rfl
    rw [h]
    have e := congr (congrArg (fun h4 g => slices_insertionSortCmpFunc_impl_Frac_at_impl_ascending_1_t1 n h4 g v8 v1 v2 b0) ((funext fun k' => funext fun v9 => funext fun v1 => funext fun v2 => funext fun v8 => funext fun b0 => slices_insertionSortCmpFunc_impl_Frac_at_impl_ascending_1_l4_eq n (fun s => iter (interp ([impl_ascending_1F n]) ty 53 1 n slices_insertionSortCmpFunc_impl_Frac_at_impl_ascending_1kp (codeAt slices_insertionSortCmpFunc_impl_Frac_at_impl_ascending_1c [1, 0, 0])) (canon 1 (slices_insertionSortCmpFunc_impl_Frac_at_impl_ascending_1kp.loop 1)) (kAt ([impl_ascending_1F n]) ty 53 1 n slices_insertionSortCmpFunc_impl_Frac_at_impl_ascending_1kp slices_insertionSortCmpFunc_impl_Frac_at_impl_ascending_1c [1, 0] [] (ending ty 1 Go.Proofs.Tryz.f153.results.toList slices_insertionSortCmpFunc_impl_Frac_at_impl_ascending_1rs slices_insertionSortCmpFunc_impl_Frac_at_impl_ascending_1bs)) k s) k' v9 v1 v2 v8 b0).trans (congrArg (fun z => slices_insertionSortCmpFunc_impl_Frac_at_impl_ascending_1_l4 n z) (funext fun v8 => funext fun v1 => funext fun v2 => funext fun b0 => slices_insertionSortCmpFunc_impl_Frac_at_impl_ascending_1_l1_eq n k v8 v1 v2 b0)))) (funext fun v8 => funext fun v1 => funext fun v2 => funext fun b0 => slices_insertionSortCmpFunc_impl_Frac_at_impl_ascending_1_l1_eq n k v8 v1 v2 b0)
    exact e

theorem slices_insertionSortCmpFunc_impl_Frac_at_impl_ascending_1_eq (n : Nat) (a1 : Int) (a2 : Int) (b0 : List ((Int) × (Int))) : runBody ([impl_ascending_1F n]) ty 53 n slices_insertionSortCmpFunc_impl_Frac_at_impl_ascending_1kp slices_insertionSortCmpFunc_impl_Frac_at_impl_ascending_1c Go.Proofs.Tryz.f153.results.toList slices_insertionSortCmpFunc_impl_Frac_at_impl_ascending_1rs slices_insertionSortCmpFunc_impl_Frac_at_impl_ascending_1sp slices_insertionSortCmpFunc_impl_Frac_at_impl_ascending_1bs ((), (a1, (a2, ((), ())))) (b0, ()) = slices_insertionSortCmpFunc_impl_Frac_at_impl_ascending_1 n a1 a2 b0 := by
  have h : runBody ([impl_ascending_1F n]) ty 53 n slices_insertionSortCmpFunc_impl_Frac_at_impl_ascending_1kp slices_insertionSortCmpFunc_impl_Frac_at_impl_ascending_1c Go.Proofs.Tryz.f153.results.toList slices_insertionSortCmpFunc_impl_Frac_at_impl_ascending_1rs slices_insertionSortCmpFunc_impl_Frac_at_impl_ascending_1sp slices_insertionSortCmpFunc_impl_Frac_at_impl_ascending_1bs ((), (a1, (a2, ((), ())))) (b0, ()) = slices_insertionSortCmpFunc_impl_Frac_at_impl_ascending_1_t n (fun k v8 v1 v2 b0 => iter (interp ([impl_ascending_1F n]) ty 53 1 n slices_insertionSortCmpFunc_impl_Frac_at_impl_ascending_1kp (codeAt slices_insertionSortCmpFunc_impl_Frac_at_impl_ascending_1c [1, 0, 0])) (canon 1 (slices_insertionSortCmpFunc_impl_Frac_at_impl_ascending_1kp.loop 1)) (kAt ([impl_ascending_1F n]) ty 53 1 n slices_insertionSortCmpFunc_impl_Frac_at_impl_ascending_1kp slices_insertionSortCmpFunc_impl_Frac_at_impl_ascending_1c [1, 0] [] (ending ty 1 Go.Proofs.Tryz.f153.results.toList slices_insertionSortCmpFunc_impl_Frac_at_impl_ascending_1rs slices_insertionSortCmpFunc_impl_Frac_at_impl_ascending_1bs)) k { env := [(0, .one (.slice 0 0 none)), (8, .one (.sc (.int .i64 v8))), (3, .one (.clos 112 [])), (1, .one (.sc (.int .i64 v1))), (2, .one (.sc (.int .i64 v2)))], bx := [(0, .row 0 (.pair (.int .i64) (.int .i64)) b0)], nx := 1 }) a1 a2 b0 := by kernel_rfl
  rw [h]
  have e := congrArg (fun h1 => slices_insertionSortCmpFunc_impl_Frac_at_impl_ascending_1_t n h1 a1 a2 b0) (funext fun k => funext fun v8 => funext fun v1 => funext fun v2 => funext fun b0 => slices_insertionSortCmpFunc_impl_Frac_at_impl_ascending_1_l1_eq n k v8 v1 v2 b0)
  exact e

theorem slices_insertionSortCmpFunc_impl_Frac_at_impl_ascending_1_ok (n : Nat) : FunOk P (slices_insertionSortCmpFunc_impl_Frac_at_impl_ascending_1F n) :=
  funOk_mk (C := [impl_ascending_1F n]) (N := 53) (kp := slices_insertionSortCmpFunc_impl_Frac_at_impl_ascending_1kp) (c := slices_insertionSortCmpFunc_impl_Frac_at_impl_ascending_1c) (n := n) (G := fun x y => slices_insertionSortCmpFunc_impl_Frac_at_impl_ascending_1 n x.2.1 x.2.2.1 y.1) follows (AllOk.mem (⟨impl_ascending_1_ok n, trivial⟩ : AllOk P ([impl_ascending_1F n]))) (by kernel_rfl : P.funcs[153]? = some Go.Proofs.Tryz.f153) (by kernel_rfl) (by kernel_rfl) (by kernel_rfl)
    (fun x y => slices_insertionSortCmpFunc_impl_Frac_at_impl_ascending_1_eq n x.2.1 x.2.2.1 y.1) (fun _ _ => map_same (fun _ => rfl) _) (fun _ _ _ _ => rfl)

abbrev slices_pdqsortCmpFunc_impl_Frac_at_impl_ascending_1sp : List Sp := [.sl 0, .v false (.int .i64), .v false (.int .i64), .v false (.int .i64), .cl 112 []]
abbrev slices_pdqsortCmpFunc_impl_Frac_at_impl_ascending_1bs : List (Bs × Bool) := [(.row  (.pair (.int .i64) (.int .i64)), true)]
abbrev slices_pdqsortCmpFunc_impl_Frac_at_impl_ascending_1rs : List (Bool × List Rp) := []
noncomputable def slices_pdqsortCmpFunc_impl_Frac_at_impl_ascending_1kp : Keep := { loop := fun id => match id with | 2 => ([4, 2, 1, 0, 11, 10, 3], []) | _ => ([], []), join := fun id => match id with | _ => none }
noncomputable def slices_pdqsortCmpFunc_impl_Frac_at_impl_ascending_1c : Code := bodyOf Go.Proofs.Tryz.f132
noncomputable def slices_pdqsortCmpFunc_impl_Frac_at_impl_ascending_1F (n : Nat) : Fun := { id := 132, sp := slices_pdqsortCmpFunc_impl_Frac_at_impl_ascending_1sp, bs := slices_pdqsortCmpFunc_impl_Frac_at_impl_ascending_1bs, rs := slices_pdqsortCmpFunc_impl_Frac_at_impl_ascending_1rs, f := fun x y => slices_pdqsortCmpFunc_impl_Frac_at_impl_ascending_1 n x.2.1 x.2.2.1 x.2.2.2.1 y.1 }

theorem slices_pdqsortCmpFunc_impl_Frac_at_impl_ascending_1_l2_eq (n : Nat) : ∀ (k : Nat) (v2 : Int) (v1 : Int) (v11 : Bool) (v10 : Bool) (v3 : Int) (b0 : List ((Int) × (Int))), iter (interp ([slices_insertionSortCmpFunc_impl_Frac_at_impl_ascending_1F n]) ty 148 1 n slices_pdqsortCmpFunc_impl_Frac_at_impl_ascending_1kp (codeAt slices_pdqsortCmpFunc_impl_Frac_at_impl_ascending_1c [1, 1, 0, 0])) (canon 1 (slices_pdqsortCmpFunc_impl_Frac_at_impl_ascending_1kp.loop 2)) (kAt ([slices_insertionSortCmpFunc_impl_Frac_at_impl_ascending_1F n]) ty 148 1 n slices_pdqsortCmpFunc_impl_Frac_at_impl_ascending_1kp slices_pdqsortCmpFunc_impl_Frac_at_impl_ascending_1c [1, 1, 0] [] (ending ty 1 Go.Proofs.Tryz.f132.results.toList slices_pdqsortCmpFunc_impl_Frac_at_impl_ascending_1rs slices_pdqsortCmpFunc_impl_Frac_at_impl_ascending_1bs)) k { env := [(4, .one (.clos 112 [])), (2, .one (.sc (.int .i64 v2))), (1, .one (.sc (.int .i64 v1))), (0, .one (.slice 0 0 none)), (11, .one (.sc (.bool v11))), (10, .one (.sc (.bool v10))), (3, .one (.sc (.int .i64 v3)))], bx := [(0, .row 0 (.pair (.int .i64) (.int .i64)) b0)], nx := 1 } = slices_pdqsortCmpFunc_impl_Frac_at_impl_ascending_1_l2 n k v2 v1 v11 v10 v3 b0
  | 0, _, _, _, _, _, _ => by kernel_rfl
  | k + 1, v2, v1, v11, v10, v3, b0 => by
    have h : iter (interp ([slices_insertionSortCmpFunc_impl_Frac_at_impl_ascending_1F n]) ty 148 1 n slices_pdqsortCmpFunc_impl_Frac_at_impl_ascending_1kp (codeAt slices_pdqsortCmpFunc_impl_Frac_at_impl_ascending_1c [1, 1, 0, 0])) (canon 1 (slices_pdqsortCmpFunc_impl_Frac_at_impl_ascending_1kp.loop 2)) (kAt ([slices_insertionSortCmpFunc_impl_Frac_at_impl_ascending_1F n]) ty 148 1 n slices_pdqsortCmpFunc_impl_Frac_at_impl_ascending_1kp slices_pdqsortCmpFunc_impl_Frac_at_impl_ascending_1c [1, 1, 0] [] (ending ty 1 Go.Proofs.Tryz.f132.results.toList slices_pdqsortCmpFunc_impl_Frac_at_impl_ascending_1rs slices_pdqsortCmpFunc_impl_Frac_at_impl_ascending_1bs)) (k + 1) { env := [(4, .one (.clos 112 [])), (2, .one (.sc (.int .i64 v2))), (1, .one (.sc (.int .i64 v1))), (0, .one (.slice 0 0 none)), (11, .one (.sc (.bool v11))), (10, .one (.sc (.bool v10))), (3, .one (.sc (.int .i64 v3)))], bx := [(0, .row 0 (.pair (.int .i64) (.int .i64)) b0)], nx := 1 } = slices_pdqsortCmpFunc_impl_Frac_at_impl_ascending_1_t2 n (fun v2 v1 v11 v10 v3 b0 => iter (interp ([slices_insertionSortCmpFunc_impl_Frac_at_impl_ascending_1F n]) ty 148 1 n slices_pdqsortCmpFunc_impl_Frac_at_impl_ascending_1kp (codeAt slices_pdqsortCmpFunc_impl_Frac_at_impl_ascending_1c [1, 1, 0, 0])) (canon 1 (slices_pdqsortCmpFunc_impl_Frac_at_impl_ascending_1kp.loop 2)) (kAt ([slices_insertionSortCmpFunc_impl_Frac_at_impl_ascending_1F n]) ty 148 1 n slices_pdqsortCmpFunc_impl_Frac_at_impl_ascending_1kp slices_pdqsortCmpFunc_impl_Frac_at_impl_ascending_1c [1, 1, 0] [] (ending ty 1 Go.Proofs.Tryz.f132.results.toList slices_pdqsortCmpFunc_impl_Frac_at_impl_ascending_1rs slices_pdqsortCmpFunc_impl_Frac_at_impl_ascending_1bs)) k { env := [(4, .one (.clos 112 [])), (2, .one (.sc (.int .i64 v2))), (1, .one (.sc (.int .i64 v1))), (0, .one (.slice 0 0 none)), (11, .one (.sc (.bool v11))), (10, .one (.sc (.bool v10))), (3, .one (.sc (.int .i64 v3)))], bx := [(0, .row 0 (.pair (.int .i64) (.int .i64)) b0)], nx := 1 }) v2 v1 v11 v10 v3 b0 := by kernel_rfl
    rw [h]
    have e := congrArg (fun g => slices_pdqsortCmpFunc_impl_Frac_at_impl_ascending_1_t2 n g v2 v1 v11 v10 v3 b0) (funext fun v2 => funext fun v1 => funext fun v11 => funext fun v10 => funext fun v3 => funext fun b0 => slices_pdqsortCmpFunc_impl_Frac_at_impl_ascending_1_l2_eq n k v2 v1 v11 v10 v3 b0)
    exact e

theorem slices_pdqsortCmpFunc_impl_Frac_at_impl_ascending_1_eq (n : Nat) (a1 : Int) (a2 : Int) (a3 : Int) (b0 : List ((Int) × (Int))) : runBody ([slices_insertionSortCmpFunc_impl_Frac_at_impl_ascending_1F n]) ty 148 n slices_pdqsortCmpFunc_impl_Frac_at_impl_ascending_1kp slices_pdqsortCmpFunc_impl_Frac_at_impl_ascending_1c Go.Proofs.Tryz.f132.results.toList slices_pdqsortCmpFunc_impl_Frac_at_impl_ascending_1rs slices_pdqsortCmpFunc_impl_Frac_at_impl_ascending_1sp slices_pdqsortCmpFunc_impl_Frac_at_impl_ascending_1bs ((), (a1, (a2, (a3, ((), ()))))) (b0, ()) = slices_pdqsortCmpFunc_impl_Frac_at_impl_ascending_1 n a1 a2 a3 b0 := by
  have h : runBody ([slices_insertionSortCmpFunc_impl_Frac_at_impl_ascending_1F n]) ty 148 n slices_pdqsortCmpFunc_impl_Frac_at_impl_ascending_1kp slices_pdqsortCmpFunc_impl_Frac_at_impl_ascending_1c Go.Proofs.Tryz.f132.results.toList slices_pdqsortCmpFunc_impl_Frac_at_impl_ascending_1rs slices_pdqsortCmpFunc_impl_Frac_at_impl_ascending_1sp slices_pdqsortCmpFunc_impl_Frac_at_impl_ascending_1bs ((), (a1, (a2, (a3, ((), ()))))) (b0, ()) = slices_pdqsortCmpFunc_impl_Frac_at_impl_ascending_1_t n (fun k v2 v1 v11 v10 v3 b0 => iter (interp ([slices_insertionSortCmpFunc_impl_Frac_at_impl_ascending_1F n]) ty 148 1 n slices_pdqsortCmpFunc_impl_Frac_at_impl_ascending_1kp (codeAt slices_pdqsortCmpFunc_impl_Frac_at_impl_ascending_1c [1, 1, 0, 0])) (canon 1 (slices_pdqsortCmpFunc_impl_Frac_at_impl_ascending_1kp.loop 2)) (kAt ([slices_insertionSortCmpFunc_impl_Frac_at_impl_ascending_1F n]) ty 148 1 n slices_pdqsortCmpFunc_impl_Frac_at_impl_ascending_1kp slices_pdqsortCmpFunc_impl_Frac_at_impl_ascending_1c [1, 1, 0] [] (ending ty 1 Go.Proofs.Tryz.f132.results.toList slices_pdqsortCmpFunc_impl_Frac_at_impl_ascending_1rs slices_pdqsortCmpFunc_impl_Frac_at_impl_ascending_1bs)) k { env := [(4, .one (.clos 112 [])), (2, .one (.sc (.int .i64 v2))), (1, .one (.sc (.int .i64 v1))), (0, .one (.slice 0 0 none)), (11, .one (.sc (.bool v11))), (10, .one (.sc (.bool v10))), (3, .one (.sc (.int .i64 v3)))], bx := [(0, .row 0 (.pair (.int .i64) (.int .i64)) b0)], nx := 1 }) a1 a2 a3 b0 := by kernel_rfl
  rw [h]
  have e := congrArg (fun h2 => slices_pdqsortCmpFunc_impl_Frac_at_impl_ascending_1_t n h2 a1 a2 a3 b0) (funext fun k => funext fun v2 => funext fun v1 => funext fun v11 => funext fun v10 => funext fun v3 => funext fun b0 => slices_pdqsortCmpFunc_impl_Frac_at_impl_ascending_1_l2_eq n k v2 v1 v11 v10 v3 b0)
  exact e

theorem slices_pdqsortCmpFunc_impl_Frac_at_impl_ascending_1_ok (n : Nat) : FunOk P (slices_pdqsortCmpFunc_impl_Frac_at_impl_ascending_1F n) :=
  funOk_mk (C := [slices_insertionSortCmpFunc_impl_Frac_at_impl_ascending_1F n]) (N := 148) (kp := slices_pdqsortCmpFunc_impl_Frac_at_impl_ascending_1kp) (c := slices_pdqsortCmpFunc_impl_Frac_at_impl_ascending_1c) (n := n) (G := fun x y => slices_pdqsortCmpFunc_impl_Frac_at_impl_ascending_1 n x.2.1 x.2.2.1 x.2.2.2.1 y.1) follows (AllOk.mem (⟨slices_insertionSortCmpFunc_impl_Frac_at_impl_ascending_1_ok n, trivial⟩ : AllOk P ([slices_insertionSortCmpFunc_impl_Frac_at_impl_ascending_1F n]))) (by kernel_rfl : P.funcs[132]? = some Go.Proofs.Tryz.f132) (by kernel_rfl) (by kernel_rfl) (by kernel_rfl)
    (fun x y => slices_pdqsortCmpFunc_impl_Frac_at_impl_ascending_1_eq n x.2.1 x.2.2.1 x.2.2.2.1 y.1) (fun _ _ => map_same (fun _ => rfl) _) (fun _ _ _ _ => rfl)

abbrev slices_SortFunc_impl_Frac_impl_Frac_at_impl_ascending_1sp : List Sp := [.sl 0, .cl 112 []]
abbrev slices_SortFunc_impl_Frac_impl_Frac_at_impl_ascending_1bs : List (Bs × Bool) := [(.row  (.pair (.int .i64) (.int .i64)), true)]
abbrev slices_SortFunc_impl_Frac_impl_Frac_at_impl_ascending_1rs : List (Bool × List Rp) := []
noncomputable def slices_SortFunc_impl_Frac_impl_Frac_at_impl_ascending_1kp : Keep := { loop := fun id => match id with | _ => ([], []), join := fun id => match id with | _ => none }
noncomputable def slices_SortFunc_impl_Frac_impl_Frac_at_impl_ascending_1c : Code := bodyOf Go.Proofs.Tryz.f111
noncomputable def slices_SortFunc_impl_Frac_impl_Frac_at_impl_ascending_1F (n : Nat) : Fun := { id := 111, sp := slices_SortFunc_impl_Frac_impl_Frac_at_impl_ascending_1sp, bs := slices_SortFunc_impl_Frac_impl_Frac_at_impl_ascending_1bs, rs := slices_SortFunc_impl_Frac_impl_Frac_at_impl_ascending_1rs, f := fun x y => slices_SortFunc_impl_Frac_impl_Frac_at_impl_ascending_1 n y.1 }

theorem slices_SortFunc_impl_Frac_impl_Frac_at_impl_ascending_1_eq (n : Nat) (b0 : List ((Int) × (Int))) : runBody ([math_bits_LenF n, slices_pdqsortCmpFunc_impl_Frac_at_impl_ascending_1F n]) ty 14 n slices_SortFunc_impl_Frac_impl_Frac_at_impl_ascending_1kp slices_SortFunc_impl_Frac_impl_Frac_at_impl_ascending_1c Go.Proofs.Tryz.f111.results.toList slices_SortFunc_impl_Frac_impl_Frac_at_impl_ascending_1rs slices_SortFunc_impl_Frac_impl_Frac_at_impl_ascending_1sp slices_SortFunc_impl_Frac_impl_Frac_at_impl_ascending_1bs ((), ((), ())) (b0, ()) = slices_SortFunc_impl_Frac_impl_Frac_at_impl_ascending_1 n b0 := by
  have h : runBody ([math_bits_LenF n, slices_pdqsortCmpFunc_impl_Frac_at_impl_ascending_1F n]) ty 14 n slices_SortFunc_impl_Frac_impl_Frac_at_impl_ascending_1kp slices_SortFunc_impl_Frac_impl_Frac_at_impl_ascending_1c Go.Proofs.Tryz.f111.results.toList slices_SortFunc_impl_Frac_impl_Frac_at_impl_ascending_1rs slices_SortFunc_impl_Frac_impl_Frac_at_impl_ascending_1sp slices_SortFunc_impl_Frac_impl_Frac_at_impl_ascending_1bs ((), ((), ())) (b0, ()) = slices_SortFunc_impl_Frac_impl_Frac_at_impl_ascending_1_t n b0 := by kernel_rfl
  rw [h]
  rfl

theorem slices_SortFunc_impl_Frac_impl_Frac_at_impl_ascending_1_ok (n : Nat) : FunOk P (slices_SortFunc_impl_Frac_impl_Frac_at_impl_ascending_1F n) :=
  funOk_mk (C := [math_bits_LenF n, slices_pdqsortCmpFunc_impl_Frac_at_impl_ascending_1F n]) (N := 14) (kp := slices_SortFunc_impl_Frac_impl_Frac_at_impl_ascending_1kp) (c := slices_SortFunc_impl_Frac_impl_Frac_at_impl_ascending_1c) (n := n) (G := fun x y => slices_SortFunc_impl_Frac_impl_Frac_at_impl_ascending_1 n y.1) follows (AllOk.mem (⟨math_bits_Len_ok n, ⟨slices_pdqsortCmpFunc_impl_Frac_at_impl_ascending_1_ok n, trivial⟩⟩ : AllOk P ([math_bits_LenF n, slices_pdqsortCmpFunc_impl_Frac_at_impl_ascending_1F n]))) (by kernel_rfl : P.funcs[111]? = some Go.Proofs.Tryz.f111) (by kernel_rfl) (by kernel_rfl) (by kernel_rfl)
    (fun x y => slices_SortFunc_impl_Frac_impl_Frac_at_impl_ascending_1_eq n y.1) (fun _ _ => map_same (fun _ => rfl) _) (fun _ _ _ _ => rfl)

abbrev impl_ascendingsp : List Sp := [.v false (.list (.pair (.int .i64) (.int .i64)))]
abbrev impl_ascendingbs : List (Bs × Bool) := []
abbrev impl_ascendingrs : List (Bool × List Rp) := [(false, [.new  (.pair (.int .i64) (.int .i64))])]
noncomputable def impl_ascendingkp : Keep := { loop := fun id => match id with | _ => ([], []), join := fun id => match id with | _ => none }
noncomputable def impl_ascendingc : Code := bodyOf Go.Proofs.Tryz.f74
noncomputable def impl_ascendingF (n : Nat) : Fun := { id := 74, sp := impl_ascendingsp, bs := impl_ascendingbs, rs := impl_ascendingrs, f := fun x y => impl_ascending n x.1 }

theorem impl_ascending_eq (n : Nat) (a0 : List ((Int) × (Int))) : runBody ([slices_Clone_impl_Frac_impl_FracF n, slices_SortFunc_impl_Frac_impl_Frac_at_impl_ascending_1F n]) ty 9 n impl_ascendingkp impl_ascendingc Go.Proofs.Tryz.f74.results.toList impl_ascendingrs impl_ascendingsp impl_ascendingbs (a0, ()) () = impl_ascending n a0 := by
  have h : runBody ([slices_Clone_impl_Frac_impl_FracF n, slices_SortFunc_impl_Frac_impl_Frac_at_impl_ascending_1F n]) ty 9 n impl_ascendingkp impl_ascendingc Go.Proofs.Tryz.f74.results.toList impl_ascendingrs impl_ascendingsp impl_ascendingbs (a0, ()) () = impl_ascending_t n a0 := by kernel_rfl
  rw [h]
  rfl

theorem impl_ascending_ok (n : Nat) : FunOk P (impl_ascendingF n) :=
  funOk_mk (C := [slices_Clone_impl_Frac_impl_FracF n, slices_SortFunc_impl_Frac_impl_Frac_at_impl_ascending_1F n]) (N := 9) (kp := impl_ascendingkp) (c := impl_ascendingc) (n := n) (G := fun x y => impl_ascending n x.1) follows (AllOk.mem (⟨slices_Clone_impl_Frac_impl_Frac_ok n, ⟨slices_SortFunc_impl_Frac_impl_Frac_at_impl_ascending_1_ok n, trivial⟩⟩ : AllOk P ([slices_Clone_impl_Frac_impl_FracF n, slices_SortFunc_impl_Frac_impl_Frac_at_impl_ascending_1F n]))) (by kernel_rfl : P.funcs[74]? = some Go.Proofs.Tryz.f74) (by kernel_rfl) (by kernel_rfl) (by kernel_rfl)
    (fun x y => impl_ascending_eq n x.1) (fun _ _ => map_same (fun _ => rfl) _) (fun _ _ _ _ => rfl)

abbrev impl_MiddleOfsp : List Sp := [.v false (.list (.pair (.int .i64) (.int .i64)))]
abbrev impl_MiddleOfbs : List (Bs × Bool) := []
abbrev impl_MiddleOfrs : List (Bool × List Rp) := [(true, [.v false (.pair (.int .i64) (.int .i64))]), (false, [.v false (.int .i64)])]
noncomputable def impl_MiddleOfkp : Keep := { loop := fun id => match id with | _ => ([], []), join := fun id => match id with | _ => none }
noncomputable def impl_MiddleOfc : Code := bodyOf Go.Proofs.Tryz.f26
noncomputable def impl_MiddleOfF (n : Nat) : Fun := { id := 26, sp := impl_MiddleOfsp, bs := impl_MiddleOfbs, rs := impl_MiddleOfrs, f := fun x y => impl_MiddleOf n x.1 }

theorem impl_MiddleOf_eq (n : Nat) (a0 : List ((Int) × (Int))) : runBody ([impl_isSomeF n, impl_ascendingF n, impl_MeanOfF n]) ty 35 n impl_MiddleOfkp impl_MiddleOfc Go.Proofs.Tryz.f26.results.toList impl_MiddleOfrs impl_MiddleOfsp impl_MiddleOfbs (a0, ()) () = impl_MiddleOf n a0 := by
  have h : runBody ([impl_isSomeF n, impl_ascendingF n, impl_MeanOfF n]) ty 35 n impl_MiddleOfkp impl_MiddleOfc Go.Proofs.Tryz.f26.results.toList impl_MiddleOfrs impl_MiddleOfsp impl_MiddleOfbs (a0, ()) () = impl_MiddleOf_t n a0 := by kernel_rfl
  rw [h]
  rfl

theorem impl_MiddleOf_ok (n : Nat) : FunOk P (impl_MiddleOfF n) :=
  funOk_mk (C := [impl_isSomeF n, impl_ascendingF n, impl_MeanOfF n]) (N := 35) (kp := impl_MiddleOfkp) (c := impl_MiddleOfc) (n := n) (G := fun x y => impl_MiddleOf n x.1) follows (AllOk.mem (⟨impl_isSome_ok n, ⟨impl_ascending_ok n, ⟨impl_MeanOf_ok n, trivial⟩⟩⟩ : AllOk P ([impl_isSomeF n, impl_ascendingF n, impl_MeanOfF n]))) (by kernel_rfl : P.funcs[26]? = some Go.Proofs.Tryz.f26) (by kernel_rfl) (by kernel_rfl) (by kernel_rfl)
    (fun x y => impl_MiddleOf_eq n x.1) (fun _ _ => map_same (fun _ => rfl) _) (fun _ _ _ _ => rfl)

abbrev impl_calc_mulsp : List Sp := [.ref 0, .v true (.pair (.int .i64) (.int .i64)), .v true (.pair (.int .i64) (.int .i64))]
abbrev impl_calc_mulbs : List (Bs × Bool) := [(.var 74 .bool, true)]
abbrev impl_calc_mulrs : List (Bool × List Rp) := [(true, [.v false (.pair (.int .i64) (.int .i64))])]
noncomputable def impl_calc_mulkp : Keep := { loop := fun id => match id with | _ => ([], []), join := fun id => match id with | _ => none }
noncomputable def impl_calc_mulc : Code := bodyOf Go.Proofs.Tryz.f61
noncomputable def impl_calc_mulF (n : Nat) : Fun := { id := 61, sp := impl_calc_mulsp, bs := impl_calc_mulbs, rs := impl_calc_mulrs, f := fun x y => impl_calc_mul n x.2.1 x.2.2.1 y.1 }

theorem impl_calc_mul_eq (n : Nat) (a1 : (Int) × (Int)) (a2 : (Int) × (Int)) (b0 : Bool) : runBody ([impl_calc_toldF n]) ty 19 n impl_calc_mulkp impl_calc_mulc Go.Proofs.Tryz.f61.results.toList impl_calc_mulrs impl_calc_mulsp impl_calc_mulbs ((), (a1, (a2, ()))) (b0, ()) = impl_calc_mul n a1 a2 b0 := by
  have h : runBody ([impl_calc_toldF n]) ty 19 n impl_calc_mulkp impl_calc_mulc Go.Proofs.Tryz.f61.results.toList impl_calc_mulrs impl_calc_mulsp impl_calc_mulbs ((), (a1, (a2, ()))) (b0, ()) = impl_calc_mul_t n a1 a2 b0 := by kernel_rfl
  rw [h]
  rfl

theorem impl_calc_mul_ok (n : Nat) : FunOk P (impl_calc_mulF n) :=
  funOk_mk (C := [impl_calc_toldF n]) (N := 19) (kp := impl_calc_mulkp) (c := impl_calc_mulc) (n := n) (G := fun x y => impl_calc_mul n x.2.1 x.2.2.1 y.1) follows (AllOk.mem (⟨impl_calc_told_ok n, trivial⟩ : AllOk P ([impl_calc_toldF n]))) (by kernel_rfl : P.funcs[61]? = some Go.Proofs.Tryz.f61) (by kernel_rfl) (by kernel_rfl) (by kernel_rfl)
    (fun x y => impl_calc_mul_eq n x.2.1 x.2.2.1 y.1) (fun _ _ => map_same (fun _ => rfl) _) (fun _ _ _ _ => rfl)

abbrev impl_MulFracssp : List Sp := [.v true (.pair (.int .i64) (.int .i64)), .v true (.pair (.int .i64) (.int .i64))]
abbrev impl_MulFracsbs : List (Bs × Bool) := []
abbrev impl_MulFracsrs : List (Bool × List Rp) := [(true, [.v false (.pair (.int .i64) (.int .i64))]), (false, [.v false (.int .i64)])]
noncomputable def impl_MulFracskp : Keep := { loop := fun id => match id with | _ => ([], []), join := fun id => match id with | _ => none }
noncomputable def impl_MulFracsc : Code := bodyOf Go.Proofs.Tryz.f14
noncomputable def impl_MulFracsF (n : Nat) : Fun := { id := 14, sp := impl_MulFracssp, bs := impl_MulFracsbs, rs := impl_MulFracsrs, f := fun x y => impl_MulFracs n x.1 x.2.1 }

theorem impl_MulFracs_eq (n : Nat) (a0 : (Int) × (Int)) (a1 : (Int) × (Int)) : runBody ([impl_areValidF n, impl_calc_mulF n, impl_calc_oneF n]) ty 23 n impl_MulFracskp impl_MulFracsc Go.Proofs.Tryz.f14.results.toList impl_MulFracsrs impl_MulFracssp impl_MulFracsbs (a0, (a1, ())) () = impl_MulFracs n a0 a1 := by
  have h : runBody ([impl_areValidF n, impl_calc_mulF n, impl_calc_oneF n]) ty 23 n impl_MulFracskp impl_MulFracsc Go.Proofs.Tryz.f14.results.toList impl_MulFracsrs impl_MulFracssp impl_MulFracsbs (a0, (a1, ())) () = impl_MulFracs_t n a0 a1 := by kernel_rfl
  rw [h]
  rfl

theorem impl_MulFracs_ok (n : Nat) : FunOk P (impl_MulFracsF n) :=
  funOk_mk (C := [impl_areValidF n, impl_calc_mulF n, impl_calc_oneF n]) (N := 23) (kp := impl_MulFracskp) (c := impl_MulFracsc) (n := n) (G := fun x y => impl_MulFracs n x.1 x.2.1) follows (AllOk.mem (⟨impl_areValid_ok n, ⟨impl_calc_mul_ok n, ⟨impl_calc_one_ok n, trivial⟩⟩⟩ : AllOk P ([impl_areValidF n, impl_calc_mulF n, impl_calc_oneF n]))) (by kernel_rfl : P.funcs[14]? = some Go.Proofs.Tryz.f14) (by kernel_rfl) (by kernel_rfl) (by kernel_rfl)
    (fun x y => impl_MulFracs_eq n x.1 x.2.1) (fun _ _ => map_same (fun _ => rfl) _) (fun _ _ _ _ => rfl)

abbrev impl_nearestsp : List Sp := [.v false (.int .i64), .v false (.int .i64)]
abbrev impl_nearestbs : List (Bs × Bool) := []
abbrev impl_nearestrs : List (Bool × List Rp) := [(false, [.v false (.int .i64)]), (false, [.v false .bool])]
noncomputable def impl_nearestkp : Keep := { loop := fun id => match id with | _ => ([], []), join := fun id => match id with | _ => none }
noncomputable def impl_nearestc : Code := bodyOf Go.Proofs.Tryz.f67
noncomputable def impl_nearestF (n : Nat) : Fun := { id := 67, sp := impl_nearestsp, bs := impl_nearestbs, rs := impl_nearestrs, f := fun x y => impl_nearest n x.1 x.2.1 }

theorem impl_nearest_eq (n : Nat) (a0 : Int) (a1 : Int) : runBody ([impl_floorDivF n, impl_withinF n]) ty 17 n impl_nearestkp impl_nearestc Go.Proofs.Tryz.f67.results.toList impl_nearestrs impl_nearestsp impl_nearestbs (a0, (a1, ())) () = impl_nearest n a0 a1 := by
  have h : runBody ([impl_floorDivF n, impl_withinF n]) ty 17 n impl_nearestkp impl_nearestc Go.Proofs.Tryz.f67.results.toList impl_nearestrs impl_nearestsp impl_nearestbs (a0, (a1, ())) () = impl_nearest_t n a0 a1 := by kernel_rfl
  rw [h]
  rfl

theorem impl_nearest_ok (n : Nat) : FunOk P (impl_nearestF n) :=
  funOk_mk (C := [impl_floorDivF n, impl_withinF n]) (N := 17) (kp := impl_nearestkp) (c := impl_nearestc) (n := n) (G := fun x y => impl_nearest n x.1 x.2.1) follows (AllOk.mem (⟨impl_floorDiv_ok n, ⟨impl_within_ok n, trivial⟩⟩ : AllOk P ([impl_floorDivF n, impl_withinF n]))) (by kernel_rfl : P.funcs[67]? = some Go.Proofs.Tryz.f67) (by kernel_rfl) (by kernel_rfl) (by kernel_rfl)
    (fun x y => impl_nearest_eq n x.1 x.2.1) (fun _ _ => map_same (fun _ => rfl) _) (fun _ _ _ _ => rfl)

abbrev impl_NearestTosp : List Sp := [.v true (.pair (.int .i64) (.int .i64)), .v true (.pair (.int .i64) (.int .i64))]
abbrev impl_NearestTobs : List (Bs × Bool) := []
abbrev impl_NearestTors : List (Bool × List Rp) := [(false, [.v false (.int .i64)]), (false, [.v false (.int .i64)])]
noncomputable def impl_NearestTokp : Keep := { loop := fun id => match id with | _ => ([], []), join := fun id => match id with | _ => none }
noncomputable def impl_NearestToc : Code := bodyOf Go.Proofs.Tryz.f21
noncomputable def impl_NearestToF (n : Nat) : Fun := { id := 21, sp := impl_NearestTosp, bs := impl_NearestTobs, rs := impl_NearestTors, f := fun x y => impl_NearestTo n x.1 x.2.1 }

theorem impl_NearestTo_eq (n : Nat) (a0 : (Int) × (Int)) (a1 : (Int) × (Int)) : runBody ([impl_areValidF n, impl_nearestF n]) ty 33 n impl_NearestTokp impl_NearestToc Go.Proofs.Tryz.f21.results.toList impl_NearestTors impl_NearestTosp impl_NearestTobs (a0, (a1, ())) () = impl_NearestTo n a0 a1 := by
  have h : runBody ([impl_areValidF n, impl_nearestF n]) ty 33 n impl_NearestTokp impl_NearestToc Go.Proofs.Tryz.f21.results.toList impl_NearestTors impl_NearestTosp impl_NearestTobs (a0, (a1, ())) () = impl_NearestTo_t n a0 a1 := by kernel_rfl
  rw [h]
  rfl

theorem impl_NearestTo_ok (n : Nat) : FunOk P (impl_NearestToF n) :=
  funOk_mk (C := [impl_areValidF n, impl_nearestF n]) (N := 33) (kp := impl_NearestTokp) (c := impl_NearestToc) (n := n) (G := fun x y => impl_NearestTo n x.1 x.2.1) follows (AllOk.mem (⟨impl_areValid_ok n, ⟨impl_nearest_ok n, trivial⟩⟩ : AllOk P ([impl_areValidF n, impl_nearestF n]))) (by kernel_rfl : P.funcs[21]? = some Go.Proofs.Tryz.f21) (by kernel_rfl) (by kernel_rfl) (by kernel_rfl)
    (fun x y => impl_NearestTo_eq n x.1 x.2.1) (fun _ _ => map_same (fun _ => rfl) _) (fun _ _ _ _ => rfl)

abbrev impl_numbersp : List Sp := [.v false .str]
abbrev impl_numberbs : List (Bs × Bool) := []
abbrev impl_numberrs : List (Bool × List Rp) := [(false, [.v false (.int .i64)])]
noncomputable def impl_numberF (n : Nat) : Fun := { id := 50, sp := impl_numbersp, bs := impl_numberbs, rs := impl_numberrs, f := fun x y => impl_number n x.1 }

theorem parseInt_any (s : ByteArray) (hs : s.size ≤ 281474976710656) (w : World) (hL : Laid.L P w) :
    (∃ v, Go.Lib.parseIntB 64 s.data.toList = .ok v ∧ Calls Go.Proofs.Tryz.prog 103 #[.string s, .int .i64 10, .int .i64 64] w fun e w' => e = .returned (.tuple #[.int .i64 v, .nilIface]) ∧ Go.RowKit.Below w.heap.size w w') ∨
    ((∀ v, Go.Lib.parseIntB 64 s.data.toList ≠ .ok v) ∧ Calls Go.Proofs.Tryz.prog 103 #[.string s, .int .i64 10, .int .i64 64] w fun e w' => ∃ v t p, e = .returned (.tuple #[.int .i64 v, .iface t p]) ∧ Go.RowKit.Below w.heap.size w w') := by
  obtain ⟨t1, p1, h1⟩ := laidSyn hL
  obtain ⟨t2, p2, h2⟩ := laidRan hL
  cases hp : Go.Lib.parseIntB 64 s.data.toList with
  | ok v =>
    refine .inl ⟨v, rfl, (Go.Proofs.Any.strconv_ParseInt_10_at64_ok Go.Proofs.Tryz.laysC174 s (by omega) v hp w).mono ?_⟩
    rintro e w' ⟨rfl, hw⟩
    refine ⟨rfl, ?_⟩
    rcases hw with rfl | ⟨t, rfl⟩
    · exact Go.RowKit.Below.refl _ _
    · exact Go.Lib.bytesWorld_below _ _ _
  | range =>
    refine .inr ⟨fun v hv => (by cases hv), (Go.Proofs.Any.strconv_ParseInt_10_at64_range Go.Proofs.Tryz.laysC174 s hs hp _ w h2 (.inr ⟨_, _, rfl⟩)).mono ?_⟩
    rintro e w' ⟨N, rfl, _, _, hb⟩
    exact ⟨_, _, _, rfl, hb⟩
  | _ =>
    refine .inr ⟨fun v hv => (by cases hv), (Go.Proofs.Any.strconv_ParseInt_10_at64_syntax Go.Proofs.Tryz.laysC174 s hs hp _ w h1 (.inr ⟨_, _, rfl⟩)).mono ?_⟩
    rintro e w' ⟨N, rfl, _, _, hb⟩
    exact ⟨_, _, _, rfl, hb⟩

theorem number_ok (s : ByteArray) (v : Int) (w : World) (hp : Calls Go.Proofs.Tryz.prog 103 #[.string s, .int .i64 10, .int .i64 64] w fun e w' => e = .returned (.tuple #[.int .i64 v, .nilIface]) ∧ Go.RowKit.Below w.heap.size w w') :
    Calls Go.Proofs.Tryz.prog 50 #[.string s] w fun e w' => e = .returned (.int .i64 v) ∧ Go.RowKit.Below w.heap.size w w' := by
  go_enter Go.Proofs.Tryz.func50, Go.Proofs.Tryz.ntmps50
  go_wp2_with (go_at_call 103; refine hp.mono ?_; rintro e w1 ⟨rfl, hb⟩)
  go_wp2
  go_ret
  exact ⟨rfl, hb⟩

theorem number_err (s : ByteArray) (w : World) (hp : Calls Go.Proofs.Tryz.prog 103 #[.string s, .int .i64 10, .int .i64 64] w fun e w' => ∃ v t p, e = .returned (.tuple #[.int .i64 v, .iface t p]) ∧ Go.RowKit.Below w.heap.size w w') :
    Calls Go.Proofs.Tryz.prog 50 #[.string s] w fun e w' => e = .returned (.int .i64 0) ∧ Go.RowKit.Below w.heap.size w w' := by
  go_enter Go.Proofs.Tryz.func50, Go.Proofs.Tryz.ntmps50
  go_wp2_with (go_at_call 103; refine hp.mono ?_; rintro e w1 ⟨v, t, p, rfl, hb⟩)
  go_wp2
  go_ret
  exact ⟨rfl, hb⟩

theorem number_walk (s : ByteArray) (hs : s.size ≤ 281474976710656) (w : World) (hL : Laid.L P w) :
    Calls Go.Proofs.Tryz.prog 50 #[.string s] w fun e w' => ∃ v, e = .returned (.int .i64 v) ∧ Go.RowKit.Below w.heap.size w w' ∧ v = (match Go.Lib.parseIntB 64 s.data.toList with | .ok v => v | _ => 0) := by
  rcases parseInt_any s hs w hL with ⟨v, hv, hp⟩ | ⟨hv, hp⟩
  · exact (number_ok s v w hp).mono fun e w' ⟨he, hb⟩ => ⟨v, he, hb, by rw [hv]⟩
  · refine (number_err s w hp).mono fun e w' ⟨he, hb⟩ => ⟨0, he, hb, ?_⟩
    split
    · rename_i v' hv'
      exact absurd hv' (hv v')
    · rfl

theorem impl_number_ok (n : Nat) : FunOk P (impl_numberF n) := by
  refine ⟨⟨Go.Proofs.Tryz.f50, bodyOf Go.Proofs.Tryz.f50, Go.Proofs.Tryz.func50, by kernel_rfl, by kernel_rfl⟩, ?_⟩
  intro x y r hr w I J β vs hG hg hL hv
  have hr' : cond (decide (x.1.size ≤ 281474976710656)) (some (((((match Go.Lib.parseIntB 64 x.1.data.toList with | .ok v => v | _ => 0), ()), ()), ()))) none = some r := by
    rw [← hr]
    show _ = impl_number n x.1
    unfold impl_number
    cases Go.Lib.parseIntB 64 x.1.data.toList <;> rfl
  cases hc : (decide (x.1.size ≤ 281474976710656)) with
  | false => rw [hc, cond_false] at hr'; cases hr'
  | true =>
    rw [hc, cond_true] at hr'
    injection hr' with hr'
    subst hr'
    simp only [decide_eq_true_eq] at hc
    have hv' : RVs I J β (listF []) w [.one (.sc (.string x.1))] vs := hv
    have e := args_s hv'
    subst e
    exact leaf_call (v := .one (.sc (.int .i64 (match Go.Lib.parseIntB 64 x.1.data.toList with | .ok v => v | _ => 0)))) hG
      ((number_walk x.1 hc w hL).mono fun e w' ⟨v, he, hb, hv⟩ => ⟨_, he, hv ▸ rfl, wstep_below hb⟩)

abbrev strings_Cutsp : List Sp := [.v false .str, .v false .str]
abbrev strings_Cutbs : List (Bs × Bool) := []
abbrev strings_Cutrs : List (Bool × List Rp) := [(false, [.v false .str]), (false, [.v false .str]), (false, [.v false .bool])]
noncomputable def strings_CutF (n : Nat) : Fun := { id := 49, sp := strings_Cutsp, bs := strings_Cutbs, rs := strings_Cutrs, f := fun x y => strings_Cut n x.1 x.2.1 }

theorem strings_Cut_ok (n : Nat) : FunOk P (strings_CutF n) := by
  refine ⟨⟨Go.Proofs.Tryz.f49, bodyOf Go.Proofs.Tryz.f49, Go.Proofs.Tryz.func49, by kernel_rfl, by kernel_rfl⟩, ?_⟩
  intro x y r hr w I J β vs hG hg hL hv
  have hr' : cond (decide (x.1.size < 4294967281)) (some (((ByteArray.mk (Go.Lib.cut x.1.data.toList x.2.1.data.toList).1.toArray, ()), ((ByteArray.mk (Go.Lib.cut x.1.data.toList x.2.1.data.toList).2.1.toArray, ()), (((Go.Lib.cut x.1.data.toList x.2.1.data.toList).2.2, ()), ()))), ())) none = some r := hr
  cases hc : (decide (x.1.size < 4294967281)) with
  | false => rw [hc, cond_false] at hr'; cases hr'
  | true =>
    rw [hc, cond_true] at hr'
    injection hr' with hr'
    subst hr'
    simp only [decide_eq_true_eq] at hc
    have hv' : RVs I J β (listF []) w [.one (.sc (.string x.1)), .one (.sc (.string x.2.1))] vs := hv
    have e := args_ss hv'
    subst e
    obtain ⟨m, hm⟩ := laidMax hL
    exact leaf_call (v := .tup [(false, [.sc (.string (ByteArray.mk (Go.Lib.cut x.1.data.toList x.2.1.data.toList).1.toArray))]), (false, [.sc (.string (ByteArray.mk (Go.Lib.cut x.1.data.toList x.2.1.data.toList).2.1.toArray))]), (false, [.sc (.bool (Go.Lib.cut x.1.data.toList x.2.1.data.toList).2.2)])]) hG
      ((Go.Proofs.Tryz.strings_Cut x.1 x.2.1 m w hc hm).mono fun e w' ⟨he, n, hw⟩ => ⟨_, he, ⟨_, rfl, _, _, rfl, rfl, _, _, rfl, rfl, _, _, rfl, rfl, rfl⟩, hw ▸ wstep_drewN n⟩)

abbrev impl_ReadFracsp : List Sp := [.v false .str]
abbrev impl_ReadFracbs : List (Bs × Bool) := []
abbrev impl_ReadFracrs : List (Bool × List Rp) := [(true, [.v false (.pair (.int .i64) (.int .i64))]), (false, [.v false (.int .i64)])]
noncomputable def impl_ReadFrackp : Keep := { loop := fun id => match id with | _ => ([], []), join := fun id => match id with | _ => none }
noncomputable def impl_ReadFracc : Code := bodyOf Go.Proofs.Tryz.f7
noncomputable def impl_ReadFracF (n : Nat) : Fun := { id := 7, sp := impl_ReadFracsp, bs := impl_ReadFracbs, rs := impl_ReadFracrs, f := fun x y => impl_ReadFrac n x.1 }

theorem impl_ReadFrac_eq (n : Nat) (a0 : ByteArray) : runBody ([strings_CutF n, impl_numberF n, impl_FracTextF n]) ty 31 n impl_ReadFrackp impl_ReadFracc Go.Proofs.Tryz.f7.results.toList impl_ReadFracrs impl_ReadFracsp impl_ReadFracbs (a0, ()) () = impl_ReadFrac n a0 := by
  have h : runBody ([strings_CutF n, impl_numberF n, impl_FracTextF n]) ty 31 n impl_ReadFrackp impl_ReadFracc Go.Proofs.Tryz.f7.results.toList impl_ReadFracrs impl_ReadFracsp impl_ReadFracbs (a0, ()) () = impl_ReadFrac_t n a0 := by kernel_rfl
  rw [h]
  rfl

theorem impl_ReadFrac_ok (n : Nat) : FunOk P (impl_ReadFracF n) :=
  funOk_mk (C := [strings_CutF n, impl_numberF n, impl_FracTextF n]) (N := 31) (kp := impl_ReadFrackp) (c := impl_ReadFracc) (n := n) (G := fun x y => impl_ReadFrac n x.1) follows (AllOk.mem (⟨strings_Cut_ok n, ⟨impl_number_ok n, ⟨impl_FracText_ok n, trivial⟩⟩⟩ : AllOk P ([strings_CutF n, impl_numberF n, impl_FracTextF n]))) (by kernel_rfl : P.funcs[7]? = some Go.Proofs.Tryz.f7) (by kernel_rfl) (by kernel_rfl) (by kernel_rfl)
    (fun x y => impl_ReadFrac_eq n x.1) (fun _ _ => map_same (fun _ => rfl) _) (fun _ _ _ _ => rfl)

abbrev impl_calc_subsp : List Sp := [.ref 0, .v true (.pair (.int .i64) (.int .i64)), .v true (.pair (.int .i64) (.int .i64))]
abbrev impl_calc_subbs : List (Bs × Bool) := [(.var 74 .bool, true)]
abbrev impl_calc_subrs : List (Bool × List Rp) := [(true, [.v false (.pair (.int .i64) (.int .i64))])]
noncomputable def impl_calc_subkp : Keep := { loop := fun id => match id with | _ => ([], []), join := fun id => match id with | _ => none }
noncomputable def impl_calc_subc : Code := bodyOf Go.Proofs.Tryz.f57
noncomputable def impl_calc_subF (n : Nat) : Fun := { id := 57, sp := impl_calc_subsp, bs := impl_calc_subbs, rs := impl_calc_subrs, f := fun x y => impl_calc_sub n x.2.1 x.2.2.1 y.1 }

theorem impl_calc_sub_eq (n : Nat) (a1 : (Int) × (Int)) (a2 : (Int) × (Int)) (b0 : Bool) : runBody ([impl_calc_toldF n]) ty 25 n impl_calc_subkp impl_calc_subc Go.Proofs.Tryz.f57.results.toList impl_calc_subrs impl_calc_subsp impl_calc_subbs ((), (a1, (a2, ()))) (b0, ()) = impl_calc_sub n a1 a2 b0 := by
  have h : runBody ([impl_calc_toldF n]) ty 25 n impl_calc_subkp impl_calc_subc Go.Proofs.Tryz.f57.results.toList impl_calc_subrs impl_calc_subsp impl_calc_subbs ((), (a1, (a2, ()))) (b0, ()) = impl_calc_sub_t n a1 a2 b0 := by kernel_rfl
  rw [h]
  rfl

theorem impl_calc_sub_ok (n : Nat) : FunOk P (impl_calc_subF n) :=
  funOk_mk (C := [impl_calc_toldF n]) (N := 25) (kp := impl_calc_subkp) (c := impl_calc_subc) (n := n) (G := fun x y => impl_calc_sub n x.2.1 x.2.2.1 y.1) follows (AllOk.mem (⟨impl_calc_told_ok n, trivial⟩ : AllOk P ([impl_calc_toldF n]))) (by kernel_rfl : P.funcs[57]? = some Go.Proofs.Tryz.f57) (by kernel_rfl) (by kernel_rfl) (by kernel_rfl)
    (fun x y => impl_calc_sub_eq n x.2.1 x.2.2.1 y.1) (fun _ _ => map_same (fun _ => rfl) _) (fun _ _ _ _ => rfl)

abbrev impl_SubFracssp : List Sp := [.v true (.pair (.int .i64) (.int .i64)), .v true (.pair (.int .i64) (.int .i64))]
abbrev impl_SubFracsbs : List (Bs × Bool) := []
abbrev impl_SubFracsrs : List (Bool × List Rp) := [(true, [.v false (.pair (.int .i64) (.int .i64))]), (false, [.v false (.int .i64)])]
noncomputable def impl_SubFracskp : Keep := { loop := fun id => match id with | _ => ([], []), join := fun id => match id with | _ => none }
noncomputable def impl_SubFracsc : Code := bodyOf Go.Proofs.Tryz.f11
noncomputable def impl_SubFracsF (n : Nat) : Fun := { id := 11, sp := impl_SubFracssp, bs := impl_SubFracsbs, rs := impl_SubFracsrs, f := fun x y => impl_SubFracs n x.1 x.2.1 }

theorem impl_SubFracs_eq (n : Nat) (a0 : (Int) × (Int)) (a1 : (Int) × (Int)) : runBody ([impl_areValidF n, impl_calc_subF n, impl_calc_oneF n]) ty 23 n impl_SubFracskp impl_SubFracsc Go.Proofs.Tryz.f11.results.toList impl_SubFracsrs impl_SubFracssp impl_SubFracsbs (a0, (a1, ())) () = impl_SubFracs n a0 a1 := by
  have h : runBody ([impl_areValidF n, impl_calc_subF n, impl_calc_oneF n]) ty 23 n impl_SubFracskp impl_SubFracsc Go.Proofs.Tryz.f11.results.toList impl_SubFracsrs impl_SubFracssp impl_SubFracsbs (a0, (a1, ())) () = impl_SubFracs_t n a0 a1 := by kernel_rfl
  rw [h]
  rfl

theorem impl_SubFracs_ok (n : Nat) : FunOk P (impl_SubFracsF n) :=
  funOk_mk (C := [impl_areValidF n, impl_calc_subF n, impl_calc_oneF n]) (N := 23) (kp := impl_SubFracskp) (c := impl_SubFracsc) (n := n) (G := fun x y => impl_SubFracs n x.1 x.2.1) follows (AllOk.mem (⟨impl_areValid_ok n, ⟨impl_calc_sub_ok n, ⟨impl_calc_one_ok n, trivial⟩⟩⟩ : AllOk P ([impl_areValidF n, impl_calc_subF n, impl_calc_oneF n]))) (by kernel_rfl : P.funcs[11]? = some Go.Proofs.Tryz.f11) (by kernel_rfl) (by kernel_rfl) (by kernel_rfl)
    (fun x y => impl_SubFracs_eq n x.1 x.2.1) (fun _ _ => map_same (fun _ => rfl) _) (fun _ _ _ _ => rfl)

abbrev impl_SumOfsp : List Sp := [.v false (.list (.pair (.int .i64) (.int .i64)))]
abbrev impl_SumOfbs : List (Bs × Bool) := []
abbrev impl_SumOfrs : List (Bool × List Rp) := [(true, [.v false (.pair (.int .i64) (.int .i64))]), (false, [.v false (.int .i64)])]
noncomputable def impl_SumOfkp : Keep := { loop := fun id => match id with | _ => ([], []), join := fun id => match id with | _ => none }
noncomputable def impl_SumOfc : Code := bodyOf Go.Proofs.Tryz.f28
noncomputable def impl_SumOfF (n : Nat) : Fun := { id := 28, sp := impl_SumOfsp, bs := impl_SumOfbs, rs := impl_SumOfrs, f := fun x y => impl_SumOf n x.1 }

theorem impl_SumOf_eq (n : Nat) (a0 : List ((Int) × (Int))) : runBody ([impl_areValidF n, impl_calc_sumF n, impl_calc_oneF n]) ty 22 n impl_SumOfkp impl_SumOfc Go.Proofs.Tryz.f28.results.toList impl_SumOfrs impl_SumOfsp impl_SumOfbs (a0, ()) () = impl_SumOf n a0 := by
  have h : runBody ([impl_areValidF n, impl_calc_sumF n, impl_calc_oneF n]) ty 22 n impl_SumOfkp impl_SumOfc Go.Proofs.Tryz.f28.results.toList impl_SumOfrs impl_SumOfsp impl_SumOfbs (a0, ()) () = impl_SumOf_t n a0 := by kernel_rfl
  rw [h]
  rfl

theorem impl_SumOf_ok (n : Nat) : FunOk P (impl_SumOfF n) :=
  funOk_mk (C := [impl_areValidF n, impl_calc_sumF n, impl_calc_oneF n]) (N := 22) (kp := impl_SumOfkp) (c := impl_SumOfc) (n := n) (G := fun x y => impl_SumOf n x.1) follows (AllOk.mem (⟨impl_areValid_ok n, ⟨impl_calc_sum_ok n, ⟨impl_calc_one_ok n, trivial⟩⟩⟩ : AllOk P ([impl_areValidF n, impl_calc_sumF n, impl_calc_oneF n]))) (by kernel_rfl : P.funcs[28]? = some Go.Proofs.Tryz.f28) (by kernel_rfl) (by kernel_rfl) (by kernel_rfl)
    (fun x y => impl_SumOf_eq n x.1) (fun _ _ => map_same (fun _ => rfl) _) (fun _ _ _ _ => rfl)

abbrev laws_f6bigsp : List Sp := [.v false (.list (.int .u8))]
abbrev laws_f6bigbs : List (Bs × Bool) := []
abbrev laws_f6bigrs : List (Bool × List Rp) := [(false, [.v false .bool])]
noncomputable def laws_f6bigkp : Keep := { loop := fun id => match id with | _ => ([], []), join := fun id => match id with | _ => none }
noncomputable def laws_f6bigc : Code := bodyOf Go.Proofs.Tryz.f5
noncomputable def laws_f6bigF (n : Nat) : Fun := { id := 5, sp := laws_f6bigsp, bs := laws_f6bigbs, rs := laws_f6bigrs, f := fun x y => laws_f6big n x.1 }

theorem laws_f6big_eq (n : Nat) (a0 : List (Int)) : runBody ([]) ty 6 n laws_f6bigkp laws_f6bigc Go.Proofs.Tryz.f5.results.toList laws_f6bigrs laws_f6bigsp laws_f6bigbs (a0, ()) () = laws_f6big n a0 := by
  have h : runBody ([]) ty 6 n laws_f6bigkp laws_f6bigc Go.Proofs.Tryz.f5.results.toList laws_f6bigrs laws_f6bigsp laws_f6bigbs (a0, ()) () = laws_f6big_t n a0 := by kernel_rfl
  rw [h]
  rfl

theorem laws_f6big_ok (n : Nat) : FunOk P (laws_f6bigF n) :=
  funOk_mk (C := []) (N := 6) (kp := laws_f6bigkp) (c := laws_f6bigc) (n := n) (G := fun x y => laws_f6big n x.1) follows (AllOk.mem (trivial : AllOk P ([]))) (by kernel_rfl : P.funcs[5]? = some Go.Proofs.Tryz.f5) (by kernel_rfl) (by kernel_rfl) (by kernel_rfl)
    (fun x y => laws_f6big_eq n x.1) (fun _ _ => map_same (fun _ => rfl) _) (fun _ _ _ _ => rfl)

abbrev spec_l01Cmpsp : List Sp := [.v true (.pair (.int .i64) (.int .i64)), .v true (.pair (.int .i64) (.int .i64))]
abbrev spec_l01Cmpbs : List (Bs × Bool) := []
abbrev spec_l01Cmprs : List (Bool × List Rp) := [(false, [.v false (.int .i64)])]
noncomputable def spec_l01Cmpkp : Keep := { loop := fun id => match id with | _ => ([], []), join := fun id => match id with | _ => none }
noncomputable def spec_l01Cmpc : Code := bodyOf Go.Proofs.Tryz.f108
noncomputable def spec_l01CmpF (n : Nat) : Fun := { id := 108, sp := spec_l01Cmpsp, bs := spec_l01Cmpbs, rs := spec_l01Cmprs, f := fun x y => spec_l01Cmp n x.1 x.2.1 }

theorem spec_l01Cmp_eq (n : Nat) (a0 : (Int) × (Int)) (a1 : (Int) × (Int)) : runBody ([]) ty 25 n spec_l01Cmpkp spec_l01Cmpc Go.Proofs.Tryz.f108.results.toList spec_l01Cmprs spec_l01Cmpsp spec_l01Cmpbs (a0, (a1, ())) () = spec_l01Cmp n a0 a1 := by
  have h : runBody ([]) ty 25 n spec_l01Cmpkp spec_l01Cmpc Go.Proofs.Tryz.f108.results.toList spec_l01Cmprs spec_l01Cmpsp spec_l01Cmpbs (a0, (a1, ())) () = spec_l01Cmp_t n a0 a1 := by kernel_rfl
  rw [h]
  rfl

theorem spec_l01Cmp_ok (n : Nat) : FunOk P (spec_l01CmpF n) :=
  funOk_mk (C := []) (N := 25) (kp := spec_l01Cmpkp) (c := spec_l01Cmpc) (n := n) (G := fun x y => spec_l01Cmp n x.1 x.2.1) follows (AllOk.mem (trivial : AllOk P ([]))) (by kernel_rfl : P.funcs[108]? = some Go.Proofs.Tryz.f108) (by kernel_rfl) (by kernel_rfl) (by kernel_rfl)
    (fun x y => spec_l01Cmp_eq n x.1 x.2.1) (fun _ _ => map_same (fun _ => rfl) _) (fun _ _ _ _ => rfl)

abbrev spec_l00Insp : List Sp := [.v false (.int .i64), .v false (.int .i64), .v false (.int .i64)]
abbrev spec_l00Inbs : List (Bs × Bool) := []
abbrev spec_l00Inrs : List (Bool × List Rp) := [(false, [.v false .bool])]
noncomputable def spec_l00Inkp : Keep := { loop := fun id => match id with | _ => ([], []), join := fun id => match id with | _ => none }
noncomputable def spec_l00Inc : Code := bodyOf Go.Proofs.Tryz.f126
noncomputable def spec_l00InF (n : Nat) : Fun := { id := 126, sp := spec_l00Insp, bs := spec_l00Inbs, rs := spec_l00Inrs, f := fun x y => spec_l00In n x.1 x.2.1 x.2.2.1 }

theorem spec_l00In_eq (n : Nat) (a0 : Int) (a1 : Int) (a2 : Int) : runBody ([]) ty 15 n spec_l00Inkp spec_l00Inc Go.Proofs.Tryz.f126.results.toList spec_l00Inrs spec_l00Insp spec_l00Inbs (a0, (a1, (a2, ()))) () = spec_l00In n a0 a1 a2 := by
  have h : runBody ([]) ty 15 n spec_l00Inkp spec_l00Inc Go.Proofs.Tryz.f126.results.toList spec_l00Inrs spec_l00Insp spec_l00Inbs (a0, (a1, (a2, ()))) () = spec_l00In_t n a0 a1 a2 := by kernel_rfl
  rw [h]
  rfl

theorem spec_l00In_ok (n : Nat) : FunOk P (spec_l00InF n) :=
  funOk_mk (C := []) (N := 15) (kp := spec_l00Inkp) (c := spec_l00Inc) (n := n) (G := fun x y => spec_l00In n x.1 x.2.1 x.2.2.1) follows (AllOk.mem (trivial : AllOk P ([]))) (by kernel_rfl : P.funcs[126]? = some Go.Proofs.Tryz.f126) (by kernel_rfl) (by kernel_rfl) (by kernel_rfl)
    (fun x y => spec_l00In_eq n x.1 x.2.1 x.2.2.1) (fun _ _ => map_same (fun _ => rfl) _) (fun _ _ _ _ => rfl)

abbrev spec_l01Abssp : List Sp := [.v false (.int .i64)]
abbrev spec_l01Absbs : List (Bs × Bool) := []
abbrev spec_l01Absrs : List (Bool × List Rp) := [(false, [.v false (.int .i64)])]
noncomputable def spec_l01Abskp : Keep := { loop := fun id => match id with | _ => ([], []), join := fun id => match id with | _ => none }
noncomputable def spec_l01Absc : Code := bodyOf Go.Proofs.Tryz.f99
noncomputable def spec_l01AbsF (n : Nat) : Fun := { id := 99, sp := spec_l01Abssp, bs := spec_l01Absbs, rs := spec_l01Absrs, f := fun x y => spec_l01Abs n x.1 }

theorem spec_l01Abs_eq (n : Nat) (a0 : Int) : runBody ([]) ty 8 n spec_l01Abskp spec_l01Absc Go.Proofs.Tryz.f99.results.toList spec_l01Absrs spec_l01Abssp spec_l01Absbs (a0, ()) () = spec_l01Abs n a0 := by
  have h : runBody ([]) ty 8 n spec_l01Abskp spec_l01Absc Go.Proofs.Tryz.f99.results.toList spec_l01Absrs spec_l01Abssp spec_l01Absbs (a0, ()) () = spec_l01Abs_t n a0 := by kernel_rfl
  rw [h]
  rfl

theorem spec_l01Abs_ok (n : Nat) : FunOk P (spec_l01AbsF n) :=
  funOk_mk (C := []) (N := 8) (kp := spec_l01Abskp) (c := spec_l01Absc) (n := n) (G := fun x y => spec_l01Abs n x.1) follows (AllOk.mem (trivial : AllOk P ([]))) (by kernel_rfl : P.funcs[99]? = some Go.Proofs.Tryz.f99) (by kernel_rfl) (by kernel_rfl) (by kernel_rfl)
    (fun x y => spec_l01Abs_eq n x.1) (fun _ _ => map_same (fun _ => rfl) _) (fun _ _ _ _ => rfl)

abbrev spec_l01Gcdsp : List Sp := [.v false (.int .i64), .v false (.int .i64)]
abbrev spec_l01Gcdbs : List (Bs × Bool) := []
abbrev spec_l01Gcdrs : List (Bool × List Rp) := [(false, [.v false (.int .i64)])]
noncomputable def spec_l01Gcdkp : Keep := { loop := fun id => match id with | 1 => ([1, 0], []) | _ => ([], []), join := fun id => match id with | _ => none }
noncomputable def spec_l01Gcdc : Code := bodyOf Go.Proofs.Tryz.f98
noncomputable def spec_l01GcdF (n : Nat) : Fun := { id := 98, sp := spec_l01Gcdsp, bs := spec_l01Gcdbs, rs := spec_l01Gcdrs, f := fun x y => spec_l01Gcd n x.1 x.2.1 }

theorem spec_l01Gcd_l1_eq (n : Nat) : ∀ (k : Nat) (v1 : Int) (v0 : Int), iter (interp ([]) ty 14 0 n spec_l01Gcdkp (codeAt spec_l01Gcdc [1, 0, 0, 0])) (canon 0 (spec_l01Gcdkp.loop 1)) (kAt ([]) ty 14 0 n spec_l01Gcdkp spec_l01Gcdc [1, 0, 0] [] (ending ty 0 Go.Proofs.Tryz.f98.results.toList spec_l01Gcdrs spec_l01Gcdbs)) k { env := [(1, .one (.sc (.int .i64 v1))), (0, .one (.sc (.int .i64 v0)))], bx := [], nx := 0 } = spec_l01Gcd_l1 n k v1 v0
  | 0, _, _ => by kernel_rfl
  | k + 1, v1, v0 => by
    have h : iter (interp ([]) ty 14 0 n spec_l01Gcdkp (codeAt spec_l01Gcdc [1, 0, 0, 0])) (canon 0 (spec_l01Gcdkp.loop 1)) (kAt ([]) ty 14 0 n spec_l01Gcdkp spec_l01Gcdc [1, 0, 0] [] (ending ty 0 Go.Proofs.Tryz.f98.results.toList spec_l01Gcdrs spec_l01Gcdbs)) (k + 1) { env := [(1, .one (.sc (.int .i64 v1))), (0, .one (.sc (.int .i64 v0)))], bx := [], nx := 0 } = spec_l01Gcd_t1 n (fun v1 v0 => iter (interp ([]) ty 14 0 n spec_l01Gcdkp (codeAt spec_l01Gcdc [1, 0, 0, 0])) (canon 0 (spec_l01Gcdkp.loop 1)) (kAt ([]) ty 14 0 n spec_l01Gcdkp spec_l01Gcdc [1, 0, 0] [] (ending ty 0 Go.Proofs.Tryz.f98.results.toList spec_l01Gcdrs spec_l01Gcdbs)) k { env := [(1, .one (.sc (.int .i64 v1))), (0, .one (.sc (.int .i64 v0)))], bx := [], nx := 0 }) v1 v0 := by kernel_rfl
    rw [h]
    have e := congrArg (fun g => spec_l01Gcd_t1 n g v1 v0) (funext fun v1 => funext fun v0 => spec_l01Gcd_l1_eq n k v1 v0)
    exact e

theorem spec_l01Gcd_eq (n : Nat) (a0 : Int) (a1 : Int) : runBody ([]) ty 14 n spec_l01Gcdkp spec_l01Gcdc Go.Proofs.Tryz.f98.results.toList spec_l01Gcdrs spec_l01Gcdsp spec_l01Gcdbs (a0, (a1, ())) () = spec_l01Gcd n a0 a1 := by
  have h : runBody ([]) ty 14 n spec_l01Gcdkp spec_l01Gcdc Go.Proofs.Tryz.f98.results.toList spec_l01Gcdrs spec_l01Gcdsp spec_l01Gcdbs (a0, (a1, ())) () = spec_l01Gcd_t n (fun k v1 v0 => iter (interp ([]) ty 14 0 n spec_l01Gcdkp (codeAt spec_l01Gcdc [1, 0, 0, 0])) (canon 0 (spec_l01Gcdkp.loop 1)) (kAt ([]) ty 14 0 n spec_l01Gcdkp spec_l01Gcdc [1, 0, 0] [] (ending ty 0 Go.Proofs.Tryz.f98.results.toList spec_l01Gcdrs spec_l01Gcdbs)) k { env := [(1, .one (.sc (.int .i64 v1))), (0, .one (.sc (.int .i64 v0)))], bx := [], nx := 0 }) a0 a1 := by kernel_rfl
  rw [h]
  have e := congrArg (fun h1 => spec_l01Gcd_t n h1 a0 a1) (funext fun k => funext fun v1 => funext fun v0 => spec_l01Gcd_l1_eq n k v1 v0)
  exact e

theorem spec_l01Gcd_ok (n : Nat) : FunOk P (spec_l01GcdF n) :=
  funOk_mk (C := []) (N := 14) (kp := spec_l01Gcdkp) (c := spec_l01Gcdc) (n := n) (G := fun x y => spec_l01Gcd n x.1 x.2.1) follows (AllOk.mem (trivial : AllOk P ([]))) (by kernel_rfl : P.funcs[98]? = some Go.Proofs.Tryz.f98) (by kernel_rfl) (by kernel_rfl) (by kernel_rfl)
    (fun x y => spec_l01Gcd_eq n x.1 x.2.1) (fun _ _ => map_same (fun _ => rfl) _) (fun _ _ _ _ => rfl)

abbrev spec_l01Oksp : List Sp := [.v true (.pair (.int .i64) (.int .i64))]
abbrev spec_l01Okbs : List (Bs × Bool) := []
abbrev spec_l01Okrs : List (Bool × List Rp) := [(false, [.v false .bool])]
noncomputable def spec_l01Okkp : Keep := { loop := fun id => match id with | _ => ([], []), join := fun id => match id with | _ => none }
noncomputable def spec_l01Okc : Code := bodyOf Go.Proofs.Tryz.f100
noncomputable def spec_l01OkF (n : Nat) : Fun := { id := 100, sp := spec_l01Oksp, bs := spec_l01Okbs, rs := spec_l01Okrs, f := fun x y => spec_l01Ok n x.1 }

theorem spec_l01Ok_eq (n : Nat) (a0 : (Int) × (Int)) : runBody ([spec_l00InF n, spec_l01AbsF n, spec_l01GcdF n]) ty 20 n spec_l01Okkp spec_l01Okc Go.Proofs.Tryz.f100.results.toList spec_l01Okrs spec_l01Oksp spec_l01Okbs (a0, ()) () = spec_l01Ok n a0 := by
  have h : runBody ([spec_l00InF n, spec_l01AbsF n, spec_l01GcdF n]) ty 20 n spec_l01Okkp spec_l01Okc Go.Proofs.Tryz.f100.results.toList spec_l01Okrs spec_l01Oksp spec_l01Okbs (a0, ()) () = spec_l01Ok_t n a0 := by kernel_rfl
  rw [h]
  rfl

theorem spec_l01Ok_ok (n : Nat) : FunOk P (spec_l01OkF n) :=
  funOk_mk (C := [spec_l00InF n, spec_l01AbsF n, spec_l01GcdF n]) (N := 20) (kp := spec_l01Okkp) (c := spec_l01Okc) (n := n) (G := fun x y => spec_l01Ok n x.1) follows (AllOk.mem (⟨spec_l00In_ok n, ⟨spec_l01Abs_ok n, ⟨spec_l01Gcd_ok n, trivial⟩⟩⟩ : AllOk P ([spec_l00InF n, spec_l01AbsF n, spec_l01GcdF n]))) (by kernel_rfl : P.funcs[100]? = some Go.Proofs.Tryz.f100) (by kernel_rfl) (by kernel_rfl) (by kernel_rfl)
    (fun x y => spec_l01Ok_eq n x.1) (fun _ _ => map_same (fun _ => rfl) _) (fun _ _ _ _ => rfl)

abbrev spec_l01Twosp : List Sp := [.v true (.pair (.int .i64) (.int .i64)), .v true (.pair (.int .i64) (.int .i64))]
abbrev spec_l01Twobs : List (Bs × Bool) := []
abbrev spec_l01Twors : List (Bool × List Rp) := [(false, [.v false (.int .i64)])]
noncomputable def spec_l01Twokp : Keep := { loop := fun id => match id with | _ => ([], []), join := fun id => match id with | _ => none }
noncomputable def spec_l01Twoc : Code := bodyOf Go.Proofs.Tryz.f58
noncomputable def spec_l01TwoF (n : Nat) : Fun := { id := 58, sp := spec_l01Twosp, bs := spec_l01Twobs, rs := spec_l01Twors, f := fun x y => spec_l01Two n x.1 x.2.1 }

theorem spec_l01Two_eq (n : Nat) (a0 : (Int) × (Int)) (a1 : (Int) × (Int)) : runBody ([spec_l01OkF n]) ty 13 n spec_l01Twokp spec_l01Twoc Go.Proofs.Tryz.f58.results.toList spec_l01Twors spec_l01Twosp spec_l01Twobs (a0, (a1, ())) () = spec_l01Two n a0 a1 := by
  have h : runBody ([spec_l01OkF n]) ty 13 n spec_l01Twokp spec_l01Twoc Go.Proofs.Tryz.f58.results.toList spec_l01Twors spec_l01Twosp spec_l01Twobs (a0, (a1, ())) () = spec_l01Two_t n a0 a1 := by kernel_rfl
  rw [h]
  rfl

theorem spec_l01Two_ok (n : Nat) : FunOk P (spec_l01TwoF n) :=
  funOk_mk (C := [spec_l01OkF n]) (N := 13) (kp := spec_l01Twokp) (c := spec_l01Twoc) (n := n) (G := fun x y => spec_l01Two n x.1 x.2.1) follows (AllOk.mem (⟨spec_l01Ok_ok n, trivial⟩ : AllOk P ([spec_l01OkF n]))) (by kernel_rfl : P.funcs[58]? = some Go.Proofs.Tryz.f58) (by kernel_rfl) (by kernel_rfl) (by kernel_rfl)
    (fun x y => spec_l01Two_eq n x.1 x.2.1) (fun _ _ => map_same (fun _ => rfl) _) (fun _ _ _ _ => rfl)

abbrev spec_CompareFracssp : List Sp := [.v true (.pair (.int .i64) (.int .i64)), .v true (.pair (.int .i64) (.int .i64))]
abbrev spec_CompareFracsbs : List (Bs × Bool) := []
abbrev spec_CompareFracsrs : List (Bool × List Rp) := [(false, [.v false (.int .i64)]), (false, [.v false (.int .i64)])]
noncomputable def spec_CompareFracskp : Keep := { loop := fun id => match id with | _ => ([], []), join := fun id => match id with | _ => none }
noncomputable def spec_CompareFracsc : Code := bodyOf Go.Proofs.Tryz.f66
noncomputable def spec_CompareFracsF (n : Nat) : Fun := { id := 66, sp := spec_CompareFracssp, bs := spec_CompareFracsbs, rs := spec_CompareFracsrs, f := fun x y => spec_CompareFracs n x.1 x.2.1 }

theorem spec_CompareFracs_eq (n : Nat) (a0 : (Int) × (Int)) (a1 : (Int) × (Int)) : runBody ([spec_l01TwoF n, spec_l01CmpF n]) ty 16 n spec_CompareFracskp spec_CompareFracsc Go.Proofs.Tryz.f66.results.toList spec_CompareFracsrs spec_CompareFracssp spec_CompareFracsbs (a0, (a1, ())) () = spec_CompareFracs n a0 a1 := by
  have h : runBody ([spec_l01TwoF n, spec_l01CmpF n]) ty 16 n spec_CompareFracskp spec_CompareFracsc Go.Proofs.Tryz.f66.results.toList spec_CompareFracsrs spec_CompareFracssp spec_CompareFracsbs (a0, (a1, ())) () = spec_CompareFracs_t n a0 a1 := by kernel_rfl
  rw [h]
  rfl

theorem spec_CompareFracs_ok (n : Nat) : FunOk P (spec_CompareFracsF n) :=
  funOk_mk (C := [spec_l01TwoF n, spec_l01CmpF n]) (N := 16) (kp := spec_CompareFracskp) (c := spec_CompareFracsc) (n := n) (G := fun x y => spec_CompareFracs n x.1 x.2.1) follows (AllOk.mem (⟨spec_l01Two_ok n, ⟨spec_l01Cmp_ok n, trivial⟩⟩ : AllOk P ([spec_l01TwoF n, spec_l01CmpF n]))) (by kernel_rfl : P.funcs[66]? = some Go.Proofs.Tryz.f66) (by kernel_rfl) (by kernel_rfl) (by kernel_rfl)
    (fun x y => spec_CompareFracs_eq n x.1 x.2.1) (fun _ _ => map_same (fun _ => rfl) _) (fun _ _ _ _ => rfl)

abbrev laws_f6lesssp : List Sp := [.v true (.pair (.int .i64) (.int .i64)), .v true (.pair (.int .i64) (.int .i64))]
abbrev laws_f6lessbs : List (Bs × Bool) := []
abbrev laws_f6lessrs : List (Bool × List Rp) := [(false, [.v false .bool])]
noncomputable def laws_f6lesskp : Keep := { loop := fun id => match id with | _ => ([], []), join := fun id => match id with | _ => none }
noncomputable def laws_f6lessc : Code := bodyOf Go.Proofs.Tryz.f19
noncomputable def laws_f6lessF (n : Nat) : Fun := { id := 19, sp := laws_f6lesssp, bs := laws_f6lessbs, rs := laws_f6lessrs, f := fun x y => laws_f6less n x.1 x.2.1 }

theorem laws_f6less_eq (n : Nat) (a0 : (Int) × (Int)) (a1 : (Int) × (Int)) : runBody ([spec_CompareFracsF n]) ty 19 n laws_f6lesskp laws_f6lessc Go.Proofs.Tryz.f19.results.toList laws_f6lessrs laws_f6lesssp laws_f6lessbs (a0, (a1, ())) () = laws_f6less n a0 a1 := by
  have h : runBody ([spec_CompareFracsF n]) ty 19 n laws_f6lesskp laws_f6lessc Go.Proofs.Tryz.f19.results.toList laws_f6lessrs laws_f6lesssp laws_f6lessbs (a0, (a1, ())) () = laws_f6less_t n a0 a1 := by kernel_rfl
  rw [h]
  rfl

theorem laws_f6less_ok (n : Nat) : FunOk P (laws_f6lessF n) :=
  funOk_mk (C := [spec_CompareFracsF n]) (N := 19) (kp := laws_f6lesskp) (c := laws_f6lessc) (n := n) (G := fun x y => laws_f6less n x.1 x.2.1) follows (AllOk.mem (⟨spec_CompareFracs_ok n, trivial⟩ : AllOk P ([spec_CompareFracsF n]))) (by kernel_rfl : P.funcs[19]? = some Go.Proofs.Tryz.f19) (by kernel_rfl) (by kernel_rfl) (by kernel_rfl)
    (fun x y => laws_f6less_eq n x.1 x.2.1) (fun _ _ => map_same (fun _ => rfl) _) (fun _ _ _ _ => rfl)

abbrev spec_l01Reducedsp : List Sp := [.v false (.int .i64), .v false (.int .i64)]
abbrev spec_l01Reducedbs : List (Bs × Bool) := []
abbrev spec_l01Reducedrs : List (Bool × List Rp) := [(true, [.v false (.pair (.int .i64) (.int .i64))]), (false, [.v false (.int .i64)])]
noncomputable def spec_l01Reducedkp : Keep := { loop := fun id => match id with | _ => ([], []), join := fun id => match id with | _ => none }
noncomputable def spec_l01Reducedc : Code := bodyOf Go.Proofs.Tryz.f47
noncomputable def spec_l01ReducedF (n : Nat) : Fun := { id := 47, sp := spec_l01Reducedsp, bs := spec_l01Reducedbs, rs := spec_l01Reducedrs, f := fun x y => spec_l01Reduced n x.1 x.2.1 }

theorem spec_l01Reduced_eq (n : Nat) (a0 : Int) (a1 : Int) : runBody ([spec_l01AbsF n, spec_l01GcdF n, spec_l01OkF n]) ty 33 n spec_l01Reducedkp spec_l01Reducedc Go.Proofs.Tryz.f47.results.toList spec_l01Reducedrs spec_l01Reducedsp spec_l01Reducedbs (a0, (a1, ())) () = spec_l01Reduced n a0 a1 := by
  have h : runBody ([spec_l01AbsF n, spec_l01GcdF n, spec_l01OkF n]) ty 33 n spec_l01Reducedkp spec_l01Reducedc Go.Proofs.Tryz.f47.results.toList spec_l01Reducedrs spec_l01Reducedsp spec_l01Reducedbs (a0, (a1, ())) () = spec_l01Reduced_t n a0 a1 := by kernel_rfl
  rw [h]
  rfl

theorem spec_l01Reduced_ok (n : Nat) : FunOk P (spec_l01ReducedF n) :=
  funOk_mk (C := [spec_l01AbsF n, spec_l01GcdF n, spec_l01OkF n]) (N := 33) (kp := spec_l01Reducedkp) (c := spec_l01Reducedc) (n := n) (G := fun x y => spec_l01Reduced n x.1 x.2.1) follows (AllOk.mem (⟨spec_l01Abs_ok n, ⟨spec_l01Gcd_ok n, ⟨spec_l01Ok_ok n, trivial⟩⟩⟩ : AllOk P ([spec_l01AbsF n, spec_l01GcdF n, spec_l01OkF n]))) (by kernel_rfl : P.funcs[47]? = some Go.Proofs.Tryz.f47) (by kernel_rfl) (by kernel_rfl) (by kernel_rfl)
    (fun x y => spec_l01Reduced_eq n x.1 x.2.1) (fun _ _ => map_same (fun _ => rfl) _) (fun _ _ _ _ => rfl)

abbrev spec_l01Addsp : List Sp := [.v true (.pair (.int .i64) (.int .i64)), .v true (.pair (.int .i64) (.int .i64))]
abbrev spec_l01Addbs : List (Bs × Bool) := []
abbrev spec_l01Addrs : List (Bool × List Rp) := [(true, [.v false (.pair (.int .i64) (.int .i64))]), (false, [.v false (.int .i64)])]
noncomputable def spec_l01Addkp : Keep := { loop := fun id => match id with | _ => ([], []), join := fun id => match id with | _ => none }
noncomputable def spec_l01Addc : Code := bodyOf Go.Proofs.Tryz.f59
noncomputable def spec_l01AddF (n : Nat) : Fun := { id := 59, sp := spec_l01Addsp, bs := spec_l01Addbs, rs := spec_l01Addrs, f := fun x y => spec_l01Add n x.1 x.2.1 }

theorem spec_l01Add_eq (n : Nat) (a0 : (Int) × (Int)) (a1 : (Int) × (Int)) : runBody ([spec_l01ReducedF n]) ty 25 n spec_l01Addkp spec_l01Addc Go.Proofs.Tryz.f59.results.toList spec_l01Addrs spec_l01Addsp spec_l01Addbs (a0, (a1, ())) () = spec_l01Add n a0 a1 := by
  have h : runBody ([spec_l01ReducedF n]) ty 25 n spec_l01Addkp spec_l01Addc Go.Proofs.Tryz.f59.results.toList spec_l01Addrs spec_l01Addsp spec_l01Addbs (a0, (a1, ())) () = spec_l01Add_t n a0 a1 := by kernel_rfl
  rw [h]
  rfl

theorem spec_l01Add_ok (n : Nat) : FunOk P (spec_l01AddF n) :=
  funOk_mk (C := [spec_l01ReducedF n]) (N := 25) (kp := spec_l01Addkp) (c := spec_l01Addc) (n := n) (G := fun x y => spec_l01Add n x.1 x.2.1) follows (AllOk.mem (⟨spec_l01Reduced_ok n, trivial⟩ : AllOk P ([spec_l01ReducedF n]))) (by kernel_rfl : P.funcs[59]? = some Go.Proofs.Tryz.f59) (by kernel_rfl) (by kernel_rfl) (by kernel_rfl)
    (fun x y => spec_l01Add_eq n x.1 x.2.1) (fun _ _ => map_same (fun _ => rfl) _) (fun _ _ _ _ => rfl)

abbrev spec_AddFracssp : List Sp := [.v true (.pair (.int .i64) (.int .i64)), .v true (.pair (.int .i64) (.int .i64))]
abbrev spec_AddFracsbs : List (Bs × Bool) := []
abbrev spec_AddFracsrs : List (Bool × List Rp) := [(true, [.v false (.pair (.int .i64) (.int .i64))]), (false, [.v false (.int .i64)])]
noncomputable def spec_AddFracskp : Keep := { loop := fun id => match id with | _ => ([], []), join := fun id => match id with | _ => none }
noncomputable def spec_AddFracsc : Code := bodyOf Go.Proofs.Tryz.f12
noncomputable def spec_AddFracsF (n : Nat) : Fun := { id := 12, sp := spec_AddFracssp, bs := spec_AddFracsbs, rs := spec_AddFracsrs, f := fun x y => spec_AddFracs n x.1 x.2.1 }

theorem spec_AddFracs_eq (n : Nat) (a0 : (Int) × (Int)) (a1 : (Int) × (Int)) : runBody ([spec_l01TwoF n, spec_l01AddF n]) ty 19 n spec_AddFracskp spec_AddFracsc Go.Proofs.Tryz.f12.results.toList spec_AddFracsrs spec_AddFracssp spec_AddFracsbs (a0, (a1, ())) () = spec_AddFracs n a0 a1 := by
  have h : runBody ([spec_l01TwoF n, spec_l01AddF n]) ty 19 n spec_AddFracskp spec_AddFracsc Go.Proofs.Tryz.f12.results.toList spec_AddFracsrs spec_AddFracssp spec_AddFracsbs (a0, (a1, ())) () = spec_AddFracs_t n a0 a1 := by kernel_rfl
  rw [h]
  rfl

theorem spec_AddFracs_ok (n : Nat) : FunOk P (spec_AddFracsF n) :=
  funOk_mk (C := [spec_l01TwoF n, spec_l01AddF n]) (N := 19) (kp := spec_AddFracskp) (c := spec_AddFracsc) (n := n) (G := fun x y => spec_AddFracs n x.1 x.2.1) follows (AllOk.mem (⟨spec_l01Two_ok n, ⟨spec_l01Add_ok n, trivial⟩⟩ : AllOk P ([spec_l01TwoF n, spec_l01AddF n]))) (by kernel_rfl : P.funcs[12]? = some Go.Proofs.Tryz.f12) (by kernel_rfl) (by kernel_rfl) (by kernel_rfl)
    (fun x y => spec_AddFracs_eq n x.1 x.2.1) (fun _ _ => map_same (fun _ => rfl) _) (fun _ _ _ _ => rfl)

abbrev spec_l01Divsp : List Sp := [.v true (.pair (.int .i64) (.int .i64)), .v true (.pair (.int .i64) (.int .i64))]
abbrev spec_l01Divbs : List (Bs × Bool) := []
abbrev spec_l01Divrs : List (Bool × List Rp) := [(true, [.v false (.pair (.int .i64) (.int .i64))]), (false, [.v false (.int .i64)])]
noncomputable def spec_l01Divkp : Keep := { loop := fun id => match id with | _ => ([], []), join := fun id => match id with | _ => none }
noncomputable def spec_l01Divc : Code := bodyOf Go.Proofs.Tryz.f69
noncomputable def spec_l01DivF (n : Nat) : Fun := { id := 69, sp := spec_l01Divsp, bs := spec_l01Divbs, rs := spec_l01Divrs, f := fun x y => spec_l01Div n x.1 x.2.1 }

theorem spec_l01Div_eq (n : Nat) (a0 : (Int) × (Int)) (a1 : (Int) × (Int)) : runBody ([spec_l01ReducedF n]) ty 19 n spec_l01Divkp spec_l01Divc Go.Proofs.Tryz.f69.results.toList spec_l01Divrs spec_l01Divsp spec_l01Divbs (a0, (a1, ())) () = spec_l01Div n a0 a1 := by
  have h : runBody ([spec_l01ReducedF n]) ty 19 n spec_l01Divkp spec_l01Divc Go.Proofs.Tryz.f69.results.toList spec_l01Divrs spec_l01Divsp spec_l01Divbs (a0, (a1, ())) () = spec_l01Div_t n a0 a1 := by kernel_rfl
  rw [h]
  rfl

theorem spec_l01Div_ok (n : Nat) : FunOk P (spec_l01DivF n) :=
  funOk_mk (C := [spec_l01ReducedF n]) (N := 19) (kp := spec_l01Divkp) (c := spec_l01Divc) (n := n) (G := fun x y => spec_l01Div n x.1 x.2.1) follows (AllOk.mem (⟨spec_l01Reduced_ok n, trivial⟩ : AllOk P ([spec_l01ReducedF n]))) (by kernel_rfl : P.funcs[69]? = some Go.Proofs.Tryz.f69) (by kernel_rfl) (by kernel_rfl) (by kernel_rfl)
    (fun x y => spec_l01Div_eq n x.1 x.2.1) (fun _ _ => map_same (fun _ => rfl) _) (fun _ _ _ _ => rfl)

abbrev spec_DivFracssp : List Sp := [.v true (.pair (.int .i64) (.int .i64)), .v true (.pair (.int .i64) (.int .i64))]
abbrev spec_DivFracsbs : List (Bs × Bool) := []
abbrev spec_DivFracsrs : List (Bool × List Rp) := [(true, [.v false (.pair (.int .i64) (.int .i64))]), (false, [.v false (.int .i64)])]
noncomputable def spec_DivFracskp : Keep := { loop := fun id => match id with | _ => ([], []), join := fun id => match id with | _ => none }
noncomputable def spec_DivFracsc : Code := bodyOf Go.Proofs.Tryz.f23
noncomputable def spec_DivFracsF (n : Nat) : Fun := { id := 23, sp := spec_DivFracssp, bs := spec_DivFracsbs, rs := spec_DivFracsrs, f := fun x y => spec_DivFracs n x.1 x.2.1 }

theorem spec_DivFracs_eq (n : Nat) (a0 : (Int) × (Int)) (a1 : (Int) × (Int)) : runBody ([spec_l01TwoF n, spec_l01DivF n]) ty 23 n spec_DivFracskp spec_DivFracsc Go.Proofs.Tryz.f23.results.toList spec_DivFracsrs spec_DivFracssp spec_DivFracsbs (a0, (a1, ())) () = spec_DivFracs n a0 a1 := by
  have h : runBody ([spec_l01TwoF n, spec_l01DivF n]) ty 23 n spec_DivFracskp spec_DivFracsc Go.Proofs.Tryz.f23.results.toList spec_DivFracsrs spec_DivFracssp spec_DivFracsbs (a0, (a1, ())) () = spec_DivFracs_t n a0 a1 := by kernel_rfl
  rw [h]
  rfl

theorem spec_DivFracs_ok (n : Nat) : FunOk P (spec_DivFracsF n) :=
  funOk_mk (C := [spec_l01TwoF n, spec_l01DivF n]) (N := 23) (kp := spec_DivFracskp) (c := spec_DivFracsc) (n := n) (G := fun x y => spec_DivFracs n x.1 x.2.1) follows (AllOk.mem (⟨spec_l01Two_ok n, ⟨spec_l01Div_ok n, trivial⟩⟩ : AllOk P ([spec_l01TwoF n, spec_l01DivF n]))) (by kernel_rfl : P.funcs[23]? = some Go.Proofs.Tryz.f23) (by kernel_rfl) (by kernel_rfl) (by kernel_rfl)
    (fun x y => spec_DivFracs_eq n x.1 x.2.1) (fun _ _ => map_same (fun _ => rfl) _) (fun _ _ _ _ => rfl)

abbrev spec_l01Listsp : List Sp := [.v false (.list (.pair (.int .i64) (.int .i64))), .v false (.int .i64)]
abbrev spec_l01Listbs : List (Bs × Bool) := []
abbrev spec_l01Listrs : List (Bool × List Rp) := [(false, [.v false (.int .i64)])]
noncomputable def spec_l01Listkp : Keep := { loop := fun id => match id with | 2 => ([5, 0, 1], []) | _ => ([], []), join := fun id => match id with | _ => none }
noncomputable def spec_l01Listc : Code := bodyOf Go.Proofs.Tryz.f75
noncomputable def spec_l01ListF (n : Nat) : Fun := { id := 75, sp := spec_l01Listsp, bs := spec_l01Listbs, rs := spec_l01Listrs, f := fun x y => spec_l01List n x.1 x.2.1 }

theorem spec_l01List_l2_eq (n : Nat) : ∀ (k : Nat) (v5 : Int) (v0 : List ((Int) × (Int))) (v1 : Int), iter (interp ([spec_l01OkF n]) ty 27 0 n spec_l01Listkp (codeAt spec_l01Listc [1, 0, 1, 0, 0])) (canon 0 (spec_l01Listkp.loop 2)) (kAt ([spec_l01OkF n]) ty 27 0 n spec_l01Listkp spec_l01Listc [1, 0, 1, 0] [] (ending ty 0 Go.Proofs.Tryz.f75.results.toList spec_l01Listrs spec_l01Listbs)) k { env := [(5, .one (.sc (.int .i64 v5))), (0, .one (.list true (.pair (.int .i64) (.int .i64)) v0)), (1, .one (.sc (.int .i64 v1)))], bx := [], nx := 0 } = spec_l01List_l2 n k v5 v0 v1
  | 0, _, _, _ => by kernel_rfl
  | k + 1, v5, v0, v1 => by
    have h : iter (interp ([spec_l01OkF n]) ty 27 0 n spec_l01Listkp (codeAt spec_l01Listc [1, 0, 1, 0, 0])) (canon 0 (spec_l01Listkp.loop 2)) (kAt ([spec_l01OkF n]) ty 27 0 n spec_l01Listkp spec_l01Listc [1, 0, 1, 0] [] (ending ty 0 Go.Proofs.Tryz.f75.results.toList spec_l01Listrs spec_l01Listbs)) (k + 1) { env := [(5, .one (.sc (.int .i64 v5))), (0, .one (.list true (.pair (.int .i64) (.int .i64)) v0)), (1, .one (.sc (.int .i64 v1)))], bx := [], nx := 0 } = spec_l01List_t2 n (fun v5 v0 v1 => iter (interp ([spec_l01OkF n]) ty 27 0 n spec_l01Listkp (codeAt spec_l01Listc [1, 0, 1, 0, 0])) (canon 0 (spec_l01Listkp.loop 2)) (kAt ([spec_l01OkF n]) ty 27 0 n spec_l01Listkp spec_l01Listc [1, 0, 1, 0] [] (ending ty 0 Go.Proofs.Tryz.f75.results.toList spec_l01Listrs spec_l01Listbs)) k { env := [(5, .one (.sc (.int .i64 v5))), (0, .one (.list true (.pair (.int .i64) (.int .i64)) v0)), (1, .one (.sc (.int .i64 v1)))], bx := [], nx := 0 }) v5 v0 v1 := by kernel_rfl
    rw [h]
    have e := congrArg (fun g => spec_l01List_t2 n g v5 v0 v1) (funext fun v5 => funext fun v0 => funext fun v1 => spec_l01List_l2_eq n k v5 v0 v1)
    exact e

theorem spec_l01List_eq (n : Nat) (a0 : List ((Int) × (Int))) (a1 : Int) : runBody ([spec_l01OkF n]) ty 27 n spec_l01Listkp spec_l01Listc Go.Proofs.Tryz.f75.results.toList spec_l01Listrs spec_l01Listsp spec_l01Listbs (a0, (a1, ())) () = spec_l01List n a0 a1 := by
  have h : runBody ([spec_l01OkF n]) ty 27 n spec_l01Listkp spec_l01Listc Go.Proofs.Tryz.f75.results.toList spec_l01Listrs spec_l01Listsp spec_l01Listbs (a0, (a1, ())) () = spec_l01List_t n (fun k v5 v0 v1 => iter (interp ([spec_l01OkF n]) ty 27 0 n spec_l01Listkp (codeAt spec_l01Listc [1, 0, 1, 0, 0])) (canon 0 (spec_l01Listkp.loop 2)) (kAt ([spec_l01OkF n]) ty 27 0 n spec_l01Listkp spec_l01Listc [1, 0, 1, 0] [] (ending ty 0 Go.Proofs.Tryz.f75.results.toList spec_l01Listrs spec_l01Listbs)) k { env := [(5, .one (.sc (.int .i64 v5))), (0, .one (.list true (.pair (.int .i64) (.int .i64)) v0)), (1, .one (.sc (.int .i64 v1)))], bx := [], nx := 0 }) a0 a1 := by kernel_rfl
  rw [h]
  have e := congrArg (fun h2 => spec_l01List_t n h2 a0 a1) (funext fun k => funext fun v5 => funext fun v0 => funext fun v1 => spec_l01List_l2_eq n k v5 v0 v1)
  exact e

theorem spec_l01List_ok (n : Nat) : FunOk P (spec_l01ListF n) :=
  funOk_mk (C := [spec_l01OkF n]) (N := 27) (kp := spec_l01Listkp) (c := spec_l01Listc) (n := n) (G := fun x y => spec_l01List n x.1 x.2.1) follows (AllOk.mem (⟨spec_l01Ok_ok n, trivial⟩ : AllOk P ([spec_l01OkF n]))) (by kernel_rfl : P.funcs[75]? = some Go.Proofs.Tryz.f75) (by kernel_rfl) (by kernel_rfl) (by kernel_rfl)
    (fun x y => spec_l01List_eq n x.1 x.2.1) (fun _ _ => map_same (fun _ => rfl) _) (fun _ _ _ _ => rfl)

abbrev spec_l01Wholesp : List Sp := [.v false (.int .i64)]
abbrev spec_l01Wholebs : List (Bs × Bool) := []
abbrev spec_l01Wholers : List (Bool × List Rp) := [(true, [.v false (.pair (.int .i64) (.int .i64))])]
noncomputable def spec_l01Wholekp : Keep := { loop := fun id => match id with | _ => ([], []), join := fun id => match id with | _ => none }
noncomputable def spec_l01Wholec : Code := bodyOf Go.Proofs.Tryz.f115
noncomputable def spec_l01WholeF (n : Nat) : Fun := { id := 115, sp := spec_l01Wholesp, bs := spec_l01Wholebs, rs := spec_l01Wholers, f := fun x y => spec_l01Whole n x.1 }

theorem spec_l01Whole_eq (n : Nat) (a0 : Int) : runBody ([]) ty 5 n spec_l01Wholekp spec_l01Wholec Go.Proofs.Tryz.f115.results.toList spec_l01Wholers spec_l01Wholesp spec_l01Wholebs (a0, ()) () = spec_l01Whole n a0 := by
  have h : runBody ([]) ty 5 n spec_l01Wholekp spec_l01Wholec Go.Proofs.Tryz.f115.results.toList spec_l01Wholers spec_l01Wholesp spec_l01Wholebs (a0, ()) () = spec_l01Whole_t n a0 := by kernel_rfl
  rw [h]
  rfl

theorem spec_l01Whole_ok (n : Nat) : FunOk P (spec_l01WholeF n) :=
  funOk_mk (C := []) (N := 5) (kp := spec_l01Wholekp) (c := spec_l01Wholec) (n := n) (G := fun x y => spec_l01Whole n x.1) follows (AllOk.mem (trivial : AllOk P ([]))) (by kernel_rfl : P.funcs[115]? = some Go.Proofs.Tryz.f115) (by kernel_rfl) (by kernel_rfl) (by kernel_rfl)
    (fun x y => spec_l01Whole_eq n x.1) (fun _ _ => map_same (fun _ => rfl) _) (fun _ _ _ _ => rfl)

abbrev spec_l01Sumsp : List Sp := [.v false (.list (.pair (.int .i64) (.int .i64)))]
abbrev spec_l01Sumbs : List (Bs × Bool) := []
abbrev spec_l01Sumrs : List (Bool × List Rp) := [(true, [.v false (.pair (.int .i64) (.int .i64))]), (false, [.v false (.int .i64)])]
noncomputable def spec_l01Sumkp : Keep := { loop := fun id => match id with | 3 => ([2, 5, 4, 0], []) | _ => ([], []), join := fun id => match id with | _ => none }
noncomputable def spec_l01Sumc : Code := bodyOf Go.Proofs.Tryz.f95
noncomputable def spec_l01SumF (n : Nat) : Fun := { id := 95, sp := spec_l01Sumsp, bs := spec_l01Sumbs, rs := spec_l01Sumrs, f := fun x y => spec_l01Sum n x.1 }

theorem spec_l01Sum_l3_eq (n : Nat) : ∀ (k : Nat) (v5 : Int) (v0 : List ((Int) × (Int))) (b0_0 : Int) (b0_1 : Int) (b1_0 : Int) (b1_1 : Int), iter (interp ([spec_l01WholeF n, spec_l01AddF n]) ty 30 0 n spec_l01Sumkp (codeAt spec_l01Sumc [1, 1, 0, 1, 0, 0])) (canon 0 (spec_l01Sumkp.loop 3)) (kAt ([spec_l01WholeF n, spec_l01AddF n]) ty 30 0 n spec_l01Sumkp spec_l01Sumc [1, 1, 0, 1, 0] [] (ending ty 0 Go.Proofs.Tryz.f95.results.toList spec_l01Sumrs spec_l01Sumbs)) k { env := [(2, .one (.ref 0 0 0 0 0 0)), (5, .one (.sc (.int .i64 v5))), (4, .one (.ref 1 0 0 0 0 0)), (0, .one (.list true (.pair (.int .i64) (.int .i64)) v0))], bx := [(0, .var 25 [.sc (.int .i64 b0_0), .sc (.int .i64 b0_1)]), (1, .var 25 [.sc (.int .i64 b1_0), .sc (.int .i64 b1_1)])], nx := 2 } = spec_l01Sum_l3 n k v5 v0 b0_0 b0_1 b1_0 b1_1
  | 0, _, _, _, _, _, _ => by kernel_rfl
  | k + 1, v5, v0, b0_0, b0_1, b1_0, b1_1 => by
    have h : iter (interp ([spec_l01WholeF n, spec_l01AddF n]) ty 30 0 n spec_l01Sumkp (codeAt spec_l01Sumc [1, 1, 0, 1, 0, 0])) (canon 0 (spec_l01Sumkp.loop 3)) (kAt ([spec_l01WholeF n, spec_l01AddF n]) ty 30 0 n spec_l01Sumkp spec_l01Sumc [1, 1, 0, 1, 0] [] (ending ty 0 Go.Proofs.Tryz.f95.results.toList spec_l01Sumrs spec_l01Sumbs)) (k + 1) { env := [(2, .one (.ref 0 0 0 0 0 0)), (5, .one (.sc (.int .i64 v5))), (4, .one (.ref 1 0 0 0 0 0)), (0, .one (.list true (.pair (.int .i64) (.int .i64)) v0))], bx := [(0, .var 25 [.sc (.int .i64 b0_0), .sc (.int .i64 b0_1)]), (1, .var 25 [.sc (.int .i64 b1_0), .sc (.int .i64 b1_1)])], nx := 2 } = spec_l01Sum_t3 n (fun v5 v0 b0_0 b0_1 b1_0 b1_1 => iter (interp ([spec_l01WholeF n, spec_l01AddF n]) ty 30 0 n spec_l01Sumkp (codeAt spec_l01Sumc [1, 1, 0, 1, 0, 0])) (canon 0 (spec_l01Sumkp.loop 3)) (kAt ([spec_l01WholeF n, spec_l01AddF n]) ty 30 0 n spec_l01Sumkp spec_l01Sumc [1, 1, 0, 1, 0] [] (ending ty 0 Go.Proofs.Tryz.f95.results.toList spec_l01Sumrs spec_l01Sumbs)) k { env := [(2, .one (.ref 0 0 0 0 0 0)), (5, .one (.sc (.int .i64 v5))), (4, .one (.ref 1 0 0 0 0 0)), (0, .one (.list true (.pair (.int .i64) (.int .i64)) v0))], bx := [(0, .var 25 [.sc (.int .i64 b0_0), .sc (.int .i64 b0_1)]), (1, .var 25 [.sc (.int .i64 b1_0), .sc (.int .i64 b1_1)])], nx := 2 }) v5 v0 b0_0 b0_1 b1_0 b1_1 := by kernel_rfl
    rw [h]
    have e := congrArg (fun g => spec_l01Sum_t3 n g v5 v0 b0_0 b0_1 b1_0 b1_1) (funext fun v5 => funext fun v0 => funext fun b0_0 => funext fun b0_1 => funext fun b1_0 => funext fun b1_1 => spec_l01Sum_l3_eq n k v5 v0 b0_0 b0_1 b1_0 b1_1)
    exact e

theorem spec_l01Sum_eq (n : Nat) (a0 : List ((Int) × (Int))) : runBody ([spec_l01WholeF n, spec_l01AddF n]) ty 30 n spec_l01Sumkp spec_l01Sumc Go.Proofs.Tryz.f95.results.toList spec_l01Sumrs spec_l01Sumsp spec_l01Sumbs (a0, ()) () = spec_l01Sum n a0 := by
  have h : runBody ([spec_l01WholeF n, spec_l01AddF n]) ty 30 n spec_l01Sumkp spec_l01Sumc Go.Proofs.Tryz.f95.results.toList spec_l01Sumrs spec_l01Sumsp spec_l01Sumbs (a0, ()) () = spec_l01Sum_t n (fun k v5 v0 b0_0 b0_1 b1_0 b1_1 => iter (interp ([spec_l01WholeF n, spec_l01AddF n]) ty 30 0 n spec_l01Sumkp (codeAt spec_l01Sumc [1, 1, 0, 1, 0, 0])) (canon 0 (spec_l01Sumkp.loop 3)) (kAt ([spec_l01WholeF n, spec_l01AddF n]) ty 30 0 n spec_l01Sumkp spec_l01Sumc [1, 1, 0, 1, 0] [] (ending ty 0 Go.Proofs.Tryz.f95.results.toList spec_l01Sumrs spec_l01Sumbs)) k { env := [(2, .one (.ref 0 0 0 0 0 0)), (5, .one (.sc (.int .i64 v5))), (4, .one (.ref 1 0 0 0 0 0)), (0, .one (.list true (.pair (.int .i64) (.int .i64)) v0))], bx := [(0, .var 25 [.sc (.int .i64 b0_0), .sc (.int .i64 b0_1)]), (1, .var 25 [.sc (.int .i64 b1_0), .sc (.int .i64 b1_1)])], nx := 2 }) a0 := by kernel_rfl
  rw [h]
  have e := congrArg (fun h3 => spec_l01Sum_t n h3 a0) (funext fun k => funext fun v5 => funext fun v0 => funext fun b0_0 => funext fun b0_1 => funext fun b1_0 => funext fun b1_1 => spec_l01Sum_l3_eq n k v5 v0 b0_0 b0_1 b1_0 b1_1)
  exact e

theorem spec_l01Sum_ok (n : Nat) : FunOk P (spec_l01SumF n) :=
  funOk_mk (C := [spec_l01WholeF n, spec_l01AddF n]) (N := 30) (kp := spec_l01Sumkp) (c := spec_l01Sumc) (n := n) (G := fun x y => spec_l01Sum n x.1) follows (AllOk.mem (⟨spec_l01Whole_ok n, ⟨spec_l01Add_ok n, trivial⟩⟩ : AllOk P ([spec_l01WholeF n, spec_l01AddF n]))) (by kernel_rfl : P.funcs[95]? = some Go.Proofs.Tryz.f95) (by kernel_rfl) (by kernel_rfl) (by kernel_rfl)
    (fun x y => spec_l01Sum_eq n x.1) (fun _ _ => map_same (fun _ => rfl) _) (fun _ _ _ _ => rfl)

abbrev spec_l01Meansp : List Sp := [.v false (.list (.pair (.int .i64) (.int .i64)))]
abbrev spec_l01Meanbs : List (Bs × Bool) := []
abbrev spec_l01Meanrs : List (Bool × List Rp) := [(true, [.v false (.pair (.int .i64) (.int .i64))]), (false, [.v false (.int .i64)])]
noncomputable def spec_l01Meankp : Keep := { loop := fun id => match id with | _ => ([], []), join := fun id => match id with | _ => none }
noncomputable def spec_l01Meanc : Code := bodyOf Go.Proofs.Tryz.f114
noncomputable def spec_l01MeanF (n : Nat) : Fun := { id := 114, sp := spec_l01Meansp, bs := spec_l01Meanbs, rs := spec_l01Meanrs, f := fun x y => spec_l01Mean n x.1 }

theorem spec_l01Mean_eq (n : Nat) (a0 : List ((Int) × (Int))) : runBody ([spec_l01SumF n, spec_l01WholeF n, spec_l01DivF n]) ty 22 n spec_l01Meankp spec_l01Meanc Go.Proofs.Tryz.f114.results.toList spec_l01Meanrs spec_l01Meansp spec_l01Meanbs (a0, ()) () = spec_l01Mean n a0 := by
  have h : runBody ([spec_l01SumF n, spec_l01WholeF n, spec_l01DivF n]) ty 22 n spec_l01Meankp spec_l01Meanc Go.Proofs.Tryz.f114.results.toList spec_l01Meanrs spec_l01Meansp spec_l01Meanbs (a0, ()) () = spec_l01Mean_t n a0 := by kernel_rfl
  rw [h]
  rfl

theorem spec_l01Mean_ok (n : Nat) : FunOk P (spec_l01MeanF n) :=
  funOk_mk (C := [spec_l01SumF n, spec_l01WholeF n, spec_l01DivF n]) (N := 22) (kp := spec_l01Meankp) (c := spec_l01Meanc) (n := n) (G := fun x y => spec_l01Mean n x.1) follows (AllOk.mem (⟨spec_l01Sum_ok n, ⟨spec_l01Whole_ok n, ⟨spec_l01Div_ok n, trivial⟩⟩⟩ : AllOk P ([spec_l01SumF n, spec_l01WholeF n, spec_l01DivF n]))) (by kernel_rfl : P.funcs[114]? = some Go.Proofs.Tryz.f114) (by kernel_rfl) (by kernel_rfl) (by kernel_rfl)
    (fun x y => spec_l01Mean_eq n x.1) (fun _ _ => map_same (fun _ => rfl) _) (fun _ _ _ _ => rfl)

abbrev spec_l01Sortedsp : List Sp := [.v false (.list (.pair (.int .i64) (.int .i64)))]
abbrev spec_l01Sortedbs : List (Bs × Bool) := []
abbrev spec_l01Sortedrs : List (Bool × List Rp) := [(false, [.new  (.pair (.int .i64) (.int .i64))])]
noncomputable def spec_l01Sortedkp : Keep := { loop := fun id => match id with | 3 => ([4, 3, 0], []) | 6 => ([5, 0, 4, 3], []) | _ => ([], []), join := fun id => match id with | _ => none }
noncomputable def spec_l01Sortedc : Code := bodyOf Go.Proofs.Tryz.f113
noncomputable def spec_l01SortedF (n : Nat) : Fun := { id := 113, sp := spec_l01Sortedsp, bs := spec_l01Sortedbs, rs := spec_l01Sortedrs, f := fun x y => spec_l01Sorted n x.1 }

theorem spec_l01Sorted_l6_eq (n : Nat) (G3 : St → Option ((((List ((Int) × (Int))) × (Unit)) × (Unit)) × (Unit))) : ∀ (k : Nat) (v5 : Int) (v0 : List ((Int) × (Int))) (v4 : Int) (b0 : List ((Int) × (Int))), iter (interp ([spec_l01CmpF n]) ty 49 0 n spec_l01Sortedkp (codeAt spec_l01Sortedc [1, 1, 0, 1, 0, 0, 1, 0, 0, 1, 0, 0, 0])) (canon 0 (spec_l01Sortedkp.loop 6)) (kAt ([spec_l01CmpF n]) ty 49 0 n spec_l01Sortedkp spec_l01Sortedc [1, 1, 0, 1, 0, 0, 1, 0, 0, 1, 0, 0] [G3] (ending ty 0 Go.Proofs.Tryz.f113.results.toList spec_l01Sortedrs spec_l01Sortedbs)) k { env := [(5, .one (.sc (.int .i64 v5))), (0, .one (.list true (.pair (.int .i64) (.int .i64)) v0)), (4, .one (.sc (.int .i64 v4))), (3, .one (.slice 0 0 none))], bx := [(0, .row 0 (.pair (.int .i64) (.int .i64)) b0)], nx := 1 } = spec_l01Sorted_l6 n (fun v4 v0 b0 => G3 { env := [(4, .one (.sc (.int .i64 v4))), (3, .one (.slice 0 0 none)), (0, .one (.list true (.pair (.int .i64) (.int .i64)) v0))], bx := [(0, .row 0 (.pair (.int .i64) (.int .i64)) b0)], nx := 1 }) k v5 v0 v4 b0
  | 0, _, _, _, _ => by kernel_rfl
  | k + 1, v5, v0, v4, b0 => by
    have h : iter (interp ([spec_l01CmpF n]) ty 49 0 n spec_l01Sortedkp (codeAt spec_l01Sortedc [1, 1, 0, 1, 0, 0, 1, 0, 0, 1, 0, 0, 0])) (canon 0 (spec_l01Sortedkp.loop 6)) (kAt ([spec_l01CmpF n]) ty 49 0 n spec_l01Sortedkp spec_l01Sortedc [1, 1, 0, 1, 0, 0, 1, 0, 0, 1, 0, 0] [G3] (ending ty 0 Go.Proofs.Tryz.f113.results.toList spec_l01Sortedrs spec_l01Sortedbs)) (k + 1) { env := [(5, .one (.sc (.int .i64 v5))), (0, .one (.list true (.pair (.int .i64) (.int .i64)) v0)), (4, .one (.sc (.int .i64 v4))), (3, .one (.slice 0 0 none))], bx := [(0, .row 0 (.pair (.int .i64) (.int .i64)) b0)], nx := 1 } = spec_l01Sorted_t6 n (fun v4 v0 b0 => G3 { env := [(4, .one (.sc (.int .i64 v4))), (3, .one (.slice 0 0 none)), (0, .one (.list true (.pair (.int .i64) (.int .i64)) v0))], bx := [(0, .row 0 (.pair (.int .i64) (.int .i64)) b0)], nx := 1 }) (fun v5 v0 v4 b0 => iter (interp ([spec_l01CmpF n]) ty 49 0 n spec_l01Sortedkp (codeAt spec_l01Sortedc [1, 1, 0, 1, 0, 0, 1, 0, 0, 1, 0, 0, 0])) (canon 0 (spec_l01Sortedkp.loop 6)) (kAt ([spec_l01CmpF n]) ty 49 0 n spec_l01Sortedkp spec_l01Sortedc [1, 1, 0, 1, 0, 0, 1, 0, 0, 1, 0, 0] [G3] (ending ty 0 Go.Proofs.Tryz.f113.results.toList spec_l01Sortedrs spec_l01Sortedbs)) k { env := [(5, .one (.sc (.int .i64 v5))), (0, .one (.list true (.pair (.int .i64) (.int .i64)) v0)), (4, .one (.sc (.int .i64 v4))), (3, .one (.slice 0 0 none))], bx := [(0, .row 0 (.pair (.int .i64) (.int .i64)) b0)], nx := 1 }) v5 v0 v4 b0 := by kernel_rfl
    rw [h]
    have e := congrArg (fun g => spec_l01Sorted_t6 n (fun v4 v0 b0 => G3 { env := [(4, .one (.sc (.int .i64 v4))), (3, .one (.slice 0 0 none)), (0, .one (.list true (.pair (.int .i64) (.int .i64)) v0))], bx := [(0, .row 0 (.pair (.int .i64) (.int .i64)) b0)], nx := 1 }) g v5 v0 v4 b0) (funext fun v5 => funext fun v0 => funext fun v4 => funext fun b0 => spec_l01Sorted_l6_eq n G3 k v5 v0 v4 b0)
    exact e

theorem spec_l01Sorted_l3_eq (n : Nat) : ∀ (k : Nat) (v4 : Int) (v0 : List ((Int) × (Int))) (b0 : List ((Int) × (Int))), iter (interp ([spec_l01CmpF n]) ty 49 0 n spec_l01Sortedkp (codeAt spec_l01Sortedc [1, 1, 0, 1, 0, 0])) (canon 0 (spec_l01Sortedkp.loop 3)) (kAt ([spec_l01CmpF n]) ty 49 0 n spec_l01Sortedkp spec_l01Sortedc [1, 1, 0, 1, 0] [] (ending ty 0 Go.Proofs.Tryz.f113.results.toList spec_l01Sortedrs spec_l01Sortedbs)) k { env := [(4, .one (.sc (.int .i64 v4))), (3, .one (.slice 0 0 none)), (0, .one (.list true (.pair (.int .i64) (.int .i64)) v0))], bx := [(0, .row 0 (.pair (.int .i64) (.int .i64)) b0)], nx := 1 } = spec_l01Sorted_l3 n k v4 v0 b0
  | 0, _, _, _ => by kernel_rfl
  | k + 1, v4, v0, b0 => by
    have h : iter (interp ([spec_l01CmpF n]) ty 49 0 n spec_l01Sortedkp (codeAt spec_l01Sortedc [1, 1, 0, 1, 0, 0])) (canon 0 (spec_l01Sortedkp.loop 3)) (kAt ([spec_l01CmpF n]) ty 49 0 n spec_l01Sortedkp spec_l01Sortedc [1, 1, 0, 1, 0] [] (ending ty 0 Go.Proofs.Tryz.f113.results.toList spec_l01Sortedrs spec_l01Sortedbs)) (k + 1) { env := [(4, .one (.sc (.int .i64 v4))), (3, .one (.slice 0 0 none)), (0, .one (.list true (.pair (.int .i64) (.int .i64)) v0))], bx := [(0, .row 0 (.pair (.int .i64) (.int .i64)) b0)], nx := 1 } = spec_l01Sorted_t3 n (fun k' v5 v0 v4 b0 => iter (interp ([spec_l01CmpF n]) ty 49 0 n spec_l01Sortedkp (codeAt spec_l01Sortedc [1, 1, 0, 1, 0, 0, 1, 0, 0, 1, 0, 0, 0])) (canon 0 (spec_l01Sortedkp.loop 6)) (kAt ([spec_l01CmpF n]) ty 49 0 n spec_l01Sortedkp spec_l01Sortedc [1, 1, 0, 1, 0, 0, 1, 0, 0, 1, 0, 0] [(fun s => iter (interp ([spec_l01CmpF n]) ty 49 0 n spec_l01Sortedkp (codeAt spec_l01Sortedc [1, 1, 0, 1, 0, 0])) (canon 0 (spec_l01Sortedkp.loop 3)) (kAt ([spec_l01CmpF n]) ty 49 0 n spec_l01Sortedkp spec_l01Sortedc [1, 1, 0, 1, 0] [] (ending ty 0 Go.Proofs.Tryz.f113.results.toList spec_l01Sortedrs spec_l01Sortedbs)) k s)] (ending ty 0 Go.Proofs.Tryz.f113.results.toList spec_l01Sortedrs spec_l01Sortedbs)) k' { env := [(5, .one (.sc (.int .i64 v5))), (0, .one (.list true (.pair (.int .i64) (.int .i64)) v0)), (4, .one (.sc (.int .i64 v4))), (3, .one (.slice 0 0 none))], bx := [(0, .row 0 (.pair (.int .i64) (.int .i64)) b0)], nx := 1 }) (fun v4 v0 b0 => iter (interp ([spec_l01CmpF n]) ty 49 0 n spec_l01Sortedkp (codeAt spec_l01Sortedc [1, 1, 0, 1, 0, 0])) (canon 0 (spec_l01Sortedkp.loop 3)) (kAt ([spec_l01CmpF n]) ty 49 0 n spec_l01Sortedkp spec_l01Sortedc [1, 1, 0, 1, 0] [] (ending ty 0 Go.Proofs.Tryz.f113.results.toList spec_l01Sortedrs spec_l01Sortedbs)) k { env := [(4, .one (.sc (.int .i64 v4))), (3, .one (.slice 0 0 none)), (0, .one (.list true (.pair (.int .i64) (.int .i64)) v0))], bx := [(0, .row 0 (.pair (.int .i64) (.int .i64)) b0)], nx := 1 }) v4 v0 b0 := by kernel_rfl
    rw [h]
    have e := congr (congrArg (fun h6 g => spec_l01Sorted_t3 n h6 g v4 v0 b0) ((funext fun k' => funext fun v5 => funext fun v0 => funext fun v4 => funext fun b0 => spec_l01Sorted_l6_eq n (fun s => iter (interp ([spec_l01CmpF n]) ty 49 0 n spec_l01Sortedkp (codeAt spec_l01Sortedc [1, 1, 0, 1, 0, 0])) (canon 0 (spec_l01Sortedkp.loop 3)) (kAt ([spec_l01CmpF n]) ty 49 0 n spec_l01Sortedkp spec_l01Sortedc [1, 1, 0, 1, 0] [] (ending ty 0 Go.Proofs.Tryz.f113.results.toList spec_l01Sortedrs spec_l01Sortedbs)) k s) k' v5 v0 v4 b0).trans (congrArg (fun z => spec_l01Sorted_l6 n z) (funext fun v4 => funext fun v0 => funext fun b0 => spec_l01Sorted_l3_eq n k v4 v0 b0)))) (funext fun v4 => funext fun v0 => funext fun b0 => spec_l01Sorted_l3_eq n k v4 v0 b0)
    exact e

theorem spec_l01Sorted_eq (n : Nat) (a0 : List ((Int) × (Int))) : runBody ([spec_l01CmpF n]) ty 49 n spec_l01Sortedkp spec_l01Sortedc Go.Proofs.Tryz.f113.results.toList spec_l01Sortedrs spec_l01Sortedsp spec_l01Sortedbs (a0, ()) () = spec_l01Sorted n a0 := by
  have h : runBody ([spec_l01CmpF n]) ty 49 n spec_l01Sortedkp spec_l01Sortedc Go.Proofs.Tryz.f113.results.toList spec_l01Sortedrs spec_l01Sortedsp spec_l01Sortedbs (a0, ()) () = spec_l01Sorted_t n (fun k v4 v0 b0 => iter (interp ([spec_l01CmpF n]) ty 49 0 n spec_l01Sortedkp (codeAt spec_l01Sortedc [1, 1, 0, 1, 0, 0])) (canon 0 (spec_l01Sortedkp.loop 3)) (kAt ([spec_l01CmpF n]) ty 49 0 n spec_l01Sortedkp spec_l01Sortedc [1, 1, 0, 1, 0] [] (ending ty 0 Go.Proofs.Tryz.f113.results.toList spec_l01Sortedrs spec_l01Sortedbs)) k { env := [(4, .one (.sc (.int .i64 v4))), (3, .one (.slice 0 0 none)), (0, .one (.list true (.pair (.int .i64) (.int .i64)) v0))], bx := [(0, .row 0 (.pair (.int .i64) (.int .i64)) b0)], nx := 1 }) a0 := by kernel_rfl
  rw [h]
  have e := congrArg (fun h3 => spec_l01Sorted_t n h3 a0) (funext fun k => funext fun v4 => funext fun v0 => funext fun b0 => spec_l01Sorted_l3_eq n k v4 v0 b0)
  exact e

theorem spec_l01Sorted_ok (n : Nat) : FunOk P (spec_l01SortedF n) :=
  funOk_mk (C := [spec_l01CmpF n]) (N := 49) (kp := spec_l01Sortedkp) (c := spec_l01Sortedc) (n := n) (G := fun x y => spec_l01Sorted n x.1) follows (AllOk.mem (⟨spec_l01Cmp_ok n, trivial⟩ : AllOk P ([spec_l01CmpF n]))) (by kernel_rfl : P.funcs[113]? = some Go.Proofs.Tryz.f113) (by kernel_rfl) (by kernel_rfl) (by kernel_rfl)
    (fun x y => spec_l01Sorted_eq n x.1) (fun _ _ => map_same (fun _ => rfl) _) (fun _ _ _ _ => rfl)

abbrev spec_l01Middlesp : List Sp := [.v false (.list (.pair (.int .i64) (.int .i64)))]
abbrev spec_l01Middlebs : List (Bs × Bool) := []
abbrev spec_l01Middlers : List (Bool × List Rp) := [(true, [.v false (.pair (.int .i64) (.int .i64))]), (false, [.v false (.int .i64)])]
noncomputable def spec_l01Middlekp : Keep := { loop := fun id => match id with | _ => ([], []), join := fun id => match id with | _ => none }
noncomputable def spec_l01Middlec : Code := bodyOf Go.Proofs.Tryz.f76
noncomputable def spec_l01MiddleF (n : Nat) : Fun := { id := 76, sp := spec_l01Middlesp, bs := spec_l01Middlebs, rs := spec_l01Middlers, f := fun x y => spec_l01Middle n x.1 }

theorem spec_l01Middle_eq (n : Nat) (a0 : List ((Int) × (Int))) : runBody ([spec_l01SortedF n, spec_l01MeanF n]) ty 29 n spec_l01Middlekp spec_l01Middlec Go.Proofs.Tryz.f76.results.toList spec_l01Middlers spec_l01Middlesp spec_l01Middlebs (a0, ()) () = spec_l01Middle n a0 := by
  have h : runBody ([spec_l01SortedF n, spec_l01MeanF n]) ty 29 n spec_l01Middlekp spec_l01Middlec Go.Proofs.Tryz.f76.results.toList spec_l01Middlers spec_l01Middlesp spec_l01Middlebs (a0, ()) () = spec_l01Middle_t n a0 := by kernel_rfl
  rw [h]
  rfl

theorem spec_l01Middle_ok (n : Nat) : FunOk P (spec_l01MiddleF n) :=
  funOk_mk (C := [spec_l01SortedF n, spec_l01MeanF n]) (N := 29) (kp := spec_l01Middlekp) (c := spec_l01Middlec) (n := n) (G := fun x y => spec_l01Middle n x.1) follows (AllOk.mem (⟨spec_l01Sorted_ok n, ⟨spec_l01Mean_ok n, trivial⟩⟩ : AllOk P ([spec_l01SortedF n, spec_l01MeanF n]))) (by kernel_rfl : P.funcs[76]? = some Go.Proofs.Tryz.f76) (by kernel_rfl) (by kernel_rfl) (by kernel_rfl)
    (fun x y => spec_l01Middle_eq n x.1) (fun _ _ => map_same (fun _ => rfl) _) (fun _ _ _ _ => rfl)

abbrev spec_MiddleOfsp : List Sp := [.v false (.list (.pair (.int .i64) (.int .i64)))]
abbrev spec_MiddleOfbs : List (Bs × Bool) := []
abbrev spec_MiddleOfrs : List (Bool × List Rp) := [(true, [.v false (.pair (.int .i64) (.int .i64))]), (false, [.v false (.int .i64)])]
noncomputable def spec_MiddleOfkp : Keep := { loop := fun id => match id with | _ => ([], []), join := fun id => match id with | _ => none }
noncomputable def spec_MiddleOfc : Code := bodyOf Go.Proofs.Tryz.f27
noncomputable def spec_MiddleOfF (n : Nat) : Fun := { id := 27, sp := spec_MiddleOfsp, bs := spec_MiddleOfbs, rs := spec_MiddleOfrs, f := fun x y => spec_MiddleOf n x.1 }

theorem spec_MiddleOf_eq (n : Nat) (a0 : List ((Int) × (Int))) : runBody ([spec_l01ListF n, spec_l01MiddleF n]) ty 15 n spec_MiddleOfkp spec_MiddleOfc Go.Proofs.Tryz.f27.results.toList spec_MiddleOfrs spec_MiddleOfsp spec_MiddleOfbs (a0, ()) () = spec_MiddleOf n a0 := by
  have h : runBody ([spec_l01ListF n, spec_l01MiddleF n]) ty 15 n spec_MiddleOfkp spec_MiddleOfc Go.Proofs.Tryz.f27.results.toList spec_MiddleOfrs spec_MiddleOfsp spec_MiddleOfbs (a0, ()) () = spec_MiddleOf_t n a0 := by kernel_rfl
  rw [h]
  rfl

theorem spec_MiddleOf_ok (n : Nat) : FunOk P (spec_MiddleOfF n) :=
  funOk_mk (C := [spec_l01ListF n, spec_l01MiddleF n]) (N := 15) (kp := spec_MiddleOfkp) (c := spec_MiddleOfc) (n := n) (G := fun x y => spec_MiddleOf n x.1) follows (AllOk.mem (⟨spec_l01List_ok n, ⟨spec_l01Middle_ok n, trivial⟩⟩ : AllOk P ([spec_l01ListF n, spec_l01MiddleF n]))) (by kernel_rfl : P.funcs[27]? = some Go.Proofs.Tryz.f27) (by kernel_rfl) (by kernel_rfl) (by kernel_rfl)
    (fun x y => spec_MiddleOf_eq n x.1) (fun _ _ => map_same (fun _ => rfl) _) (fun _ _ _ _ => rfl)

abbrev spec_l01Mulsp : List Sp := [.v true (.pair (.int .i64) (.int .i64)), .v true (.pair (.int .i64) (.int .i64))]
abbrev spec_l01Mulbs : List (Bs × Bool) := []
abbrev spec_l01Mulrs : List (Bool × List Rp) := [(true, [.v false (.pair (.int .i64) (.int .i64))]), (false, [.v false (.int .i64)])]
noncomputable def spec_l01Mulkp : Keep := { loop := fun id => match id with | _ => ([], []), join := fun id => match id with | _ => none }
noncomputable def spec_l01Mulc : Code := bodyOf Go.Proofs.Tryz.f62
noncomputable def spec_l01MulF (n : Nat) : Fun := { id := 62, sp := spec_l01Mulsp, bs := spec_l01Mulbs, rs := spec_l01Mulrs, f := fun x y => spec_l01Mul n x.1 x.2.1 }

theorem spec_l01Mul_eq (n : Nat) (a0 : (Int) × (Int)) (a1 : (Int) × (Int)) : runBody ([spec_l01ReducedF n]) ty 19 n spec_l01Mulkp spec_l01Mulc Go.Proofs.Tryz.f62.results.toList spec_l01Mulrs spec_l01Mulsp spec_l01Mulbs (a0, (a1, ())) () = spec_l01Mul n a0 a1 := by
  have h : runBody ([spec_l01ReducedF n]) ty 19 n spec_l01Mulkp spec_l01Mulc Go.Proofs.Tryz.f62.results.toList spec_l01Mulrs spec_l01Mulsp spec_l01Mulbs (a0, (a1, ())) () = spec_l01Mul_t n a0 a1 := by kernel_rfl
  rw [h]
  rfl

theorem spec_l01Mul_ok (n : Nat) : FunOk P (spec_l01MulF n) :=
  funOk_mk (C := [spec_l01ReducedF n]) (N := 19) (kp := spec_l01Mulkp) (c := spec_l01Mulc) (n := n) (G := fun x y => spec_l01Mul n x.1 x.2.1) follows (AllOk.mem (⟨spec_l01Reduced_ok n, trivial⟩ : AllOk P ([spec_l01ReducedF n]))) (by kernel_rfl : P.funcs[62]? = some Go.Proofs.Tryz.f62) (by kernel_rfl) (by kernel_rfl) (by kernel_rfl)
    (fun x y => spec_l01Mul_eq n x.1 x.2.1) (fun _ _ => map_same (fun _ => rfl) _) (fun _ _ _ _ => rfl)

abbrev spec_MulFracssp : List Sp := [.v true (.pair (.int .i64) (.int .i64)), .v true (.pair (.int .i64) (.int .i64))]
abbrev spec_MulFracsbs : List (Bs × Bool) := []
abbrev spec_MulFracsrs : List (Bool × List Rp) := [(true, [.v false (.pair (.int .i64) (.int .i64))]), (false, [.v false (.int .i64)])]
noncomputable def spec_MulFracskp : Keep := { loop := fun id => match id with | _ => ([], []), join := fun id => match id with | _ => none }
noncomputable def spec_MulFracsc : Code := bodyOf Go.Proofs.Tryz.f15
noncomputable def spec_MulFracsF (n : Nat) : Fun := { id := 15, sp := spec_MulFracssp, bs := spec_MulFracsbs, rs := spec_MulFracsrs, f := fun x y => spec_MulFracs n x.1 x.2.1 }

theorem spec_MulFracs_eq (n : Nat) (a0 : (Int) × (Int)) (a1 : (Int) × (Int)) : runBody ([spec_l01TwoF n, spec_l01MulF n]) ty 19 n spec_MulFracskp spec_MulFracsc Go.Proofs.Tryz.f15.results.toList spec_MulFracsrs spec_MulFracssp spec_MulFracsbs (a0, (a1, ())) () = spec_MulFracs n a0 a1 := by
  have h : runBody ([spec_l01TwoF n, spec_l01MulF n]) ty 19 n spec_MulFracskp spec_MulFracsc Go.Proofs.Tryz.f15.results.toList spec_MulFracsrs spec_MulFracssp spec_MulFracsbs (a0, (a1, ())) () = spec_MulFracs_t n a0 a1 := by kernel_rfl
  rw [h]
  rfl

theorem spec_MulFracs_ok (n : Nat) : FunOk P (spec_MulFracsF n) :=
  funOk_mk (C := [spec_l01TwoF n, spec_l01MulF n]) (N := 19) (kp := spec_MulFracskp) (c := spec_MulFracsc) (n := n) (G := fun x y => spec_MulFracs n x.1 x.2.1) follows (AllOk.mem (⟨spec_l01Two_ok n, ⟨spec_l01Mul_ok n, trivial⟩⟩ : AllOk P ([spec_l01TwoF n, spec_l01MulF n]))) (by kernel_rfl : P.funcs[15]? = some Go.Proofs.Tryz.f15) (by kernel_rfl) (by kernel_rfl) (by kernel_rfl)
    (fun x y => spec_MulFracs_eq n x.1 x.2.1) (fun _ _ => map_same (fun _ => rfl) _) (fun _ _ _ _ => rfl)

abbrev spec_l00Fromsp : List Sp := [.v false (.list (.int .u8))]
abbrev spec_l00Frombs : List (Bs × Bool) := []
abbrev spec_l00Fromrs : List (Bool × List Rp) := [(false, [.nvar 118 (.pair (.list (.int .u8)) (.pair (.int .i64) (.int .u64)))])]
noncomputable def spec_l00Fromkp : Keep := { loop := fun id => match id with | _ => ([], []), join := fun id => match id with | _ => none }
noncomputable def spec_l00Fromc : Code := bodyOf Go.Proofs.Tryz.f46
noncomputable def spec_l00FromF (n : Nat) : Fun := { id := 46, sp := spec_l00Fromsp, bs := spec_l00Frombs, rs := spec_l00Fromrs, f := fun x y => spec_l00From n x.1 }

theorem spec_l00From_eq (n : Nat) (a0 : List (Int)) : runBody ([]) ty 6 n spec_l00Fromkp spec_l00Fromc Go.Proofs.Tryz.f46.results.toList spec_l00Fromrs spec_l00Fromsp spec_l00Frombs (a0, ()) () = spec_l00From n a0 := by
  have h : runBody ([]) ty 6 n spec_l00Fromkp spec_l00Fromc Go.Proofs.Tryz.f46.results.toList spec_l00Fromrs spec_l00Fromsp spec_l00Frombs (a0, ()) () = spec_l00From_t n a0 := by kernel_rfl
  rw [h]
  rfl

theorem spec_l00From_ok (n : Nat) : FunOk P (spec_l00FromF n) :=
  funOk_mk (C := []) (N := 6) (kp := spec_l00Fromkp) (c := spec_l00Fromc) (n := n) (G := fun x y => spec_l00From n x.1) follows (AllOk.mem (trivial : AllOk P ([]))) (by kernel_rfl : P.funcs[46]? = some Go.Proofs.Tryz.f46) (by kernel_rfl) (by kernel_rfl) (by kernel_rfl)
    (fun x y => spec_l00From_eq n x.1) (fun _ _ => map_same (fun _ => rfl) _) (fun _ _ _ _ => rfl)

abbrev spec_l00Src_nextsp : List Sp := [.ref 0]
abbrev spec_l00Src_nextbs : List (Bs × Bool) := [(.var 118 (.pair (.list (.int .u8)) (.pair (.int .i64) (.int .u64))), true)]
abbrev spec_l00Src_nextrs : List (Bool × List Rp) := [(false, [.v false (.int .i64)])]
noncomputable def spec_l00Src_nextkp : Keep := { loop := fun id => match id with | _ => ([], []), join := fun id => match id with | _ => none }
noncomputable def spec_l00Src_nextc : Code := bodyOf Go.Proofs.Tryz.f101
noncomputable def spec_l00Src_nextF (n : Nat) : Fun := { id := 101, sp := spec_l00Src_nextsp, bs := spec_l00Src_nextbs, rs := spec_l00Src_nextrs, f := fun x y => spec_l00Src_next n y.1 }

theorem spec_l00Src_next_eq (n : Nat) (b0 : (List (Int)) × ((Int) × (Int))) : runBody ([]) ty 62 n spec_l00Src_nextkp spec_l00Src_nextc Go.Proofs.Tryz.f101.results.toList spec_l00Src_nextrs spec_l00Src_nextsp spec_l00Src_nextbs ((), ()) (b0, ()) = spec_l00Src_next n b0 := by
  have h : runBody ([]) ty 62 n spec_l00Src_nextkp spec_l00Src_nextc Go.Proofs.Tryz.f101.results.toList spec_l00Src_nextrs spec_l00Src_nextsp spec_l00Src_nextbs ((), ()) (b0, ()) = spec_l00Src_next_t n b0 := by kernel_rfl
  rw [h]
  rfl

theorem spec_l00Src_next_ok (n : Nat) : FunOk P (spec_l00Src_nextF n) :=
  funOk_mk (C := []) (N := 62) (kp := spec_l00Src_nextkp) (c := spec_l00Src_nextc) (n := n) (G := fun x y => spec_l00Src_next n y.1) follows (AllOk.mem (trivial : AllOk P ([]))) (by kernel_rfl : P.funcs[101]? = some Go.Proofs.Tryz.f101) (by kernel_rfl) (by kernel_rfl) (by kernel_rfl)
    (fun x y => spec_l00Src_next_eq n y.1) (fun _ _ => map_same (fun _ => rfl) _) (fun _ _ _ _ => rfl)

abbrev spec_l00Src_picksp : List Sp := [.ref 0, .v false (.int .i64)]
abbrev spec_l00Src_pickbs : List (Bs × Bool) := [(.var 118 (.pair (.list (.int .u8)) (.pair (.int .i64) (.int .u64))), true)]
abbrev spec_l00Src_pickrs : List (Bool × List Rp) := [(false, [.v false (.int .i64)])]
noncomputable def spec_l00Src_pickkp : Keep := { loop := fun id => match id with | _ => ([], []), join := fun id => match id with | _ => none }
noncomputable def spec_l00Src_pickc : Code := bodyOf Go.Proofs.Tryz.f48
noncomputable def spec_l00Src_pickF (n : Nat) : Fun := { id := 48, sp := spec_l00Src_picksp, bs := spec_l00Src_pickbs, rs := spec_l00Src_pickrs, f := fun x y => spec_l00Src_pick n x.2.1 y.1 }

theorem spec_l00Src_pick_eq (n : Nat) (a1 : Int) (b0 : (List (Int)) × ((Int) × (Int))) : runBody ([spec_l00Src_nextF n]) ty 20 n spec_l00Src_pickkp spec_l00Src_pickc Go.Proofs.Tryz.f48.results.toList spec_l00Src_pickrs spec_l00Src_picksp spec_l00Src_pickbs ((), (a1, ())) (b0, ()) = spec_l00Src_pick n a1 b0 := by
  have h : runBody ([spec_l00Src_nextF n]) ty 20 n spec_l00Src_pickkp spec_l00Src_pickc Go.Proofs.Tryz.f48.results.toList spec_l00Src_pickrs spec_l00Src_picksp spec_l00Src_pickbs ((), (a1, ())) (b0, ()) = spec_l00Src_pick_t n a1 b0 := by kernel_rfl
  rw [h]
  rfl

theorem spec_l00Src_pick_ok (n : Nat) : FunOk P (spec_l00Src_pickF n) :=
  funOk_mk (C := [spec_l00Src_nextF n]) (N := 20) (kp := spec_l00Src_pickkp) (c := spec_l00Src_pickc) (n := n) (G := fun x y => spec_l00Src_pick n x.2.1 y.1) follows (AllOk.mem (⟨spec_l00Src_next_ok n, trivial⟩ : AllOk P ([spec_l00Src_nextF n]))) (by kernel_rfl : P.funcs[48]? = some Go.Proofs.Tryz.f48) (by kernel_rfl) (by kernel_rfl) (by kernel_rfl)
    (fun x y => spec_l00Src_pick_eq n x.2.1 y.1) (fun _ _ => map_same (fun _ => rfl) _) (fun _ _ _ _ => rfl)

abbrev spec_P6Fracsp : List Sp := [.v false (.list (.int .u8))]
abbrev spec_P6Fracbs : List (Bs × Bool) := []
abbrev spec_P6Fracrs : List (Bool × List Rp) := [(true, [.v false (.pair (.int .i64) (.int .i64))])]
noncomputable def spec_P6Frackp : Keep := { loop := fun id => match id with | _ => ([], []), join := fun id => match id with | _ => none }
noncomputable def spec_P6Fracc : Code := bodyOf Go.Proofs.Tryz.f6
noncomputable def spec_P6FracF (n : Nat) : Fun := { id := 6, sp := spec_P6Fracsp, bs := spec_P6Fracbs, rs := spec_P6Fracrs, f := fun x y => spec_P6Frac n x.1 }

theorem spec_P6Frac_eq (n : Nat) (a0 : List (Int)) : runBody ([spec_l00FromF n, spec_l00Src_pickF n, spec_l01ReducedF n]) ty 19 n spec_P6Frackp spec_P6Fracc Go.Proofs.Tryz.f6.results.toList spec_P6Fracrs spec_P6Fracsp spec_P6Fracbs (a0, ()) () = spec_P6Frac n a0 := by
  have h : runBody ([spec_l00FromF n, spec_l00Src_pickF n, spec_l01ReducedF n]) ty 19 n spec_P6Frackp spec_P6Fracc Go.Proofs.Tryz.f6.results.toList spec_P6Fracrs spec_P6Fracsp spec_P6Fracbs (a0, ()) () = spec_P6Frac_t n a0 := by kernel_rfl
  rw [h]
  rfl

theorem spec_P6Frac_ok (n : Nat) : FunOk P (spec_P6FracF n) :=
  funOk_mk (C := [spec_l00FromF n, spec_l00Src_pickF n, spec_l01ReducedF n]) (N := 19) (kp := spec_P6Frackp) (c := spec_P6Fracc) (n := n) (G := fun x y => spec_P6Frac n x.1) follows (AllOk.mem (⟨spec_l00From_ok n, ⟨spec_l00Src_pick_ok n, ⟨spec_l01Reduced_ok n, trivial⟩⟩⟩ : AllOk P ([spec_l00FromF n, spec_l00Src_pickF n, spec_l01ReducedF n]))) (by kernel_rfl : P.funcs[6]? = some Go.Proofs.Tryz.f6) (by kernel_rfl) (by kernel_rfl) (by kernel_rfl)
    (fun x y => spec_P6Frac_eq n x.1) (fun _ _ => map_same (fun _ => rfl) _) (fun _ _ _ _ => rfl)

abbrev spec_l00Src_amongsp : List Sp := [.ref 0, .sl 1]
abbrev spec_l00Src_amongbs : List (Bs × Bool) := [(.var 118 (.pair (.list (.int .u8)) (.pair (.int .i64) (.int .u64))), true), (.row  (.int .i64), true)]
abbrev spec_l00Src_amongrs : List (Bool × List Rp) := [(false, [.v false (.int .i64)])]
noncomputable def spec_l00Src_amongkp : Keep := { loop := fun id => match id with | _ => ([], []), join := fun id => match id with | _ => none }
noncomputable def spec_l00Src_amongc : Code := bodyOf Go.Proofs.Tryz.f110
noncomputable def spec_l00Src_amongF (n : Nat) : Fun := { id := 110, sp := spec_l00Src_amongsp, bs := spec_l00Src_amongbs, rs := spec_l00Src_amongrs, f := fun x y => spec_l00Src_among n y.1 y.2.1 }

theorem spec_l00Src_among_eq (n : Nat) (b0 : (List (Int)) × ((Int) × (Int))) (b1 : List (Int)) : runBody ([spec_l00Src_pickF n]) ty 12 n spec_l00Src_amongkp spec_l00Src_amongc Go.Proofs.Tryz.f110.results.toList spec_l00Src_amongrs spec_l00Src_amongsp spec_l00Src_amongbs ((), ((), ())) (b0, (b1, ())) = spec_l00Src_among n b0 b1 := by
  have h : runBody ([spec_l00Src_pickF n]) ty 12 n spec_l00Src_amongkp spec_l00Src_amongc Go.Proofs.Tryz.f110.results.toList spec_l00Src_amongrs spec_l00Src_amongsp spec_l00Src_amongbs ((), ((), ())) (b0, (b1, ())) = spec_l00Src_among_t n b0 b1 := by kernel_rfl
  rw [h]
  rfl

theorem spec_l00Src_among_ok (n : Nat) : FunOk P (spec_l00Src_amongF n) :=
  funOk_mk (C := [spec_l00Src_pickF n]) (N := 12) (kp := spec_l00Src_amongkp) (c := spec_l00Src_amongc) (n := n) (G := fun x y => spec_l00Src_among n y.1 y.2.1) follows (AllOk.mem (⟨spec_l00Src_pick_ok n, trivial⟩ : AllOk P ([spec_l00Src_pickF n]))) (by kernel_rfl : P.funcs[110]? = some Go.Proofs.Tryz.f110) (by kernel_rfl) (by kernel_rfl) (by kernel_rfl)
    (fun x y => spec_l00Src_among_eq n y.1 y.2.1) (fun _ _ => map_same (fun _ => rfl) _) (fun _ _ _ _ => rfl)

abbrev spec_l04Smallsp : List Sp := [.ref 0]
abbrev spec_l04Smallbs : List (Bs × Bool) := [(.var 118 (.pair (.list (.int .u8)) (.pair (.int .i64) (.int .u64))), true)]
abbrev spec_l04Smallrs : List (Bool × List Rp) := [(true, [.v false (.pair (.int .i64) (.int .i64))])]
noncomputable def spec_l04Smallkp : Keep := { loop := fun id => match id with | _ => ([], []), join := fun id => match id with | _ => none }
noncomputable def spec_l04Smallc : Code := bodyOf Go.Proofs.Tryz.f70
noncomputable def spec_l04SmallF (n : Nat) : Fun := { id := 70, sp := spec_l04Smallsp, bs := spec_l04Smallbs, rs := spec_l04Smallrs, f := fun x y => spec_l04Small n y.1 }

theorem spec_l04Small_eq (n : Nat) (b0 : (List (Int)) × ((Int) × (Int))) : runBody ([spec_l00Src_pickF n, spec_l00Src_amongF n, spec_l01ReducedF n]) ty 16 n spec_l04Smallkp spec_l04Smallc Go.Proofs.Tryz.f70.results.toList spec_l04Smallrs spec_l04Smallsp spec_l04Smallbs ((), ()) (b0, ()) = spec_l04Small n b0 := by
  have h : runBody ([spec_l00Src_pickF n, spec_l00Src_amongF n, spec_l01ReducedF n]) ty 16 n spec_l04Smallkp spec_l04Smallc Go.Proofs.Tryz.f70.results.toList spec_l04Smallrs spec_l04Smallsp spec_l04Smallbs ((), ()) (b0, ()) = spec_l04Small_t n b0 := by kernel_rfl
  rw [h]
  rfl

theorem spec_l04Small_ok (n : Nat) : FunOk P (spec_l04SmallF n) :=
  funOk_mk (C := [spec_l00Src_pickF n, spec_l00Src_amongF n, spec_l01ReducedF n]) (N := 16) (kp := spec_l04Smallkp) (c := spec_l04Smallc) (n := n) (G := fun x y => spec_l04Small n y.1) follows (AllOk.mem (⟨spec_l00Src_pick_ok n, ⟨spec_l00Src_among_ok n, ⟨spec_l01Reduced_ok n, trivial⟩⟩⟩ : AllOk P ([spec_l00Src_pickF n, spec_l00Src_amongF n, spec_l01ReducedF n]))) (by kernel_rfl : P.funcs[70]? = some Go.Proofs.Tryz.f70) (by kernel_rfl) (by kernel_rfl) (by kernel_rfl)
    (fun x y => spec_l04Small_eq n y.1) (fun _ _ => map_same (fun _ => rfl) _) (fun _ _ _ _ => rfl)

abbrev spec_P6Listsp : List Sp := [.v false (.list (.int .u8))]
abbrev spec_P6Listbs : List (Bs × Bool) := []
abbrev spec_P6Listrs : List (Bool × List Rp) := [(false, [.new  (.pair (.int .i64) (.int .i64))])]
noncomputable def spec_P6Listkp : Keep := { loop := fun id => match id with | 4 => ([5, 3, 4], []) | _ => ([], []), join := fun id => match id with | _ => none }
noncomputable def spec_P6Listc : Code := bodyOf Go.Proofs.Tryz.f24
noncomputable def spec_P6ListF (n : Nat) : Fun := { id := 24, sp := spec_P6Listsp, bs := spec_P6Listbs, rs := spec_P6Listrs, f := fun x y => spec_P6List n x.1 }

theorem spec_P6List_l4_eq (n : Nat) : ∀ (k : Nat) (v5 : Int) (b0_0 : List (Int)) (b0_1 : Int) (b0_2 : Int) (b1 : List ((Int) × (Int))), iter (interp ([spec_l00FromF n, spec_l00Src_pickF n, spec_l04SmallF n]) ty 22 0 n spec_P6Listkp (codeAt spec_P6Listc [1, 1, 1, 0, 1, 0, 0])) (canon 0 (spec_P6Listkp.loop 4)) (kAt ([spec_l00FromF n, spec_l00Src_pickF n, spec_l04SmallF n]) ty 22 0 n spec_P6Listkp spec_P6Listc [1, 1, 1, 0, 1, 0] [] (ending ty 0 Go.Proofs.Tryz.f24.results.toList spec_P6Listrs spec_P6Listbs)) k { env := [(5, .one (.sc (.int .i64 v5))), (3, .one (.ref 0 0 0 0 0 0)), (4, .one (.slice 1 0 none))], bx := [(0, .var 118 [.list true (.int .u8) b0_0, .sc (.int .i64 b0_1), .sc (.int .u64 b0_2)]), (1, .row 0 (.pair (.int .i64) (.int .i64)) b1)], nx := 2 } = spec_P6List_l4 n k v5 b0_0 b0_1 b0_2 b1
  | 0, _, _, _, _, _ => by kernel_rfl
  | k + 1, v5, b0_0, b0_1, b0_2, b1 => by
    have h : iter (interp ([spec_l00FromF n, spec_l00Src_pickF n, spec_l04SmallF n]) ty 22 0 n spec_P6Listkp (codeAt spec_P6Listc [1, 1, 1, 0, 1, 0, 0])) (canon 0 (spec_P6Listkp.loop 4)) (kAt ([spec_l00FromF n, spec_l00Src_pickF n, spec_l04SmallF n]) ty 22 0 n spec_P6Listkp spec_P6Listc [1, 1, 1, 0, 1, 0] [] (ending ty 0 Go.Proofs.Tryz.f24.results.toList spec_P6Listrs spec_P6Listbs)) (k + 1) { env := [(5, .one (.sc (.int .i64 v5))), (3, .one (.ref 0 0 0 0 0 0)), (4, .one (.slice 1 0 none))], bx := [(0, .var 118 [.list true (.int .u8) b0_0, .sc (.int .i64 b0_1), .sc (.int .u64 b0_2)]), (1, .row 0 (.pair (.int .i64) (.int .i64)) b1)], nx := 2 } = spec_P6List_t4 n (fun v5 b0_0 b0_1 b0_2 b1 => iter (interp ([spec_l00FromF n, spec_l00Src_pickF n, spec_l04SmallF n]) ty 22 0 n spec_P6Listkp (codeAt spec_P6Listc [1, 1, 1, 0, 1, 0, 0])) (canon 0 (spec_P6Listkp.loop 4)) (kAt ([spec_l00FromF n, spec_l00Src_pickF n, spec_l04SmallF n]) ty 22 0 n spec_P6Listkp spec_P6Listc [1, 1, 1, 0, 1, 0] [] (ending ty 0 Go.Proofs.Tryz.f24.results.toList spec_P6Listrs spec_P6Listbs)) k { env := [(5, .one (.sc (.int .i64 v5))), (3, .one (.ref 0 0 0 0 0 0)), (4, .one (.slice 1 0 none))], bx := [(0, .var 118 [.list true (.int .u8) b0_0, .sc (.int .i64 b0_1), .sc (.int .u64 b0_2)]), (1, .row 0 (.pair (.int .i64) (.int .i64)) b1)], nx := 2 }) v5 b0_0 b0_1 b0_2 b1 := by kernel_rfl
    rw [h]
    have e := congrArg (fun g => spec_P6List_t4 n g v5 b0_0 b0_1 b0_2 b1) (funext fun v5 => funext fun b0_0 => funext fun b0_1 => funext fun b0_2 => funext fun b1 => spec_P6List_l4_eq n k v5 b0_0 b0_1 b0_2 b1)
    exact e

theorem spec_P6List_eq (n : Nat) (a0 : List (Int)) : runBody ([spec_l00FromF n, spec_l00Src_pickF n, spec_l04SmallF n]) ty 22 n spec_P6Listkp spec_P6Listc Go.Proofs.Tryz.f24.results.toList spec_P6Listrs spec_P6Listsp spec_P6Listbs (a0, ()) () = spec_P6List n a0 := by
  have h : runBody ([spec_l00FromF n, spec_l00Src_pickF n, spec_l04SmallF n]) ty 22 n spec_P6Listkp spec_P6Listc Go.Proofs.Tryz.f24.results.toList spec_P6Listrs spec_P6Listsp spec_P6Listbs (a0, ()) () = spec_P6List_t n (fun k v5 b0_0 b0_1 b0_2 b1 => iter (interp ([spec_l00FromF n, spec_l00Src_pickF n, spec_l04SmallF n]) ty 22 0 n spec_P6Listkp (codeAt spec_P6Listc [1, 1, 1, 0, 1, 0, 0])) (canon 0 (spec_P6Listkp.loop 4)) (kAt ([spec_l00FromF n, spec_l00Src_pickF n, spec_l04SmallF n]) ty 22 0 n spec_P6Listkp spec_P6Listc [1, 1, 1, 0, 1, 0] [] (ending ty 0 Go.Proofs.Tryz.f24.results.toList spec_P6Listrs spec_P6Listbs)) k { env := [(5, .one (.sc (.int .i64 v5))), (3, .one (.ref 0 0 0 0 0 0)), (4, .one (.slice 1 0 none))], bx := [(0, .var 118 [.list true (.int .u8) b0_0, .sc (.int .i64 b0_1), .sc (.int .u64 b0_2)]), (1, .row 0 (.pair (.int .i64) (.int .i64)) b1)], nx := 2 }) a0 := by kernel_rfl
  rw [h]
  have e := congrArg (fun h4 => spec_P6List_t n h4 a0) (funext fun k => funext fun v5 => funext fun b0_0 => funext fun b0_1 => funext fun b0_2 => funext fun b1 => spec_P6List_l4_eq n k v5 b0_0 b0_1 b0_2 b1)
  exact e

theorem spec_P6List_ok (n : Nat) : FunOk P (spec_P6ListF n) :=
  funOk_mk (C := [spec_l00FromF n, spec_l00Src_pickF n, spec_l04SmallF n]) (N := 22) (kp := spec_P6Listkp) (c := spec_P6Listc) (n := n) (G := fun x y => spec_P6List n x.1) follows (AllOk.mem (⟨spec_l00From_ok n, ⟨spec_l00Src_pick_ok n, ⟨spec_l04Small_ok n, trivial⟩⟩⟩ : AllOk P ([spec_l00FromF n, spec_l00Src_pickF n, spec_l04SmallF n]))) (by kernel_rfl : P.funcs[24]? = some Go.Proofs.Tryz.f24) (by kernel_rfl) (by kernel_rfl) (by kernel_rfl)
    (fun x y => spec_P6List_eq n x.1) (fun _ _ => map_same (fun _ => rfl) _) (fun _ _ _ _ => rfl)

abbrev spec_P6Picksp : List Sp := [.v false (.list (.int .u8)), .v false (.int .i64)]
abbrev spec_P6Pickbs : List (Bs × Bool) := []
abbrev spec_P6Pickrs : List (Bool × List Rp) := [(false, [.v false (.int .i64)])]
noncomputable def spec_P6Pickkp : Keep := { loop := fun id => match id with | _ => ([], []), join := fun id => match id with | _ => none }
noncomputable def spec_P6Pickc : Code := bodyOf Go.Proofs.Tryz.f20
noncomputable def spec_P6PickF (n : Nat) : Fun := { id := 20, sp := spec_P6Picksp, bs := spec_P6Pickbs, rs := spec_P6Pickrs, f := fun x y => spec_P6Pick n x.1 x.2.1 }

theorem spec_P6Pick_eq (n : Nat) (a0 : List (Int)) (a1 : Int) : runBody ([spec_l00FromF n, spec_l00Src_pickF n]) ty 9 n spec_P6Pickkp spec_P6Pickc Go.Proofs.Tryz.f20.results.toList spec_P6Pickrs spec_P6Picksp spec_P6Pickbs (a0, (a1, ())) () = spec_P6Pick n a0 a1 := by
  have h : runBody ([spec_l00FromF n, spec_l00Src_pickF n]) ty 9 n spec_P6Pickkp spec_P6Pickc Go.Proofs.Tryz.f20.results.toList spec_P6Pickrs spec_P6Picksp spec_P6Pickbs (a0, (a1, ())) () = spec_P6Pick_t n a0 a1 := by kernel_rfl
  rw [h]
  rfl

theorem spec_P6Pick_ok (n : Nat) : FunOk P (spec_P6PickF n) :=
  funOk_mk (C := [spec_l00FromF n, spec_l00Src_pickF n]) (N := 9) (kp := spec_P6Pickkp) (c := spec_P6Pickc) (n := n) (G := fun x y => spec_P6Pick n x.1 x.2.1) follows (AllOk.mem (⟨spec_l00From_ok n, ⟨spec_l00Src_pick_ok n, trivial⟩⟩ : AllOk P ([spec_l00FromF n, spec_l00Src_pickF n]))) (by kernel_rfl : P.funcs[20]? = some Go.Proofs.Tryz.f20) (by kernel_rfl) (by kernel_rfl) (by kernel_rfl)
    (fun x y => spec_P6Pick_eq n x.1 x.2.1) (fun _ _ => map_same (fun _ => rfl) _) (fun _ _ _ _ => rfl)

abbrev spec_l01Negsp : List Sp := [.v true (.pair (.int .i64) (.int .i64))]
abbrev spec_l01Negbs : List (Bs × Bool) := []
abbrev spec_l01Negrs : List (Bool × List Rp) := [(true, [.v false (.pair (.int .i64) (.int .i64))])]
noncomputable def spec_l01Negkp : Keep := { loop := fun id => match id with | _ => ([], []), join := fun id => match id with | _ => none }
noncomputable def spec_l01Negc : Code := bodyOf Go.Proofs.Tryz.f109
noncomputable def spec_l01NegF (n : Nat) : Fun := { id := 109, sp := spec_l01Negsp, bs := spec_l01Negbs, rs := spec_l01Negrs, f := fun x y => spec_l01Neg n x.1 }

theorem spec_l01Neg_eq (n : Nat) (a0 : (Int) × (Int)) : runBody ([]) ty 9 n spec_l01Negkp spec_l01Negc Go.Proofs.Tryz.f109.results.toList spec_l01Negrs spec_l01Negsp spec_l01Negbs (a0, ()) () = spec_l01Neg n a0 := by
  have h : runBody ([]) ty 9 n spec_l01Negkp spec_l01Negc Go.Proofs.Tryz.f109.results.toList spec_l01Negrs spec_l01Negsp spec_l01Negbs (a0, ()) () = spec_l01Neg_t n a0 := by kernel_rfl
  rw [h]
  rfl

theorem spec_l01Neg_ok (n : Nat) : FunOk P (spec_l01NegF n) :=
  funOk_mk (C := []) (N := 9) (kp := spec_l01Negkp) (c := spec_l01Negc) (n := n) (G := fun x y => spec_l01Neg n x.1) follows (AllOk.mem (trivial : AllOk P ([]))) (by kernel_rfl : P.funcs[109]? = some Go.Proofs.Tryz.f109) (by kernel_rfl) (by kernel_rfl) (by kernel_rfl)
    (fun x y => spec_l01Neg_eq n x.1) (fun _ _ => map_same (fun _ => rfl) _) (fun _ _ _ _ => rfl)

abbrev spec_l01Subsp : List Sp := [.v true (.pair (.int .i64) (.int .i64)), .v true (.pair (.int .i64) (.int .i64))]
abbrev spec_l01Subbs : List (Bs × Bool) := []
abbrev spec_l01Subrs : List (Bool × List Rp) := [(true, [.v false (.pair (.int .i64) (.int .i64))]), (false, [.v false (.int .i64)])]
noncomputable def spec_l01Subkp : Keep := { loop := fun id => match id with | _ => ([], []), join := fun id => match id with | _ => none }
noncomputable def spec_l01Subc : Code := bodyOf Go.Proofs.Tryz.f68
noncomputable def spec_l01SubF (n : Nat) : Fun := { id := 68, sp := spec_l01Subsp, bs := spec_l01Subbs, rs := spec_l01Subrs, f := fun x y => spec_l01Sub n x.1 x.2.1 }

theorem spec_l01Sub_eq (n : Nat) (a0 : (Int) × (Int)) (a1 : (Int) × (Int)) : runBody ([spec_l01NegF n, spec_l01AddF n]) ty 12 n spec_l01Subkp spec_l01Subc Go.Proofs.Tryz.f68.results.toList spec_l01Subrs spec_l01Subsp spec_l01Subbs (a0, (a1, ())) () = spec_l01Sub n a0 a1 := by
  have h : runBody ([spec_l01NegF n, spec_l01AddF n]) ty 12 n spec_l01Subkp spec_l01Subc Go.Proofs.Tryz.f68.results.toList spec_l01Subrs spec_l01Subsp spec_l01Subbs (a0, (a1, ())) () = spec_l01Sub_t n a0 a1 := by kernel_rfl
  rw [h]
  rfl

theorem spec_l01Sub_ok (n : Nat) : FunOk P (spec_l01SubF n) :=
  funOk_mk (C := [spec_l01NegF n, spec_l01AddF n]) (N := 12) (kp := spec_l01Subkp) (c := spec_l01Subc) (n := n) (G := fun x y => spec_l01Sub n x.1 x.2.1) follows (AllOk.mem (⟨spec_l01Neg_ok n, ⟨spec_l01Add_ok n, trivial⟩⟩ : AllOk P ([spec_l01NegF n, spec_l01AddF n]))) (by kernel_rfl : P.funcs[68]? = some Go.Proofs.Tryz.f68) (by kernel_rfl) (by kernel_rfl) (by kernel_rfl)
    (fun x y => spec_l01Sub_eq n x.1 x.2.1) (fun _ _ => map_same (fun _ => rfl) _) (fun _ _ _ _ => rfl)

abbrev spec_SubFracssp : List Sp := [.v true (.pair (.int .i64) (.int .i64)), .v true (.pair (.int .i64) (.int .i64))]
abbrev spec_SubFracsbs : List (Bs × Bool) := []
abbrev spec_SubFracsrs : List (Bool × List Rp) := [(true, [.v false (.pair (.int .i64) (.int .i64))]), (false, [.v false (.int .i64)])]
noncomputable def spec_SubFracskp : Keep := { loop := fun id => match id with | _ => ([], []), join := fun id => match id with | _ => none }
noncomputable def spec_SubFracsc : Code := bodyOf Go.Proofs.Tryz.f22
noncomputable def spec_SubFracsF (n : Nat) : Fun := { id := 22, sp := spec_SubFracssp, bs := spec_SubFracsbs, rs := spec_SubFracsrs, f := fun x y => spec_SubFracs n x.1 x.2.1 }

theorem spec_SubFracs_eq (n : Nat) (a0 : (Int) × (Int)) (a1 : (Int) × (Int)) : runBody ([spec_l01TwoF n, spec_l01SubF n]) ty 19 n spec_SubFracskp spec_SubFracsc Go.Proofs.Tryz.f22.results.toList spec_SubFracsrs spec_SubFracssp spec_SubFracsbs (a0, (a1, ())) () = spec_SubFracs n a0 a1 := by
  have h : runBody ([spec_l01TwoF n, spec_l01SubF n]) ty 19 n spec_SubFracskp spec_SubFracsc Go.Proofs.Tryz.f22.results.toList spec_SubFracsrs spec_SubFracssp spec_SubFracsbs (a0, (a1, ())) () = spec_SubFracs_t n a0 a1 := by kernel_rfl
  rw [h]
  rfl

theorem spec_SubFracs_ok (n : Nat) : FunOk P (spec_SubFracsF n) :=
  funOk_mk (C := [spec_l01TwoF n, spec_l01SubF n]) (N := 19) (kp := spec_SubFracskp) (c := spec_SubFracsc) (n := n) (G := fun x y => spec_SubFracs n x.1 x.2.1) follows (AllOk.mem (⟨spec_l01Two_ok n, ⟨spec_l01Sub_ok n, trivial⟩⟩ : AllOk P ([spec_l01TwoF n, spec_l01SubF n]))) (by kernel_rfl : P.funcs[22]? = some Go.Proofs.Tryz.f22) (by kernel_rfl) (by kernel_rfl) (by kernel_rfl)
    (fun x y => spec_SubFracs_eq n x.1 x.2.1) (fun _ _ => map_same (fun _ => rfl) _) (fun _ _ _ _ => rfl)

abbrev laws_FnFracssp : List Sp := [.v false (.list (.int .u8)), .v false (.list (.int .u8))]
abbrev laws_FnFracsbs : List (Bs × Bool) := []
abbrev laws_FnFracsrs : List (Bool × List Rp) := [(false, [.v false .bool])]
noncomputable def laws_FnFracskp : Keep := { loop := fun id => match id with | 42 => ([51, 50, 38, 49, 43, 39], []) | _ => ([], []), join := fun id => match id with | _ => none }
noncomputable def laws_FnFracsc : Code := bodyOf Go.Proofs.Tryz.f3
noncomputable def laws_FnFracsF (n : Nat) : Fun := { id := 3, sp := laws_FnFracssp, bs := laws_FnFracsbs, rs := laws_FnFracsrs, f := fun x y => laws_FnFracs n x.1 x.2.1 }

theorem laws_FnFracs_l42_eq (n : Nat) : ∀ (k : Nat) (v51 : Int) (b0_0 : Int) (b0_1 : Int) (b1 : List ((Int) × (Int))) (b2_0 : Int) (b2_1 : Int) (b3_0 : Int) (b3_1 : Int) (b4_0 : Int) (b4_1 : Int), iter (interp ([laws_f6bigF n, spec_P6FracF n, impl_FracTextF n, impl_ReadFracF n, impl_MakeFracF n, impl_AddFracsF n, impl_SubFracsF n, spec_AddFracsF n, impl_ValidFracF n, impl_MulFracsF n, spec_MulFracsF n, impl_DivFracsF n, impl_CompareFracsF n, impl_FloorOfF n, laws_f6lessF n, spec_P6PickF n, impl_NearestToF n, spec_SubFracsF n, spec_DivFracsF n, spec_P6ListF n, impl_MeanOfF n, impl_MiddleOfF n, spec_MiddleOfF n, impl_SumOfF n]) ty 422 0 n laws_FnFracskp (codeAt laws_FnFracsc [1, 1, 1, 1, 1, 1, 1, 1, 1, 1, 1, 1, 1, 1, 1, 1, 1, 1, 1, 1, 1, 1, 1, 1, 1, 1, 1, 1, 1, 1, 1, 1, 1, 1, 0, 1, 0, 0])) (canon 0 (laws_FnFracskp.loop 42)) (kAt ([laws_f6bigF n, spec_P6FracF n, impl_FracTextF n, impl_ReadFracF n, impl_MakeFracF n, impl_AddFracsF n, impl_SubFracsF n, spec_AddFracsF n, impl_ValidFracF n, impl_MulFracsF n, spec_MulFracsF n, impl_DivFracsF n, impl_CompareFracsF n, impl_FloorOfF n, laws_f6lessF n, spec_P6PickF n, impl_NearestToF n, spec_SubFracsF n, spec_DivFracsF n, spec_P6ListF n, impl_MeanOfF n, impl_MiddleOfF n, spec_MiddleOfF n, impl_SumOfF n]) ty 422 0 n laws_FnFracskp laws_FnFracsc [1, 1, 1, 1, 1, 1, 1, 1, 1, 1, 1, 1, 1, 1, 1, 1, 1, 1, 1, 1, 1, 1, 1, 1, 1, 1, 1, 1, 1, 1, 1, 1, 1, 1, 0, 1, 0] [] (ending ty 0 Go.Proofs.Tryz.f3.results.toList laws_FnFracsrs laws_FnFracsbs)) k { env := [(51, .one (.sc (.int .i64 v51))), (50, .one (.ref 0 0 0 0 0 0)), (38, .one (.slice 1 0 none)), (49, .one (.ref 2 0 0 0 0 0)), (43, .one (.ref 3 0 0 0 0 0)), (39, .one (.ref 4 0 0 0 0 0))], bx := [(0, .var 25 [.sc (.int .i64 b0_0), .sc (.int .i64 b0_1)]), (1, .row 0 (.pair (.int .i64) (.int .i64)) b1), (2, .var 25 [.sc (.int .i64 b2_0), .sc (.int .i64 b2_1)]), (3, .var 25 [.sc (.int .i64 b3_0), .sc (.int .i64 b3_1)]), (4, .var 25 [.sc (.int .i64 b4_0), .sc (.int .i64 b4_1)])], nx := 5 } = laws_FnFracs_l42 n k v51 b0_0 b0_1 b1 b2_0 b2_1 b3_0 b3_1 b4_0 b4_1
  | 0, _, _, _, _, _, _, _, _, _, _ => by kernel_rfl
  | k + 1, v51, b0_0, b0_1, b1, b2_0, b2_1, b3_0, b3_1, b4_0, b4_1 => by
    have h : iter (interp ([laws_f6bigF n, spec_P6FracF n, impl_FracTextF n, impl_ReadFracF n, impl_MakeFracF n, impl_AddFracsF n, impl_SubFracsF n, spec_AddFracsF n, impl_ValidFracF n, impl_MulFracsF n, spec_MulFracsF n, impl_DivFracsF n, impl_CompareFracsF n, impl_FloorOfF n, laws_f6lessF n, spec_P6PickF n, impl_NearestToF n, spec_SubFracsF n, spec_DivFracsF n, spec_P6ListF n, impl_MeanOfF n, impl_MiddleOfF n, spec_MiddleOfF n, impl_SumOfF n]) ty 422 0 n laws_FnFracskp (codeAt laws_FnFracsc [1, 1, 1, 1, 1, 1, 1, 1, 1, 1, 1, 1, 1, 1, 1, 1, 1, 1, 1, 1, 1, 1, 1, 1, 1, 1, 1, 1, 1, 1, 1, 1, 1, 1, 0, 1, 0, 0])) (canon 0 (laws_FnFracskp.loop 42)) (kAt ([laws_f6bigF n, spec_P6FracF n, impl_FracTextF n, impl_ReadFracF n, impl_MakeFracF n, impl_AddFracsF n, impl_SubFracsF n, spec_AddFracsF n, impl_ValidFracF n, impl_MulFracsF n, spec_MulFracsF n, impl_DivFracsF n, impl_CompareFracsF n, impl_FloorOfF n, laws_f6lessF n, spec_P6PickF n, impl_NearestToF n, spec_SubFracsF n, spec_DivFracsF n, spec_P6ListF n, impl_MeanOfF n, impl_MiddleOfF n, spec_MiddleOfF n, impl_SumOfF n]) ty 422 0 n laws_FnFracskp laws_FnFracsc [1, 1, 1, 1, 1, 1, 1, 1, 1, 1, 1, 1, 1, 1, 1, 1, 1, 1, 1, 1, 1, 1, 1, 1, 1, 1, 1, 1, 1, 1, 1, 1, 1, 1, 0, 1, 0] [] (ending ty 0 Go.Proofs.Tryz.f3.results.toList laws_FnFracsrs laws_FnFracsbs)) (k + 1) { env := [(51, .one (.sc (.int .i64 v51))), (50, .one (.ref 0 0 0 0 0 0)), (38, .one (.slice 1 0 none)), (49, .one (.ref 2 0 0 0 0 0)), (43, .one (.ref 3 0 0 0 0 0)), (39, .one (.ref 4 0 0 0 0 0))], bx := [(0, .var 25 [.sc (.int .i64 b0_0), .sc (.int .i64 b0_1)]), (1, .row 0 (.pair (.int .i64) (.int .i64)) b1), (2, .var 25 [.sc (.int .i64 b2_0), .sc (.int .i64 b2_1)]), (3, .var 25 [.sc (.int .i64 b3_0), .sc (.int .i64 b3_1)]), (4, .var 25 [.sc (.int .i64 b4_0), .sc (.int .i64 b4_1)])], nx := 5 } = laws_FnFracs_t42 n (fun v51 b0_0 b0_1 b1 b2_0 b2_1 b3_0 b3_1 b4_0 b4_1 => iter (interp ([laws_f6bigF n, spec_P6FracF n, impl_FracTextF n, impl_ReadFracF n, impl_MakeFracF n, impl_AddFracsF n, impl_SubFracsF n, spec_AddFracsF n, impl_ValidFracF n, impl_MulFracsF n, spec_MulFracsF n, impl_DivFracsF n, impl_CompareFracsF n, impl_FloorOfF n, laws_f6lessF n, spec_P6PickF n, impl_NearestToF n, spec_SubFracsF n, spec_DivFracsF n, spec_P6ListF n, impl_MeanOfF n, impl_MiddleOfF n, spec_MiddleOfF n, impl_SumOfF n]) ty 422 0 n laws_FnFracskp (codeAt laws_FnFracsc [1, 1, 1, 1, 1, 1, 1, 1, 1, 1, 1, 1, 1, 1, 1, 1, 1, 1, 1, 1, 1, 1, 1, 1, 1, 1, 1, 1, 1, 1, 1, 1, 1, 1, 0, 1, 0, 0])) (canon 0 (laws_FnFracskp.loop 42)) (kAt ([laws_f6bigF n, spec_P6FracF n, impl_FracTextF n, impl_ReadFracF n, impl_MakeFracF n, impl_AddFracsF n, impl_SubFracsF n, spec_AddFracsF n, impl_ValidFracF n, impl_MulFracsF n, spec_MulFracsF n, impl_DivFracsF n, impl_CompareFracsF n, impl_FloorOfF n, laws_f6lessF n, spec_P6PickF n, impl_NearestToF n, spec_SubFracsF n, spec_DivFracsF n, spec_P6ListF n, impl_MeanOfF n, impl_MiddleOfF n, spec_MiddleOfF n, impl_SumOfF n]) ty 422 0 n laws_FnFracskp laws_FnFracsc [1, 1, 1, 1, 1, 1, 1, 1, 1, 1, 1, 1, 1, 1, 1, 1, 1, 1, 1, 1, 1, 1, 1, 1, 1, 1, 1, 1, 1, 1, 1, 1, 1, 1, 0, 1, 0] [] (ending ty 0 Go.Proofs.Tryz.f3.results.toList laws_FnFracsrs laws_FnFracsbs)) k { env := [(51, .one (.sc (.int .i64 v51))), (50, .one (.ref 0 0 0 0 0 0)), (38, .one (.slice 1 0 none)), (49, .one (.ref 2 0 0 0 0 0)), (43, .one (.ref 3 0 0 0 0 0)), (39, .one (.ref 4 0 0 0 0 0))], bx := [(0, .var 25 [.sc (.int .i64 b0_0), .sc (.int .i64 b0_1)]), (1, .row 0 (.pair (.int .i64) (.int .i64)) b1), (2, .var 25 [.sc (.int .i64 b2_0), .sc (.int .i64 b2_1)]), (3, .var 25 [.sc (.int .i64 b3_0), .sc (.int .i64 b3_1)]), (4, .var 25 [.sc (.int .i64 b4_0), .sc (.int .i64 b4_1)])], nx := 5 }) v51 b0_0 b0_1 b1 b2_0 b2_1 b3_0 b3_1 b4_0 b4_1 := by kernel_rfl
    rw [h]
    have e := congrArg (fun g => laws_FnFracs_t42 n g v51 b0_0 b0_1 b1 b2_0 b2_1 b3_0 b3_1 b4_0 b4_1) (funext fun v51 => funext fun b0_0 => funext fun b0_1 => funext fun b1 => funext fun b2_0 => funext fun b2_1 => funext fun b3_0 => funext fun b3_1 => funext fun b4_0 => funext fun b4_1 => laws_FnFracs_l42_eq n k v51 b0_0 b0_1 b1 b2_0 b2_1 b3_0 b3_1 b4_0 b4_1)
    exact e

theorem laws_FnFracs_eq (n : Nat) (a0 : List (Int)) (a1 : List (Int)) : runBody ([laws_f6bigF n, spec_P6FracF n, impl_FracTextF n, impl_ReadFracF n, impl_MakeFracF n, impl_AddFracsF n, impl_SubFracsF n, spec_AddFracsF n, impl_ValidFracF n, impl_MulFracsF n, spec_MulFracsF n, impl_DivFracsF n, impl_CompareFracsF n, impl_FloorOfF n, laws_f6lessF n, spec_P6PickF n, impl_NearestToF n, spec_SubFracsF n, spec_DivFracsF n, spec_P6ListF n, impl_MeanOfF n, impl_MiddleOfF n, spec_MiddleOfF n, impl_SumOfF n]) ty 422 n laws_FnFracskp laws_FnFracsc Go.Proofs.Tryz.f3.results.toList laws_FnFracsrs laws_FnFracssp laws_FnFracsbs (a0, (a1, ())) () = laws_FnFracs n a0 a1 := by
  have h : runBody ([laws_f6bigF n, spec_P6FracF n, impl_FracTextF n, impl_ReadFracF n, impl_MakeFracF n, impl_AddFracsF n, impl_SubFracsF n, spec_AddFracsF n, impl_ValidFracF n, impl_MulFracsF n, spec_MulFracsF n, impl_DivFracsF n, impl_CompareFracsF n, impl_FloorOfF n, laws_f6lessF n, spec_P6PickF n, impl_NearestToF n, spec_SubFracsF n, spec_DivFracsF n, spec_P6ListF n, impl_MeanOfF n, impl_MiddleOfF n, spec_MiddleOfF n, impl_SumOfF n]) ty 422 n laws_FnFracskp laws_FnFracsc Go.Proofs.Tryz.f3.results.toList laws_FnFracsrs laws_FnFracssp laws_FnFracsbs (a0, (a1, ())) () = laws_FnFracs_t n (fun k v51 b0_0 b0_1 b1 b2_0 b2_1 b3_0 b3_1 b4_0 b4_1 => iter (interp ([laws_f6bigF n, spec_P6FracF n, impl_FracTextF n, impl_ReadFracF n, impl_MakeFracF n, impl_AddFracsF n, impl_SubFracsF n, spec_AddFracsF n, impl_ValidFracF n, impl_MulFracsF n, spec_MulFracsF n, impl_DivFracsF n, impl_CompareFracsF n, impl_FloorOfF n, laws_f6lessF n, spec_P6PickF n, impl_NearestToF n, spec_SubFracsF n, spec_DivFracsF n, spec_P6ListF n, impl_MeanOfF n, impl_MiddleOfF n, spec_MiddleOfF n, impl_SumOfF n]) ty 422 0 n laws_FnFracskp (codeAt laws_FnFracsc [1, 1, 1, 1, 1, 1, 1, 1, 1, 1, 1, 1, 1, 1, 1, 1, 1, 1, 1, 1, 1, 1, 1, 1, 1, 1, 1, 1, 1, 1, 1, 1, 1, 1, 0, 1, 0, 0])) (canon 0 (laws_FnFracskp.loop 42)) (kAt ([laws_f6bigF n, spec_P6FracF n, impl_FracTextF n, impl_ReadFracF n, impl_MakeFracF n, impl_AddFracsF n, impl_SubFracsF n, spec_AddFracsF n, impl_ValidFracF n, impl_MulFracsF n, spec_MulFracsF n, impl_DivFracsF n, impl_CompareFracsF n, impl_FloorOfF n, laws_f6lessF n, spec_P6PickF n, impl_NearestToF n, spec_SubFracsF n, spec_DivFracsF n, spec_P6ListF n, impl_MeanOfF n, impl_MiddleOfF n, spec_MiddleOfF n, impl_SumOfF n]) ty 422 0 n laws_FnFracskp laws_FnFracsc [1, 1, 1, 1, 1, 1, 1, 1, 1, 1, 1, 1, 1, 1, 1, 1, 1, 1, 1, 1, 1, 1, 1, 1, 1, 1, 1, 1, 1, 1, 1, 1, 1, 1, 0, 1, 0] [] (ending ty 0 Go.Proofs.Tryz.f3.results.toList laws_FnFracsrs laws_FnFracsbs)) k { env := [(51, .one (.sc (.int .i64 v51))), (50, .one (.ref 0 0 0 0 0 0)), (38, .one (.slice 1 0 none)), (49, .one (.ref 2 0 0 0 0 0)), (43, .one (.ref 3 0 0 0 0 0)), (39, .one (.ref 4 0 0 0 0 0))], bx := [(0, .var 25 [.sc (.int .i64 b0_0), .sc (.int .i64 b0_1)]), (1, .row 0 (.pair (.int .i64) (.int .i64)) b1), (2, .var 25 [.sc (.int .i64 b2_0), .sc (.int .i64 b2_1)]), (3, .var 25 [.sc (.int .i64 b3_0), .sc (.int .i64 b3_1)]), (4, .var 25 [.sc (.int .i64 b4_0), .sc (.int .i64 b4_1)])], nx := 5 }) a0 a1 := by kernel_rfl
  rw [h]
  have e := congrArg (fun h42 => laws_FnFracs_t n h42 a0 a1) (funext fun k => funext fun v51 => funext fun b0_0 => funext fun b0_1 => funext fun b1 => funext fun b2_0 => funext fun b2_1 => funext fun b3_0 => funext fun b3_1 => funext fun b4_0 => funext fun b4_1 => laws_FnFracs_l42_eq n k v51 b0_0 b0_1 b1 b2_0 b2_1 b3_0 b3_1 b4_0 b4_1)
  exact e

theorem laws_FnFracs_ok (n : Nat) : FunOk P (laws_FnFracsF n) :=
  funOk_mk (C := [laws_f6bigF n, spec_P6FracF n, impl_FracTextF n, impl_ReadFracF n, impl_MakeFracF n, impl_AddFracsF n, impl_SubFracsF n, spec_AddFracsF n, impl_ValidFracF n, impl_MulFracsF n, spec_MulFracsF n, impl_DivFracsF n, impl_CompareFracsF n, impl_FloorOfF n, laws_f6lessF n, spec_P6PickF n, impl_NearestToF n, spec_SubFracsF n, spec_DivFracsF n, spec_P6ListF n, impl_MeanOfF n, impl_MiddleOfF n, spec_MiddleOfF n, impl_SumOfF n]) (N := 422) (kp := laws_FnFracskp) (c := laws_FnFracsc) (n := n) (G := fun x y => laws_FnFracs n x.1 x.2.1) follows (AllOk.mem (⟨laws_f6big_ok n, ⟨spec_P6Frac_ok n, ⟨impl_FracText_ok n, ⟨impl_ReadFrac_ok n, ⟨impl_MakeFrac_ok n, ⟨impl_AddFracs_ok n, ⟨impl_SubFracs_ok n, ⟨spec_AddFracs_ok n, ⟨impl_ValidFrac_ok n, ⟨impl_MulFracs_ok n, ⟨spec_MulFracs_ok n, ⟨impl_DivFracs_ok n, ⟨impl_CompareFracs_ok n, ⟨impl_FloorOf_ok n, ⟨laws_f6less_ok n, ⟨spec_P6Pick_ok n, ⟨impl_NearestTo_ok n, ⟨spec_SubFracs_ok n, ⟨spec_DivFracs_ok n, ⟨spec_P6List_ok n, ⟨impl_MeanOf_ok n, ⟨impl_MiddleOf_ok n, ⟨spec_MiddleOf_ok n, ⟨impl_SumOf_ok n, trivial⟩⟩⟩⟩⟩⟩⟩⟩⟩⟩⟩⟩⟩⟩⟩⟩⟩⟩⟩⟩⟩⟩⟩⟩ : AllOk P ([laws_f6bigF n, spec_P6FracF n, impl_FracTextF n, impl_ReadFracF n, impl_MakeFracF n, impl_AddFracsF n, impl_SubFracsF n, spec_AddFracsF n, impl_ValidFracF n, impl_MulFracsF n, spec_MulFracsF n, impl_DivFracsF n, impl_CompareFracsF n, impl_FloorOfF n, laws_f6lessF n, spec_P6PickF n, impl_NearestToF n, spec_SubFracsF n, spec_DivFracsF n, spec_P6ListF n, impl_MeanOfF n, impl_MiddleOfF n, spec_MiddleOfF n, impl_SumOfF n]))) (by kernel_rfl : P.funcs[3]? = some Go.Proofs.Tryz.f3) (by kernel_rfl) (by kernel_rfl) (by kernel_rfl)
    (fun x y => laws_FnFracs_eq n x.1 x.2.1) (fun _ _ => map_same (fun _ => rfl) _) (fun _ _ _ _ => rfl)

end Go.Abs
