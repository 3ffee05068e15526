/- The law FnLeast says true for every input, and leaves its arguments as they were: its row, out of the plain law. No conditions. -/
import Derived.Test.YtbapchkhohnncaaGreatDoorUPLeast1
import Derived.Test.YtbapchkhohnncaaGreatDoorEPLeast1
import Derived.Test.YtbapchkhohnncaaGreatDoorRows
import Derived.WalkKit
import Derived.ProofKit
import Derived.OpenShut
import Derived.ShutString
import Derived.ChangeOld
import Derived.SizedLaws
import Derived.Carry
import Derived.Test.YtbapchkhohnncaaGreatDoorCards
import Derived.Test.YtbapchkhohnncaaGreatDoorTie
import Derived.Lay
import Derived.LaidLaws
import Derived.LaidOnce
import Derived.PinnedBridge
import Derived.SevenTiedAt
import Derived.Stop.LaidErr
namespace Go.Proofs.YtbapchkhohnncaaGreatDoor
open Go.Abs
open Go.ChangeShapes Go.WideShapes Go.ChangeAt Go.RowKit
set_option linter.unusedVariables false
set_option maxRecDepth 100000
theorem FnLeast_own : ownKnob Tryz.prog.godebug = none := by kernel_rfl
theorem FnLeast_laidOut : laidOutB Tryz.prog = true := by kernel_rfl

set_option maxRecDepth 1000000 in
theorem FnLeast_lifted (os : Os) (started : os.Started) (H : Type) (enc : TypeId × Value → H) :
    ReturnsInHanded {} Tryz.checked os 3 .any (fun w args => (Rows.fnLeastSpec.pre enc Tryz.prog Tryz.f3 Rows.fnLeastRow.domain false w args ∧ laidMetH Tryz.prog Rows.fnLeastRow.laid w) ∧ sizedMet enc Tryz.prog Tryz.f3 (OpenSpec.ofChange Rows.fnLeastSpec) false w args)
      (Rows.fnLeastSpec.post enc Tryz.prog Tryz.f3 false true false false) := by
  refine Z0 (C := Tryz.checked) (X := fun w _ => laidMetH Tryz.prog Rows.fnLeastRow.laid w) (fun _ _ _ hh h => h.of_heap hh) FnLeast_own started (by kernel_rfl) Tryz.func3
    (ChangeSpec.witness_shaped (enc := enc) (C := Tryz.checked) (os := os) (X := fun w _ => laidMetH Tryz.prog Rows.fnLeastRow.laid w) false (World.laidAll Tryz.prog os Rows.fnLeastRow.laid) #[.slice none 0 0, .slice none 0 0] 8 (World.laidAll_os _ _ _)
      (World.shaped_of_ZipB (by kernel_rfl) (by kernel_rfl)) (by kernel_rfl) (by kernel_rfl) (by kernel_rfl)
      (by rw [MakeChecks.laidMetH_plain _ _ _ (by kernel_rfl)]; exact laidMet_laidAll _ (by kernel_rfl) (by kernel_rfl))) ?_
  intro W base args ds gs before hval0 hW hL0 hsh
  rw [MakeChecks.laidMetH_plain _ _ _ (by kernel_rfl)] at hL0
  have hL : Laid.L P W := ⟨Go.Lib.tabIs_of_head (t := 171) (e := 106) (n := 20) Z630 (by kernel_rfl) (by kernel_rfl) (by kernel_rfl) (by kernel_rfl) (by kernel_rfl) (Z646 (by kernel_rfl) hL0.tail.tail), Tryz.maxLen_int W hsh, Z216 (ti := 112) (by kernel_rfl) (by kernel_rfl) Tryz.underlying112 hL0.tail.tail.tail.tail.tail, Z216 (ti := 112) (by kernel_rfl) (by kernel_rfl) Tryz.underlying112 hL0.tail.tail.tail.tail⟩
  have hval : ∀ (j : Nat) t v, Tryz.f3.params[j]? = some t → args[j]? = some v → Value.okWide Tryz.prog W .any base t v := hval0
  have hW' := hW
  obtain ⟨p, q, hA0, hV, rfl, hfz, hnd⟩ := hW
  have hA : DataW.TrodAll enc Tryz.prog W 0 (fun _ => true) true Tryz.f3.params.toList args.toList ds p := hA0
  rw [Tryz.params3] at hA hval
  obtain ⟨v0, vs0, d0, ds0, p0, q0, hargs, rfl, rfl, h0, r0⟩ := trodAll_cons hA
  obtain ⟨v1, vs1, d1, ds1, p1, q1, rfl, rfl, rfl, h1, r1⟩ := trodAll_cons r0
  obtain ⟨rfl, rfl, rfl⟩ := trodAll_nil r1
  obtain rfl : args = #[v0, v1] := by cases args; simp_all
  obtain ⟨rfl, rfl⟩ := trodVars_none hV
  have k0 := h0
  have k1 := h1
  have lt0 : ∀ x ∈ p0, x.block < W.heap.size := by obtain ⟨m, hm⟩ := k0; exact DataW.trod_lt m _ _ _ hm
  have lt1 : ∀ x ∈ p1, x.block < W.heap.size := by obtain ⟨m, hm⟩ := k1; exact DataW.trod_lt m _ _ _ hm
  obtain ⟨x0, a0, w0⟩ := Z569 (J := allRg W) (β := fun _ => none) (σ := listF []) (n := 11) (tc := (.list (.int .u8))) (ag := false) (by kernel_rfl) (by kernel_rfl) (hval 0 22 v0 rfl rfl) h0
  obtain ⟨x1, a1, w1⟩ := Z569 (J := allRg W) (β := fun _ => none) (σ := listF []) (n := 11) (tc := (.list (.int .u8))) (ag := false) (by kernel_rfl) (by kernel_rfl) (hval 1 22 v1 rfl rfl) h1
  have hr := law_FnLeast x0 x1 w0 w1
  refine (Z321 (laws_FnLeast_ok N0) (x := (x0, (x1, ()))) (y := ()) rfl hr rfl (Z647 hL) hL (vs := [v0, v1]) ⟨v0, _, rfl, a0, v1, _, rfl, a1, rfl⟩).mono fun e W' ⟨he, bel⟩ => ?_
  subst he
  exact ⟨_, rfl, _, _, _, [], _, [], hW', trodAll_mk1 (shut_bool Tryz.underlying4 _), (trodAll_cons_mk (Below.trod FnLeast_laidOut (by kernel_rfl) (of_decide_eq_true (by kernel_rfl)) k0 bel lt0) (trodAll_cons_mk (Below.trod FnLeast_laidOut (by kernel_rfl) (of_decide_eq_true (by kernel_rfl)) k1 bel lt1) trodAll_mk0)), rfl, bel.frame _, fun h => by cases h⟩

theorem FnLeast_rowholds : Rows.FnLeastSaid :=
  OpenClaim.holds_of_wide 3 Tryz.f3 rfl rfl rfl rfl rfl rfl rfl ⟨rfl, rfl, rfl, rfl, rfl⟩ rfl rfl rfl rfl rfl (by kernel_rfl) Tryz.func3 (by kernel_rfl)
    (of_decide_eq_true (by kernel_rfl)) (by unfold Func.isWrapper; first | (rw [if_pos (by decide +kernel)]; kernel_rfl) | (rw [if_neg (by decide +kernel)]; exact ⟨rfl, rfl⟩))
    (fun os started H enc _ => FnLeast_lifted os started H enc)

theorem FnLeast_holds : Rows.FnLeastCardSaid :=
  Claim7.holds_tied_plain_at .later [] [.data, .data, .data, .data, .sentinel, .sentinel, .pinned] true (true, "ab9710b1d0bf5ff1821d427ec44984c746664729e70618cdd64699dd1ba8b713") true FnLeast_rowholds (fun _ h => by cases h) (by kernel_rfl) (fun _ h => by cases h) fnLeast_row_tie rfl ⟨rfl, rfl⟩ (by kernel_rfl) rfl
    (fun f fn hf hfn => by
      obtain rfl : f = 3 := Option.some.inj ((show Tryz.prog.funcNamed Rows.fnLeastRow.func = some 3 by kernel_rfl).symm.trans hf) |>.symm
      obtain rfl : fn = Tryz.f3 := (Option.some.inj (Tryz.func3.symm.trans hfn)).symm
      exact ⟨by kernel_rfl, fun j t ht => by
        rw [Tryz.params3] at ht
        have hm : t ∈ [22, 22] := by simpa using Array.mem_of_getElem? ht
        have hall : ([22, 22].all fun u => !Tryz.prog.wantsStandIn u) = true := by kernel_rfl
        exact (show Tryz.prog.wantsStandIn t = false by simpa using List.all_eq_true.1 hall t hm)⟩)
    (by kernel_rfl)
end Go.Proofs.YtbapchkhohnncaaGreatDoor
