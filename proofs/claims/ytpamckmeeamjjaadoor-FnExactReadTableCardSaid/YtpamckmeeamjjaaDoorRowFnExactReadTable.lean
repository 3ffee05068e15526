/- The law FnExactReadTable says true for every input, and leaves its arguments as they were: its row, out of the plain law. No conditions. -/
import Derived.Test.YtpamckmeeamjjaaDoorLReadTable
import Derived.Test.YtpamckmeeamjjaaDoorEReadTable0
import Derived.Test.YtpamckmeeamjjaaDoorRows
import Derived.WalkKit
import Derived.ProofKit
import Derived.OpenShut
import Derived.ShutString
import Derived.ChangeOld
import Derived.SizedLaws
import Derived.Carry
import Derived.Test.YtpamckmeeamjjaaDoorCards
import Derived.Test.YtpamckmeeamjjaaDoorTie
import Derived.Lay
import Derived.LaidLaws
import Derived.LaidOnce
import Derived.PinnedBridge
import Derived.SevenTiedAt
import Derived.Stop.LaidErr
namespace Go.Proofs.YtpamckmeeamjjaaDoor
open Go.Abs
open Go.ChangeShapes Go.WideShapes Go.ChangeAt Go.RowKit
set_option linter.unusedVariables false
set_option maxRecDepth 100000
theorem FnExactReadTable_own : ownKnob Tryd.prog.godebug = none := by kernel_rfl
theorem FnExactReadTable_laidOut : laidOutB Tryd.prog = true := by kernel_rfl

set_option maxRecDepth 1000000 in
theorem FnExactReadTable_lifted (os : Os) (started : os.Started) (H : Type) (enc : TypeId × Value → H) :
    ReturnsInHanded {} Tryd.checked os 3 .any (fun w args => (Rows.fnExactReadTableSpec.pre enc Tryd.prog Tryd.f3 Rows.fnExactReadTableRow.domain false w args ∧ laidMetH Tryd.prog Rows.fnExactReadTableRow.laid w) ∧ sizedMet enc Tryd.prog Tryd.f3 (OpenSpec.ofChange Rows.fnExactReadTableSpec) false w args)
      (Rows.fnExactReadTableSpec.post enc Tryd.prog Tryd.f3 false true false false) := by
  refine change_and_shaped (C := Tryd.checked) (X := fun w _ => laidMetH Tryd.prog Rows.fnExactReadTableRow.laid w) (fun _ _ _ hh h => h.of_heap hh) FnExactReadTable_own started (by kernel_rfl) Tryd.func3
    (ChangeSpec.witness_shaped (enc := enc) (C := Tryd.checked) (os := os) (X := fun w _ => laidMetH Tryd.prog Rows.fnExactReadTableRow.laid w) false (World.laidAll Tryd.prog os Rows.fnExactReadTableRow.laid) #[.string ⟨#[]⟩] 8 (World.laidAll_os _ _ _)
      (World.shaped_of_ZipB (by kernel_rfl) (by kernel_rfl)) (by kernel_rfl) (by kernel_rfl) (by kernel_rfl)
      (by rw [MakeChecks.laidMetH_plain _ _ _ (by kernel_rfl)]; exact laidMet_laidAll _ (by kernel_rfl) (by kernel_rfl))) ?_
  intro W base args ds gs before hval0 hW hL0 hsh
  rw [MakeChecks.laidMetH_plain _ _ _ (by kernel_rfl)] at hL0
  have hL : Laid.L P W := ⟨Go.Lib.tabIs_of_head (t := 138) (e := 105) (n := 20) globPow (by kernel_rfl) (by kernel_rfl) (by kernel_rfl) (by kernel_rfl) (by kernel_rfl) (laid_as (by kernel_rfl) hL0.tail.tail), Tryd.maxLen_int W hsh, laid_iface (ti := 93) (by kernel_rfl) (by kernel_rfl) Tryd.underlying93 hL0.tail.tail.tail.tail.tail, laid_iface (ti := 93) (by kernel_rfl) (by kernel_rfl) Tryd.underlying93 hL0.tail.tail.tail.tail⟩
  have hval : ∀ (j : Nat) t v, Tryd.f3.params[j]? = some t → args[j]? = some v → Value.okWide Tryd.prog W .any base t v := hval0
  have hW' := hW
  obtain ⟨p, q, hA0, hV, rfl, hfz, hnd⟩ := hW
  have hA : DataW.TrodAll enc Tryd.prog W 0 (fun _ => true) true Tryd.f3.params.toList args.toList ds p := hA0
  rw [Tryd.params3] at hA hval
  obtain ⟨v0, vs0, d0, ds0, p0, q0, hargs, rfl, rfl, h0, r0⟩ := trodAll_cons hA
  obtain ⟨rfl, rfl, rfl⟩ := trodAll_nil r0
  obtain rfl : args = #[v0] := by cases args; simp_all
  obtain ⟨rfl, rfl⟩ := trodVars_none hV
  have k0 := h0
  have lt0 : ∀ x ∈ p0, x.block < W.heap.size := by obtain ⟨m, hm⟩ := k0; exact DataW.trod_lt m _ _ _ hm
  obtain ⟨x0, a0, w0⟩ := arg_rv' (J := allRg W) (β := fun _ => none) (σ := listF []) (n := 11) (tc := .str) (ag := false) (by kernel_rfl) (by kernel_rfl) (hval 0 9 v0 rfl rfl) h0
  have hr := law_FnExactReadTable x0 w0
  refine (law_below (laws_FnExactReadTable_ok N0) (x := (x0, ())) (y := ()) rfl hr rfl (laid_lt hL) hL (vs := [v0]) ⟨v0, _, rfl, a0, rfl⟩).mono fun e W' ⟨he, bel⟩ => ?_
  subst he
  exact ⟨_, rfl, _, _, _, [], _, [], hW', trodAll_mk1 (shut_bool Tryd.underlying4 _), (trodAll_cons_mk (Below.trod FnExactReadTable_laidOut (by kernel_rfl) (of_decide_eq_true (by kernel_rfl)) k0 bel lt0) trodAll_mk0), rfl, bel.frame _, fun h => by cases h⟩

theorem FnExactReadTable_rowholds : Rows.FnExactReadTableSaid :=
  OpenClaim.holds_of_wide 3 Tryd.f3 rfl rfl rfl rfl rfl rfl rfl ⟨rfl, rfl, rfl, rfl, rfl⟩ rfl rfl rfl rfl rfl (by kernel_rfl) Tryd.func3 (by kernel_rfl)
    (of_decide_eq_true (by kernel_rfl)) (by unfold Func.isWrapper; first | (rw [if_pos (by decide +kernel)]; kernel_rfl) | (rw [if_neg (by decide +kernel)]; exact ⟨rfl, rfl⟩))
    (fun os started H enc _ => FnExactReadTable_lifted os started H enc)

theorem FnExactReadTable_holds : Rows.FnExactReadTableCardSaid :=
  Claim7.holds_tied_plain_at .later [] [.data, .data, .data, .data, .sentinel, .sentinel, .pinned] true (true, "e3ae4dc13597b6af257a8d6221196e678c96c293434a96f54725f10c49218516") true FnExactReadTable_rowholds (fun _ h => by cases h) (by kernel_rfl) (fun _ h => by cases h) fnExactReadTable_row_tie rfl ⟨rfl, rfl⟩ (by kernel_rfl) rfl
    (fun f fn hf hfn => by
      obtain rfl : f = 3 := Option.some.inj ((show Tryd.prog.funcNamed Rows.fnExactReadTableRow.func = some 3 by kernel_rfl).symm.trans hf) |>.symm
      obtain rfl : fn = Tryd.f3 := (Option.some.inj (Tryd.func3.symm.trans hfn)).symm
      exact ⟨by kernel_rfl, fun j t ht => by
        rw [Tryd.params3] at ht
        have hm : t ∈ [9] := by simpa using Array.mem_of_getElem? ht
        have hall : ([9].all fun u => !Tryd.prog.wantsStandIn u) = true := by kernel_rfl
        exact (show Tryd.prog.wantsStandIn t = false by simpa using List.all_eq_true.1 hall t hm)⟩)
    (by kernel_rfl)
end Go.Proofs.YtpamckmeeamjjaaDoor
