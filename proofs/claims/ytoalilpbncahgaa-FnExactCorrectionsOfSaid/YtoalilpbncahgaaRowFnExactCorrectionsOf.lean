/- The law FnExactCorrectionsOf says true for every input, and leaves its arguments as they were: its row, out of the plain law. No conditions. -/
import Derived.Test.YtoalilpbncahgaaUCorrectionsOf0
import Derived.Test.YtoalilpbncahgaaECorrectionsOf1
import Derived.Test.YtoalilpbncahgaaRows
import Derived.WalkKit
import Derived.ProofKit
import Derived.OpenShut
import Derived.ShutString
import Derived.ChangeOld
import Derived.SizedLaws
import Derived.Carry
namespace Go.Proofs.Ytoalilpbncahgaa
open Go.Abs
open Go.ChangeShapes Go.WideShapes Go.ChangeAt Go.RowKit
set_option linter.unusedVariables false
set_option maxRecDepth 100000
theorem FnExactCorrectionsOf_own : ownKnob Try.prog.godebug = none := by kernel_rfl
theorem FnExactCorrectionsOf_laidOut : laidOutB Try.prog = true := by kernel_rfl

theorem FnExactCorrectionsOf_lifted (os : Os) (started : os.Started) (H : Type) (enc : TypeId × Value → H) :
    ReturnsInHanded {} Try.checked os 8 .any (Rows.fnExactCorrectionsOfSpec.pre6 enc Try.prog Try.f8 Rows.fnExactCorrectionsOfRow.domain false) (Rows.fnExactCorrectionsOfSpec.post enc Try.prog Try.f8 false true false false) := by
  refine returnsInHanded_of_change_sized (C := Try.checked) FnExactCorrectionsOf_own started (by kernel_rfl) Try.func8
    (ChangeSpec.witness6 (enc := enc) (C := Try.checked) false ⟨#[], #[.agg #[.int .i64 0, .slice none 0 0, .bool false, .int .i64 0, .int .i64 0]], []⟩ 8 (by kernel_rfl) (by kernel_rfl) (by kernel_rfl) (by kernel_rfl)) ?_
  intro W base args ds gs before hval0 hW hcnd hsz0 _
  have hval : ∀ (j : Nat) t v, Try.f8.params[j]? = some t → args[j]? = some v → Value.okWide Try.prog W .any base t v := hval0
  have hW' := hW
  obtain ⟨p, q, hA0, hV, rfl, hfz, hnd⟩ := hW
  have hA : DataW.TrodAll enc Try.prog W 0 (fun _ => true) true Try.f8.params.toList args.toList ds p := hA0
  rw [Try.params8] at hA hval
  obtain ⟨v0, vs0, d0, ds0, p0, q0, hargs, rfl, rfl, h0, r0⟩ := trodAll_cons hA
  obtain ⟨rfl, rfl, rfl⟩ := trodAll_nil r0
  obtain rfl : args = #[v0] := by cases args; simp_all
  obtain ⟨rfl, rfl⟩ := trodVars_none hV
  have k0 := h0
  have lt0 : ∀ x ∈ p0, x.block < W.heap.size := by obtain ⟨m, hm⟩ := k0; exact DataW.trod_lt m _ _ _ hm
  obtain ⟨x0, a0, w0⟩ := arg_rv' (J := allRg W) (β := fun _ => none) (σ := listF []) (n := 11) (tc := (.pair (.int .i64) (.pair (.list (.pair (.pair (.int .i8) (.pair (.int .i8) (.pair (.int .i8) (.pair (.int .i8) (.pair (.int .i8) (.int .i8)))))) (.pair (.pair (.int .i64) (.int .i64)) (.int .i64)))) (.pair .bool (.pair (.int .i64) (.int .i64)))))) (ag := true) (by kernel_rfl) (by kernel_rfl) (hval 0 76 v0 rfl rfl) h0
  have hr := law_FnExactCorrectionsOf x0 w0
  refine (law_below (laws_FnExactCorrectionsOf_ok N0) (x := (x0, ())) (y := ()) rfl hr rfl (fun _ h => h.elim) trivial (vs := [v0]) ⟨v0, _, rfl, a0, rfl⟩).mono fun e W' ⟨he, bel⟩ => ?_
  subst he
  exact ⟨_, rfl, _, _, _, [], _, [], hW', trodAll_mk1 (shut_bool Try.underlying4 _), (trodAll_cons_mk (Below.trod FnExactCorrectionsOf_laidOut (by kernel_rfl) (of_decide_eq_true (by kernel_rfl)) k0 bel lt0) trodAll_mk0), rfl, bel.frame _, fun h => by cases h⟩

theorem FnExactCorrectionsOf_holds : Rows.FnExactCorrectionsOfSaid :=
  OpenClaim.holds_of_wide 8 Try.f8 rfl rfl rfl rfl rfl rfl rfl ⟨rfl, rfl, rfl, rfl, rfl⟩ rfl rfl rfl rfl rfl (by kernel_rfl) Try.func8 (by kernel_rfl)
    (of_decide_eq_true (by kernel_rfl)) (by unfold Func.isWrapper; first | (rw [if_pos (by decide +kernel)]; kernel_rfl) | (rw [if_neg (by decide +kernel)]; exact ⟨rfl, rfl⟩))
    (fun os started H enc _ => FnExactCorrectionsOf_lifted os started H enc)
end Go.Proofs.Ytoalilpbncahgaa
