/- The plain law of SpanOn. -/
import Derived.Test.YtcdefpkpinfjfaaChainP
import Derived.Test.YtcdefpkpinfjfaaChainL
namespace Go.Abs
set_option linter.unusedSectionVars false
set_option linter.unusedSimpArgs false
set_option linter.unusedVariables false

theorem law_FnExactSpanOn (v : List Std) (i day : Int) (hw : WfD (.list (.pair .str (.pair (.int .i64) (.pair (.pair (.pair (.int .i64) (.int .i64)) (.pair (.int .i64) (.int .i64))) (.pair (.pair (.int .i64) (.int .i64)) (.pair (.int .i64) (.int .i64))))))) v) (_ : WfD (.int .i64) i) (_ : WfD (.int .i64) day) : laws_FnExactSpanOn N0 v i day = r1 true := by
  have hv : Sized v := chain_wf hw
  obtain ⟨r, h1, h2, h3⟩ := laws_szStandardS_is v hv.1 hv.2 1048576 (by omega)
  simp only [laws_FnExactSpanOn, laws_FnExactSpanOn_t, h1, Option.bind_some]
  by_cases hr : r < 0
  · rw [dec_t hr]; rfl
  · have hl := h3 (by omega)
    obtain ⟨s, c, hs⟩ : ∃ s c, spanOnRes v i day = r2 s c := by
      unfold spanOnRes spanRes
      cases atC v i day != 0 with
      | true => exact ⟨_, _, rfl⟩
      | false =>
        cases goodOn (v.getD i.toNat dStd) day with
        | false => exact ⟨_, _, rfl⟩
        | true => cases (alongG v day (pathUp v N0 i) s0).2 <;> exact ⟨_, _, rfl⟩
    simp only [dec_f hr, cond_false, laws_toStandardS_is v hl, Option.bind_some, spec_SpanOn_is v i day hv, impl_SpanOn_is v i day hv, hs, pr_eta, laws_eqSpan_refl, Bool.not_true, bne_self_eq_false, laws_eqStandardS_refl v hl]
end Go.Abs
