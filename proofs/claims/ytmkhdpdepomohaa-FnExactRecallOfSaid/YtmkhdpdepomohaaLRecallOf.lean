/- The plain law of RecallOf. -/
import Derived.Test.YtmkhdpdepomohaaRecall
import Derived.Test.YtmkhdpdepomohaaMarkStd
namespace Go.Abs
set_option linter.unusedSectionVars false
set_option linter.unusedSimpArgs false
set_option linter.unusedVariables false

theorem law_FnExactRecallOf (v : List Std) (i : Int) (day : Int) (hw : WfD (.list (.pair .str (.pair (.int .i64) (.pair (.pair (.pair (.int .i64) (.int .i64)) (.pair (.int .i64) (.int .i64))) (.pair (.pair (.int .i64) (.int .i64)) (.pair (.int .i64) (.int .i64))))))) v) (_ : WfD (.int .i64) i) (_ : WfD (.int .i64) day) : laws_FnExactRecallOf N0 v i day = r1 true := by
  have hv : Sized v := chain_wf hw
  obtain ⟨r, h1, h2, h3⟩ := laws_szStandardS_is v hv.1 hv.2 1048576 (by omega)
  simp only [laws_FnExactRecallOf, laws_FnExactRecallOf_t, h1, Option.bind_some]
  by_cases hr : r < 0
  · rw [dec_t hr]; rfl
  · have hl := h3 (by omega)
    obtain ⟨o, c, hs, ho⟩ := sinceRes_ex v i day day
    obtain ⟨m, b', hm, hm1⟩ := laws_markStandardS_ex v hl
    simp only [dec_f hr, cond_false, laws_toStandardS_is v hl, Option.bind_some, spec_RecallOf_is v i day hv, impl_RecallOf_is v i day hv, hs, laws_eqInt64S_is _ _ ho, beq_self_eq_true, Bool.not_true, bne_self_eq_false, laws_eqStandardS_refl v hl, hm,
      dec_f (p := m < 0) (by omega), laws_markInt64S_is _ ho, one_nn, laws_heldInt64S_is _ ho]
end Go.Abs
