/- The plain law of RenewStandard. -/
import Derived.Test.YtmkhdpdepomohaaRenew
namespace Go.Abs
set_option linter.unusedSectionVars false
set_option linter.unusedSimpArgs false
set_option linter.unusedVariables false

theorem law_FnExactRenewStandard (v : List Std) (i from_ : Int) (s : Spn) (day : Int) (hw : WfD (.list (.pair .str (.pair (.int .i64) (.pair (.pair (.pair (.int .i64) (.int .i64)) (.pair (.int .i64) (.int .i64))) (.pair (.pair (.int .i64) (.int .i64)) (.pair (.int .i64) (.int .i64))))))) v) (_ : WfD (.int .i64) i) (_ : WfD (.int .i64) from_)
    (_ : WfD (.pair (.pair (.int .i64) (.int .i64)) (.pair (.int .i64) (.int .i64))) s) (_ : WfD (.int .i64) day) : laws_FnExactRenewStandard N0 v i from_ s day = r1 true := by
  have hv : Sized v := chain_wf hw
  obtain ⟨r, h1, h2, h3⟩ := laws_szStandardS_is v hv.1 hv.2 1048576 (by omega)
  simp only [laws_FnExactRenewStandard, laws_FnExactRenewStandard_t, h1, Option.bind_some]
  by_cases hr : r < 0
  · rw [dec_t hr]; rfl
  · have hl := h3 (by omega)
    obtain ⟨o, c, hs, ho⟩ := renRes_ex v i from_ s day hl
    simp only [dec_f hr, cond_false, laws_toStandardS_is v hl, laws_toSpan_is, Option.bind_some, pr_eta, spec_RenewStandard_is v i from_ s day hv hl, impl_RenewStandard_is v i from_ s day hv hl, hs, laws_eqStandardS_refl o ho, beq_self_eq_true, Bool.not_true, bne_self_eq_false, laws_eqStandardS_refl v hl,
      laws_markStandardS_is v hl, laws_markStandardS_is o ho, laws_heldStandardS_is _ ho, dec_f (p := 1 + 10 * (v.length : Int) < 0) (by omega), dec_f (p := 1 + 10 * (o.length : Int) < 0) (by omega)]
end Go.Abs
