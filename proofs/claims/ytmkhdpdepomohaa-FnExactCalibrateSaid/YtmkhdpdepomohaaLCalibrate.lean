/- The plain law of Calibrate. -/
import Derived.Test.YtmkhdpdepomohaaRenew
namespace Go.Abs
set_option linter.unusedSectionVars false
set_option linter.unusedSimpArgs false
set_option linter.unusedVariables false

theorem law_FnExactCalibrate (v : List Std) (x : Std) (hw : WfD (.list (.pair .str (.pair (.int .i64) (.pair (.pair (.pair (.int .i64) (.int .i64)) (.pair (.int .i64) (.int .i64))) (.pair (.pair (.int .i64) (.int .i64)) (.pair (.int .i64) (.int .i64))))))) v)
    (hx : WfD (.pair .str (.pair (.int .i64) (.pair (.pair (.pair (.int .i64) (.int .i64)) (.pair (.int .i64) (.int .i64))) (.pair (.pair (.int .i64) (.int .i64)) (.pair (.int .i64) (.int .i64)))))) x) : laws_FnExactCalibrate N0 v x = r1 true := by
  have hv : Sized v := chain_wf hw
  have hx : x.1.size ≤ 9223372036854775807 := hx.1
  obtain ⟨r, h1, h2, h3⟩ := laws_szStandardS_is v hv.1 hv.2 1048576 (by omega)
  simp only [laws_FnExactCalibrate, laws_FnExactCalibrate_t, h1, Option.bind_some]
  by_cases hr : r < 0
  · rw [dec_t hr]; rfl
  · have hl := h3 (by omega)
    obtain ⟨o, c, hs, ho⟩ := calRes_ex v x hl
    rw [dec_f hr, cond_false]
    simp only [pr_eta]
    cases hz : laws_szStandard N0 x r with
    | none => exfalso; simp only [laws_szStandard, laws_szStandard_t] at hz; cases h9 : decide (IntKind.wrap .i64 (r - ((x.1.size : Nat) : Int)) < 0) <;> rw [h9] at hz <;> cases hz
    | some q =>
      rw [Option.bind_some]
      cases decide (q.1.1.1 < 0) with
      | true => rfl
      | false =>
        simp only [cond_false, laws_toStandardS_is v hl, laws_toStandard_is, Option.bind_some, pr_eta, spec_Calibrate_is v x hv hl hx, impl_Calibrate_is v x hv hl hx, hs, laws_eqStandardS_refl o ho, beq_self_eq_true, Bool.not_true, bne_self_eq_false, laws_eqStandardS_refl v hl,
          laws_markStandardS_is v hl, laws_markStandardS_is o ho, laws_heldStandardS_is _ ho, dec_f (p := 1 + 10 * (v.length : Int) < 0) (by omega), dec_f (p := 1 + 10 * (o.length : Int) < 0) (by omega)]
end Go.Abs
