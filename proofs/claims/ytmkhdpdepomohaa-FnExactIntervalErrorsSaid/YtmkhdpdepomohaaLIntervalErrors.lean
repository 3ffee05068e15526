/- The plain law of IntervalErrors. -/
import Derived.Test.YtmkhdpdepomohaaIntvP
import Derived.Test.YtmkhdpdepomohaaTrod
namespace Go.Abs
set_option linter.unusedSectionVars false
set_option linter.unusedSimpArgs false
set_option linter.unusedVariables false

theorem law_FnExactIntervalErrors (s : Sc) (hs : WfD (.pair (.pair (.int .i64) (.int .i64)) (.list (.pair (.int .i64) (.int .i64)))) s) : laws_FnExactIntervalErrors N0 s = r1 true := by
  have hb : s.2.length ≤ 9223372036854775807 := hs.2.1
  obtain ⟨r, h1, h2, h3⟩ := laws_szFracS_is s.2 1048576 hb (by omega)
  simp only [laws_FnExactIntervalErrors, laws_FnExactIntervalErrors_t, pr_eta, laws_szScale, laws_szScale_t, h1, Option.bind_some]
  by_cases hr : r < 0
  · rw [dec_t hr]; rfl
  · have hl := h3 (by omega)
    obtain ⟨o, c, hs, ho⟩ := intRes_ex s
    simp only [dec_f hr, cond_false, Option.bind_some, laws_toScale_is s hl, pr_eta, spec_IntervalErrors_is s hb, impl_IntervalErrors_is s hb, hs, laws_eqFracS_refl _ ho, beq_self_eq_true, Bool.not_true, bne_self_eq_false, laws_eqScale_refl s hl,
      laws_markScale_is _ s.2 hl, two_nn, laws_markFracS_is _ ho, laws_heldFracS_is _ ho]
end Go.Abs
