/- The plain law of PairTable. -/
import Derived.Test.YtipjecagbndhbaaPairP
import Derived.Test.YtipjecagbndhbaaTrod
namespace Go.Abs
set_option linter.unusedSectionVars false
set_option linter.unusedSimpArgs false
set_option linter.unusedVariables false

theorem law_FnExactPairTable (s : Sc) (hs : WfD (.pair (.pair (.int .i64) (.int .i64)) (.list (.pair (.int .i64) (.int .i64)))) s) : laws_FnExactPairTable N0 s = r1 true := by
  have hb : s.2.length ≤ 9223372036854775807 := hs.2.1
  obtain ⟨r, h1, h2, h3⟩ := laws_szFracS_is s.2 1048576 hb (by omega)
  simp only [laws_FnExactPairTable, laws_FnExactPairTable_t, pr_eta, laws_szScale, laws_szScale_t, h1, Option.bind_some]
  by_cases hr : r < 0
  · rw [dec_t hr]; rfl
  · have hl := h3 (by omega)
    have ho := pairT_len s
    simp only [dec_f hr, cond_false, Option.bind_some, laws_toScale_is s hl, pr_eta, spec_PairTable_is s hb, impl_PairTable_is s hb, laws_eqTable_refl _ ho, beq_self_eq_true, Bool.not_true, bne_self_eq_false, laws_eqScale_refl s hl,
      laws_markScale_is _ s.2 hl, two_nn, laws_markTable_is _ _ ho, laws_heldTable_is _ _ _ ho, nine_nn]
end Go.Abs
