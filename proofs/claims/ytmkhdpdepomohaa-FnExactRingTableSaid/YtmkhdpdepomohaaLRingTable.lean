/- The plain law of RingTable. -/
import Derived.Test.YtmkhdpdepomohaaRingP
import Derived.Test.YtmkhdpdepomohaaTrod
namespace Go.Abs
set_option linter.unusedSectionVars false
set_option linter.unusedSimpArgs false
set_option linter.unusedVariables false

theorem law_FnExactRingTable (D : List Fq) (t : Fq) (hD : WfD (.list (.pair (.int .i64) (.int .i64))) D) (_ : WfD (.pair (.int .i64) (.int .i64)) t) : laws_FnExactRingTable N0 D t = r1 true := by
  have hb : D.length ≤ 9223372036854775807 := hD.1
  obtain ⟨r, h1, h2, h3⟩ := laws_szFracS_is D 1048576 hb (by omega)
  simp only [laws_FnExactRingTable, laws_FnExactRingTable_t, pr_eta, h1, Option.bind_some]
  by_cases hr : r < 0
  · rw [dec_t hr]; rfl
  · have hl := h3 (by omega)
    have ho := ringT_len D t
    simp only [dec_f hr, cond_false, Option.bind_some, laws_toFracS_is D hl, fl_toFrac_is, pr_eta, spec_RingTable_is D t hb, impl_RingTable_is D t hb, laws_eqTable_refl _ ho, beq_self_eq_true, Bool.not_true, bne_self_eq_false, laws_eqFracS_refl D hl,
      laws_markFracS_is D hl, two_nn, laws_markTable_is _ _ ho, laws_heldTable_is _ _ _ ho, nine_nn]
end Go.Abs
