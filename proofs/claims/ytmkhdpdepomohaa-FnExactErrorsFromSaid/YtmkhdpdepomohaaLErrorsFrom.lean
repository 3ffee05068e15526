/- The plain law of ErrorsFrom. -/
import Derived.Test.YtmkhdpdepomohaaErrsP
import Derived.Test.YtmkhdpdepomohaaTrod
namespace Go.Abs
set_option linter.unusedSectionVars false
set_option linter.unusedSimpArgs false
set_option linter.unusedVariables false

theorem laws_heldScale_is (u : Fq) (m : Nat) (hm : m ≤ 1048576) : laws_heldScale N0 (u, marksF 0 m) 1 = r1 (1 + 2 * (m : Int)) := by
  simp only [laws_heldScale, laws_heldScale_t, laws_heldFracS_is m hm, Option.bind_some, two_nn, cond_false]

theorem law_FnExactErrorsFrom (u a : Fq) (L : List Fq) (_ : WfD (.pair (.int .i64) (.int .i64)) u) (_ : WfD (.pair (.int .i64) (.int .i64)) a) (hL : WfD (.list (.pair (.int .i64) (.int .i64))) L) : laws_FnExactErrorsFrom N0 u a L = r1 true := by
  have hb : L.length ≤ 9223372036854775807 := hL.1
  obtain ⟨r, h1, h2, h3⟩ := laws_szFracS_is L 1048576 hb (by omega)
  simp only [laws_FnExactErrorsFrom, laws_FnExactErrorsFrom_t, pr_eta, h1, Option.bind_some]
  by_cases hr : r < 0
  · rw [dec_t hr]; rfl
  · have hl := h3 (by omega)
    have ho := errT_len u a L
    simp only [dec_f hr, cond_false, Option.bind_some, laws_toFracS_is L hl, fl_toFrac_is, pr_eta, spec_ErrorsFrom_is u a L hb, impl_ErrorsFrom_is u a L hb, laws_eqScale_refl _ ho, beq_self_eq_true, Bool.not_true, bne_self_eq_false, laws_eqFracS_refl L hl,
      laws_markFracS_is L hl, two_nn, laws_markScale_is _ _ ho, laws_heldScale_is _ _ ho]
end Go.Abs
