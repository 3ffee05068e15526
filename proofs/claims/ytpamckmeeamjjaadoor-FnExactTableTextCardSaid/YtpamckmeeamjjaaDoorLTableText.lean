/- The plain law of TableText. -/
import Derived.Test.YtpamckmeeamjjaaDoorTabText
import Derived.Test.YtpamckmeeamjjaaDoorAngleP
import Derived.Test.YtpamckmeeamjjaaDoorTrod
namespace Go.Abs
set_option linter.unusedSectionVars false
set_option linter.unusedSimpArgs false
set_option linter.unusedVariables false

theorem law_FnExactTableText (t : Tb) (hw : WfD tbT t) : laws_FnExactTableText N0 t = r1 true := by
  have hb := tb_wf hw
  have hf := tb_fit hw
  obtain ⟨r, e1, _, e2⟩ := laws_szTable_is t 1048576 hb (by omega)
  simp only [laws_FnExactTableText, laws_FnExactTableText_t, pr_eta, e1, Option.bind_some]
  by_cases hr : r < 0
  · rw [dec_t hr]; rfl
  · have hl := e2 (by omega)
    simp only [dec_f hr, cond_false, laws_toTable_is t hl, Option.bind_some, pr_eta, spec_TableText_is t hb, impl_TableText_is t hb hf, eqStr_bs, decide_true, Bool.not_true, laws_eqTable_refl t hl]
end Go.Abs
