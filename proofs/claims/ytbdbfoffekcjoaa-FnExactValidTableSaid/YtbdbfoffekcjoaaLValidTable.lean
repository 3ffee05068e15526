/- The plain law of ValidTable. -/
import Derived.Test.YtbdbfoffekcjoaaValidTab
namespace Go.Abs
set_option linter.unusedSectionVars false
set_option linter.unusedSimpArgs false
set_option linter.unusedVariables false

theorem law_FnExactValidTable (t : Tb) (ht : WfD tbT t) : laws_FnExactValidTable N0 t = r1 true := by
  obtain ⟨r, h1, h2, h3⟩ := laws_szTable_is t 1048576 (tb_wf ht) (by omega)
  simp only [laws_FnExactValidTable, laws_FnExactValidTable_t, pr_eta, h1, Option.bind_some]
  by_cases hr : r < 0
  · rw [dec_t hr]; rfl
  · have hl := h3 (by omega)
    simp only [dec_f hr, cond_false, laws_toTable_is t hl, Option.bind_some, spec_ValidTable, spec_ValidTable_t, pr_eta, spec_l04Ok_is t (by omega), impl_ValidTable_is t (by omega) (tb_fit ht), beq_self_eq_true, Bool.not_true, laws_eqTable_refl t hl]
end Go.Abs
