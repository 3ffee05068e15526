/- The plain law of ReadTable. -/
import Derived.Test.YtpamckmeeamjjaaDoorTabV
import Derived.Test.YtpamckmeeamjjaaDoorMarkObs
import Derived.Test.YtpamckmeeamjjaaDoorTrod
namespace Go.Abs
set_option linter.unusedSectionVars false
set_option linter.unusedSimpArgs false
set_option linter.unusedVariables false

theorem law_FnExactReadTable (s : ByteArray) (_ : WfD .str s) : laws_FnExactReadTable N0 s = r1 true := by
  have hl := size_len s
  by_cases h : s.data.toList.length ≤ 1048576
  · obtain ⟨T, c, hT, h1, h2⟩ : ∃ (T : Tb) (c : Int), T.2.1.length ≤ 1048576 ∧ impl_ReadTable N0 s = rTab T c ∧ spec_ReadTable N0 s = r2 T c := by
      rw [bs_eta s]
      by_cases ha : ∃ t, tabOk t = true ∧ s.data.toList = tabT t
      · obtain ⟨t, ht, e⟩ := ha
        have hh := (tab_ok ht).2.1
        rw [e] at h ⊢
        exact ⟨t, 0, by omega, impl_RT_pos ht h, spec_RT_pos ht h⟩
      · have hn : ∀ t, tabOk t = true → s.data.toList ≠ tabT t := fun t g1 g2 => ha ⟨t, g1, g2⟩
        exact ⟨nTab, 5, by simp, (tab_neg h hn).1, (tab_neg h hn).2⟩
    simp only [laws_FnExactReadTable, laws_FnExactReadTable_t, pr_eta, h1, h2, Option.bind_some, laws_eqTable_refl _ hT, Bool.not_true, cond_false, bne_self_eq_false, laws_markTable_is _ _ hT, laws_heldTable_is _ _ _ hT, nine_nn]
    rw [dec_f (by omega)]
    rfl
  · unfold laws_FnExactReadTable laws_FnExactReadTable_t
    rw [dec_t (by omega), cond_true]
end Go.Abs
