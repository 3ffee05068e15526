/- The plain law of ReadAngle. -/
import Derived.Test.YtpamckmeeamjjaaDoorAngleP
import Derived.Test.YtpamckmeeamjjaaDoorTrod
namespace Go.Abs
set_option linter.unusedSectionVars false
set_option linter.unusedSimpArgs false
set_option linter.unusedVariables false

theorem law_FnExactReadAngle (s : ByteArray) (_ : WfD .str s) : laws_FnExactReadAngle N0 s = r1 true := by
  unfold laws_FnExactReadAngle laws_FnExactReadAngle_t
  have hl := size_len s
  by_cases h : s.data.toList.length ≤ 1048576
  · rw [dec_f (by omega), cond_false, bs_eta s]
    by_cases ha : ∃ a, isAng a = true ∧ s.data.toList = angT a
    · obtain ⟨a, ha, e⟩ := ha
      rw [e, spec_RA_pos ha, impl_RA_pos ha, Option.bind_some, Option.bind_some]
      dsimp only
      rw [ne_f rfl, ne_f rfl]
      rfl
    · have hn : ∀ a, isAng a = true → s.data.toList ≠ angT a := fun a h1 h2 => ha ⟨a, h1, h2⟩
      rw [spec_RA_neg h hn, impl_RA_neg h hn]
      rfl
  · rw [dec_t (by omega), cond_true]
end Go.Abs
