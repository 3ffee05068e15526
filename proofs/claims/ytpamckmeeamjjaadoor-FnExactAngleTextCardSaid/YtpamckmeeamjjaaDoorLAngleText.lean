/- The plain law of AngleText. -/
import Derived.Test.YtpamckmeeamjjaaDoorTextP
import Derived.Test.YtpamckmeeamjjaaDoorTrod
namespace Go.Abs
set_option linter.unusedSectionVars false
set_option linter.unusedSimpArgs false
set_option linter.unusedVariables false

theorem law_FnExactAngleText (a : Int) (_ : WfD (.int .i64) a) : laws_FnExactAngleText N0 a = r1 true := by
  unfold laws_FnExactAngleText laws_FnExactAngleText_t
  rw [spec_AngleText_is, impl_AngleText_is, Option.bind_some, Option.bind_some]
  dsimp only
  rw [show eqStr (bs (bif isAng a then angT a else [])) (bs (bif isAng a then angT a else [])) = true by simp [eqStr]]
  rfl
end Go.Abs
