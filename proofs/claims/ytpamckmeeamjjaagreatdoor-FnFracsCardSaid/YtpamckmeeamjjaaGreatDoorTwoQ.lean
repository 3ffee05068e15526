/- The reference's sums and differences of valid fractions. -/
import Derived.Test.YtpamckmeeamjjaaGreatDoorCalc
namespace Go.Abs
set_option linter.unusedSectionVars false
set_option linter.unusedSimpArgs false
set_option linter.unusedVariables false

theorem spec_l01Two_is (a b : Fq) : spec_l01Two N0 a b = r1 (bif vF a && vF b then 0 else 1) := by
  simp only [spec_l01Two, spec_l01Two_t, pr_eta, spec_l01Ok_is, Option.bind_some]
  cases vF a <;> cases vF b <;> rfl

theorem spec_AddFracs_is {a b : Fq} (ha : vF a = true) (hb : vF b = true) : spec_AddFracs N0 a b = r2 ((fadd a b).getD (0, 0)) (bif (fadd a b).isSome then 0 else 3) := by
  simp only [spec_AddFracs, spec_AddFracs_t, pr_eta, spec_l01Two_is, ha, hb, Option.bind_some, Bool.and_self, cond_true, bne_self_eq_false, cond_false, spec_l01Add_is (Bd.of ha) (Bd.of hb)]

theorem spec_SubFracs_is {a b : Fq} (ha : vF a = true) (hb : vF b = true) : spec_SubFracs N0 a b = r2 ((fsub a b).getD (0, 0)) (bif (fsub a b).isSome then 0 else 3) := by
  simp only [spec_SubFracs, spec_SubFracs_t, pr_eta, spec_l01Two_is, ha, hb, Option.bind_some, Bool.and_self, cond_true, bne_self_eq_false, cond_false, spec_l01Sub_is (Bd.of ha) (Bd.of hb)]

end Go.Abs
