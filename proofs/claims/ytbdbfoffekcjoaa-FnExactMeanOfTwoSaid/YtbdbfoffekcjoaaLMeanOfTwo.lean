/- The plain law of FnExactMeanOfTwo. -/
import Derived.Test.YtbdbfoffekcjoaaPrims
import Derived.Test.YtbdbfoffekcjoaaTrod
namespace Go.Abs
set_option linter.unusedSimpArgs false
set_option linter.unusedSectionVars false
set_option linter.unusedVariables false

theorem btw_iff {x lo hi : Int} : btw x lo hi = true ↔ lo ≤ x ∧ x ≤ hi := by simp [btw]

/-- the program's answer out of a fraction that may be too great -/
abbrev codeF (o : Option (Int × Int)) : Int := bif o.isSome then 0 else 3

theorem impl_MeanOfTwo_is (a b : Int) : impl_MeanOfTwo N0 a b =
    bif isAng a && isAng b then r2 ((mkF (2 * a + turn a ((b - 648000) % 1296000)) 2).getD (0, 0)) (codeF (mkF (2 * a + turn a ((b - 648000) % 1296000)) 2)) else r2 (0, 0) 1 := by
  simp only [impl_MeanOfTwo, impl_MeanOfTwo_t, impl_isAngle_is, Option.bind_some]
  cases ha : isAng a
  · rfl
  · cases hb : isAng b
    · rfl
    · rw [btw_iff] at ha hb
      have ht := turn_bd a ((b - 648000) % 1296000)
      simp only [Bool.not_true, cond_false, Bool.and_self, cond_true]
      rw [w_in (by unfold I64; omega), impl_wrap_is]
      simp only [Option.bind_some]
      rw [impl_turnFrom_is N0 (by unfold I64; omega)]
      simp only [Option.bind_some]
      rw [w_in (x := 2 * a) (by unfold I64; omega), w_in (by unfold I64; omega), impl_calc_told_is false (by unfold small; omega) (by decide) (by decide)]
      simp only [Option.bind_some, impl_calc_one_is]
      cases mkF (2 * a + turn a ((b - 648000) % 1296000)) 2 <;> rfl

theorem spec_MeanOfTwo_is (a b : Int) : spec_MeanOfTwo N0 a b =
    bif isAng a && isAng b then r2 ((mkF (2 * a + turn a ((b - 648000) % 1296000)) 2).getD (0, 0)) (codeF (mkF (2 * a + turn a ((b - 648000) % 1296000)) 2)) else r2 (0, 0) 1 := by
  simp only [spec_MeanOfTwo, spec_MeanOfTwo_t, spec_l03Angle_is, Option.bind_some]
  cases ha : isAng a
  · rfl
  · cases hb : isAng b
    · rfl
    · rw [btw_iff] at ha hb
      have ht := turn_bd a ((b - 648000) % 1296000)
      simp only [Bool.not_true, cond_false, Bool.and_self, cond_true]
      rw [w_in (by unfold I64; omega), spec_l03Wrap_is]
      simp only [Option.bind_some]
      rw [spec_l03Turn_is N0 (by unfold I64; omega)]
      simp only [Option.bind_some]
      rw [w_in (x := 2 * a) (by unfold I64; omega), w_in (by unfold I64; omega), spec_l01Reduced_is (by unfold small; omega) (by decide) (by decide)]
      rfl

theorem law_FnExactMeanOfTwo (a b : Int) (ha : WfD (.int .i64) a) (hb : WfD (.int .i64) b) : laws_FnExactMeanOfTwo N0 a b = r1 true := by
  simp only [laws_FnExactMeanOfTwo, laws_FnExactMeanOfTwo_t]
  rw [spec_MeanOfTwo_is, impl_MeanOfTwo_is]
  cases isAng a && isAng b <;> simp [laws_eqFrac_is]
end Go.Abs
