/- ShareWhole: what the program's and the reference's give. -/
import Derived.Test.YtpamckmeeamjjaaGreatDoorPrims
import Derived.Test.YtpamckmeeamjjaaGreatDoorInts
namespace Go.Abs
set_option linter.unusedSimpArgs false
set_option linter.unusedSectionVars false
set_option linter.unusedVariables false

/-- the reference's quotient rounded down is a floor -/
theorem spec_l01Down_is (n : Nat) {e m : Int} (hm : 0 < m) (h : I64 e) : spec_l01Down n e m = r1 (e / m) := by
  have ha : (m != 0) = true := ne_true (by omega)
  simp only [spec_l01Down, spec_l01Down_t, ha, cond_true]
  rw [Int.tdiv_eq_ediv, Int.tmod_eq_emod]
  have hs : m.sign = 1 := Int.sign_eq_one_of_pos hm
  have hr := Int.emod_nonneg e (show m ≠ 0 by omega)
  have hl := Int.emod_lt_of_pos e hm
  have hd : I64 (e / m) := by
    have h1 : (9223372036854775807 : Int) / m ≤ 9223372036854775807 := Int.ediv_le_self _ (by decide)
    have h2 := Int.ediv_le_ediv hm h.2
    have h3 := Int.ediv_le_ediv hm h.1
    have h4 : -9223372036854775808 ≤ -9223372036854775808 / m := by
      rw [Int.le_ediv_iff_mul_le hm]; omega
    unfold I64
    omega
  by_cases hc : 0 ≤ e ∨ m ∣ e
  · rw [if_pos hc, if_pos hc]
    rw [dec_f (by omega), cond_false, Int.add_zero, w_in hd]
  · rw [if_neg hc, if_neg hc, hs, dec_t (by omega), cond_true]
    have h0 : e / m + 1 ≤ 0 := by
      have : ¬ (0 ≤ e) := fun h' => hc (.inl h')
      have h5 : e / m < 0 := Int.ediv_neg_of_neg_of_pos (by omega) hm
      omega
    rw [w_in (x := e / m + 1) (by unfold I64 at *; omega), w_in (by unfold I64 at *; omega)]
    congr 4
    omega

theorem impl_floorDiv_is (n : Nat) {e m : Int} (hm : 0 < m) (h : I64 e) : impl_floorDiv n e m = r1 (e / m) := by
  have ha : (m != 0) = true := ne_true (by omega)
  have hneg : decide (m < 0) = false := dec_f (by omega)
  simp only [impl_floorDiv, impl_floorDiv_t, ha, cond_true, hneg]
  rw [Int.tdiv_eq_ediv, Int.tmod_eq_emod]
  have hs : m.sign = 1 := Int.sign_eq_one_of_pos hm
  have hr := Int.emod_nonneg e (show m ≠ 0 by omega)
  have hl := Int.emod_lt_of_pos e hm
  have hd : I64 (e / m) := by
    have h1 : (9223372036854775807 : Int) / m ≤ 9223372036854775807 := Int.ediv_le_self _ (by decide)
    have h2 := Int.ediv_le_ediv hm h.2
    have h3 := Int.ediv_le_ediv hm h.1
    have h4 : -9223372036854775808 ≤ -9223372036854775808 / m := by
      rw [Int.le_ediv_iff_mul_le hm]; omega
    unfold I64
    omega
  by_cases h0 : 0 ≤ e
  · have hx : decide (e < 0) = false := dec_f (by omega)
    rw [if_pos (.inl h0), if_pos (.inl h0), hx, Int.add_zero, w_in hd]
    cases ((e % m - ((0 : Nat) : Int)) != 0) <;> rfl
  · have hx : decide (e < 0) = true := dec_t (by omega)
    by_cases hdv : m ∣ e
    · rw [if_pos (.inr hdv), if_pos (.inr hdv), Int.add_zero, w_in hd]
      have : e % m = 0 := Int.emod_eq_zero_of_dvd hdv
      simp [this]
    · have hc : ¬ (0 ≤ e ∨ m ∣ e) := fun h => h.elim h0 hdv
      have h5 : e / m < 0 := Int.ediv_neg_of_neg_of_pos (by omega) hm
      rw [if_neg hc, if_neg hc, hs, hx, ne_true (by omega)]
      rw [w_in (x := e / m + 1) (by unfold I64 at *; omega), w_in (by unfold I64 at *; omega)]
      simp
end Go.Abs
