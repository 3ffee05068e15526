/- The plain law of Angles. -/
import Derived.Test.YtpamckmeeamjjaaDoorAngleP
import Derived.Test.YtpamckmeeamjjaaDoorDrawDisk
import Derived.Test.YtpamckmeeamjjaaDoorTrod
namespace Go.Abs
set_option linter.unusedSectionVars false
set_option linter.unusedSimpArgs false
set_option linter.unusedVariables false

theorem impl_TurnFrom_is {a b : Int} (ha : isAng a = true) (hb : isAng b = true) : impl_TurnFrom N0 a b = r2 (turn a b) 0 := by
  have h1 := angle_iff.1 ha
  have h2 := angle_iff.1 hb
  unfold impl_TurnFrom impl_TurnFrom_t
  rw [impl_isAngle_is, impl_isAngle_is, impl_turnFrom_is N0 (by unfold I64; omega), Option.bind_some, Option.bind_some, Option.bind_some, ha, hb]
  rfl
theorem spec_TurnFrom_is {a b : Int} (ha : isAng a = true) (hb : isAng b = true) : spec_TurnFrom N0 a b = r2 (turn a b) 0 := by
  have h1 := angle_iff.1 ha
  have h2 := angle_iff.1 hb
  unfold spec_TurnFrom spec_TurnFrom_t
  rw [spec_l03Angle_is, spec_l03Angle_is, spec_l03Turn_is N0 (by unfold I64; omega), Option.bind_some, Option.bind_some, Option.bind_some, ha, hb]
  rfl
theorem impl_WrapAngle_is {a : Int} (h : -1000000000000 ≤ a ∧ a ≤ 1000000000000) : impl_WrapAngle N0 a = r2 (a % 1296000) 0 := by
  unfold impl_WrapAngle impl_WrapAngle_t
  rw [impl_within_is, impl_wrap_is, Option.bind_some, Option.bind_some, btw_iff.2 h]
  rfl

theorem laws_a2At_200 (l : List Int) (h : ∀ y ∈ l, 0 ≤ y ∧ y ≤ 255) : ∃ x, laws_a2At N0 l 0 200 = r1 x ∧ 0 ≤ x ∧ x < 200 := by
  simp only [laws_a2At, laws_a2At_t]
  by_cases h0 : l.length = 0
  · rw [dec_t (by omega), cond_true]
    exact ⟨0, rfl, by omega, by omega⟩
  · have hlt : 0 < l.length := by omega
    have hb := h _ (List.getElem_mem hlt)
    rw [dec_f (by omega), cond_false, dec_f (by omega), cond_false, dec_t (by omega), dec_t (by omega), Bool.and_self, cond_true, ne_true (by omega), cond_true]
    rw [Int.toNat_zero, get_ix hlt, w_in (by unfold I64; omega), Int.tmod_eq_emod_of_nonneg hb.1]
    exact ⟨_, rfl, by omega, by omega⟩

theorem law_FnAngles (code more : List Int) (hc : WfD (.list (.int .u8)) code) (hm : WfD (.list (.int .u8)) more) : laws_FnAngles N0 code more = r1 true := by
  simp only [laws_FnAngles, laws_FnAngles_t, laws_a2Long_is, Option.bind_some]
  cases hlong : (decide ((code.length : Int) > 3000) || decide ((more.length : Int) > 3000)) with
  | true => rfl
  | false =>
    rw [Bool.or_eq_false_iff, decide_eq_false_iff_not, decide_eq_false_iff_not] at hlong
    obtain ⟨a, ea, ha⟩ := spec_A2Angle_ex code (code_wf hc) (by omega)
    obtain ⟨b, eb, hb⟩ := spec_A2Angle_ex more (code_wf hm) (by omega)
    obtain ⟨x, ex, hx0, hx1⟩ := laws_a2At_200 more (code_wf hm)
    have h1 := angle_iff.1 ha
    have h2 := angle_iff.1 hb
    have ht := turn_bd a b
    have ht' := turn_bd b a
    have hw : (a + turn a b) % 1296000 = b := by
      unfold turn
      cases decide ((b - a) % 1296000 > 648000) <;> simp only [cond_true, cond_false] <;> omega
    have hback : turn b a = -turn a b ∨ (turn a b = 648000 ∧ turn b a = turn a b) := by
      unfold turn
      by_cases k1 : (b - a) % 1296000 > 648000
      · rw [dec_t k1]
        by_cases k2 : (a - b) % 1296000 > 648000
        · rw [dec_t k2]; simp only [cond_true]; omega
        · rw [dec_f k2]; simp only [cond_true, cond_false]; omega
      · rw [dec_f k1]
        by_cases k2 : (a - b) % 1296000 > 648000
        · rw [dec_t k2]; simp only [cond_true, cond_false]; omega
        · rw [dec_f k2]; simp only [cond_false]; omega
    simp only [ea, eb, ex, impl_TurnFrom_is ha hb, spec_TurnFrom_is ha hb, impl_TurnFrom_is hb ha, impl_AngleText_is, ha, cond_true, cond_false, impl_RA_pos ha, Option.bind_some, bne_self_eq_false]
    rw [w_in (x := a + turn a b) (by unfold I64; omega), impl_WrapAngle_is (by omega), hw]
    rw [w_in (x := x - 100) (by unfold I64; omega), w_in (x := (x - 100) * 1296000) (by unfold I64; omega), w_in (x := a + (x - 100) * 1296000) (by unfold I64; omega), impl_WrapAngle_is (by omega)]
    rw [show (a + (x - 100) * 1296000) % 1296000 = a by omega, w_in (x := 0 - turn a b) (by unfold I64; omega)]
    simp only [Option.bind_some, bne_self_eq_false, cond_false, beq_self_eq_true, cond_true]
    rw [dec_f (by omega), dec_f (by omega), cond_false, cond_false]
    rcases hback with hk | ⟨hk1, hk2⟩
    · rw [eq_t (by omega)]; rfl
    · by_cases hk : turn b a = 0 - turn a b
      · rw [eq_t hk]; rfl
      · rw [eq_f hk, cond_false, eq_t hk1, cond_true, eq_t hk2]
end Go.Abs
