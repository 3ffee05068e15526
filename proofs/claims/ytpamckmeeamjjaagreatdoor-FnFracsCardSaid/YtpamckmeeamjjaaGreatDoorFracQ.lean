/- Fractions in lowest terms: multiples, opposites; comparisons. -/
import Derived.Test.YtpamckmeeamjjaaGreatDoorFracSm
import Derived.Test.YtpamckmeeamjjaaGreatDoorCalc
import Derived.Test.YtpamckmeeamjjaaGreatDoorChain
namespace Go.Abs
set_option linter.unusedSectionVars false
set_option linter.unusedSimpArgs false
set_option linter.unusedVariables false

theorem vF_one {x : Int} (hx : -1000000000 ≤ x ∧ x ≤ 1000000000) : vF (x, 1) = true := by
  unfold vF
  rw [Bool.and_eq_true, Bool.and_eq_true, btw_iff, btw_iff]
  refine ⟨by simp, hx, ?_⟩
  simp only [Int.gcd_one_right]
  rfl

theorem redP_pos {p q : Int} (hq : 0 < q) : redP p q = (p.tdiv ((Int.gcd p q : Nat) : Int), q.tdiv ((Int.gcd p q : Nat) : Int)) := by
  unfold redP
  rw [dec_f (by omega)]
  rfl

theorem mkF_mul {x w : Int} (hx : -1000000000 ≤ x ∧ x ≤ 1000000000) (hw : 1 ≤ w) : mkF (x * w) w = some (x, 1) := by
  have hg : ((Int.gcd (x * w) w : Nat) : Int) = w := by
    exact Int.gcd_eq_right (by omega) (Int.dvd_mul_left x w)
  have e : redP (x * w) w = (x, 1) := by
    rw [redP_pos (by omega), hg, Int.mul_tdiv_cancel _ (by omega), Int.tdiv_self (by omega)]
  unfold mkF
  rw [e, vF_one hx]
  rfl

theorem mkF_zero {q : Int} (hq : 1 ≤ q) : mkF 0 q = some (0, 1) := by
  have := mkF_mul (x := 0) (w := q) (by omega) hq
  rwa [Int.zero_mul] at this

theorem vF_neg (a : Int × Int) : vF (-a.1, a.2) = vF a := by
  unfold vF
  have h1 : btw (-a.1) (-1000000000) 1000000000 = btw a.1 (-1000000000) 1000000000 := by
    apply Bool.eq_iff_iff.2
    rw [btw_iff, btw_iff]
    omega
  simp only [h1, Int.neg_gcd]

theorem mkF_neg {p q : Int} {a : Int × Int} (hq : 0 < q) (h : mkF p q = some a) : mkF (-p) q = some (-a.1, a.2) := by
  have e : redP (-p) q = (-(redP p q).1, (redP p q).2) := by
    rw [redP_pos hq, redP_pos hq, Int.neg_gcd, Int.neg_tdiv]
  unfold mkF at h ⊢
  rw [e, vF_neg]
  cases hv : vF (redP p q) with
  | false => rw [hv] at h; cases h
  | true =>
    rw [hv] at h
    injection h with h
    rw [← h]
    rfl

theorem impl_CompareFracs_is (a b : Fq) : impl_CompareFracs N0 a b = bif vF a && vF b then r2 (cmpF a b) 0 else r2 0 1 := by
  simp only [impl_CompareFracs, impl_CompareFracs_t, pr_eta, cq_areValid_is (a :: b :: []) (by simp), Option.bind_some, impl_compare_is, List.all_cons, List.all_nil, Bool.and_true]
  cases vF a && vF b <;> rfl

theorem cmpF_whole {a : Fq} (ha : Bd a) {m : Int} (hm : -1000000000 ≤ m ∧ m ≤ 1000000000) : cmpF a (m, 1) = bif decide (a.1 < m * a.2) then -1 else bif decide (a.1 > m * a.2) then 1 else 0 := by
  have h1 := mul_bd (a := m) (b := a.2) (A := 1000000000) (B := 1000000000) hm (by have := ha.1; omega)
  have h2 := ha.2
  unfold cmpF
  simp only [Int.mul_one, w_in (x := a.1) (by unfold I64; omega), w_in (x := m * a.2) (by unfold I64; omega)]

theorem cmp_ge {a : Fq} (ha : vF a = true) {m : Int} (hm : -1000000000 ≤ m ∧ m ≤ 1000000000) (h : m * a.2 ≤ a.1) : ∃ c, impl_CompareFracs N0 a (m, 1) = r2 c 0 ∧ ¬ c < 0 := by
  rw [impl_CompareFracs_is, ha, vF_one hm, cmpF_whole (Bd.of ha) hm, dec_f (by omega)]
  refine ⟨_, rfl, ?_⟩
  cases decide (a.1 > m * a.2) <;> decide

theorem cmp_le {a : Fq} (ha : vF a = true) {m : Int} (hm : -1000000000 ≤ m ∧ m ≤ 1000000000) (h : a.1 ≤ m * a.2) : ∃ c, impl_CompareFracs N0 a (m, 1) = r2 c 0 ∧ ¬ c > 0 := by
  rw [impl_CompareFracs_is, ha, vF_one hm, cmpF_whole (Bd.of ha) hm, dec_f (p := a.1 > m * a.2) (by omega)]
  refine ⟨_, rfl, ?_⟩
  cases decide (a.1 < m * a.2) <;> decide

theorem impl_AddFracs_is {a b : Fq} (ha : vF a = true) (hb : vF b = true) : impl_AddFracs N0 a b = r2 ((fadd a b).getD (0, 0)) (bif (fadd a b).isSome then 0 else 3) := by
  simp only [impl_AddFracs, impl_AddFracs_t, pr_eta, cq_areValid_is (a :: b :: []) (by simp), Option.bind_some, List.all_cons, List.all_nil, Bool.and_true, ha, hb, Bool.and_self, Bool.not_true, cond_false]
  rw [impl_calc_add_is (Bd.of ha) (Bd.of hb), Option.bind_some]
  simp only [impl_calc_one_is, Option.bind_some, Bool.false_or]
  cases fadd a b <;> rfl

theorem fadd_opp {a : Fq} (ha : Bd a) : fadd a (-a.1, a.2) = some (0, 1) := by
  have hq : 1 ≤ a.2 * a.2 := by
    have := mul_pos_bd (a := 1) (b := 1) (A := a.2) (B := a.2) (by have := ha.1; omega) (by have := ha.1; omega)
    omega
  unfold fadd
  rw [show a.1 * a.2 + -a.1 * a.2 = 0 by rw [Int.neg_mul]; omega]
  exact mkF_zero hq
end Go.Abs
