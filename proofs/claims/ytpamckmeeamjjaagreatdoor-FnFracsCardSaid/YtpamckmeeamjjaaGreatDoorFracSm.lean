/- Fractions of which no part is too great. -/
import Derived.Test.YtpamckmeeamjjaaGreatDoorPrims
namespace Go.Abs
set_option linter.unusedSectionVars false
set_option linter.unusedSimpArgs false
set_option linter.unusedVariables false

/-- a fraction of which no part is too great is valid in lowest terms -/
theorem mkF_small {p q : Int} (hq : 1 ≤ q ∧ q ≤ 1000000000) (hp : -1000000000 ≤ p ∧ p ≤ 1000000000) :
    ∃ g a, mkF p q = some a ∧ vF a = true ∧ 1 ≤ g ∧ p = g * a.1 ∧ q = g * a.2 := by
  have hg := gcd_pos (p := p) (q := q) (by omega)
  have hd1 : ((Int.gcd p q : Nat) : Int) ∣ p := Int.gcd_dvd_left ..
  have hd2 : ((Int.gcd p q : Nat) : Int) ∣ q := Int.gcd_dvd_right ..
  have e : redP p q = (p.tdiv ((Int.gcd p q : Nat) : Int), q.tdiv ((Int.gcd p q : Nat) : Int)) := by
    unfold redP
    rw [dec_f (by omega)]
    rfl
  have e1 : ((Int.gcd p q : Nat) : Int) * p.tdiv ((Int.gcd p q : Nat) : Int) = p := Int.mul_tdiv_cancel' hd1
  have e2 : ((Int.gcd p q : Nat) : Int) * q.tdiv ((Int.gcd p q : Nat) : Int) = q := Int.mul_tdiv_cancel' hd2
  have b1 := tdiv_natAbs_le p ((Int.gcd p q : Nat) : Int)
  have b2 := tdiv_natAbs_le q ((Int.gcd p q : Nat) : Int)
  have b3 : 0 ≤ q.tdiv ((Int.gcd p q : Nat) : Int) := Int.tdiv_nonneg (by omega) (by omega)
  have b4 : q.tdiv ((Int.gcd p q : Nat) : Int) ≠ 0 := by
    intro h
    rw [h, Int.mul_zero] at e2
    omega
  have hv : vF (redP p q) = true := by
    rw [e]
    unfold vF
    rw [Bool.and_eq_true, Bool.and_eq_true, btw_iff, btw_iff]
    refine ⟨by simp only; omega, by simp only; omega, ?_⟩
    have hgc : Int.gcd (p.tdiv ((Int.gcd p q : Nat) : Int)) (q.tdiv ((Int.gcd p q : Nat) : Int)) = 1 := by
      rw [Int.tdiv_eq_ediv_of_dvd hd1, Int.tdiv_eq_ediv_of_dvd hd2]
      exact Int.gcd_ediv_gcd_ediv_gcd (by omega)
    simp only [hgc]
    rfl
  refine ⟨((Int.gcd p q : Nat) : Int), redP p q, ?_, hv, by omega, ?_, ?_⟩
  · unfold mkF
    rw [hv]
    rfl
  · rw [e]; exact e1.symm
  · rw [e]; exact e2.symm

end Go.Abs
