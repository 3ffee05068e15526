/- Fractions: sums, differences, products, quotients of small ones. -/
import Derived.Test.YtpamckmeeamjjaaGreatDoorFracQ
import Derived.Test.YtpamckmeeamjjaaGreatDoorTwoQ
namespace Go.Abs
set_option linter.unusedSectionVars false
set_option linter.unusedSimpArgs false
set_option linter.unusedVariables false

theorem redP_scale {c P Q : Int} (hc : 0 < c) (hQ : 0 < Q) : redP (c * P) (c * Q) = redP P Q := by
  have hg : ((Int.gcd (c * P) (c * Q) : Nat) : Int) = c * ((Int.gcd P Q : Nat) : Int) := by
    rw [Int.gcd_mul_left, Int.natCast_mul]
    congr 1
    omega
  rw [redP_pos (Int.mul_pos hc hQ), redP_pos hQ, hg, Int.mul_tdiv_mul_of_pos _ _ hc, Int.mul_tdiv_mul_of_pos _ _ hc]

theorem redP_same {P Q P' Q' : Int} (hQ : 0 < Q) (hQ' : 0 < Q') (h : P * Q' = P' * Q) : redP P Q = redP P' Q' := by
  rw [← redP_scale (c := Q') hQ' hQ, ← redP_scale (P := P') (c := Q) hQ hQ', Int.mul_comm Q' P, h, Int.mul_comm P' Q, Int.mul_comm Q' Q]

theorem mkF_same {P Q P' Q' : Int} (hQ : 0 < Q) (hQ' : 0 < Q') (h : P * Q' = P' * Q) : mkF P Q = mkF P' Q' := by
  unfold mkF
  rw [redP_same hQ hQ' h]

/-- small whole numbers -/
abbrev Sm (A : Int) : Prop := -100000 ≤ A ∧ A ≤ 100000

theorem mkF_parts' {p q : Int} {a : Fq} (hq : 0 < q) (h : mkF p q = some a) : p * a.2 = a.1 * q := by
  have hg := gcd_pos (p := p) (q := q) (by omega)
  have e : redP p q = a := by
    unfold mkF at h
    cases hv : vF (redP p q) with
    | false => rw [hv] at h; cases h
    | true => rw [hv] at h; injection h
  rw [redP_pos hq] at e
  have h1 : ((Int.gcd p q : Nat) : Int) * a.1 = p := by rw [← e]; exact Int.mul_tdiv_cancel' (Int.gcd_dvd_left ..)
  have h2 : ((Int.gcd p q : Nat) : Int) * a.2 = q := by rw [← e]; exact Int.mul_tdiv_cancel' (Int.gcd_dvd_right ..)
  generalize ((Int.gcd p q : Nat) : Int) = g at *
  rw [← h1, ← h2]
  grind

section
variable {a b : Fq} (ha : Bd a) (hb : Bd b)
include ha hb
theorem impl_calc_mul_is (c : Bool) : impl_calc_mul N0 a b c = c1 (val (fmul a b)) (c || (fmul a b).isNone) := by
  have h1 := bd_pp ha hb
  have h3 := bd_qq ha hb
  simp only [impl_calc_mul, impl_calc_mul_t, w_in (x := a.1 * b.1) (by unfold I64; omega), w_in (x := a.2 * b.2) (by unfold I64; omega)]
  rw [impl_calc_told_is c (by unfold small; omega) (by unfold small; omega) (by omega)]
  rfl

theorem spec_l01Mul_is : spec_l01Mul N0 a b = r2 ((fmul a b).getD (0, 0)) (bif (fmul a b).isSome then 0 else 3) := by
  have h1 := bd_pp ha hb
  have h3 := bd_qq ha hb
  simp only [spec_l01Mul, spec_l01Mul_t, w_in (x := a.1 * b.1) (by unfold I64; omega), w_in (x := a.2 * b.2) (by unfold I64; omega)]
  rw [spec_l01Reduced_is (by unfold small; omega) (by unfold small; omega) (by omega)]
  rfl
end

theorem mkF_self {a : Fq} (h : vF a = true) : mkF a.1 a.2 = some a := by
  have hb := vF_bd h
  have hg : ((Int.gcd a.1 a.2 : Nat) : Int) = 1 := by
    have h' := h
    unfold vF at h'
    simp only [Bool.and_eq_true, beq_iff_eq] at h'
    exact h'.2.2
  have e : redP a.1 a.2 = a := by
    rw [redP_pos (by omega), hg, Int.tdiv_one, Int.tdiv_one]
  unfold mkF
  rw [e, h]
  rfl

theorem mkF_to {P Q : Int} {a : Fq} (hQ : 0 < Q) (ha : vF a = true) (e : P * a.2 = a.1 * Q) : mkF P Q = some a := by
  have hb := vF_bd ha
  rw [mkF_same hQ (by omega : 0 < a.2) e, mkF_self ha]

theorem mkF_opp (P Q : Int) (hQ : Q ≠ 0) : mkF (-P) (-Q) = mkF P Q := by
  have e : redP (-P) (-Q) = redP P Q := by
    unfold redP
    rw [Int.gcd_neg, Int.neg_gcd]
    by_cases h : Q < 0
    · rw [dec_t h, dec_f (p := -Q < 0) (by omega)]
      rfl
    · rw [dec_f h, dec_t (p := -Q < 0) (by omega), Int.neg_neg, Int.neg_neg]
      rfl
  unfold mkF
  rw [e]

theorem sub_add {a b s : Fq} (ha : vF a = true) (hb : vF b = true) (h : fadd a b = some s) : fsub s b = some a := by
  have h1 := vF_bd ha
  have h2 := vF_bd hb
  have hs := vF_bd (mkF_valid h)
  have hq : 0 < a.2 * b.2 := Int.mul_pos (by omega) (by omega)
  have e := mkF_parts' hq h
  unfold fsub
  refine mkF_to (Int.mul_pos (by omega) (by omega)) ha ?_
  have e1 : (s.1 * b.2 - b.1 * s.2) * a.2 = s.1 * (a.2 * b.2) - b.1 * a.2 * s.2 := by
    rw [Int.sub_mul, Int.mul_assoc s.1, Int.mul_comm b.2, Int.mul_assoc b.1, Int.mul_comm s.2, ← Int.mul_assoc b.1]
  rw [e1, ← e, Int.add_mul, Int.add_sub_cancel, Int.mul_assoc, Int.mul_comm b.2]

theorem div_mul {a b m : Fq} (ha : vF a = true) (hb : vF b = true) (h0 : b.1 ≠ 0) (h : fmul a b = some m) : fdiv m b = some a := by
  have h1 := vF_bd ha
  have h2 := vF_bd hb
  have hm := vF_bd (mkF_valid h)
  have hq : 0 < a.2 * b.2 := Int.mul_pos (by omega) (by omega)
  have e := mkF_parts' hq h
  have key : m.1 * b.2 * a.2 = a.1 * (m.2 * b.1) := by
    rw [Int.mul_assoc m.1, Int.mul_comm b.2, ← e, Int.mul_assoc a.1, Int.mul_comm b.1]
  unfold fdiv
  by_cases hp : 0 < b.1
  · exact mkF_to (Int.mul_pos (by omega) hp) ha key
  · have hq2 : 0 < -(m.2 * b.1) := by
      rw [← Int.mul_neg]
      exact Int.mul_pos (by omega) (by omega)
    rw [← mkF_opp _ _ (by omega)]
    refine mkF_to hq2 ha ?_
    rw [Int.neg_mul, key, Int.mul_neg]

/-- a quotient by a whole number, times it -/
theorem mul_div {s a : Fq} {n : Int} (hs : vF s = true) (hn : 0 < n) (h : fdiv s (n, 1) = some a) : fmul a (n, 1) = some s := by
  have h1 := vF_bd hs
  have ha := vF_bd (mkF_valid h)
  have hq : 0 < s.2 * n := Int.mul_pos (by omega) hn
  have e := mkF_parts' hq h
  unfold fmul
  refine mkF_to (by simp only [Int.mul_one]; omega) hs ?_
  simp only [Int.mul_one] at e ⊢
  rw [Int.mul_assoc, Int.mul_comm n, ← e]

theorem le_of_mul {g x B : Int} (hg : 1 ≤ g) (h : g * x ≤ B) (hB : 0 ≤ B) : x ≤ B := by
  by_cases hx : x ≤ 0
  · omega
  · have := Int.mul_le_mul_of_nonneg_right hg (by omega : 0 ≤ x)
    omega

theorem ge_of_mul {g x B : Int} (hg : 1 ≤ g) (h : -B ≤ g * x) (hB : 0 ≤ B) : -B ≤ x := by
  have := le_of_mul (x := -x) (B := B) hg (by rw [Int.mul_neg]; omega) hB
  omega

/-- a small fraction -/
structure Sf (a : Fq) (A B : Int) : Prop where
  v : vF a = true
  p : -A ≤ a.1 ∧ a.1 ≤ A
  q : 1 ≤ a.2 ∧ a.2 ≤ B

theorem Sf.of {p q A B : Int} (hA : 0 ≤ A ∧ A ≤ 1000000000) (hB : B ≤ 1000000000) (hp : -A ≤ p ∧ p ≤ A) (hq : 1 ≤ q ∧ q ≤ B) : ∃ a, mkF p q = some a ∧ Sf a A B := by
  obtain ⟨g, a, e, hv, hg, e1, e2⟩ := mkF_small (p := p) (q := q) ⟨hq.1, by omega⟩ ⟨by omega, by omega⟩
  have hb := vF_bd hv
  exact ⟨a, e, hv, ⟨ge_of_mul hg (by rw [← e1]; exact hp.1) hA.1, le_of_mul hg (by rw [← e1]; exact hp.2) hA.1⟩, hb.1.1, le_of_mul hg (by rw [← e2]; exact hq.2) (by omega)⟩

section
variable {a b : Fq} (ha : vF a = true) (hb : vF b = true)
include ha hb

theorem impl_SubFracs_is : impl_SubFracs N0 a b = r2 ((fsub a b).getD (0, 0)) (bif (fsub a b).isSome then 0 else 3) := by
  simp only [impl_SubFracs, impl_SubFracs_t, pr_eta, cq_areValid_is (a :: b :: []) (by simp), Option.bind_some, List.all_cons, List.all_nil, ha, hb, Bool.and_self, Bool.and_true, Bool.not_true, cond_false, impl_calc_sub_is (Bd.of ha) (Bd.of hb), impl_calc_one_is, Bool.false_or]
  cases fsub a b <;> rfl

theorem impl_MulFracs_is : impl_MulFracs N0 a b = r2 ((fmul a b).getD (0, 0)) (bif (fmul a b).isSome then 0 else 3) := by
  simp only [impl_MulFracs, impl_MulFracs_t, pr_eta, cq_areValid_is (a :: b :: []) (by simp), Option.bind_some, List.all_cons, List.all_nil, ha, hb, Bool.and_self, Bool.and_true, Bool.not_true, cond_false, impl_calc_mul_is (Bd.of ha) (Bd.of hb), impl_calc_one_is, Bool.false_or]
  cases fmul a b <;> rfl

theorem impl_DivFracs_is (h0 : b.1 ≠ 0) : impl_DivFracs N0 a b = r2 ((fdiv a b).getD (0, 0)) (bif (fdiv a b).isSome then 0 else 3) := by
  simp only [impl_DivFracs, impl_DivFracs_t, pr_eta, cq_areValid_is (a :: b :: []) (by simp), Option.bind_some, List.all_cons, List.all_nil, ha, hb, Bool.and_self, Bool.and_true, Bool.not_true, cond_false, eq_f h0, impl_calc_div_is (Bd.of ha) (Bd.of hb) false h0, impl_calc_one_is, Bool.false_or]
  cases fdiv a b <;> rfl

theorem impl_DivFracs_zero (h0 : b.1 = 0) : impl_DivFracs N0 a b = r2 (0, 0) 4 := by
  simp only [impl_DivFracs, impl_DivFracs_t, pr_eta, cq_areValid_is (a :: b :: []) (by simp), Option.bind_some, List.all_cons, List.all_nil, ha, hb, Bool.and_self, Bool.and_true, Bool.not_true, cond_false, eq_t h0, cond_true]

theorem spec_MulFracs_is : spec_MulFracs N0 a b = r2 ((fmul a b).getD (0, 0)) (bif (fmul a b).isSome then 0 else 3) := by
  simp only [spec_MulFracs, spec_MulFracs_t, pr_eta, spec_l01Two_is, ha, hb, Option.bind_some, Bool.and_self, cond_true, bne_self_eq_false, cond_false, spec_l01Mul_is (Bd.of ha) (Bd.of hb)]

theorem spec_DivFracs_is (h0 : b.1 ≠ 0) : spec_DivFracs N0 a b = r2 ((fdiv a b).getD (0, 0)) (bif (fdiv a b).isSome then 0 else 3) := by
  simp only [spec_DivFracs, spec_DivFracs_t, pr_eta, spec_l01Two_is, ha, hb, Option.bind_some, Bool.and_self, cond_true, bne_self_eq_false, cond_false, eq_f h0, spec_l01Div_is (Bd.of ha) (Bd.of hb) h0]
end
end Go.Abs
