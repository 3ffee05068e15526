/- Fractions that are whole multiples of one small part of a unit. -/
import Derived.Test.YtipjecagbndhbaaFracQ
import Derived.Test.YtipjecagbndhbaaSizeP
namespace Go.Abs
set_option linter.unusedSectionVars false
set_option linter.unusedSimpArgs false
set_option linter.unusedVariables false

theorem redP_scale {c P Q : Int} (hc : 0 < c) (hQ : 0 < Q) : redP (c * P) (c * Q) = redP P Q := by
  have hg : ((Int.gcd (c * P) (c * Q) : Nat) : Int) = c * ((Int.gcd P Q : Nat) : Int) := by
    rw [Int.gcd_mul_left, Int.natCast_mul]
    congr 1
    omega
  rw [redP_pos (Int.mul_pos hc hQ), redP_pos hQ, hg, Int.mul_tdiv_mul_of_pos _ _ hc, Int.mul_tdiv_mul_of_pos _ _ hc]

theorem redP_same {P Q P' Q' : Int} (hQ : 0 < Q) (hQ' : 0 < Q') (h : P * Q' = P' * Q) : redP P Q = redP P' Q' := by
  rw [← redP_scale (c := Q') hQ' hQ, ← redP_scale (P := P') (c := Q) hQ hQ', Int.mul_comm Q' P, h, Int.mul_comm P' Q, Int.mul_comm Q' Q]

theorem mkF_same {P Q P' Q' : Int} (hQ : 0 < Q) (hQ' : 0 < Q') (h : P * Q' = P' * Q) : mkF P Q = mkF P' Q' := by
  unfold mkF
  rw [redP_same hQ hQ' h]

/-- the unit and the number of parts -/
structure Qn (p q M : Int) : Prop where
  p : 1 ≤ p ∧ p ≤ 6
  q : 1 ≤ q ∧ q ≤ 4
  M : 2 ≤ M ∧ M ≤ 12

/-- small whole numbers -/
abbrev Sm (A : Int) : Prop := -100000 ≤ A ∧ A ≤ 100000

/-- A of the small parts: the unit's 48 M th parts -/
def qF (p q M A : Int) : Fq := (mkF (A * p) (48 * M * q)).getD (0, 1)

section
variable {p q M : Int} (h : Qn p q M) {A B : Int}
include h

theorem qn_den : 1 ≤ 48 * M * q ∧ 48 * M * q ≤ 2304 := by
  have h1 := mul_pos_bd (a := M) (b := q) (A := 12) (B := 4) (by have := h.M; omega) (by have := h.q; omega)
  have h2 : 0 < M * q := Int.mul_pos (by have := h.M; omega) (by have := h.q; omega)
  rw [Int.mul_assoc]
  omega

theorem qF_some (hA : Sm A) : mkF (A * p) (48 * M * q) = some (qF p q M A) ∧ vF (qF p q M A) = true := by
  have hd := qn_den h
  have hp := mul_bd (a := A) (b := p) (A := 100000) (B := 6) hA (by have := h.p; omega)
  obtain ⟨g, a, e, hv, _⟩ := mkF_small (p := A * p) (q := 48 * M * q) (by omega) (by omega)
  unfold qF
  rw [e]
  exact ⟨rfl, hv⟩

theorem qF_of (hA : Sm A) {P Q : Int} (hQ : 0 < Q) (e : P * (48 * M * q) = A * p * Q) : mkF P Q = some (qF p q M A) := by
  have hd := qn_den h
  rw [mkF_same (P' := A * p) (Q' := 48 * M * q) hQ (by omega) e]
  exact (qF_some h hA).1

theorem qF_val (hA : Sm A) : (qF p q M A).1 * (48 * M * q) = A * p * (qF p q M A).2 := by
  have hd := qn_den h
  have hp := mul_bd (a := A) (b := p) (A := 100000) (B := 6) hA (by have := h.p; omega)
  obtain ⟨g, a, e, hv, hg, e1, e2⟩ := mkF_small (p := A * p) (q := 48 * M * q) (by omega) (by omega)
  have ea : qF p q M A = a := by unfold qF; rw [e]; rfl
  rw [ea, e1, e2]
  grind

theorem qF_bd (hA : Sm A) : Bd (qF p q M A) := Bd.of (qF_some h hA).2

theorem qF_add (hA : Sm A) (hB : Sm B) (hC : Sm (A + B)) : fadd (qF p q M A) (qF p q M B) = some (qF p q M (A + B)) := by
  have hd := qn_den h
  have ha := (qF_bd h hA).1
  have hb := (qF_bd h hB).1
  have ea := qF_val h hA
  have eb := qF_val h hB
  refine qF_of h hC (Int.mul_pos (by omega) (by omega)) ?_
  generalize 48 * M * q = k at *
  grind

theorem qF_sub (hA : Sm A) (hB : Sm B) (hC : Sm (A - B)) : fsub (qF p q M A) (qF p q M B) = some (qF p q M (A - B)) := by
  have hd := qn_den h
  have ha := (qF_bd h hA).1
  have hb := (qF_bd h hB).1
  have ea := qF_val h hA
  have eb := qF_val h hB
  refine qF_of h hC (Int.mul_pos (by omega) (by omega)) ?_
  generalize 48 * M * q = k at *
  grind

/-- comparisons are those of the whole numbers -/
theorem qF_cross (hA : Sm A) (hB : Sm B) : (qF p q M A).1 * (qF p q M B).2 < (qF p q M B).1 * (qF p q M A).2 ↔ A < B := by
  have hd := qn_den h
  have ha := (qF_bd h hA).1
  have hb := (qF_bd h hB).1
  have hp := h.p
  have ea := qF_val h hA
  have eb := qF_val h hB
  have hk : 0 < 48 * M * q := by omega
  have hm : 0 < p * ((qF p q M A).2 * (qF p q M B).2) := Int.mul_pos (by omega) (Int.mul_pos (by omega) (by omega))
  have e1 : (48 * M * q) * ((qF p q M A).1 * (qF p q M B).2) = (p * ((qF p q M A).2 * (qF p q M B).2)) * A := by
    generalize 48 * M * q = k at *
    grind
  have e2 : (48 * M * q) * ((qF p q M B).1 * (qF p q M A).2) = (p * ((qF p q M A).2 * (qF p q M B).2)) * B := by
    generalize 48 * M * q = k at *
    grind
  constructor
  · intro hl
    have := Int.mul_lt_mul_of_pos_left hl hk
    rw [e1, e2] at this
    exact Int.lt_of_mul_lt_mul_left this (by omega)
  · intro hl
    have := Int.mul_lt_mul_of_pos_left hl hm
    rw [← e1, ← e2] at this
    exact Int.lt_of_mul_lt_mul_left this (by omega)

theorem qF_cmp (hA : Sm A) (hB : Sm B) : cmpF (qF p q M A) (qF p q M B) = bif decide (A < B) then -1 else bif decide (A > B) then 1 else 0 := by
  have ha := qF_bd h hA
  have hb := qF_bd h hB
  have h1 := bd_pq ha hb
  have h2 := bd_pq hb ha
  unfold cmpF
  rw [w_in (x := (qF p q M A).1 * (qF p q M B).2) (by unfold I64; omega), w_in (x := (qF p q M B).1 * (qF p q M A).2) (by unfold I64; omega)]
  have c1 := qF_cross h hA hB
  have c2 := qF_cross h hB hA
  rw [decide_eq_decide.2 c1]
  have : decide ((qF p q M A).1 * (qF p q M B).2 > (qF p q M B).1 * (qF p q M A).2) = decide (A > B) := decide_eq_decide.2 c2
  rw [this]

theorem qF_lt (hA : Sm A) (hB : Sm B) : decide (cmpF (qF p q M A) (qF p q M B) < 0) = decide (A < B) := by
  rw [qF_cmp h hA hB]
  by_cases h1 : A < B
  · rw [dec_t h1]; rfl
  · rw [dec_f h1]
    by_cases h2 : A > B
    · rw [dec_t h2]; rfl
    · rw [dec_f h2]; rfl

theorem qF_gt (hA : Sm A) (hB : Sm B) : decide (cmpF (qF p q M A) (qF p q M B) > 0) = decide (A > B) := by
  rw [qF_cmp h hA hB]
  by_cases h1 : A < B
  · rw [dec_t h1, dec_f (p := A > B) (by omega)]; rfl
  · rw [dec_f h1]
    by_cases h2 : A > B
    · rw [dec_t h2]; rfl
    · rw [dec_f h2]; rfl

theorem qF_inj (hA : Sm A) (hB : Sm B) (e : qF p q M A = qF p q M B) : A = B := by
  have c1 := qF_cross h hA hB
  have c2 := qF_cross h hB hA
  rw [e] at c1 c2
  omega

theorem qF_size (hA : Sm A) : szF (qF p q M A) = qF p q M ((A.natAbs : Nat) : Int) := by
  have hd := qn_den h
  have hp := h.p
  have e := (qF_some h hA).1
  have hS : Sm ((A.natAbs : Nat) : Int) := by unfold Sm at *; omega
  have e' := (qF_some h hS).1
  rcases Int.le_total 0 A with h0 | h0
  · have hAe : ((A.natAbs : Nat) : Int) = A := by omega
    rw [hAe]
    have hv := qF_val h hA
    have hb := (qF_bd h hA).1
    have hn : 0 ≤ (qF p q M A).1 := by
      have : 0 ≤ A * p * (qF p q M A).2 := Int.mul_nonneg (Int.mul_nonneg h0 (by omega)) (by omega)
      rw [← hv] at this
      exact Int.le_of_mul_le_mul_right (by rw [Int.zero_mul]; exact this) (show 0 < 48 * M * q by omega)
    unfold szF
    rw [show (((qF p q M A).1.natAbs : Nat) : Int) = (qF p q M A).1 by omega]
  · have hAe : ((A.natAbs : Nat) : Int) = -A := by omega
    rw [hAe] at e' ⊢
    have hv := qF_val h hA
    have hb := (qF_bd h hA).1
    have hn : (qF p q M A).1 ≤ 0 := by
      have : 0 ≤ (-A) * p * (qF p q M A).2 := Int.mul_nonneg (Int.mul_nonneg (by omega) (by omega)) (by omega)
      have h2 : (-A) * p * (qF p q M A).2 = (-(qF p q M A).1) * (48 * M * q) := by
        generalize 48 * M * q = k at *
        grind
      rw [h2] at this
      have h3 : 0 * (48 * M * q) ≤ (-(qF p q M A).1) * (48 * M * q) := by rw [Int.zero_mul]; exact this
      have h4 : 0 ≤ -(qF p q M A).1 := Int.le_of_mul_le_mul_right h3 (by omega)
      omega
    have := mkF_neg (p := A * p) (by omega) e
    rw [show -(A * p) = -A * p by rw [Int.neg_mul], e'] at this
    injection this with this
    unfold szF
    rw [this, show (((qF p q M A).1.natAbs : Nat) : Int) = -(qF p q M A).1 by omega]

theorem qF_zero : qF p q M 0 = (0, 1) := by
  unfold qF
  rw [Int.zero_mul, mkF_zero (qn_den h).1]
  rfl

/-- multiples of the unit -/
theorem qF_units {i : Int} (hi : Sm (48 * M * i)) : fmul (i, 1) (p, q) = some (qF p q M (48 * M * i)) := by
  have hq := h.q
  refine qF_of h hi (P := i * p) (Q := 1 * q) (by omega) ?_
  grind
end
end Go.Abs
