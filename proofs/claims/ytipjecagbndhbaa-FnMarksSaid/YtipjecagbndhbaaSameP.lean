/- Equal lists; faults out of sectors that close. -/
import Derived.Test.YtipjecagbndhbaaDPMarks0
import Derived.Test.YtipjecagbndhbaaSectors
namespace Go.Abs
set_option linter.unusedSectionVars false
set_option linter.unusedSimpArgs false
set_option linter.unusedVariables false

theorem spec_l00Same_l4_refl (v : List Int) (hb : v.length ≤ 1048576) : ∀ (k i : Nat), i ≤ v.length → v.length - i < k → spec_l00Same_l4 N0 k (i : Int) v v = r1 true
  | 0, i, _, hk => by omega
  | k + 1, i, hi, hk => by
    simp only [spec_l00Same_l4, spec_l00Same_t4]
    by_cases h : i < v.length
    · simp only [lt_t h, nn_t, Bool.and_self, cond_true, bne_self_eq_false, cond_false, w_succ (i := i) (by omega)]
      exact spec_l00Same_l4_refl v hb k (i + 1) h (by omega)
    · have : i = v.length := by omega
      subst this
      rw [lt_f h]
      rfl

theorem spec_A2Same_refl (v : List Int) (hb : v.length ≤ 1048576) : spec_A2Same N0 v v = r1 true := by
  have := N0_big
  have e := spec_l00Same_l4_refl v hb N0 0 (by omega) (by omega)
  have e : spec_l00Same_l4 N0 N0 0 v v = r1 true := e
  simp only [spec_A2Same, spec_A2Same_t, spec_l00Same, spec_l00Same_t, bne_self_eq_false, cond_false, e, Option.bind_some]

theorem sumL_append (v w : List Int) : sumL (v ++ w) = sumL v + sumL w := by
  induction v with
  | nil => simp [sumL]
  | cons x r ih => rw [List.cons_append, sumL, sumL, ih]; omega

theorem take_sum {w : List Int} {i : Nat} (hi : i < w.length) : sumL (w.take (i + 1)) = sumL (w.take i) + w.getD i 0 := by
  rw [take_ix hi, sumL_append, get_ix hi]
  simp [sumL]

theorem flt_at {c : Int} (hc : 0 ≤ c ∧ c ≤ 2000000) : ∀ (w : List Int) (p : Int) (i : Nat), (∀ y ∈ w, -5000 ≤ y ∧ y ≤ 2005000) → (-(5000000 * (100 - (w.length : Int))) ≤ p ∧ p ≤ 5000000 * (100 - (w.length : Int))) → w.length ≤ 100 → i < w.length →
    (flt c p w).getD i 0 = p + sumL (w.take (i + 1)) - c * ((i : Int) + 1)
  | [], p, i, _, _, _, hi => by simp at hi
  | x :: r, p, i, hw, hp, hl, hi => by
    have hx := hw x (by simp)
    simp only [List.length_cons] at hp hl hi
    rw [flt, w_in (x := p + x) (by unfold I64; omega), w_in (x := p + x - c) (by unfold I64; omega)]
    cases i with
    | zero => simp [sumL] <;> omega
    | succ i =>
      have := flt_at hc r (p + x - c) i (fun y hy => hw y (by simp [hy])) (by omega) (by omega) (by omega)
      rw [List.getD_cons_succ, this, List.take_succ_cons, sumL, show ((i + 1 : Nat) : Int) + 1 = ((i : Int) + 1) + 1 by omega, Int.mul_add c ((i : Int) + 1) 1]
      omega

theorem shares_zero (m : Int) : ∀ (v : List Int) (i : Nat), (∀ y ∈ v, I64 y) → secShares 0 m i v = v
  | [], _, _ => rfl
  | x :: r, i, h => by
    have e : secShare 0 m i x = x := by
      unfold secShare
      simp only [Int.mul_zero, show IntKind.wrap .i64 0 = 0 from rfl, Int.zero_ediv, Int.sub_self, Int.sub_zero]
      exact w_in (h x (by simp))
    rw [secShares, e, shares_zero m r (i + 1) fun y hy => h y (by simp [hy])]
end Go.Abs
