/- Lists of whole numbers at a law: copied, compared, marked. -/
import Derived.Test.YtpamckmeeamjjaaGreatDoorDPFracs0
import Derived.Test.YtpamckmeeamjjaaGreatDoorIx
namespace Go.Abs
set_option linter.unusedSimpArgs false
set_option linter.unusedSectionVars false
set_option linter.unusedVariables false

theorem laws_eqInt64S_l (n : Nat) (v w : List Int) (hb : v.length ≤ 1048576) (hl : v.length = w.length) : ∀ (k i : Nat), i ≤ v.length → v.length - i < k →
    laws_eqInt64S_l4 n k (i : Int) w v = r1 (v.drop i == w.drop i)
  | 0, i, _, hk => by omega
  | k + 1, i, hi, hk => by
    simp only [laws_eqInt64S_l4, laws_eqInt64S_t4]
    by_cases h : i < v.length
    · have h' : i < w.length := by omega
      simp only [lt_t h, lt_t h', nn_t, Bool.and_self, cond_true, Int.toNat_natCast, get_ix h, get_ix h', w_succ (i := i) (by omega)]
      rw [drop_ix h, drop_ix h', List.cons_beq_cons]
      by_cases he : v[i] = w[i]
      · rw [ne_f he, cond_false, laws_eqInt64S_l n v w hb hl k (i + 1) h (by omega)]
        simp [he]
      · rw [ne_true he, cond_true]
        simp [he]
    · have : i = v.length := by omega
      subst this
      simp only [lt_f h, cond_false]
      simp [hl]

theorem laws_eqInt64S_is (v w : List Int) (hb : v.length ≤ 1048576) : laws_eqInt64S N0 v w = r1 (v == w) := by
  have := N0_big
  simp only [laws_eqInt64S, laws_eqInt64S_t]
  by_cases hl : v.length = w.length
  · rw [hl, ne_f rfl, cond_false]
    have := laws_eqInt64S_l N0 v w hb hl N0 0 (by omega) (by omega)
    simpa using this
  · rw [ne_true (by omega), cond_true]
    have : (v == w) = false := by
      rw [beq_eq_false_iff_ne]
      intro h
      exact hl (by rw [h])
    rw [this]

/-- the numbers from 1 + i on -/
def marks (i m : Nat) : List Int := (List.range' i m).map fun (j : Nat) => 1 + (j : Int)

theorem laws_markInt64S_l (n : Nat) : ∀ (k i : Nat) (b : List Int), b.length ≤ 1048576 → i ≤ b.length → b.length - i < k →
    laws_markInt64S_l2 n k (i : Int) (1 + (i : Int)) b = c1 (1 + (b.length : Int)) (b.take i ++ marks i (b.length - i))
  | 0, i, b, _, _, hk => by omega
  | k + 1, i, b, hb, hi, hk => by
    simp only [laws_markInt64S_l2, laws_markInt64S_t2]
    by_cases h : i < b.length
    · have h5 : IntKind.wrap .i64 ((1 + (i : Int)) + 1) = 1 + ((i + 1 : Nat) : Int) := by rw [w_in (by unfold I64; omega)]; omega
      simp only [lt_t h, nn_t, Bool.and_self, h5, cond_true, Int.toNat_natCast, w_succ (i := i) (by omega)]
      rw [laws_markInt64S_l n k (i + 1) (b.set i (1 + (i : Int))) (by simpa using hb) (by rw [List.length_set]; omega) (by rw [List.length_set]; omega)]
      have e : b.length - i = (b.length - (i + 1)) + 1 := by omega
      rw [e]
      simp [marks, List.range'_succ, List.take_add_one, List.take_set_of_le, h]
    · have : i = b.length := by omega
      subst this
      simp only [lt_f h, cond_false]
      simp [marks]

theorem laws_markInt64S_is (b : List Int) (hb : b.length ≤ 1048576) : laws_markInt64S N0 1 b = c1 (1 + (b.length : Int)) (marks 0 b.length) := by
  have := N0_big
  have h := laws_markInt64S_l N0 N0 0 b hb (by omega) (by omega)
  simp only [laws_markInt64S, laws_markInt64S_t]
  simpa using h

theorem marks_len (i m : Nat) : (marks i m).length = m := by simp [marks]
theorem marks_at {i m : Nat} (h : i < m) : (marks 0 m).getD i 0 = 1 + (i : Int) := by simp [marks, List.getD, h]

theorem laws_heldInt64S_l (n m : Nat) (hb : m ≤ 1048576) : ∀ (k i : Nat), i ≤ m → m - i < k → laws_heldInt64S_l2 n k (i : Int) (1 + (i : Int)) (marks 0 m) = r1 (1 + (m : Int))
  | 0, i, _, hk => by omega
  | k + 1, i, hi, hk => by
    simp only [laws_heldInt64S_l2, laws_heldInt64S_t2, marks_len]
    by_cases h : i < m
    · have h5 : IntKind.wrap .i64 ((1 + (i : Int)) + 1) = 1 + ((i + 1 : Nat) : Int) := by rw [w_in (by unfold I64; omega)]; omega
      simp only [lt_t h, nn_t, Bool.and_self, h5, cond_true, Int.toNat_natCast, marks_at h, bne_self_eq_false, cond_false, w_succ (i := i) (by omega)]
      exact laws_heldInt64S_l n m hb k (i + 1) h (by omega)
    · have : i = m := by omega
      subst this
      simp only [lt_f h, cond_false]

theorem laws_heldInt64S_is (m : Nat) (hb : m ≤ 1048576) : laws_heldInt64S N0 (marks 0 m) 1 = r1 (1 + (m : Int)) := by
  have := N0_big
  have h := laws_heldInt64S_l N0 m hb N0 0 (by omega) (by omega)
  simp only [laws_heldInt64S, laws_heldInt64S_t]
  simpa using h

theorem one_nn (m : Nat) : decide (1 + (m : Int) < 0) = false := decide_eq_false (by omega)
end Go.Abs
