/- Lists of fractions at a law: copied, compared, marked. -/
import Derived.Test.YtipjecagbndhbaaDPVerniers0
import Derived.Test.YtipjecagbndhbaaPrims
import Derived.Test.YtipjecagbndhbaaIx
namespace Go.Abs
set_option linter.unusedSectionVars false
set_option linter.unusedSimpArgs false
set_option linter.unusedVariables false

theorem fl_toFrac_is (n : Nat) (a : Int × Int) : laws_toFrac n a = r1 a := rfl

theorem laws_toFracS_is (v : List (Int × Int)) (hb : v.length ≤ 1048576) : laws_toFracS N0 v = r1 v := by
  simp only [laws_toFracS, laws_toFracS_t, beq_self_eq_true, nn_t, Int.toNat_natCast, room_t (k := v.length) (c := 17) (by omega), Bool.and_self, cond_true]
  exact copyF_all (cl := laws_toFrac N0) (fl_toFrac_is N0) (fun _ _ _ _ => rfl) v (by omega)

theorem laws_eqFracS_refl (v : List (Int × Int)) (hb : v.length ≤ 1048576) : laws_eqFracS N0 v v = r1 true := by
  simp only [laws_eqFracS, laws_eqFracS_t]
  exact eqR_all (cl := laws_eqFrac N0) (fun _ _ _ _ => rfl) v (fun x _ => by rw [laws_eqFrac_is, beq_self_eq_true]) (by omega)

theorem laws_szFracS_is (v : List (Int × Int)) (m : Int) (hb : v.length ≤ 9223372036854775807) (hm : 0 ≤ m ∧ m ≤ 1048576) : ∃ r, laws_szFracS N0 v m = r1 r ∧ r ≤ m ∧ (0 ≤ r → v.length ≤ 1048576) := by
  simp only [laws_szFracS, laws_szFracS_t]
  rw [w_in (x := m - (v.length : Int)) (by unfold I64; omega)]
  by_cases h : m - (v.length : Int) < 0
  · rw [dec_t h, cond_true]
    exact ⟨-1, rfl, by omega, by omega⟩
  · rw [dec_f h, cond_false]
    exact ⟨_, rfl, by omega, by omega⟩

/-- marked fractions -/
def marksF (i m : Nat) : List (Int × Int) := (List.range' i m).map fun (j : Nat) => (1 + 2 * (j : Int), 2 + 2 * (j : Int))

theorem set_twice (b : List (Int × Int)) (i : Nat) (x y : Int) (h : i < b.length) : (b.set i (x, (b.getD i (0, 0)).2)).set i (((b.set i (x, (b.getD i (0, 0)).2)).getD i (0, 0)).1, y) = b.set i (x, y) := by
  simp [List.getD, h]

theorem laws_markFracS_l (n : Nat) : ∀ (k i : Nat) (b : List (Int × Int)), b.length ≤ 1048576 → i ≤ b.length → b.length - i < k →
    laws_markFracS_l2 n k (i : Int) (1 + 2 * (i : Int)) b = c1 (1 + 2 * (b.length : Int)) (b.take i ++ marksF i (b.length - i))
  | 0, i, b, _, _, hk => by omega
  | k + 1, i, b, hb, hi, hk => by
    simp only [laws_markFracS_l2, laws_markFracS_t2]
    by_cases h : i < b.length
    · have h5 : IntKind.wrap .i64 ((1 + 2 * (i : Int)) + 1) = 2 + 2 * (i : Int) := by rw [w_in (by unfold I64; omega)]; omega
      have h6 : IntKind.wrap .i64 ((2 + 2 * (i : Int)) + 1) = 1 + 2 * ((i + 1 : Nat) : Int) := by rw [w_in (by unfold I64; omega)]; omega
      simp only [lt_t h, nn_t, List.length_set, Bool.and_self, h5, h6, cond_true, Int.toNat_natCast, w_succ (i := i) (by omega), set_twice b i _ _ h]
      rw [laws_markFracS_l n k (i + 1) (b.set i (1 + 2 * (i : Int), 2 + 2 * (i : Int))) (by simpa using hb) (by rw [List.length_set]; omega) (by rw [List.length_set]; omega)]
      have e : b.length - i = (b.length - (i + 1)) + 1 := by omega
      rw [e]
      simp [marksF, List.range'_succ, List.take_add_one, List.take_set_of_le, h]
    · have : i = b.length := by omega
      subst this
      simp only [lt_f h, cond_false]
      simp [marksF]

theorem laws_markFracS_is (b : List (Int × Int)) (hb : b.length ≤ 1048576) : laws_markFracS N0 1 b = c1 (1 + 2 * (b.length : Int)) (marksF 0 b.length) := by
  have := N0_big
  have h := laws_markFracS_l N0 N0 0 b hb (by omega) (by omega)
  simp only [laws_markFracS, laws_markFracS_t]
  simpa using h

theorem marksF_len (i m : Nat) : (marksF i m).length = m := by simp [marksF]
theorem marksF_at {i m : Nat} (h : i < m) : (marksF 0 m).getD i (0, 0) = (1 + 2 * (i : Int), 2 + 2 * (i : Int)) := by simp [marksF, List.getD, h]

theorem laws_heldFracS_l (n m : Nat) (hb : m ≤ 1048576) : ∀ (k i : Nat), i ≤ m → m - i < k → laws_heldFracS_l2 n k (i : Int) (marksF 0 m) (1 + 2 * (i : Int)) = r1 (1 + 2 * (m : Int))
  | 0, i, _, hk => by omega
  | k + 1, i, hi, hk => by
    simp only [laws_heldFracS_l2, laws_heldFracS_t2, marksF_len]
    by_cases h : i < m
    · have h5 : IntKind.wrap .i64 ((1 + 2 * (i : Int)) + 1) = 2 + 2 * (i : Int) := by rw [w_in (by unfold I64; omega)]; omega
      have h6 : IntKind.wrap .i64 ((2 + 2 * (i : Int)) + 1) = 1 + 2 * ((i + 1 : Nat) : Int) := by rw [w_in (by unfold I64; omega)]; omega
      simp only [lt_t h, nn_t, Bool.and_self, h5, h6, cond_true, Int.toNat_natCast, marksF_at h, bne_self_eq_false, cond_false, w_succ (i := i) (by omega)]
      exact laws_heldFracS_l n m hb k (i + 1) h (by omega)
    · have : i = m := by omega
      subst this
      simp only [lt_f h, cond_false]

theorem laws_heldFracS_is (m : Nat) (hb : m ≤ 1048576) : laws_heldFracS N0 (marksF 0 m) 1 = r1 (1 + 2 * (m : Int)) := by
  have := N0_big
  have h := laws_heldFracS_l N0 m hb N0 0 (by omega) (by omega)
  simp only [laws_heldFracS, laws_heldFracS_t]
  simpa using h

theorem two_nn (m : Nat) : decide (1 + 2 * (m : Int) < 0) = false := decide_eq_false (by omega)
end Go.Abs
