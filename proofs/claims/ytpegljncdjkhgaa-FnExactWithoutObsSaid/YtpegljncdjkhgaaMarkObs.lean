/- Marks on observations. -/
import Derived.Test.YtpegljncdjkhgaaDWithoutObs0
import Derived.Test.YtpegljncdjkhgaaTables
import Derived.Test.YtpegljncdjkhgaaValidTab
import Derived.Test.YtpegljncdjkhgaaMarkStd
namespace Go.Abs
set_option linter.unusedSectionVars false
set_option linter.unusedSimpArgs false
set_option linter.unusedVariables false

abbrev MoR : Type := Option (((Int × Unit) × Unit) × (List Ob × Unit))
abbrev HoR : Type := Option (((Int × Unit) × Unit) × Unit)
def setC (o : Ob) (j : Nat) (c : Int) : Ob :=
  ((cond (Nat.beq j 0) c o.1.1, (cond (Nat.beq j 1) c o.1.2.1, (cond (Nat.beq j 2) c o.1.2.2.1, (cond (Nat.beq j 3) c o.1.2.2.2.1, (cond (Nat.beq j 4) c o.1.2.2.2.2.1, cond (Nat.beq j 5) c o.1.2.2.2.2.2))))), ((o.2.1.1, o.2.1.2), o.2.2))

theorem lt6 {j : Nat} (h : j < 6) : decide ((j : Int) < 6) = true := decide_eq_true (by omega)

theorem mo_step (G : Int → Int → List Ob → MoR) (k j : Nat) (hj : j < 6) {i : Nat} {b : List Ob} (h : i < b.length) {v : Int} :
    laws_markObsS_l5 N0 G (k + 1) (j : Int) v (i : Int) b = laws_markObsS_l5 N0 G k ((j + 1 : Nat) : Int) (IntKind.wrap .i64 (v + 1)) (i : Int) (b.set i (setC (b.getD i dOb) j (IntKind.wrap .i8 v))) := by
  simp only [laws_markObsS_l5, laws_markObsS_t5, lt6 hj, lt_t h, nn_t, Bool.and_self, cond_true, Int.toNat_natCast, w_succ (i := j) (by omega), letIn, setC]

noncomputable def markOb (v : Int) : Ob := ((IntKind.wrap .i8 v, (IntKind.wrap .i8 (v + 1), (IntKind.wrap .i8 (v + 1 + 1), (IntKind.wrap .i8 (v + 1 + 1 + 1), (IntKind.wrap .i8 (v + 1 + 1 + 1 + 1), IntKind.wrap .i8 (v + 1 + 1 + 1 + 1 + 1)))))), ((v + 1 + 1 + 1 + 1 + 1 + 1, v + 1 + 1 + 1 + 1 + 1 + 1 + 1), v + 1 + 1 + 1 + 1 + 1 + 1 + 1 + 1))

theorem mo_round (G : Int → Int → List Ob → MoR) {i : Nat} {b : List Ob} (h : i < b.length) {v : Int} (hv : 0 ≤ v ∧ v ≤ 100000000) (hb : b.length ≤ 1048576) :
    laws_markObsS_l5 N0 G N0 0 v (i : Int) b = G (v + 1 + 1 + 1 + 1 + 1 + 1 + 1 + 1 + 1) ((i + 1 : Nat) : Int) (b.set i (markOb v)) := by
  obtain ⟨k, hk⟩ := N0_up 7 (by decide)
  rw [show laws_markObsS_l5 N0 G N0 = laws_markObsS_l5 N0 G (k + 7) by rw [← hk]]
  have e1 : IntKind.wrap .i64 (v + 1) = v + 1 := w_in (by unfold I64; omega)
  have e2 : IntKind.wrap .i64 (v + 1 + 1) = v + 1 + 1 := w_in (by unfold I64; omega)
  have e3 : IntKind.wrap .i64 (v + 1 + 1 + 1) = v + 1 + 1 + 1 := w_in (by unfold I64; omega)
  have e4 : IntKind.wrap .i64 (v + 1 + 1 + 1 + 1) = v + 1 + 1 + 1 + 1 := w_in (by unfold I64; omega)
  have e5 : IntKind.wrap .i64 (v + 1 + 1 + 1 + 1 + 1) = v + 1 + 1 + 1 + 1 + 1 := w_in (by unfold I64; omega)
  have e6 : IntKind.wrap .i64 (v + 1 + 1 + 1 + 1 + 1 + 1) = v + 1 + 1 + 1 + 1 + 1 + 1 := w_in (by unfold I64; omega)
  have e7 : IntKind.wrap .i64 (v + 1 + 1 + 1 + 1 + 1 + 1 + 1) = v + 1 + 1 + 1 + 1 + 1 + 1 + 1 := w_in (by unfold I64; omega)
  have e8 : IntKind.wrap .i64 (v + 1 + 1 + 1 + 1 + 1 + 1 + 1 + 1) = v + 1 + 1 + 1 + 1 + 1 + 1 + 1 + 1 := w_in (by unfold I64; omega)
  have e9 : IntKind.wrap .i64 (v + 1 + 1 + 1 + 1 + 1 + 1 + 1 + 1 + 1) = v + 1 + 1 + 1 + 1 + 1 + 1 + 1 + 1 + 1 := w_in (by unfold I64; omega)
  rw [show (0 : Int) = ((0 : Nat) : Int) from rfl, show k + 7 = (k + 6) + 1 from rfl, mo_step G (k + 6) 0 (by decide) (by simpa using h), e1]
  rw [show k + 6 = (k + 5) + 1 from rfl, mo_step G (k + 5) 1 (by decide) (by simpa using h), e2]
  rw [show k + 5 = (k + 4) + 1 from rfl, mo_step G (k + 4) 2 (by decide) (by simpa using h), e3]
  rw [show k + 4 = (k + 3) + 1 from rfl, mo_step G (k + 3) 3 (by decide) (by simpa using h), e4]
  rw [show k + 3 = (k + 2) + 1 from rfl, mo_step G (k + 2) 4 (by decide) (by simpa using h), e5]
  rw [show k + 2 = (k + 1) + 1 from rfl, mo_step G (k + 1) 5 (by decide) (by simpa using h), e6]
  simp only [set_get h, List.set_set]
  simp only [laws_markObsS_l5, laws_markObsS_t5, List.length_set, lt_t h, nn_t, Bool.and_self, cond_true, Int.toNat_natCast, w_succ (i := i) (by omega), e1, e2, e3, e4, e5, e6, e7, e8, e9]
  rw [dec_f (by omega), cond_false]
  rw [letIn]; simp only [set_get h, List.set_set, List.length_set, lt_t h, nn_t, Bool.and_self, cond_true]
  rw [letIn]; simp only [set_get h, List.set_set, List.length_set, lt_t h, nn_t, Bool.and_self, cond_true]
  rw [letIn]
  rfl

noncomputable def marksO : Int → Nat → List Ob
  | _, 0 => []
  | v, m + 1 => markOb v :: marksO (v + 9) m

theorem marksO_len : ∀ (m : Nat) (v : Int), (marksO v m).length = m
  | 0, v => rfl
  | m + 1, v => by rw [marksO, List.length_cons, marksO_len m]

theorem laws_markObsS_l2_is : ∀ (k i : Nat) (v : Int) (b : List Ob), i ≤ b.length → b.length ≤ 1048576 → b.length - i < k → 0 ≤ v → v + 9 * ((b.length : Int) - (i : Int)) ≤ 20000000 →
    laws_markObsS_l2 N0 k v (i : Int) b = c1 (v + 9 * ((b.length : Int) - (i : Int))) (b.take i ++ marksO v (b.length - i))
  | 0, i, v, b, _, _, hk, _, _ => by omega
  | k + 1, i, v, b, hi, hb, hk, h0, hv => by
    simp only [laws_markObsS_l2, laws_markObsS_t2]
    by_cases h : i < b.length
    · rw [lt_t h, cond_true, mo_round _ h (by omega) hb]
      have ih := laws_markObsS_l2_is k (i + 1) (v + 1 + 1 + 1 + 1 + 1 + 1 + 1 + 1 + 1) (b.set i (markOb v)) (by rw [List.length_set]; exact h) (by rw [List.length_set]; exact hb) (by rw [List.length_set]; omega) (by omega) (by rw [List.length_set]; omega)
      rw [ih]
      rw [List.length_set, take_set h, show b.length - i = (b.length - (i + 1)) + 1 by omega, marksO, List.append_assoc, show v + 1 + 1 + 1 + 1 + 1 + 1 + 1 + 1 + 1 = v + 9 by omega]
      rw [show v + 9 + 9 * ((b.length : Int) - ((i + 1 : Nat) : Int)) = v + 9 * ((b.length : Int) - (i : Int)) by omega]
      rfl
    · have : i = b.length := by omega
      subst this
      rw [lt_f h]
      simp only [cond_false, Nat.sub_self, marksO, List.append_nil, List.take_length, Int.sub_self, Int.mul_zero, Int.add_zero]

theorem laws_markObsS_is (b : List Ob) (hb : b.length ≤ 1048576) : laws_markObsS N0 1 b = c1 (1 + 9 * (b.length : Int)) (marksO 1 b.length) := by
  have := N0_big
  have e := laws_markObsS_l2_is N0 0 1 b (by omega) hb (by omega) (by omega) (by omega)
  simp only [Int.sub_zero, List.take_zero, List.nil_append, Nat.sub_zero, Int.natCast_zero] at e
  exact e

theorem laws_markTable_is (x : Int × ((Bool × (Int × Int)) × Unit)) (b : List Ob) (hb : b.length ≤ 1048576) : laws_markTable N0 x 1 b = c1 (1 + 9 * (b.length : Int)) (marksO 1 b.length) := by
  simp only [laws_markTable, laws_markTable_t, laws_markObsS_is b hb, Option.bind_some]

theorem marksO_at : ∀ (m i : Nat) (v : Int), i < m → (marksO v m)[i]? = some (markOb (v + 9 * (i : Int)))
  | 0, i, v, h => by omega
  | m + 1, 0, v, h => by rw [marksO]; simp
  | m + 1, i + 1, v, h => by
    rw [marksO, List.getElem?_cons_succ, marksO_at m i (v + 9) (by omega)]
    congr 2
    omega

theorem ho_step (G : Int → Int → List Ob → HoR) (k j : Nat) (hj : j < 6) {i : Nat} {b : List Ob} (h : i < b.length) {v : Int} (hc : at6 (b.getD i dOb).1 j = IntKind.wrap .i8 v) :
    laws_heldObsS_l5 N0 G (k + 1) (j : Int) v (i : Int) b = laws_heldObsS_l5 N0 G k ((j + 1 : Nat) : Int) (IntKind.wrap .i64 (v + 1)) (i : Int) b := by
  unfold at6 at hc
  simp only [laws_heldObsS_l5, laws_heldObsS_t5, lt6 hj, lt_t h, nn_t, Bool.and_self, cond_true, Int.toNat_natCast, w_succ (i := j) (by omega), hc, bne_self_eq_false, cond_false]

theorem ho_round (G : Int → Int → List Ob → HoR) {i : Nat} {b : List Ob} (h : i < b.length) {v : Int} (hv : 0 ≤ v ∧ v ≤ 100000000) (hb : b.length ≤ 1048576) (hx : b.getD i dOb = markOb v) :
    laws_heldObsS_l5 N0 G N0 0 v (i : Int) b = G (v + 1 + 1 + 1 + 1 + 1 + 1 + 1 + 1 + 1) ((i + 1 : Nat) : Int) b := by
  obtain ⟨k, hk⟩ := N0_up 7 (by decide)
  rw [show laws_heldObsS_l5 N0 G N0 = laws_heldObsS_l5 N0 G (k + 7) by rw [← hk]]
  have e1 : IntKind.wrap .i64 (v + 1) = v + 1 := w_in (by unfold I64; omega)
  have e2 : IntKind.wrap .i64 (v + 1 + 1) = v + 1 + 1 := w_in (by unfold I64; omega)
  have e3 : IntKind.wrap .i64 (v + 1 + 1 + 1) = v + 1 + 1 + 1 := w_in (by unfold I64; omega)
  have e4 : IntKind.wrap .i64 (v + 1 + 1 + 1 + 1) = v + 1 + 1 + 1 + 1 := w_in (by unfold I64; omega)
  have e5 : IntKind.wrap .i64 (v + 1 + 1 + 1 + 1 + 1) = v + 1 + 1 + 1 + 1 + 1 := w_in (by unfold I64; omega)
  have e6 : IntKind.wrap .i64 (v + 1 + 1 + 1 + 1 + 1 + 1) = v + 1 + 1 + 1 + 1 + 1 + 1 := w_in (by unfold I64; omega)
  have e7 : IntKind.wrap .i64 (v + 1 + 1 + 1 + 1 + 1 + 1 + 1) = v + 1 + 1 + 1 + 1 + 1 + 1 + 1 := w_in (by unfold I64; omega)
  have e8 : IntKind.wrap .i64 (v + 1 + 1 + 1 + 1 + 1 + 1 + 1 + 1) = v + 1 + 1 + 1 + 1 + 1 + 1 + 1 + 1 := w_in (by unfold I64; omega)
  have e9 : IntKind.wrap .i64 (v + 1 + 1 + 1 + 1 + 1 + 1 + 1 + 1 + 1) = v + 1 + 1 + 1 + 1 + 1 + 1 + 1 + 1 + 1 := w_in (by unfold I64; omega)
  rw [show (0 : Int) = ((0 : Nat) : Int) from rfl, show k + 7 = (k + 6) + 1 from rfl, ho_step G (k + 6) 0 (by decide) h (by rw [hx]; rfl), e1]
  rw [show k + 6 = (k + 5) + 1 from rfl, ho_step G (k + 5) 1 (by decide) h (by rw [hx]; rfl), e2]
  rw [show k + 5 = (k + 4) + 1 from rfl, ho_step G (k + 4) 2 (by decide) h (by rw [hx]; rfl), e3]
  rw [show k + 4 = (k + 3) + 1 from rfl, ho_step G (k + 3) 3 (by decide) h (by rw [hx]; rfl), e4]
  rw [show k + 3 = (k + 2) + 1 from rfl, ho_step G (k + 2) 4 (by decide) h (by rw [hx]; rfl), e5]
  rw [show k + 2 = (k + 1) + 1 from rfl, ho_step G (k + 1) 5 (by decide) h (by rw [hx]; rfl), e6]
  simp only [dOb] at hx
  simp only [laws_heldObsS_l5, laws_heldObsS_t5, lt_t h, nn_t, Bool.and_self, cond_true, Int.toNat_natCast, w_succ (i := i) (by omega), e1, e2, e3, e4, e5, e6, e7, e8, e9, hx]
  rw [dec_f (by omega), cond_false]
  simp only [markOb, bne_self_eq_false, cond_false]

theorem laws_heldObsS_l2_is (m : Nat) (hm : m ≤ 1048576) : ∀ (k i : Nat) (v : Int), i ≤ m → m - i < k → v = 1 + 9 * (i : Int) →
    laws_heldObsS_l2 N0 k v (i : Int) (marksO 1 m) = r1 (1 + 9 * (m : Int))
  | 0, i, v, _, hk, _ => by omega
  | k + 1, i, v, hi, hk, hv => by
    simp only [laws_heldObsS_l2, laws_heldObsS_t2, marksO_len]
    by_cases h : i < m
    · have hx : (marksO 1 m).getD i dOb = markOb v := by rw [List.getD, marksO_at m i 1 h, hv]; rfl
      rw [lt_t h, cond_true, ho_round _ (by rw [marksO_len]; exact h) (by omega) (by rw [marksO_len]; exact hm) hx]
      exact laws_heldObsS_l2_is m hm k (i + 1) _ h (by omega) (by omega)
    · have : i = m := by omega
      subst this
      rw [lt_f h, hv]
      rfl

theorem laws_heldObsS_is (m : Nat) (hm : m ≤ 1048576) : laws_heldObsS N0 (marksO 1 m) 1 = r1 (1 + 9 * (m : Int)) := by
  have := N0_big
  exact laws_heldObsS_l2_is m hm N0 0 1 (by omega) (by omega) (by omega)

theorem nine_nn (m : Nat) : decide (1 + 9 * (m : Int) < 0) = false := decide_eq_false (by omega)

theorem laws_heldTable_is (n : Int) (r : Bool × (Int × Int)) (m : Nat) (hm : m ≤ 1048576) : laws_heldTable N0 (n, (marksO 1 m, r)) 1 = r1 (1 + 9 * (m : Int)) := by
  simp only [laws_heldTable, laws_heldTable_t, laws_heldObsS_is m hm, Option.bind_some, nine_nn, cond_false]
end Go.Abs
