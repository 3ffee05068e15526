/- Marks on standards. -/
import Derived.Test.YtpegljncdjkhgaaDWithoutObs0
import Derived.Test.YtpegljncdjkhgaaChain
import Derived.Test.YtpegljncdjkhgaaInts
import Derived.Test.YtpegljncdjkhgaaChainL
namespace Go.Abs
set_option linter.unusedSectionVars false
set_option linter.unusedSimpArgs false
set_option linter.unusedVariables false

/-! ### marks on standards -/
theorem byteStr_one (n : Int) : (byteStr (n :: [])).size = 1 := rfl

theorem laws_markText_l4_ex : ∀ (m k : Nat) (v : Int) (s : ByteArray), 0 ≤ v → v < 10 ^ m → v ≤ 1000000000 → m < k → s.size + m ≤ 1000 → ∃ t, laws_markText_l4 N0 k v s = r1 t
  | m, 0, v, s, _, _, _, hk, _ => by omega
  | m, k + 1, v, s, h0, hv, hb, hk, hs => by
    have hr (a b : ByteArray) (ha : a.size ≤ 2000) (hb : b.size ≤ 2000) : roomStr a b = true := Nat.ble_eq_true_of_le (by omega)
    simp only [laws_markText_l4, laws_markText_t4]
    by_cases h : v > 0
    · rw [gt_t h, cond_true]
      cases m with
      | zero => simp at hv; omega
      | succ m =>
        have hd : Int.tdiv v 10 = v / 10 := Int.tdiv_eq_ediv_of_nonneg h0
        have hlt : v / 10 < 10 ^ m := by
          rw [Int.pow_succ] at hv
          omega
        rw [hd, w_in (x := v / 10) (by unfold I64; omega)]
        rw [hr _ _ (by rw [byteStr_one]; omega) (by omega), cond_true]
        exact laws_markText_l4_ex m k (v / 10) _ (by omega) hlt (by omega) (by omega) (by rw [ByteArray.size_append, byteStr_one]; omega)
    · rw [gt_f h, cond_false, hr _ _ (by decide) (by omega), cond_true]
      exact ⟨_, rfl⟩

theorem laws_markText_ex (v : Int) (h0 : 0 ≤ v) (hv : v ≤ 100000000) : ∃ t, laws_markText N0 v = r1 t := by
  have := N0_big
  simp only [laws_markText, laws_markText_t]
  by_cases h : v ≤ 0
  · rw [dec_t h, cond_true]
    exact ⟨_, rfl⟩
  · rw [dec_f h, cond_false]
    exact laws_markText_l4_ex 9 N0 v _ h0 (by omega) (by omega) (by omega) (by decide)

/-- the text of a mark -/
noncomputable def mtx (v : Int) : ByteArray := match laws_markText N0 v with
  | some p => p.1.1.1
  | none => ⟨#[]⟩

theorem laws_markText_is {v : Int} (h0 : 0 ≤ v) (hv : v ≤ 100000000) : laws_markText N0 v = r1 (mtx v) := by
  obtain ⟨t, ht⟩ := laws_markText_ex v h0 hv
  unfold mtx
  rw [ht]

noncomputable def markSt (v : Int) : Std := (mtx v, (v + 1, (((v + 1 + 1, v + 1 + 1 + 1), (v + 1 + 1 + 1 + 1, v + 1 + 1 + 1 + 1 + 1)), ((v + 1 + 1 + 1 + 1 + 1 + 1, v + 1 + 1 + 1 + 1 + 1 + 1 + 1), (v + 1 + 1 + 1 + 1 + 1 + 1 + 1 + 1, v + 1 + 1 + 1 + 1 + 1 + 1 + 1 + 1 + 1)))))
noncomputable def marksSt : Int → Nat → List Std
  | _, 0 => []
  | v, m + 1 => markSt v :: marksSt (v + 10) m

theorem marksSt_len : ∀ (m : Nat) (v : Int), (marksSt v m).length = m
  | 0, v => rfl
  | m + 1, v => by rw [marksSt, List.length_cons, marksSt_len m]

theorem set_get {α : Type} {b : List α} {a : Nat} (h : a < b.length) {x d : α} : (b.set a x).getD a d = x := by simp [List.getD, h]

theorem take_set {α : Type} {b : List α} {i : Nat} (h : i < b.length) (x : α) : (b.set i x).take (i + 1) = b.take i ++ [x] := by
  rw [List.take_add_one, List.getElem?_set_self h, List.take_set_of_le (Nat.le_refl i)]
  rfl

theorem laws_markStandardS_l2_is : ∀ (k i : Nat) (v : Int) (b : List Std), i ≤ b.length → b.length ≤ 1048576 → b.length - i < k → 0 ≤ v → v + 10 * ((b.length : Int) - (i : Int)) ≤ 20000000 →
    laws_markStandardS_l2 N0 k (i : Int) v b = c1 (v + 10 * ((b.length : Int) - (i : Int))) (b.take i ++ marksSt v (b.length - i))
  | 0, i, v, b, _, _, hk, _, _ => by omega
  | k + 1, i, v, b, hi, hb, hk, h0, hv => by
    simp only [laws_markStandardS_l2, laws_markStandardS_t2]
    by_cases h : i < b.length
    · have ht := laws_markText_is (v := v) h0 (by omega)
      have e1 : IntKind.wrap .i64 (v + 1) = v + 1 := w_in (by unfold I64; omega)
      have e2 : IntKind.wrap .i64 (v + 1 + 1) = v + 1 + 1 := w_in (by unfold I64; omega)
      have e3 : IntKind.wrap .i64 (v + 1 + 1 + 1) = v + 1 + 1 + 1 := w_in (by unfold I64; omega)
      have e4 : IntKind.wrap .i64 (v + 1 + 1 + 1 + 1) = v + 1 + 1 + 1 + 1 := w_in (by unfold I64; omega)
      have e5 : IntKind.wrap .i64 (v + 1 + 1 + 1 + 1 + 1) = v + 1 + 1 + 1 + 1 + 1 := w_in (by unfold I64; omega)
      have e6 : IntKind.wrap .i64 (v + 1 + 1 + 1 + 1 + 1 + 1) = v + 1 + 1 + 1 + 1 + 1 + 1 := w_in (by unfold I64; omega)
      have e7 : IntKind.wrap .i64 (v + 1 + 1 + 1 + 1 + 1 + 1 + 1) = v + 1 + 1 + 1 + 1 + 1 + 1 + 1 := w_in (by unfold I64; omega)
      have e8 : IntKind.wrap .i64 (v + 1 + 1 + 1 + 1 + 1 + 1 + 1 + 1) = v + 1 + 1 + 1 + 1 + 1 + 1 + 1 + 1 := w_in (by unfold I64; omega)
      have e9 : IntKind.wrap .i64 (v + 1 + 1 + 1 + 1 + 1 + 1 + 1 + 1 + 1) = v + 1 + 1 + 1 + 1 + 1 + 1 + 1 + 1 + 1 := w_in (by unfold I64; omega)
      have e10 : IntKind.wrap .i64 (v + 1 + 1 + 1 + 1 + 1 + 1 + 1 + 1 + 1 + 1) = v + 1 + 1 + 1 + 1 + 1 + 1 + 1 + 1 + 1 + 1 := w_in (by unfold I64; omega)
      simp only [lt_t h, cond_true, ht, Option.bind_some, nn_t, Bool.and_self, Int.toNat_natCast, w_succ (i := i) (by omega), e1, e2, e3, e4, e5, e6, e7, e8, e9, e10]
      rw [letIn]; simp only [set_get h, List.set_set, List.length_set, lt_t h, nn_t, Bool.and_self, cond_true, e1, e2, e3, e4, e5, e6, e7, e8, e9, e10]
      rw [letIn]; simp only [set_get h, List.set_set, List.length_set, lt_t h, nn_t, Bool.and_self, cond_true, e1, e2, e3, e4, e5, e6, e7, e8, e9, e10]
      rw [letIn]; simp only [set_get h, List.set_set, List.length_set, lt_t h, nn_t, Bool.and_self, cond_true, e1, e2, e3, e4, e5, e6, e7, e8, e9, e10]
      rw [letIn]; simp only [set_get h, List.set_set, List.length_set, lt_t h, nn_t, Bool.and_self, cond_true, e1, e2, e3, e4, e5, e6, e7, e8, e9, e10]
      rw [letIn]; simp only [set_get h, List.set_set, List.length_set, lt_t h, nn_t, Bool.and_self, cond_true, e1, e2, e3, e4, e5, e6, e7, e8, e9, e10]
      rw [letIn]; simp only [set_get h, List.set_set, List.length_set, lt_t h, nn_t, Bool.and_self, cond_true, e1, e2, e3, e4, e5, e6, e7, e8, e9, e10]
      rw [letIn]; simp only [set_get h, List.set_set, List.length_set, lt_t h, nn_t, Bool.and_self, cond_true, e1, e2, e3, e4, e5, e6, e7, e8, e9, e10]
      rw [letIn]; simp only [set_get h, List.set_set, List.length_set, lt_t h, nn_t, Bool.and_self, cond_true, e1, e2, e3, e4, e5, e6, e7, e8, e9, e10]
      rw [letIn]; simp only [set_get h, List.set_set, List.length_set, lt_t h, nn_t, Bool.and_self, cond_true, e1, e2, e3, e4, e5, e6, e7, e8, e9, e10]
      rw [letIn]
      have ih := laws_markStandardS_l2_is k (i + 1) (v + 1 + 1 + 1 + 1 + 1 + 1 + 1 + 1 + 1 + 1) (b.set i (markSt v)) (by rw [List.length_set]; exact h) (by rw [List.length_set]; exact hb) (by rw [List.length_set]; omega) (by omega) (by rw [List.length_set]; omega)
      refine Eq.trans ih ?_
      rw [List.length_set, take_set h, show b.length - i = (b.length - (i + 1)) + 1 by omega, marksSt, List.append_assoc, show v + 1 + 1 + 1 + 1 + 1 + 1 + 1 + 1 + 1 + 1 = v + 10 by omega]
      rw [show v + 10 + 10 * ((b.length : Int) - ((i + 1 : Nat) : Int)) = v + 10 * ((b.length : Int) - (i : Int)) by omega]
      rfl
    · have : i = b.length := by omega
      subst this
      rw [lt_f h]
      simp only [cond_false, Nat.sub_self, marksSt, List.append_nil, List.take_length, Int.sub_self, Int.mul_zero, Int.add_zero]

theorem laws_markStandardS_is (b : List Std) (hb : b.length ≤ 1048576) : laws_markStandardS N0 1 b = c1 (1 + 10 * (b.length : Int)) (marksSt 1 b.length) := by
  have := N0_big
  have e := laws_markStandardS_l2_is N0 0 1 b (by omega) hb (by omega) (by omega) (by omega)
  simp only [Int.sub_zero, List.take_zero, List.nil_append, Nat.sub_zero, Int.natCast_zero] at e
  exact e

theorem laws_markStandardS_ex (b : List Std) (hb : b.length ≤ 1048576) : ∃ r b', laws_markStandardS N0 1 b = c1 r b' ∧ 1 ≤ r :=
  ⟨_, _, laws_markStandardS_is b hb, by omega⟩

/-! ### marks that stand yet -/
theorem marksSt_drop : ∀ (m i : Nat) (v : Int), i < m → (marksSt v m)[i]? = some (markSt (v + 10 * (i : Int)))
  | 0, i, v, h => by omega
  | m + 1, 0, v, h => by rw [marksSt]; simp
  | m + 1, i + 1, v, h => by
    rw [marksSt, List.getElem?_cons_succ, marksSt_drop m i (v + 10) (by omega)]
    congr 2
    omega

theorem laws_heldStandardS_l2_is (m : Nat) (hm : m ≤ 1048576) : ∀ (k i : Nat) (v : Int), i ≤ m → m - i < k → v = 1 + 10 * (i : Int) →
    laws_heldStandardS_l2 N0 k (i : Int) (marksSt 1 m) v = r1 (1 + 10 * (m : Int))
  | 0, i, v, _, hk, _ => by omega
  | k + 1, i, v, hi, hk, hv => by
    simp only [laws_heldStandardS_l2, laws_heldStandardS_t2, marksSt_len]
    by_cases h : i < m
    · have ht := laws_markText_is (v := v) (by omega) (by omega)
      have e1 : IntKind.wrap .i64 (v + 1) = v + 1 := w_in (by unfold I64; omega)
      have e2 : IntKind.wrap .i64 (v + 1 + 1) = v + 1 + 1 := w_in (by unfold I64; omega)
      have e3 : IntKind.wrap .i64 (v + 1 + 1 + 1) = v + 1 + 1 + 1 := w_in (by unfold I64; omega)
      have e4 : IntKind.wrap .i64 (v + 1 + 1 + 1 + 1) = v + 1 + 1 + 1 + 1 := w_in (by unfold I64; omega)
      have e5 : IntKind.wrap .i64 (v + 1 + 1 + 1 + 1 + 1) = v + 1 + 1 + 1 + 1 + 1 := w_in (by unfold I64; omega)
      have e6 : IntKind.wrap .i64 (v + 1 + 1 + 1 + 1 + 1 + 1) = v + 1 + 1 + 1 + 1 + 1 + 1 := w_in (by unfold I64; omega)
      have e7 : IntKind.wrap .i64 (v + 1 + 1 + 1 + 1 + 1 + 1 + 1) = v + 1 + 1 + 1 + 1 + 1 + 1 + 1 := w_in (by unfold I64; omega)
      have e8 : IntKind.wrap .i64 (v + 1 + 1 + 1 + 1 + 1 + 1 + 1 + 1) = v + 1 + 1 + 1 + 1 + 1 + 1 + 1 + 1 := w_in (by unfold I64; omega)
      have e9 : IntKind.wrap .i64 (v + 1 + 1 + 1 + 1 + 1 + 1 + 1 + 1 + 1) = v + 1 + 1 + 1 + 1 + 1 + 1 + 1 + 1 + 1 := w_in (by unfold I64; omega)
      have e10 : IntKind.wrap .i64 (v + 1 + 1 + 1 + 1 + 1 + 1 + 1 + 1 + 1 + 1) = v + 1 + 1 + 1 + 1 + 1 + 1 + 1 + 1 + 1 + 1 := w_in (by unfold I64; omega)
      have hx : (marksSt 1 m).getD i dStd = markSt v := by rw [List.getD, marksSt_drop m i 1 h, hv]; rfl
      simp only [dStd] at hx
      simp only [lt_t h, cond_true, ht, Option.bind_some, nn_t, Bool.and_self, Int.toNat_natCast, w_succ (i := i) (by omega), e1, e2, e3, e4, e5, e6, e7, e8, e9, e10, hx, markSt, bne_self_eq_false, cond_false, eqStr_refl, Bool.not_true]
      exact laws_heldStandardS_l2_is m hm k (i + 1) _ h (by omega) (by omega)
    · have : i = m := by omega
      subst this
      rw [lt_f h, hv]
      rfl

theorem laws_heldStandardS_is (m : Nat) (hm : m ≤ 1048576) : laws_heldStandardS N0 (marksSt 1 m) 1 = r1 (1 + 10 * (m : Int)) := by
  have := N0_big
  exact laws_heldStandardS_l2_is m hm N0 0 1 (by omega) (by omega) (by omega)

end Go.Abs
