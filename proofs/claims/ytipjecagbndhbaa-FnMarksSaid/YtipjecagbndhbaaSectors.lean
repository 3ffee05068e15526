/- Sectors, their closing, and faults: what the program's and the reference's give. -/
import Derived.Test.YtipjecagbndhbaaShare
namespace Go.Abs
set_option linter.unusedSectionVars false
set_option linter.unusedSimpArgs false
set_option linter.unusedVariables false

def isSec (x : Int) : Bool := btw x 1 1296000
def secOk (v : List Int) : Bool := btw (v.length : Int) 1 72 && v.all isSec
/-- the closing -/
def closing (v : List Int) : Int := sumL v - 1296000

theorem isSec_iff {x : Int} : isSec x = true ↔ 1 ≤ x ∧ x ≤ 1296000 := btw_iff
theorem isSec_at {v : List Int} (hv : v.all isSec = true) {i : Nat} (h : i < v.length) : 1 ≤ v[i] ∧ v[i] ≤ 1296000 :=
  isSec_iff.1 (List.all_eq_true.1 hv _ (List.getElem_mem h))

theorem secOk_iff {v : List Int} : secOk v = true ↔ (1 ≤ v.length ∧ v.length ≤ 72) ∧ v.all isSec = true := by
  unfold secOk
  rw [Bool.and_eq_true, btw_iff]
  constructor <;> (rintro ⟨h1, h2⟩; exact ⟨by omega, h2⟩)

theorem spec_l03Sectors_l4_is (v : List Int) (hb : v.length ≤ 9223372036854775807) : ∀ (k i : Nat), i ≤ v.length → v.length - i < k →
    spec_l03Sectors_l4 N0 k (i : Int) v = r1 (bif (v.drop i).all isSec then 0 else 2)
  | 0, i, _, hk => by omega
  | k + 1, i, hi, hk => by
    simp only [spec_l03Sectors_l4, spec_l03Sectors_t4]
    by_cases h : i < v.length
    · simp only [lt_t h, nn_t, Bool.and_self, cond_true, Int.toNat_natCast, get_ix h, w_succ (i := i) (by omega), spec_l00In_is, Option.bind_some]
      rw [drop_ix h, List.all_cons]
      change (bif !isSec v[i] then _ else _) = _
      cases isSec v[i] with
      | true => exact spec_l03Sectors_l4_is v hb k (i + 1) h (by omega)
      | false => rfl
    · have : i = v.length := by omega
      subst this
      simp only [lt_f h, cond_false, List.drop_length]
      rfl

theorem spec_l03Sectors_is (v : List Int) (hb : v.length ≤ 9223372036854775807) : spec_l03Sectors N0 v = r1 (bif secOk v then 0 else 2) := by
  have := N0_big
  have h := spec_l03Sectors_l4_is v hb N0 0 (by omega) (by omega)
  simp only [spec_l03Sectors, spec_l03Sectors_t, spec_l00In_is, Option.bind_some]
  unfold secOk
  cases btw (v.length : Int) 1 72 with
  | false => rfl
  | true => exact h

theorem impl_areSectors_1_is (n : Nat) (x : Int) : impl_areSectors_1 n x = r1 (!isSec x) := by
  simp only [impl_areSectors_1, impl_areSectors_1_t, impl_within_is, Option.bind_some]
  rfl

theorem any_not {α : Type} (p : α → Bool) (v : List α) : (v.any fun x => !p x) = !v.all p := by
  induction v with
  | nil => rfl
  | cons x r ih => rw [List.any_cons, List.all_cons, ih]; cases p x <;> rfl

theorem impl_areSectors_is (v : List Int) (hb : v.length ≤ 9223372036854775807) : impl_areSectors N0 v = r1 (secOk v) := by
  simp only [impl_areSectors, impl_areSectors_t, impl_within_is, Option.bind_some, slices_ContainsFunc_int64_int64_at_impl_areSectors_1, slices_ContainsFunc_int64_int64_at_impl_areSectors_1_t, slices_IndexFunc_int64_int64_at_impl_areSectors_1, slices_IndexFunc_int64_int64_at_impl_areSectors_1_t]
  rw [idx_all (L := slices_IndexFunc_int64_int64_at_impl_areSectors_1_l2 N0) (d := 0) (fun x => !isSec x) (impl_areSectors_1_is N0) (fun _ _ _ _ => rfl) v hb]
  simp only [Option.bind_some, fIdx_any, any_not, Bool.not_not]
  unfold secOk
  cases btw (v.length : Int) 1 72 <;> rfl

/-- partial sums of sectors are within bounds -/
theorem sec_sum {v : List Int} (hv : v.all isSec = true) {i : Nat} {e : Int} (h : i < v.length) (hm : v.length ≤ 72) (he : -1296000 ≤ e ∧ e ≤ 1296000 * (i : Int)) : IntKind.wrap .i64 (e + v[i]) = e + v[i] := by
  have := isSec_at hv h
  exact w_in (by unfold I64; omega)

theorem spec_l03Closing_l3_is {v : List Int} (hv : v.all isSec = true) (hm : v.length ≤ 72) : ∀ (k i : Nat) (e : Int), i ≤ v.length → -1296000 ≤ e ∧ e ≤ 1296000 * (i : Int) → v.length - i < k →
    spec_l03Closing_l3 N0 k (i : Int) v e = r1 (e + sumL (v.drop i))
  | 0, i, e, _, _, hk => by omega
  | k + 1, i, e, hi, he, hk => by
    simp only [spec_l03Closing_l3, spec_l03Closing_t3]
    by_cases h : i < v.length
    · have hx := isSec_at hv h
      simp only [lt_t h, nn_t, Bool.and_self, cond_true, Int.toNat_natCast, get_ix h, w_succ (i := i) (by omega), sec_sum hv h hm he]
      rw [spec_l03Closing_l3_is hv hm k (i + 1) _ h (by omega) (by omega), drop_ix h, sumL, Int.add_assoc]
    · have : i = v.length := by omega
      subst this
      simp only [lt_f h, cond_false, List.drop_length, sumL, Int.add_zero]

theorem spec_l03Closing_is {v : List Int} (hv : secOk v = true) : spec_l03Closing N0 v = r1 (closing v) := by
  have := N0_big
  rw [secOk_iff] at hv
  have h := spec_l03Closing_l3_is hv.2 hv.1.2 N0 0 (-1296000) (by omega) (by omega) (by omega)
  rw [List.drop_zero] at h
  simp only [spec_l03Closing, spec_l03Closing_t]
  refine h.trans ?_
  unfold closing
  rw [show -1296000 + sumL v = sumL v - 1296000 by omega]

theorem impl_ClosingOf_l5_is {v : List Int} (hv : v.all isSec = true) (hm : v.length ≤ 72) : ∀ (k i : Nat) (e : Int), i ≤ v.length → -1296000 ≤ e ∧ e ≤ 1296000 * (i : Int) → v.length - i < k →
    impl_ClosingOf_l5 N0 k (i : Int) e v (v.length : Int) = r2 (e + sumL (v.drop i)) 0
  | 0, i, e, _, _, hk => by omega
  | k + 1, i, e, hi, he, hk => by
    simp only [impl_ClosingOf_l5, impl_ClosingOf_t5]
    by_cases h : i < v.length
    · have hx := isSec_at hv h
      simp only [lt_t h, nn_t, Bool.and_self, cond_true, Int.toNat_natCast, get_ix h, w_succ (i := i) (by omega), sec_sum hv h hm he]
      rw [impl_ClosingOf_l5_is hv hm k (i + 1) _ h (by omega) (by omega), drop_ix h, sumL, Int.add_assoc]
    · have : i = v.length := by omega
      subst this
      simp only [lt_f h, cond_false, List.drop_length, sumL, Int.add_zero]

theorem impl_ClosingOf_is (v : List Int) (hb : v.length ≤ 9223372036854775807) : impl_ClosingOf N0 v = bif secOk v then r2 (closing v) 0 else r2 0 2 := by
  have := N0_big
  simp only [impl_ClosingOf, impl_ClosingOf_t, impl_areSectors_is v hb, Option.bind_some]
  cases hv : secOk v with
  | false => rfl
  | true =>
    rw [secOk_iff] at hv
    have h := impl_ClosingOf_l5_is hv.2 hv.1.2 N0 0 (-1296000) (by omega) (by omega) (by omega)
    rw [List.drop_zero] at h
    refine h.trans ?_
    unfold closing
    rw [show -1296000 + sumL v = sumL v - 1296000 by omega]
    rfl

/-- a sector less its share -/
def secShare (e m : Int) (i : Nat) (x : Int) : Int :=
  IntKind.wrap .i64 (x - IntKind.wrap .i64 (IntKind.wrap .i64 (((i + 1 : Nat) : Int) * e) / m - IntKind.wrap .i64 ((i : Int) * e) / m))
def secShares (e m : Int) : Nat → List Int → List Int
  | _, [] => []
  | i, x :: r => secShare e m i x :: secShares e m (i + 1) r

theorem secShares_len (e m : Int) : ∀ (i : Nat) (v : List Int), (secShares e m i v).length = v.length
  | _, [] => rfl
  | i, x :: r => by rw [secShares, List.length_cons, List.length_cons, secShares_len]

/-- sectors without their closing -/
def shared (v : List Int) : List Int := secShares (closing v) (v.length : Int) 0 v

theorem spec_l03Shared_l5_is {v : List Int} (e : Int) (hm : v.length ≤ 72) : ∀ (k i : Nat) (b : List Int), i ≤ v.length → b.length ≤ i → v.length - i < k →
    spec_l03Shared_l5 N0 k (i : Int) (v.length : Int) e v b = r1 (b ++ secShares e (v.length : Int) i (v.drop i))
  | 0, i, b, _, _, hk => by omega
  | k + 1, i, b, hi, hl, hk => by
    simp only [spec_l03Shared_l5, spec_l03Shared_t5]
    by_cases h : i < v.length
    · simp only [lt_t h, nn_t, Bool.and_self, cond_true, Int.toNat_natCast, get_ix h, w_succ (i := i) (by omega), spec_l01Down_is N0 (m := (v.length : Int)) (by omega) (w_range _), Option.bind_some, List.length_singleton, room_t (k := b.length + 1) (c := 9) (by omega)]
      rw [drop_ix h, secShares, spec_l03Shared_l5_is e hm k (i + 1) _ h (by simp; omega) (by omega), List.append_assoc]
      rfl
    · have : i = v.length := by omega
      subst this
      simp only [lt_f h, cond_false, List.drop_length, secShares, List.append_nil]

theorem spec_l03Shared_is {v : List Int} (hv : secOk v = true) : spec_l03Shared N0 v = r1 (shared v) := by
  have := N0_big
  simp only [spec_l03Shared, spec_l03Shared_t, spec_l03Closing_is hv, Option.bind_some]
  rw [secOk_iff] at hv
  exact spec_l03Shared_l5_is (v := v) (closing v) (by omega) N0 0 [] (by omega) (by simp) (by omega)

theorem impl_ShareClosing_l6_is {v : List Int} (e : Int) (hm : v.length ≤ 72) : ∀ (k i : Nat) (b : List Int), i ≤ v.length → b.length ≤ i → v.length - i < k →
    impl_ShareClosing_l6 N0 k (i : Int) (v.length : Int) e v (v.length : Int) b = r2 (b ++ secShares e (v.length : Int) i (v.drop i)) 0
  | 0, i, b, _, _, hk => by omega
  | k + 1, i, b, hi, hl, hk => by
    simp only [impl_ShareClosing_l6, impl_ShareClosing_t6]
    by_cases h : i < v.length
    · simp only [lt_t h, nn_t, Bool.and_self, cond_true, Int.toNat_natCast, get_ix h, w_succ (i := i) (by omega), impl_floorDiv_is N0 (m := (v.length : Int)) (by omega) (w_range _), Option.bind_some, List.length_singleton, room_t (k := b.length + 1) (c := 9) (by omega)]
      rw [drop_ix h, secShares, impl_ShareClosing_l6_is e hm k (i + 1) _ h (by simp; omega) (by omega), List.append_assoc]
      rfl
    · have : i = v.length := by omega
      subst this
      simp only [lt_f h, cond_false, List.drop_length, secShares, List.append_nil]

theorem spec_ShareClosing_is (v : List Int) (hb : v.length ≤ 9223372036854775807) : spec_ShareClosing N0 v = bif secOk v then r2 (shared v) 0 else r2 [] 2 := by
  simp only [spec_ShareClosing, spec_ShareClosing_t, spec_l03Sectors_is v hb, Option.bind_some]
  cases hv : secOk v with
  | false => rfl
  | true => simp [spec_l03Shared_is hv]

theorem impl_ShareClosing_is (v : List Int) (hb : v.length ≤ 9223372036854775807) : impl_ShareClosing N0 v = bif secOk v then r2 (shared v) 0 else r2 [] 2 := by
  have := N0_big
  simp only [impl_ShareClosing, impl_ShareClosing_t, impl_ClosingOf_is v hb]
  cases hv : secOk v with
  | false => rfl
  | true =>
    rw [secOk_iff] at hv
    exact impl_ShareClosing_l6_is (v := v) (closing v) (by omega) N0 0 [] (by omega) (by simp) (by omega)

/-! ### faults -/
def flt (c : Int) : Int → List Int → List Int
  | _, [] => []
  | p, x :: r => IntKind.wrap .i64 (IntKind.wrap .i64 (p + x) - c) :: flt c (IntKind.wrap .i64 (IntKind.wrap .i64 (p + x) - c)) r

theorem flt_len (c : Int) : ∀ (p : Int) (v : List Int), (flt c p v).length = v.length
  | _, [] => rfl
  | p, x :: r => by rw [flt, List.length_cons, List.length_cons, flt_len]

theorem getD_snoc (b : List Int) (y : Int) {j : Nat} (h : b.length = j) : (b ++ [y]).getD j 0 = y := by
  simp [List.getD, ← h]

theorem spec_FaultsFrom_l10_is {sh : List Int} {m : Nat} (hs : sh.length = m + 1) (hm : m ≤ 1000) : ∀ (k j : Nat) (b : List Int), j ≤ m → b.length = j + 1 → m - j < k →
    spec_FaultsFrom_l10 N0 k ((j + 1 : Nat) : Int) ((m + 1 : Nat) : Int) sh b = r2 (b ++ flt (IntKind.wrap .i64 (Int.tdiv 1296000 ((m + 1 : Nat) : Int))) (b.getD j 0) ((sh.take m).drop j)) 0
  | 0, j, b, _, _, hk => by omega
  | k + 1, j, b, hj, hl, hk => by
    simp only [spec_FaultsFrom_l10, spec_FaultsFrom_t10]
    by_cases h : j < m
    · have hw : IntKind.wrap .i64 (((j + 1 : Nat) : Int) - 1) = (j : Int) := by rw [w_in (by unfold I64; omega)]; omega
      have hg : (sh.take m).drop j = sh[j] :: (sh.take m).drop (j + 1) := by
        rw [List.drop_eq_getElem_cons (by simp; omega), List.getElem_take]
      simp only [hw, lt_t (i := j + 1) (m := m + 1) (by omega), lt_t (i := j) (m := b.length) (by omega), lt_t (i := j) (m := sh.length) (by omega), nn_t, Bool.and_self, cond_true, Int.toNat_natCast, get_ix (v := sh) (i := j) (by omega),
        w_succ (i := j + 1) (by omega), List.length_singleton, room_t (k := b.length + 1) (c := 9) (by omega), ne_true (a := ((m + 1 : Nat) : Int)) (b := 0) (by omega)]
      rw [hg, flt, spec_FaultsFrom_l10_is hs hm k (j + 1) _ h (by simp; omega) (by omega), getD_snoc _ _ hl, List.append_assoc]
      rfl
    · have : j = m := by omega
      subst this
      simp only [lt_f (i := j + 1) (m := j + 1) (by omega), cond_false]
      rw [List.drop_eq_nil_of_le (by simp; omega), flt, List.append_nil]

theorem impl_FaultsFrom_l9_is {sh : List Int} {m : Nat} (hs : sh.length = m + 1) (hm : m ≤ 1000) : ∀ (k j : Nat) (b : List Int), j ≤ m → b.length = j + 1 → m - j < k →
    impl_FaultsFrom_l9 N0 k (j : Int) ((m + 1 : Nat) : Int) (m : Int) sh b = r2 (b ++ flt (IntKind.wrap .i64 (Int.tdiv 1296000 ((m + 1 : Nat) : Int))) (b.getD j 0) ((sh.take m).drop j)) 0
  | 0, j, b, _, _, hk => by omega
  | k + 1, j, b, hj, hl, hk => by
    simp only [impl_FaultsFrom_l9, impl_FaultsFrom_t9]
    by_cases h : j < m
    · have hg : (sh.take m).drop j = sh[j] :: (sh.take m).drop (j + 1) := by
        rw [List.drop_eq_getElem_cons (by simp; omega), List.getElem_take]
      simp only [lt_t h, lt_t (i := j) (m := b.length) (by omega), lt_t (i := j) (m := sh.length) (by omega), nn_t, Bool.and_self, cond_true, Int.toNat_natCast, get_ix (v := sh) (i := j) (by omega),
        w_succ (i := j) (by omega), List.length_singleton, room_t (k := b.length + 1) (c := 9) (by omega), ne_true (a := ((m + 1 : Nat) : Int)) (b := 0) (by omega)]
      rw [hg, flt, impl_FaultsFrom_l9_is hs hm k (j + 1) _ h (by simp; omega) (by omega), getD_snoc _ _ hl, List.append_assoc]
      rfl
    · have : j = m := by omega
      subst this
      simp only [lt_f h, cond_false]
      rw [List.drop_eq_nil_of_le (by simp; omega), flt, List.append_nil]

/-- the faults of marks -/
def faultsFrom (v : List Int) : List Int := 0 :: flt (IntKind.wrap .i64 (Int.tdiv 1296000 (v.length : Int))) 0 ((shared v).take (v.length - 1))

abbrev faultsRes (v : List Int) : Option (((List Int × Unit) × ((Int × Unit) × Unit)) × Unit) :=
  bif secOk v then (bif Int.tmod 1296000 (v.length : Int) != 0 then r2 [] 4 else r2 (faultsFrom v) 0) else r2 [] 2

theorem spec_FaultsFrom_is (v : List Int) (hb : v.length ≤ 9223372036854775807) : spec_FaultsFrom N0 v = faultsRes v := by
  have := N0_big
  simp only [spec_FaultsFrom, spec_FaultsFrom_t, spec_l03Sectors_is v hb, Option.bind_some]
  unfold faultsRes
  cases hv : secOk v with
  | false => rfl
  | true =>
    have hv' := hv
    rw [secOk_iff] at hv
    simp only [cond_true, bne_self_eq_false, cond_false, ne_true (a := (v.length : Int)) (b := 0) (by omega), spec_l03Shared_is hv', Option.bind_some]
    cases (Int.tmod 1296000 (v.length : Int) != 0) with
    | true => rfl
    | false =>
      have hsh : (shared v).length = v.length := secShares_len _ _ _ _
      have := spec_FaultsFrom_l10_is (sh := shared v) (m := v.length - 1) (by omega) (by omega) N0 0 [0] (by omega) rfl (by omega)
      rw [show v.length - 1 + 1 = v.length by omega] at this
      exact this

theorem impl_FaultsFrom_is (v : List Int) (hb : v.length ≤ 9223372036854775807) : impl_FaultsFrom N0 v = faultsRes v := by
  have := N0_big
  simp only [impl_FaultsFrom, impl_FaultsFrom_t, impl_ShareClosing_is v hb]
  unfold faultsRes
  cases hv : secOk v with
  | false => rfl
  | true =>
    have hv' := hv
    rw [secOk_iff] at hv
    have hsh : (shared v).length = v.length := secShares_len _ _ _ _
    have h1 : decide ((1 : Int) ≤ ((shared v).length : Int)) = true := dec_t (by omega)
    have h2 : decide (((shared v).length : Int) ≤ ((shared v).length : Int)) = true := dec_t (by omega)
    simp only [cond_true, Option.bind_some, beq_self_eq_true, bne_self_eq_false, cond_false, ne_true (a := (v.length : Int)) (b := 0) (by omega), h1, h2, Bool.and_self]
    cases (Int.tmod 1296000 (v.length : Int) != 0) with
    | true => rfl
    | false =>
      have hd : ((((shared v).drop (Int.toNat 1)).take ((Int.toNat (((shared v).length : Nat) : Int)) - (Int.toNat 1))).length : Int) = ((v.length - 1 : Nat) : Int) := by
        simp [hsh]
      have := impl_FaultsFrom_l9_is (sh := shared v) (m := v.length - 1) (by omega) (by omega) N0 0 [0] (by omega) rfl (by omega)
      rw [show v.length - 1 + 1 = v.length by omega] at this
      rw [cond_false, cond_false, hd]
      exact this
end Go.Abs
