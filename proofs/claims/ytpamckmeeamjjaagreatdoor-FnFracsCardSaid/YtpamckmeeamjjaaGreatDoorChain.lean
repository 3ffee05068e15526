/- Chains of standards: when they are valid, by the program and by the reference. -/
import Derived.Test.YtpamckmeeamjjaaGreatDoorDPFracs0
import Derived.Test.YtpamckmeeamjjaaGreatDoorPrims
import Derived.Test.YtpamckmeeamjjaaGreatDoorIx
namespace Go.Abs
set_option linter.unusedSectionVars false
set_option linter.unusedSimpArgs false
set_option linter.unusedVariables false

abbrev Frc : Type := Int × Int
abbrev Spn : Type := Frc × Frc
abbrev Std : Type := ByteArray × (Int × (Spn × (Frc × (Int × Int))))
/-- a standard that isn't there -/
abbrev dStd : Std := (ByteArray.mk #[], (0, (((0, 0), (0, 0)), ((0, 0), (0, 0)))))

/-! ### words -/
/-- k letters from i on -/
def lettersUp (s : ByteArray) : Nat → Nat → Bool := allUp fun i => !decide (byteAt s i < 97) && !decide (byteAt s i > 122)
def wordOk (s : ByteArray) : Bool := lettersUp s s.size 0 && btw (s.size : Int) 1 12

theorem impl_isWord_l2_is (s : ByteArray) (hb : s.size ≤ 9223372036854775807) : ∀ (k i : Nat), i ≤ s.size → s.size - i < k →
    impl_isWord_l2 N0 k (i : Int) s (s.size : Int) = r1 (lettersUp s (s.size - i) i && btw (s.size : Int) 1 12)
  | 0, i, _, hk => by omega
  | k + 1, i, hi, hk => by
    simp only [impl_isWord_l2, impl_isWord_t2]
    by_cases h : i < s.size
    · simp only [lt_t h, nn_t, Bool.and_self, cond_true, w_succ (i := i) (by omega)]
      rw [show s.size - i = (s.size - (i + 1)) + 1 by omega, lettersUp, allUp]
      cases decide (byteAt s i < 97) with
      | true => rfl
      | false =>
        cases decide (byteAt s i > 122) with
        | true => rfl
        | false => rw [cond_false, cond_false, impl_isWord_l2_is s hb k (i + 1) h (by omega)]; rfl
    · have : i = s.size := by omega
      subst this
      simp only [lt_f h, cond_false, impl_within_is, Option.bind_some, Nat.sub_self]
      rfl

theorem impl_isWord_is (s : ByteArray) (hb : s.size ≤ 9223372036854775807) : impl_isWord N0 s = r1 (wordOk s) := by
  have := N0_big
  simp only [impl_isWord, impl_isWord_t]
  exact impl_isWord_l2_is s hb N0 0 (by omega) (by omega)

theorem spec_l05Name_l4_is (s : ByteArray) (hb : s.size ≤ 9223372036854775807) : ∀ (k i : Nat), i ≤ s.size → s.size - i < k →
    spec_l05Name_l4 N0 k (i : Int) s = r1 (lettersUp s (s.size - i) i)
  | 0, i, _, hk => by omega
  | k + 1, i, hi, hk => by
    simp only [spec_l05Name_l4, spec_l05Name_t4]
    by_cases h : i < s.size
    · simp only [lt_t h, nn_t, Bool.and_self, cond_true, w_succ (i := i) (by omega)]
      rw [show s.size - i = (s.size - (i + 1)) + 1 by omega, lettersUp, allUp]
      cases decide (byteAt s i < 97) with
      | true => rfl
      | false =>
        cases decide (byteAt s i > 122) with
        | true => rfl
        | false => rw [cond_false, cond_false, spec_l05Name_l4_is s hb k (i + 1) h (by omega)]; rfl
    · have : i = s.size := by omega
      subst this
      simp only [lt_f h, cond_false, Nat.sub_self]
      rfl

theorem spec_l05Name_is (s : ByteArray) (hb : s.size ≤ 9223372036854775807) : spec_l05Name N0 s = r1 (wordOk s) := by
  have := N0_big
  have h := spec_l05Name_l4_is s hb N0 0 (by omega) (by omega)
  simp only [spec_l05Name, spec_l05Name_t]
  unfold wordOk
  by_cases h1 : s.size < 1
  · rw [dec_t (by omega), cond_true, show btw (s.size : Int) 1 12 = false by simp only [btw]; rw [dec_f (by omega)]; rfl, Bool.and_false]
  · by_cases h2 : s.size ≤ 12
    · rw [dec_f (by omega), cond_false, gt_f (by omega), cond_false, show btw (s.size : Int) 1 12 = true by rw [btw_iff]; omega, Bool.and_true]
      exact h
    · rw [dec_f (by omega), cond_false, gt_t (by omega), cond_true, show btw (s.size : Int) 1 12 = false by simp only [btw]; rw [dec_f (p := (s.size : Int) ≤ 12) (by omega), Bool.and_false], Bool.and_false]

/-! ### spans -/
def cmpF (a b : Frc) : Int := bif decide (IntKind.wrap .i64 (a.1 * b.2) < IntKind.wrap .i64 (b.1 * a.2)) then -1 else bif decide (IntKind.wrap .i64 (a.1 * b.2) > IntKind.wrap .i64 (b.1 * a.2)) then 1 else 0
def spanOk (s : Spn) : Bool := vF s.1 && (vF s.2 && decide (cmpF s.1 s.2 ≤ 0))

theorem impl_compare_is (n : Nat) (a b : Frc) : impl_compare n a b = r1 (cmpF a b) := by
  simp only [impl_compare, impl_compare_t, cmpF]
  cases decide (IntKind.wrap .i64 (a.1 * b.2) < IntKind.wrap .i64 (b.1 * a.2)) with
  | true => rfl
  | false => cases decide (IntKind.wrap .i64 (a.1 * b.2) > IntKind.wrap .i64 (b.1 * a.2)) <;> rfl

theorem spec_l01Cmp_is (n : Nat) (a b : Frc) : spec_l01Cmp n a b = r1 (cmpF a b) := by
  simp only [spec_l01Cmp, spec_l01Cmp_t, cmpF]
  cases decide (IntKind.wrap .i64 (a.1 * b.2) < IntKind.wrap .i64 (b.1 * a.2)) with
  | true => rfl
  | false => cases decide (IntKind.wrap .i64 (a.1 * b.2) > IntKind.wrap .i64 (b.1 * a.2)) <;> rfl

theorem impl_areValid_1_is (a : Frc) : impl_areValid_1 N0 a = r1 (!vF a) := by
  simp only [impl_areValid_1, impl_areValid_1_t, pr_eta, impl_ValidFrac_is, Option.bind_some]

theorem impl_areValid_is (l : List Frc) (hb : l.length ≤ 9223372036854775807) : impl_areValid N0 l = r1 (l.all vF) := by
  simp only [impl_areValid, impl_areValid_t, slices_ContainsFunc_impl_Frac_impl_Frac_at_impl_areValid_1, slices_ContainsFunc_impl_Frac_impl_Frac_at_impl_areValid_1_t, slices_IndexFunc_impl_Frac_impl_Frac_at_impl_areValid_1, slices_IndexFunc_impl_Frac_impl_Frac_at_impl_areValid_1_t]
  rw [idx_all (L := slices_IndexFunc_impl_Frac_impl_Frac_at_impl_areValid_1_l2 N0) (d := (0, 0)) (fun x => !vF x) impl_areValid_1_is (fun _ _ _ _ => rfl) l hb]
  simp only [Option.bind_some, fIdx_any, any_notP, Bool.not_not]

theorem impl_ValidSpan_is (s : Spn) : impl_ValidSpan N0 s = r1 (spanOk s) := by
  simp only [impl_ValidSpan, impl_ValidSpan_t, pr_eta, impl_areValid_is (s.1 :: s.2 :: []) (by simp), impl_compare_is, Option.bind_some, List.all_cons, List.all_nil, Bool.and_true]
  unfold spanOk
  cases vF s.1 with
  | false => rfl
  | true => cases vF s.2 <;> rfl

theorem spec_l01Span_e_is (s : Spn) : spec_l01Span_e N0 s = r1 (spanOk s) := by
  simp only [spec_l01Span_e, spec_l01Span_e_t, pr_eta, spec_l01Ok_is, spec_l01Cmp_is, Option.bind_some]
  unfold spanOk
  cases vF s.1 with
  | false => rfl
  | true => cases vF s.2 <;> rfl

/-! ### standards -/
/-- is it good on a day -/
def goodOn (x : Std) (day : Int) : Bool := btw day x.2.2.2.2.1 (IntKind.wrap .i64 (x.2.2.2.2.1 + x.2.2.2.2.2))

theorem impl_Standard_good_is (n : Nat) (x : Std) (day : Int) : impl_Standard_good n x day = r1 (goodOn x day) := by
  simp only [impl_Standard_good, impl_Standard_good_t, impl_within_is, Option.bind_some]
  rfl

theorem spec_l05Good_e_is (n : Nat) (x : Std) (day : Int) : spec_l05Good_e n x day = r1 (goodOn x day) := by
  simp only [spec_l05Good_e, spec_l05Good_e_t]
  unfold goodOn btw
  by_cases h : x.2.2.2.2.1 ≤ day
  · rw [show decide (day ≥ x.2.2.2.2.1) = true from decide_eq_true h, Bool.true_and]; rfl
  · rw [show decide (day ≥ x.2.2.2.2.1) = false from decide_eq_false h]; rfl

def isDay (d : Int) : Bool := btw d 0 100000
theorem spec_l05Day_is (n : Nat) (d : Int) : spec_l05Day n d = r1 (isDay d) := by
  simp only [spec_l05Day, spec_l05Day_t, spec_l00In_is, Option.bind_some]
  rfl

/-- a standard but for its name and where it comes from -/
def stdOk (x : Std) : Bool := spanOk x.2.2.1 && (vF x.2.2.2.1 && (!decide (x.2.2.2.1.1 < 0) && (isDay x.2.2.2.2.1 && isDay x.2.2.2.2.2)))
/-- it comes from nowhere, or from an earlier one that was good -/
def fromOk (v : List Std) (i : Nat) (x : Std) : Bool := btw x.2.1 (-1) ((i : Int) - 1) && (!decide (x.2.1 ≥ 0) || goodOn (v.getD x.2.1.toNat dStd) x.2.2.2.2.1)
/-- no earlier one has its name -/
def nameNew (v : List Std) (i : Nat) (x : Std) : Bool := !(v.take i).any fun o => eqStr o.1 x.1
def chainAt (v : List Std) (i : Nat) : Bool := wordOk (v.getD i dStd).1 && (nameNew v i (v.getD i dStd) && (fromOk v i (v.getD i dStd) && stdOk (v.getD i dStd)))
def chainOk (v : List Std) : Bool := allUp (chainAt v) v.length 0 && decide ((v.length : Int) ≤ 30)

theorem impl_ValidChain_c_is (l : List Std) (x : Std) (hb : l.length ≤ 9223372036854775807) : slices_ContainsFunc_impl_Standard_impl_Standard_at_impl_ValidChain_1 N0 l x = c1 (l.any fun o => eqStr o.1 x.1) x := by
  simp only [slices_ContainsFunc_impl_Standard_impl_Standard_at_impl_ValidChain_1, slices_ContainsFunc_impl_Standard_impl_Standard_at_impl_ValidChain_1_t, slices_IndexFunc_impl_Standard_impl_Standard_at_impl_ValidChain_1, slices_IndexFunc_impl_Standard_impl_Standard_at_impl_ValidChain_1_t]
  have h := idxS_all (L := fun k i v m (b : Std) => slices_IndexFunc_impl_Standard_impl_Standard_at_impl_ValidChain_1_l2 N0 k i v m b.1 b.2.1 b.2.2.1.1.1 b.2.2.1.1.2 b.2.2.1.2.1 b.2.2.1.2.2 b.2.2.2.1.1 b.2.2.2.1.2 b.2.2.2.2.1 b.2.2.2.2.2)
    (cl := impl_ValidChain_1 N0) (d := dStd) (fun o => eqStr o.1 x.1) x (fun _ => rfl) (fun _ _ _ _ _ => rfl) l hb
  simp only [h, Option.bind_some, fIdx_any]

/-- names that fit a machine -/
def Sized (v : List Std) : Prop := v.length ≤ 9223372036854775807 ∧ ∀ x ∈ v, x.1.size ≤ 9223372036854775807

theorem Sized.at {v : List Std} (h : Sized v) (i : Nat) (hi : i < v.length) : (v[i]).1.size ≤ 9223372036854775807 := h.2 _ (List.getElem_mem hi)

theorem impl_ValidChain_l2_is (v : List Std) (hv : Sized v) : ∀ (k i : Nat), i ≤ v.length → v.length - i < k →
    impl_ValidChain_l2 N0 k (i : Int) v v (v.length : Int) = r1 (allUp (chainAt v) (v.length - i) i && decide ((v.length : Int) ≤ 30))
  | 0, i, _, hk => by omega
  | k + 1, i, hi, hk => by
    have hb := hv.1
    simp only [impl_ValidChain_l2, impl_ValidChain_t2]
    by_cases h : i < v.length
    · have ih := impl_ValidChain_l2_is v hv k (i + 1) h (by omega)
      have hle : decide ((i : Int) ≤ (v.length : Int)) = true := dec_t (by omega)
      have hw : IntKind.wrap .i64 ((i : Int) - 1) = (i : Int) - 1 := w_in (by unfold I64; omega)
      simp only [lt_t h, nn_t, hle, Bool.and_self, cond_true, Int.toNat_natCast, w_succ (i := i) (by omega), pr_eta, get_ix h, hw, show Int.toNat 0 = 0 from rfl, List.drop_zero, Nat.sub_zero]
      rw [show v.length - i = (v.length - (i + 1)) + 1 by omega, allUp, impl_isWord_is _ (hv.at i h), impl_ValidChain_c_is _ _ (by rw [List.length_take]; omega)]
      simp only [Option.bind_some, impl_within_is, pr_eta, impl_ValidSpan_is, impl_ValidFrac_is, impl_Standard_good_is, ih]
      unfold chainAt fromOk nameNew stdOk
      rw [get_ix h]
      cases wordOk v[i].1 with
      | false => rfl
      | true =>
        cases (v.take i).any fun o => eqStr o.1 v[i].1 with
        | true => rfl
        | false =>
          cases hf : btw v[i].2.1 (-1) ((i : Int) - 1) with
          | false => rfl
          | true =>
            rw [btw_iff] at hf
            cases spanOk v[i].2.2.1 with
            | false => simp
            | true =>
              cases vF v[i].2.2.2.1 with
              | false => simp
              | true =>
                cases decide (v[i].2.2.2.1.1 < 0) with
                | true => simp
                | false =>
                  change (bif !isDay v[i].2.2.2.2.1 then _ else bif !isDay v[i].2.2.2.2.2 then _ else _) = _
                  cases isDay v[i].2.2.2.2.1 with
                  | false => simp
                  | true =>
                    cases isDay v[i].2.2.2.2.2 with
                    | false => simp
                    | true =>
                      by_cases h0 : v[i].2.1 ≥ 0
                      · rw [show decide (v[i].2.1 ≥ 0) = true from decide_eq_true h0, dec_t (p := v[i].2.1 < ((v.length : Nat) : Int)) (by omega)]
                        cases goodOn (v.getD v[i].2.1.toNat dStd) v[i].2.2.2.2.1 <;> simp
                      · rw [show decide (v[i].2.1 ≥ 0) = false from decide_eq_false h0]
                        simp
    · have : i = v.length := by omega
      subst this
      simp only [lt_f h, cond_false, Nat.sub_self, allUp, Bool.true_and]

theorem impl_ValidChain_is (v : List Std) (hv : Sized v) : impl_ValidChain N0 v = r1 (chainOk v) := by
  have := N0_big
  have hb := hv.1
  simp only [impl_ValidChain, impl_ValidChain_t]
  exact impl_ValidChain_l2_is v hv N0 0 (by omega) (by omega)

/-! ### the reference's -/
theorem spec_l05Standard_e_is (v : List Std) (i : Nat) (hi : i ≤ v.length) (hb : v.length ≤ 9223372036854775807) (x : Std) : spec_l05Standard_e N0 (v.take i) x = r1 (fromOk v i x && stdOk x) := by
  have hl : (v.take i).length = i := by rw [List.length_take]; omega
  have hw : IntKind.wrap .i64 ((i : Int) - 1) = (i : Int) - 1 := w_in (by unfold I64; omega)
  simp only [spec_l05Standard_e, spec_l05Standard_e_t, pr_eta, spec_l01Span_e_is, spec_l01Ok_is, spec_l05Day_is, spec_l00In_is, spec_l05Good_e_is, Option.bind_some, hl, hw]
  unfold fromOk stdOk
  cases spanOk x.2.2.1 with
  | false => simp
  | true =>
    cases vF x.2.2.2.1 with
    | false => simp
    | true =>
      cases decide (x.2.2.2.1.1 < 0) with
      | true => simp
      | false =>
        cases isDay x.2.2.2.2.1 with
        | false => simp
        | true =>
          cases isDay x.2.2.2.2.2 with
          | false => simp
          | true =>
            by_cases h1 : x.2.1 = -1
            · rw [eq_t h1, h1]
              have : btw (-1) (-1) ((i : Int) - 1) = true := by rw [btw_iff]; omega
              simp [this]
            · rw [eq_f h1]
              by_cases h0 : 0 ≤ x.2.1 ∧ x.2.1 ≤ (i : Int) - 1
              · have e1 : btw x.2.1 (-1) ((i : Int) - 1) = true := by rw [btw_iff]; omega
                have e2 : btw x.2.1 0 ((i : Int) - 1) = true := by rw [btw_iff]; omega
                have hg : (v.take i).getD x.2.1.toNat dStd = v.getD x.2.1.toNat dStd := by
                  simp only [List.getD]
                  rw [List.getElem?_take_of_lt (by omega)]
                rw [e1, e2, show decide (x.2.1 ≥ 0) = true from decide_eq_true h0.1, dec_t (p := x.2.1 < ((i : Nat) : Int)) (by omega), hg]
                simp
              · have e1 : btw x.2.1 (-1) ((i : Int) - 1) = false := by
                  cases hc : btw x.2.1 (-1) ((i : Int) - 1) with
                  | false => rfl
                  | true => rw [btw_iff] at hc; omega
                have e2 : btw x.2.1 0 ((i : Int) - 1) = false := by
                  cases hc : btw x.2.1 0 ((i : Int) - 1) with
                  | false => rfl
                  | true => rw [btw_iff] at hc; omega
                rw [e1, e2]
                simp

theorem spec_l05Ok_l9_is (v : List Std) (hb : v.length ≤ 9223372036854775807) (G : Int → List Std → Option (((Bool × Unit) × Unit) × Unit)) (i : Nat) (hi : i < v.length) : ∀ (k j : Nat), j ≤ i → i - j < k →
    spec_l05Ok_l9 N0 G k (j : Int) (i : Int) v = bif ((v.take i).drop j).any (fun o => eqStr o.1 v[i].1) then r1 false else G ((i + 1 : Nat) : Int) v
  | 0, j, _, hk => by omega
  | k + 1, j, hj, hk => by
    simp only [spec_l05Ok_l9, spec_l05Ok_t9]
    by_cases h : j < i
    · have hjv : j < v.length := by omega
      have hd : (v.take i).drop j = v[j] :: (v.take i).drop (j + 1) := by
        rw [List.drop_eq_getElem_cons (by simp; omega), List.getElem_take]
      simp only [lt_t h, lt_t hjv, lt_t hi, nn_t, Bool.and_self, cond_true, Int.toNat_natCast, get_ix hjv, get_ix hi, w_succ (i := j) (by omega)]
      rw [hd, List.any_cons]
      cases eqStr v[j].1 v[i].1 with
      | true => rfl
      | false => rw [cond_false, spec_l05Ok_l9_is v hb G i hi k (j + 1) h (by omega), Bool.false_or]
    · have : j = i := by omega
      subst this
      rw [List.drop_eq_nil_of_le (by simp; omega)]
      simp only [lt_f h, cond_false, w_succ (i := j) (by omega), List.any_nil]

theorem spec_l05Ok_l4_is (v : List Std) (hv : Sized v) : ∀ (k i : Nat), i ≤ v.length → v.length - i < k →
    spec_l05Ok_l4 N0 k (i : Int) v = r1 (allUp (chainAt v) (v.length - i) i)
  | 0, i, _, hk => by omega
  | k + 1, i, hi, hk => by
    have hb := hv.1
    have hN := N0_big
    simp only [spec_l05Ok_l4, spec_l05Ok_t4]
    by_cases h : i < v.length
    · have ih := spec_l05Ok_l4_is v hv k (i + 1) h (by omega)
      have hle : decide ((i : Int) ≤ (v.length : Int)) = true := dec_t (by omega)
      simp only [lt_t h, nn_t, hle, Bool.and_self, cond_true, Int.toNat_natCast, pr_eta, get_ix h, show Int.toNat 0 = 0 from rfl, List.drop_zero, Nat.sub_zero, spec_l05Name_is _ (hv.at i h), spec_l05Standard_e_is v i hi hb, Option.bind_some]
      have h9 := spec_l05Ok_l9_is v hb (spec_l05Ok_l4 N0 k) i h N0 0 (by omega) (by omega)
      rw [List.drop_zero] at h9
      have h9 : spec_l05Ok_l9 N0 (spec_l05Ok_l4 N0 k) N0 0 (i : Int) v = _ := h9
      rw [show v.length - i = (v.length - (i + 1)) + 1 by omega, allUp, h9, ih]
      unfold chainAt nameNew
      rw [get_ix h]
      cases wordOk v[i].1 with
      | false => rfl
      | true =>
        cases fromOk v i v[i] && stdOk v[i] with
        | false => simp
        | true => cases (v.take i).any fun o => eqStr o.1 v[i].1 <;> simp
    · have : i = v.length := by omega
      subst this
      simp only [lt_f h, cond_false, Nat.sub_self, allUp]

theorem spec_l05Ok_is (v : List Std) (hv : Sized v) : spec_l05Ok N0 v = r1 (chainOk v) := by
  have := N0_big
  have hb := hv.1
  have h := spec_l05Ok_l4_is v hv N0 0 (by omega) (by omega)
  simp only [spec_l05Ok, spec_l05Ok_t]
  unfold chainOk
  by_cases h30 : v.length ≤ 30
  · rw [gt_f (by omega), cond_false, dec_t (by omega), Bool.and_true]
    exact h
  · rw [gt_t (by omega), cond_true, dec_f (by omega), Bool.and_false]
end Go.Abs
