/- The table of compared intervals. -/
import Derived.Test.YtipjecagbndhbaaRingP
namespace Go.Abs
set_option linter.unusedSectionVars false
set_option linter.unusedSimpArgs false
set_option linter.unusedVariables false

abbrev pdO (D : List Fq) (i k : Nat) : Option Fq := fsub (D.getD i (0, 0)) (D.getD k (0, 0))
/-- the observations of interval i with k and the next ones -/
noncomputable def pairIn (D : List Fq) (i : Nat) : Nat → Nat → List Ob × Bool
  | 0, _ => ([], false)
  | c + 1, k => (obPair (i : Int) (k : Int) (val (pdO D i k)) :: (pairIn D i c (k + 1)).1, (pdO D i k).isNone || (pairIn D i c (k + 1)).2)
noncomputable def pairUp (D : List Fq) : Nat → Nat → List Ob × Bool
  | 0, _ => ([], false)
  | c + 1, i => ((pairIn D i (D.length - (i + 1)) (i + 1)).1 ++ (pairUp D c (i + 1)).1, (pairIn D i (D.length - (i + 1)) (i + 1)).2 || (pairUp D c (i + 1)).2)

theorem pairIn_len (D : List Fq) (i : Nat) : ∀ c k, (pairIn D i c k).1.length = c
  | 0, k => rfl
  | c + 1, k => by rw [pairIn, List.length_cons, pairIn_len D i c]

theorem pairUp_len (D : List Fq) (h : D.length ≤ 6) : ∀ c i, (pairUp D c i).1.length ≤ 6 * c
  | 0, i => by simp [pairUp]
  | c + 1, i => by
    rw [pairUp, List.length_append, pairIn_len]
    have := pairUp_len D h c (i + 1)
    omega

section
variable {D : List Fq} {n : Nat} (hn : D.length = n) (h2 : 2 ≤ n ∧ n ≤ 6) (hD : ∀ y ∈ D, Bd y)
include hn h2 hD

theorem impl_pair_l12_is (G) (i : Nat) (hi : i < n) (t z : Int × Fq) (cl cz : Bool) : ∀ (k j : Nat) (c : Bool) (b : List Ob), j ≤ n → n - j < k → b.length ≤ 100 - (n - j) →
    impl_PairTable_l12 N0 G k (j : Int) (i : Int) (n : Int) (i : Int) t.1 cl t.2.1 t.2.2 D c z.1 cz z.2.1 z.2.2 b =
      G ((i + 1 : Nat) : Int) (n : Int) t.1 cl t.2.1 t.2.2 D (c || (pairIn D i (n - j) j).2) z.1 cz z.2.1 z.2.2 (b ++ (pairIn D i (n - j) j).1)
  | 0, j, c, b, _, hk, _ => by omega
  | k + 1, j, c, b, hj, hk, hb => by
    simp only [impl_PairTable_l12, impl_PairTable_t12]
    by_cases h : j < n
    · have hr (x : Ob) : decide ((b.length + (x :: []).length) * 33 ≤ 70368744177664) = true := dec_t (by simp only [List.length_cons, List.length_nil]; omega)
      simp only [hn, lt_t h, lt_t hi, nn_t, Bool.and_self, cond_true, Int.toNat_natCast, w_succ (i := j) (by omega), pr_eta, impl_calc_sub_is (bd_at hD (i := i) (by omega)) (bd_at hD (i := j) (by omega)), Option.bind_some,
        impl_pairObs_is (i := (i : Int)) (k := (j : Int)) (by omega) (by omega), hr]
      rw [impl_pair_l12_is G i hi t z cl cz k (j + 1) _ _ h (by omega) (by simp only [List.length_append, List.length_cons, List.length_nil]; omega), show n - j = (n - (j + 1)) + 1 by omega, pairIn, List.append_assoc, Bool.or_assoc]
      rfl
    · have : j = n := by omega
      subst this
      simp only [hn, lt_f h, cond_false, Nat.sub_self, pairIn, List.append_nil, Bool.or_false, w_succ (i := i) (by omega)]

theorem impl_pair_l9_is (t z : Int × Fq) (cl cz : Bool) : ∀ (k i : Nat) (c : Bool) (b : List Ob), i ≤ n → n - i < k → b.length ≤ 6 * i →
    impl_PairTable_l9 N0 k (i : Int) (n : Int) t.1 cl t.2.1 t.2.2 D c z.1 cz z.2.1 z.2.2 b = bif c || (pairUp D (n - i) i).2 then rT tb0 3 else rT (t.1, (b ++ (pairUp D (n - i) i).1, (cl, t.2))) 0
  | 0, i, c, b, _, hk, _ => by omega
  | k + 1, i, c, b, hi, hk, hb => by
    have := N0_big
    simp only [impl_PairTable_l9, impl_PairTable_t9]
    by_cases h : i < n
    · rw [lt_t h, cond_true, w_succ (i := i) (by omega), impl_pair_l12_is hn h2 hD _ i h t z cl cz N0 (i + 1) c b (by omega) (by omega) (by omega),
        impl_pair_l9_is t z cl cz k (i + 1) _ _ h (by omega) (by rw [List.length_append, pairIn_len]; omega), show n - i = (n - (i + 1)) + 1 by omega, pairUp, hn, List.append_assoc, Bool.or_assoc]
    · have : i = n := by omega
      subst this
      simp only [lt_f h, cond_false, Nat.sub_self, pairUp, List.append_nil, Bool.or_false, pr_eta]

theorem spec_pair_l17_is (G) (i : Nat) (hi : i < n) (t z : Int × Fq) (cl cz : Bool) : ∀ (k j : Nat) (b : List Ob), j ≤ n → n - j < k → b.length ≤ 100 - (n - j) →
    spec_PairTable_l17 N0 G k (j : Int) (i : Int) (n : Int) z.1 cz z.2.1 z.2.2 t.1 cl t.2.1 t.2.2 D b =
      bif (pairIn D i (n - j) j).2 then r2 tb0 3 else G ((i + 1 : Nat) : Int) (n : Int) z.1 cz z.2.1 z.2.2 t.1 cl t.2.1 t.2.2 D (b ++ (pairIn D i (n - j) j).1)
  | 0, j, b, _, hk, _ => by omega
  | k + 1, j, b, hj, hk, hb => by
    simp only [spec_PairTable_l17, spec_PairTable_t17]
    by_cases h : j < n
    · have hr (x : Ob) : decide ((b.length + (x :: []).length) * 33 ≤ 70368744177664) = true := dec_t (by simp only [List.length_cons, List.length_nil]; omega)
      simp only [hn, lt_t h, lt_t hi, nn_t, Bool.and_self, cond_true, Int.toNat_natCast, w_succ (i := j) (by omega), pr_eta, spec_l01Sub_is (bd_at hD (i := i) (by omega)) (bd_at hD (i := j) (by omega)), Option.bind_some,
        pairObs_same, impl_pairObs_is (i := (i : Int)) (k := (j : Int)) (by omega) (by omega), hr]
      rw [show n - j = (n - (j + 1)) + 1 by omega, pairIn]
      unfold pdO
      cases hd : fsub (D.getD i (0, 0)) (D.getD j (0, 0)) with
      | none => rfl
      | some q =>
        have ih := spec_pair_l17_is G i hi t z cl cz k (j + 1) (b ++ [obPair (i : Int) (j : Int) q]) h (by omega) (by simp only [List.length_append, List.length_cons, List.length_nil]; omega)
        simp only [Option.isSome_some, cond_true, bne_self_eq_false, cond_false, Option.getD_some, Option.isNone_some, Bool.false_or]
        refine ih.trans ?_
        rw [List.append_assoc]
        rfl
    · have : j = n := by omega
      subst this
      simp only [lt_f h, cond_false, Nat.sub_self, pairIn, List.append_nil, w_succ (i := i) (by omega)]

theorem spec_pair_l14_is (t z : Int × Fq) (cl cz : Bool) : ∀ (k i : Nat) (b : List Ob), i ≤ n → n - i < k → b.length ≤ 6 * i →
    spec_PairTable_l14 N0 k (i : Int) (n : Int) z.1 cz z.2.1 z.2.2 t.1 cl t.2.1 t.2.2 D b = bif (pairUp D (n - i) i).2 then r2 tb0 3 else r2 (t.1, (b ++ (pairUp D (n - i) i).1, (cl, t.2))) 0
  | 0, i, b, _, hk, _ => by omega
  | k + 1, i, b, hi, hk, hb => by
    have := N0_big
    simp only [spec_PairTable_l14, spec_PairTable_t14]
    by_cases h : i < n
    · rw [lt_t h, cond_true, w_succ (i := i) (by omega), spec_pair_l17_is hn h2 hD _ i h t z cl cz N0 (i + 1) b (by omega) (by omega) (by omega),
        spec_pair_l14_is t z cl cz k (i + 1) _ h (by omega) (by rw [List.length_append, pairIn_len]; omega), show n - i = (n - (i + 1)) + 1 by omega, pairUp, hn, List.append_assoc]
      cases (pairIn D i (n - (i + 1)) (i + 1)).2 <;> rfl
    · have : i = n := by omega
      subst this
      simp only [lt_f h, cond_false, Nat.sub_self, pairUp, List.append_nil, pr_eta]
end

/-- the table, its code -/
noncomputable def pairT (s : Sc) : Tb × Int :=
  bif scaleOk s then (bif btw ((s.2.length : Int) - 1) 2 6 then
    (bif (intG s.2 (s.2.length - 1) 0).2 || ((gsum (0, 1) (intG s.2 (s.2.length - 1) 0).1).2 || (pairUp (intG s.2 (s.2.length - 1) 0).1 (s.2.length - 1) 0).2) then (tb0, 3)
      else ((((s.2.length - 1 : Nat) : Int), ((pairUp (intG s.2 (s.2.length - 1) 0).1 (s.2.length - 1) 0).1, (true, (gsum (0, 1) (intG s.2 (s.2.length - 1) 0).1).1))), 0)) else (tb0, 2)) else (tb0, 1)

theorem pairT_len (s : Sc) : (pairT s).1.2.1.length ≤ 1048576 := by
  unfold pairT
  cases scaleOk s with
  | false => simp
  | true =>
    cases h : btw ((s.2.length : Int) - 1) 2 6 with
    | false => simp
    | true =>
      rw [btw_iff] at h
      cases (intG s.2 (s.2.length - 1) 0).2 || ((gsum (0, 1) (intG s.2 (s.2.length - 1) 0).1).2 || (pairUp (intG s.2 (s.2.length - 1) 0).1 (s.2.length - 1) 0).2) with
      | true => simp
      | false =>
        have := pairUp_len (intG s.2 (s.2.length - 1) 0).1 (by rw [intG_len]; omega) (s.2.length - 1) 0
        simp only [cond_true, cond_false]
        omega

theorem impl_PairTable_is (s : Sc) (hb : s.2.length ≤ 9223372036854775807) : impl_PairTable N0 s = rT (pairT s).1 (pairT s).2 := by
  have := N0_big
  simp only [impl_PairTable, impl_PairTable_t, pr_eta, impl_ValidScale_is s hb, Option.bind_some]
  unfold pairT
  cases h : scaleOk s with
  | false => rfl
  | true =>
    obtain ⟨h1, h2⟩ := scale_facts h
    rw [w_in (x := (s.2.length : Int) - 1) (by unfold I64; omega), impl_within_is, Option.bind_some]
    dsimp only
    cases h3 : btw ((s.2.length : Int) - 1) 2 6 with
    | false => rfl
    | true =>
      rw [btw_iff] at h3
      have e := impl_intervals_is (m := s.2.length - 1) (by omega) (by omega) h2 s.1 false
      rw [pr_eta] at e
      simp only [Bool.not_true, cond_false, cond_true]
      rw [e, Option.bind_some]
      dsimp only
      rw [impl_calc_sum_is _ (by rw [intG_len]; omega) (intG_bd s.2 _ 0), Option.bind_some]
      dsimp only
      rw [intG_len]
      have e2 := impl_pair_l9_is (D := (intG s.2 (s.2.length - 1) 0).1) (n := s.2.length - 1) (intG_len _ _ _) (by omega) (intG_bd s.2 _ 0) (((s.2.length - 1 : Nat) : Int), (gsum (0, 1) (intG s.2 (s.2.length - 1) 0).1).1) (0, (0, 0)) true false N0 0 ((false || (intG s.2 (s.2.length - 1) 0).2) || (gsum (0, 1) (intG s.2 (s.2.length - 1) 0).1).2) [] (by omega) (by omega) (by simp)
      rw [Nat.sub_zero, List.nil_append] at e2
      refine e2.trans ?_
      simp only [Bool.false_or, Bool.or_assoc]
      cases (intG s.2 (s.2.length - 1) 0).2 || ((gsum (0, 1) (intG s.2 (s.2.length - 1) 0).1).2 || (pairUp (intG s.2 (s.2.length - 1) 0).1 (s.2.length - 1) 0).2) <;> rfl

theorem spec_PairTable_is (s : Sc) (hb : s.2.length ≤ 9223372036854775807) : spec_PairTable N0 s = r2 (pairT s).1 (pairT s).2 := by
  have := N0_big
  simp only [spec_PairTable, spec_PairTable_t, pr_eta, spec_l02Ok_is s hb, Option.bind_some]
  unfold pairT
  cases h : scaleOk s with
  | false => rfl
  | true =>
    obtain ⟨h1, h2⟩ := scale_facts h
    rw [w_in (x := (s.2.length : Int) - 1) (by unfold I64; omega), spec_l00In_is, Option.bind_some]
    dsimp only
    cases h3 : btw ((s.2.length : Int) - 1) 2 6 with
    | false => rfl
    | true =>
      rw [btw_iff] at h3
      have e := spec_intervals_is (m := s.2.length - 1) (by omega) (by omega) h2 s.1
      rw [pr_eta] at e
      simp only [Bool.not_true, cond_false, cond_true]
      rw [e]
      cases (intG s.2 (s.2.length - 1) 0).2 with
      | true => rfl
      | false =>
        simp only [cond_false, Option.bind_some, bne_self_eq_false, Bool.false_or]
        rw [spec_l01Sum_is _ (by rw [intG_len]; omega) (intG_bd s.2 _ 0), Option.bind_some]
        dsimp only
        obtain ⟨g1, g2⟩ := gsum_fsum (intG s.2 (s.2.length - 1) 0).1 (0, 1)
        rw [g1]
        cases hs : fsum (0, 1) (intG s.2 (s.2.length - 1) 0).1 with
        | none => rfl
        | some q =>
          simp only [Option.isSome_some, cond_true, bne_self_eq_false, cond_false, Option.getD_some, Option.isNone_some, Bool.false_or]
          rw [g2 q hs, show (s.2.length : Int) - 1 = ((s.2.length - 1 : Nat) : Int) by omega]
          have e2 := spec_pair_l14_is (D := (intG s.2 (s.2.length - 1) 0).1) (n := s.2.length - 1) (intG_len _ _ _) (by omega) (intG_bd s.2 _ 0) (((s.2.length - 1 : Nat) : Int), q) (0, (0, 0)) true false N0 0 [] (by omega) (by omega) (by simp)
          rw [Nat.sub_zero, List.nil_append] at e2
          refine e2.trans ?_
          cases (pairUp (intG s.2 (s.2.length - 1) 0).1 (s.2.length - 1) 0).2 <;> rfl
end Go.Abs
