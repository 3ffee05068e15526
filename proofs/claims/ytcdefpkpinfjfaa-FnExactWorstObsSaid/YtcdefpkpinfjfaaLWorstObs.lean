/- The plain law of WorstObs. -/
import Derived.Test.YtcdefpkpinfjfaaResid
namespace Go.Abs
set_option linter.unusedSectionVars false
set_option linter.unusedSimpArgs false
set_option linter.unusedVariables false

/-- its size -/
abbrev szF (a : Fq) : Fq := (((a.1.natAbs : Nat) : Int), a.2)

theorem impl_size_is {a : Fq} (h : Bd a) : impl_size N0 a = r1 (szF a) := by
  have h2 := h.2
  simp only [impl_size, impl_size_t]
  rw [w_in (x := 0 - a.1) (by unfold I64; omega)]
  unfold szF
  by_cases h0 : a.1 < 0 - a.1
  · rw [if_pos h0, show 0 - a.1 = ((a.1.natAbs : Nat) : Int) by omega]
  · rw [if_neg h0]
    have : a.1 = ((a.1.natAbs : Nat) : Int) := by omega
    rw [← this]

theorem spec_l02Size_is {a : Fq} (h : Bd a) : spec_l02Size N0 a = r1 (szF a) := by
  simp only [spec_l02Size, spec_l02Size_t, pr_eta, spec_l01Neg_is h, Option.bind_some]
  unfold szF
  by_cases h0 : a.1 < 0
  · rw [dec_t h0, cond_true, show -a.1 = ((a.1.natAbs : Nat) : Int) by omega]
  · rw [dec_f h0, cond_false]
    have : ((a.1.natAbs : Nat) : Int) = a.1 := by omega
    rw [this]

def worstUp (L : List Fq) : Nat → Nat → Nat → Nat
  | 0, _, b => b
  | k + 1, i, b => worstUp L k (i + 1) (bif decide (cmpF (szF (L.getD i (0, 0))) (szF (L.getD b (0, 0))) > 0) then i else b)

theorem worstUp_first (L : List Fq) (k : Nat) : worstUp L (k + 1) 0 0 = worstUp L k 1 0 := by
  rw [worstUp]
  cases decide (cmpF (szF (L.getD 0 (0, 0))) (szF (L.getD 0 (0, 0))) > 0) <;> rfl

abbrev worstRes (L : List Fq) (b : Nat) : Option (((Int × Unit) × ((Fq × Unit) × ((Int × Unit) × Unit))) × Unit) := r3 ((b : Nat) : Int) (L.getD b (0, 0)) 0

section
variable {L : List Fq} (hL : ∀ y ∈ L, Bd y) (hn : L.length ≤ 24)
include hL hn

theorem impl_worst_l8_is (z : Fq) : ∀ (k i b : Nat), i ≤ L.length → b < L.length → L.length - i < k →
    impl_WorstObs_l8 N0 k (i : Int) (b : Int) (L.length : Int) L z.1 z.2 = worstRes L (worstUp L (L.length - i) i b)
  | 0, i, b, _, _, hk => by omega
  | k + 1, i, b, hi, hb, hk => by
    simp only [impl_WorstObs_l8, impl_WorstObs_t8]
    by_cases h : i < L.length
    · have ih := fun b hb => impl_worst_l8_is z k (i + 1) b h hb (by omega)
      have h1 := impl_size_is (hL _ (List.getElem_mem h))
      have h2 := impl_size_is (hL _ (List.getElem_mem hb))
      simp only [lt_t h, lt_t hb, nn_t, Bool.and_self, cond_true, Int.toNat_natCast, get_ix h, get_ix hb, w_succ (i := i) (by omega), pr_eta, h1, h2, impl_compare_is, Option.bind_some]
      rw [show L.length - i = (L.length - (i + 1)) + 1 by omega, worstUp, get_ix h, get_ix hb]
      cases decide (cmpF (szF L[i]) (szF L[b]) > 0) with
      | true => exact ih i h
      | false => exact ih b hb
    · have : i = L.length := by omega
      subst this
      simp only [lt_f h, cond_false, Nat.sub_self, worstUp, nn_t, lt_t hb, Bool.and_self, cond_true, Int.toNat_natCast, pr_eta]

theorem spec_worst_l8_is (z : Fq) : ∀ (k i b : Nat), i ≤ L.length → b < L.length → L.length - i < k →
    spec_WorstObs_l8 N0 k (i : Int) (b : Int) L z.1 z.2 = worstRes L (worstUp L (L.length - i) i b)
  | 0, i, b, _, _, hk => by omega
  | k + 1, i, b, hi, hb, hk => by
    simp only [spec_WorstObs_l8, spec_WorstObs_t8]
    by_cases h : i < L.length
    · have ih := fun b hb => spec_worst_l8_is z k (i + 1) b h hb (by omega)
      have h1 := spec_l02Size_is (hL _ (List.getElem_mem h))
      have h2 := spec_l02Size_is (hL _ (List.getElem_mem hb))
      simp only [lt_t h, lt_t hb, nn_t, Bool.and_self, cond_true, Int.toNat_natCast, get_ix h, get_ix hb, w_succ (i := i) (by omega), pr_eta, h1, h2, spec_l01Cmp_is, Option.bind_some]
      rw [show L.length - i = (L.length - (i + 1)) + 1 by omega, worstUp, get_ix h, get_ix hb]
      cases decide (cmpF (szF L[i]) (szF L[b]) > 0) with
      | true => exact ih i h
      | false => exact ih b hb
    · have : i = L.length := by omega
      subst this
      simp only [lt_f h, cond_false, Nat.sub_self, worstUp, nn_t, lt_t hb, Bool.and_self, cond_true, Int.toNat_natCast, pr_eta]
end

abbrev wobRes (t : Tb) (x : List Fq) : Option (((Int × Unit) × ((Fq × Unit) × ((Int × Unit) × Unit))) × Unit) :=
  bif askC t x != 0 then r3 0 (0, 0) (askC t x) else bif (allG x t.2.1).2 then r3 0 (0, 0) 3 else bif (((allG x t.2.1).1.length : Nat) : Int) == 0 then r3 0 (0, 0) 6 else worstRes (allG x t.2.1).1 (worstUp (allG x t.2.1).1 (allG x t.2.1).1.length 0 0)

theorem impl_WorstObs_is (t : Tb) (x : List Fq) (hb : t.2.1.length ≤ 9223372036854775807) (hf : ∀ o ∈ t.2.1, Fit6 o.1) (hx : x.length ≤ 9223372036854775807) : impl_WorstObs N0 t x = wobRes t x := by
  have := N0_big
  simp only [impl_WorstObs, impl_WorstObs_t, pr_eta, impl_ResidualsOf_is t x hb hf hx]
  unfold resRes wobRes
  by_cases h : askC t x = 0
  · obtain ⟨h1, h2, h3, h4⟩ := ask_ok h
    rw [ne_f h, cond_false, cond_false]
    cases (allG x t.2.1).2 with
    | true => rfl
    | false =>
      have hL := allG_bd x t.2.1 (fun o ho => (h3 o ho).1.2)
      have hn : (allG x t.2.1).1.length ≤ 24 := by rw [allG_len]; exact h4
      generalize (allG x t.2.1).1 = L at hL hn
      simp only [cond_false, Option.bind_some, beq_self_eq_true, cond_true, bne_self_eq_false]
      by_cases h0 : (L.length : Int) = 0
      · rw [eq_t h0]; rfl
      · have e := impl_worst_l8_is hL hn (0, 0) N0 0 0 (by omega) (by omega) (by omega)
        rw [eq_f h0]
        exact e
  · rw [ne_true h, cond_true, cond_true, Option.bind_some]
    dsimp only
    rw [eq_f h, ne_true h]
    rfl

theorem spec_WorstObs_is (t : Tb) (x : List Fq) (hb : t.2.1.length ≤ 9223372036854775807) (hx : x.length ≤ 9223372036854775807) : spec_WorstObs N0 t x = wobRes t x := by
  have := N0_big
  simp only [spec_WorstObs, spec_WorstObs_t, pr_eta, spec_ResidualsOf_is t x hb hx]
  unfold resRes wobRes
  by_cases h : askC t x = 0
  · obtain ⟨h1, h2, h3, h4⟩ := ask_ok h
    rw [ne_f h, cond_false, cond_false]
    cases (allG x t.2.1).2 with
    | true => rfl
    | false =>
      have hL := allG_bd x t.2.1 (fun o ho => (h3 o ho).1.2)
      have hn : (allG x t.2.1).1.length ≤ 24 := by rw [allG_len]; exact h4
      generalize (allG x t.2.1).1 = L at hL hn
      simp only [cond_false, Option.bind_some, bne_self_eq_false]
      by_cases h0 : (L.length : Int) = 0
      · rw [eq_t h0]; rfl
      · have e := spec_worst_l8_is hL hn (0, 0) N0 1 0 (by omega) (by omega) (by omega)
        rw [eq_f h0, cond_false, cond_false, show L.length = (L.length - 1) + 1 by omega, worstUp_first]
        exact e
  · rw [ne_true h, cond_true, cond_true, Option.bind_some]
    dsimp only
    rw [ne_true h]
    rfl

theorem law_FnExactWorstObs (t : Tb) (x : List Fq) (ht : WfD tbT t) (hx : WfD (.list (.pair (.int .i64) (.int .i64))) x) : laws_FnExactWorstObs N0 t x = r1 true := by
  have hxl : x.length ≤ 9223372036854775807 := hx.1
  obtain ⟨r, h1, h2, h3⟩ := laws_szTable_is t 1048576 (tb_wf ht) (by omega)
  simp only [laws_FnExactWorstObs, laws_FnExactWorstObs_t, pr_eta, h1, Option.bind_some]
  by_cases hr : r < 0
  · rw [dec_t hr]; rfl
  · obtain ⟨r', g1, g2, g3⟩ := laws_szFracS_is x r hxl (by omega)
    have hl := h3 (by omega)
    simp only [dec_f hr, cond_false, g1, Option.bind_some]
    by_cases hr' : r' < 0
    · rw [dec_t hr']; rfl
    · have hl' := g3 (by omega)
      obtain ⟨a, s, c, hs⟩ : ∃ a s c, wobRes t x = r3 a s c := by
        unfold wobRes
        cases askC t x != 0 with
        | true => exact ⟨_, _, _, rfl⟩
        | false =>
          cases (allG x t.2.1).2 with
          | true => exact ⟨_, _, _, rfl⟩
          | false => cases (((allG x t.2.1).1.length : Nat) : Int) == 0 <;> exact ⟨_, _, _, rfl⟩
      simp only [dec_f hr', cond_false, laws_toTable_is t hl, laws_toFracS_is x hl', Option.bind_some, pr_eta, spec_WorstObs_is t x (by omega) hxl, impl_WorstObs_is t x (by omega) (tb_fit ht) hxl, hs, laws_eqFrac_is, beq_self_eq_true, bne_self_eq_false, Bool.not_true,
        laws_eqTable_refl t hl, laws_eqFracS_refl x hl']
end Go.Abs
