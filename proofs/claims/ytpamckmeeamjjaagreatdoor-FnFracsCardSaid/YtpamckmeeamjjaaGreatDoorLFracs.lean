/- The plain law of fractions. -/
import Derived.Test.YtpamckmeeamjjaaGreatDoorFrN
import Derived.Test.YtpamckmeeamjjaaGreatDoorFrT
namespace Go.Abs
set_option linter.unusedSectionVars false
set_option linter.unusedSimpArgs false
set_option linter.unusedVariables false

theorem laws_f6big_is (a : List Int) : laws_f6big N0 a = r1 (decide ((a.length : Int) > 4096)) := rfl

section
variable {D : Int} (h : Dn D) {Bs : List Int} (hs : ∀ x ∈ Bs, Sm x) (hl : Bs.length ≤ 8) {Y m : Int} (hY : Sm Y) (hm : Sm m)
  (hfin : ∀ L M, (∀ x ∈ Bs, L ≤ x ∧ x ≤ M) → (L ≤ Y ∧ Y ≤ M) ∧ (L ≤ m ∧ m ≤ M))
include h hs hl hY hm hfin

theorem fracs_l42_is : ∀ (k i : Nat) (L M : Int), i ≤ Bs.length → Bs.length - i < k → Sm L → Sm M → (∀ x ∈ Bs.take i, L ≤ x ∧ x ≤ M) →
    laws_FnFracs_l42 N0 k (i : Int) (cF D M).1 (cF D M).2 (Bs.map (cF D)) (cF D L).1 (cF D L).2 (cF D m).1 (cF D m).2 (cF D Y).1 (cF D Y).2 = r1 true
  | 0, i, L, M, _, hk, _, _, _ => by omega
  | k + 1, i, L, M, hi, hk, hL, hM, hpre => by
    simp only [laws_FnFracs_l42, laws_FnFracs_t42, List.length_map, pr_eta]
    by_cases hlt : i < Bs.length
    · have hsx := hs _ (List.getElem_mem hlt)
      rw [lt_t hlt, nn_t, Bool.and_self, cond_true, Int.toNat_natCast, map_F h Bs i hlt, get_ix hlt, f6less_c h hsx hL, f6less_c h hM hsx, w_succ (i := i) (by omega)]
      simp only [cond_true, Option.bind_some]
      have hnext : ∀ L' M', L' ≤ L → M ≤ M' → L' ≤ Bs[i] → Bs[i] ≤ M' → ∀ x ∈ Bs.take (i + 1), L' ≤ x ∧ x ≤ M' := by
        intro L' M' h1 h2 h3 h4 x hx
        rw [List.take_succ_eq_append_getElem hlt] at hx
        rcases List.mem_append.1 hx with hx | hx
        · have := hpre x hx; omega
        · simp only [List.mem_cons, List.mem_nil_iff, or_false] at hx
          rw [hx]; omega
      by_cases c1 : Bs[i] < L
      · rw [dec_t c1, cond_true]
        by_cases c2 : M < Bs[i]
        · rw [dec_t c2, cond_true]
          exact fracs_l42_is k (i + 1) Bs[i] Bs[i] hlt (by omega) hsx hsx (hnext _ _ (by omega) (by omega) (by omega) (by omega))
        · rw [dec_f c2, cond_false]
          exact fracs_l42_is k (i + 1) Bs[i] M hlt (by omega) hsx hM (hnext _ _ (by omega) (by omega) (by omega) (by omega))
      · rw [dec_f c1, cond_false]
        by_cases c2 : M < Bs[i]
        · rw [dec_t c2, cond_true]
          exact fracs_l42_is k (i + 1) L Bs[i] hlt (by omega) hL hsx (hnext _ _ (by omega) (by omega) (by omega) (by omega))
        · rw [dec_f c2, cond_false]
          exact fracs_l42_is k (i + 1) L M hlt (by omega) hL hM (hnext _ _ (by omega) (by omega) (by omega) (by omega))
    · have : i = Bs.length := by omega
      subst this
      rw [List.take_length] at hpre
      obtain ⟨⟨f1, f2⟩, f3, f4⟩ := hfin L M hpre
      rw [lt_f (Nat.lt_irrefl _), cond_false, f6less_c h hY hL, f6less_c h hM hY, f6less_c h hm hL, f6less_c h hM hm, dec_f (by omega), dec_f (by omega), dec_f (by omega), dec_f (by omega)]
      rfl
end

theorem sum_ge {L : Int} : ∀ (l : List Int), (∀ x ∈ l, L ≤ x) → (l.length : Int) * L ≤ l.sum
  | [], _ => by simp
  | x :: r, h => by
    have h1 := h x (by simp)
    have h2 := sum_ge r fun y hy => h y (by simp [hy])
    rw [List.sum_cons, List.length_cons, Int.natCast_add, Int.natCast_one, Int.add_mul, Int.one_mul]
    omega

theorem sum_le {M : Int} : ∀ (l : List Int), (∀ x ∈ l, x ≤ M) → l.sum ≤ (l.length : Int) * M
  | [], _ => by simp
  | x :: r, h => by
    have h1 := h x (by simp)
    have h2 := sum_le r fun y hy => h y (by simp [hy])
    rw [List.sum_cons, List.length_cons, Int.natCast_add, Int.natCast_one, Int.add_mul, Int.one_mul]
    omega

theorem fin_c {Bs : List Int} (hl : 1 ≤ Bs.length) {Y : Int} (hY : Bs.sum = (Bs.length : Int) * Y) (L M : Int) (hx : ∀ x ∈ Bs, L ≤ x ∧ x ≤ M) : (L ≤ Y ∧ Y ≤ M) ∧ (L ≤ midI (sortI Bs) ∧ midI (sortI Bs) ≤ M) := by
  obtain ⟨g1, g2, g3⟩ := sortI_spec Bs
  have h1 := sum_ge Bs fun x h => (hx x h).1
  have h2 := sum_le Bs fun x h => (hx x h).2
  rw [hY] at h1 h2
  refine ⟨⟨Int.le_of_mul_le_mul_left h1 (by omega), Int.le_of_mul_le_mul_left h2 (by omega)⟩, ?_⟩
  have hat : ∀ i, i < Bs.length → L ≤ (sortI Bs).getD i 0 ∧ (sortI Bs).getD i 0 ≤ M := by
    intro i hi
    rw [get_ix (by omega : i < (sortI Bs).length)]
    exact hx _ ((g3 _).1 (List.getElem_mem _))
  unfold midI
  rw [g2]
  split
  · exact hat _ (by omega)
  · have a1 := hat (Bs.length / 2 - 1) (by omega)
    have a2 := hat (Bs.length / 2) (by omega)
    omega

theorem law_FnFracs (code more : List Int) (hc : WfD (.list (.int .u8)) code) (hm : WfD (.list (.int .u8)) more) : laws_FnFracs N0 code more = r1 true := by
  have hN := N0_big
  simp only [laws_FnFracs, laws_FnFracs_t, laws_f6big_is, Option.bind_some]
  by_cases l1 : (code.length : Int) > 4096
  · rw [dec_t l1]; rfl
  rw [dec_f l1, cond_false]
  by_cases l2 : (more.length : Int) > 4096
  · rw [dec_t l2]; rfl
  rw [dec_f l2, cond_false]
  obtain ⟨a, ea, ha⟩ := P6Frac_ex code (code_wf hc) (by omega)
  obtain ⟨b, eb, hb⟩ := P6Frac_ex more (code_wf hm) (by omega)
  obtain ⟨x, ex, hx⟩ := P6Pick_ex more (code_wf hm) (by omega)
  obtain ⟨As, eA, hAl, hA⟩ := P6List_ex code (code_wf hc) (by omega)
  obtain ⟨Bs, eB, hBl, hBb, hBe, Y, hYs⟩ := scale_list hAl hA
  obtain ⟨s, es, hsv⟩ := Sf.add ha hb
  obtain ⟨p, ep, hpv⟩ := Sf.mul ha hb
  obtain ⟨n, mm, r, hf, q1, q2, q3, q4, q5, q6, q7⟩ := nearest_c ha (u := 1 + x) (by omega)
  obtain ⟨c1, c2⟩ := floor_c ha
  have hBl' : 1 ≤ Bs.length ∧ Bs.length ≤ 8 := by omega
  have hD : Dn (8 * (Bs.length : Int)) := by constructor <;> omega
  rw [← hBl] at eB
  obtain ⟨m1, m2⟩ := Middle_c hD hBb hBe hBl'
  have hsub : impl_SubFracs N0 s b = r2 a 0 := by rw [impl_SubFracs_is hsv hb.v, sub_add ha.v hb.v es]; rfl
  have hdiv : b.1 ≠ 0 → impl_DivFracs N0 p b = r2 a 0 := fun h0 => by rw [impl_DivFracs_is hpv hb.v h0, div_mul ha.v hb.v h0 ep]; rfl
  have hadd : impl_AddFracs N0 a b = r2 s 0 := by rw [impl_AddFracs_is ha.v hb.v, es]; rfl
  have hadd2 : spec_AddFracs N0 a b = r2 s 0 := by rw [spec_AddFracs_is ha.v hb.v, es]; rfl
  have hmul : impl_MulFracs N0 a b = r2 p 0 := by rw [impl_MulFracs_is ha.v hb.v, ep]; rfl
  have hmul2 : spec_MulFracs N0 a b = r2 p 0 := by rw [spec_MulFracs_is ha.v hb.v, ep]; rfl
  have htext : impl_FracText N0 a = r1 (bs (fracT a)) := by rw [impl_FracText_is, ha.v]; rfl
  have hcmp : impl_CompareFracs N0 a b = r2 (cmpF a b) 0 := by rw [impl_CompareFracs_is, ha.v, hb.v]; rfl
  have hcmp2 : impl_CompareFracs N0 b a = r2 (cmpF b a) 0 := by rw [impl_CompareFracs_is, ha.v, hb.v]; rfl
  have hanti : IntKind.wrap .i64 (0 - cmpF b a) = cmpF a b ∧ ((cmpF a b == 0) = ((a.1 == b.1) && ((a.2 == b.2) && true))) := by
    have k1 := bd_pq (Bd.of ha.v) (Bd.of hb.v)
    have k2 := bd_pq (Bd.of hb.v) (Bd.of ha.v)
    unfold cmpF
    rw [w_in (x := a.1 * b.2) (by unfold I64; omega), w_in (x := b.1 * a.2) (by unfold I64; omega)]
    by_cases u1 : a.1 * b.2 < b.1 * a.2
    · rw [dec_t u1, dec_f (p := b.1 * a.2 < a.1 * b.2) (by omega)]
      refine ⟨rfl, ?_⟩
      cases hh : (a.1 == b.1) with
      | false => rfl
      | true =>
        cases hh2 : (a.2 == b.2) with
        | false => rfl
        | true =>
          rw [beq_iff_eq] at hh hh2
          rw [hh, hh2] at u1
          omega
    · by_cases u2 : a.1 * b.2 > b.1 * a.2
      · rw [dec_f u1, dec_t (p := b.1 * a.2 < a.1 * b.2) u2]
        refine ⟨rfl, ?_⟩
        cases hh : (a.1 == b.1) with
        | false => rfl
        | true =>
          cases hh2 : (a.2 == b.2) with
          | false => rfl
          | true =>
            rw [beq_iff_eq] at hh hh2
            rw [hh, hh2] at u2
            omega
      · rw [dec_f u1, dec_f u2]
        have e : a.1 * b.2 = b.1 * a.2 := by omega
        have e1 := mkF_to (P := a.1) (Q := a.2) (a := b) (by have := ha.q; omega) hb.v e
        rw [mkF_self ha.v] at e1
        have e2 := Option.some.inj e1
        rw [e2]
        refine ⟨rfl, ?_⟩
        simp
  have hw1 : IntKind.wrap .i64 (1 + x) = 1 + x := w_in (by unfold I64; omega)
  have hrh : ((r.1 == hf.1) && ((r.2 == hf.2) && true)) = false := by
    rw [Bool.and_true, Bool.eq_false_iff]
    intro hh
    rw [Bool.and_eq_true, beq_iff_eq, beq_iff_eq] at hh
    exact q6 (Prod.ext hh.1 hh.2)
  have hmean := MeanOf_c hD hBb hBl' hYs
  have hsum := SumOf_c hD hBb hBl'
  have hmulc := mul_c hD hBb hBl' hYs
  have hYb := mean_bd hD hBb hBl' hYs
  have hmb := (fin_c (by omega) hYs (-1280) 1280 hBb).2
  have hx0 : Sm (Bs.getD 0 0) := by
    rw [get_ix (by omega : 0 < Bs.length)]
    exact sm_all hD hBb _ (List.getElem_mem _)
  have hg0 : (Bs.map (cF (8 * (Bs.length : Int)))).getD (Int.toNat 0) (0, 0) = cF (8 * (Bs.length : Int)) (Bs.getD 0 0) := map_F hD Bs 0 (by omega)
  have hloop := fracs_l42_is hD (sm_all hD hBb) hBl'.2 (Y := Y) (m := midI (sortI Bs)) (by unfold Sm; omega) (by unfold Sm; omega) (fin_c (by omega) hYs) N0 0 (Bs.getD 0 0) (Bs.getD 0 0) (by omega) (by omega) hx0 hx0 (by simp)
  rw [show ((0 : Nat) : Int) = 0 from rfl] at hloop
  have hlt0 : decide ((0 : Int) < ((Bs.length : Nat) : Int)) = true := dec_t (by omega)
  simp only [pr_eta, ea, eb, ex, eA, eB, Option.bind_some, htext, read_text ha.v, impl_MakeFrac_three ha, hadd, hadd2, hsub, hmul, hmul2, impl_ValidFrac_is, ha.v, hcmp, hcmp2, impl_FloorOf_is ha.v, c1, c2, hw1, q1, q2, q3, q4, q5, q7, hmean, m1, m2, hsum, List.length_map, hmulc,
    bne_self_eq_false, beq_self_eq_true, Bool.and_self, Bool.not_true, Bool.not_false, cond_false, cond_true, hanti.1, hanti.2, hrh, hg0, hlt0, hloop]
  by_cases h0 : b.1 = 0
  · simp only [impl_DivFracs_zero hpv hb.v h0, Option.bind_some, eq_t h0, ne_f h0, cond_true, cond_false, bne_self_eq_false]
  · simp only [hdiv h0, Option.bind_some, eq_f h0, ne_true h0, cond_true, cond_false, bne_self_eq_false, beq_self_eq_true, Bool.and_self, Bool.not_true]
end Go.Abs
