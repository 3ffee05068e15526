/- The plain law of SquaresOf. -/
import Derived.Test.YtcdefpkpinfjfaaResid
namespace Go.Abs
set_option linter.unusedSectionVars false
set_option linter.unusedSimpArgs false
set_option linter.unusedVariables false

abbrev sqO (r : Fq) : Option Fq := fmul r r
abbrev swO (r : Fq) (w : Int) : Option Fq := fmul (val (sqO r)) (w, 1)
abbrev saO (s r : Fq) (w : Int) : Option Fq := fadd s (val (swO r w))
def sqE (s r : Fq) (w : Int) : Bool := (sqO r).isNone || ((swO r w).isNone || (saO s r w).isNone)
def sqUp (L : List Fq) (obs : List Ob) : Nat → Nat → Fq → Fq × Bool
  | 0, _, s => (s, false)
  | k + 1, i, s => ((sqUp L obs k (i + 1) (val (saO s (L.getD i (0, 0)) (obs.getD i dOb).2.2))).1, sqE s (L.getD i (0, 0)) (obs.getD i dOb).2.2 || (sqUp L obs k (i + 1) (val (saO s (L.getD i (0, 0)) (obs.getD i dOb).2.2))).2)

section
variable {L : List Fq} (hL : ∀ y ∈ L, Bd y) {obs : List Ob} (ho : ∀ o ∈ obs, 1 ≤ o.2.2 ∧ o.2.2 ≤ 100) (hn : obs.length ≤ 24) (he : L.length = obs.length)
include hL ho hn he

theorem impl_sq_l6_is (n : Int) (hb : Bool) (q z : Fq) : ∀ (k i : Nat) (c : Bool) (s : Fq), i ≤ L.length → L.length - i < k → Bd s →
    impl_SquaresOf_l6 N0 k (i : Int) (L.length : Int) s.1 s.2 n obs hb q.1 q.2 c L z.1 z.2 = bif c || (sqUp L obs (L.length - i) i s).2 then r2 (0, 0) 3 else r2 (sqUp L obs (L.length - i) i s).1 0
  | 0, i, c, s, _, hk, _ => by omega
  | k + 1, i, c, s, hi, hk, hs => by
    simp only [impl_SquaresOf_l6, impl_SquaresOf_t6]
    by_cases h : i < L.length
    · have h' : i < obs.length := by omega
      have hw := ho _ (List.getElem_mem h')
      have hr := hL _ (List.getElem_mem h)
      simp only [lt_t h, lt_t h', nn_t, Bool.and_self, cond_true, Int.toNat_natCast, get_ix h, get_ix h', w_succ (i := i) (by omega), pr_eta, impl_num_is]
      rw [impl_calc_mul_is hr hr, Option.bind_some, Option.bind_some]
      dsimp only
      rw [impl_calc_mul_is (Bd.mul (a := L[i]) (b := L[i])) (Bd.num (n := obs[i].2.2) (by omega)), Option.bind_some]
      dsimp only
      rw [impl_calc_add_is hs Bd.mul, Option.bind_some]
      dsimp only
      refine Eq.trans (impl_sq_l6_is n hb q z k (i + 1) _ (val (saO s L[i] obs[i].2.2)) h (by omega) Bd.add) ?_
      rw [show L.length - i = (L.length - (i + 1)) + 1 by omega, sqUp, get_ix h, get_ix h', sqE]
      simp only [Bool.or_assoc]
    · have : i = L.length := by omega
      subst this
      simp only [lt_f h, cond_false, Nat.sub_self, sqUp, pr_eta, impl_calc_one_is, Option.bind_some, Bool.or_false]
      cases c <;> rfl

theorem spec_sq_l6_is (n : Int) (hb : Bool) (q z : Fq) : ∀ (k i : Nat) (s : Fq), i ≤ L.length → L.length - i < k → Bd s →
    spec_SquaresOf_l6 N0 k (i : Int) z.1 z.2 s.1 s.2 n obs hb q.1 q.2 L = bif (sqUp L obs (L.length - i) i s).2 then r2 (0, 0) 3 else r2 (sqUp L obs (L.length - i) i s).1 0
  | 0, i, s, _, hk, _ => by omega
  | k + 1, i, s, hi, hk, hs => by
    simp only [spec_SquaresOf_l6, spec_SquaresOf_t6]
    by_cases h : i < L.length
    · have h' : i < obs.length := by omega
      have hw := ho _ (List.getElem_mem h')
      have hr := hL _ (List.getElem_mem h)
      have ih := spec_sq_l6_is n hb q z k (i + 1) (val (saO s L[i] obs[i].2.2)) h (by omega) Bd.add
      simp only [lt_t h, lt_t h', nn_t, Bool.and_self, cond_true, Int.toNat_natCast, get_ix h, get_ix h', w_succ (i := i) (by omega), pr_eta, spec_l01Whole_is]
      rw [show L.length - i = (L.length - (i + 1)) + 1 by omega, sqUp, get_ix h, get_ix h', sqE, spec_l01Mul_is hr hr, Option.bind_some]
      dsimp only
      unfold saO swO sqO at *
      cases h1 : fmul L[i] L[i] with
      | none => rfl
      | some p =>
        rw [h1] at ih
        simp only [Option.getD_some, Option.isSome_some, cond_true, show ((0 : Int) != 0) = false from rfl, cond_false, Option.bind_some]
        rw [spec_l01Mul_is (Bd.of (mkF_valid h1)) (Bd.num (n := obs[i].2.2) (by omega)), Option.bind_some]
        dsimp only
        cases h2 : fmul p (obs[i].2.2, 1) with
        | none => simp [h2, val]
        | some e =>
          simp only [val, Option.getD_some, h2] at ih
          simp only [val, Option.getD_some, Option.isSome_some, cond_true, show ((0 : Int) != 0) = false from rfl, cond_false, h2]
          rw [spec_l01Add_is hs (Bd.of (mkF_valid h2)), Option.bind_some]
          dsimp only
          cases h3 : fadd s e with
          | none => rfl
          | some w =>
            rw [h3] at ih
            exact ih
    · have : i = L.length := by omega
      subst this
      simp only [lt_f h, cond_false, Nat.sub_self, sqUp, pr_eta]
end

abbrev sqRes (t : Tb) (x : List Fq) : Option (((Fq × Unit) × ((Int × Unit) × Unit)) × Unit) :=
  bif askC t x != 0 then r2 (0, 0) (askC t x) else bif (allG x t.2.1).2 || (sqUp (allG x t.2.1).1 t.2.1 (allG x t.2.1).1.length 0 (0, 1)).2 then r2 (0, 0) 3 else r2 (sqUp (allG x t.2.1).1 t.2.1 (allG x t.2.1).1.length 0 (0, 1)).1 0

theorem impl_SquaresOf_is (t : Tb) (x : List Fq) (hb : t.2.1.length ≤ 9223372036854775807) (hf : ∀ o ∈ t.2.1, Fit6 o.1) (hx : x.length ≤ 9223372036854775807) : impl_SquaresOf N0 t x = sqRes t x := by
  have := N0_big
  simp only [impl_SquaresOf, impl_SquaresOf_t, pr_eta, impl_answerCode_is t x hb hf hx, Option.bind_some]
  unfold sqRes
  by_cases h : askC t x = 0
  · obtain ⟨h1, h2, h3, h4⟩ := ask_ok h
    have hl := allG_len x t.2.1
    have e := impl_sq_l6_is (allG_bd x t.2.1 (fun o ho => (h3 o ho).1.2)) (fun o ho => (h3 o ho).2) h4 hl t.1 t.2.2.1 t.2.2.2 (0, 0) N0 0 (allG x t.2.1).2 (0, 1) (by omega) (by omega) Bd.zero
    rw [ne_f h, cond_false, cond_false, impl_zero_is, Option.bind_some, impl_residuals_is h, Option.bind_some]
    exact e
  · rw [ne_true h]; rfl

theorem spec_SquaresOf_is (t : Tb) (x : List Fq) (hb : t.2.1.length ≤ 9223372036854775807) (hx : x.length ≤ 9223372036854775807) : spec_SquaresOf N0 t x = sqRes t x := by
  have := N0_big
  simp only [spec_SquaresOf, spec_SquaresOf_t, pr_eta, spec_ResidualsOf_is t x hb hx]
  unfold resRes sqRes
  by_cases h : askC t x = 0
  · obtain ⟨h1, h2, h3, h4⟩ := ask_ok h
    have hl := allG_len x t.2.1
    have e := spec_sq_l6_is (allG_bd x t.2.1 (fun o ho => (h3 o ho).1.2)) (fun o ho => (h3 o ho).2) h4 hl t.1 t.2.2.1 t.2.2.2 (0, 0) N0 0 (0, 1) (by omega) (by omega) Bd.zero
    rw [ne_f h, cond_false, cond_false]
    cases (allG x t.2.1).2 with
    | true => rfl
    | false => exact e
  · rw [ne_true h, cond_true, cond_true, Option.bind_some]
    dsimp only
    rw [ne_true h]
    rfl

theorem law_FnExactSquaresOf (t : Tb) (x : List Fq) (ht : WfD tbT t) (hx : WfD (.list (.pair (.int .i64) (.int .i64))) x) : laws_FnExactSquaresOf N0 t x = r1 true := by
  have hxl : x.length ≤ 9223372036854775807 := hx.1
  obtain ⟨r, h1, h2, h3⟩ := laws_szTable_is t 1048576 (tb_wf ht) (by omega)
  simp only [laws_FnExactSquaresOf, laws_FnExactSquaresOf_t, pr_eta, h1, Option.bind_some]
  by_cases hr : r < 0
  · rw [dec_t hr]; rfl
  · obtain ⟨r', g1, g2, g3⟩ := laws_szFracS_is x r hxl (by omega)
    have hl := h3 (by omega)
    simp only [dec_f hr, cond_false, g1, Option.bind_some]
    by_cases hr' : r' < 0
    · rw [dec_t hr']; rfl
    · have hl' := g3 (by omega)
      obtain ⟨s, c, hs⟩ : ∃ s c, sqRes t x = r2 s c := by
        unfold sqRes
        cases askC t x != 0 with
        | true => exact ⟨_, _, rfl⟩
        | false => cases (allG x t.2.1).2 || (sqUp (allG x t.2.1).1 t.2.1 (allG x t.2.1).1.length 0 (0, 1)).2 <;> exact ⟨_, _, rfl⟩
      simp only [dec_f hr', cond_false, laws_toTable_is t hl, laws_toFracS_is x hl', Option.bind_some, pr_eta, spec_SquaresOf_is t x (by omega) hxl, impl_SquaresOf_is t x (by omega) (tb_fit ht) hxl, hs, laws_eqFrac_is, beq_self_eq_true, bne_self_eq_false, Bool.not_true,
        laws_eqTable_refl t hl, laws_eqFracS_refl x hl']
end Go.Abs
