/- The widest link of a path. -/
import Derived.Test.YtcdefpkpinfjfaaChainP
import Derived.Test.YtcdefpkpinfjfaaChainL
namespace Go.Abs
set_option linter.unusedSectionVars false
set_option linter.unusedSimpArgs false
set_option linter.unusedVariables false

abbrev wdO (x : Std) : Option Fq := fsub x.2.2.1.2 x.2.2.1.1
abbrev wmO (x : Std) (m : Int) : Option Fq := fmul x.2.2.2.1 (2 * m, 1)
abbrev waO (x : Std) (m : Int) : Option Fq := fadd (val (wdO x)) (val (wmO x m))
def widE (x : Std) (m : Int) : Bool := (wdO x).isNone || ((wmO x m).isNone || (waO x m).isNone)
/-- is it wider than the widest yet -/
def wider (b : Int) (f w : Fq) : Bool := decide (b < 0) || decide (cmpF w f > 0)
def widG (v : List Std) (day : Int) : List Int → Int → Fq → (Int × Fq) × Bool
  | [], b, f => ((b, f), false)
  | i :: r, b, f => bif wider b f (val (waO (v.getD i.toNat dStd) (daysAt v day i r)))
    then ((widG v day r i (val (waO (v.getD i.toNat dStd) (daysAt v day i r)))).1, widE (v.getD i.toNat dStd) (daysAt v day i r) || (widG v day r i (val (waO (v.getD i.toNat dStd) (daysAt v day i r)))).2)
    else ((widG v day r b f).1, widE (v.getD i.toNat dStd) (daysAt v day i r) || (widG v day r b f).2)

theorem waO_at {x : Std} {m : Int} {p q : Fq} {o : Option Fq} (h1 : wdO x = some p) (h3 : wmO x m = some q) (h5 : fadd p q = o) : waO x m = o := by
  unfold waO
  rw [h1, h3]
  exact h5
theorem widE_at {x : Std} {m : Int} {p q : Fq} (h1 : wdO x = some p) (h3 : wmO x m = some q) (h5 : fadd p q = none) : widE x m = true := by
  unfold widE
  rw [waO_at h1 h3 h5, h1, h3]
  rfl
theorem widE_no {x : Std} {m : Int} {p q w : Fq} (h1 : wdO x = some p) (h3 : wmO x m = some q) (h5 : fadd p q = some w) : widE x m = false := by
  unfold widE
  rw [waO_at h1 h3 h5, h1, h3]
  rfl
theorem widG_err {v : List Std} {day i : Int} {r : List Int} (b : Int) (f : Fq) (h : widE (v.getD i.toNat dStd) (daysAt v day i r) = true) : (widG v day (i :: r) b f).2 = true := by
  rw [widG, h]
  cases wider b f (val (waO (v.getD i.toNat dStd) (daysAt v day i r))) <;> rfl
theorem widG_ok {v : List Std} {day i : Int} {r : List Int} (b : Int) (f : Fq) (h : widE (v.getD i.toNat dStd) (daysAt v day i r) = false) :
    widG v day (i :: r) b f = bif wider b f (val (waO (v.getD i.toNat dStd) (daysAt v day i r))) then widG v day r i (val (waO (v.getD i.toNat dStd) (daysAt v day i r))) else widG v day r b f := by
  rw [widG, h]
  cases wider b f (val (waO (v.getD i.toNat dStd) (daysAt v day i r))) <;> rfl

theorem widG_first (v : List Std) (day : Int) (P : List Int) (hP : P ≠ []) (f g : Fq) : widG v day P (-1) f = widG v day P (-1) g := by
  cases P with
  | nil => exact absurd rfl hP
  | cons i r => rfl

section
variable {v : List Std} (hc : chainOk v = true) {day : Int} (hday : 0 ≤ day ∧ day ≤ 100000) {P : List Int} (hP : ∀ y ∈ P, 0 ≤ y ∧ y < (v.length : Int)) (hl : P.length ≤ 1000)
include hc hday hP hl

theorem impl_widest_l8_is (z : Fq) : ∀ (k i : Nat) (b : Int) (c : Bool) (f : Fq), i ≤ P.length → P.length - i < k →
    impl_WidestLink_l8 N0 k (i : Int) b v day (P.length : Int) f.1 f.2 c P z.1 z.2 = bif c || (widG v day (P.drop i) b f).2 then r3 0 (0, 0) 3 else r3 (widG v day (P.drop i) b f).1.1 (widG v day (P.drop i) b f).1.2 0
  | 0, i, b, c, f, _, hk => by omega
  | k + 1, i, b, c, f, hi, hk => by
    simp only [impl_WidestLink_l8, impl_WidestLink_t8]
    by_cases h : i < P.length
    · have hp := hP _ (List.getElem_mem h)
      have hx := std_bd (chain_at hc hp).1
      have key (m : Int) (hm : -100000000 ≤ m ∧ m ≤ 100000000) (he : daysAt v day P[i] (P.drop (i + 1)) = m) :
          ((impl_calc_sub N0 (v.getD P[i].toNat dStd).2.2.1.2 (v.getD P[i].toNat dStd).2.2.1.1 c).bind fun r4 => (impl_num N0 (2 * m)).bind fun r5 => (impl_calc_mul N0 (v.getD P[i].toNat dStd).2.2.2.1 r5.1.1.1 r4.2.1).bind fun r6 =>
            (impl_calc_add N0 r4.1.1.1 r6.1.1.1 r6.2.1).bind fun r7 =>
              cond (decide (b < 0)) (impl_WidestLink_l8 N0 k ((i + 1 : Nat) : Int) P[i] v day (P.length : Int) r7.1.1.1.1 r7.1.1.1.2 r7.2.1 P z.1 z.2)
                ((impl_compare N0 r7.1.1.1 f).bind fun r8 => cond (decide (r8.1.1.1 > 0)) (impl_WidestLink_l8 N0 k ((i + 1 : Nat) : Int) P[i] v day (P.length : Int) r7.1.1.1.1 r7.1.1.1.2 r7.2.1 P z.1 z.2)
                  (impl_WidestLink_l8 N0 k ((i + 1 : Nat) : Int) b v day (P.length : Int) f.1 f.2 r7.2.1 P z.1 z.2)))
          = bif c || (widG v day (P.drop i) b f).2 then r3 0 (0, 0) 3 else r3 (widG v day (P.drop i) b f).1.1 (widG v day (P.drop i) b f).1.2 0 := by
        rw [impl_calc_sub_is hx.2.1 hx.1, Option.bind_some, impl_num_is, Option.bind_some]
        dsimp only
        rw [impl_calc_mul_is hx.2.2.1 (Bd.num (n := 2 * m) (by omega)), Option.bind_some]
        dsimp only
        rw [impl_calc_add_is Bd.sub Bd.mul, Option.bind_some]
        dsimp only
        have ih := fun b' f' => impl_widest_l8_is z k (i + 1) b' (((c || (wdO (v.getD P[i].toNat dStd)).isNone) || (wmO (v.getD P[i].toNat dStd) m).isNone) || (waO (v.getD P[i].toNat dStd) m).isNone) f' h (by omega)
        rw [drop_ix h, widG, he, widE, impl_compare_is, Option.bind_some, ih P[i] (val (waO (v.getD P[i].toNat dStd) m)), ih b f]
        dsimp only
        unfold wider
        simp only [Bool.or_assoc]
        cases decide (b < 0) with
        | true => rfl
        | false => cases decide (cmpF (val (waO (v.getD P[i].toNat dStd) m)) f > 0) <;> rfl
      simp only [lt_t h, nn_t, Bool.and_self, cond_true, Int.toNat_natCast, get_ix h, w_succ (i := i) (by omega), dec_t hp.1, dec_t hp.2, pr_eta]
      by_cases h2 : i + 1 < P.length
      · have hp2 := hP _ (List.getElem_mem h2)
        have hx2 := std_bd (chain_at hc hp2).1
        have hx' := hx
        simp only [dStd] at hx2 hx'
        simp only [lt_t h2, cond_true, get_ix h2, dec_t hp2.1, dec_t hp2.2, Bool.and_self, w_mul_r]
        rw [w_in (by unfold I64; omega)]
        exact key _ (by omega) (by rw [drop_ix h2]; rfl)
      · have hx' := hx
        simp only [dStd] at hx'
        simp only [lt_f h2, cond_false, w_mul_r]
        rw [w_in (by unfold I64; omega)]
        exact key _ (by omega) (by rw [List.drop_eq_nil_of_le (by omega)]; rfl)
    · have : i = P.length := by omega
      subst this
      simp only [lt_f h, cond_false, List.drop_length, widG, Bool.or_false]

theorem spec_widest_l10_is (z : Fq) : ∀ (k i : Nat) (b : Int) (f : Fq), i ≤ P.length → P.length - i < k →
    spec_WidestLink_l10 N0 k (i : Int) b v day z.1 z.2 f.1 f.2 P = bif (widG v day (P.drop i) b f).2 then r3 0 (0, 0) 3 else r3 (widG v day (P.drop i) b f).1.1 (widG v day (P.drop i) b f).1.2 0
  | 0, i, b, f, _, hk => by omega
  | k + 1, i, b, f, hi, hk => by
    simp only [spec_WidestLink_l10, spec_WidestLink_t10]
    by_cases h : i < P.length
    · have hp := hP _ (List.getElem_mem h)
      have hx := std_bd (chain_at hc hp).1
      have key (m : Int) (hm : -100000000 ≤ m ∧ m ≤ 100000000) (he : daysAt v day P[i] (P.drop (i + 1)) = m) :
          ((spec_l01Sub N0 (v.getD P[i].toNat dStd).2.2.1.2 (v.getD P[i].toNat dStd).2.2.1.1).bind fun r4 => (spec_l01Whole N0 (2 * m)).bind fun r5 => (spec_l01Mul N0 (v.getD P[i].toNat dStd).2.2.2.1 r5.1.1.1).bind fun r6 =>
            cond (r4.1.2.1.1 != 0) (r3 0 (0, 0) 3) (cond (r6.1.2.1.1 != 0) (r3 0 (0, 0) 3)
            ((spec_l01Add N0 r4.1.1.1 r6.1.1.1).bind fun r7 => cond (r7.1.2.1.1 != 0) (r3 0 (0, 0) 3)
              (cond (decide (b < 0)) (spec_WidestLink_l10 N0 k ((i + 1 : Nat) : Int) P[i] v day z.1 z.2 r7.1.1.1.1 r7.1.1.1.2 P)
                ((spec_l01Cmp N0 r7.1.1.1 f).bind fun r8 => cond (decide (r8.1.1.1 > 0)) (spec_WidestLink_l10 N0 k ((i + 1 : Nat) : Int) P[i] v day z.1 z.2 r7.1.1.1.1 r7.1.1.1.2 P)
                  (spec_WidestLink_l10 N0 k ((i + 1 : Nat) : Int) b v day z.1 z.2 f.1 f.2 P))))))
          = bif (widG v day (P.drop i) b f).2 then r3 0 (0, 0) 3 else r3 (widG v day (P.drop i) b f).1.1 (widG v day (P.drop i) b f).1.2 0 := by
        rw [spec_l01Sub_is hx.2.1 hx.1, Option.bind_some, spec_l01Whole_is, Option.bind_some]
        dsimp only
        rw [spec_l01Mul_is hx.2.2.1 (Bd.num (n := 2 * m) (by omega)), Option.bind_some]
        dsimp only
        rw [drop_ix h]
        cases h1 : fsub (v.getD P[i].toNat dStd).2.2.1.2 (v.getD P[i].toNat dStd).2.2.1.1 with
        | none => rw [widG_err b f (by rw [he, widE, wdO, h1]; rfl)]; rfl
        | some p =>
          cases h3 : fmul (v.getD P[i].toNat dStd).2.2.2.1 (2 * m, 1) with
          | none => rw [widG_err b f (by rw [he, widE, wdO, wmO, h1, h3]; rfl)]; rfl
          | some q =>
            simp only [Option.getD_some, Option.isSome_some, cond_true, show ((0 : Int) != 0) = false from rfl, cond_false]
            rw [spec_l01Add_is (Bd.of (mkF_valid h1)) (Bd.of (mkF_valid h3)), Option.bind_some]
            dsimp only
            cases h5 : fadd p q with
            | none => rw [widG_err b f (by rw [he]; exact widE_at h1 h3 h5)]; rfl
            | some w =>
              have ih := fun b' f' => spec_widest_l10_is z k (i + 1) b' f' h (by omega)
              simp only [Option.getD_some, Option.isSome_some, cond_true, show ((0 : Int) != 0) = false from rfl, cond_false, spec_l01Cmp_is, Option.bind_some]
              have hw : waO (v.getD P[i].toNat dStd) m = some w := waO_at h1 h3 h5
              rw [widG_ok b f (by rw [he]; exact widE_no h1 h3 h5), he, hw, show val (some w) = w from rfl, ih P[i] w, ih b f]
              unfold wider
              cases decide (b < 0) with
              | true => rfl
              | false => cases decide (cmpF w f > 0) <;> rfl
      simp only [lt_t h, nn_t, Bool.and_self, cond_true, Int.toNat_natCast, get_ix h, w_succ (i := i) (by omega), dec_t hp.1, dec_t hp.2, pr_eta]
      by_cases h2 : i + 1 < P.length
      · have hp2 := hP _ (List.getElem_mem h2)
        have hx2 := std_bd (chain_at hc hp2).1
        have hx' := hx
        simp only [dStd] at hx2 hx'
        simp only [lt_t h2, cond_true, get_ix h2, dec_t hp2.1, dec_t hp2.2, Bool.and_self, w_mul_r]
        rw [w_in (by unfold I64; omega)]
        exact key _ (by omega) (by rw [drop_ix h2]; rfl)
      · have hx' := hx
        simp only [dStd] at hx'
        simp only [lt_f h2, cond_false, w_mul_r]
        rw [w_in (by unfold I64; omega)]
        exact key _ (by omega) (by rw [List.drop_eq_nil_of_le (by omega)]; rfl)
    · have : i = P.length := by omega
      subst this
      simp only [lt_f h, cond_false, List.drop_length, widG]
end

abbrev widRes (v : List Std) (i day : Int) : Option (((Int × Unit) × ((Fq × Unit) × ((Int × Unit) × Unit))) × Unit) :=
  bif atC v i day != 0 then r3 0 (0, 0) (atC v i day) else bif goodOn (v.getD i.toNat dStd) day then (bif (widG v day (pathUp v N0 i) (-1) (0, 1)).2 then r3 0 (0, 0) 3 else r3 (widG v day (pathUp v N0 i) (-1) (0, 1)).1.1 (widG v day (pathUp v N0 i) (-1) (0, 1)).1.2 0) else r3 0 (0, 0) 4

theorem path_ne (v : List Std) {i : Int} (hi : 0 ≤ i) : pathUp v N0 i ≠ [] := by
  have := N0_big
  obtain ⟨m, hm⟩ : ∃ m, N0 = m + 1 := ⟨N0 - 1, by omega⟩
  rw [hm, pathUp, dec_f (by omega)]
  simp

theorem impl_WidestLink_is (v : List Std) (i day : Int) (hv : Sized v) : impl_WidestLink N0 v i day = widRes v i day := by
  have := N0_big
  unfold impl_WidestLink impl_WidestLink_t widRes
  rw [impl_chainCode_1day v i day hv, Option.bind_some]
  dsimp only
  by_cases h : atC v i day = 0
  · obtain ⟨hc, hi, hd⟩ := atC_ok h
    have hw := impl_widest_l8_is hc (isDay_bd hd) (path_in hc N0 i hi.2) (path_le hc hi hd) (0, 0) N0 0 (-1) false (0, 1) (by omega) (by have := path_le hc hi hd; omega)
    rw [List.drop_zero, Bool.false_or] at hw
    rw [ne_f h, cond_false, cond_false, dec_t hi.1, dec_t hi.2]
    simp only [Bool.and_self, cond_true, pr_eta, impl_Standard_good_is, Option.bind_some, impl_path_is hc hi, impl_zero_is]
    cases goodOn (v.getD i.toNat dStd) day with
    | false => rfl
    | true => exact hw
  · rw [ne_true h]; rfl

theorem spec_WidestLink_is (v : List Std) (i day : Int) (hv : Sized v) : spec_WidestLink N0 v i day = widRes v i day := by
  have := N0_big
  unfold spec_WidestLink spec_WidestLink_t widRes
  rw [spec_l05At_is v i day hv, Option.bind_some]
  dsimp only
  by_cases h : atC v i day = 0
  · obtain ⟨hc, hi, hd⟩ := atC_ok h
    have hw := spec_widest_l10_is hc (isDay_bd hd) (path_in hc N0 i hi.2) (path_le hc hi hd) (0, 0) N0 0 (-1) (0, 0) (by omega) (by have := path_le hc hi hd; omega)
    rw [List.drop_zero, widG_first v day _ (path_ne v hi.1) (0, 0) (0, 1)] at hw
    change (bif (atC v i day != 0) then _ else _) = _
    rw [ne_f h, cond_false, cond_false, dec_t hi.1, dec_t hi.2]
    simp only [Bool.and_self, cond_true, pr_eta, spec_l05Good_e_is, Option.bind_some, spec_l05Path_is hc hi]
    cases goodOn (v.getD i.toNat dStd) day with
    | false => rfl
    | true => exact hw
  · change (bif (atC v i day != 0) then _ else _) = _
    rw [ne_true h]; rfl

theorem law_FnExactWidestLink (v : List Std) (i day : Int) (hw : WfD (.list (.pair .str (.pair (.int .i64) (.pair (.pair (.pair (.int .i64) (.int .i64)) (.pair (.int .i64) (.int .i64))) (.pair (.pair (.int .i64) (.int .i64)) (.pair (.int .i64) (.int .i64))))))) v) (_ : WfD (.int .i64) i) (_ : WfD (.int .i64) day) : laws_FnExactWidestLink N0 v i day = r1 true := by
  have hv : Sized v := chain_wf hw
  obtain ⟨r, h1, h2, h3⟩ := laws_szStandardS_is v hv.1 hv.2 1048576 (by omega)
  simp only [laws_FnExactWidestLink, laws_FnExactWidestLink_t, h1, Option.bind_some]
  by_cases hr : r < 0
  · rw [dec_t hr]; rfl
  · have hl := h3 (by omega)
    obtain ⟨a, s, c, hs⟩ : ∃ a s c, widRes v i day = r3 a s c := by
      unfold widRes
      cases atC v i day != 0 with
      | true => exact ⟨_, _, _, rfl⟩
      | false =>
        cases goodOn (v.getD i.toNat dStd) day with
        | false => exact ⟨_, _, _, rfl⟩
        | true => cases (widG v day (pathUp v N0 i) (-1) (0, 1)).2 <;> exact ⟨_, _, _, rfl⟩
    simp only [dec_f hr, cond_false, laws_toStandardS_is v hl, Option.bind_some, spec_WidestLink_is v i day hv, impl_WidestLink_is v i day hv, hs, pr_eta, laws_eqFrac_is, beq_self_eq_true, Bool.not_true, bne_self_eq_false, laws_eqStandardS_refl v hl]
end Go.Abs
