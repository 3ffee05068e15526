/- The plain law of BestOn. -/
import Derived.Test.YtgkjnmkgihkigaaDBestOn0
import Derived.Test.YtgkjnmkgihkigaaChainP
import Derived.Test.YtgkjnmkgihkigaaChainL
namespace Go.Abs
set_option linter.unusedSectionVars false
set_option linter.unusedSimpArgs false
set_option linter.unusedVariables false

theorem alongG_bd (v : List Std) (day : Int) : ∀ (l : List Int) (s : Spn), Bd s.1 ∧ Bd s.2 → Bd (alongG v day l s).1.1 ∧ Bd (alongG v day l s).1.2
  | [], s, h => h
  | i :: r, s, h => alongG_bd v day r _ (stepV_bd _ _ _)

/-! ### which are good -/
def onUp (v : List Std) (day : Int) : Nat → Nat → List Int
  | 0, _ => []
  | k + 1, i => bif goodOn (v.getD i dStd) day then (i : Int) :: onUp v day k (i + 1) else onUp v day k (i + 1)

theorem onUp_in (v : List Std) (day : Int) : ∀ (k i : Nat), i + k ≤ v.length → ∀ y ∈ onUp v day k i, 0 ≤ y ∧ y < (v.length : Int)
  | 0, i, _, y, hy => by simp [onUp] at hy
  | k + 1, i, h, y, hy => by
    rw [onUp] at hy
    cases hg : goodOn (v.getD i dStd) day with
    | false => rw [hg] at hy; exact onUp_in v day k (i + 1) (by omega) y hy
    | true =>
      rw [hg] at hy
      rcases List.mem_cons.1 hy with e | hy
      · omega
      · exact onUp_in v day k (i + 1) (by omega) y hy

theorem onUp_len (v : List Std) (day : Int) : ∀ (k i : Nat), (onUp v day k i).length ≤ k
  | 0, i => by simp [onUp]
  | k + 1, i => by
    rw [onUp]
    have := onUp_len v day k (i + 1)
    cases goodOn (v.getD i dStd) day with
    | false => rw [cond_false]; omega
    | true => rw [cond_true, List.length_cons]; omega

theorem impl_AllOn_1_is (v : List Std) (day : Int) (i : Nat) (h : i < v.length) : impl_AllOn_1 N0 (i : Int) v day = some (((goodOn v[i] day, ()), ()), (v, (day, ()))) := by
  simp only [impl_AllOn_1, impl_AllOn_1_t, nn_t, lt_t h, Bool.and_self, cond_true, Int.toNat_natCast, get_ix h, pr_eta, impl_Standard_good_is, Option.bind_some]

theorem impl_those_l3_is (v : List Std) (day : Int) (hn : v.length ≤ 30) : ∀ (k i : Nat) (b : List Int), i ≤ v.length → b.length ≤ i → v.length - i < k →
    impl_those_at_impl_AllOn_1_l3 N0 k (i : Int) (v.length : Int) v day b = some (((b ++ onUp v day (v.length - i) i, ()), ()), (v, (day, ())))
  | 0, i, b, _, _, hk => by omega
  | k + 1, i, b, hi, hb, hk => by
    simp only [impl_those_at_impl_AllOn_1_l3, impl_those_at_impl_AllOn_1_t3]
    by_cases h : i < v.length
    · have ih := fun b hb => impl_those_l3_is v day hn k (i + 1) b h hb (by omega)
      have hr : decide ((b.length + ((i : Int) :: []).length) * 9 ≤ 70368744177664) = true := dec_t (by simp only [List.length_cons, List.length_nil]; omega)
      simp only [lt_t h, cond_true, impl_AllOn_1_is v day i h, Option.bind_some, hr, w_succ (i := i) (by omega)]
      rw [show v.length - i = (v.length - (i + 1)) + 1 by omega, onUp, get_ix h]
      cases goodOn v[i] day with
      | false => exact ih b (by omega)
      | true =>
        rw [cond_true, cond_true, ih _ (by simp; omega), List.append_assoc]
        rfl
    · have : i = v.length := by omega
      subst this
      simp only [lt_f h, cond_false, Nat.sub_self, onUp, List.append_nil]

abbrev allRes (v : List Std) (day : Int) : Option (((List Int × Unit) × ((Int × Unit) × Unit)) × Unit) :=
  bif chainOk v then (bif isDay day then r2 (onUp v day v.length 0) 0 else r2 [] 2) else r2 [] 1

theorem impl_AllOn_is (v : List Std) (day : Int) (hv : Sized v) : impl_AllOn N0 v day = allRes v day := by
  have := N0_big
  simp only [impl_AllOn, impl_AllOn_t]
  rw [impl_chainCode_is v [] [day] hv (by simp) (by simp), Option.bind_some]
  simp only [List.all_cons, List.all_nil, Bool.and_true, Bool.true_and]
  unfold allRes
  cases hc : chainOk v with
  | false => rfl
  | true =>
    cases isDay day with
    | false => rfl
    | true =>
      have e := impl_those_l3_is v day (chain_len hc) N0 0 [] (by omega) (by simp) (by have := chain_len hc; omega)
      have e : impl_those_at_impl_AllOn_1 N0 v v day = _ := e
      rw [e]
      rfl

/-! ### the best -/
abbrev spanG (v : List Std) (day : Int) (i : Int) : Spn × Bool := alongG v day (pathUp v N0 i) s0
abbrev wdG (v : List Std) (day : Int) (i : Int) : Option Fq := fsub (spanG v day i).1.2 (spanG v day i).1.1
def errG (v : List Std) (day : Int) (i : Int) : Bool := (spanG v day i).2 || (wdG v day i).isNone
def better (b : Int) (w w' : Fq) : Bool := decide (b < 0) || decide (cmpF w' w < 0)
def bestG (v : List Std) (day : Int) : List Int → Int → Fq → Spn → (Int × Spn) × Bool
  | [], b, w, s => ((b, s), false)
  | i :: r, b, w, s => bif better b w (val (wdG v day i)) then ((bestG v day r i (val (wdG v day i)) (spanG v day i).1).1, errG v day i || (bestG v day r i (val (wdG v day i)) (spanG v day i).1).2)
    else ((bestG v day r b w s).1, errG v day i || (bestG v day r b w s).2)

theorem bestG_err {v : List Std} {day i : Int} (r : List Int) (b : Int) (w : Fq) (s : Spn) (h : errG v day i = true) : (bestG v day (i :: r) b w s).2 = true := by
  rw [bestG, h]
  cases better b w (val (wdG v day i)) <;> rfl
theorem bestG_ok {v : List Std} {day i : Int} (r : List Int) (b : Int) (w : Fq) (s : Spn) (h : errG v day i = false) :
    bestG v day (i :: r) b w s = bif better b w (val (wdG v day i)) then bestG v day r i (val (wdG v day i)) (spanG v day i).1 else bestG v day r b w s := by
  rw [bestG, h]
  cases better b w (val (wdG v day i)) <;> rfl

abbrev Out3 : Type := Option (((Int × Unit) × ((Spn × Unit) × ((Int × Unit) × Unit))) × Unit)
def bestOut (p : Int × Spn) (e : Bool) : Out3 := bif e then r3 0 ((0, 0), (0, 0)) 3 else bif decide (p.1 < 0) then r3 0 ((0, 0), (0, 0)) 6 else r3 p.1 p.2 0

theorem bestOut_first (v : List Std) (day : Int) (P : List Int) (w w' : Fq) (s s' : Spn) : bestOut (bestG v day P (-1) w s).1 (bestG v day P (-1) w s).2 = bestOut (bestG v day P (-1) w' s').1 (bestG v day P (-1) w' s').2 := by
  cases P with
  | nil => rfl
  | cons i r => rfl

section
variable {v : List Std} (hc : chainOk v = true) {day : Int} (hd : isDay day = true)
include hc hd

theorem impl_best_l6_is {P : List Int} (hP : ∀ y ∈ P, 0 ≤ y ∧ y < (v.length : Int)) (hl : P.length ≤ 30) (z : Spn) : ∀ (k i : Nat) (b : Int) (c : Bool) (w : Fq) (s : Spn), i ≤ P.length → P.length - i < k →
    impl_BestOn_l6 N0 k (i : Int) b day v (P.length : Int) w.1 w.2 s.1.1 s.1.2 s.2.1 s.2.2 c P z.1.1 z.1.2 z.2.1 z.2.2 = bestOut (bestG v day (P.drop i) b w s).1 (c || (bestG v day (P.drop i) b w s).2)
  | 0, i, b, c, w, s, _, hk => by omega
  | k + 1, i, b, c, w, s, hi, hk => by
    simp only [impl_BestOn_l6, impl_BestOn_t6]
    by_cases h : i < P.length
    · have hp := hP _ (List.getElem_mem h)
      have hbd := alongG_bd v day (pathUp v N0 P[i]) s0 s0_bd
      have ih := fun b' w' s' => impl_best_l6_is hP hl z k (i + 1) b' ((c || (spanG v day P[i]).2) || (wdG v day P[i]).isNone) w' s' h (by omega)
      simp only [lt_t h, nn_t, Bool.and_self, cond_true, Int.toNat_natCast, get_ix h, w_succ (i := i) (by omega), pr_eta]
      rw [impl_spanOn_is hc hp hd, Option.bind_some]
      dsimp only
      rw [impl_calc_sub_is hbd.2 hbd.1, Option.bind_some]
      dsimp only
      rw [drop_ix h, bestG, impl_compare_is, Option.bind_some, ih P[i] (val (wdG v day P[i])) (spanG v day P[i]).1, ih b w s]
      dsimp only
      unfold better errG
      simp only [Bool.or_assoc]
      cases decide (b < 0) with
      | true => rfl
      | false => cases decide (cmpF (val (wdG v day P[i])) w < 0) <;> rfl
    · have : i = P.length := by omega
      subst this
      simp only [lt_f h, cond_false, List.drop_length, bestG, Bool.or_false, pr_eta]
      rfl

theorem spec_best_l9_is (z : Spn) : ∀ (k i : Nat) (b : Int) (w : Fq) (s : Spn), i ≤ v.length → v.length - i < k →
    spec_BestOn_l9 N0 k (i : Int) b day v z.1.1 z.1.2 z.2.1 z.2.2 w.1 w.2 s.1.1 s.1.2 s.2.1 s.2.2 = bestOut (bestG v day (onUp v day (v.length - i) i) b w s).1 (bestG v day (onUp v day (v.length - i) i) b w s).2
  | 0, i, b, w, s, _, hk => by omega
  | k + 1, i, b, w, s, hi, hk => by
    have hn := chain_len hc
    simp only [spec_BestOn_l9, spec_BestOn_t9]
    by_cases h : i < v.length
    · have hp : 0 ≤ (i : Int) ∧ (i : Int) < (v.length : Int) := by omega
      have hbd := alongG_bd v day (pathUp v N0 (i : Int)) s0 s0_bd
      have ih := fun b' w' s' => spec_best_l9_is z k (i + 1) b' w' s' h (by omega)
      simp only [lt_t h, nn_t, Bool.and_self, cond_true, Int.toNat_natCast, get_ix h, w_succ (i := i) (by omega), pr_eta, spec_l05Good_e_is, Option.bind_some]
      rw [show v.length - i = (v.length - (i + 1)) + 1 by omega, onUp, get_ix h]
      cases hg : goodOn v[i] day with
      | false => exact ih b w s
      | true =>
        rw [spec_l05Span_is hc hp hd]
        unfold spanRes
        rw [Int.toNat_natCast, get_ix h, hg]
        simp only [Bool.not_true, cond_false, cond_true]
        cases h1 : (alongG v day (pathUp v N0 (i : Int)) s0).2 with
        | true =>
          rw [bestG_err _ b w s (by unfold errG; rw [show (spanG v day (i : Int)).2 = true from h1]; rfl)]
          rfl
        | false =>
          simp only [cond_false, Option.bind_some, show ((0 : Int) != 0) = false from rfl]
          rw [spec_l01Sub_is hbd.2 hbd.1, Option.bind_some]
          dsimp only
          cases h3 : fsub (alongG v day (pathUp v N0 (i : Int)) s0).1.2 (alongG v day (pathUp v N0 (i : Int)) s0).1.1 with
          | none =>
            rw [bestG_err _ b w s (by unfold errG; rw [show (spanG v day (i : Int)).2 = false from h1, show wdG v day (i : Int) = none from h3]; rfl)]
            rfl
          | some q =>
            have hw : wdG v day (i : Int) = some q := h3
            rw [bestG_ok _ b w s (by unfold errG; rw [show (spanG v day (i : Int)).2 = false from h1, hw]; rfl), hw, show val (some q) = q from rfl]
            simp only [Option.getD_some, Option.isSome_some, cond_true, show ((0 : Int) != 0) = false from rfl, cond_false, spec_l01Cmp_is, Option.bind_some]
            rw [ih (i : Int) q (spanG v day (i : Int)).1, ih b w s]
            unfold better
            cases decide (b < 0) with
            | true => rfl
            | false => cases decide (cmpF q w < 0) <;> rfl
    · have : i = v.length := by omega
      subst this
      simp only [lt_f h, cond_false, Nat.sub_self, onUp, bestG, pr_eta]
      rfl
end

abbrev bestRes (v : List Std) (day : Int) : Out3 :=
  bif chainOk v then (bif isDay day then bestOut (bestG v day (onUp v day v.length 0) (-1) (0, 1) s0).1 (bestG v day (onUp v day v.length 0) (-1) (0, 1) s0).2 else r3 0 ((0, 0), (0, 0)) 2) else r3 0 ((0, 0), (0, 0)) 1

theorem impl_BestOn_is (v : List Std) (day : Int) (hv : Sized v) : impl_BestOn N0 v day = bestRes v day := by
  have := N0_big
  unfold impl_BestOn impl_BestOn_t
  rw [impl_AllOn_is v day hv]
  unfold allRes bestRes
  cases hc : chainOk v with
  | false => rfl
  | true =>
    cases hd : isDay day with
    | false => rfl
    | true =>
      have hn := chain_len hc
      have hl := onUp_len v day v.length 0
      have e := impl_best_l6_is hc hd (onUp_in v day v.length 0 (by omega)) (by omega) ((0, 0), (0, 0)) N0 0 (-1) false (0, 1) s0 (by omega) (by omega)
      rw [List.drop_zero, Bool.false_or] at e
      simp only [cond_true, Option.bind_some, bne_self_eq_false, cond_false, impl_none, impl_none_t, impl_zero_is]
      exact e

theorem spec_BestOn_is (v : List Std) (day : Int) (hv : Sized v) : spec_BestOn N0 v day = bestRes v day := by
  have := N0_big
  unfold spec_BestOn spec_BestOn_t bestRes
  rw [spec_l05Ok_is v hv, Option.bind_some, spec_l05Day_is]
  dsimp only
  cases hc : chainOk v with
  | false => rfl
  | true =>
    cases hd : isDay day with
    | false => rfl
    | true =>
      have hn := chain_len hc
      have e := spec_best_l9_is hc hd ((0, 0), (0, 0)) N0 0 (-1) (0, 0) ((0, 0), (0, 0)) (by omega) (by omega)
      rw [bestOut_first v day _ (0, 0) (0, 1) ((0, 0), (0, 0)) s0] at e
      exact e

theorem law_FnExactBestOn (v : List Std) (day : Int) (hw : WfD (.list (.pair .str (.pair (.int .i64) (.pair (.pair (.pair (.int .i64) (.int .i64)) (.pair (.int .i64) (.int .i64))) (.pair (.pair (.int .i64) (.int .i64)) (.pair (.int .i64) (.int .i64))))))) v) (_ : WfD (.int .i64) day) : laws_FnExactBestOn N0 v day = r1 true := by
  have hv : Sized v := chain_wf hw
  obtain ⟨r, h1, h2, h3⟩ := laws_szStandardS_is v hv.1 hv.2 1048576 (by omega)
  simp only [laws_FnExactBestOn, laws_FnExactBestOn_t, h1, Option.bind_some]
  by_cases hr : r < 0
  · rw [dec_t hr]; rfl
  · have hl := h3 (by omega)
    obtain ⟨a, s, c, hs⟩ : ∃ a s c, bestRes v day = r3 a s c := by
      unfold bestRes
      cases chainOk v with
      | false => exact ⟨_, _, _, rfl⟩
      | true =>
        cases isDay day with
        | false => exact ⟨_, _, _, rfl⟩
        | true =>
          unfold bestOut
          cases (bestG v day (onUp v day v.length 0) (-1) (0, 1) s0).2 with
          | true => exact ⟨_, _, _, rfl⟩
          | false => cases decide ((bestG v day (onUp v day v.length 0) (-1) (0, 1) s0).1.1 < 0) <;> exact ⟨_, _, _, rfl⟩
    simp only [dec_f hr, cond_false, laws_toStandardS_is v hl, Option.bind_some, spec_BestOn_is v day hv, impl_BestOn_is v day hv, hs, pr_eta, laws_eqSpan_refl, beq_self_eq_true, Bool.not_true, bne_self_eq_false, laws_eqStandardS_refl v hl]
end Go.Abs
