/- The plain law of DifferenceOn. -/
import Derived.Test.YtpegljncdjkhgaaDiffR
import Derived.Test.YtpegljncdjkhgaaChainL
import Derived.Test.YtpegljncdjkhgaaFracQ
namespace Go.Abs
set_option linter.unusedSectionVars false
set_option linter.unusedSimpArgs false
set_option linter.unusedVariables false

/-- the code of two standards on a day -/
abbrev twoC (v : List Std) (i k day : Int) : Int := bif atC v i day != 0 then atC v i day else atC v k day
def diffRes (v : List Std) (i k day : Int) : OutS :=
  bif twoC v i k day != 0 then r2 ((0, 0), (0, 0)) (twoC v i k day) else
  bif !goodOn (v.getD i.toNat dStd) day then r2 ((0, 0), (0, 0)) 4 else
  bif !goodOn (v.getD k.toNat dStd) day then r2 ((0, 0), (0, 0)) 4 else
  diffOut v day (pathUp v N0 i) (pathUp v N0 k) (comLen (pathUp v N0 i) (pathUp v N0 k))

theorem impl_code2_is (v : List Std) (i k day : Int) (hv : Sized v) : impl_chainCode N0 v (i :: (k :: [])) (day :: []) = r1 (twoC v i k day) := by
  rw [impl_chainCode_is v [i, k] [day] hv (by simp) (by simp)]
  simp only [List.all_cons, List.all_nil, Bool.and_true]
  unfold twoC atC
  cases chainOk v with
  | false => rfl
  | true =>
    cases isIx v i with
    | false => rfl
    | true =>
      cases isDay day with
      | false => cases isIx v k <;> rfl
      | true => cases isIx v k <;> rfl

theorem two_ok {v : List Std} {i k day : Int} (h : twoC v i k day = 0) : chainOk v = true ∧ (0 ≤ i ∧ i < (v.length : Int)) ∧ (0 ≤ k ∧ k < (v.length : Int)) ∧ isDay day = true := by
  unfold twoC at h
  by_cases h1 : atC v i day = 0
  · rw [ne_f h1, cond_false] at h
    exact ⟨(atC_ok h).1, (atC_ok h1).2.1, (atC_ok h).2.1, (atC_ok h).2.2⟩
  · rw [ne_true h1, cond_true] at h
    exact absurd h h1

section
variable {v : List Std} (hc : chainOk v = true) {day : Int} (hd : isDay day = true)
include hc hd
theorem diff_same {i : Int} (hi : 0 ≤ i ∧ i < (v.length : Int)) : diffOut v day (pathUp v N0 i) (pathUp v N0 i) (comLen (pathUp v N0 i) (pathUp v N0 i)) = r2 s0 0 := by
  rw [comLen_self]
  obtain ⟨r, hr⟩ : ∃ r, pathUp v N0 i = r ++ [i] := by
    have := N0_big
    obtain ⟨m, hm⟩ : ∃ m, N0 = m + 1 := ⟨N0 - 1, by omega⟩
    refine ⟨pathUp v m (v.getD i.toNat dStd).2.1, ?_⟩
    rw [hm, pathUp, dec_f (by omega), cond_false]
  have hx := std_bd (chain_at hc hi).1
  unfold diffOut diffE drD daysD diffV
  rw [hr, List.drop_length, show (r ++ [i]).length = r.length + 1 by simp]
  simp only [alongG, begDay, Int.sub_self, Int.natAbs_zero]
  rw [show (r ++ [i]).getD (r.length + 1 - 1) 0 = i by simp]
  have hf : fmul (v.getD i.toNat dStd).2.2.2.1 (((0 : Nat) : Int), 1) = some (0, 1) := by
    have hq := hx.2.2.1
    unfold fmul
    rw [show (v.getD i.toNat dStd).2.2.2.1.1 * ((((0 : Nat) : Int), (1 : Int)) : Fq).1 = 0 from Int.mul_zero _, Int.mul_one]
    exact mkF_zero hq.1.1
  rw [hf]
  rfl
end

theorem impl_DifferenceOn_is (v : List Std) (i k day : Int) (hv : Sized v) : impl_DifferenceOn N0 v i k day = diffRes v i k day := by
  have := N0_big
  unfold impl_DifferenceOn impl_DifferenceOn_t diffRes
  rw [impl_code2_is v i k day hv, Option.bind_some]
  dsimp only
  by_cases h : twoC v i k day = 0
  · obtain ⟨hc, hi, hk, hd⟩ := two_ok h
    rw [ne_f h, cond_false, cond_false, dec_t hi.1, dec_t hi.2, dec_t hk.1, dec_t hk.2]
    simp only [Bool.and_self, cond_true, pr_eta, impl_Standard_good_is, Option.bind_some, impl_path_is hc hi, impl_path_is hc hk]
    cases goodOn (v.getD i.toNat dStd) day with
    | false => rfl
    | true =>
      cases goodOn (v.getD k.toNat dStd) day with
      | false => rfl
      | true =>
        simp only [Bool.not_true, cond_false]
        by_cases hik : i = k
        · subst hik
          rw [diff_same hc hd hi]
          exact impl_diff_l7_same hc hd hi 0 0 0 0 N0 0 (by omega) (by have := path_le hc hi hd; omega)
        · have e := impl_diff_l7_is hc hd hi hk hik 0 0 0 0 N0 0 (by omega) (by omega) (by have := path_le hc hi hd; omega)
          rw [List.drop_zero, List.drop_zero, Nat.zero_add] at e
          exact e
  · rw [ne_true h]; rfl

theorem spec_DifferenceOn_is (v : List Std) (i k day : Int) (hv : Sized v) : spec_DifferenceOn N0 v i k day = diffRes v i k day := by
  have := N0_big
  unfold spec_DifferenceOn spec_DifferenceOn_t spec_l05Two spec_l05Two_t diffRes
  rw [spec_l05At_is v i day hv, spec_l05At_is v k day hv, Option.bind_some]
  dsimp only
  rw [show (bif chainOk v then (bif isIx v i && isDay day then 0 else 2) else 1) = atC v i day from rfl, show (bif chainOk v then (bif isIx v k && isDay day then 0 else 2) else 1) = atC v k day from rfl, Option.bind_some]
  dsimp only
  rw [show (cond (atC v i day != 0) (some (((atC v i day, ()), ()), ())) (some (((atC v k day, ()), ()), ()))) = r1 (twoC v i k day) by unfold twoC; cases (atC v i day != 0) <;> rfl, Option.bind_some]
  dsimp only
  by_cases h : twoC v i k day = 0
  · obtain ⟨hc, hi, hk, hd⟩ := two_ok h
    rw [ne_f h, cond_false, cond_false]
    unfold spec_l05Difference spec_l05Difference_t
    rw [dec_t hi.1, dec_t hi.2, dec_t hk.1, dec_t hk.2]
    simp only [Bool.and_self, cond_true, pr_eta, spec_l05Good_e_is, Option.bind_some, spec_l05Path_is hc hi, spec_l05Path_is hc hk]
    cases goodOn (v.getD i.toNat dStd) day with
    | false => rfl
    | true =>
      cases goodOn (v.getD k.toNat dStd) day with
      | false => rfl
      | true =>
        simp only [Bool.not_true, cond_false]
        have e := spec_diff_l6_is hc hd hi hk 0 0 0 0 N0 0 (by omega) (by omega) (by have := path_le hc hi hd; omega)
        rw [List.drop_zero, List.drop_zero, Nat.zero_add] at e
        rw [show ((0 : Nat) : Int) = 0 from rfl] at e
        rw [e]
        generalize diffOut v day (pathUp v N0 i) (pathUp v N0 k) (comLen (pathUp v N0 i) (pathUp v N0 k)) = o
        cases o <;> rfl
  · rw [ne_true h]; rfl

theorem law_FnExactDifferenceOn (v : List Std) (i k day : Int) (hw : WfD (.list (.pair .str (.pair (.int .i64) (.pair (.pair (.pair (.int .i64) (.int .i64)) (.pair (.int .i64) (.int .i64))) (.pair (.pair (.int .i64) (.int .i64)) (.pair (.int .i64) (.int .i64))))))) v) (_ : WfD (.int .i64) i) (_ : WfD (.int .i64) k) (_ : WfD (.int .i64) day) : laws_FnExactDifferenceOn N0 v i k day = r1 true := by
  have hv : Sized v := chain_wf hw
  obtain ⟨r, h1, h2, h3⟩ := laws_szStandardS_is v hv.1 hv.2 1048576 (by omega)
  simp only [laws_FnExactDifferenceOn, laws_FnExactDifferenceOn_t, h1, Option.bind_some]
  by_cases hr : r < 0
  · rw [dec_t hr]; rfl
  · have hl := h3 (by omega)
    obtain ⟨s, c, hs⟩ : ∃ s c, diffRes v i k day = r2 s c := by
      unfold diffRes diffOut
      cases twoC v i k day != 0 with
      | true => exact ⟨_, _, rfl⟩
      | false =>
        cases goodOn (v.getD i.toNat dStd) day with
        | false => exact ⟨_, _, rfl⟩
        | true =>
          cases goodOn (v.getD k.toNat dStd) day with
          | false => exact ⟨_, _, rfl⟩
          | true =>
            generalize comLen (pathUp v N0 i) (pathUp v N0 k) = n
            cases diffE v day (pathUp v N0 i) (pathUp v N0 k) n with
            | true => exact ⟨_, _, rfl⟩
            | false =>
              cases Nat.beq n 0 with
              | true => exact ⟨_, _, rfl⟩
              | false =>
                cases (drD v day (pathUp v N0 i) (pathUp v N0 k) n).isNone || ((fsub (diffV v day (pathUp v N0 i) (pathUp v N0 k) n).1 (val (drD v day (pathUp v N0 i) (pathUp v N0 k) n))).isNone || (fadd (diffV v day (pathUp v N0 i) (pathUp v N0 k) n).2 (val (drD v day (pathUp v N0 i) (pathUp v N0 k) n))).isNone) <;> exact ⟨_, _, rfl⟩
    simp only [dec_f hr, cond_false, laws_toStandardS_is v hl, Option.bind_some, spec_DifferenceOn_is v i k day hv, impl_DifferenceOn_is v i k day hv, hs, pr_eta, laws_eqSpan_refl, Bool.not_true, bne_self_eq_false, laws_eqStandardS_refl v hl]
end Go.Abs
