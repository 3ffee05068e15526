/- The plain law of AllOn. -/
import Derived.Test.YtmkhdpdepomohaaDAllOn0
import Derived.Test.YtmkhdpdepomohaaAllP
import Derived.Test.YtmkhdpdepomohaaMarkStd
import Derived.Test.YtmkhdpdepomohaaInts
namespace Go.Abs
set_option linter.unusedSectionVars false
set_option linter.unusedSimpArgs false
set_option linter.unusedVariables false

/-! ### the reference's -/
theorem spec_AllOn_l7_is (v : List Std) (day : Int) (hn : v.length ≤ 30) : ∀ (k i : Nat) (b : List Int), i ≤ v.length → b.length ≤ i → v.length - i < k →
    spec_AllOn_l7 N0 k (i : Int) day v b = r2 (b ++ onUp v day (v.length - i) i) 0
  | 0, i, b, _, _, hk => by omega
  | k + 1, i, b, hi, hb, hk => by
    simp only [spec_AllOn_l7, spec_AllOn_t7, spec_AllOn_j8, spec_AllOn_t8]
    by_cases h : i < v.length
    · have ih := fun b hb => spec_AllOn_l7_is v day hn k (i + 1) b h hb (by omega)
      have hr : decide ((b.length + ((i : Int) :: []).length) * 9 ≤ 70368744177664) = true := dec_t (by simp only [List.length_cons, List.length_nil]; omega)
      simp only [lt_t h, nn_t, Bool.and_self, cond_true, Int.toNat_natCast, get_ix h, pr_eta, spec_l05Good_e_is, Option.bind_some, hr, w_succ (i := i) (by omega)]
      rw [show v.length - i = (v.length - (i + 1)) + 1 by omega, onUp, get_ix h]
      cases goodOn v[i] day with
      | false => exact ih b (by omega)
      | true =>
        rw [cond_true, cond_true, ih _ (by simp; omega), List.append_assoc]
        rfl
    · have : i = v.length := by omega
      subst this
      simp only [lt_f h, cond_false, Nat.sub_self, onUp, List.append_nil]

theorem spec_AllOn_is (v : List Std) (day : Int) (hv : Sized v) : spec_AllOn N0 v day = allRes v day := by
  have := N0_big
  unfold spec_AllOn spec_AllOn_t allRes
  rw [spec_l05Ok_is v hv, Option.bind_some, spec_l05Day_is]
  dsimp only
  cases hc : chainOk v with
  | false => rfl
  | true =>
    cases isDay day with
    | false => rfl
    | true => exact spec_AllOn_l7_is v day (chain_len hc) N0 0 [] (by omega) (by simp) (by have := chain_len hc; omega)

theorem law_FnExactAllOn (v : List Std) (day : Int) (hw : WfD (.list (.pair .str (.pair (.int .i64) (.pair (.pair (.pair (.int .i64) (.int .i64)) (.pair (.int .i64) (.int .i64))) (.pair (.pair (.int .i64) (.int .i64)) (.pair (.int .i64) (.int .i64))))))) v) (_ : WfD (.int .i64) day) : laws_FnExactAllOn N0 v day = r1 true := by
  have hv : Sized v := chain_wf hw
  obtain ⟨r, h1, h2, h3⟩ := laws_szStandardS_is v hv.1 hv.2 1048576 (by omega)
  simp only [laws_FnExactAllOn, laws_FnExactAllOn_t, h1, Option.bind_some]
  by_cases hr : r < 0
  · rw [dec_t hr]; rfl
  · have hl := h3 (by omega)
    obtain ⟨o, c, hs, ho⟩ : ∃ o c, allRes v day = r2 o c ∧ o.length ≤ 1048576 := by
      unfold allRes
      cases chainOk v with
      | false => exact ⟨_, _, rfl, by simp⟩
      | true =>
        cases isDay day with
        | false => exact ⟨_, _, rfl, by simp⟩
        | true => exact ⟨_, _, rfl, by have := onUp_len v day v.length 0; omega⟩
    obtain ⟨m, b', hm, hm1⟩ := laws_markStandardS_ex v hl
    simp only [dec_f hr, cond_false, laws_toStandardS_is v hl, Option.bind_some, spec_AllOn_is v day hv, impl_AllOn_is v day hv, hs, laws_eqInt64S_is _ _ ho, beq_self_eq_true, Bool.not_true, bne_self_eq_false, laws_eqStandardS_refl v hl, hm,
      dec_f (p := m < 0) (by omega), laws_markInt64S_is _ ho, one_nn, laws_heldInt64S_is _ ho]
end Go.Abs
