/- The plain law of PathTo. -/
import Derived.Test.YtmkhdpdepomohaaPathP
import Derived.Test.YtmkhdpdepomohaaChainL
import Derived.Test.YtmkhdpdepomohaaMarkStd
namespace Go.Abs
set_option linter.unusedSectionVars false
set_option linter.unusedSimpArgs false
set_option linter.unusedVariables false

abbrev pathRes (v : List Std) (i : Int) : Option (((List Int × Unit) × ((Int × Unit) × Unit)) × Unit) :=
  bif atC v i 0 != 0 then r2 [] (atC v i 0) else r2 (pathUp v N0 i) 0

theorem impl_PathTo_is (v : List Std) (i : Int) (hv : Sized v) : impl_PathTo N0 v i = pathRes v i := by
  unfold impl_PathTo impl_PathTo_t pathRes
  rw [impl_chainCode_0day v i hv, Option.bind_some]
  dsimp only
  by_cases h : atC v i 0 = 0
  · obtain ⟨hc, hi, hd⟩ := atC_ok h
    rw [ne_f h, cond_false, cond_false, impl_path_is hc hi, Option.bind_some]
  · rw [ne_true h]; rfl

theorem spec_PathTo_is (v : List Std) (i : Int) (hv : Sized v) : spec_PathTo N0 v i = pathRes v i := by
  unfold spec_PathTo spec_PathTo_t pathRes
  rw [spec_l05At_is v i 0 hv, Option.bind_some]
  dsimp only
  by_cases h : atC v i 0 = 0
  · obtain ⟨hc, hi, hd⟩ := atC_ok h
    change (bif (atC v i 0 != 0) then _ else _) = _
    rw [ne_f h, cond_false, cond_false, spec_l05Path_is hc hi, Option.bind_some]
  · change (bif (atC v i 0 != 0) then _ else _) = _
    rw [ne_true h]; rfl

theorem law_FnExactPathTo (v : List Std) (i : Int) (hw : WfD (.list (.pair .str (.pair (.int .i64) (.pair (.pair (.pair (.int .i64) (.int .i64)) (.pair (.int .i64) (.int .i64))) (.pair (.pair (.int .i64) (.int .i64)) (.pair (.int .i64) (.int .i64))))))) v) (_ : WfD (.int .i64) i) : laws_FnExactPathTo N0 v i = r1 true := by
  have hv : Sized v := chain_wf hw
  obtain ⟨r, h1, h2, h3⟩ := laws_szStandardS_is v hv.1 hv.2 1048576 (by omega)
  simp only [laws_FnExactPathTo, laws_FnExactPathTo_t, h1, Option.bind_some]
  by_cases hr : r < 0
  · rw [dec_t hr]; rfl
  · have hl := h3 (by omega)
    obtain ⟨o, c, hs, ho⟩ : ∃ o c, pathRes v i = r2 o c ∧ o.length ≤ 1048576 := by
      unfold pathRes
      by_cases h : atC v i 0 = 0
      · obtain ⟨hc, hi, hd⟩ := atC_ok h
        rw [ne_f h]
        have h4 := path_len hc N0 i hi.2
        have h5 := chain_len hc
        exact ⟨_, _, rfl, by omega⟩
      · rw [ne_true h]
        exact ⟨_, _, rfl, by simp⟩
    obtain ⟨m, b', hm, hm1⟩ := laws_markStandardS_ex v hl
    simp only [dec_f hr, cond_false, laws_toStandardS_is v hl, Option.bind_some, spec_PathTo_is v i hv, impl_PathTo_is v i hv, hs, laws_eqInt64S_is _ _ ho, beq_self_eq_true, Bool.not_true, bne_self_eq_false, laws_eqStandardS_refl v hl, hm,
      dec_f (p := m < 0) (by omega), laws_markInt64S_is _ ho, one_nn, laws_heldInt64S_is _ ho]
end Go.Abs
