/- The plain law of FnExactShareWhole. -/
import Derived.Test.YtbdbfoffekcjoaaShareW
import Derived.Test.YtbdbfoffekcjoaaTrod
namespace Go.Abs
set_option linter.unusedSectionVars false
set_option linter.unusedSimpArgs false
set_option linter.unusedVariables false

theorem shareRes_ex (v : List Int) (t : Int) : ∃ out code, shareRes v t = r2 out code ∧ out.length ≤ 1048576 := by
  unfold shareRes
  cases h : shareOk v t with
  | false => exact ⟨[], 2, rfl, by simp⟩
  | true =>
    refine ⟨shareOut v t, 0, rfl, ?_⟩
    unfold shareOk at h
    have h := btw_iff.1 (Bool.and_eq_true _ _ ▸ h).1
    unfold shareOut
    rw [shr_len]
    omega

theorem law_FnExactShareWhole (v : List Int) (t : Int) (hv : WfD (.list (.int .i64)) v) (ht : WfD (.int .i64) t) : laws_FnExactShareWhole N0 v t = r1 true := by
  simp only [laws_FnExactShareWhole, laws_FnExactShareWhole_t]
  by_cases h : v.length ≤ 1048576
  · obtain ⟨out, code, h1, h2⟩ := shareRes_ex v t
    simp only [gt_f (a := (v.length : Int)) (b := 1048576) (by omega), cond_false, laws_toInt64S_is v h, Option.bind_some, spec_ShareWhole_is v t (by omega), impl_ShareWhole_is v t h, h1, laws_eqInt64S_is _ _ h2, laws_eqInt64S_is _ _ h,
      beq_self_eq_true, Bool.not_true, bne_self_eq_false, laws_markInt64S_is _ h, laws_markInt64S_is _ h2, one_nn, laws_heldInt64S_is _ h2]
  · rw [gt_t (by omega)]; rfl
end Go.Abs
