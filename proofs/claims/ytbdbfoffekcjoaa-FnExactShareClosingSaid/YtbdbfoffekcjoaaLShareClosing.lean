/- The plain law of FnExactShareClosing. -/
import Derived.Test.YtbdbfoffekcjoaaSectors
import Derived.Test.YtbdbfoffekcjoaaInts
import Derived.Test.YtbdbfoffekcjoaaTrod
namespace Go.Abs
set_option linter.unusedSectionVars false
set_option linter.unusedSimpArgs false
set_option linter.unusedVariables false

theorem res_ex (v : List Int) : ∃ out code, (bif secOk v then r2 (shared v) 0 else r2 [] 2 : Option (((List Int × Unit) × ((Int × Unit) × Unit)) × Unit)) = r2 out code ∧ out.length ≤ 1048576 := by
  skip
  cases hv : secOk v with
  | false => exact ⟨[], 2, rfl, by simp⟩
  | true =>
    rw [secOk_iff] at hv
    have hsh : (shared v).length = v.length := secShares_len _ _ _ _
    exact ⟨shared v, 0, rfl, by omega⟩

theorem law_FnExactShareClosing (v : List Int) (hv : WfD (.list (.int .i64)) v) : laws_FnExactShareClosing N0 v = r1 true := by
  simp only [laws_FnExactShareClosing, laws_FnExactShareClosing_t]
  by_cases h : v.length ≤ 1048576
  · obtain ⟨out, code, h1, h2⟩ := res_ex v
    simp only [gt_f (a := (v.length : Int)) (b := 1048576) (by omega), cond_false, laws_toInt64S_is v h, Option.bind_some, spec_ShareClosing_is v (by omega), impl_ShareClosing_is v (by omega), h1, laws_eqInt64S_is _ _ h2, laws_eqInt64S_is _ _ h,
      beq_self_eq_true, Bool.not_true, bne_self_eq_false, laws_markInt64S_is _ h, laws_markInt64S_is _ h2, one_nn, laws_heldInt64S_is _ h2]
  · rw [gt_t (by omega)]; rfl
end Go.Abs
