/- The plain law of FnExactFaultsFrom. -/
import Derived.Test.YtbdbfoffekcjoaaSectors
import Derived.Test.YtbdbfoffekcjoaaInts
import Derived.Test.YtbdbfoffekcjoaaTrod
namespace Go.Abs
set_option linter.unusedSectionVars false
set_option linter.unusedSimpArgs false
set_option linter.unusedVariables false

theorem res_ex (v : List Int) : ∃ out code, faultsRes v = r2 out code ∧ out.length ≤ 1048576 := by
  unfold faultsRes
  cases hv : secOk v with
  | false => exact ⟨[], 2, rfl, by simp⟩
  | true =>
    rw [secOk_iff] at hv
    have hsh : (shared v).length = v.length := secShares_len _ _ _ _
    cases (Int.tmod 1296000 (v.length : Int) != 0) with
    | true => exact ⟨[], 4, rfl, by simp⟩
    | false => exact ⟨faultsFrom v, 0, rfl, by unfold faultsFrom; rw [List.length_cons, flt_len, List.length_take]; omega⟩

theorem law_FnExactFaultsFrom (v : List Int) (hv : WfD (.list (.int .i64)) v) : laws_FnExactFaultsFrom N0 v = r1 true := by
  simp only [laws_FnExactFaultsFrom, laws_FnExactFaultsFrom_t]
  by_cases h : v.length ≤ 1048576
  · obtain ⟨out, code, h1, h2⟩ := res_ex v
    simp only [gt_f (a := (v.length : Int)) (b := 1048576) (by omega), cond_false, laws_toInt64S_is v h, Option.bind_some, spec_FaultsFrom_is v (by omega), impl_FaultsFrom_is v (by omega), h1, laws_eqInt64S_is _ _ h2, laws_eqInt64S_is _ _ h,
      beq_self_eq_true, Bool.not_true, bne_self_eq_false, laws_markInt64S_is _ h, laws_markInt64S_is _ h2, one_nn, laws_heldInt64S_is _ h2]
  · rw [gt_t (by omega)]; rfl
end Go.Abs
