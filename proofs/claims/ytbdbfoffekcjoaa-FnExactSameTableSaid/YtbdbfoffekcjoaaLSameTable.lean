/- The plain law of SameTable. -/
import Derived.Test.YtbdbfoffekcjoaaTables
namespace Go.Abs
set_option linter.unusedSectionVars false
set_option linter.unusedSimpArgs false
set_option linter.unusedVariables false

def sameOb (a b : Ob) : Bool := (a.1.1 == b.1.1) && ((a.1.2.1 == b.1.2.1) && ((a.1.2.2.1 == b.1.2.2.1) && ((a.1.2.2.2.1 == b.1.2.2.2.1) && ((a.1.2.2.2.2.1 == b.1.2.2.2.2.1) && ((a.1.2.2.2.2.2 == b.1.2.2.2.2.2) && ((a.2.1.1 == b.2.1.1) && ((a.2.1.2 == b.2.1.2) && ((a.2.2 == b.2.2) && true))))))))
def sameFr (a b : Int × Int) : Bool := (a.1 == b.1) && ((a.2 == b.2) && true)
def sameTb (t u : Tb) : Bool := (t.1 == u.1) && ((t.2.2.1 == u.2.2.1) && (sameFr t.2.2.2 u.2.2.2 && (decide (t.2.1.length = u.2.1.length) && all2 sameOb t.2.1 u.2.1)))

theorem spec_SameTable_is (t u : Tb) (hb : t.2.1.length ≤ 9223372036854775807) : spec_SameTable N0 t u = r1 (sameTb t u) := by
  have h := eqQ_all (d := dOb) sameOb (L := fun k i w v => spec_SameTable_l4 N0 k i u.1 w u.2.2.1 u.2.2.2.1 u.2.2.2.2 t.1 v t.2.2.1 t.2.2.2.1 t.2.2.2.2) (fun _ _ _ _ => rfl) t.2.1 u.2.1 hb
  simp only [spec_SameTable, spec_SameTable_t]
  rw [h]
  unfold sameTb sameFr
  by_cases h1 : t.1 = u.1
  · rw [ne_f h1, eq_t h1, cond_false, Bool.true_and]
    cases (t.2.2.1 == u.2.2.1) with
    | false => rfl
    | true =>
      rw [Bool.not_true, cond_false, Bool.true_and]
      cases ((t.2.2.2.1 == u.2.2.2.1) && ((t.2.2.2.2 == u.2.2.2.2) && true)) <;> rfl
  · rw [ne_true h1, eq_f h1]
    rfl

theorem slices_Equal_Obs_is (v w : List Ob) (hb : v.length ≤ 9223372036854775807) : slices_Equal_impl_Obs_impl_Obs N0 v w = r1 (decide (v.length = w.length) && all2 sameOb v w) := by
  have h := eqQ_all (d := dOb) sameOb (L := fun k i w v => slices_Equal_impl_Obs_impl_Obs_l4 N0 k i w v ((v.length : Nat) : Int)) (fun _ _ _ _ => rfl) v w hb
  simp only [slices_Equal_impl_Obs_impl_Obs, slices_Equal_impl_Obs_impl_Obs_t]
  exact h

theorem impl_SameTable_is (t u : Tb) (hb : t.2.1.length ≤ 9223372036854775807) : impl_SameTable N0 t u = r1 (sameTb t u) := by
  simp only [impl_SameTable, impl_SameTable_t, slices_Equal_Obs_is _ _ hb, Option.bind_some]
  unfold sameTb sameFr
  cases (t.1 == u.1) with
  | false => rfl
  | true =>
    rw [cond_true, Bool.true_and]
    cases (decide (t.2.1.length = u.2.1.length) && all2 sameOb t.2.1 u.2.1) with
    | false => simp
    | true =>
      rw [cond_true, Bool.and_true]
      cases (t.2.2.1 == u.2.2.1) with
      | false => rfl
      | true => simp

theorem law_FnExactSameTable (t u : Tb) (ht : WfD tbT t) (hu : WfD tbT u) : laws_FnExactSameTable N0 t u = r1 true := by
  obtain ⟨r, h1, h2, h3⟩ := laws_szTable_is t 1048576 (tb_wf ht) (by omega)
  simp only [laws_FnExactSameTable, laws_FnExactSameTable_t, pr_eta, h1, Option.bind_some]
  by_cases hr : r < 0
  · rw [dec_t hr]; rfl
  · obtain ⟨r', g1, g2, g3⟩ := laws_szTable_is u r (tb_wf hu) (by omega)
    have hl := h3 (by omega)
    simp only [dec_f hr, cond_false, g1, Option.bind_some]
    by_cases hr' : r' < 0
    · rw [dec_t hr']; rfl
    · have hl' := g3 (by omega)
      simp only [dec_f hr', cond_false, laws_toTable_is t hl, laws_toTable_is u hl', Option.bind_some, spec_SameTable_is t u (by omega), impl_SameTable_is t u (by omega), beq_self_eq_true, Bool.not_true, laws_eqTable_refl t hl, laws_eqTable_refl u hl']
end Go.Abs
