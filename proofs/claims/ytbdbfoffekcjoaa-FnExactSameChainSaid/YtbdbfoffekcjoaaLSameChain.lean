/- The plain law of SameChain. -/
import Derived.Test.YtbdbfoffekcjoaaDSameChain0
import Derived.Test.YtbdbfoffekcjoaaChainL
namespace Go.Abs
set_option linter.unusedSectionVars false
set_option linter.unusedSimpArgs false
set_option linter.unusedVariables false

abbrev dStdL : StdL := (ByteArray.mk #[], (0, (((0, 0), (0, 0)), ((0, 0), (0, 0)))))

def sameStd (a b : StdL) : Bool := (eqBA a.1 b.1) && ((a.2.1 == b.2.1) && ((a.2.2.1.1.1 == b.2.2.1.1.1) && ((a.2.2.1.1.2 == b.2.2.1.1.2) && ((a.2.2.1.2.1 == b.2.2.1.2.1) && ((a.2.2.1.2.2 == b.2.2.1.2.2) && ((a.2.2.2.1.1 == b.2.2.2.1.1) && ((a.2.2.2.1.2 == b.2.2.2.1.2) && ((a.2.2.2.2.1 == b.2.2.2.2.1) && ((a.2.2.2.2.2 == b.2.2.2.2.2) && true)))))))))

theorem spec_SameChain_is (v w : List StdL) (hb : v.length ≤ 9223372036854775807) : spec_SameChain N0 v w = r1 (decide (v.length = w.length) && all2 sameStd v w) := by
  simp only [spec_SameChain, spec_SameChain_t]
  exact eqQ_all (d := dStdL) sameStd (L := spec_SameChain_l4 N0) (fun _ _ _ _ => rfl) v w hb

theorem impl_SameChain_is (v w : List StdL) (hb : v.length ≤ 9223372036854775807) : impl_SameChain N0 v w = r1 (decide (v.length = w.length) && all2 sameStd v w) := by
  have h := eqQ_all (d := dStdL) sameStd (L := fun k i w v => slices_Equal_impl_Standard_impl_Standard_l4 N0 k i w v ((v.length : Nat) : Int)) (fun _ _ _ _ => rfl) v w hb
  simp only [impl_SameChain, impl_SameChain_t, slices_Equal_impl_Standard_impl_Standard, slices_Equal_impl_Standard_impl_Standard_t]
  rw [h]
  rfl

abbrev stdsT : Tc := .list (.pair .str (.pair (.int .i64) (.pair (.pair (.pair (.int .i64) (.int .i64)) (.pair (.int .i64) (.int .i64))) (.pair (.pair (.int .i64) (.int .i64)) (.pair (.int .i64) (.int .i64))))))

theorem law_FnExactSameChain (v w : List StdL) (hv : WfD stdsT v) (hw : WfD stdsT w) : laws_FnExactSameChain N0 v w = r1 true := by
  have hv := chain_wf hv
  have hw := chain_wf hw
  obtain ⟨r, h1, h2, h3⟩ := laws_szStandardS_is v hv.1 hv.2 1048576 (by omega)
  simp only [laws_FnExactSameChain, laws_FnExactSameChain_t, h1, Option.bind_some]
  by_cases hr : r < 0
  · rw [dec_t hr]; rfl
  · obtain ⟨r', g1, g2, g3⟩ := laws_szStandardS_is w hw.1 hw.2 r (by omega)
    have hl := h3 (by omega)
    simp only [dec_f hr, cond_false, g1, Option.bind_some]
    by_cases hr' : r' < 0
    · rw [dec_t hr']; rfl
    · have hl' := g3 (by omega)
      simp only [dec_f hr', cond_false, laws_toStandardS_is v hl, laws_toStandardS_is w hl', Option.bind_some, spec_SameChain_is v w hv.1, impl_SameChain_is v w hv.1, beq_self_eq_true, Bool.not_true, laws_eqStandardS_refl v hl, laws_eqStandardS_refl w hl']
end Go.Abs
