/- The plain law of ResidualsOf. -/
import Derived.Test.YtmkhdpdepomohaaResid
import Derived.Test.YtmkhdpdepomohaaMarkObs
import Derived.Test.YtmkhdpdepomohaaMarkFr
import Derived.Test.YtmkhdpdepomohaaTrod
namespace Go.Abs
set_option linter.unusedSectionVars false
set_option linter.unusedSimpArgs false
set_option linter.unusedVariables false

theorem resRes_ex (t : Tb) (x : List Fq) : ∃ o c, resRes t x = r2 o c ∧ o.length ≤ 1048576 := by
  unfold resRes
  by_cases h : askC t x = 0
  · rw [ne_f h, cond_false]
    cases (allG x t.2.1).2 with
    | true => exact ⟨_, _, rfl, by simp⟩
    | false =>
      have := (ask_ok h).2.2.2
      exact ⟨_, _, rfl, by rw [allG_len]; omega⟩
  · rw [ne_true h]
    exact ⟨_, _, rfl, by simp⟩

theorem law_FnExactResidualsOf (t : Tb) (x : List Fq) (ht : WfD tbT t) (hx : WfD (.list (.pair (.int .i64) (.int .i64))) x) : laws_FnExactResidualsOf N0 t x = r1 true := by
  have hb := tb_wf ht
  have hx1 : x.length ≤ 9223372036854775807 := hx.1
  obtain ⟨r, h1, h2, h3⟩ := laws_szTable_is t 1048576 hb (by omega)
  simp only [laws_FnExactResidualsOf, laws_FnExactResidualsOf_t, pr_eta, h1, Option.bind_some]
  by_cases hr : r < 0
  · rw [dec_t hr]; rfl
  · have hl := h3 (by omega)
    obtain ⟨r', g1, g2, g3⟩ := laws_szFracS_is x r hx1 (by omega)
    simp only [dec_f hr, cond_false, g1, Option.bind_some]
    by_cases hr' : r' < 0
    · rw [dec_t hr']; rfl
    · have hl' := g3 (by omega)
      obtain ⟨o, c, hs, ho⟩ := resRes_ex t x
      obtain ⟨b', hm⟩ := laws_markFracS_ex (1 + 9 * (t.2.1.length : Int)) x hl' (by omega)
      simp only [dec_f hr', cond_false, laws_toTable_is t hl, laws_toFracS_is x hl', Option.bind_some, pr_eta, spec_ResidualsOf_is t x hb hx1, impl_ResidualsOf_is t x hb (tb_fit ht) hx1, hs, laws_eqFracS_refl _ ho, laws_eqFracS_refl _ hl', beq_self_eq_true, Bool.not_true, bne_self_eq_false, laws_eqTable_refl t hl,
        laws_markTable_is _ t.2.1 hl, hm, dec_f (p := 1 + 9 * (t.2.1.length : Int) + 2 * (x.length : Int) < 0) (by omega), laws_markFracS_is _ ho, laws_heldFracS_is _ ho, two_nn]
end Go.Abs
