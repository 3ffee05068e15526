/- The plain law of SectorsOf. -/
import Derived.Test.YtmkhdpdepomohaaSecsP
import Derived.Test.YtmkhdpdepomohaaTrod
namespace Go.Abs
set_option linter.unusedSectionVars false
set_option linter.unusedSimpArgs false
set_option linter.unusedVariables false

theorem law_FnExactSectorsOf (d : Dk) (n l : Int) (hd : WfD (.pair (.list (.int .i16)) (.pair (.int .i64) (.int .i64))) d) (_ : WfD (.int .i64) n) (_ : WfD (.int .i64) l) : laws_FnExactSectorsOf N0 d n l = r1 true := by
  have hb : d.1.length ≤ 9223372036854775807 := hd.1.1
  obtain ⟨x, h1, h2⟩ := laws_szDisk_lt d hb
  simp only [laws_FnExactSectorsOf, laws_FnExactSectorsOf_t, pr_eta, h1, Option.bind_some, h2]
  by_cases hr : d.1.length ≤ 1048576
  · obtain ⟨o, c, hs, ho⟩ := secsRes_ex d n l
    obtain ⟨b', hm⟩ := laws_markDisk_ex (d.2, ()) d.1 hr
    simp only [dec_t hr, Bool.not_true, cond_false, laws_toDisk_is d hr, Option.bind_some, pr_eta, spec_SectorsOf_is d n l hb, impl_SectorsOf_is d n l hb, hs, laws_eqInt64S_is _ _ ho, beq_self_eq_true, bne_self_eq_false, laws_eqDisk_refl d hr, hm,
      dec_f (p := 1 + (d.1.length : Int) < 0) (by omega), laws_markInt64S_is _ ho, one_nn, laws_heldInt64S_is _ ho]
  · rw [dec_f hr]; rfl
end Go.Abs
