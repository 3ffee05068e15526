/- Sizes of fractions. -/
import Derived.Test.YtipjecagbndhbaaDPVerniers0
import Derived.Test.YtipjecagbndhbaaCalc
namespace Go.Abs
set_option linter.unusedSectionVars false
set_option linter.unusedSimpArgs false
set_option linter.unusedVariables false

/-- its size -/
abbrev szF (a : Fq) : Fq := (((a.1.natAbs : Nat) : Int), a.2)

theorem impl_size_is {a : Fq} (h : Bd a) : impl_size N0 a = r1 (szF a) := by
  have h2 := h.2
  simp only [impl_size, impl_size_t]
  rw [w_in (x := 0 - a.1) (by unfold I64; omega)]
  unfold szF
  by_cases h0 : a.1 < 0 - a.1
  · rw [if_pos h0, show 0 - a.1 = ((a.1.natAbs : Nat) : Int) by omega]
  · rw [if_neg h0]
    have : a.1 = ((a.1.natAbs : Nat) : Int) := by omega
    rw [← this]

theorem spec_l02Size_is {a : Fq} (h : Bd a) : spec_l02Size N0 a = r1 (szF a) := by
  simp only [spec_l02Size, spec_l02Size_t, pr_eta, spec_l01Neg_is h, Option.bind_some]
  unfold szF
  by_cases h0 : a.1 < 0
  · rw [dec_t h0, cond_true, show -a.1 = ((a.1.natAbs : Nat) : Int) by omega]
  · rw [dec_f h0, cond_false]
    have : ((a.1.natAbs : Nat) : Int) = a.1 := by omega
    rw [this]

end Go.Abs
