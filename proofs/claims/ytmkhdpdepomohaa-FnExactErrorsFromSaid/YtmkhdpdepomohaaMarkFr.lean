/- Marks on fractions, from any number on. -/
import Derived.Test.YtmkhdpdepomohaaFracsL
import Derived.Test.YtmkhdpdepomohaaMarkObs
namespace Go.Abs
set_option linter.unusedSectionVars false
set_option linter.unusedSimpArgs false
set_option linter.unusedVariables false

theorem laws_markFracS_l_ex : ∀ (k i : Nat) (v : Int) (b : List (Int × Int)), i ≤ b.length → b.length ≤ 1048576 → b.length - i < k → 0 ≤ v ∧ v ≤ 100000000 + 2 * (i : Int) →
    ∃ b', laws_markFracS_l2 N0 k (i : Int) v b = c1 (v + 2 * ((b.length : Int) - (i : Int))) b'
  | 0, i, v, b, _, _, hk, _ => by omega
  | k + 1, i, v, b, hi, hb, hk, hv => by
    simp only [laws_markFracS_l2, laws_markFracS_t2]
    by_cases h : i < b.length
    · simp only [lt_t h, nn_t, List.length_set, Bool.and_self, cond_true, Int.toNat_natCast, w_succ (i := i) (by omega), w_in (x := v + 1) (by unfold I64; omega), w_in (x := v + 1 + 1) (by unfold I64; omega)]
      generalize hB : List.set _ _ _ = B
      have hl : B.length = b.length := by rw [← hB]; simp only [List.length_set]
      obtain ⟨b', e⟩ := laws_markFracS_l_ex k (i + 1) (v + 1 + 1) B (by omega) (by omega) (by omega) (by omega)
      refine ⟨b', e.trans ?_⟩
      rw [hl, show v + 1 + 1 + 2 * ((b.length : Int) - ((i + 1 : Nat) : Int)) = v + 2 * ((b.length : Int) - (i : Int)) by omega]
    · have : i = b.length := by omega
      subst this
      rw [lt_f h]
      exact ⟨b, by simp⟩

theorem laws_markFracS_ex (v : Int) (b : List (Int × Int)) (hb : b.length ≤ 1048576) (hv : 0 ≤ v ∧ v ≤ 100000000) : ∃ b', laws_markFracS N0 v b = c1 (v + 2 * (b.length : Int)) b' := by
  have := N0_big
  obtain ⟨b', e⟩ := laws_markFracS_l_ex N0 0 v b (by omega) hb (by omega) (by omega)
  refine ⟨b', ?_⟩
  simp only [laws_markFracS, laws_markFracS_t]
  refine e.trans ?_
  simp
end Go.Abs
