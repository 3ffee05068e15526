/- Which standards are good on a day. -/
import Derived.Test.YtmkhdpdepomohaaDAllOn0
import Derived.Test.YtmkhdpdepomohaaPathP
import Derived.Test.YtmkhdpdepomohaaChainL
namespace Go.Abs
set_option linter.unusedSectionVars false
set_option linter.unusedSimpArgs false
set_option linter.unusedVariables false

/-! ### which are good -/
def onUp (v : List Std) (day : Int) : Nat → Nat → List Int
  | 0, _ => []
  | k + 1, i => bif goodOn (v.getD i dStd) day then (i : Int) :: onUp v day k (i + 1) else onUp v day k (i + 1)

theorem onUp_in (v : List Std) (day : Int) : ∀ (k i : Nat), i + k ≤ v.length → ∀ y ∈ onUp v day k i, 0 ≤ y ∧ y < (v.length : Int)
  | 0, i, _, y, hy => by simp [onUp] at hy
  | k + 1, i, h, y, hy => by
    rw [onUp] at hy
    cases hg : goodOn (v.getD i dStd) day with
    | false => rw [hg] at hy; exact onUp_in v day k (i + 1) (by omega) y hy
    | true =>
      rw [hg] at hy
      rcases List.mem_cons.1 hy with e | hy
      · omega
      · exact onUp_in v day k (i + 1) (by omega) y hy

theorem onUp_len (v : List Std) (day : Int) : ∀ (k i : Nat), (onUp v day k i).length ≤ k
  | 0, i => by simp [onUp]
  | k + 1, i => by
    rw [onUp]
    have := onUp_len v day k (i + 1)
    cases goodOn (v.getD i dStd) day with
    | false => rw [cond_false]; omega
    | true => rw [cond_true, List.length_cons]; omega

theorem impl_AllOn_1_is (v : List Std) (day : Int) (i : Nat) (h : i < v.length) : impl_AllOn_1 N0 (i : Int) v day = some (((goodOn v[i] day, ()), ()), (v, (day, ()))) := by
  simp only [impl_AllOn_1, impl_AllOn_1_t, nn_t, lt_t h, Bool.and_self, cond_true, Int.toNat_natCast, get_ix h, pr_eta, impl_Standard_good_is, Option.bind_some]

theorem impl_those_l3_is (v : List Std) (day : Int) (hn : v.length ≤ 30) : ∀ (k i : Nat) (b : List Int), i ≤ v.length → b.length ≤ i → v.length - i < k →
    impl_those_at_impl_AllOn_1_l3 N0 k (i : Int) (v.length : Int) v day b = some (((b ++ onUp v day (v.length - i) i, ()), ()), (v, (day, ())))
  | 0, i, b, _, _, hk => by omega
  | k + 1, i, b, hi, hb, hk => by
    simp only [impl_those_at_impl_AllOn_1_l3, impl_those_at_impl_AllOn_1_t3]
    by_cases h : i < v.length
    · have ih := fun b hb => impl_those_l3_is v day hn k (i + 1) b h hb (by omega)
      have hr : decide ((b.length + ((i : Int) :: []).length) * 9 ≤ 70368744177664) = true := dec_t (by simp only [List.length_cons, List.length_nil]; omega)
      simp only [lt_t h, cond_true, impl_AllOn_1_is v day i h, Option.bind_some, hr, w_succ (i := i) (by omega)]
      rw [show v.length - i = (v.length - (i + 1)) + 1 by omega, onUp, get_ix h]
      cases goodOn v[i] day with
      | false => exact ih b (by omega)
      | true =>
        rw [cond_true, cond_true, ih _ (by simp; omega), List.append_assoc]
        rfl
    · have : i = v.length := by omega
      subst this
      simp only [lt_f h, cond_false, Nat.sub_self, onUp, List.append_nil]

abbrev allRes (v : List Std) (day : Int) : Option (((List Int × Unit) × ((Int × Unit) × Unit)) × Unit) :=
  bif chainOk v then (bif isDay day then r2 (onUp v day v.length 0) 0 else r2 [] 2) else r2 [] 1

theorem impl_AllOn_is (v : List Std) (day : Int) (hv : Sized v) : impl_AllOn N0 v day = allRes v day := by
  have := N0_big
  simp only [impl_AllOn, impl_AllOn_t]
  rw [impl_chainCode_is v [] [day] hv (by simp) (by simp), Option.bind_some]
  simp only [List.all_cons, List.all_nil, Bool.and_true, Bool.true_and]
  unfold allRes
  cases hc : chainOk v with
  | false => rfl
  | true =>
    cases isDay day with
    | false => rfl
    | true =>
      have e := impl_those_l3_is v day (chain_len hc) N0 0 [] (by omega) (by simp) (by have := chain_len hc; omega)
      have e : impl_those_at_impl_AllOn_1 N0 v v day = _ := e
      rw [e]
      rfl

end Go.Abs
