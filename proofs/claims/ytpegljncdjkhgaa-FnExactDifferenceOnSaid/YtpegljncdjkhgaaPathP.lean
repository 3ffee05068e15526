/- Paths along a chain. -/
import Derived.Test.YtpegljncdjkhgaaDDifferenceOn0
import Derived.Test.YtpegljncdjkhgaaChainC
import Derived.Test.YtpegljncdjkhgaaCalc
namespace Go.Abs
set_option linter.unusedSectionVars false
set_option linter.unusedSimpArgs false
set_option linter.unusedVariables false

section
variable {a b : Fq} (ha : Bd a) (hb : Bd b)
include ha hb
theorem impl_calc_mul_is (c : Bool) : impl_calc_mul N0 a b c = c1 (val (fmul a b)) (c || (fmul a b).isNone) := by
  have h1 := bd_pp ha hb
  have h3 := bd_qq ha hb
  simp only [impl_calc_mul, impl_calc_mul_t, w_in (x := a.1 * b.1) (by unfold I64; omega), w_in (x := a.2 * b.2) (by unfold I64; omega)]
  rw [impl_calc_told_is c (by unfold small; omega) (by unfold small; omega) (by omega)]
  rfl

theorem spec_l01Mul_is : spec_l01Mul N0 a b = r2 ((fmul a b).getD (0, 0)) (bif (fmul a b).isSome then 0 else 3) := by
  have h1 := bd_pp ha hb
  have h3 := bd_qq ha hb
  simp only [spec_l01Mul, spec_l01Mul_t, w_in (x := a.1 * b.1) (by unfold I64; omega), w_in (x := a.2 * b.2) (by unfold I64; omega)]
  rw [spec_l01Reduced_is (by unfold small; omega) (by unfold small; omega) (by omega)]
  rfl
end

/-! ### facts of a valid chain -/
theorem chain_len {v : List Std} (h : chainOk v = true) : v.length ≤ 30 := by
  unfold chainOk at h
  rw [Bool.and_eq_true] at h
  have := of_decide_eq_true h.2
  omega

theorem chain_at {v : List Std} (h : chainOk v = true) {i : Int} (hi : 0 ≤ i ∧ i < (v.length : Int)) : stdOk (v.getD i.toNat dStd) = true ∧ (-1 ≤ (v.getD i.toNat dStd).2.1 ∧ (v.getD i.toNat dStd).2.1 < i) := by
  unfold chainOk at h
  rw [Bool.and_eq_true] at h
  have h1 := allUp_at h.1 i.toNat (by omega) (by omega)
  unfold chainAt fromOk at h1
  simp only [Bool.and_eq_true] at h1
  have h2 := btw_iff.1 h1.2.2.1.1
  exact ⟨h1.2.2.2, by omega⟩

/-- the bounds of a standard -/
theorem std_bd {x : Std} (h : stdOk x = true) : Bd x.2.2.1.1 ∧ Bd x.2.2.1.2 ∧ Bd x.2.2.2.1 ∧ (0 ≤ x.2.2.2.2.1 ∧ x.2.2.2.2.1 ≤ 100000) := by
  unfold stdOk spanOk isDay at h
  simp only [Bool.and_eq_true, btw_iff] at h
  exact ⟨Bd.of h.1.1, Bd.of h.1.2.1, Bd.of h.2.1, h.2.2.2.1⟩

/-! ### paths -/
def pathUp (v : List Std) : Nat → Int → List Int
  | 0, _ => []
  | k + 1, i => bif decide (i < 0) then [] else pathUp v k (v.getD i.toNat dStd).2.1 ++ [i]

theorem path_len {v : List Std} (hc : chainOk v = true) : ∀ (k : Nat) (i : Int), i < (v.length : Int) → (pathUp v k i).length ≤ (i + 1).toNat
  | 0, i, _ => by simp [pathUp]
  | k + 1, i, hi => by
    rw [pathUp]
    by_cases h : i < 0
    · rw [dec_t h]; simp
    · have h1 := (chain_at hc (i := i) ⟨by omega, hi⟩).2
      have h2 := path_len hc k (v.getD i.toNat dStd).2.1 (by omega)
      rw [dec_f h, cond_false, List.length_append]
      simp only [List.length_cons, List.length_nil]
      omega

theorem path_in {v : List Std} (hc : chainOk v = true) : ∀ (k : Nat) (i : Int), i < (v.length : Int) → ∀ y ∈ pathUp v k i, 0 ≤ y ∧ y < (v.length : Int)
  | 0, i, _, y, hy => by simp [pathUp] at hy
  | k + 1, i, hi, y, hy => by
    rw [pathUp] at hy
    by_cases h : i < 0
    · rw [dec_t h] at hy; simp at hy
    · have h1 := (chain_at hc (i := i) ⟨by omega, hi⟩).2
      rw [dec_f h, cond_false, List.mem_append] at hy
      cases hy with
      | inl hy => exact path_in hc k _ (by omega) y hy
      | inr hy =>
        have : y = i := by simpa using hy
        omega

theorem impl_path_l2_is {v : List Std} (hc : chainOk v = true) : ∀ (k : Nat) (i : Int) (b : List Int), -1 ≤ i → i < (v.length : Int) → i + 1 < (k : Int) → (b.length : Int) + i ≤ 100 →
    impl_path_l2 N0 k i v b = r1 (pathUp v k i ++ b)
  | 0, i, b, _, _, hk, _ => by omega
  | k + 1, i, b, h0, hi, hk, hl => by
    simp only [impl_path_l2, impl_path_t2]
    rw [pathUp]
    by_cases h : i < 0
    · rw [dec_f (p := i ≥ 0) (by omega), dec_t h]; rfl
    · have h1 := (chain_at hc (i := i) ⟨by omega, hi⟩).2
      have hr : decide (((i :: []).length + b.length) * 9 ≤ 70368744177664) = true := dec_t (by simp only [List.length_cons, List.length_nil]; omega)
      rw [dec_t (p := i ≥ 0) (by omega), hr, dec_t hi, dec_f h, cond_true, cond_true, Bool.and_self, cond_true, cond_false]
      simp only [dStd] at h1
      rw [impl_path_l2_is hc k _ _ (by omega) (by omega) (by omega) (by simp only [List.length_append, List.length_cons, List.length_nil]; omega)]
      simp

theorem impl_path_is {v : List Std} (hc : chainOk v = true) {i : Int} (hi : 0 ≤ i ∧ i < (v.length : Int)) : impl_path N0 v i = r1 (pathUp v N0 i) := by
  have := N0_big
  have hl := chain_len hc
  simp only [impl_path, impl_path_t]
  rw [impl_path_l2_is hc N0 i [] (by omega) hi.2 (by omega) (by simp only [List.length_nil]; omega), List.append_nil]

theorem spec_path_r_is {v : List Std} (hc : chainOk v = true) : ∀ (k : Nat) (i : Int), -1 ≤ i → i < (v.length : Int) → i + 1 < (k : Int) →
    spec_l05Path_r N0 k v i = r1 (pathUp v k i)
  | 0, i, _, _, hk => by omega
  | k + 1, i, h0, hi, hk => by
    have hv := chain_len hc
    simp only [spec_l05Path_r, spec_l05Path_t]
    rw [pathUp]
    by_cases h : i < 0
    · rw [dec_t h]; rfl
    · have h1 := (chain_at hc (i := i) ⟨by omega, hi⟩).2
      have hp := path_len hc k (v.getD i.toNat dStd).2.1 (by omega)
      have hr : decide (((pathUp v k (v.getD i.toNat dStd).2.1).length + (i :: []).length) * 9 ≤ 70368744177664) = true := dec_t (by simp only [List.length_cons, List.length_nil]; omega)
      simp only [dStd] at h1
      rw [dec_f h, cond_false, cond_false, dec_t (p := 0 ≤ i) (by omega), dec_t hi, Bool.and_self, cond_true, spec_path_r_is hc k _ (by omega) (by omega) (by omega), Option.bind_some]
      dsimp only
      rw [hr, cond_true]

theorem spec_l05Path_is {v : List Std} (hc : chainOk v = true) {i : Int} (hi : 0 ≤ i ∧ i < (v.length : Int)) : spec_l05Path N0 v i = r1 (pathUp v N0 i) := by
  have := N0_big
  have hl := chain_len hc
  unfold spec_l05Path
  exact spec_path_r_is hc N0 i (by omega) hi.2 (by omega)

end Go.Abs
