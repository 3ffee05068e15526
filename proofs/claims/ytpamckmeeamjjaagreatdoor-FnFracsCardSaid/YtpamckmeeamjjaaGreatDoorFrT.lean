/- A fraction read from its text. -/
import Derived.Test.YtpamckmeeamjjaaGreatDoorNumP
import Derived.Lib.IndexMore
namespace Go.Abs
set_option linter.unusedSectionVars false
set_option linter.unusedSimpArgs false
set_option linter.unusedVariables false
open Go.Lib (decDigits itoa)

theorem dg_ne {c : UInt8} (hc : ¬ isDg c) {l : List UInt8} (h : ∀ x ∈ l, isDg x) : c ∉ l := fun hm => hc (h c hm)

theorem eqStr_bs (l m : List UInt8) : eqStr (bs l) (bs m) = decide (l = m) := by
  unfold eqStr
  rw [ByteArray.toList_eq, ByteArray.toList_eq]
  by_cases h : l = m
  · rw [dec_t h, h]; simp
  · rw [dec_f h]; simpa using h

theorem itoa_len {n : Int} (h : -1000000000 ≤ n ∧ n ≤ 1000000000) : (itoa n).length ≤ 32 := by
  unfold itoa
  split
  · have := dig_len 30 n.natAbs (by omega)
    simp only [List.length_cons]; omega
  · have := dig_len 30 n.toNat (by omega)
    omega

def fracT (a : Int × Int) : List UInt8 := bif a.2 == 1 then itoa a.1 else itoa a.1 ++ [47] ++ itoa a.2

theorem fracT_len {a : Int × Int} (h : vF a = true) : (fracT a).length ≤ 65 := by
  have hb := vF_bd h
  have h1 := itoa_len hb.2
  have h2 := itoa_len (n := a.2) (by omega)
  unfold fracT
  cases a.2 == 1
  · simp only [cond_false, List.length_append, List.length_cons, List.length_nil]; omega
  · simp only [cond_true]; omega

theorem impl_FracText_is (a : Int × Int) : impl_FracText N0 a = r1 (bs (bif vF a then fracT a else [])) := by
  unfold impl_FracText impl_FracText_t
  rw [impl_ValidFrac_is, Option.bind_some]
  dsimp only
  cases h : vF a with
  | false => rfl
  | true =>
    have hb := vF_bd h
    have h1 := itoa_len hb.2
    have h2 := itoa_len (n := a.2) (by omega)
    rw [Bool.not_true, cond_false, cond_true, impl_dec_is (by unfold I64; omega), impl_dec_is (by unfold I64; omega)]
    unfold fracT
    cases a.2 == 1 with
    | true => rfl
    | false =>
      rw [cond_false, cond_false, Option.bind_some]
      dsimp only
      rw [show (ByteArray.mk #[47]) = bs [47] from rfl, room_bs (by simp; omega), cond_true, Option.bind_some]
      dsimp only
      rw [bs_append, room_bs (by simp; omega), cond_true, bs_append]

theorem itoa_no {c : UInt8} (hc : ¬ isDg c) (h45 : c ≠ 45) (n : Int) : c ∉ itoa n := by
  unfold itoa
  split
  · rw [List.mem_cons]
    rintro (h | h)
    · exact h45 h
    · exact dg_ne hc (dig_all _) h
  · exact dg_ne hc (dig_all _)

open Go.Lib in
theorem index_no {c : UInt8} {l : List UInt8} (h : c ∉ l) : indexByte l c = -1 := by
  induction l with
  | nil => rfl
  | cons x r ih =>
    rw [List.mem_cons, not_or] at h
    have hb : (x == c) = false := by simp [Ne.symm h.1]
    simp only [indexByte, hb, Bool.false_eq_true, if_false]
    rw [ih h.2]
    rfl

open Go.Lib in
theorem index_app {c : UInt8} {m : List UInt8} : ∀ {l : List UInt8}, c ∉ l → indexByte (l ++ c :: m) c = (l.length : Int)
  | [], _ => by simp [indexByte]
  | x :: r, h => by
    rw [List.mem_cons, not_or] at h
    have hb : (x == c) = false := by simp [Ne.symm h.1]
    simp only [List.cons_append, indexByte, hb, Bool.false_eq_true, if_false]
    rw [index_app h.2]
    rw [if_neg (by simp)]
    simp

open Go.Lib in
theorem cut_no {c : UInt8} {l : List UInt8} (h : c ∉ l) : cut l [c] = (l, [], false) := by
  unfold cut
  rw [index_one, index_no h, if_neg (by decide)]

open Go.Lib in
theorem cut_app {c : UInt8} {l m : List UInt8} (h : c ∉ l) : cut (l ++ c :: m) [c] = (l, m, true) := by
  unfold cut
  rw [index_one, index_app h, if_pos (by omega)]
  simp

theorem number_bs {l : List UInt8} (h : l.length ≤ 1048576) : impl_number N0 (bs l) = r1 (numL l) := impl_number_is (by rw [bs_size]; omega)

theorem cut_bs {l : List UInt8} (h : l.length ≤ 1048576) : strings_Cut N0 (bs l) (ByteArray.mk #[47]) = r3 (bs (Go.Lib.cut l [47]).1) (bs (Go.Lib.cut l [47]).2.1) (Go.Lib.cut l [47]).2.2 := by
  unfold strings_Cut
  rw [dec_t (by rw [bs_size]; omega), cond_true]

theorem fracT_ne (a : Int × Int) : fracT a ≠ [] := by
  have h : itoa a.1 ≠ [] := by
    unfold itoa
    split
    · simp
    · exact dig_ne _
  unfold fracT
  cases a.2 == 1 with
  | true => exact h
  | false => simp

theorem read_text {a : Int × Int} (h : vF a = true) : impl_ReadFrac N0 (bs (fracT a)) = r2 a 0 := by
  have hb := vF_bd h
  have hl := fracT_len h
  have h47 : ¬ isDg 47 := by decide
  have he : eqStr (bs (fracT a)) (ByteArray.mk #[]) = false := by
    rw [show (ByteArray.mk #[]) = bs [] from rfl, eqStr_bs]
    exact dec_f (fracT_ne a)
  unfold impl_ReadFrac impl_ReadFrac_t
  rw [cut_bs (by omega), Option.bind_some]
  dsimp only
  cases h1 : a.2 == 1 with
  | true =>
    have e : fracT a = itoa a.1 := by unfold fracT; rw [h1, cond_true]
    have e1 : a.2 = 1 := by simpa using h1
    have ea : a = (a.1, 1) := by rw [← e1]
    have hn : Go.Lib.cut (fracT a) [47] = (itoa a.1, [], false) := by rw [e]; exact cut_no (itoa_no h47 (by decide) _)
    rw [hn]
    dsimp only
    rw [number_bs (by rw [← e]; omega), numL_itoa (by unfold I64; omega), Option.bind_some, cond_false, he, cond_false]
    dsimp only
    rw [← ea, impl_FracText_is, h, cond_true, Option.bind_some]
    dsimp only
    rw [eqStr_bs, dec_t rfl]
    rfl
  | false =>
    have e : fracT a = itoa a.1 ++ 47 :: itoa a.2 := by unfold fracT; rw [h1, cond_false]; simp
    have hn : Go.Lib.cut (fracT a) [47] = (itoa a.1, itoa a.2, true) := by rw [e]; exact cut_app (itoa_no h47 (by decide) _)
    have hl1 := itoa_len (n := a.1) (by omega)
    have hl2 := itoa_len (n := a.2) (by omega)
    rw [hn]
    dsimp only
    rw [number_bs (by omega), numL_itoa (by unfold I64; omega), Option.bind_some, cond_true, number_bs (by omega), numL_itoa (by unfold I64; omega), Option.bind_some, he, cond_false]
    dsimp only
    rw [pr_eta, impl_FracText_is, h, cond_true, Option.bind_some]
    dsimp only
    rw [eqStr_bs, dec_t rfl]
    rfl

end Go.Abs
