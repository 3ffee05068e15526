/- Numbers out of texts. -/
import Derived.Test.YtpamckmeeamjjaaGreatDoorSplitP
namespace Go.Abs
set_option linter.unusedSectionVars false
set_option linter.unusedSimpArgs false
set_option linter.unusedVariables false
open Go.Lib (decDigits itoa parseIntB parseUintM parseUintB)

def isDg (x : UInt8) : Prop := 48 ≤ x.toNat ∧ x.toNat ≤ 57
instance (x : UInt8) : Decidable (isDg x) := by unfold isDg; infer_instance

/-- the number that digits spell, behind others that spell a -/
def valA (a : Nat) (l : List UInt8) : Nat := l.foldl (fun a x => 10 * a + (x.toNat - 48)) a

theorem valA_cons (a : Nat) (x : UInt8) (r : List UInt8) : valA a (x :: r) = valA (10 * a + (x.toNat - 48)) r := by unfold valA; rw [List.foldl_cons]
theorem valA_app (a : Nat) (l m : List UInt8) : valA a (l ++ m) = valA (valA a l) m := by unfold valA; rw [List.foldl_append]

theorem valA_ge : ∀ (l : List UInt8) (a : Nat), a ≤ valA a l
  | [], a => Nat.le_refl _
  | x :: r, a => by rw [valA_cons]; have := valA_ge r (10 * a + (x.toNat - 48)); omega

theorem dg_toNat {d : Nat} (h : d < 10) : (UInt8.ofNat (48 + d)).toNat = 48 + d := by
  rw [UInt8.toNat_ofNat']
  omega
theorem dg_is {d : Nat} (h : d < 10) : isDg (UInt8.ofNat (48 + d)) := by unfold isDg; rw [dg_toNat h]; omega
theorem dg_back {x : UInt8} (h : isDg x) : UInt8.ofNat (48 + (x.toNat - 48)) = x := by
  have := h.1
  rw [show 48 + (x.toNat - 48) = x.toNat by omega]
  simp

theorem dig_all : ∀ (u : Nat), ∀ x ∈ decDigits u, isDg x := by
  intro u
  induction u using Nat.strongRecOn with
  | _ u ih =>
    intro x hx
    by_cases h : u < 10
    · rw [dig_small h, List.mem_singleton] at hx
      rw [hx]; exact dg_is h
    · rw [dig_big h, List.mem_append, List.mem_singleton] at hx
      rcases hx with hx | hx
      · exact ih (u / 10) (by omega) x hx
      · rw [hx]; exact dg_is (by omega)

theorem dig_ne (u : Nat) : decDigits u ≠ [] := by
  by_cases h : u < 10
  · rw [dig_small h]; simp
  · rw [dig_big h]; simp

theorem dig_val : ∀ (u : Nat), valA 0 (decDigits u) = u := by
  intro u
  induction u using Nat.strongRecOn with
  | _ u ih =>
    by_cases h : u < 10
    · rw [dig_small h]
      simp only [valA, List.foldl_cons, List.foldl_nil]
      rw [dg_toNat h]; omega
    · rw [dig_big h, valA_app, ih (u / 10) (by omega)]
      simp only [valA, List.foldl_cons, List.foldl_nil]
      rw [dg_toNat (by omega)]; omega

/-- no numeral of more than one digit begins with 0 -/
theorem dig_head : ∀ (u : Nat), 10 ≤ u → ∃ x r, decDigits u = x :: r ∧ x.toNat ≠ 48 := by
  intro u
  induction u using Nat.strongRecOn with
  | _ u ih =>
    intro hu
    rw [dig_big (by omega)]
    by_cases h : u / 10 < 10
    · rw [dig_small h]
      exact ⟨_, _, rfl, by rw [dg_toNat h]; omega⟩
    · obtain ⟨x, r, e, hx⟩ := ih (u / 10) (by omega) (by omega)
      exact ⟨x, r ++ [UInt8.ofNat (48 + u % 10)], by rw [e]; rfl, hx⟩

/-- digits without a 0 ahead are the numeral of their number -/
theorem dig_of_val : ∀ (n : Nat) (l : List UInt8), l.length = n → l ≠ [] → (∀ x ∈ l, isDg x) → (∀ x r, l = x :: r → r ≠ [] → x.toNat ≠ 48) → decDigits (valA 0 l) = l
  | 0, l, hn, hne, _, _ => absurd (List.length_eq_zero_iff.1 hn) hne
  | n + 1, l, hn, hne, hd, hz => by
    obtain ⟨m, y, rfl⟩ : ∃ m y, l = m ++ [y] := ⟨l.dropLast, l.getLast hne, (List.dropLast_concat_getLast hne).symm⟩
    have hy := hd y (by simp)
    by_cases hm : m = []
    · subst hm
      simp only [List.nil_append, valA, List.foldl_cons, List.foldl_nil]
      unfold isDg at hy
      rw [dig_small (by omega)]
      rw [show 10 * 0 + (y.toNat - 48) = y.toNat - 48 by omega, dg_back hy]
    · have ih := dig_of_val n m (by simp at hn; exact hn) hm (fun x hx => hd x (by simp [hx])) (fun x r e hr => hz x (r ++ [y]) (by rw [e]; rfl) (by simp))
      rw [valA_app]
      simp only [valA, List.foldl_cons, List.foldl_nil] at ih ⊢
      have hv : 1 ≤ List.foldl (fun a x => 10 * a + (x.toNat - 48)) 0 m := by
        obtain ⟨x, r, rfl⟩ : ∃ x r, m = x :: r := by
          cases m with
          | nil => exact absurd rfl hm
          | cons x r => exact ⟨x, r, rfl⟩
        have h1 := hz x (r ++ [y]) rfl (by simp)
        have h2 := hd x (by simp)
        have h3 := valA_ge r (10 * 0 + (x.toNat - 48))
        unfold isDg at h2
        unfold valA at h3
        rw [List.foldl_cons]
        omega
      unfold isDg at hy
      rw [dig_big (by omega), show (10 * List.foldl (fun a x => 10 * a + (x.toNat - 48)) 0 m + (y.toNat - 48)) / 10 = List.foldl (fun a x => 10 * a + (x.toNat - 48)) 0 m by omega,
        show (10 * List.foldl (fun a x => 10 * a + (x.toNat - 48)) 0 m + (y.toNat - 48)) % 10 = y.toNat - 48 by omega, ih, dg_back hy]

/-! ### the library's -/
theorem parseUintM_is (M : Nat) (hM : M ≤ 18446744073709551615) : ∀ (l : List UInt8) (a : Nat), (∀ x ∈ l, isDg x) → valA a l ≤ M → parseUintM M a l = .ok (valA a l)
  | [], a, _, _ => rfl
  | x :: r, a, hd, hv => by
    have hx := hd x (by simp)
    unfold isDg at hx
    rw [valA_cons] at hv ⊢
    have hg := valA_ge r (10 * a + (x.toNat - 48))
    rw [parseUintM, if_pos hx, if_neg (by omega), if_neg (by omega), show a * 10 + (x.toNat - 48) = 10 * a + (x.toNat - 48) by omega]
    exact parseUintM_is M hM r _ (fun y hy => hd y (by simp [hy])) hv

theorem parseInt_dg {l : List UInt8} (hne : l ≠ []) (hd : ∀ x ∈ l, isDg x) (hv : valA 0 l < 9223372036854775808) : parseIntB 64 l = .ok (valA 0 l : Int) := by
  obtain ⟨x, r, rfl⟩ : ∃ x r, l = x :: r := by
    cases l with
    | nil => exact absurd rfl hne
    | cons x r => exact ⟨x, r, rfl⟩
  have hx := hd x (by simp)
  unfold isDg at hx
  unfold parseIntB
  simp only
  rw [if_neg (by omega)]
  have e : parseUintB 64 (x :: r) = .ok (valA 0 (x :: r)) := by
    unfold parseUintB
    rw [if_neg (by simp)]
    exact parseUintM_is _ (by decide) _ _ hd (by omega)
  rw [e]
  simp only
  rw [if_neg (by omega), if_neg (by omega), if_neg (by omega)]

theorem parseInt_neg {l : List UInt8} (hne : l ≠ []) (hd : ∀ x ∈ l, isDg x) (hv : valA 0 l ≤ 9223372036854775808) : parseIntB 64 (45 :: l) = .ok (-(valA 0 l : Int)) := by
  unfold parseIntB
  simp only
  rw [if_pos (by decide)]
  have e : parseUintB 64 l = .ok (valA 0 l) := by
    unfold parseUintB
    rw [if_neg hne]
    exact parseUintM_is _ (by decide) _ _ hd (by omega)
  rw [e]
  simp only
  rw [if_neg (by simp), if_neg (by omega), if_pos (by decide)]

/-- the program's number of a text -/
def numL (l : List UInt8) : Int := match parseIntB 64 l with
  | .ok v => v
  | _ => 0

theorem impl_number_is {s : ByteArray} (h : s.size ≤ 281474976710656) : impl_number N0 s = r1 (numL s.data.toList) := by
  unfold impl_number numL
  rw [dec_t h, cond_true]
  cases parseIntB 64 s.data.toList <;> rfl

theorem parseUintM_le (M : Nat) : ∀ (l : List UInt8) (a u : Nat), a ≤ M → parseUintM M a l = .ok u → u ≤ M
  | [], a, u, ha, h => by simp only [parseUintM, Go.Lib.NumEnd.ok.injEq] at h; omega
  | x :: r, a, u, ha, h => by
    rw [parseUintM] at h
    split at h
    · split at h
      · cases h
      · split at h
        · cases h
        · exact parseUintM_le M r _ u (by omega) h
    · cases h

theorem numL_bd (l : List UInt8) : I64 (numL l) := by
  unfold numL
  cases h : parseIntB 64 l with
  | ok v =>
    unfold parseIntB at h
    split at h
    · cases h
    · simp only at h
      split at h
      · cases h
      · cases h
      · rename_i u hu
        split at h
        · cases h
        · split at h
          · cases h
          · rename_i h1 h2
            injection h with h
            subst h
            simp only
            unfold I64
            split
            · rename_i h3; simp only [h3, true_and, Nat.not_lt] at h2; omega
            · rename_i h3; simp only [h3, not_false_eq_true, true_and, Nat.not_le] at h1; omega
  | _ => simp only; unfold I64; omega

theorem numL_dig {u : Nat} (h : u < 9223372036854775808) : numL (decDigits u) = (u : Int) := by
  unfold numL
  rw [parseInt_dg (dig_ne u) (dig_all u) (by rw [dig_val]; exact h), dig_val]

theorem numL_itoa {n : Int} (h : I64 n) : numL (itoa n) = n := by
  unfold I64 at h
  by_cases h0 : n < 0
  · unfold itoa numL
    rw [if_pos h0, parseInt_neg (dig_ne _) (dig_all _) (by rw [dig_val]; omega), dig_val]
    simp only
    omega
  · rw [itoa_nn (by omega), numL_dig (by omega)]
    omega

theorem numL_two {n : Nat} (h : n < 100) : numL (twoT n) = (n : Int) := by
  have hd : ∀ x ∈ twoT n, isDg x := by
    intro x hx
    unfold twoT at hx
    simp only [List.mem_cons, List.mem_nil_iff, or_false] at hx
    rcases hx with rfl | rfl
    · exact dg_is (by omega)
    · exact dg_is (by omega)
  have hv : valA 0 (twoT n) = n := by
    unfold twoT
    simp only [valA, List.foldl_cons, List.foldl_nil]
    rw [dg_toNat (by omega), dg_toNat (by omega)]
    omega
  unfold numL
  rw [parseInt_dg (by simp [twoT]) hd (by omega), hv]

/-! ### the reference's -/
open Classical in
/-- the number of at most ten digits, without 0 ahead -/
noncomputable def numS (l : List UInt8) : Option Nat := if l ≠ [] ∧ l.length ≤ 10 ∧ (∀ x ∈ l, isDg x) ∧ (∀ x r, l = x :: r → r ≠ [] → x.toNat ≠ 48) then some (valA 0 l) else none

theorem numS_some {l : List UInt8} {u : Nat} (h : numS l = some u) : l = decDigits u ∧ l.length ≤ 10 := by
  unfold numS at h
  split at h
  · rename_i hc
    injection h with h
    subst h
    exact ⟨(dig_of_val _ l rfl hc.1 hc.2.2.1 hc.2.2.2).symm, hc.2.1⟩
  · cases h

theorem numS_dig {u : Nat} (h : (decDigits u).length ≤ 10) : numS (decDigits u) = some u := by
  have hz : ∀ x r, decDigits u = x :: r → r ≠ [] → x.toNat ≠ 48 := by
    intro x r e hr
    by_cases hu : u < 10
    · rw [dig_small hu] at e
      injection e with _ e
      exact absurd e.symm hr
    · obtain ⟨x', r', e', hx⟩ := dig_head u (by omega)
      rw [e'] at e
      injection e with e _
      exact e ▸ hx
  unfold numS
  rw [if_pos ⟨dig_ne u, h, dig_all u, hz⟩, dig_val]

theorem valA_lt : ∀ (l : List UInt8) (a : Nat), (∀ x ∈ l, isDg x) → valA a l < (a + 1) * 10 ^ l.length
  | [], a, _ => by simp [valA]
  | x :: r, a, hd => by
    have hx := hd x (by simp)
    unfold isDg at hx
    have := valA_lt r (10 * a + (x.toNat - 48)) fun y hy => hd y (by simp [hy])
    rw [valA_cons, List.length_cons, Nat.pow_succ]
    refine Nat.lt_of_lt_of_le this ?_
    calc (10 * a + (x.toNat - 48) + 1) * 10 ^ r.length ≤ (10 * (a + 1)) * 10 ^ r.length := Nat.mul_le_mul_right _ (by omega)
      _ = (a + 1) * (10 ^ r.length * 10) := by rw [Nat.mul_comm 10 (a + 1), Nat.mul_assoc, Nat.mul_comm 10]

theorem numS_lt {l : List UInt8} {u : Nat} (h : numS l = some u) : u < 10 ^ 10 := by
  unfold numS at h
  split at h
  · rename_i hc
    injection h with h
    subst h
    have h1 := valA_lt l 0 hc.2.2.1
    have h2 : 10 ^ l.length ≤ 10 ^ 10 := Nat.pow_le_pow_right (by omega) hc.2.1
    omega
  · cases h

theorem spec_l01Number_l5_is (s : ByteArray) (hs : s.size ≤ 10) : ∀ (k i a : Nat), i ≤ s.data.toList.length → s.data.toList.length - i < k → a < 10 ^ i →
    spec_l01Number_l5 N0 k (i : Int) s (a : Int) = if ∀ x ∈ s.data.toList.drop i, isDg x then r2 ((valA a (s.data.toList.drop i) : Nat) : Int) true else r2 0 false
  | 0, i, a, _, hk, _ => by omega
  | k + 1, i, a, hi, hk, ha => by
    have hl := size_len s
    simp only [spec_l01Number_l5, spec_l01Number_t5]
    rw [hl]
    by_cases h : i < s.data.toList.length
    · rw [lt_t h, nn_t, byteAt_ix h, drop_ix h]
      simp only [cond_true, Bool.and_self]
      have hp : a < 10 ^ 10 := Nat.lt_of_lt_of_le ha (Nat.pow_le_pow_right (by omega) (by omega))
      by_cases hd : isDg s.data.toList[i]
      · unfold isDg at hd
        rw [dec_f (by omega), dec_f (by omega), cond_false, cond_false, w_succ (i := i) (by omega)]
        have e : IntKind.wrap .i64 ((IntKind.wrap .i64 (10 * (a : Int))) + (IntKind.wrap .i64 (IntKind.wrap .u8 (((s.data.toList[i].toNat : Nat) : Int) - 48)))) = ((10 * a + (s.data.toList[i].toNat - 48) : Nat) : Int) := by
          rw [w_u8 (by omega), w_in (x := 10 * (a : Int)) (by unfold I64; omega), w_in (x := ((s.data.toList[i].toNat : Nat) : Int) - 48) (by unfold I64; omega), w_in (by unfold I64; omega)]
          omega
        rw [e, spec_l01Number_l5_is s hs k (i + 1) _ h (by omega) (by rw [Nat.pow_succ]; omega), valA_cons]
        by_cases hr : ∀ x ∈ s.data.toList.drop (i + 1), isDg x
        · rw [if_pos hr, if_pos]
          intro x hx
          rcases List.mem_cons.1 hx with rfl | hx
          · exact hd
          · exact hr x hx
        · rw [if_neg hr, if_neg]
          exact fun hh => hr fun x hx => hh x (by simp [hx])
      · rw [if_neg (fun hh => hd (hh _ (by simp)))]
        unfold isDg at hd
        by_cases h1 : s.data.toList[i].toNat < 48
        · rw [dec_t (by omega), cond_true]
        · rw [dec_f (by omega), cond_false, dec_t (by omega), cond_true]
    · have : i = s.data.toList.length := by omega
      subst this
      rw [lt_f (Nat.lt_irrefl _), cond_false, List.drop_length, if_pos (by simp)]
      rfl

theorem spec_l01Number_is (s : ByteArray) : spec_l01Number N0 s = match numS s.data.toList with | some u => r2 (u : Int) true | none => r2 0 false := by
  have := N0_big
  have hl := size_len s
  have he : eqStr s (ByteArray.mk #[]) = decide (s.data.toList = []) := by
    unfold eqStr
    rw [ByteArray.toList_eq, ByteArray.toList_eq]
    by_cases h : s.data.toList = []
    · rw [dec_t h, h]
      rfl
    · rw [dec_f h]
      simpa using h
  unfold spec_l01Number spec_l01Number_t
  rw [he, hl]
  by_cases h0 : s.data.toList = []
  · rw [dec_t h0, cond_true, h0]
    unfold numS
    rw [if_neg (by simp)]
  · rw [dec_f h0, cond_false]
    by_cases h1 : s.data.toList.length ≤ 10
    · have hpos : 0 < s.data.toList.length := List.length_pos_iff.2 h0
      rw [dec_f (by omega), cond_false, dec_t (by omega), cond_true, show byteAt s 0 = ((s.data.toList[0].toNat : Nat) : Int) from byteAt_ix (i := 0) hpos]
      have hloop := spec_l01Number_l5_is s (by omega) N0 0 0 (by omega) (by omega) (by decide)
      rw [List.drop_zero] at hloop
      have hcons : s.data.toList = s.data.toList[0] :: s.data.toList.drop 1 := by
        have := drop_ix (v := s.data.toList) (i := 0) hpos
        rwa [List.drop_zero] at this
      by_cases hz : s.data.toList[0].toNat = 48 ∧ 1 < s.data.toList.length
      · rw [eq_t (by omega), cond_true, dec_t (by omega), cond_true]
        unfold numS
        rw [if_neg]
        rintro ⟨_, _, _, hh⟩
        exact hh _ _ hcons (by
          intro e
          have := congrArg List.length e
          simp at this
          omega) hz.1
      · have key : spec_l01Number_l5 N0 N0 0 s 0 = match numS s.data.toList with | some u => r2 (u : Int) true | none => r2 0 false := by
          refine Eq.trans hloop ?_
          unfold numS
          by_cases hd : ∀ x ∈ s.data.toList, isDg x
          · have hzz : ∀ x r, s.data.toList = x :: r → r ≠ [] → x.toNat ≠ 48 := by
             intro x r e hr
             have hx : x = s.data.toList[0] := by
               have := congrArg (fun l => l[0]?) e
               simp only [List.getElem?_cons_zero] at this
               rw [List.getElem?_eq_getElem hpos] at this
               injection this with this
               exact this.symm
             have hlen := congrArg List.length e
             rw [List.length_cons] at hlen
             have hr' := List.length_pos_iff.2 hr
             rw [hx]
             intro h48
             exact hz ⟨h48, by omega⟩
            rw [if_pos hd, if_pos ⟨h0, h1, hd, hzz⟩]
          · rw [if_neg hd, if_neg (fun hh => hd hh.2.2.1)]
        by_cases hz0 : s.data.toList[0].toNat = 48
        · rw [eq_t (by omega), cond_true, dec_f (by omega), cond_false]
          exact key
        · rw [eq_f (by omega), cond_false]
          exact key
    · rw [dec_t (by omega), cond_true]
      unfold numS
      rw [if_neg (fun hh => h1 hh.2.1)]
end Go.Abs
