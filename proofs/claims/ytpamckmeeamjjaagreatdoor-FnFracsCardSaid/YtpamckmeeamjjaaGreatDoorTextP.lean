/- Texts: numbers in decimal. -/
import Derived.Test.YtpamckmeeamjjaaGreatDoorPrims
namespace Go.Abs
set_option linter.unusedSectionVars false
set_option linter.unusedSimpArgs false
set_option linter.unusedVariables false

/-- the string of some bytes -/
abbrev bs (l : List UInt8) : ByteArray := ByteArray.mk l.toArray

theorem bs_append (l m : List UInt8) : bs l ++ bs m = bs (l ++ m) := by
  apply ByteArray.ext
  simp [ByteArray.data_append]

theorem bs_size (l : List UInt8) : (bs l).size = l.length := by simp [ByteArray.size]

theorem bs_eta (s : ByteArray) : s = bs s.data.toList := by
  apply ByteArray.ext
  simp

theorem byteStr_onT (x : Int) : byteStr (x :: []) = bs [UInt8.ofNat x.toNat] := rfl

theorem room_bs {l m : List UInt8} (h : l.length + m.length ≤ 1000000) : roomStr (bs l) (bs m) = true := by
  unfold roomStr
  rw [bs_size, bs_size]
  exact Nat.ble_eq_true_of_le (by omega)

open Go.Lib (decDigits itoa)

theorem dig_small {u : Nat} (h : u < 10) : decDigits u = [UInt8.ofNat (48 + u)] := by rw [decDigits, dif_pos h]
theorem dig_big {u : Nat} (h : ¬ u < 10) : decDigits u = decDigits (u / 10) ++ [UInt8.ofNat (48 + u % 10)] := by rw [decDigits, dif_neg h]

theorem dig_len : ∀ (d u : Nat), u < 2 ^ d → (decDigits u).length ≤ d + 1
  | 0, u, h => by rw [dig_small (by simp at h; omega)]; simp
  | d + 1, u, h => by
    by_cases h' : u < 10
    · rw [dig_small h']; simp
    · rw [dig_big h']
      have := dig_len d (u / 10) (by rw [Nat.pow_succ] at h; omega)
      simp only [List.length_append, List.length_cons, List.length_nil]
      omega

theorem w_u8 {x : Int} (h : 0 ≤ x ∧ x ≤ 255) : IntKind.wrap .u8 x = x := by
  have := IntKind.wrap_u8 x
  rw [this]
  omega

theorem digit_is {n : Int} (h : 0 ≤ n) : byteStr ((IntKind.wrap .u8 (IntKind.wrap .i64 (48 + (Int.tmod n 10)))) :: []) = bs [UInt8.ofNat (48 + n.toNat % 10)] := by
  have e : Int.tmod n 10 = n % 10 := Int.tmod_eq_emod_of_nonneg h
  rw [e, w_in (by unfold I64; omega), w_u8 (by omega), byteStr_onT]
  congr 3
  omega

theorem spec_Decimal_r_is (n0 : Nat) : ∀ (d : Nat) (n : Int), 0 ≤ n → n ≤ 9223372036854775807 → n.toNat < 2 ^ d → spec_Decimal_r n0 (d + 1) n = r1 (bs (decDigits n.toNat))
  | 0, n, h0, h1, h => by
    have : n = 0 := by simp at h; omega
    subst this
    simp only [spec_Decimal_r, spec_Decimal_t, digit_is h0]
    rw [dec_t (by omega), cond_true, dig_small (by omega)]
    rfl
  | d + 1, n, h0, h1, h => by
    rw [spec_Decimal_r]
    unfold spec_Decimal_t
    rw [digit_is h0]
    by_cases h' : n < 10
    · rw [dec_t h', cond_true, dig_small (by omega), Nat.mod_eq_of_lt (by omega)]
    · have e : Int.tdiv n 10 = n / 10 := Int.tdiv_eq_ediv_of_nonneg h0
      have e2 : (n / 10).toNat = n.toNat / 10 := by omega
      have h2 : (n / 10).toNat < 2 ^ d := by rw [Nat.pow_succ] at h; omega
      rw [dec_f h', cond_false, e, w_in (by unfold I64; omega), spec_Decimal_r_is n0 d (n / 10) (by omega) (by omega) h2, Option.bind_some]
      have hl := dig_len 63 (n.toNat / 10) (by omega)
      simp only [e2]
      rw [room_bs (by simp; omega), cond_true, bs_append, ← dig_big (by omega)]

theorem spec_Decimal_is {n : Int} (h0 : 0 ≤ n) (h1 : n ≤ 9223372036854775807) : spec_Decimal N0 n = r1 (bs (decDigits n.toNat)) := by
  have := N0_big
  obtain ⟨d, hd⟩ : ∃ d, N0 = d + 1 := ⟨N0 - 1, by omega⟩
  unfold spec_Decimal
  have := spec_Decimal_r_is N0 d n h0 h1 (by
    have h2 : 2 ^ 63 ≤ 2 ^ d := Nat.pow_le_pow_right (by omega) (by omega)
    omega)
  rw [← hd] at this
  exact this

theorem impl_dec_is {n : Int} (h : I64 n) : impl_dec N0 n = r1 (bs (itoa n)) := by
  unfold impl_dec impl_dec_t strconv_FormatInt
  rw [dec_t h.1, dec_t h.2]
  rfl

theorem itoa_nn {n : Int} (h : 0 ≤ n) : itoa n = decDigits n.toNat := by unfold itoa; rw [if_neg (by omega)]

/-- two digits -/
def twoT (n : Nat) : List UInt8 := [UInt8.ofNat (48 + n / 10), UInt8.ofNat (48 + n % 10)]

theorem impl_two_is {n : Int} (h : 0 ≤ n ∧ n < 100) : impl_two N0 n = r1 (bs (twoT n.toNat)) := by
  have hI : I64 n := by unfold I64; omega
  unfold impl_two impl_two_t
  rw [impl_dec_is hI, Option.bind_some, Option.bind_some, itoa_nn h.1]
  by_cases h' : n < 10
  · rw [dec_t h', cond_true, dig_small (by omega)]
    dsimp only
    rw [show (ByteArray.mk #[48]) = bs [48] from rfl, room_bs (by simp), cond_true, bs_append]
    unfold twoT
    rw [Nat.div_eq_of_lt (by omega), Nat.mod_eq_of_lt (by omega)]
    rfl
  · rw [dec_f h', cond_false, dig_big (by omega), dig_small (by omega)]
    rfl

theorem spec_l03Two_is {n : Int} (h : 0 ≤ n ∧ n < 100) : spec_l03Two N0 n = r1 (bs (twoT n.toNat)) := by
  have e : Int.tdiv n 10 = n / 10 := Int.tdiv_eq_ediv_of_nonneg h.1
  have e' : Int.tmod n 10 = n % 10 := Int.tmod_eq_emod_of_nonneg h.1
  unfold spec_l03Two spec_l03Two_t
  rw [e, e', w_in (by unfold I64; omega), spec_Decimal_is (by omega) (by omega), Option.bind_some, spec_Decimal_is (by omega) (by omega), Option.bind_some]
  dsimp only
  rw [dig_small (by omega), dig_small (by omega), room_bs (by simp), cond_true, bs_append]
  unfold twoT
  rw [show (n / 10).toNat = n.toNat / 10 by omega, show (n % 10).toNat = n.toNat % 10 by omega]
  rfl

/-- the text of an angle -/
def angT (a : Int) : List UInt8 := decDigits (a / 3600).toNat ++ [58] ++ twoT (a / 60 % 60).toNat ++ [58] ++ twoT (a % 60).toNat

theorem angle_iff {a : Int} : isAng a = true ↔ 0 ≤ a ∧ a < 1296000 := by
  unfold isAng
  rw [btw_iff]
  omega

theorem impl_AngleText_is (a : Int) : impl_AngleText N0 a = r1 (bs (bif isAng a then angT a else [])) := by
  unfold impl_AngleText impl_AngleText_t
  rw [impl_isAngle_is, Option.bind_some]
  dsimp only
  cases h : isAng a with
  | false => rfl
  | true =>
    have hb := angle_iff.1 h
    have e1 : Int.tdiv a 3600 = a / 3600 := Int.tdiv_eq_ediv_of_nonneg hb.1
    have e2 : Int.tdiv a 60 = a / 60 := Int.tdiv_eq_ediv_of_nonneg hb.1
    have e3 : Int.tmod (a / 60) 60 = a / 60 % 60 := Int.tmod_eq_emod_of_nonneg (by omega)
    have e4 : Int.tmod a 60 = a % 60 := Int.tmod_eq_emod_of_nonneg hb.1
    have hl := dig_len 21 (a / 3600).toNat (by omega)
    rw [Bool.not_true, cond_false, cond_true, e1, e2, w_in (by unfold I64; omega), w_in (by unfold I64; omega), e3, e4, impl_dec_is (by unfold I64; omega), Option.bind_some, itoa_nn (by omega)]
    dsimp only
    rw [show (ByteArray.mk #[58]) = bs [58] from rfl, room_bs (by simp; omega), cond_true, impl_two_is (by omega), Option.bind_some]
    dsimp only
    rw [bs_append, room_bs (by simp [twoT]; omega), cond_true, bs_append, room_bs (by simp [twoT]; omega), cond_true, impl_two_is (by omega), Option.bind_some]
    dsimp only
    rw [bs_append, room_bs (by simp [twoT]; omega), cond_true, bs_append]
    rfl

theorem spec_AngleText_is (a : Int) : spec_AngleText N0 a = r1 (bs (bif isAng a then angT a else [])) := by
  unfold spec_AngleText spec_AngleText_t
  rw [spec_l03Angle_is, Option.bind_some]
  dsimp only
  cases h : isAng a with
  | false => rfl
  | true =>
    have hb := angle_iff.1 h
    have e1 : Int.tdiv a 3600 = a / 3600 := Int.tdiv_eq_ediv_of_nonneg hb.1
    have e2 : Int.tdiv a 60 = a / 60 := Int.tdiv_eq_ediv_of_nonneg hb.1
    have e3 : Int.tmod (a / 60) 60 = a / 60 % 60 := Int.tmod_eq_emod_of_nonneg (by omega)
    have e4 : Int.tmod a 60 = a % 60 := Int.tmod_eq_emod_of_nonneg hb.1
    have hl := dig_len 21 (a / 3600).toNat (by omega)
    rw [Bool.not_true, cond_false, cond_true, e1, e2, w_in (by unfold I64; omega), w_in (by unfold I64; omega), e3, e4, spec_Decimal_is (by omega) (by omega), Option.bind_some]
    dsimp only
    rw [show (ByteArray.mk #[58]) = bs [58] from rfl, room_bs (by simp; omega), cond_true, spec_l03Two_is (by omega), Option.bind_some]
    dsimp only
    rw [bs_append, room_bs (by simp [twoT]; omega), cond_true, bs_append, room_bs (by simp [twoT]; omega), cond_true, spec_l03Two_is (by omega), Option.bind_some]
    dsimp only
    rw [bs_append, room_bs (by simp [twoT]; omega), cond_true, bs_append]
    rfl
end Go.Abs
