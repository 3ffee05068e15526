/- What the program's and the reference's small functions over fractions and angles give. -/
import Derived.Test.YtpamckmeeamjjaaGreatDoorDPFracs0
import Derived.Test.YtpamckmeeamjjaaGreatDoorBase
namespace Go.Abs
set_option linter.unusedSimpArgs false
set_option linter.unusedSectionVars false
set_option linter.unusedVariables false

/-- between two numbers -/
def btw (x lo hi : Int) : Bool := decide (lo ≤ x) && decide (x ≤ hi)

theorem btw_iff {x lo hi : Int} : btw x lo hi = true ↔ lo ≤ x ∧ x ≤ hi := by simp [btw]

theorem impl_within_is (n : Nat) (x lo hi : Int) : impl_within n x lo hi = r1 (btw x lo hi) := by
  simp only [impl_within, impl_within_t]
  cases h : decide (lo ≤ x) <;> simp [btw, h]

theorem spec_l00In_is (n : Nat) (x lo hi : Int) : spec_l00In n x lo hi = r1 (btw x lo hi) := by
  simp only [spec_l00In, spec_l00In_t]
  by_cases h : lo ≤ x <;> simp [btw, h]

theorem gcd_tmod (a b : Int) : Int.gcd b (a.tmod b) = Int.gcd a b := by
  rw [Int.gcd_eq_natAbs_gcd_natAbs, Int.gcd_eq_natAbs_gcd_natAbs, Int.natAbs_tmod, Nat.gcd_comm b.natAbs, ← Nat.gcd_rec, Nat.gcd_comm]

theorem impl_gcd_l (n : Nat) : ∀ (k : Nat) (b a : Int), b.natAbs < k → a.natAbs < 9223372036854775808 → b.natAbs < 9223372036854775808 →
    impl_gcd_l1 n k b a = r1 ((Int.gcd a b : Nat) : Int)
  | 0, b, a, h, _, _ => by omega
  | k + 1, b, a, h, ha, hb => by
    simp only [impl_gcd_l1, impl_gcd_t1]
    by_cases h0 : b = 0
    · subst h0
      have hw : IntKind.wrap .i64 (0 - a) = -a := by rw [w_in (by unfold I64; omega)]; omega
      simp only [hw, bne_self_eq_false, cond_false, Int.gcd_zero_right]
      congr 4
      split <;> omega
    · have hm := tmod_natAbs_lt a h0
      simp only [ne_true h0, cond_true]
      rw [impl_gcd_l n k (a.tmod b) b (by omega) hb (by omega), gcd_tmod]

theorem impl_gcd_is {a b : Int} (ha : a.natAbs < 9223372036854775808) (hb : b.natAbs < 9223372036854775808) : impl_gcd N0 a b = r1 ((Int.gcd a b : Nat) : Int) := by
  have := N0_big
  simp only [impl_gcd, impl_gcd_t]
  exact impl_gcd_l N0 N0 b a (by omega) ha hb

theorem spec_l01Gcd_l (n : Nat) : ∀ (k : Nat) (b a : Int), b.natAbs < k → 0 ≤ a → 0 ≤ b →
    spec_l01Gcd_l1 n k b a = r1 ((Int.gcd a b : Nat) : Int)
  | 0, b, a, h, _, _ => by omega
  | k + 1, b, a, h, ha, hb => by
    simp only [spec_l01Gcd_l1, spec_l01Gcd_t1]
    by_cases h0 : b = 0
    · subst h0
      simp only [bne_self_eq_false, cond_false, Int.gcd_zero_right]
      congr 4
      omega
    · have hm := tmod_natAbs_lt a h0
      simp only [ne_true h0, cond_true]
      rw [spec_l01Gcd_l n k (a.tmod b) b (by omega) hb (Int.tmod_nonneg b ha), gcd_tmod]

theorem spec_l01Gcd_is {a b : Int} (ha : 0 ≤ a) (hb : 0 ≤ b) (hb' : b < 9223372036854775808) : spec_l01Gcd N0 a b = r1 ((Int.gcd a b : Nat) : Int) := by
  have := N0_big
  simp only [spec_l01Gcd, spec_l01Gcd_t]
  exact spec_l01Gcd_l N0 N0 b a (by omega) ha hb

theorem spec_l01Abs_is (n : Nat) {a : Int} (ha : a.natAbs < 9223372036854775808) : spec_l01Abs n a = r1 ((a.natAbs : Nat) : Int) := by
  simp only [spec_l01Abs, spec_l01Abs_t]
  by_cases h : a < 0
  · rw [dec_t h, w_in (by unfold I64; omega)]
    simp only [cond_true]
    congr 4
    omega
  · rw [dec_f h]
    simp only [cond_false]
    congr 4
    omega

/-- a valid fraction -/
def vF (a : Int × Int) : Bool := btw a.2 1 1000000000 && (btw a.1 (-1000000000) 1000000000 && (((Int.gcd a.1 a.2 : Nat) : Int) == 1))

theorem vF_bd {a : Int × Int} (h : vF a = true) : (1 ≤ a.2 ∧ a.2 ≤ 1000000000) ∧ (-1000000000 ≤ a.1 ∧ a.1 ≤ 1000000000) := by
  simp only [vF, btw, Bool.and_eq_true, decide_eq_true_eq] at h
  exact ⟨h.1, h.2.1⟩

theorem impl_ValidFrac_is (a : Int × Int) : impl_ValidFrac N0 a = r1 (vF a) := by
  simp only [impl_ValidFrac, impl_ValidFrac_t, impl_within_is, Option.bind_some, vF]
  cases h1 : btw a.2 1 1000000000
  · rfl
  · simp only [cond_true, Bool.true_and]
    cases h2 : btw a.1 (-1000000000) 1000000000
    · rfl
    · simp only [btw, Bool.and_eq_true, decide_eq_true_eq] at h1 h2
      rw [impl_gcd_is (by omega) (by omega)]
      rfl

theorem gcd_abs_l (a b : Int) : Int.gcd ((a.natAbs : Nat) : Int) b = Int.gcd a b := by
  rw [Int.gcd_eq_natAbs_gcd_natAbs, Int.gcd_eq_natAbs_gcd_natAbs, Int.natAbs_natCast]
theorem gcd_abs_r (a b : Int) : Int.gcd a ((b.natAbs : Nat) : Int) = Int.gcd a b := by
  rw [Int.gcd_eq_natAbs_gcd_natAbs, Int.gcd_eq_natAbs_gcd_natAbs, Int.natAbs_natCast]

theorem spec_l01Ok_is (a : Int × Int) : spec_l01Ok N0 a = r1 (vF a) := by
  simp only [spec_l01Ok, spec_l01Ok_t, spec_l00In_is, Option.bind_some, vF]
  cases h1 : btw a.2 1 1000000000
  · rfl
  · simp only [cond_true, Bool.true_and]
    cases h2 : btw a.1 (-1000000000) 1000000000
    · rfl
    · simp only [btw, Bool.and_eq_true, decide_eq_true_eq] at h1 h2
      rw [spec_l01Abs_is N0 (by omega)]
      simp only [Option.bind_some, cond_true]
      rw [spec_l01Gcd_is (by omega) (by omega) (by omega), gcd_abs_l]
      rfl

/-- a fraction in lowest terms -/
def redP (p q : Int) : Int × Int :=
  bif decide (q < 0) then ((-p).tdiv ((Int.gcd p q : Nat) : Int), (-q).tdiv ((Int.gcd p q : Nat) : Int)) else (p.tdiv ((Int.gcd p q : Nat) : Int), q.tdiv ((Int.gcd p q : Nat) : Int))

/-- the valid fraction p / q -/
def mkF (p q : Int) : Option (Int × Int) := bif vF (redP p q) then some (redP p q) else none

theorem mkF_valid {p q : Int} {a : Int × Int} (h : mkF p q = some a) : vF a = true := by
  unfold mkF at h
  cases hv : vF (redP p q) with
  | false => rw [hv] at h; cases h
  | true => rw [hv] at h; injection h with h; rw [← h]; exact hv

theorem gcd_pos {p q : Int} (hq : q ≠ 0) : (0 : Int) < ((Int.gcd p q : Nat) : Int) := by
  have : 0 < Int.gcd p q := Int.gcd_pos_of_ne_zero_right p hq
  omega

/-- a number of which the opposite can be told -/
abbrev small (x : Int) : Prop := x.natAbs < 9223372036854775808

theorem w_tdiv {p g : Int} (hp : small p) : IntKind.wrap .i64 (p.tdiv g) = p.tdiv g := by
  have := tdiv_natAbs_le p g
  unfold small at hp
  exact w_in (by unfold I64; omega)

theorem w_neg {p : Int} (hp : small p) : IntKind.wrap .i64 (0 - p) = -p := by
  unfold small at hp
  rw [w_in (by unfold I64; omega)]; omega

theorem impl_fracOf_is {p q : Int} (hp : small p) (hq : small q) (h0 : q ≠ 0) : impl_fracOf N0 p q = r2 ((mkF p q).getD (0, 0)) (mkF p q).isSome := by
  have hg := gcd_pos (p := p) h0
  have hg' : (((Int.gcd p q : Nat) : Int) != 0) = true := ne_true (by omega)
  have hp' : small (-p) := by unfold small at *; omega
  have hq' : small (-q) := by unfold small at *; omega
  have key : ∀ a : Int × Int, (impl_ValidFrac N0 a).bind (fun r1 =>
        cond (!r1.1.1.1)
        (some (((((0, 0), ()), ((false, ()), ())), ())))
        (some ((((a, ()), ((true, ()), ())), ())))) = r2 ((bif vF a then some a else none).getD (0, 0)) (bif vF a then some a else none).isSome := by
    intro a
    rw [impl_ValidFrac_is]
    cases hv : vF a <;> simp
  simp only [impl_fracOf, impl_fracOf_t, mkF, redP]
  by_cases h : q < 0
  · rw [dec_t h, w_neg hp, w_neg hq, cond_true, impl_gcd_is hp' hq', Int.gcd_neg, Int.neg_gcd]
    simp only [Option.bind_some, hg', cond_true, w_tdiv hp', w_tdiv hq']
    exact key _
  · rw [dec_f h, cond_false, impl_gcd_is hp hq]
    simp only [Option.bind_some, hg', cond_true, w_tdiv hp, w_tdiv hq, cond_false]
    exact key _

theorem tdiv_neg_iff {q g : Int} (hg : 0 < g) (hd : g ∣ q) : (q.tdiv g < 0) ↔ q < 0 := by
  obtain ⟨c, rfl⟩ := hd
  rw [Int.mul_tdiv_cancel_left _ (by omega)]
  constructor
  · intro h
    have := Int.mul_lt_mul_of_pos_left h hg
    omega
  · intro h
    by_cases hc : c < 0
    · exact hc
    · have := Int.mul_nonneg (show 0 ≤ g by omega) (show 0 ≤ c by omega)
      omega

theorem spec_l01Reduced_is {p q : Int} (hp : small p) (hq : small q) (h0 : q ≠ 0) : spec_l01Reduced N0 p q = r2 ((mkF p q).getD (0, 0)) (bif (mkF p q).isSome then 0 else 3) := by
  have hg := gcd_pos (p := p) h0
  have hg' : (((Int.gcd p q : Nat) : Int) != 0) = true := ne_true (by omega)
  have hp' : small (-p) := by unfold small at *; omega
  have hq' : small (-q) := by unfold small at *; omega
  have key : ∀ a : Int × Int, (spec_l01Ok N0 a).bind (fun r1 =>
        cond (!r1.1.1.1)
        (some (((((0, 0), ()), (((3 : Int), ()), ())), ())))
        (some ((((a, ()), (((0 : Int), ()), ())), ())))) = r2 ((bif vF a then some a else none).getD (0, 0)) (bif (bif vF a then some a else none).isSome then 0 else 3) := by
    intro a
    rw [spec_l01Ok_is]
    cases hv : vF a <;> simp
  have hs : ∀ x, small x → small (x.tdiv ((Int.gcd p q : Nat) : Int)) := by
    intro x hx
    have := tdiv_natAbs_le x ((Int.gcd p q : Nat) : Int)
    unfold small at *
    omega
  simp only [spec_l01Reduced, spec_l01Reduced_t, mkF, redP]
  rw [spec_l01Abs_is N0 hp, spec_l01Abs_is N0 hq]
  simp only [Option.bind_some]
  rw [spec_l01Gcd_is (by omega) (by omega) (by unfold small at hq; omega), gcd_abs_l, gcd_abs_r]
  simp only [Option.bind_some, hg', cond_true, w_tdiv hp, w_tdiv hq]
  have hlt := tdiv_neg_iff hg (Int.gcd_dvd_right (a := p) (b := q))
  by_cases h : q < 0
  · rw [dec_t h, dec_t (hlt.2 h), cond_true, w_neg (hs p hp), w_neg (hs q hq), ← Int.neg_tdiv, ← Int.neg_tdiv]
    exact key _
  · rw [dec_f h, dec_f (fun h' => h (hlt.1 h')), cond_false]
    exact key _

theorem impl_zero_is (n : Nat) : impl_zero n = r1 (0, 1) := rfl

theorem impl_calc_told_is {p q : Int} (c : Bool) (hp : small p) (hq : small q) (h0 : q ≠ 0) : impl_calc_told N0 p q c = c1 ((mkF p q).getD (0, 1)) (c || (mkF p q).isNone) := by
  simp only [impl_calc_told, impl_calc_told_t, impl_fracOf_is hp hq h0, impl_zero_is, Option.bind_some]
  cases mkF p q <;> simp

theorem impl_calc_one_is (n : Nat) (a : Int × Int) (c : Bool) : impl_calc_one n a c = c2 (bif c then (0, 0) else a) (bif c then 3 else 0) c := by
  cases c <;> rfl

/-! ### angles -/
theorem impl_wrap_is (n : Nat) (x : Int) : impl_wrap n x = r1 (x % 1296000) := by
  simp only [impl_wrap, impl_wrap_t]
  have h1 := Int.emod_nonneg x (show (1296000 : Int) ≠ 0 by decide)
  have h2 := Int.emod_lt_of_pos x (show (0 : Int) < 1296000 by decide)
  congr 4
  have ht : x.tmod 1296000 = if 0 ≤ x ∨ (1296000 : Int) ∣ x then x % 1296000 else x % 1296000 - 1296000 := by
    rw [Int.tmod_eq_emod]; split <;> simp
  have hr : -1296000 < x.tmod 1296000 ∧ x.tmod 1296000 < 1296000 := by rw [ht]; split <;> omega
  rw [w_in (by unfold I64; omega), Int.tmod_eq_emod_of_nonneg (by omega), ht]
  split
  · omega
  · omega

theorem spec_l03Wrap_is (n : Nat) (x : Int) : spec_l03Wrap n x = r1 (x % 1296000) := by
  simp only [spec_l03Wrap, spec_l03Wrap_t]
  have h1 := Int.emod_nonneg x (show (1296000 : Int) ≠ 0 by decide)
  have h2 := Int.emod_lt_of_pos x (show (0 : Int) < 1296000 by decide)
  have ht : x.tmod 1296000 = if 0 ≤ x ∨ (1296000 : Int) ∣ x then x % 1296000 else x % 1296000 - 1296000 := by
    rw [Int.tmod_eq_emod]; split <;> simp
  rw [ht]
  split
  · rw [dec_f (by omega), cond_false]
  · rw [dec_t (by omega), cond_true, w_in (by unfold I64; omega)]
    congr 4
    omega

/-- an angle -/
abbrev isAng (x : Int) : Bool := btw x 0 1295999
/-- by how much one has to turn -/
def turn (a b : Int) : Int := bif decide ((b - a) % 1296000 > 648000) then (b - a) % 1296000 - 1296000 else (b - a) % 1296000

theorem turn_bd (a b : Int) : -648000 < turn a b ∧ turn a b ≤ 648000 := by
  unfold turn
  by_cases h : (b - a) % 1296000 > 648000
  · rw [dec_t h, cond_true]; omega
  · rw [dec_f h, cond_false]; omega

theorem impl_isAngle_is (n : Nat) (x : Int) : impl_isAngle n x = r1 (isAng x) := by
  simp only [impl_isAngle, impl_isAngle_t, impl_within_is, Option.bind_some]
theorem spec_l03Angle_is (n : Nat) (x : Int) : spec_l03Angle n x = r1 (isAng x) := by
  simp only [spec_l03Angle, spec_l03Angle_t, spec_l00In_is, Option.bind_some]

theorem impl_turnFrom_is (n : Nat) {a b : Int} (h : I64 (b - a)) : impl_turnFrom n a b = r1 (turn a b) := by
  simp only [impl_turnFrom, impl_turnFrom_t, impl_wrap_is, Option.bind_some, w_in h, turn]
  by_cases h : (b - a) % 1296000 > 648000
  · rw [dec_t h, cond_true, cond_true, w_in (by unfold I64; omega)]
  · rw [dec_f h, cond_false, cond_false]

theorem spec_l03Turn_is (n : Nat) {a b : Int} (h : I64 (b - a)) : spec_l03Turn n a b = r1 (turn a b) := by
  simp only [spec_l03Turn, spec_l03Turn_t, spec_l03Wrap_is, Option.bind_some, w_in h, turn]
  by_cases h : (b - a) % 1296000 > 648000
  · rw [dec_t h, cond_true, cond_true, w_in (by unfold I64; omega)]
  · rw [dec_f h, cond_false, cond_false]

theorem laws_eqFrac_is (n : Nat) (a b : Int × Int) : laws_eqFrac n a b = r1 (a == b) := by
  obtain ⟨a1, a2⟩ := a
  obtain ⟨b1, b2⟩ := b
  simp only [laws_eqFrac, laws_eqFrac_t]
  by_cases h1 : a1 = b1
  · by_cases h2 : a2 = b2
    · simp [h1, h2]
    · rw [ne_true h2]; simp [h1, h2]
  · rw [ne_true h1]; simp [h1]
end Go.Abs
