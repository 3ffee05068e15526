/- Fractions over one denominator. -/
import Derived.Test.YtpamckmeeamjjaaGreatDoorFrA
import Derived.Test.YtpamckmeeamjjaaGreatDoorShare
namespace Go.Abs
set_option linter.unusedSectionVars false
set_option linter.unusedSimpArgs false
set_option linter.unusedVariables false

/-- A of D parts -/
def cF (D A : Int) : Fq := (mkF A D).getD (0, 1)
abbrev Dn (D : Int) : Prop := 1 ≤ D ∧ D ≤ 100000

section
variable {D : Int} (h : Dn D) {A B : Int}
include h

theorem cF_some (hA : Sm A) : mkF A D = some (cF D A) ∧ vF (cF D A) = true := by
  obtain ⟨g, a, e, hv, _⟩ := mkF_small (p := A) (q := D) (by omega) (by omega)
  unfold cF
  rw [e]
  exact ⟨rfl, hv⟩

theorem cF_of (hA : Sm A) {P Q : Int} (hQ : 0 < Q) (e : P * D = A * Q) : mkF P Q = some (cF D A) := by
  rw [mkF_same (P' := A) (Q' := D) hQ (by omega) e]
  exact (cF_some h hA).1

theorem cF_is (hA : Sm A) {a : Fq} (ha : vF a = true) (e : a.1 * D = A * a.2) : a = cF D A := by
  have := cF_of h hA (by have := vF_bd ha; omega) e
  rw [mkF_self ha] at this
  exact Option.some.inj this

theorem cF_val (hA : Sm A) : (cF D A).1 * D = A * (cF D A).2 := (mkF_parts' (by omega) (cF_some h hA).1).symm
theorem cF_bd (hA : Sm A) : Bd (cF D A) := Bd.of (cF_some h hA).2

theorem cF_add (hA : Sm A) (hB : Sm B) (hC : Sm (A + B)) : fadd (cF D A) (cF D B) = some (cF D (A + B)) := by
  have ha := (cF_bd h hA).1
  have hb := (cF_bd h hB).1
  have ea := cF_val h hA
  have eb := cF_val h hB
  refine cF_of h hC (Int.mul_pos (by omega) (by omega)) ?_
  grind

theorem cF_sub (hA : Sm A) (hB : Sm B) (hC : Sm (A - B)) : fsub (cF D A) (cF D B) = some (cF D (A - B)) := by
  have ha := (cF_bd h hA).1
  have hb := (cF_bd h hB).1
  have ea := cF_val h hA
  have eb := cF_val h hB
  refine cF_of h hC (Int.mul_pos (by omega) (by omega)) ?_
  grind

theorem cF_cross (hA : Sm A) (hB : Sm B) : (cF D A).1 * (cF D B).2 < (cF D B).1 * (cF D A).2 ↔ A < B := by
  have ha := (cF_bd h hA).1
  have hb := (cF_bd h hB).1
  have ea := cF_val h hA
  have eb := cF_val h hB
  have hk : 0 < D := by omega
  have hm : 0 < (cF D A).2 * (cF D B).2 := Int.mul_pos (by omega) (by omega)
  have e1 : D * ((cF D A).1 * (cF D B).2) = ((cF D A).2 * (cF D B).2) * A := by grind
  have e2 : D * ((cF D B).1 * (cF D A).2) = ((cF D A).2 * (cF D B).2) * B := by grind
  constructor
  · intro hl
    have := Int.mul_lt_mul_of_pos_left hl hk
    rw [e1, e2] at this
    exact Int.lt_of_mul_lt_mul_left this (by omega)
  · intro hl
    have := Int.mul_lt_mul_of_pos_left hl hm
    rw [← e1, ← e2] at this
    exact Int.lt_of_mul_lt_mul_left this (by omega)

theorem cF_cmp (hA : Sm A) (hB : Sm B) : cmpF (cF D A) (cF D B) = bif decide (A < B) then -1 else bif decide (A > B) then 1 else 0 := by
  have ha := cF_bd h hA
  have hb := cF_bd h hB
  have h1 := bd_pq ha hb
  have h2 := bd_pq hb ha
  unfold cmpF
  rw [w_in (x := (cF D A).1 * (cF D B).2) (by unfold I64; omega), w_in (x := (cF D B).1 * (cF D A).2) (by unfold I64; omega)]
  have c1 := cF_cross h hA hB
  have c2 := cF_cross h hB hA
  rw [decide_eq_decide.2 c1]
  have : decide ((cF D A).1 * (cF D B).2 > (cF D B).1 * (cF D A).2) = decide (A > B) := decide_eq_decide.2 c2
  rw [this]

theorem cF_lt (hA : Sm A) (hB : Sm B) : decide (cmpF (cF D A) (cF D B) < 0) = decide (A < B) := by
  rw [cF_cmp h hA hB]
  by_cases h1 : A < B
  · rw [dec_t h1]; rfl
  · rw [dec_f h1]
    by_cases h2 : A > B
    · rw [dec_t h2]; rfl
    · rw [dec_f h2]; rfl

theorem cF_le (hA : Sm A) (hB : Sm B) : decide (cmpF (cF D A) (cF D B) ≤ 0) = decide (A ≤ B) := by
  rw [cF_cmp h hA hB]
  by_cases h1 : A < B
  · rw [dec_t h1, dec_t (p := A ≤ B) (by omega)]; rfl
  · rw [dec_f h1]
    by_cases h2 : A > B
    · rw [dec_t h2, dec_f (p := A ≤ B) (by omega)]; rfl
    · rw [dec_f h2, dec_t (p := A ≤ B) (by omega)]; rfl

theorem cF_inj (hA : Sm A) (hB : Sm B) (e : cF D A = cF D B) : A = B := by
  have c1 := cF_cross h hA hB
  have c2 := cF_cross h hB hA
  rw [e] at c1 c2
  omega

theorem cF_neg (hA : Sm A) : (-(cF D A).1, (cF D A).2) = cF D (-A) := by
  have := mkF_neg (by omega) (cF_some h hA).1
  rw [(cF_some h (by unfold Sm at *; omega : Sm (-A))).1] at this
  exact (Option.some.inj this).symm
end

theorem f6less_is {a b : Fq} (ha : vF a = true) (hb : vF b = true) : laws_f6less N0 a b = r1 (decide (cmpF a b < 0)) := by
  simp only [laws_f6less, laws_f6less_t, spec_CompareFracs, spec_CompareFracs_t, pr_eta, spec_l01Two_is, ha, hb, Option.bind_some, Bool.and_self, cond_true, bne_self_eq_false, cond_false, spec_l01Cmp_is, beq_self_eq_true]

theorem f6less_c {D : Int} (h : Dn D) {A B : Int} (hA : Sm A) (hB : Sm B) : laws_f6less N0 (cF D A) (cF D B) = r1 (decide (A < B)) := by
  rw [f6less_is (cF_some h hA).2 (cF_some h hB).2, cF_lt h hA hB]

/-! ### two small fractions -/
theorem Sf.add {a b : Fq} (ha : Sf a 60 12) (hb : Sf b 60 12) : ∃ s, fadd a b = some s ∧ vF s = true := by
  have h1 := mul_bd (a := a.1) (b := b.2) (A := 60) (B := 12) ha.p (by have := hb.q; omega)
  have h2 := mul_bd (a := b.1) (b := a.2) (A := 60) (B := 12) hb.p (by have := ha.q; omega)
  have h3 := mul_bd (a := a.2) (b := b.2) (A := 12) (B := 12) (by have := ha.q; omega) (by have := hb.q; omega)
  have h4 : 0 < a.2 * b.2 := Int.mul_pos (by have := ha.q; omega) (by have := hb.q; omega)
  obtain ⟨g, s, e, hv, _⟩ := mkF_small (p := a.1 * b.2 + b.1 * a.2) (q := a.2 * b.2) (by omega) (by omega)
  exact ⟨s, e, hv⟩

theorem Sf.mul {a b : Fq} (ha : Sf a 60 12) (hb : Sf b 60 12) : ∃ s, fmul a b = some s ∧ vF s = true := by
  have h1 := mul_bd (a := a.1) (b := b.1) (A := 60) (B := 60) ha.p hb.p
  have h3 := mul_bd (a := a.2) (b := b.2) (A := 12) (B := 12) (by have := ha.q; omega) (by have := hb.q; omega)
  have h4 : 0 < a.2 * b.2 := Int.mul_pos (by have := ha.q; omega) (by have := hb.q; omega)
  obtain ⟨g, s, e, hv, _⟩ := mkF_small (p := a.1 * b.1) (q := a.2 * b.2) (by omega) (by omega)
  exact ⟨s, e, hv⟩

theorem impl_MakeFrac_three {a : Fq} (ha : Sf a 60 12) : impl_MakeFrac N0 (IntKind.wrap .i64 (3 * a.1)) (IntKind.wrap .i64 (3 * a.2)) = r2 a 0 := by
  have hp := ha.p
  have hq := ha.q
  have e : mkF (3 * a.1) (3 * a.2) = some a := mkF_to (by omega) ha.v (by grind)
  rw [w_in (x := 3 * a.1) (by unfold I64; omega), w_in (x := 3 * a.2) (by unfold I64; omega)]
  simp only [impl_MakeFrac, impl_MakeFrac_t, impl_within_is, Option.bind_some]
  rw [btw_iff.2 (by omega : (-1000000000000000000 : Int) ≤ 3 * a.1 ∧ 3 * a.1 ≤ 1000000000000000000), btw_iff.2 (by omega : (-1000000000000000000 : Int) ≤ 3 * a.2 ∧ 3 * a.2 ≤ 1000000000000000000), eq_f (by omega), impl_calc_told_is false (by unfold small; omega) (by unfold small; omega) (by omega), e]
  simp only [Bool.not_true, cond_false, Option.bind_some, impl_calc_one_is, Option.getD_some, Option.isNone_some, Bool.or_self, pr_eta]

theorem impl_FloorOf_is {a : Fq} (ha : vF a = true) : impl_FloorOf N0 a = r2 (a.1 / a.2) 0 := by
  have hb := vF_bd ha
  simp only [impl_FloorOf, impl_FloorOf_t, pr_eta, impl_ValidFrac_is, ha, Option.bind_some, Bool.not_true, cond_false]
  rw [impl_floorDiv_is N0 (by omega) (by unfold I64; omega)]
  rfl

/-- the floor's law -/
theorem floor_c {a : Fq} (ha : Sf a 60 12) : laws_f6less N0 a (a.1 / a.2, 1) = r1 false ∧ laws_f6less N0 a (IntKind.wrap .i64 (a.1 / a.2 + 1), 1) = r1 true := by
  have hq := ha.q
  have hp := ha.p
  have e0 : a.2 * (a.1 / a.2) + a.1 % a.2 = a.1 := Int.mul_ediv_add_emod ..
  have e1 := Int.emod_nonneg a.1 (by omega : a.2 ≠ 0)
  have e2 := Int.emod_lt_of_pos a.1 (by omega : 0 < a.2)
  have hf1 : -60 ≤ a.1 / a.2 := by
    have := Int.ediv_le_ediv (a := -60 * a.2) (b := a.1) (c := a.2) (by omega) (by
      have : 60 * 1 ≤ 60 * a.2 := by omega
      have h := hp.1
      rw [Int.neg_mul]; omega)
    rwa [Int.mul_ediv_cancel _ (by omega)] at this
  have hf2 : a.1 / a.2 ≤ 60 := by
    have := Int.ediv_le_ediv (a := a.1) (b := 60 * a.2) (c := a.2) (by omega) (by omega)
    rwa [Int.mul_ediv_cancel _ (by omega)] at this
  have hva := Bd.of ha.v
  rw [w_in (x := a.1 / a.2 + 1) (by unfold I64; omega), f6less_is ha.v (vF_one (by omega)), f6less_is ha.v (vF_one (by omega)), cmpF_whole hva (by omega), cmpF_whole hva (by omega)]
  have c1 : a.1 / a.2 * a.2 = a.2 * (a.1 / a.2) := Int.mul_comm ..
  have c2 : (a.1 / a.2 + 1) * a.2 = a.2 * (a.1 / a.2) + a.2 := by rw [Int.add_mul, Int.mul_comm, Int.one_mul]
  rw [c1, c2]
  constructor
  · rw [dec_f (p := a.1 < a.2 * (a.1 / a.2)) (by omega), cond_false]
    by_cases h : a.1 > a.2 * (a.1 / a.2)
    · rw [dec_t h]; rfl
    · rw [dec_f h]; rfl
  · rw [dec_t (p := a.1 < a.2 * (a.1 / a.2) + a.2) (by omega)]
    rfl

/-! ### the nearest multiple of a unit of sevenths -/
theorem vF_7 {u : Int} (hu : 1 ≤ u ∧ u ≤ 5) : vF (u, 7) = true := by
  obtain rfl | rfl | rfl | rfl | rfl : u = 1 ∨ u = 2 ∨ u = 3 ∨ u = 4 ∨ u = 5 := by omega
  all_goals decide

theorem nearest_c {a : Fq} (ha : Sf a 60 12) {u : Int} (hu : 1 ≤ u ∧ u ≤ 5) :
    ∃ (n : Int) (m r hf : Fq), impl_NearestTo N0 a (u, 7) = r2 n 0 ∧ spec_MulFracs N0 (u, 7) (n, 1) = r2 m 0 ∧ spec_SubFracs N0 a m = r2 r 0 ∧ spec_DivFracs N0 (u, 7) (2, 1) = r2 hf 0 ∧
      laws_f6less N0 hf r = r1 false ∧ r ≠ hf ∧ laws_f6less N0 r (IntKind.wrap .i64 (0 - hf.1), hf.2) = r1 false := by
  have hq := ha.q
  have hp := ha.p
  have hv7 := vF_7 hu
  have hD : Dn (14 * a.2) := by constructor <;> omega
  have hau : 1 ≤ a.2 * u ∧ a.2 * u ≤ 60 := by
    have h1 := mul_bd (a := a.2) (b := u) (A := 12) (B := 5) (by omega) (by omega)
    have h2 : 0 < a.2 * u := Int.mul_pos (by omega) (by omega)
    omega
  obtain ⟨k, hk⟩ : ∃ k, k = a.2 * u := ⟨_, rfl⟩
  obtain ⟨n, hn⟩ : ∃ n, n = (14 * a.1 + k) / (2 * k) := ⟨_, rfl⟩
  rw [← hk] at hau
  have e0 : 2 * k * n + (14 * a.1 + k) % (2 * k) = 14 * a.1 + k := by rw [hn]; exact Int.mul_ediv_add_emod ..
  have e1 := Int.emod_nonneg (14 * a.1 + k) (by omega : 2 * k ≠ 0)
  have e2 := Int.emod_lt_of_pos (14 * a.1 + k) (by omega : 0 < 2 * k)
  have hkn : -960 ≤ 2 * k * n ∧ 2 * k * n ≤ 960 := by omega
  have hn1 : n ≤ 960 := le_of_mul (g := 2 * k) (by omega) hkn.2 (by omega)
  have hn2 : -960 ≤ n := ge_of_mul (g := 2 * k) (by omega) hkn.1 (by omega)
  have hSa : Sm (14 * a.1) := by unfold Sm; omega
  have hSm : Sm (2 * k * n) := by unfold Sm; omega
  have hSr : Sm (14 * a.1 - 2 * k * n) := by unfold Sm; omega
  have hSh : Sm k := by unfold Sm; omega
  have ea : a = cF (14 * a.2) (14 * a.1) := cF_is hD hSa ha.v (by grind)
  have em : fmul (u, 7) (n, 1) = some (cF (14 * a.2) (2 * k * n)) := cF_of hD hSm (P := u * n) (Q := 7 * 1) (by omega) (by rw [hk]; grind)
  have er := cF_sub hD hSa hSm hSr
  have eh : fdiv (u, 7) (2, 1) = some (cF (14 * a.2) k) := cF_of hD hSh (P := u * 1) (Q := 7 * 2) (by omega) (by rw [hk]; grind)
  have hvn : vF (n, 1) = true := vF_one (by omega)
  refine ⟨n, cF (14 * a.2) (2 * k * n), cF (14 * a.2) (14 * a.1 - 2 * k * n), cF (14 * a.2) k, ?_, ?_, ?_, ?_, ?_, ?_, ?_⟩
  · simp only [impl_NearestTo, impl_NearestTo_t, pr_eta, cq_areValid_is (a :: (u, 7) :: []) (by simp), Option.bind_some, List.all_cons, List.all_nil, Bool.and_true, ha.v, hv7, Bool.and_self, Bool.not_true, cond_false]
    have h1 : (14 * a.1 + k) = 2 * (a.1 * 7) + a.2 * u := by rw [hk]; omega
    have h2 : 2 * k = 2 * (a.2 * u) := by rw [hk]
    rw [dec_f (p := u ≤ 0) (by omega), cond_false, w_in (x := a.1 * 7) (by unfold I64; omega), w_in (x := a.2 * u) (by unfold I64; omega)]
    simp only [impl_nearest, impl_nearest_t]
    rw [w_in (x := 2 * (a.1 * 7)) (by unfold I64; omega), w_in (x := 2 * (a.1 * 7) + a.2 * u) (by unfold I64; omega), w_in (x := 2 * (a.2 * u)) (by unfold I64; omega), impl_floorDiv_is N0 (by omega) (by unfold I64; omega), Option.bind_some]
    dsimp only
    rw [← h1, ← h2, ← hn, impl_within_is, Option.bind_some]
    dsimp only
    rw [btw_iff.2 (by omega : (-1000000000 : Int) ≤ n ∧ n ≤ 1000000000)]
    rfl
  · rw [spec_MulFracs_is hv7 hvn, em]; rfl
  · have hs := spec_SubFracs_is (cF_some hD hSa).2 (cF_some hD hSm).2
    rw [er, ← ea] at hs
    exact hs
  · rw [spec_DivFracs_is hv7 (by decide) (by decide), eh]; rfl
  · rw [f6less_c hD hSh hSr, dec_f (by omega)]
  · intro e
    have := cF_inj hD hSr hSh e
    omega
  · have hb := cF_bd hD hSh
    have hb1 := hb.1
    have hb2 := hb.2
    rw [w_in (by unfold I64; omega), show (0 : Int) - (cF (14 * a.2) k).1 = -(cF (14 * a.2) k).1 by omega, cF_neg hD hSh, f6less_c hD hSr (by unfold Sm at *; omega), dec_f (by omega)]
end Go.Abs
