/- Intervals of a scale, a scale out of intervals; tables of differences. -/
import Derived.Test.YtmkhdpdepomohaaDErrorsFrom0
import Derived.Test.YtmkhdpdepomohaaScaleP
import Derived.Test.YtmkhdpdepomohaaResid
import Derived.Test.YtmkhdpdepomohaaMarkFr
namespace Go.Abs
set_option linter.unusedSectionVars false
set_option linter.unusedSimpArgs false
set_option linter.unusedVariables false

theorem bd_at {E : List Fq} (hE : ∀ y ∈ E, Bd y) {i : Nat} (h : i < E.length) : Bd (E.getD i (0, 0)) := by
  rw [get_ix h]; exact hE _ (List.getElem_mem h)

/-! ### intervals -/
abbrev dfO (E : List Fq) (i : Nat) : Option Fq := fsub (E.getD (i + 1) (0, 0)) (E.getD i (0, 0))
def intG (E : List Fq) : Nat → Nat → List Fq × Bool
  | 0, _ => ([], false)
  | k + 1, i => (val (dfO E i) :: (intG E k (i + 1)).1, (dfO E i).isNone || (intG E k (i + 1)).2)

theorem intG_len (E : List Fq) : ∀ k i, (intG E k i).1.length = k
  | 0, i => rfl
  | k + 1, i => by rw [intG, List.length_cons, intG_len E k]

theorem intG_bd (E : List Fq) : ∀ k i, ∀ y ∈ (intG E k i).1, Bd y
  | 0, i, y, h => by simp [intG] at h
  | k + 1, i, y, h => by
    rw [intG] at h
    rcases List.mem_cons.1 h with e | h
    · rw [e]; exact Bd.sub
    · exact intG_bd E k (i + 1) y h

section
variable {E : List Fq} {m : Nat} (hm : E.length = m + 1) (hs : m ≤ 1000) (hE : ∀ y ∈ E, Bd y)
include hm hs hE

theorem impl_intervals_l3_is (u : Fq) : ∀ (k i : Nat) (c : Bool) (b : List Fq), i ≤ m → m - i < k → b.length = i →
    impl_calc_intervals_l3 N0 k (i : Int) (m : Int) c u.1 u.2 E b = c1 (b ++ (intG E (m - i) i).1) (c || (intG E (m - i) i).2)
  | 0, i, c, b, _, hk, _ => by omega
  | k + 1, i, c, b, hi, hk, hb => by
    simp only [impl_calc_intervals_l3, impl_calc_intervals_t3]
    by_cases h : i < m
    · have hr (x : Fq) : decide ((b.length + (x :: []).length) * 17 ≤ 70368744177664) = true := dec_t (by simp only [List.length_cons, List.length_nil]; omega)
      simp only [lt_t h, cond_true, w_succ (i := i) (by omega), nn_t, hm, lt_t (i := i + 1) (m := m + 1) (by omega), lt_t (i := i) (m := m + 1) (by omega), Bool.and_self, Int.toNat_natCast, pr_eta,
        impl_calc_sub_is (bd_at hE (i := i + 1) (by omega)) (bd_at hE (i := i) (by omega)), Option.bind_some, hr]
      rw [impl_intervals_l3_is u k (i + 1) _ _ h (by omega) (by simp [hb]), show m - i = (m - (i + 1)) + 1 by omega, intG, List.append_assoc, Bool.or_assoc]
      rfl
    · have : i = m := by omega
      subst this
      simp only [lt_f h, cond_false, Nat.sub_self, intG, List.append_nil, Bool.or_false]

theorem impl_intervals_is (u : Fq) (c : Bool) : impl_calc_intervals N0 (u, E) c = c1 (intG E m 0).1 (c || (intG E m 0).2) := by
  have := N0_big
  simp only [impl_calc_intervals, impl_calc_intervals_t, hm]
  rw [dec_t (p := (1 : Int) ≤ ((m + 1 : Nat) : Int)) (by omega), dec_t (p := ((m + 1 : Nat) : Int) ≤ ((m + 1 : Nat) : Int)) (by omega), Bool.and_self, cond_true]
  rw [show ((List.drop (Int.toNat 1) E).take (Int.toNat ((m + 1 : Nat) : Int) - Int.toNat 1)).length = m by simp [hm]]
  have e := impl_intervals_l3_is hm hs hE u N0 0 c [] (by omega) (by omega) rfl
  rw [Nat.sub_zero, List.nil_append] at e
  exact e

theorem spec_intervals_l3_is (u : Fq) : ∀ (k i : Nat) (b : List Fq), i ≤ m → m - i < k → b.length = i →
    spec_l04Intervals_l3 N0 k ((i + 1 : Nat) : Int) u.1 u.2 E b = bif (intG E (m - i) i).2 then c2 [] 3 (u, E) else c2 (b ++ (intG E (m - i) i).1) 0 (u, E)
  | 0, i, b, _, hk, _ => by omega
  | k + 1, i, b, hi, hk, hb => by
    simp only [spec_l04Intervals_l3, spec_l04Intervals_t3]
    by_cases h : i < m
    · have hr (x : Fq) : decide ((b.length + (x :: []).length) * 17 ≤ 70368744177664) = true := dec_t (by simp only [List.length_cons, List.length_nil]; omega)
      have hw : IntKind.wrap .i64 (((i + 1 : Nat) : Int) - 1) = (i : Int) := by rw [w_in (by unfold I64; omega)]; omega
      simp only [hm, hw, nn_t, lt_t (i := i + 1) (m := m + 1) (by omega), lt_t (i := i) (m := m + 1) (by omega), Bool.and_self, cond_true, Int.toNat_natCast, pr_eta,
        spec_l01Sub_is (bd_at hE (i := i + 1) (by omega)) (bd_at hE (i := i) (by omega)), Option.bind_some, w_succ (i := i + 1) (by omega)]
      rw [show m - i = (m - (i + 1)) + 1 by omega, intG]
      unfold dfO
      cases hd : fsub (E.getD (i + 1) (0, 0)) (E.getD i (0, 0)) with
      | none => rfl
      | some q =>
        have ih := spec_intervals_l3_is u k (i + 1) (b ++ [q]) h (by omega) (by simp [hb])
        simp only [Option.isSome_some, cond_true, bne_self_eq_false, cond_false, Option.getD_some, hr, Option.isNone_some, Bool.false_or]
        refine ih.trans ?_
        rw [List.append_assoc]
        rfl
    · have : i = m := by omega
      subst this
      simp only [hm, lt_f (i := i + 1) (m := i + 1) (by omega), cond_false, Nat.sub_self, intG, List.append_nil]

theorem spec_intervals_is (u : Fq) : spec_l04Intervals N0 (u, E) = bif (intG E m 0).2 then c2 [] 3 (u, E) else c2 (intG E m 0).1 0 (u, E) := by
  have := N0_big
  simp only [spec_l04Intervals, spec_l04Intervals_t]
  have e := spec_intervals_l3_is hm hs hE u N0 0 [] (by omega) (by omega) rfl
  rw [Nat.sub_zero, List.nil_append] at e
  exact e
end

/-- what is known of the errors of a valid scale -/
theorem scale_facts {s : Sc} (h : scaleOk s = true) : (2 ≤ s.2.length ∧ s.2.length ≤ 60) ∧ ∀ y ∈ s.2, Bd y := by
  unfold scaleOk at h
  simp only [Bool.and_eq_true] at h
  have h1 := btw_iff.1 h.2.1
  exact ⟨by omega, all_bd h.2.2.1⟩

abbrev intRes (s : Sc) : Option (((List Fq × Unit) × ((Int × Unit) × Unit)) × Unit) :=
  bif scaleOk s then (bif (intG s.2 (s.2.length - 1) 0).2 then r2 [] 3 else r2 (intG s.2 (s.2.length - 1) 0).1 0) else r2 [] 1

theorem intRes_ex (s : Sc) : ∃ o c, intRes s = r2 o c ∧ o.length ≤ 1048576 := by
  unfold intRes
  cases h : scaleOk s with
  | false => exact ⟨_, _, rfl, by simp⟩
  | true =>
    cases (intG s.2 (s.2.length - 1) 0).2 with
    | true => exact ⟨_, _, rfl, by simp⟩
    | false => exact ⟨_, _, rfl, by rw [intG_len]; have := (scale_facts h).1; omega⟩

theorem impl_IntervalErrors_is (s : Sc) (hb : s.2.length ≤ 9223372036854775807) : impl_IntervalErrors N0 s = intRes s := by
  simp only [impl_IntervalErrors, impl_IntervalErrors_t, pr_eta, impl_ValidScale_is s hb, Option.bind_some]
  unfold intRes
  cases h : scaleOk s with
  | false => rfl
  | true =>
    obtain ⟨h1, h2⟩ := scale_facts h
    have e := impl_intervals_is (m := s.2.length - 1) (by omega) (by omega) h2 s.1 false
    rw [pr_eta] at e
    rw [e]
    simp only [Bool.not_true, cond_false, cond_true, Option.bind_some, Bool.false_or]

theorem spec_IntervalErrors_is (s : Sc) (hb : s.2.length ≤ 9223372036854775807) : spec_IntervalErrors N0 s = intRes s := by
  simp only [spec_IntervalErrors, spec_IntervalErrors_t, pr_eta, spec_l02Ok_is s hb, Option.bind_some]
  unfold intRes
  cases h : scaleOk s with
  | false => rfl
  | true =>
    obtain ⟨h1, h2⟩ := scale_facts h
    have e := spec_intervals_is (m := s.2.length - 1) (by omega) (by omega) h2 s.1
    rw [pr_eta] at e
    rw [e]
    cases (intG s.2 (s.2.length - 1) 0).2 <;> rfl

/-! ### scales at a law -/
theorem laws_toScale_is (s : Sc) (hb : s.2.length ≤ 1048576) : laws_toScale N0 s = some (((s.1, (s.2, ())), ()), ()) := by
  simp only [laws_toScale, laws_toScale_t, fl_toFrac_is, laws_toFracS_is _ hb, Option.bind_some, pr_eta]

theorem laws_eqScale_refl (s : Sc) (hb : s.2.length ≤ 1048576) : laws_eqScale N0 s s = r1 true := by
  simp only [laws_eqScale, laws_eqScale_t, laws_eqFracS_refl _ hb, Option.bind_some, pr_eta, laws_eqFrac_is, beq_self_eq_true, Bool.not_true, cond_false]

theorem laws_markScale_is (x : Fq × Unit) (b : List Fq) (hb : b.length ≤ 1048576) : laws_markScale N0 x 1 b = c1 (1 + 2 * (b.length : Int)) (marksF 0 b.length) := by
  simp only [laws_markScale, laws_markScale_t, laws_markFracS_is _ hb, Option.bind_some]
end Go.Abs
