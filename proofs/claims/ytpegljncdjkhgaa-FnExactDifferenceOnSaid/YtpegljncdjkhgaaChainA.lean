/- Spans and widths reckoned on paths. -/
import Derived.Test.YtpegljncdjkhgaaDDifferenceOn0
import Derived.Test.YtpegljncdjkhgaaPathP
namespace Go.Abs
set_option linter.unusedSectionVars false
set_option linter.unusedSimpArgs false
set_option linter.unusedVariables false

/-! ### a walk along a path -/
/-- the day on which the next one starts -/
def nextDay (v : List Std) (day : Int) : List Int → Int
  | [] => day
  | y :: _ => (v.getD y.toNat dStd).2.2.2.2.1
/-- the drift of so many days -/
abbrev drO (x : Std) (m : Int) : Option Fq := fmul x.2.2.2.1 (m, 1)
def stepV (x : Std) (m : Int) (s : Spn) : Spn := (val (fsub (val (fadd s.1 x.2.2.1.1)) (val (drO x m))), val (fadd (val (fadd s.2 x.2.2.1.2)) (val (drO x m))))
def stepE (x : Std) (m : Int) (s : Spn) : Bool := ((fadd s.1 x.2.2.1.1).isNone || (fadd s.2 x.2.2.1.2).isNone) || ((drO x m).isNone || ((fsub (val (fadd s.1 x.2.2.1.1)) (val (drO x m))).isNone || (fadd (val (fadd s.2 x.2.2.1.2)) (val (drO x m))).isNone))
def daysAt (v : List Std) (day : Int) (i : Int) (r : List Int) : Int := nextDay v day r - (v.getD i.toNat dStd).2.2.2.2.1
def alongG (v : List Std) (day : Int) : List Int → Spn → Spn × Bool
  | [], s => (s, false)
  | i :: r, s => ((alongG v day r (stepV (v.getD i.toNat dStd) (daysAt v day i r) s)).1, stepE (v.getD i.toNat dStd) (daysAt v day i r) s || (alongG v day r (stepV (v.getD i.toNat dStd) (daysAt v day i r) s)).2)

theorem stepV_bd (x : Std) (m : Int) (s : Spn) : Bd (stepV x m s).1 ∧ Bd (stepV x m s).2 := ⟨Bd.sub, Bd.add⟩

section
variable {s t : Spn} (hs : Bd s.1 ∧ Bd s.2) (ht : Bd t.1 ∧ Bd t.2)
include hs ht
theorem impl_calc_plus_is (c : Bool) : impl_calc_plus N0 s t c = c1 (val (fadd s.1 t.1), val (fadd s.2 t.2)) ((c || (fadd s.1 t.1).isNone) || (fadd s.2 t.2).isNone) := by
  simp only [impl_calc_plus, impl_calc_plus_t, pr_eta, impl_calc_add_is hs.1 ht.1, impl_calc_add_is hs.2 ht.2, Option.bind_some]

theorem spec_l01Sums_is : spec_l01Sums N0 s t = bif (fadd s.1 t.1).isNone || (fadd s.2 t.2).isNone then r2 ((0, 0), (0, 0)) 3 else r2 (val (fadd s.1 t.1), val (fadd s.2 t.2)) 0 := by
  simp only [spec_l01Sums, spec_l01Sums_t, pr_eta, spec_l01Add_is hs.1 ht.1, spec_l01Add_is hs.2 ht.2, Option.bind_some, spec_l01Both, spec_l01Both_t]
  cases fadd s.1 t.1 with
  | none => rfl
  | some p => cases fadd s.2 t.2 <;> rfl
end

section
variable {s : Spn} (hs : Bd s.1 ∧ Bd s.2) {d : Fq} (hd : Bd d)
include hs hd
theorem impl_calc_widen_is (c : Bool) : impl_calc_widen N0 s d c = c1 (val (fsub s.1 d), val (fadd s.2 d)) ((c || (fsub s.1 d).isNone) || (fadd s.2 d).isNone) := by
  simp only [impl_calc_widen, impl_calc_widen_t, pr_eta, impl_calc_sub_is hs.1 hd, impl_calc_add_is hs.2 hd, Option.bind_some]

theorem spec_l05Wider_is {m : Int} (hm : -1000000000 ≤ m ∧ m ≤ 1000000000) : spec_l05Wider N0 s d m =
    bif (fmul d (m, 1)).isNone || ((fsub s.1 (val (fmul d (m, 1)))).isNone || (fadd s.2 (val (fmul d (m, 1)))).isNone) then r2 ((0, 0), (0, 0)) 3 else r2 (val (fsub s.1 (val (fmul d (m, 1)))), val (fadd s.2 (val (fmul d (m, 1))))) 0 := by
  simp only [spec_l05Wider, spec_l05Wider_t, pr_eta, spec_l01Whole_is, spec_l01Mul_is hd (Bd.num hm), Option.bind_some]
  cases h : fmul d (m, 1) with
  | none => rfl
  | some e =>
    have he : Bd e := Bd.of (mkF_valid h)
    simp only [Option.getD_some, spec_l01Sub_is hs.1 he, spec_l01Add_is hs.2 he, Option.bind_some]
    cases fsub s.1 e with
    | none => rfl
    | some p => cases fadd s.2 e <;> rfl
end

section
variable {v : List Std} (hc : chainOk v = true) {day : Int} (hday : 0 ≤ day ∧ day ≤ 100000) {P : List Int} (hP : ∀ y ∈ P, 0 ≤ y ∧ y < (v.length : Int)) (hl : P.length ≤ 1000)
include hc hday hP hl

theorem impl_along_l2_is (z : Spn) : ∀ (k i : Nat) (c : Bool) (s : Spn), i ≤ P.length → P.length - i < k → Bd s.1 ∧ Bd s.2 →
    impl_calc_along_l2 N0 k (i : Int) P v day P (P.length : Int) c s.1.1 s.1.2 s.2.1 s.2.2 z.1.1 z.1.2 z.2.1 z.2.2 = c1 (alongG v day (P.drop i) s).1 (c || (alongG v day (P.drop i) s).2)
  | 0, i, c, s, _, hk, _ => by omega
  | k + 1, i, c, s, hi, hk, hs => by
    simp only [impl_calc_along_l2, impl_calc_along_t2]
    by_cases h : i < P.length
    · have hp := hP _ (List.getElem_mem h)
      have hx := std_bd (chain_at hc hp).1
      have key (m : Int) (hm : -1000000000 ≤ m ∧ m ≤ 1000000000) (he : daysAt v day P[i] (P.drop (i + 1)) = m) :
          ((impl_calc_plus N0 s (v.getD P[i].toNat dStd).2.2.1 c).bind fun r0 => (impl_num N0 m).bind fun r1 => (impl_calc_mul N0 (v.getD P[i].toNat dStd).2.2.2.1 r1.1.1.1 r0.2.1).bind fun r2 =>
            (impl_calc_widen N0 r0.1.1.1 r2.1.1.1 r2.2.1).bind fun r3 => impl_calc_along_l2 N0 k ((i + 1 : Nat) : Int) P v day P (P.length : Int) r3.2.1 r3.1.1.1.1.1 r3.1.1.1.1.2 r3.1.1.1.2.1 r3.1.1.1.2.2 z.1.1 z.1.2 z.2.1 z.2.2)
          = c1 (alongG v day (P.drop i) s).1 (c || (alongG v day (P.drop i) s).2) := by
        rw [impl_calc_plus_is hs ⟨hx.1, hx.2.1⟩, Option.bind_some, impl_num_is, Option.bind_some]
        dsimp only
        rw [impl_calc_mul_is hx.2.2.1 (Bd.num hm), Option.bind_some]
        dsimp only
        rw [impl_calc_widen_is ⟨Bd.add, Bd.add⟩ Bd.mul, Option.bind_some]
        dsimp only
        have ih := impl_along_l2_is z k (i + 1) (((((c || (fadd s.1 (v.getD P[i].toNat dStd).2.2.1.1).isNone) || (fadd s.2 (v.getD P[i].toNat dStd).2.2.1.2).isNone) || (drO (v.getD P[i].toNat dStd) m).isNone) || (fsub (val (fadd s.1 (v.getD P[i].toNat dStd).2.2.1.1)) (val (drO (v.getD P[i].toNat dStd) m))).isNone) || (fadd (val (fadd s.2 (v.getD P[i].toNat dStd).2.2.1.2)) (val (drO (v.getD P[i].toNat dStd) m))).isNone) (stepV (v.getD P[i].toNat dStd) m s) h (by omega) (stepV_bd _ _ _)
        refine Eq.trans ih ?_
        rw [drop_ix h, alongG, he]
        simp only [stepE, Bool.or_assoc]
      have hr := h
      simp only [lt_t h, nn_t, Bool.and_self, cond_true, Int.toNat_natCast, get_ix h, w_succ (i := i) (by omega), dec_t hp.1, dec_t hp.2, pr_eta]
      by_cases h2 : i + 1 < P.length
      · have hp2 := hP _ (List.getElem_mem h2)
        have hx2 := std_bd (chain_at hc hp2).1
        have hx' := hx
        simp only [dStd] at hx2 hx'
        simp only [lt_t h2, cond_true, get_ix h2, dec_t hp2.1, dec_t hp2.2, Bool.and_self]
        rw [w_in (by unfold I64; omega)]
        exact key _ (by omega) (by rw [drop_ix h2]; rfl)
      · have hx' := hx
        simp only [dStd] at hx'
        simp only [lt_f h2, cond_false]
        rw [w_in (by unfold I64; omega)]
        exact key _ (by omega) (by rw [List.drop_eq_nil_of_le (by omega)]; rfl)
    · have : i = P.length := by omega
      subst this
      simp only [lt_f h, cond_false, List.drop_length, alongG, Bool.or_false]

theorem impl_along_is (s : Spn) (c : Bool) (hs : Bd s.1 ∧ Bd s.2) : impl_calc_along N0 v P day s c = c1 (alongG v day P s).1 (c || (alongG v day P s).2) := by
  have := N0_big
  simp only [impl_calc_along, impl_calc_along_t]
  exact impl_along_l2_is hc hday hP hl ((0, 0), (0, 0)) N0 0 c s (by omega) (by omega) hs

theorem spec_along_l2_is (z : Spn) : ∀ (k i : Nat) (s : Spn), i ≤ P.length → P.length - i < k → Bd s.1 ∧ Bd s.2 →
    spec_l05Along_l2 N0 k (i : Int) P v day z.1.1 z.1.2 z.2.1 z.2.2 s.1.1 s.1.2 s.2.1 s.2.2 = bif (alongG v day (P.drop i) s).2 then r2 ((0, 0), (0, 0)) 3 else r2 (alongG v day (P.drop i) s).1 0
  | 0, i, s, _, hk, _ => by omega
  | k + 1, i, s, hi, hk, hs => by
    simp only [spec_l05Along_l2, spec_l05Along_t2]
    by_cases h : i < P.length
    · have hp := hP _ (List.getElem_mem h)
      have hx := std_bd (chain_at hc hp).1
      simp only [lt_t h, nn_t, Bool.and_self, cond_true, Int.toNat_natCast, get_ix h, w_succ (i := i) (by omega), dec_t hp.1, dec_t hp.2, pr_eta]
      rw [spec_l01Sums_is hs ⟨hx.1, hx.2.1⟩]
      have key (m : Int) (hm : -1000000000 ≤ m ∧ m ≤ 1000000000) (he : daysAt v day P[i] (P.drop (i + 1)) = m)
          (h1 : ((fadd s.1 (v.getD P[i].toNat dStd).2.2.1.1).isNone || (fadd s.2 (v.getD P[i].toNat dStd).2.2.1.2).isNone) = false) :
          ((spec_l05Wider N0 (val (fadd s.1 (v.getD P[i].toNat dStd).2.2.1.1), val (fadd s.2 (v.getD P[i].toNat dStd).2.2.1.2)) (v.getD P[i].toNat dStd).2.2.2.1 m).bind fun r1 =>
            cond (r1.1.2.1.1 != 0) (r2 ((0, 0), (0, 0)) r1.1.2.1.1) (spec_l05Along_l2 N0 k ((i + 1 : Nat) : Int) P v day z.1.1 z.1.2 z.2.1 z.2.2 r1.1.1.1.1.1 r1.1.1.1.1.2 r1.1.1.1.2.1 r1.1.1.1.2.2))
          = bif (alongG v day (P.drop i) s).2 then r2 ((0, 0), (0, 0)) 3 else r2 (alongG v day (P.drop i) s).1 0 := by
        rw [spec_l05Wider_is ⟨Bd.add, Bd.add⟩ hx.2.2.1 hm, drop_ix h, alongG, he, stepE, h1, Bool.false_or]
        have ih := spec_along_l2_is z k (i + 1) (stepV (v.getD P[i].toNat dStd) m s) h (by omega) (stepV_bd _ _ _)
        cases h3 : ((drO (v.getD P[i].toNat dStd) m).isNone || ((fsub (val (fadd s.1 (v.getD P[i].toNat dStd).2.2.1.1)) (val (drO (v.getD P[i].toNat dStd) m))).isNone || (fadd (val (fadd s.2 (v.getD P[i].toNat dStd).2.2.1.2)) (val (drO (v.getD P[i].toNat dStd) m))).isNone)) with
        | true => rfl
        | false => exact ih
      cases h1 : ((fadd s.1 (v.getD P[i].toNat dStd).2.2.1.1).isNone || (fadd s.2 (v.getD P[i].toNat dStd).2.2.1.2).isNone) with
      | true =>
        rw [drop_ix h, alongG, stepE, h1]
        rfl
      | false =>
        rw [cond_false, Option.bind_some]
        dsimp only
        simp only [show ((0 : Int) != 0) = false from rfl, cond_false]
        by_cases h2 : i + 1 < P.length
        · have hp2 := hP _ (List.getElem_mem h2)
          have hx2 := std_bd (chain_at hc hp2).1
          have hx' := hx
          simp only [dStd] at hx2 hx'
          simp only [lt_t h2, cond_true, get_ix h2, dec_t hp2.1, dec_t hp2.2, Bool.and_self]
          rw [w_in (by unfold I64; omega)]
          exact key _ (by omega) (by rw [drop_ix h2]; rfl) h1
        · have hx' := hx
          simp only [dStd] at hx'
          simp only [lt_f h2, cond_false]
          rw [w_in (by unfold I64; omega)]
          exact key _ (by omega) (by rw [List.drop_eq_nil_of_le (by omega)]; rfl) h1
    · have : i = P.length := by omega
      subst this
      simp only [lt_f h, cond_false, List.drop_length, alongG]

theorem spec_along_is (s : Spn) (hs : Bd s.1 ∧ Bd s.2) : spec_l05Along N0 v P s day = bif (alongG v day P s).2 then r2 ((0, 0), (0, 0)) 3 else r2 (alongG v day P s).1 0 := by
  have := N0_big
  simp only [spec_l05Along, spec_l05Along_t]
  exact spec_along_l2_is hc hday hP hl ((0, 0), (0, 0)) N0 0 s (by omega) (by omega) hs
end

abbrev s0 : Spn := ((0, 1), (0, 1))
theorem s0_bd : Bd s0.1 ∧ Bd s0.2 := ⟨Bd.zero, Bd.zero⟩

/-- the span of a standard on a day, its code -/
abbrev spanRes (v : List Std) (i day : Int) : Option (((Spn × Unit) × ((Int × Unit) × Unit)) × Unit) :=
  bif goodOn (v.getD i.toNat dStd) day then (bif (alongG v day (pathUp v N0 i) s0).2 then r2 ((0, 0), (0, 0)) 3 else r2 (alongG v day (pathUp v N0 i) s0).1 0) else r2 ((0, 0), (0, 0)) 4

theorem isDay_bd {d : Int} (h : isDay d = true) : 0 ≤ d ∧ d ≤ 100000 := by unfold isDay at h; rwa [btw_iff] at h

section
variable {v : List Std} (hc : chainOk v = true) {i : Int} (hi : 0 ≤ i ∧ i < (v.length : Int)) {day : Int} (hd : isDay day = true)
include hc hi hd

theorem path_le : (pathUp v N0 i).length ≤ 1000 := by
  have h1 := path_len hc N0 i hi.2
  have h2 := chain_len hc
  omega

theorem impl_spanOn_is (c : Bool) : impl_calc_spanOn N0 v i day c = c1 (alongG v day (pathUp v N0 i) s0).1 (c || (alongG v day (pathUp v N0 i) s0).2) := by
  unfold impl_calc_spanOn impl_calc_spanOn_t
  rw [impl_path_is hc hi, Option.bind_some]
  simp only [impl_none, impl_none_t, impl_zero_is, Option.bind_some]
  rw [impl_along_is hc (isDay_bd hd) (path_in hc N0 i hi.2) (path_le hc hi hd) s0 c s0_bd, Option.bind_some]

end
end Go.Abs
