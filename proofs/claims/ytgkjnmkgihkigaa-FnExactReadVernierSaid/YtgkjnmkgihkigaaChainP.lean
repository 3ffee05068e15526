/- Paths along a chain, spans and widths reckoned on them. -/
import Derived.Test.YtgkjnmkgihkigaaDReadVernier0
import Derived.Test.YtgkjnmkgihkigaaChainC
import Derived.Test.YtgkjnmkgihkigaaCalc
namespace Go.Abs
set_option linter.unusedSectionVars false
set_option linter.unusedSimpArgs false
set_option linter.unusedVariables false

section
variable {a b : Fq} (ha : Bd a) (hb : Bd b)
include ha hb
theorem impl_calc_mul_is (c : Bool) : impl_calc_mul N0 a b c = c1 (val (fmul a b)) (c || (fmul a b).isNone) := by
  have h1 := bd_pp ha hb
  have h3 := bd_qq ha hb
  simp only [impl_calc_mul, impl_calc_mul_t, w_in (x := a.1 * b.1) (by unfold I64; omega), w_in (x := a.2 * b.2) (by unfold I64; omega)]
  rw [impl_calc_told_is c (by unfold small; omega) (by unfold small; omega) (by omega)]
  rfl

theorem spec_l01Mul_is : spec_l01Mul N0 a b = r2 ((fmul a b).getD (0, 0)) (bif (fmul a b).isSome then 0 else 3) := by
  have h1 := bd_pp ha hb
  have h3 := bd_qq ha hb
  simp only [spec_l01Mul, spec_l01Mul_t, w_in (x := a.1 * b.1) (by unfold I64; omega), w_in (x := a.2 * b.2) (by unfold I64; omega)]
  rw [spec_l01Reduced_is (by unfold small; omega) (by unfold small; omega) (by omega)]
  rfl
end

/-! ### facts of a valid chain -/
theorem chain_len {v : List Std} (h : chainOk v = true) : v.length ≤ 30 := by
  unfold chainOk at h
  rw [Bool.and_eq_true] at h
  have := of_decide_eq_true h.2
  omega

theorem chain_at {v : List Std} (h : chainOk v = true) {i : Int} (hi : 0 ≤ i ∧ i < (v.length : Int)) : stdOk (v.getD i.toNat dStd) = true ∧ (-1 ≤ (v.getD i.toNat dStd).2.1 ∧ (v.getD i.toNat dStd).2.1 < i) := by
  unfold chainOk at h
  rw [Bool.and_eq_true] at h
  have h1 := allUp_at h.1 i.toNat (by omega) (by omega)
  unfold chainAt fromOk at h1
  simp only [Bool.and_eq_true] at h1
  have h2 := btw_iff.1 h1.2.2.1.1
  exact ⟨h1.2.2.2, by omega⟩

/-- the bounds of a standard -/
theorem std_bd {x : Std} (h : stdOk x = true) : Bd x.2.2.1.1 ∧ Bd x.2.2.1.2 ∧ Bd x.2.2.2.1 ∧ (0 ≤ x.2.2.2.2.1 ∧ x.2.2.2.2.1 ≤ 100000) := by
  unfold stdOk spanOk isDay at h
  simp only [Bool.and_eq_true, btw_iff] at h
  exact ⟨Bd.of h.1.1, Bd.of h.1.2.1, Bd.of h.2.1, h.2.2.2.1⟩

/-! ### paths -/
def pathUp (v : List Std) : Nat → Int → List Int
  | 0, _ => []
  | k + 1, i => bif decide (i < 0) then [] else pathUp v k (v.getD i.toNat dStd).2.1 ++ [i]

theorem path_len {v : List Std} (hc : chainOk v = true) : ∀ (k : Nat) (i : Int), i < (v.length : Int) → (pathUp v k i).length ≤ (i + 1).toNat
  | 0, i, _ => by simp [pathUp]
  | k + 1, i, hi => by
    rw [pathUp]
    by_cases h : i < 0
    · rw [dec_t h]; simp
    · have h1 := (chain_at hc (i := i) ⟨by omega, hi⟩).2
      have h2 := path_len hc k (v.getD i.toNat dStd).2.1 (by omega)
      rw [dec_f h, cond_false, List.length_append]
      simp only [List.length_cons, List.length_nil]
      omega

theorem path_in {v : List Std} (hc : chainOk v = true) : ∀ (k : Nat) (i : Int), i < (v.length : Int) → ∀ y ∈ pathUp v k i, 0 ≤ y ∧ y < (v.length : Int)
  | 0, i, _, y, hy => by simp [pathUp] at hy
  | k + 1, i, hi, y, hy => by
    rw [pathUp] at hy
    by_cases h : i < 0
    · rw [dec_t h] at hy; simp at hy
    · have h1 := (chain_at hc (i := i) ⟨by omega, hi⟩).2
      rw [dec_f h, cond_false, List.mem_append] at hy
      cases hy with
      | inl hy => exact path_in hc k _ (by omega) y hy
      | inr hy =>
        have : y = i := by simpa using hy
        omega

theorem impl_path_l2_is {v : List Std} (hc : chainOk v = true) : ∀ (k : Nat) (i : Int) (b : List Int), -1 ≤ i → i < (v.length : Int) → i + 1 < (k : Int) → (b.length : Int) + i ≤ 100 →
    impl_path_l2 N0 k i v b = r1 (pathUp v k i ++ b)
  | 0, i, b, _, _, hk, _ => by omega
  | k + 1, i, b, h0, hi, hk, hl => by
    simp only [impl_path_l2, impl_path_t2]
    rw [pathUp]
    by_cases h : i < 0
    · rw [dec_f (p := i ≥ 0) (by omega), dec_t h]; rfl
    · have h1 := (chain_at hc (i := i) ⟨by omega, hi⟩).2
      have hr : decide (((i :: []).length + b.length) * 9 ≤ 70368744177664) = true := dec_t (by simp only [List.length_cons, List.length_nil]; omega)
      rw [dec_t (p := i ≥ 0) (by omega), hr, dec_t hi, dec_f h, cond_true, cond_true, Bool.and_self, cond_true, cond_false]
      simp only [dStd] at h1
      rw [impl_path_l2_is hc k _ _ (by omega) (by omega) (by omega) (by simp only [List.length_append, List.length_cons, List.length_nil]; omega)]
      simp

theorem impl_path_is {v : List Std} (hc : chainOk v = true) {i : Int} (hi : 0 ≤ i ∧ i < (v.length : Int)) : impl_path N0 v i = r1 (pathUp v N0 i) := by
  have := N0_big
  have hl := chain_len hc
  simp only [impl_path, impl_path_t]
  rw [impl_path_l2_is hc N0 i [] (by omega) hi.2 (by omega) (by simp only [List.length_nil]; omega), List.append_nil]

theorem spec_path_r_is {v : List Std} (hc : chainOk v = true) : ∀ (k : Nat) (i : Int), -1 ≤ i → i < (v.length : Int) → i + 1 < (k : Int) →
    spec_l05Path_r N0 k v i = r1 (pathUp v k i)
  | 0, i, _, _, hk => by omega
  | k + 1, i, h0, hi, hk => by
    have hv := chain_len hc
    simp only [spec_l05Path_r, spec_l05Path_t]
    rw [pathUp]
    by_cases h : i < 0
    · rw [dec_t h]; rfl
    · have h1 := (chain_at hc (i := i) ⟨by omega, hi⟩).2
      have hp := path_len hc k (v.getD i.toNat dStd).2.1 (by omega)
      have hr : decide (((pathUp v k (v.getD i.toNat dStd).2.1).length + (i :: []).length) * 9 ≤ 70368744177664) = true := dec_t (by simp only [List.length_cons, List.length_nil]; omega)
      simp only [dStd] at h1
      rw [dec_f h, cond_false, cond_false, dec_t (p := 0 ≤ i) (by omega), dec_t hi, Bool.and_self, cond_true, spec_path_r_is hc k _ (by omega) (by omega) (by omega), Option.bind_some]
      dsimp only
      rw [hr, cond_true]

theorem spec_l05Path_is {v : List Std} (hc : chainOk v = true) {i : Int} (hi : 0 ≤ i ∧ i < (v.length : Int)) : spec_l05Path N0 v i = r1 (pathUp v N0 i) := by
  have := N0_big
  have hl := chain_len hc
  unfold spec_l05Path
  exact spec_path_r_is hc N0 i (by omega) hi.2 (by omega)

/-! ### a walk along a path -/
/-- the day on which the next one starts -/
def nextDay (v : List Std) (day : Int) : List Int → Int
  | [] => day
  | y :: _ => (v.getD y.toNat dStd).2.2.2.2.1
/-- the drift of so many days -/
abbrev drO (x : Std) (m : Int) : Option Fq := fmul x.2.2.2.1 (m, 1)
def stepV (x : Std) (m : Int) (s : Spn) : Spn := (val (fsub (val (fadd s.1 x.2.2.1.1)) (val (drO x m))), val (fadd (val (fadd s.2 x.2.2.1.2)) (val (drO x m))))
def stepE (x : Std) (m : Int) (s : Spn) : Bool := ((fadd s.1 x.2.2.1.1).isNone || (fadd s.2 x.2.2.1.2).isNone) || ((drO x m).isNone || ((fsub (val (fadd s.1 x.2.2.1.1)) (val (drO x m))).isNone || (fadd (val (fadd s.2 x.2.2.1.2)) (val (drO x m))).isNone))
def daysAt (v : List Std) (day : Int) (i : Int) (r : List Int) : Int := nextDay v day r - (v.getD i.toNat dStd).2.2.2.2.1
def alongG (v : List Std) (day : Int) : List Int → Spn → Spn × Bool
  | [], s => (s, false)
  | i :: r, s => ((alongG v day r (stepV (v.getD i.toNat dStd) (daysAt v day i r) s)).1, stepE (v.getD i.toNat dStd) (daysAt v day i r) s || (alongG v day r (stepV (v.getD i.toNat dStd) (daysAt v day i r) s)).2)

theorem stepV_bd (x : Std) (m : Int) (s : Spn) : Bd (stepV x m s).1 ∧ Bd (stepV x m s).2 := ⟨Bd.sub, Bd.add⟩

section
variable {s t : Spn} (hs : Bd s.1 ∧ Bd s.2) (ht : Bd t.1 ∧ Bd t.2)
include hs ht
theorem impl_calc_plus_is (c : Bool) : impl_calc_plus N0 s t c = c1 (val (fadd s.1 t.1), val (fadd s.2 t.2)) ((c || (fadd s.1 t.1).isNone) || (fadd s.2 t.2).isNone) := by
  simp only [impl_calc_plus, impl_calc_plus_t, pr_eta, impl_calc_add_is hs.1 ht.1, impl_calc_add_is hs.2 ht.2, Option.bind_some]

theorem spec_l01Sums_is : spec_l01Sums N0 s t = bif (fadd s.1 t.1).isNone || (fadd s.2 t.2).isNone then r2 ((0, 0), (0, 0)) 3 else r2 (val (fadd s.1 t.1), val (fadd s.2 t.2)) 0 := by
  simp only [spec_l01Sums, spec_l01Sums_t, pr_eta, spec_l01Add_is hs.1 ht.1, spec_l01Add_is hs.2 ht.2, Option.bind_some, spec_l01Both, spec_l01Both_t]
  cases fadd s.1 t.1 with
  | none => rfl
  | some p => cases fadd s.2 t.2 <;> rfl
end

section
variable {s : Spn} (hs : Bd s.1 ∧ Bd s.2) {d : Fq} (hd : Bd d)
include hs hd
theorem impl_calc_widen_is (c : Bool) : impl_calc_widen N0 s d c = c1 (val (fsub s.1 d), val (fadd s.2 d)) ((c || (fsub s.1 d).isNone) || (fadd s.2 d).isNone) := by
  simp only [impl_calc_widen, impl_calc_widen_t, pr_eta, impl_calc_sub_is hs.1 hd, impl_calc_add_is hs.2 hd, Option.bind_some]

theorem spec_l05Wider_is {m : Int} (hm : -1000000000 ≤ m ∧ m ≤ 1000000000) : spec_l05Wider N0 s d m =
    bif (fmul d (m, 1)).isNone || ((fsub s.1 (val (fmul d (m, 1)))).isNone || (fadd s.2 (val (fmul d (m, 1)))).isNone) then r2 ((0, 0), (0, 0)) 3 else r2 (val (fsub s.1 (val (fmul d (m, 1)))), val (fadd s.2 (val (fmul d (m, 1))))) 0 := by
  simp only [spec_l05Wider, spec_l05Wider_t, pr_eta, spec_l01Whole_is, spec_l01Mul_is hd (Bd.num hm), Option.bind_some]
  cases h : fmul d (m, 1) with
  | none => rfl
  | some e =>
    have he : Bd e := Bd.of (mkF_valid h)
    simp only [Option.getD_some, spec_l01Sub_is hs.1 he, spec_l01Add_is hs.2 he, Option.bind_some]
    cases fsub s.1 e with
    | none => rfl
    | some p => cases fadd s.2 e <;> rfl
end

section
variable {v : List Std} (hc : chainOk v = true) {day : Int} (hday : 0 ≤ day ∧ day ≤ 100000) {P : List Int} (hP : ∀ y ∈ P, 0 ≤ y ∧ y < (v.length : Int)) (hl : P.length ≤ 1000)
include hc hday hP hl

theorem impl_along_l2_is (z : Spn) : ∀ (k i : Nat) (c : Bool) (s : Spn), i ≤ P.length → P.length - i < k → Bd s.1 ∧ Bd s.2 →
    impl_calc_along_l2 N0 k (i : Int) P v day P (P.length : Int) c s.1.1 s.1.2 s.2.1 s.2.2 z.1.1 z.1.2 z.2.1 z.2.2 = c1 (alongG v day (P.drop i) s).1 (c || (alongG v day (P.drop i) s).2)
  | 0, i, c, s, _, hk, _ => by omega
  | k + 1, i, c, s, hi, hk, hs => by
    simp only [impl_calc_along_l2, impl_calc_along_t2]
    by_cases h : i < P.length
    · have hp := hP _ (List.getElem_mem h)
      have hx := std_bd (chain_at hc hp).1
      have key (m : Int) (hm : -1000000000 ≤ m ∧ m ≤ 1000000000) (he : daysAt v day P[i] (P.drop (i + 1)) = m) :
          ((impl_calc_plus N0 s (v.getD P[i].toNat dStd).2.2.1 c).bind fun r0 => (impl_num N0 m).bind fun r1 => (impl_calc_mul N0 (v.getD P[i].toNat dStd).2.2.2.1 r1.1.1.1 r0.2.1).bind fun r2 =>
            (impl_calc_widen N0 r0.1.1.1 r2.1.1.1 r2.2.1).bind fun r3 => impl_calc_along_l2 N0 k ((i + 1 : Nat) : Int) P v day P (P.length : Int) r3.2.1 r3.1.1.1.1.1 r3.1.1.1.1.2 r3.1.1.1.2.1 r3.1.1.1.2.2 z.1.1 z.1.2 z.2.1 z.2.2)
          = c1 (alongG v day (P.drop i) s).1 (c || (alongG v day (P.drop i) s).2) := by
        rw [impl_calc_plus_is hs ⟨hx.1, hx.2.1⟩, Option.bind_some, impl_num_is, Option.bind_some]
        dsimp only
        rw [impl_calc_mul_is hx.2.2.1 (Bd.num hm), Option.bind_some]
        dsimp only
        rw [impl_calc_widen_is ⟨Bd.add, Bd.add⟩ Bd.mul, Option.bind_some]
        dsimp only
        have ih := impl_along_l2_is z k (i + 1) (((((c || (fadd s.1 (v.getD P[i].toNat dStd).2.2.1.1).isNone) || (fadd s.2 (v.getD P[i].toNat dStd).2.2.1.2).isNone) || (drO (v.getD P[i].toNat dStd) m).isNone) || (fsub (val (fadd s.1 (v.getD P[i].toNat dStd).2.2.1.1)) (val (drO (v.getD P[i].toNat dStd) m))).isNone) || (fadd (val (fadd s.2 (v.getD P[i].toNat dStd).2.2.1.2)) (val (drO (v.getD P[i].toNat dStd) m))).isNone) (stepV (v.getD P[i].toNat dStd) m s) h (by omega) (stepV_bd _ _ _)
        refine Eq.trans ih ?_
        rw [drop_ix h, alongG, he]
        simp only [stepE, Bool.or_assoc]
      have hr := h
      simp only [lt_t h, nn_t, Bool.and_self, cond_true, Int.toNat_natCast, get_ix h, w_succ (i := i) (by omega), dec_t hp.1, dec_t hp.2, pr_eta]
      by_cases h2 : i + 1 < P.length
      · have hp2 := hP _ (List.getElem_mem h2)
        have hx2 := std_bd (chain_at hc hp2).1
        have hx' := hx
        simp only [dStd] at hx2 hx'
        simp only [lt_t h2, cond_true, get_ix h2, dec_t hp2.1, dec_t hp2.2, Bool.and_self]
        rw [w_in (by unfold I64; omega)]
        exact key _ (by omega) (by rw [drop_ix h2]; rfl)
      · have hx' := hx
        simp only [dStd] at hx'
        simp only [lt_f h2, cond_false]
        rw [w_in (by unfold I64; omega)]
        exact key _ (by omega) (by rw [List.drop_eq_nil_of_le (by omega)]; rfl)
    · have : i = P.length := by omega
      subst this
      simp only [lt_f h, cond_false, List.drop_length, alongG, Bool.or_false]

theorem impl_along_is (s : Spn) (c : Bool) (hs : Bd s.1 ∧ Bd s.2) : impl_calc_along N0 v P day s c = c1 (alongG v day P s).1 (c || (alongG v day P s).2) := by
  have := N0_big
  simp only [impl_calc_along, impl_calc_along_t]
  exact impl_along_l2_is hc hday hP hl ((0, 0), (0, 0)) N0 0 c s (by omega) (by omega) hs

theorem spec_along_l2_is (z : Spn) : ∀ (k i : Nat) (s : Spn), i ≤ P.length → P.length - i < k → Bd s.1 ∧ Bd s.2 →
    spec_l05Along_l2 N0 k (i : Int) P v day z.1.1 z.1.2 z.2.1 z.2.2 s.1.1 s.1.2 s.2.1 s.2.2 = bif (alongG v day (P.drop i) s).2 then r2 ((0, 0), (0, 0)) 3 else r2 (alongG v day (P.drop i) s).1 0
  | 0, i, s, _, hk, _ => by omega
  | k + 1, i, s, hi, hk, hs => by
    simp only [spec_l05Along_l2, spec_l05Along_t2]
    by_cases h : i < P.length
    · have hp := hP _ (List.getElem_mem h)
      have hx := std_bd (chain_at hc hp).1
      simp only [lt_t h, nn_t, Bool.and_self, cond_true, Int.toNat_natCast, get_ix h, w_succ (i := i) (by omega), dec_t hp.1, dec_t hp.2, pr_eta]
      rw [spec_l01Sums_is hs ⟨hx.1, hx.2.1⟩]
      have key (m : Int) (hm : -1000000000 ≤ m ∧ m ≤ 1000000000) (he : daysAt v day P[i] (P.drop (i + 1)) = m)
          (h1 : ((fadd s.1 (v.getD P[i].toNat dStd).2.2.1.1).isNone || (fadd s.2 (v.getD P[i].toNat dStd).2.2.1.2).isNone) = false) :
          ((spec_l05Wider N0 (val (fadd s.1 (v.getD P[i].toNat dStd).2.2.1.1), val (fadd s.2 (v.getD P[i].toNat dStd).2.2.1.2)) (v.getD P[i].toNat dStd).2.2.2.1 m).bind fun r1 =>
            cond (r1.1.2.1.1 != 0) (r2 ((0, 0), (0, 0)) r1.1.2.1.1) (spec_l05Along_l2 N0 k ((i + 1 : Nat) : Int) P v day z.1.1 z.1.2 z.2.1 z.2.2 r1.1.1.1.1.1 r1.1.1.1.1.2 r1.1.1.1.2.1 r1.1.1.1.2.2))
          = bif (alongG v day (P.drop i) s).2 then r2 ((0, 0), (0, 0)) 3 else r2 (alongG v day (P.drop i) s).1 0 := by
        rw [spec_l05Wider_is ⟨Bd.add, Bd.add⟩ hx.2.2.1 hm, drop_ix h, alongG, he, stepE, h1, Bool.false_or]
        have ih := spec_along_l2_is z k (i + 1) (stepV (v.getD P[i].toNat dStd) m s) h (by omega) (stepV_bd _ _ _)
        cases h3 : ((drO (v.getD P[i].toNat dStd) m).isNone || ((fsub (val (fadd s.1 (v.getD P[i].toNat dStd).2.2.1.1)) (val (drO (v.getD P[i].toNat dStd) m))).isNone || (fadd (val (fadd s.2 (v.getD P[i].toNat dStd).2.2.1.2)) (val (drO (v.getD P[i].toNat dStd) m))).isNone)) with
        | true => rfl
        | false => exact ih
      cases h1 : ((fadd s.1 (v.getD P[i].toNat dStd).2.2.1.1).isNone || (fadd s.2 (v.getD P[i].toNat dStd).2.2.1.2).isNone) with
      | true =>
        rw [drop_ix h, alongG, stepE, h1]
        rfl
      | false =>
        rw [cond_false, Option.bind_some]
        dsimp only
        simp only [show ((0 : Int) != 0) = false from rfl, cond_false]
        by_cases h2 : i + 1 < P.length
        · have hp2 := hP _ (List.getElem_mem h2)
          have hx2 := std_bd (chain_at hc hp2).1
          have hx' := hx
          simp only [dStd] at hx2 hx'
          simp only [lt_t h2, cond_true, get_ix h2, dec_t hp2.1, dec_t hp2.2, Bool.and_self]
          rw [w_in (by unfold I64; omega)]
          exact key _ (by omega) (by rw [drop_ix h2]; rfl) h1
        · have hx' := hx
          simp only [dStd] at hx'
          simp only [lt_f h2, cond_false]
          rw [w_in (by unfold I64; omega)]
          exact key _ (by omega) (by rw [List.drop_eq_nil_of_le (by omega)]; rfl) h1
    · have : i = P.length := by omega
      subst this
      simp only [lt_f h, cond_false, List.drop_length, alongG]

theorem spec_along_is (s : Spn) (hs : Bd s.1 ∧ Bd s.2) : spec_l05Along N0 v P s day = bif (alongG v day P s).2 then r2 ((0, 0), (0, 0)) 3 else r2 (alongG v day P s).1 0 := by
  have := N0_big
  simp only [spec_l05Along, spec_l05Along_t]
  exact spec_along_l2_is hc hday hP hl ((0, 0), (0, 0)) N0 0 s (by omega) (by omega) hs
end

abbrev s0 : Spn := ((0, 1), (0, 1))
theorem s0_bd : Bd s0.1 ∧ Bd s0.2 := ⟨Bd.zero, Bd.zero⟩

/-- the span of a standard on a day, its code -/
abbrev spanRes (v : List Std) (i day : Int) : Option (((Spn × Unit) × ((Int × Unit) × Unit)) × Unit) :=
  bif goodOn (v.getD i.toNat dStd) day then (bif (alongG v day (pathUp v N0 i) s0).2 then r2 ((0, 0), (0, 0)) 3 else r2 (alongG v day (pathUp v N0 i) s0).1 0) else r2 ((0, 0), (0, 0)) 4

theorem isDay_bd {d : Int} (h : isDay d = true) : 0 ≤ d ∧ d ≤ 100000 := by unfold isDay at h; rwa [btw_iff] at h

section
variable {v : List Std} (hc : chainOk v = true) {i : Int} (hi : 0 ≤ i ∧ i < (v.length : Int)) {day : Int} (hd : isDay day = true)
include hc hi hd

theorem path_le : (pathUp v N0 i).length ≤ 1000 := by
  have h1 := path_len hc N0 i hi.2
  have h2 := chain_len hc
  omega

theorem impl_spanOn_is (c : Bool) : impl_calc_spanOn N0 v i day c = c1 (alongG v day (pathUp v N0 i) s0).1 (c || (alongG v day (pathUp v N0 i) s0).2) := by
  unfold impl_calc_spanOn impl_calc_spanOn_t
  rw [impl_path_is hc hi, Option.bind_some]
  simp only [impl_none, impl_none_t, impl_zero_is, Option.bind_some]
  rw [impl_along_is hc (isDay_bd hd) (path_in hc N0 i hi.2) (path_le hc hi hd) s0 c s0_bd, Option.bind_some]

theorem spec_l05Span_is : spec_l05Span N0 v i day = spanRes v i day := by
  unfold spec_l05Span spec_l05Span_t
  rw [dec_t hi.1, dec_t hi.2]
  simp only [Bool.and_self, cond_true, pr_eta, spec_l05Good_e_is, Option.bind_some, spec_l05Path_is hc hi, spec_l05Nothing, spec_l05Nothing_t, spec_l01Whole_is]
  rw [spec_along_is hc (isDay_bd hd) (path_in hc N0 i hi.2) (path_le hc hi hd) s0 s0_bd]
  unfold spanRes
  cases goodOn (v.getD i.toNat dStd) day with
  | false => rfl
  | true => cases (alongG v day (pathUp v N0 i) s0).2 <;> rfl
end

abbrev spanOnRes (v : List Std) (i day : Int) : Option (((Spn × Unit) × ((Int × Unit) × Unit)) × Unit) :=
  bif atC v i day != 0 then r2 ((0, 0), (0, 0)) (atC v i day) else spanRes v i day

theorem impl_SpanOn_is (v : List Std) (i day : Int) (hv : Sized v) : impl_SpanOn N0 v i day = spanOnRes v i day := by
  unfold impl_SpanOn impl_SpanOn_t spanOnRes
  rw [impl_chainCode_1day v i day hv, Option.bind_some]
  dsimp only
  by_cases h : atC v i day = 0
  · obtain ⟨hc, hi, hd⟩ := atC_ok h
    rw [ne_f h, cond_false, cond_false, dec_t hi.1, dec_t hi.2]
    simp only [Bool.and_self, cond_true, pr_eta, impl_Standard_good_is, Option.bind_some, impl_spanOn_is hc hi hd, impl_calc_span, impl_calc_span_t, Bool.false_or]
    unfold spanRes
    cases goodOn (v.getD i.toNat dStd) day with
    | false => rfl
    | true => cases (alongG v day (pathUp v N0 i) s0).2 <;> rfl
  · rw [ne_true h]; rfl

theorem spec_SpanOn_is (v : List Std) (i day : Int) (hv : Sized v) : spec_SpanOn N0 v i day = spanOnRes v i day := by
  unfold spec_SpanOn spec_SpanOn_t spanOnRes
  rw [spec_l05At_is v i day hv, Option.bind_some]
  dsimp only
  by_cases h : atC v i day = 0
  · obtain ⟨hc, hi, hd⟩ := atC_ok h
    change (bif (atC v i day != 0) then _ else _) = _
    rw [ne_f h, cond_false, cond_false, spec_l05Span_is hc hi hd]
    unfold spanRes
    cases goodOn (v.getD i.toNat dStd) day with
    | false => rfl
    | true => cases (alongG v day (pathUp v N0 i) s0).2 <;> rfl
  · change (bif (atC v i day != 0) then _ else _) = _
    rw [ne_true h]; rfl
end Go.Abs
