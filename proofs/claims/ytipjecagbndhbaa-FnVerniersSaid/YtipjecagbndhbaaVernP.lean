/- Lines of a vernier: where they lie, which fits. -/
import Derived.Test.YtipjecagbndhbaaScaleP
namespace Go.Abs
set_option linter.unusedSectionVars false
set_option linter.unusedSimpArgs false
set_option linter.unusedVariables false

structure LineIs (s : Sc) (M : Nat) (x : Fq) : Prop where
  u : Bd s.1
  pos : s.1.1 > 0
  len : 2 ≤ s.2.length ∧ s.2.length ≤ 60
  l : ∀ y ∈ s.2, Bd y
  ok : ∀ i, i < s.2.length → mkOk s i = true
  n : 2 ≤ M ∧ M ≤ 40
  x : Bd x

theorem line_is {s : Sc} {M : Nat} {b : Bool} {x : Fq} (h : lineOk s ((M : Int), b) x = true) : LineIs s M x := by
  unfold lineOk scaleOk at h
  simp only [Bool.and_eq_true, btw_iff] at h
  have h0 := unit_bd h.1.1
  refine ⟨h0.1, h0.2, by omega, all_bd h.1.2.2.1, fun i hi => allUp_at h.1.2.2.2.2 i (by omega) (by omega), by omega, Bd.of h.2.2⟩

abbrev markV (s : Sc) (i : Nat) : Fq := val (maO s i)
/-- how far a line is moved -/
def lnI (M : Nat) (b : Bool) (j : Int) : Int := j * (bif b then (M : Int) + 1 else (M : Int) - 1)
abbrev l1O (s : Sc) (M : Nat) (b : Bool) (j : Int) : Option Fq := fmul (lnI M b j, 1) s.1
abbrev l2O (s : Sc) (M : Nat) (b : Bool) (j : Int) : Option Fq := fdiv (val (l1O s M b j)) ((M : Int), 1)
abbrev l3O (s : Sc) (M : Nat) (b : Bool) (x : Fq) (j : Int) : Option Fq := fadd x (val (l2O s M b j))
abbrev lineV (s : Sc) (M : Nat) (b : Bool) (x : Fq) (j : Int) : Fq := val (l3O s M b x j)
def lineE (s : Sc) (M : Nat) (b : Bool) (x : Fq) (j : Int) : Bool := (l1O s M b j).isNone || ((l2O s M b j).isNone || (l3O s M b x j).isNone)

abbrev nrO (s : Sc) (y : Fq) (i : Nat) : Option Fq := fsub y (markV s i)
abbrev nrD (s : Sc) (y : Fq) (i : Nat) : Fq := szF (val (nrO s y i))
/-- the least of some distances, from an index on -/
def leastUp (d : Nat → Fq) (e : Nat → Bool) : Nat → Nat → Int → Fq → (Int × Fq) × Bool
  | 0, _, b, f => ((b, f), false)
  | k + 1, i, b, f => bif decide (i = 0) || decide (cmpF (d i) f < 0) then ((leastUp d e k (i + 1) (i : Int) (d i)).1, e i || (leastUp d e k (i + 1) (i : Int) (d i)).2) else ((leastUp d e k (i + 1) b f).1, e i || (leastUp d e k (i + 1) b f).2)

theorem leastUp_err {d : Nat → Fq} {e : Nat → Bool} {i : Nat} (k : Nat) (b : Int) (f : Fq) (h : e i = true) : (leastUp d e (k + 1) i b f).2 = true := by
  rw [leastUp, h]
  cases decide (i = 0) || decide (cmpF (d i) f < 0) <;> rfl
theorem leastUp_ok {d : Nat → Fq} {e : Nat → Bool} {i : Nat} (k : Nat) (b : Int) (f : Fq) (h : e i = false) :
    leastUp d e (k + 1) i b f = bif decide (i = 0) || decide (cmpF (d i) f < 0) then leastUp d e k (i + 1) (i : Int) (d i) else leastUp d e k (i + 1) b f := by
  rw [leastUp, h]
  cases decide (i = 0) || decide (cmpF (d i) f < 0) <;> rfl
theorem leastUp_in (d : Nat → Fq) (e : Nat → Bool) : ∀ (k i n : Nat) (b : Int) (f : Fq), i + k ≤ n → (0 ≤ b ∧ b < (n : Int)) → 0 ≤ (leastUp d e k i b f).1.1 ∧ (leastUp d e k i b f).1.1 < (n : Int)
  | 0, i, n, b, f, _, hb => hb
  | k + 1, i, n, b, f, h, hb => by
    rw [leastUp]
    cases decide (i = 0) || decide (cmpF (d i) f < 0) with
    | true => exact leastUp_in d e k (i + 1) n _ _ (by omega) (by omega)
    | false => exact leastUp_in d e k (i + 1) n _ _ (by omega) hb
theorem leastUp_first (d : Nat → Fq) (e : Nat → Bool) {k : Nat} (hk : 0 < k) (b c : Int) (f g : Fq) : leastUp d e k 0 b f = leastUp d e k 0 c g := by
  cases k with
  | zero => omega
  | succ k => rfl

abbrev nearG (s : Sc) (y : Fq) : (Int × Fq) × Bool := leastUp (nrD s y) (fun i => (nrO s y i).isNone) s.2.length 0 (-1) (0, 1)

section
variable {s : Sc} {M : Nat} {x : Fq} (H : LineIs s M x)
include H

theorem mark_bd (i : Nat) (hi : i < s.2.length) : Bd (s.2.getD i (0, 0)) := by
  rw [get_ix hi]; exact H.l _ (List.getElem_mem hi)

theorem impl_mark_is {i : Nat} (hi : i < s.2.length) : impl_mark N0 s (i : Int) = r1 (markV s i) := by
  have hx := mark_bd H i hi
  have hn := H.len
  simp only [impl_mark, impl_mark_t, pr_eta, impl_num_is, Option.bind_some, nn_t, lt_t hi, Bool.and_self, cond_true, Int.toNat_natCast]
  rw [impl_calc_mul_is (Bd.num (n := (i : Int)) (by omega)) H.u, Option.bind_some]
  dsimp only
  rw [impl_calc_add_is Bd.mul hx, Option.bind_some]

theorem spec_mark_ok {i : Nat} (hi : i < s.2.length) : spec_l02Mark N0 (i : Int) s = c2 (markV s i) 0 s := by
  rw [spec_l02Mark_is H.u hi H.len.2 (mark_bd H i hi), H.ok i hi]
  rfl

theorem ln_bd (b : Bool) {j : Int} (hj : 0 ≤ j ∧ j ≤ 40) : 0 ≤ lnI M b j ∧ lnI M b j ≤ 1640 := by
  have hn := H.n
  unfold lnI
  cases b with
  | true => exact mul_pos_bd (A := 40) (B := 41) hj (by rw [cond_true]; omega)
  | false => exact mul_pos_bd (A := 40) (B := 41) hj (by rw [cond_false]; omega)

theorem impl_line_is (b : Bool) {j : Int} (hj : 0 ≤ j ∧ j ≤ 40) (c : Bool) : impl_calc_line N0 s ((M : Int), b) x j c = c1 (lineV s M b x j) (c || lineE s M b x j) := by
  have hn := H.n
  have hl := ln_bd H b hj
  have hM : Bd ((M : Int), 1) := Bd.num (by omega)
  have key : ((impl_num N0 (lnI M b j)).bind fun r0 => (impl_calc_mul N0 r0.1.1.1 s.1 c).bind fun r1 => (impl_num N0 (M : Int)).bind fun r2 => (impl_calc_div N0 r1.1.1.1 r2.1.1.1 r1.2.1).bind fun r3 =>
      (impl_calc_add N0 x r3.1.1.1 r3.2.1).bind fun r4 => c1 r4.1.1.1 r4.2.1) = c1 (lineV s M b x j) (c || lineE s M b x j) := by
    rw [impl_num_is, Option.bind_some]
    dsimp only
    rw [impl_calc_mul_is (Bd.num (by omega)) H.u, Option.bind_some, impl_num_is, Option.bind_some]
    dsimp only
    rw [impl_calc_div_is Bd.mul hM _ (show (M : Int) ≠ 0 by omega), Option.bind_some]
    dsimp only
    rw [impl_calc_add_is H.x Bd.div, Option.bind_some]
    unfold lineE
    simp only [Bool.or_assoc]
  unfold impl_calc_line impl_calc_line_t
  simp only [pr_eta]
  unfold lnI at key hl
  cases b with
  | true =>
    rw [cond_true] at key hl
    rw [cond_true, w_in (x := (M : Int) + 1) (by unfold I64; omega), w_in (x := j * ((M : Int) + 1)) (by unfold I64; omega)]
    exact key
  | false =>
    rw [cond_false] at key hl
    rw [cond_false, w_in (x := (M : Int) - 1) (by unfold I64; omega), w_in (x := j * ((M : Int) - 1)) (by unfold I64; omega)]
    exact key

theorem spec_line_is (b : Bool) {j : Int} (hj : 0 ≤ j ∧ j ≤ 40) : spec_l02Line N0 x j s ((M : Int), b) = bif lineE s M b x j then d2 (0, 0) 3 s ((M : Int), b) else d2 (lineV s M b x j) 0 s ((M : Int), b) := by
  have hn := H.n
  have hl := ln_bd H b hj
  have hM : Bd ((M : Int), 1) := Bd.num (by omega)
  have key : ((spec_l01Whole N0 (lnI M b j)).bind fun r0 => (spec_l01Mul N0 r0.1.1.1 s.1).bind fun r1 => cond (r1.1.2.1.1 != 0) (d2 (0, 0) r1.1.2.1.1 s ((M : Int), b))
      ((spec_l01Whole N0 (M : Int)).bind fun r2 => (spec_l01Div N0 r1.1.1.1 r2.1.1.1).bind fun r3 => cond (r3.1.2.1.1 != 0) (d2 (0, 0) r3.1.2.1.1 s ((M : Int), b))
        ((spec_l01Add N0 x r3.1.1.1).bind fun r4 => d2 r4.1.1.1 r4.1.2.1.1 s ((M : Int), b)))) = bif lineE s M b x j then d2 (0, 0) 3 s ((M : Int), b) else d2 (lineV s M b x j) 0 s ((M : Int), b) := by
    rw [spec_l01Whole_is, Option.bind_some]
    dsimp only
    rw [spec_l01Mul_is (Bd.num (by omega)) H.u, Option.bind_some, spec_l01Whole_is, Option.bind_some]
    dsimp only
    unfold lineE lineV l3O l2O l1O
    cases h1 : fmul (lnI M b j, 1) s.1 with
    | none => rfl
    | some p =>
      simp only [Option.getD_some, Option.isSome_some, cond_true, show ((0 : Int) != 0) = false from rfl, cond_false]
      rw [spec_l01Div_is (Bd.of (mkF_valid h1)) hM (show (M : Int) ≠ 0 by omega), Option.bind_some]
      dsimp only
      cases h2 : fdiv p ((M : Int), 1) with
      | none => rfl
      | some q =>
        simp only [Option.getD_some, Option.isSome_some, cond_true, show ((0 : Int) != 0) = false from rfl, cond_false]
        rw [spec_l01Add_is H.x (Bd.of (mkF_valid h2)), Option.bind_some]
        dsimp only
        cases fadd x q <;> rfl
  unfold spec_l02Line spec_l02Line_t
  simp only [pr_eta]
  unfold lnI at key hl
  cases b with
  | true =>
    rw [cond_true] at key hl
    rw [cond_true, w_in (x := (M : Int) + 1) (by unfold I64; omega), w_in (x := j * ((M : Int) + 1)) (by unfold I64; omega)]
    exact key
  | false =>
    rw [cond_false] at key hl
    rw [cond_false, w_in (x := (M : Int) - 1) (by unfold I64; omega), w_in (x := j * ((M : Int) - 1)) (by unfold I64; omega)]
    exact key

/-! ### the nearest mark -/
theorem impl_near_l3_is {y : Fq} (hy : Bd y) (z : Fq) : ∀ (k i : Nat) (b : Int) (c : Bool) (f : Fq), i ≤ s.2.length → s.2.length - i < k → decide (b < 0) = decide (i = 0) →
    impl_calc_near_l3 N0 k (i : Int) b (s.2.length : Int) c f.1 f.2 s.1.1 s.1.2 s.2 y.1 y.2 z.1 z.2 =
      c2 (leastUp (nrD s y) (fun i => (nrO s y i).isNone) (s.2.length - i) i b f).1.1 (leastUp (nrD s y) (fun i => (nrO s y i).isNone) (s.2.length - i) i b f).1.2 (c || (leastUp (nrD s y) (fun i => (nrO s y i).isNone) (s.2.length - i) i b f).2)
  | 0, i, b, c, f, _, hk, _ => by omega
  | k + 1, i, b, c, f, hi, hk, hb => by
    have hn := H.len
    simp only [impl_calc_near_l3, impl_calc_near_t3]
    by_cases h : i < s.2.length
    · simp only [lt_t h, cond_true, w_succ (i := i) (by omega), pr_eta]
      rw [impl_mark_is H h, Option.bind_some]
      dsimp only
      rw [impl_calc_sub_is hy Bd.add, Option.bind_some]
      dsimp only
      rw [impl_size_is Bd.sub, Option.bind_some, hb, show s.2.length - i = (s.2.length - (i + 1)) + 1 by omega, leastUp]
      dsimp only
      rw [impl_compare_is, Option.bind_some]
      dsimp only
      have ih1 := impl_near_l3_is hy z k (i + 1) (i : Int) (c || (nrO s y i).isNone) (nrD s y i) h (by omega) (by rw [dec_f (by omega), dec_f (by omega)])
      by_cases h0 : i = 0
      · rw [dec_t h0, cond_true, Bool.true_or, cond_true]
        refine Eq.trans ih1 ?_
        simp only [Bool.or_assoc]
      · have ih2 := impl_near_l3_is hy z k (i + 1) b (c || (nrO s y i).isNone) f h (by omega) (by rw [hb, dec_f h0, dec_f (by omega)])
        rw [dec_f h0, cond_false, Bool.false_or]
        cases decide (cmpF (nrD s y i) f < 0) with
        | true => refine Eq.trans ih1 ?_; simp only [Bool.or_assoc, cond_true]
        | false => refine Eq.trans ih2 ?_; simp only [Bool.or_assoc, cond_false]
    · have : i = s.2.length := by omega
      rw [this, dec_f (by omega), cond_false, Nat.sub_self]
      simp only [leastUp, Bool.or_false, pr_eta]

theorem impl_near_is {y : Fq} (hy : Bd y) (c : Bool) : impl_calc_near N0 s y c = c2 (nearG s y).1.1 (nearG s y).1.2 (c || (nearG s y).2) := by
  have := N0_big
  have hn := H.len
  simp only [impl_calc_near, impl_calc_near_t, impl_zero_is, Option.bind_some]
  exact impl_near_l3_is H hy (0, 0) N0 0 (-1) c (0, 1) (by omega) (by omega) rfl

theorem spec_near_l4_is {y : Fq} (hy : Bd y) (z : Fq) : ∀ (k i : Nat) (b : Int) (f : Fq), i ≤ s.2.length → s.2.length - i < k →
    spec_l02Nearest_l4 N0 k (i : Int) b s.1.1 s.1.2 s.2 z.1 z.2 f.1 f.2 y.1 y.2 =
      bif (leastUp (nrD s y) (fun i => (nrO s y i).isNone) (s.2.length - i) i b f).2 then c3 0 (0, 0) 3 s else c3 (leastUp (nrD s y) (fun i => (nrO s y i).isNone) (s.2.length - i) i b f).1.1 (leastUp (nrD s y) (fun i => (nrO s y i).isNone) (s.2.length - i) i b f).1.2 0 s
  | 0, i, b, f, _, hk => by omega
  | k + 1, i, b, f, hi, hk => by
    have hn := H.len
    simp only [spec_l02Nearest_l4, spec_l02Nearest_t4]
    by_cases h : i < s.2.length
    · simp only [lt_t h, cond_true, w_succ (i := i) (by omega), pr_eta]
      rw [spec_mark_ok H h, Option.bind_some]
      dsimp only
      rw [spec_l01Sub_is hy Bd.add, Option.bind_some, show s.2.length - i = (s.2.length - (i + 1)) + 1 by omega]
      dsimp only
      cases h1 : fsub y (val (maO s i)) with
      | none => rw [leastUp_err _ b f (show (nrO s y i).isNone = true by rw [show nrO s y i = none from h1]; rfl)]; rfl
      | some q =>
        have hq : nrO s y i = some q := h1
        have hd : nrD s y i = szF q := by unfold nrD; rw [hq]; rfl
        rw [leastUp_ok _ b f (show (nrO s y i).isNone = false by rw [hq]; rfl), hd]
        simp only [Option.getD_some, Option.isSome_some, cond_true, show ((0 : Int) != 0) = false from rfl, cond_false]
        rw [spec_l02Size_is (Bd.of (mkF_valid h1)), Option.bind_some]
        dsimp only
        rw [spec_l01Cmp_is, Option.bind_some]
        dsimp only
        have ih1 := spec_near_l4_is hy z k (i + 1) (i : Int) (szF q) h (by omega)
        have ih2 := spec_near_l4_is hy z k (i + 1) b f h (by omega)
        by_cases h0 : i = 0
        · rw [eq_t (a := (i : Int)) (b := 0) (by omega), dec_t h0, cond_true, Bool.true_or, cond_true]
          exact ih1
        · rw [eq_f (a := (i : Int)) (b := 0) (by omega), dec_f h0, cond_false, Bool.false_or]
          cases decide (cmpF (szF q) f < 0) with
          | true => exact ih1
          | false => exact ih2
    · have : i = s.2.length := by omega
      rw [this, dec_f (by omega), cond_false, Nat.sub_self]
      simp only [leastUp, cond_false, pr_eta]

theorem spec_near_is {y : Fq} (hy : Bd y) : spec_l02Nearest N0 y s = bif (nearG s y).2 then c3 0 (0, 0) 3 s else c3 (nearG s y).1.1 (nearG s y).1.2 0 s := by
  have := N0_big
  have hn := H.len
  simp only [spec_l02Nearest, spec_l02Nearest_t]
  have e := spec_near_l4_is H hy (0, 0) N0 0 0 (0, 0) (by omega) (by omega)
  rw [Nat.sub_zero, leastUp_first _ _ (by omega) 0 (-1) (0, 0) (0, 1)] at e
  exact e
end
end Go.Abs
