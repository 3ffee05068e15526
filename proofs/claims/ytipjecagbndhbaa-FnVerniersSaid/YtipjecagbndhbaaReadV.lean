/- What ReadVernier gives. -/
import Derived.Test.YtipjecagbndhbaaVernP
import Derived.Test.YtipjecagbndhbaaFracsL
import Derived.Test.YtipjecagbndhbaaTrod
namespace Go.Abs
set_option linter.unusedSectionVars false
set_option linter.unusedSimpArgs false
set_option linter.unusedVariables false

/-! ### which line fits -/
abbrev ftD (s : Sc) (M : Nat) (b : Bool) (x : Fq) (j : Nat) : Fq := (nearG s (lineV s M b x (j : Int))).1.2
abbrev ftE (s : Sc) (M : Nat) (b : Bool) (x : Fq) (j : Nat) : Bool := lineE s M b x (j : Int) || (nearG s (lineV s M b x (j : Int))).2
abbrev fitG (s : Sc) (M : Nat) (b : Bool) (x : Fq) : (Int × Fq) × Bool := leastUp (ftD s M b x) (ftE s M b x) M 0 (-1) (0, 1)
def fitsP (s : Sc) (M : Nat) (b : Bool) (x : Fq) : Int × Int :=
  bif decide (cmpF x (markV s 0) < 0) then (0, 2) else bif lineE s M b x ((M : Int) - 1) then (0, 3)
    else bif decide (cmpF (lineV s M b x ((M : Int) - 1)) (markV s (s.2.length - 1)) > 0) then (0, 2) else bif (fitG s M b x).2 then (0, 3) else ((fitG s M b x).1.1, 0)

section
variable {s : Sc} {M : Nat} {x : Fq} (H : LineIs s M x) (bk : Bool)
include H

theorem impl_fits_l14_is : ∀ (k j : Nat) (b : Int) (c : Bool) (f : Fq), j ≤ M → M - j < k → decide (b < 0) = decide (j = 0) →
    impl_LineThatFits_l14 N0 k (j : Int) b (M : Int) f.1 f.2 x.1 x.2 (M : Int) bk s.1.1 s.1.2 s.2 c =
      bif c || (leastUp (ftD s M bk x) (ftE s M bk x) (M - j) j b f).2 then r2 0 3 else r2 (leastUp (ftD s M bk x) (ftE s M bk x) (M - j) j b f).1.1 0
  | 0, j, b, c, f, _, hk, _ => by omega
  | k + 1, j, b, c, f, hj, hk, hb => by
    have hn := H.n
    simp only [impl_LineThatFits_l14, impl_LineThatFits_t14]
    by_cases h : j < M
    · simp only [lt_t h, cond_true, w_succ (i := j) (by omega), pr_eta]
      rw [impl_line_is H bk (j := (j : Int)) (by omega), Option.bind_some]
      dsimp only
      rw [impl_near_is H Bd.add, Option.bind_some]
      dsimp only
      rw [hb, show M - j = (M - (j + 1)) + 1 by omega, leastUp, impl_compare_is, Option.bind_some]
      dsimp only
      have ih1 := impl_fits_l14_is k (j + 1) (j : Int) ((c || lineE s M bk x (j : Int)) || (nearG s (lineV s M bk x (j : Int))).2) (ftD s M bk x j) h (by omega) (by rw [dec_f (by omega), dec_f (by omega)])
      by_cases h0 : j = 0
      · rw [dec_t h0, cond_true, Bool.true_or, cond_true]
        refine Eq.trans ih1 ?_
        simp only [Bool.or_assoc]
      · have ih2 := impl_fits_l14_is k (j + 1) b ((c || lineE s M bk x (j : Int)) || (nearG s (lineV s M bk x (j : Int))).2) f h (by omega) (by rw [hb, dec_f h0, dec_f (by omega)])
        rw [dec_f h0, cond_false, Bool.false_or]
        cases decide (cmpF (ftD s M bk x j) f < 0) with
        | true => refine Eq.trans ih1 ?_; simp only [Bool.or_assoc, cond_true]
        | false => refine Eq.trans ih2 ?_; simp only [Bool.or_assoc, cond_false]
    · have : j = M := by omega
      subst this
      simp only [lt_f h, cond_false, Nat.sub_self, leastUp, Bool.or_false]

theorem spec_misfit_is {j : Int} (hj : 0 ≤ j ∧ j ≤ 40) : spec_l02Misfit N0 x j s ((M : Int), bk) =
    bif lineE s M bk x j || (nearG s (lineV s M bk x j)).2 then d2 (0, 0) 3 s ((M : Int), bk) else d2 (nearG s (lineV s M bk x j)).1.2 0 s ((M : Int), bk) := by
  unfold spec_l02Misfit spec_l02Misfit_t
  simp only [pr_eta]
  rw [spec_line_is H bk hj]
  cases lineE s M bk x j with
  | true => rfl
  | false =>
    simp only [cond_false, Option.bind_some, show ((0 : Int) != 0) = false from rfl, Bool.false_or]
    rw [spec_near_is H Bd.add]
    cases (nearG s (lineV s M bk x j)).2 <;> rfl

theorem spec_fits_l13_is : ∀ (k j : Nat) (b : Int) (f : Fq), j ≤ M → M - j < k →
    spec_l02Fits_l13 N0 k (j : Int) b s.1.1 s.1.2 s.2 (M : Int) bk f.1 f.2 x.1 x.2 =
      bif (leastUp (ftD s M bk x) (ftE s M bk x) (M - j) j b f).2 then d2 0 3 s ((M : Int), bk) else d2 (leastUp (ftD s M bk x) (ftE s M bk x) (M - j) j b f).1.1 0 s ((M : Int), bk)
  | 0, j, b, f, _, hk => by omega
  | k + 1, j, b, f, hj, hk => by
    have hn := H.n
    simp only [spec_l02Fits_l13, spec_l02Fits_t13]
    by_cases h : j < M
    · simp only [lt_t h, cond_true, w_succ (i := j) (by omega), pr_eta]
      rw [spec_misfit_is H bk (j := (j : Int)) (by omega), show M - j = (M - (j + 1)) + 1 by omega]
      cases he : ftE s M bk x j with
      | true =>
        rw [leastUp_err _ b f he, show (lineE s M bk x (j : Int) || (nearG s (lineV s M bk x (j : Int))).2) = true from he]
        rfl
      | false =>
        rw [leastUp_ok _ b f he, show (lineE s M bk x (j : Int) || (nearG s (lineV s M bk x (j : Int))).2) = false from he]
        simp only [cond_false, Option.bind_some, show ((0 : Int) != 0) = false from rfl, spec_l01Cmp_is]
        have ih1 := spec_fits_l13_is k (j + 1) (j : Int) (ftD s M bk x j) h (by omega)
        have ih2 := spec_fits_l13_is k (j + 1) b f h (by omega)
        by_cases h0 : j = 0
        · rw [eq_t (a := (j : Int)) (b := 0) (by omega), dec_t h0, cond_true, Bool.true_or, cond_true]
          exact ih1
        · rw [eq_f (a := (j : Int)) (b := 0) (by omega), dec_f h0, cond_false, Bool.false_or]
          cases decide (cmpF (ftD s M bk x j) f < 0) with
          | true => exact ih1
          | false => exact ih2
    · have : j = M := by omega
      subst this
      simp only [lt_f h, cond_false, Nat.sub_self, leastUp]

theorem impl_LineThatFits_is (hb : s.2.length ≤ 9223372036854775807) (hk : lineOk s ((M : Int), bk) x = true) : impl_LineThatFits N0 s ((M : Int), bk) x = r2 (fitsP s M bk x).1 (fitsP s M bk x).2 := by
  have hN := N0_big
  have hn := H.n
  have hl := H.len
  have h0 : impl_mark N0 s 0 = r1 (markV s 0) := impl_mark_is H (i := 0) (by omega)
  have h1 : impl_mark N0 s (IntKind.wrap .i64 ((s.2.length : Int) - 1)) = r1 (markV s (s.2.length - 1)) := by
    rw [w_in (by unfold I64; omega), show (s.2.length : Int) - 1 = ((s.2.length - 1 : Nat) : Int) by omega]
    exact impl_mark_is H (by omega)
  have e := impl_fits_l14_is H bk N0 0 (-1) false (0, 1) (by omega) (by omega) rfl
  rw [Nat.sub_zero, Bool.false_or] at e
  unfold impl_LineThatFits impl_LineThatFits_t fitsP
  simp only [pr_eta]
  rw [impl_lineCode_is s ((M : Int), bk) x hb, hk, Option.bind_some, h0, Option.bind_some, impl_compare_is, Option.bind_some, w_in (x := (M : Int) - 1) (by unfold I64; omega),
    impl_line_is H bk (j := (M : Int) - 1) (by omega), Option.bind_some, h1, Option.bind_some]
  dsimp only
  simp only [cond_true, show ((0 : Int) != 0) = false from rfl, cond_false, Bool.false_or]
  cases decide (cmpF x (markV s 0) < 0) with
  | true => rfl
  | false =>
    cases he : lineE s M bk x ((M : Int) - 1) with
    | true => rfl
    | false =>
      simp only [cond_false, impl_compare_is, Option.bind_some, impl_zero_is]
      cases decide (cmpF (lineV s M bk x ((M : Int) - 1)) (markV s (s.2.length - 1)) > 0) with
      | true => rfl
      | false =>
        refine Eq.trans e ?_
        cases (fitG s M bk x).2 <;> rfl

theorem spec_l02Fits_is : spec_l02Fits N0 x s ((M : Int), bk) = d2 (fitsP s M bk x).1 (fitsP s M bk x).2 s ((M : Int), bk) := by
  have hN := N0_big
  have hn := H.n
  have hl := H.len
  have h0 : spec_l02Mark N0 0 s = c2 (markV s 0) 0 s := spec_mark_ok H (i := 0) (by omega)
  have h1 : spec_l02Mark N0 (IntKind.wrap .i64 ((s.2.length : Int) - 1)) s = c2 (markV s (s.2.length - 1)) 0 s := by
    rw [w_in (by unfold I64; omega), show (s.2.length : Int) - 1 = ((s.2.length - 1 : Nat) : Int) by omega]
    exact spec_mark_ok H (by omega)
  have e := spec_fits_l13_is H bk N0 0 0 (0, 0) (by omega) (by omega)
  rw [Nat.sub_zero, leastUp_first _ _ (by omega) 0 (-1) (0, 0) (0, 1)] at e
  unfold spec_l02Fits spec_l02Fits_t fitsP
  simp only [pr_eta]
  rw [h0, Option.bind_some]
  dsimp only
  rw [h1, Option.bind_some, spec_l01Cmp_is, Option.bind_some, w_in (x := (M : Int) - 1) (by unfold I64; omega), spec_line_is H bk (j := (M : Int) - 1) (by omega)]
  dsimp only
  cases decide (cmpF x (markV s 0) < 0) with
  | true => rfl
  | false =>
    cases he : lineE s M bk x ((M : Int) - 1) with
    | true => rfl
    | false =>
      simp only [cond_false, spec_l01Cmp_is, Option.bind_some, show ((0 : Int) != 0) = false from rfl]
      cases decide (cmpF (lineV s M bk x ((M : Int) - 1)) (markV s (s.2.length - 1)) > 0) with
      | true => rfl
      | false =>
        refine Eq.trans e ?_
        cases (fitG s M bk x).2 <;> rfl
end

/-! ### reading -/
theorem rv_small {p q : Int} (hq : 1 ≤ q ∧ q ≤ 1000000000) (hp : -1000000000 ≤ p ∧ p ≤ 1000000000) : (mkF p q).isSome = true := by
  have hg := gcd_pos (p := p) (q := q) (by omega)
  have hd1 : ((Int.gcd p q : Nat) : Int) ∣ p := Int.gcd_dvd_left ..
  have hd2 : ((Int.gcd p q : Nat) : Int) ∣ q := Int.gcd_dvd_right ..
  have e : redP p q = (p.tdiv ((Int.gcd p q : Nat) : Int), q.tdiv ((Int.gcd p q : Nat) : Int)) := by
    unfold redP
    rw [dec_f (by omega)]
    rfl
  have e2 : ((Int.gcd p q : Nat) : Int) * q.tdiv ((Int.gcd p q : Nat) : Int) = q := Int.mul_tdiv_cancel' hd2
  have b1 := tdiv_natAbs_le p ((Int.gcd p q : Nat) : Int)
  have b2 := tdiv_natAbs_le q ((Int.gcd p q : Nat) : Int)
  have b3 : 0 ≤ q.tdiv ((Int.gcd p q : Nat) : Int) := Int.tdiv_nonneg (by omega) (by omega)
  have b4 : q.tdiv ((Int.gcd p q : Nat) : Int) ≠ 0 := by
    intro h
    rw [h, Int.mul_zero] at e2
    omega
  have hv : vF (redP p q) = true := by
    rw [e]
    unfold vF
    rw [Bool.and_eq_true, Bool.and_eq_true, btw_iff, btw_iff]
    refine ⟨by simp only; omega, by simp only; omega, ?_⟩
    have hgc : Int.gcd (p.tdiv ((Int.gcd p q : Nat) : Int)) (q.tdiv ((Int.gcd p q : Nat) : Int)) = 1 := by
      rw [Int.tdiv_eq_ediv_of_dvd hd1, Int.tdiv_eq_ediv_of_dvd hd2]
      exact Int.gcd_ediv_gcd_ediv_gcd (by omega)
    simp only [hgc]
    rfl
  unfold mkF
  rw [hv]
  rfl

abbrev q1O (M : Nat) (g : Int) : Option Fq := fdiv (g, 1) ((M : Int), 1)
abbrev p1O (s : Sc) (M : Nat) (g : Int) : Option Fq := fmul (val (q1O M g)) s.1
abbrev reO (s : Sc) (M : Nat) (x : Fq) (g : Int) : Option Fq := fsub x (val (p1O s M g))
def nearI (r u : Fq) : Int := (2 * (r.1 * u.2) + r.2 * u.1) / (2 * (r.2 * u.1))
abbrev p2O (s : Sc) (n : Int) : Option Fq := fmul (n, 1) s.1
def tailRes (s : Sc) (M : Nat) (x : Fq) (g : Int) : Fq × Int :=
  bif (p1O s M g).isNone || (reO s M x g).isNone then ((0, 0), 3)
  else bif !btw (nearI (val (reO s M x g)) s.1) (-1000000000) 1000000000 then ((0, 0), 3)
  else bif (p2O s (nearI (val (reO s M x g)) s.1)).isNone || (fadd (val (p1O s M g)) (val (p2O s (nearI (val (reO s M x g)) s.1)))).isNone then ((0, 0), 3)
  else (val (fadd (val (p1O s M g)) (val (p2O s (nearI (val (reO s M x g)) s.1)))), 0)

section
variable {s : Sc} {M : Nat} {x : Fq} (H : LineIs s M x)
include H

theorem q1_some {g : Int} (hg : 0 ≤ g ∧ g ≤ 40) : (q1O M g).isSome = true := by
  have hn := H.n
  exact rv_small (p := g * 1) (q := 1 * (M : Int)) (by omega) (by omega)

theorem near_bd {r : Fq} (hr : Bd r) : (-1000000000000000000 ≤ r.1 * s.1.2 ∧ r.1 * s.1.2 ≤ 1000000000000000000) ∧ (1 ≤ r.2 * s.1.1 ∧ r.2 * s.1.1 ≤ 1000000000000000000) := by
  have h1 := hr.1
  have h2 := H.u.2
  have h3 := H.pos
  have h4 := mul_pos_bd (a := r.2) (b := s.1.1) (A := 1000000000) (B := 1000000000) (by omega) (by omega)
  have h5 : 0 < r.2 * s.1.1 := Int.mul_pos (by omega) (by omega)
  exact ⟨bd_pq hr H.u, by omega⟩

theorem impl_nearest_is {r : Fq} (hr : Bd r) : impl_nearest N0 (IntKind.wrap .i64 (r.1 * s.1.2)) (IntKind.wrap .i64 (r.2 * s.1.1)) = r2 (nearI r s.1) (btw (nearI r s.1) (-1000000000) 1000000000) := by
  have h := near_bd H hr
  rw [w_in (x := r.1 * s.1.2) (by unfold I64; omega), w_in (x := r.2 * s.1.1) (by unfold I64; omega)]
  simp only [impl_nearest, impl_nearest_t]
  rw [w_in (x := 2 * (r.1 * s.1.2)) (by unfold I64; omega), w_in (x := 2 * (r.1 * s.1.2) + r.2 * s.1.1) (by unfold I64; omega), w_in (x := 2 * (r.2 * s.1.1)) (by unfold I64; omega),
    impl_floorDiv_is N0 (by omega) (by unfold I64; omega), Option.bind_some, impl_within_is, Option.bind_some]
  rfl

theorem spec_l01Near_is {r : Fq} (hr : Bd r) : spec_l01Near N0 r s.1 = r1 (nearI r s.1) := by
  have h := near_bd H hr
  simp only [spec_l01Near, spec_l01Near_t]
  rw [w_in (x := r.1 * s.1.2) (by unfold I64; omega), w_in (x := r.2 * s.1.1) (by unfold I64; omega), w_in (x := 2 * (r.1 * s.1.2)) (by unfold I64; omega), w_in (x := 2 * (r.1 * s.1.2) + r.2 * s.1.1) (by unfold I64; omega), w_in (x := 2 * (r.2 * s.1.1)) (by unfold I64; omega),
    spec_l01Down_is N0 (by omega) (by unfold I64; omega), Option.bind_some]
  rfl

theorem impl_tail_is {g : Int} (hg : 0 ≤ g ∧ g ≤ 40) :
    ((impl_num N0 g).bind fun a => (impl_num N0 (M : Int)).bind fun b => (impl_calc_div N0 a.1.1.1 b.1.1.1 false).bind fun r3 => (impl_calc_mul N0 r3.1.1.1 s.1 r3.2.1).bind fun r4 =>
      (impl_calc_sub N0 x r4.1.1.1 r4.2.1).bind fun r5 => (impl_nearest N0 (IntKind.wrap .i64 (r5.1.1.1.1 * s.1.2)) (IntKind.wrap .i64 (r5.1.1.1.2 * s.1.1))).bind fun r6 =>
      cond (!r6.1.2.1.1) (r2 ((0, 0) : Fq) (3 : Int)) ((impl_num N0 r6.1.1.1).bind fun r7 => (impl_calc_mul N0 r7.1.1.1 s.1 r5.2.1).bind fun r8 => (impl_calc_add N0 r4.1.1.1 r8.1.1.1 r8.2.1).bind fun r9 =>
        (impl_calc_one N0 r9.1.1.1 r9.2.1).bind fun r10 => r2 r10.1.1.1 r10.1.2.1.1)) = r2 (tailRes s M x g).1 (tailRes s M x g).2 := by
  have hn := H.n
  have hM : Bd ((M : Int), 1) := Bd.num (by omega)
  have hq := q1_some H hg
  rw [impl_num_is, Option.bind_some, impl_num_is, Option.bind_some]
  dsimp only
  rw [impl_calc_div_is (Bd.num (n := g) (by omega)) hM _ (show (M : Int) ≠ 0 by omega), Option.bind_some]
  dsimp only
  rw [impl_calc_mul_is Bd.div H.u, Option.bind_some]
  dsimp only
  rw [impl_calc_sub_is H.x Bd.mul, Option.bind_some]
  dsimp only
  rw [impl_nearest_is H (r := val (reO s M x g)) Bd.sub, Option.bind_some]
  dsimp only
  have hq' : (fdiv (g, 1) ((M : Int), 1)).isNone = false := by
    cases h : fdiv (g, 1) ((M : Int), 1) with
    | none => rw [show q1O M g = none from h] at hq; cases hq
    | some a => rfl
  rw [hq']
  unfold tailRes
  cases hb : btw (nearI (val (reO s M x g)) s.1) (-1000000000) 1000000000 with
  | false =>
    simp only [Bool.not_false, cond_true]
    cases (p1O s M g).isNone || (reO s M x g).isNone <;> rfl
  | true =>
    have hb := btw_iff.1 hb
    simp only [Bool.not_true, cond_false]
    rw [impl_num_is, Option.bind_some]
    dsimp only
    rw [impl_calc_mul_is (Bd.num (by omega)) H.u, Option.bind_some]
    dsimp only
    rw [impl_calc_add_is Bd.mul Bd.mul, Option.bind_some]
    dsimp only
    rw [impl_calc_one_is, Option.bind_some]
    dsimp only
    simp only [Bool.false_or]
    cases (p1O s M g).isNone || (reO s M x g).isNone with
    | true => rfl
    | false =>
      rw [cond_false, Bool.false_or]
      cases (p2O s (nearI (val (reO s M x g)) s.1)).isNone || (fadd (val (p1O s M g)) (val (p2O s (nearI (val (reO s M x g)) s.1)))).isNone <;> rfl

theorem spec_tail_is {g : Int} (hg : 0 ≤ g ∧ g ≤ 40) (w : Vn) :
    ((spec_l01Whole N0 g).bind fun a => (spec_l01Whole N0 (M : Int)).bind fun b => (spec_l01Div N0 a.1.1.1 b.1.1.1).bind fun r3 => (spec_l01Mul N0 r3.1.1.1 s.1).bind fun r4 =>
      cond (r4.1.2.1.1 != 0) (d2 ((0, 0) : Fq) r4.1.2.1.1 s w) ((spec_l01Sub N0 x r4.1.1.1).bind fun r5 => cond (r5.1.2.1.1 != 0) (d2 ((0, 0) : Fq) r5.1.2.1.1 s w)
        ((spec_l01Near N0 r5.1.1.1 s.1).bind fun r6 => (spec_l01Integer N0 r6.1.1.1).bind fun r7 => cond (r7.1.2.1.1 != 0) (d2 ((0, 0) : Fq) r7.1.2.1.1 s w)
          ((spec_l01Whole N0 r7.1.1.1).bind fun r8 => (spec_l01Mul N0 r8.1.1.1 s.1).bind fun r9 => cond (r9.1.2.1.1 != 0) (d2 ((0, 0) : Fq) r9.1.2.1.1 s w)
            ((spec_l01Add N0 r4.1.1.1 r9.1.1.1).bind fun r10 => d2 r10.1.1.1 r10.1.2.1.1 s w))))) = d2 (tailRes s M x g).1 (tailRes s M x g).2 s w := by
  have hn := H.n
  have hM : Bd ((M : Int), 1) := Bd.num (by omega)
  have hq := q1_some H hg
  rw [spec_l01Whole_is, Option.bind_some, spec_l01Whole_is, Option.bind_some]
  dsimp only
  rw [spec_l01Div_is (Bd.num (n := g) (by omega)) hM (show (M : Int) ≠ 0 by omega), Option.bind_some]
  dsimp only
  unfold tailRes
  unfold reO p1O
  cases h0 : fdiv (g, 1) ((M : Int), 1) with
  | none => rw [show q1O M g = none from h0] at hq; cases hq
  | some a =>
    simp only [show q1O M g = some a from h0, Option.getD_some]
    rw [spec_l01Mul_is (Bd.of (mkF_valid h0)) H.u, Option.bind_some]
    dsimp only
    cases h1 : fmul a s.1 with
    | none => simp [h1]
    | some p =>
      simp only [Option.getD_some, Option.isSome_some, cond_true, show ((0 : Int) != 0) = false from rfl, cond_false, Option.isNone_some, Bool.false_or, h1]
      rw [spec_l01Sub_is H.x (Bd.of (mkF_valid h1)), Option.bind_some]
      dsimp only
      cases h2 : fsub x p with
      | none => rfl
      | some r =>
        simp only [Option.getD_some, Option.isSome_some, cond_true, show ((0 : Int) != 0) = false from rfl, cond_false, Option.isNone_some]
        rw [spec_l01Near_is H (Bd.of (mkF_valid h2)), Option.bind_some]
        simp only [spec_l01Integer, spec_l01Integer_t, spec_l00In_is, Option.bind_some]
        cases hb : btw (nearI r s.1) (-1000000000) 1000000000 with
        | false => rfl
        | true =>
          have hb := btw_iff.1 hb
          simp only [Bool.not_true, cond_false, Option.bind_some, show ((0 : Int) != 0) = false from rfl]
          rw [spec_l01Whole_is, Option.bind_some]
          dsimp only
          rw [spec_l01Mul_is (Bd.num (by omega)) H.u, Option.bind_some]
          dsimp only
          unfold p2O
          cases h3 : fmul (nearI r s.1, 1) s.1 with
          | none => rfl
          | some q =>
            simp only [Option.getD_some, Option.isSome_some, cond_true, show ((0 : Int) != 0) = false from rfl, cond_false, Option.isNone_some, Bool.false_or]
            rw [spec_l01Add_is (Bd.of (mkF_valid h1)) (Bd.of (mkF_valid h3)), Option.bind_some]
            dsimp only
            cases fadd p q <;> rfl
end

/-- which line counts -/
abbrev lineI (M : Nat) (bk : Bool) (f : Int) : Int := bif bk then (bif f != 0 then (M : Int) - f else f) else f
def readRes (s : Sc) (M : Nat) (bk : Bool) (x : Fq) : Fq × Int :=
  bif (fitsP s M bk x).2 != 0 then ((0, 0), (fitsP s M bk x).2) else tailRes s M x (lineI M bk (fitsP s M bk x).1)

theorem fits_in {s : Sc} {M : Nat} {x : Fq} (H : LineIs s M x) (bk : Bool) : 0 ≤ (fitsP s M bk x).1 ∧ (fitsP s M bk x).1 < (M : Int) := by
  have hn := H.n
  have h : 0 ≤ (fitG s M bk x).1.1 ∧ (fitG s M bk x).1.1 < (M : Int) := by
    unfold fitG
    rw [leastUp_first _ _ (by omega) (-1) 0 (0, 1) (0, 1)]
    exact leastUp_in _ _ M 0 M 0 (0, 1) (by omega) (by omega)
  unfold fitsP
  cases decide (cmpF x (markV s 0) < 0) with
  | true => simp only [cond_true]; omega
  | false =>
    cases lineE s M bk x ((M : Int) - 1) with
    | true => simp only [cond_true, cond_false]; omega
    | false =>
      cases decide (cmpF (lineV s M bk x ((M : Int) - 1)) (markV s (s.2.length - 1)) > 0) with
      | true => simp only [cond_true, cond_false]; omega
      | false =>
        cases (fitG s M bk x).2 with
        | true => simp only [cond_true, cond_false]; omega
        | false => exact h

theorem impl_ReadVernier_at {s : Sc} {M : Nat} {x : Fq} (H : LineIs s M x) (bk : Bool) (hb : s.2.length ≤ 9223372036854775807) (hk : lineOk s ((M : Int), bk) x = true) :
    impl_ReadVernier N0 s ((M : Int), bk) x = r2 (readRes s M bk x).1 (readRes s M bk x).2 := by
  have hn := H.n
  have hf := fits_in H bk
  unfold impl_ReadVernier impl_ReadVernier_t readRes
  simp only [pr_eta]
  rw [impl_LineThatFits_is H bk hb hk, Option.bind_some]
  dsimp only
  cases (fitsP s M bk x).2 != 0 with
  | true => rfl
  | false =>
    rw [cond_false, cond_false]
    cases bk with
    | false => exact impl_tail_is H (g := (fitsP s M false x).1) (by omega)
    | true =>
      rw [cond_true]
      unfold lineI
      rw [cond_true]
      cases (fitsP s M true x).1 != 0 with
      | true =>
        rw [cond_true, cond_true, w_in (by unfold I64; omega)]
        exact impl_tail_is H (by omega)
      | false => exact impl_tail_is H (g := (fitsP s M true x).1) (by omega)

theorem spec_ReadVernier_at {s : Sc} {M : Nat} {x : Fq} (H : LineIs s M x) (bk : Bool) (hb : s.2.length ≤ 9223372036854775807) (hk : lineOk s ((M : Int), bk) x = true) :
    spec_ReadVernier N0 s ((M : Int), bk) x = r2 (readRes s M bk x).1 (readRes s M bk x).2 := by
  have hn := H.n
  have hf := fits_in H bk
  have e : spec_l02Read N0 x s ((M : Int), bk) = d2 (readRes s M bk x).1 (readRes s M bk x).2 s ((M : Int), bk) := by
    unfold spec_l02Read spec_l02Read_t readRes
    simp only [pr_eta]
    rw [spec_l02Fits_is H bk, Option.bind_some]
    dsimp only
    cases (fitsP s M bk x).2 != 0 with
    | true => rfl
    | false =>
      rw [cond_false, cond_false]
      cases bk with
      | false => exact spec_tail_is H (g := (fitsP s M false x).1) (by omega) _
      | true =>
        rw [cond_true]
        unfold lineI
        rw [cond_true]
        cases (fitsP s M true x).1 != 0 with
        | true =>
          rw [cond_true, cond_true, w_in (by unfold I64; omega)]
          exact spec_tail_is H (by omega) _
        | false => exact spec_tail_is H (g := (fitsP s M true x).1) (by omega) _
  unfold spec_ReadVernier spec_ReadVernier_t
  simp only [pr_eta]
  rw [spec_l02Asked_is s _ x hb, hk, Option.bind_some]
  dsimp only
  rw [e]
  rfl

theorem read_same (s : Sc) (w : Vn) (x : Fq) (hb : s.2.length ≤ 9223372036854775807) : ∃ a c, impl_ReadVernier N0 s w x = r2 a c ∧ spec_ReadVernier N0 s w x = r2 a c := by
  cases hk : lineOk s w x with
  | false =>
    refine ⟨(0, 0), 1, ?_, ?_⟩
    · unfold impl_ReadVernier impl_ReadVernier_t
      simp only [pr_eta]
      have e : impl_LineThatFits N0 s w x = r2 0 1 := by
        unfold impl_LineThatFits impl_LineThatFits_t
        simp only [pr_eta]
        rw [impl_lineCode_is s w x hb, hk]
        rfl
      rw [e]
      rfl
    · unfold spec_ReadVernier spec_ReadVernier_t
      simp only [pr_eta]
      rw [spec_l02Asked_is s w x hb, hk]
      rfl
  | true =>
    have h2 : 2 ≤ w.1 := by
      have h := hk
      unfold lineOk at h
      simp only [Bool.and_eq_true, btw_iff] at h
      exact h.2.1.1
    obtain ⟨M, hM⟩ : ∃ M : Nat, w = ((M : Int), w.2) := ⟨w.1.toNat, by rw [Int.toNat_of_nonneg (by omega)]⟩
    rw [hM] at hk ⊢
    have H := line_is hk
    exact ⟨_, _, impl_ReadVernier_at H w.2 hb hk, spec_ReadVernier_at H w.2 hb hk⟩

end Go.Abs
