/- Which line fits, and what is read, where all is whole multiples of one small part. -/
import Derived.Test.YtipjecagbndhbaaVernQ
import Derived.Test.YtipjecagbndhbaaReadV
namespace Go.Abs
set_option linter.unusedSectionVars false
set_option linter.unusedSimpArgs false
set_option linter.unusedVariables false

theorem mkF_parts' {p q : Int} {a : Fq} (hq : 0 < q) (h : mkF p q = some a) : p * a.2 = a.1 * q := by
  have hg := gcd_pos (p := p) (q := q) (by omega)
  have e : redP p q = a := by
    unfold mkF at h
    cases hv : vF (redP p q) with
    | false => rw [hv] at h; cases h
    | true => rw [hv] at h; injection h
  rw [redP_pos hq] at e
  have h1 : ((Int.gcd p q : Nat) : Int) * a.1 = p := by rw [← e]; exact Int.mul_tdiv_cancel' (Int.gcd_dvd_left ..)
  have h2 : ((Int.gcd p q : Nat) : Int) * a.2 = q := by rw [← e]; exact Int.mul_tdiv_cancel' (Int.gcd_dvd_right ..)
  generalize ((Int.gcd p q : Nat) : Int) = g at *
  rw [← h1, ← h2]
  grind

theorem near_mult {R W z : Int} (hW : 0 < W) : ((R - W * ((2 * R + W) / (2 * W))).natAbs : Int) ≤ ((R - W * z).natAbs : Int) := by
  have k1 : (2 * R + W) / (2 * W) * (2 * W) ≤ 2 * R + W := Int.ediv_mul_le _ (by omega)
  have k2 : 2 * R + W < ((2 * R + W) / (2 * W) + 1) * (2 * W) := Int.lt_ediv_add_one_mul_self _ (by omega)
  generalize (2 * R + W) / (2 * W) = n at *
  have e1 : n * (2 * W) = 2 * (W * n) := by grind
  have e2 : (n + 1) * (2 * W) = 2 * (W * n) + 2 * W := by grind
  rw [e1] at k1
  rw [e2] at k2
  rcases Int.lt_trichotomy z n with h | h | h
  · have : W * z ≤ W * (n - 1) := Int.mul_le_mul_of_nonneg_left (by omega) (by omega)
    rw [Int.mul_sub, Int.mul_one] at this
    omega
  · rw [h]; omega
  · have : W * (n + 1) ≤ W * z := Int.mul_le_mul_of_nonneg_left (by omega) (by omega)
    rw [Int.mul_add, Int.mul_one] at this
    omega

section
variable {s : Sc} {p q : Int} {m : Nat} {ε : Nat → Int} (V : Vc s p q m ε) {X : Int} (hX : 48 * (m : Int) ≤ X ∧ X ≤ 524 * (m : Int)) (bk : Bool)
include V hX

theorem x_bd : 0 ≤ X ∧ X ≤ 10000 := by
  have := V.qn.M
  omega

theorem Y_bd {j : Int} (hj : 0 ≤ j ∧ j ≤ (m : Int)) : -20000 ≤ lnY m bk X j ∧ lnY m bk X j ≤ 20000 := by
  have hx := x_bd V hX
  have hl := ln_sm V bk hj
  unfold lnY
  omega

/-- each line's nearest mark -/
theorem near_fun : ∃ κ : Nat → Nat, ∀ j : Nat, j < m → nearG s (qF p q m (lnY m bk X j)) = ((((κ j : Nat) : Int), qF p q m (dsI m ε (lnY m bk X j) (κ j))), false) ∧ κ j < s.2.length ∧
    ∀ k, k < s.2.length → dsI m ε (lnY m bk X j) (κ j) ≤ dsI m ε (lnY m bk X j) k := by
  have h : ∀ j : Nat, ∃ r : Nat, j < m → nearG s (qF p q m (lnY m bk X j)) = (((r : Int), qF p q m (dsI m ε (lnY m bk X j) r)), false) ∧ r < s.2.length ∧
      ∀ k, k < s.2.length → dsI m ε (lnY m bk X j) r ≤ dsI m ε (lnY m bk X j) k := by
    intro j
    by_cases hj : j < m
    · obtain ⟨r, h1⟩ := near_q V (Y_bd V hX bk (j := (j : Int)) (by omega))
      exact ⟨r, fun _ => h1⟩
    · exact ⟨0, fun h => absurd h hj⟩
  exact ⟨fun j => Classical.choose (h j), fun j hj => Classical.choose_spec (h j) hj⟩

theorem ds_sm {j : Int} (hj : 0 ≤ j ∧ j ≤ (m : Int)) {k : Nat} (hk : k < 40) : Sm (dsI m ε (lnY m bk X j) k) := by
  have h1 := Y_bd V hX bk hj
  have h2 := (mk_sm V hk).2
  unfold Sm dsI
  omega

theorem fits_q {κ : Nat → Nat} (hκ : ∀ j : Nat, j < m → nearG s (qF p q m (lnY m bk X j)) = ((((κ j : Nat) : Int), qF p q m (dsI m ε (lnY m bk X j) (κ j))), false) ∧ κ j < s.2.length ∧
    ∀ k, k < s.2.length → dsI m ε (lnY m bk X j) (κ j) ≤ dsI m ε (lnY m bk X j) k) :
    ∃ f : Nat, f < m ∧ fitsP s m bk (qF p q m X) = ((f : Int), 0) ∧ (∀ j : Nat, j < m → dsI m ε (lnY m bk X f) (κ f) ≤ dsI m ε (lnY m bk X j) (κ j)) ∧
      ∀ j : Nat, j < f → dsI m ε (lnY m bk X f) (κ f) < dsI m ε (lnY m bk X j) (κ j) := by
  have hM := V.qn.M
  have hl := V.len
  have hx := x_bd V hX
  obtain ⟨f, e1, e2, e3, e4⟩ := leastUp_all (d := ftD s m bk (qF p q m X)) (e := ftE s m bk (qF p q m X)) (δ := fun j => dsI m ε (lnY m bk X (j : Int)) (κ j)) (n := m) V.qn
    (fun j hj => ds_sm V hX bk (by omega) (by have := (hκ j hj).2.1; omega))
    (fun j hj => by
      unfold ftD
      rw [(at_line V hx bk (j := (j : Int)) (by omega)).2.1, (hκ j hj).1])
    (fun j hj => by
      unfold ftE
      rw [(at_line V hx bk (j := (j : Int)) (by omega)).1, (at_line V hx bk (j := (j : Int)) (by omega)).2.1, (hκ j hj).1]
      rfl) (by omega) (-1) (0, 1)
  refine ⟨f, e2, ?_, e3, e4⟩
  have hXs : Sm X := by unfold Sm; omega
  have m0 := (mk_sm V (k := 0) (by omega)).2
  have ml := (mk_sm V (k := s.2.length - 1) (by omega)).2
  obtain ⟨l1, l2, l3⟩ := at_line V hx bk (j := (m : Int) - 1) (by omega)
  have c0 : ¬ X < mkI m ε 0 := by
    have he := V.eb 0
    have : 3 * (m : Int) * ε 0 ≤ 3 * (m : Int) * 4 := Int.mul_le_mul_of_nonneg_left he.2 (by omega)
    unfold mkI
    omega
  have c1 : ¬ lnY m bk X ((m : Int) - 1) > mkI m ε (s.2.length - 1) := by
    have he := V.eb (s.2.length - 1)
    have h1 : 3 * (m : Int) * (-4) ≤ 3 * (m : Int) * ε (s.2.length - 1) := Int.mul_le_mul_of_nonneg_left he.1 (by omega)
    have h2 : 48 * (m : Int) * 27 ≤ 48 * (m : Int) * ((s.2.length - 1 : Nat) : Int) := Int.mul_le_mul_of_nonneg_left (by omega) (by omega)
    have h3 : (m : Int) * (m : Int) ≤ 12 * (m : Int) := Int.mul_le_mul_of_nonneg_right hM.2 (by omega)
    have h4 : lnI m bk ((m : Int) - 1) ≤ 12 * (m : Int) := by
      unfold lnI
      cases bk with
      | true =>
        rw [cond_true, show ((m : Int) - 1) * ((m : Int) + 1) = (m : Int) * m - 1 by grind]
        omega
      | false =>
        rw [cond_false, show ((m : Int) - 1) * ((m : Int) - 1) = (m : Int) * m - 2 * m + 1 by grind]
        omega
    unfold lnY mkI
    omega
  unfold fitsP
  rw [(mark_q V (k := 0) (by omega)).2.1, qF_lt V.qn hXs (by unfold Sm; omega), dec_f c0, cond_false, l1, cond_false, l2, (mark_q V (k := s.2.length - 1) (by omega)).2.1, qF_gt V.qn l3 (by unfold Sm; omega), dec_f c1, cond_false]
  unfold fitG
  rw [e1]
  rfl

/-- the number that is read -/
def rdI (m : Nat) (X g : Int) : Int := 48 * g + 48 * m * ((2 * (X - 48 * g) + 48 * m) / (2 * (48 * m)))

theorem rd_bd {g : Int} (hg : 0 ≤ g ∧ g ≤ (m : Int)) : (-1000 ≤ 48 * (m : Int) * ((2 * (X - 48 * g) + 48 * m) / (2 * (48 * m))) ∧ 48 * (m : Int) * ((2 * (X - 48 * g) + 48 * m) / (2 * (48 * m))) ≤ 20000) ∧
    (-1000 ≤ (2 * (X - 48 * g) + 48 * m) / (2 * (48 * m)) ∧ (2 * (X - 48 * g) + 48 * m) / (2 * (48 * m)) ≤ 20000) := by
  have hM := V.qn.M
  have hx := x_bd V hX
  have k1 : (2 * (X - 48 * g) + 48 * m) / (2 * (48 * m)) * (2 * (48 * m)) ≤ 2 * (X - 48 * g) + 48 * m := Int.ediv_mul_le _ (by omega)
  have k2 : 2 * (X - 48 * g) + 48 * m < ((2 * (X - 48 * g) + 48 * m) / (2 * (48 * m)) + 1) * (2 * (48 * m)) := Int.lt_ediv_add_one_mul_self _ (by omega)
  generalize (2 * (X - 48 * g) + 48 * m) / (2 * (48 * m)) = n at *
  have e1 : n * (2 * (48 * (m : Int))) = 2 * (48 * (m : Int) * n) := by grind
  have e2 : (n + 1) * (2 * (48 * (m : Int))) = 2 * (48 * (m : Int) * n) + 96 * m := by grind
  rw [e1] at k1
  rw [e2] at k2
  refine ⟨by omega, ?_⟩
  rcases Int.le_total 0 n with h | h
  · have : 1 * n ≤ 48 * (m : Int) * n := Int.mul_le_mul_of_nonneg_right (by omega) h
    omega
  · have : 48 * (m : Int) * n ≤ 1 * n := by
      have := Int.mul_le_mul_of_nonneg_right (a := 1) (b := 48 * (m : Int)) (c := -n) (by omega) (by omega)
      rw [Int.mul_neg, Int.mul_neg] at this
      omega
    omega

theorem read_q {f : Nat} (hf : f < m) (hfit : fitsP s m bk (qF p q m X) = ((f : Int), 0)) :
    readRes s m bk (qF p q m X) = (qF p q m (rdI m X (lineI m bk f)), 0) ∧ Sm (rdI m X (lineI m bk f)) := by
  have hM := V.qn.M
  have hx := x_bd V hX
  have hg : 0 ≤ lineI m bk (f : Int) ∧ lineI m bk (f : Int) ≤ (m : Int) := by
    unfold lineI
    cases bk with
    | false => rw [cond_false]; omega
    | true =>
      rw [cond_true]
      by_cases h0 : (f : Int) = 0
      · rw [ne_f h0, cond_false]; omega
      · rw [ne_true h0, cond_true]; omega
  obtain ⟨b1, b2⟩ := rd_bd V hX hg
  have hSm : Sm (rdI m X (lineI m bk f)) := by unfold Sm rdI; omega
  refine ⟨?_, hSm⟩
  have hp := V.qn.p
  have hq := V.qn.q
  have H := line_qi V (x := qF p q m X) (qF_some V.qn (by unfold Sm; omega)).2
  unfold readRes
  rw [hfit]
  simp only [show ((0 : Int) != 0) = false from rfl, cond_false]
  generalize lineI m bk (f : Int) = g at *
  have hs1 := q1_some H (g := g) (by omega)
  obtain ⟨a, ha⟩ := Option.isSome_iff_exists.1 hs1
  have hab := (Bd.of (mkF_valid ha)).1
  have ha' := mkF_parts' (p := g * 1) (q := 1 * (m : Int)) (by omega) ha
  have e1 : p1O s m g = some (qF p q m (48 * g)) := by
    unfold p1O
    rw [ha, V.u]
    unfold val fmul
    rw [Option.getD_some]
    refine qF_of V.qn (by unfold Sm; omega) (Int.mul_pos (by omega) (by simp only; omega)) ?_
    simp only
    generalize (m : Int) = M at *
    grind
  have e2 : reO s m (qF p q m X) g = some (qF p q m (X - 48 * g)) := by
    unfold reO
    rw [e1]
    exact qF_sub V.qn (by unfold Sm; omega) (by unfold Sm; omega) (by unfold Sm; omega)
  have hr := qF_val V.qn (A := X - 48 * g) (by unfold Sm; omega)
  have hrb := (qF_bd V.qn (A := X - 48 * g) (by unfold Sm; omega)).1
  have e3 : nearI (qF p q m (X - 48 * g)) s.1 = (2 * (X - 48 * g) + 48 * m) / (2 * (48 * m)) := by
    unfold nearI
    rw [V.u]
    simp only
    generalize qF p q m (X - 48 * g) = r at *
    have hW : 0 < 48 * (m : Int) := by omega
    have hP : 0 < r.2 * p := Int.mul_pos (by omega) (by omega)
    rw [← Int.mul_ediv_mul_of_pos (a := 48 * (m : Int)) _ _ hW, ← Int.mul_ediv_mul_of_pos (a := r.2 * p) (2 * (X - 48 * g) + 48 * m) _ hP]
    congr 1
    · generalize (m : Int) = M at *
      grind
    · generalize (m : Int) = M at *
      grind
  have e4 : p2O s ((2 * (X - 48 * g) + 48 * m) / (2 * (48 * m))) = some (qF p q m (48 * m * ((2 * (X - 48 * g) + 48 * m) / (2 * (48 * m))))) := by
    unfold p2O
    rw [V.u]
    exact qF_units V.qn (by unfold Sm; omega)
  have e5 := qF_add V.qn (A := 48 * g) (B := 48 * m * ((2 * (X - 48 * g) + 48 * m) / (2 * (48 * m)))) (by unfold Sm; omega) (by unfold Sm; omega) hSm
  unfold tailRes
  rw [e1, e2]
  unfold val
  simp only [Option.getD_some, Option.isNone_some, Bool.or_self, cond_false]
  rw [e3, show btw ((2 * (X - 48 * g) + 48 * m) / (2 * (48 * m))) (-1000000000) 1000000000 = true from btw_iff.2 (by omega), Bool.not_true, cond_false, e4]
  simp only [Option.getD_some, Option.isNone_some, Bool.false_or]
  rw [e5]
  rfl

/-- what is read lies near to what is there -/
theorem read_near {w : Int} (hw : ∀ k, k < s.2.length → ((ε k).natAbs : Int) ≤ w) {κ : Nat → Nat} (hκ : ∀ j : Nat, j < m → κ j < s.2.length ∧ ∀ k, k < s.2.length → dsI m ε (lnY m bk X j) (κ j) ≤ dsI m ε (lnY m bk X j) k)
    {f : Nat} (hf : f < m) (hle : ∀ j : Nat, j < m → dsI m ε (lnY m bk X f) (κ f) ≤ dsI m ε (lnY m bk X j) (κ j)) :
    ((X - rdI m X (lineI m bk f)).natAbs : Int) ≤ 24 + 6 * m * w := by
  have hM := V.qn.M
  have hl := V.len
  have mw : ∀ k, k < s.2.length → -(3 * (m : Int) * w) ≤ 3 * (m : Int) * ε k ∧ 3 * (m : Int) * ε k ≤ 3 * (m : Int) * w := by
    intro k hk
    have := hw k hk
    have h1 : 3 * (m : Int) * ε k ≤ 3 * (m : Int) * w := Int.mul_le_mul_of_nonneg_left (by omega) (by omega)
    have h2 : 3 * (m : Int) * (-w) ≤ 3 * (m : Int) * ε k := Int.mul_le_mul_of_nonneg_left (by omega) (by omega)
    rw [Int.mul_neg] at h2
    exact ⟨h2, h1⟩
  -- a line and a mark that are near
  obtain ⟨j0, k0, hj0, hk0, hn⟩ : ∃ j0 k0 : Nat, j0 < m ∧ k0 < s.2.length ∧ ((lnY m bk X j0 - 48 * m * k0).natAbs : Int) ≤ 24 := by
    have hr0 : 0 ≤ (X + 24) / 48 ∧ X - 24 ≤ 48 * ((X + 24) / 48) ∧ 48 * ((X + 24) / 48) ≤ X + 24 := by omega
    generalize (X + 24) / 48 = r at *
    cases bk with
    | false =>
      have d1 := Int.mul_ediv_add_emod r (m : Int)
      have d2 := Int.emod_nonneg r (show (m : Int) ≠ 0 by omega)
      have d3 := Int.emod_lt_of_pos r (show (0 : Int) < m by omega)
      have d4 : 0 ≤ r / (m : Int) := Int.ediv_nonneg hr0.1 (by omega)
      have d5 : r / (m : Int) ≤ 11 := by
        rcases Int.lt_or_le (r / (m : Int)) 12 with h | h
        · omega
        · have : (m : Int) * 12 ≤ (m : Int) * (r / (m : Int)) := Int.mul_le_mul_of_nonneg_left h (by omega)
          omega
      refine ⟨(r % (m : Int)).toNat, (r / (m : Int) + r % (m : Int)).toNat, by omega, by omega, ?_⟩
      unfold lnY lnI
      rw [cond_false, Int.toNat_of_nonneg d2, Int.toNat_of_nonneg (by omega)]
      generalize r / (m : Int) = c at *
      generalize r % (m : Int) = j at *
      have : X + 48 * (j * ((m : Int) - 1)) - 48 * m * (c + j) = X - 48 * r := by
        rw [← d1]
        generalize (m : Int) = M at *
        grind
      rw [this]
      omega
    | true =>
      have d1 := Int.mul_ediv_add_emod (-r) (m : Int)
      have d2 := Int.emod_nonneg (-r) (show (m : Int) ≠ 0 by omega)
      have d3 := Int.emod_lt_of_pos (-r) (show (0 : Int) < m by omega)
      generalize -r / (m : Int) = c at *
      generalize -r % (m : Int) = j at *
      have d4 : c ≤ 0 := by
        rcases Int.lt_or_le 0 c with h | h
        · have : (m : Int) * 1 ≤ (m : Int) * c := Int.mul_le_mul_of_nonneg_left (by omega) (by omega)
          omega
        · exact h
      have d5 : -12 ≤ c := by
        rcases Int.lt_or_le c (-12) with h | h
        · have : (m : Int) * c ≤ (m : Int) * (-13) := Int.mul_le_mul_of_nonneg_left (by omega) (by omega)
          omega
        · exact h
      refine ⟨j.toNat, (j - c).toNat, by omega, by omega, ?_⟩
      unfold lnY lnI
      rw [cond_true, Int.toNat_of_nonneg d2, Int.toNat_of_nonneg (by omega)]
      have : X + 48 * (j * ((m : Int) + 1)) - 48 * m * (j - c) = X - 48 * r := by
        have : r = -(m * c + j) := by omega
        rw [this]
        generalize (m : Int) = M at *
        grind
      rw [this]
      omega
  have a1 := hle j0 hj0
  have a2 := (hκ j0 hj0).2 k0 hk0
  have a3 := mw k0 hk0
  have a4 := mw (κ f) (hκ f hf).1
  have a5 : ((lnY m bk X f - 48 * m * (κ f)).natAbs : Int) ≤ 24 + 6 * m * w := by
    have e6 : 6 * (m : Int) * w = 2 * (3 * m * w) := by grind
    unfold dsI mkI at a1 a2
    generalize lnY m bk X (f : Int) = Y at *
    generalize lnY m bk X (j0 : Int) = Y0 at *
    omega
  -- the nearest multiple
  have key : ∀ z : Int, X - 48 * lineI m bk f - 48 * m * z = lnY m bk X f - 48 * m * (κ f) → ((X - rdI m X (lineI m bk f)).natAbs : Int) ≤ 24 + 6 * m * w := by
    intro z hz
    have := near_mult (R := X - 48 * lineI m bk f) (W := 48 * (m : Int)) (z := z) (by omega)
    rw [hz] at this
    unfold rdI
    rw [show X - (48 * lineI m bk f + 48 * m * ((2 * (X - 48 * lineI m bk f) + 48 * m) / (2 * (48 * m)))) = X - 48 * lineI m bk f - 48 * m * ((2 * (X - 48 * lineI m bk f) + 48 * m) / (2 * (48 * m))) by omega]
    exact Int.le_trans this a5
  unfold lnY lnI at key
  unfold lineI at key ⊢
  cases bk with
  | false =>
    rw [cond_false] at key ⊢
    refine key ((κ f : Int) - f) ?_
    rw [cond_false]
    generalize (m : Int) = M at *
    grind
  | true =>
    rw [cond_true] at key ⊢
    by_cases h0 : (f : Int) = 0
    · rw [ne_f h0, cond_false] at key ⊢
      refine key (κ f : Int) ?_
      rw [cond_true, h0]
      grind
    · rw [ne_true h0, cond_true] at key ⊢
      refine key ((κ f : Int) - f - 1) ?_
      rw [cond_true]
      generalize (m : Int) = M at *
      grind
end
end Go.Abs
