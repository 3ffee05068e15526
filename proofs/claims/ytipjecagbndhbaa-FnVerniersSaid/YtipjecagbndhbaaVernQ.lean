/- Scales, verniers and places that are whole multiples of one small part. -/
import Derived.Test.YtipjecagbndhbaaQuantP
import Derived.Test.YtipjecagbndhbaaVernP
namespace Go.Abs
set_option linter.unusedSectionVars false
set_option linter.unusedSimpArgs false
set_option linter.unusedVariables false

/-! ### the least of some -/
section
variable {p q M : Int} (h : Qn p q M) {n : Nat} {d : Nat → Fq} {e : Nat → Bool} {δ : Nat → Int} (hs : ∀ i, i < n → Sm (δ i)) (hd : ∀ i, i < n → d i = qF p q M (δ i)) (he : ∀ i, i < n → e i = false)
include h hs hd he

theorem leastUp_q : ∀ (k i b : Nat), i + k = n → 0 < i → b < i → (∀ j, j < i → δ b ≤ δ j) → (∀ j, j < b → δ b < δ j) →
    ∃ r : Nat, leastUp d e k i (b : Int) (qF p q M (δ b)) = (((r : Int), qF p q M (δ r)), false) ∧ r < n ∧ (∀ j, j < n → δ r ≤ δ j) ∧ ∀ j, j < r → δ r < δ j
  | 0, i, b, hi, h0, hb, h1, h2 => by
    rw [leastUp]
    exact ⟨b, rfl, by omega, fun j hj => h1 j (by omega), h2⟩
  | k + 1, i, b, hi, h0, hb, h1, h2 => by
    rw [leastUp_ok k _ _ (he i (by omega)), hd i (by omega), dec_f (p := i = 0) (by omega), Bool.false_or, qF_lt h (hs i (by omega)) (hs b (by omega))]
    by_cases hlt : δ i < δ b
    · rw [dec_t hlt, cond_true]
      exact leastUp_q k (i + 1) i (by omega) (by omega) (by omega) (fun j hj => by
        by_cases hji : j = i
        · rw [hji]; omega
        · have := h1 j (by omega); omega) (fun j hj => by have := h1 j hj; omega)
    · rw [dec_f hlt, cond_false]
      exact leastUp_q k (i + 1) b (by omega) (by omega) (by omega) (fun j hj => by
        by_cases hji : j = i
        · rw [hji]; omega
        · exact h1 j (by omega)) h2

theorem leastUp_all (hn : 0 < n) (b : Int) (f : Fq) : ∃ r : Nat, leastUp d e n 0 b f = (((r : Int), qF p q M (δ r)), false) ∧ r < n ∧ (∀ j, j < n → δ r ≤ δ j) ∧ ∀ j, j < r → δ r < δ j := by
  obtain ⟨k, rfl⟩ : ∃ k, n = k + 1 := ⟨n - 1, by omega⟩
  rw [leastUp_ok k _ _ (he 0 (by omega)), dec_t (p := 0 = 0) rfl, Bool.true_or, cond_true, hd 0 (by omega)]
  exact leastUp_q h hs hd he k 1 0 (by omega) (by omega) (by omega) (fun j hj => by rw [show j = 0 by omega]; omega) (fun j hj => by omega)
end

/-! ### a scale, a vernier, a place -/
structure Vc (s : Sc) (p q : Int) (m : Nat) (ε : Nat → Int) : Prop where
  qn : Qn p q (m : Int)
  u : s.1 = (p, q)
  vu : vF (p, q) = true
  len : 28 ≤ s.2.length ∧ s.2.length ≤ 37
  er : ∀ k, k < s.2.length → s.2.getD k (0, 0) = qF p q m (3 * m * ε k)
  eb : ∀ k, -4 ≤ ε k ∧ ε k ≤ 4

/-- where a mark is -/
def mkI (m : Nat) (ε : Nat → Int) (k : Nat) : Int := 48 * m * k + 3 * m * ε k
/-- where a line is -/
def lnY (m : Nat) (bk : Bool) (X j : Int) : Int := X + 48 * lnI m bk j

section
variable {s : Sc} {p q : Int} {m : Nat} {ε : Nat → Int} (V : Vc s p q m ε)
include V

theorem er_sm {k : Nat} : Sm (3 * (m : Int) * ε k) := by
  have h1 := V.eb k
  have h2 := V.qn.M
  have := mul_bd (a := 3 * (m : Int)) (b := ε k) (A := 36) (B := 4) (by omega) h1
  unfold Sm
  omega

theorem mk_sm {k : Nat} (hk : k < 40) : Sm (48 * (m : Int) * (k : Int)) ∧ (-200 ≤ mkI m ε k ∧ mkI m ε k ≤ 30000) := by
  have h1 := V.eb k
  have h2 := V.qn.M
  have m1 := mul_bd (a := 3 * (m : Int)) (b := ε k) (A := 36) (B := 4) (by omega) h1
  have m2 := mul_pos_bd (a := 48 * (m : Int)) (b := (k : Int)) (A := 576) (B := 40) (by omega) (by omega)
  unfold Sm mkI
  omega

theorem mark_q {k : Nat} (hk : k < s.2.length) : mkOk s k = true ∧ markV s k = qF p q m (mkI m ε k) ∧ maO s k = some (qF p q m (mkI m ε k)) := by
  have hl := V.len
  obtain ⟨h1, h2⟩ := mk_sm V (k := k) (by omega)
  have e1 : muO s k = some (qF p q m (48 * m * k)) := by
    unfold muO
    rw [V.u]
    exact qF_units V.qn h1
  have e2 : maO s k = some (qF p q m (mkI m ε k)) := by
    unfold maO
    rw [e1, V.er k hk]
    exact qF_add V.qn h1 (er_sm V) (by unfold Sm; unfold mkI at h2; omega)
  refine ⟨?_, ?_, e2⟩
  · unfold mkOk
    rw [e1, e2]
    rfl
  · unfold markV
    rw [e2]
    rfl

theorem far_q {k : Nat} (hk : k < s.2.length) : farAt s k = false := by
  have hE := er_sm V (k := k)
  have hb := qF_bd V.qn hE
  have hv := qF_val V.qn hE
  have hM := V.qn.M
  have hp := V.qn.p
  have hq := V.qn.q
  have he := V.eb k
  have h1 := hb.1
  have h2 := hb.2
  unfold farAt
  rw [V.er k hk, V.u]
  generalize qF p q m (3 * m * ε k) = a at *
  have m1 := mul_pos_bd (a := 4 * ((a.1.natAbs : Nat) : Int)) (b := q) (A := 4000000000) (B := 4) (by omega) (by omega)
  have m2 := mul_pos_bd (a := p) (b := a.2) (A := 6) (B := 1000000000) (by omega) (by omega)
  rw [w_in (x := 4 * ((a.1.natAbs : Nat) : Int)) (by unfold I64; omega), w_in (x := 4 * ((a.1.natAbs : Nat) : Int) * q) (by unfold I64; omega), w_in (x := p * a.2) (by unfold I64; omega)]
  refine dec_f ?_
  have hx : 0 < p * a.2 := Int.mul_pos (by omega) (by omega)
  -- a.1 * 48 m q = 3 m ε p a.2
  have e1 : (12 * (m : Int)) * (4 * (a.1 * q)) = (12 * (m : Int)) * (p * a.2) + (3 * (m : Int)) * ((ε k - 4) * (p * a.2)) := by
    generalize (m : Int) = M at *
    grind
  have e2 : (12 * (m : Int)) * (4 * (-a.1 * q)) = (12 * (m : Int)) * (p * a.2) + (3 * (m : Int)) * ((-ε k - 4) * (p * a.2)) := by
    generalize (m : Int) = M at *
    grind
  have k1 : (ε k - 4) * (p * a.2) ≤ 0 := Int.mul_nonpos_of_nonpos_of_nonneg (by omega) (by omega)
  have k2 : (-ε k - 4) * (p * a.2) ≤ 0 := Int.mul_nonpos_of_nonpos_of_nonneg (by omega) (by omega)
  have k3 : (3 * (m : Int)) * ((ε k - 4) * (p * a.2)) ≤ 0 := Int.mul_nonpos_of_nonneg_of_nonpos (by omega) k1
  have k4 : (3 * (m : Int)) * ((-ε k - 4) * (p * a.2)) ≤ 0 := Int.mul_nonpos_of_nonneg_of_nonpos (by omega) k2
  have l1 : 4 * (a.1 * q) ≤ p * a.2 := Int.le_of_mul_le_mul_left (a := 12 * (m : Int)) (by omega) (by omega)
  have l2 : 4 * (-a.1 * q) ≤ p * a.2 := Int.le_of_mul_le_mul_left (a := 12 * (m : Int)) (by omega) (by omega)
  rcases Int.le_total 0 a.1 with h0 | h0
  · rw [show ((a.1.natAbs : Nat) : Int) = a.1 by omega, Int.mul_assoc]; omega
  · rw [show ((a.1.natAbs : Nat) : Int) = -a.1 by omega, Int.mul_assoc]; omega

theorem unit_q : unitOk s.1 = true := by
  have hp := V.qn.p
  have hq := V.qn.q
  rw [V.u]
  unfold unitOk
  rw [V.vu, Bool.true_and, dec_t (p := (p, q).1 > 0) (show p > 0 by omega), Bool.true_and]
  refine dec_t ?_
  unfold cmpF
  simp only [Int.mul_one, w_in (x := p) (by unfold I64; omega), w_in (x := 1000 * q) (by unfold I64; omega)]
  rw [dec_t (p := p < 1000 * q) (by omega), cond_true]
  decide

theorem allUp_true {P : Nat → Bool} : ∀ (k i : Nat), (∀ j, i ≤ j → j < i + k → P j = true) → allUp P k i = true
  | 0, i, _ => rfl
  | k + 1, i, h => by
    rw [allUp, h i (by omega) (by omega), allUp_true k (i + 1) (fun j h1 h2 => h j (by omega) (by omega))]
    rfl

theorem scale_q : scaleOk s = true := by
  have hl := V.len
  unfold scaleOk
  rw [unit_q V, show btw (s.2.length : Int) 2 60 = true from btw_iff.2 (by omega)]
  have ha : s.2.all vF = true := by
    rw [List.all_eq_true]
    intro x hx
    obtain ⟨i, hi, rfl⟩ := List.mem_iff_getElem.1 hx
    rw [← get_ix (d := (0, 0)) hi, V.er i hi]
    exact (qF_some V.qn (er_sm V)).2
  rw [ha, allUp_true V s.2.length 0 (fun j _ hj => by rw [far_q V (by omega)]; rfl), allUp_true V s.2.length 0 (fun j _ hj => (mark_q V (by omega)).1)]
  rfl

theorem line_q {x : Fq} (hx : vF x = true) (bk : Bool) : lineOk s ((m : Int), bk) x = true := by
  have hM := V.qn.M
  unfold lineOk
  rw [scale_q V, hx, show btw ((m : Int), bk).1 2 40 = true from btw_iff.2 (by simp only; omega)]
  rfl

theorem line_qi {x : Fq} (hx : vF x = true) : LineIs s m x := line_is (line_q V hx true)

theorem ln_sm (bk : Bool) {j : Int} (hj : 0 ≤ j ∧ j ≤ (m : Int)) : 0 ≤ lnI m bk j ∧ lnI m bk j ≤ 156 := by
  have hM := V.qn.M
  unfold lnI
  cases bk with
  | true => exact mul_pos_bd (A := 12) (B := 13) (by omega) (by rw [cond_true]; omega)
  | false =>
    have := mul_pos_bd (a := j) (b := (m : Int) - 1) (A := 12) (B := 11) (by omega) (by omega)
    rw [cond_false]; omega

theorem at_line {X : Int} (hX : 0 ≤ X ∧ X ≤ 10000) (bk : Bool) {j : Int} (hj : 0 ≤ j ∧ j ≤ (m : Int)) : lineE s m bk (qF p q m X) j = false ∧ lineV s m bk (qF p q m X) j = qF p q m (lnY m bk X j) ∧ Sm (lnY m bk X j) := by
  have hM := V.qn.M
  have hl := ln_sm V bk hj
  have hml := mul_pos_bd (a := 48 * (m : Int)) (b := lnI m bk j) (A := 576) (B := 156) (by omega) hl
  have e1 : l1O s m bk j = some (qF p q m (48 * m * lnI m bk j)) := by
    unfold l1O
    rw [V.u]
    exact qF_units V.qn (by unfold Sm; omega)
  have hv := qF_val V.qn (A := 48 * (m : Int) * lnI m bk j) (by unfold Sm; omega)
  have hb := (qF_bd V.qn (A := 48 * (m : Int) * lnI m bk j) (by unfold Sm; omega)).1
  have e2 : l2O s m bk j = some (qF p q m (48 * lnI m bk j)) := by
    unfold l2O
    rw [e1]
    unfold val fdiv
    rw [Option.getD_some]
    refine qF_of V.qn (by unfold Sm; omega) (Int.mul_pos (by omega) (by simp only; omega)) ?_
    simp only [Int.mul_one]
    generalize qF p q m (48 * m * lnI m bk j) = a at *
    generalize (m : Int) = M at *
    generalize lnI m bk j = l at *
    grind
  have e3 : l3O s m bk (qF p q m X) j = some (qF p q m (lnY m bk X j)) := by
    unfold l3O
    rw [e2]
    exact qF_add V.qn (by unfold Sm; omega) (by unfold Sm; omega) (by unfold Sm; omega)
  refine ⟨?_, ?_, by unfold Sm lnY; omega⟩
  · unfold lineE
    rw [e1, e2, e3]
    rfl
  · unfold lineV
    rw [e3]
    rfl

/-- how far a place is from a mark -/
abbrev dsI (m : Nat) (ε : Nat → Int) (Y : Int) (k : Nat) : Int := (((Y - mkI m ε k).natAbs : Nat) : Int)

theorem near_q {Y : Int} (hY : -20000 ≤ Y ∧ Y ≤ 20000) : ∃ r : Nat, nearG s (qF p q m Y) = (((r : Int), qF p q m (dsI m ε Y r)), false) ∧ r < s.2.length ∧ (∀ k, k < s.2.length → dsI m ε Y r ≤ dsI m ε Y k) := by
  have hl := V.len
  have hnr : ∀ k, k < s.2.length → nrO s (qF p q m Y) k = some (qF p q m (Y - mkI m ε k)) := by
    intro k hk
    unfold nrO
    rw [(mark_q V hk).2.1]
    have := (mk_sm V (k := k) (by omega)).2
    exact qF_sub V.qn (by unfold Sm; omega) (by unfold Sm; omega) (by unfold Sm; omega)
  obtain ⟨r, h1, h2, h3, _⟩ := leastUp_all (d := nrD s (qF p q m Y)) (e := fun i => (nrO s (qF p q m Y) i).isNone) (δ := dsI m ε Y) (n := s.2.length) V.qn
    (fun i hi => by have := (mk_sm V (k := i) (by omega)).2; unfold Sm dsI; omega)
    (fun i hi => by
      unfold nrD
      rw [hnr i hi]
      have := (mk_sm V (k := i) (by omega)).2
      exact qF_size V.qn (by unfold Sm; omega))
    (fun i hi => by show (nrO s (qF p q m Y) i).isNone = false; rw [hnr i hi]; rfl) (by omega) (-1) (0, 1)
  exact ⟨r, h1, h2, h3⟩
end
end Go.Abs
