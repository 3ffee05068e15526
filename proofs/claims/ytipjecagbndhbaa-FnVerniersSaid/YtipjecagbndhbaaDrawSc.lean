/- Scales, verniers and places that are drawn. -/
import Derived.Test.YtipjecagbndhbaaFitQ
import Derived.Test.YtipjecagbndhbaaSrcP
namespace Go.Abs
set_option linter.unusedSectionVars false
set_option linter.unusedSimpArgs false
set_option linter.unusedVariables false

/-- a scale that is drawn -/
structure ScD (s : Sc) (p q : Int) (ε : Nat → Int) : Prop where
  hp : 1 ≤ p ∧ p ≤ 6
  hq : 1 ≤ q ∧ q ≤ 4
  u : s.1 = (p, q)
  vu : vF (p, q) = true
  len : 28 ≤ s.2.length ∧ s.2.length ≤ 37
  er : ∀ k, k < s.2.length → mkF (ε k * p) (16 * q) = some (s.2.getD k (0, 0))
  eb : ∀ k, -4 ≤ ε k ∧ ε k ≤ 4

theorem ScD.vc {s : Sc} {p q : Int} {ε : Nat → Int} (h : ScD s p q ε) {m : Nat} (hm : 2 ≤ (m : Int) ∧ (m : Int) ≤ 12) : Vc s p q m ε := by
  have hQ : Qn p q (m : Int) := ⟨h.hp, h.hq, hm⟩
  refine ⟨hQ, h.u, h.vu, h.len, fun k hk => ?_, h.eb⟩
  have he := h.eb k
  have hq := h.hq
  have := mul_bd (a := 3 * (m : Int)) (b := ε k) (A := 36) (B := 4) (by omega) he
  have e1 := qF_of hQ (A := 3 * (m : Int) * ε k) (by unfold Sm; omega) (P := ε k * p) (Q := 16 * q) (by omega) (by
    generalize (m : Int) = M at *
    grind)
  rw [h.er k hk] at e1
  injection e1

theorem drawnSc_l5_is {p q : Int} (hp : 1 ≤ p ∧ p ≤ 6) (hq : 1 ≤ q ∧ q ≤ 4) (flat : Bool) : ∀ (k c : Nat) (s : Src) (B : Int) (z : Fq) (b : List Fq) (ε : Nat → Int), c < k → SrcAt s B → B + 2 * (c : Int) ≤ 10000 → b.length + c ≤ 1000 →
    (∀ i, i < b.length → mkF (ε i * p) (16 * q) = some (b.getD i (0, 0))) → (∀ i, -4 ≤ ε i ∧ ε i ≤ 4) →
    ∃ (l : List Fq) (s' : Src) (ε' : Nat → Int), spec_l02Drawn_l5 N0 k (c : Int) flat s.1 s.2.1 s.2.2 p q p q z.1 z.2 b = c1 (((p, q), l) : Sc) s' ∧ l.length = b.length + c ∧ (∀ i, i < l.length → mkF (ε' i * p) (16 * q) = some (l.getD i (0, 0))) ∧ (∀ i, -4 ≤ ε' i ∧ ε' i ≤ 4)
  | 0, c, s, B, z, b, ε, hk, _, _, _, _, _ => by omega
  | k + 1, c, s, B, z, b, ε, hk, hs, hB, hl, hb, hε => by
    simp only [spec_l02Drawn_l5, spec_l02Drawn_t5, spec_l02Drawn_j10, spec_l02Drawn_t10]
    have hr (x : Fq) : decide ((b.length + (x :: []).length) * 17 ≤ 70368744177664) = true := dec_t (by simp only [List.length_cons, List.length_nil]; omega)
    cases c with
    | zero =>
      rw [dec_f (by omega), cond_false]
      exact ⟨b, s, ε, rfl, by simp, hb, hε⟩
    | succ c =>
      rw [dec_t (by omega), cond_true]
      simp only [pr_eta, spec_l01Whole_is, Option.bind_some]
      have hw : IntKind.wrap .i64 (((c + 1 : Nat) : Int) - 1) = (c : Int) := by rw [w_in (by unfold I64; omega)]; omega
      have step : ∀ (j : Int) (a : Fq) (s2 : Src), (-4 ≤ j ∧ j ≤ 4) → mkF (j * p) (16 * q) = some a → SrcAt s2 (B + 2) → ∃ (l : List Fq) (s' : Src) (ε' : Nat → Int), spec_l02Drawn_l5 N0 k (c : Int) flat s2.1 s2.2.1 s2.2.2 p q p q z.1 z.2 (b ++ (a :: [])) = c1 (((p, q), l) : Sc) s' ∧ l.length = b.length + (c + 1) ∧ (∀ i, i < l.length → mkF (ε' i * p) (16 * q) = some (l.getD i (0, 0))) ∧ (∀ i, -4 ≤ ε' i ∧ ε' i ≤ 4) := by
        intro j a s2 hj ha k2
        obtain ⟨l, s', ε', e, h1, h2, h3⟩ := drawnSc_l5_is hp hq flat k c s2 (B + 2) z (b ++ (a :: [])) (fun i => if i = b.length then j else ε i) (by omega) k2 (by omega) (by simp; omega) (by
          intro i hi
          simp only [List.length_append, List.length_cons, List.length_nil] at hi
          by_cases hib : i = b.length
          · subst hib
            simp only [if_pos]
            rw [ha]
            simp
          · simp only [if_neg hib]
            rw [hb i (by omega), get_ix (show i < b.length by omega), get_ix (show i < (b ++ [a]).length by simp; omega), List.getElem_append_left (by omega)]) (by
          intro i
          by_cases hib : i = b.length
          · simp only [if_pos hib]; exact hj
          · simp only [if_neg hib]; exact hε i)
        exact ⟨l, s', ε', e, by rw [h1]; simp; omega, h2, h3⟩
      cases flat with
      | true =>
        rw [Bool.not_true, cond_false, hr, cond_true, hw]
        exact step 0 (0, 1) s (by omega) (by rw [Int.zero_mul]; exact mkF_zero (by omega)) (hs.mono (by omega))
      | false =>
        obtain ⟨y, s2, e2, hy, k2⟩ := src_pick (n := 9) hs (by omega) (by omega)
        have hyp := mul_bd (a := y - 4) (b := p) (A := 4) (B := 6) (by omega) (by omega)
        obtain ⟨g, a, ea, _⟩ := mkF_small (p := (y - 4) * p) (q := 16 * q) (by omega) (by omega)
        rw [Bool.not_false, cond_true, e2, Option.bind_some]
        dsimp only
        rw [w_in (x := y - 4) (by unfold I64; omega), w_in (x := (y - 4) * p) (by unfold I64; omega), w_in (x := 16 * q) (by unfold I64; omega), spec_l01Reduced_is (by unfold small; omega) (by unfold small; omega) (by omega), Option.bind_some, ea]
        dsimp only [Option.getD_some]
        rw [hr, cond_true, hw]
        exact step (y - 4) a s2 (by omega) ea k2

theorem spec_P6Scale_ex (code : List Int) (h : ∀ y ∈ code, 0 ≤ y ∧ y ≤ 255) (hl : code.length ≤ 1000000000) : ∃ (s : Sc) (p q : Int) (ε : Nat → Int), spec_P6Scale N0 code 28 = r1 s ∧ ScD s p q ε := by
  have := N0_big
  obtain ⟨e0, k0⟩ := src_from code h hl
  obtain ⟨a, s1, e1, ha, k1⟩ := src_pick (n := 6) k0 (by omega) (by omega)
  obtain ⟨b, s2, e2, hb, k2⟩ := src_pick (n := 4) k1 (by omega) (by omega)
  obtain ⟨flat, s3, e3, k3⟩ := src_one (n := 3) k2 (by omega) (by omega)
  obtain ⟨c, s4, e4, hc, k4⟩ := src_pick (n := 10) k3 (by omega) (by omega)
  obtain ⟨g, u, eu, vu, hg, g1, g2⟩ := mkF_small (p := 1 + a) (q := 1 + b) (by omega) (by omega)
  have hu := vF_bd vu
  have hp : 1 ≤ u.1 ∧ u.1 ≤ 6 := by
    have h1 : 0 < u.1 := by
      rcases Int.lt_or_le 0 u.1 with h | h
      · exact h
      · have := Int.mul_nonneg (a := g) (b := -u.1) (by omega) (by omega)
        rw [Int.mul_neg] at this
        omega
    have h2 : 1 * u.1 ≤ g * u.1 := Int.mul_le_mul_of_nonneg_right hg (by omega)
    omega
  have hq : 1 ≤ u.2 ∧ u.2 ≤ 4 := by
    have h2 : 1 * u.2 ≤ g * u.2 := Int.mul_le_mul_of_nonneg_right hg (by omega)
    omega
  obtain ⟨m, hm⟩ : ∃ m : Nat, (m : Int) = 28 + c := ⟨(28 + c).toNat, by omega⟩
  obtain ⟨l, s', ε, e5, h1, h2, h3⟩ := drawnSc_l5_is hp hq flat N0 m s4 8 (0, 0) [] (fun _ => 0) (by omega) (k4.mono (by omega)) (by omega) (by simp; omega) (by intro i hi; simp at hi) (by intro i; omega)
  rw [hm] at e5
  simp only [List.length_nil, Nat.zero_add] at h1
  refine ⟨((u.1, u.2), l), u.1, u.2, ε, ?_, hp, hq, rfl, vu, by simp only; omega, h2, h3⟩
  simp only [spec_P6Scale, spec_P6Scale_t, e0, Option.bind_some, pr_eta, spec_l02Drawn, spec_l02Drawn_t, e1, e2]
  rw [w_in (x := 1 + a) (by unfold I64; omega), w_in (x := 1 + b) (by unfold I64; omega), spec_l01Reduced_is (by unfold small; omega) (by unfold small; omega) (by omega), Option.bind_some, eu]
  dsimp only [Option.getD_some]
  rw [e3, Option.bind_some]
  dsimp only
  rw [e4, Option.bind_some]
  dsimp only
  rw [w_in (x := 28 + c) (by unfold I64; omega)]
  have e5 : spec_l02Drawn_l5 N0 N0 (28 + c) flat s4.1 s4.2.1 s4.2.2 u.1 u.2 u.1 u.2 0 0 [] = c1 (((u.1, u.2), l) : Sc) s' := e5
  rw [e5]
  rfl

theorem spec_P6Vernier_ex (code : List Int) (h : ∀ y ∈ code, 0 ≤ y ∧ y ≤ 255) (hl : code.length ≤ 1000000000) : ∃ (m : Nat) (bk : Bool), spec_P6Vernier N0 code = r1 ((m : Int), bk) ∧ (2 ≤ (m : Int) ∧ (m : Int) ≤ 12) := by
  obtain ⟨e0, k0⟩ := src_from code h hl
  obtain ⟨a, s1, e1, ha, k1⟩ := src_pick (n := 11) k0 (by omega) (by omega)
  obtain ⟨bk, s2, e2, k2⟩ := src_one (n := 2) k1 (by omega) (by omega)
  refine ⟨(2 + a).toNat, bk, ?_, by omega⟩
  simp only [spec_P6Vernier, spec_P6Vernier_t, e0, Option.bind_some, pr_eta, e1, e2]
  rw [w_in (x := 2 + a) (by unfold I64; omega), Int.toNat_of_nonneg (by omega)]

theorem spec_P6Place_ex (code : List Int) (h : ∀ y ∈ code, 0 ≤ y ∧ y ≤ 255) (hl : code.length ≤ 1000000000) {s : Sc} {p q : Int} {ε : Nat → Int} (hs : ScD s p q ε) {m : Nat} (hm : 2 ≤ (m : Int) ∧ (m : Int) ≤ 12) :
    ∃ X, spec_P6Place N0 code s = r1 (qF p q m X) ∧ (48 * (m : Int) ≤ X ∧ X ≤ 524 * (m : Int)) := by
  have hQ : Qn p q (m : Int) := ⟨hs.hp, hs.hq, hm⟩
  have hp := hs.hp
  have hq := hs.hq
  obtain ⟨e0, k0⟩ := src_from code h hl
  obtain ⟨t, s1, e1, ht, k1⟩ := src_pick (n := 120) k0 (by omega) (by omega)
  have hm1 := mul_pos_bd (a := 12 + t) (b := p) (A := 131) (B := 6) (by omega) (by omega)
  have hm2 : 4 * (m : Int) * 12 ≤ 4 * (m : Int) * (12 + t) := Int.mul_le_mul_of_nonneg_left (by omega) (by omega)
  have hm3 : 4 * (m : Int) * (12 + t) ≤ 4 * (m : Int) * 131 := Int.mul_le_mul_of_nonneg_left (by omega) (by omega)
  have e2 := qF_of hQ (A := 4 * (m : Int) * (12 + t)) (by unfold Sm; omega) (P := (12 + t) * p) (Q := 12 * q) (by omega) (by
    generalize (m : Int) = M at *
    grind)
  refine ⟨4 * (m : Int) * (12 + t), ?_, by omega⟩
  simp only [spec_P6Place, spec_P6Place_t, e0, Option.bind_some, pr_eta, e1, hs.u]
  rw [w_in (x := 12 + t) (by unfold I64; omega), w_in (x := (12 + t) * p) (by unfold I64; omega), w_in (x := 12 * q) (by unfold I64; omega), spec_l01Reduced_is (by unfold small; omega) (by unfold small; omega) (by omega), Option.bind_some, e2]
  rfl
end Go.Abs
