/- The plain law of verniers. -/
import Derived.Test.YtipjecagbndhbaaDrawSc
import Derived.Test.YtipjecagbndhbaaTwoQ
namespace Go.Abs
set_option linter.unusedSectionVars false
set_option linter.unusedSimpArgs false
set_option linter.unusedVariables false

theorem N0_fuel (m : Nat) (h : m ≤ 2 ^ 60) : ∃ k, N0 = k + m := ⟨N0 - m, by have := N0_big; omega⟩

theorem repeat_zero {n : Nat} (h : 28 ≤ n ∧ n ≤ 37) : slices_Repeat_impl_Frac_impl_Frac N0 [(0, 1)] (n : Int) = r1 (List.replicate n (0, 1)) := by
  obtain ⟨k, hk⟩ := N0_fuel 7 (by decide)
  simp only [slices_Repeat_impl_Frac_impl_Frac, slices_Repeat_impl_Frac_impl_Frac_t]
  rw [show slices_Repeat_impl_Frac_impl_Frac_l8 N0 N0 = slices_Repeat_impl_Frac_impl_Frac_l8 N0 (k + 7) by rw [← hk]]
  have hn : n = 28 ∨ n = 29 ∨ n = 30 ∨ n = 31 ∨ n = 32 ∨ n = 33 ∨ n = 34 ∨ n = 35 ∨ n = 36 ∨ n = 37 := by omega
  rcases hn with rfl | rfl | rfl | rfl | rfl | rfl | rfl | rfl | rfl | rfl <;> rfl

section
variable {p q : Int} {M : Int} (h : Qn p q M) {A B : Int} (hA : Sm A) (hB : Sm B)
include h hA hB

theorem qF_le : decide (cmpF (qF p q M A) (qF p q M B) ≤ 0) = decide (A ≤ B) := by
  have := qF_gt h hA hB
  by_cases hle : A ≤ B
  · rw [dec_t hle]
    rw [dec_f (p := A > B) (by omega)] at this
    have := of_decide_eq_false this
    exact dec_t (by omega)
  · rw [dec_f hle]
    rw [dec_t (p := A > B) (by omega)] at this
    have := of_decide_eq_true this
    exact dec_f (by omega)

theorem f6less_q : laws_f6less N0 (qF p q M A) (qF p q M B) = r1 (decide (A < B)) := by
  have h1 := (qF_some h hA).2
  have h2 := (qF_some h hB).2
  simp only [laws_f6less, laws_f6less_t, spec_CompareFracs, spec_CompareFracs_t, pr_eta, spec_l01Two_is, h1, h2, Option.bind_some, Bool.and_self, cond_true, bne_self_eq_false, cond_false, spec_l01Cmp_is, beq_self_eq_true, qF_lt h hA hB]

theorem sub_q (hC : Sm (A - B)) : spec_SubFracs N0 (qF p q M A) (qF p q M B) = r2 (qF p q M (A - B)) 0 := by
  rw [spec_SubFracs_is (qF_some h hA).2 (qF_some h hB).2, qF_sub h hA hB hC]
  rfl

theorem add_q (hC : Sm (A + B)) : spec_AddFracs N0 (qF p q M A) (qF p q M B) = r2 (qF p q M (A + B)) 0 := by
  rw [spec_AddFracs_is (qF_some h hA).2 (qF_some h hB).2, qF_add h hA hB hC]
  rfl
end

section
variable {s : Sc} {p q : Int} {m : Nat} {ε : Nat → Int} (V : Vc s p q m ε)
include V

theorem hb_q : s.2.length ≤ 9223372036854775807 := by have := V.len; omega

theorem lineCode_q {x : Fq} (hx : vF x = true) (bk : Bool) {j : Int} (hj : 0 ≤ j ∧ j < (m : Int)) : impl_lineCode N0 s ((m : Int), bk) x j = r1 0 := by
  have hM := V.qn.M
  simp only [impl_lineCode, impl_lineCode_t, pr_eta, impl_ValidScale_is s (hb_q V), scale_q V, impl_ValidVernier, impl_ValidVernier_t, impl_within_is, impl_ValidFrac_is, hx, Option.bind_some, show btw (m : Int) 2 40 = true from btw_iff.2 (by omega), Bool.not_true, cond_false]
  rw [w_in (x := (m : Int) - 1) (by unfold I64; omega), show btw j 0 ((m : Int) - 1) = true from btw_iff.2 (by omega)]
  rfl

/-- the worst error -/
theorem worst_l3_q : ∀ (k i : Nat) (w : Int), i ≤ s.2.length → s.2.length - i < k → (0 ≤ w ∧ w ≤ 4) → (∀ j, j < i → ((ε j).natAbs : Int) ≤ w) →
    ∃ w', impl_worst_l3 N0 k (i : Int) s.2 (s.2.length : Int) (qF p q m (3 * m * w)).1 (qF p q m (3 * m * w)).2 0 0 = r1 (qF p q m (3 * m * w')) ∧ (0 ≤ w' ∧ w' ≤ 4) ∧ ∀ j, j < s.2.length → ((ε j).natAbs : Int) ≤ w'
  | 0, i, w, _, hk, _, _ => by omega
  | k + 1, i, w, hi, hk, hw, hp => by
    have hl := V.len
    have hM := V.qn.M
    simp only [impl_worst_l3, impl_worst_t3]
    by_cases h : i < s.2.length
    · have he := V.eb i
      have hE := er_sm V (k := i)
      have hwS : Sm (3 * (m : Int) * w) := by
        have := mul_bd (a := 3 * (m : Int)) (b := w) (A := 36) (B := 4) (by omega) (by omega)
        unfold Sm; omega
      have heS : Sm (3 * (m : Int) * ((ε i).natAbs : Int)) := by
        have := mul_bd (a := 3 * (m : Int)) (b := ((ε i).natAbs : Int)) (A := 36) (B := 4) (by omega) (by omega)
        unfold Sm; omega
      have hsz : szF (qF p q m (3 * m * ε i)) = qF p q m (3 * m * ((ε i).natAbs : Int)) := by
        rw [qF_size V.qn hE]
        congr 1
        rw [Int.natAbs_mul, Int.natCast_mul]
        congr 1
      have hge : decide (cmpF (qF p q m (3 * m * w)) (qF p q m (3 * m * ((ε i).natAbs : Int))) ≥ 0) = decide (((ε i).natAbs : Int) ≤ w) := by
        have h1 := qF_lt V.qn hwS heS
        by_cases hlt : 3 * (m : Int) * w < 3 * (m : Int) * ((ε i).natAbs : Int)
        · rw [dec_t hlt] at h1
          have := of_decide_eq_true h1
          have := Int.lt_of_mul_lt_mul_left hlt (by omega)
          rw [dec_f (by omega), dec_f (by omega)]
        · rw [dec_f hlt] at h1
          have := of_decide_eq_false h1
          have := Int.le_of_mul_le_mul_left (a := 3 * (m : Int)) (Int.not_lt.1 hlt) (by omega)
          rw [dec_t (by omega), dec_t (by omega)]
      have hgi : s.2.getD i (0, 0) = qF p q m (3 * m * ε i) := V.er i h
      simp only [lt_t h, nn_t, Bool.and_self, cond_true, Int.toNat_natCast, w_succ (i := i) (by omega), pr_eta, hgi]
      rw [impl_size_is (qF_bd V.qn hE), Option.bind_some, hsz]
      simp only [impl_greater, impl_greater_t, pr_eta, impl_compare_is, Option.bind_some, hge]
      by_cases hle : ((ε i).natAbs : Int) ≤ w
      · rw [dec_t hle, cond_true]
        exact worst_l3_q k (i + 1) w h (by omega) hw (fun j hj => by
          by_cases hji : j = i
          · rw [hji]; exact hle
          · exact hp j (by omega))
      · rw [dec_f hle, cond_false]
        exact worst_l3_q k (i + 1) ((ε i).natAbs : Int) h (by omega) (by omega) (fun j hj => by
          by_cases hji : j = i
          · rw [hji]; omega
          · have := hp j (by omega); omega)
    · have : i = s.2.length := by omega
      rw [this, dec_f (by omega), cond_false]
      exact ⟨w, rfl, hw, fun j hj => hp j (by omega)⟩

theorem worst_q : ∃ w, impl_worst N0 s = r1 (qF p q m (3 * m * w)) ∧ (0 ≤ w ∧ w ≤ 4) ∧ ∀ j, j < s.2.length → ((ε j).natAbs : Int) ≤ w := by
  have := N0_big
  have hl := V.len
  obtain ⟨w, e, h⟩ := worst_l3_q V N0 0 0 (by omega) (by omega) (by omega) (by intro j hj; omega)
  refine ⟨w, ?_, h⟩
  rw [show 3 * (m : Int) * 0 = 0 by omega, qF_zero V.qn] at e
  simp only [impl_worst, impl_worst_t, impl_zero_is, Option.bind_some]
  exact e

theorem count_q (bk : Bool) : impl_LeastCount N0 s ((m : Int), bk) = r2 (qF p q m 48) 0 := by
  have hM := V.qn.M
  have hp := V.qn.p
  have hq := V.qn.q
  have e : fdiv (p, q) ((m : Int), 1) = some (qF p q m 48) := by
    unfold fdiv
    refine qF_of V.qn (by unfold Sm; omega) (Int.mul_pos (by omega) (by omega)) ?_
    simp only
    generalize (m : Int) = M at *
    grind
  simp only [impl_LeastCount, impl_LeastCount_t, pr_eta, impl_ValidScale_is s (hb_q V), scale_q V, impl_ValidVernier, impl_ValidVernier_t, impl_within_is, Option.bind_some, show btw (m : Int) 2 40 = true from btw_iff.2 (by omega), Bool.not_true, cond_false, impl_num_is]
  rw [V.u, impl_calc_div_is (Bd.of V.vu) (Bd.num (n := (m : Int)) (by omega)) _ (show (m : Int) ≠ 0 by omega), Option.bind_some, e]
  rfl

/-- the span of a reading -/
theorem span_q (bk : Bool) {R : Int} (hR : -20000 ≤ R ∧ R ≤ 20000) : ∃ w, (∀ j, j < s.2.length → ((ε j).natAbs : Int) ≤ w) ∧ (0 ≤ 24 + 6 * (m : Int) * w ∧ 24 + 6 * (m : Int) * w ≤ 1000) ∧
    impl_ReadingSpan N0 s ((m : Int), bk) (qF p q m R) = r2 ((qF p q m (R - (24 + 6 * m * w)), qF p q m (R + (24 + 6 * m * w))) : Fq × Fq) 0 := by
  have hM := V.qn.M
  have hp := V.qn.p
  have hq := V.qn.q
  obtain ⟨w, e1, hw, h1⟩ := worst_q V
  have hmw := mul_pos_bd (a := 6 * (m : Int)) (b := w) (A := 72) (B := 4) (by omega) hw
  have hmw3 := mul_pos_bd (a := 3 * (m : Int)) (b := w) (A := 36) (B := 4) (by omega) hw
  refine ⟨w, h1, by omega, ?_⟩
  have hRv := (qF_some V.qn (A := R) (by unfold Sm; omega)).2
  have d1 : fdiv (p, q) (2 * (m : Int), 1) = some (qF p q m 24) := by
    unfold fdiv
    refine qF_of V.qn (by unfold Sm; omega) (Int.mul_pos (by omega) (by omega)) ?_
    simp only
    generalize (m : Int) = M at *
    grind
  have hv := qF_val V.qn (A := 3 * (m : Int) * w) (by unfold Sm; omega)
  have hvb := qF_bd V.qn (A := 3 * (m : Int) * w) (by unfold Sm; omega)
  have hvb1 := hvb.1
  have d2 : fmul (2, 1) (qF p q m (3 * m * w)) = some (qF p q m (6 * m * w)) := by
    unfold fmul
    refine qF_of V.qn (by unfold Sm; omega) (by simp only; omega) ?_
    simp only
    generalize qF p q m (3 * m * w) = a at *
    generalize (m : Int) = M at *
    grind
  have hdt : impl_calc_doubt N0 s ((m : Int), bk) false = c1 (qF p q m (24 + 6 * m * w)) false := by
    simp only [impl_calc_doubt, impl_calc_doubt_t, pr_eta, impl_num_is, Option.bind_some, e1]
    rw [w_in (x := 2 * (m : Int)) (by unfold I64; omega), V.u, impl_calc_div_is (Bd.of V.vu) (Bd.num (n := 2 * (m : Int)) (by omega)) _ (show 2 * (m : Int) ≠ 0 by omega), Option.bind_some, d1]
    simp only [val, Option.getD_some, Option.isNone_some, Bool.or_false]
    rw [impl_calc_mul_is (Bd.num (n := 2) (by omega)) hvb, Option.bind_some, d2]
    simp only [val, Option.getD_some, Option.isNone_some, Bool.or_false]
    rw [impl_calc_add_is (qF_bd V.qn (by unfold Sm; omega)) (qF_bd V.qn (by unfold Sm; omega)), Option.bind_some, qF_add V.qn (by unfold Sm; omega) (by unfold Sm; omega) (by unfold Sm; omega)]
    rfl
  simp only [impl_ReadingSpan, impl_ReadingSpan_t, pr_eta, lineCode_q V hRv bk (j := 0) (by omega), Option.bind_some, bne_self_eq_false, cond_false, hdt]
  rw [impl_calc_sub_is (qF_bd V.qn (by unfold Sm; omega)) (qF_bd V.qn (by unfold Sm; omega)), Option.bind_some, qF_sub V.qn (by unfold Sm; omega) (by unfold Sm; omega) (by unfold Sm; omega)]
  simp only [val, Option.getD_some, Option.isNone_some, Bool.or_false]
  rw [impl_calc_add_is (qF_bd V.qn (by unfold Sm; omega)) (qF_bd V.qn (by unfold Sm; omega)), Option.bind_some, qF_add V.qn (by unfold Sm; omega) (by unfold Sm; omega) (by unfold Sm; omega)]
  simp only [val, Option.getD_some, Option.isNone_some, Bool.or_false, impl_calc_span, impl_calc_span_t, cond_false, Option.bind_some]

theorem inSpan_q {A B X : Int} (hA : Sm A) (hB : Sm B) (hX : Sm X) (h1 : A ≤ X) (h2 : X ≤ B) : impl_InSpan N0 (qF p q m A, qF p q m B) (qF p q m X) = r2 true 0 := by
  have vA := (qF_some V.qn hA).2
  have vB := (qF_some V.qn hB).2
  have vX := (qF_some V.qn hX).2
  simp only [impl_InSpan, impl_InSpan_t, impl_ValidSpan, impl_ValidSpan_t, pr_eta, impl_ValidFrac_is, vX, impl_compare_is]
  rw [cq_areValid_is [qF p q m A, qF p q m B] (by simp), Option.bind_some]
  simp only [List.all_cons, List.all_nil, vA, vB, Bool.and_self, cond_true, Option.bind_some, qF_le V.qn hA hB, qF_le V.qn hA hX, qF_le V.qn hX hB, dec_t (p := A ≤ B) (by omega), dec_t h1, dec_t h2, Bool.not_true, cond_false]

/-! ### the lines, one by one -/
section
variable {X : Int} (hX : 48 * (m : Int) ≤ X ∧ X ≤ 524 * (m : Int)) (bk : Bool)
include hX

theorem xs_q : Sm X := by
  have := x_bd V hX
  unfold Sm; omega

theorem lineAt_q {j : Int} (hj : 0 ≤ j ∧ j < (m : Int)) : impl_LineAt N0 s ((m : Int), bk) (qF p q m X) j = r2 (qF p q m (lnY m bk X j)) 0 := by
  have hM := V.qn.M
  have hxv := (qF_some V.qn (xs_q V hX)).2
  obtain ⟨l1, l2, l3⟩ := at_line V (x_bd V hX) bk (j := j) (by omega)
  simp only [impl_LineAt, impl_LineAt_t, pr_eta, lineCode_q V hxv bk hj, Option.bind_some, bne_self_eq_false, cond_false]
  rw [impl_line_is (line_qi V hxv) bk (j := j) (by omega), Option.bind_some, l1, l2]
  rfl

theorem misfit_q {j : Nat} (hj : j < m) {κ δ : Int} (hn : nearG s (qF p q m (lnY m bk X j)) = ((κ, qF p q m δ), false)) : impl_MisfitOf N0 s ((m : Int), bk) (qF p q m X) (j : Int) = r2 (qF p q m δ) 0 := by
  have hM := V.qn.M
  have hxv := (qF_some V.qn (xs_q V hX)).2
  obtain ⟨l1, l2, l3⟩ := at_line V (x_bd V hX) bk (j := (j : Int)) (by omega)
  simp only [impl_MisfitOf, impl_MisfitOf_t, pr_eta, lineCode_q V hxv bk (j := (j : Int)) (by omega), Option.bind_some, bne_self_eq_false, cond_false]
  rw [impl_line_is (line_qi V hxv) bk (j := (j : Int)) (by omega), Option.bind_some, l1, l2]
  dsimp only
  rw [impl_near_is (line_qi V hxv) (qF_bd V.qn l3), Option.bind_some, hn]
  rfl
end

theorem nearest_q {Y κ δ : Int} (hY : Sm Y) (hn : nearG s (qF p q m Y) = ((κ, qF p q m δ), false)) : impl_NearestMark N0 s (qF p q m Y) = r2 κ 0 := by
  have hv := (qF_some V.qn hY).2
  simp only [impl_NearestMark, impl_NearestMark_t, pr_eta, impl_ValidScale_is s (hb_q V), scale_q V, impl_ValidFrac_is, hv, Option.bind_some, Bool.not_true, cond_false]
  rw [impl_near_is (line_qi V hv) (qF_bd V.qn hY), Option.bind_some, hn]
  rfl

theorem markAt_q {k : Nat} (hk : k < s.2.length) : impl_MarkAt N0 s (k : Int) = r2 (qF p q m (mkI m ε k)) 0 := by
  have hl := V.len
  have hv := (qF_some V.qn (A := 0) (by unfold Sm; omega)).2
  simp only [impl_MarkAt, impl_MarkAt_t, pr_eta, impl_ValidScale_is s (hb_q V), scale_q V, impl_within_is, Option.bind_some, Bool.not_true, cond_false]
  rw [w_in (x := (s.2.length : Int) - 1) (by unfold I64; omega), show btw (k : Int) 0 ((s.2.length : Int) - 1) = true from btw_iff.2 (by omega), Bool.not_true, cond_false, impl_mark_is (line_qi V hv) hk, Option.bind_some, (mark_q V hk).2.1]
end

/-- the even scale -/
theorem even_vc {p q : Int} {m : Nat} (h : Qn p q (m : Int)) (hv : vF (p, q) = true) {n : Nat} (hn : 28 ≤ n ∧ n ≤ 37) : Vc ((p, q), List.replicate n (0, 1)) p q m (fun _ => 0) := by
  refine ⟨h, rfl, hv, by simpa using hn, fun k hk => ?_, fun _ => by omega⟩
  simp only [List.length_replicate] at hk
  rw [get_ix (by simpa using hk), List.getElem_replicate, Int.mul_zero, qF_zero h]

theorem evenScale_q {s : Sc} {p q : Int} {m : Nat} {ε : Nat → Int} (V : Vc s p q m ε) : impl_EvenScale N0 (p, q) (s.2.length : Int) = r2 (((p, q), List.replicate s.2.length (0, 1)) : Sc) 0 := by
  have hl := V.len
  have hu := unit_q V
  rw [V.u] at hu
  have hE := even_vc V.qn V.vu hl
  unfold unitOk at hu
  rw [V.vu, Bool.true_and] at hu
  simp only [impl_EvenScale, impl_EvenScale_t, pr_eta, impl_ValidFrac_is, V.vu, impl_isUnit_is, hu, impl_within_is, impl_zero_is, Option.bind_some, show btw (s.2.length : Int) 2 60 = true from btw_iff.2 (by omega), Bool.not_true, cond_false]
  rw [repeat_zero hl, Option.bind_some]
  dsimp only
  rw [impl_ValidScale_is _ (hb_q hE), scale_q hE]
  rfl

theorem max_size {a : Fq} (ha : Bd a) : ((if a.1 < IntKind.wrap .i64 (0 - a.1) then IntKind.wrap .i64 (0 - a.1) else a.1), a.2) = szF a := by
  have := ha.2
  rw [w_in (x := 0 - a.1) (by unfold I64; omega)]
  unfold szF
  congr 1
  split <;> omega

section
variable {s : Sc} {p q : Int} {m : Nat} {ε : Nat → Int} (V : Vc s p q m ε) {X : Int} (hX : 48 * (m : Int) ≤ X ∧ X ≤ 524 * (m : Int)) (bk : Bool)
include V hX

/-- what fits, what is read -/
theorem vern_all : ∃ (κ : Nat → Nat) (f : Nat) (R : Int), f < m ∧ (∀ j : Nat, j < m → nearG s (qF p q m (lnY m bk X j)) = ((((κ j : Nat) : Int), qF p q m (dsI m ε (lnY m bk X j) (κ j))), false) ∧ κ j < s.2.length) ∧
    fitsP s m bk (qF p q m X) = ((f : Int), 0) ∧ (∀ j : Nat, j < m → dsI m ε (lnY m bk X f) (κ f) ≤ dsI m ε (lnY m bk X j) (κ j)) ∧ (∀ j : Nat, j < f → dsI m ε (lnY m bk X f) (κ f) < dsI m ε (lnY m bk X j) (κ j)) ∧
    readRes s m bk (qF p q m X) = (qF p q m R, 0) ∧ (-20000 ≤ R ∧ R ≤ 20000) ∧ ∀ w, (∀ k, k < s.2.length → ((ε k).natAbs : Int) ≤ w) → ((X - R).natAbs : Int) ≤ 24 + 6 * m * w := by
  have hM := V.qn.M
  have hx := x_bd V hX
  obtain ⟨κ, hκ⟩ := near_fun V hX bk
  obtain ⟨f, hf, e1, e2, e3⟩ := fits_q V hX bk hκ
  obtain ⟨e4, _⟩ := read_q V hX bk hf e1
  have hn : ∀ w, (∀ k, k < s.2.length → ((ε k).natAbs : Int) ≤ w) → ((X - rdI m X (lineI m bk f)).natAbs : Int) ≤ 24 + 6 * m * w := fun w hw => read_near V hX bk hw (fun j hj => (hκ j hj).2) hf e2
  have h4 := hn 4 (fun k _ => by have := V.eb k; omega)
  exact ⟨κ, f, _, hf, fun j hj => ⟨(hκ j hj).1, (hκ j hj).2.1⟩, e1, e2, e3, e4, by omega, hn⟩

theorem readV_q {R : Int} (hr : readRes s m bk (qF p q m X) = (qF p q m R, 0)) : impl_ReadVernier N0 s ((m : Int), bk) (qF p q m X) = r2 (qF p q m R) 0 ∧ spec_ReadVernier N0 s ((m : Int), bk) (qF p q m X) = r2 (qF p q m R) 0 := by
  have hxv := (qF_some V.qn (xs_q V hX)).2
  have hk := line_q V hxv bk
  have H := line_qi V hxv
  rw [impl_ReadVernier_at H bk (hb_q V) hk, spec_ReadVernier_at H bk (hb_q V) hk, hr]
  exact ⟨rfl, rfl⟩

theorem fit_q' {f : Nat} (hfit : fitsP s m bk (qF p q m X) = ((f : Int), 0)) : impl_LineThatFits N0 s ((m : Int), bk) (qF p q m X) = r2 (f : Int) 0 ∧ spec_LineThatFits N0 s ((m : Int), bk) (qF p q m X) = r2 (f : Int) 0 := by
  have hxv := (qF_some V.qn (xs_q V hX)).2
  have hk := line_q V hxv bk
  have H := line_qi V hxv
  constructor
  · rw [impl_LineThatFits_is H bk (hb_q V) hk, hfit]
  · simp only [spec_LineThatFits, spec_LineThatFits_t, pr_eta, spec_l02Asked_is s _ _ (hb_q V), hk, cond_true, Option.bind_some, bne_self_eq_false, cond_false, spec_l02Fits_is H bk, hfit]

/-- the loop over all lines, and the even scale behind it -/
theorem vern_loop {κ : Nat → Nat} {f : Nat} (hf : f < m) (hκ : ∀ j : Nat, j < m → nearG s (qF p q m (lnY m bk X j)) = ((((κ j : Nat) : Int), qF p q m (dsI m ε (lnY m bk X j) (κ j))), false) ∧ κ j < s.2.length)
    (h1 : ∀ j : Nat, j < m → dsI m ε (lnY m bk X f) (κ f) ≤ dsI m ε (lnY m bk X j) (κ j)) (h2 : ∀ j : Nat, j < f → dsI m ε (lnY m bk X f) (κ f) < dsI m ε (lnY m bk X j) (κ j)) : ∀ (k i : Nat), i ≤ m → m - i < k →
    laws_FnVerniers_l25 N0 k (i : Int) (f : Int) s.1.1 s.1.2 s.2 (qF p q m (dsI m ε (lnY m bk X f) (κ f))).1 (qF p q m (dsI m ε (lnY m bk X f) (κ f))).2 (qF p q m X).1 (qF p q m X).2 (m : Int) bk = r1 true
  | 0, i, _, hk => by omega
  | k + 1, i, hi, hk => by
    have hM := V.qn.M
    have hl := V.len
    have hx := x_bd V hX
    have hXs := xs_q V hX
    simp only [laws_FnVerniers_l25, laws_FnVerniers_t25, pr_eta]
    by_cases h : i < m
    · obtain ⟨n1, n2⟩ := hκ i h
      have hY := Y_bd V hX bk (j := (i : Int)) (by omega)
      have hYf := ds_sm V hX bk (j := (f : Int)) (by omega) (k := κ f) (by have := (hκ f hf).2; omega)
      have hYi := ds_sm V hX bk (j := (i : Int)) (by omega) (k := κ i) (by omega)
      have hmk := (mk_sm V (k := κ i) (by omega)).2
      have hD : Sm (lnY m bk X i - mkI m ε (κ i)) := by unfold Sm; omega
      have hDb := qF_bd V.qn hD
      have hz := qF_size V.qn hD
      have hd := sub_q V.qn (A := lnY m bk X i) (B := mkI m ε (κ i)) (by unfold Sm; omega) (by unfold Sm; omega) hD
      have hz1 : (qF p q m (dsI m ε (lnY m bk X i) (κ i))).1 = (((qF p q m (lnY m bk X i - mkI m ε (κ i))).1.natAbs : Nat) : Int) := by unfold dsI; rw [← hz]
      have hz2 : (qF p q m (dsI m ε (lnY m bk X i) (κ i))).2 = (qF p q m (lnY m bk X i - mkI m ε (κ i))).2 := by unfold dsI; rw [← hz]
      have ih := vern_loop hf hκ h1 h2 k (i + 1) h (by omega)
      have hle := h1 i h
      have hne : (i : Int) < f → (((qF p q m (dsI m ε (lnY m bk X i) (κ i))).1 == (qF p q m (dsI m ε (lnY m bk X f) (κ f))).1) && (((qF p q m (dsI m ε (lnY m bk X i) (κ i))).2 == (qF p q m (dsI m ε (lnY m bk X f) (κ f))).2) && true)) = false := by
        intro hif
        have hlt := h2 i (by omega)
        rw [Bool.and_true, Bool.eq_false_iff]
        intro he
        rw [Bool.and_eq_true, beq_iff_eq, beq_iff_eq] at he
        have := qF_inj V.qn hYi hYf (Prod.ext he.1 he.2)
        omega
      simp only [lt_t h, cond_true, misfit_q V hX bk h n1, lineAt_q V hX bk (j := (i : Int)) (by omega), Option.bind_some, bne_self_eq_false, cond_false, f6less_q V.qn hYi hYf, dec_f (p := dsI m ε (lnY m bk X i) (κ i) < dsI m ε (lnY m bk X f) (κ f)) (by omega),
        pr_eta, nearest_q V (by unfold Sm; omega) n1, dec_f (p := ((κ i : Nat) : Int) < 0) (by omega), dec_f (p := ((κ i : Nat) : Int) ≥ (s.2.length : Int)) (by omega), markAt_q V n2, hd, w_succ (i := i) (by omega)]
      have hb2 := hDb.2
      by_cases hneg : (qF p q m (lnY m bk X i - mkI m ε (κ i))).1 < 0
      · have e1 : ((IntKind.wrap .i64 (0 - (qF p q m (lnY m bk X i - mkI m ε (κ i))).1) == (qF p q m (dsI m ε (lnY m bk X i) (κ i))).1) && (((qF p q m (lnY m bk X i - mkI m ε (κ i))).2 == (qF p q m (dsI m ε (lnY m bk X i) (κ i))).2) && true)) = true := by
          rw [hz1, hz2, w_in (x := 0 - _) (by unfold I64; omega), eq_t (by omega), eq_t rfl]
          rfl
        by_cases hif : (i : Int) < f
        · simp only [dec_t hneg, dec_t hif, hne hif, cond_true, cond_false, e1, Bool.not_true]
          exact ih
        · simp only [dec_t hneg, dec_f hif, cond_true, cond_false, e1, Bool.not_true]
          exact ih
      · have e1 : (((qF p q m (lnY m bk X i - mkI m ε (κ i))).1 == (qF p q m (dsI m ε (lnY m bk X i) (κ i))).1) && (((qF p q m (lnY m bk X i - mkI m ε (κ i))).2 == (qF p q m (dsI m ε (lnY m bk X i) (κ i))).2) && true)) = true := by
          rw [hz1, hz2, eq_t (by omega), eq_t rfl]
          rfl
        by_cases hif : (i : Int) < f
        · simp only [dec_f hneg, dec_t hif, hne hif, cond_true, cond_false, e1, Bool.not_true]
          exact ih
        · simp only [dec_f hneg, dec_f hif, cond_true, cond_false, e1, Bool.not_true]
          exact ih
    · have : i = m := by omega
      subst this
      have hE := even_vc V.qn V.vu hl
      obtain ⟨κ', f', R, g1, g2, g3, g4, g5, g6, g7, g8⟩ := vern_all hE hX bk
      have g9 := g8 0 (fun k _ => by simp)
      rw [Int.mul_zero, Int.add_zero] at g9
      have hev : impl_EvenScale N0 s.1 (s.2.length : Int) = r2 (((p, q), List.replicate s.2.length (0, 1)) : Sc) 0 := by rw [V.u]; exact evenScale_q V
      have hD : Sm (R - X) := by unfold Sm; omega
      have hA : Sm (((R - X).natAbs : Nat) : Int) := by unfold Sm; omega
      rw [dec_f (by omega), cond_false, hev, Option.bind_some]
      dsimp only
      have hrv := (readV_q hE hX bk g6).1
      rw [hrv, Option.bind_some]
      simp only [bne_self_eq_false, cond_false, count_q hE bk, Option.bind_some, pr_eta, sub_q V.qn (A := R) (B := X) (by unfold Sm; omega) hXs hD, max_size (qF_bd V.qn hD), qF_size V.qn hD,
        add_q V.qn hA hA (by unfold Sm; omega), beq_self_eq_true, cond_true, f6less_q V.qn (A := 48) (by unfold Sm; omega) (B := (((R - X).natAbs : Nat) : Int) + (((R - X).natAbs : Nat) : Int)) (by unfold Sm; omega)]
      rw [dec_f (by omega)]
      rfl
end

theorem law_FnVerniers (code more : List Int) (h : WfD (.list (.int .u8)) code) (hm : WfD (.list (.int .u8)) more) : laws_FnVerniers N0 code more = r1 true := by
  have hN := N0_big
  simp only [laws_FnVerniers, laws_FnVerniers_t, laws_f6big, laws_f6big_t, Option.bind_some]
  by_cases hc : (code.length : Int) > 4096
  · rw [dec_t hc]; rfl
  · by_cases hc' : (more.length : Int) > 4096
    · rw [dec_f hc, dec_t hc']; rfl
    · obtain ⟨s, p, q, ε, es, hs⟩ := spec_P6Scale_ex code (code_wf h) (by omega)
      obtain ⟨m, bk, ev, hmm⟩ := spec_P6Vernier_ex more (code_wf hm) (by omega)
      obtain ⟨X, ex, hX⟩ := spec_P6Place_ex more (code_wf hm) (by omega) hs hmm
      have V := hs.vc hmm
      have hXs := xs_q V hX
      obtain ⟨κ, f, R, g1, g2, g3, g4, g5, g6, g7, g8⟩ := vern_all V hX bk
      obtain ⟨a1, a2⟩ := readV_q V hX bk g6
      obtain ⟨b1, b2⟩ := fit_q' V hX bk g3
      obtain ⟨w, c1, c2, c3⟩ := span_q V bk g7
      have c4 := g8 w c1
      have d1 := inSpan_q V (A := R - (24 + 6 * m * w)) (B := R + (24 + 6 * m * w)) (X := X) (by unfold Sm; omega) (by unfold Sm; omega) hXs (by omega) (by omega)
      have l1 := vern_loop V hX bk g1 g2 g4 g5 N0 0 (by omega) (by omega)
      have mf := misfit_q V hX bk g1 (g2 f g1).1
      have hM := V.qn.M
      rw [dec_f hc, dec_f hc', cond_false, cond_false, es, Option.bind_some]
      dsimp only
      rw [ev, Option.bind_some]
      simp only [pr_eta, ex, Option.bind_some, b1, b2, a1, a2, bne_self_eq_false, cond_false, beq_self_eq_true, Bool.and_self, Bool.not_true, impl_ValidScale_is s (hb_q V), scale_q V, impl_ValidVernier, impl_ValidVernier_t, impl_within_is, show btw (m : Int) 2 40 = true from btw_iff.2 (by omega), c3, cond_true, d1, mf]
      exact l1
end Go.Abs
