/- Angles out of texts. -/
import Derived.Test.YtpamckmeeamjjaaDoorNumP
namespace Go.Abs
set_option linter.unusedSectionVars false
set_option linter.unusedSimpArgs false
set_option linter.unusedVariables false
open Go.Lib (decDigits itoa)

theorem dg_ne {c : UInt8} (hc : ¬ isDg c) {l : List UInt8} (h : ∀ x ∈ l, isDg x) : c ∉ l := fun hm => hc (h c hm)

theorem two_dg {n : Nat} (h : n < 100) : ∀ x ∈ twoT n, isDg x := by
  intro x hx
  unfold twoT at hx
  simp only [List.mem_cons, List.mem_nil_iff, or_false] at hx
  rcases hx with rfl | rfl
  · exact dg_is (by omega)
  · exact dg_is (by omega)

theorem angT_split {a : Int} (h : isAng a = true) : splitC 58 (angT a) = [decDigits (a / 3600).toNat, twoT (a / 60 % 60).toNat, twoT (a % 60).toNat] := by
  have hb := angle_iff.1 h
  have hc : ¬ isDg 58 := by decide
  unfold angT
  rw [List.append_assoc, List.append_assoc, List.append_assoc]
  rw [List.singleton_append, splitC_app (dg_ne hc (dig_all _)), List.singleton_append, splitC_app (dg_ne hc (two_dg (by omega))), splitC_no (dg_ne hc (two_dg (by omega)))]

theorem dig_len3 {u : Nat} (h : u < 1000) : (decDigits u).length ≤ 3 := by
  by_cases h1 : u < 10
  · rw [dig_small h1]; simp
  · rw [dig_big h1, List.length_append]
    by_cases h2 : u / 10 < 10
    · rw [dig_small h2]; simp
    · rw [dig_big h2, List.length_append, dig_small (by omega)]; simp

theorem eqStr_bs (l m : List UInt8) : eqStr (bs l) (bs m) = decide (l = m) := by
  unfold eqStr
  rw [ByteArray.toList_eq, ByteArray.toList_eq]
  by_cases h : l = m
  · rw [dec_t h, h]; simp
  · rw [dec_f h]; simpa using h

abbrev outA (w0 w1 w2 : List UInt8) : Int := IntKind.wrap .i64 ((IntKind.wrap .i64 ((IntKind.wrap .i64 (3600 * numL w0)) + (IntKind.wrap .i64 (60 * numL w1)))) + numL w2)

theorem sz_gt (w : List UInt8) : decide ((((ByteArray.size (bs w)) : Nat) : Int) > 4) = decide (4 < w.length) := by
  rw [bs_size]
  apply Bool.eq_iff_iff.2
  simp only [decide_eq_true_eq]
  omega

theorem impl_RA_l5_is (l w0 w1 w2 : List UInt8) (m : Nat) : impl_ReadAngle_l5 N0 (m + 4) 0 (bs l) 3 [bs w0, bs w1, bs w2] =
    bif decide (4 < w0.length) || (decide (4 < w1.length) || decide (4 < w2.length)) then r2 0 5 else
    bif decide ((bif isAng (outA w0 w1 w2) then angT (outA w0 w1 w2) else []) = l) then r2 (outA w0 w1 w2) 0 else r2 0 5 := by
  have e1 : IntKind.wrap .i64 (0 + 1) = 1 := by decide
  have e2 : IntKind.wrap .i64 (1 + 1) = 2 := by decide
  have e3 : IntKind.wrap .i64 (2 + 1) = 3 := by decide
  rw [impl_ReadAngle_l5]; unfold impl_ReadAngle_t5
  simp only [List.length_cons, List.length_nil, Int.toNat_zero, List.getD_cons_zero, sz_gt, e1]
  rw [dec_t (p := (0 : Int) < 3) (by decide), cond_true, dec_t (p := (0 : Int) ≤ 0) (by decide), dec_t (p := (0 : Int) < ((0 + 1 + 1 + 1 : Nat) : Int)) (by decide), Bool.and_self, cond_true]
  cases h0 : decide (4 < w0.length) with
  | true => rfl
  | false =>
    rw [cond_false, impl_ReadAngle_l5]; unfold impl_ReadAngle_t5
    simp only [List.length_cons, List.length_nil, show Int.toNat 1 = 1 from rfl, List.getD_cons_succ, List.getD_cons_zero, sz_gt, e2]
    rw [dec_t (p := (1 : Int) < 3) (by decide), cond_true, dec_t (p := (0 : Int) ≤ 1) (by decide), dec_t (p := (1 : Int) < ((0 + 1 + 1 + 1 : Nat) : Int)) (by decide), Bool.and_self, cond_true]
    cases h1 : decide (4 < w1.length) with
    | true => rfl
    | false =>
      rw [cond_false, impl_ReadAngle_l5]; unfold impl_ReadAngle_t5
      simp only [List.length_cons, List.length_nil, show Int.toNat 2 = 2 from rfl, List.getD_cons_succ, List.getD_cons_zero, sz_gt, e3]
      rw [dec_t (p := (2 : Int) < 3) (by decide), cond_true, dec_t (p := (0 : Int) ≤ 2) (by decide), dec_t (p := (2 : Int) < ((0 + 1 + 1 + 1 : Nat) : Int)) (by decide), Bool.and_self, cond_true]
      cases h2 : decide (4 < w2.length) with
      | true => rfl
      | false =>
        have l0 := of_decide_eq_false h0
        have l1 := of_decide_eq_false h1
        have l2 := of_decide_eq_false h2
        rw [cond_false, impl_ReadAngle_l5]; unfold impl_ReadAngle_t5
        rw [dec_f (p := (3 : Int) < 3) (by decide), cond_false]
        simp only [List.length_cons, List.length_nil, Int.toNat_zero, show Int.toNat 1 = 1 from rfl, show Int.toNat 2 = 2 from rfl, List.getD_cons_succ, List.getD_cons_zero]
        rw [dec_t (p := (0 : Int) < ((0 + 1 + 1 + 1 : Nat) : Int)) (by decide), dec_t (p := (1 : Int) < ((0 + 1 + 1 + 1 : Nat) : Int)) (by decide), dec_t (p := (2 : Int) < ((0 + 1 + 1 + 1 : Nat) : Int)) (by decide)]
        rw [cond_true, impl_number_is (by rw [bs_size]; omega), Option.bind_some]
        dsimp only
        rw [cond_true, impl_number_is (by rw [bs_size]; omega), Option.bind_some]
        dsimp only
        rw [cond_true, impl_number_is (by rw [bs_size]; omega), Option.bind_some]
        dsimp only
        rw [impl_AngleText_is, Option.bind_some]
        dsimp only
        rw [eqStr_bs]
        cases decide ((bif isAng (outA w0 w1 w2) then angT (outA w0 w1 w2) else []) = l) <;> rfl

theorem three_of_len {α : Type} {l : List α} (h : l.length = 3) : ∃ a b c, l = [a, b, c] := by
  match l, h with
  | [a, b, c], _ => exact ⟨a, b, c, rfl⟩

theorem impl_RA_len {l : List UInt8} (hs : l.length ≤ 1048576) (h : (splitC 58 l).length ≠ 3) : impl_ReadAngle N0 (bs l) = r2 0 5 := by
  unfold impl_ReadAngle impl_ReadAngle_t
  rw [show (ByteArray.mk #[58]) = bs [58] from rfl, strings_Split_is (by rw [bs_size]; omega), Option.bind_some]
  dsimp only
  rw [ne_true (by rw [List.length_map]; omega), cond_true]

theorem impl_RA_three {l w0 w1 w2 : List UInt8} (hs : l.length ≤ 1048576) (h : splitC 58 l = [w0, w1, w2]) : impl_ReadAngle N0 (bs l) =
    bif decide (4 < w0.length) || (decide (4 < w1.length) || decide (4 < w2.length)) then r2 0 5 else
    bif decide ((bif isAng (outA w0 w1 w2) then angT (outA w0 w1 w2) else []) = l) then r2 (outA w0 w1 w2) 0 else r2 0 5 := by
  have := N0_big
  obtain ⟨m, hm⟩ : ∃ m, N0 = m + 4 := ⟨N0 - 4, by omega⟩
  unfold impl_ReadAngle impl_ReadAngle_t
  rw [show (ByteArray.mk #[58]) = bs [58] from rfl, strings_Split_is (by rw [bs_size]; omega), Option.bind_some]
  dsimp only
  have h' : splitC 58 (bs l).data.toList = [w0, w1, w2] := h
  rw [h']
  simp only [List.map_cons, List.map_nil, List.length_cons, List.length_nil]
  rw [ne_f (by decide), cond_false]
  have e := impl_RA_l5_is l w0 w1 w2 m
  rw [← hm] at e
  exact e

theorem impl_RA_pos {a : Int} (h : isAng a = true) : impl_ReadAngle N0 (bs (angT a)) = r2 a 0 := by
  have hb := angle_iff.1 h
  have hl := dig_len3 (u := (a / 3600).toNat) (by omega)
  have hlen : (angT a).length ≤ 1048576 := by unfold angT; simp [twoT]; omega
  rw [impl_RA_three hlen (angT_split h)]
  rw [dec_f (by omega), dec_f (by simp [twoT]), dec_f (by simp [twoT])]
  have e : outA (decDigits (a / 3600).toNat) (twoT (a / 60 % 60).toNat) (twoT (a % 60).toNat) = a := by
    unfold outA
    rw [numL_dig (by omega), numL_two (by omega), numL_two (by omega), w_add, w_add_l, w_in (by unfold I64; omega)]
    omega
  rw [e, h, cond_true, dec_t rfl]
  rfl

theorem impl_RA_neg {l : List UInt8} (hs : l.length ≤ 1048576) (h : ∀ a, isAng a = true → l ≠ angT a) : impl_ReadAngle N0 (bs l) = r2 0 5 := by
  by_cases hlen : (splitC 58 l).length = 3
  · obtain ⟨w0, w1, w2, hw⟩ := three_of_len hlen
    rw [impl_RA_three hs hw]
    cases decide (4 < w0.length) || (decide (4 < w1.length) || decide (4 < w2.length)) with
    | true => rfl
    | false =>
      rw [cond_false, dec_f, cond_false]
      cases ha : isAng (outA w0 w1 w2) with
      | true => exact fun e => h _ ha e.symm
      | false =>
        intro e
        have e : l = [] := e.symm
        rw [e] at hw
        simp [splitC] at hw
  · exact impl_RA_len hs hlen

/-! ### the reference's -/
theorem spec_RA_len {l : List UInt8} (hs : l.length ≤ 1048576) (h : (splitC 58 l).length ≠ 3) : spec_ReadAngle N0 (bs l) = r2 0 5 := by
  unfold spec_ReadAngle spec_ReadAngle_t
  have e := spec_l01Split_is (bs l) 58 (by rw [bs_size]; omega)
  rw [show (((58 : UInt8).toNat : Nat) : Int) = 58 from rfl] at e
  rw [e, Option.bind_some]
  dsimp only
  rw [ne_true (by rw [List.length_map]; omega), cond_true]

def okTwo (x y : UInt8) : Bool := btw ((x.toNat : Int) - 48) 0 5 && btw ((y.toNat : Int) - 48) 0 9

theorem spec_RA_l8_step (w0 : List UInt8) (x1 y1 x2 y2 : UInt8) (v : Int) (hv : 0 ≤ v ∧ v ≤ 359) (m : Nat) : spec_ReadAngle_l8 N0 (m + 3) 1 v [bs w0, bs [x1, y1], bs [x2, y2]] =
    bif okTwo x1 y1 && okTwo x2 y2 then r2 (60 * (60 * v + (10 * ((x1.toNat : Int) - 48) + ((y1.toNat : Int) - 48))) + (10 * ((x2.toNat : Int) - 48) + ((y2.toNat : Int) - 48))) 0 else r2 0 5 := by
  have e2 : IntKind.wrap .i64 (1 + 1) = 2 := by decide
  have e3 : IntKind.wrap .i64 (2 + 1) = 3 := by decide
  have b0 (x y : UInt8) : byteAt (bs [x, y]) 0 = (x.toNat : Int) := rfl
  have b1 (x y : UInt8) : byteAt (bs [x, y]) 1 = (y.toNat : Int) := rfl
  have t1 := x1.toNat_lt
  have t2 := y1.toNat_lt
  have t3 := x2.toNat_lt
  have t4 := y2.toNat_lt
  have hw (x : UInt8) : IntKind.wrap .i64 (IntKind.wrap .i64 (x.toNat : Int) - 48) = (x.toNat : Int) - 48 := by
    have := x.toNat_lt
    rw [w_in (x := (x.toNat : Int)) (by unfold I64; omega), w_in (by unfold I64; omega)]
  rw [spec_ReadAngle_l8]; unfold spec_ReadAngle_t8
  simp only [List.length_cons, List.length_nil, show Int.toNat 1 = 1 from rfl, List.getD_cons_succ, List.getD_cons_zero, b0, b1, hw, bs_size, e2, spec_l00In_is, Option.bind_some]
  rw [dec_t (p := (1 : Int) < 3) (by decide), cond_true, dec_t (p := (0 : Int) ≤ 1) (by decide), dec_t (p := (1 : Int) < ((0 + 1 + 1 + 1 : Nat) : Int)) (by decide), Bool.and_self, cond_true, cond_true,
    dec_t (p := (0 : Int) < ((0 + 1 + 1 : Nat) : Int)) (by decide), cond_true, dec_t (p := (1 : Int) < ((0 + 1 + 1 : Nat) : Int)) (by decide), cond_true]
  cases h1 : btw ((x1.toNat : Int) - 48) 0 5 with
  | false => simp [okTwo, h1]
  | true =>
    cases h2 : btw ((y1.toNat : Int) - 48) 0 9 with
    | false => simp [okTwo, h1, h2]
    | true =>
      rw [btw_iff] at h1 h2
      have hn : IntKind.wrap .i64 ((IntKind.wrap .i64 ((IntKind.wrap .i64 (60 * v)) + (IntKind.wrap .i64 (10 * ((x1.toNat : Int) - 48))))) + ((y1.toNat : Int) - 48)) = 60 * v + (10 * ((x1.toNat : Int) - 48) + ((y1.toNat : Int) - 48)) := by
        rw [w_add, w_add_l, w_in (by unfold I64; omega)]
        omega
      rw [hn, Bool.not_true, cond_false, cond_false, spec_ReadAngle_l8]; unfold spec_ReadAngle_t8
      simp only [List.length_cons, List.length_nil, show Int.toNat 2 = 2 from rfl, List.getD_cons_succ, List.getD_cons_zero, b0, b1, hw, bs_size, e3, spec_l00In_is, Option.bind_some]
      rw [dec_t (p := (2 : Int) < 3) (by decide), cond_true, dec_t (p := (0 : Int) ≤ 2) (by decide), dec_t (p := (2 : Int) < ((0 + 1 + 1 + 1 : Nat) : Int)) (by decide), Bool.and_self, cond_true, cond_true,
        dec_t (p := (0 : Int) < ((0 + 1 + 1 : Nat) : Int)) (by decide), cond_true, dec_t (p := (1 : Int) < ((0 + 1 + 1 : Nat) : Int)) (by decide), cond_true]
      have hb1 : okTwo x1 y1 = true := by unfold okTwo; rw [btw_iff.2 h1, btw_iff.2 h2]; rfl
      rw [hb1, Bool.true_and]
      cases h3 : btw ((x2.toNat : Int) - 48) 0 5 with
      | false => simp [okTwo, h3]
      | true =>
        cases h4 : btw ((y2.toNat : Int) - 48) 0 9 with
        | false => simp [okTwo, h3, h4]
        | true =>
          rw [btw_iff] at h3 h4
          have hb2 : okTwo x2 y2 = true := by unfold okTwo; rw [btw_iff.2 h3, btw_iff.2 h4]; rfl
          rw [hb2, Bool.not_true, cond_false, cond_false, spec_ReadAngle_l8]; unfold spec_ReadAngle_t8
          rw [dec_f (p := (3 : Int) < 3) (by decide), cond_false, cond_true]
          congr 5
          rw [w_add, w_add_l, w_in (by unfold I64; omega)]
          omega

theorem spec_RA_three {l w0 w1 w2 : List UInt8} (hs : l.length ≤ 1048576) (h : splitC 58 l = [w0, w1, w2]) :
    (spec_ReadAngle N0 (bs l) = r2 0 5 ∧ ¬ ∃ u x1 y1 x2 y2, numS w0 = some u ∧ u ≤ 359 ∧ w1 = [x1, y1] ∧ w2 = [x2, y2] ∧ okTwo x1 y1 = true ∧ okTwo x2 y2 = true) ∨
    ∃ u x1 y1 x2 y2, numS w0 = some u ∧ u ≤ 359 ∧ w1 = [x1, y1] ∧ w2 = [x2, y2] ∧ okTwo x1 y1 = true ∧ okTwo x2 y2 = true ∧
      spec_ReadAngle N0 (bs l) = r2 (60 * (60 * (u : Int) + (10 * ((x1.toNat : Int) - 48) + ((y1.toNat : Int) - 48))) + (10 * ((x2.toNat : Int) - 48) + ((y2.toNat : Int) - 48))) 0 := by
  have := N0_big
  obtain ⟨m, hm⟩ : ∃ m, N0 = m + 3 := ⟨N0 - 3, by omega⟩
  have e := spec_l01Split_is (bs l) 58 (by rw [bs_size]; omega)
  rw [show (((58 : UInt8).toNat : Nat) : Int) = 58 from rfl, show splitC 58 (bs l).data.toList = [w0, w1, w2] from h] at e
  have hev : spec_ReadAngle N0 (bs l) = bif ((w1.length : Nat) : Int) != 2 then r2 0 5 else bif ((w2.length : Nat) : Int) != 2 then r2 0 5 else
      (spec_l01Number N0 (bs w0)).bind fun r1 => cond (!r1.1.2.1.1) (r2 0 5) (cond (decide (r1.1.1.1 > 359)) (r2 0 5) (spec_ReadAngle_l8 N0 N0 1 r1.1.1.1 [bs w0, bs w1, bs w2])) := by
    unfold spec_ReadAngle spec_ReadAngle_t
    rw [e, Option.bind_some]
    simp only [List.map_cons, List.map_nil, List.length_cons, List.length_nil, show Int.toNat 1 = 1 from rfl, show Int.toNat 2 = 2 from rfl, Int.toNat_zero, List.getD_cons_succ, List.getD_cons_zero, bs_size]
    rw [ne_f (by decide), cond_false, dec_t (p := (1 : Int) < ((0 + 1 + 1 + 1 : Nat) : Int)) (by decide), dec_t (p := (2 : Int) < ((0 + 1 + 1 + 1 : Nat) : Int)) (by decide), dec_t (p := (0 : Int) < ((0 + 1 + 1 + 1 : Nat) : Int)) (by decide)]
    rfl
  rw [hev]
  by_cases h1 : w1.length = 2
  · by_cases h2 : w2.length = 2
    · obtain ⟨x1, y1, rfl⟩ : ∃ x y, w1 = [x, y] := by
        match w1, h1 with
        | [x, y], _ => exact ⟨x, y, rfl⟩
      obtain ⟨x2, y2, rfl⟩ : ∃ x y, w2 = [x, y] := by
        match w2, h2 with
        | [x, y], _ => exact ⟨x, y, rfl⟩
      rw [show ((([x1, y1].length : Nat) : Int) != 2) = false from rfl, show ((([x2, y2].length : Nat) : Int) != 2) = false from rfl, cond_false, cond_false, spec_l01Number_is]
      rw [show (bs w0).data.toList = w0 from rfl]
      cases hn : numS w0 with
      | none =>
        refine .inl ⟨rfl, ?_⟩
        rintro ⟨u, _, _, _, _, hu, _⟩
        cases hu
      | some u =>
        simp only [Option.bind_some, Bool.not_true, cond_false]
        by_cases hu : u ≤ 359
        · rw [dec_f (by omega), cond_false]
          have hstep := spec_RA_l8_step w0 x1 y1 x2 y2 u (by omega) m
          rw [← hm] at hstep
          rw [hstep]
          by_cases hok : okTwo x1 y1 = true ∧ okTwo x2 y2 = true
          · refine .inr ⟨u, x1, y1, x2, y2, rfl, hu, rfl, rfl, hok.1, hok.2, ?_⟩
            rw [hok.1, hok.2]
            rfl
          · refine .inl ⟨?_, ?_⟩
            · rw [show (okTwo x1 y1 && okTwo x2 y2) = false by
                rw [← Bool.not_eq_true, Bool.and_eq_true]; exact hok]
              rfl
            · rintro ⟨u', x1', y1', x2', y2', _, _, e1, e2, k1, k2⟩
              simp only [List.cons.injEq, and_true] at e1 e2
              obtain ⟨rfl, rfl⟩ := e1
              obtain ⟨rfl, rfl⟩ := e2
              exact hok ⟨k1, k2⟩
        · rw [dec_t (by omega), cond_true]
          refine .inl ⟨rfl, ?_⟩
          rintro ⟨u', _, _, _, _, hu', hle, _⟩
          injection hu' with hu'
          omega
    · rw [ne_f (by omega), ne_true (by omega), cond_false, cond_true]
      refine .inl ⟨rfl, ?_⟩
      rintro ⟨_, _, _, _, _, _, _, _, e2, _⟩
      exact h2 (by rw [e2]; rfl)
  · rw [ne_true (by omega), cond_true]
    refine .inl ⟨rfl, ?_⟩
    rintro ⟨_, _, _, _, _, _, _, e1, _⟩
    exact h1 (by rw [e1]; rfl)

theorem two_of {x y : UInt8} (h : okTwo x y = true) : ∃ n, n < 60 ∧ [x, y] = twoT n ∧ (n : Int) = 10 * ((x.toNat : Int) - 48) + ((y.toNat : Int) - 48) := by
  unfold okTwo at h
  rw [Bool.and_eq_true, btw_iff, btw_iff] at h
  refine ⟨10 * (x.toNat - 48) + (y.toNat - 48), by omega, ?_, by omega⟩
  unfold twoT
  rw [show (10 * (x.toNat - 48) + (y.toNat - 48)) / 10 = x.toNat - 48 by omega, show (10 * (x.toNat - 48) + (y.toNat - 48)) % 10 = y.toNat - 48 by omega, dg_back (by unfold isDg; omega), dg_back (by unfold isDg; omega)]

theorem ok_two {n : Nat} (h : n < 60) : ∃ x y, twoT n = [x, y] ∧ okTwo x y = true ∧ (n : Int) = 10 * ((x.toNat : Int) - 48) + ((y.toNat : Int) - 48) := by
  refine ⟨_, _, rfl, ?_, ?_⟩
  · unfold okTwo
    rw [Bool.and_eq_true, btw_iff, btw_iff, dg_toNat (by omega), dg_toNat (by omega)]
    omega
  · rw [dg_toNat (by omega), dg_toNat (by omega)]
    omega

theorem spec_RA_pos {a : Int} (h : isAng a = true) : spec_ReadAngle N0 (bs (angT a)) = r2 a 0 := by
  have hb := angle_iff.1 h
  have hl := dig_len3 (u := (a / 3600).toNat) (by omega)
  have hlen : (angT a).length ≤ 1048576 := by unfold angT; simp [twoT]; omega
  obtain ⟨x1, y1, e1, k1, n1⟩ := ok_two (n := (a / 60 % 60).toNat) (by omega)
  obtain ⟨x2, y2, e2, k2, n2⟩ := ok_two (n := (a % 60).toNat) (by omega)
  rcases spec_RA_three hlen (angT_split h) with ⟨_, hn⟩ | ⟨u, x1', y1', x2', y2', hu, hle, f1, f2, _, _, hr⟩
  · exact absurd ⟨(a / 3600).toNat, x1, y1, x2, y2, numS_dig (by omega), by omega, e1, e2, k1, k2⟩ hn
  · rw [hr]
    rw [numS_dig (by omega)] at hu
    injection hu with hu
    rw [e1] at f1
    rw [e2] at f2
    simp only [List.cons.injEq, and_true] at f1 f2
    obtain ⟨rfl, rfl⟩ := f1
    obtain ⟨rfl, rfl⟩ := f2
    rw [← n1, ← n2]
    congr 5
    omega

theorem spec_RA_neg {l : List UInt8} (hs : l.length ≤ 1048576) (h : ∀ a, isAng a = true → l ≠ angT a) : spec_ReadAngle N0 (bs l) = r2 0 5 := by
  by_cases hlen : (splitC 58 l).length = 3
  · obtain ⟨w0, w1, w2, hw⟩ := three_of_len hlen
    rcases spec_RA_three hs hw with ⟨h1, _⟩ | ⟨u, x1, y1, x2, y2, hu, hle, f1, f2, k1, k2, hr⟩
    · exact h1
    · exfalso
      obtain ⟨n1, g1, g2, g3⟩ := two_of k1
      obtain ⟨n2, g4, g5, g6⟩ := two_of k2
      have hj := joinC_split 58 l
      rw [hw, (numS_some hu).1, f1, f2, g2, g5] at hj
      refine h (3600 * (u : Int) + 60 * n1 + n2) (angle_iff.2 (by omega)) ?_
      rw [← hj]
      unfold angT
      rw [show ((3600 * (u : Int) + 60 * n1 + n2) / 3600).toNat = u by omega, show ((3600 * (u : Int) + 60 * n1 + n2) / 60 % 60).toNat = n1 by omega, show ((3600 * (u : Int) + 60 * n1 + n2) % 60).toNat = n2 by omega]
      simp [joinC]
  · exact spec_RA_len hs hlen
end Go.Abs
