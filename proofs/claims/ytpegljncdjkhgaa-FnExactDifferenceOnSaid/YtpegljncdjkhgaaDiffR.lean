/- The span of a difference: both loops and functions. -/
import Derived.Test.YtpegljncdjkhgaaDiffQ
namespace Go.Abs
set_option linter.unusedSectionVars false
set_option linter.unusedSimpArgs false
set_option linter.unusedVariables false

theorem comLen_self : ∀ (l : List Int), comLen l l = l.length
  | [] => rfl
  | x :: r => by rw [comLen, beq_self_eq_true, cond_true, comLen_self r, List.length_cons]

section
variable {v : List Std} (hc : chainOk v = true) {day : Int} (hd : isDay day = true)
include hc hd

theorem impl_diff_l7_is {i k : Int} (hi : 0 ≤ i ∧ i < (v.length : Int)) (hk : 0 ≤ k ∧ k < (v.length : Int)) (hne : i ≠ k) (z0 z1 z2 z3 : Int) : ∀ (f n : Nat), n ≤ (pathUp v N0 i).length → n ≤ (pathUp v N0 k).length → (pathUp v N0 i).length - n < f →
    impl_DifferenceOn_l7 N0 f k i (n : Int) z0 z1 z2 z3 day v (pathUp v N0 i) (pathUp v N0 k) false = diffOut v day (pathUp v N0 i) (pathUp v N0 k) (n + comLen ((pathUp v N0 i).drop n) ((pathUp v N0 k).drop n))
  | 0, n, _, _, hf => by omega
  | f + 1, n, h1, h2, hf => by
    have lP := path_le hc hi hd
    have ht := impl_tail_is hc hd hi hk hne h1 h2
    simp only [impl_DifferenceOn_l7, impl_DifferenceOn_t7]
    by_cases hp : n < (pathUp v N0 i).length
    · by_cases hq : n < (pathUp v N0 k).length
      · rw [lt_t hp, lt_t hq, nn_t]
        simp only [cond_true, Bool.and_self, Int.toNat_natCast, get_ix hp, get_ix hq, w_succ (i := n) (by omega)]
        rw [drop_ix hp, drop_ix hq, comLen]
        by_cases he : (pathUp v N0 i)[n] = (pathUp v N0 k)[n]
        · rw [eq_t he, cond_true, cond_true, impl_diff_l7_is hi hk hne z0 z1 z2 z3 f (n + 1) hp hq (by omega)]
          congr 1
          omega
        · rw [eq_f he, cond_false, cond_false, Nat.add_zero]
          exact ht
      · rw [lt_t hp, lt_f hq, cond_true, cond_false, List.drop_eq_nil_of_le (Nat.le_of_not_lt hq)]
        rw [show comLen ((pathUp v N0 i).drop n) [] = 0 by cases (pathUp v N0 i).drop n <;> rfl, Nat.add_zero]
        exact ht
    · rw [lt_f hp, cond_false, List.drop_eq_nil_of_le (Nat.le_of_not_lt hp)]
      rw [show comLen [] ((pathUp v N0 k).drop n) = 0 by cases (pathUp v N0 k).drop n <;> rfl, Nat.add_zero]
      exact ht

theorem impl_diff_l7_same {i : Int} (hi : 0 ≤ i ∧ i < (v.length : Int)) (z0 z1 z2 z3 : Int) : ∀ (f n : Nat), n ≤ (pathUp v N0 i).length → (pathUp v N0 i).length - n < f →
    impl_DifferenceOn_l7 N0 f i i (n : Int) z0 z1 z2 z3 day v (pathUp v N0 i) (pathUp v N0 i) false = r2 s0 0
  | 0, n, _, hf => by omega
  | f + 1, n, h1, hf => by
    have lP := path_le hc hi hd
    simp only [impl_DifferenceOn_l7, impl_DifferenceOn_t7]
    by_cases hp : n < (pathUp v N0 i).length
    · rw [lt_t hp, nn_t]
      simp only [cond_true, Bool.and_self, Int.toNat_natCast, w_succ (i := n) (by omega), beq_self_eq_true]
      exact impl_diff_l7_same hi z0 z1 z2 z3 f (n + 1) hp (by omega)
    · rw [lt_f hp, cond_false, beq_self_eq_true, cond_true]
      rfl

theorem spec_tail_is {i k : Int} (hi : 0 ≤ i ∧ i < (v.length : Int)) (hk : 0 ≤ k ∧ k < (v.length : Int)) {n : Nat} (h1 : n ≤ (pathUp v N0 i).length) (h2 : n ≤ (pathUp v N0 k).length) :
    (cond (((decide (0 ≤ (n : Int)) && decide ((n : Int) ≤ (((pathUp v N0 i).length : Nat) : Int))) && decide ((((pathUp v N0 i).length : Nat) : Int) ≤ (((pathUp v N0 i).length : Nat) : Int))))
            ((spec_l05Nothing N0).bind fun r4 =>
              (spec_l05Along N0 v ((((pathUp v N0 i).drop (Int.toNat (n : Int))).take ((Int.toNat (((pathUp v N0 i).length : Nat) : Int)) - (Int.toNat (n : Int))))) (((r4.1.1.1.1.1, r4.1.1.1.1.2), (r4.1.1.1.2.1, r4.1.1.1.2.2))) day).bind fun r5 =>
              cond ((r5.1.2.1.1 != 0))
              (some ((((((0, 0), (0, 0)), ()), ((r5.1.2.1.1, ()), ())), ())))
              (cond (((decide (0 ≤ (n : Int)) && decide ((n : Int) ≤ (((pathUp v N0 k).length : Nat) : Int))) && decide ((((pathUp v N0 k).length : Nat) : Int) ≤ (((pathUp v N0 k).length : Nat) : Int))))
                ((spec_l05Nothing N0).bind fun r6 =>
                  (spec_l05Along N0 v ((((pathUp v N0 k).drop (Int.toNat (n : Int))).take ((Int.toNat (((pathUp v N0 k).length : Nat) : Int)) - (Int.toNat (n : Int))))) (((r6.1.1.1.1.1, r6.1.1.1.1.2), (r6.1.1.1.2.1, r6.1.1.1.2.2))) day).bind fun r7 =>
                  cond ((r7.1.2.1.1 != 0))
                  (some ((((((0, 0), (0, 0)), ()), ((r7.1.2.1.1, ()), ())), ())))
                  ((spec_l01Against N0 (((r5.1.1.1.1.1, r5.1.1.1.1.2), (r5.1.1.1.2.1, r5.1.1.1.2.2))) (((r7.1.1.1.1.1, r7.1.1.1.1.2), (r7.1.1.1.2.1, r7.1.1.1.2.2)))).bind fun r8 =>
                    cond ((r8.1.2.1.1 != 0))
                    (some ((((((r8.1.1.1.1.1, r8.1.1.1.1.2), (r8.1.1.1.2.1, r8.1.1.1.2.2)), ()), ((r8.1.2.1.1, ()), ())), ())))
                    (cond (((n : Int) == 0))
                      (some ((((((r8.1.1.1.1.1, r8.1.1.1.1.2), (r8.1.1.1.2.1, r8.1.1.1.2.2)), ()), ((r8.1.2.1.1, ()), ())), ())))
                      (cond (((decide (0 ≤ (n : Int)) && decide ((n : Int) ≤ (((pathUp v N0 i).length : Nat) : Int))) && decide ((((pathUp v N0 i).length : Nat) : Int) ≤ (((pathUp v N0 i).length : Nat) : Int))))
                        ((spec_l05Begin N0 v ((((pathUp v N0 i).drop (Int.toNat (n : Int))).take ((Int.toNat (((pathUp v N0 i).length : Nat) : Int)) - (Int.toNat (n : Int))))) day).bind fun r9 =>
                          cond (((decide (0 ≤ (n : Int)) && decide ((n : Int) ≤ (((pathUp v N0 k).length : Nat) : Int))) && decide ((((pathUp v N0 k).length : Nat) : Int) ≤ (((pathUp v N0 k).length : Nat) : Int))))
                          ((spec_l05Begin N0 v ((((pathUp v N0 k).drop (Int.toNat (n : Int))).take ((Int.toNat (((pathUp v N0 k).length : Nat) : Int)) - (Int.toNat (n : Int))))) day).bind fun r10 =>
                            (spec_l01Abs N0 ((IntKind.wrap .i64 (r9.1.1.1 - r10.1.1.1)))).bind fun r11 =>
                            cond ((decide (0 ≤ (IntKind.wrap .i64 ((n : Int) - 1))) && decide ((IntKind.wrap .i64 ((n : Int) - 1)) < (((pathUp v N0 i).length : Nat) : Int))))
                            (cond ((decide (0 ≤ ((pathUp v N0 i).getD (Int.toNat (IntKind.wrap .i64 ((n : Int) - 1))) 0)) && decide (((pathUp v N0 i).getD (Int.toNat (IntKind.wrap .i64 ((n : Int) - 1))) 0) < ((v.length : Nat) : Int))))
                              ((spec_l05Wider N0 (((r8.1.1.1.1.1, r8.1.1.1.1.2), (r8.1.1.1.2.1, r8.1.1.1.2.2))) (((v.getD (Int.toNat ((pathUp v N0 i).getD (Int.toNat (IntKind.wrap .i64 ((n : Int) - 1))) 0)) ((ByteArray.mk #[]), (0, (((0, 0), (0, 0)), ((0, 0), (0, 0)))))).2.2.2.1.1, (v.getD (Int.toNat ((pathUp v N0 i).getD (Int.toNat (IntKind.wrap .i64 ((n : Int) - 1))) 0)) ((ByteArray.mk #[]), (0, (((0, 0), (0, 0)), ((0, 0), (0, 0)))))).2.2.2.1.2)) r11.1.1.1).bind fun r12 =>
                                some ((((((r12.1.1.1.1.1, r12.1.1.1.1.2), (r12.1.1.1.2.1, r12.1.1.1.2.2)), ()), ((r12.1.2.1.1, ()), ())), ())))
                              (none))
                            (none))
                          (none))
                        (none)))))
                (none)))
            (none)) = diffOut v day (pathUp v N0 i) (pathUp v N0 k) n := by
  have hP := path_in hc N0 i hi.2
  have hQ := path_in hc N0 k hk.2
  have lP := path_le hc hi hd
  have lQ := path_le hc hk hd
  have hday := isDay_bd hd
  have bA := alongG_bd' v day ((pathUp v N0 i).drop n) s0 s0_bd
  have bB := alongG_bd' v day ((pathUp v N0 k).drop n) s0 s0_bd
  have dP := drop_in hc hday hP lP n
  have dQ := drop_in hc hday hQ lQ n
  have b1 := begDay_bd hc hd (l := (pathUp v N0 i).drop n) (fun y hy => hP y (List.mem_of_mem_drop hy))
  have b2 := begDay_bd hc hd (l := (pathUp v N0 k).drop n) (fun y hy => hQ y (List.mem_of_mem_drop hy))
  simp only [drop_all hc hday hP lP, drop_all hc hday hQ lQ, spec_begin_is hc hday hP lP n h1, spec_begin_is hc hday hQ lQ n h2, spec_l05Nothing, spec_l05Nothing_t, spec_l01Whole_is, Option.bind_some, nn_t, dec_t (p := (n : Int) ≤ (((pathUp v N0 i).length : Nat) : Int)) (by omega), dec_t (p := (n : Int) ≤ (((pathUp v N0 k).length : Nat) : Int)) (by omega), dec_t (p := (((pathUp v N0 k).length : Nat) : Int) ≤ (((pathUp v N0 k).length : Nat) : Int)) (by omega), dec_t (p := (((pathUp v N0 i).length : Nat) : Int) ≤ (((pathUp v N0 i).length : Nat) : Int)) (by omega), Bool.and_self, cond_true, pr_eta]
  rw [spec_along_is hc hday dP.1 dP.2 s0 s0_bd, spec_along_is hc hday dQ.1 dQ.2 s0 s0_bd]
  unfold diffOut diffE
  cases hA : (alongG v day ((pathUp v N0 i).drop n) s0).2 with
  | true => rfl
  | false =>
    cases hB : (alongG v day ((pathUp v N0 k).drop n) s0).2 with
    | true => rfl
    | false =>
      simp only [cond_false, Option.bind_some, bne_self_eq_false, Bool.false_or]
      rw [spec_l01Against_is bA bB]
      cases hM : minE (alongG v day ((pathUp v N0 i).drop n) s0).1 (alongG v day ((pathUp v N0 k).drop n) s0).1 with
      | true => rfl
      | false =>
        simp only [cond_false, Option.bind_some, bne_self_eq_false]
        by_cases hn : n = 0
        · subst hn
          rfl
        · have hlt : n - 1 < (pathUp v N0 i).length := by omega
          have hin := hP _ (List.getElem_mem hlt)
          have hx := std_bd (chain_at hc hin).1
          have hg : (pathUp v N0 i).getD (n - 1) 0 = (pathUp v N0 i)[n - 1] := get_ix hlt 0
          rw [eq_f (a := (n : Int)) (b := 0) (by omega), cond_false, show Nat.beq n 0 = false by cases n with | zero => exact absurd rfl hn | succ m => rfl, cond_false]
          rw [w_in (x := begDay v day ((pathUp v N0 i).drop n) - begDay v day ((pathUp v N0 k).drop n)) (by unfold I64; omega), spec_l01Abs_is N0 (by omega), Option.bind_some]
          dsimp only
          rw [show IntKind.wrap .i64 ((n : Int) - 1) = ((n - 1 : Nat) : Int) by rw [w_in (by unfold I64; omega)]; omega]
          rw [in_t hlt, cond_true, Int.toNat_natCast, hg, dec_t hin.1, dec_t hin.2, Bool.and_self, cond_true]
          rw [show (v.getD (pathUp v N0 i)[n - 1].toNat ((ByteArray.mk #[]), (0, (((0, 0), (0, 0)), ((0, 0), (0, 0)))))) = v.getD (pathUp v N0 i)[n - 1].toNat dStd from rfl]
          rw [spec_l05Wider_is (minV_bd _ _) hx.2.2.1 (by omega)]
          unfold drD
          rw [hg]
          cases ((fmul (v.getD (pathUp v N0 i)[n - 1].toNat dStd).2.2.2.1 (daysD v day (pathUp v N0 i) (pathUp v N0 k) n, 1)).isNone || ((fsub (diffV v day (pathUp v N0 i) (pathUp v N0 k) n).1 (val (fmul (v.getD (pathUp v N0 i)[n - 1].toNat dStd).2.2.2.1 (daysD v day (pathUp v N0 i) (pathUp v N0 k) n, 1)))).isNone || (fadd (diffV v day (pathUp v N0 i) (pathUp v N0 k) n).2 (val (fmul (v.getD (pathUp v N0 i)[n - 1].toNat dStd).2.2.2.1 (daysD v day (pathUp v N0 i) (pathUp v N0 k) n, 1)))).isNone)) <;> rfl

theorem spec_diff_l6_is {i k : Int} (hi : 0 ≤ i ∧ i < (v.length : Int)) (hk : 0 ≤ k ∧ k < (v.length : Int)) (z0 z1 z2 z3 : Int) : ∀ (f n : Nat), n ≤ (pathUp v N0 i).length → n ≤ (pathUp v N0 k).length → (pathUp v N0 i).length - n < f →
    spec_l05Difference_l6 N0 f (n : Int) v day z0 z1 z2 z3 (pathUp v N0 i) (pathUp v N0 k) = diffOut v day (pathUp v N0 i) (pathUp v N0 k) (n + comLen ((pathUp v N0 i).drop n) ((pathUp v N0 k).drop n))
  | 0, n, _, _, hf => by omega
  | f + 1, n, h1, h2, hf => by
    have lP := path_le hc hi hd
    have ht := spec_tail_is hc hd hi hk h1 h2
    simp only [spec_l05Difference_l6, spec_l05Difference_t6]
    by_cases hp : n < (pathUp v N0 i).length
    · by_cases hq : n < (pathUp v N0 k).length
      · rw [in_t hp, in_t hq, lt_t hp, lt_t hq]
        rw [cond_true, cond_true, cond_true, cond_true, Int.toNat_natCast, get_ix hp, get_ix hq, w_succ (i := n) (by omega)]
        rw [drop_ix hp, drop_ix hq, comLen]
        by_cases he : (pathUp v N0 i)[n] = (pathUp v N0 k)[n]
        · rw [eq_t he, cond_true, cond_true, spec_diff_l6_is hi hk z0 z1 z2 z3 f (n + 1) hp hq (by omega)]
          congr 1
          omega
        · rw [eq_f he, cond_false, cond_false, Nat.add_zero]
          rw [← drop_ix hp, ← drop_ix hq]
          exact ht
      · rw [lt_t hp, lt_f hq, cond_true, cond_false]
        rw [show comLen ((pathUp v N0 i).drop n) ((pathUp v N0 k).drop n) = 0 by rw [List.drop_eq_nil_of_le (Nat.le_of_not_lt hq)]; cases (pathUp v N0 i).drop n <;> rfl, Nat.add_zero]
        exact ht
    · rw [lt_f hp, cond_false]
      rw [show comLen ((pathUp v N0 i).drop n) ((pathUp v N0 k).drop n) = 0 by rw [List.drop_eq_nil_of_le (Nat.le_of_not_lt hp)]; cases (pathUp v N0 k).drop n <;> rfl, Nat.add_zero]
      exact ht
end
end Go.Abs
