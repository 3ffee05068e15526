/- The span of a difference: both sides' tails, loops, functions. -/
import Derived.Test.YtpegljncdjkhgaaDiffP
namespace Go.Abs
set_option linter.unusedSectionVars false
set_option linter.unusedSimpArgs false
set_option linter.unusedVariables false

theorem alongG_bd' (v : List Std) (day : Int) : ∀ (l : List Int) (s : Spn), Bd s.1 ∧ Bd s.2 → Bd (alongG v day l s).1.1 ∧ Bd (alongG v day l s).1.2
  | [], s, h => h
  | i :: r, s, h => alongG_bd' v day r _ (stepV_bd _ _ _)

theorem minV_bd (s t : Spn) : Bd (minV s t).1 ∧ Bd (minV s t).2 := ⟨Bd.sub, Bd.sub⟩

abbrev OutS : Type := Option (((Spn × Unit) × ((Int × Unit) × Unit)) × Unit)

/-- both parts behind the place where the paths part; the days between -/
abbrev daysD (v : List Std) (day : Int) (P Q : List Int) (n : Nat) : Int := ((begDay v day (P.drop n) - begDay v day (Q.drop n)).natAbs : Nat)
abbrev drD (v : List Std) (day : Int) (P Q : List Int) (n : Nat) : Option Fq := fmul (v.getD (P.getD (n - 1) 0).toNat dStd).2.2.2.1 (daysD v day P Q n, 1)
abbrev diffV (v : List Std) (day : Int) (P Q : List Int) (n : Nat) : Spn := minV (alongG v day (P.drop n) s0).1 (alongG v day (Q.drop n) s0).1
abbrev diffE (v : List Std) (day : Int) (P Q : List Int) (n : Nat) : Bool := ((alongG v day (P.drop n) s0).2 || (alongG v day (Q.drop n) s0).2) || minE (alongG v day (P.drop n) s0).1 (alongG v day (Q.drop n) s0).1
def diffOut (v : List Std) (day : Int) (P Q : List Int) (n : Nat) : OutS :=
  bif diffE v day P Q n then r2 ((0, 0), (0, 0)) 3 else
  bif Nat.beq n 0 then r2 (diffV v day P Q n) 0 else
  bif (drD v day P Q n).isNone || ((fsub (diffV v day P Q n).1 (val (drD v day P Q n))).isNone || (fadd (diffV v day P Q n).2 (val (drD v day P Q n))).isNone) then r2 ((0, 0), (0, 0)) 3
  else r2 (val (fsub (diffV v day P Q n).1 (val (drD v day P Q n))), val (fadd (diffV v day P Q n).2 (val (drD v day P Q n)))) 0

theorem max_abs {a b : Int} (h : I64 (a - b)) (h' : I64 (b - a)) : (if IntKind.wrap .i64 (a - b) < IntKind.wrap .i64 (b - a) then IntKind.wrap .i64 (b - a) else IntKind.wrap .i64 (a - b)) = (((a - b).natAbs : Nat) : Int) := by
  rw [w_in h, w_in h']
  split <;> omega

section
variable {v : List Std} (hc : chainOk v = true) {day : Int} (hd : isDay day = true)
include hc hd

theorem begDay_bd {l : List Int} (hl : ∀ y ∈ l, 0 ≤ y ∧ y < (v.length : Int)) : 0 ≤ begDay v day l ∧ begDay v day l ≤ 100000 := by
  cases l with
  | nil => exact isDay_bd hd
  | cons i r => exact (std_bd (chain_at hc (hl i (by simp))).1).2.2.2

theorem impl_tail_is {i k : Int} (hi : 0 ≤ i ∧ i < (v.length : Int)) (hk : 0 ≤ k ∧ k < (v.length : Int)) (hne : i ≠ k) {n : Nat} (h1 : n ≤ (pathUp v N0 i).length) (h2 : n ≤ (pathUp v N0 k).length) :
    (cond ((i == k))
      ((impl_none N0).bind fun r5 =>
        some ((((((r5.1.1.1.1.1, r5.1.1.1.1.2), (r5.1.1.1.2.1, r5.1.1.1.2.2)), ()), ((0, ()), ())), ())))
      (cond (((n : Int) == 0))
        ((impl_calc_spanOn N0 v i day false).bind fun r6 =>
          (impl_calc_spanOn N0 v k day r6.2.1).bind fun r7 =>
          (impl_calc_minus N0 (((r6.1.1.1.1.1, r6.1.1.1.1.2), (r6.1.1.1.2.1, r6.1.1.1.2.2))) (((r7.1.1.1.1.1, r7.1.1.1.1.2), (r7.1.1.1.2.1, r7.1.1.1.2.2))) r7.2.1).bind fun r8 =>
          (impl_calc_span N0 (((r8.1.1.1.1.1, r8.1.1.1.1.2), (r8.1.1.1.2.1, r8.1.1.1.2.2))) r8.2.1).bind fun r9 =>
          some ((((((r9.1.1.1.1.1, r9.1.1.1.1.2), (r9.1.1.1.2.1, r9.1.1.1.2.2)), ()), ((r9.1.2.1.1, ()), ())), ())))
        ((impl_DifferenceOn_1 N0 (pathUp v N0 i) (n : Int) day v false).bind fun r10 =>
          (impl_DifferenceOn_1 N0 (pathUp v N0 k) r10.2.2.1 r10.2.2.2.1 r10.2.2.2.2.2.1 r10.2.2.2.2.2.2.1).bind fun r11 =>
          (impl_calc_minus N0 (((r10.1.1.1.1.1, r10.1.1.1.1.2), (r10.1.1.1.2.1, r10.1.1.1.2.2))) (((r11.1.1.1.1.1, r11.1.1.1.1.2), (r11.1.1.1.2.1, r11.1.1.1.2.2))) r11.2.2.2.2.2.2.1).bind fun r12 =>
          cond ((decide (0 ≤ (IntKind.wrap .i64 (r11.2.2.1 - 1))) && decide ((IntKind.wrap .i64 (r11.2.2.1 - 1)) < ((r10.2.1.length : Nat) : Int))))
          (cond ((decide (0 ≤ (r10.2.1.getD (Int.toNat (IntKind.wrap .i64 (r11.2.2.1 - 1))) 0)) && decide ((r10.2.1.getD (Int.toNat (IntKind.wrap .i64 (r11.2.2.1 - 1))) 0) < ((r11.2.2.2.2.2.1.length : Nat) : Int))))
            ((impl_num N0 ((if (IntKind.wrap .i64 (r10.1.2.1.1 - r11.1.2.1.1)) < (IntKind.wrap .i64 (r11.1.2.1.1 - r10.1.2.1.1)) then (IntKind.wrap .i64 (r11.1.2.1.1 - r10.1.2.1.1)) else (IntKind.wrap .i64 (r10.1.2.1.1 - r11.1.2.1.1))))).bind fun r13 =>
              (impl_calc_mul N0 (((r11.2.2.2.2.2.1.getD (Int.toNat (r10.2.1.getD (Int.toNat (IntKind.wrap .i64 (r11.2.2.1 - 1))) 0)) ((ByteArray.mk #[]), (0, (((0, 0), (0, 0)), ((0, 0), (0, 0)))))).2.2.2.1.1, (r11.2.2.2.2.2.1.getD (Int.toNat (r10.2.1.getD (Int.toNat (IntKind.wrap .i64 (r11.2.2.1 - 1))) 0)) ((ByteArray.mk #[]), (0, (((0, 0), (0, 0)), ((0, 0), (0, 0)))))).2.2.2.1.2)) ((r13.1.1.1.1, r13.1.1.1.2)) r12.2.1).bind fun r14 =>
              (impl_calc_widen N0 (((r12.1.1.1.1.1, r12.1.1.1.1.2), (r12.1.1.1.2.1, r12.1.1.1.2.2))) ((r14.1.1.1.1, r14.1.1.1.2)) r14.2.1).bind fun r15 =>
              (impl_calc_span N0 (((r15.1.1.1.1.1, r15.1.1.1.1.2), (r15.1.1.1.2.1, r15.1.1.1.2.2))) r15.2.1).bind fun r16 =>
              some ((((((r16.1.1.1.1.1, r16.1.1.1.1.2), (r16.1.1.1.2.1, r16.1.1.1.2.2)), ()), ((r16.1.2.1.1, ()), ())), ())))
            (none))
          (none)))) = diffOut v day (pathUp v N0 i) (pathUp v N0 k) n := by
  have hP := path_in hc N0 i hi.2
  have hQ := path_in hc N0 k hk.2
  have lP := path_le hc hi hd
  have lQ := path_le hc hk hd
  have hday := isDay_bd hd
  have bA := alongG_bd' v day ((pathUp v N0 i).drop n) s0 s0_bd
  have bB := alongG_bd' v day ((pathUp v N0 k).drop n) s0 s0_bd
  rw [eq_f hne, cond_false]
  by_cases hn : n = 0
  · subst hn
    rw [eq_t (a := ((0 : Nat) : Int)) (b := 0) rfl, cond_true, impl_spanOn_is hc hi hd, Option.bind_some]
    dsimp only
    rw [impl_spanOn_is hc hk hd, Option.bind_some]
    dsimp only
    rw [List.drop_zero] at bA bB
    rw [impl_calc_minus_is bA bB, Option.bind_some]
    simp only [impl_calc_span, impl_calc_span_t, Bool.false_or]
    unfold diffOut diffE diffV
    rw [List.drop_zero, List.drop_zero]
    cases (((alongG v day (pathUp v N0 i) s0).2 || (alongG v day (pathUp v N0 k) s0).2) || minE (alongG v day (pathUp v N0 i) s0).1 (alongG v day (pathUp v N0 k) s0).1) <;> rfl
  · rw [eq_f (a := (n : Int)) (b := 0) (by omega), cond_false, behind_is hc hday hP lP h1, Option.bind_some]
    dsimp only
    rw [behind_is hc hday hQ lQ h2, Option.bind_some]
    dsimp only
    rw [impl_calc_minus_is bA bB, Option.bind_some]
    have hlt : n - 1 < (pathUp v N0 i).length := by omega
    have hin := hP _ (List.getElem_mem hlt)
    have hx := std_bd (chain_at hc hin).1
    have b1 := begDay_bd hc hd (l := (pathUp v N0 i).drop n) (fun y hy => hP y (List.mem_of_mem_drop hy))
    have b2 := begDay_bd hc hd (l := (pathUp v N0 k).drop n) (fun y hy => hQ y (List.mem_of_mem_drop hy))
    have hg : (pathUp v N0 i).getD (n - 1) 0 = (pathUp v N0 i)[n - 1] := get_ix hlt 0
    rw [show IntKind.wrap .i64 ((n : Int) - 1) = ((n - 1 : Nat) : Int) by rw [w_in (by unfold I64; omega)]; omega]
    dsimp only
    rw [in_t hlt, cond_true, Int.toNat_natCast, hg, dec_t hin.1, dec_t hin.2, max_abs (by unfold I64; omega) (by unfold I64; omega), impl_num_is, Option.bind_some]
    dsimp only
    rw [Bool.and_self, cond_true]
    rw [show (v.getD (pathUp v N0 i)[n - 1].toNat ((ByteArray.mk #[]), (0, (((0, 0), (0, 0)), ((0, 0), (0, 0)))))) = v.getD (pathUp v N0 i)[n - 1].toNat dStd from rfl]
    simp only [pr_eta]
    rw [impl_calc_mul_is hx.2.2.1 (Bd.num (by omega)), Option.bind_some]
    dsimp only
    rw [impl_calc_widen_is (minV_bd _ _) Bd.mul, Option.bind_some]
    simp only [impl_calc_span, impl_calc_span_t, Bool.false_or]
    unfold diffOut diffE drD
    rw [hg, show Nat.beq n 0 = false by cases n with | zero => exact absurd rfl hn | succ m => rfl]
    generalize hE : (((alongG v day ((pathUp v N0 i).drop n) s0).2 || (alongG v day ((pathUp v N0 k).drop n) s0).2) || minE (alongG v day ((pathUp v N0 i).drop n) s0).1 (alongG v day ((pathUp v N0 k).drop n) s0).1) = e
    cases e with
    | true => rfl
    | false =>
      rw [Bool.false_or, Bool.or_assoc]
      cases ((fmul (v.getD (pathUp v N0 i)[n - 1].toNat dStd).2.2.2.1 (daysD v day (pathUp v N0 i) (pathUp v N0 k) n, 1)).isNone || ((fsub (diffV v day (pathUp v N0 i) (pathUp v N0 k) n).1 (val (fmul (v.getD (pathUp v N0 i)[n - 1].toNat dStd).2.2.2.1 (daysD v day (pathUp v N0 i) (pathUp v N0 k) n, 1)))).isNone || (fadd (diffV v day (pathUp v N0 i) (pathUp v N0 k) n).2 (val (fmul (v.getD (pathUp v N0 i)[n - 1].toNat dStd).2.2.2.1 (daysD v day (pathUp v N0 i) (pathUp v N0 k) n, 1)))).isNone)) <;> rfl
end
end Go.Abs
