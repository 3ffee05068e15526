/- Fractions reckoned: the program's calc and the reference's functions. -/
import Derived.Test.YtpamckmeeamjjaaGreatDoorDPFracs0
import Derived.Test.YtpamckmeeamjjaaGreatDoorPrims
import Derived.Test.YtpamckmeeamjjaaGreatDoorIx
namespace Go.Abs
set_option linter.unusedSectionVars false
set_option linter.unusedSimpArgs false
set_option linter.unusedVariables false

abbrev Fq : Type := Int × Int
/-- parts within the bounds of a valid fraction -/
def Bd (a : Fq) : Prop := (1 ≤ a.2 ∧ a.2 ≤ 1000000000) ∧ (-1000000000 ≤ a.1 ∧ a.1 ≤ 1000000000)
theorem Bd.of {a : Fq} (h : vF a = true) : Bd a := vF_bd h
theorem Bd.zero : Bd (0, 1) := by unfold Bd; decide
theorem Bd.num {n : Int} (h : -1000000000 ≤ n ∧ n ≤ 1000000000) : Bd (n, 1) := ⟨⟨show (1 : Int) ≤ 1 by decide, show (1 : Int) ≤ 1000000000 by decide⟩, h⟩
theorem Bd.mk {p q : Int} : Bd ((mkF p q).getD (0, 1)) := by
  cases h : mkF p q with
  | none => exact Bd.zero
  | some a => exact Bd.of (mkF_valid h)

def fadd (a b : Fq) : Option Fq := mkF (a.1 * b.2 + b.1 * a.2) (a.2 * b.2)
def fsub (a b : Fq) : Option Fq := mkF (a.1 * b.2 - b.1 * a.2) (a.2 * b.2)
def fmul (a b : Fq) : Option Fq := mkF (a.1 * b.1) (a.2 * b.2)
def fdiv (a b : Fq) : Option Fq := mkF (a.1 * b.2) (a.2 * b.1)
/-- what the program goes on with -/
abbrev val (o : Option Fq) : Fq := o.getD (0, 1)

theorem Bd.add {a b : Fq} : Bd (val (fadd a b)) := Bd.mk
theorem Bd.sub {a b : Fq} : Bd (val (fsub a b)) := Bd.mk
theorem Bd.mul {a b : Fq} : Bd (val (fmul a b)) := Bd.mk
theorem Bd.div {a b : Fq} : Bd (val (fdiv a b)) := Bd.mk

section
variable {a b : Fq} (ha : Bd a) (hb : Bd b)
include ha hb
theorem bd_pq : -1000000000000000000 ≤ a.1 * b.2 ∧ a.1 * b.2 ≤ 1000000000000000000 := mul_bd (A := 1000000000) (B := 1000000000) ha.2 (by have := hb.1; omega)
theorem bd_pp : -1000000000000000000 ≤ a.1 * b.1 ∧ a.1 * b.1 ≤ 1000000000000000000 := mul_bd (A := 1000000000) (B := 1000000000) ha.2 hb.2
theorem bd_qq : 1 ≤ a.2 * b.2 ∧ a.2 * b.2 ≤ 1000000000000000000 := by
  have h1 := ha.1
  have h2 := hb.1
  have := mul_pos_bd (a := a.2) (b := b.2) (A := 1000000000) (B := 1000000000) (by omega) (by omega)
  have h3 : 0 < a.2 * b.2 := Int.mul_pos (by omega) (by omega)
  omega

theorem impl_calc_add_is (c : Bool) : impl_calc_add N0 a b c = c1 (val (fadd a b)) (c || (fadd a b).isNone) := by
  have h1 := bd_pq ha hb
  have h2 := bd_pq hb ha
  have h3 := bd_qq ha hb
  simp only [impl_calc_add, impl_calc_add_t, w_in (x := a.1 * b.2) (by unfold I64; omega), w_in (x := b.1 * a.2) (by unfold I64; omega), w_in (x := a.2 * b.2) (by unfold I64; omega), w_in (x := a.1 * b.2 + b.1 * a.2) (by unfold I64; omega)]
  rw [impl_calc_told_is c (by unfold small; omega) (by unfold small; omega) (by omega)]
  rfl

theorem impl_calc_sub_is (c : Bool) : impl_calc_sub N0 a b c = c1 (val (fsub a b)) (c || (fsub a b).isNone) := by
  have h1 := bd_pq ha hb
  have h2 := bd_pq hb ha
  have h3 := bd_qq ha hb
  simp only [impl_calc_sub, impl_calc_sub_t, w_in (x := a.1 * b.2) (by unfold I64; omega), w_in (x := b.1 * a.2) (by unfold I64; omega), w_in (x := a.2 * b.2) (by unfold I64; omega), w_in (x := a.1 * b.2 - b.1 * a.2) (by unfold I64; omega)]
  rw [impl_calc_told_is c (by unfold small; omega) (by unfold small; omega) (by omega)]
  rfl

theorem spec_l01Add_is : spec_l01Add N0 a b = r2 ((fadd a b).getD (0, 0)) (bif (fadd a b).isSome then 0 else 3) := by
  have h1 := bd_pq ha hb
  have h2 := bd_pq hb ha
  have h3 := bd_qq ha hb
  simp only [spec_l01Add, spec_l01Add_t, w_in (x := a.1 * b.2) (by unfold I64; omega), w_in (x := b.1 * a.2) (by unfold I64; omega), w_in (x := a.2 * b.2) (by unfold I64; omega), w_in (x := a.1 * b.2 + b.1 * a.2) (by unfold I64; omega)]
  rw [spec_l01Reduced_is (by unfold small; omega) (by unfold small; omega) (by omega)]
  rfl

omit hb in
theorem Bd.neg : Bd (-a.1, a.2) := ⟨ha.1, by have := ha.2; simp only; omega⟩

omit hb in
theorem spec_l01Neg_is : spec_l01Neg N0 a = r1 (-a.1, a.2) := by
  have := ha.2
  simp only [spec_l01Neg, spec_l01Neg_t, w_neg (p := a.1) (by unfold small; omega)]

theorem fadd_neg : fadd a (-b.1, b.2) = fsub a b := by
  unfold fadd fsub
  simp only [Int.neg_mul, Int.sub_eq_add_neg]

theorem spec_l01Sub_is : spec_l01Sub N0 a b = r2 ((fsub a b).getD (0, 0)) (bif (fsub a b).isSome then 0 else 3) := by
  simp only [spec_l01Sub, spec_l01Sub_t, pr_eta, spec_l01Neg_is hb, Option.bind_some]
  rw [spec_l01Add_is ha (Bd.neg hb), fadd_neg ha hb]
  rfl

theorem bd_pq' (h0 : b.1 ≠ 0) : (a.2 * b.1 ≠ 0) ∧ -1000000000000000000 ≤ a.2 * b.1 ∧ a.2 * b.1 ≤ 1000000000000000000 := by
  have h1 := ha.1
  exact ⟨Int.mul_ne_zero (by omega) h0, mul_bd (A := 1000000000) (B := 1000000000) (by omega) hb.2⟩

theorem impl_calc_div_is (c : Bool) (h0 : b.1 ≠ 0) : impl_calc_div N0 a b c = c1 (val (fdiv a b)) (c || (fdiv a b).isNone) := by
  have h1 := bd_pq ha hb
  have h3 := bd_pq' ha hb h0
  simp only [impl_calc_div, impl_calc_div_t, eq_f h0, cond_false, w_in (x := a.1 * b.2) (by unfold I64; omega), w_in (x := a.2 * b.1) (by unfold I64; omega)]
  rw [impl_calc_told_is c (by unfold small; omega) (by unfold small; omega) (by omega)]
  rfl

theorem spec_l01Div_is (h0 : b.1 ≠ 0) : spec_l01Div N0 a b = r2 ((fdiv a b).getD (0, 0)) (bif (fdiv a b).isSome then 0 else 3) := by
  have h1 := bd_pq ha hb
  have h3 := bd_pq' ha hb h0
  simp only [spec_l01Div, spec_l01Div_t, w_in (x := a.1 * b.2) (by unfold I64; omega), w_in (x := a.2 * b.1) (by unfold I64; omega)]
  rw [spec_l01Reduced_is (by unfold small; omega) (by unfold small; omega) (by omega)]
  rfl
end

/-! ### sums -/
/-- the program's sum: its value, and whether something was not valid -/
def gsum : Fq → List Fq → Fq × Bool
  | v, [] => (v, false)
  | v, x :: r => ((gsum (val (fadd v x)) r).1, (fadd v x).isNone || (gsum (val (fadd v x)) r).2)
/-- the sum, if all is valid -/
def fsum : Fq → List Fq → Option Fq
  | v, [] => some v
  | v, x :: r => match fadd v x with
    | some y => fsum y r
    | none => none

theorem gsum_fsum : ∀ (l : List Fq) (v : Fq), (gsum v l).2 = (fsum v l).isNone ∧ ∀ a, fsum v l = some a → (gsum v l).1 = a
  | [], v => ⟨rfl, fun a h => by injection h⟩
  | x :: r, v => by
    simp only [gsum, fsum]
    cases h : fadd v x with
    | none => exact ⟨rfl, fun a h => by cases h⟩
    | some y => exact gsum_fsum r y

theorem gsum_bd : ∀ (l : List Fq) {v : Fq}, Bd v → Bd (gsum v l).1
  | [], v, h => h
  | x :: r, v, h => gsum_bd r Bd.add

theorem fsum_bd : ∀ (l : List Fq) {v a : Fq}, Bd v → fsum v l = some a → Bd a
  | [], v, a, h, e => by injection e with e; exact e ▸ h
  | x :: r, v, a, h, e => by
    simp only [fsum] at e
    cases h1 : fadd v x with
    | none => rw [h1] at e; cases e
    | some y => rw [h1] at e; exact fsum_bd r (Bd.of (mkF_valid h1)) e

theorem impl_calc_sum_l3_is (l : List Fq) (hb : l.length ≤ 9223372036854775807) (hl : ∀ x ∈ l, Bd x) (z : Fq) : ∀ (k i : Nat) (v : Fq) (c : Bool), i ≤ l.length → l.length - i < k → Bd v →
    impl_calc_sum_l3 N0 k (i : Int) l (l.length : Int) c v.1 v.2 z.1 z.2 = c1 (gsum v (l.drop i)).1 (c || (gsum v (l.drop i)).2)
  | 0, i, v, c, _, hk, _ => by omega
  | k + 1, i, v, c, hi, hk, hv => by
    simp only [impl_calc_sum_l3, impl_calc_sum_t3]
    by_cases h : i < l.length
    · simp only [lt_t h, nn_t, Bool.and_self, cond_true, Int.toNat_natCast, get_ix h, w_succ (i := i) (by omega), pr_eta, impl_calc_add_is hv (hl _ (List.getElem_mem h)), Option.bind_some]
      rw [drop_ix h, gsum, impl_calc_sum_l3_is l hb hl z k (i + 1) _ _ h (by omega) Bd.add, Bool.or_assoc]
    · have : i = l.length := by omega
      subst this
      simp only [lt_f h, cond_false, List.drop_length, gsum, Bool.or_false]

theorem impl_calc_sum_is (l : List Fq) (hb : l.length ≤ 9223372036854775807) (hl : ∀ x ∈ l, Bd x) (c : Bool) : impl_calc_sum N0 l c = c1 (gsum (0, 1) l).1 (c || (gsum (0, 1) l).2) := by
  have := N0_big
  simp only [impl_calc_sum, impl_calc_sum_t, impl_zero_is, Option.bind_some]
  exact impl_calc_sum_l3_is l hb hl (0, 0) N0 0 (0, 1) c (by omega) (by omega) Bd.zero

theorem spec_l01Sum_l3_is (l : List Fq) (hb : l.length ≤ 9223372036854775807) (hl : ∀ x ∈ l, Bd x) (z : Fq) : ∀ (k i : Nat) (v : Fq), i ≤ l.length → l.length - i < k → Bd v →
    spec_l01Sum_l3 N0 k (i : Int) l z.1 z.2 v.1 v.2 = r2 ((fsum v (l.drop i)).getD (0, 0)) (bif (fsum v (l.drop i)).isSome then 0 else 3)
  | 0, i, v, _, hk, _ => by omega
  | k + 1, i, v, hi, hk, hv => by
    simp only [spec_l01Sum_l3, spec_l01Sum_t3]
    by_cases h : i < l.length
    · simp only [lt_t h, nn_t, Bool.and_self, cond_true, Int.toNat_natCast, get_ix h, w_succ (i := i) (by omega), pr_eta, spec_l01Add_is hv (hl _ (List.getElem_mem h)), Option.bind_some]
      rw [drop_ix h, fsum]
      cases h1 : fadd v l[i] with
      | none => rfl
      | some y => exact spec_l01Sum_l3_is l hb hl z k (i + 1) y h (by omega) (Bd.of (mkF_valid h1))
    · have : i = l.length := by omega
      subst this
      simp only [lt_f h, cond_false, List.drop_length, fsum]
      rfl

theorem spec_l01Whole_is (n : Nat) (x : Int) : spec_l01Whole n x = r1 (x, 1) := rfl
theorem impl_num_is (n : Nat) (x : Int) : impl_num n x = r1 (x, 1) := rfl

theorem spec_l01Sum_is (l : List Fq) (hb : l.length ≤ 9223372036854775807) (hl : ∀ x ∈ l, Bd x) : spec_l01Sum N0 l = r2 ((fsum (0, 1) l).getD (0, 0)) (bif (fsum (0, 1) l).isSome then 0 else 3) := by
  have := N0_big
  simp only [spec_l01Sum, spec_l01Sum_t, spec_l01Whole_is, Option.bind_some]
  exact spec_l01Sum_l3_is l hb hl (0, 0) N0 0 (0, 1) (by omega) (by omega) Bd.zero

/-! ### lists of fractions that are valid -/
theorem cq_areValid_1_is (a : Fq) : impl_areValid_1 N0 a = r1 (!vF a) := by
  simp only [impl_areValid_1, impl_areValid_1_t, pr_eta, impl_ValidFrac_is, Option.bind_some]

theorem cq_areValid_is (l : List Fq) (hb : l.length ≤ 9223372036854775807) : impl_areValid N0 l = r1 (l.all vF) := by
  simp only [impl_areValid, impl_areValid_t, slices_ContainsFunc_impl_Frac_impl_Frac_at_impl_areValid_1, slices_ContainsFunc_impl_Frac_impl_Frac_at_impl_areValid_1_t, slices_IndexFunc_impl_Frac_impl_Frac_at_impl_areValid_1, slices_IndexFunc_impl_Frac_impl_Frac_at_impl_areValid_1_t]
  rw [idx_all (L := slices_IndexFunc_impl_Frac_impl_Frac_at_impl_areValid_1_l2 N0) (d := (0, 0)) (fun x => !vF x) cq_areValid_1_is (fun _ _ _ _ => rfl) l hb]
  simp only [Option.bind_some, fIdx_any, any_notP, Bool.not_not]

theorem all_bd {l : List Fq} (h : l.all vF = true) : ∀ x ∈ l, Bd x := fun x hx => Bd.of (List.all_eq_true.1 h x hx)
end Go.Abs
