/- Differences of standards: common parts of two paths, the span of a difference. -/
import Derived.Test.YtpegljncdjkhgaaChainA
namespace Go.Abs
set_option linter.unusedSectionVars false
set_option linter.unusedSimpArgs false
set_option linter.unusedVariables false

/-- how many members two lists have alike from the front -/
def comLen : List Int → List Int → Nat
  | x :: r, y :: s => bif x == y then comLen r s + 1 else 0
  | _, _ => 0

theorem comLen_le : ∀ (a b : List Int), comLen a b ≤ a.length ∧ comLen a b ≤ b.length
  | [], b => by simp [comLen]
  | _ :: _, [] => by simp [comLen]
  | x :: r, y :: s => by
    have h := comLen_le r s
    rw [comLen]
    cases x == y with
    | true => simp only [cond_true, List.length_cons]; omega
    | false => simp

/-- the day of the first one of a path, the day itself if there is none -/
def begDay (v : List Std) (day : Int) : List Int → Int
  | [] => day
  | i :: _ => (v.getD i.toNat dStd).2.2.2.2.1

/-- a difference of spans: its value, and whether something was not valid -/
def minV (s t : Spn) : Spn := (val (fsub s.1 t.2), val (fsub s.2 t.1))
def minE (s t : Spn) : Bool := (fsub s.1 t.2).isNone || (fsub s.2 t.1).isNone

theorem impl_calc_minus_is {s t : Spn} (hs : Bd s.1 ∧ Bd s.2) (ht : Bd t.1 ∧ Bd t.2) (c : Bool) : impl_calc_minus N0 s t c = c1 (minV s t) (c || minE s t) := by
  simp only [impl_calc_minus, impl_calc_minus_t, pr_eta]
  rw [impl_calc_sub_is hs.1 ht.2, Option.bind_some]
  dsimp only
  rw [impl_calc_sub_is hs.2 ht.1, Option.bind_some]
  unfold minV minE
  simp only [Bool.or_assoc]

theorem spec_l01Against_is {s t : Spn} (hs : Bd s.1 ∧ Bd s.2) (ht : Bd t.1 ∧ Bd t.2) : spec_l01Against N0 s t = bif minE s t then r2 ((0, 0), (0, 0)) 3 else r2 (minV s t) 0 := by
  simp only [spec_l01Against, spec_l01Against_t, pr_eta, spec_l01Neg_is ht.2, spec_l01Neg_is ht.1, Option.bind_some]
  rw [spec_l01Sums_is hs (t := ((-t.2.1, t.2.2), (-t.1.1, t.1.2))) ⟨Bd.neg ht.2, Bd.neg ht.1⟩]
  simp only [fadd_neg hs.1 ht.2, fadd_neg hs.2 ht.1]
  unfold minE minV
  cases (fsub s.1 t.2).isNone || (fsub s.2 t.1).isNone <;> rfl

section
variable {v : List Std} (hc : chainOk v = true) {day : Int} (hday : 0 ≤ day ∧ day ≤ 100000) {P : List Int} (hP : ∀ y ∈ P, 0 ≤ y ∧ y < (v.length : Int)) (hl : P.length ≤ 1000)
include hc hday hP hl

theorem drop_all (n : Nat) : (P.drop (n : Int).toNat).take ((P.length : Int).toNat - (n : Int).toNat) = P.drop n := by
  rw [Int.toNat_natCast, Int.toNat_natCast]
  exact List.take_of_length_le (by simp)

theorem drop_in (n : Nat) : (∀ y ∈ P.drop n, 0 ≤ y ∧ y < (v.length : Int)) ∧ (P.drop n).length ≤ 1000 :=
  ⟨fun y hy => hP y (List.mem_of_mem_drop hy), by simp; omega⟩

/-- the closure: a path from a place on -/
theorem behind_is {n : Nat} (hn : n ≤ P.length) (c : Bool) : impl_DifferenceOn_1 N0 P (n : Int) day v c =
    some ((((alongG v day (P.drop n) s0).1, ()), ((begDay v day (P.drop n), ()), ())), (P, ((n : Int), (day, ((), (v, (c || (alongG v day (P.drop n) s0).2, ()))))))) := by
  simp only [impl_DifferenceOn_1, impl_DifferenceOn_1_t, impl_none, impl_none_t, impl_zero_is, Option.bind_some, pr_eta]
  by_cases h : n = P.length
  · subst h
    rw [eq_t (a := (P.length : Int)) (b := (P.length : Int)) rfl, cond_true, List.drop_length]
    simp only [alongG, begDay, Bool.or_false]
  · have hlt : n < P.length := by omega
    have hin := hP _ (List.getElem_mem hlt)
    rw [eq_f (a := (P.length : Int)) (b := (n : Int)) (by omega), cond_false, drop_all hc hday hP hl]
    rw [impl_along_is hc hday (drop_in hc hday hP hl n).1 (drop_in hc hday hP hl n).2 s0 c s0_bd, Option.bind_some]
    simp only [nn_t, lt_t hlt, Bool.and_self, cond_true, Int.toNat_natCast, get_ix hlt, dec_t hin.1, dec_t hin.2, dec_t (p := (n : Int) ≤ (P.length : Int)) (by omega), dec_t (p := (P.length : Int) ≤ (P.length : Int)) (by omega)]
    rw [drop_ix hlt, begDay]

theorem spec_begin_is (n : Nat) (hn : n ≤ P.length) : spec_l05Begin N0 v (P.drop n) day = r1 (begDay v day (P.drop n)) := by
  simp only [spec_l05Begin, spec_l05Begin_t]
  by_cases h : n = P.length
  · subst h
    rw [List.drop_length]
    rfl
  · have hlt : n < P.length := by omega
    have hin := hP _ (List.getElem_mem hlt)
    rw [drop_ix hlt]
    simp only [List.length_cons, begDay]
    rw [eq_f (by omega), cond_false, dec_t (p := (0 : Int) < _) (by omega), cond_true, show (0 : Int).toNat = 0 from rfl, List.getD_cons_zero, dec_t hin.1, dec_t hin.2]
    rfl
end
end Go.Abs
