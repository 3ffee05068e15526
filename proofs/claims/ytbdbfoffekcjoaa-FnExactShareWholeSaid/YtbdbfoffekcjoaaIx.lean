/- Plain lemmas: loops over lists. -/
import Derived.Test.YtbdbfoffekcjoaaBase
namespace Go.Abs
set_option linter.unusedSimpArgs false
set_option linter.unusedSectionVars false
set_option linter.unusedVariables false

section
variable {α : Type} {v : List α} {i m : Nat}
theorem lt_t (h : i < m) : decide ((i : Int) < ((m : Nat) : Int)) = true := decide_eq_true (by omega)
theorem lt_f (h : ¬ i < m) : decide ((i : Int) < ((m : Nat) : Int)) = false := decide_eq_false (by omega)
theorem nn_t : decide (0 ≤ (i : Int)) = true := decide_eq_true (by omega)
theorem in_t (h : i < m) : (decide (0 ≤ (i : Int)) && decide ((i : Int) < ((m : Nat) : Int))) = true := by rw [nn_t, lt_t h]; rfl
theorem get_ix (h : i < v.length) (d : α) : v.getD i d = v[i] := by simp [List.getD, h]
theorem drop_ix (h : i < v.length) : v.drop i = v[i] :: v.drop (i + 1) := List.drop_eq_getElem_cons h
theorem take_ix (h : i < v.length) : v.take (i + 1) = v.take i ++ [v[i]] := by rw [List.take_add_one, List.getElem?_eq_getElem h]; rfl
theorem room_t {k c : Nat} (h : k * c ≤ 70368744177664) : decide (k * c ≤ 70368744177664) = true := decide_eq_true h
theorem gt_t {a b : Int} (h : b < a) : decide (a > b) = true := decide_eq_true h
theorem gt_f {a b : Int} (h : ¬ b < a) : decide (a > b) = false := decide_eq_false h
theorem eq_t {a b : Int} (h : a = b) : (a == b) = true := by simp [h]
theorem eq_f {a b : Int} (h : ¬ a = b) : (a == b) = false := by simp [h]
theorem ne_f {a b : Int} (h : a = b) : (a != b) = false := by simp [h]
end

/-- the first place at which something holds, or -1 -/
def fIdx {α : Type} (p : α → Bool) : List α → Nat → Int
  | [], _ => -1
  | x :: r, i => bif p x then (i : Int) else fIdx p r (i + 1)

theorem fIdx_any {α : Type} (p : α → Bool) : ∀ (v : List α) (i : Nat), decide (fIdx p v i ≥ 0) = v.any p
  | [], i => by simp [fIdx]
  | x :: r, i => by
    rw [fIdx, List.any_cons]
    cases h : p x with
    | true => rw [cond_true, Bool.true_or]; exact decide_eq_true (by omega)
    | false => rw [cond_false, Bool.false_or]; exact fIdx_any p r (i + 1)

/-- the loop of IndexFunc -/
theorem idx_loop {α : Type} {cl : α → Option (((Bool × Unit) × Unit) × Unit)} {d : α} {L : Nat → Int → List α → Int → Option (((Int × Unit) × Unit) × Unit)} (p : α → Bool)
    (hcl : ∀ x, cl x = r1 (p x))
    (hL : ∀ k i v m, L (k + 1) i v m = cond (decide (i < m)) (cond (decide (0 ≤ i) && decide (i < ((v.length : Nat) : Int)))
      ((cl (v.getD (Int.toNat i) d)).bind fun r0 => cond r0.1.1.1 (some ((((i, ()), ()), ()))) (L k (IntKind.wrap .i64 (i + 1)) v m)) none) (some ((((-1, ()), ()), ()))))
    (v : List α) (hb : v.length ≤ 4611686018427387904) : ∀ (k i : Nat), i ≤ v.length → v.length - i < k → L k (i : Int) v ((v.length : Nat) : Int) = r1 (fIdx p (v.drop i) i)
  | 0, i, _, hk => by omega
  | k + 1, i, hi, hk => by
    rw [hL]
    by_cases h : i < v.length
    · simp only [lt_t h, nn_t, Bool.and_self, cond_true, Int.toNat_natCast, get_ix h, w_succ (i := i) (by omega), hcl, Option.bind_some]
      rw [drop_ix h, fIdx]
      cases hp : p v[i] with
      | true => rfl
      | false => rw [cond_false, cond_false]; exact idx_loop p hcl hL v hb k (i + 1) h (by omega)
    · have : i = v.length := by omega
      subst this
      simp only [lt_f h, cond_false, List.drop_length]
      rfl

theorem idx_all {α : Type} {cl : α → Option (((Bool × Unit) × Unit) × Unit)} {d : α} {L : Nat → Int → List α → Int → Option (((Int × Unit) × Unit) × Unit)} (p : α → Bool)
    (hcl : ∀ x, cl x = r1 (p x))
    (hL : ∀ k i v m, L (k + 1) i v m = cond (decide (i < m)) (cond (decide (0 ≤ i) && decide (i < ((v.length : Nat) : Int)))
      ((cl (v.getD (Int.toNat i) d)).bind fun r0 => cond r0.1.1.1 (some ((((i, ()), ()), ()))) (L k (IntKind.wrap .i64 (i + 1)) v m)) none) (some ((((-1, ()), ()), ()))))
    (v : List α) (hb : v.length ≤ 4611686018427387904) : L N0 0 v ((v.length : Nat) : Int) = r1 (fIdx p v 0) := by
  have := N0_big
  have := idx_loop p hcl hL v hb N0 0 (by omega) (by omega)
  simpa using this

theorem cond_push {α β : Type} (f : α → β) (c : Bool) (a b : α) : f (bif c then a else b) = bif c then f a else f b := by cases c <;> rfl

/-- a sum -/
def sumL : List Int → Int
  | [] => 0
  | x :: r => x + sumL r

theorem sumL_bd {v : List Int} {B : Int} (hB : 0 ≤ B) (h : ∀ x ∈ v, -B ≤ x ∧ x ≤ B) : -(B * (v.length : Int)) ≤ sumL v ∧ sumL v ≤ B * (v.length : Int) := by
  induction v with
  | nil => simp [sumL]
  | cons x r ih =>
    have h1 := h x (by simp)
    have h2 := ih fun y hy => h y (by simp [hy])
    have e : B * ((x :: r).length : Int) = B + B * (r.length : Int) := by rw [List.length_cons, Int.natCast_add, Int.mul_add, Int.natCast_one]; omega
    rw [e, sumL]
    omega
end Go.Abs
