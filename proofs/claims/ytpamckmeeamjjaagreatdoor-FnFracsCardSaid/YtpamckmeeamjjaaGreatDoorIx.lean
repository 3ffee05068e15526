/- Plain lemmas: loops over lists. -/
import Derived.Test.YtpamckmeeamjjaaGreatDoorBase
namespace Go.Abs
set_option linter.unusedSimpArgs false
set_option linter.unusedSectionVars false
set_option linter.unusedVariables false

section
variable {α : Type} {v : List α} {i m : Nat}
theorem lt_t (h : i < m) : decide ((i : Int) < ((m : Nat) : Int)) = true := decide_eq_true (by omega)
theorem lt_f (h : ¬ i < m) : decide ((i : Int) < ((m : Nat) : Int)) = false := decide_eq_false (by omega)
theorem nn_t : decide (0 ≤ (i : Int)) = true := decide_eq_true (by omega)
theorem in_t (h : i < m) : (decide (0 ≤ (i : Int)) && decide ((i : Int) < ((m : Nat) : Int))) = true := by rw [nn_t, lt_t h]; rfl
theorem get_ix (h : i < v.length) (d : α) : v.getD i d = v[i] := by simp [List.getD, h]
theorem drop_ix (h : i < v.length) : v.drop i = v[i] :: v.drop (i + 1) := List.drop_eq_getElem_cons h
theorem take_ix (h : i < v.length) : v.take (i + 1) = v.take i ++ [v[i]] := by rw [List.take_add_one, List.getElem?_eq_getElem h]; rfl
theorem room_t {k c : Nat} (h : k * c ≤ 70368744177664) : decide (k * c ≤ 70368744177664) = true := decide_eq_true h
theorem gt_t {a b : Int} (h : b < a) : decide (a > b) = true := decide_eq_true h
theorem gt_f {a b : Int} (h : ¬ b < a) : decide (a > b) = false := decide_eq_false h
theorem eq_t {a b : Int} (h : a = b) : (a == b) = true := by simp [h]
theorem eq_f {a b : Int} (h : ¬ a = b) : (a == b) = false := by simp [h]
theorem ne_f {a b : Int} (h : a = b) : (a != b) = false := by simp [h]
end

/-- the first place at which something holds, or -1 -/
def fIdx {α : Type} (p : α → Bool) : List α → Nat → Int
  | [], _ => -1
  | x :: r, i => bif p x then (i : Int) else fIdx p r (i + 1)

theorem fIdx_any {α : Type} (p : α → Bool) : ∀ (v : List α) (i : Nat), decide (fIdx p v i ≥ 0) = v.any p
  | [], i => by simp [fIdx]
  | x :: r, i => by
    rw [fIdx, List.any_cons]
    cases h : p x with
    | true => rw [cond_true, Bool.true_or]; exact decide_eq_true (by omega)
    | false => rw [cond_false, Bool.false_or]; exact fIdx_any p r (i + 1)

/-- the loop of IndexFunc -/
theorem idx_loop {α : Type} {cl : α → Option (((Bool × Unit) × Unit) × Unit)} {d : α} {L : Nat → Int → List α → Int → Option (((Int × Unit) × Unit) × Unit)} (p : α → Bool)
    (hcl : ∀ x, cl x = r1 (p x))
    (hL : ∀ k i v m, L (k + 1) i v m = cond (decide (i < m)) (cond (decide (0 ≤ i) && decide (i < ((v.length : Nat) : Int)))
      ((cl (v.getD (Int.toNat i) d)).bind fun r0 => cond r0.1.1.1 (some ((((i, ()), ()), ()))) (L k (IntKind.wrap .i64 (i + 1)) v m)) none) (some ((((-1, ()), ()), ()))))
    (v : List α) (hb : v.length ≤ 9223372036854775807) : ∀ (k i : Nat), i ≤ v.length → v.length - i < k → L k (i : Int) v ((v.length : Nat) : Int) = r1 (fIdx p (v.drop i) i)
  | 0, i, _, hk => by omega
  | k + 1, i, hi, hk => by
    rw [hL]
    by_cases h : i < v.length
    · simp only [lt_t h, nn_t, Bool.and_self, cond_true, Int.toNat_natCast, get_ix h, w_succ (i := i) (by omega), hcl, Option.bind_some]
      rw [drop_ix h, fIdx]
      cases hp : p v[i] with
      | true => rfl
      | false => rw [cond_false, cond_false]; exact idx_loop p hcl hL v hb k (i + 1) h (by omega)
    · have : i = v.length := by omega
      subst this
      simp only [lt_f h, cond_false, List.drop_length]
      rfl

theorem idx_all {α : Type} {cl : α → Option (((Bool × Unit) × Unit) × Unit)} {d : α} {L : Nat → Int → List α → Int → Option (((Int × Unit) × Unit) × Unit)} (p : α → Bool)
    (hcl : ∀ x, cl x = r1 (p x))
    (hL : ∀ k i v m, L (k + 1) i v m = cond (decide (i < m)) (cond (decide (0 ≤ i) && decide (i < ((v.length : Nat) : Int)))
      ((cl (v.getD (Int.toNat i) d)).bind fun r0 => cond r0.1.1.1 (some ((((i, ()), ()), ()))) (L k (IntKind.wrap .i64 (i + 1)) v m)) none) (some ((((-1, ()), ()), ()))))
    (v : List α) (hb : v.length ≤ 9223372036854775807) : L N0 0 v ((v.length : Nat) : Int) = r1 (fIdx p v 0) := by
  have := N0_big
  have := idx_loop p hcl hL v hb N0 0 (by omega) (by omega)
  simpa using this

theorem cond_push {α β : Type} (f : α → β) (c : Bool) (a b : α) : f (bif c then a else b) = bif c then f a else f b := by cases c <;> rfl

/-- a sum -/
def sumL : List Int → Int
  | [] => 0
  | x :: r => x + sumL r

theorem sumL_bd {v : List Int} {B : Int} (hB : 0 ≤ B) (h : ∀ x ∈ v, -B ≤ x ∧ x ≤ B) : -(B * (v.length : Int)) ≤ sumL v ∧ sumL v ≤ B * (v.length : Int) := by
  induction v with
  | nil => simp [sumL]
  | cons x r ih =>
    have h1 := h x (by simp)
    have h2 := ih fun y hy => h y (by simp [hy])
    have e : B * ((x :: r).length : Int) = B + B * (r.length : Int) := by rw [List.length_cons, Int.natCast_add, Int.mul_add, Int.natCast_one]; omega
    rw [e, sumL]
    omega

/-- the loop that copies a list -/
theorem copy_loop {α : Type} {d : α} {L : Nat → Int → List α → List α → Option (((List α × Unit) × Unit) × Unit)}
    (hL : ∀ k i v b, L (k + 1) i v b = cond (decide (i < ((v.length : Nat) : Int))) (cond (decide (0 ≤ i) && decide (i < ((v.length : Nat) : Int)))
      (cond (decide (0 ≤ i) && decide (i < ((b.length : Nat) : Int))) (L k (IntKind.wrap .i64 (i + 1)) v (b.set (Int.toNat i) (v.getD (Int.toNat i) d))) none) none) (some (((b, ()), ()), ())))
    (v : List α) (hb : v.length ≤ 9223372036854775807) : ∀ (k i : Nat) (b : List α), i ≤ v.length → b.length = v.length → v.length - i < k → L k (i : Int) v b = r1 (b.take i ++ v.drop i)
  | 0, i, b, _, _, hk => by omega
  | k + 1, i, b, hi, hl, hk => by
    rw [hL]
    by_cases h : i < v.length
    · have h3 : i < b.length := by omega
      simp only [lt_t h, lt_t h3, nn_t, Bool.and_self, cond_true, Int.toNat_natCast, get_ix h, w_succ (i := i) (by omega)]
      rw [copy_loop hL v hb k (i + 1) _ h (by simpa using hl) (by omega), drop_ix h, List.take_add_one]
      simp [h3, List.take_set_of_le]
    · have : i = v.length := by omega
      subst this
      simp only [lt_f h, cond_false]
      simp [← hl]

theorem copy_all {α : Type} {d : α} {L : Nat → Int → List α → List α → Option (((List α × Unit) × Unit) × Unit)}
    (hL : ∀ k i v b, L (k + 1) i v b = cond (decide (i < ((v.length : Nat) : Int))) (cond (decide (0 ≤ i) && decide (i < ((v.length : Nat) : Int)))
      (cond (decide (0 ≤ i) && decide (i < ((b.length : Nat) : Int))) (L k (IntKind.wrap .i64 (i + 1)) v (b.set (Int.toNat i) (v.getD (Int.toNat i) d))) none) none) (some (((b, ()), ()), ())))
    (v : List α) (hb : v.length ≤ 9223372036854775807) : L N0 0 v (List.replicate v.length d) = r1 v := by
  have := N0_big
  have := copy_loop hL v hb N0 0 (List.replicate v.length d) (by omega) (by simp) (by omega)
  simpa using this

/-- the same, of elements that are copied by a function -/
theorem copyF_loop {α : Type} {d : α} {cl : α → Option (((α × Unit) × Unit) × Unit)} {L : Nat → Int → List α → List α → Option (((List α × Unit) × Unit) × Unit)}
    (hcl : ∀ x, cl x = r1 x)
    (hL : ∀ k i v b, L (k + 1) i v b = cond (decide (i < ((v.length : Nat) : Int))) (cond (decide (0 ≤ i) && decide (i < ((v.length : Nat) : Int)))
      ((cl (v.getD (Int.toNat i) d)).bind fun r0 => cond (decide (0 ≤ i) && decide (i < ((b.length : Nat) : Int))) (L k (IntKind.wrap .i64 (i + 1)) v (b.set (Int.toNat i) r0.1.1.1)) none) none) (some (((b, ()), ()), ())))
    (v : List α) (hb : v.length ≤ 9223372036854775807) : ∀ (k i : Nat) (b : List α), i ≤ v.length → b.length = v.length → v.length - i < k → L k (i : Int) v b = r1 (b.take i ++ v.drop i)
  | 0, i, b, _, _, hk => by omega
  | k + 1, i, b, hi, hl, hk => by
    rw [hL]
    by_cases h : i < v.length
    · have h3 : i < b.length := by omega
      simp only [lt_t h, lt_t h3, nn_t, Bool.and_self, cond_true, Int.toNat_natCast, get_ix h, w_succ (i := i) (by omega), hcl, Option.bind_some]
      rw [copyF_loop hcl hL v hb k (i + 1) _ h (by simpa using hl) (by omega), drop_ix h, List.take_add_one]
      simp [h3, List.take_set_of_le]
    · have : i = v.length := by omega
      subst this
      simp only [lt_f h, cond_false]
      simp [← hl]

theorem copyF_all {α : Type} {d d' : α} {cl : α → Option (((α × Unit) × Unit) × Unit)} {L : Nat → Int → List α → List α → Option (((List α × Unit) × Unit) × Unit)}
    (hcl : ∀ x, cl x = r1 x)
    (hL : ∀ k i v b, L (k + 1) i v b = cond (decide (i < ((v.length : Nat) : Int))) (cond (decide (0 ≤ i) && decide (i < ((v.length : Nat) : Int)))
      ((cl (v.getD (Int.toNat i) d)).bind fun r0 => cond (decide (0 ≤ i) && decide (i < ((b.length : Nat) : Int))) (L k (IntKind.wrap .i64 (i + 1)) v (b.set (Int.toNat i) r0.1.1.1)) none) none) (some (((b, ()), ()), ())))
    (v : List α) (hb : v.length ≤ 9223372036854775807) : L N0 0 v (List.replicate v.length d') = r1 v := by
  have := N0_big
  have := copyF_loop hcl hL v hb N0 0 (List.replicate v.length d') (by omega) (by simp) (by omega)
  simpa using this

/-- the loop that compares lists of one length -/
theorem eq_loop {L : Nat → Int → List Int → List Int → Option (((Bool × Unit) × Unit) × Unit)}
    (hL : ∀ k i w v, L (k + 1) i w v = cond (decide (i < ((v.length : Nat) : Int))) (cond (decide (0 ≤ i) && decide (i < ((v.length : Nat) : Int)))
      (cond (decide (0 ≤ i) && decide (i < ((w.length : Nat) : Int))) (cond ((v.getD (Int.toNat i) 0) != (w.getD (Int.toNat i) 0)) (some (((false, ()), ()), ())) (L k (IntKind.wrap .i64 (i + 1)) w v)) none) none) (some (((true, ()), ()), ())))
    (v w : List Int) (hb : v.length ≤ 9223372036854775807) (hl : v.length = w.length) : ∀ (k i : Nat), i ≤ v.length → v.length - i < k → L k (i : Int) w v = r1 (v.drop i == w.drop i)
  | 0, i, _, hk => by omega
  | k + 1, i, hi, hk => by
    rw [hL]
    by_cases h : i < v.length
    · have h' : i < w.length := by omega
      simp only [lt_t h, lt_t h', nn_t, Bool.and_self, cond_true, Int.toNat_natCast, get_ix h, get_ix h', w_succ (i := i) (by omega)]
      rw [drop_ix h, drop_ix h', List.cons_beq_cons]
      by_cases he : v[i] = w[i]
      · rw [ne_f he, cond_false, eq_loop hL v w hb hl k (i + 1) h (by omega)]
        simp [he]
      · rw [ne_true he, cond_true]
        simp [he]
    · have : i = v.length := by omega
      subst this
      simp only [lt_f h, cond_false]
      simp [hl]

theorem len_ne {α : Type} [BEq α] [LawfulBEq α] {v w : List α} (hl : v.length ≠ w.length) : (v == w) = false := by
  rw [beq_eq_false_iff_ne]
  intro h
  exact hl (by rw [h])

theorem eq_all {L : Nat → Int → List Int → List Int → Option (((Bool × Unit) × Unit) × Unit)}
    (hL : ∀ k i w v, L (k + 1) i w v = cond (decide (i < ((v.length : Nat) : Int))) (cond (decide (0 ≤ i) && decide (i < ((v.length : Nat) : Int)))
      (cond (decide (0 ≤ i) && decide (i < ((w.length : Nat) : Int))) (cond ((v.getD (Int.toNat i) 0) != (w.getD (Int.toNat i) 0)) (some (((false, ()), ()), ())) (L k (IntKind.wrap .i64 (i + 1)) w v)) none) none) (some (((true, ()), ()), ())))
    (v w : List Int) (hb : v.length ≤ 9223372036854775807) : cond (((v.length : Nat) : Int) != ((w.length : Nat) : Int)) (some (((false, ()), ()), ())) (L N0 0 w v) = r1 (v == w) := by
  have := N0_big
  by_cases hl : v.length = w.length
  · rw [ne_f (by omega), cond_false]
    have := eq_loop hL v w hb hl N0 0 (by omega) (by omega)
    simpa using this
  · rw [ne_true (by omega), cond_true, len_ne hl]

/-- the same, of elements that are compared by a function -/
theorem eqF_loop {α : Type} [BEq α] [LawfulBEq α] {d : α} {cl : α → α → Option (((Bool × Unit) × Unit) × Unit)} {L : Nat → Int → List α → List α → Option (((Bool × Unit) × Unit) × Unit)}
    (hcl : ∀ x y, cl x y = r1 (x == y))
    (hL : ∀ k i w v, L (k + 1) i w v = cond (decide (i < ((v.length : Nat) : Int))) (cond (decide (0 ≤ i) && decide (i < ((v.length : Nat) : Int)))
      (cond (decide (0 ≤ i) && decide (i < ((w.length : Nat) : Int))) ((cl (v.getD (Int.toNat i) d) (w.getD (Int.toNat i) d)).bind fun r0 => cond (!r0.1.1.1) (some (((false, ()), ()), ())) (L k (IntKind.wrap .i64 (i + 1)) w v)) none) none) (some (((true, ()), ()), ())))
    (v w : List α) (hb : v.length ≤ 9223372036854775807) (hl : v.length = w.length) : ∀ (k i : Nat), i ≤ v.length → v.length - i < k → L k (i : Int) w v = r1 (v.drop i == w.drop i)
  | 0, i, _, hk => by omega
  | k + 1, i, hi, hk => by
    rw [hL]
    by_cases h : i < v.length
    · have h' : i < w.length := by omega
      simp only [lt_t h, lt_t h', nn_t, Bool.and_self, cond_true, Int.toNat_natCast, get_ix h, get_ix h', w_succ (i := i) (by omega), hcl, Option.bind_some]
      rw [drop_ix h, drop_ix h', List.cons_beq_cons]
      cases he : v[i] == w[i] with
      | true => rw [Bool.not_true, cond_false, eqF_loop hcl hL v w hb hl k (i + 1) h (by omega), Bool.true_and]
      | false => rfl
    · have : i = v.length := by omega
      subst this
      simp only [lt_f h, cond_false]
      simp [hl]

theorem eqF_all {α : Type} [BEq α] [LawfulBEq α] {d : α} {cl : α → α → Option (((Bool × Unit) × Unit) × Unit)} {L : Nat → Int → List α → List α → Option (((Bool × Unit) × Unit) × Unit)}
    (hcl : ∀ x y, cl x y = r1 (x == y))
    (hL : ∀ k i w v, L (k + 1) i w v = cond (decide (i < ((v.length : Nat) : Int))) (cond (decide (0 ≤ i) && decide (i < ((v.length : Nat) : Int)))
      (cond (decide (0 ≤ i) && decide (i < ((w.length : Nat) : Int))) ((cl (v.getD (Int.toNat i) d) (w.getD (Int.toNat i) d)).bind fun r0 => cond (!r0.1.1.1) (some (((false, ()), ()), ())) (L k (IntKind.wrap .i64 (i + 1)) w v)) none) none) (some (((true, ()), ()), ())))
    (v w : List α) (hb : v.length ≤ 9223372036854775807) : cond (((v.length : Nat) : Int) != ((w.length : Nat) : Int)) (some (((false, ()), ()), ())) (L N0 0 w v) = r1 (v == w) := by
  have := N0_big
  by_cases hl : v.length = w.length
  · rw [ne_f (by omega), cond_false]
    have := eqF_loop hcl hL v w hb hl N0 0 (by omega) (by omega)
    simpa using this
  · rw [ne_true (by omega), cond_true, len_ne hl]

/-- the loop of IndexFunc, with a captured variable -/
theorem idxS_loop {α β : Type} {cl : α → β → Option (((Bool × Unit) × Unit) × (β × Unit))} {d : α} {L : Nat → Int → List α → Int → β → Option (((Int × Unit) × Unit) × (β × Unit))} (p : α → Bool) (b : β)
    (hcl : ∀ x, cl x b = c1 (p x) b)
    (hL : ∀ k i v m b, L (k + 1) i v m b = cond (decide (i < m)) (cond (decide (0 ≤ i) && decide (i < ((v.length : Nat) : Int)))
      ((cl (v.getD (Int.toNat i) d) b).bind fun r0 => cond r0.1.1.1 (some (((i, ()), ()), (r0.2.1, ()))) (L k (IntKind.wrap .i64 (i + 1)) v m r0.2.1)) none) (some (((-1, ()), ()), (b, ()))))
    (v : List α) (hb : v.length ≤ 9223372036854775807) : ∀ (k i : Nat), i ≤ v.length → v.length - i < k → L k (i : Int) v ((v.length : Nat) : Int) b = c1 (fIdx p (v.drop i) i) b
  | 0, i, _, hk => by omega
  | k + 1, i, hi, hk => by
    rw [hL]
    by_cases h : i < v.length
    · simp only [lt_t h, nn_t, Bool.and_self, cond_true, Int.toNat_natCast, get_ix h, w_succ (i := i) (by omega), hcl, Option.bind_some]
      rw [drop_ix h, fIdx]
      cases hp : p v[i] with
      | true => rfl
      | false => rw [cond_false, cond_false]; exact idxS_loop p b hcl hL v hb k (i + 1) h (by omega)
    · have : i = v.length := by omega
      subst this
      simp only [lt_f h, cond_false, List.drop_length]
      rfl

theorem idxS_all {α β : Type} {cl : α → β → Option (((Bool × Unit) × Unit) × (β × Unit))} {d : α} {L : Nat → Int → List α → Int → β → Option (((Int × Unit) × Unit) × (β × Unit))} (p : α → Bool) (b : β)
    (hcl : ∀ x, cl x b = c1 (p x) b)
    (hL : ∀ k i v m b, L (k + 1) i v m b = cond (decide (i < m)) (cond (decide (0 ≤ i) && decide (i < ((v.length : Nat) : Int)))
      ((cl (v.getD (Int.toNat i) d) b).bind fun r0 => cond r0.1.1.1 (some (((i, ()), ()), (r0.2.1, ()))) (L k (IntKind.wrap .i64 (i + 1)) v m r0.2.1)) none) (some (((-1, ()), ()), (b, ()))))
    (v : List α) (hb : v.length ≤ 9223372036854775807) : L N0 0 v ((v.length : Nat) : Int) b = c1 (fIdx p v 0) b := by
  have := N0_big
  have := idxS_loop p b hcl hL v hb N0 0 (by omega) (by omega)
  simpa using this

theorem any_notP {α : Type} (p : α → Bool) (v : List α) : (v.any fun x => !p x) = !v.all p := by
  induction v with
  | nil => rfl
  | cons x r ih => rw [List.any_cons, List.all_cons, ih]; cases p x <;> rfl

/-- the loop that compares a list with itself -/
theorem eqR_loop {α : Type} {d : α} {cl : α → α → Option (((Bool × Unit) × Unit) × Unit)} {L : Nat → Int → List α → List α → Option (((Bool × Unit) × Unit) × Unit)}
    (hL : ∀ k i w v, L (k + 1) i w v = cond (decide (i < ((v.length : Nat) : Int))) (cond (decide (0 ≤ i) && decide (i < ((v.length : Nat) : Int)))
      (cond (decide (0 ≤ i) && decide (i < ((w.length : Nat) : Int))) ((cl (v.getD (Int.toNat i) d) (w.getD (Int.toNat i) d)).bind fun r0 => cond (!r0.1.1.1) (some (((false, ()), ()), ())) (L k (IntKind.wrap .i64 (i + 1)) w v)) none) none) (some (((true, ()), ()), ())))
    (v : List α) (hcl : ∀ x ∈ v, cl x x = r1 true) (hb : v.length ≤ 9223372036854775807) : ∀ (k i : Nat), i ≤ v.length → v.length - i < k → L k (i : Int) v v = r1 true
  | 0, i, _, hk => by omega
  | k + 1, i, hi, hk => by
    rw [hL]
    by_cases h : i < v.length
    · simp only [lt_t h, nn_t, Bool.and_self, cond_true, Int.toNat_natCast, get_ix h, w_succ (i := i) (by omega), hcl _ (List.getElem_mem h), Option.bind_some, Bool.not_true, cond_false]
      exact eqR_loop hL v hcl hb k (i + 1) h (by omega)
    · have : i = v.length := by omega
      subst this
      simp only [lt_f h, cond_false]

theorem eqR_all {α : Type} {d : α} {cl : α → α → Option (((Bool × Unit) × Unit) × Unit)} {L : Nat → Int → List α → List α → Option (((Bool × Unit) × Unit) × Unit)}
    (hL : ∀ k i w v, L (k + 1) i w v = cond (decide (i < ((v.length : Nat) : Int))) (cond (decide (0 ≤ i) && decide (i < ((v.length : Nat) : Int)))
      (cond (decide (0 ≤ i) && decide (i < ((w.length : Nat) : Int))) ((cl (v.getD (Int.toNat i) d) (w.getD (Int.toNat i) d)).bind fun r0 => cond (!r0.1.1.1) (some (((false, ()), ()), ())) (L k (IntKind.wrap .i64 (i + 1)) w v)) none) none) (some (((true, ()), ()), ())))
    (v : List α) (hcl : ∀ x ∈ v, cl x x = r1 true) (hb : v.length ≤ 9223372036854775807) : cond (((v.length : Nat) : Int) != ((v.length : Nat) : Int)) (some (((false, ()), ()), ())) (L N0 0 v v) = r1 true := by
  have := N0_big
  rw [ne_f rfl, cond_false]
  exact eqR_loop hL v hcl hb N0 0 (by omega) (by omega)

/-- lists of one length, compared member by member -/
def all2 {α : Type} (q : α → α → Bool) : List α → List α → Bool
  | x :: v, y :: w => q x y && all2 q v w
  | _, _ => true

theorem eqQ_loop {α : Type} {d : α} (q : α → α → Bool) {L : Nat → Int → List α → List α → Option (((Bool × Unit) × Unit) × Unit)}
    (hL : ∀ k i w v, L (k + 1) i w v = cond (decide (i < ((v.length : Nat) : Int))) (cond (decide (0 ≤ i) && decide (i < ((v.length : Nat) : Int)))
      (cond (decide (0 ≤ i) && decide (i < ((w.length : Nat) : Int))) (cond (!q (v.getD (Int.toNat i) d) (w.getD (Int.toNat i) d)) (some (((false, ()), ()), ())) (L k (IntKind.wrap .i64 (i + 1)) w v)) none) none) (some (((true, ()), ()), ())))
    (v w : List α) (hb : v.length ≤ 9223372036854775807) (hl : v.length = w.length) : ∀ (k i : Nat), i ≤ v.length → v.length - i < k → L k (i : Int) w v = r1 (all2 q (v.drop i) (w.drop i))
  | 0, i, _, hk => by omega
  | k + 1, i, hi, hk => by
    rw [hL]
    by_cases h : i < v.length
    · have h' : i < w.length := by omega
      simp only [lt_t h, lt_t h', nn_t, Bool.and_self, cond_true, Int.toNat_natCast, get_ix h, get_ix h', w_succ (i := i) (by omega)]
      rw [drop_ix h, drop_ix h', all2]
      cases q v[i] w[i] with
      | true => rw [Bool.not_true, cond_false, eqQ_loop q hL v w hb hl k (i + 1) h (by omega), Bool.true_and]
      | false => rfl
    · have : i = v.length := by omega
      subst this
      simp only [lt_f h, cond_false, List.drop_length, all2]

theorem eqQ_all {α : Type} {d : α} (q : α → α → Bool) {L : Nat → Int → List α → List α → Option (((Bool × Unit) × Unit) × Unit)}
    (hL : ∀ k i w v, L (k + 1) i w v = cond (decide (i < ((v.length : Nat) : Int))) (cond (decide (0 ≤ i) && decide (i < ((v.length : Nat) : Int)))
      (cond (decide (0 ≤ i) && decide (i < ((w.length : Nat) : Int))) (cond (!q (v.getD (Int.toNat i) d) (w.getD (Int.toNat i) d)) (some (((false, ()), ()), ())) (L k (IntKind.wrap .i64 (i + 1)) w v)) none) none) (some (((true, ()), ()), ())))
    (v w : List α) (hb : v.length ≤ 9223372036854775807) : cond (((v.length : Nat) : Int) != ((w.length : Nat) : Int)) (some (((false, ()), ()), ())) (L N0 0 w v) = r1 (decide (v.length = w.length) && all2 q v w) := by
  have := N0_big
  by_cases hl : v.length = w.length
  · rw [ne_f (by omega), cond_false, dec_t hl]
    have := eqQ_loop q hL v w hb hl N0 0 (by omega) (by omega)
    simpa using this
  · rw [ne_true (by omega), cond_true, dec_f hl]
    rfl

/-- something holds of k places from i on -/
def allUp (p : Nat → Bool) : Nat → Nat → Bool
  | 0, _ => true
  | k + 1, i => p i && allUp p k (i + 1)

theorem allUp_at {p : Nat → Bool} : ∀ {k i : Nat}, allUp p k i = true → ∀ j, i ≤ j → j < i + k → p j = true
  | 0, i, _, j, h1, h2 => by omega
  | k + 1, i, h, j, h1, h2 => by
    rw [allUp, Bool.and_eq_true] at h
    by_cases hj : j = i
    · subst hj; exact h.1
    · exact allUp_at h.2 j (by omega) (by omega)
end Go.Abs
