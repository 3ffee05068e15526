/- What has been calibrated since a day: users and recalls, by the program and by the reference. -/
import Derived.Test.YtmkhdpdepomohaaDRecallOf0
import Derived.Test.YtmkhdpdepomohaaPathP
import Derived.Test.YtmkhdpdepomohaaChainL
import Derived.Test.YtmkhdpdepomohaaMarkStd
namespace Go.Abs
set_option linter.unusedSectionVars false
set_option linter.unusedSimpArgs false
set_option linter.unusedVariables false

abbrev frm (v : List Std) (x : Int) : Int := (v.getD x.toNat dStd).2.1
abbrev mad (v : List Std) (x : Int) : Int := (v.getD x.toNat dStd).2.2.2.2.1

/-- is x to be recalled: its path leads from i on a day or later -/
def recD (v : List Std) (i day : Int) : Nat → Int → Bool
  | 0, _ => false
  | f + 1, x => bif decide (x ≤ i) then false else bif frm v x == i then decide (mad v x ≥ day) else recD v i day f (frm v x)

theorem recD_low {v : List Std} {i day : Int} : ∀ {f : Nat} {x : Int}, x ≤ i → recD v i day f x = false
  | 0, _, _ => rfl
  | f + 1, x, h => by rw [recD, dec_t h]; rfl

theorem recD_stab {v : List Std} (hc : chainOk v = true) {i day : Int} (h0 : 0 ≤ i) : ∀ (f g : Nat) (x : Int), x < (v.length : Int) → x < (f : Int) → x < (g : Int) → recD v i day f x = recD v i day g x
  | 0, g, x, hx, hf, hg => by rw [recD_low (by omega), recD_low (by omega)]
  | f + 1, 0, x, hx, hf, hg => by rw [recD_low (by omega), recD_low (by omega)]
  | f + 1, g + 1, x, hx, hf, hg => by
    rw [recD, recD]
    by_cases h : x ≤ i
    · rw [dec_t h]; rfl
    · have h1 := (chain_at hc (i := x) ⟨by omega, hx⟩).2
      rw [recD_stab hc h0 f g (frm v x) (by simp only [frm]; omega) (by simp only [frm]; omega) (by simp only [frm]; omega)]

abbrev inS (v : List Std) (i day : Int) (x : Int) : Bool := recD v i day 31 x

theorem inS_eq {v : List Std} (hc : chainOk v = true) {i day : Int} (h0 : 0 ≤ i) {x : Int} (hx : x < (v.length : Int)) :
    inS v i day x = bif decide (x ≤ i) then false else bif frm v x == i then decide (mad v x ≥ day) else inS v i day (frm v x) := by
  have hl := chain_len hc
  unfold inS
  rw [recD]
  by_cases h : x ≤ i
  · rw [dec_t h]; rfl
  · have h1 := (chain_at hc (i := x) ⟨by omega, hx⟩).2
    rw [recD_stab hc h0 30 31 (frm v x) (by simp only [frm]; omega) (by simp only [frm]; omega) (by simp only [frm]; omega)]

/-- those for which something holds -/
def upF (p : Int → Bool) : Nat → Nat → List Int
  | 0, _ => []
  | k + 1, i => bif p (i : Int) then (i : Int) :: upF p k (i + 1) else upF p k (i + 1)

theorem upF_len (p : Int → Bool) : ∀ (k i : Nat), (upF p k i).length ≤ k
  | 0, i => by simp [upF]
  | k + 1, i => by
    rw [upF]
    have := upF_len p k (i + 1)
    cases p (i : Int) with
    | false => rw [cond_false]; omega
    | true => rw [cond_true, List.length_cons]; omega

theorem upF_skip (p : Int → Bool) (k : Nat) : ∀ (m a : Nat), (∀ j : Nat, a ≤ j → j < a + m → p (j : Int) = false) → upF p (m + k) a = upF p k (a + m)
  | 0, a, _ => by rw [Nat.zero_add, Nat.add_zero]
  | m + 1, a, h => by
    rw [show m + 1 + k = (m + k) + 1 by omega, upF, h a (by omega) (by omega), cond_false, upF_skip p k m (a + 1) (fun j h1 h2 => h j (by omega) (by omega))]
    congr 1
    omega

theorem set_get_ne {α : Type} {b : List α} {a c : Nat} (h : a ≠ c) {x d : α} : (b.set a x).getD c d = b.getD c d := by simp [List.getD, h]

theorem rep_get {α : Type} (x : α) (n j : Nat) : (List.replicate n x).getD j x = x := by
  rw [List.getD, List.getElem?_replicate]
  split <;> rfl

/-! ### the reference's -/
section
variable {v : List Std} (hc : chainOk v = true) {i : Int} (hi : 0 ≤ i ∧ i < (v.length : Int)) (day : Int)
include hc hi

theorem since_l4_is : ∀ (k a : Nat) (b : List Int) (c : List Bool), i < (a : Int) → a ≤ v.length → v.length - a < k → c.length = v.length → (∀ j : Nat, j < a → c.getD j false = inS v i day (j : Int)) → b.length ≤ a →
    spec_l05Since_l4 N0 k (a : Int) i day v b c = r1 (b ++ upF (inS v i day) (v.length - a) a)
  | 0, a, b, c, _, _, hk, _, _, _ => by omega
  | k + 1, a, b, c, hia, ha, hk, hcl, hinv, hb => by
    have hn := chain_len hc
    simp only [spec_l05Since_l4, spec_l05Since_t4]
    by_cases h : a < v.length
    · have h1 := (chain_at hc (i := (a : Int)) ⟨by omega, by omega⟩).2
      rw [Int.toNat_natCast] at h1
      have hr : decide ((b.length + ((a : Int) :: []).length) * 9 ≤ 70368744177664) = true := dec_t (by simp only [List.length_cons, List.length_nil]; omega)
      have hac : a < c.length := by omega
      have hS : inS v i day (a : Int) = bif frm v (a : Int) == i then decide (mad v (a : Int) ≥ day) else inS v i day (frm v (a : Int)) := by
        rw [inS_eq hc hi.1 (by omega), dec_f (p := (a : Int) ≤ i) (by omega), cond_false]
      simp only [frm, mad, Int.toNat_natCast] at hS
      have step : ∀ x, inS v i day (a : Int) = x → (bif x then spec_l05Since_l4 N0 k ((a + 1 : Nat) : Int) i day v (b ++ (a : Int) :: []) (c.set a x) else spec_l05Since_l4 N0 k ((a + 1 : Nat) : Int) i day v b (c.set a x)) =
          r1 (b ++ upF (inS v i day) (v.length - a) a) := by
        intro x hx
        have ih := fun b hb => since_l4_is k (a + 1) b (c.set a x) (by omega) h (by omega) (by rw [List.length_set]; exact hcl) (by
          intro j hj
          by_cases e : j = a
          · subst e; rw [set_get hac, hx]
          · rw [set_get_ne (fun e' => e e'.symm)]; exact hinv j (by omega)) hb
        rw [show v.length - a = (v.length - (a + 1)) + 1 by omega, upF, hx]
        cases x with
        | false => rw [cond_false, cond_false, ih b (by omega)]
        | true => rw [cond_true, cond_true, ih _ (by simp; omega), List.append_assoc]; rfl
      simp only [lt_t h, nn_t, Bool.and_self, cond_true, Int.toNat_natCast, List.length_set, hcl, set_get hac, hr, w_succ (i := a) (by omega)]
      simp only [dStd] at hS h1
      by_cases e1 : (v.getD a (ByteArray.mk #[], (0, (((0, 0), (0, 0)), ((0, 0), (0, 0)))))).2.1 = i
      · rw [eq_t e1, cond_true] at hS ⊢
        by_cases e2 : (v.getD a (ByteArray.mk #[], (0, (((0, 0), (0, 0)), ((0, 0), (0, 0)))))).2.2.2.2.1 ≥ day
        · rw [dec_t e2, cond_true] at *
          exact step true hS
        · rw [dec_f e2, cond_false] at *
          rw [dec_f (p := (v.getD a (ByteArray.mk #[], (0, (((0, 0), (0, 0)), ((0, 0), (0, 0)))))).2.1 > i) (by omega), cond_false]
          exact step false hS
      · rw [eq_f e1, cond_false] at hS ⊢
        by_cases e2 : (v.getD a (ByteArray.mk #[], (0, (((0, 0), (0, 0)), ((0, 0), (0, 0)))))).2.1 > i
        · have hj := hinv (v.getD a (ByteArray.mk #[], (0, (((0, 0), (0, 0)), ((0, 0), (0, 0)))))).2.1.toNat (by omega)
          rw [Int.toNat_of_nonneg (by omega), ← hS] at hj
          rw [dec_t e2, cond_true, dec_t (p := 0 ≤ (v.getD a (ByteArray.mk #[], (0, (((0, 0), (0, 0)), ((0, 0), (0, 0)))))).2.1) (by omega), dec_t (p := (v.getD a (ByteArray.mk #[], (0, (((0, 0), (0, 0)), ((0, 0), (0, 0)))))).2.1 < (v.length : Int)) (by omega), Bool.and_self, cond_true, hj]
          exact step _ rfl
        · rw [dec_f e2, cond_false]
          rw [show inS v i day (v.getD a (ByteArray.mk #[], (0, (((0, 0), (0, 0)), ((0, 0), (0, 0)))))).2.1 = false from recD_low (by omega)] at hS
          exact step false hS
    · have : a = v.length := by omega
      subst this
      simp only [lt_f h, cond_false, Nat.sub_self, upF, List.append_nil]

theorem since_all : upF (inS v i day) v.length 0 = upF (inS v i day) (v.length - (i + 1).toNat) (i + 1).toNat := by
  have := upF_skip (inS v i day) (v.length - (i + 1).toNat) (i + 1).toNat 0 (fun j _ hj => recD_low (by omega))
  rw [Nat.zero_add, show (i + 1).toNat + (v.length - (i + 1).toNat) = v.length by omega] at this
  exact this

theorem spec_l05Since_is : spec_l05Since N0 v i day = r1 (upF (inS v i day) v.length 0) := by
  have := N0_big
  have hn := chain_len hc
  simp only [spec_l05Since, spec_l05Since_t, beq_self_eq_true, nn_t, Int.toNat_natCast, Bool.and_self]
  rw [dec_t (p := v.length * 2 ≤ 70368744177664) (by omega), Bool.and_self, cond_true, w_in (x := i + 1) (by unfold I64; omega), show i + 1 = (((i + 1).toNat : Nat) : Int) by omega]
  rw [since_l4_is hc hi day N0 (i + 1).toNat [] _ (by omega) (by omega) (by omega) (by simp) (by
    intro j hj
    rw [show inS v i day (j : Int) = false from recD_low (by omega)]
    exact rep_get _ _ _) (by simp), List.nil_append, since_all hc hi day]
end

/-! ### the program's -/
theorem getD_left {α : Type} {l r : List α} {m : Nat} {d : α} (h : m < l.length) : (l ++ r).getD m d = l.getD m d := by
  rw [List.getD, List.getD, List.getElem?_append_left h]

theorem fIdx_low {α : Type} (p : α → Bool) : ∀ (l : List α) (k : Nat), fIdx p l k = -1 ∨ (∃ j : Nat, k ≤ j ∧ j < k + l.length ∧ fIdx p l k = (j : Int))
  | [], k => .inl rfl
  | x :: r, k => by
    rw [fIdx]
    cases p x with
    | true => exact .inr ⟨k, by omega, by simp, rfl⟩
    | false =>
      rcases fIdx_low p r (k + 1) with h | ⟨j, h1, h2, h3⟩
      · exact .inl h
      · exact .inr ⟨j, by omega, by simp only [List.length_cons]; omega, h3⟩

theorem fIdx_append {α : Type} (p : α → Bool) (r : List α) : ∀ (l : List α) (k : Nat), fIdx p (l ++ r) k = bif l.any p then fIdx p l k else fIdx p r (k + l.length)
  | [], k => rfl
  | x :: l, k => by
    rw [List.cons_append, fIdx, fIdx, List.any_cons, fIdx_append p r l (k + 1)]
    cases p x with
    | true => rfl
    | false => simp only [cond_false, Bool.false_or, List.length_cons]; rw [show k + 1 + l.length = k + (l.length + 1) by omega]

theorem fIdx_none {α : Type} (p : α → Bool) : ∀ (l : List α) (k : Nat), l.any p = false → fIdx p l k = -1
  | [], k, _ => rfl
  | x :: l, k, h => by
    rw [List.any_cons, Bool.or_eq_false_iff] at h
    rw [fIdx, h.1, cond_false, fIdx_none p l (k + 1) h.2]

theorem slices_Index_l2_is (y : Int) (v : List Int) (hb : v.length ≤ 1048576) : ∀ (k i : Nat), i ≤ v.length → v.length - i < k → slices_Index_int64_int64_l2 N0 k (i : Int) v y (v.length : Int) = r1 (fIdx (fun a => y == a) (v.drop i) i)
  | 0, i, _, hk => by omega
  | k + 1, i, hi, hk => by
    simp only [slices_Index_int64_int64_l2, slices_Index_int64_int64_t2]
    by_cases h : i < v.length
    · simp only [lt_t h, nn_t, Bool.and_self, cond_true, Int.toNat_natCast, get_ix h, w_succ (i := i) (by omega)]
      rw [drop_ix h, fIdx]
      cases y == v[i] with
      | true => rfl
      | false => rw [cond_false, cond_false]; exact slices_Index_l2_is y v hb k (i + 1) h (by omega)
    · have : i = v.length := by omega
      subst this
      simp only [lt_f h, cond_false, List.drop_length]
      rfl

theorem slices_Index_is (y : Int) (v : List Int) (hb : v.length ≤ 1048576) : slices_Index_int64_int64 N0 v y = r1 (fIdx (fun a => y == a) v 0) := by
  have := N0_big
  exact slices_Index_l2_is y v hb N0 0 (by omega) (by omega)

theorem slices_Contains_is (y : Int) (v : List Int) (hb : v.length ≤ 1048576) : slices_Contains_int64_int64 N0 v y = r1 (v.any fun a => y == a) := by
  simp only [slices_Contains_int64_int64, slices_Contains_int64_int64_t, slices_Index_is y v hb, Option.bind_some, fIdx_any]

section
variable {v : List Std} (hc : chainOk v = true) {i : Int} (hi : 0 ≤ i ∧ i < (v.length : Int)) (day : Int)
include hc hi

theorem path_top : ∀ (f : Nat) (x : Int), x < (v.length : Int) → ∀ y ∈ pathUp v f x, y ≤ x
  | 0, x, _, y, hy => by simp [pathUp] at hy
  | f + 1, x, hx, y, hy => by
    rw [pathUp] at hy
    by_cases h : x < 0
    · rw [dec_t h] at hy; simp at hy
    · have h1 := (chain_at hc (i := x) ⟨by omega, hx⟩).2
      rw [dec_f h, cond_false, List.mem_append] at hy
      cases hy with
      | inl hy => have := path_top f _ (by omega) y hy; omega
      | inr hy =>
        have : y = x := by simpa using hy
        omega

theorem path_not {f : Nat} {x : Int} (hx : x < (v.length : Int)) (h : x < i) : (pathUp v f x).any (fun a => i == a) = false := by
  rw [List.any_eq_false]
  intro y hy e
  have := path_top hc hi f x hx y hy
  have : i = y := by simpa using e
  omega

/-- the place of i on a path -/
theorem path_at : ∀ (f : Nat) (x : Int), x < (v.length : Int) → x < (f : Int) → x ≠ i →
    ((pathUp v f x).any (fun a => i == a) = false ∧ recD v i day f x = false) ∨
    (∃ m : Nat, (pathUp v f x).any (fun a => i == a) = true ∧ fIdx (fun a => i == a) (pathUp v f x) 0 = (m : Int) ∧ m + 1 < (pathUp v f x).length ∧ i < x ∧ recD v i day f x = decide (mad v ((pathUp v f x).getD (m + 1) 0) ≥ day))
  | 0, x, hx, hf, hne => .inl ⟨rfl, rfl⟩
  | f + 1, x, hx, hf, hne => by
    rw [pathUp, recD]
    by_cases h : x < 0
    · rw [dec_t h, dec_t (p := x ≤ i) (by omega)]
      exact .inl ⟨rfl, rfl⟩
    · have h1 := (chain_at hc (i := x) ⟨by omega, hx⟩).2
      have hix : (i == x) = false := eq_f (fun e => hne e.symm)
      rw [dec_f h, cond_false]
      by_cases e : (v.getD x.toNat dStd).2.1 = i
      · refine .inr ?_
        rw [dec_f (p := x ≤ i) (by omega), cond_false, show (frm v x == i) = true from eq_t e, cond_true, e]
        cases f with
        | zero => omega
        | succ f =>
          rw [pathUp, dec_f (p := i < 0) (by omega), cond_false]
          generalize hq : pathUp v f (v.getD i.toNat dStd).2.1 = Q
          have hQ : Q.any (fun a => i == a) = false := by
            rw [← hq]
            have h2 := (chain_at hc hi).2
            exact path_not hc hi (by omega) (by omega)
          refine ⟨Q.length, ?_, ?_, ?_, by omega, ?_⟩
          · simp
          · rw [fIdx_append, List.any_append, hQ]
            simp only [List.any_cons, List.any_nil, beq_self_eq_true, Bool.or_false, Bool.or_true, cond_true]
            rw [fIdx_append, hQ, cond_false, fIdx, beq_self_eq_true, cond_true]
            simp
          · simp only [List.length_append, List.length_cons, List.length_nil]; omega
          · have : (Q ++ [i] ++ [x]).getD (Q.length + 1) 0 = x := by
              rw [List.getD, List.getElem?_append_right (by simp)]
              simp
            rw [this]
      · have hx' : (frm v x == i) = false := eq_f e
        rcases path_at f (v.getD x.toNat dStd).2.1 (by omega) (by omega) e with ⟨g1, g2⟩ | ⟨m, g1, g2, g3, g4, g5⟩
        · refine .inl ⟨?_, ?_⟩
          · rw [List.any_append, g1]; simp [hix]
          · rw [hx', cond_false]
            cases decide (x ≤ i) with
            | true => rfl
            | false => exact g2
        · refine .inr ⟨m, ?_, ?_, ?_, by omega, ?_⟩
          · rw [List.any_append, g1]; rfl
          · rw [fIdx_append, g1, cond_true]; exact g2
          · rw [List.length_append]; omega
          · rw [dec_f (p := x ≤ i) (by omega), cond_false, hx', cond_false]
            have : (pathUp v f (v.getD x.toNat dStd).2.1 ++ [x]).getD (m + 1) 0 = (pathUp v f (v.getD x.toNat dStd).2.1).getD (m + 1) 0 := by
              exact getD_left g3
            rw [this]
            exact g5

theorem path_short {x : Int} (hx : x < (v.length : Int)) : (pathUp v N0 x).length ≤ 30 := by
  have h1 := path_len hc N0 x hx
  have h2 := chain_len hc
  omega

theorem recD_N0 {x : Int} (hx : x < (v.length : Int)) : recD v i day N0 x = inS v i day x := by
  have := N0_big
  have hn := chain_len hc
  exact recD_stab hc hi.1 N0 31 x hx (by omega) (by omega)

theorem impl_UsersOf_1_is {a : Nat} (ha : a < v.length) : impl_UsersOf_1 N0 (a : Int) i v = some (((inS v i 0 (a : Int), ()), ()), (i, (v, ()))) := by
  have := N0_big
  have hn := chain_len hc
  simp only [impl_UsersOf_1, impl_UsersOf_1_t]
  by_cases e : (a : Int) = i
  · rw [ne_f e, cond_false, show inS v i 0 (a : Int) = false from recD_low (by omega)]
  · have hs := path_short hc hi (x := (a : Int)) (by omega)
    rw [ne_true e, cond_true, impl_path_is hc (i := (a : Int)) (by omega), Option.bind_some]
    dsimp only
    rw [slices_Contains_is _ _ (by omega), Option.bind_some, ← recD_N0 hc hi 0 (x := (a : Int)) (by omega)]
    dsimp only
    rcases path_at hc hi 0 N0 (a : Int) (by omega) (by omega) e with ⟨g1, g2⟩ | ⟨m, g1, g2, g3, g4, g5⟩
    · rw [g1, g2]
    · rw [g1, g5]
      have hp := path_in hc N0 (a : Int) (by omega) ((pathUp v N0 (a : Int)).getD (m + 1) 0) (by rw [get_ix g3]; exact List.getElem_mem g3)
      have := (std_bd (chain_at hc hp).1).2.2.2
      rw [dec_t (by simp only [mad]; omega)]

theorem impl_RecallOf_1_is {a : Nat} (ha : a < v.length) : impl_RecallOf_1 N0 (a : Int) v i day = some (((inS v i day (a : Int), ()), ()), (v, (i, (day, ())))) := by
  have := N0_big
  have hn := chain_len hc
  have hs := path_short hc hi (x := (a : Int)) (by omega)
  simp only [impl_RecallOf_1, impl_RecallOf_1_t]
  rw [impl_path_is hc (i := (a : Int)) (by omega), Option.bind_some]
  dsimp only
  rw [slices_Index_is _ _ (by omega), Option.bind_some]
  dsimp only
  by_cases e : (a : Int) = i
  · rw [show inS v i day (a : Int) = false from recD_low (by omega), ne_f e, cond_false]
    cases decide (fIdx (fun a => i == a) (pathUp v N0 (a : Int)) 0 ≥ 0) <;> rfl
  · rw [ne_true e, cond_true, ← recD_N0 hc hi day (x := (a : Int)) (by omega)]
    rcases path_at hc hi day N0 (a : Int) (by omega) (by omega) e with ⟨g1, g2⟩ | ⟨m, g1, g2, g3, g4, g5⟩
    · rw [fIdx_any, g1, g2]; rfl
    · have hp := path_in hc N0 (a : Int) (by omega) ((pathUp v N0 (a : Int)).getD (m + 1) 0) (by rw [get_ix g3]; exact List.getElem_mem g3)
      rw [fIdx_any, g1, cond_true, g2, w_succ (i := m) (by omega)]
      rw [nn_t, lt_t g3, Bool.and_self, cond_true, Int.toNat_natCast, dec_t hp.1, dec_t hp.2, Bool.and_self, cond_true, g5]

theorem impl_thoseU_l3_is : ∀ (k a : Nat) (b : List Int), a ≤ v.length → b.length ≤ a → v.length - a < k →
    impl_those_at_impl_UsersOf_1_l3 N0 k (a : Int) (v.length : Int) i v b = some (((b ++ upF (inS v i 0) (v.length - a) a, ()), ()), (i, (v, ())))
  | 0, a, b, _, _, hk => by omega
  | k + 1, a, b, ha, hb, hk => by
    have hn := chain_len hc
    simp only [impl_those_at_impl_UsersOf_1_l3, impl_those_at_impl_UsersOf_1_t3]
    by_cases h : a < v.length
    · have ih := fun b hb => impl_thoseU_l3_is k (a + 1) b h hb (by omega)
      have hr : decide ((b.length + ((a : Int) :: []).length) * 9 ≤ 70368744177664) = true := dec_t (by simp only [List.length_cons, List.length_nil]; omega)
      simp only [lt_t h, cond_true, impl_UsersOf_1_is hc hi h, Option.bind_some, hr, w_succ (i := a) (by omega)]
      rw [show v.length - a = (v.length - (a + 1)) + 1 by omega, upF]
      cases inS v i 0 (a : Int) with
      | false => exact ih b (by omega)
      | true =>
        rw [cond_true, cond_true, ih _ (by simp; omega), List.append_assoc]
        rfl
    · have : a = v.length := by omega
      subst this
      simp only [lt_f h, cond_false, Nat.sub_self, upF, List.append_nil]

theorem impl_thoseR_l3_is : ∀ (k a : Nat) (b : List Int), a ≤ v.length → b.length ≤ a → v.length - a < k →
    impl_those_at_impl_RecallOf_1_l3 N0 k (a : Int) (v.length : Int) v i day b = some (((b ++ upF (inS v i day) (v.length - a) a, ()), ()), (v, (i, (day, ()))))
  | 0, a, b, _, _, hk => by omega
  | k + 1, a, b, ha, hb, hk => by
    have hn := chain_len hc
    simp only [impl_those_at_impl_RecallOf_1_l3, impl_those_at_impl_RecallOf_1_t3]
    by_cases h : a < v.length
    · have ih := fun b hb => impl_thoseR_l3_is k (a + 1) b h hb (by omega)
      have hr : decide ((b.length + ((a : Int) :: []).length) * 9 ≤ 70368744177664) = true := dec_t (by simp only [List.length_cons, List.length_nil]; omega)
      simp only [lt_t h, cond_true, impl_RecallOf_1_is hc hi day h, Option.bind_some, hr, w_succ (i := a) (by omega)]
      rw [show v.length - a = (v.length - (a + 1)) + 1 by omega, upF]
      cases inS v i day (a : Int) with
      | false => exact ih b (by omega)
      | true =>
        rw [cond_true, cond_true, ih _ (by simp; omega), List.append_assoc]
        rfl
    · have : a = v.length := by omega
      subst this
      simp only [lt_f h, cond_false, Nat.sub_self, upF, List.append_nil]
end

abbrev sinceRes (v : List Std) (i day at_ : Int) : Option (((List Int × Unit) × ((Int × Unit) × Unit)) × Unit) :=
  bif atC v i at_ != 0 then r2 [] (atC v i at_) else r2 (upF (inS v i day) v.length 0) 0

theorem sinceRes_ex (v : List Std) (i day at_ : Int) : ∃ o c, sinceRes v i day at_ = r2 o c ∧ o.length ≤ 1048576 := by
  unfold sinceRes
  by_cases h : atC v i at_ = 0
  · obtain ⟨hc, hi, hd⟩ := atC_ok h
    rw [ne_f h]
    have := chain_len hc
    have := upF_len (inS v i day) v.length 0
    exact ⟨_, _, rfl, by omega⟩
  · rw [ne_true h]
    exact ⟨_, _, rfl, by simp⟩

theorem impl_UsersOf_is (v : List Std) (i : Int) (hv : Sized v) : impl_UsersOf N0 v i = sinceRes v i 0 0 := by
  have := N0_big
  unfold impl_UsersOf impl_UsersOf_t sinceRes
  rw [impl_chainCode_0day v i hv, Option.bind_some]
  dsimp only
  by_cases h : atC v i 0 = 0
  · obtain ⟨hc, hi, hd⟩ := atC_ok h
    have hn := chain_len hc
    rw [ne_f h, cond_false, cond_false]
    have e : impl_those_at_impl_UsersOf_1 N0 v i v = _ := impl_thoseU_l3_is hc hi N0 0 [] (by omega) (by simp) (by omega)
    rw [e]
    rfl
  · rw [ne_true h]; rfl

theorem spec_UsersOf_is (v : List Std) (i : Int) (hv : Sized v) : spec_UsersOf N0 v i = sinceRes v i 0 0 := by
  unfold spec_UsersOf spec_UsersOf_t sinceRes
  rw [spec_l05At_is v i 0 hv, Option.bind_some]
  dsimp only
  by_cases h : atC v i 0 = 0
  · obtain ⟨hc, hi, hd⟩ := atC_ok h
    change (bif (atC v i 0 != 0) then _ else _) = _
    rw [ne_f h, cond_false, cond_false, spec_l05Since_is hc hi, Option.bind_some]
  · change (bif (atC v i 0 != 0) then _ else _) = _
    rw [ne_true h]; rfl

theorem impl_RecallOf_is (v : List Std) (i day : Int) (hv : Sized v) : impl_RecallOf N0 v i day = sinceRes v i day day := by
  have := N0_big
  unfold impl_RecallOf impl_RecallOf_t sinceRes
  rw [impl_chainCode_1day v i day hv, Option.bind_some]
  dsimp only
  by_cases h : atC v i day = 0
  · obtain ⟨hc, hi, hd⟩ := atC_ok h
    have hn := chain_len hc
    rw [ne_f h, cond_false, cond_false]
    have e : impl_those_at_impl_RecallOf_1 N0 v v i day = _ := impl_thoseR_l3_is hc hi day N0 0 [] (by omega) (by simp) (by omega)
    rw [e]
    rfl
  · rw [ne_true h]; rfl

theorem spec_RecallOf_is (v : List Std) (i day : Int) (hv : Sized v) : spec_RecallOf N0 v i day = sinceRes v i day day := by
  unfold spec_RecallOf spec_RecallOf_t sinceRes
  rw [spec_l05At_is v i day hv, Option.bind_some]
  dsimp only
  by_cases h : atC v i day = 0
  · obtain ⟨hc, hi, hd⟩ := atC_ok h
    change (bif (atC v i day != 0) then _ else _) = _
    rw [ne_f h, cond_false, cond_false, spec_l05Since_is hc hi, Option.bind_some]
  · change (bif (atC v i day != 0) then _ else _) = _
    rw [ne_true h]; rfl
end Go.Abs
