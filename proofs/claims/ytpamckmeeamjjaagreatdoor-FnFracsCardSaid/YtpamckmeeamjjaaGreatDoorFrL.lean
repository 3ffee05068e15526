/- Lists of fractions over one denominator: sums, means, the middle. -/
import Derived.Test.YtpamckmeeamjjaaGreatDoorFrB
import Derived.Test.YtpamckmeeamjjaaGreatDoorSrcP
namespace Go.Abs
set_option linter.unusedSectionVars false
set_option linter.unusedSimpArgs false
set_option linter.unusedVariables false

/-! ### sorting whole numbers -/
def insI (x : Int) : List Int → List Int
  | [] => [x]
  | y :: r => bif decide (y ≤ x) then y :: insI x r else x :: y :: r

def sortI (l : List Int) : List Int := l.foldl (fun b x => insI x b) []

theorem insI_len (x : Int) : ∀ l, (insI x l).length = l.length + 1
  | [] => rfl
  | y :: r => by
    unfold insI
    cases decide (y ≤ x) with
    | true => simp [insI_len x r]
    | false => simp

theorem insI_mem {x z : Int} : ∀ {l : List Int}, z ∈ insI x l ↔ z = x ∨ z ∈ l
  | [] => by simp [insI]
  | y :: r => by
    unfold insI
    cases decide (y ≤ x) with
    | true => simp only [cond_true, List.mem_cons, insI_mem (l := r)]; constructor <;> rintro (h | h | h) <;> simp [h]
    | false => simp [List.mem_cons]

theorem insI_split {x : Int} {post : List Int} (hp : ∀ y r, post = y :: r → x < y) : ∀ {pre : List Int}, (∀ y ∈ pre, y ≤ x) → insI x (pre ++ post) = pre ++ x :: post
  | [], _ => by
    cases post with
    | nil => rfl
    | cons y r =>
      have := hp y r rfl
      rw [List.nil_append, insI, dec_f (by omega)]
      rfl
  | z :: pre, h => by
    rw [List.cons_append, insI, dec_t (h z (by simp)), cond_true, insI_split hp (fun y hy => h y (by simp [hy]))]
    rfl

abbrev SortedI (l : List Int) : Prop := l.Pairwise (· ≤ ·)

theorem insI_sorted {x : Int} : ∀ {l : List Int}, SortedI l → SortedI (insI x l)
  | [], _ => by simp [insI, SortedI]
  | y :: r, h => by
    have h' := List.pairwise_cons.1 h
    unfold insI
    by_cases hc : y ≤ x
    · rw [dec_t hc, cond_true]
      refine List.pairwise_cons.2 ⟨?_, insI_sorted h'.2⟩
      intro z hz
      rcases insI_mem.1 hz with rfl | hz
      · exact hc
      · exact h'.1 z hz
    · rw [dec_f hc, cond_false]
      refine List.pairwise_cons.2 ⟨?_, h⟩
      intro z hz
      rcases List.mem_cons.1 hz with rfl | hz
      · omega
      · have := h'.1 z hz; omega

theorem sort_fold : ∀ (l b : List Int), SortedI b → SortedI (l.foldl (fun b x => insI x b) b) ∧ (l.foldl (fun b x => insI x b) b).length = b.length + l.length ∧ ∀ z, z ∈ l.foldl (fun b x => insI x b) b ↔ z ∈ l ∨ z ∈ b
  | [], b, h => ⟨h, rfl, fun z => ⟨fun hz => .inr hz, fun hz => hz.resolve_left (by simp)⟩⟩
  | x :: l, b, h => by
    obtain ⟨h1, h2, h3⟩ := sort_fold l (insI x b) (insI_sorted h)
    refine ⟨h1, ?_, ?_⟩
    · rw [List.foldl_cons, h2, insI_len, List.length_cons]; omega
    · intro z
      rw [List.foldl_cons, h3 z, insI_mem, List.mem_cons]
      constructor
      · rintro (h | h | h)
        · exact .inl (.inr h)
        · exact .inl (.inl h)
        · exact .inr h
      · rintro ((h | h) | h)
        · exact .inr (.inl h)
        · exact .inl h
        · exact .inr (.inr h)

theorem sortI_spec (l : List Int) : SortedI (sortI l) ∧ (sortI l).length = l.length ∧ ∀ z, z ∈ sortI l ↔ z ∈ l := by
  obtain ⟨h1, h2, h3⟩ := sort_fold l [] List.Pairwise.nil
  exact ⟨h1, by unfold sortI; rw [h2]; simp, fun z => by unfold sortI; rw [h3]; simp⟩

theorem sortI_snoc (l : List Int) (x : Int) : sortI (l ++ [x]) = insI x (sortI l) := by
  unfold sortI
  rw [List.foldl_append]
  rfl

/-- one element on its way down -/
def downI (arr : List Int) : Nat → List Int
  | 0 => arr
  | j + 1 => bif decide (arr.getD (j + 1) 0 < arr.getD j 0) then downI ((arr.set (j + 1) (arr.getD j 0)).set j (arr.getD (j + 1) 0)) j else arr

theorem insI_snoc {x y : Int} (h : x < y) : ∀ l, insI x (l ++ [y]) = insI x l ++ [y]
  | [] => by
    show (bif decide (y ≤ x) then y :: insI x [] else x :: [y]) = _
    rw [dec_f (by omega)]; rfl
  | z :: l => by
    rw [List.cons_append, insI, insI]
    cases decide (z ≤ x) with
    | true => rw [cond_true, cond_true, insI_snoc h l]; rfl
    | false => rfl

theorem down_ins (x : Int) : ∀ (n : Nat) (l rest : List Int), l.length = n → SortedI l → downI (l ++ x :: rest) n = insI x l ++ rest
  | 0, l, rest, hn, _ => by
    have := List.length_eq_zero_iff.1 hn
    subst this
    rfl
  | n + 1, l, rest, hn, hs => by
    have hne : l ≠ [] := by intro e; rw [e] at hn; simp at hn
    obtain ⟨l', y, rfl⟩ : ∃ l' y, l = l' ++ [y] := ⟨l.dropLast, l.getLast hne, (List.dropLast_concat_getLast hne).symm⟩
    have hn' : l'.length = n := by simp at hn; exact hn
    subst hn'
    have g1 : ((l' ++ [y]) ++ x :: rest).getD (l'.length + 1) 0 = x := by simp [List.getD]
    have g0 : ((l' ++ [y]) ++ x :: rest).getD l'.length 0 = y := by simp [List.getD]
    rw [downI, g1, g0]
    have hs' : SortedI l' := (List.pairwise_append.1 hs).1
    by_cases h : x < y
    · rw [dec_t h, cond_true]
      have e : (((l' ++ [y]) ++ x :: rest).set (l'.length + 1) y).set l'.length x = l' ++ x :: (y :: rest) := by simp
      rw [e, down_ins x l'.length l' (y :: rest) rfl hs', insI_snoc h]
      simp
    · rw [dec_f h, cond_false]
      have hall : ∀ z ∈ l' ++ [y], z ≤ x := by
        intro z hz
        rcases List.mem_append.1 hz with hz | hz
        · have := (List.pairwise_append.1 hs).2.2 z hz y (by simp)
          omega
        · simp only [List.mem_cons, List.mem_nil_iff, or_false] at hz
          omega
      have := insI_split (x := x) (post := []) (by simp) hall
      rw [List.append_nil] at this
      rw [this]
      simp

/-! ### the same of fractions over D -/
section
variable {D : Int} (h : Dn D)
include h

theorem map_F {F : Int → Fq} (arr : List Int) (i : Nat) (hi : i < arr.length) : (arr.map F).getD i (0, 0) = F (arr.getD i 0) := by
  rw [get_ix (by rw [List.length_map]; exact hi), get_ix hi]
  simp

theorem impl_asc_is {A B : Int} (hA : Sm A) (hB : Sm B) : impl_ascending_1 N0 (cF D A) (cF D B) = r1 (cmpF (cF D A) (cF D B)) := by
  simp only [impl_ascending_1, impl_ascending_1_t, pr_eta, impl_compare_is, Option.bind_some]

theorem downI_len : ∀ (j : Nat) (arr : List Int), (downI arr j).length = arr.length
  | 0, _ => rfl
  | j + 1, arr => by
    rw [downI]
    cases decide (arr.getD (j + 1) 0 < arr.getD j 0) with
    | true => rw [cond_true, downI_len j]; simp
    | false => rfl

theorem set_sm {arr : List Int} (hs : ∀ x ∈ arr, Sm x) {i : Nat} {x : Int} (hx : Sm x) : ∀ y ∈ arr.set i x, Sm y := by
  intro y hy
  rcases List.mem_or_eq_of_mem_set hy with hy | rfl
  · exact hs y hy
  · exact hx

theorem insert_l4_is (G : Int → Int → Int → List Fq → Option (Unit × (List Fq × Unit))) (b i : Int) (hi : 0 ≤ i ∧ i ≤ 1000) : ∀ (k j : Nat) (arr : List Int), j < k → j < arr.length → (∀ x ∈ arr, Sm x) → arr.length ≤ 1000 →
    slices_insertionSortCmpFunc_impl_Frac_at_impl_ascending_1_l4 N0 G k (j : Int) 0 b i (arr.map (cF D)) = G (i + 1) 0 b ((downI arr j).map (cF D))
  | 0, j, _, hk, _, _, _ => by omega
  | k + 1, 0, arr, _, hj, hs, hl => by
    simp only [slices_insertionSortCmpFunc_impl_Frac_at_impl_ascending_1_l4, slices_insertionSortCmpFunc_impl_Frac_at_impl_ascending_1_t4]
    rw [dec_f (by omega), cond_false, w_in (x := i + 1) (by unfold I64; omega), downI]
  | k + 1, j + 1, arr, hk, hj, hs, hl => by
    have e1 : IntKind.wrap .i64 (((j + 1 : Nat) : Int) - 1) = ((j : Nat) : Int) := by rw [w_in (by unfold I64; omega)]; omega
    have g1 := map_F h (F := cF D) arr (j + 1) hj
    have g0 := map_F h (F := cF D) arr j (by omega)
    have s1 : Sm (arr.getD (j + 1) 0) := by rw [get_ix hj]; exact hs _ (List.getElem_mem _)
    have s0 : Sm (arr.getD j 0) := by rw [get_ix (by omega : j < arr.length)]; exact hs _ (List.getElem_mem _)
    simp only [slices_insertionSortCmpFunc_impl_Frac_at_impl_ascending_1_l4, slices_insertionSortCmpFunc_impl_Frac_at_impl_ascending_1_t4]
    rw [dec_t (p := ((j + 1 : Nat) : Int) > 0) (by omega), cond_true, e1, List.length_map, in_t hj, cond_true, in_t (by omega : j < arr.length), cond_true, Int.toNat_natCast, Int.toNat_natCast, g1, g0]
    simp only [pr_eta]
    rw [impl_asc_is h s1 s0, Option.bind_some]
    dsimp only
    rw [cF_lt h s1 s0, downI]
    cases hc : decide (arr.getD (j + 1) 0 < arr.getD j 0) with
    | false => rw [cond_false, cond_false, w_in (x := i + 1) (by unfold I64; omega)]
    | true =>
      rw [cond_true, cond_true, cond_true, cond_true, List.length_set, List.length_map, in_t (by omega : j < arr.length), cond_true, ← List.map_set, ← List.map_set]
      exact insert_l4_is G b i hi k j _ (by omega) (by simp; omega) (set_sm h (set_sm h hs s0) s1) (by simpa using hl)
end

set_option maxRecDepth 100000 in
theorem bits_small {x : Int} (hx : 1 ≤ x ∧ x ≤ 8) : ∃ r, math_bits_Len N0 x = r1 r := by
  obtain rfl | rfl | rfl | rfl | rfl | rfl | rfl | rfl : x = 1 ∨ x = 2 ∨ x = 3 ∨ x = 4 ∨ x = 5 ∨ x = 6 ∨ x = 7 ∨ x = 8 := by omega
  all_goals exact ⟨_, rfl⟩

theorem w_u64_small {x : Int} (hx : 1 ≤ x ∧ x ≤ 8) : IntKind.wrap .u64 x = x := by
  obtain rfl | rfl | rfl | rfl | rfl | rfl | rfl | rfl : x = 1 ∨ x = 2 ∨ x = 3 ∨ x = 4 ∨ x = 5 ∨ x = 6 ∨ x = 7 ∨ x = 8 := by omega
  all_goals rfl

section
variable {D : Int} (h : Dn D)
include h

theorem insert_l1_is (b : Nat) (hb : b ≤ 1000) : ∀ (k : Nat) (P rest : List Int), P.length + rest.length = b → rest.length < k → (∀ x ∈ P ++ rest, Sm x) →
    slices_insertionSortCmpFunc_impl_Frac_at_impl_ascending_1_l1 N0 k (P.length : Int) 0 (b : Int) ((sortI P ++ rest).map (cF D)) = some ((), ((sortI (P ++ rest)).map (cF D), ()))
  | 0, P, rest, _, hk, _ => by omega
  | k + 1, P, [], hl, _, hs => by
    simp only [slices_insertionSortCmpFunc_impl_Frac_at_impl_ascending_1_l1, slices_insertionSortCmpFunc_impl_Frac_at_impl_ascending_1_t1]
    rw [dec_f (by simp at hl; omega), cond_false, List.append_nil, List.append_nil]
  | k + 1, P, x :: rest, hl, hk, hs => by
    have hN := N0_big
    obtain ⟨g1, g2, g3⟩ := sortI_spec P
    have hsm : ∀ y ∈ sortI P ++ x :: rest, Sm y := by
      intro y hy
      rcases List.mem_append.1 hy with hy | hy
      · exact hs y (List.mem_append_left _ ((g3 y).1 hy))
      · exact hs y (List.mem_append_right _ hy)
    simp only [slices_insertionSortCmpFunc_impl_Frac_at_impl_ascending_1_l1, slices_insertionSortCmpFunc_impl_Frac_at_impl_ascending_1_t1]
    rw [dec_t (by simp at hl; omega), cond_true]
    rw [insert_l4_is h _ (b : Int) (P.length : Int) (by simp at hl; omega) N0 P.length (sortI P ++ x :: rest) (by simp at hl; omega) (by rw [List.length_append, g2]; simp) hsm (by rw [List.length_append, g2]; omega)]
    rw [down_ins x P.length (sortI P) rest g2 g1, ← sortI_snoc]
    have := insert_l1_is b hb k (P ++ [x]) rest (by simp at hl ⊢; omega) (by simp at hk; omega) (by simpa using hs)
    rw [List.length_append] at this
    simp only [List.length_cons, List.length_nil] at this
    rw [show ((P.length : Nat) : Int) + 1 = ((P.length + (0 + 1) : Nat) : Int) by omega, this]
    simp

theorem impl_ascending_is {As : List Int} (hl : 1 ≤ As.length ∧ As.length ≤ 8) (hs : ∀ x ∈ As, Sm x) : impl_ascending N0 (As.map (cF D)) = r1 ((sortI As).map (cF D)) := by
  have hN := N0_big
  obtain ⟨k, hk⟩ : ∃ k, N0 = k + 1 := ⟨N0 - 1, by omega⟩
  have hc : slices_Clone_impl_Frac_impl_Frac N0 (As.map (cF D)) = r1 (As.map (cF D)) := by
    unfold slices_Clone_impl_Frac_impl_Frac slices_Clone_impl_Frac_impl_Frac_t
    rw [dec_t (by rw [List.length_map]; omega)]
    cases As with
    | nil => simp at hl
    | cons x r => rfl
  obtain ⟨r, hr⟩ := bits_small (x := (As.length : Int)) (by omega)
  have hw : IntKind.wrap .u64 (As.length : Int) = (As.length : Int) := w_u64_small (by omega)
  have hins : slices_insertionSortCmpFunc_impl_Frac_at_impl_ascending_1 N0 0 (As.length : Int) (As.map (cF D)) = some ((), ((sortI As).map (cF D), ())) := by
    clear hr hw hc
    obtain ⟨x, rest, rfl⟩ : ∃ x rest, As = x :: rest := by
      cases As with
      | nil => simp at hl
      | cons x r => exact ⟨x, r, rfl⟩
    have hthis := insert_l1_is h (x :: rest).length (by omega) N0 [x] rest (by simp; omega) (by simp at hl; omega) hs
    have e1 : IntKind.wrap .i64 ((0 : Int) + 1) = (([x].length : Nat) : Int) := by rw [w_in (by unfold I64; omega)]; rfl
    have e2 : sortI [x] ++ rest = x :: rest := rfl
    unfold slices_insertionSortCmpFunc_impl_Frac_at_impl_ascending_1 slices_insertionSortCmpFunc_impl_Frac_at_impl_ascending_1_t
    rw [e1]
    rw [e2] at hthis
    exact hthis
  have hp : slices_pdqsortCmpFunc_impl_Frac_at_impl_ascending_1 N0 0 (As.length : Int) r (As.map (cF D)) = some ((), ((sortI As).map (cF D), ())) := by
    unfold slices_pdqsortCmpFunc_impl_Frac_at_impl_ascending_1 slices_pdqsortCmpFunc_impl_Frac_at_impl_ascending_1_t
    rw [show slices_pdqsortCmpFunc_impl_Frac_at_impl_ascending_1_l2 N0 N0 = slices_pdqsortCmpFunc_impl_Frac_at_impl_ascending_1_l2 N0 (k + 1) by rw [← hk]]
    simp only [slices_pdqsortCmpFunc_impl_Frac_at_impl_ascending_1_l2, slices_pdqsortCmpFunc_impl_Frac_at_impl_ascending_1_t2]
    rw [w_in (by unfold I64; omega), dec_t (by omega), cond_true, hins]
    rfl
  simp only [impl_ascending, impl_ascending_t, hc, Option.bind_some, slices_SortFunc_impl_Frac_impl_Frac_at_impl_ascending_1, slices_SortFunc_impl_Frac_impl_Frac_at_impl_ascending_1_t, List.length_map, hw, hr, hp]

/-! ### the reference's -/
theorem cmp_asc_is {A B : Int} : spec_l01Cmp N0 (cF D A) (cF D B) = r1 (cmpF (cF D A) (cF D B)) := spec_l01Cmp_is N0 _ _

theorem sorted_l6_is (G : Int → List Fq → List Fq → Option (((List Fq × Unit) × Unit) × Unit)) (As : List Int) (i : Nat) (hi : i < As.length) (hl : As.length ≤ 8) (hs : ∀ x ∈ As, Sm x) (S : List Int) (hS : S.length ≤ 8) (hSs : ∀ x ∈ S, Sm x) :
    ∀ (k j : Nat), j ≤ S.length → S.length - j < k → (∀ y ∈ S.take j, y ≤ As[i]) →
    spec_l01Sorted_l6 N0 G k (j : Int) (As.map (cF D)) (i : Int) (S.map (cF D)) = G ((i + 1 : Nat) : Int) (As.map (cF D)) ((insI As[i] S).map (cF D))
  | 0, j, _, hk, _ => by omega
  | k + 1, j, hj, hk, hpre => by
    have hgx : (As.map (cF D)).getD i (0, 0) = cF D As[i] := by rw [map_F h As i hi, get_ix hi]
    have hsx : Sm As[i] := hs _ (List.getElem_mem _)
    have hA : (((S.map (cF D)).drop 0).take (Int.toNat (j : Int) - Int.toNat 0)) = (S.take j).map (cF D) := by simp
    have hB : (((S.map (cF D)).drop (Int.toNat (j : Int))).take (Int.toNat ((S.length : Nat) : Int) - Int.toNat (j : Int))) = (S.drop j).map (cF D) := by
      rw [Int.toNat_natCast, Int.toNat_natCast, List.map_drop]
      exact List.take_of_length_le (by simp)
    have hlA : ((S.take j).map (cF D)).length ≤ 8 := by simp; omega
    have hlB : ((S.drop j).map (cF D)).length ≤ 8 := by simp; omega
    have hins : (∀ y r, S.drop j = y :: r → As[i] < y) → (S.take j).map (cF D) ++ ([cF D As[i]] ++ (S.drop j).map (cF D)) = (insI As[i] S).map (cF D) := by
      intro hp
      have := insI_split hp hpre
      rw [List.take_append_drop] at this
      rw [this]
      simp
    simp only [spec_l01Sorted_l6, spec_l01Sorted_t6, List.length_map, pr_eta, Int.toNat_natCast (n := i), hgx, hA, hB, List.nil_append]
    rw [in_t hi, nn_t, dec_t (p := (j : Int) ≤ ((S.length : Nat) : Int)) (by omega), dec_t (p := ((S.length : Nat) : Int) ≤ ((S.length : Nat) : Int)) (by omega),
      dec_t (p := ([cF D As[i]].length + (List.drop j S).length) * 17 ≤ 70368744177664) (by simp at hlB ⊢; omega), dec_t (p := (0 + (List.take j S).length) * 17 ≤ 70368744177664) (by simp at hlA ⊢; omega),
      dec_t (p := ((List.take j S).length + ([cF D As[i]] ++ List.map (cF D) (List.drop j S)).length) * 17 ≤ 70368744177664) (by simp at hlA hlB ⊢; omega), w_succ (i := i) (by omega)]
    simp only [Bool.and_self, cond_true, Bool.true_and]
    by_cases hlt : j < S.length
    · have hgj : (S.map (cF D)).getD (Int.toNat (j : Int)) (0, 0) = cF D S[j] := by rw [Int.toNat_natCast, map_F h S j hlt, get_ix hlt]
      have hsj : Sm S[j] := hSs _ (List.getElem_mem _)
      rw [dec_t (p := (j : Int) < ((S.length : Nat) : Int)) (by omega), cond_true, cond_true, hgj, cmp_asc_is h, Option.bind_some]
      dsimp only
      rw [cF_le h hsj hsx]
      by_cases hc : S[j] ≤ As[i]
      · rw [dec_t hc, cond_true, w_succ (i := j) (by omega)]
        refine sorted_l6_is G As i hi hl hs S hS hSs k (j + 1) hlt (by omega) ?_
        intro y hy
        rw [List.take_succ_eq_append_getElem hlt] at hy
        rcases List.mem_append.1 hy with hy | hy
        · exact hpre y hy
        · simp only [List.mem_cons, List.mem_nil_iff, or_false] at hy
          rw [hy]; exact hc
      · rw [dec_f hc, cond_false, hins]
        intro y r e
        rw [List.drop_eq_getElem_cons hlt] at e
        injection e with e _
        omega
    · have : j = S.length := by omega
      subst this
      rw [dec_f (p := ((S.length : Nat) : Int) < ((S.length : Nat) : Int)) (by omega), cond_false, hins]
      intro y r e
      rw [List.drop_length] at e
      cases e

theorem sorted_l3_is (As : List Int) (hl : As.length ≤ 8) (hs : ∀ x ∈ As, Sm x) : ∀ (k i : Nat), i ≤ As.length → As.length - i < k →
    spec_l01Sorted_l3 N0 k (i : Int) (As.map (cF D)) ((sortI (As.take i)).map (cF D)) = r1 ((sortI As).map (cF D))
  | 0, i, _, hk => by omega
  | k + 1, i, hi, hk => by
    have hN := N0_big
    simp only [spec_l01Sorted_l3, spec_l01Sorted_t3, List.length_map]
    by_cases hlt : i < As.length
    · obtain ⟨g1, g2, g3⟩ := sortI_spec (As.take i)
      rw [lt_t hlt, cond_true]
      have e := sorted_l6_is h (spec_l01Sorted_l3 N0 k) As i hlt hl hs (sortI (As.take i)) (by rw [g2, List.length_take]; omega) (fun x hx => hs x (List.mem_of_mem_take ((g3 x).1 hx))) N0 0 (by omega) (by rw [g2, List.length_take]; omega) (by simp)
      rw [show ((0 : Nat) : Int) = 0 from rfl] at e
      rw [e, ← sortI_snoc, ← List.take_succ_eq_append_getElem hlt]
      exact sorted_l3_is As hl hs k (i + 1) hlt (by omega)
    · have : i = As.length := by omega
      subst this
      rw [lt_f (Nat.lt_irrefl _), cond_false, List.take_length]

theorem spec_Sorted_is {As : List Int} (hl : As.length ≤ 8) (hs : ∀ x ∈ As, Sm x) : spec_l01Sorted N0 (As.map (cF D)) = r1 ((sortI As).map (cF D)) := by
  have hN := N0_big
  have e := sorted_l3_is h As hl hs N0 0 (by omega) (by omega)
  rw [List.take_zero] at e
  unfold spec_l01Sorted spec_l01Sorted_t
  exact e
end
end Go.Abs
