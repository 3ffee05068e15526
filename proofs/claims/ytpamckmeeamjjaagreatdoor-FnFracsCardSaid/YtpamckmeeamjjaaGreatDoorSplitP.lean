/- Texts cut at a byte. -/
import Derived.Test.YtpamckmeeamjjaaGreatDoorTextP
import Derived.Test.YtpamckmeeamjjaaGreatDoorIx
import Derived.Lib.SplitLaws
import Derived.Lib.IndexBytes
namespace Go.Abs
set_option linter.unusedSectionVars false
set_option linter.unusedSimpArgs false
set_option linter.unusedVariables false

def preC (p : List UInt8) : List (List UInt8) → List (List UInt8)
  | [] => [p]
  | w :: ws => (p ++ w) :: ws

/-- cut at each byte c -/
def splitC (c : UInt8) : List UInt8 → List (List UInt8)
  | [] => [[]]
  | x :: r => if x = c then [] :: splitC c r else preC [x] (splitC c r)

theorem splitC_ne (c : UInt8) : ∀ l, splitC c l ≠ []
  | [] => by simp [splitC]
  | x :: r => by
    unfold splitC
    split
    · simp
    · cases splitC c r <;> simp [preC]

theorem preC_nil {l : List (List UInt8)} (h : l ≠ []) : preC [] l = l := by
  cases l with
  | nil => exact absurd rfl h
  | cons w ws => rfl

theorem preC_preC (p q : List UInt8) {l : List (List UInt8)} (h : l ≠ []) : preC p (preC q l) = preC (p ++ q) l := by
  cases l with
  | nil => exact absurd rfl h
  | cons w ws => simp [preC]

theorem splitC_no {c : UInt8} : ∀ {l : List UInt8}, c ∉ l → splitC c l = [l]
  | [], _ => rfl
  | x :: r, h => by
    rw [List.mem_cons, not_or] at h
    rw [splitC, if_neg (Ne.symm h.1), splitC_no h.2]
    rfl

theorem splitC_app {c : UInt8} {rest : List UInt8} : ∀ {l : List UInt8}, c ∉ l → splitC c (l ++ c :: rest) = l :: splitC c rest
  | [], _ => by rw [List.nil_append, splitC, if_pos rfl]
  | x :: r, h => by
    rw [List.mem_cons, not_or] at h
    rw [List.cons_append, splitC, if_neg (Ne.symm h.1), splitC_app h.2]
    rfl

/-- put together again -/
def joinC (c : UInt8) : List (List UInt8) → List UInt8
  | [] => []
  | [w] => w
  | w :: ws => w ++ c :: joinC c ws

theorem joinC_pre (c : UInt8) (p : List UInt8) {l : List (List UInt8)} (h : l ≠ []) : joinC c (preC p l) = p ++ joinC c l := by
  match l, h with
  | [w], _ => rfl
  | w :: v :: ws, _ => simp [preC, joinC]

theorem joinC_split (c : UInt8) : ∀ l, joinC c (splitC c l) = l
  | [] => rfl
  | x :: r => by
    have ih := joinC_split c r
    unfold splitC
    split
    · rename_i h
      subst h
      match hs : splitC x r with
      | [] => exact absurd hs (splitC_ne x r)
      | w :: ws => rw [hs] at ih; simp [joinC, ih]
    · rw [joinC_pre c _ (splitC_ne c r), ih]
      rfl

theorem splitC_len (c : UInt8) : ∀ l, (splitC c l).length ≤ l.length + 1
  | [] => by simp [splitC]
  | x :: r => by
    have ih := splitC_len c r
    unfold splitC
    split
    · simp only [List.length_cons]; omega
    · match hs : splitC c r with
      | [] => exact absurd hs (splitC_ne c r)
      | w :: ws => rw [hs] at ih; simp only [preC, List.length_cons] at ih ⊢; omega

/-- no part is longer than the text -/
theorem splitC_part {c : UInt8} : ∀ {l : List UInt8} {w : List UInt8}, w ∈ splitC c l → w.length ≤ l.length
  | [], w, h => by simp [splitC] at h; simp [h]
  | x :: r, w, h => by
    unfold splitC at h
    split at h
    · rcases List.mem_cons.1 h with h | h
      · simp [h]
      · have := splitC_part h; simp only [List.length_cons]; omega
    · match hs : splitC c r with
      | [] => exact absurd hs (splitC_ne c r)
      | v :: vs =>
        rw [hs] at h
        simp only [preC, List.mem_cons] at h
        rcases h with h | h
        · have := splitC_part (c := c) (l := r) (w := v) (by rw [hs]; simp)
          rw [h]; simp only [List.singleton_append, List.length_cons]; omega
        · have := splitC_part (c := c) (l := r) (w := w) (by rw [hs]; simp [h])
          simp only [List.length_cons]; omega

open Go.Lib in
theorem splitK_one (c : UInt8) : ∀ l, splitK [c] 0 (l.count c) l = splitC c l
  | [] => rfl
  | x :: r => by
    have ih := splitK_one c r
    unfold splitC
    by_cases hx : x = c
    · subst hx
      rw [if_pos rfl, List.count_cons_self, splitK, index_one]
      simp only [indexByte, beq_self_eq_true, if_true]
      rw [if_neg (by decide)]
      simp only [Int.toNat_zero, Nat.zero_add, List.take_zero, List.length_cons, List.length_nil, List.drop_succ_cons, List.drop_zero, ih]
    · rw [if_neg hx, List.count_cons_of_ne hx, ← ih]
      cases hk : r.count c with
      | zero => rfl
      | succ k =>
        rw [splitK, splitK, index_one, index_one]
        have hb : (x == c) = false := by simp [hx]
        simp only [indexByte, hb, Bool.false_eq_true, if_false]
        by_cases hi : indexByte r c = -1
        · rw [hi]
          rfl
        · have hge := indexByte_ge r c
          have e1 : (indexByte r c == -1) = false := by simp [hi]
          rw [e1]
          simp only [Bool.false_eq_true, if_false]
          rw [if_neg (by simp; omega)]
          have e2 : (indexByte r c + 1).toNat = (indexByte r c).toNat + 1 := by omega
          rw [e2]
          rfl

theorem map_bs {xs : List ByteArray} {ys : List (List UInt8)} (h : xs.map (·.data.toList) = ys) : xs = ys.map bs := by
  subst h
  rw [List.map_map]
  conv => lhs; rw [← List.map_id xs]
  apply List.map_congr_left
  intro x _
  exact bs_eta x

theorem strings_Split_is {s : ByteArray} {c : UInt8} (hs : s.size < 4294967281) : strings_Split N0 s (bs [c]) = r1 ((splitC c s.data.toList).map bs) := by
  unfold strings_Split
  rw [dec_t hs, dec_t (by rw [bs_size]; simp), Bool.and_self, cond_true]
  have h := Go.Lib.splitB_data (bs [c]) 0 (Go.Lib.countB s (bs [c])) s
  have e : Go.Lib.splitK (bs [c]).data.toList 0 (Go.Lib.countB s (bs [c])) s.data.toList = splitC c s.data.toList := by
    have : Go.Lib.countB s (bs [c]) = s.data.toList.count c := Go.Lib.count_one c _
    rw [this]
    exact splitK_one c _
  rw [e] at h
  rw [map_bs h]

/-! ### the reference's -/
theorem byteAt_ix {s : ByteArray} {i : Nat} (h : i < s.data.toList.length) : byteAt s (i : Int) = ((s.data.toList[i].toNat : Nat) : Int) := by
  unfold byteAt
  have : s.data[((i : Int)).toNat]? = some s.data.toList[i] := by simp at h ⊢
  rw [this]
  rfl

theorem extract_bs (s : ByteArray) (b e : Nat) : ByteArray.extract s b e = bs ((s.data.toList.drop b).take (e - b)) := by
  apply ByteArray.ext
  apply Array.ext'
  rw [Go.Lib.extract_data]

theorem size_len (s : ByteArray) : ByteArray.size s = s.data.toList.length := (Array.length_toList).symm

theorem spec_l01Split_l4_is (s : ByteArray) (c : UInt8) (hs : s.size ≤ 1048577) : ∀ (k i b : Nat) (p : List ByteArray), i ≤ s.data.toList.length → b ≤ i → p.length ≤ i → s.data.toList.length - i < k →
    spec_l01Split_l4 N0 k (i : Int) (b : Int) s ((c.toNat : Nat) : Int) p = r1 (p ++ (preC ((s.data.toList.drop b).take (i - b)) (splitC c (s.data.toList.drop i))).map bs)
  | 0, i, b, p, _, _, _, hk => by omega
  | k + 1, i, b, p, hi, hb, hp, hk => by
    have hl := size_len s
    simp only [spec_l01Split_l4, spec_l01Split_t4]
    rw [hl]
    by_cases h : i < s.data.toList.length
    · rw [lt_t h, nn_t, byteAt_ix h]
      simp only [cond_true, Bool.and_self]
      rw [drop_ix h, splitC]
      by_cases hc : s.data.toList[i] = c
      · rw [if_pos hc, hc]
        rw [dec_t (p := (0 : Int) ≤ (b : Int)) (by omega), dec_t (p := (b : Int) ≤ (i : Int)) (by omega), dec_t (p := (i : Int) ≤ ((s.data.toList.length : Nat) : Int)) (by omega)]
        have hr : decide ((p.length + (0 + 1)) * 17 ≤ 70368744177664) = true := dec_t (by omega)
        simp only [beq_self_eq_true, cond_true, Bool.and_self, List.length_cons, List.length_nil, hr, w_succ (i := i) (by omega), Int.toNat_natCast]
        rw [spec_l01Split_l4_is s c hs k (i + 1) (i + 1) _ h (Nat.le_refl _) (by simp; omega) (by omega), Nat.sub_self, List.take_zero, preC_nil (splitC_ne _ _), extract_bs]
        simp [preC]
      · have hne : ((((s.data.toList[i]).toNat : Nat) : Int) == ((c.toNat : Nat) : Int)) = false := by
          exact eq_f fun e => hc (UInt8.toNat_inj.1 (Int.ofNat.inj e))
        rw [if_neg hc, hne, cond_false, w_succ (i := i) (by omega)]
        rw [spec_l01Split_l4_is s c hs k (i + 1) b p h (by omega) (by omega) (by omega)]
        rw [preC_preC _ _ (splitC_ne _ _)]
        congr 4
        rw [show i + 1 - b = (i - b) + 1 by omega, List.take_add_one]
        congr 1
        rw [List.getElem?_drop, show b + (i - b) = i by omega, List.getElem?_eq_getElem h]
        rfl
    · have : i = s.data.toList.length := by omega
      subst this
      rw [lt_f (Nat.lt_irrefl _), cond_false]
      rw [dec_t (p := (0 : Int) ≤ (b : Int)) (by omega), dec_t (p := (b : Int) ≤ ((s.data.toList.length : Nat) : Int)) (by omega), dec_t (p := ((s.data.toList.length : Nat) : Int) ≤ ((s.data.toList.length : Nat) : Int)) (by omega)]
      have hr : decide ((p.length + (0 + 1)) * 17 ≤ 70368744177664) = true := dec_t (by omega)
      simp only [cond_true, Bool.and_self, List.length_cons, List.length_nil, hr, Int.toNat_natCast]
      rw [List.drop_length, splitC, extract_bs]
      simp [preC]

theorem spec_l01Split_is (s : ByteArray) (c : UInt8) (hs : s.size ≤ 1048577) : spec_l01Split N0 s ((c.toNat : Nat) : Int) = r1 ((splitC c s.data.toList).map bs) := by
  have := N0_big
  have hl := size_len s
  unfold spec_l01Split spec_l01Split_t
  have e := spec_l01Split_l4_is s c hs N0 0 0 [] (by omega) (by omega) (by simp) (by omega)
  rw [List.drop_zero, Nat.sub_zero, List.take_zero, preC_nil (splitC_ne _ _), List.nil_append] at e
  exact e
end Go.Abs
