/- Sectors as a head sees them. -/
import Derived.Test.YtipjecagbndhbaaDPMarks0
import Derived.Test.YtipjecagbndhbaaDiskL
import Derived.Test.YtipjecagbndhbaaInts
namespace Go.Abs
set_option linter.unusedSectionVars false
set_option linter.unusedSimpArgs false
set_option linter.unusedVariables false

/-- the width of each of n sectors -/
abbrev secW (n : Int) : Int := Int.tdiv 1296000 n
abbrev sec1 (d : Dk) (l a b : Int) : Int := turn (headR d a l) (headR d b l)
/-- sector i of n, as a head sees it -/
def secT (d : Dk) (n l : Int) (i : Nat) : Int :=
  bif decide (sec1 d l ((i : Int) * secW n) ((((i : Int) + 1) * secW n) % 1296000) ≤ 0) then sec1 d l ((i : Int) * secW n) ((((i : Int) + 1) * secW n) % 1296000) + 1296000 else sec1 d l ((i : Int) * secW n) ((((i : Int) + 1) * secW n) % 1296000)
def secUp (d : Dk) (n l : Int) : Nat → Nat → List Int
  | 0, _ => []
  | k + 1, i => secT d n l i :: secUp d n l k (i + 1)

theorem secUp_len (d : Dk) (n l : Int) : ∀ (k i : Nat), (secUp d n l k i).length = k
  | 0, i => rfl
  | k + 1, i => by rw [secUp, List.length_cons, secUp_len d n l k]

/-- a number of sectors that divides the circle -/
structure SecsIs (n : Int) : Prop where
  lo : 2 ≤ n
  hi : n ≤ 72
  mul : n * secW n = 1296000
  wd : 1 ≤ secW n ∧ secW n ≤ 1296000

theorem SecsIs.of {n : Int} (h : btw n 2 72 = true) (hm : Int.tmod 1296000 n = 0) : SecsIs n := by
  rw [btw_iff] at h
  have e : n * secW n + Int.tmod 1296000 n = 1296000 := Int.mul_tdiv_add_tmod 1296000 n
  rw [hm, Int.add_zero] at e
  have hw : secW n = 1296000 / n := Int.tdiv_eq_ediv_of_nonneg (by omega)
  have h0 : 0 ≤ secW n := by rw [hw]; exact Int.ediv_nonneg (by omega) (by omega)
  have h1 : secW n ≤ 1296000 := by rw [hw]; exact Int.ediv_le_self n (by omega)
  refine ⟨h.1, h.2, e, ?_, h1⟩
  rcases Int.lt_or_le (secW n) 1 with h2 | h2
  · have : secW n = 0 := by omega
    rw [this] at e
    simp at e
  · exact h2

theorem secs_at {n : Int} (h : SecsIs n) {i : Nat} (hi : (i : Int) < n) : (0 ≤ (i : Int) * secW n ∧ (i : Int) * secW n ≤ 1295999) ∧ (0 ≤ ((i : Int) + 1) * secW n ∧ ((i : Int) + 1) * secW n ≤ 1296000) := by
  have h1 : ((i : Int) + 1) * secW n ≤ n * secW n := Int.mul_le_mul_of_nonneg_right (by omega) (by have := h.wd; omega)
  have h2 : 0 ≤ (i : Int) * secW n := Int.mul_nonneg (by omega) (by have := h.wd; omega)
  have h3 := h.mul
  have h4 := h.wd
  rw [Int.add_mul, Int.one_mul] at h1 ⊢
  omega

section
variable {d : Dk} {n l : Int} (hd : diskOk d = true) (hn : SecsIs n) (hl : 1 ≤ l ∧ l ≤ 3600)
include hd hn hl

theorem secs_head1 {i : Nat} (hi : (i : Int) < n) : HeadIs d ((i : Int) * secW n) l := ⟨hd, btw_iff.2 (by have := (secs_at hn hi).1; omega), hl⟩
theorem secs_head2 (x : Int) : HeadIs d (x % 1296000) l := ⟨hd, btw_iff.2 (ang_mod _), hl⟩

theorem secs_sub (a b : Int) : I64 (headR d b l - headR d a l) := by
  have h1 := btw_iff.1 (headR_ang d a l)
  have h2 := btw_iff.1 (headR_ang d b l)
  unfold I64
  omega

theorem impl_SectorsOf_l8_is : ∀ (k i : Nat) (b : List Int), (i : Int) ≤ n → n - (i : Int) < (k : Int) → b.length = i → impl_SectorsOf_l8 N0 k (i : Int) l n n b d.1 d.2.1 d.2.2 = r2 (b ++ secUp d n l (n.toNat - i) i) 0
  | 0, i, b, _, hk, _ => by omega
  | k + 1, i, b, hi, hk, hb => by
    have hlo := hn.lo
    have hhi := hn.hi
    simp only [impl_SectorsOf_l8, impl_SectorsOf_t8]
    by_cases h : (i : Int) < n
    · have ha := secs_at hn h
      have hwd := hn.wd
      rw [dec_t h, cond_true, ne_true (a := n) (b := 0) (by omega), cond_true, w_in (x := secW n) (by unfold I64; omega), w_in (x := (i : Int) * secW n) (by unfold I64; omega), pr_eta, impl_head_is (secs_head1 hd hn hl h), Option.bind_some,
        cond_true, w_in (x := (i : Int) + 1) (by unfold I64; omega), w_in (x := ((i : Int) + 1) * secW n) (by unfold I64; omega), impl_wrap_is, Option.bind_some]
      dsimp only
      rw [impl_head_is (secs_head2 hd hn hl _), Option.bind_some]
      dsimp only
      rw [impl_turnFrom_is N0 (secs_sub hd hn hl _ _), Option.bind_some]
      dsimp only
      have hr (x : Int) : decide ((b.length + (x :: []).length) * 9 ≤ 70368744177664) = true := dec_t (by simp only [List.length_cons, List.length_nil]; omega)
      have ih := fun x => impl_SectorsOf_l8_is k (i + 1) (b ++ [x]) (by omega) (by omega) (by simp [hb])
      have ht := turn_bd (headR d ((i : Int) * secW n) l) (headR d ((((i : Int) + 1) * secW n) % 1296000) l)
      have hi1 : (i : Int) + 1 = ((i + 1 : Nat) : Int) := by omega
      rw [hi1] at ht
      rw [hr, hr, hi1, w_in (by unfold I64; omega), ih, ih, show n.toNat - i = (n.toNat - (i + 1)) + 1 by omega, secUp, secT, sec1]
      rw [hi1]
      cases decide (turn (headR d ((i : Int) * secW n) l) (headR d ((((i + 1 : Nat) : Int) * secW n) % 1296000) l) ≤ 0) with
      | true => simp only [cond_true, List.append_assoc, List.singleton_append]
      | false => simp only [cond_true, cond_false, List.append_assoc, List.singleton_append]
    · rw [dec_f h, cond_false, show n.toNat - i = 0 by omega, secUp, List.append_nil]

theorem spec_SectorsOf_l7_is : ∀ (k i : Nat) (b : List Int), (i : Int) ≤ n → n - (i : Int) < (k : Int) → b.length = i → spec_SectorsOf_l7 N0 k (i : Int) l n b d.1 d.2.1 d.2.2 = r2 (b ++ secUp d n l (n.toNat - i) i) 0
  | 0, i, b, _, hk, _ => by omega
  | k + 1, i, b, hi, hk, hb => by
    have hlo := hn.lo
    have hhi := hn.hi
    simp only [spec_SectorsOf_l7, spec_SectorsOf_t7]
    by_cases h : (i : Int) < n
    · have ha := secs_at hn h
      have hwd := hn.wd
      rw [dec_t h, cond_true, ne_true (a := n) (b := 0) (by omega), cond_true, w_in (x := secW n) (by unfold I64; omega), w_in (x := (i : Int) * secW n) (by unfold I64; omega), pr_eta, spec_l03Head_is (secs_head1 hd hn hl h), Option.bind_some,
        cond_true, w_in (x := (i : Int) + 1) (by unfold I64; omega), w_in (x := ((i : Int) + 1) * secW n) (by unfold I64; omega), spec_l03Wrap_is, Option.bind_some]
      dsimp only
      rw [pr_eta, spec_l03Head_is (secs_head2 hd hn hl _), Option.bind_some]
      dsimp only
      rw [spec_l03Turn_is N0 (secs_sub hd hn hl _ _), Option.bind_some]
      dsimp only
      have hr (x : Int) : decide ((b.length + (x :: []).length) * 9 ≤ 70368744177664) = true := dec_t (by simp only [List.length_cons, List.length_nil]; omega)
      have ih := fun x => spec_SectorsOf_l7_is k (i + 1) (b ++ [x]) (by omega) (by omega) (by simp [hb])
      have ht := turn_bd (headR d ((i : Int) * secW n) l) (headR d ((((i : Int) + 1) * secW n) % 1296000) l)
      have hi1 : (i : Int) + 1 = ((i + 1 : Nat) : Int) := by omega
      rw [hi1] at ht
      rw [hr, hr, hi1, w_in (by unfold I64; omega), ih, ih, show n.toNat - i = (n.toNat - (i + 1)) + 1 by omega, secUp, secT, sec1]
      rw [hi1]
      cases decide (turn (headR d ((i : Int) * secW n) l) (headR d ((((i + 1 : Nat) : Int) * secW n) % 1296000) l) ≤ 0) with
      | true => simp only [cond_true, List.append_assoc, List.singleton_append]
      | false => simp only [cond_true, cond_false, List.append_assoc, List.singleton_append]
    · rw [dec_f h, cond_false, show n.toNat - i = 0 by omega, secUp, List.append_nil]
end

abbrev secsRes (d : Dk) (n l : Int) : Option (((List Int × Unit) × ((Int × Unit) × Unit)) × Unit) :=
  bif diskOk d then (bif btw l 1 3600 && (btw n 2 72 && Int.tmod 1296000 n == 0) then r2 (secUp d n l n.toNat 0) 0 else r2 [] 2) else r2 [] 1

theorem secsRes_ex (d : Dk) (n l : Int) : ∃ o c, secsRes d n l = r2 o c ∧ o.length ≤ 1048576 := by
  unfold secsRes
  cases diskOk d with
  | false => exact ⟨_, _, rfl, by simp⟩
  | true =>
    cases h : btw l 1 3600 && (btw n 2 72 && Int.tmod 1296000 n == 0) with
    | false => exact ⟨_, _, rfl, by simp⟩
    | true =>
      rw [Bool.and_eq_true, Bool.and_eq_true, btw_iff, btw_iff] at h
      exact ⟨_, _, rfl, by rw [secUp_len]; omega⟩

theorem impl_SectorsOf_is (d : Dk) (n l : Int) (hb : d.1.length ≤ 9223372036854775807) : impl_SectorsOf N0 d n l = secsRes d n l := by
  have := N0_big
  simp only [impl_SectorsOf, impl_SectorsOf_t, pr_eta, impl_headCode_is d l [] hb (by simp), Option.bind_some, impl_within_is, List.all_nil, Bool.and_true]
  unfold secsRes
  cases hd : diskOk d with
  | false => rfl
  | true =>
    cases hl : btw l 1 3600 with
    | false => rfl
    | true =>
      cases hn : btw n 2 72 with
      | false => rfl
      | true =>
        have hn' := btw_iff.1 hn
        simp only [cond_true, beq_self_eq_true, Bool.not_true, cond_false, ne_true (a := n) (b := 0) (by omega), Bool.true_and, bne_self_eq_false]
        by_cases hm : Int.tmod 1296000 n = 0
        · rw [ne_f hm, eq_t hm, cond_false, cond_true]
          have e := impl_SectorsOf_l8_is hd (.of hn hm) (btw_iff.1 hl) N0 0 [] (by omega) (by omega) rfl
          rw [Nat.sub_zero, List.nil_append] at e
          exact e
        · rw [ne_true hm, eq_f hm]; rfl

theorem spec_SectorsOf_is (d : Dk) (n l : Int) (hb : d.1.length ≤ 9223372036854775807) : spec_SectorsOf N0 d n l = secsRes d n l := by
  have := N0_big
  simp only [spec_SectorsOf, spec_SectorsOf_t, pr_eta, spec_l03Ok_is d hb, Option.bind_some, spec_l00In_is]
  unfold secsRes
  cases hd : diskOk d with
  | false => rfl
  | true =>
    cases hl : btw l 1 3600 with
    | false => rfl
    | true =>
      cases hn : btw n 2 72 with
      | false => rfl
      | true =>
        have hn' := btw_iff.1 hn
        simp only [cond_true, Bool.not_true, cond_false, ne_true (a := n) (b := 0) (by omega), Bool.true_and]
        by_cases hm : Int.tmod 1296000 n = 0
        · rw [ne_f hm, eq_t hm, cond_false, cond_true]
          have e := spec_SectorsOf_l7_is hd (.of hn hm) (btw_iff.1 hl) N0 0 [] (by omega) (by omega) rfl
          rw [Nat.sub_zero, List.nil_append] at e
          exact e
        · rw [ne_true hm, eq_f hm]; rfl

/-! ### marks -/
theorem laws_markInt16S_l_ex : ∀ (k i : Nat) (v : Int) (b : List Int), i ≤ b.length → b.length ≤ 1048576 → b.length - i < k → 0 ≤ v ∧ v ≤ 10000000 + (i : Int) → ∃ b', laws_markInt16S_l2 N0 k (i : Int) v b = c1 (v + ((b.length : Int) - (i : Int))) b'
  | 0, i, v, b, _, _, hk, _ => by omega
  | k + 1, i, v, b, hi, hb, hk, hv => by
    simp only [laws_markInt16S_l2, laws_markInt16S_t2]
    by_cases h : i < b.length
    · simp only [lt_t h, nn_t, Bool.and_self, cond_true, Int.toNat_natCast, w_succ (i := i) (by omega), w_in (x := v + 1) (by unfold I64; omega)]
      obtain ⟨b', e⟩ := laws_markInt16S_l_ex k (i + 1) (v + 1) (b.set i (IntKind.wrap .i16 v)) (by rw [List.length_set]; exact h) (by rw [List.length_set]; exact hb) (by rw [List.length_set]; omega) (by omega)
      refine ⟨b', e.trans ?_⟩
      rw [List.length_set, show v + 1 + ((b.length : Int) - ((i + 1 : Nat) : Int)) = v + ((b.length : Int) - (i : Int)) by omega]
    · have : i = b.length := by omega
      subst this
      rw [lt_f h]
      exact ⟨b, by simp⟩

theorem laws_markDisk_ex (x : (Int × Int) × Unit) (b : List Int) (hb : b.length ≤ 1048576) : ∃ b', laws_markDisk N0 x 1 b = c1 (1 + (b.length : Int)) b' := by
  have := N0_big
  obtain ⟨b', e⟩ := laws_markInt16S_l_ex N0 0 1 b (by omega) hb (by omega) (by omega)
  refine ⟨b', ?_⟩
  have e : laws_markInt16S N0 1 b = c1 (1 + ((b.length : Int) - ((0 : Nat) : Int))) b' := e
  simp only [laws_markDisk, laws_markDisk_t, e, Option.bind_some]
  simp
end Go.Abs
