/- What is drawn out of bytes. -/
import Derived.Test.YtpamckmeeamjjaaGreatDoorDPFracs0
import Derived.Test.YtpamckmeeamjjaaGreatDoorPrims
import Derived.Test.YtpamckmeeamjjaaGreatDoorIx
import Derived.Test.YtpamckmeeamjjaaGreatDoorTrod
namespace Go.Abs
set_option linter.unusedSectionVars false
set_option linter.unusedSimpArgs false
set_option linter.unusedVariables false

abbrev Src : Type := List Int × (Int × Int)

structure SrcAt (s : Src) (b : Int) : Prop where
  byte : ∀ y ∈ s.1, 0 ≤ y ∧ y ≤ 255
  len : s.1.length ≤ 1000000000
  at0 : 0 ≤ s.2.1
  at1 : s.2.1 ≤ b

theorem SrcAt.mono {s : Src} {b c : Int} (h : SrcAt s b) (hbc : b ≤ c) : SrcAt s c := ⟨h.byte, h.len, h.at0, Int.le_trans h.at1 hbc⟩

theorem and255 (a : Int) : 0 ≤ andInt .u64 a 255 ∧ andInt .u64 a 255 ≤ 255 := by
  unfold andInt
  have h : (BitVec.ofInt IntKind.u64.bits a &&& BitVec.ofInt IntKind.u64.bits 255).toNat ≤ 255 := by
    rw [BitVec.toNat_and]
    exact Nat.le_trans Nat.and_le_right (by decide)
  generalize (BitVec.ofInt IntKind.u64.bits a &&& BitVec.ofInt IntKind.u64.bits 255).toNat = n at h
  rw [show IntKind.wrap .u64 ((n : Nat) : Int) = (n : Int) by rw [show IntKind.wrap .u64 (n : Int) = (n : Int) % 18446744073709551616 from rfl]; omega]
  omega

theorem wand255 (a : Int) : 0 ≤ IntKind.wrap .i64 (andInt .u64 a 255) ∧ IntKind.wrap .i64 (andInt .u64 a 255) ≤ 255 := by
  have h := and255 a
  rw [w_in (by unfold I64; omega)]
  exact h

theorem src_next {s : Src} {b : Int} (h : SrcAt s b) (hb : b ≤ 1000000000000) : ∃ x s', spec_l00Src_next N0 s = c1 x s' ∧ (0 ≤ x ∧ x ≤ 255) ∧ SrcAt s' (b + 1) := by
  have h0 := h.at0
  have h1 := h.at1
  have hw : IntKind.wrap .i64 (s.2.1 + 1) = s.2.1 + 1 := w_in (by unfold I64; omega)
  have hat (q : Int) : SrcAt (s.1, (s.2.1 + 1, q)) (b + 1) := ⟨h.byte, h.len, by simp only; omega, by simp only; omega⟩
  simp only [spec_l00Src_next, spec_l00Src_next_t, hw]
  by_cases hl : s.2.1 < (s.1.length : Int)
  · have hn : s.2.1.toNat < s.1.length := by omega
    have hy := h.byte _ (List.getElem_mem hn)
    rw [dec_t hl, dec_t h0, Bool.and_self, cond_true, cond_true, get_ix hn, w_in (x := s.1[s.2.1.toNat]) (by unfold I64; omega)]
    cases decide (s.2.1 + 1 ≤ (s.1.length : Int)) with
    | true => exact ⟨_, _, rfl, hy, hat _⟩
    | false => exact ⟨_, _, rfl, wand255 _, hat _⟩
  · rw [dec_f hl, cond_false]
    cases decide (s.2.1 + 1 ≤ (s.1.length : Int)) with
    | true => exact ⟨_, _, rfl, by omega, hat _⟩
    | false => exact ⟨_, _, rfl, wand255 _, hat _⟩

theorem src_pick {s : Src} {b : Int} (h : SrcAt s b) (hb : b ≤ 100000000000) {n : Int} (hn : 1 ≤ n ∧ n ≤ 65536) : ∃ x s', spec_l00Src_pick N0 n s = c1 x s' ∧ (0 ≤ x ∧ x < n) ∧ SrcAt s' (b + 2) := by
  simp only [spec_l00Src_pick, spec_l00Src_pick_t, pr_eta]
  by_cases h1 : n ≤ 1
  · rw [dec_t h1, cond_true]
    exact ⟨_, _, rfl, by omega, h.mono (by omega)⟩
  · obtain ⟨x, s1, e1, hx, k1⟩ := src_next h (by omega)
    rw [dec_f h1, cond_false, e1, Option.bind_some]
    dsimp only
    by_cases h2 : n > 200
    · obtain ⟨y, s2, e2, hy, k2⟩ := src_next k1 (by omega)
      rw [dec_t h2, cond_true, e2, Option.bind_some, ne_true (a := n) (b := 0) (by omega), cond_true]
      dsimp only
      rw [w_in (x := x * 256) (by unfold I64; omega), w_in (x := x * 256 + y) (by unfold I64; omega)]
      exact ⟨_, _, rfl, ⟨Int.tmod_nonneg _ (by omega), Int.tmod_lt_of_pos _ (by omega)⟩, k2.mono (by omega)⟩
    · rw [dec_f h2, cond_false, ne_true (a := n) (b := 0) (by omega), cond_true]
      exact ⟨_, _, rfl, ⟨Int.tmod_nonneg _ (by omega), Int.tmod_lt_of_pos _ (by omega)⟩, k1.mono (by omega)⟩

theorem src_one {s : Src} {b : Int} (h : SrcAt s b) (hb : b ≤ 100000000000) {n : Int} (hn : 1 ≤ n ∧ n ≤ 65536) : ∃ x s', spec_l00Src_one N0 n s = c1 x s' ∧ SrcAt s' (b + 2) := by
  obtain ⟨x, s1, e1, hx, k1⟩ := src_pick h hb hn
  simp only [spec_l00Src_one, spec_l00Src_one_t, pr_eta, e1, Option.bind_some]
  exact ⟨_, _, rfl, k1⟩

theorem src_among {s : Src} {b : Int} (h : SrcAt s b) (hb : b ≤ 100000000000) {l : List Int} (hl : 1 ≤ l.length ∧ l.length ≤ 65536) :
    ∃ x s', spec_l00Src_among N0 s l = some (((x, ()), ()), (s', (l, ()))) ∧ x ∈ l ∧ SrcAt s' (b + 2) := by
  obtain ⟨x, s1, e1, hx, k1⟩ := src_pick (n := (l.length : Int)) h hb (by omega)
  simp only [spec_l00Src_among, spec_l00Src_among_t, pr_eta, e1, Option.bind_some]
  have hn : x.toNat < l.length := by omega
  rw [dec_t hx.1, dec_t hx.2, Bool.and_self, cond_true, get_ix hn]
  exact ⟨_, _, rfl, List.getElem_mem hn, k1⟩

theorem src_from (code : List Int) (h : ∀ y ∈ code, 0 ≤ y ∧ y ≤ 255) (hl : code.length ≤ 1000000000) : spec_l00From N0 code = r1 (code, (0, 0)) ∧ SrcAt (code, (0, 0)) 0 :=
  ⟨rfl, h, hl, Int.le_refl 0, Int.le_refl 0⟩

theorem wf_u8 {n : Int} (h : WfD (.int .u8) n) : 0 ≤ n ∧ n ≤ 255 := by
  have h : (Lit.int .u8 n).wf = true := h
  simp only [Lit.wf, Bool.and_eq_true, decide_eq_true_eq] at h
  have h1 : IntKind.min .u8 = 0 := rfl
  have h2 : IntKind.max .u8 = 255 := rfl
  omega

theorem code_wf {code : List Int} (h : WfD (.list (.int .u8)) code) : ∀ y ∈ code, 0 ≤ y ∧ y ≤ 255 := fun y hy => wf_u8 (h.2 y hy)

theorem laws_a2Long_is (a b : List Int) : laws_a2Long N0 a b = r1 (decide ((a.length : Int) > 3000) || decide ((b.length : Int) > 3000)) := by
  simp only [laws_a2Long, laws_a2Long_t]
  cases decide ((a.length : Int) > 3000) <;> rfl
end Go.Abs
