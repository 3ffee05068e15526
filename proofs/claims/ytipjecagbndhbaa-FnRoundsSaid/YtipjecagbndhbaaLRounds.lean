/- The plain law of closings that are shared out. -/
import Derived.Test.YtipjecagbndhbaaSrcP
import Derived.Test.YtipjecagbndhbaaSectors
import Derived.Test.YtipjecagbndhbaaSecsP
import Derived.Test.YtipjecagbndhbaaTrod
namespace Go.Abs
set_option linter.unusedSectionVars false
set_option linter.unusedSimpArgs false
set_option linter.unusedVariables false

theorem spec_l00Same_l4_refl (v : List Int) (hb : v.length ≤ 1048576) : ∀ (k i : Nat), i ≤ v.length → v.length - i < k → spec_l00Same_l4 N0 k (i : Int) v v = r1 true
  | 0, i, _, hk => by omega
  | k + 1, i, hi, hk => by
    simp only [spec_l00Same_l4, spec_l00Same_t4]
    by_cases h : i < v.length
    · simp only [lt_t h, nn_t, Bool.and_self, cond_true, bne_self_eq_false, cond_false, w_succ (i := i) (by omega)]
      exact spec_l00Same_l4_refl v hb k (i + 1) h (by omega)
    · have : i = v.length := by omega
      subst this
      rw [lt_f h]
      rfl

theorem spec_A2Same_refl (v : List Int) (hb : v.length ≤ 1048576) : spec_A2Same N0 v v = r1 true := by
  have := N0_big
  have e := spec_l00Same_l4_refl v hb N0 0 (by omega) (by omega)
  have e : spec_l00Same_l4 N0 N0 0 v v = r1 true := e
  simp only [spec_A2Same, spec_A2Same_t, spec_l00Same, spec_l00Same_t, bne_self_eq_false, cond_false, e, Option.bind_some]

/-- what is drawn: sectors that go round nearly once -/
structure Drawn (v : List Int) (q : Int) : Prop where
  lo : 1 ≤ v.length
  hi : v.length ≤ 12
  mul : (v.length : Int) * q = 1296000
  tm : Int.tmod 1296000 (v.length : Int) = 0
  td : Int.tdiv 1296000 (v.length : Int) = q
  q0 : 108000 ≤ q ∧ q ≤ 1296000
  at_ : ∀ y ∈ v, q - 10 ≤ y ∧ y ≤ q + 10 ∧ y ≤ 1296000

theorem drawn_l5_is {n q : Int} (hn : 1 ≤ n ∧ n ≤ 12) (hq : 108000 ≤ q ∧ q ≤ 1296000) (ht : Int.tdiv 1296000 n = q) : ∀ (k i : Nat) (s : Src) (B : Int) (b : List Int), (i : Int) ≤ n → n - (i : Int) < (k : Int) → SrcAt s B → B ≤ 1000 + 2 * (i : Int) → b.length = i →
    (∀ y ∈ b, q - 10 ≤ y ∧ y ≤ q + 10 ∧ y ≤ 1296000) → ∃ v, spec_A2Sectors_l5 N0 k (i : Int) n s.1 s.2.1 s.2.2 b = r1 v ∧ (v.length : Int) = n ∧ ∀ y ∈ v, q - 10 ≤ y ∧ y ≤ q + 10 ∧ y ≤ 1296000
  | 0, i, s, B, b, _, hk, _, _, _, _ => by omega
  | k + 1, i, s, B, b, hi, hk, hs, hB, hb, hR => by
    simp only [spec_A2Sectors_l5, spec_A2Sectors_t5]
    by_cases h : (i : Int) < n
    · obtain ⟨x, s1, e1, hx, k1⟩ := src_pick (n := 21) hs (by omega) (by omega)
      have hr (x : Int) : decide ((b.length + (x :: []).length) * 9 ≤ 70368744177664) = true := dec_t (by simp only [List.length_cons, List.length_nil]; omega)
      rw [dec_t h, cond_true, ne_true (a := n) (b := 0) (by omega), cond_true]
      simp only [pr_eta]
      rw [e1, Option.bind_some, ht]
      dsimp only
      rw [w_in (x := q) (by unfold I64; omega), w_in (x := q + x) (by unfold I64; omega), w_in (x := q + x - 10) (by unfold I64; omega)]
      have hm : ∃ y, spec_l00Min N0 (q + x - 10) 1296000 = r1 y ∧ (q - 10 ≤ y ∧ y ≤ q + 10 ∧ y ≤ 1296000) := by
        simp only [spec_l00Min, spec_l00Min_t]
        by_cases hlt : q + x - 10 < 1296000
        · rw [dec_t hlt]; exact ⟨_, rfl, by omega⟩
        · rw [dec_f hlt]; exact ⟨_, rfl, by omega⟩
      obtain ⟨y, e2, hy⟩ := hm
      rw [e2, Option.bind_some, hr, cond_true, w_succ (i := i) (by omega)]
      exact drawn_l5_is hn hq ht k (i + 1) s1 (B + 2) (b ++ [y]) (by omega) (by omega) k1 (by omega) (by simp [hb]) (by
        intro z hz
        rcases List.mem_append.1 hz with hz | hz
        · exact hR z hz
        · rw [List.mem_singleton.1 hz]; exact hy)
    · rw [dec_f h, cond_false]
      exact ⟨b, rfl, by omega, hR⟩

theorem drawn_is (code : List Int) (h : ∀ y ∈ code, 0 ≤ y ∧ y ≤ 255) (hl : code.length ≤ 1000000000) : ∃ v q, spec_A2Sectors N0 code = r1 v ∧ Drawn v q := by
  have := N0_big
  obtain ⟨e0, k0⟩ := src_from code h hl
  obtain ⟨n, s1, e1, hn, k1⟩ := src_among (l := [1, 2, 3, 4, 6, 12]) k0 (by omega) (by simp)
  simp only [spec_A2Sectors, spec_A2Sectors_t, e0, Option.bind_some, pr_eta, e1]
  have key : ∀ q, (1 ≤ n ∧ n ≤ 12) → (108000 ≤ q ∧ q ≤ 1296000) → Int.tdiv 1296000 n = q → Int.tmod 1296000 n = 0 → n * q = 1296000 →
      ∃ v q, spec_A2Sectors_l5 N0 N0 0 n s1.1 s1.2.1 s1.2.2 [] = r1 v ∧ Drawn v q := by
    intro q h1 h2 h3 h4 h5
    obtain ⟨v, e, hv, hR⟩ := drawn_l5_is h1 h2 h3 N0 0 s1 2 [] (by omega) (by omega) (k1.mono (by omega)) (by omega) rfl (by simp)
    have e : spec_A2Sectors_l5 N0 N0 0 n s1.1 s1.2.1 s1.2.2 [] = r1 v := e
    exact ⟨v, q, e, by omega, by omega, by rw [hv]; exact h5, by rw [hv]; exact h4, by rw [hv]; exact h3, h2, hR⟩
  simp only [List.mem_cons, List.not_mem_nil, or_false] at hn
  rcases hn with rfl | rfl | rfl | rfl | rfl | rfl
  · exact key 1296000 (by omega) (by omega) rfl rfl rfl
  · exact key 648000 (by omega) (by omega) rfl rfl rfl
  · exact key 432000 (by omega) (by omega) rfl rfl rfl
  · exact key 324000 (by omega) (by omega) rfl rfl rfl
  · exact key 216000 (by omega) (by omega) rfl rfl rfl
  · exact key 108000 (by omega) (by omega) rfl rfl rfl

theorem sumL_lohi {A B : Int} : ∀ {v : List Int}, (∀ y ∈ v, A ≤ y ∧ y ≤ B) → A * (v.length : Int) ≤ sumL v ∧ sumL v ≤ B * (v.length : Int)
  | [], _ => by simp [sumL]
  | x :: r, h => by
    have h1 := h x (by simp)
    have h2 := sumL_lohi (v := r) fun y hy => h y (by simp [hy])
    have e (C : Int) : C * ((x :: r).length : Int) = C + C * (r.length : Int) := by rw [List.length_cons, Int.natCast_add, Int.mul_add, Int.natCast_one]; omega
    rw [e, e, sumL]
    omega

theorem sumL_append (v w : List Int) : sumL (v ++ w) = sumL v + sumL w := by
  induction v with
  | nil => simp [sumL]
  | cons x r ih => rw [List.cons_append, sumL, sumL, ih]; omega

section
variable {v : List Int} {q : Int} (h : Drawn v q)
include h

theorem drawn_ok : secOk v = true := by
  rw [secOk_iff]
  refine ⟨⟨h.lo, by have := h.hi; omega⟩, ?_⟩
  rw [List.all_eq_true]
  intro y hy
  have := h.at_ y hy
  have := h.q0
  exact isSec_iff.2 (by omega)

theorem drawn_sum : -120 ≤ closing v ∧ closing v ≤ 120 := by
  have h1 := sumL_lohi (A := q - 10) (B := q + 10) (v := v) fun y hy => by have := h.at_ y hy; omega
  have h2 := h.mul
  have h3 := h.hi
  rw [Int.sub_mul, Int.add_mul, Int.mul_comm q] at h1
  unfold closing
  omega

/-- the shares up to a sector -/
abbrev upS (v : List Int) (i : Nat) : Int := ((i : Int) * closing v) / (v.length : Int)

theorem upS_bd (i : Nat) (hi : i ≤ 12) : -1500 ≤ (i : Int) * closing v ∧ (i : Int) * closing v ≤ 1500 := by
  have h1 := drawn_sum h
  have := mul_bd (a := (i : Int)) (b := closing v) (A := 12) (B := 120) (by omega) h1
  omega

theorem upS_div (i : Nat) (hi : i ≤ 12) : (v.length : Int) * upS v i + ((i : Int) * closing v) % (v.length : Int) = (i : Int) * closing v ∧ (0 ≤ ((i : Int) * closing v) % (v.length : Int) ∧ ((i : Int) * closing v) % (v.length : Int) < (v.length : Int)) ∧ (-1500 ≤ upS v i ∧ upS v i ≤ 1500) := by
  have hl := h.lo
  have hb := upS_bd h i hi
  exact ⟨Int.mul_ediv_add_emod _ _, ⟨Int.emod_nonneg _ (by omega), Int.emod_lt_of_pos _ (by omega)⟩, div_bd (by omega) hb⟩

theorem share_is (i : Nat) (hi : i + 1 ≤ 12) {x : Int} (hx : 0 ≤ x ∧ x ≤ 2000000) : secShare (closing v) (v.length : Int) i x = x - (upS v (i + 1) - upS v i) := by
  have h1 := upS_bd h i (by omega)
  have h2 := upS_bd h (i + 1) hi
  have h3 := (upS_div h i (by omega)).2.2
  have h4 := (upS_div h (i + 1) hi).2.2
  unfold secShare
  rw [w_in (x := ((i + 1 : Nat) : Int) * closing v) (by unfold I64; omega), w_in (x := (i : Int) * closing v) (by unfold I64; omega)]
  rw [w_in (x := _ / _ - _ / _) (by unfold I64; simp only [upS] at h3 h4; omega)]
  exact w_in (by unfold I64; simp only [upS] at h3 h4; omega)

theorem shares_at : ∀ (w : List Int) (j i : Nat), j + w.length ≤ 12 → (∀ y ∈ w, 0 ≤ y ∧ y ≤ 2000000) → i < w.length →
    (secShares (closing v) (v.length : Int) j w).getD i 0 = w.getD i 0 - (upS v (j + i + 1) - upS v (j + i))
  | [], j, i, _, _, hi => by simp at hi
  | x :: r, j, 0, hj, hw, _ => by
    simp only [List.length_cons] at hj
    rw [secShares, share_is h j (by omega) (hw x (by simp))]
    rfl
  | x :: r, j, i + 1, hj, hw, hi => by
    simp only [List.length_cons] at hj hi
    have := shares_at r (j + 1) i (by omega) (fun y hy => hw y (by simp [hy])) (by omega)
    rw [secShares, List.getD_cons_succ, List.getD_cons_succ, this, show j + 1 + i = j + (i + 1) by omega]

theorem drawn_el (y : Int) (hy : y ∈ v) : 0 ≤ y ∧ y ≤ 2000000 := by
  have := h.at_ y hy
  have := h.q0
  omega

theorem shared_len : (shared v).length = v.length := secShares_len _ _ _ _

theorem shared_at {i : Nat} (hi : i < v.length) : (shared v).getD i 0 = v.getD i 0 - (upS v (i + 1) - upS v i) := by
  have := shares_at h v 0 i (by have := h.hi; omega) (drawn_el h) hi
  rw [Nat.zero_add] at this
  exact this

theorem shared_bd {i : Nat} (hi : i < v.length) : -5000 ≤ (shared v).getD i 0 ∧ (shared v).getD i 0 ≤ 2005000 := by
  have h1 := shared_at h hi
  have h2 := (upS_div h i (by have := h.hi; omega)).2.2
  have h3 := (upS_div h (i + 1) (by have := h.hi; omega)).2.2
  have h4 := drawn_el h (v.getD i 0) (by rw [get_ix hi]; exact List.getElem_mem hi)
  omega

theorem take_sum {w : List Int} {i : Nat} (hi : i < w.length) : sumL (w.take (i + 1)) = sumL (w.take i) + w.getD i 0 := by
  rw [take_ix hi, sumL_append, get_ix hi]
  simp [sumL]

theorem shared_sum : ∀ i : Nat, i ≤ v.length → sumL ((shared v).take i) = sumL (v.take i) - upS v i
  | 0, _ => by simp [sumL, upS]
  | i + 1, hi => by
    have hl := shared_len h
    rw [take_sum h (w := shared v) (by omega), take_sum h (w := v) (by omega), shared_sum i (by omega), shared_at h (by omega)]
    omega

theorem shared_all : sumL (shared v) = 1296000 := by
  have hl := shared_len h
  have h1 := shared_sum h v.length (by omega)
  rw [List.take_length, show (shared v).take v.length = shared v by rw [← hl, List.take_length]] at h1
  rw [h1]
  have h2 : upS v v.length = closing v := Int.mul_ediv_cancel_left _ (by have := h.lo; omega)
  rw [h2]
  unfold closing
  omega

theorem part_bd (i : Nat) (hi : i ≤ v.length) : -60000 ≤ sumL ((shared v).take i) ∧ sumL ((shared v).take i) ≤ 24060000 := by
  have hl := shared_len h
  have hh := h.hi
  have h1 := sumL_lohi (A := -5000) (B := 2005000) (v := (shared v).take i) (by
    intro y hy
    obtain ⟨j, hj, e⟩ := List.mem_iff_getElem.1 hy
    rw [List.length_take] at hj
    have := shared_bd h (i := j) (by omega)
    rw [get_ix (by omega)] at this
    rw [List.getElem_take] at e
    rw [← e]
    exact this)
  rw [List.length_take] at h1
  have : min i (shared v).length ≤ 12 := by omega
  omega

/-! ### faults -/
theorem flt_at {c : Int} (hc : 0 ≤ c ∧ c ≤ 2000000) : ∀ (w : List Int) (p : Int) (i : Nat), (∀ y ∈ w, -5000 ≤ y ∧ y ≤ 2005000) → (-(5000000 * (100 - (w.length : Int))) ≤ p ∧ p ≤ 5000000 * (100 - (w.length : Int))) → w.length ≤ 100 → i < w.length →
    (flt c p w).getD i 0 = p + sumL (w.take (i + 1)) - c * ((i : Int) + 1)
  | [], p, i, _, _, _, hi => by simp at hi
  | x :: r, p, i, hw, hp, hl, hi => by
    have hx := hw x (by simp)
    simp only [List.length_cons] at hp hl hi
    rw [flt, w_in (x := p + x) (by unfold I64; omega), w_in (x := p + x - c) (by unfold I64; omega)]
    cases i with
    | zero => simp [sumL] <;> omega
    | succ i =>
      have := flt_at hc r (p + x - c) i (fun y hy => hw y (by simp [hy])) (by omega) (by omega) (by omega)
      rw [List.getD_cons_succ, this, List.take_succ_cons, sumL, show ((i + 1 : Nat) : Int) + 1 = ((i : Int) + 1) + 1 by omega, Int.mul_add c ((i : Int) + 1) 1]
      omega

theorem faults_len : (faultsFrom v).length = v.length := by
  have hl := shared_len h
  have := h.lo
  unfold faultsFrom
  rw [List.length_cons, flt_len, List.length_take]
  omega

theorem faults_at : ∀ {i : Nat}, i < v.length → (faultsFrom v).getD i 0 = sumL ((shared v).take i) - q * (i : Int)
  | 0, _ => by simp [faultsFrom, sumL]
  | i + 1, hi => by
    have hl := shared_len h
    have hq := h.q0
    have hh := h.hi
    unfold faultsFrom
    rw [h.td, w_in (x := q) (by unfold I64; omega), List.getD_cons_succ]
    rw [flt_at h (c := q) (by omega) _ 0 i (by
      intro y hy
      obtain ⟨j, hj, e⟩ := List.mem_iff_getElem.1 (List.mem_of_mem_take hy)
      have := shared_bd h (i := j) (by omega)
      rw [get_ix (by omega)] at this
      rw [← e]; exact this) (by rw [List.length_take]; omega) (by rw [List.length_take]; omega) (by rw [List.length_take]; omega)]
    rw [List.take_take, show min (i + 1) (v.length - 1) = i + 1 by omega, show ((i + 1 : Nat) : Int) = (i : Int) + 1 by omega]
    omega

theorem faults_bd {i : Nat} (hi : i < v.length) : -20000000 ≤ (faultsFrom v).getD i 0 ∧ (faultsFrom v).getD i 0 ≤ 25000000 := by
  rw [faults_at h hi]
  have h1 := part_bd h i (by omega)
  have h2 := mul_pos_bd (a := q) (b := (i : Int)) (A := 1296000) (B := 12) (by have := h.q0; omega) (by have := h.hi; omega)
  omega

theorem mod_next {i n : Nat} (hi : i + 1 < n) : Int.tmod ((i + 1 : Nat) : Int) (n : Int) = ((i + 1 : Nat) : Int) := by
  rw [Int.tmod_eq_emod_of_nonneg (by omega)]
  exact Int.emod_eq_of_lt (by omega) (by omega)

theorem faults_step {i : Nat} (hi : i < v.length) : (faultsFrom v).getD (Int.tmod ((i + 1 : Nat) : Int) (v.length : Int)).toNat 0 - (faultsFrom v).getD i 0 = (shared v).getD i 0 - q := by
  have hl := shared_len h
  by_cases h1 : i + 1 < v.length
  · rw [mod_next h h1, Int.toNat_natCast, faults_at h h1, faults_at h hi, take_sum h (by omega), show ((i + 1 : Nat) : Int) = (i : Int) + 1 by omega, Int.mul_add]
    omega
  · have e : i + 1 = v.length := by omega
    rw [← e, Int.tmod_self]
    have e1 := faults_at h (i := 0) (by omega)
    have e2 := faults_at h hi
    have e3 : sumL ((shared v).take (i + 1)) = sumL (shared v) := by rw [e, ← hl, List.take_length]
    rw [take_sum h (by omega), shared_all h] at e3
    have e4 := h.mul
    rw [← e, show ((i + 1 : Nat) : Int) = (i : Int) + 1 by omega, Int.add_mul, Int.one_mul, Int.mul_comm] at e4
    rw [show Int.toNat 0 = 0 from rfl, e1, e2]
    simp only [List.take_zero, sumL, Int.natCast_zero, Int.mul_zero]
    omega

theorem rounds_l26_is : ∀ (k i : Nat), i ≤ v.length → v.length - i < k → laws_FnRounds_l26 N0 k (i : Int) (v.length : Int) (shared v) (faultsFrom v) = r1 true
  | 0, i, _, hk => by omega
  | k + 1, i, hi, hk => by
    have hl := shared_len h
    have hf := faults_len h
    have hlo := h.lo
    have hq := h.q0
    simp only [laws_FnRounds_l26, laws_FnRounds_t26]
    by_cases hlt : i < v.length
    · have h1 := Int.tmod_nonneg (b := (v.length : Int)) (a := ((i + 1 : Nat) : Int)) (by omega)
      have h2 := Int.tmod_lt_of_pos (b := (v.length : Int)) ((i + 1 : Nat) : Int) (by omega)
      have h3 := faults_bd h (i := (Int.tmod ((i + 1 : Nat) : Int) (v.length : Int)).toNat) (by omega)
      have h4 := faults_bd h hlt
      have h5 := shared_bd h hlt
      have h6 := faults_step h hlt
      rw [lt_t hlt, cond_true, ne_true (a := (v.length : Int)) (b := 0) (by omega), cond_true, w_succ (i := i) (by have := h.hi; omega), hf, dec_t h1, dec_t h2, Bool.and_self, cond_true, nn_t, lt_t hlt, Bool.and_self, cond_true, hl, lt_t hlt, Bool.and_self, cond_true, cond_true,
        Int.toNat_natCast, h.td, w_in (x := q) (by unfold I64; omega), w_in (x := _ - _) (by unfold I64; omega), w_in (x := _ - _) (by unfold I64; omega), ne_f h6, cond_false]
      exact rounds_l26_is k (i + 1) hlt (by omega)
    · rw [lt_f hlt, cond_false]
      have e1 : impl_SectorsOf N0 ([0], (0, 0)) 6 1 = r2 [216000, 216000, 216000, 216000, 216000, 216000] 0 := by
        rw [impl_SectorsOf_is _ _ _ (by decide)]
        decide +kernel
      have e2 : impl_FaultsFrom N0 [216000, 216000, 216000, 216000, 216000, 216000] = r2 [0, 0, 0, 0, 0, 0] 0 := by
        rw [impl_FaultsFrom_is _ (by decide)]
        decide +kernel
      rw [e1, Option.bind_some]
      dsimp only
      rw [e2, Option.bind_some]
      dsimp only
      rw [spec_A2Same_refl _ (by decide)]
      rfl

theorem rounds_l13_is : ∀ (k i : Nat) (s : Int), i ≤ v.length → v.length - i < k → s = sumL ((shared v).take i) → laws_FnRounds_l13 N0 k (i : Int) s (v.length : Int) (closing v) (shared v) v = r1 true
  | 0, i, s, _, hk, _ => by omega
  | k + 1, i, s, hi, hk, hs => by
    have := N0_big
    have hl := shared_len h
    have hf := faults_len h
    have hlo := h.lo
    have hh := h.hi
    have hq := h.q0
    have hc := drawn_sum h
    simp only [laws_FnRounds_l13, laws_FnRounds_t13]
    by_cases hlt : i < v.length
    · have h1 := shared_at h hlt
      have h2 := shared_bd h hlt
      have h3 := part_bd h i (by omega)
      have h4 := drawn_el h (v.getD i 0) (by rw [get_ix hlt]; exact List.getElem_mem hlt)
      obtain ⟨d1, d2, d3⟩ := upS_div h i (by omega)
      obtain ⟨d4, d5, d6⟩ := upS_div h (i + 1) (by omega)
      have hd : v.getD i 0 - (shared v).getD i 0 = upS v (i + 1) - upS v i := by omega
      have hm : (v.length : Int) * (upS v (i + 1) - upS v i) = (v.length : Int) * upS v (i + 1) - (v.length : Int) * upS v i := Int.mul_sub _ _ _
      have he : ((i + 1 : Nat) : Int) * closing v = (i : Int) * closing v + closing v := by rw [show ((i + 1 : Nat) : Int) = (i : Int) + 1 by omega, Int.add_mul, Int.one_mul]
      rw [he] at d4 d5
      have a0 : IntKind.wrap .i64 (v.getD i 0 - (shared v).getD i 0) = upS v (i + 1) - upS v i := by rw [w_in (by unfold I64; omega), hd]
      have a1 : IntKind.wrap .i64 ((v.length : Int) * (upS v (i + 1) - upS v i)) = (v.length : Int) * (upS v (i + 1) - upS v i) := w_in (by unfold I64; omega)
      have a2 : IntKind.wrap .i64 (closing v + (v.length : Int)) = closing v + (v.length : Int) := w_in (by unfold I64; omega)
      have a3 : IntKind.wrap .i64 (closing v - (v.length : Int)) = closing v - (v.length : Int) := w_in (by unfold I64; omega)
      have a4 : IntKind.wrap .i64 (s + (shared v).getD i 0) = s + (shared v).getD i 0 := w_in (by unfold I64; omega)
      simp only [lt_t hlt, nn_t, hl, Bool.and_self, cond_true, Int.toNat_natCast, w_succ (i := i) (by omega), a0, a1, a2, a3, a4]
      rw [gt_f (by omega), cond_false, dec_f (by omega), cond_false]
      exact rounds_l13_is k (i + 1) _ hlt (by omega) (by rw [take_sum h (by omega), hs])
    · have : i = v.length := by omega
      subst this
      have hs' : s = 1296000 := by rw [hs, ← hl, List.take_length]; exact shared_all h
      rw [lt_f hlt, cond_false, ne_f hs', cond_false, impl_FaultsFrom_is v (by omega), spec_FaultsFrom_is v (by omega)]
      unfold faultsRes
      rw [drawn_ok h, h.tm]
      simp only [bne_self_eq_false, cond_true, cond_false, Option.bind_some, spec_A2Same_refl (faultsFrom v) (by omega), Bool.not_true, hf]
      rw [dec_t (p := (0 : Int) < (v.length : Int)) (by omega), cond_true]
      rw [show (faultsFrom v).getD (Int.toNat 0) 0 = 0 from rfl, bne_self_eq_false, cond_false]
      exact rounds_l26_is h N0 0 (by omega) (by omega)
end

theorem law_FnRounds (code more : List Int) (h : WfD (.list (.int .u8)) code) (_ : WfD (.list (.int .u8)) more) : laws_FnRounds N0 code more = r1 true := by
  have := N0_big
  simp only [laws_FnRounds, laws_FnRounds_t, laws_a2Long_is, Option.bind_some]
  cases hl : (decide ((code.length : Int) > 3000) || decide ((more.length : Int) > 3000)) with
  | true => rfl
  | false =>
    rw [Bool.or_eq_false_iff] at hl
    have hlen := of_decide_eq_false hl.1
    obtain ⟨v, q, e, hv⟩ := drawn_is code (code_wf h) (by omega)
    have hh := hv.hi
    have hsl := shared_len hv
    have hok := drawn_ok hv
    rw [cond_false, e, Option.bind_some]
    dsimp only
    rw [impl_ClosingOf_is v (by omega), impl_ShareClosing_is v (by omega), spec_ShareClosing_is v (by omega), hok]
    have e2 : spec_ClosingOf N0 v = r2 (closing v) 0 := by
      simp only [spec_ClosingOf, spec_ClosingOf_t, spec_l03Sectors_is v (by omega), hok, Option.bind_some, cond_true, bne_self_eq_false, cond_false, spec_l03Closing_is hok]
    rw [e2]
    simp only [cond_true, Option.bind_some, bne_self_eq_false, cond_false, spec_A2Same_refl (shared v) (by omega), Bool.not_true, hsl]
    exact rounds_l13_is hv N0 0 0 (by omega) (by omega) (by simp [sumL])
end Go.Abs
