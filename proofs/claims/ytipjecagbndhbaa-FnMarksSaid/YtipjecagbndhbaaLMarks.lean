/- The plain law of marks: faults that are measured come back. -/
import Derived.Test.YtipjecagbndhbaaDrawDisk
import Derived.Test.YtipjecagbndhbaaSecsP
import Derived.Test.YtipjecagbndhbaaSameP
namespace Go.Abs
set_option linter.unusedSectionVars false
set_option linter.unusedSimpArgs false
set_option linter.unusedVariables false

/-- the fault of mark i, in a round -/
abbrev fx (v : List Int) (i : Nat) : Int := flA v (i % v.length)

structure MkIs (v : List Int) : Prop where
  lo : 2 ≤ v.length
  hi : v.length ≤ 36
  tm : Int.tmod 1296000 (v.length : Int) = 0
  td : Int.tdiv 1296000 (v.length : Int) = dW v
  mul : (v.length : Int) * dW v = 1296000
  w : 36000 ≤ dW v ∧ dW v ≤ 648000
  el : ∀ i, -60 ≤ flA v i ∧ flA v i ≤ 60
  ok : diskOk (v, (0, 0)) = true

theorem MkIs.of {d : Dk} (h : DkD d) (h2 : 2 ≤ d.1.length) : MkIs d.1 := by
  have hok : diskOk (d.1, (0, 0)) = true := DkD.ok (d := (d.1, (0, 0))) ⟨h.lo, h.hi, h.tm, h.el, by simp, by simp⟩
  have hi := DiskIs.of (d := (d.1, (0, 0))) (a := 0) hok rfl
  have hmul : dW d.1 * (d.1.length : Int) = 1296000 := hi.mul
  have hh := h.hi
  have e1 : Int.tdiv 1296000 (d.1.length : Int) = dW d.1 := Int.tdiv_eq_ediv_of_nonneg (by decide)
  refine ⟨h2, hh, h.tm, e1, by rw [Int.mul_comm]; exact hmul, ?_, ?_, hok⟩
  · have w0 : 1 ≤ dW d.1 ∧ dW d.1 ≤ 1296000 := hi.w
    refine ⟨?_, ?_⟩
    · rcases Int.lt_or_le (dW d.1) 36000 with hlt | hge
      · have := Int.mul_le_mul (a := dW d.1) (b := (d.1.length : Int)) (c := 35999) (d := 36) (by omega) (by omega) (by omega) (by omega)
        omega
      · exact hge
    · rcases Int.lt_or_le 648000 (dW d.1) with hlt | hge
      · have := Int.mul_le_mul (a := 648001) (b := 2) (c := dW d.1) (d := (d.1.length : Int)) (by omega) (by omega) (by omega) (by omega)
        omega
      · exact hge
  · intro i
    unfold flA
    by_cases hi' : i < d.1.length
    · rw [get_ix hi']
      have := h.el _ (List.getElem_mem hi')
      rw [w_in (by unfold I64; omega)]
      exact this
    · rw [show d.1.getD i 0 = 0 by simp [List.getD, List.getElem?_eq_none (Nat.le_of_not_lt hi')]]
      decide

section
variable {v : List Int} (h : MkIs v)
include h

theorem mk_ang {K : Nat} (hK : K < v.length) : 0 ≤ (K : Int) * dW v ∧ (K : Int) * dW v ≤ 1296000 - dW v := by
  have hw := h.w
  have h1 : ((K : Int) + 1) * dW v ≤ (v.length : Int) * dW v := Int.mul_le_mul_of_nonneg_right (by omega) (by omega)
  have h2 : 0 ≤ (K : Int) * dW v := Int.mul_nonneg (by omega) (by omega)
  rw [h.mul, Int.add_mul, Int.one_mul] at h1
  omega

/-- what a head reads at a mark -/
theorem mk_head {K : Nat} : headR (v, (0, 0)) ((K : Int) * dW v) 1 = ((K : Int) * dW v + flA v K) % 1296000 := by
  have hw := h.w
  have e1 : (K : Int) * dW v / dW v = (K : Int) := Int.mul_ediv_cancel _ (by omega)
  have e2 : (K : Int) * dW v % dW v = 0 := Int.mul_emod_left _ _
  have ef : faultP v ((K : Int) * dW v) = flA v K * dW v := by
    unfold faultP dK
    rw [e1, e2, Int.toNat_natCast, Int.mul_zero, Int.add_zero]
  have eo : offP (v, (0, 0)) ((K : Int) * dW v) = 0 := by unfold offP; simp
  have eN : headN (v, (0, 0)) ((K : Int) * dW v) 1 = (K : Int) * dW v + flA v K := by
    unfold headN headS headU
    simp only [ef, eo, Int.zero_mul, Int.add_zero, Int.mul_one]
    have e3 : 2 * ((K : Int) * dW v * dW v * 324000 + flA v K * dW v * 324000) + dW v * 324000 = (dW v * 324000) * (2 * ((K : Int) * dW v + flA v K) + 1) := by
      have g1 : (K : Int) * dW v * dW v * 324000 = (dW v * 324000) * ((K : Int) * dW v) := by rw [Int.mul_assoc ((K : Int) * dW v), Int.mul_comm]
      have g2 : flA v K * dW v * 324000 = (dW v * 324000) * flA v K := by rw [Int.mul_assoc, Int.mul_comm]
      rw [g1, g2, Int.mul_add (dW v * 324000), Int.mul_one, Int.mul_left_comm (dW v * 324000) 2, Int.mul_add (dW v * 324000)]
    rw [e3, Int.mul_comm 2 (dW v * 324000), Int.mul_ediv_mul_of_pos _ _ (by omega)]
    omega
  unfold headR
  rw [eN, Int.mul_one]

theorem mk_next {K : Nat} (hK : K < v.length) : (((K : Int) + 1) * dW v) % 1296000 = (((K + 1) % v.length : Nat) : Int) * dW v ∧ ((((K + 1) % v.length : Nat) : Int) * dW v = (K : Int) * dW v + dW v ∨ (((K + 1) % v.length : Nat) : Int) * dW v = (K : Int) * dW v + dW v - 1296000) := by
  have hw := h.w
  have hlo := h.lo
  have ha := mk_ang h hK
  have e : ((K : Int) + 1) * dW v = (K : Int) * dW v + dW v := by rw [Int.add_mul, Int.one_mul]
  by_cases h1 : K + 1 < v.length
  · have hb := mk_ang h h1
    rw [Nat.mod_eq_of_lt h1, show ((K + 1 : Nat) : Int) = (K : Int) + 1 by omega] at *
    rw [e] at hb ⊢
    exact ⟨Int.emod_eq_of_lt (by omega) (by omega), .inl rfl⟩
  · have h2 : K + 1 = v.length := by omega
    have h3 := h.mul
    rw [← h2, show ((K + 1 : Nat) : Int) = (K : Int) + 1 by omega, e] at h3
    rw [h2, Nat.mod_self, e, h3]
    exact ⟨by simp, .inr (by simp)⟩

/-- sector i is its width, more by what the faults differ -/
theorem mk_sec {K : Nat} (hK : K < v.length) : secT (v, (0, 0)) (v.length : Int) 1 K = dW v + (flA v ((K + 1) % v.length) - flA v K) := by
  have hw := h.w
  have ha := mk_ang h hK
  obtain ⟨n1, n2⟩ := mk_next h hK
  have hx := h.el K
  have hy := h.el ((K + 1) % v.length)
  unfold secT sec1 secW
  rw [h.td, n1, mk_head h, mk_head h]
  generalize (((K + 1) % v.length : Nat) : Int) * dW v = q at *
  generalize (K : Int) * dW v = p at *
  generalize flA v ((K + 1) % v.length) = y at *
  generalize flA v K = x at *
  have ht : (((q + y) % 1296000 - (p + x) % 1296000) % 1296000) = dW v + (y - x) := by omega
  unfold turn
  rw [ht]
  by_cases h1 : dW v + (y - x) > 648000
  · rw [dec_t h1, cond_true, dec_t (p := dW v + (y - x) - 1296000 ≤ 0) (by omega), cond_true]
    omega
  · rw [dec_f h1, cond_false, dec_f (p := dW v + (y - x) ≤ 0) (by omega), cond_false]

/-- all sectors -/
abbrev secsV (v : List Int) : List Int := secUp (v, (0, 0)) (v.length : Int) 1 v.length 0

theorem secUp_at (d : Dk) (n l : Int) : ∀ (k i j : Nat), j < k → (secUp d n l k i).getD j 0 = secT d n l (i + j)
  | 0, i, j, hj => by omega
  | k + 1, i, 0, hj => rfl
  | k + 1, i, j + 1, hj => by
    rw [secUp, List.getD_cons_succ, secUp_at d n l k (i + 1) j (by omega), show i + 1 + j = i + (j + 1) by omega]

theorem secs_len : (secsV v).length = v.length := secUp_len _ _ _ _ _

theorem secs_at' {K : Nat} (hK : K < v.length) : (secsV v).getD K 0 = dW v + (flA v ((K + 1) % v.length) - flA v K) := by
  rw [secUp_at h _ _ _ _ _ _ hK, Nat.zero_add, mk_sec h hK]

theorem secs_el : ∀ y ∈ secsV v, 35000 ≤ y ∧ y ≤ 649000 := by
  intro y hy
  obtain ⟨j, hj, e⟩ := List.mem_iff_getElem.1 hy
  have hl := secs_len h
  have := secs_at' h (K := j) (by omega)
  rw [get_ix hj, e] at this
  have hx := h.el j
  have hz := h.el ((j + 1) % v.length)
  have hw := h.w
  omega

theorem secs_sum : ∀ i : Nat, i ≤ v.length → sumL ((secsV v).take i) = dW v * (i : Int) + (flA v (i % v.length) - flA v 0)
  | 0, _ => by simp [sumL]
  | i + 1, hi => by
    have hl := secs_len h
    rw [take_sum (by omega), secs_sum i (by omega), secs_at' h (by omega), Nat.mod_eq_of_lt (a := i) (by omega), show ((i + 1 : Nat) : Int) = (i : Int) + 1 by omega, Int.mul_add, Int.mul_one]
    omega

theorem secs_ok : secOk (secsV v) = true := by
  have hl := secs_len h
  rw [secOk_iff]
  refine ⟨by have := h.lo; have := h.hi; omega, ?_⟩
  rw [List.all_eq_true]
  intro y hy
  have := secs_el h y hy
  exact isSec_iff.2 (by omega)

theorem secs_closing : closing (secsV v) = 0 := by
  have hl := secs_len h
  have e := secs_sum h v.length (Nat.le_refl _)
  rw [show (secsV v).take v.length = secsV v by rw [← hl, List.take_length], Nat.mod_self, Int.mul_comm, h.mul] at e
  unfold closing
  rw [e]
  omega

theorem secs_shared : shared (secsV v) = secsV v := by
  unfold shared
  rw [secs_closing h]
  exact shares_zero _ _ _ fun y hy => by have := secs_el h y hy; unfold I64; omega

theorem secs_faults_len : (faultsFrom (secsV v)).length = v.length := by
  have hl := secs_len h
  have := h.lo
  unfold faultsFrom
  rw [List.length_cons, flt_len, List.length_take, secs_shared h]
  omega

theorem secs_faults : ∀ {i : Nat}, i < v.length → (faultsFrom (secsV v)).getD i 0 = flA v i - flA v 0
  | 0, _ => by simp [faultsFrom]
  | i + 1, hi => by
    have hl := secs_len h
    have hw := h.w
    have hh := h.hi
    unfold faultsFrom
    rw [secs_shared h, hl, h.td, w_in (x := dW v) (by unfold I64; omega), List.getD_cons_succ]
    rw [flt_at (c := dW v) (by omega) _ 0 i (by
      intro y hy
      have := secs_el h y (List.mem_of_mem_take hy)
      omega) (by rw [List.length_take]; omega) (by rw [List.length_take]; omega) (by rw [List.length_take]; omega)]
    rw [List.take_take, show min (i + 1) (v.length - 1) = i + 1 by omega, secs_sum h (i + 1) (by omega), Nat.mod_eq_of_lt hi, show ((i + 1 : Nat) : Int) = (i : Int) + 1 by omega]
    omega

theorem marks_l19_is : ∀ (k i : Nat), i ≤ v.length → v.length - i < k → laws_FnMarks_l19 N0 k (i : Int) (v.length : Int) v 0 0 (faultsFrom (secsV v)) = r1 true
  | 0, i, _, hk => by omega
  | k + 1, i, hi, hk => by
    have hf := secs_faults_len h
    have hlo := h.lo
    have hh := h.hi
    simp only [laws_FnMarks_l19, laws_FnMarks_t19]
    by_cases hlt : i < v.length
    · have h1 := h.el i
      have h2 := h.el 0
      have e := secs_faults h hlt
      rw [lt_t hlt, cond_true, nn_t, hf, lt_t hlt, Bool.and_self, cond_true, cond_true, dec_t (p := (0 : Int) < (v.length : Int)) (by omega), cond_true, Int.toNat_natCast, w_succ (i := i) (by omega)]
      rw [show IntKind.wrap .i64 (IntKind.wrap .i64 (v.getD i 0) - IntKind.wrap .i64 (v.getD (Int.toNat 0) 0)) = flA v i - flA v 0 from w_in (x := flA v i - flA v 0) (by unfold I64; omega), ne_f e, cond_false]
      exact marks_l19_is k (i + 1) hlt (by omega)
    · rw [lt_f hlt]
      rfl
end

theorem law_FnMarks (code : List Int) (h : WfD (.list (.int .u8)) code) : laws_FnMarks N0 code = r1 true := by
  have := N0_big
  simp only [laws_FnMarks, laws_FnMarks_t, laws_a2Long_is, Option.bind_some]
  cases hl : (decide ((code.length : Int) > 3000) || decide ((code.length : Int) > 3000)) with
  | true => rfl
  | false =>
    rw [Bool.or_eq_false_iff] at hl
    have hl1 := of_decide_eq_false hl.1
    obtain ⟨d, ed, hd⟩ := spec_A2Disk_ex code (code_wf h) (by omega)
    have hh := hd.hi
    have hlo := hd.lo
    have hok : diskOk (d.1, (0, 0)) = true := DkD.ok (d := (d.1, (0, 0))) ⟨hd.lo, hd.hi, hd.tm, hd.el, by simp, by simp⟩
    have hb : ((d.1, ((0 : Int), (0 : Int))) : Dk).1.length ≤ 9223372036854775807 := by simp only; omega
    rw [cond_false, ed, Option.bind_some]
    dsimp only
    rw [impl_SectorsOf_is _ _ _ hb, spec_SectorsOf_is _ _ _ hb]
    unfold secsRes
    rw [hok]
    by_cases h2 : (d.1.length : Int) < 2
    · rw [dec_t h2, show btw (d.1.length : Int) 2 72 = false by unfold btw; rw [dec_f (p := (2 : Int) ≤ (d.1.length : Int)) (by omega)]; rfl]
      rfl
    · have hm := MkIs.of hd (by omega)
      have hsl : (secUp (d.1, (0, 0)) (d.1.length : Int) 1 d.1.length 0).length = d.1.length := secs_len hm
      rw [dec_f h2, show btw (d.1.length : Int) 2 72 = true from btw_iff.2 (by omega), hd.tm, Int.toNat_natCast]
      simp only [show btw 1 1 3600 = true from rfl, beq_self_eq_true, Bool.and_self, cond_true, cond_false, Option.bind_some, bne_self_eq_false]
      rw [spec_A2Same_refl _ (by omega), Option.bind_some]
      dsimp only
      rw [impl_ClosingOf_is _ (by omega), impl_FaultsFrom_is _ (by omega)]
      unfold faultsRes
      rw [secs_ok hm, secs_closing hm, hsl, hd.tm]
      simp only [Bool.not_true, cond_true, cond_false, Option.bind_some, bne_self_eq_false, secs_faults_len hm]
      exact marks_l19_is hm N0 0 (by omega) (by omega)
end Go.Abs
