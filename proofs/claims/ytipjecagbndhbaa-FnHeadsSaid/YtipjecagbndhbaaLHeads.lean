/- The plain law of heads: what is read lies near to what is there; two heads take away what the middle does. -/
import Derived.Test.YtipjecagbndhbaaDiskB
import Derived.Test.YtipjecagbndhbaaFracQ
import Derived.Test.YtipjecagbndhbaaHeadsP
import Derived.Test.YtipjecagbndhbaaWorstP
namespace Go.Abs
set_option linter.unusedSectionVars false
set_option linter.unusedSimpArgs false
set_option linter.unusedVariables false

theorem laws_a2At_at (l : List Int) (h : ∀ y ∈ l, 0 ≤ y ∧ y ≤ 255) (i : Nat) {m : Int} (hm : 1 ≤ m) : ∃ x, laws_a2At N0 l (i : Int) m = r1 x ∧ 0 ≤ x ∧ x < m := by
  simp only [laws_a2At, laws_a2At_t]
  by_cases h0 : (i : Int) ≥ (l.length : Int)
  · rw [dec_t h0, cond_true]
    exact ⟨0, rfl, by omega, by omega⟩
  · have hl : i < l.length := by omega
    have hy := h _ (List.getElem_mem hl)
    rw [dec_f h0, cond_false, dec_f (p := m < 1) (by omega), cond_false, nn_t, lt_t hl, Bool.and_self, cond_true, ne_true (a := m) (b := 0) (by omega), cond_true]
    rw [Int.toNat_natCast, get_ix hl, w_in (x := l[i]) (by unfold I64; omega)]
    exact ⟨_, rfl, Int.tmod_nonneg _ (by omega), Int.tmod_lt_of_pos _ (by omega)⟩

theorem mkF_parts {p q : Int} {a : Fq} (hq : 0 < q) (h : mkF p q = some a) : ∃ g, 1 ≤ g ∧ p = g * a.1 ∧ q = g * a.2 := by
  have hg := gcd_pos (p := p) (q := q) (by omega)
  have e : redP p q = a := by
    unfold mkF at h
    cases hv : vF (redP p q) with
    | false => rw [hv] at h; cases h
    | true => rw [hv] at h; injection h
  rw [redP_pos hq] at e
  refine ⟨((Int.gcd p q : Nat) : Int), by omega, ?_, ?_⟩
  · rw [← e]; exact (Int.mul_tdiv_cancel' (Int.gcd_dvd_left ..)).symm
  · rw [← e]; exact (Int.mul_tdiv_cancel' (Int.gcd_dvd_right ..)).symm

theorem spec_l01Two_is (a b : Fq) : spec_l01Two N0 a b = r1 (bif vF a && vF b then 0 else 1) := by
  simp only [spec_l01Two, spec_l01Two_t, pr_eta, spec_l01Ok_is, Option.bind_some]
  cases vF a <;> cases vF b <;> rfl

theorem spec_AddFracs_is {a b : Fq} (ha : vF a = true) (hb : vF b = true) : spec_AddFracs N0 a b = r2 ((fadd a b).getD (0, 0)) (bif (fadd a b).isSome then 0 else 3) := by
  simp only [spec_AddFracs, spec_AddFracs_t, pr_eta, spec_l01Two_is, ha, hb, Option.bind_some, Bool.and_self, cond_true, bne_self_eq_false, cond_false, spec_l01Add_is (Bd.of ha) (Bd.of hb)]

theorem spec_SubFracs_is {a b : Fq} (ha : vF a = true) (hb : vF b = true) : spec_SubFracs N0 a b = r2 ((fsub a b).getD (0, 0)) (bif (fsub a b).isSome then 0 else 3) := by
  simp only [spec_SubFracs, spec_SubFracs_t, pr_eta, spec_l01Two_is, ha, hb, Option.bind_some, Bool.and_self, cond_true, bne_self_eq_false, cond_false, spec_l01Sub_is (Bd.of ha) (Bd.of hb)]

theorem spec_SubFracs_bad {a b : Fq} (ha : vF a = false) : spec_SubFracs N0 a b = r2 (0, 0) 1 := by
  simp only [spec_SubFracs, spec_SubFracs_t, pr_eta, spec_l01Two_is, ha, Option.bind_some, Bool.false_and, cond_false]
  rfl

theorem spec_TurnFrom_is {a b : Int} (ha : isAng a = true) (hb : isAng b = true) : spec_TurnFrom N0 a b = r2 (turn a b) 0 := by
  have h1 := btw_iff.1 ha
  have h2 := btw_iff.1 hb
  simp only [spec_TurnFrom, spec_TurnFrom_t, spec_l03Angle_is, ha, hb, Option.bind_some, Bool.not_true, cond_false, spec_l03Turn_is N0 (a := a) (b := b) (by unfold I64; omega)]

/-! ### what is read, and what is there -/
/-- what is off, times the size of a sector and a quarter of the circle -/
def headX (d : Dk) (a : Int) : Int := faultP d.1 a * 324000 + offP d a * dW d.1
abbrev headV (d : Dk) (a u : Int) : Int := headN d a u * u - a

section
variable {d : Dk} {a u : Int} (hd : DkD d) (h : HeadIs d a u)
include hd h

theorem head_near : -(dW d.1 * 324000 * u) ≤ 2 * (headX d a - dW d.1 * 324000 * headV d a u) ∧ 2 * (headX d a - dW d.1 * 324000 * headV d a u) < dW d.1 * 324000 * u := by
  have hb := head_bd h
  have hU : 0 < 2 * headU d u := by omega
  have k1 : headN d a u * (2 * headU d u) ≤ 2 * headS d a + headU d u := Int.ediv_mul_le _ (by omega)
  have k2 : 2 * headS d a + headU d u < (headN d a u + 1) * (2 * headU d u) := Int.lt_ediv_add_one_mul_self _ hU
  have e1 : headN d a u * (2 * headU d u) = 2 * (dW d.1 * 324000 * (headN d a u * u)) := by
    unfold headU
    rw [Int.mul_left_comm, Int.mul_left_comm (headN d a u)]
  have e2 : dW d.1 * 324000 * headV d a u = dW d.1 * 324000 * (headN d a u * u) - dW d.1 * 324000 * a := Int.mul_sub _ _ _
  have e3 : headS d a = dW d.1 * 324000 * a + headX d a := by
    unfold headS headX
    have : a * dW d.1 * 324000 = dW d.1 * 324000 * a := by rw [Int.mul_comm a, Int.mul_assoc, Int.mul_comm a, ← Int.mul_assoc]
    omega
  rw [Int.add_mul, Int.one_mul, e1] at k2
  rw [e1] at k1
  unfold headU at k1 k2
  omega

theorem headX_bd : -(180 * (dW d.1 * 324000)) ≤ headX d a ∧ headX d a ≤ 180 * (dW d.1 * 324000) := by
  have hi := DiskIs.of h.ok h.ang
  have hw := hi.w
  obtain ⟨b1, b2⟩ := fault_between hd hi rfl rfl
  have f1 := fl_drawn hd (dK d.1 a)
  have f2 := fl_drawn hd ((dK d.1 a + 1) % d.1.length)
  have g1 := b1 (-60) f1.1 f2.1
  have g2 := b2 60 f1.2 f2.2
  have s1 := swing_bd hi.ang
  have s2 := swing_bd (ang_mod (a + 324000))
  have m1 := mul_bd (a := d.2.1) (b := swing a) (A := 60) (B := 324000) (by have := hd.east; omega) s1
  have m2 := mul_bd (a := d.2.2) (b := swing ((a + 324000) % 1296000)) (A := 60) (B := 324000) (by have := hd.north; omega) s2
  have ho : -38880000 ≤ offP d a ∧ offP d a ≤ 38880000 := by unfold offP; omega
  have k1 : -38880000 * dW d.1 ≤ offP d a * dW d.1 := Int.mul_le_mul_of_nonneg_right ho.1 (by omega)
  have k2 : offP d a * dW d.1 ≤ 38880000 * dW d.1 := Int.mul_le_mul_of_nonneg_right ho.2 (by omega)
  unfold headX
  omega

theorem headV_bd (hu : u ≤ 60) : -210 ≤ headV d a u ∧ headV d a u ≤ 210 := by
  have hn := head_near hd h
  have hx := headX_bd hd h
  have hi := DiskIs.of h.ok h.ang
  have hw := hi.w
  have hD : 0 < dW d.1 * 324000 := by omega
  have hu' := h.least
  have hDu : dW d.1 * 324000 * u ≤ dW d.1 * 324000 * 60 := Int.mul_le_mul_of_nonneg_left hu (by omega)
  have e : ∀ x, dW d.1 * 324000 * x = dW d.1 * 324000 * x := fun _ => rfl
  constructor
  · refine Int.le_of_mul_le_mul_left (a := dW d.1 * 324000) ?_ hD
    omega
  · refine Int.le_of_mul_le_mul_left (a := dW d.1 * 324000) ?_ hD
    omega

theorem turn_head (hu : u ≤ 60) : turn a (headR d a u) = headV d a u := by
  have hv := headV_bd hd h hu
  have ha := btw_iff.1 h.ang
  unfold headV at hv ⊢
  unfold headR turn
  generalize headN d a u * u = x at *
  by_cases hc : (x % 1296000 - a) % 1296000 > 648000
  · rw [dec_t hc, cond_true]; omega
  · rw [dec_f hc, cond_false]; omega

/-- the law of one head -/
theorem away_is {f s sum away : Fq} (hu : u ≤ 60) (hf : mkF (faultP d.1 a) (dW d.1) = some f) (hs : mkF (offP d a) 324000 = some s) (h1 : fadd f s = some sum) (h2 : fsub sum (headV d a u, 1) = some away) :
    2 * away.1 ≤ u * away.2 ∧ -(u * away.2) ≤ 2 * away.1 := by
  have hi := DiskIs.of h.ok h.ang
  have hw := hi.w
  obtain ⟨g1, hg1, a1, a2⟩ := mkF_parts (by omega) hf
  obtain ⟨g2, hg2, b1, b2⟩ := mkF_parts (by omega) hs
  have bf := vF_bd (mkF_valid hf)
  have bs := vF_bd (mkF_valid hs)
  have bm := vF_bd (mkF_valid h1)
  obtain ⟨g3, hg3, c1, c2⟩ := mkF_parts (Int.mul_pos (by omega) (by omega)) h1
  obtain ⟨g4, hg4, d1, d2⟩ := mkF_parts (Int.mul_pos (by omega) (by omega)) h2
  dsimp only at d1 d2
  rw [Int.mul_one] at d1 d2
  have hn := head_near hd h
  have eD : dW d.1 * 324000 = g1 * g2 * g3 * g4 * away.2 := by
    rw [a2, b2, Int.mul_assoc (g1 * g2 * g3), ← d2, Int.mul_assoc (g1 * g2), ← c2, Int.mul_assoc g1, Int.mul_left_comm f.2, ← Int.mul_assoc]
  have eX : headX d a - dW d.1 * 324000 * headV d a u = g1 * g2 * g3 * g4 * away.1 := by
    have x1 : headX d a = g1 * g2 * (g3 * sum.1) := by
      unfold headX
      rw [← c1, Int.mul_add, a1, b1]
      conv => lhs; rw [a2, show (324000 : Int) = g2 * s.2 from b2]
      congr 1
      · rw [Int.mul_assoc g1 f.1, Int.mul_left_comm f.1 g2, ← Int.mul_assoc]
      · rw [Int.mul_comm (g2 * s.1), Int.mul_assoc g1 f.2, Int.mul_left_comm f.2 g2, ← Int.mul_assoc, Int.mul_comm f.2]
    have x2 : dW d.1 * 324000 = g1 * g2 * (g3 * sum.2) := by
      rw [a2, show (324000 : Int) = g2 * s.2 from b2, ← c2, Int.mul_assoc g1, Int.mul_left_comm f.2, ← Int.mul_assoc]
    generalize headV d a u = v at *
    rw [x1, x2, Int.mul_assoc (g1 * g2 * g3), ← d1, Int.mul_sub, ← Int.mul_assoc (g1 * g2) g3, ← Int.mul_assoc (g1 * g2) g3, Int.mul_assoc (g1 * g2 * g3) sum.2, Int.mul_comm sum.2]
  have hG : 0 < g1 * g2 * g3 * g4 := Int.mul_pos (Int.mul_pos (Int.mul_pos (by omega) (by omega)) (by omega)) (by omega)
  rw [eX, eD] at hn
  have e3 : g1 * g2 * g3 * g4 * away.2 * u = g1 * g2 * g3 * g4 * (u * away.2) := by rw [Int.mul_assoc, Int.mul_comm away.2]
  rw [e3] at hn
  constructor
  · refine Int.le_of_mul_le_mul_left (a := g1 * g2 * g3 * g4) ?_ hG
    rw [Int.mul_left_comm]
    omega
  · refine Int.le_of_mul_le_mul_left (a := g1 * g2 * g3 * g4) ?_ hG
    rw [Int.mul_left_comm, Int.mul_neg]
    omega
end

theorem cmp_low {a : Fq} (ha : vF a = true) {u : Int} (hu : 1 ≤ u ∧ u ≤ 60) (h : -(u * a.2) ≤ 2 * a.1) : ∃ c, impl_CompareFracs N0 a (-3601, 2) = r2 c 0 ∧ ¬ c < 0 := by
  have hb := vF_bd ha
  have m := Int.mul_le_mul_of_nonneg_right (c := a.2) hu.2 (by omega)
  rw [impl_CompareFracs_is, ha, show vF (-3601, 2) = true by decide]
  unfold cmpF
  simp only []
  rw [w_in (x := a.1 * 2) (by unfold I64; omega), w_in (x := -3601 * a.2) (by unfold I64; omega), dec_f (p := a.1 * 2 < _) (by omega)]
  refine ⟨_, rfl, ?_⟩
  cases decide (a.1 * 2 > -3601 * a.2) <;> decide

/-! ### two heads -/
abbrev plainD (d : Dk) : Dk := ([0], d.2)

theorem plain_drawn {d : Dk} (hd : DkD d) : DkD (plainD d) := ⟨Nat.le_refl 1, show (1 : Nat) ≤ 36 by decide, show Int.tmod 1296000 1 = 0 by decide, by intro y hy; rw [List.mem_singleton.1 hy]; omega, hd.east, hd.north⟩

theorem headX_plain (d : Dk) (a : Int) : headX (plainD d) a = offP d a * 1296000 := by
  have hf : ∀ i, flA [0] i = 0 := by
    intro i
    cases i <;> rfl
  unfold headX faultP
  simp only [hf, Int.zero_mul, Int.add_zero, Int.sub_self, Int.zero_add]
  rfl

/-- the mean of two heads -/
theorem mean_is {d : Dk} (hd : DkD d) {a u : Int} (ha : isAng a = true) (hu : 1 ≤ u ∧ u ≤ 60) :
    ∃ g m k e, mkF (2 * headR (plainD d) a u + turn (headR (plainD d) a u) ((headR (plainD d) ((a + 648000) % 1296000) u - 648000) % 1296000)) 2 = some m ∧ 1 ≤ g ∧ g * m.2 = 2 ∧ (-u ≤ e ∧ e ≤ u) ∧ (-1 ≤ k ∧ k ≤ 1) ∧ g * m.1 = 2 * a + e + k * 2592000 := by
  have hp := plain_drawn hd
  have haa := btw_iff.1 ha
  have h1 : HeadIs (plainD d) a u := ⟨hp.ok, ha, by omega⟩
  have h2 : HeadIs (plainD d) ((a + 648000) % 1296000) u := ⟨hp.ok, btw_iff.2 (ang_mod _), by omega⟩
  have v1 := headV_bd hp h1 hu.2
  have v2 := headV_bd hp h2 hu.2
  have n1 := head_near hp h1
  have n2 := head_near hp h2
  rw [headX_plain] at n1 n2
  rw [off_half d haa] at n2
  have hw : dW (plainD d).1 = 1296000 := show dW [0] = 1296000 by decide
  rw [hw] at n1 n2
  have e1 : headR (plainD d) a u = (a + headV (plainD d) a u) % 1296000 := by unfold headR headV; congr 1; omega
  have e2 : headR (plainD d) ((a + 648000) % 1296000) u = ((a + 648000) % 1296000 + headV (plainD d) ((a + 648000) % 1296000) u) % 1296000 := by unfold headR headV; congr 1; omega
  rw [e1, e2]
  generalize headV (plainD d) a u = x at *
  generalize headV (plainD d) ((a + 648000) % 1296000) u = y at *
  have ht : turn ((a + x) % 1296000) ((((a + 648000) % 1296000 + y) % 1296000 - 648000) % 1296000) = y - x := by
    unfold turn
    by_cases hc : ((((a + 648000) % 1296000 + y) % 1296000 - 648000) % 1296000 - (a + x) % 1296000) % 1296000 > 648000
    · rw [dec_t hc, cond_true]; omega
    · rw [dec_f hc, cond_false]; omega
  rw [ht]
  obtain ⟨k, hk, hk'⟩ : ∃ k, (a + x) % 1296000 = a + x + k * 1296000 ∧ (-1 ≤ k ∧ k ≤ 1) := ⟨-((a + x) / 1296000), by omega, by omega⟩
  obtain ⟨g, m, hm, hv, hg, p1, p2⟩ := mkF_small (p := 2 * ((a + x) % 1296000) + (y - x)) (q := 2) (by omega) (by omega)
  exact ⟨g, m, k, x + y, hm, hg, p2.symm, by omega, hk', by rw [← p1, hk]; omega⟩

theorem impl_MeanOfTwo_good {a b : Int} {m : Fq} (ha : isAng a = true) (hb : isAng b = true) (h : mkF (2 * a + turn a ((b - 648000) % 1296000)) 2 = some m) : impl_MeanOfTwo N0 a b = r2 m 0 := by
  have h1 := btw_iff.1 ha
  have h2 := btw_iff.1 hb
  have ht := turn_bd a ((b - 648000) % 1296000)
  simp only [impl_MeanOfTwo, impl_MeanOfTwo_t, impl_isAngle_is, ha, hb, Option.bind_some, Bool.not_true, cond_false]
  rw [w_in (x := b - 648000) (by unfold I64; omega), impl_wrap_is, Option.bind_some]
  dsimp only
  rw [impl_turnFrom_is N0 (by unfold I64; omega), Option.bind_some]
  dsimp only
  rw [w_in (x := 2 * a) (by unfold I64; omega), w_in (by unfold I64; omega), impl_calc_told_is false (by unfold small; omega) (by decide) (by decide), Option.bind_some, h]
  simp only [impl_calc_one_is, Option.bind_some]
  rfl

/-! ### the worst one of some -/
theorem worst_in (d : Dk) (least : Int) : ∀ (v : List Int) (w a : Int), (worstOf d least v w a).2 ∈ v ∨ (worstOf d least v w a).2 = a
  | [], w, a => Or.inr rfl
  | y :: r, w, a => by
    rw [worstOf]
    cases decide (headOff d least y > w) with
    | true =>
      rcases worst_in d least r (headOff d least y) y with h | h
      · exact Or.inl (List.mem_cons_of_mem _ h)
      · exact Or.inl (by rw [cond_true, h]; exact List.mem_cons_self)
    | false =>
      rcases worst_in d least r w a with h | h
      · exact Or.inl (List.mem_cons_of_mem _ h)
      · exact Or.inr h

theorem worst_mem (d : Dk) (least y : Int) (r : List Int) : (worstOf d least (y :: r) (-1) 0).2 ∈ (y :: r) := by
  rw [worstOf, dec_t (p := headOff d least y > -1) (by unfold headOff; omega), cond_true]
  rcases worst_in d least r (headOff d least y) y with h | h
  · exact List.mem_cons_of_mem _ h
  · rw [h]; exact List.mem_cons_self

theorem spec_A2Has_l2_is (v : List Int) (hb : v.length ≤ 1048576) (x : Int) : ∀ (k i : Nat), i ≤ v.length → v.length - i < k → x ∈ v.drop i → spec_A2Has_l2 N0 k (i : Int) x v = r1 true
  | 0, i, _, hk, _ => by omega
  | k + 1, i, hi, hk, hx => by
    simp only [spec_A2Has_l2, spec_A2Has_t2]
    by_cases h : i < v.length
    · simp only [lt_t h, nn_t, Bool.and_self, cond_true, Int.toNat_natCast, get_ix h, w_succ (i := i) (by omega)]
      rw [drop_ix h] at hx
      by_cases he : v[i] = x
      · rw [eq_t he]; rfl
      · rw [eq_f he, cond_false]
        rcases List.mem_cons.1 hx with hx | hx
        · exact absurd hx.symm he
        · exact spec_A2Has_l2_is v hb x k (i + 1) h (by omega) hx
    · have : i = v.length := by omega
      subst this
      simp at hx

theorem spec_A2Has_is {v : List Int} (hb : v.length ≤ 1048576) {x : Int} (hx : x ∈ v) : spec_A2Has N0 v x = r1 true := by
  have := N0_big
  simp only [spec_A2Has, spec_A2Has_t]
  exact spec_A2Has_l2_is v hb x N0 0 (by omega) (by omega) hx

theorem law_FnHeads (code more : List Int) (h : WfD (.list (.int .u8)) code) (hm : WfD (.list (.int .u8)) more) : laws_FnHeads N0 code more = r1 true := by
  unfold laws_FnHeads laws_FnHeads_t
  rw [laws_a2Long_is, Option.bind_some]
  dsimp only
  cases hl : (decide ((code.length : Int) > 3000) || decide ((more.length : Int) > 3000)) with
  | true => rfl
  | false =>
    rw [Bool.or_eq_false_iff] at hl
    have hl1 := of_decide_eq_false hl.1
    have hl2 := of_decide_eq_false hl.2
    obtain ⟨d, ed, hd⟩ := spec_A2Disk_ex code (code_wf h) (by omega)
    obtain ⟨a, ea, ha⟩ := spec_A2Angle_ex more (code_wf hm) (by omega)
    obtain ⟨x, ex, hx⟩ := laws_a2At_at more (code_wf hm) 1 (m := 5) (by omega)
    have hdl := hd.hi
    have hok := hd.ok
    have hb : d.1.length ≤ 9223372036854775807 := by omega
    have haa := btw_iff.1 ha
    obtain ⟨u, hu, ⟨c, hc⟩, eu, en⟩ : ∃ u : Int, (1 ≤ u ∧ u ≤ 60) ∧ (∃ c, 1296000 = u * c) ∧ ([1, 2, 5, 10, 60] : List Int).getD x.toNat 0 = u ∧ (([1, 2, 5, 10, 60] : List Int).getD x.toNat 0 != 0) = true := by
      have h5 : x = 0 ∨ x = 1 ∨ x = 2 ∨ x = 3 ∨ x = 4 := by omega
      rcases h5 with rfl | rfl | rfl | rfl | rfl
      · exact ⟨1, by omega, ⟨1296000, rfl⟩, rfl, rfl⟩
      · exact ⟨2, by omega, ⟨648000, rfl⟩, rfl, rfl⟩
      · exact ⟨5, by omega, ⟨259200, rfl⟩, rfl, rfl⟩
      · exact ⟨10, by omega, ⟨129600, rfl⟩, rfl, rfl⟩
      · exact ⟨60, by omega, ⟨21600, rfl⟩, rfl, rfl⟩
    have hgu : (decide (0 ≤ x) && decide (x < ((([1, 2, 5, 10, 60] : List Int).length : Nat) : Int))) = true := by
      rw [dec_t hx.1, dec_t (p := x < ((([1, 2, 5, 10, 60] : List Int).length : Nat) : Int)) (show x < 5 from hx.2)]
      rfl
    have hi := DiskIs.of hok ha
    have hL : HeadIs d a u := ⟨hok, ha, by omega⟩
    have hC : ∀ e : Dk, diskOk e = true → leastC e a u = 0 := by
      intro e he
      unfold leastC
      rw [he, ha, show btw u 1 3600 = true from btw_iff.2 (by omega)]
      rfl
    have hR1 : impl_ReadHead N0 d a u = r2 (headR d a u) 0 := by rw [impl_ReadHead_is d a u hb, hC d hok]; rfl
    have hR2 : spec_ReadHead N0 d a u = r2 (headR d a u) 0 := by rw [spec_ReadHead_is d a u hb, hC d hok]; rfl
    have hR3 : Int.tmod (headR d a u) u = 0 := by
      refine Int.tmod_eq_zero_of_dvd ?_
      unfold headR
      rw [Int.emod_def]
      refine Int.dvd_sub (Int.dvd_mul_left ..) ?_
      rw [hc, Int.mul_assoc]
      exact Int.dvd_mul_right ..
    obtain ⟨f, ef, vf, _, _⟩ := fault_frac hd hi
    obtain ⟨s, es, vs, _⟩ := off_frac hd haa
    have hF : spec_FaultAt N0 d a = r2 f 0 := by rw [spec_FaultAt_is d a hb, hok, ha, ef]; rfl
    have hS : spec_SwingAt N0 d a = r2 s 0 := by rw [spec_SwingAt_is d a hb, hok, ha, es]; rfl
    have hT : spec_TurnFrom N0 a (headR d a u) = r2 (headV d a u) 0 := by rw [spec_TurnFrom_is ha (headR_ang d a u), turn_head hd hL hu.2]
    have hv := headV_bd hd hL hu.2
    have hv1 : vF (headV d a u, 1) = true := vF_one (by omega)
    have hp := plain_drawn hd
    have hpb : (plainD d).1.length ≤ 9223372036854775807 := by have := hp.hi; omega
    have hT1 : impl_ReadTwo N0 ([0], (d.2.1, d.2.2)) a u = r3 (headR (plainD d) a u) (headR (plainD d) ((a + 648000) % 1296000) u) 0 := by
      have := impl_ReadTwo_is (plainD d) a u hpb
      rw [hC _ hp.ok] at this
      exact this
    have hT2 : spec_ReadTwo N0 ([0], (d.2.1, d.2.2)) a u = r3 (headR (plainD d) a u) (headR (plainD d) ((a + 648000) % 1296000) u) 0 := by
      have := spec_ReadTwo_is (plainD d) a u hpb
      rw [hC _ hp.ok] at this
      exact this
    obtain ⟨g, ⟨mp, mq⟩, k, e, hmk, hg, hgq, he, hk, hgp⟩ := mean_is hd ha hu
    have hM := impl_MeanOfTwo_good (headR_ang (plainD d) a u) (headR_ang (plainD d) ((a + 648000) % 1296000) u) hmk
    dsimp only at hgq hgp
    have hmv := vF_bd (mkF_valid hmk)
    dsimp only at hmv
    have hq3 : mq = 1 ∨ mq = 2 := by
      have h1 : 1 * mq ≤ g * mq := Int.mul_le_mul_of_nonneg_right hg (by omega)
      omega
    have hwc : worstC d [a, 0, 324000, a] u = 0 := by
      unfold worstC
      rw [hok, show [a, 0, 324000, a].all isAng = true by simp only [List.all_cons, List.all_nil, ha, show isAng 0 = true from rfl, show isAng 324000 = true from rfl, Bool.and_self], show btw u 1 3600 = true from btw_iff.2 (by omega)]
      rfl
    have hW1 : impl_WorstHead N0 d (a :: (0 :: (324000 :: (a :: [])))) u = r3 (worstOf d u [a, 0, 324000, a] (-1) 0).1 (worstOf d u [a, 0, 324000, a] (-1) 0).2 0 := by
      rw [impl_WorstHead_is d [a, 0, 324000, a] u (by simp) hb, worstRes, hwc]; rfl
    have hW2 : spec_WorstHead N0 d (a :: (0 :: (324000 :: (a :: [])))) u = r3 (worstOf d u [a, 0, 324000, a] (-1) 0).1 (worstOf d u [a, 0, 324000, a] (-1) 0).2 0 := by
      rw [spec_WorstHead_is d [a, 0, 324000, a] u (by simp) hb, worstRes, hwc]; rfl
    have hHas : spec_A2Has N0 (a :: (0 :: (324000 :: (a :: [])))) (worstOf d u [a, 0, 324000, a] (-1) 0).2 = r1 true := spec_A2Has_is (by simp) (worst_mem d u a [0, 324000, a])
    have ex : laws_a2At N0 more 1 5 = r1 x := ex
    rw [cond_false, ed, Option.bind_some]
    dsimp only
    rw [ea, Option.bind_some]
    dsimp only
    rw [ex, Option.bind_some]
    dsimp only
    rw [hgu, cond_true]
    simp only [pr_eta, eu, ne_true (a := u) (b := 0) (by omega), hR1, hR2, hF, hS, hT, hR3, spec_AddFracs_is vf vs, Option.bind_some, bne_self_eq_false, cond_false, cond_true]
    cases hfa : fadd f s with
    | none =>
      simp only [Option.isSome_none, cond_false, show ((3 : Int) == 0) = false from rfl]
      simp only [hT1, hT2, hM, Option.bind_some, bne_self_eq_false, cond_false, hW1, hW2, hHas, beq_self_eq_true, cond_true]
      have hq2 : mq = 1 ∨ mq = 2 := hq3
      rcases hq2 with hq2 | hq2
      · subst hq2
        have hg2 : g = 2 := by omega
        subst hg2
        have wA : IntKind.wrap .i64 (a * 1) = a * 1 := w_in (by unfold I64; omega)
        have wT : IntKind.wrap .i64 (mp - a * 1) = mp - a * 1 := w_in (by unfold I64; omega)
        have w1 : IntKind.wrap .i64 (600000 * 1) = 600000 * 1 := rfl
        have w2 : IntKind.wrap .i64 (1296000 * 1) = 1296000 * 1 := rfl
        have w3 : IntKind.wrap .i64 (-600000 * 1) = -600000 * 1 := rfl
        have w4 : IntKind.wrap .i64 (u * 1) = u * 1 := w_in (by unfold I64; omega)
        have w5 : IntKind.wrap .i64 (0 - u) = 0 - u := w_in (by unfold I64; omega)
        have w6 : IntKind.wrap .i64 ((0 - u) * 1) = (0 - u) * 1 := w_in (by unfold I64; omega)
        have w7 : IntKind.wrap .i64 (mp - a * 1 - 1296000 * 1) = mp - a * 1 - 1296000 * 1 := w_in (by unfold I64; omega)
        have w8 : IntKind.wrap .i64 (mp - a * 1 + 1296000 * 1) = mp - a * 1 + 1296000 * 1 := w_in (by unfold I64; omega)
        simp only [wA, wT, w1, w2, w3, w4, w5, w6, w7, w8]
        have hk3 : k = -1 ∨ k = 0 ∨ k = 1 := by omega
        rcases hk3 with hk3 | hk3 | hk3
        · rw [dec_f (p := mp - a * 1 > 600000 * 1) (by omega), cond_false, dec_t (p := mp - a * 1 < -600000 * 1) (by omega), cond_true, dec_f (p := _ > u * 1) (by omega), cond_false, dec_f (p := _ < (0 - u) * 1) (by omega), cond_false]
        · rw [dec_f (p := mp - a * 1 > 600000 * 1) (by omega), cond_false, dec_f (p := mp - a * 1 < -600000 * 1) (by omega), cond_false, dec_f (p := _ > u * 1) (by omega), cond_false, dec_f (p := _ < (0 - u) * 1) (by omega), cond_false]
        · rw [dec_t (p := mp - a * 1 > 600000 * 1) (by omega), cond_true, dec_f (p := mp - a * 1 - 1296000 * 1 < -600000 * 1) (by omega), cond_false, dec_f (p := _ > u * 1) (by omega), cond_false, dec_f (p := _ < (0 - u) * 1) (by omega), cond_false]
      · subst hq2
        have hg2 : g = 1 := by omega
        subst hg2
        have wA : IntKind.wrap .i64 (a * 2) = a * 2 := w_in (by unfold I64; omega)
        have wT : IntKind.wrap .i64 (mp - a * 2) = mp - a * 2 := w_in (by unfold I64; omega)
        have w1 : IntKind.wrap .i64 (600000 * 2) = 600000 * 2 := rfl
        have w2 : IntKind.wrap .i64 (1296000 * 2) = 1296000 * 2 := rfl
        have w3 : IntKind.wrap .i64 (-600000 * 2) = -600000 * 2 := rfl
        have w4 : IntKind.wrap .i64 (u * 2) = u * 2 := w_in (by unfold I64; omega)
        have w5 : IntKind.wrap .i64 (0 - u) = 0 - u := w_in (by unfold I64; omega)
        have w6 : IntKind.wrap .i64 ((0 - u) * 2) = (0 - u) * 2 := w_in (by unfold I64; omega)
        have w7 : IntKind.wrap .i64 (mp - a * 2 - 1296000 * 2) = mp - a * 2 - 1296000 * 2 := w_in (by unfold I64; omega)
        have w8 : IntKind.wrap .i64 (mp - a * 2 + 1296000 * 2) = mp - a * 2 + 1296000 * 2 := w_in (by unfold I64; omega)
        simp only [wA, wT, w1, w2, w3, w4, w5, w6, w7, w8]
        have hk3 : k = -1 ∨ k = 0 ∨ k = 1 := by omega
        rcases hk3 with hk3 | hk3 | hk3
        · rw [dec_f (p := mp - a * 2 > 600000 * 2) (by omega), cond_false, dec_t (p := mp - a * 2 < -600000 * 2) (by omega), cond_true, dec_f (p := _ > u * 2) (by omega), cond_false, dec_f (p := _ < (0 - u) * 2) (by omega), cond_false]
        · rw [dec_f (p := mp - a * 2 > 600000 * 2) (by omega), cond_false, dec_f (p := mp - a * 2 < -600000 * 2) (by omega), cond_false, dec_f (p := _ > u * 2) (by omega), cond_false, dec_f (p := _ < (0 - u) * 2) (by omega), cond_false]
        · rw [dec_t (p := mp - a * 2 > 600000 * 2) (by omega), cond_true, dec_f (p := mp - a * 2 - 1296000 * 2 < -600000 * 2) (by omega), cond_false, dec_f (p := _ > u * 2) (by omega), cond_false, dec_f (p := _ < (0 - u) * 2) (by omega), cond_false]
    | some sum =>
      have vsum := mkF_valid hfa
      simp only [Option.isSome_some, Option.getD_some, cond_true, beq_self_eq_true, spec_SubFracs_is vsum hv1, Option.bind_some]
      cases hfs : fsub sum (headV d a u, 1) with
      | none =>
        simp only [Option.isSome_none, Option.getD_none, cond_false, show ((3 : Int) == 0) = false from rfl, impl_CompareFracs_is, show vF (0, 0) = false from rfl, Bool.false_and, Option.bind_some]
        simp only [hT1, hT2, hM, Option.bind_some, bne_self_eq_false, cond_false, hW1, hW2, hHas, beq_self_eq_true, cond_true]
        have hq2 : mq = 1 ∨ mq = 2 := hq3
        rcases hq2 with hq2 | hq2
        · subst hq2
          have hg2 : g = 2 := by omega
          subst hg2
          have wA : IntKind.wrap .i64 (a * 1) = a * 1 := w_in (by unfold I64; omega)
          have wT : IntKind.wrap .i64 (mp - a * 1) = mp - a * 1 := w_in (by unfold I64; omega)
          have w1 : IntKind.wrap .i64 (600000 * 1) = 600000 * 1 := rfl
          have w2 : IntKind.wrap .i64 (1296000 * 1) = 1296000 * 1 := rfl
          have w3 : IntKind.wrap .i64 (-600000 * 1) = -600000 * 1 := rfl
          have w4 : IntKind.wrap .i64 (u * 1) = u * 1 := w_in (by unfold I64; omega)
          have w5 : IntKind.wrap .i64 (0 - u) = 0 - u := w_in (by unfold I64; omega)
          have w6 : IntKind.wrap .i64 ((0 - u) * 1) = (0 - u) * 1 := w_in (by unfold I64; omega)
          have w7 : IntKind.wrap .i64 (mp - a * 1 - 1296000 * 1) = mp - a * 1 - 1296000 * 1 := w_in (by unfold I64; omega)
          have w8 : IntKind.wrap .i64 (mp - a * 1 + 1296000 * 1) = mp - a * 1 + 1296000 * 1 := w_in (by unfold I64; omega)
          simp only [wA, wT, w1, w2, w3, w4, w5, w6, w7, w8]
          have hk3 : k = -1 ∨ k = 0 ∨ k = 1 := by omega
          rcases hk3 with hk3 | hk3 | hk3
          · rw [dec_f (p := mp - a * 1 > 600000 * 1) (by omega), cond_false, dec_t (p := mp - a * 1 < -600000 * 1) (by omega), cond_true, dec_f (p := _ > u * 1) (by omega), cond_false, dec_f (p := _ < (0 - u) * 1) (by omega), cond_false]
          · rw [dec_f (p := mp - a * 1 > 600000 * 1) (by omega), cond_false, dec_f (p := mp - a * 1 < -600000 * 1) (by omega), cond_false, dec_f (p := _ > u * 1) (by omega), cond_false, dec_f (p := _ < (0 - u) * 1) (by omega), cond_false]
          · rw [dec_t (p := mp - a * 1 > 600000 * 1) (by omega), cond_true, dec_f (p := mp - a * 1 - 1296000 * 1 < -600000 * 1) (by omega), cond_false, dec_f (p := _ > u * 1) (by omega), cond_false, dec_f (p := _ < (0 - u) * 1) (by omega), cond_false]
        · subst hq2
          have hg2 : g = 1 := by omega
          subst hg2
          have wA : IntKind.wrap .i64 (a * 2) = a * 2 := w_in (by unfold I64; omega)
          have wT : IntKind.wrap .i64 (mp - a * 2) = mp - a * 2 := w_in (by unfold I64; omega)
          have w1 : IntKind.wrap .i64 (600000 * 2) = 600000 * 2 := rfl
          have w2 : IntKind.wrap .i64 (1296000 * 2) = 1296000 * 2 := rfl
          have w3 : IntKind.wrap .i64 (-600000 * 2) = -600000 * 2 := rfl
          have w4 : IntKind.wrap .i64 (u * 2) = u * 2 := w_in (by unfold I64; omega)
          have w5 : IntKind.wrap .i64 (0 - u) = 0 - u := w_in (by unfold I64; omega)
          have w6 : IntKind.wrap .i64 ((0 - u) * 2) = (0 - u) * 2 := w_in (by unfold I64; omega)
          have w7 : IntKind.wrap .i64 (mp - a * 2 - 1296000 * 2) = mp - a * 2 - 1296000 * 2 := w_in (by unfold I64; omega)
          have w8 : IntKind.wrap .i64 (mp - a * 2 + 1296000 * 2) = mp - a * 2 + 1296000 * 2 := w_in (by unfold I64; omega)
          simp only [wA, wT, w1, w2, w3, w4, w5, w6, w7, w8]
          have hk3 : k = -1 ∨ k = 0 ∨ k = 1 := by omega
          rcases hk3 with hk3 | hk3 | hk3
          · rw [dec_f (p := mp - a * 2 > 600000 * 2) (by omega), cond_false, dec_t (p := mp - a * 2 < -600000 * 2) (by omega), cond_true, dec_f (p := _ > u * 2) (by omega), cond_false, dec_f (p := _ < (0 - u) * 2) (by omega), cond_false]
          · rw [dec_f (p := mp - a * 2 > 600000 * 2) (by omega), cond_false, dec_f (p := mp - a * 2 < -600000 * 2) (by omega), cond_false, dec_f (p := _ > u * 2) (by omega), cond_false, dec_f (p := _ < (0 - u) * 2) (by omega), cond_false]
          · rw [dec_t (p := mp - a * 2 > 600000 * 2) (by omega), cond_true, dec_f (p := mp - a * 2 - 1296000 * 2 < -600000 * 2) (by omega), cond_false, dec_f (p := _ > u * 2) (by omega), cond_false, dec_f (p := _ < (0 - u) * 2) (by omega), cond_false]
      | some away =>
        have va := mkF_valid hfs
        have ba := vF_bd va
        obtain ⟨q1, q2⟩ := away_is hd hL hu.2 ef es hfa hfs
        obtain ⟨lo, el, hlo⟩ := cmp_low va hu q2
        have mu := Int.mul_le_mul_of_nonneg_right (c := away.2) hu.2 (by omega)
        have mu0 := Int.mul_nonneg (a := u) (b := away.2) (by omega) (by omega)
        simp only [Option.isSome_some, Option.getD_some, cond_true, beq_self_eq_true, el, Option.bind_some, bne_self_eq_false, cond_false, dec_f hlo]
        have x1 : IntKind.wrap .i64 (2 * away.1) = 2 * away.1 := w_in (by unfold I64; omega)
        have x2 : IntKind.wrap .i64 (u * away.2) = u * away.2 := w_in (by unfold I64; omega)
        have x3 : IntKind.wrap .i64 (0 - u) = 0 - u := w_in (by unfold I64; omega)
        have x4 : (0 - u) * away.2 = -(u * away.2) := by rw [Int.zero_sub, Int.neg_mul]
        have x5 : IntKind.wrap .i64 ((0 - u) * away.2) = -(u * away.2) := by rw [x4]; exact w_in (by unfold I64; omega)
        simp only [x1, x2, x3, x5]
        rw [dec_f (p := 2 * away.1 > u * away.2) (by omega), cond_false, dec_f (p := 2 * away.1 < -(u * away.2)) (by omega), cond_false]
        simp only [hT1, hT2, hM, Option.bind_some, bne_self_eq_false, cond_false, hW1, hW2, hHas, beq_self_eq_true, cond_true]
        have hq2 : mq = 1 ∨ mq = 2 := hq3
        rcases hq2 with hq2 | hq2
        · subst hq2
          have hg2 : g = 2 := by omega
          subst hg2
          have wA : IntKind.wrap .i64 (a * 1) = a * 1 := w_in (by unfold I64; omega)
          have wT : IntKind.wrap .i64 (mp - a * 1) = mp - a * 1 := w_in (by unfold I64; omega)
          have w1 : IntKind.wrap .i64 (600000 * 1) = 600000 * 1 := rfl
          have w2 : IntKind.wrap .i64 (1296000 * 1) = 1296000 * 1 := rfl
          have w3 : IntKind.wrap .i64 (-600000 * 1) = -600000 * 1 := rfl
          have w4 : IntKind.wrap .i64 (u * 1) = u * 1 := w_in (by unfold I64; omega)
          have w5 : IntKind.wrap .i64 (0 - u) = 0 - u := w_in (by unfold I64; omega)
          have w6 : IntKind.wrap .i64 ((0 - u) * 1) = (0 - u) * 1 := w_in (by unfold I64; omega)
          have w7 : IntKind.wrap .i64 (mp - a * 1 - 1296000 * 1) = mp - a * 1 - 1296000 * 1 := w_in (by unfold I64; omega)
          have w8 : IntKind.wrap .i64 (mp - a * 1 + 1296000 * 1) = mp - a * 1 + 1296000 * 1 := w_in (by unfold I64; omega)
          simp only [wA, wT, w1, w2, w3, w4, w5, w6, w7, w8]
          have hk3 : k = -1 ∨ k = 0 ∨ k = 1 := by omega
          rcases hk3 with hk3 | hk3 | hk3
          · rw [dec_f (p := mp - a * 1 > 600000 * 1) (by omega), cond_false, dec_t (p := mp - a * 1 < -600000 * 1) (by omega), cond_true, dec_f (p := _ > u * 1) (by omega), cond_false, dec_f (p := _ < (0 - u) * 1) (by omega), cond_false]
          · rw [dec_f (p := mp - a * 1 > 600000 * 1) (by omega), cond_false, dec_f (p := mp - a * 1 < -600000 * 1) (by omega), cond_false, dec_f (p := _ > u * 1) (by omega), cond_false, dec_f (p := _ < (0 - u) * 1) (by omega), cond_false]
          · rw [dec_t (p := mp - a * 1 > 600000 * 1) (by omega), cond_true, dec_f (p := mp - a * 1 - 1296000 * 1 < -600000 * 1) (by omega), cond_false, dec_f (p := _ > u * 1) (by omega), cond_false, dec_f (p := _ < (0 - u) * 1) (by omega), cond_false]
        · subst hq2
          have hg2 : g = 1 := by omega
          subst hg2
          have wA : IntKind.wrap .i64 (a * 2) = a * 2 := w_in (by unfold I64; omega)
          have wT : IntKind.wrap .i64 (mp - a * 2) = mp - a * 2 := w_in (by unfold I64; omega)
          have w1 : IntKind.wrap .i64 (600000 * 2) = 600000 * 2 := rfl
          have w2 : IntKind.wrap .i64 (1296000 * 2) = 1296000 * 2 := rfl
          have w3 : IntKind.wrap .i64 (-600000 * 2) = -600000 * 2 := rfl
          have w4 : IntKind.wrap .i64 (u * 2) = u * 2 := w_in (by unfold I64; omega)
          have w5 : IntKind.wrap .i64 (0 - u) = 0 - u := w_in (by unfold I64; omega)
          have w6 : IntKind.wrap .i64 ((0 - u) * 2) = (0 - u) * 2 := w_in (by unfold I64; omega)
          have w7 : IntKind.wrap .i64 (mp - a * 2 - 1296000 * 2) = mp - a * 2 - 1296000 * 2 := w_in (by unfold I64; omega)
          have w8 : IntKind.wrap .i64 (mp - a * 2 + 1296000 * 2) = mp - a * 2 + 1296000 * 2 := w_in (by unfold I64; omega)
          simp only [wA, wT, w1, w2, w3, w4, w5, w6, w7, w8]
          have hk3 : k = -1 ∨ k = 0 ∨ k = 1 := by omega
          rcases hk3 with hk3 | hk3 | hk3
          · rw [dec_f (p := mp - a * 2 > 600000 * 2) (by omega), cond_false, dec_t (p := mp - a * 2 < -600000 * 2) (by omega), cond_true, dec_f (p := _ > u * 2) (by omega), cond_false, dec_f (p := _ < (0 - u) * 2) (by omega), cond_false]
          · rw [dec_f (p := mp - a * 2 > 600000 * 2) (by omega), cond_false, dec_f (p := mp - a * 2 < -600000 * 2) (by omega), cond_false, dec_f (p := _ > u * 2) (by omega), cond_false, dec_f (p := _ < (0 - u) * 2) (by omega), cond_false]
          · rw [dec_t (p := mp - a * 2 > 600000 * 2) (by omega), cond_true, dec_f (p := mp - a * 2 - 1296000 * 2 < -600000 * 2) (by omega), cond_false, dec_f (p := _ > u * 2) (by omega), cond_false, dec_f (p := _ < (0 - u) * 2) (by omega), cond_false]
end Go.Abs
