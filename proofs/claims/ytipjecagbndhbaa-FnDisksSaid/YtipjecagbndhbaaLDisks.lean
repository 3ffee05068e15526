/- The plain law of disks: faults at marks and between them, swings. -/
import Derived.Test.YtipjecagbndhbaaDrawDisk
import Derived.Test.YtipjecagbndhbaaHeadsP
import Derived.Test.YtipjecagbndhbaaFracQ
namespace Go.Abs
set_option linter.unusedSectionVars false
set_option linter.unusedSimpArgs false
set_option linter.unusedVariables false

theorem swing_half {a : Int} (h : 0 ≤ a ∧ a ≤ 1295999) : swing ((a + 648000) % 1296000) = -swing a := by
  unfold swing
  by_cases h1 : a ≤ 324000
  · rw [dec_t h1, dec_f (p := (a + 648000) % 1296000 ≤ 324000) (by omega), dec_t (p := (a + 648000) % 1296000 ≤ 972000) (by omega)]
    simp only [cond_true, cond_false]; omega
  · rw [dec_f h1]
    by_cases h2 : a ≤ 972000
    · rw [dec_t h2]
      by_cases h3 : a < 648000
      · rw [dec_f (p := (a + 648000) % 1296000 ≤ 324000) (by omega), dec_f (p := (a + 648000) % 1296000 ≤ 972000) (by omega)]
        simp only [cond_true, cond_false]; omega
      · rw [dec_t (p := (a + 648000) % 1296000 ≤ 324000) (by omega)]
        simp only [cond_true, cond_false]; omega
    · rw [dec_f h2]
      by_cases h3 : (a + 648000) % 1296000 ≤ 324000
      · omega
      · rw [dec_f h3, dec_t (p := (a + 648000) % 1296000 ≤ 972000) (by omega)]
        simp only [cond_true, cond_false]; omega

theorem off_half (d : Dk) {a : Int} (h : 0 ≤ a ∧ a ≤ 1295999) : offP d ((a + 648000) % 1296000) = -offP d a := by
  unfold offP
  rw [swing_half h, show ((a + 648000) % 1296000 + 324000) % 1296000 = (((a + 324000) % 1296000) + 648000) % 1296000 by omega, swing_half (ang_mod _), Int.mul_neg, Int.mul_neg]
  omega

section
variable {d : Dk} (h : DkD d)
include h

theorem fl_drawn (i : Nat) : -60 ≤ flA d.1 i ∧ flA d.1 i ≤ 60 := by
  unfold flA
  by_cases hi : i < d.1.length
  · rw [get_ix hi]
    have := h.el _ (List.getElem_mem hi)
    rw [w_in (by unfold I64; omega)]
    exact this
  · rw [show d.1.getD i 0 = 0 by simp [List.getD, List.getElem?_eq_none (Nat.le_of_not_lt hi)]]
    decide

theorem fault_between {a : Int} (hi : DiskIs d.1 a) {x y : Int} (hx : x = flA d.1 (dK d.1 a)) (hy : y = flA d.1 ((dK d.1 a + 1) % d.1.length)) :
    (∀ m, m ≤ x → m ≤ y → m * dW d.1 ≤ faultP d.1 a) ∧ (∀ m, x ≤ m → y ≤ m → faultP d.1 a ≤ m * dW d.1) := by
  have hm := hi.md
  have hw := hi.w
  have e : faultP d.1 a = x * dW d.1 + (y - x) * (a % dW d.1) := by unfold faultP; rw [hx, hy]
  have e1 : (y - x) * dW d.1 = y * dW d.1 - x * dW d.1 := Int.sub_mul _ _ _
  have e2 : (x - y) * dW d.1 = x * dW d.1 - y * dW d.1 := Int.sub_mul _ _ _
  have e3 : (x - y) * (a % dW d.1) = -((y - x) * (a % dW d.1)) := by rw [← Int.neg_mul]; congr 1; omega
  have key : (x * dW d.1 ≤ faultP d.1 a ∧ faultP d.1 a ≤ y * dW d.1) ∨ (y * dW d.1 ≤ faultP d.1 a ∧ faultP d.1 a ≤ x * dW d.1) := by
    rcases Int.le_total x y with hxy | hxy
    · have := mul_pos_bd (a := y - x) (b := a % dW d.1) (A := y - x) (B := dW d.1) (by omega) (by omega)
      omega
    · have := mul_pos_bd (a := x - y) (b := a % dW d.1) (A := x - y) (B := dW d.1) (by omega) (by omega)
      omega
  refine ⟨fun m h1 h2 => ?_, fun m h1 h2 => ?_⟩
  · have g1 : m * dW d.1 ≤ x * dW d.1 := Int.mul_le_mul_of_nonneg_right h1 (by omega)
    have g2 : m * dW d.1 ≤ y * dW d.1 := Int.mul_le_mul_of_nonneg_right h2 (by omega)
    omega
  · have g1 : x * dW d.1 ≤ m * dW d.1 := Int.mul_le_mul_of_nonneg_right h1 (by omega)
    have g2 : y * dW d.1 ≤ m * dW d.1 := Int.mul_le_mul_of_nonneg_right h2 (by omega)
    omega

theorem fault_small {a : Int} (hi : DiskIs d.1 a) : -100000000 ≤ faultP d.1 a ∧ faultP d.1 a ≤ 100000000 := by
  obtain ⟨h1, h2⟩ := fault_between h hi rfl rfl
  have f1 := fl_drawn h (dK d.1 a)
  have f2 := fl_drawn h ((dK d.1 a + 1) % d.1.length)
  have g1 := h1 (-60) f1.1 f2.1
  have g2 := h2 60 f1.2 f2.2
  have hw := hi.w
  omega

theorem fault_frac {a : Int} (hi : DiskIs d.1 a) : ∃ f, mkF (faultP d.1 a) (dW d.1) = some f ∧ vF f = true ∧ (∀ m, m * dW d.1 ≤ faultP d.1 a → m * f.2 ≤ f.1) ∧ (∀ m, faultP d.1 a ≤ m * dW d.1 → f.1 ≤ m * f.2) := by
  have hw := hi.w
  have hs := fault_small h hi
  obtain ⟨g, f, e, hv, hg, e1, e2⟩ := mkF_small (p := faultP d.1 a) (q := dW d.1) (by omega) (by omega)
  refine ⟨f, e, hv, fun m hm => ?_, fun m hm => ?_⟩
  · rw [e1, e2, Int.mul_left_comm] at hm
    exact Int.le_of_mul_le_mul_left hm (by omega)
  · rw [e1, e2, Int.mul_left_comm] at hm
    exact Int.le_of_mul_le_mul_left hm (by omega)

theorem mark_ang {K : Nat} (hK : K < d.1.length) (hw : 1 ≤ dW d.1) (hmul : dW d.1 * (d.1.length : Int) = 1296000) : 0 ≤ (K : Int) * dW d.1 ∧ (K : Int) * dW d.1 ≤ 1295999 := by
  have h1 : ((K : Int) + 1) * dW d.1 ≤ (d.1.length : Int) * dW d.1 := Int.mul_le_mul_of_nonneg_right (by omega) (by omega)
  have h2 : 0 ≤ (K : Int) * dW d.1 := Int.mul_nonneg (by omega) (by omega)
  rw [Int.mul_comm (d.1.length : Int), hmul, Int.add_mul, Int.one_mul] at h1
  omega

theorem fault_mark {K : Nat} (hw : 1 ≤ dW d.1) : faultP d.1 ((K : Int) * dW d.1) = flA d.1 K * dW d.1 := by
  have e1 : (K : Int) * dW d.1 / dW d.1 = (K : Int) := Int.mul_ediv_cancel _ (by omega)
  have e2 : (K : Int) * dW d.1 % dW d.1 = 0 := Int.mul_emod_left _ _
  unfold faultP dK
  rw [e1, e2, Int.toNat_natCast, Int.mul_zero, Int.add_zero]

theorem off_frac {a : Int} (ha : 0 ≤ a ∧ a ≤ 1295999) : ∃ f, mkF (offP d a) 324000 = some f ∧ vF f = true ∧ mkF (offP d ((a + 648000) % 1296000)) 324000 = some (-f.1, f.2) := by
  have hb := offP_bd h.ok ha
  obtain ⟨g, f, e, hv, _⟩ := mkF_small (p := offP d a) (q := 324000) (by omega) (by omega)
  exact ⟨f, e, hv, by rw [off_half d ha]; exact mkF_neg (by omega) e⟩

theorem off_east : mkF (offP d 324000) 324000 = some (d.2.1, 1) := by
  have : offP d 324000 = d.2.1 * 324000 := by
    unfold offP
    rw [show swing 324000 = 324000 from rfl, show swing ((324000 + 324000) % 1296000) = 0 from rfl, Int.mul_zero, Int.add_zero]
  rw [this]
  exact mkF_mul (by have := h.east; omega) (by omega)

theorem off_north : mkF (offP d 0) 324000 = some (d.2.2, 1) := by
  have : offP d 0 = d.2.2 * 324000 := by
    unfold offP
    rw [show swing 0 = 0 from rfl, show swing ((0 + 324000) % 1296000) = 324000 from rfl, Int.mul_zero, Int.zero_add]
  rw [this]
  exact mkF_mul (by have := h.north; omega) (by omega)
end

theorem slices_Equal_i16_l4_refl (v : List Int) (hb : v.length ≤ 1048576) : ∀ (k i : Nat), i ≤ v.length → v.length - i < k → slices_Equal_int16_int16_l4 N0 k (i : Int) v v (v.length : Int) = r1 true
  | 0, i, _, hk => by omega
  | k + 1, i, hi, hk => by
    simp only [slices_Equal_int16_int16_l4, slices_Equal_int16_int16_t4]
    by_cases h : i < v.length
    · simp only [lt_t h, nn_t, Bool.and_self, cond_true, bne_self_eq_false, cond_false, w_succ (i := i) (by omega)]
      exact slices_Equal_i16_l4_refl v hb k (i + 1) h (by omega)
    · have : i = v.length := by omega
      subst this
      rw [lt_f h]
      rfl

theorem impl_SameDisk_refl (d : Dk) (hb : d.1.length ≤ 1048576) : impl_SameDisk N0 d d = r1 true := by
  have := N0_big
  have e : slices_Equal_int16_int16_l4 N0 N0 0 d.1 d.1 (d.1.length : Int) = r1 true := slices_Equal_i16_l4_refl d.1 hb N0 0 (by omega) (by omega)
  simp only [impl_SameDisk, impl_SameDisk_t, slices_Equal_int16_int16, slices_Equal_int16_int16_t, bne_self_eq_false, cond_false, e, Option.bind_some, cond_true, beq_self_eq_true]

theorem law_FnDisks (code more : List Int) (h : WfD (.list (.int .u8)) code) (hm : WfD (.list (.int .u8)) more) : laws_FnDisks N0 code more = r1 true := by
  simp only [laws_FnDisks, laws_FnDisks_t, laws_a2Long_is, Option.bind_some]
  cases hl : (decide ((code.length : Int) > 3000) || decide ((more.length : Int) > 3000)) with
  | true => rfl
  | false =>
    rw [Bool.or_eq_false_iff] at hl
    have hl1 := of_decide_eq_false hl.1
    have hl2 := of_decide_eq_false hl.2
    obtain ⟨d, ed, hd⟩ := spec_A2Disk_ex code (code_wf h) (by omega)
    obtain ⟨a, ea, ha⟩ := spec_A2Angle_ex more (code_wf hm) (by omega)
    have hdl := hd.hi
    have hlo := hd.lo
    have hok := hd.ok
    have hb : d.1.length ≤ 9223372036854775807 := by omega
    have hi := DiskIs.of hok ha
    have haa := hi.ang
    have hw := hi.w
    have hk := hi.k
    obtain ⟨f, ef, vf, f1, f2⟩ := fault_frac hd hi
    obtain ⟨s, es, vs, es2⟩ := off_frac hd haa
    have e1 : Int.tdiv 1296000 (d.1.length : Int) = dW d.1 := Int.tdiv_eq_ediv_of_nonneg (by decide)
    have e2 : Int.tdiv a (dW d.1) = (dK d.1 a : Int) := by rw [Int.tdiv_eq_ediv_of_nonneg haa.1, hi.kI]
    have e4 : Int.tmod ((dK d.1 a + 1 : Nat) : Int) (d.1.length : Int) = (((dK d.1 a + 1) % d.1.length : Nat) : Int) := by
      rw [Int.tmod_eq_emod_of_nonneg (by omega)]; rfl
    have hk' : (dK d.1 a + 1) % d.1.length < d.1.length := Nat.mod_lt _ (by omega)
    have x1 := fl_drawn hd (dK d.1 a)
    have y1 := fl_drawn hd ((dK d.1 a + 1) % d.1.length)
    obtain ⟨b1, b2⟩ := fault_between hd hi rfl rfl
    have hma := mark_ang hd hk hw.1 hi.mul
    have hmark : impl_FaultAt N0 d ((dK d.1 a : Int) * dW d.1) = r2 (flA d.1 (dK d.1 a), 1) 0 := by
      have ha' : isAng ((dK d.1 a : Int) * dW d.1) = true := btw_iff.2 hma
      rw [impl_FaultAt_is d _ hb, hok, ha', fault_mark hd hw.1, mkF_mul (by omega) hw.1]
      rfl
    have hF1 : impl_FaultAt N0 d a = r2 f 0 := by rw [impl_FaultAt_is d a hb, hok, ha, ef]; rfl
    have hF2 : spec_FaultAt N0 d a = r2 f 0 := by rw [spec_FaultAt_is d a hb, hok, ha, ef]; rfl
    have hh : isAng ((a + 648000) % 1296000) = true := btw_iff.2 (ang_mod _)
    have hS1 : impl_SwingAt N0 d a = r2 s 0 := by rw [impl_SwingAt_is d a hb, hok, ha, es]; rfl
    have hS2 : spec_SwingAt N0 d a = r2 s 0 := by rw [spec_SwingAt_is d a hb, hok, ha, es]; rfl
    have hS3 : impl_SwingAt N0 d ((a + 648000) % 1296000) = r2 (-s.1, s.2) 0 := by rw [impl_SwingAt_is d _ hb, hok, hh, es2]; rfl
    have hS4 : impl_SwingAt N0 d 324000 = r2 (d.2.1, 1) 0 := by rw [impl_SwingAt_is d _ hb, hok, show isAng 324000 = true from rfl, off_east hd]; rfl
    have hS5 : impl_SwingAt N0 d 0 = r2 (d.2.2, 1) 0 := by rw [impl_SwingAt_is d _ hb, hok, show isAng 0 = true from rfl, off_north hd]; rfl
    have hA : impl_AddFracs N0 s (-s.1, s.2) = r2 (0, 1) 0 := by
      have hv := vF_neg s
      rw [vs] at hv
      rw [impl_AddFracs_is vs hv, fadd_opp (Bd.of vs)]
      rfl
    have hW : impl_WrapAngle N0 (a + 648000) = r2 ((a + 648000) % 1296000) 0 := by
      simp only [impl_WrapAngle, impl_WrapAngle_t, impl_within_is, Option.bind_some, show btw (a + 648000) (-1000000000000) 1000000000000 = true from btw_iff.2 (by omega), Bool.not_true, cond_false, impl_wrap_is]
    obtain ⟨c1, hc1, hc1'⟩ := cmp_ge vf (m := if flA d.1 ((dK d.1 a + 1) % d.1.length) < flA d.1 (dK d.1 a) then flA d.1 ((dK d.1 a + 1) % d.1.length) else flA d.1 (dK d.1 a)) (by split <;> omega) (f1 _ (b1 _ (by split <;> omega) (by split <;> omega)))
    obtain ⟨c2, hc2, hc2'⟩ := cmp_le vf (m := if flA d.1 (dK d.1 a) < flA d.1 ((dK d.1 a + 1) % d.1.length) then flA d.1 ((dK d.1 a + 1) % d.1.length) else flA d.1 (dK d.1 a)) (by split <;> omega) (f2 _ (b2 _ (by split <;> omega) (by split <;> omega)))
    rw [cond_false, ed, Option.bind_some]
    dsimp only
    rw [ea, Option.bind_some]
    simp only [pr_eta, hF1, hF2, Option.bind_some, bne_self_eq_false, cond_false, beq_self_eq_true, Bool.and_self, Bool.not_true, impl_ValidDisk_is d hb, hok, impl_SameDisk_refl d (by omega), e1, w_in (x := dW d.1) (by unfold I64; omega), e2, w_in (x := (dK d.1 a : Int)) (by unfold I64; omega),
      w_succ (i := dK d.1 a) (by omega), e4, ne_true (a := (d.1.length : Int)) (b := 0) (by omega), ne_true (a := dW d.1) (b := 0) (by omega), lt_t hk, lt_t hk', nn_t, cond_true, Int.toNat_natCast, w_in (x := (dK d.1 a : Int) * dW d.1) (by unfold I64; omega)]
    have hc1 : impl_CompareFracs N0 f ((if IntKind.wrap .i64 (d.1.getD ((dK d.1 a + 1) % d.1.length) 0) < IntKind.wrap .i64 (d.1.getD (dK d.1 a) 0) then IntKind.wrap .i64 (d.1.getD ((dK d.1 a + 1) % d.1.length) 0) else IntKind.wrap .i64 (d.1.getD (dK d.1 a) 0)), 1) = r2 c1 0 := hc1
    have hc2 : impl_CompareFracs N0 f ((if IntKind.wrap .i64 (d.1.getD (dK d.1 a) 0) < IntKind.wrap .i64 (d.1.getD ((dK d.1 a + 1) % d.1.length) 0) then IntKind.wrap .i64 (d.1.getD ((dK d.1 a + 1) % d.1.length) 0) else IntKind.wrap .i64 (d.1.getD (dK d.1 a) 0)), 1) = r2 c2 0 := hc2
    have hmark : impl_FaultAt N0 d ((dK d.1 a : Int) * dW d.1) = r2 (IntKind.wrap .i64 (d.1.getD (dK d.1 a) 0), 1) 0 := hmark
    simp only [hc1, hc2, hmark, Option.bind_some, bne_self_eq_false, cond_false, dec_f hc1', dec_f hc2', beq_self_eq_true, Bool.and_self, Bool.not_true, w_in (x := a + 648000) (by unfold I64; omega), hW, hS1, hS2, hS3, hS4, hS5, pr_eta, hA, cond_true]
end Go.Abs
