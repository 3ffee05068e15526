/- Disks that are drawn: faults at marks and between them, swings. -/
import Derived.Test.YtipjecagbndhbaaDrawDisk
import Derived.Test.YtipjecagbndhbaaHeadsP
import Derived.Test.YtipjecagbndhbaaFracQ
namespace Go.Abs
set_option linter.unusedSectionVars false
set_option linter.unusedSimpArgs false
set_option linter.unusedVariables false

theorem swing_half {a : Int} (h : 0 ≤ a ∧ a ≤ 1295999) : swing ((a + 648000) % 1296000) = -swing a := by
  unfold swing
  by_cases h1 : a ≤ 324000
  · rw [dec_t h1, dec_f (p := (a + 648000) % 1296000 ≤ 324000) (by omega), dec_t (p := (a + 648000) % 1296000 ≤ 972000) (by omega)]
    simp only [cond_true, cond_false]; omega
  · rw [dec_f h1]
    by_cases h2 : a ≤ 972000
    · rw [dec_t h2]
      by_cases h3 : a < 648000
      · rw [dec_f (p := (a + 648000) % 1296000 ≤ 324000) (by omega), dec_f (p := (a + 648000) % 1296000 ≤ 972000) (by omega)]
        simp only [cond_true, cond_false]; omega
      · rw [dec_t (p := (a + 648000) % 1296000 ≤ 324000) (by omega)]
        simp only [cond_true, cond_false]; omega
    · rw [dec_f h2]
      by_cases h3 : (a + 648000) % 1296000 ≤ 324000
      · omega
      · rw [dec_f h3, dec_t (p := (a + 648000) % 1296000 ≤ 972000) (by omega)]
        simp only [cond_true, cond_false]; omega

theorem off_half (d : Dk) {a : Int} (h : 0 ≤ a ∧ a ≤ 1295999) : offP d ((a + 648000) % 1296000) = -offP d a := by
  unfold offP
  rw [swing_half h, show ((a + 648000) % 1296000 + 324000) % 1296000 = (((a + 324000) % 1296000) + 648000) % 1296000 by omega, swing_half (ang_mod _), Int.mul_neg, Int.mul_neg]
  omega

section
variable {d : Dk} (h : DkD d)
include h

theorem fl_drawn (i : Nat) : -60 ≤ flA d.1 i ∧ flA d.1 i ≤ 60 := by
  unfold flA
  by_cases hi : i < d.1.length
  · rw [get_ix hi]
    have := h.el _ (List.getElem_mem hi)
    rw [w_in (by unfold I64; omega)]
    exact this
  · rw [show d.1.getD i 0 = 0 by simp [List.getD, List.getElem?_eq_none (Nat.le_of_not_lt hi)]]
    decide

theorem fault_between {a : Int} (hi : DiskIs d.1 a) {x y : Int} (hx : x = flA d.1 (dK d.1 a)) (hy : y = flA d.1 ((dK d.1 a + 1) % d.1.length)) :
    (∀ m, m ≤ x → m ≤ y → m * dW d.1 ≤ faultP d.1 a) ∧ (∀ m, x ≤ m → y ≤ m → faultP d.1 a ≤ m * dW d.1) := by
  have hm := hi.md
  have hw := hi.w
  have e : faultP d.1 a = x * dW d.1 + (y - x) * (a % dW d.1) := by unfold faultP; rw [hx, hy]
  have e1 : (y - x) * dW d.1 = y * dW d.1 - x * dW d.1 := Int.sub_mul _ _ _
  have e2 : (x - y) * dW d.1 = x * dW d.1 - y * dW d.1 := Int.sub_mul _ _ _
  have e3 : (x - y) * (a % dW d.1) = -((y - x) * (a % dW d.1)) := by rw [← Int.neg_mul]; congr 1; omega
  have key : (x * dW d.1 ≤ faultP d.1 a ∧ faultP d.1 a ≤ y * dW d.1) ∨ (y * dW d.1 ≤ faultP d.1 a ∧ faultP d.1 a ≤ x * dW d.1) := by
    rcases Int.le_total x y with hxy | hxy
    · have := mul_pos_bd (a := y - x) (b := a % dW d.1) (A := y - x) (B := dW d.1) (by omega) (by omega)
      omega
    · have := mul_pos_bd (a := x - y) (b := a % dW d.1) (A := x - y) (B := dW d.1) (by omega) (by omega)
      omega
  refine ⟨fun m h1 h2 => ?_, fun m h1 h2 => ?_⟩
  · have g1 : m * dW d.1 ≤ x * dW d.1 := Int.mul_le_mul_of_nonneg_right h1 (by omega)
    have g2 : m * dW d.1 ≤ y * dW d.1 := Int.mul_le_mul_of_nonneg_right h2 (by omega)
    omega
  · have g1 : x * dW d.1 ≤ m * dW d.1 := Int.mul_le_mul_of_nonneg_right h1 (by omega)
    have g2 : y * dW d.1 ≤ m * dW d.1 := Int.mul_le_mul_of_nonneg_right h2 (by omega)
    omega

theorem fault_small {a : Int} (hi : DiskIs d.1 a) : -100000000 ≤ faultP d.1 a ∧ faultP d.1 a ≤ 100000000 := by
  obtain ⟨h1, h2⟩ := fault_between h hi rfl rfl
  have f1 := fl_drawn h (dK d.1 a)
  have f2 := fl_drawn h ((dK d.1 a + 1) % d.1.length)
  have g1 := h1 (-60) f1.1 f2.1
  have g2 := h2 60 f1.2 f2.2
  have hw := hi.w
  omega

theorem fault_frac {a : Int} (hi : DiskIs d.1 a) : ∃ f, mkF (faultP d.1 a) (dW d.1) = some f ∧ vF f = true ∧ (∀ m, m * dW d.1 ≤ faultP d.1 a → m * f.2 ≤ f.1) ∧ (∀ m, faultP d.1 a ≤ m * dW d.1 → f.1 ≤ m * f.2) := by
  have hw := hi.w
  have hs := fault_small h hi
  obtain ⟨g, f, e, hv, hg, e1, e2⟩ := mkF_small (p := faultP d.1 a) (q := dW d.1) (by omega) (by omega)
  refine ⟨f, e, hv, fun m hm => ?_, fun m hm => ?_⟩
  · rw [e1, e2, Int.mul_left_comm] at hm
    exact Int.le_of_mul_le_mul_left hm (by omega)
  · rw [e1, e2, Int.mul_left_comm] at hm
    exact Int.le_of_mul_le_mul_left hm (by omega)

theorem mark_ang {K : Nat} (hK : K < d.1.length) (hw : 1 ≤ dW d.1) (hmul : dW d.1 * (d.1.length : Int) = 1296000) : 0 ≤ (K : Int) * dW d.1 ∧ (K : Int) * dW d.1 ≤ 1295999 := by
  have h1 : ((K : Int) + 1) * dW d.1 ≤ (d.1.length : Int) * dW d.1 := Int.mul_le_mul_of_nonneg_right (by omega) (by omega)
  have h2 : 0 ≤ (K : Int) * dW d.1 := Int.mul_nonneg (by omega) (by omega)
  rw [Int.mul_comm (d.1.length : Int), hmul, Int.add_mul, Int.one_mul] at h1
  omega

theorem fault_mark {K : Nat} (hw : 1 ≤ dW d.1) : faultP d.1 ((K : Int) * dW d.1) = flA d.1 K * dW d.1 := by
  have e1 : (K : Int) * dW d.1 / dW d.1 = (K : Int) := Int.mul_ediv_cancel _ (by omega)
  have e2 : (K : Int) * dW d.1 % dW d.1 = 0 := Int.mul_emod_left _ _
  unfold faultP dK
  rw [e1, e2, Int.toNat_natCast, Int.mul_zero, Int.add_zero]

theorem off_frac {a : Int} (ha : 0 ≤ a ∧ a ≤ 1295999) : ∃ f, mkF (offP d a) 324000 = some f ∧ vF f = true ∧ mkF (offP d ((a + 648000) % 1296000)) 324000 = some (-f.1, f.2) := by
  have hb := offP_bd h.ok ha
  obtain ⟨g, f, e, hv, _⟩ := mkF_small (p := offP d a) (q := 324000) (by omega) (by omega)
  exact ⟨f, e, hv, by rw [off_half d ha]; exact mkF_neg (by omega) e⟩

theorem off_east : mkF (offP d 324000) 324000 = some (d.2.1, 1) := by
  have : offP d 324000 = d.2.1 * 324000 := by
    unfold offP
    rw [show swing 324000 = 324000 from rfl, show swing ((324000 + 324000) % 1296000) = 0 from rfl, Int.mul_zero, Int.add_zero]
  rw [this]
  exact mkF_mul (by have := h.east; omega) (by omega)

theorem off_north : mkF (offP d 0) 324000 = some (d.2.2, 1) := by
  have : offP d 0 = d.2.2 * 324000 := by
    unfold offP
    rw [show swing 0 = 0 from rfl, show swing ((0 + 324000) % 1296000) = 324000 from rfl, Int.mul_zero, Int.zero_add]
  rw [this]
  exact mkF_mul (by have := h.north; omega) (by omega)
end

end Go.Abs
