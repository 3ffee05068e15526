/- Disks at a law: sizes, copies, comparison. -/
import Derived.Test.YtpamckmeeamjjaaDoorDisk
namespace Go.Abs
set_option linter.unusedSectionVars false
set_option linter.unusedSimpArgs false
set_option linter.unusedVariables false

theorem laws_toInt16S_is (v : List Int) (hb : v.length ≤ 1048576) : laws_toInt16S N0 v = r1 v := by
  simp only [laws_toInt16S, laws_toInt16S_t, beq_self_eq_true, nn_t, Int.toNat_natCast, room_t (k := v.length) (c := 3) (by omega), Bool.and_self, cond_true]
  exact copy_all (fun _ _ _ _ => rfl) v (by omega)

theorem laws_eqInt16S_is (v w : List Int) (hb : v.length ≤ 1048576) : laws_eqInt16S N0 v w = r1 (v == w) := by
  simp only [laws_eqInt16S, laws_eqInt16S_t]
  exact eq_all (L := laws_eqInt16S_l4 N0) (fun _ _ _ _ => rfl) v w (by omega)

theorem laws_toDisk_is (d : Dk) (hb : d.1.length ≤ 1048576) : laws_toDisk N0 d = some (((d.1, (d.2, ())), ()), ()) := by
  simp only [laws_toDisk, laws_toDisk_t, laws_toInt16S_is _ hb, Option.bind_some, pr_eta]

theorem laws_eqDisk_refl (d : Dk) (hb : d.1.length ≤ 1048576) : laws_eqDisk N0 d d = r1 true := by
  simp only [laws_eqDisk, laws_eqDisk_t, laws_eqInt16S_is _ _ hb, Option.bind_some, beq_self_eq_true, Bool.not_true, cond_false, bne_self_eq_false]

theorem laws_szDisk_lt (d : Dk) (hb : d.1.length ≤ 9223372036854775807) : ∃ x, laws_szDisk N0 d 1048576 = r1 x ∧ (decide (x < 0) = !decide (d.1.length ≤ 1048576)) := by
  simp only [laws_szDisk, laws_szDisk_t, laws_szInt16S, laws_szInt16S_t]
  rw [w_in (by unfold I64; omega)]
  by_cases h : d.1.length ≤ 1048576
  · rw [dec_f (by omega), cond_false, Option.bind_some, dec_t h]
    dsimp only
    rw [dec_f (by omega), cond_false]
    exact ⟨_, rfl, dec_f (by omega)⟩
  · rw [dec_t (by omega), cond_true, Option.bind_some, dec_f h]
    exact ⟨_, rfl, by decide⟩
end Go.Abs
