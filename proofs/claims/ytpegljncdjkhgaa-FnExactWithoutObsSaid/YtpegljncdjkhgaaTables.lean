/- Tables: validity, equality; their copies and comparison at a law. -/
import Derived.Test.YtpegljncdjkhgaaDWithoutObs0
import Derived.Test.YtpegljncdjkhgaaPrims
import Derived.Test.YtpegljncdjkhgaaIx
import Derived.Test.YtpegljncdjkhgaaTrod
namespace Go.Abs
set_option linter.unusedSectionVars false
set_option linter.unusedSimpArgs false
set_option linter.unusedVariables false

abbrev A6 : Type := Int × (Int × (Int × (Int × (Int × Int))))
abbrev Ob : Type := A6 × ((Int × Int) × Int)
abbrev Tb : Type := Int × (List Ob × (Bool × (Int × Int)))
abbrev dOb : Ob := ((0, (0, (0, (0, (0, 0))))), ((0, 0), 0))

theorem N0_up (m : Nat) (h : m ≤ 2 ^ 60) : ∃ k, N0 = k + m := ⟨N0 - m, by have := N0_big; omega⟩

theorem laws_toInt8A6_is (a : A6) : laws_toInt8A6 N0 a = r1 a := by
  obtain ⟨k, hk⟩ := N0_up 7 (by decide)
  simp only [laws_toInt8A6, laws_toInt8A6_t]
  rw [show laws_toInt8A6_l3 N0 N0 = laws_toInt8A6_l3 N0 (k + 7) by rw [← hk]]
  rfl

theorem tb_toFrac_is (n : Nat) (a : Int × Int) : laws_toFrac n a = r1 a := rfl
theorem laws_toObs_is (o : Ob) : laws_toObs N0 o = r1 o := by
  simp only [laws_toObs, laws_toObs_t, pr_eta, laws_toInt8A6_is, tb_toFrac_is, Option.bind_some]
theorem laws_toObsS_is (v : List Ob) (hb : v.length ≤ 1048576) : laws_toObsS N0 v = r1 v := by
  simp only [laws_toObsS, laws_toObsS_t, beq_self_eq_true, nn_t, Int.toNat_natCast, room_t (k := v.length) (c := 33) (by omega), Bool.and_self, cond_true]
  exact copyF_all (cl := laws_toObs N0) laws_toObs_is (fun _ _ _ _ => rfl) v (by omega)
theorem laws_toTable_is (t : Tb) (hb : t.2.1.length ≤ 1048576) : laws_toTable N0 t = some (((t.1, (t.2.1, (t.2.2, ()))), ()), ()) := by
  simp only [laws_toTable, laws_toTable_t, pr_eta, laws_toObsS_is _ hb, tb_toFrac_is, Option.bind_some]

theorem laws_eqInt8A6_refl (a : A6) : laws_eqInt8A6 N0 a a = r1 true := by
  obtain ⟨k, hk⟩ := N0_up 7 (by decide)
  simp only [laws_eqInt8A6, laws_eqInt8A6_t]
  rw [show laws_eqInt8A6_l2 N0 N0 = laws_eqInt8A6_l2 N0 (k + 7) by rw [← hk]]
  simp only [laws_eqInt8A6_l2, laws_eqInt8A6_t2, bne_self_eq_false, cond_false]
  rfl
theorem laws_eqObs_refl (o : Ob) : laws_eqObs N0 o o = r1 true := by
  simp only [laws_eqObs, laws_eqObs_t, pr_eta, laws_eqInt8A6_refl, laws_eqFrac_is, beq_self_eq_true, bne_self_eq_false, Option.bind_some, Bool.not_true, cond_false]
theorem laws_eqObsS_refl (v : List Ob) (hb : v.length ≤ 1048576) : laws_eqObsS N0 v v = r1 true := by
  simp only [laws_eqObsS, laws_eqObsS_t]
  exact eqR_all (cl := laws_eqObs N0) (fun _ _ _ _ => rfl) v (fun x _ => laws_eqObs_refl x) (by omega)
theorem laws_eqTable_refl (t : Tb) (hb : t.2.1.length ≤ 1048576) : laws_eqTable N0 t t = r1 true := by
  simp only [laws_eqTable, laws_eqTable_t, pr_eta, laws_eqObsS_refl _ hb, laws_eqFrac_is, beq_self_eq_true, bne_self_eq_false, Option.bind_some, Bool.not_true, cond_false]

theorem laws_szTable_is (t : Tb) (m : Int) (hb : t.2.1.length ≤ 9223372036854775807) (hm : 0 ≤ m ∧ m ≤ 1048576) : ∃ r, laws_szTable N0 t m = r1 r ∧ r ≤ m ∧ (0 ≤ r → t.2.1.length ≤ 1048576) := by
  simp only [laws_szTable, laws_szTable_t, laws_szObsS, laws_szObsS_t]
  rw [w_in (x := m - (t.2.1.length : Int)) (by unfold I64; omega)]
  by_cases h : m - (t.2.1.length : Int) < 0
  · rw [dec_t h, cond_true, Option.bind_some]
    exact ⟨-1, rfl, by omega, by omega⟩
  · rw [dec_f h, cond_false, Option.bind_some]
    dsimp only
    rw [dec_f h, cond_false]
    exact ⟨_, rfl, by omega, by omega⟩

abbrev tbT : Tc := .pair (.int .i64) (.pair (.list (.pair (.pair (.int .i8) (.pair (.int .i8) (.pair (.int .i8) (.pair (.int .i8) (.pair (.int .i8) (.int .i8)))))) (.pair (.pair (.int .i64) (.int .i64)) (.int .i64)))) (.pair .bool (.pair (.int .i64) (.int .i64))))
theorem tb_wf {t : Tb} (h : WfD tbT t) : t.2.1.length ≤ 9223372036854775807 := h.2.1.1
end Go.Abs
