/- The plain laws of FaultAt, SwingAt, ReadHead, ReadTwo. -/
import Derived.Test.YtipjecagbndhbaaDiskL
import Derived.Test.YtipjecagbndhbaaTrod
namespace Go.Abs
set_option linter.unusedSectionVars false
set_option linter.unusedSimpArgs false
set_option linter.unusedVariables false

abbrev fracRes (o : Option (Int × Int)) : Option ((((Int × Int) × Unit) × ((Int × Unit) × Unit)) × Unit) := r2 (o.getD (0, 0)) (bif o.isSome then 0 else 3)

theorem spec_FaultAt_is (d : Dk) (a : Int) (hb : d.1.length ≤ 9223372036854775807) : spec_FaultAt N0 d a = bif diskOk d && isAng a then fracRes (mkF (faultP d.1 a) (dW d.1)) else r2 (0, 0) 1 := by
  simp only [spec_FaultAt, spec_FaultAt_t, pr_eta, spec_l03Asked_is d a hb, Option.bind_some]
  cases h : (diskOk d && isAng a) with
  | false => rfl
  | true =>
    rw [Bool.and_eq_true] at h
    have hi := DiskIs.of h.1 h.2
    have hf := faultP_bd hi
    have hw := hi.w
    simp only [cond_true, bne_self_eq_false, cond_false, spec_l03Fault_is hi, Option.bind_some]
    rw [spec_l01Reduced_is (by unfold small; omega) (by unfold small; omega) (by omega)]
    rfl

theorem impl_FaultAt_is (d : Dk) (a : Int) (hb : d.1.length ≤ 9223372036854775807) : impl_FaultAt N0 d a = bif diskOk d && isAng a then fracRes (mkF (faultP d.1 a) (dW d.1)) else r2 (0, 0) 1 := by
  simp only [impl_FaultAt, impl_FaultAt_t, pr_eta, impl_ValidDisk_is d hb, impl_isAngle_is, Option.bind_some]
  cases h1 : diskOk d with
  | false => rfl
  | true =>
    cases h2 : isAng a with
    | false => rfl
    | true =>
      have hi := DiskIs.of h1 h2
      have hf := faultP_bd hi
      have hw := hi.w
      simp only [Bool.not_true, cond_false, impl_faultAt_is hi, Option.bind_some, Bool.and_self, cond_true]
      rw [impl_calc_told_is false (by unfold small; omega) (by unfold small; omega) (by omega)]
      simp only [Option.bind_some, impl_calc_one_is]
      cases mkF (faultP d.1 a) (dW d.1) <;> rfl

theorem spec_SwingAt_is (d : Dk) (a : Int) (hb : d.1.length ≤ 9223372036854775807) : spec_SwingAt N0 d a = bif diskOk d && isAng a then fracRes (mkF (offP d a) 324000) else r2 (0, 0) 1 := by
  simp only [spec_SwingAt, spec_SwingAt_t, pr_eta, spec_l03Asked_is d a hb, Option.bind_some]
  cases h : (diskOk d && isAng a) with
  | false => rfl
  | true =>
    rw [Bool.and_eq_true] at h
    have ho := offP_bd h.1 (btw_iff.1 h.2)
    simp only [cond_true, bne_self_eq_false, cond_false, spec_l03Off_is h.1 (btw_iff.1 h.2), Option.bind_some]
    rw [spec_l01Reduced_is (by unfold small; omega) (by decide) (by decide)]
    rfl

theorem impl_SwingAt_is (d : Dk) (a : Int) (hb : d.1.length ≤ 9223372036854775807) : impl_SwingAt N0 d a = bif diskOk d && isAng a then fracRes (mkF (offP d a) 324000) else r2 (0, 0) 1 := by
  simp only [impl_SwingAt, impl_SwingAt_t, pr_eta, impl_ValidDisk_is d hb, impl_isAngle_is, Option.bind_some]
  cases h1 : diskOk d with
  | false => rfl
  | true =>
    cases h2 : isAng a with
    | false => rfl
    | true =>
      have ho := offP_bd h1 (btw_iff.1 h2)
      rw [Bool.not_true, cond_false, cond_false, impl_swingAt_is h1 (btw_iff.1 h2), Option.bind_some, Bool.and_self, cond_true]
      dsimp only
      rw [impl_calc_told_is false (by unfold small; omega) (by decide) (by decide), Option.bind_some, impl_calc_one_is, Option.bind_some]
      cases mkF (offP d a) 324000 <;> rfl

theorem leastC_ok {d : Dk} {a least : Int} (h : leastC d a least = 0) : HeadIs d a least := by
  unfold leastC at h
  cases h1 : (diskOk d && isAng a) with
  | false => rw [h1] at h; cases h
  | true =>
    cases h2 : btw least 1 3600 with
    | false => rw [h1, h2] at h; cases h
    | true =>
      rw [Bool.and_eq_true] at h1
      exact ⟨h1.1, h1.2, btw_iff.1 h2⟩

theorem spec_ReadHead_is (d : Dk) (a least : Int) (hb : d.1.length ≤ 9223372036854775807) : spec_ReadHead N0 d a least = bif leastC d a least == 0 then r2 (headR d a least) 0 else r2 0 (leastC d a least) := by
  simp only [spec_ReadHead, spec_ReadHead_t, pr_eta, spec_l03Least_is d a least hb, Option.bind_some]
  by_cases h : leastC d a least = 0
  · rw [h]
    simp only [bne_self_eq_false, cond_false, spec_l03Head_is (leastC_ok h), Option.bind_some]
    rfl
  · rw [ne_true h, eq_f h]
    rfl

theorem impl_headCode_one (d : Dk) (a least : Int) (hb : d.1.length ≤ 9223372036854775807) : impl_headCode N0 d least (a :: []) = r1 (leastC d a least) := by
  rw [impl_headCode_is d least [a] hb (by simp), List.all_cons, List.all_nil, Bool.and_true]

theorem impl_ReadHead_is (d : Dk) (a least : Int) (hb : d.1.length ≤ 9223372036854775807) : impl_ReadHead N0 d a least = bif leastC d a least == 0 then r2 (headR d a least) 0 else r2 0 (leastC d a least) := by
  simp only [impl_ReadHead, impl_ReadHead_t, pr_eta, impl_headCode_one d a least hb, Option.bind_some]
  by_cases h : leastC d a least = 0
  · rw [h]
    simp only [bne_self_eq_false, cond_false, impl_head_is (leastC_ok h), Option.bind_some]
    rfl
  · rw [ne_true h, eq_f h]
    rfl

/-- the other head -/
theorem HeadIs.other {d : Dk} {a least : Int} (h : HeadIs d a least) : HeadIs d ((a + 648000) % 1296000) least := ⟨h.ok, btw_iff.2 (ang_mod _), h.least⟩

theorem spec_ReadTwo_is (d : Dk) (a least : Int) (hb : d.1.length ≤ 9223372036854775807) : spec_ReadTwo N0 d a least = bif leastC d a least == 0 then r3 (headR d a least) (headR d ((a + 648000) % 1296000) least) 0 else r3 0 0 (leastC d a least) := by
  simp only [spec_ReadTwo, spec_ReadTwo_t, pr_eta, spec_l03Least_is d a least hb, Option.bind_some]
  by_cases h : leastC d a least = 0
  · have ha := btw_iff.1 (leastC_ok h).ang
    rw [h]
    simp only [bne_self_eq_false, cond_false, spec_l03Head_is (leastC_ok h), Option.bind_some, w_in (x := a + 648000) (by unfold I64; omega), spec_l03Wrap_is, pr_eta, spec_l03Head_is (leastC_ok h).other]
    rfl
  · rw [ne_true h, eq_f h]
    rfl

theorem impl_ReadTwo_is (d : Dk) (a least : Int) (hb : d.1.length ≤ 9223372036854775807) : impl_ReadTwo N0 d a least = bif leastC d a least == 0 then r3 (headR d a least) (headR d ((a + 648000) % 1296000) least) 0 else r3 0 0 (leastC d a least) := by
  simp only [impl_ReadTwo, impl_ReadTwo_t, pr_eta, impl_headCode_one d a least hb, Option.bind_some]
  by_cases h : leastC d a least = 0
  · have ha := btw_iff.1 (leastC_ok h).ang
    rw [h]
    simp only [bne_self_eq_false, cond_false, impl_head_is (leastC_ok h), Option.bind_some, w_in (x := a + 648000) (by unfold I64; omega), impl_wrap_is, impl_head_is (leastC_ok h).other]
    rfl
  · rw [ne_true h, eq_f h]
    rfl

end Go.Abs
