/- The plain law of WithoutObs. -/
import Derived.Test.YtpegljncdjkhgaaTables
import Derived.Test.YtpegljncdjkhgaaValidTab
import Derived.Test.YtpegljncdjkhgaaMarkObs
import Derived.Test.YtpegljncdjkhgaaTrod
namespace Go.Abs
set_option linter.unusedSectionVars false
set_option linter.unusedSimpArgs false
set_option linter.unusedVariables false

theorem delete_is {xs : List Ob} {i : Nat} (h : i < xs.length) (hl : xs.length ≤ 100) :
    ∃ zs, slices_Delete_impl_Obs_impl_Obs N0 (i : Int) ((i + 1 : Nat) : Int) xs = some ((((xs.length - 1, ()), ()), (zs, ()))) ∧ (zs.drop 0).take (xs.length - 1) = xs.take i ++ xs.drop (i + 1) := by
  have hA : (xs.drop 0).take (Int.toNat (i : Int) - Int.toNat 0) = xs.take i := by simp
  have hB : (xs.drop (Int.toNat ((i + 1 : Nat) : Int))).take (Int.toNat ((xs.length : Nat) : Int) - Int.toNat ((i + 1 : Nat) : Int)) = xs.drop (i + 1) := by
    rw [Int.toNat_natCast, Int.toNat_natCast]
    exact List.take_of_length_le (by simp)
  have hlA : (xs.take i).length = i := by simp; omega
  have hlB : (xs.drop (i + 1)).length = xs.length - (i + 1) := by simp
  have hsum : i + (xs.length - (i + 1)) = xs.length - 1 := by omega
  have hC : (copyL xs (0 + i) (xs.length - (i + 1)) (xs.drop (i + 1))).take (xs.length - 1) = xs.take i ++ xs.drop (i + 1) := by
    unfold copyL
    have e : (xs.drop (i + 1)).take (xs.length - (i + 1)) = xs.drop (i + 1) := List.take_of_length_le (by simp)
    rw [e, Nat.zero_add, List.take_append_of_le_length (by rw [List.length_append, hlA, hlB]; omega)]
    exact List.take_of_length_le (by rw [List.length_append, hlA, hlB]; omega)
  have hCl : (copyL xs (0 + i) (xs.length - (i + 1)) (xs.drop (i + 1))).length = xs.length := by
    unfold copyL
    have e : (xs.drop (i + 1)).take (xs.length - (i + 1)) = xs.drop (i + 1) := List.take_of_length_le (by simp)
    rw [e, List.length_append, List.length_append, Nat.zero_add, hlA, hlB, List.length_drop]
    omega
  have hCt : (xs.take i ++ xs.drop (i + 1)).length = xs.length - 1 := by rw [List.length_append, hlA, hlB]; omega
  unfold slices_Delete_impl_Obs_impl_Obs slices_Delete_impl_Obs_impl_Obs_t
  simp only [hA, hB]
  simp only [hlA, hlB]
  simp only [hsum, List.drop_zero, hC, hCl, hCt, Int.toNat_natCast]
  rw [dec_t (p := (0 : Int) ≤ (i : Int)) (by omega), dec_t (p := (i : Int) ≤ ((i + 1 : Nat) : Int)) (by omega), dec_t (p := ((i + 1 : Nat) : Int) ≤ ((xs.length : Nat) : Int)) (by omega), dec_t (p := ((xs.length : Nat) : Int) ≤ ((xs.length : Nat) : Int)) (by omega),
    eq_f (by omega), dec_t (p := (i : Int) ≤ ((xs.length : Nat) : Int)) (by omega), dec_t (p := (0 : Int) ≤ ((i + 1 : Nat) : Int)) (by omega), dec_t (p := 0 + i + (xs.length - (i + 1)) ≤ xs.length) (by omega),
    dec_t (p := (0 : Int) ≤ ((xs.length - 1 : Nat) : Int)) (by omega), dec_t (p := ((xs.length - 1 : Nat) : Int) ≤ ((xs.length : Nat) : Int)) (by omega), dec_t (p := ((xs.length : Nat) : Int) ≤ ((xs.length - 0 : Nat) : Int)) (by omega)]
  simp only [Bool.and_self, cond_true, cond_false]
  refine ⟨_, rfl, ?_⟩
  rw [Nat.zero_add]
  rw [copyL]
  rw [List.take_append_of_le_length (by rw [List.length_append, List.length_take]; rw [Nat.zero_add] at hCl; omega), List.take_append_of_le_length (by rw [List.length_take]; rw [Nat.zero_add] at hCl; omega), List.take_take, Nat.zero_add, Nat.min_self]
  rw [Nat.zero_add] at hC
  exact hC

theorem clone_obs {v : List Ob} (hb : v.length ≤ 100) : slices_Clone_impl_Obs_impl_Obs N0 v = r1 v := by
  unfold slices_Clone_impl_Obs_impl_Obs slices_Clone_impl_Obs_impl_Obs_t
  rw [dec_t (by omega)]
  simp only [cond_true, List.nil_append]
  cases v with
  | nil => unfold eith emptyL; simp
  | cons x r => rfl

/-- a table without an observation -/
def woT (t : Tb) (i : Int) : Tb × Int :=
  bif !tabOk t then ((0, ([], (false, (0, 0)))), 1) else bif !btw i 0 ((t.2.1.length : Int) - 1) then ((0, ([], (false, (0, 0)))), 2) else
  ((t.1, (t.2.1.take i.toNat ++ t.2.1.drop (i.toNat + 1), t.2.2)), 0)

theorem woT_len (t : Tb) (i : Int) : (woT t i).1.2.1.length ≤ 1048576 := by
  unfold woT
  cases h : tabOk t with
  | false => simp
  | true =>
    unfold tabOk at h
    simp only [Bool.and_eq_true, decide_eq_true_eq] at h
    have := h.2.1
    cases btw i 0 ((t.2.1.length : Int) - 1)
    · simp
    · simp only [Bool.not_true, cond_false, List.length_append, List.length_take, List.length_drop]; omega

abbrev rWo (t : Tb) (c : Int) : Option ((((Int × (List Ob × ((Bool × (Int × Int)) × Unit))) × ((Int × Unit) × Unit))) × Unit) := some (((t.1, (t.2.1, (t.2.2, ()))), ((c, ()), ())), ())

theorem impl_WithoutObs_is (t : Tb) (i : Int) (hb : t.2.1.length ≤ 9223372036854775807) (hf : ∀ o ∈ t.2.1, Fit6 o.1) : impl_WithoutObs N0 t i = rWo (woT t i).1 (woT t i).2 := by
  unfold impl_WithoutObs impl_WithoutObs_t woT
  simp only [pr_eta]
  rw [impl_ValidTable_is t hb hf, Option.bind_some]
  dsimp only
  cases h : tabOk t with
  | false => rfl
  | true =>
    have hl : t.2.1.length ≤ 24 := by
      unfold tabOk at h
      simp only [Bool.and_eq_true, decide_eq_true_eq] at h
      exact h.2.1
    rw [Bool.not_true, cond_false, cond_false, impl_within_is, w_in (by unfold I64; omega), Option.bind_some]
    dsimp only
    cases hi : btw i 0 ((t.2.1.length : Int) - 1) with
    | false => rfl
    | true =>
      have hi := btw_iff.1 hi
      obtain ⟨j, rfl⟩ : ∃ j : Nat, i = (j : Int) := ⟨i.toNat, by omega⟩
      obtain ⟨zs, e1, e2⟩ := delete_is (xs := t.2.1) (i := j) (by omega) (by omega)
      rw [Bool.not_true, cond_false, cond_false, clone_obs (by omega), Option.bind_some, w_succ (by omega)]
      dsimp only
      rw [e1, Option.bind_some]
      dsimp only
      rw [e2]
      rfl

theorem spec_WithoutObs_is (t : Tb) (i : Int) (hb : t.2.1.length ≤ 9223372036854775807) : spec_WithoutObs N0 t i = r2 (woT t i).1 (woT t i).2 := by
  unfold spec_WithoutObs spec_WithoutObs_t woT
  simp only [pr_eta]
  rw [spec_l04Ok_is t hb, Option.bind_some]
  dsimp only
  cases h : tabOk t with
  | false => rfl
  | true =>
    have hl : t.2.1.length ≤ 24 := by
      unfold tabOk at h
      simp only [Bool.and_eq_true, decide_eq_true_eq] at h
      exact h.2.1
    rw [Bool.not_true, cond_false, cond_false, spec_l00In_is, w_in (by unfold I64; omega), Option.bind_some]
    dsimp only
    cases hi : btw i 0 ((t.2.1.length : Int) - 1) with
    | false => rfl
    | true =>
      have hi := btw_iff.1 hi
      obtain ⟨j, rfl⟩ : ∃ j : Nat, i = (j : Int) := ⟨i.toNat, by omega⟩
      have hA : (t.2.1.drop (Int.toNat 0)).take (Int.toNat (j : Int) - Int.toNat 0) = t.2.1.take j := by simp
      have hB : (t.2.1.drop (Int.toNat ((j + 1 : Nat) : Int))).take (Int.toNat ((t.2.1.length : Nat) : Int) - Int.toNat ((j + 1 : Nat) : Int)) = t.2.1.drop (j + 1) := by
        rw [Int.toNat_natCast, Int.toNat_natCast]
        exact List.take_of_length_le (by simp)
      rw [Bool.not_true, cond_false, cond_false, w_succ (by omega)]
      simp only [hA, hB, List.nil_append]
      have l1 : (t.2.1.take j).length ≤ 24 := by rw [List.length_take]; omega
      have l2 : (t.2.1.drop (j + 1)).length ≤ 24 := by rw [List.length_drop]; omega
      rw [dec_t (p := (0 : Int) ≤ (j : Int)) (by omega), dec_t (p := (j : Int) ≤ ((t.2.1.length : Nat) : Int)) (by omega), dec_t (p := (0 : Int) ≤ ((j + 1 : Nat) : Int)) (by omega), dec_t (p := ((j + 1 : Nat) : Int) ≤ ((t.2.1.length : Nat) : Int)) (by omega), dec_t (p := ((t.2.1.length : Nat) : Int) ≤ ((t.2.1.length : Nat) : Int)) (by omega), dec_t (by omega), dec_t (by omega)]
      rfl

theorem law_FnExactWithoutObs (t : Tb) (i : Int) (hw : WfD tbT t) (_ : WfD (.int .i64) i) : laws_FnExactWithoutObs N0 t i = r1 true := by
  have hb := tb_wf hw
  have hf := tb_fit hw
  obtain ⟨r, e1, _, e2⟩ := laws_szTable_is t 1048576 hb (by omega)
  simp only [laws_FnExactWithoutObs, laws_FnExactWithoutObs_t, pr_eta, e1, Option.bind_some]
  by_cases hr : r < 0
  · rw [dec_t hr]; rfl
  · have hl := e2 (by omega)
    have ho := woT_len t i
    simp only [dec_f hr, cond_false, Option.bind_some, laws_toTable_is t hl, pr_eta, spec_WithoutObs_is t i hb, impl_WithoutObs_is t i hb hf, laws_eqTable_refl _ ho, laws_eqTable_refl _ hl, beq_self_eq_true, Bool.not_true, bne_self_eq_false,
      laws_markTable_is _ _ hl, laws_markTable_is _ _ ho, laws_heldTable_is _ _ _ ho, nine_nn]
end Go.Abs
