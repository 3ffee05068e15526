/- Chains that are copied and changed. -/
import Derived.Test.YtmkhdpdepomohaaDRenewStandard0
import Derived.Test.YtmkhdpdepomohaaPathP
import Derived.Test.YtmkhdpdepomohaaChainL
import Derived.Test.YtmkhdpdepomohaaMarkStd
namespace Go.Abs
set_option linter.unusedSectionVars false
set_option linter.unusedSimpArgs false
set_option linter.unusedVariables false

theorem eith_self {X : Type} (a : Option X) : eith a a = a := by simp [eith]

theorem clone_of {α : Type} (v : List α) (c : Nat) (h : (0 + v.length) * c ≤ 70368744177664) :
    cond (emptyL v) (eith (r1 ([] : List α)) (cond (decide ((0 + v.length) * c ≤ 70368744177664)) (r1 ([] ++ v)) none)) (cond (decide ((0 + v.length) * c ≤ 70368744177664)) (r1 ([] ++ v)) none) = r1 v := by
  rw [dec_t h, cond_true, List.nil_append]
  cases v with
  | nil => exact eith_self _
  | cons x r => rfl

theorem clone_std (v : List Std) (hb : v.length ≤ 1048577) : slices_Clone_impl_Standard_impl_Standard N0 v = r1 v := clone_of v 89 (by omega)

theorem spec_l05Copy_is (v : List Std) (hb : v.length ≤ 1048577) : spec_l05Copy N0 v = r1 v := by
  simp only [spec_l05Copy, spec_l05Copy_t]
  rw [dec_t (by omega), cond_true, List.nil_append]

theorem spec_l01Span_is (s : Spn) : spec_l01Span N0 s = c1 (spanOk s) s := by
  simp only [spec_l01Span, spec_l01Span_t, pr_eta, spec_l01Ok_is, spec_l01Cmp_is, Option.bind_some]
  unfold spanOk
  cases vF s.1 with
  | false => rfl
  | true => cases vF s.2 <;> rfl

theorem sized_push {v : List Std} {x : Std} (hv : Sized v) (hl : v.length ≤ 1048576) (hx : x.1.size ≤ 9223372036854775807) : Sized (v ++ [x]) := by
  refine ⟨by simp; omega, fun y hy => ?_⟩
  rcases List.mem_append.1 hy with h | h
  · exact hv.2 y h
  · rw [List.mem_singleton.1 h]; exact hx

abbrev SRes : Type := Option (((List Std × Unit) × ((Int × Unit) × Unit)) × Unit)
abbrev calRes (v : List Std) (x : Std) : SRes := bif chainOk v then (bif (v.length : Int) == 30 then r2 [] 3 else bif chainOk (v ++ [x]) then r2 (v ++ [x]) 0 else r2 [] 4) else r2 [] 1

section
variable (v : List Std) (x : Std) (hv : Sized v) (hl : v.length ≤ 1048576) (hx : x.1.size ≤ 9223372036854775807)
include hv hl hx

theorem impl_Calibrate_is : impl_Calibrate N0 v x = calRes v x := by
  simp only [impl_Calibrate, impl_Calibrate_t, pr_eta, clone_std v (by omega), Option.bind_some]
  rw [dec_t (by simp only [List.length_cons, List.length_nil]; omega), cond_true, impl_ValidChain_is v hv, Option.bind_some, impl_ValidChain_is (v ++ [x]) (sized_push hv hl hx), Option.bind_some]
  unfold calRes
  cases chainOk v with
  | false => rfl
  | true =>
    cases (v.length : Int) == 30 with
    | true => rfl
    | false => cases chainOk (v ++ [x]) <;> rfl

theorem spec_Calibrate_is : spec_Calibrate N0 v x = calRes v x := by
  simp only [spec_Calibrate, spec_Calibrate_t, pr_eta, spec_l05Copy_is v (by omega), Option.bind_some]
  rw [spec_l05Ok_is v hv, Option.bind_some, dec_t (by simp only [List.length_cons, List.length_nil]; omega), cond_true, spec_l05Ok_is (v ++ [x]) (sized_push hv hl hx), Option.bind_some]
  unfold calRes
  cases chainOk v with
  | false => rfl
  | true =>
    cases (v.length : Int) == 30 with
    | true => rfl
    | false => cases chainOk (v ++ [x]) <;> rfl
end

theorem calRes_ex (v : List Std) (x : Std) (hl : v.length ≤ 1048576) : ∃ o c, calRes v x = r2 o c ∧ o.length ≤ 1048576 := by
  unfold calRes
  cases chainOk v with
  | false => exact ⟨_, _, rfl, by simp⟩
  | true =>
    cases (v.length : Int) == 30 with
    | true => exact ⟨_, _, rfl, by simp⟩
    | false =>
      cases h : chainOk (v ++ [x]) with
      | false => exact ⟨_, _, rfl, by simp⟩
      | true => exact ⟨_, _, rfl, by have := chain_len h; omega⟩

/-- a standard calibrated anew -/
abbrev anew (x : Std) (from_ : Int) (s : Spn) (day : Int) : Std := (x.1, (from_, (s, (x.2.2.2.1, (day, x.2.2.2.2.2)))))
abbrev renV' (v : List Std) (i from_ : Int) (s : Spn) (day : Int) : List Std := v.set i.toNat (anew (v.getD i.toNat dStd) from_ s day)
abbrev renRes (v : List Std) (i from_ : Int) (s : Spn) (day : Int) : SRes :=
  bif spanOk s then (bif atC v i day != 0 then r2 [] (atC v i day) else bif chainOk (renV' v i from_ s day) then r2 (renV' v i from_ s day) 0 else r2 [] 4) else r2 [] 1

theorem sized_set {v : List Std} (hv : Sized v) {i : Nat} (hi : i < v.length) (from_ : Int) (s : Spn) (day : Int) : Sized (v.set i (anew (v.getD i dStd) from_ s day)) := by
  refine ⟨by rw [List.length_set]; exact hv.1, fun y hy => ?_⟩
  rcases List.mem_or_eq_of_mem_set hy with h | h
  · exact hv.2 y h
  · rw [h]
    rw [get_ix hi]
    exact hv.2 v[i] (List.getElem_mem hi)

section
variable (v : List Std) (i from_ : Int) (s : Spn) (day : Int) (hv : Sized v) (hl : v.length ≤ 1048576)
include hv hl

theorem impl_RenewStandard_is : impl_RenewStandard N0 v i from_ s day = renRes v i from_ s day := by
  unfold impl_RenewStandard impl_RenewStandard_t renRes
  rw [show ((s.1.1, s.1.2), (s.2.1, s.2.2)) = s from rfl, impl_ValidSpan_is, Option.bind_some]
  dsimp only
  cases hs : spanOk s with
  | false => rfl
  | true =>
    rw [Bool.not_true, cond_false, cond_true, impl_chainCode_1day v i day hv, Option.bind_some]
    dsimp only
    by_cases h : atC v i day = 0
    · obtain ⟨hc, hi, hd⟩ := atC_ok h
      have hn : i.toNat < v.length := by omega
      rw [ne_f h, cond_false, cond_false, clone_std v (by omega), Option.bind_some]
      dsimp only
      rw [dec_t hi.1, dec_t hi.2, Bool.and_self, cond_true]
      rw [letIn]; simp only [set_get hn, List.set_set, List.length_set, dec_t hi.1, dec_t hi.2, Bool.and_self, cond_true]
      rw [letIn]; simp only [set_get hn, List.set_set, List.length_set, dec_t hi.1, dec_t hi.2, Bool.and_self, cond_true]
      rw [letIn]
      have e := impl_ValidChain_is _ (sized_set hv hn from_ s day)
      refine (congrArg (fun o => Option.bind o _) e).trans ?_
      rw [Option.bind_some]
      dsimp only
      cases chainOk (v.set i.toNat (anew (v.getD i.toNat dStd) from_ s day)) <;> rfl
    · rw [ne_true h]; rfl

theorem spec_RenewStandard_is : spec_RenewStandard N0 v i from_ s day = renRes v i from_ s day := by
  unfold spec_RenewStandard spec_RenewStandard_t renRes
  rw [spec_l05Ok_is v hv, Option.bind_some]
  dsimp only
  rw [show ((s.1.1, s.1.2), (s.2.1, s.2.2)) = s from rfl, spec_l01Span_is, Option.bind_some]
  dsimp only
  rw [spec_l05At_is v i day hv, Option.bind_some]
  dsimp only
  cases hc : chainOk v with
  | false => cases spanOk s <;> simp [atC, hc]
  | true =>
    cases hs : spanOk s with
    | false => rfl
    | true =>
      by_cases h : atC v i day = 0
      · obtain ⟨_, hi, hd⟩ := atC_ok h
        have hn : i.toNat < v.length := by omega
        have h' : (bif isIx v i && isDay day then (0 : Int) else 2) = 0 := by unfold atC at h; rw [hc] at h; exact h
        rw [cond_true, h', ne_f h]
        simp only [Bool.not_true, cond_false, cond_true, bne_self_eq_false]
        rw [spec_l05Copy_is v (by omega), Option.bind_some]
        dsimp only
        rw [dec_t hi.1, dec_t hi.2, Bool.and_self, cond_true]
        rw [letIn]; simp only [set_get hn, List.set_set, List.length_set, dec_t hi.1, dec_t hi.2, Bool.and_self, cond_true]
        rw [letIn]; simp only [set_get hn, List.set_set, List.length_set, dec_t hi.1, dec_t hi.2, Bool.and_self, cond_true]
        rw [letIn]
        have e := spec_l05Ok_is _ (sized_set hv hn from_ s day)
        refine (congrArg (fun o => Option.bind o _) e).trans ?_
        rw [Option.bind_some]
        dsimp only
        cases chainOk (v.set i.toNat (anew (v.getD i.toNat dStd) from_ s day)) <;> rfl
      · have h' : ¬ (bif isIx v i && isDay day then (0 : Int) else 2) = 0 := by unfold atC at h; rw [hc] at h; exact h
        rw [cond_true, ne_true h, ne_true h']
        unfold atC
        rw [hc]
        rfl
end

theorem renRes_ex (v : List Std) (i from_ : Int) (s : Spn) (day : Int) (hl : v.length ≤ 1048576) : ∃ o c, renRes v i from_ s day = r2 o c ∧ o.length ≤ 1048576 := by
  unfold renRes
  cases spanOk s with
  | false => exact ⟨_, _, rfl, by simp⟩
  | true =>
    cases (atC v i day != 0) with
    | true => exact ⟨_, _, rfl, by simp⟩
    | false =>
      cases chainOk (renV' v i from_ s day) with
      | false => exact ⟨_, _, rfl, by simp⟩
      | true => exact ⟨_, _, rfl, by rw [List.length_set]; exact hl⟩
end Go.Abs
