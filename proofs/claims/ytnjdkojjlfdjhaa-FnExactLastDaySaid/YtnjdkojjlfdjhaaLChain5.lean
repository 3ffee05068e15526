/- The plain laws of ValidChain, FindStandard, IsGood, LastDay. -/
import Derived.Test.YtnjdkojjlfdjhaaChain
import Derived.Test.YtnjdkojjlfdjhaaChainL
namespace Go.Abs
set_option linter.unusedSectionVars false
set_option linter.unusedSimpArgs false
set_option linter.unusedVariables false

theorem spec_ValidChain_is (v : List Std) (hv : Sized v) : spec_ValidChain N0 v = r1 (chainOk v) := by
  simp only [spec_ValidChain, spec_ValidChain_t, spec_l05Ok_is v hv, Option.bind_some]

theorem law_FnExactValidChain (v : List Std) (hw : WfD (.list (.pair .str (.pair (.int .i64) (.pair (.pair (.pair (.int .i64) (.int .i64)) (.pair (.int .i64) (.int .i64))) (.pair (.pair (.int .i64) (.int .i64)) (.pair (.int .i64) (.int .i64))))))) v) : laws_FnExactValidChain N0 v = r1 true := by
  have hv : Sized v := chain_wf hw
  obtain ⟨r, h1, h2, h3⟩ := laws_szStandardS_is v hv.1 hv.2 1048576 (by omega)
  simp only [laws_FnExactValidChain, laws_FnExactValidChain_t, h1, Option.bind_some]
  by_cases hr : r < 0
  · rw [dec_t hr]; rfl
  · have hl := h3 (by omega)
    simp only [dec_f hr, cond_false, laws_toStandardS_is v hl, Option.bind_some, spec_ValidChain_is v hv, impl_ValidChain_is v hv, beq_self_eq_true, Bool.not_true, laws_eqStandardS_refl v hl]

/-! ### FindStandard -/
theorem impl_FindStandard_i_is (l : List Std) (s : ByteArray) (hb : l.length ≤ 9223372036854775807) : slices_IndexFunc_impl_Standard_impl_Standard_at_impl_FindStandard_1 N0 l s = c1 (fIdx (fun o => eqStr o.1 s) l 0) s := by
  simp only [slices_IndexFunc_impl_Standard_impl_Standard_at_impl_FindStandard_1, slices_IndexFunc_impl_Standard_impl_Standard_at_impl_FindStandard_1_t]
  exact idxS_all (L := fun k i v m b => slices_IndexFunc_impl_Standard_impl_Standard_at_impl_FindStandard_1_l2 N0 k i v m b) (cl := impl_FindStandard_1 N0) (d := dStd) (fun o => eqStr o.1 s) s (fun _ => rfl) (fun _ _ _ _ _ => rfl) l hb

abbrev findRes (v : List Std) (s : ByteArray) : Option (((Int × Unit) × ((Int × Unit) × Unit)) × Unit) :=
  bif chainOk v then (bif decide (fIdx (fun o => eqStr o.1 s) v 0 < 0) then r2 0 6 else r2 (fIdx (fun o => eqStr o.1 s) v 0) 0) else r2 0 1

theorem impl_FindStandard_is (v : List Std) (s : ByteArray) (hv : Sized v) : impl_FindStandard N0 v s = findRes v s := by
  simp only [impl_FindStandard, impl_FindStandard_t, impl_ValidChain_is v hv, impl_FindStandard_i_is v s hv.1, Option.bind_some]
  unfold findRes
  cases chainOk v with
  | false => rfl
  | true => cases decide (fIdx (fun o => eqStr o.1 s) v 0 < 0) <;> rfl

theorem spec_FindStandard_l4_is (v : List Std) (s : ByteArray) (hb : v.length ≤ 9223372036854775807) : ∀ (k i : Nat), i ≤ v.length → v.length - i < k →
    spec_FindStandard_l4 N0 k (i : Int) s v = bif decide (fIdx (fun o => eqStr o.1 s) (v.drop i) i < 0) then r2 0 6 else r2 (fIdx (fun o => eqStr o.1 s) (v.drop i) i) 0
  | 0, i, _, hk => by omega
  | k + 1, i, hi, hk => by
    simp only [spec_FindStandard_l4, spec_FindStandard_t4]
    by_cases h : i < v.length
    · simp only [lt_t h, nn_t, Bool.and_self, cond_true, Int.toNat_natCast, get_ix h, w_succ (i := i) (by omega)]
      rw [drop_ix h, fIdx]
      cases eqStr v[i].1 s with
      | true => rw [cond_true, cond_true, dec_f (by omega)]; rfl
      | false => rw [cond_false, cond_false]; exact spec_FindStandard_l4_is v s hb k (i + 1) h (by omega)
    · have : i = v.length := by omega
      subst this
      simp only [lt_f h, cond_false, List.drop_length]
      rfl

theorem spec_FindStandard_is (v : List Std) (s : ByteArray) (hv : Sized v) : spec_FindStandard N0 v s = findRes v s := by
  have := N0_big
  have hb := hv.1
  simp only [spec_FindStandard, spec_FindStandard_t, spec_l05Ok_is v hv, Option.bind_some]
  unfold findRes
  cases chainOk v with
  | false => rfl
  | true => exact spec_FindStandard_l4_is v s hb N0 0 (by omega) (by omega)

theorem law_FnExactFindStandard (v : List Std) (s : ByteArray) (hw : WfD (.list (.pair .str (.pair (.int .i64) (.pair (.pair (.pair (.int .i64) (.int .i64)) (.pair (.int .i64) (.int .i64))) (.pair (.pair (.int .i64) (.int .i64)) (.pair (.int .i64) (.int .i64))))))) v) (hs : WfD .str s) : laws_FnExactFindStandard N0 v s = r1 true := by
  have hv : Sized v := chain_wf hw
  obtain ⟨r, h1, h2, h3⟩ := laws_szStandardS_is v hv.1 hv.2 1048576 (by omega)
  simp only [laws_FnExactFindStandard, laws_FnExactFindStandard_t, h1, Option.bind_some]
  cases decide ((s.size : Int) > 1048576) with
  | true => rfl
  | false =>
    by_cases hr : r < 0
    · rw [dec_t hr]; rfl
    · have hl := h3 (by omega)
      simp only [dec_f hr, cond_false, laws_toStandardS_is v hl, Option.bind_some, spec_FindStandard_is v s hv, impl_FindStandard_is v s hv]
      unfold findRes
      cases chainOk v with
      | false => simp [laws_eqStandardS_refl v hl]
      | true => cases decide (fIdx (fun o => eqStr o.1 s) v 0 < 0) <;> simp [laws_eqStandardS_refl v hl]

/-! ### codes -/
/-- the index of a standard -/
def isIx (v : List Std) (i : Int) : Bool := btw i 0 ((v.length : Int) - 1)

theorem isIx_iff {v : List Std} {i : Int} : isIx v i = true ↔ 0 ≤ i ∧ i < (v.length : Int) := by
  unfold isIx
  rw [btw_iff]
  omega

theorem impl_chainCode_is (v : List Std) (is days : List Int) (hv : Sized v) (h1 : is.length ≤ 9223372036854775807) (h2 : days.length ≤ 9223372036854775807) :
    impl_chainCode N0 v is days = r1 (bif chainOk v then (bif is.all (isIx v) && days.all isDay then 0 else 2) else 1) := by
  have hb := hv.1
  have hw : IntKind.wrap .i64 ((v.length : Int) - 1) = (v.length : Int) - 1 := w_in (by unfold I64; omega)
  have e1 : slices_ContainsFunc_int64_int64_at_impl_chainCode_1 N0 is v = c1 (!is.all (isIx v)) v := by
    simp only [slices_ContainsFunc_int64_int64_at_impl_chainCode_1, slices_ContainsFunc_int64_int64_at_impl_chainCode_1_t, slices_IndexFunc_int64_int64_at_impl_chainCode_1, slices_IndexFunc_int64_int64_at_impl_chainCode_1_t]
    have h := idxS_all (L := fun k i w m (b : List Std) => slices_IndexFunc_int64_int64_at_impl_chainCode_1_l2 N0 k i w m b) (cl := impl_chainCode_1 N0) (d := 0) (fun x => !isIx v x) v
      (fun x => by simp only [impl_chainCode_1, impl_chainCode_1_t, impl_within_is, Option.bind_some, hw]; rfl) (fun _ _ _ _ _ => rfl) is h1
    simp only [h, Option.bind_some, fIdx_any, any_notP]
  have e2 : slices_ContainsFunc_int64_int64_at_impl_chainCode_2 N0 days = r1 (!days.all isDay) := by
    simp only [slices_ContainsFunc_int64_int64_at_impl_chainCode_2, slices_ContainsFunc_int64_int64_at_impl_chainCode_2_t, slices_IndexFunc_int64_int64_at_impl_chainCode_2, slices_IndexFunc_int64_int64_at_impl_chainCode_2_t]
    rw [idx_all (L := slices_IndexFunc_int64_int64_at_impl_chainCode_2_l2 N0) (cl := impl_chainCode_2 N0) (d := 0) (fun x => !isDay x)
      (fun x => by simp only [impl_chainCode_2, impl_chainCode_2_t, impl_within_is, Option.bind_some]; rfl) (fun _ _ _ _ => rfl) days h2]
    simp only [Option.bind_some, fIdx_any, any_notP]
  simp only [impl_chainCode, impl_chainCode_t, impl_ValidChain_is v hv, e1, e2, Option.bind_some]
  cases chainOk v with
  | false => rfl
  | true =>
    cases is.all (isIx v) with
    | false => rfl
    | true => cases days.all isDay <;> rfl

theorem spec_l05At_is (v : List Std) (i day : Int) (hv : Sized v) : spec_l05At N0 v i day = r1 (bif chainOk v then (bif isIx v i && isDay day then 0 else 2) else 1) := by
  have hb := hv.1
  have hw : IntKind.wrap .i64 ((v.length : Int) - 1) = (v.length : Int) - 1 := w_in (by unfold I64; omega)
  simp only [spec_l05At, spec_l05At_t, spec_l05Ok_is v hv, spec_l00In_is, spec_l05Day_is, Option.bind_some, hw]
  cases chainOk v with
  | false => rfl
  | true =>
    change (bif !true then _ else bif !isIx v i then _ else _) = _
    cases isIx v i with
    | false => rfl
    | true => cases isDay day <;> rfl

/-- the code of a chain, an index and a day -/
abbrev atC (v : List Std) (i day : Int) : Int := bif chainOk v then (bif isIx v i && isDay day then 0 else 2) else 1

theorem atC_ok {v : List Std} {i day : Int} (h : atC v i day = 0) : chainOk v = true ∧ (0 ≤ i ∧ i < (v.length : Int)) ∧ isDay day = true := by
  unfold atC at h
  cases h1 : chainOk v with
  | false => rw [h1] at h; cases h
  | true =>
    cases h2 : (isIx v i && isDay day) with
    | false => rw [h1, h2] at h; cases h
    | true =>
      rw [Bool.and_eq_true] at h2
      exact ⟨rfl, isIx_iff.1 h2.1, h2.2⟩

theorem impl_chainCode_1day (v : List Std) (i day : Int) (hv : Sized v) : impl_chainCode N0 v (i :: []) (day :: []) = r1 (atC v i day) := by
  rw [impl_chainCode_is v [i] [day] hv (by simp) (by simp)]
  simp only [List.all_cons, List.all_nil, Bool.and_true]

theorem impl_chainCode_0day (v : List Std) (i : Int) (hv : Sized v) : impl_chainCode N0 v (i :: []) [] = r1 (atC v i 0) := by
  rw [impl_chainCode_is v [i] [] hv (by simp) (by simp)]
  simp only [List.all_cons, List.all_nil, Bool.and_true, atC, show isDay 0 = true from rfl]

abbrev goodRes (v : List Std) (i day : Int) : Option (((Bool × Unit) × ((Int × Unit) × Unit)) × Unit) :=
  bif atC v i day == 0 then r2 (goodOn (v.getD i.toNat dStd) day) 0 else r2 false (atC v i day)

theorem impl_IsGood_is (v : List Std) (i day : Int) (hv : Sized v) : impl_IsGood N0 v i day = goodRes v i day := by
  simp only [impl_IsGood, impl_IsGood_t, impl_chainCode_1day v i day hv, pr_eta, impl_Standard_good_is, Option.bind_some]
  unfold goodRes
  by_cases h : atC v i day = 0
  · obtain ⟨_, hi, _⟩ := atC_ok h
    rw [ne_f h, eq_t h, cond_false, cond_true, dec_t hi.1, dec_t hi.2]
    rfl
  · rw [ne_true h, eq_f h]; rfl

theorem spec_IsGood_is (v : List Std) (i day : Int) (hv : Sized v) : spec_IsGood N0 v i day = goodRes v i day := by
  simp only [spec_IsGood, spec_IsGood_t, spec_l05At_is v i day hv, pr_eta, spec_l05Good_e_is, Option.bind_some]
  change (bif (atC v i day != 0) then r2 false (atC v i day) else _) = _
  unfold goodRes
  by_cases h : atC v i day = 0
  · obtain ⟨_, hi, _⟩ := atC_ok h
    rw [ne_f h, eq_t h, cond_false, cond_true, dec_t hi.1, dec_t hi.2]
    rfl
  · rw [ne_true h, eq_f h]; rfl

theorem law_FnExactIsGood (v : List Std) (i day : Int) (hw : WfD (.list (.pair .str (.pair (.int .i64) (.pair (.pair (.pair (.int .i64) (.int .i64)) (.pair (.int .i64) (.int .i64))) (.pair (.pair (.int .i64) (.int .i64)) (.pair (.int .i64) (.int .i64))))))) v) (_ : WfD (.int .i64) i) (_ : WfD (.int .i64) day) : laws_FnExactIsGood N0 v i day = r1 true := by
  have hv : Sized v := chain_wf hw
  obtain ⟨r, h1, h2, h3⟩ := laws_szStandardS_is v hv.1 hv.2 1048576 (by omega)
  simp only [laws_FnExactIsGood, laws_FnExactIsGood_t, h1, Option.bind_some]
  by_cases hr : r < 0
  · rw [dec_t hr]; rfl
  · have hl := h3 (by omega)
    simp only [dec_f hr, cond_false, laws_toStandardS_is v hl, Option.bind_some, spec_IsGood_is v i day hv, impl_IsGood_is v i day hv]
    unfold goodRes
    cases atC v i day == 0 <;> simp [laws_eqStandardS_refl v hl]

abbrev lastRes (v : List Std) (i : Int) : Option (((Int × Unit) × ((Int × Unit) × Unit)) × Unit) :=
  bif atC v i 0 == 0 then r2 (IntKind.wrap .i64 ((v.getD i.toNat dStd).2.2.2.2.1 + (v.getD i.toNat dStd).2.2.2.2.2)) 0 else r2 0 (atC v i 0)

theorem impl_LastDay_is (v : List Std) (i : Int) (hv : Sized v) : impl_LastDay N0 v i = lastRes v i := by
  simp only [impl_LastDay, impl_LastDay_t, impl_chainCode_0day v i hv, Option.bind_some]
  unfold lastRes
  by_cases h : atC v i 0 = 0
  · obtain ⟨_, hi, _⟩ := atC_ok h
    rw [ne_f h, eq_t h, cond_false, cond_true, dec_t hi.1, dec_t hi.2]
    rfl
  · rw [ne_true h, eq_f h]; rfl

theorem spec_LastDay_is (v : List Std) (i : Int) (hv : Sized v) : spec_LastDay N0 v i = lastRes v i := by
  simp only [spec_LastDay, spec_LastDay_t, spec_l05At_is v i 0 hv, Option.bind_some]
  change (bif (atC v i 0 != 0) then r2 0 (atC v i 0) else _) = _
  unfold lastRes
  by_cases h : atC v i 0 = 0
  · obtain ⟨_, hi, _⟩ := atC_ok h
    rw [ne_f h, eq_t h, cond_false, cond_true, dec_t hi.1, dec_t hi.2]
    rfl
  · rw [ne_true h, eq_f h]; rfl

theorem law_FnExactLastDay (v : List Std) (i : Int) (hw : WfD (.list (.pair .str (.pair (.int .i64) (.pair (.pair (.pair (.int .i64) (.int .i64)) (.pair (.int .i64) (.int .i64))) (.pair (.pair (.int .i64) (.int .i64)) (.pair (.int .i64) (.int .i64))))))) v) (_ : WfD (.int .i64) i) : laws_FnExactLastDay N0 v i = r1 true := by
  have hv : Sized v := chain_wf hw
  obtain ⟨r, h1, h2, h3⟩ := laws_szStandardS_is v hv.1 hv.2 1048576 (by omega)
  simp only [laws_FnExactLastDay, laws_FnExactLastDay_t, h1, Option.bind_some]
  by_cases hr : r < 0
  · rw [dec_t hr]; rfl
  · have hl := h3 (by omega)
    simp only [dec_f hr, cond_false, laws_toStandardS_is v hl, Option.bind_some, spec_LastDay_is v i hv, impl_LastDay_is v i hv]
    unfold lastRes
    cases atC v i 0 == 0 <;> simp [laws_eqStandardS_refl v hl]
end Go.Abs
