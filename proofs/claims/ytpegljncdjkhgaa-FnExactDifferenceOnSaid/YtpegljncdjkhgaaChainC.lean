/- Codes of a chain, an index and a day. -/
import Derived.Test.YtpegljncdjkhgaaChain
namespace Go.Abs
set_option linter.unusedSectionVars false
set_option linter.unusedSimpArgs false
set_option linter.unusedVariables false

/-! ### codes -/
/-- the index of a standard -/
def isIx (v : List Std) (i : Int) : Bool := btw i 0 ((v.length : Int) - 1)

theorem isIx_iff {v : List Std} {i : Int} : isIx v i = true ↔ 0 ≤ i ∧ i < (v.length : Int) := by
  unfold isIx
  rw [btw_iff]
  omega

theorem impl_chainCode_is (v : List Std) (is days : List Int) (hv : Sized v) (h1 : is.length ≤ 9223372036854775807) (h2 : days.length ≤ 9223372036854775807) :
    impl_chainCode N0 v is days = r1 (bif chainOk v then (bif is.all (isIx v) && days.all isDay then 0 else 2) else 1) := by
  have hb := hv.1
  have hw : IntKind.wrap .i64 ((v.length : Int) - 1) = (v.length : Int) - 1 := w_in (by unfold I64; omega)
  have e1 : slices_ContainsFunc_int64_int64_at_impl_chainCode_1 N0 is v = c1 (!is.all (isIx v)) v := by
    simp only [slices_ContainsFunc_int64_int64_at_impl_chainCode_1, slices_ContainsFunc_int64_int64_at_impl_chainCode_1_t, slices_IndexFunc_int64_int64_at_impl_chainCode_1, slices_IndexFunc_int64_int64_at_impl_chainCode_1_t]
    have h := idxS_all (L := fun k i w m (b : List Std) => slices_IndexFunc_int64_int64_at_impl_chainCode_1_l2 N0 k i w m b) (cl := impl_chainCode_1 N0) (d := 0) (fun x => !isIx v x) v
      (fun x => by simp only [impl_chainCode_1, impl_chainCode_1_t, impl_within_is, Option.bind_some, hw]; rfl) (fun _ _ _ _ _ => rfl) is h1
    simp only [h, Option.bind_some, fIdx_any, any_notP]
  have e2 : slices_ContainsFunc_int64_int64_at_impl_chainCode_2 N0 days = r1 (!days.all isDay) := by
    simp only [slices_ContainsFunc_int64_int64_at_impl_chainCode_2, slices_ContainsFunc_int64_int64_at_impl_chainCode_2_t, slices_IndexFunc_int64_int64_at_impl_chainCode_2, slices_IndexFunc_int64_int64_at_impl_chainCode_2_t]
    rw [idx_all (L := slices_IndexFunc_int64_int64_at_impl_chainCode_2_l2 N0) (cl := impl_chainCode_2 N0) (d := 0) (fun x => !isDay x)
      (fun x => by simp only [impl_chainCode_2, impl_chainCode_2_t, impl_within_is, Option.bind_some]; rfl) (fun _ _ _ _ => rfl) days h2]
    simp only [Option.bind_some, fIdx_any, any_notP]
  simp only [impl_chainCode, impl_chainCode_t, impl_ValidChain_is v hv, e1, e2, Option.bind_some]
  cases chainOk v with
  | false => rfl
  | true =>
    cases is.all (isIx v) with
    | false => rfl
    | true => cases days.all isDay <;> rfl

theorem spec_l05At_is (v : List Std) (i day : Int) (hv : Sized v) : spec_l05At N0 v i day = r1 (bif chainOk v then (bif isIx v i && isDay day then 0 else 2) else 1) := by
  have hb := hv.1
  have hw : IntKind.wrap .i64 ((v.length : Int) - 1) = (v.length : Int) - 1 := w_in (by unfold I64; omega)
  simp only [spec_l05At, spec_l05At_t, spec_l05Ok_is v hv, spec_l00In_is, spec_l05Day_is, Option.bind_some, hw]
  cases chainOk v with
  | false => rfl
  | true =>
    change (bif !true then _ else bif !isIx v i then _ else _) = _
    cases isIx v i with
    | false => rfl
    | true => cases isDay day <;> rfl

/-- the code of a chain, an index and a day -/
abbrev atC (v : List Std) (i day : Int) : Int := bif chainOk v then (bif isIx v i && isDay day then 0 else 2) else 1

theorem atC_ok {v : List Std} {i day : Int} (h : atC v i day = 0) : chainOk v = true ∧ (0 ≤ i ∧ i < (v.length : Int)) ∧ isDay day = true := by
  unfold atC at h
  cases h1 : chainOk v with
  | false => rw [h1] at h; cases h
  | true =>
    cases h2 : (isIx v i && isDay day) with
    | false => rw [h1, h2] at h; cases h
    | true =>
      rw [Bool.and_eq_true] at h2
      exact ⟨rfl, isIx_iff.1 h2.1, h2.2⟩

theorem impl_chainCode_1day (v : List Std) (i day : Int) (hv : Sized v) : impl_chainCode N0 v (i :: []) (day :: []) = r1 (atC v i day) := by
  rw [impl_chainCode_is v [i] [day] hv (by simp) (by simp)]
  simp only [List.all_cons, List.all_nil, Bool.and_true]

theorem impl_chainCode_0day (v : List Std) (i : Int) (hv : Sized v) : impl_chainCode N0 v (i :: []) [] = r1 (atC v i 0) := by
  rw [impl_chainCode_is v [i] [] hv (by simp) (by simp)]
  simp only [List.all_cons, List.all_nil, Bool.and_true, atC, show isDay 0 = true from rfl]

end Go.Abs
