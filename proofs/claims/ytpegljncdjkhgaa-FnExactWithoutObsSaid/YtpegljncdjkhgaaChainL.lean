/- Chains at a law: sizes, copies, comparison. -/
import Derived.Test.YtpegljncdjkhgaaDWithoutObs0
import Derived.Test.YtpegljncdjkhgaaPrims
import Derived.Test.YtpegljncdjkhgaaIx
import Derived.Test.YtpegljncdjkhgaaTrod
namespace Go.Abs
set_option linter.unusedSectionVars false
set_option linter.unusedSimpArgs false
set_option linter.unusedVariables false

abbrev StdL : Type := ByteArray × (Int × (((Int × Int) × (Int × Int)) × ((Int × Int) × (Int × Int))))

theorem eqStr_refl (s : ByteArray) : eqStr s s = true := by simp [eqStr]

theorem laws_toFrac_is (n : Nat) (a : Int × Int) : laws_toFrac n a = r1 a := rfl
theorem laws_toSpan_is (n : Nat) (s : (Int × Int) × (Int × Int)) : laws_toSpan n s = r1 s := rfl
theorem laws_toStandard_is (n : Nat) (x : StdL) : laws_toStandard n x = r1 x := rfl
theorem laws_toStandardS_is (v : List StdL) (hb : v.length ≤ 1048576) : laws_toStandardS N0 v = r1 v := by
  simp only [laws_toStandardS, laws_toStandardS_t, beq_self_eq_true, nn_t, Int.toNat_natCast, room_t (k := v.length) (c := 89) (by omega), Bool.and_self, cond_true]
  exact copyF_all (cl := laws_toStandard N0) (laws_toStandard_is N0) (fun _ _ _ _ => rfl) v (by omega)

theorem laws_eqSpan_refl (n : Nat) (s : (Int × Int) × (Int × Int)) : laws_eqSpan n s s = r1 true := by
  simp only [laws_eqSpan, laws_eqSpan_t, laws_eqFrac_is, beq_self_eq_true, Option.bind_some, Bool.not_true, cond_false]
theorem laws_eqStandard_refl (n : Nat) (x : StdL) : laws_eqStandard n x x = r1 true := by
  simp only [laws_eqStandard, laws_eqStandard_t, eqStr_refl, laws_eqSpan_refl, laws_eqFrac_is, beq_self_eq_true, bne_self_eq_false, Option.bind_some, Bool.not_true, cond_false]
theorem laws_eqStandardS_refl (v : List StdL) (hb : v.length ≤ 1048576) : laws_eqStandardS N0 v v = r1 true := by
  simp only [laws_eqStandardS, laws_eqStandardS_t]
  exact eqR_all (cl := laws_eqStandard N0) (fun _ _ _ _ => rfl) v (fun x _ => laws_eqStandard_refl N0 x) (by omega)

theorem laws_szStandardS_l5_is (v : List StdL) (hb : v.length ≤ 1048576) (hs : ∀ x ∈ v, x.1.size ≤ 9223372036854775807) : ∀ (k i : Nat) (m : Int), i ≤ v.length → v.length - i < k → 0 ≤ m ∧ m ≤ 1048576 →
    ∃ r, laws_szStandardS_l5 N0 k (i : Int) m v = r1 r ∧ r ≤ m
  | 0, i, m, _, hk, _ => by omega
  | k + 1, i, m, hi, hk, hm => by
    simp only [laws_szStandardS_l5, laws_szStandardS_t5]
    by_cases h : i < v.length
    · have hx := hs _ (List.getElem_mem h)
      simp only [lt_t h, nn_t, Bool.and_self, cond_true, Int.toNat_natCast, get_ix h, w_succ (i := i) (by omega), pr_eta, laws_szStandard, laws_szStandard_t]
      rw [w_in (x := m - (v[i].1.size : Int)) (by unfold I64; omega)]
      by_cases hlt : m - (v[i].1.size : Int) < 0
      · rw [dec_t hlt, cond_true, Option.bind_some]
        exact ⟨-1, rfl, by omega⟩
      · rw [dec_f hlt, cond_false, Option.bind_some]
        dsimp only
        rw [dec_f hlt, cond_false]
        obtain ⟨r, h1, h2⟩ := laws_szStandardS_l5_is v hb hs k (i + 1) (m - (v[i].1.size : Int)) h (by omega) (by omega)
        exact ⟨r, h1, by omega⟩
    · have : i = v.length := by omega
      subst this
      simp only [lt_f h, cond_false]
      exact ⟨m, rfl, by omega⟩

theorem laws_szStandardS_is (v : List StdL) (hb : v.length ≤ 9223372036854775807) (hs : ∀ x ∈ v, x.1.size ≤ 9223372036854775807) (m : Int) (hm : 0 ≤ m ∧ m ≤ 1048576) :
    ∃ r, laws_szStandardS N0 v m = r1 r ∧ r ≤ m ∧ (0 ≤ r → v.length ≤ 1048576) := by
  have := N0_big
  simp only [laws_szStandardS, laws_szStandardS_t]
  rw [w_in (x := m - (v.length : Int)) (by unfold I64; omega)]
  by_cases hlt : m - (v.length : Int) < 0
  · rw [dec_t hlt, cond_true]
    exact ⟨-1, rfl, by omega, by omega⟩
  · rw [dec_f hlt, cond_false]
    obtain ⟨r, h1, h2⟩ := laws_szStandardS_l5_is v (by omega) hs N0 0 (m - (v.length : Int)) (by omega) (by omega) (by omega)
    exact ⟨r, h1, by omega, by omega⟩

/-- what is known of a chain that is an argument -/
theorem chain_wf {v : List StdL} (h : WfD (.list (.pair .str (.pair (.int .i64) (.pair (.pair (.pair (.int .i64) (.int .i64)) (.pair (.int .i64) (.int .i64))) (.pair (.pair (.int .i64) (.int .i64)) (.pair (.int .i64) (.int .i64))))))) v) :
    v.length ≤ 9223372036854775807 ∧ ∀ x ∈ v, x.1.size ≤ 9223372036854775807 :=
  ⟨h.1, fun x hx => (h.2 x hx).1⟩
end Go.Abs
