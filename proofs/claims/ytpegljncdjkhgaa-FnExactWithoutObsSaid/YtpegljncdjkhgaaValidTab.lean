/- When tables are valid, by the program and by the reference. -/
import Derived.Test.YtpegljncdjkhgaaTables
namespace Go.Abs
set_option linter.unusedSectionVars false
set_option linter.unusedSimpArgs false
set_option linter.unusedVariables false

/-- a coefficient -/
def at6 (a : A6) (j : Nat) : Int := cond (Nat.beq j 0) a.1 (cond (Nat.beq (j - 1) 0) a.2.1 (cond (Nat.beq (j - 1 - 1) 0) a.2.2.1 (cond (Nat.beq (j - 1 - 1 - 1) 0) a.2.2.2.1 (cond (Nat.beq (j - 1 - 1 - 1 - 1) 0) a.2.2.2.2.1 (cond (Nat.beq (j - 1 - 1 - 1 - 1 - 1) 0) a.2.2.2.2.2 0)))))
def anyUp (p : Nat → Bool) : Nat → Nat → Bool
  | 0, _ => false
  | k + 1, i => p i || anyUp p k (i + 1)

def coefAt (a : A6) (count : Int) (j : Nat) : Bool := btw (at6 a j) (-3) 3 && (decide ((j : Int) < count) || (at6 a j == 0))
def nzAt (a : A6) (j : Nat) : Bool := at6 a j != 0
def obTail (o : Ob) : Bool := vF o.2.1 && btw o.2.2 1 100
/-- a valid observation for so many numbers -/
def obOk (count : Int) (o : Ob) : Bool := allUp (coefAt o.1 count) 6 0 && (anyUp (nzAt o.1) 6 0 && obTail o)

theorem spec_l04Obs_e_l3_is (count : Int) (o : Ob) : ∀ (k j : Nat) (s : Bool), j ≤ 6 → 6 - j < k →
    spec_l04Obs_e_l3 N0 k (j : Int) s count o = r1 (allUp (coefAt o.1 count) (6 - j) j && ((s || anyUp (nzAt o.1) (6 - j) j) && obTail o))
  | 0, j, s, _, hk => by omega
  | k + 1, j, s, hj, hk => by
    simp only [spec_l04Obs_e_l3, spec_l04Obs_e_t3]
    by_cases h : j < 6
    · have hlt : decide ((j : Int) < 6) = true := dec_t (by omega)
      simp only [hlt, nn_t, Bool.and_self, cond_true, Int.toNat_natCast, w_succ (i := j) (by omega)]
      change (bif decide (at6 o.1 j < -3) then r1 false else bif decide (at6 o.1 j > 3) then r1 false else bif decide ((j : Int) ≥ count) then (bif at6 o.1 j != 0 then r1 false else (bif s then spec_l04Obs_e_l3 N0 k ((j + 1 : Nat) : Int) true count o else spec_l04Obs_e_l3 N0 k ((j + 1 : Nat) : Int) (at6 o.1 j != 0) count o))
        else (bif s then spec_l04Obs_e_l3 N0 k ((j + 1 : Nat) : Int) true count o else spec_l04Obs_e_l3 N0 k ((j + 1 : Nat) : Int) (at6 o.1 j != 0) count o)) = _
      have ih : ∀ s, spec_l04Obs_e_l3 N0 k ((j + 1 : Nat) : Int) s count o = _ := fun s => spec_l04Obs_e_l3_is count o k (j + 1) s h (by omega)
      have hs : (bif s then spec_l04Obs_e_l3 N0 k ((j + 1 : Nat) : Int) true count o else spec_l04Obs_e_l3 N0 k ((j + 1 : Nat) : Int) (at6 o.1 j != 0) count o) = spec_l04Obs_e_l3 N0 k ((j + 1 : Nat) : Int) (s || (at6 o.1 j != 0)) count o := by
        cases s <;> rfl
      rw [hs, ih, show 6 - j = (6 - (j + 1)) + 1 by omega, allUp, anyUp]
      simp only [coefAt, nzAt, btw]
      by_cases h1 : at6 o.1 j < -3
      · rw [dec_t h1, dec_f (p := -3 ≤ at6 o.1 j) (by omega)]; rfl
      · rw [dec_f h1, dec_t (p := -3 ≤ at6 o.1 j) (by omega)]
        by_cases h2 : at6 o.1 j > 3
        · rw [gt_t h2, dec_f (p := at6 o.1 j ≤ 3) (by omega)]; rfl
        · rw [gt_f h2, dec_t (p := at6 o.1 j ≤ 3) (by omega)]
          by_cases h3 : (j : Int) < count
          · rw [dec_t h3, show decide ((j : Int) ≥ count) = false from decide_eq_false (by omega)]
            simp [Bool.or_assoc, coefAt, nzAt, btw]
          · rw [dec_f h3, show decide ((j : Int) ≥ count) = true from decide_eq_true (by omega)]
            by_cases h4 : at6 o.1 j = 0
            · rw [ne_f h4, eq_t h4]
              simp [coefAt, nzAt, btw]
            · rw [ne_true h4, eq_f h4]
              simp
    · have : j = 6 := by omega
      subst this
      have hlt : decide (((6 : Nat) : Int) < 6) = false := rfl
      simp only [hlt, cond_false, Nat.sub_self, allUp, anyUp, Bool.or_false, Bool.true_and, pr_eta, spec_l01Ok_is, spec_l00In_is, Option.bind_some]
      unfold obTail
      cases s with
      | false => rfl
      | true => cases vF o.2.1 <;> rfl

theorem spec_l04Obs_e_is (o : Ob) (count : Int) : spec_l04Obs_e N0 o count = r1 (obOk count o) := by
  have := N0_big
  simp only [spec_l04Obs_e, spec_l04Obs_e_t]
  exact spec_l04Obs_e_l3_is count o N0 0 false (by omega) (by omega)

/-- a valid table -/
def tabOk (t : Tb) : Bool := btw t.1 1 6 && (decide (t.2.1.length ≤ 24) && (vF t.2.2.2 && ((t.2.2.1 || (t.2.2.2.1 == 0)) && t.2.1.all (obOk t.1))))

theorem spec_l04Ok_l4_is (t : Tb) (hb : t.2.1.length ≤ 9223372036854775807) : ∀ (k i : Nat), i ≤ t.2.1.length → t.2.1.length - i < k →
    spec_l04Ok_l4 N0 k (i : Int) t.1 t.2.1 t.2.2.1 t.2.2.2.1 t.2.2.2.2 = c1 ((t.2.1.drop i).all (obOk t.1)) t
  | 0, i, _, hk => by omega
  | k + 1, i, hi, hk => by
    simp only [spec_l04Ok_l4, spec_l04Ok_t4]
    by_cases h : i < t.2.1.length
    · simp only [lt_t h, nn_t, Bool.and_self, cond_true, Int.toNat_natCast, get_ix h, w_succ (i := i) (by omega), pr_eta, spec_l04Obs_e_is, Option.bind_some]
      rw [drop_ix h, List.all_cons]
      cases obOk t.1 t.2.1[i] with
      | true => exact spec_l04Ok_l4_is t hb k (i + 1) h (by omega)
      | false => rfl
    · have : i = t.2.1.length := by omega
      subst this
      simp only [lt_f h, cond_false, List.drop_length]
      rfl

theorem spec_l04Ok_is (t : Tb) (hb : t.2.1.length ≤ 9223372036854775807) : spec_l04Ok N0 t = c1 (tabOk t) t := by
  have := N0_big
  have h := spec_l04Ok_l4_is t hb N0 0 (by omega) (by omega)
  rw [List.drop_zero] at h
  have h : spec_l04Ok_l4 N0 N0 0 t.1 t.2.1 t.2.2.1 t.2.2.2.1 t.2.2.2.2 = _ := h
  simp only [spec_l04Ok, spec_l04Ok_t, spec_l00In_is, pr_eta, spec_l01Ok_is, Option.bind_some, h]
  unfold tabOk
  cases btw t.1 1 6 with
  | false => rfl
  | true =>
    by_cases h24 : t.2.1.length ≤ 24
    · rw [gt_f (by omega), dec_t h24]
      cases vF t.2.2.2 with
      | false => rfl
      | true =>
        cases t.2.2.1 with
        | true => rfl
        | false =>
          by_cases h0 : t.2.2.2.1 = 0
          · rw [ne_f h0, eq_t h0]; rfl
          · rw [ne_true h0, eq_f h0]; rfl
    · rw [gt_t (by omega), dec_f h24]; rfl

/-! ### the program's -/
/-- coefficients that fit -/
def Fit6 (a : A6) : Prop := ∀ j, I64 (at6 a j)

section
variable (G : Int → List Ob → Int → Int → List Ob → Bool → Int → Int → Option (((Bool × Unit) × Unit) × Unit))

theorem impl_ValidTable_l8_is (t : Tb) (o : Ob) (hf : Fit6 o.1) (m : Int) (i : Int) : ∀ (k j : Nat) (s : Bool), j ≤ 6 → 6 - j < k →
    impl_ValidTable_l8 N0 G k (j : Int) s o.1.1 o.1.2.1 o.1.2.2.1 o.1.2.2.2.1 o.1.2.2.2.2.1 o.1.2.2.2.2.2 t.2.1 m i t.1 t.2.1 t.2.2.1 t.2.2.2.1 t.2.2.2.2 o.1.1 o.1.2.1 o.1.2.2.1 o.1.2.2.2.1 o.1.2.2.2.2.1 o.1.2.2.2.2.2 o.2.1.1 o.2.1.2 o.2.2
      = bif allUp (coefAt o.1 t.1) (6 - j) j && ((s || anyUp (nzAt o.1) (6 - j) j) && obTail o) then G (IntKind.wrap .i64 (i + 1)) t.2.1 m t.1 t.2.1 t.2.2.1 t.2.2.2.1 t.2.2.2.2 else r1 false
  | 0, j, s, _, hk => by omega
  | k + 1, j, s, hj, hk => by
    simp only [impl_ValidTable_l8, impl_ValidTable_t8]
    by_cases h : j < 6
    · have hlt : decide ((j : Int) < 6) = true := dec_t (by omega)
      have ih : ∀ s, impl_ValidTable_l8 N0 G k ((j + 1 : Nat) : Int) s o.1.1 o.1.2.1 o.1.2.2.1 o.1.2.2.2.1 o.1.2.2.2.2.1 o.1.2.2.2.2.2 t.2.1 m i t.1 t.2.1 t.2.2.1 t.2.2.2.1 t.2.2.2.2 o.1.1 o.1.2.1 o.1.2.2.1 o.1.2.2.2.1 o.1.2.2.2.2.1 o.1.2.2.2.2.2 o.2.1.1 o.2.1.2 o.2.2 = _ := fun s => impl_ValidTable_l8_is t o hf m i k (j + 1) s h (by omega)
      simp only [hlt, nn_t, Bool.and_self, cond_true, Int.toNat_natCast, w_succ (i := j) (by omega), impl_within_is, Option.bind_some, ih]
      change (bif !btw (IntKind.wrap .i64 (at6 o.1 j)) (-3) 3 then r1 false else bif at6 o.1 j != 0 then (bif decide ((j : Int) ≥ t.1) then r1 false else bif s then _ else (bif allUp (coefAt o.1 t.1) (6 - (j + 1)) (j + 1) && (((at6 o.1 j != 0) || anyUp (nzAt o.1) (6 - (j + 1)) (j + 1)) && obTail o) then _ else r1 false))
        else bif s then _ else (bif allUp (coefAt o.1 t.1) (6 - (j + 1)) (j + 1) && (((at6 o.1 j != 0) || anyUp (nzAt o.1) (6 - (j + 1)) (j + 1)) && obTail o) then _ else r1 false)) = _
      rw [w_in (hf j), show 6 - j = (6 - (j + 1)) + 1 by omega, allUp, anyUp]
      simp only [coefAt, nzAt]
      cases btw (at6 o.1 j) (-3) 3 with
      | false => rfl
      | true =>
        by_cases h4 : at6 o.1 j = 0
        · rw [ne_f h4, eq_t h4]
          cases s <;> simp [coefAt, nzAt]
        · rw [ne_true h4, eq_f h4]
          by_cases h3 : (j : Int) < t.1
          · rw [dec_t h3, show decide ((j : Int) ≥ t.1) = false from decide_eq_false (by omega)]
            cases s <;> simp [coefAt, nzAt]
          · rw [dec_f h3, show decide ((j : Int) ≥ t.1) = true from decide_eq_true (by omega)]
            simp
    · have : j = 6 := by omega
      subst this
      have hlt : decide (((6 : Nat) : Int) < 6) = false := rfl
      simp only [hlt, cond_false, Nat.sub_self, allUp, anyUp, Bool.or_false, Bool.true_and, pr_eta, impl_ValidFrac_is, impl_within_is, Option.bind_some]
      unfold obTail
      cases s with
      | false => rfl
      | true =>
        cases vF o.2.1 with
        | false => rfl
        | true => cases btw o.2.2 1 100 <;> rfl
end

theorem impl_ValidTable_l4_is (t : Tb) (hb : t.2.1.length ≤ 9223372036854775807) (hf : ∀ o ∈ t.2.1, Fit6 o.1) : ∀ (k i : Nat), i ≤ t.2.1.length → t.2.1.length - i < k →
    impl_ValidTable_l4 N0 k (i : Int) t.2.1 (t.2.1.length : Int) t.1 t.2.1 t.2.2.1 t.2.2.2.1 t.2.2.2.2 = r1 ((t.2.1.drop i).all (obOk t.1))
  | 0, i, _, hk => by omega
  | k + 1, i, hi, hk => by
    have hN := N0_big
    simp only [impl_ValidTable_l4, impl_ValidTable_t4]
    by_cases h : i < t.2.1.length
    · have h8 := impl_ValidTable_l8_is (impl_ValidTable_l4 N0 k) t t.2.1[i] (hf _ (List.getElem_mem h)) (t.2.1.length : Int) (i : Int) N0 0 false (by omega) (by omega)
      simp only [lt_t h, nn_t, Bool.and_self, cond_true, Int.toNat_natCast, get_ix h]
      refine Eq.trans h8 ?_
      rw [w_succ (i := i) (by omega), impl_ValidTable_l4_is t hb hf k (i + 1) h (by omega), drop_ix h, List.all_cons]
      change (bif obOk t.1 t.2.1[i] then _ else _) = _
      cases obOk t.1 t.2.1[i] <;> rfl
    · have : i = t.2.1.length := by omega
      subst this
      simp only [lt_f h, cond_false, List.drop_length]
      rfl

theorem impl_ValidTable_is (t : Tb) (hb : t.2.1.length ≤ 9223372036854775807) (hf : ∀ o ∈ t.2.1, Fit6 o.1) : impl_ValidTable N0 t = r1 (tabOk t) := by
  have := N0_big
  have h := impl_ValidTable_l4_is t hb hf N0 0 (by omega) (by omega)
  rw [List.drop_zero] at h
  have h : impl_ValidTable_l4 N0 N0 0 t.2.1 (t.2.1.length : Int) t.1 t.2.1 t.2.2.1 t.2.2.2.1 t.2.2.2.2 = _ := h
  simp only [impl_ValidTable, impl_ValidTable_t, impl_within_is, pr_eta, impl_ValidFrac_is, Option.bind_some, h]
  unfold tabOk
  cases btw t.1 1 6 with
  | false => rfl
  | true =>
    by_cases h24 : t.2.1.length ≤ 24
    · rw [gt_f (by omega), dec_t h24]
      cases vF t.2.2.2 with
      | false => rfl
      | true =>
        cases t.2.2.1 with
        | true => rfl
        | false =>
          by_cases h0 : t.2.2.2.1 = 0
          · rw [ne_f h0, eq_t h0]; rfl
          · rw [ne_true h0, eq_f h0]; rfl
    · rw [gt_t (by omega), dec_f h24]; rfl

theorem wf_i8 {n : Int} (h : WfD (.int .i8) n) : I64 n := by
  have h : (Lit.int .i8 n).wf = true := h
  simp only [Lit.wf, Bool.and_eq_true, decide_eq_true_eq] at h
  have h1 : IntKind.min .i8 = -128 := rfl
  have h2 : IntKind.max .i8 = 127 := rfl
  unfold I64
  omega

theorem tb_fit {t : Tb} (h : WfD tbT t) : ∀ o ∈ t.2.1, Fit6 o.1 := by
  intro o ho j
  obtain ⟨h0, h1, h2, h3, h4, h5⟩ := (h.2.1.2 o ho).1
  unfold at6
  cases Nat.beq j 0 with
  | true => exact wf_i8 h0
  | false =>
    cases Nat.beq (j - 1) 0 with
    | true => exact wf_i8 h1
    | false =>
      cases Nat.beq (j - 1 - 1) 0 with
      | true => exact wf_i8 h2
      | false =>
        cases Nat.beq (j - 1 - 1 - 1) 0 with
        | true => exact wf_i8 h3
        | false =>
          cases Nat.beq (j - 1 - 1 - 1 - 1) 0 with
          | true => exact wf_i8 h4
          | false =>
            cases Nat.beq (j - 1 - 1 - 1 - 1 - 1) 0 with
            | true => exact wf_i8 h5
            | false => show I64 0; exact ⟨by decide, by decide⟩
end Go.Abs
