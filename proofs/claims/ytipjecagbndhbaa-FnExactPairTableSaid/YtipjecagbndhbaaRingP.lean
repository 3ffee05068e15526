/- Tables of differences. -/
import Derived.Test.YtipjecagbndhbaaIntvP
import Derived.Test.YtipjecagbndhbaaMarkObs
namespace Go.Abs
set_option linter.unusedSectionVars false
set_option linter.unusedSimpArgs false
set_option linter.unusedVariables false

/-- a table that is a result, with its code -/
abbrev rT (t : Tb) (c : Int) : Option ((((Int × (List Ob × ((Bool × (Int × Int)) × Unit))) × ((Int × Unit) × Unit))) × Unit) := some (((t.1, (t.2.1, (t.2.2, ()))), ((c, ()), ())), ())
abbrev tb0 : Tb := (0, ([], (false, (0, 0))))

theorem pairObs_same (i k : Int) (d : Fq) : spec_l04Pair N0 i k d = impl_pairObs N0 i k d := rfl

/-- the observation of a difference -/
noncomputable def obPair (i k : Int) (d : Fq) : Ob := match impl_pairObs N0 i k d with
  | some p => p.1.1.1
  | none => dOb

theorem impl_pairObs_is {i k : Int} (hi : 0 ≤ i ∧ i < 6) (hk : 0 ≤ k ∧ k < 6) (d : Fq) : impl_pairObs N0 i k d = r1 (obPair i k d) := by
  have e : ∃ o, impl_pairObs N0 i k d = r1 o := by
    simp only [impl_pairObs, impl_pairObs_t]
    rw [dec_t hi.1, dec_t hi.2, dec_t hk.1, dec_t hk.2]
    exact ⟨_, rfl⟩
  obtain ⟨o, e⟩ := e
  unfold obPair
  rw [e]

/-! ### differences that go round -/
noncomputable def ringUp (D : List Fq) (n : Nat) : Nat → Nat → List Ob
  | 0, _ => []
  | k + 1, i => obPair (i : Int) (Int.tmod ((i + 1 : Nat) : Int) (n : Int)) (D.getD i (0, 0)) :: ringUp D n k (i + 1)

theorem ringUp_len (D : List Fq) (n : Nat) : ∀ k i, (ringUp D n k i).length = k
  | 0, i => rfl
  | k + 1, i => by rw [ringUp, List.length_cons, ringUp_len D n k]

section
variable {D : List Fq} {n : Nat} (hn : D.length = n) (h2 : 2 ≤ n ∧ n ≤ 6)
include hn h2

theorem ring_k (i : Nat) : 0 ≤ Int.tmod ((i + 1 : Nat) : Int) (n : Int) ∧ Int.tmod ((i + 1 : Nat) : Int) (n : Int) < 6 := by
  have h1 := Int.tmod_nonneg (b := (n : Int)) (a := ((i + 1 : Nat) : Int)) (by omega)
  have h3 := Int.tmod_lt_of_pos (b := (n : Int)) ((i + 1 : Nat) : Int) (by omega)
  omega

theorem impl_ring_l8_is (t z : Int × Fq) (cl cz : Bool) : ∀ (k i : Nat) (b : List Ob), i ≤ n → n - i < k → b.length = i →
    impl_RingTable_l8 N0 k (i : Int) (n : Int) D (n : Int) t.1 cl t.2.1 t.2.2 z.1 cz z.2.1 z.2.2 b = rT (t.1, (b ++ ringUp D n (n - i) i, (cl, t.2))) 0
  | 0, i, b, _, hk, _ => by omega
  | k + 1, i, b, hi, hk, hb => by
    simp only [impl_RingTable_l8, impl_RingTable_t8]
    by_cases h : i < n
    · have hr (x : Ob) : decide ((b.length + (x :: []).length) * 33 ≤ 70368744177664) = true := dec_t (by simp only [List.length_cons, List.length_nil]; omega)
      simp only [lt_t h, nn_t, hn, Bool.and_self, cond_true, ne_true (a := (n : Int)) (b := 0) (by omega), Int.toNat_natCast, w_succ (i := i) (by omega), pr_eta, impl_pairObs_is (i := (i : Int)) (by omega) (ring_k hn h2 i), Option.bind_some, hr]
      rw [impl_ring_l8_is t z cl cz k (i + 1) _ h (by omega) (by simp [hb]), show n - i = (n - (i + 1)) + 1 by omega, ringUp, List.append_assoc]
      rfl
    · have : i = n := by omega
      subst this
      simp only [lt_f h, cond_false, Nat.sub_self, ringUp, List.append_nil, pr_eta]

theorem spec_ring_l8_is (t z : Int × Fq) (cl cz : Bool) : ∀ (k i : Nat) (b : List Ob), i ≤ n → n - i < k → b.length = i →
    spec_RingTable_l8 N0 k (i : Int) D (n : Int) t.1 cl t.2.1 t.2.2 z.1 cz z.2.1 z.2.2 b = r2 (t.1, (b ++ ringUp D n (n - i) i, (cl, t.2))) 0
  | 0, i, b, _, hk, _ => by omega
  | k + 1, i, b, hi, hk, hb => by
    simp only [spec_RingTable_l8, spec_RingTable_t8]
    by_cases h : i < n
    · have hr (x : Ob) : decide ((b.length + (x :: []).length) * 33 ≤ 70368744177664) = true := dec_t (by simp only [List.length_cons, List.length_nil]; omega)
      simp only [lt_t h, nn_t, hn, Bool.and_self, cond_true, ne_true (a := (n : Int)) (b := 0) (by omega), Int.toNat_natCast, w_succ (i := i) (by omega), pr_eta, pairObs_same, impl_pairObs_is (i := (i : Int)) (by omega) (ring_k hn h2 i), Option.bind_some, hr]
      rw [spec_ring_l8_is t z cl cz k (i + 1) _ h (by omega) (by simp [hb]), show n - i = (n - (i + 1)) + 1 by omega, ringUp, List.append_assoc]
      rfl
    · have : i = n := by omega
      subst this
      simp only [lt_f h, cond_false, Nat.sub_self, ringUp, List.append_nil, pr_eta]
end

/-- the table, its code -/
noncomputable def ringT (D : List Fq) (t : Fq) : Tb × Int :=
  bif D.all vF && vF t then (bif btw (D.length : Int) 2 6 then (((D.length : Int), (ringUp D D.length D.length 0, (true, t))), 0) else (tb0, 2)) else (tb0, 1)

theorem ringT_len (D : List Fq) (t : Fq) : (ringT D t).1.2.1.length ≤ 1048576 := by
  unfold ringT
  cases D.all vF && vF t with
  | false => simp
  | true =>
    cases h : btw (D.length : Int) 2 6 with
    | false => simp
    | true =>
      rw [btw_iff] at h
      simp only [cond_true, ringUp_len]
      omega

theorem impl_RingTable_is (D : List Fq) (t : Fq) (hb : D.length ≤ 9223372036854775807) : impl_RingTable N0 D t = rT (ringT D t).1 (ringT D t).2 := by
  have := N0_big
  simp only [impl_RingTable, impl_RingTable_t, cq_areValid_is D hb, Option.bind_some, impl_ValidFrac_is, pr_eta]
  unfold ringT
  cases D.all vF with
  | false => rfl
  | true =>
    cases vF t with
    | false => rfl
    | true =>
      by_cases h : 2 ≤ (D.length : Int)
      · by_cases h' : (D.length : Int) ≤ 6
        · rw [dec_f (p := (D.length : Int) < 2) (by omega), dec_f (p := (D.length : Int) > 6) (by omega), show btw (D.length : Int) 2 6 = true from btw_iff.2 ⟨h, h'⟩]
          have e := impl_ring_l8_is (D := D) (n := D.length) rfl (by omega) ((D.length : Int), t) (0, (0, 0)) true false N0 0 [] (by omega) (by omega) rfl
          rw [Nat.sub_zero, List.nil_append] at e
          exact e
        · rw [dec_f (p := (D.length : Int) < 2) (by omega), dec_t (p := (D.length : Int) > 6) (by omega), show btw (D.length : Int) 2 6 = false by unfold btw; rw [dec_f h', Bool.and_false]]
          rfl
      · rw [dec_t (p := (D.length : Int) < 2) (by omega), show btw (D.length : Int) 2 6 = false by unfold btw; rw [dec_f h, Bool.false_and]]
        rfl

theorem spec_RingTable_is (D : List Fq) (t : Fq) (hb : D.length ≤ 9223372036854775807) : spec_RingTable N0 D t = r2 (ringT D t).1 (ringT D t).2 := by
  have := N0_big
  simp only [spec_RingTable, spec_RingTable_t, rs_l04Fracs_is D hb, Option.bind_some, spec_l01Ok_is, spec_l00In_is, pr_eta]
  unfold ringT
  cases D.all vF with
  | false => rfl
  | true =>
    cases vF t with
    | false => rfl
    | true =>
      cases h : btw (D.length : Int) 2 6 with
      | false => rfl
      | true =>
        have h2 := btw_iff.1 h
        have e := spec_ring_l8_is (D := D) (n := D.length) rfl (by omega) ((D.length : Int), t) (0, (0, 0)) true false N0 0 [] (by omega) (by omega) rfl
        rw [Nat.sub_zero, List.nil_append] at e
        exact e
end Go.Abs
