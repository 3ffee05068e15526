/- Scales: when they are valid, their marks. -/
import Derived.Test.YtipjecagbndhbaaDPVerniers0
import Derived.Test.YtipjecagbndhbaaSizeP
import Derived.Test.YtipjecagbndhbaaPathP
import Derived.Test.YtipjecagbndhbaaShare
namespace Go.Abs
set_option linter.unusedSectionVars false
set_option linter.unusedSimpArgs false
set_option linter.unusedVariables false

abbrev Sc : Type := Fq × List Fq
abbrev Vn : Type := Int × Bool
abbrev d2 {α β γ δ : Type} (a : α) (b : β) (s : γ) (w : δ) : Option (((α × Unit) × ((β × Unit) × Unit)) × (γ × (δ × Unit))) := some (((a, ()), ((b, ()), ())), (s, (w, ())))
abbrev d1 {α γ δ : Type} (a : α) (s : γ) (w : δ) : Option (((α × Unit) × Unit) × (γ × (δ × Unit))) := some (((a, ()), ()), (s, (w, ())))
abbrev c3 {α β γ δ : Type} (a : α) (b : β) (c : γ) (s : δ) : Option (((α × Unit) × ((β × Unit) × ((γ × Unit) × Unit))) × (δ × Unit)) := some (((a, ()), ((b, ()), ((c, ()), ()))), (s, ()))

theorem allUp_and3 (p q r : Nat → Bool) : ∀ k i, allUp (fun i => p i && (q i && r i)) k i = (allUp p k i && (allUp q k i && allUp r k i))
  | 0, _ => rfl
  | k + 1, i => by
    rw [allUp, allUp, allUp, allUp, allUp_and3 p q r k (i + 1)]
    cases p i <;> cases q i <;> cases r i <;> simp

theorem allUp_all {p : Fq → Bool} (l : List Fq) : ∀ k i, i + k = l.length → allUp (fun i => p (l.getD i (0, 0))) k i = (l.drop i).all p
  | 0, i, h => by rw [List.drop_eq_nil_of_le (by omega)]; rfl
  | k + 1, i, h => by
    have hi : i < l.length := by omega
    rw [allUp, allUp_all l k (i + 1) (by omega), drop_ix hi, List.all_cons, get_ix hi]

abbrev muO (s : Sc) (i : Nat) : Option Fq := fmul ((i : Int), 1) s.1
abbrev maO (s : Sc) (i : Nat) : Option Fq := fadd (val (muO s i)) (s.2.getD i (0, 0))
def mkOk (s : Sc) (i : Nat) : Bool := (muO s i).isSome && (maO s i).isSome
def farAt (s : Sc) (i : Nat) : Bool := decide (IntKind.wrap .i64 (IntKind.wrap .i64 (4 * (((s.2.getD i (0, 0)).1.natAbs : Nat) : Int)) * s.1.2) > IntKind.wrap .i64 (s.1.1 * (s.2.getD i (0, 0)).2))
def unitOk (u : Fq) : Bool := vF u && (decide (u.1 > 0) && decide (cmpF u (1000, 1) ≤ 0))
def scaleOk (s : Sc) : Bool := unitOk s.1 && (btw (s.2.length : Int) 2 60 && (s.2.all vF && (allUp (fun i => !farAt s i) s.2.length 0 && allUp (mkOk s) s.2.length 0)))

theorem impl_ValidScale_l5_is {s : Sc} (hu : Bd s.1) (hL : ∀ y ∈ s.2, Bd y) (hn : s.2.length ≤ 60) : ∀ (k i : Nat) (c : Bool), i ≤ s.2.length → s.2.length - i < k →
    impl_ValidScale_l5 N0 k (i : Int) s.2 (s.2.length : Int) s.1.1 s.1.2 s.2 c = r1 (allUp (fun i => !farAt s i) (s.2.length - i) i && !(c || !allUp (mkOk s) (s.2.length - i) i))
  | 0, i, c, _, hk => by omega
  | k + 1, i, c, hi, hk => by
    simp only [impl_ValidScale_l5, impl_ValidScale_t5]
    by_cases h : i < s.2.length
    · have hx := hL _ (List.getElem_mem h)
      simp only [lt_t h, nn_t, Bool.and_self, cond_true, Int.toNat_natCast, get_ix h, w_succ (i := i) (by omega), pr_eta]
      rw [impl_size_is hx, Option.bind_some, impl_num_is, Option.bind_some]
      dsimp only
      rw [impl_calc_mul_is (Bd.num (n := (i : Int)) (by omega)) hu, Option.bind_some]
      dsimp only
      rw [impl_calc_add_is Bd.mul hx, Option.bind_some]
      dsimp only
      rw [impl_ValidScale_l5_is hu hL hn k (i + 1) _ h (by omega), show s.2.length - i = (s.2.length - (i + 1)) + 1 by omega, allUp, allUp]
      have e : farAt s i = decide (IntKind.wrap .i64 (IntKind.wrap .i64 (4 * ((s.2[i].1.natAbs : Nat) : Int)) * s.1.2) > IntKind.wrap .i64 (s.1.1 * s.2[i].2)) := by unfold farAt; rw [get_ix h]
      rw [← e, mkOk]
      unfold maO muO
      rw [get_ix h]
      cases farAt s i with
      | true => rfl
      | false =>
        cases fmul ((i : Int), 1) s.1 with
        | none => cases c <;> simp
        | some p => cases fadd (val (some p)) s.2[i] <;> cases c <;> simp
    · have : i = s.2.length := by omega
      rw [this, dec_f (by omega), cond_false, Nat.sub_self]
      cases c <;> rfl

theorem unit_bd {u : Fq} (h : unitOk u = true) : Bd u ∧ u.1 > 0 := by
  unfold unitOk at h
  simp only [Bool.and_eq_true, decide_eq_true_eq] at h
  exact ⟨Bd.of h.1, h.2.1⟩

theorem impl_isUnit_is (u : Fq) : impl_isUnit N0 u = r1 (decide (u.1 > 0) && decide (cmpF u (1000, 1) ≤ 0)) := by
  simp only [impl_isUnit, impl_isUnit_t, pr_eta, impl_num_is, impl_compare_is, Option.bind_some]
  cases decide (u.1 > 0) <;> rfl

theorem spec_l02Within_is (u : Fq) : spec_l02Within N0 u 1000 = r1 (unitOk u) := by
  simp only [spec_l02Within, spec_l02Within_t, pr_eta, spec_l01Ok_is, spec_l01Whole_is, spec_l01Cmp_is, Option.bind_some]
  unfold unitOk
  cases vF u with
  | false => rfl
  | true => cases decide (u.1 > 0) <;> rfl

theorem impl_ValidScale_is (s : Sc) (hb : s.2.length ≤ 9223372036854775807) : impl_ValidScale N0 s = r1 (scaleOk s) := by
  have := N0_big
  simp only [impl_ValidScale, impl_ValidScale_t, pr_eta, impl_ValidFrac_is, impl_isUnit_is, impl_within_is, cq_areValid_is _ hb, Option.bind_some]
  unfold scaleOk unitOk
  cases hu : vF s.1 with
  | false => rfl
  | true =>
    cases decide (s.1.1 > 0) && decide (cmpF s.1 (1000, 1) ≤ 0) with
    | false => rfl
    | true =>
      cases hl : btw (s.2.length : Int) 2 60 with
      | false => rfl
      | true =>
        cases ha : s.2.all vF with
        | false => rfl
        | true =>
          have hl := btw_iff.1 hl
          have e := impl_ValidScale_l5_is (Bd.of hu) (all_bd ha) (by omega) N0 0 false (by omega) (by omega)
          rw [Nat.sub_zero, Bool.false_or, Bool.not_not] at e
          exact e

theorem spec_l02Mark_is {s : Sc} (hu : Bd s.1) {i : Nat} (hi : i < s.2.length) (hn : s.2.length ≤ 60) (hx : Bd (s.2.getD i (0, 0))) : spec_l02Mark N0 (i : Int) s = bif mkOk s i then c2 (val (maO s i)) 0 s else c2 (0, 0) 3 s := by
  rw [get_ix hi] at hx
  simp only [spec_l02Mark, spec_l02Mark_t, pr_eta, spec_l01Whole_is, Option.bind_some, nn_t, lt_t hi, Bool.and_self, cond_true, Int.toNat_natCast, get_ix hi]
  rw [spec_l01Mul_is (Bd.num (n := (i : Int)) (by omega)) hu, Option.bind_some]
  dsimp only
  unfold mkOk maO muO
  rw [get_ix hi]
  cases h1 : fmul ((i : Int), 1) s.1 with
  | none => rfl
  | some p =>
    simp only [Option.getD_some, Option.isSome_some, cond_true, show ((0 : Int) != 0) = false from rfl, cond_false]
    rw [spec_l01Add_is (Bd.of (mkF_valid h1)) hx, Option.bind_some]
    dsimp only
    cases fadd p s.2[i] <;> rfl

theorem spec_l02Ok_l4_is {s : Sc} (hu : Bd s.1) (hn : s.2.length ≤ 60) : ∀ (k i : Nat), i ≤ s.2.length → s.2.length - i < k →
    spec_l02Ok_l4 N0 k (i : Int) s.1.1 s.1.2 s.2 = c1 (allUp (fun i => vF (s.2.getD i (0, 0)) && (!farAt s i && mkOk s i)) (s.2.length - i) i) s
  | 0, i, _, hk => by omega
  | k + 1, i, hi, hk => by
    simp only [spec_l02Ok_l4, spec_l02Ok_t4]
    by_cases h : i < s.2.length
    · simp only [lt_t h, nn_t, Bool.and_self, cond_true, Int.toNat_natCast, w_succ (i := i) (by omega), pr_eta, spec_l01Ok_is, Option.bind_some]
      rw [show s.2.length - i = (s.2.length - (i + 1)) + 1 by omega, allUp]
      cases hv : vF (s.2.getD i (0, 0)) with
      | false => rfl
      | true =>
        have hx := Bd.of hv
        have h2 := hx.2
        rw [spec_l01Abs_is N0 (by omega), Option.bind_some]
        dsimp only
        rw [show decide (IntKind.wrap .i64 (IntKind.wrap .i64 (4 * (((s.2.getD i (0, 0)).1.natAbs : Nat) : Int)) * s.1.2) > IntKind.wrap .i64 (s.1.1 * (s.2.getD i (0, 0)).2)) = farAt s i from rfl]
        cases farAt s i with
        | true => rfl
        | false =>
          rw [spec_l02Mark_is hu h hn hx]
          cases mkOk s i with
          | false => rfl
          | true => exact spec_l02Ok_l4_is hu hn k (i + 1) h (by omega)
    · have : i = s.2.length := by omega
      rw [this, dec_f (by omega), cond_false, Nat.sub_self]
      rfl

theorem spec_l02Ok_is (s : Sc) (hb : s.2.length ≤ 9223372036854775807) : spec_l02Ok N0 s = c1 (scaleOk s) s := by
  have := N0_big
  simp only [spec_l02Ok, spec_l02Ok_t, pr_eta, spec_l02Within_is, spec_l00In_is, Option.bind_some]
  unfold scaleOk
  cases hu : unitOk s.1 with
  | false => rfl
  | true =>
    cases hl : btw (s.2.length : Int) 2 60 with
    | false => rfl
    | true =>
      have hl := btw_iff.1 hl
      have e := spec_l02Ok_l4_is (unit_bd hu).1 (by omega) N0 0 (by omega) (by omega)
      rw [Nat.sub_zero, allUp_and3, allUp_all s.2 s.2.length 0 (by omega), List.drop_zero] at e
      exact e

/-- valid arguments -/
def lineOk (s : Sc) (w : Vn) (x : Fq) : Bool := scaleOk s && (btw w.1 2 40 && vF x)

theorem impl_lineCode_is (s : Sc) (w : Vn) (x : Fq) (hb : s.2.length ≤ 9223372036854775807) : impl_lineCode N0 s w x 0 = r1 (bif lineOk s w x then 0 else 1) := by
  simp only [impl_lineCode, impl_lineCode_t, pr_eta, impl_ValidScale_is s hb, impl_ValidVernier, impl_ValidVernier_t, impl_within_is, impl_ValidFrac_is, Option.bind_some]
  unfold lineOk
  cases scaleOk s with
  | false => rfl
  | true =>
    cases hw : btw w.1 2 40 with
    | false => rfl
    | true =>
      have h := btw_iff.1 hw
      rw [w_in (x := w.1 - 1) (by unfold I64; omega), show btw 0 0 (w.1 - 1) = true by rw [btw_iff]; omega]
      cases vF x <;> rfl

theorem spec_l02Asked_is (s : Sc) (w : Vn) (x : Fq) (hb : s.2.length ≤ 9223372036854775807) : spec_l02Asked N0 x s w = d1 (bif lineOk s w x then 0 else 1) s w := by
  simp only [spec_l02Asked, spec_l02Asked_t, pr_eta, spec_l02Ok_is s hb, spec_l02Vernier, spec_l02Vernier_t, spec_l00In_is, spec_l01Ok_is, Option.bind_some]
  unfold lineOk
  cases scaleOk s with
  | false => rfl
  | true =>
    cases btw w.1 2 40 with
    | false => rfl
    | true => cases vF x <;> rfl
end Go.Abs
