/- A scale of errors that are added. -/
import Derived.Test.YtmkhdpdepomohaaIntvP
namespace Go.Abs
set_option linter.unusedSectionVars false
set_option linter.unusedSimpArgs false
set_option linter.unusedVariables false

theorem spec_l02Mark_e_is {s : Sc} (hu : Bd s.1) {i : Nat} (hi : i < s.2.length) (hn : s.2.length ≤ 60) (hx : Bd (s.2.getD i (0, 0))) : spec_l02Mark_e N0 s (i : Int) = bif mkOk s i then r2 (val (maO s i)) 0 else r2 (0, 0) 3 := by
  rw [get_ix hi] at hx
  simp only [spec_l02Mark_e, spec_l02Mark_e_t, pr_eta, spec_l01Whole_is, Option.bind_some, nn_t, lt_t hi, Bool.and_self, cond_true, Int.toNat_natCast, get_ix hi]
  rw [spec_l01Mul_is (Bd.num (n := (i : Int)) (by omega)) hu, Option.bind_some]
  dsimp only
  unfold mkOk maO muO
  rw [get_ix hi]
  cases h1 : fmul ((i : Int), 1) s.1 with
  | none => rfl
  | some p =>
    simp only [Option.getD_some, Option.isSome_some, cond_true, show ((0 : Int) != 0) = false from rfl, cond_false]
    rw [spec_l01Add_is (Bd.of (mkF_valid h1)) hx, Option.bind_some]
    dsimp only
    cases fadd p s.2[i] <;> rfl

theorem spec_l02Ok_e_l4_is {s : Sc} (hu : Bd s.1) (hn : s.2.length ≤ 60) : ∀ (k i : Nat), i ≤ s.2.length → s.2.length - i < k →
    spec_l02Ok_e_l4 N0 k (i : Int) s = r1 (allUp (fun i => vF (s.2.getD i (0, 0)) && (!farAt s i && mkOk s i)) (s.2.length - i) i)
  | 0, i, _, hk => by omega
  | k + 1, i, hi, hk => by
    simp only [spec_l02Ok_e_l4, spec_l02Ok_e_t4]
    by_cases h : i < s.2.length
    · simp only [lt_t h, nn_t, Bool.and_self, cond_true, Int.toNat_natCast, w_succ (i := i) (by omega), pr_eta, spec_l01Ok_is, Option.bind_some]
      rw [show s.2.length - i = (s.2.length - (i + 1)) + 1 by omega, allUp]
      cases hv : vF (s.2.getD i (0, 0)) with
      | false => rfl
      | true =>
        have hx := Bd.of hv
        have h2 := hx.2
        rw [spec_l01Abs_is N0 (by omega), Option.bind_some]
        dsimp only
        rw [show decide (IntKind.wrap .i64 (IntKind.wrap .i64 (4 * (((s.2.getD i (0, 0)).1.natAbs : Nat) : Int)) * s.1.2) > IntKind.wrap .i64 (s.1.1 * (s.2.getD i (0, 0)).2)) = farAt s i from rfl]
        cases farAt s i with
        | true => rfl
        | false =>
          rw [spec_l02Mark_e_is hu h hn hx]
          cases mkOk s i with
          | false => rfl
          | true => exact spec_l02Ok_e_l4_is hu hn k (i + 1) h (by omega)
    · have : i = s.2.length := by omega
      rw [this, dec_f (by omega), cond_false, Nat.sub_self]
      rfl

theorem spec_l02Ok_e_is (s : Sc) (hb : s.2.length ≤ 9223372036854775807) : spec_l02Ok_e N0 s = r1 (scaleOk s) := by
  have := N0_big
  simp only [spec_l02Ok_e, spec_l02Ok_e_t, pr_eta, spec_l02Within_is, spec_l00In_is, Option.bind_some]
  unfold scaleOk
  cases hu : unitOk s.1 with
  | false => rfl
  | true =>
    cases hl : btw (s.2.length : Int) 2 60 with
    | false => rfl
    | true =>
      have hl := btw_iff.1 hl
      have e := spec_l02Ok_e_l4_is (unit_bd hu).1 (by omega) N0 0 (by omega) (by omega)
      rw [Nat.sub_zero, allUp_and3, allUp_all s.2 s.2.length 0 (by omega), List.drop_zero] at e
      exact e

/-! ### numbers that are added -/
def fromG (L : List Fq) : Nat → Nat → Fq → List Fq × Bool
  | 0, _, _ => ([], false)
  | k + 1, i, a => (val (fadd a (L.getD i (0, 0))) :: (fromG L k (i + 1) (val (fadd a (L.getD i (0, 0))))).1, (fadd a (L.getD i (0, 0))).isNone || (fromG L k (i + 1) (val (fadd a (L.getD i (0, 0))))).2)

theorem fromG_len (L : List Fq) : ∀ k i a, (fromG L k i a).1.length = k
  | 0, i, a => rfl
  | k + 1, i, a => by rw [fromG, List.length_cons, fromG_len L k]

theorem getD_last {α : Type} {b : List α} {y d : α} {j : Nat} (h : b.length = j) : (b ++ [y]).getD j d = y := by
  subst h; simp [List.getD]

abbrev sc0 : Sc := ((0, 0), [])
abbrev rS (s : Sc) (c : Int) : Option ((((Int × Int) × (List (Int × Int) × Unit)) × ((Int × Unit) × Unit)) × Unit) := some (((s.1, (s.2, ())), ((c, ()), ())), ())

section
variable {L : List Fq} {n : Nat} (hn : L.length = n) (hs : n ≤ 1000) (hL : ∀ y ∈ L, Bd y)
include hn hs hL

theorem impl_from_l3_is : ∀ (k i : Nat) (c : Bool) (b : List Fq) (a : Fq), i ≤ n → n - i < k → b.length = i + 1 → b.getD i (0, 0) = a → Bd a →
    impl_calc_from_l3 N0 k (i : Int) L (n : Int) c b = c1 (b ++ (fromG L (n - i) i a).1) (c || (fromG L (n - i) i a).2)
  | 0, i, c, b, a, _, hk, _, _, _ => by omega
  | k + 1, i, c, b, a, hi, hk, hb, ha, hbd => by
    simp only [impl_calc_from_l3, impl_calc_from_t3]
    by_cases h : i < n
    · have hr (x : Fq) : decide ((b.length + (x :: []).length) * 17 ≤ 70368744177664) = true := dec_t (by simp only [List.length_cons, List.length_nil]; omega)
      simp only [lt_t h, nn_t, hn, lt_t (i := i) (m := b.length) (by omega), Bool.and_self, cond_true, Int.toNat_natCast, w_succ (i := i) (by omega), pr_eta, ha, impl_calc_add_is hbd (bd_at hL (i := i) (by omega)), Option.bind_some, hr]
      rw [impl_from_l3_is k (i + 1) _ _ _ h (by omega) (by simp [hb]) (getD_last hb) Bd.add, show n - i = (n - (i + 1)) + 1 by omega, fromG, List.append_assoc, Bool.or_assoc]
      rfl
    · have : i = n := by omega
      subst this
      simp only [lt_f h, cond_false, Nat.sub_self, fromG, List.append_nil, Bool.or_false]

theorem impl_from_is (a : Fq) (ha : Bd a) : impl_calc_from N0 a L false = c1 (a :: (fromG L n 0 a).1) (fromG L n 0 a).2 := by
  have := N0_big
  simp only [impl_calc_from, impl_calc_from_t, hn, pr_eta]
  have e := impl_from_l3_is hn hs hL N0 0 false [a] a (by omega) (by omega) rfl rfl ha
  rw [Nat.sub_zero, Bool.false_or] at e
  exact e

theorem spec_from_l7_is (u z : Fq) : ∀ (k i : Nat) (b : List Fq) (a : Fq), i ≤ n → n - i < k → b.length = i + 1 → b.getD i (0, 0) = a → Bd a →
    spec_ErrorsFrom_l7 N0 k (i : Int) L z.1 z.2 u.1 u.2 b = bif (fromG L (n - i) i a).2 then r2 sc0 3 else bif scaleOk (u, b ++ (fromG L (n - i) i a).1) then r2 (u, b ++ (fromG L (n - i) i a).1) 0 else r2 sc0 4
  | 0, i, b, a, _, hk, _, _, _ => by omega
  | k + 1, i, b, a, hi, hk, hb, ha, hbd => by
    simp only [spec_ErrorsFrom_l7, spec_ErrorsFrom_t7]
    by_cases h : i < n
    · have hr (x : Fq) : decide ((b.length + (x :: []).length) * 17 ≤ 70368744177664) = true := dec_t (by simp only [List.length_cons, List.length_nil]; omega)
      simp only [nn_t, hn, lt_t h, lt_t (i := i) (m := b.length) (by omega), Bool.and_self, cond_true, Int.toNat_natCast, w_succ (i := i) (by omega), pr_eta, ha, spec_l01Add_is hbd (bd_at hL (i := i) (by omega)), Option.bind_some]
      rw [show n - i = (n - (i + 1)) + 1 by omega, fromG]
      cases hd : fadd a (L.getD i (0, 0)) with
      | none => rfl
      | some q =>
        have hq : Bd q := Bd.of (mkF_valid hd)
        have ih := spec_from_l7_is u z k (i + 1) (b ++ [q]) q h (by omega) (by simp [hb]) (getD_last hb) hq
        simp only [Option.isSome_some, cond_true, bne_self_eq_false, cond_false, Option.getD_some, hr, Option.isNone_some, Bool.false_or]
        refine ih.trans ?_
        rw [List.append_assoc]
        rfl
    · have : i = n := by omega
      subst this
      simp only [hn, lt_f h, cond_false, Nat.sub_self, fromG, List.append_nil, pr_eta, spec_l02Ok_e_is (u, b) (by simp only; omega), Option.bind_some]
      cases scaleOk (u, b) <;> rfl
end

/-- the scale, its code -/
def errT (u a : Fq) (L : List Fq) : Sc × Int :=
  bif vF u && vF a then (bif L.all vF then (bif btw (L.length : Int) 1 59 then (bif (fromG L L.length 0 a).2 then (sc0, 3) else bif scaleOk (u, a :: (fromG L L.length 0 a).1) then ((u, a :: (fromG L L.length 0 a).1), 0) else (sc0, 4)) else (sc0, 2)) else (sc0, 1)) else (sc0, 1)

theorem errT_len (u a : Fq) (L : List Fq) : (errT u a L).1.2.length ≤ 1048576 := by
  unfold errT
  cases vF u && vF a with
  | false => simp
  | true =>
    cases L.all vF with
    | false => simp
    | true =>
      cases h : btw (L.length : Int) 1 59 with
      | false => simp
      | true =>
        rw [btw_iff] at h
        cases (fromG L L.length 0 a).2 with
        | true => simp
        | false =>
          cases scaleOk (u, a :: (fromG L L.length 0 a).1) with
          | false => simp
          | true =>
            simp only [cond_true, cond_false, List.length_cons, fromG_len]
            omega

theorem impl_ErrorsFrom_is (u a : Fq) (L : List Fq) (hb : L.length ≤ 9223372036854775807) : impl_ErrorsFrom N0 u a L = rS (errT u a L).1 (errT u a L).2 := by
  have := N0_big
  simp only [impl_ErrorsFrom, impl_ErrorsFrom_t, pr_eta, cq_areValid_is (u :: a :: []) (by simp), cq_areValid_is L hb, Option.bind_some, List.all_cons, List.all_nil, Bool.and_true]
  unfold errT
  cases hua : vF u && vF a with
  | false => rfl
  | true =>
    rw [Bool.and_eq_true] at hua
    cases hL : L.all vF with
    | false => rfl
    | true =>
      by_cases h : 1 ≤ (L.length : Int)
      · by_cases h' : (L.length : Int) ≤ 59
        · rw [dec_f (p := (L.length : Int) < 1) (by omega), dec_f (p := (L.length : Int) > 59) (by omega), show btw (L.length : Int) 1 59 = true from btw_iff.2 ⟨h, h'⟩]
          simp only [Bool.not_true, cond_false, cond_true]
          rw [impl_from_is rfl (by omega) (all_bd hL) a (Bd.of hua.2), Option.bind_some]
          dsimp only
          cases (fromG L L.length 0 a).2 with
          | true => rfl
          | false =>
            rw [cond_false, cond_false, impl_ValidScale_is _ (by simp only [List.length_cons, fromG_len]; omega), Option.bind_some]
            dsimp only
            cases scaleOk (u, a :: (fromG L L.length 0 a).1) <;> rfl
        · rw [dec_f (p := (L.length : Int) < 1) (by omega), dec_t (p := (L.length : Int) > 59) (by omega), show btw (L.length : Int) 1 59 = false by unfold btw; rw [dec_f h', Bool.and_false]]
          rfl
      · rw [dec_t (p := (L.length : Int) < 1) (by omega), show btw (L.length : Int) 1 59 = false by unfold btw; rw [dec_f h, Bool.false_and]]
        rfl

theorem spec_ErrorsFrom_is (u a : Fq) (L : List Fq) (hb : L.length ≤ 9223372036854775807) : spec_ErrorsFrom N0 u a L = r2 (errT u a L).1 (errT u a L).2 := by
  have := N0_big
  simp only [spec_ErrorsFrom, spec_ErrorsFrom_t, pr_eta, rs_l04Fracs_is L hb, Option.bind_some, spec_l01Ok_is, spec_l00In_is]
  unfold errT
  cases hu : vF u with
  | false => rfl
  | true =>
    cases ha : vF a with
    | false => rfl
    | true =>
      cases hL : L.all vF with
      | false => rfl
      | true =>
        cases h : btw (L.length : Int) 1 59 with
        | false => rfl
        | true =>
          have h2 := btw_iff.1 h
          have e := spec_from_l7_is rfl (by omega) (all_bd hL) u (0, 0) N0 0 [a] a (by omega) (by omega) rfl rfl (Bd.of ha)
          rw [Nat.sub_zero] at e
          refine e.trans ?_
          simp only [Bool.and_self, cond_true, List.singleton_append]
          cases (fromG L L.length 0 a).2 with
          | true => rfl
          | false => cases scaleOk (u, a :: (fromG L L.length 0 a).1) <;> rfl
end Go.Abs
