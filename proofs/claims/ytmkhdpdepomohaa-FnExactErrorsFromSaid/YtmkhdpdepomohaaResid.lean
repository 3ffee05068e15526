/- Residuals of a table's observations. -/
import Derived.Test.YtmkhdpdepomohaaDErrorsFrom0
import Derived.Test.YtmkhdpdepomohaaPathP
import Derived.Test.YtmkhdpdepomohaaValidTab
import Derived.Test.YtmkhdpdepomohaaFracsL
namespace Go.Abs
set_option linter.unusedSectionVars false
set_option linter.unusedSimpArgs false
set_option linter.unusedVariables false

theorem rs_l04Fracs_l2_is (v : List Fq) (hb : v.length ≤ 9223372036854775807) : ∀ (k i : Nat), i ≤ v.length → v.length - i < k → spec_l04Fracs_l2 N0 k (i : Int) v = r1 ((v.drop i).all vF)
  | 0, i, _, hk => by omega
  | k + 1, i, hi, hk => by
    simp only [spec_l04Fracs_l2, spec_l04Fracs_t2]
    by_cases h : i < v.length
    · simp only [lt_t h, nn_t, Bool.and_self, cond_true, Int.toNat_natCast, get_ix h, w_succ (i := i) (by omega), pr_eta, spec_l01Ok_is, Option.bind_some]
      rw [drop_ix h, List.all_cons]
      cases vF v[i] with
      | true => exact rs_l04Fracs_l2_is v hb k (i + 1) h (by omega)
      | false => rfl
    · have : i = v.length := by omega
      subst this
      simp only [lt_f h, cond_false, List.drop_length]
      rfl

theorem rs_l04Fracs_is (v : List Fq) (hb : v.length ≤ 9223372036854775807) : spec_l04Fracs N0 v = r1 (v.all vF) := by
  have := N0_big
  simp only [spec_l04Fracs, spec_l04Fracs_t]
  exact rs_l04Fracs_l2_is v hb N0 0 (by omega) (by omega)

/-! ### one observation -/
def resG (a : A6) : List Fq → Nat → Fq → Fq × Bool
  | [], _, s => (s, false)
  | x :: r, j, s => bif at6 a j == 0 then resG a r (j + 1) s
    else ((resG a r (j + 1) (val (fsub s (val (fmul (at6 a j, 1) x))))).1, (fmul (at6 a j, 1) x).isNone || ((fsub s (val (fmul (at6 a j, 1) x))).isNone || (resG a r (j + 1) (val (fsub s (val (fmul (at6 a j, 1) x))))).2))

theorem resG_bd (a : A6) : ∀ (l : List Fq) (j : Nat) (s : Fq), Bd s → Bd (resG a l j s).1
  | [], _, s, h => h
  | x :: r, j, s, h => by
    rw [resG]
    cases at6 a j == 0 with
    | true => exact resG_bd a r (j + 1) s h
    | false => exact resG_bd a r (j + 1) _ Bd.sub

/-- coefficients that are small -/
def Small6 (a : A6) : Prop := ∀ j, j < 6 → -3 ≤ at6 a j ∧ at6 a j ≤ 3

theorem spec_l04Less_is {a b c : Fq} (ha : Bd a) (hb : Bd b) (hc : Bd c) : spec_l04Less N0 a b c = bif (fmul b c).isNone || (fsub a (val (fmul b c))).isNone then r2 (0, 0) 3 else r2 (val (fsub a (val (fmul b c)))) 0 := by
  simp only [spec_l04Less, spec_l04Less_t, pr_eta, spec_l01Mul_is hb hc, Option.bind_some]
  cases h : fmul b c with
  | none => rfl
  | some e =>
    have he : Bd e := Bd.of (mkF_valid h)
    simp only [Option.getD_some, spec_l01Sub_is ha he, Option.bind_some]
    cases fsub a e <;> rfl

section
variable {x : List Fq} (hx : ∀ y ∈ x, Bd y) (hl : x.length ≤ 6)
include hx hl

theorem impl_res_l7_is (G : Int → List Fq → List Ob → Int → Bool → List Fq → Option (((List Fq × Unit) × Unit) × (Bool × Unit))) {o : Ob} (ho : Small6 o.1) (obs : List Ob) (m i : Int) (b : List Fq) (hb : b.length ≤ 1000) :
    ∀ (k j : Nat) (c : Bool) (s : Fq), j ≤ x.length → x.length - j < k → Bd s →
    impl_calc_residuals_l7 N0 G k (j : Int) x x obs m i (x.length : Int) c s.1 s.2 o.1.1 o.1.2.1 o.1.2.2.1 o.1.2.2.2.1 o.1.2.2.2.2.1 o.1.2.2.2.2.2 o.2.1.1 o.2.1.2 o.2.2 b
      = G (IntKind.wrap .i64 (i + 1)) x obs m (c || (resG o.1 (x.drop j) j s).2) (b ++ [(resG o.1 (x.drop j) j s).1])
  | 0, j, c, s, _, hk, _ => by omega
  | k + 1, j, c, s, hj, hk, hs => by
    simp only [impl_calc_residuals_l7, impl_calc_residuals_t7]
    by_cases h : j < x.length
    · have hlt : decide ((j : Int) < 6) = true := dec_t (by omega)
      have hq := ho j (by omega)
      have ih := fun c s hs => impl_res_l7_is G ho obs m i b hb k (j + 1) c s h (by omega) hs
      simp only [lt_t h, hlt, nn_t, Bool.and_self, cond_true, Int.toNat_natCast, get_ix h, w_succ (i := j) (by omega), pr_eta]
      change (bif at6 o.1 j != 0 then ((impl_num N0 (IntKind.wrap .i64 (at6 o.1 j))).bind fun r0 => (impl_calc_mul N0 r0.1.1.1 x[j] c).bind fun r1 => (impl_calc_sub N0 s r1.1.1.1 r1.2.1).bind fun r2 =>
          impl_calc_residuals_l7 N0 G k ((j + 1 : Nat) : Int) x x obs m i (x.length : Int) r2.2.1 r2.1.1.1.1 r2.1.1.1.2 o.1.1 o.1.2.1 o.1.2.2.1 o.1.2.2.2.1 o.1.2.2.2.2.1 o.1.2.2.2.2.2 o.2.1.1 o.2.1.2 o.2.2 b)
        else impl_calc_residuals_l7 N0 G k ((j + 1 : Nat) : Int) x x obs m i (x.length : Int) c s.1 s.2 o.1.1 o.1.2.1 o.1.2.2.1 o.1.2.2.2.1 o.1.2.2.2.2.1 o.1.2.2.2.2.2 o.2.1.1 o.2.1.2 o.2.2 b) = _
      rw [drop_ix h, resG]
      by_cases h0 : at6 o.1 j = 0
      · rw [ne_f h0, eq_t h0, cond_false, cond_true]
        exact ih c s hs
      · rw [ne_true h0, eq_f h0, cond_true, cond_false, w_in (by unfold I64; omega), impl_num_is, Option.bind_some]
        dsimp only
        rw [impl_calc_mul_is (Bd.num (by omega)) (hx _ (List.getElem_mem h)), Option.bind_some]
        dsimp only
        rw [impl_calc_sub_is hs Bd.mul, Option.bind_some]
        dsimp only
        rw [ih _ _ Bd.sub]
        simp only [Bool.or_assoc]
    · have : j = x.length := by omega
      subst this
      have hr : decide ((b.length + ((s.1, s.2) :: []).length) * 17 ≤ 70368744177664) = true := dec_t (by simp only [List.length_cons, List.length_nil]; omega)
      simp only [lt_f h, cond_false, hr, cond_true, List.drop_length, resG, Bool.or_false, pr_eta]

theorem spec_res_l3_is {o : Ob} (ho : Small6 o.1) (z : Fq) : ∀ (k j : Nat) (s : Fq), j ≤ x.length → x.length - j < k → Bd s →
    spec_l04Residual_e_l3 N0 k (j : Int) x o z.1 z.2 s.1 s.2 = bif (resG o.1 (x.drop j) j s).2 then r2 (0, 0) 3 else r2 (resG o.1 (x.drop j) j s).1 0
  | 0, j, s, _, hk, _ => by omega
  | k + 1, j, s, hj, hk, hs => by
    simp only [spec_l04Residual_e_l3, spec_l04Residual_e_t3]
    by_cases h : j < x.length
    · have hlt : decide ((j : Int) < 6) = true := dec_t (by omega)
      have hq := ho j (by omega)
      have ih := fun s hs => spec_res_l3_is ho z k (j + 1) s h (by omega) hs
      simp only [lt_t h, hlt, nn_t, Bool.and_self, cond_true, Int.toNat_natCast, get_ix h, w_succ (i := j) (by omega), pr_eta]
      change (bif at6 o.1 j == 0 then spec_l04Residual_e_l3 N0 k ((j + 1 : Nat) : Int) x o z.1 z.2 s.1 s.2 else ((spec_l01Whole N0 (IntKind.wrap .i64 (at6 o.1 j))).bind fun r0 => (spec_l04Less N0 s r0.1.1.1 x[j]).bind fun r1 =>
          bif r1.1.2.1.1 != 0 then r2 (0, 0) r1.1.2.1.1 else spec_l04Residual_e_l3 N0 k ((j + 1 : Nat) : Int) x o z.1 z.2 r1.1.1.1.1 r1.1.1.1.2)) = _
      rw [drop_ix h, resG]
      by_cases h0 : at6 o.1 j = 0
      · rw [eq_t h0, cond_true, cond_true]
        exact ih s hs
      · rw [eq_f h0, cond_false, cond_false, w_in (by unfold I64; omega), spec_l01Whole_is, Option.bind_some]
        dsimp only
        rw [spec_l04Less_is hs (Bd.num (by omega)) (hx _ (List.getElem_mem h)), ← Bool.or_assoc]
        have ih := ih (val (fsub s (val (fmul (at6 o.1 j, 1) x[j])))) Bd.sub
        cases ((fmul (at6 o.1 j, 1) x[j]).isNone || (fsub s (val (fmul (at6 o.1 j, 1) x[j]))).isNone) with
        | true => rfl
        | false => exact ih
    · have : j = x.length := by omega
      subst this
      simp only [lt_f h, cond_false, List.drop_length, resG]

theorem spec_l04Residual_e_is {o : Ob} (ho : Small6 o.1) (hv : Bd o.2.1) : spec_l04Residual_e N0 o x = bif (resG o.1 x 0 o.2.1).2 then r2 (0, 0) 3 else r2 (resG o.1 x 0 o.2.1).1 0 := by
  have := N0_big
  simp only [spec_l04Residual_e, spec_l04Residual_e_t]
  exact spec_res_l3_is hx hl ho (0, 0) N0 0 o.2.1 (by omega) (by omega) hv
end

/-! ### all observations -/
def allG (x : List Fq) : List Ob → List Fq × Bool
  | [] => ([], false)
  | o :: r => ((resG o.1 x 0 o.2.1).1 :: (allG x r).1, (resG o.1 x 0 o.2.1).2 || (allG x r).2)

theorem allG_len (x : List Fq) : ∀ l : List Ob, (allG x l).1.length = l.length
  | [] => rfl
  | o :: r => by simp [allG, allG_len x r]

theorem allG_bd (x : List Fq) : ∀ l : List Ob, (∀ o ∈ l, Bd o.2.1) → ∀ y ∈ (allG x l).1, Bd y
  | [], _, y, hy => by simp [allG] at hy
  | o :: r, h, y, hy => by
    rw [allG] at hy
    rcases List.mem_cons.1 hy with e | hy
    · rw [e]; exact resG_bd _ _ _ _ (h o (by simp))
    · exact allG_bd x r (fun o ho => h o (by simp [ho])) y hy

section
variable {x : List Fq} (hx : ∀ y ∈ x, Bd y) (hl : x.length ≤ 6) {obs : List Ob} (ho : ∀ o ∈ obs, Small6 o.1 ∧ Bd o.2.1) (hn : obs.length ≤ 24)
include hx hl ho hn

theorem impl_res_l3_is : ∀ (k i : Nat) (c : Bool) (b : List Fq), i ≤ obs.length → b.length ≤ i → obs.length - i < k →
    impl_calc_residuals_l3 N0 k (i : Int) x obs (obs.length : Int) c b = c1 (b ++ (allG x (obs.drop i)).1) (c || (allG x (obs.drop i)).2)
  | 0, i, c, b, _, _, hk => by omega
  | k + 1, i, c, b, hi, hb, hk => by
    have hN := N0_big
    simp only [impl_calc_residuals_l3, impl_calc_residuals_t3]
    by_cases h : i < obs.length
    · have h1 := ho _ (List.getElem_mem h)
      have h7 := impl_res_l7_is hx hl (impl_calc_residuals_l3 N0 k) h1.1 obs (obs.length : Int) (i : Int) b (by omega) N0 0 c obs[i].2.1 (by omega) (by omega) h1.2
      simp only [lt_t h, nn_t, Bool.and_self, cond_true, Int.toNat_natCast, get_ix h]
      refine Eq.trans h7 ?_
      rw [w_succ (i := i) (by omega), impl_res_l3_is k (i + 1) _ _ h (by simp; omega) (by omega), drop_ix h, allG, List.drop_zero, List.append_assoc, Bool.or_assoc]
      rfl
    · have : i = obs.length := by omega
      subst this
      simp only [lt_f h, cond_false, List.drop_length, allG, Bool.or_false, List.append_nil]

theorem spec_res_l6_is (n : Int) (hb : Bool) (q : Fq) : ∀ (k i : Nat) (b : List Fq), i ≤ obs.length → b.length ≤ i → obs.length - i < k →
    spec_ResidualsOf_l6 N0 k (i : Int) x b n obs hb q.1 q.2 = bif (allG x (obs.drop i)).2 then r2 [] 3 else r2 (b ++ (allG x (obs.drop i)).1) 0
  | 0, i, b, _, _, hk => by omega
  | k + 1, i, b, hi, hbl, hk => by
    simp only [spec_ResidualsOf_l6, spec_ResidualsOf_t6]
    by_cases h : i < obs.length
    · have h1 := ho _ (List.getElem_mem h)
      simp only [lt_t h, nn_t, Bool.and_self, cond_true, Int.toNat_natCast, get_ix h, w_succ (i := i) (by omega), pr_eta, spec_l04Residual_e_is hx hl h1.1 h1.2]
      rw [drop_ix h, allG]
      cases (resG obs[i].1 x 0 obs[i].2.1).2 with
      | true => rfl
      | false =>
        have hr : decide ((b.length + ((resG obs[i].1 x 0 obs[i].2.1).1 :: []).length) * 17 ≤ 70368744177664) = true := dec_t (by simp only [List.length_cons, List.length_nil]; omega)
        simp only [cond_false, Option.bind_some, show ((0 : Int) != 0) = false from rfl, hr, cond_true, Bool.false_or]
        rw [spec_res_l6_is n hb q k (i + 1) _ h (by simp; omega) (by omega), List.append_assoc]
        rfl
    · have : i = obs.length := by omega
      subst this
      simp only [lt_f h, cond_false, List.drop_length, allG, List.append_nil]
end

/-! ### residuals -/
abbrev askC (t : Tb) (x : List Fq) : Int := bif tabOk t then (bif x.all vF then (bif (x.length : Int) != t.1 then 2 else 0) else 1) else 1

theorem impl_answerCode_is (t : Tb) (x : List Fq) (hb : t.2.1.length ≤ 9223372036854775807) (hf : ∀ o ∈ t.2.1, Fit6 o.1) (hx : x.length ≤ 9223372036854775807) : impl_answerCode N0 t x = r1 (askC t x) := by
  simp only [impl_answerCode, impl_answerCode_t, pr_eta, impl_ValidTable_is t hb hf, cq_areValid_is x hx, Option.bind_some]
  unfold askC
  cases tabOk t with
  | false => rfl
  | true =>
    cases x.all vF with
    | false => rfl
    | true => cases (x.length : Int) != t.1 <;> rfl

theorem spec_l04Asked_is (t : Tb) (x : List Fq) (hb : t.2.1.length ≤ 9223372036854775807) (hx : x.length ≤ 9223372036854775807) : spec_l04Asked N0 x t = c1 (askC t x) t := by
  simp only [spec_l04Asked, spec_l04Asked_t, pr_eta, spec_l04Ok_is t hb, rs_l04Fracs_is x hx, Option.bind_some]
  unfold askC
  cases tabOk t with
  | false => rfl
  | true =>
    cases x.all vF with
    | false => rfl
    | true => cases (x.length : Int) != t.1 <;> rfl

theorem ask_ok {t : Tb} {x : List Fq} (h : askC t x = 0) : (∀ y ∈ x, Bd y) ∧ x.length ≤ 6 ∧ (∀ o ∈ t.2.1, (Small6 o.1 ∧ Bd o.2.1) ∧ (1 ≤ o.2.2 ∧ o.2.2 ≤ 100)) ∧ t.2.1.length ≤ 24 := by
  unfold askC at h
  cases h1 : tabOk t with
  | false => rw [h1] at h; cases h
  | true =>
    cases h2 : x.all vF with
    | false => rw [h1, h2] at h; cases h
    | true =>
      by_cases h3 : (x.length : Int) = t.1
      · unfold tabOk at h1
        simp only [Bool.and_eq_true, btw_iff, List.all_eq_true, decide_eq_true_eq] at h1
        refine ⟨all_bd h2, by omega, fun o ho => ?_, h1.2.1⟩
        have ho := h1.2.2.2.2 o ho
        unfold obOk obTail at ho
        simp only [Bool.and_eq_true, btw_iff] at ho
        refine ⟨⟨fun j hj => ?_, Bd.of ho.2.2.1⟩, ho.2.2.2⟩
        have hj := allUp_at ho.1 j (by omega) (by omega)
        unfold coefAt at hj
        rw [Bool.and_eq_true, btw_iff] at hj
        exact hj.1
      · rw [h1, h2, ne_true h3] at h; cases h

abbrev resRes (t : Tb) (x : List Fq) : Option (((List Fq × Unit) × ((Int × Unit) × Unit)) × Unit) :=
  bif askC t x != 0 then r2 [] (askC t x) else bif (allG x t.2.1).2 then r2 [] 3 else r2 (allG x t.2.1).1 0

theorem impl_residuals_is {t : Tb} {x : List Fq} (h : askC t x = 0) : impl_calc_residuals N0 t x false = c1 (allG x t.2.1).1 (allG x t.2.1).2 := by
  have := N0_big
  obtain ⟨h1, h2, h3, h4⟩ := ask_ok h
  have e := impl_res_l3_is h1 h2 (fun o ho => (h3 o ho).1) h4 N0 0 false [] (by omega) (by simp) (by omega)
  simp only [impl_calc_residuals, impl_calc_residuals_t]
  refine Eq.trans e ?_
  rw [List.drop_zero, List.nil_append, Bool.false_or]

theorem impl_ResidualsOf_is (t : Tb) (x : List Fq) (hb : t.2.1.length ≤ 9223372036854775807) (hf : ∀ o ∈ t.2.1, Fit6 o.1) (hx : x.length ≤ 9223372036854775807) : impl_ResidualsOf N0 t x = resRes t x := by
  simp only [impl_ResidualsOf, impl_ResidualsOf_t, pr_eta, impl_answerCode_is t x hb hf hx, Option.bind_some]
  unfold resRes
  by_cases h : askC t x = 0
  · rw [ne_f h, cond_false, cond_false, impl_residuals_is h, Option.bind_some]
  · rw [ne_true h]; rfl

theorem spec_ResidualsOf_is (t : Tb) (x : List Fq) (hb : t.2.1.length ≤ 9223372036854775807) (hx : x.length ≤ 9223372036854775807) : spec_ResidualsOf N0 t x = resRes t x := by
  have := N0_big
  simp only [spec_ResidualsOf, spec_ResidualsOf_t, pr_eta, spec_l04Asked_is t x hb hx, Option.bind_some]
  unfold resRes
  by_cases h : askC t x = 0
  · obtain ⟨h1, h2, h3, h4⟩ := ask_ok h
    have e := spec_res_l6_is h1 h2 (fun o ho => (h3 o ho).1) h4 t.1 t.2.2.1 t.2.2.2 N0 0 [] (by omega) (by simp) (by omega)
    rw [ne_f h, cond_false, cond_false]
    refine Eq.trans e ?_
    rw [List.drop_zero, List.nil_append]
  · rw [ne_true h]; rfl
end Go.Abs
