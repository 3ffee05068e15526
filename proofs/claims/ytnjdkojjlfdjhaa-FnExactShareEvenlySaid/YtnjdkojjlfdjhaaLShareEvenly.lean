/- The plain law of ShareEvenly. -/
import Derived.Test.YtnjdkojjlfdjhaaCalc
import Derived.Test.YtnjdkojjlfdjhaaFracsL
import Derived.Test.YtnjdkojjlfdjhaaTrod
namespace Go.Abs
set_option linter.unusedSectionVars false
set_option linter.unusedSimpArgs false
set_option linter.unusedVariables false

theorem spec_l04Fracs_l2_is (v : List Fq) (hb : v.length ≤ 9223372036854775807) : ∀ (k i : Nat), i ≤ v.length → v.length - i < k → spec_l04Fracs_l2 N0 k (i : Int) v = r1 ((v.drop i).all vF)
  | 0, i, _, hk => by omega
  | k + 1, i, hi, hk => by
    simp only [spec_l04Fracs_l2, spec_l04Fracs_t2]
    by_cases h : i < v.length
    · simp only [lt_t h, nn_t, Bool.and_self, cond_true, Int.toNat_natCast, get_ix h, w_succ (i := i) (by omega), pr_eta, spec_l01Ok_is, Option.bind_some]
      rw [drop_ix h, List.all_cons]
      cases vF v[i] with
      | true => exact spec_l04Fracs_l2_is v hb k (i + 1) h (by omega)
      | false => rfl
    · have : i = v.length := by omega
      subst this
      simp only [lt_f h, cond_false, List.drop_length]
      rfl

theorem spec_l04Fracs_is (v : List Fq) (hb : v.length ≤ 9223372036854775807) : spec_l04Fracs N0 v = r1 (v.all vF) := by
  have := N0_big
  simp only [spec_l04Fracs, spec_l04Fracs_t]
  exact spec_l04Fracs_l2_is v hb N0 0 (by omega) (by omega)

theorem impl_isSome_is (l : List Fq) (hb : l.length ≤ 9223372036854775807) : impl_isSome N0 l = r1 (bif l.all vF then (bif btw (l.length : Int) 1 64 then 0 else 2) else 1) := by
  simp only [impl_isSome, impl_isSome_t, cq_areValid_is l hb, Option.bind_some]
  cases l.all vF with
  | false => rfl
  | true =>
    by_cases h0 : l.length = 0
    · rw [eq_t (by omega), show btw (l.length : Int) 1 64 = false by rw [h0]; rfl]; rfl
    · rw [eq_f (by omega)]
      by_cases h64 : l.length ≤ 64
      · rw [gt_f (by omega), show btw (l.length : Int) 1 64 = true by rw [btw_iff]; omega]; rfl
      · rw [gt_t (by omega), show btw (l.length : Int) 1 64 = false by cases hc : btw (l.length : Int) 1 64; rfl; rw [btw_iff] at hc; omega]; rfl

/-- all less q, if all is valid -/
def lessO (q : Fq) : List Fq → Option (List Fq)
  | [] => some []
  | x :: r => match fsub x q with
    | some y => (match lessO q r with
      | some l => some (y :: l)
      | none => none)
    | none => none

def lessF (q : Fq) (l : List Fq) : Bool := l.any fun x => (fsub x q).isNone

theorem lessO_eq (q : Fq) : ∀ l : List Fq, lessO q l = bif lessF q l then none else some (l.map fun x => val (fsub x q))
  | [] => rfl
  | x :: r => by
    rw [lessO, lessF, List.any_cons, lessO_eq q r]
    cases h : fsub x q with
    | none => rfl
    | some y =>
      change _ = bif lessF q r then none else _
      cases lessF q r with
      | true => rfl
      | false => simp [h]

/-- the shares, if all is valid -/
def evenO (l : List Fq) (t : Fq) : Option (List Fq) :=
  match fsum (0, 1) l with
  | some s => (match fsub s t with
    | some d => (match fdiv d ((l.length : Int), 1) with
      | some q => lessO q l
      | none => none)
    | none => none)
  | none => none

abbrev evenRes (l : List Fq) (t : Fq) : Option (((List Fq × Unit) × ((Int × Unit) × Unit)) × Unit) :=
  bif l.all vF && vF t then (bif btw (l.length : Int) 1 64 then (match evenO l t with | some o => r2 o 0 | none => r2 [] 3) else r2 [] 2) else r2 [] 1

section
variable {l : List Fq} (hl : ∀ x ∈ l, Bd x) (hm : l.length ≤ 64) {q : Fq} (hq : Bd q)
include hl hm hq

theorem spec_ShareEvenly_l16_is : ∀ (k i : Nat) (b : List Fq), i ≤ l.length → b.length ≤ i → l.length - i < k →
    spec_ShareEvenly_l16 N0 k (i : Int) l b q.1 q.2 = match lessO q (l.drop i) with | some o => r2 (b ++ o) 0 | none => r2 [] 3
  | 0, i, b, _, _, hk => by omega
  | k + 1, i, b, hi, hbl, hk => by
    simp only [spec_ShareEvenly_l16, spec_ShareEvenly_t16]
    by_cases h : i < l.length
    · simp only [lt_t h, nn_t, Bool.and_self, cond_true, Int.toNat_natCast, get_ix h, w_succ (i := i) (by omega), pr_eta, spec_l01Sub_is (hl _ (List.getElem_mem h)) hq, Option.bind_some, List.length_singleton, room_t (k := b.length + 1) (c := 17) (by omega)]
      rw [drop_ix h, lessO]
      cases h1 : fsub l[i] q with
      | none => rfl
      | some y =>
        simp only [Option.isSome_some, cond_true, Option.getD_some, bne_self_eq_false, cond_false]
        rw [spec_ShareEvenly_l16_is k (i + 1) _ h (by simp; omega) (by omega)]
        cases lessO q (l.drop (i + 1)) with
        | none => rfl
        | some o => simp
    · have : i = l.length := by omega
      subst this
      simp only [lt_f h, cond_false, List.drop_length, lessO, List.append_nil]

theorem impl_ShareEvenly_l10_is : ∀ (k i : Nat) (c : Bool) (b : List Fq), i ≤ l.length → b.length ≤ i → l.length - i < k →
    impl_ShareEvenly_l10 N0 k (i : Int) l (l.length : Int) q.1 q.2 c b = bif c || lessF q (l.drop i) then r2 [] 3 else r2 (b ++ (l.drop i).map fun x => val (fsub x q)) 0
  | 0, i, c, b, _, _, hk => by omega
  | k + 1, i, c, b, hi, hbl, hk => by
    simp only [impl_ShareEvenly_l10, impl_ShareEvenly_t10]
    by_cases h : i < l.length
    · simp only [lt_t h, nn_t, Bool.and_self, cond_true, Int.toNat_natCast, get_ix h, w_succ (i := i) (by omega), pr_eta, impl_calc_sub_is (hl _ (List.getElem_mem h)) hq, Option.bind_some, List.length_singleton, room_t (k := b.length + 1) (c := 17) (by omega)]
      rw [impl_ShareEvenly_l10_is k (i + 1) _ _ h (by simp; omega) (by omega), drop_ix h, lessF, lessF, List.any_cons, List.map_cons, Bool.or_assoc, List.append_assoc]
      rfl
    · have : i = l.length := by omega
      subst this
      simp only [lt_f h, cond_false, List.drop_length, lessF, List.any_nil, Bool.or_false, List.map_nil, List.append_nil]
end

theorem spec_ShareEvenly_is (l : List Fq) (t : Fq) (hb : l.length ≤ 9223372036854775807) : spec_ShareEvenly N0 l t = evenRes l t := by
  have := N0_big
  simp only [spec_ShareEvenly, spec_ShareEvenly_t, pr_eta, spec_l04Fracs_is l hb, spec_l01Ok_is, spec_l00In_is, spec_l01Whole_is, Option.bind_some]
  unfold evenRes
  cases hv : l.all vF with
  | false => rfl
  | true =>
    cases ht : vF t with
    | false => rfl
    | true =>
      cases h64 : btw (l.length : Int) 1 64 with
      | false => rfl
      | true =>
        rw [btw_iff] at h64
        have hl := all_bd hv
        have hn : Bd ((l.length : Int), 1) := Bd.num (by omega)
        simp only [Bool.not_true, cond_false, spec_l01Sum_is l hb hl, Option.bind_some, evenO, Bool.and_self, cond_true]
        cases h1 : fsum (0, 1) l with
        | none => rfl
        | some s =>
          have hs := fsum_bd l Bd.zero h1
          simp only [Option.isSome_some, cond_true, Option.getD_some, bne_self_eq_false, cond_false, spec_l01Sub_is hs (Bd.of ht), Option.bind_some]
          cases h2 : fsub s t with
          | none => rfl
          | some d =>
            have hd := Bd.of (mkF_valid h2)
            simp only [Option.isSome_some, cond_true, Option.getD_some, bne_self_eq_false, cond_false, spec_l01Div_is hd hn (show (l.length : Int) ≠ 0 by omega), Option.bind_some]
            cases h3 : fdiv d ((l.length : Int), 1) with
            | none => rfl
            | some q =>
              have := spec_ShareEvenly_l16_is hl (by omega) (Bd.of (mkF_valid h3)) N0 0 [] (by omega) (by simp) (by omega)
              exact this

theorem impl_ShareEvenly_is (l : List Fq) (t : Fq) (hb : l.length ≤ 9223372036854775807) : impl_ShareEvenly N0 l t = evenRes l t := by
  have := N0_big
  simp only [impl_ShareEvenly, impl_ShareEvenly_t, pr_eta, impl_ValidFrac_is, impl_isSome_is l hb, impl_num_is, Option.bind_some]
  unfold evenRes
  cases ht : vF t with
  | false => cases l.all vF <;> rfl
  | true =>
    cases hv : l.all vF with
    | false => rfl
    | true =>
      cases h64 : btw (l.length : Int) 1 64 with
      | false => rfl
      | true =>
        rw [btw_iff] at h64
        have hl := all_bd hv
        have hn : Bd ((l.length : Int), 1) := Bd.num (by omega)
        have hs := gsum_bd l Bd.zero
        simp only [Bool.not_true, cond_false, cond_true, bne_self_eq_false, Bool.and_self, impl_calc_sum_is l hb hl, Option.bind_some, impl_calc_sub_is hs (Bd.of ht), impl_calc_div_is Bd.sub hn _ (show (l.length : Int) ≠ 0 by omega)]
        refine Eq.trans (impl_ShareEvenly_l10_is hl (by omega) Bd.div N0 0 _ [] (by omega) (by simp) (by omega)) ?_
        obtain ⟨g1, g2⟩ := gsum_fsum l (0, 1)
        rw [g1, List.drop_zero, List.nil_append, evenO]
        cases h1 : fsum (0, 1) l with
        | none => rfl
        | some s =>
          rw [g2 s h1]
          dsimp only
          cases h2 : fsub s t with
          | none => simp
          | some d =>
            simp only [val, Option.getD_some]
            try dsimp only
            cases h3 : fdiv d ((l.length : Int), 1) with
            | none => simp
            | some q =>
              simp only [Option.getD_some, Option.isNone_some, Bool.or_false, Bool.false_or, lessO_eq]
              cases lessF q l <;> rfl

theorem evenRes_ex (l : List Fq) (t : Fq) : ∃ out code, evenRes l t = r2 out code ∧ out.length ≤ 1048576 := by
  unfold evenRes
  cases l.all vF && vF t with
  | false => exact ⟨[], 1, rfl, by simp⟩
  | true =>
    cases h : btw (l.length : Int) 1 64 with
    | false => exact ⟨[], 2, rfl, by simp⟩
    | true =>
      rw [btw_iff] at h
      cases ho : evenO l t with
      | none => exact ⟨[], 3, rfl, by simp⟩
      | some o =>
        refine ⟨o, 0, rfl, ?_⟩
        unfold evenO at ho
        split at ho
        · split at ho
          · split at ho
            · rw [lessO_eq] at ho
              cases hf : lessF _ l with
              | true => rw [hf] at ho; cases ho
              | false =>
                rw [hf] at ho
                injection ho with ho
                rw [← ho, List.length_map]
                omega
            · cases ho
          · cases ho
        · cases ho

theorem law_FnExactShareEvenly (l : List Fq) (t : Fq) (hl : WfD (.list (.pair (.int .i64) (.int .i64))) l) (ht : WfD (.pair (.int .i64) (.int .i64)) t) : laws_FnExactShareEvenly N0 l t = r1 true := by
  have hb : l.length ≤ 9223372036854775807 := hl.1
  obtain ⟨r, h1, h2, h3⟩ := laws_szFracS_is l 1048576 hb (by omega)
  simp only [laws_FnExactShareEvenly, laws_FnExactShareEvenly_t, pr_eta, h1, Option.bind_some]
  by_cases hr : r < 0
  · rw [dec_t hr]; rfl
  · have h := h3 (by omega)
    obtain ⟨out, code, e1, e2⟩ := evenRes_ex l t
    simp only [dec_f hr, cond_false, laws_toFracS_is l h, fl_toFrac_is, Option.bind_some, pr_eta, spec_ShareEvenly_is l t hb, impl_ShareEvenly_is l t hb, e1, laws_eqFracS_refl _ e2, laws_eqFracS_refl _ h,
      Bool.not_true, bne_self_eq_false, laws_markFracS_is _ h, laws_markFracS_is _ e2, two_nn, laws_heldFracS_is _ e2]
end Go.Abs
