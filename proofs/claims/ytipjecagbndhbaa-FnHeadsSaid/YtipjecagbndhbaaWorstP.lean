/- The plain law of WorstHead. -/
import Derived.Test.YtipjecagbndhbaaDPHeads0
import Derived.Test.YtipjecagbndhbaaDiskL
import Derived.Test.YtipjecagbndhbaaInts
import Derived.Test.YtipjecagbndhbaaTrod
namespace Go.Abs
set_option linter.unusedSectionVars false
set_option linter.unusedSimpArgs false
set_option linter.unusedVariables false

/-- how far a head is off -/
def headOff (d : Dk) (least a : Int) : Int := ((turn a (headR d a least)).natAbs : Int)
/-- the worst one so far, and at which angle -/
def worstOf (d : Dk) (least : Int) : List Int → Int → Int → Int × Int
  | [], w, at_ => (w, at_)
  | a :: r, w, at_ => bif decide (headOff d least a > w) then worstOf d least r (headOff d least a) a else worstOf d least r w at_

/-- the code of a disk, angles and a unit -/
abbrev worstC (d : Dk) (v : List Int) (least : Int) : Int := bif diskOk d && v.all isAng then (bif btw least 1 3600 && btw (v.length : Int) 1 72 then 0 else 2) else 1
abbrev worstRes (d : Dk) (v : List Int) (least : Int) : Option (((Int × Unit) × ((Int × Unit) × ((Int × Unit) × Unit))) × Unit) :=
  bif worstC d v least == 0 then r3 (worstOf d least v (-1) 0).1 (worstOf d least v (-1) 0).2 0 else r3 0 0 (worstC d v least)

section
variable {d : Dk} {v : List Int} {least : Int} (hd : diskOk d = true) (hv : v.all isAng = true) (hl : btw least 1 3600 = true) (hb : v.length ≤ 9223372036854775807)
include hd hv hl hb

theorem headIs_at {i : Nat} (h : i < v.length) : HeadIs d v[i] least := ⟨hd, List.all_eq_true.1 hv _ (List.getElem_mem h), btw_iff.1 hl⟩

theorem spec_WorstHead_l13_is : ∀ (k i : Nat) (w a : Int), i ≤ v.length → v.length - i < k →
    spec_WorstHead_l13 N0 k (i : Int) v w least a d.1 d.2.1 d.2.2 = r3 (worstOf d least (v.drop i) w a).1 (worstOf d least (v.drop i) w a).2 0
  | 0, i, w, a, _, hk => by omega
  | k + 1, i, w, a, hi, hk => by
    simp only [spec_WorstHead_l13, spec_WorstHead_t13]
    by_cases h : i < v.length
    · have hh := headIs_at hd hv hl hb h
      have ha := btw_iff.1 hh.ang
      have hr := btw_iff.1 (headR_ang d v[i] least)
      have ht := turn_bd v[i] (headR d v[i] least)
      simp only [lt_t h, nn_t, Bool.and_self, cond_true, Int.toNat_natCast, get_ix h, w_succ (i := i) (by omega), pr_eta, spec_l03Head_is hh, Option.bind_some, spec_l03Turn_is N0 (a := v[i]) (b := headR d v[i] least) (by unfold I64; omega), spec_l01Abs_is N0 (a := turn v[i] (headR d v[i] least)) (by omega)]
      rw [drop_ix h, worstOf, spec_WorstHead_l13_is k (i + 1) _ _ h (by omega), spec_WorstHead_l13_is k (i + 1) _ _ h (by omega)]
      change (bif decide (headOff d least v[i] > w) then _ else _) = _
      cases decide (headOff d least v[i] > w) <;> rfl
    · have : i = v.length := by omega
      subst this
      simp only [lt_f h, cond_false, List.drop_length]
      rfl

theorem impl_WorstHead_l8_is : ∀ (k i : Nat) (w a : Int), i ≤ v.length → v.length - i < k →
    impl_WorstHead_l8 N0 k (i : Int) w least v a (v.length : Int) d.1 d.2.1 d.2.2 = r3 (worstOf d least (v.drop i) w a).1 (worstOf d least (v.drop i) w a).2 0
  | 0, i, w, a, _, hk => by omega
  | k + 1, i, w, a, hi, hk => by
    simp only [impl_WorstHead_l8, impl_WorstHead_t8]
    by_cases h : i < v.length
    · have hh := headIs_at hd hv hl hb h
      have ha := btw_iff.1 hh.ang
      have hr := btw_iff.1 (headR_ang d v[i] least)
      have ht := turn_bd v[i] (headR d v[i] least)
      have hm : (if turn v[i] (headR d v[i] least) < IntKind.wrap .i64 (0 - turn v[i] (headR d v[i] least)) then IntKind.wrap .i64 (0 - turn v[i] (headR d v[i] least)) else turn v[i] (headR d v[i] least)) = headOff d least v[i] := by
        rw [w_in (x := 0 - turn v[i] (headR d v[i] least)) (by unfold I64; omega)]
        unfold headOff
        split <;> omega
      simp only [lt_t h, nn_t, Bool.and_self, cond_true, Int.toNat_natCast, get_ix h, w_succ (i := i) (by omega), pr_eta, impl_head_is hh, Option.bind_some, impl_turnFrom_is N0 (a := v[i]) (b := headR d v[i] least) (by unfold I64; omega), hm]
      rw [drop_ix h, worstOf, impl_WorstHead_l8_is k (i + 1) _ _ h (by omega), impl_WorstHead_l8_is k (i + 1) _ _ h (by omega)]
      cases decide (headOff d least v[i] > w) <;> rfl
    · have : i = v.length := by omega
      subst this
      simp only [lt_f h, cond_false, List.drop_length]
      rfl
end

theorem impl_WorstHead_is (d : Dk) (v : List Int) (least : Int) (hb : v.length ≤ 9223372036854775807) (hd : d.1.length ≤ 9223372036854775807) : impl_WorstHead N0 d v least = worstRes d v least := by
  have := N0_big
  simp only [impl_WorstHead, impl_WorstHead_t, pr_eta, impl_headCode_is d least v hd hb, Option.bind_some]
  unfold worstRes worstC
  cases h1 : (diskOk d && v.all isAng) with
  | false => rfl
  | true =>
    rw [Bool.and_eq_true] at h1
    cases h2 : btw least 1 3600 with
    | false => rfl
    | true =>
      have key := impl_WorstHead_l8_is h1.1 h1.2 h2 hb N0 0 (-1) 0 (by omega) (by omega)
      rw [List.drop_zero] at key
      by_cases h0 : v.length = 0
      · rw [eq_t (a := (v.length : Int)) (b := 0) (by omega), show btw (v.length : Int) 1 72 = false by rw [h0]; rfl]
        rfl
      · rw [eq_f (a := (v.length : Int)) (b := 0) (by omega)]
        by_cases h72 : v.length ≤ 72
        · rw [gt_f (a := (v.length : Int)) (b := 72) (by omega), show btw (v.length : Int) 1 72 = true by rw [btw_iff]; omega]
          exact key
        · rw [gt_t (a := (v.length : Int)) (b := 72) (by omega), show btw (v.length : Int) 1 72 = false by cases hc : btw (v.length : Int) 1 72; rfl; rw [btw_iff] at hc; omega]
          rfl

theorem spec_WorstHead_l3_is (d : Dk) (v : List Int) (least : Int) (hb : v.length ≤ 9223372036854775807) : ∀ (k i : Nat) (s : Bool), i ≤ v.length → v.length - i < k → (s = true → diskOk d = true ∧ (v.take i).all isAng = true) → (s = false → (diskOk d && v.all isAng) = false) →
    spec_WorstHead_l3 N0 k (i : Int) v least s d.1 d.2.1 d.2.2 = worstRes d v least
  | 0, i, s, _, hk, _, _ => by omega
  | k + 1, i, s, hi, hk, ht, hf => by
    have := N0_big
    have hfalse : (diskOk d && v.all isAng) = false → (r3 0 0 1 : Option (((Int × Unit) × ((Int × Unit) × ((Int × Unit) × Unit))) × Unit)) = worstRes d v least := by
      intro h
      unfold worstRes worstC
      rw [h]
      rfl
    simp only [spec_WorstHead_l3, spec_WorstHead_t3]
    cases s with
    | false =>
      rw [← hfalse (hf rfl)]
      cases decide ((i : Int) < (v.length : Int)) <;> rfl
    | true =>
      obtain ⟨hd, hta⟩ := ht rfl
      by_cases h : i < v.length
      · simp only [lt_t h, nn_t, Bool.and_self, cond_true, Int.toNat_natCast, get_ix h, w_succ (i := i) (by omega), spec_l03Angle_is, Option.bind_some]
        refine spec_WorstHead_l3_is d v least hb k (i + 1) _ h (by omega) (fun hr => ⟨hd, by rw [take_ix h, List.all_append, hta]; simpa using hr⟩) (fun hr => ?_)
        rw [hd, Bool.true_and]
        cases hall : v.all isAng with
        | false => rfl
        | true => rw [List.all_eq_true.1 hall _ (List.getElem_mem h)] at hr; cases hr
      · have : i = v.length := by omega
        subst this
        have hall : v.all isAng = true := by simpa using hta
        simp only [lt_f h, cond_false, Bool.not_true, spec_l00In_is, Option.bind_some]
        unfold worstRes worstC
        rw [hd, hall]
        cases h2 : btw least 1 3600 with
        | false => rfl
        | true =>
          cases h3 : btw (v.length : Int) 1 72 with
          | false => rfl
          | true =>
            have key := spec_WorstHead_l13_is hd hall h2 hb N0 0 (-1) 0 (by omega) (by omega)
            rw [List.drop_zero] at key
            exact key

theorem spec_WorstHead_is (d : Dk) (v : List Int) (least : Int) (hb : v.length ≤ 9223372036854775807) (hd : d.1.length ≤ 9223372036854775807) : spec_WorstHead N0 d v least = worstRes d v least := by
  have := N0_big
  simp only [spec_WorstHead, spec_WorstHead_t, pr_eta, spec_l03Ok_is d hd, Option.bind_some]
  exact spec_WorstHead_l3_is d v least hb N0 0 (diskOk d) (by omega) (by omega) (fun h => ⟨h, by simp⟩) (fun h => by rw [h]; rfl)

end Go.Abs
