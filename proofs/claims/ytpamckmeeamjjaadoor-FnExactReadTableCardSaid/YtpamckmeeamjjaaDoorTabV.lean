/- A table out of a text: the reference's. -/
import Derived.Test.YtpamckmeeamjjaaDoorTabR
namespace Go.Abs
set_option linter.unusedSectionVars false
set_option linter.unusedSimpArgs false
set_option linter.unusedVariables false
open Go.Lib (decDigits itoa)

theorem whole_r (n : Nat) (x : Int) : spec_l01Whole n x = r1 (x, 1) := rfl

theorem dig_len_pow : ∀ (d u : Nat), u < 10 ^ (d + 1) → (decDigits u).length ≤ d + 1
  | 0, u, h => by rw [dig_small (by omega)]; simp
  | d + 1, u, h => by
    by_cases h1 : u < 10
    · rw [dig_small h1]; simp
    · have := dig_len_pow d (u / 10) (by rw [Nat.pow_succ] at h; omega)
      rw [dig_big h1, List.length_append]
      simp only [List.length_cons, List.length_nil]
      omega

theorem itoa_negN {u : Nat} (h : 0 < u) : itoa (0 - (u : Int)) = 45 :: decDigits u := by
  unfold itoa
  rw [if_pos (by omega)]
  congr 2
  omega

theorem itoa_natN (u : Nat) : itoa (u : Int) = decDigits u := by rw [itoa_nn (by omega)]; rfl

theorem num_bs (l : List UInt8) : spec_l01Number N0 (bs l) = match numS l with | some u => r2 (u : Int) true | none => r2 0 false := spec_l01Number_is (bs l)

theorem byte0 (x : UInt8) (r : List UInt8) : byteAt (bs (x :: r)) 0 = ((x.toNat : Nat) : Int) := byteAt_ix (s := bs (x :: r)) (i := 0) (by simp)

theorem spec_Sg_cons (x : UInt8) (r : List UInt8) : spec_l01Signed N0 (bs (x :: r)) =
    bif decide (x = 45) then (match numS r with | some u => r2 (IntKind.wrap .i64 (0 - (u : Int))) (decide ((u : Int) > 0)) | none => r2 0 false) else (match numS (x :: r) with | some u => r2 (u : Int) true | none => r2 0 false) := by
  unfold spec_l01Signed spec_l01Signed_t
  rw [show (ByteArray.mk #[]) = bs [] from rfl, eqStr_bs, dec_f (by simp), Bool.not_false, cond_true, bs_size, dec_t (p := (0 : Int) < (((x :: r).length : Nat) : Int)) (by simp), cond_true, byte0]
  by_cases h : x = 45
  · rw [dec_t h, cond_true, h, show ((((45 : UInt8).toNat : Nat) : Int) == 45) = true from rfl, cond_true, dec_t (p := (1 : Int) ≤ ((((45 : UInt8) :: r).length : Nat) : Int)) (by simp; omega), dec_t (Int.le_refl _), Bool.and_self, cond_true, extract_bs]
    have e : ((bs (45 :: r)).data.toList.drop (Int.toNat 1)).take (Int.toNat ((((45 : UInt8) :: r).length : Nat) : Int) - Int.toNat 1) = r := by
      rw [show (bs (45 :: r)).data.toList = 45 :: r from rfl, show Int.toNat 1 = 1 from rfl, List.drop_succ_cons, List.drop_zero, Int.toNat_natCast]
      exact List.take_of_length_le (by simp)
    rw [e, num_bs]
    cases numS r with
    | none => rfl
    | some u => rfl
  · have hne : ((((x.toNat : Nat) : Int)) == 45) = false := by
      apply eq_f
      intro e
      apply h
      apply UInt8.toNat_inj.1
      have : x.toNat = 45 := by omega
      rw [this]; rfl
    rw [dec_f h, cond_false, hne, cond_false, num_bs]
    cases numS (x :: r) with
    | none => rfl
    | some u => rfl

theorem spec_Sg_sound (l : List UInt8) : ∃ v b, spec_l01Signed N0 (bs l) = r2 v b ∧ (b = true → l = itoa v) := by
  cases l with
  | nil =>
    refine ⟨0, false, ?_, by simp⟩
    have hn : numS [] = none := by unfold numS; rw [if_neg (by simp)]
    unfold spec_l01Signed spec_l01Signed_t
    rw [show (ByteArray.mk #[]) = bs [] from rfl, eqStr_bs, dec_t rfl, Bool.not_true, cond_false, num_bs, hn]
    rfl
  | cons x r =>
    rw [spec_Sg_cons]
    by_cases h : x = 45
    · rw [dec_t h, cond_true]
      cases hn : numS r with
      | none => exact ⟨_, _, rfl, by simp⟩
      | some u =>
        refine ⟨_, _, rfl, ?_⟩
        intro hu
        have hu : 0 < u := by simpa using hu
        have hs := numS_some hn
        have hl := numS_lt hn
        rw [w_in (by unfold I64; omega), itoa_negN hu, h, hs.1]
    · rw [dec_f h, cond_false]
      cases hn : numS (x :: r) with
      | none => exact ⟨_, _, rfl, by simp⟩
      | some u => exact ⟨_, _, rfl, fun _ => by rw [itoa_natN]; exact (numS_some hn).1⟩

theorem spec_Sg_itoa {n : Int} (h : -1000000000 ≤ n ∧ n ≤ 1000000000) : spec_l01Signed N0 (bs (itoa n)) = r2 n true := by
  by_cases h0 : n < 0
  · have e : itoa n = 45 :: decDigits n.natAbs := by unfold itoa; rw [if_pos h0]
    rw [e, spec_Sg_cons, dec_t rfl, cond_true, numS_dig (dig_len_pow 9 _ (by omega))]
    dsimp only
    rw [w_in (by unfold I64; omega), dec_t (by omega), show (0 : Int) - ((n.natAbs : Nat) : Int) = n by omega]
  · have e : itoa n = decDigits n.toNat := itoa_nn (by omega)
    have hne := dig_ne n.toNat
    rw [e]
    have hs := numS_dig (u := n.toNat) (dig_len_pow 9 _ (by omega))
    have ha := dig_all n.toNat
    generalize decDigits n.toNat = w at hne hs ha
    cases w with
    | nil => exact absurd rfl hne
    | cons x r =>
      have hx : x ≠ 45 := by
        rintro rfl
        exact absurd (ha 45 (by simp)) (by decide)
      rw [spec_Sg_cons, dec_f hx, cond_false, hs]
      dsimp only
      rw [show ((n.toNat : Nat) : Int) = n by omega]

theorem spec_Rd_sound {l : List UInt8} (hl : l.length ≤ 1048576) : ∃ f b, spec_l01Read N0 (bs l) = r2 f b ∧ (b = true → l = fracT f ∧ vF f = true) := by
  have hs := spec_l01Split_is (bs l) 47 (by rw [bs_size]; omega)
  rw [show (((47 : UInt8).toNat : Nat) : Int) = 47 from rfl, show (bs l).data.toList = l from rfl] at hs
  have hj := joinC_split 47 l
  have hne := splitC_ne 47 l
  unfold spec_l01Read spec_l01Read_t
  rw [hs, Option.bind_some]
  dsimp only
  generalize splitC 47 l = ws at hj hne ⊢
  rw [List.length_map]
  match ws, hne with
  | [w], _ =>
    have e : w = l := hj
    subst e
    obtain ⟨v, b, hv, hb⟩ := spec_Sg_sound w
    have g0 : (List.map bs [w]).getD (Int.toNat 0) (ByteArray.mk #[]) = bs w := rfl
    have d1 : decide (((([w] : List (List UInt8)).length : Nat) : Int) > 2) = false := rfl
    have d2 : decide ((0 : Int) < ((([w] : List (List UInt8)).length : Nat) : Int)) = true := rfl
    have d3 : ((((([w] : List (List UInt8)).length : Nat) : Int)) == 2) = false := rfl
    simp only [d1, d2, d3, cond_false, cond_true, g0, hv, Option.bind_some, whole_r, spec_l01Ok_is]
    cases b with
    | false => exact ⟨_, _, rfl, by simp⟩
    | true =>
      refine ⟨_, _, rfl, ?_⟩
      intro hk
      exact ⟨by rw [hb rfl]; rfl, hk⟩
  | [w, w'], _ =>
    have e : l = w ++ 47 :: w' := hj.symm
    obtain ⟨v, b, hv, hb⟩ := spec_Sg_sound w
    have g0 : (List.map bs [w, w']).getD (Int.toNat 0) (ByteArray.mk #[]) = bs w := rfl
    have g1 : (List.map bs [w, w']).getD (Int.toNat 1) (ByteArray.mk #[]) = bs w' := rfl
    have d1 : decide (((([w, w'] : List (List UInt8)).length : Nat) : Int) > 2) = false := rfl
    have d2 : decide ((0 : Int) < ((([w, w'] : List (List UInt8)).length : Nat) : Int)) = true := rfl
    have d3 : ((((([w, w'] : List (List UInt8)).length : Nat) : Int)) == 2) = true := rfl
    have d4 : decide ((1 : Int) < ((([w, w'] : List (List UInt8)).length : Nat) : Int)) = true := rfl
    simp only [d1, d2, d3, d4, cond_false, cond_true, g0, g1, hv, Option.bind_some, whole_r, spec_l01Ok_is, num_bs]
    cases hn : numS w' with
    | none =>
      cases b with
      | false => exact ⟨_, _, rfl, by simp⟩
      | true => exact ⟨_, _, rfl, by simp⟩
    | some u =>
      cases b with
      | false => exact ⟨_, _, rfl, by simp⟩
      | true =>
        simp only [Option.bind_some, cond_true]
        by_cases h1 : (u : Int) = 1
        · rw [ne_f h1]; exact ⟨_, _, rfl, by simp⟩
        · rw [ne_true h1, cond_true]
          refine ⟨_, _, rfl, ?_⟩
          intro hk
          refine ⟨?_, hk⟩
          unfold fracT
          rw [eq_f h1, cond_false, itoa_natN, ← (numS_some hn).1, ← hb rfl, e]
          simp
  | w :: w' :: w'' :: r, _ =>
    rw [dec_t (by simp; omega), cond_true]
    exact ⟨_, _, rfl, by simp⟩

theorem spec_Rd_frac {a : Int × Int} (h : vF a = true) : spec_l01Read N0 (bs (fracT a)) = r2 a true := by
  have hb := vF_bd h
  have hl := fracT_len h
  have h47 : ¬ isDg 47 := by decide
  have hs := spec_l01Split_is (bs (fracT a)) 47 (by rw [bs_size]; omega)
  rw [show (((47 : UInt8).toNat : Nat) : Int) = 47 from rfl, show (bs (fracT a)).data.toList = fracT a from rfl] at hs
  unfold spec_l01Read spec_l01Read_t
  rw [hs, Option.bind_some]
  dsimp only
  have hsg := spec_Sg_itoa (n := a.1) (by omega)
  cases h1 : a.2 == 1 with
  | true =>
    have e : fracT a = itoa a.1 := by unfold fracT; rw [h1, cond_true]
    have e1 : a.2 = 1 := by simpa using h1
    have ea : (a.1, 1) = a := by rw [← e1]
    rw [e, splitC_no (itoa_no h47 (by decide) _)]
    have g0 : (List.map bs [itoa a.1]).getD (Int.toNat 0) (ByteArray.mk #[]) = bs (itoa a.1) := rfl
    have d1 : decide ((((List.map bs [itoa a.1]).length : Nat) : Int) > 2) = false := rfl
    have d2 : decide ((0 : Int) < (((List.map bs [itoa a.1]).length : Nat) : Int)) = true := rfl
    have d3 : (((((List.map bs [itoa a.1]).length : Nat) : Int)) == 2) = false := rfl
    rw [d1, d2, d3]
    simp only [cond_false, cond_true, g0, hsg, Option.bind_some, whole_r, spec_l01Ok_is, ea, h]
  | false =>
    have e : fracT a = itoa a.1 ++ 47 :: itoa a.2 := by unfold fracT; rw [h1, cond_false]; simp
    have hn : numS (itoa a.2) = some a.2.toNat := by rw [itoa_nn (by omega)]; exact numS_dig (dig_len_pow 9 _ (by omega))
    have ea : (a.1, ((a.2.toNat : Nat) : Int)) = a := by rw [show ((a.2.toNat : Nat) : Int) = a.2 by omega]
    have hq : ((a.2.toNat : Nat) : Int) ≠ 1 := by
      rw [show ((a.2.toNat : Nat) : Int) = a.2 by omega]
      simpa using h1
    rw [e, splitC_app (itoa_no h47 (by decide) _), splitC_no (itoa_no h47 (by decide) _)]
    have g0 : (List.map bs [itoa a.1, itoa a.2]).getD (Int.toNat 0) (ByteArray.mk #[]) = bs (itoa a.1) := rfl
    have g1 : (List.map bs [itoa a.1, itoa a.2]).getD (Int.toNat 1) (ByteArray.mk #[]) = bs (itoa a.2) := rfl
    have d1 : decide ((((List.map bs [itoa a.1, itoa a.2]).length : Nat) : Int) > 2) = false := rfl
    have d2 : decide ((0 : Int) < (((List.map bs [itoa a.1, itoa a.2]).length : Nat) : Int)) = true := rfl
    have d3 : (((((List.map bs [itoa a.1, itoa a.2]).length : Nat) : Int)) == 2) = true := rfl
    have d4 : decide ((1 : Int) < (((List.map bs [itoa a.1, itoa a.2]).length : Nat) : Int)) = true := rfl
    rw [d1, d2, d3, d4]
    simp only [cond_false, cond_true, g0, g1, hsg, Option.bind_some, whole_r, spec_l01Ok_is, num_bs, hn, ne_true hq, ea, h]

/-! ### a table held to be good -/
theorem spec_l04Ok_e_l4_is (t : Tb) (hb : t.2.1.length ≤ 9223372036854775807) : ∀ (k i : Nat), i ≤ t.2.1.length → t.2.1.length - i < k →
    spec_l04Ok_e_l4 N0 k (i : Int) t = r1 ((t.2.1.drop i).all (obOk t.1))
  | 0, i, _, hk => by omega
  | k + 1, i, hi, hk => by
    simp only [spec_l04Ok_e_l4, spec_l04Ok_e_t4]
    by_cases h : i < t.2.1.length
    · simp only [lt_t h, nn_t, Bool.and_self, cond_true, Int.toNat_natCast, get_ix h, w_succ (i := i) (by omega), pr_eta, spec_l04Obs_e_is, Option.bind_some]
      rw [drop_ix h, List.all_cons]
      cases obOk t.1 t.2.1[i] with
      | true => exact spec_l04Ok_e_l4_is t hb k (i + 1) h (by omega)
      | false => rfl
    · have : i = t.2.1.length := by omega
      subst this
      simp only [lt_f h, cond_false, List.drop_length]
      rfl

theorem spec_l04Ok_e_is (t : Tb) (hb : t.2.1.length ≤ 9223372036854775807) : spec_l04Ok_e N0 t = r1 (tabOk t) := by
  have := N0_big
  have h := spec_l04Ok_e_l4_is t hb N0 0 (by omega) (by omega)
  rw [List.drop_zero] at h
  have h : spec_l04Ok_e_l4 N0 N0 0 t = _ := h
  simp only [spec_l04Ok_e, spec_l04Ok_e_t, spec_l00In_is, pr_eta, spec_l01Ok_is, Option.bind_some, h]
  unfold tabOk
  cases btw t.1 1 6 with
  | false => rfl
  | true =>
    by_cases h24 : t.2.1.length ≤ 24
    · rw [gt_f (by omega), dec_t h24]
      cases vF t.2.2.2 with
      | false => rfl
      | true =>
        cases t.2.2.1 with
        | true => rfl
        | false =>
          by_cases h0 : t.2.2.2.1 = 0
          · rw [ne_f h0, eq_t h0]; rfl
          · rw [ne_true h0, eq_f h0]; rfl
    · rw [gt_t (by omega), dec_f h24]; rfl

theorem words_ext {ws : List (List UInt8)} {n : Nat} {o : Ob} (hlen : ws.length = n + 2) (hco : ∀ i, i < n → ws.getD i [] = itoa (at6 o.1 i)) (hf : ws.getD n [] = fracT o.2.1) (hw : ws.getD (n + 1) [] = itoa o.2.2) : ws = obW n o := by
  refine List.ext_getElem (by rw [hlen, obW_len]) ?_
  intro i h1 h2
  rw [← get_ix h1 [], ← get_ix h2 []]
  by_cases h : i < n
  · rw [hco i h, obW_co h]
  · by_cases h' : i = n
    · rw [h', hf, obW_fr]
    · have : i = n + 1 := by omega
      rw [this, hw, obW_wt]

section
variable (n : Nat) (hn : n ≤ 6) (ws : List (List UInt8)) (hlen : ws.length = n + 2) (b0 : A6) (b6 b7 b8 c6 c7 c8 : Int)

include hn hlen in
theorem spec_RO_step (k j : Nat) (hj : j < n) (a : A6) (v : Int) (b : Bool) (hv : spec_l01Signed N0 (bs (ws.getD j [])) = r2 v b) :
    spec_l04ReadObs_l5 N0 (k + 1) (j : Int) (ws.map bs) (n : Int) b0.1 b0.2.1 b0.2.2.1 b0.2.2.2.1 b0.2.2.2.2.1 b0.2.2.2.2.2 b6 b7 b8 a.1 a.2.1 a.2.2.1 a.2.2.2.1 a.2.2.2.2.1 a.2.2.2.2.2 c6 c7 c8 =
      bif b && btw v (-3) 3 then
        spec_l04ReadObs_l5 N0 k ((j + 1 : Nat) : Int) (ws.map bs) (n : Int) b0.1 b0.2.1 b0.2.2.1 b0.2.2.2.1 b0.2.2.2.2.1 b0.2.2.2.2.2 b6 b7 b8 (set6 a j (IntKind.wrap .i8 v)).1 (set6 a j (IntKind.wrap .i8 v)).2.1 (set6 a j (IntKind.wrap .i8 v)).2.2.1 (set6 a j (IntKind.wrap .i8 v)).2.2.2.1 (set6 a j (IntKind.wrap .i8 v)).2.2.2.2.1 (set6 a j (IntKind.wrap .i8 v)).2.2.2.2.2 c6 c7 c8
      else r2 (a, ((c6, c7), c8)) false := by
  simp only [spec_l04ReadObs_l5, spec_l04ReadObs_t5]
  rw [dec_t (p := (j : Int) < (n : Int)) (by omega), cond_true, List.length_map, hlen, in_t (by omega), cond_true, Int.toNat_natCast, map_getD, hv, Option.bind_some]
  dsimp only
  cases b with
  | false => rfl
  | true =>
    rw [Bool.not_true, cond_false, Bool.true_and, spec_l00In_is, Option.bind_some]
    dsimp only
    cases btw v (-3) 3 with
    | false => rfl
    | true =>
      rw [dec_t (p := (j : Int) < 6) (by omega), nn_t, Bool.not_true, cond_false, cond_true, Bool.and_self, cond_true, w_succ (i := j) (by omega)]
      rfl

include hn hlen in
theorem spec_RO_end (k : Nat) (a : A6) (f : Int × Int) (b : Bool) (hf : spec_l01Read N0 (bs (ws.getD n [])) = r2 f b) :
    spec_l04ReadObs_l5 N0 (k + 1) (n : Int) (ws.map bs) (n : Int) b0.1 b0.2.1 b0.2.2.1 b0.2.2.2.1 b0.2.2.2.2.1 b0.2.2.2.2.2 b6 b7 b8 a.1 a.2.1 a.2.2.1 a.2.2.2.1 a.2.2.2.2.1 a.2.2.2.2.2 c6 c7 c8 =
      match numS (ws.getD (n + 1) []) with
      | some u => r2 (a, (f, (u : Int))) b
      | none => r2 (a, (f, 0)) false := by
  simp only [spec_l04ReadObs_l5, spec_l04ReadObs_t5]
  rw [dec_f (p := (n : Int) < (n : Int)) (by omega), cond_false, List.length_map, hlen, in_t (by omega), cond_true, Int.toNat_natCast, map_getD, hf, Option.bind_some, w_succ (i := n) (by omega), in_t (by omega)]
  dsimp only
  rw [cond_true, Int.toNat_natCast, map_getD, num_bs]
  cases numS (ws.getD (n + 1) []) with
  | none => cases b <;> rfl
  | some u => cases b <;> rfl

include hn hlen in
theorem spec_RO_sound (hs : ∀ x ∈ ws, x.length ≤ 1048576) : ∀ (k j : Nat) (a : A6), j ≤ n → n - j < k → (∀ i, i < j → ws.getD i [] = itoa (at6 a i)) →
    ∃ o b, spec_l04ReadObs_l5 N0 k (j : Int) (ws.map bs) (n : Int) b0.1 b0.2.1 b0.2.2.1 b0.2.2.2.1 b0.2.2.2.2.1 b0.2.2.2.2.2 b6 b7 b8 a.1 a.2.1 a.2.2.1 a.2.2.2.1 a.2.2.2.2.1 a.2.2.2.2.2 c6 c7 c8 = r2 o b ∧ (b = true → ws = obW n o)
  | 0, j, _, _, hk, _ => by omega
  | k + 1, j, a, hj, hk, hpre => by
    by_cases h : j < n
    · obtain ⟨v, b, hv, hb⟩ := spec_Sg_sound (ws.getD j [])
      rw [spec_RO_step n hn ws hlen b0 b6 b7 b8 c6 c7 c8 k j h a v b hv]
      cases hc : b && btw v (-3) 3 with
      | false => exact ⟨_, _, rfl, by simp⟩
      | true =>
        rw [Bool.and_eq_true, btw_iff] at hc
        refine spec_RO_sound hs k (j + 1) _ h (by omega) ?_
        intro i hi
        rw [at6_set (by omega) (by omega)]
        by_cases he : i = j
        · rw [if_pos he, he, hb hc.1, w8_in hc.2]
        · rw [if_neg he]; exact hpre i (by omega)
    · have : j = n := by omega
      subst this
      have hd : (ws.getD j []).length ≤ 1048576 := by rw [get_ix (by omega)]; exact hs _ (List.getElem_mem _)
      obtain ⟨f, b, hf, hb⟩ := spec_Rd_sound hd
      rw [spec_RO_end j hn ws hlen b0 b6 b7 b8 c6 c7 c8 k a f b hf]
      cases hnum : numS (ws.getD (j + 1) []) with
      | none => exact ⟨_, _, rfl, by simp⟩
      | some u =>
        refine ⟨_, _, rfl, ?_⟩
        intro hbt
        refine words_ext hlen hpre (hb hbt).1 ?_
        rw [itoa_natN]
        exact (numS_some hnum).1
end

theorem spec_RO_is (n : Nat) (hn : n ≤ 6) (ws : List (List UInt8)) (hl : ws.length ≤ 2000000) (hs : ∀ x ∈ ws, x.length ≤ 1048576) :
    ∃ o b, spec_l04ReadObs N0 (ws.map bs) (n : Int) = r2 o b ∧ (b = true → ws = obW n o) := by
  have hN := N0_big
  unfold spec_l04ReadObs spec_l04ReadObs_t
  have e : IntKind.wrap .i64 ((n : Int) + 2) = ((n + 2 : Nat) : Int) := by rw [w_in (by unfold I64; omega)]; omega
  rw [e, List.length_map]
  by_cases h : ws.length = n + 2
  · rw [ne_f (by omega), cond_false]
    exact spec_RO_sound n hn ws h z6 0 0 0 0 0 0 hs N0 0 z6 (by omega) (by omega) (by intro i hi; omega)
  · rw [ne_true (by omega), cond_true]
    exact ⟨_, _, rfl, by simp⟩

theorem spec_RO_fwd (n : Nat) (hn : n ≤ 6) (o : Ob) (ho : obOk (n : Int) o = true) : spec_l04ReadObs N0 ((obW n o).map bs) (n : Int) = r2 o true := by
  have hN := N0_big
  have hb := ob_in3 ho
  have key : ∀ (k j : Nat), j ≤ n → n - j < k →
      spec_l04ReadObs_l5 N0 k (j : Int) ((obW n o).map bs) (n : Int) 0 0 0 0 0 0 0 0 0 (pre6 o.1 j).1 (pre6 o.1 j).2.1 (pre6 o.1 j).2.2.1 (pre6 o.1 j).2.2.2.1 (pre6 o.1 j).2.2.2.2.1 (pre6 o.1 j).2.2.2.2.2 0 0 0 = r2 o true := by
    intro k
    induction k with
    | zero => intro j _ hk; omega
    | succ k ih =>
      intro j hj hk
      by_cases h : j < n
      · have hin := hb.1 j (by omega)
        have e := spec_RO_step n hn (obW n o) (obW_len n o) z6 0 0 0 0 0 0 k j h (pre6 o.1 j) (at6 o.1 j) true (by rw [obW_co h]; exact spec_Sg_itoa (by omega))
        rw [btw_iff.2 hin, w8_in hin] at e
        exact e.trans (ih (j + 1) h (by omega))
      · have : j = n := by omega
        subst this
        have e := spec_RO_end j hn (obW j o) (obW_len j o) z6 0 0 0 0 0 0 k (pre6 o.1 j) o.2.1 true (by rw [obW_fr]; exact spec_Rd_frac hb.2.1)
        rw [obW_wt, itoa_nn (by omega), numS_dig (dig_len_pow 9 _ (by omega)), pre6_all hn ho] at e
        dsimp only at e
        rw [show ((o.2.2.toNat : Nat) : Int) = o.2.2 by omega] at e
        rw [pre6_all hn ho]
        exact e
  unfold spec_l04ReadObs spec_l04ReadObs_t
  have e : IntKind.wrap .i64 ((n : Int) + 2) = ((n + 2 : Nat) : Int) := by rw [w_in (by unfold I64; omega)]; omega
  rw [e, List.length_map, obW_len, ne_f rfl, cond_false]
  exact key N0 0 (by omega) (by omega)

/-! ### lines -/
abbrev QSR (l : List UInt8) (x : Option (((Tb × Unit) × ((Int × Unit) × Unit)) × Unit)) : Prop := x = r2 nTab 5 ∨ ∃ t, tabOk t = true ∧ tabT t = l ∧ x = r2 t 0

section
variable (ls : List (List UInt8)) (l : List UInt8) (hll : ls.length ≤ 26) (h2 : 2 ≤ ls.length) (hs : ∀ x ∈ ls, x.length ≤ 1048576) (b0 : Int) (b2 : Bool) (b3 b4 : Int) (n : Nat) (hn : 1 ≤ n ∧ n ≤ 6) (c2 : Bool) (c3 c4 : Int)

include hll h2 hs hn in
theorem spec_RT_step (k i : Nat) (hi : i < ls.length - 1) (p : List Ob) (hp : p.length ≤ 100000) (o : Ob) (b : Bool) (ho : spec_l04ReadObs N0 ((splitC 32 (ls.getD i [])).map bs) (n : Int) = r2 o b) :
    spec_ReadTable_l16 N0 (k + 1) (i : Int) (n : Int) (ls.length : Int) b0 b2 b3 b4 (n : Int) c2 c3 c4 (ls.map bs) p =
      bif b then spec_ReadTable_l16 N0 k ((i + 1 : Nat) : Int) (n : Int) (ls.length : Int) b0 b2 b3 b4 (n : Int) c2 c3 c4 (ls.map bs) (p ++ [o]) else r2 nTab 5 := by
  have hd : (ls.getD i []).length ≤ 1048576 := by rw [get_ix (by omega)]; exact hs _ (List.getElem_mem _)
  have hsp := spec_l01Split_is (bs (ls.getD i [])) 32 (by rw [bs_size]; omega)
  rw [show (((32 : UInt8).toNat : Nat) : Int) = 32 from rfl, show (bs (ls.getD i [])).data.toList = ls.getD i [] from rfl] at hsp
  have e : IntKind.wrap .i64 (((ls.length : Nat) : Int) - 1) = ((ls.length - 1 : Nat) : Int) := by rw [w_in (by unfold I64; omega)]; omega
  simp only [spec_ReadTable_l16, spec_ReadTable_t16]
  rw [e, dec_t (p := (i : Int) < ((ls.length - 1 : Nat) : Int)) (by omega), cond_true, List.length_map, in_t (by omega), cond_true, Int.toNat_natCast, map_getD, hsp, Option.bind_some]
  dsimp only
  rw [ho, Option.bind_some]
  dsimp only
  cases b with
  | false => rfl
  | true =>
    rw [Bool.not_true, cond_false, cond_true, dec_t (by simp; omega), cond_true, w_succ (i := i) (by omega)]

include hll h2 in
theorem spec_RT_end (k : Nat) (p : List Ob) (hp : p.length ≤ 100000) :
    spec_ReadTable_l16 N0 (k + 1) ((ls.length - 1 : Nat) : Int) (n : Int) (ls.length : Int) b0 b2 b3 b4 (n : Int) c2 c3 c4 (ls.map bs) p =
      bif tabOk ((n : Int), (p, (c2, (c3, c4)))) then r2 ((n : Int), (p, (c2, (c3, c4)))) 0 else r2 nTab 5 := by
  have e : IntKind.wrap .i64 (((ls.length : Nat) : Int) - 1) = ((ls.length - 1 : Nat) : Int) := by rw [w_in (by unfold I64; omega)]; omega
  simp only [spec_ReadTable_l16, spec_ReadTable_t16]
  rw [e, dec_f (p := ((ls.length - 1 : Nat) : Int) < ((ls.length - 1 : Nat) : Int)) (by omega), cond_false, spec_l04Ok_e_is _ (by dsimp only; omega), Option.bind_some]
  dsimp only
  cases tabOk ((n : Int), (p, (c2, (c3, c4)))) <;> rfl

include hll h2 hs hn in
theorem spec_RT_sound (hl : joinC 10 ls = l) (hlast : ls.getD (ls.length - 1) [] = []) (hhead : ls.getD 0 [] = joinC 32 (headW ((n : Int), ([], (c2, (c3, c4)))))) : ∀ (k i : Nat) (p : List Ob), 1 ≤ i → i ≤ ls.length - 1 → ls.length - 1 - i < k →
    p.length = i - 1 → (∀ j (h : j < p.length), ls.getD (j + 1) [] = joinC 32 (obW n p[j])) →
    QSR l (spec_ReadTable_l16 N0 k (i : Int) (n : Int) (ls.length : Int) b0 b2 b3 b4 (n : Int) c2 c3 c4 (ls.map bs) p)
  | 0, i, p, _, _, hk, _, _ => by omega
  | k + 1, i, p, h1, hi, hk, hp, hpre => by
    by_cases h : i < ls.length - 1
    · have hd : (ls.getD i []).length ≤ 1048576 := by rw [get_ix (by omega)]; exact hs _ (List.getElem_mem _)
      have hw := splitC_len 32 (ls.getD i [])
      obtain ⟨o, b, ho, hb⟩ := spec_RO_is n hn.2 (splitC 32 (ls.getD i [])) (by omega) (fun x hx => Nat.le_trans (splitC_part hx) hd)
      rw [spec_RT_step ls hll h2 hs b0 b2 b3 b4 n hn c2 c3 c4 k i h p (by omega) o b ho]
      cases b with
      | false => exact Or.inl rfl
      | true =>
        refine spec_RT_sound hl hlast hhead k (i + 1) _ (by omega) (by omega) (by omega) (by simp; omega) ?_
        intro j hj
        rw [List.length_append] at hj
        simp only [List.length_cons, List.length_nil] at hj
        by_cases hj2 : j < p.length
        · rw [List.getElem_append_left hj2]; exact hpre j hj2
        · have : j = p.length := by omega
          subst this
          rw [List.getElem_append_right (Nat.le_refl _)]
          simp only [Nat.sub_self, List.getElem_cons_zero]
          rw [show p.length + 1 = i by omega, ← hb rfl, joinC_split]
    · have : i = ls.length - 1 := by omega
      subst this
      rw [spec_RT_end ls hll h2 b0 b2 b3 b4 n c2 c3 c4 k p (by omega)]
      cases hk : tabOk ((n : Int), (p, (c2, (c3, c4)))) with
      | false => exact Or.inl rfl
      | true =>
        refine Or.inr ⟨_, hk, ?_, rfl⟩
        rw [tabT_join, ← hl]
        congr 1
        symm
        refine List.ext_getElem ?_ ?_
        · unfold tabL; simp; omega
        · intro j g1 g2
          rw [← get_ix g1 [], ← get_ix g2 []]
          by_cases hj0 : j = 0
          · subst hj0
            rw [hhead]; rfl
          · by_cases hjl : j = ls.length - 1
            · rw [hjl, hlast]
              simp only [List.getD_eq_getElem?_getD]
              have hlt : (tabL ((n : Int), (p, (c2, (c3, c4))))).length = ls.length - 1 := by unfold tabL; simp; omega
              rw [List.getElem?_append_right (by omega), hlt, Nat.sub_self]
              rfl
            · obtain ⟨j, rfl⟩ : ∃ i, j = i + 1 := ⟨j - 1, by omega⟩
              have hjp : j < p.length := by omega
              rw [hpre j hjp]
              unfold tabL
              rw [List.cons_append, List.getD_cons_succ]
              simp only [List.getD_eq_getElem?_getD]
              rw [List.getElem?_append_left (by simp; omega), List.getElem?_map, List.getElem?_eq_getElem (l := p) hjp]
              rfl
end

theorem eqStr_nil (w : List UInt8) : eqStr (bs w) (ByteArray.mk #[]) = decide (w = []) := eqStr_bs w []

/-- what comes behind the head -/
noncomputable abbrev tailR (ls : List (List UInt8)) (u : Int) (c2 : Bool) (f : Int × Int) : Option (((Tb × Unit) × ((Int × Unit) × Unit)) × Unit) :=
  (spec_l00In N0 u 1 6).bind fun r5 =>
  cond (!r5.1.1.1) (r2 nTab 5)
  (cond (decide (((ls.length : Nat) : Int) < 2)) (r2 nTab 5)
  (cond (decide (((ls.length : Nat) : Int) > 26)) (r2 nTab 5)
  (cond ((decide (0 ≤ (IntKind.wrap .i64 (((ls.length : Nat) : Int) - 1))) && decide ((IntKind.wrap .i64 (((ls.length : Nat) : Int) - 1)) < ((ls.length : Nat) : Int))))
    (cond (!decide (ls.getD (Int.toNat (IntKind.wrap .i64 (((ls.length : Nat) : Int) - 1))) [] = [])) (r2 nTab 5)
      (spec_ReadTable_l16 N0 N0 1 u (ls.length : Int) 0 false 0 0 u c2 f.1 f.2 (ls.map bs) []))
    none)))

theorem tailR_sound {ls : List (List UInt8)} {l : List UInt8} (hs : ∀ x ∈ ls, x.length ≤ 1048576) (hll : ls.length ≤ 1048577) (hpos : 0 < ls.length) (hl : joinC 10 ls = l) {u : Nat} {c2 : Bool} {f : Int × Int} (hhead : ls.getD 0 [] = joinC 32 (headW ((u : Int), ([], (c2, f))))) : QSR l (tailR ls (u : Int) c2 f) := by
  have hN := N0_big
  unfold tailR
  rw [spec_l00In_is, Option.bind_some]
  dsimp only
  cases hb : btw (u : Int) 1 6 with
  | false => exact Or.inl rfl
  | true =>
    have hb := btw_iff.1 hb
    by_cases h2 : 2 ≤ ls.length
    · by_cases h26 : ls.length ≤ 26
      · have e : IntKind.wrap .i64 (((ls.length : Nat) : Int) - 1) = ((ls.length - 1 : Nat) : Int) := by rw [w_in (by unfold I64; omega)]; omega
        rw [e, Bool.not_true, cond_false, dec_f (by omega), cond_false, dec_f (by omega), cond_false, in_t (by omega), cond_true, Int.toNat_natCast]
        by_cases hlast : ls.getD (ls.length - 1) [] = []
        · rw [dec_t hlast, Bool.not_true, cond_false]
          exact spec_RT_sound ls l h26 h2 hs 0 false 0 0 u (by omega) c2 f.1 f.2 hl hlast hhead N0 1 [] (by omega) (by omega) (by omega) (by simp) (by intro j hj; simp at hj)
        · rw [dec_f hlast]; exact Or.inl rfl
      · rw [Bool.not_true, cond_false, dec_f (by omega), cond_false, dec_t (by omega)]; exact Or.inl rfl
    · rw [Bool.not_true, cond_false, dec_t (by omega)]; exact Or.inl rfl

theorem spec_RT_Q {l : List UInt8} (h : l.length ≤ 1048576) : QSR l (spec_ReadTable N0 (bs l)) := by
  have hj := joinC_split 10 l
  have hlen := splitC_len 10 l
  have hpos := List.length_pos_iff.2 (splitC_ne 10 l)
  have hpart : ∀ x ∈ splitC 10 l, x.length ≤ 1048576 := fun x hx => Nat.le_trans (splitC_part hx) h
  have hs := spec_l01Split_is (bs l) 10 (by rw [bs_size]; omega)
  rw [show (((10 : UInt8).toNat : Nat) : Int) = 10 from rfl, show (bs l).data.toList = l from rfl] at hs
  generalize splitC 10 l = ls at hj hlen hpos hpart hs
  have hd : (ls.getD 0 []).length ≤ 1048576 := by rw [get_ix hpos]; exact hpart _ (List.getElem_mem _)
  have hs2 := spec_l01Split_is (bs (ls.getD 0 [])) 32 (by rw [bs_size]; omega)
  rw [show (((32 : UInt8).toNat : Nat) : Int) = 32 from rfl, show (bs (ls.getD 0 [])).data.toList = ls.getD 0 [] from rfl] at hs2
  have hj2 := joinC_split 32 (ls.getD 0 [])
  have hlen2 := splitC_len 32 (ls.getD 0 [])
  have hpos2 := List.length_pos_iff.2 (splitC_ne 32 (ls.getD 0 []))
  have hpart2 : ∀ x ∈ splitC 32 (ls.getD 0 []), x.length ≤ 1048576 := fun x hx => Nat.le_trans (splitC_part hx) hd
  generalize splitC 32 (ls.getD 0 []) = ws at hj2 hlen2 hpos2 hpart2 hs2
  unfold spec_ReadTable spec_ReadTable_t
  rw [hs, Option.bind_some]
  simp only [List.length_map]
  rw [dec_t (p := (0 : Int) < ((ls.length : Nat) : Int)) (by omega), cond_true, Int.toNat_zero, map_getD, hs2, Option.bind_some]
  simp only [List.length_map]
  rw [dec_t (p := (0 : Int) < ((ws.length : Nat) : Int)) (by omega), cond_true, map_getD, num_bs]
  by_cases h3 : ws.length = 3
  · obtain ⟨w0, w1, w2, rfl⟩ := three_of_len h3
    have g0 : List.getD [w0, w1, w2] 0 [] = w0 := rfl
    have g1 : List.getD [w0, w1, w2] (Int.toNat 1) [] = w1 := rfl
    have g2 : List.getD [w0, w1, w2] (Int.toNat 2) [] = w2 := rfl
    have d3 : ((((([w0, w1, w2] : List (List UInt8)).length : Nat) : Int)) == 3) = true := rfl
    have d1 : decide ((1 : Int) < ((([w0, w1, w2] : List (List UInt8)).length : Nat) : Int)) = true := rfl
    have d2 : decide ((2 : Int) < ((([w0, w1, w2] : List (List UInt8)).length : Nat) : Int)) = true := rfl
    have d4 : ((((([w0, w1, w2] : List (List UInt8)).length : Nat) : Int)) != 1) = true := rfl
    obtain ⟨f, b, hf, hb⟩ := spec_Rd_sound (hpart2 w2 (by simp))
    rw [g0]
    by_cases hc : w1 = closedT
    · cases hn : numS w0 with
      | none =>
        simp only [d3, d1, d2, cond_true, Option.bind_some, whole_r, map_getD, g1, g2, hf, show (ByteArray.mk #[99, 108, 111, 115, 101, 100]) = bs closedT from rfl, eqStr_bs, dec_t hc, cond_false]
        exact Or.inl rfl
      | some u =>
        simp only [d3, d1, d2, cond_true, Option.bind_some, whole_r, map_getD, g1, g2, hf, show (ByteArray.mk #[99, 108, 111, 115, 101, 100]) = bs closedT from rfl, eqStr_bs, dec_t hc]
        cases b with
        | false => exact Or.inl rfl
        | true =>
          have hw0 := (numS_some hn).1
          have key := tailR_sound (ls := ls) (l := l) hpart (by omega) hpos hj (u := u) (c2 := true) (f := f) (by
            rw [← hj2]
            unfold headW
            simp only [cond_true]
            rw [itoa_natN, ← hw0, ← (hb rfl).1, hc])
          unfold tailR at key
          simp only [Bool.not_true, cond_false]
          exact key
    · simp only [d3, d1, d4, cond_true, map_getD, g1, show (ByteArray.mk #[99, 108, 111, 115, 101, 100]) = bs closedT from rfl, eqStr_bs, dec_f hc, cond_false, whole_r]
      cases numS w0 <;> exact Or.inl rfl
  · have e3 : (((ws.length : Nat) : Int) == 3) = false := eq_f (by omega)
    simp only [e3, cond_false, whole_r]
    by_cases h1 : ws.length = 1
    · obtain ⟨w0, rfl⟩ : ∃ w, ws = [w] := by
        match ws, h1 with
        | [w], _ => exact ⟨w, rfl⟩
      have g0 : List.getD [w0] 0 [] = w0 := rfl
      have d4 : ((((([w0] : List (List UInt8)).length : Nat) : Int)) != 1) = false := rfl
      rw [g0]
      cases hn : numS w0 with
      | none => exact Or.inl rfl
      | some u =>
        have hw0 := (numS_some hn).1
        have key := tailR_sound (ls := ls) (l := l) hpart (by omega) hpos hj (u := u) (c2 := false) (f := (0, 1)) (by
          rw [← hj2]
          unfold headW
          simp only [cond_false]
          rw [itoa_natN, ← hw0])
        unfold tailR at key
        simp only [d4, cond_false, Option.bind_some, Bool.not_true, map_getD, eqStr_nil]
        exact key
    · have e4 : (((ws.length : Nat) : Int) != 1) = true := ne_true (by omega)
      cases numS (ws.getD 0 []) with
      | none => simp only [e4, cond_true]; exact Or.inl rfl
      | some u => simp only [e4, cond_true]; exact Or.inl rfl

theorem spec_RT_fwd {t : Tb} (ht : tabOk t = true) (hlen : (tabT t).length ≤ 1048576) : ∀ (k i : Nat), i ≤ t.2.1.length → t.2.1.length - i < k →
    spec_ReadTable_l16 N0 k ((i + 1 : Nat) : Int) t.1 ((tabL t ++ [[]]).length : Int) 0 false 0 0 t.1 t.2.2.1 t.2.2.2.1 t.2.2.2.2 ((tabL t ++ [[]]).map bs) (t.2.1.take i) = r2 t 0
  | 0, i, _, hk => by omega
  | k + 1, i, hi, hk => by
    obtain ⟨h1, h2, h3, h4, h5⟩ := tab_ok ht
    have hcnt : ((t.1.toNat : Nat) : Int) = t.1 := by omega
    have hl3 : (tabL t ++ [[]]).length = t.2.1.length + 2 := by unfold tabL; simp
    have hall : ∀ x ∈ tabL t ++ [[]], x.length ≤ 1048576 := by
      intro x hx
      have := join_len (c := 10) hx
      rw [← tabT_join] at this
      omega
    by_cases h : i < t.2.1.length
    · have hok : obOk ((t.1.toNat : Nat) : Int) t.2.1[i] = true := by rw [hcnt]; exact h5 _ (List.getElem_mem h)
      have hg : (tabL t ++ [[]]).getD (i + 1) [] = joinC 32 (obW t.1.toNat t.2.1[i]) := by
        unfold tabL
        rw [List.cons_append, List.getD_cons_succ]
        simp only [List.getD_eq_getElem?_getD]
        rw [List.getElem?_append_left (by simp; omega), List.getElem?_map, List.getElem?_eq_getElem h]
        rfl
      have ho := spec_RO_fwd t.1.toNat (by omega) t.2.1[i] hok
      have e := spec_RT_step (tabL t ++ [[]]) (by omega) (by omega) hall 0 false 0 0 t.1.toNat (by omega) t.2.2.1 t.2.2.2.1 t.2.2.2.2 k (i + 1) (by omega) (t.2.1.take i) (by rw [List.length_take]; omega) t.2.1[i] true (by rw [hg, ob_split]; exact ho)
      rw [hcnt] at e
      rw [e, cond_true, ← List.take_succ_eq_append_getElem h]
      exact spec_RT_fwd ht hlen k (i + 1) h (by omega)
    · have : i = t.2.1.length := by omega
      subst this
      have e := spec_RT_end (tabL t ++ [[]]) (by omega) (by omega) 0 false 0 0 t.1.toNat t.2.2.1 t.2.2.2.1 t.2.2.2.2 k t.2.1 (by omega)
      rw [hcnt, show (t.1, (t.2.1, (t.2.2.1, (t.2.2.2.1, t.2.2.2.2)))) = t from rfl, ht, cond_true] at e
      rw [List.take_length, show t.2.1.length + 1 = (tabL t ++ [[]]).length - 1 by omega]
      exact e

theorem spec_RT_pos {t : Tb} (ht : tabOk t = true) (hlen : (tabT t).length ≤ 1048576) : spec_ReadTable N0 (bs (tabT t)) = r2 t 0 := by
  have hN := N0_big
  obtain ⟨h1, h2, h3, h4, h5⟩ := tab_ok ht
  have hl3 : (tabL t ++ [[]]).length = t.2.1.length + 2 := by unfold tabL; simp
  have hall : ∀ x ∈ tabL t ++ [[]], x.length ≤ 1048576 := by
    intro x hx
    have := join_len (c := 10) hx
    rw [← tabT_join] at this
    omega
  have hx : (joinC 32 (headW t)).length ≤ 1048576 := hall _ (by unfold tabL; simp)
  have hs := spec_l01Split_is (bs (tabT t)) 10 (by rw [bs_size]; omega)
  rw [show (((10 : UInt8).toNat : Nat) : Int) = 10 from rfl, show (bs (tabT t)).data.toList = tabT t from rfl, tab_split] at hs
  have hs2 := spec_l01Split_is (bs (joinC 32 (headW t))) 32 (by rw [bs_size]; omega)
  rw [show (((32 : UInt8).toNat : Nat) : Int) = 32 from rfl, show (bs (joinC 32 (headW t))).data.toList = joinC 32 (headW t) from rfl, head_split] at hs2
  have hg : (tabL t ++ [[]]).getD 0 [] = joinC 32 (headW t) := rfl
  have hlast : (tabL t ++ [[]]).getD (t.2.1.length + 1) [] = [] := by
    have hlt : (tabL t).length = t.2.1.length + 1 := by unfold tabL; simp
    simp only [List.getD_eq_getElem?_getD]
    rw [List.getElem?_append_right (by omega), hlt, Nat.sub_self]
    rfl
  have key := spec_RT_fwd ht hlen N0 0 (by omega) (by omega)
  rw [List.take_zero] at key
  have tail : ∀ (c2 : Bool) (f : Int × Int), c2 = t.2.2.1 → f = t.2.2.2 → tailR (tabL t ++ [[]]) t.1 c2 f = r2 t 0 := by
    intro c2 f hc hf
    subst hc hf
    unfold tailR
    rw [spec_l00In_is, Option.bind_some, hl3]
    dsimp only
    have e : IntKind.wrap .i64 (((t.2.1.length + 2 : Nat) : Int) - 1) = ((t.2.1.length + 1 : Nat) : Int) := by rw [w_in (by unfold I64; omega)]; omega
    rw [btw_iff.2 h1, Bool.not_true, cond_false, dec_f (by omega), cond_false, dec_f (by omega), cond_false, e, in_t (by omega), cond_true, Int.toNat_natCast, hlast, dec_t rfl, Bool.not_true, cond_false]
    rw [hl3] at key
    exact key
  unfold spec_ReadTable spec_ReadTable_t
  rw [hs, Option.bind_some]
  simp only [List.length_map]
  have hd0 : decide ((0 : Int) < (((tabL t ++ [[]]).length : Nat) : Int)) = true := dec_t (by omega)
  rw [hd0, cond_true, Int.toNat_zero, map_getD, hg, hs2, Option.bind_some]
  simp only [List.length_map]
  have hpos2 := List.length_pos_iff.2 (headW_ne t)
  have hn : numS (itoa t.1) = some t.1.toNat := by rw [itoa_nn (by omega)]; exact numS_dig (dig_len_pow 9 _ (by omega))
  have hcnt : ((t.1.toNat : Nat) : Int) = t.1 := by omega
  rw [dec_t (p := (0 : Int) < (((headW t).length : Nat) : Int)) (by omega), cond_true, map_getD, num_bs]
  have hcl : t.2.2.1 = true ∨ t.2.2.1 = false := by cases t.2.2.1 <;> simp
  rcases hcl with hcl | hcl
  · have hw : headW t = [itoa t.1, closedT, fracT t.2.2.2] := by unfold headW; rw [hcl]; rfl
    rw [hw]
    have g0 : List.getD [itoa t.1, closedT, fracT t.2.2.2] 0 [] = itoa t.1 := rfl
    have g1 : List.getD [itoa t.1, closedT, fracT t.2.2.2] (Int.toNat 1) [] = closedT := rfl
    have g2 : List.getD [itoa t.1, closedT, fracT t.2.2.2] (Int.toNat 2) [] = fracT t.2.2.2 := rfl
    have d3 : ((((([itoa t.1, closedT, fracT t.2.2.2] : List (List UInt8)).length : Nat) : Int)) == 3) = true := rfl
    have d1 : decide ((1 : Int) < ((([itoa t.1, closedT, fracT t.2.2.2] : List (List UInt8)).length : Nat) : Int)) = true := rfl
    have d2 : decide ((2 : Int) < ((([itoa t.1, closedT, fracT t.2.2.2] : List (List UInt8)).length : Nat) : Int)) = true := rfl
    rw [g0, hn]
    simp only [d3, d1, d2, cond_true, Option.bind_some, whole_r, map_getD, g1, g2, spec_Rd_frac h3, show (ByteArray.mk #[99, 108, 111, 115, 101, 100]) = bs closedT from rfl, eqStr_bs, decide_true, Bool.not_true, cond_false, hcnt]
    exact tail true t.2.2.2 hcl.symm rfl
  · have hw : headW t = [itoa t.1] := by unfold headW; rw [hcl]; rfl
    rw [hw]
    have g0 : List.getD [itoa t.1] 0 [] = itoa t.1 := rfl
    have d3 : ((((([itoa t.1] : List (List UInt8)).length : Nat) : Int)) == 3) = false := rfl
    have d4 : ((((([itoa t.1] : List (List UInt8)).length : Nat) : Int)) != 1) = false := rfl
    rw [g0, hn]
    simp only [d3, d4, cond_false, Option.bind_some, whole_r, map_getD, Bool.not_true, hcnt, eqStr_nil]
    exact tail false (0, 1) hcl.symm (tot_zero h3 (h4.resolve_left (by rw [hcl]; simp))).symm

theorem tab_neg {l : List UInt8} (hs : l.length ≤ 1048576) (h : ∀ t, tabOk t = true → l ≠ tabT t) : impl_ReadTable N0 (bs l) = rTab nTab 5 ∧ spec_ReadTable N0 (bs l) = r2 nTab 5 := by
  constructor
  · rcases impl_RT_Q hs with e | ⟨t, h1, h2, _⟩
    · exact e
    · exact absurd h2.symm (h t h1)
  · rcases spec_RT_Q hs with e | ⟨t, h1, h2, _⟩
    · exact e
    · exact absurd h2.symm (h t h1)
end Go.Abs
