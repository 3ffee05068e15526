/- Texts of fractions and tables. -/
import Derived.Test.YtpamckmeeamjjaaDoorNumP
import Derived.Test.YtpamckmeeamjjaaDoorTables
import Derived.Test.YtpamckmeeamjjaaDoorValidTab
namespace Go.Abs
set_option linter.unusedSectionVars false
set_option linter.unusedSimpArgs false
set_option linter.unusedVariables false
open Go.Lib (decDigits itoa)

theorem itoa_len {n : Int} (h : -1000000000 ≤ n ∧ n ≤ 1000000000) : (itoa n).length ≤ 32 := by
  unfold itoa
  split
  · have := dig_len 30 n.natAbs (by omega)
    simp only [List.length_cons]; omega
  · have := dig_len 30 n.toNat (by omega)
    omega

theorem spec_Signed_is {n : Int} (h : -9223372036854775807 ≤ n ∧ n ≤ 9223372036854775807) : spec_Signed N0 n = r1 (bs (itoa n)) := by
  unfold spec_Signed spec_Signed_t
  by_cases h0 : n < 0
  · have hl := dig_len 63 (0 - n).toNat (by omega)
    have hl' : (decDigits (-n).toNat).length ≤ 64 := by rw [show -n = 0 - n by omega]; exact hl
    rw [dec_t h0, cond_true, w_in (by unfold I64; omega), spec_Decimal_is (by omega) (by omega), Option.bind_some]
    dsimp only
    rw [show (ByteArray.mk #[45]) = bs [45] from rfl, room_bs (by simp; omega), cond_true, bs_append]
    unfold itoa
    rw [if_pos h0, show (0 - n).toNat = n.natAbs by omega]
    rfl
  · rw [dec_f h0, cond_false, spec_Decimal_is (by omega) (by omega), Option.bind_some]
    unfold itoa
    rw [if_neg h0]

/-- a fraction's text -/
def fracT (a : Int × Int) : List UInt8 := bif a.2 == 1 then itoa a.1 else itoa a.1 ++ [47] ++ itoa a.2

theorem fracT_len {a : Int × Int} (h : vF a = true) : (fracT a).length ≤ 65 := by
  have hb := vF_bd h
  have h1 := itoa_len hb.2
  have h2 := itoa_len (n := a.2) (by omega)
  unfold fracT
  cases a.2 == 1
  · simp only [cond_false, List.length_append, List.length_cons, List.length_nil]; omega
  · simp only [cond_true]; omega

theorem impl_FracText_is (a : Int × Int) : impl_FracText N0 a = r1 (bs (bif vF a then fracT a else [])) := by
  unfold impl_FracText impl_FracText_t
  rw [impl_ValidFrac_is, Option.bind_some]
  dsimp only
  cases h : vF a with
  | false => rfl
  | true =>
    have hb := vF_bd h
    have h1 := itoa_len hb.2
    have h2 := itoa_len (n := a.2) (by omega)
    rw [Bool.not_true, cond_false, cond_true, impl_dec_is (by unfold I64; omega), impl_dec_is (by unfold I64; omega)]
    unfold fracT
    cases a.2 == 1 with
    | true => rfl
    | false =>
      rw [cond_false, cond_false, Option.bind_some]
      dsimp only
      rw [show (ByteArray.mk #[47]) = bs [47] from rfl, room_bs (by simp; omega), cond_true, Option.bind_some]
      dsimp only
      rw [bs_append, room_bs (by simp; omega), cond_true, bs_append]

theorem spec_l01Text_is {a : Int × Int} (h : vF a = true) : spec_l01Text N0 a = r1 (bs (fracT a)) := by
  have hb := vF_bd h
  have h1 := itoa_len hb.2
  have h2 := itoa_len (n := a.2) (by omega)
  unfold spec_l01Text spec_l01Text_t
  rw [spec_Signed_is (by omega), spec_Decimal_is (by omega) (by omega), ← itoa_nn (n := a.2) (by omega)]
  unfold fracT
  cases a.2 == 1 with
  | true => rfl
  | false =>
    rw [cond_false, cond_false, Option.bind_some]
    dsimp only
    rw [show (ByteArray.mk #[47]) = bs [47] from rfl, room_bs (by simp; omega), cond_true, Option.bind_some]
    dsimp only
    rw [bs_append, room_bs (by simp; omega), cond_true, bs_append]

/-- the texts of k coefficients from j on -/
def coT (a : A6) : Nat → Nat → List UInt8
  | 0, _ => []
  | k + 1, j => itoa (at6 a j) ++ [32] ++ coT a k (j + 1)
/-- behind them -/
def obE (o : Ob) : List UInt8 := fracT o.2.1 ++ [32] ++ itoa o.2.2 ++ [10]
def obT (count : Nat) (o : Ob) : List UInt8 := coT o.1 count 0 ++ obE o
def obsT (count : Nat) (l : List Ob) : List UInt8 := (l.map (obT count)).flatten
def headT (t : Tb) : List UInt8 := itoa t.1 ++ (bif t.2.2.1 then [32, 99, 108, 111, 115, 101, 100, 32] ++ fracT t.2.2.2 else []) ++ [10]
def tabT (t : Tb) : List UInt8 := headT t ++ obsT t.1.toNat t.2.1

abbrev In3 (a : A6) : Prop := ∀ j, j < 6 → -3 ≤ at6 a j ∧ at6 a j ≤ 3

theorem ob_in3 {count : Int} {o : Ob} (h : obOk count o = true) : In3 o.1 ∧ vF o.2.1 = true ∧ (1 ≤ o.2.2 ∧ o.2.2 ≤ 100) := by
  unfold obOk at h
  rw [Bool.and_eq_true, Bool.and_eq_true] at h
  unfold obTail at h
  rw [Bool.and_eq_true, btw_iff] at h
  refine ⟨fun j hj => ?_, h.2.2.1, h.2.2.2⟩
  have := allUp_at h.1 j (by omega) (by omega)
  unfold coefAt at this
  rw [Bool.and_eq_true, btw_iff] at this
  exact this.1

theorem coT_len {a : A6} (h : In3 a) : ∀ (k j : Nat), k + j ≤ 6 → (coT a k j).length ≤ 33 * k
  | 0, j, _ => by simp [coT]
  | k + 1, j, hk => by
    have := coT_len h k (j + 1) (by omega)
    have h2 := itoa_len (n := at6 a j) (by have := h j (by omega); omega)
    simp only [coT, List.length_append, List.length_cons, List.length_nil]
    omega

theorem obE_len {o : Ob} (h1 : vF o.2.1 = true) (h2 : 1 ≤ o.2.2 ∧ o.2.2 ≤ 100) : (obE o).length ≤ 99 := by
  have := fracT_len h1
  have := itoa_len (n := o.2.2) (by omega)
  simp only [obE, List.length_append, List.length_cons, List.length_nil]
  omega

theorem obT_len {count : Int} {o : Ob} (h : obOk count o = true) {n : Nat} (hn : n ≤ 6) : (obT n o).length ≤ 297 := by
  obtain ⟨h1, h2, h3⟩ := ob_in3 h
  have := coT_len h1 n 0 (by omega)
  have := obE_len h2 h3
  simp only [obT, List.length_append]
  omega

/-! ### the program's -/
theorem impl_TT_l11_is (G : ByteArray → Int → List Ob → Int → Int → List Ob → Bool → Int → Int → Option (((ByteArray × Unit) × Unit) × Unit)) (a : A6) (f : Int × Int) (wt : Int) (ha : In3 a) (hf : vF f = true) (hw : 1 ≤ wt ∧ wt ≤ 100)
    (v25 : List Ob) (v26 v27 : Int) (c0 : Int) (c1 : List Ob) (c2 : Bool) (c3 c4 : Int) (hi : Nat) (hhi : hi ≤ 6) : ∀ (k j : Nat) (p : List UInt8), j ≤ hi → hi - j < k → p.length ≤ 100000 + 40 * j →
    impl_TableText_l11 N0 G k (j : Int) (bs p) hi v25 v26 v27 (hi : Int) a.1 a.2.1 a.2.2.1 a.2.2.2.1 a.2.2.2.2.1 a.2.2.2.2.2 f.1 f.2 wt c0 c1 c2 c3 c4 =
      G (bs (p ++ coT a (hi - j) j ++ obE (a, (f, wt)))) (IntKind.wrap .i64 (v27 + 1)) v25 v26 c0 c1 c2 c3 c4
  | 0, j, p, _, hk, _ => by omega
  | k + 1, j, p, hj, hk, hp => by
    simp only [impl_TableText_l11, impl_TableText_t11]
    by_cases h : j < hi
    · have hb := ha j (by omega)
      have hl := itoa_len (n := at6 a j) (by omega)
      rw [lt_t h, nn_t, Bool.and_self, cond_true, cond_true, Int.toNat_natCast]
      rw [show (cond (Nat.beq j 0) a.1 (cond (Nat.beq (j - 1) 0) a.2.1 (cond (Nat.beq (j - 1 - 1) 0) a.2.2.1 (cond (Nat.beq (j - 1 - 1 - 1) 0) a.2.2.2.1 (cond (Nat.beq (j - 1 - 1 - 1 - 1) 0) a.2.2.2.2.1 (cond (Nat.beq (j - 1 - 1 - 1 - 1 - 1) 0) a.2.2.2.2.2 0)))))) = at6 a j from rfl]
      rw [w_in (by unfold I64; omega), impl_dec_is (by unfold I64; omega), Option.bind_some]
      dsimp only
      rw [show (ByteArray.mk #[32]) = bs [32] from rfl, room_bs (by simp; omega), cond_true, bs_append, room_bs (by simp; omega), cond_true, bs_append, w_succ (i := j) (by omega)]
      rw [impl_TT_l11_is G a f wt ha hf hw v25 v26 v27 c0 c1 c2 c3 c4 hi hhi k (j + 1) _ h (by omega) (by simp; omega)]
      rw [show hi - j = (hi - (j + 1)) + 1 by omega, coT]
      congr 2
      simp
    · have : j = hi := by omega
      subst this
      have hl1 := fracT_len hf
      have hl2 := itoa_len (n := wt) (by omega)
      rw [lt_f h, cond_false, show (f.1, f.2) = f from rfl, impl_FracText_is, hf, cond_true, Option.bind_some]
      dsimp only
      rw [show (ByteArray.mk #[32]) = bs [32] from rfl, show (ByteArray.mk #[10]) = bs [10] from rfl, room_bs (by simp; omega), cond_true, impl_dec_is (by unfold I64; omega), Option.bind_some]
      dsimp only
      rw [bs_append, room_bs (by simp; omega), cond_true, bs_append, room_bs (by simp; omega), cond_true, bs_append, room_bs (by simp; omega), cond_true, bs_append, Nat.sub_self, coT, List.append_nil]
      rfl

theorem impl_TT_l8_is (count : Nat) (hc : count ≤ 6) (c1 : List Ob) (c2 : Bool) (c3 c4 : Int) (v : List Ob) (hv : ∀ o ∈ v, obOk (count : Int) o = true) (hl : v.length ≤ 24) : ∀ (k i : Nat) (p : List UInt8), i ≤ v.length → v.length - i < k → p.length ≤ 1000 + 300 * i →
    impl_TableText_l8 N0 k (bs p) (i : Int) v (v.length : Int) (count : Int) c1 c2 c3 c4 = r1 (bs (p ++ obsT count (v.drop i)))
  | 0, i, p, _, hk, _ => by omega
  | k + 1, i, p, hi, hk, hp => by
    simp only [impl_TableText_l8, impl_TableText_t8]
    by_cases h : i < v.length
    · obtain ⟨h1, h2, h3⟩ := ob_in3 (hv _ (List.getElem_mem h))
      have hlen := obT_len (hv _ (List.getElem_mem h)) hc
      have hN := N0_big
      rw [lt_t h, nn_t, Bool.and_self, cond_true, cond_true, dec_t (p := (0 : Int) ≤ (count : Int)) (by omega), dec_t (p := (count : Int) ≤ 6) (by omega), Bool.and_self, cond_true, Int.toNat_natCast, Int.toNat_natCast, get_ix h]
      have e := impl_TT_l11_is (impl_TableText_l8 N0 k) v[i].1 v[i].2.1 v[i].2.2 h1 h2 h3 v (v.length : Int) (i : Int) (count : Int) c1 c2 c3 c4 count hc N0 0 p (by omega) (by omega) (by omega)
      rw [show ((0 : Nat) : Int) = 0 from rfl] at e
      rw [e, w_succ (i := i) (by omega), Nat.sub_zero]
      rw [show p ++ coT v[i].1 count 0 ++ obE (v[i].1, (v[i].2.1, v[i].2.2)) = p ++ obT count v[i] by unfold obT; rw [List.append_assoc]]
      rw [impl_TT_l8_is count hc c1 c2 c3 c4 v hv hl k (i + 1) _ h (by omega) (by simp only [List.length_append]; omega)]
      rw [drop_ix h]
      simp only [obsT, List.map_cons, List.flatten_cons, List.append_assoc]
    · have : i = v.length := by omega
      subst this
      rw [lt_f h, cond_false, List.drop_length]
      simp [obsT]

theorem tab_ok {t : Tb} (h : tabOk t = true) : (1 ≤ t.1 ∧ t.1 ≤ 6) ∧ t.2.1.length ≤ 24 ∧ vF t.2.2.2 = true ∧ (t.2.2.1 = true ∨ t.2.2.2.1 = 0) ∧ ∀ o ∈ t.2.1, obOk t.1 o = true := by
  unfold tabOk at h
  simp only [Bool.and_eq_true, Bool.or_eq_true, btw_iff, decide_eq_true_eq, beq_iff_eq, List.all_eq_true] at h
  exact h

theorem headT_len {t : Tb} (h : tabOk t = true) : (headT t).length ≤ 200 := by
  obtain ⟨h1, _, h3, _⟩ := tab_ok h
  have := itoa_len (n := t.1) (by omega)
  have := fracT_len h3
  unfold headT
  cases t.2.2.1
  · simp only [cond_false, List.length_append, List.length_cons, List.length_nil]; omega
  · simp only [cond_true, List.length_append, List.length_cons, List.length_nil]; omega

theorem impl_TableText_is (t : Tb) (hb : t.2.1.length ≤ 9223372036854775807) (hf : ∀ o ∈ t.2.1, Fit6 o.1) : impl_TableText N0 t = r1 (bs (bif tabOk t then tabT t else [])) := by
  have hN := N0_big
  unfold impl_TableText impl_TableText_t
  simp only [pr_eta]
  rw [impl_ValidTable_is t hb hf, Option.bind_some]
  dsimp only
  cases h : tabOk t with
  | false => rfl
  | true =>
    obtain ⟨h1, h2, h3, _, h5⟩ := tab_ok h
    have hl1 := itoa_len (n := t.1) (by omega)
    have hl2 := fracT_len h3
    have hcnt : ((t.1.toNat : Nat) : Int) = t.1 := by omega
    have loop : ∀ p : List UInt8, p.length ≤ 1000 → impl_TableText_l8 N0 N0 (bs p) 0 t.2.1 (t.2.1.length : Int) t.1 t.2.1 t.2.2.1 t.2.2.2.1 t.2.2.2.2 = r1 (bs (p ++ obsT t.1.toNat t.2.1)) := by
      intro p hp
      have e := impl_TT_l8_is t.1.toNat (by omega) t.2.1 t.2.2.1 t.2.2.2.1 t.2.2.2.2 t.2.1 (by rw [hcnt]; exact h5) h2 N0 0 p (by omega) (by omega) (by omega)
      rw [hcnt, List.drop_zero] at e
      exact e
    rw [Bool.not_true, cond_false, cond_true, impl_dec_is (by unfold I64; omega), Option.bind_some]
    dsimp only
    unfold tabT headT
    cases hcl : t.2.2.1 with
    | true =>
      rw [hcl] at loop
      rw [cond_true, cond_true, impl_FracText_is, h3, cond_true, Option.bind_some]
      dsimp only
      rw [show (ByteArray.mk #[32, 99, 108, 111, 115, 101, 100, 32]) = bs [32, 99, 108, 111, 115, 101, 100, 32] from rfl, show (ByteArray.mk #[10]) = bs [10] from rfl]
      rw [room_bs (by simp; omega), cond_true, bs_append, room_bs (by simp; omega), cond_true, bs_append, room_bs (by simp; omega), cond_true, bs_append]
      exact loop (itoa t.1 ++ ([32, 99, 108, 111, 115, 101, 100, 32] ++ fracT t.2.2.2) ++ [10]) (by simp only [List.length_append, List.length_cons, List.length_nil]; omega)
    | false =>
      rw [hcl] at loop
      rw [cond_false, cond_false, show (ByteArray.mk #[10]) = bs [10] from rfl, room_bs (by simp; omega), cond_true, bs_append, List.append_nil]
      exact loop (itoa t.1 ++ [10]) (by simp only [List.length_append, List.length_cons, List.length_nil]; omega)

/-! ### the reference's -/
theorem spec_LT_l9_is (G : Int → ByteArray → Int → List Ob → Bool → Int → Int → Option (((ByteArray × Unit) × Unit) × (Tb × Unit))) (c2 : Bool) (c3 c4 : Int) (v : List Ob) (i : Nat) (h : i < v.length) (hl : v.length ≤ 24) (ha : In3 v[i].1) (hf : vF v[i].2.1 = true) (hw : 1 ≤ v[i].2.2 ∧ v[i].2.2 ≤ 100)
    (count : Nat) (hc : count ≤ 6) : ∀ (k j : Nat) (p : List UInt8), j ≤ count → count - j < k → p.length ≤ 100000 + 40 * j →
    spec_l04Text_l9 N0 G k (j : Int) (i : Int) (bs p) (count : Int) v c2 c3 c4 = G ((i + 1 : Nat) : Int) (bs (p ++ coT v[i].1 (count - j) j ++ obE v[i])) (count : Int) v c2 c3 c4
  | 0, j, p, _, hk, _ => by omega
  | k + 1, j, p, hj, hk, hp => by
    simp only [spec_l04Text_l9, spec_l04Text_t9]
    rw [in_t h]
    simp only [cond_true, Int.toNat_natCast, get_ix h]
    by_cases h' : j < count
    · have hb := ha j (by omega)
      have hl := itoa_len (n := at6 v[i].1 j) (by omega)
      rw [dec_t (p := (j : Int) < (count : Int)) (by omega), cond_true, nn_t, dec_t (p := (j : Int) < 6) (by omega), Bool.and_self, cond_true]
      rw [show (cond (Nat.beq j 0) v[i].1.1 (cond (Nat.beq (j - 1) 0) v[i].1.2.1 (cond (Nat.beq (j - 1 - 1) 0) v[i].1.2.2.1 (cond (Nat.beq (j - 1 - 1 - 1) 0) v[i].1.2.2.2.1 (cond (Nat.beq (j - 1 - 1 - 1 - 1) 0) v[i].1.2.2.2.2.1 (cond (Nat.beq (j - 1 - 1 - 1 - 1 - 1) 0) v[i].1.2.2.2.2.2 0)))))) = at6 v[i].1 j from rfl]
      rw [w_in (by unfold I64; omega), spec_Signed_is (by omega), Option.bind_some]
      dsimp only
      rw [show (ByteArray.mk #[32]) = bs [32] from rfl, room_bs (by simp; omega), cond_true, bs_append, room_bs (by simp; omega), cond_true, bs_append, w_succ (i := j) (by omega)]
      rw [spec_LT_l9_is G c2 c3 c4 v i h (by omega) ha hf hw count hc k (j + 1) _ h' (by omega) (by simp; omega)]
      rw [show count - j = (count - (j + 1)) + 1 by omega, coT]
      congr 2
      simp
    · have : j = count := by omega
      subst this
      have hl1 := fracT_len hf
      have hl2 := itoa_len (n := v[i].2.2) (by omega)
      rw [dec_f (p := (j : Int) < (j : Int)) (by omega), cond_false, show (v[i].2.1.1, v[i].2.1.2) = v[i].2.1 from rfl, spec_l01Text_is hf, Option.bind_some]
      dsimp only
      rw [show (ByteArray.mk #[32]) = bs [32] from rfl, show (ByteArray.mk #[10]) = bs [10] from rfl, room_bs (by simp; omega), cond_true, spec_Decimal_is (by omega) (by omega), Option.bind_some, ← itoa_nn (n := v[i].2.2) (by omega)]
      dsimp only
      rw [bs_append, room_bs (by simp; omega), cond_true, bs_append, room_bs (by simp; omega), cond_true, bs_append, room_bs (by simp; omega), cond_true, bs_append, Nat.sub_self, coT, List.append_nil, w_succ (i := i) (by omega)]
      rfl

theorem spec_LT_l6_is (count : Nat) (hc : count ≤ 6) (c2 : Bool) (c3 c4 : Int) (v : List Ob) (hv : ∀ o ∈ v, obOk (count : Int) o = true) (hl : v.length ≤ 24) : ∀ (k i : Nat) (p : List UInt8), i ≤ v.length → v.length - i < k → p.length ≤ 1000 + 300 * i →
    spec_l04Text_l6 N0 k (i : Int) (bs p) (count : Int) v c2 c3 c4 = c1 (bs (p ++ obsT count (v.drop i))) ((count : Int), (v, (c2, (c3, c4))))
  | 0, i, p, _, hk, _ => by omega
  | k + 1, i, p, hi, hk, hp => by
    simp only [spec_l04Text_l6, spec_l04Text_t6]
    by_cases h : i < v.length
    · obtain ⟨h1, h2, h3⟩ := ob_in3 (hv _ (List.getElem_mem h))
      have hlen := obT_len (hv _ (List.getElem_mem h)) hc
      have hN := N0_big
      have e := spec_LT_l9_is (spec_l04Text_l6 N0 k) c2 c3 c4 v i h hl h1 h2 h3 count hc N0 0 p (by omega) (by omega) (by omega)
      rw [show ((0 : Nat) : Int) = 0 from rfl] at e
      rw [lt_t h, cond_true, e, Nat.sub_zero]
      rw [show p ++ coT v[i].1 count 0 ++ obE v[i] = p ++ obT count v[i] by unfold obT; rw [List.append_assoc]]
      rw [spec_LT_l6_is count hc c2 c3 c4 v hv hl k (i + 1) _ h (by omega) (by simp only [List.length_append]; omega)]
      rw [drop_ix h]
      simp only [obsT, List.map_cons, List.flatten_cons, List.append_assoc]
    · have : i = v.length := by omega
      subst this
      rw [lt_f h, cond_false, List.drop_length]
      simp [obsT]

theorem spec_l04Text_is {t : Tb} (h : tabOk t = true) : spec_l04Text N0 t = c1 (bs (tabT t)) t := by
  have hN := N0_big
  obtain ⟨h1, h2, h3, _, h5⟩ := tab_ok h
  have hl1 := itoa_len (n := t.1) (by omega)
  have hl2 := fracT_len h3
  have hcnt : ((t.1.toNat : Nat) : Int) = t.1 := by omega
  have loop : ∀ p : List UInt8, p.length ≤ 1000 → spec_l04Text_l6 N0 N0 0 (bs p) t.1 t.2.1 t.2.2.1 t.2.2.2.1 t.2.2.2.2 = c1 (bs (p ++ obsT t.1.toNat t.2.1)) t := by
    intro p hp
    have e := spec_LT_l6_is t.1.toNat (by omega) t.2.2.1 t.2.2.2.1 t.2.2.2.2 t.2.1 (by rw [hcnt]; exact h5) h2 N0 0 p (by omega) (by omega) (by omega)
    rw [hcnt, List.drop_zero] at e
    exact e
  unfold spec_l04Text spec_l04Text_t
  rw [spec_Decimal_is (by omega) (by omega), Option.bind_some, ← itoa_nn (n := t.1) (by omega)]
  dsimp only
  unfold tabT headT
  cases hcl : t.2.2.1 with
  | true =>
    rw [hcl] at loop
    rw [cond_true, cond_true, show (t.2.2.2.1, t.2.2.2.2) = t.2.2.2 from rfl, spec_l01Text_is h3, Option.bind_some]
    dsimp only
    rw [show (ByteArray.mk #[32, 99, 108, 111, 115, 101, 100, 32]) = bs [32, 99, 108, 111, 115, 101, 100, 32] from rfl, show (ByteArray.mk #[10]) = bs [10] from rfl]
    rw [room_bs (by simp; omega), cond_true, bs_append, room_bs (by simp; omega), cond_true, bs_append, room_bs (by simp; omega), cond_true, bs_append]
    exact loop (itoa t.1 ++ ([32, 99, 108, 111, 115, 101, 100, 32] ++ fracT t.2.2.2) ++ [10]) (by simp only [List.length_append, List.length_cons, List.length_nil]; omega)
  | false =>
    rw [hcl] at loop
    rw [cond_false, cond_false, show (ByteArray.mk #[10]) = bs [10] from rfl, room_bs (by simp; omega), cond_true, bs_append, List.append_nil]
    exact loop (itoa t.1 ++ [10]) (by simp only [List.length_append, List.length_cons, List.length_nil]; omega)

theorem spec_TableText_is (t : Tb) (hb : t.2.1.length ≤ 9223372036854775807) : spec_TableText N0 t = r1 (bs (bif tabOk t then tabT t else [])) := by
  unfold spec_TableText spec_TableText_t
  simp only [pr_eta]
  rw [spec_l04Ok_is t hb, Option.bind_some]
  dsimp only
  cases h : tabOk t with
  | false => rfl
  | true =>
    rw [Bool.not_true, cond_false, cond_true, spec_l04Text_is h, Option.bind_some]
end Go.Abs
