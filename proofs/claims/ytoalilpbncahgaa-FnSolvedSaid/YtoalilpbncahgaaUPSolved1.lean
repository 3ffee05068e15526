import Derived.Test.YtoalilpbncahgaaLib
import Derived.Test.YtoalilpbncahgaaTrod
import Derived.Test.YtoalilpbncahgaaDPSolved0
import Derived.Test.YtoalilpbncahgaaUPSolved0
namespace Go.Abs
set_option linter.unusedSectionVars false
set_option linter.unusedSimpArgs false
set_option linter.unusedVariables false

theorem sv_two (a b : Fq) : spec_l01Two N0 a b = r1 (bif vF a && vF b then 0 else 1) := by
  simp only [spec_l01Two, spec_l01Two_t, pr_eta, spec_l01Ok_is, Option.bind_some]
  cases vF a <;> cases vF b <;> rfl

theorem sv_mul {a b : Fq} (ha : vF a = true) (hb : vF b = true) : spec_MulFracs N0 a b = r2 ((fmul a b).getD (0, 0)) (bif (fmul a b).isSome then 0 else 3) := by
  simp only [spec_MulFracs, spec_MulFracs_t, pr_eta, sv_two, ha, hb, Option.bind_some, Bool.and_self, cond_true, bne_self_eq_false, cond_false, spec_l01Mul_is (Bd.of ha) (Bd.of hb)]

theorem sv_add {a b : Fq} (ha : vF a = true) (hb : vF b = true) : spec_AddFracs N0 a b = r2 ((fadd a b).getD (0, 0)) (bif (fadd a b).isSome then 0 else 3) := by
  simp only [spec_AddFracs, spec_AddFracs_t, pr_eta, sv_two, ha, hb, Option.bind_some, Bool.and_self, cond_true, bne_self_eq_false, cond_false, spec_l01Add_is (Bd.of ha) (Bd.of hb)]

theorem sv_add_ex (a b : Fq) : ∃ c d, spec_AddFracs N0 a b = r2 c d := by
  cases h : vF a && vF b with
  | true =>
    rw [Bool.and_eq_true] at h
    exact ⟨_, _, sv_add h.1 h.2⟩
  | false =>
    simp only [spec_AddFracs, spec_AddFracs_t, pr_eta, sv_two, h, Option.bind_some, cond_false]
    exact ⟨_, _, rfl⟩

theorem sv_less (a b : Fq) : laws_f6less N0 a b = r1 (vF a && vF b && decide (cmpF a b < 0)) := by
  cases h : vF a && vF b with
  | true => simp only [laws_f6less, laws_f6less_t, spec_CompareFracs, spec_CompareFracs_t, pr_eta, sv_two, h, Option.bind_some, cond_true, bne_self_eq_false, cond_false, spec_l01Cmp_is, beq_self_eq_true, Bool.true_and]
  | false =>
    simp only [laws_f6less, laws_f6less_t, spec_CompareFracs, spec_CompareFracs_t, pr_eta, sv_two, h, Option.bind_some, cond_false]
    rfl

theorem same_l4 (v : Rw) (hb : v.length ≤ 1048576) : ∀ (k i : Nat), i ≤ v.length → v.length - i < k → spec_SameFracs_l4 N0 k (i : Int) v v = r1 true
  | 0, i, _, hk => by omega
  | k + 1, i, hi, hk => by
    simp only [spec_SameFracs_l4, spec_SameFracs_t4]
    by_cases h : i < v.length
    · simp only [lt_t h, nn_t, Bool.and_self, cond_true, Int.toNat_natCast, beq_self_eq_true, Bool.not_true, cond_false, w_succ (i := i) (by omega)]
      exact same_l4 v hb k (i + 1) h (by omega)
    · simp only [lt_f h, cond_false]

theorem same_is (v : Rw) (hb : v.length ≤ 1048576) : spec_SameFracs N0 v v = r1 true := by
  have := N0_big
  simp only [spec_SameFracs, spec_SameFracs_t, bne_self_eq_false, cond_false]
  exact same_l4 v hb N0 0 (by omega) (by omega)

def leF (a b : Fq) : Prop := a.1 * b.2 ≤ b.1 * a.2
def ltF (a b : Fq) : Prop := a.1 * b.2 < b.1 * a.2

theorem le_lt {a b c : Fq} (ha : 0 < a.2) (hb : 0 < b.2) (hc : 0 < c.2) (h1 : leF a b) (h2 : ltF b c) : ltF a c := by
  unfold leF ltF at *
  have p1 : a.1 * b.2 * c.2 ≤ b.1 * a.2 * c.2 := Int.mul_le_mul_of_nonneg_right h1 (by omega)
  have p2 : b.1 * c.2 * a.2 < c.1 * b.2 * a.2 := Int.mul_lt_mul_of_pos_right h2 ha
  have e1 : b.1 * a.2 * c.2 = b.1 * c.2 * a.2 := by grind
  have p3 : a.1 * c.2 * b.2 < c.1 * a.2 * b.2 := by grind
  exact Int.lt_of_mul_lt_mul_right p3 (by omega)

theorem lt_le {a b : Fq} (h : ltF a b) : leF a b := by unfold leF ltF at *; omega
theorem not_lt {a b : Fq} (h : ¬ ltF a b) : leF b a := by unfold leF ltF at *; omega

theorem sz_bd {a : Fq} (h : Bd a) : Bd (szF a) := by
  have h1 := h.1
  have h2 := h.2
  exact ⟨h1, by simp only; omega⟩

theorem cmp_iff {a b : Fq} (ha : Bd a) (hb : Bd b) : (cmpF a b > 0 ↔ ltF b a) ∧ (cmpF a b < 0 ↔ ltF a b) := by
  have h1 := bd_pq ha hb
  have h2 := bd_pq hb ha
  unfold cmpF ltF
  rw [w_in (x := a.1 * b.2) (by unfold I64; omega), w_in (x := b.1 * a.2) (by unfold I64; omega)]
  by_cases c1 : a.1 * b.2 < b.1 * a.2
  · rw [dec_t c1, cond_true]
    omega
  · rw [dec_f c1, cond_false]
    by_cases c2 : a.1 * b.2 > b.1 * a.2
    · rw [dec_t c2, cond_true]; omega
    · rw [dec_f c2, cond_false]; omega

theorem worst_is {L : List Fq} (hL : ∀ y ∈ L, Bd y) : ∀ (k i b : Nat), i + k = L.length → b < L.length → (∀ j, j < i → leF (szF (L.getD j (0, 0))) (szF (L.getD b (0, 0)))) → (∀ j, j < b → ltF (szF (L.getD j (0, 0))) (szF (L.getD b (0, 0)))) →
    worstUp L k i b < L.length ∧ (∀ j, j < L.length → leF (szF (L.getD j (0, 0))) (szF (L.getD (worstUp L k i b) (0, 0)))) ∧ (∀ j, j < worstUp L k i b → ltF (szF (L.getD j (0, 0))) (szF (L.getD (worstUp L k i b) (0, 0))))
  | 0, i, b, hik, hb, h1, h2 => ⟨hb, fun j hj => h1 j (by omega), h2⟩
  | k + 1, i, b, hik, hb, h1, h2 => by
    have bd : ∀ j, j < L.length → Bd (szF (L.getD j (0, 0))) := fun j hj => by rw [get_ix hj]; exact sz_bd (hL _ (List.getElem_mem hj))
    have hi : i < L.length := by omega
    have pos : ∀ j, j < L.length → 0 < (szF (L.getD j (0, 0))).2 := fun j hj => by have := (bd j hj).1; omega
    rw [worstUp]
    by_cases c : cmpF (szF (L.getD i (0, 0))) (szF (L.getD b (0, 0))) > 0
    · have hc := (cmp_iff (bd i hi) (bd b hb)).1.1 c
      rw [dec_t c, cond_true]
      refine worst_is hL k (i + 1) i (by omega) hi (fun j hj => ?_) fun j hj => ?_
      · by_cases e : j = i
        · subst e; unfold leF; omega
        · exact lt_le (le_lt (pos j (by omega)) (pos b hb) (pos i hi) (h1 j (by omega)) hc)
      · exact le_lt (pos j (by omega)) (pos b hb) (pos i hi) (h1 j hj) hc
    · have hc := not_lt fun h => c ((cmp_iff (bd i hi) (bd b hb)).1.2 h)
      rw [dec_f c, cond_false]
      refine worst_is hL k (i + 1) b (by omega) hb (fun j hj => ?_) h2
      by_cases e : j = i
      · subst e; exact hc
      · exact h1 j (by omega)

theorem sz_max {x : Int} (h : -1000000000 ≤ x ∧ x ≤ 1000000000) : (if x < IntKind.wrap .i64 (0 - x) then IntKind.wrap .i64 (0 - x) else x) = ((x.natAbs : Nat) : Int) := by
  rw [w_in (by unfold I64; omega)]
  split <;> omega

theorem less_get {α : Type} {v : List α} {k i : Nat} {d : α} (hk : k < v.length) (hi : i < v.length - 1) : (v.take k ++ v.drop (k + 1)).getD i d = if i < k then v.getD i d else v.getD (i + 1) d := by
  by_cases h : i < k
  · rw [if_pos h, List.getD_eq_getElem?_getD, List.getElem?_append_left (by rw [List.length_take]; omega), List.getElem?_take, if_pos h, ← List.getD_eq_getElem?_getD]
  · rw [if_neg h, List.getD_eq_getElem?_getD, List.getElem?_append_right (by rw [List.length_take]; omega), List.length_take, Nat.min_eq_left (by omega), List.getElem?_drop, ← List.getD_eq_getElem?_getD, show k + 1 + (i - k) = i + 1 by omega]

theorem sol_l54 (t : Tb) {k : Nat} (hk : k < t.2.1.length) (hl : t.2.1.length ≤ 24) (w : Tb) (c1 : Int) (c2 : Bool) (c3 c4 : Int) (v : List Ob) (hv : v = t.2.1.take k ++ t.2.1.drop (k + 1)) : ∀ (f i : Nat), i ≤ t.2.1.length - 1 → t.2.1.length - 1 - i < f →
    laws_FnSolved_l54 N0 f (i : Int) (k : Int) t.1 t.2.1 t.2.2.1 t.2.2.2.1 t.2.2.2.2 c1 c2 c3 c4 v = r1 true
  | 0, i, hi, hf => by omega
  | f + 1, i, hi, hf => by
    have hlv : v.length = t.2.1.length - 1 := by rw [hv, List.length_append, List.length_take, List.length_drop]; omega
    simp only [laws_FnSolved_l54, laws_FnSolved_t54]
    by_cases h : i < v.length
    · have hi' : i < t.2.1.length := by omega
      have hi1 : i + 1 < t.2.1.length := by omega
      have hg := less_get (d := dOb) hk (show i < t.2.1.length - 1 by omega)
      rw [← hv] at hg
      have ih := sol_l54 t hk hl w c1 c2 c3 c4 v hv f (i + 1) (by omega) (by omega)
      by_cases hik : i < k
      · rw [if_pos hik] at hg
        simp only [lt_t h, cond_true, dec_f (p := (i : Int) ≥ (k : Int)) (by omega), cond_false, nn_t, lt_t hi', Bool.and_self, Int.toNat_natCast, hg, beq_self_eq_true, Bool.not_true, w_succ (i := i) (by omega)]
        exact ih
      · rw [if_neg hik] at hg
        simp only [lt_t h, cond_true, dec_t (p := (i : Int) ≥ (k : Int)) (by omega), nn_t, w_succ (i := i) (by omega), lt_t hi1, Bool.and_self, Int.toNat_natCast, hg, beq_self_eq_true, Bool.not_true, cond_false]
        exact ih
    · rw [lt_f h, cond_false]

theorem sol_l45 (t : Tb) (ht : tabOk t = true) (hfit : ∀ o ∈ t.2.1, Fit6 o.1) {L : List Fq} (hL : ∀ y ∈ L, Bd y) (hll : L.length = t.2.1.length) {k : Nat} (hk : k < L.length) (h1 : ∀ j, j < L.length → leF (szF (L.getD j (0, 0))) (szF (L.getD k (0, 0))))
    (h2 : ∀ j, j < k → ltF (szF (L.getD j (0, 0))) (szF (L.getD k (0, 0)))) : ∀ (f i : Nat), i ≤ L.length → L.length - i < f →
    laws_FnSolved_l45 N0 f (i : Int) (k : Int) (szF (L.getD k (0, 0))).1 (szF (L.getD k (0, 0))).2 L t.1 t.2.1 t.2.2.1 t.2.2.2.1 t.2.2.2.2 = r1 true
  | 0, i, hi, hf => by omega
  | f + 1, i, hi, hf => by
    have := N0_big
    have h24 : t.2.1.length ≤ 24 := (tab_ok ht).2.1
    simp only [laws_FnSolved_l45, laws_FnSolved_t45]
    by_cases h : i < L.length
    · have bi : Bd (L.getD i (0, 0)) := by rw [get_ix h]; exact hL _ (List.getElem_mem h)
      have bk : Bd (L.getD k (0, 0)) := by rw [get_ix hk]; exact hL _ (List.getElem_mem hk)
      have hno : ¬ cmpF (szF (L.getD k (0, 0))) (szF (L.getD i (0, 0))) < 0 := fun hc => by
        have a1 := (cmp_iff (sz_bd bk) (sz_bd bi)).2.1 hc
        have a2 := h1 i h
        unfold leF at a2
        unfold ltF at a1
        omega
      have ih := sol_l45 t ht hfit hL hll hk h1 h2 f (i + 1) h (by omega)
      simp only [lt_t h, nn_t, Bool.and_self, cond_true, Int.toNat_natCast, sz_max bi.2, w_succ (i := i) (by omega)]
      rw [show ((((L.getD i (0, 0)).1.natAbs : Nat) : Int), (L.getD i (0, 0)).2) = szF (L.getD i (0, 0)) from rfl, show ((szF (L.getD k (0, 0))).1, (szF (L.getD k (0, 0))).2) = szF (L.getD k (0, 0)) from rfl, sv_less, dec_f hno, Bool.and_false, Option.bind_some]
      dsimp only
      rw [cond_false]
      by_cases hik : i < k
      · have hne : (((((L.getD i (0, 0)).1.natAbs : Nat) : Int) == (((L.getD k (0, 0)).1.natAbs : Nat) : Int)) && (((L.getD i (0, 0)).2 == (L.getD k (0, 0)).2) && true)) = false := by
          have a1 := h2 i hik
          unfold ltF at a1
          simp only at a1
          by_cases e1 : (((L.getD i (0, 0)).1.natAbs : Nat) : Int) = (((L.getD k (0, 0)).1.natAbs : Nat) : Int)
          · by_cases e2 : (L.getD i (0, 0)).2 = (L.getD k (0, 0)).2
            · rw [e1, e2] at a1; omega
            · rw [eq_f e2]; simp
          · rw [eq_f e1]; simp
        rw [lt_t hik, cond_true, hne, cond_false]
        exact ih
      · rw [lt_f hik, cond_false]
        exact ih
    · rw [lt_f h, cond_false]
      simp only [pr_eta]
      rw [impl_WithoutObs_is t (k : Int) (by omega) hfit]
      unfold woT
      rw [ht, btw_iff.2 (show 0 ≤ (k : Int) ∧ (k : Int) ≤ (t.2.1.length : Int) - 1 by omega)]
      simp only [Bool.not_true, cond_false, Option.bind_some, Int.toNat_natCast, bne_self_eq_false]
      have hlv : ((t.2.1.take k ++ t.2.1.drop (k + 1)).length : Int) = IntKind.wrap .i64 ((t.2.1.length : Int) - 1) := by
        rw [w_in (by unfold I64; omega), List.length_append, List.length_take, List.length_drop]
        omega
      rw [ne_f hlv, cond_false]
      exact sol_l54 t (by omega) h24 t _ _ _ _ _ rfl N0 0 (by omega) (by omega)

theorem sol_l22 (G : Int → List Int → Int → List Fq → List Rw → List Fq → Int → List Ob → Bool → Int → Int → Option (((Bool × Unit) × Unit) × Unit)) {n : Nat} (hn : n ≤ 1000) {R : List Rw} {r x : Rw} (hR : Sq n R) (hrl : r.length = n) (hxl : x.length = n)
    (hRv : ∀ y ∈ R, y.all vF = true) (hrv : ∀ y ∈ r, vF y = true) (hxv : ∀ y ∈ x, vF y = true) (hS : Sol n R r (fun j => qv (x.getD j (0, 0)))) (more : List Int) (t : Tb) {i : Nat} (hi : i < n)
    (hG : G ((i + 1 : Nat) : Int) more 0 x R r t.1 t.2.1 t.2.2.1 t.2.2.2.1 t.2.2.2.2 = r1 true) : ∀ (f k : Nat) (s : Fq), k ≤ n → n - k < f → vF s = true → qv s = dotQ (fun j => qv (x.getD j (0, 0))) ((R.getD i []).take k) 0 →
    laws_FnSolved_l22 N0 G f (k : Int) (i : Int) more 0 s.1 s.2 x R r t.1 t.2.1 t.2.2.1 t.2.2.2.1 t.2.2.2.2 = r1 true
  | 0, k, s, hk, hf, _, _ => by omega
  | f + 1, k, s, hk, hf, hs, hq => by
    have hiR : i < R.length := by rw [hR.1]; exact hi
    have hir : i < r.length := by omega
    have hrow := hR.2 i hi
    simp only [laws_FnSolved_l22, laws_FnSolved_t22, hR.1]
    by_cases h : k < n
    · have hkr : k < (R.getD i []).length := by omega
      have hkx : k < x.length := by omega
      have va : vF ((R.getD i []).getD k (0, 0)) = true := by
        rw [get_ix hkr]
        have := hRv _ (List.getElem_mem hiR)
        rw [← get_ix hiR []] at this
        exact List.all_eq_true.1 this _ (List.getElem_mem hkr)
      have vb : vF (x.getD k (0, 0)) = true := by rw [get_ix hkx]; exact hxv _ (List.getElem_mem hkx)
      simp only [lt_t h, lt_t hi, lt_t hkr, lt_t hkx, nn_t, Bool.and_self, cond_true, Int.toNat_natCast, pr_eta, sv_mul va vb, Option.bind_some]
      cases hm : fmul ((R.getD i []).getD k (0, 0)) (x.getD k (0, 0)) with
      | none =>
        obtain ⟨c, d, e⟩ := sv_add_ex s (0, 0)
        simp only [Option.getD_none, e, Option.bind_some]
        rfl
      | some e =>
        have ve := mkF_valid hm
        simp only [Option.getD_some, sv_add hs ve, Option.bind_some, Option.isSome_some, cond_true, bne_self_eq_false, cond_false]
        cases ha : fadd s e with
        | none => rfl
        | some e2 =>
          simp only [Option.getD_some, Option.isSome_some, cond_true, bne_self_eq_false, cond_false, w_succ (i := k) (by omega)]
          refine sol_l22 G hn hR hrl hxl hRv hrv hxv hS more t hi hG f (k + 1) e2 h (by omega) (mkF_valid ha) ?_
          rw [take_ix hkr, dotQ_app, qv_add (Bd.of hs) (Bd.of ve) ha, qv_mul (Bd.of va) (Bd.of vb) hm, hq, List.length_take, Nat.min_eq_left (by omega), dotQ, dotQ, get_ix hkr, Nat.zero_add]
          grind
    · have : k = n := by omega
      subst this
      rw [List.take_of_length_le (by omega), hS i hi] at hq
      have e : s = r.getD i (0, 0) := qv_inj hs (by rw [get_ix hir]; exact hrv _ (List.getElem_mem hir)) hq
      subst e
      simp only [lt_f h, cond_false, lt_t hir, nn_t, Bool.and_self, cond_true, Int.toNat_natCast, beq_self_eq_true, Bool.not_true, w_succ (i := i) (by omega)]
      exact hG

theorem sol_rest {t : Tb} (ht : TbD t) (hfit : ∀ o ∈ t.2.1, Fit6 o.1) {more : List Int} (hm : ∀ y ∈ more, 0 ≤ y ∧ y ≤ 255) (hml : more.length ≤ 1000000) (h22 : Nat → Int → Int → List Int → Int → Int → Int → List Fq → List Rw → List Fq → Int → List Ob → Bool → Int → Int → Option (((Bool × Unit) × Unit) × Unit))
    (g18 : Int → List Int → Int → List Fq → List Rw → List Fq → Int → List Ob → Bool → Int → Int → Option (((Bool × Unit) × Unit) × Unit)) (i : Int) (c : Int) (x : List Fq) (R : List Rw) (r : List Fq) (hc : c ≠ 0 ∨ ¬ i < (R.length : Int)) :
    laws_FnSolved_t18 N0 h22 (laws_FnSolved_l45 N0) g18 i more c x R r t.1 t.2.1 t.2.2.1 t.2.2.2.1 t.2.2.2.2 = r1 true := by
  have := N0_big
  obtain ⟨y, e1, e2, e3⟩ := P6Numbers_is hm (by omega) (t := t) (by have := ht.ct; omega)
  have hyl : y.length ≤ 9223372036854775807 := by have := ht.ct; omega
  have hb : t.2.1.length ≤ 9223372036854775807 := by have := ht.len; omega
  have hask : askC t y = 0 := by
    unfold askC
    rw [ht.ok, e3, ne_f e2]
    rfl
  have hres : resRes t y = bif (allG y t.2.1).2 then r2 [] 3 else r2 (allG y t.2.1).1 0 := by
    unfold resRes
    rw [hask]
    rfl
  have hwob : wobRes t y = bif (allG y t.2.1).2 then r3 0 (0, 0) 3 else bif (((allG y t.2.1).1.length : Nat) : Int) == 0 then r3 0 (0, 0) 6 else worstRes (allG y t.2.1).1 (worstUp (allG y t.2.1).1 (allG y t.2.1).1.length 0 0) := by
    unfold wobRes
    rw [hask]
    rfl
  have hgo : (spec_P6Numbers N0 more ((t.1, (t.2.1, (t.2.2.1, (t.2.2.2.1, t.2.2.2.2)))))) = r1 y := e1
  have hlen := allG_len y t.2.1
  have hbd := allG_bd y t.2.1 (fun o ho => ((tab_ok ht.ok).2.2.1 o ho).1.2)
  have h7 := ht.len
  unfold laws_FnSolved_t18
  by_cases hi : i < (R.length : Int)
  · have hc : c ≠ 0 := by rcases hc with h | h; exact h; exact absurd hi h
    rw [dec_t hi, cond_true, eq_f hc, cond_false, hgo, Option.bind_some]
    simp only [pr_eta]
    rw [impl_ResidualsOf_is t y hb hfit hyl, spec_ResidualsOf_is t y hb hyl, impl_WorstObs_is t y hb hfit hyl, hres, hwob]
    generalize (allG y t.2.1).1 = L at *
    cases (allG y t.2.1).2 with
    | true =>
      simp only [cond_true, Option.bind_some, bne_self_eq_false, cond_false, same_is [] (by simp), Bool.not_true]
      rfl
    | false =>
      simp only [cond_false, Option.bind_some, bne_self_eq_false, same_is L (by omega), Bool.not_true]
      by_cases h0 : (L.length : Int) = 0
      · rw [eq_t h0]
        rfl
      · rw [eq_f h0]
        obtain ⟨w1, w2, w3⟩ := worst_is hbd L.length 0 0 (by omega) (by omega) (fun j hj => by omega) (fun j hj => by omega)
        generalize worstUp L L.length 0 0 = k at *
        have bk : Bd (L.getD k (0, 0)) := by rw [get_ix w1]; exact hbd _ (List.getElem_mem w1)
        simp only [worstRes, Option.bind_some, cond_false, bne_self_eq_false, dec_f (p := (k : Int) < 0) (by omega), dec_f (p := (k : Int) ≥ (L.length : Int)) (by omega), nn_t, lt_t w1, Bool.and_self, cond_true, Int.toNat_natCast, beq_self_eq_true, Bool.not_true, sz_max bk.2]
        exact sol_l45 t ht.ok hfit hbd hlen w1 w2 w3 N0 0 (by omega) (by omega)
  · rw [dec_f hi, cond_false, hgo, Option.bind_some]
    simp only [pr_eta]
    rw [impl_ResidualsOf_is t y hb hfit hyl, spec_ResidualsOf_is t y hb hyl, impl_WorstObs_is t y hb hfit hyl, hres, hwob]
    generalize (allG y t.2.1).1 = L at *
    cases (allG y t.2.1).2 with
    | true =>
      simp only [cond_true, Option.bind_some, bne_self_eq_false, cond_false, same_is [] (by simp), Bool.not_true]
      rfl
    | false =>
      simp only [cond_false, Option.bind_some, bne_self_eq_false, same_is L (by omega), Bool.not_true]
      by_cases h0 : (L.length : Int) = 0
      · rw [eq_t h0]
        rfl
      · rw [eq_f h0]
        obtain ⟨w1, w2, w3⟩ := worst_is hbd L.length 0 0 (by omega) (by omega) (fun j hj => by omega) (fun j hj => by omega)
        generalize worstUp L L.length 0 0 = k at *
        have bk : Bd (L.getD k (0, 0)) := by rw [get_ix w1]; exact hbd _ (List.getElem_mem w1)
        simp only [worstRes, Option.bind_some, cond_false, bne_self_eq_false, dec_f (p := (k : Int) < 0) (by omega), dec_f (p := (k : Int) ≥ (L.length : Int)) (by omega), nn_t, lt_t w1, Bool.and_self, cond_true, Int.toNat_natCast, beq_self_eq_true, Bool.not_true, sz_max bk.2]
        exact sol_l45 t ht.ok hfit hbd hlen w1 w2 w3 N0 0 (by omega) (by omega)

theorem sol_l18 {t : Tb} (ht : TbD t) (hfit : ∀ o ∈ t.2.1, Fit6 o.1) {more : List Int} (hm : ∀ y ∈ more, 0 ≤ y ∧ y ≤ 255) (hml : more.length ≤ 1000000) {n : Nat} (hn : n ≤ 1000) {R : List Rw} {r x : Rw} (hR : Sq n R) (hrl : r.length = n) (hxl : x.length = n)
    (hRv : ∀ y ∈ R, y.all vF = true) (hrv : ∀ y ∈ r, vF y = true) (hxv : ∀ y ∈ x, vF y = true) (hS : Sol n R r (fun j => qv (x.getD j (0, 0)))) : ∀ (f i : Nat), i ≤ n → n - i < f →
    laws_FnSolved_l18 N0 f (i : Int) more 0 x R r t.1 t.2.1 t.2.2.1 t.2.2.2.1 t.2.2.2.2 = r1 true
  | 0, i, hi, hf => by omega
  | f + 1, i, hi, hf => by
    have := N0_big
    rw [laws_FnSolved_l18]
    by_cases h : i < n
    · rw [laws_FnSolved_t18, hR.1, lt_t h, cond_true, eq_t rfl, cond_true]
      exact sol_l22 (laws_FnSolved_l18 N0 f) hn hR hrl hxl hRv hrv hxv hS more t h (sol_l18 ht hfit hm hml hn hR hrl hxl hRv hrv hxv hS f (i + 1) h (by omega)) N0 0 (0, 1) (by omega) (by omega) (by decide) (by rw [List.take_zero, dotQ, qv_zero rfl])
    · exact sol_rest ht hfit hm hml _ _ _ _ _ _ _ (.inr (by rw [hR.1]; omega))

theorem sol_l9 {t : Tb} (ht : TbD t) (hfit : ∀ o ∈ t.2.1, Fit6 o.1) {more : List Int} (hm : ∀ y ∈ more, 0 ≤ y ∧ y ≤ 255) (hml : more.length ≤ 1000000) : ∀ (f i : Nat), i ≤ (norP t).1.length → (norP t).1.length - i < f →
    laws_FnSolved_l9 N0 f (i : Int) more (norP t).1 (List.range (norP t).1.length) (norP t).1 (norP t).2.1 t.1 t.2.1 t.2.2.1 t.2.2.2.1 t.2.2.2.2 = r1 true
  | 0, i, hi, hf => by omega
  | f + 1, i, hi, hf => by
    have := N0_big
    obtain ⟨p1, p2, p3⟩ := norP_len t
    have hcode := drawn_code ht
    obtain ⟨g1, g2, g3, H⟩ := norP_pl hcode
    obtain ⟨v1, v2⟩ := norP_valid hcode
    simp only [laws_FnSolved_l9, laws_FnSolved_t9, List.length_range]
    by_cases h : i < (norP t).1.length
    · have hat : (List.range (norP t).1.length).getD i 0 = i := by simp [List.getD_eq_getElem?_getD, h]
      have hx : ((norP t).1.getD i []).length ≤ 1048576 := by rw [get_ix h]; have := p2 _ (List.getElem_mem h); omega
      simp only [lt_t h, nn_t, Bool.and_self, cond_true, Int.toNat_natCast, hat, same_is _ hx, Option.bind_some, Bool.not_true, cond_false, w_succ (i := i) (by omega)]
      exact sol_l9 ht hfit hm hml f (i + 1) h (by omega)
    · have hsl := sfP_len (norP t).1 (norP t).2.1
      have esf : sfP (norP t).1 (norP t).2.1 = finM (stepsM (norP t).1.length (norP t).1.length 0 (norP t).1 (norP t).2.1) := by
        unfold sfP
        rw [v1, v2]
        rfl
      simp only [lt_f h, cond_false, impl_SolveFracs_is _ _ (show (norP t).1.length ≤ 1048577 by omega) (fun x hx => by have := p2 x hx; omega) (show (norP t).2.1.length ≤ 1048577 by omega), spec_SolveFracs_is _ _ (show (norP t).1.length ≤ 1048577 by omega) (fun x hx => by have := p2 x hx; omega) (show (norP t).2.1.length ≤ 1048577 by omega),
        Option.bind_some, bne_self_eq_false, same_is _ (show (sfP (norP t).1 (norP t).2.1).1.length ≤ 1048576 by omega), Bool.not_true]
      rw [Bool.and_eq_true] at v1
      by_cases hc : (sfP (norP t).1 (norP t).2.1).2 = 0
      · rw [hc]
        rw [esf] at hc ⊢
        obtain ⟨s1, s2, s3⟩ := fin_sol (by omega) ⟨_, _, H⟩ hc
        exact sol_l18 ht hfit hm hml (n := (norP t).1.length) (by omega) H.toSq H.rr s2 (fun y hy => List.all_eq_true.1 v1.2 y hy) (fun y hy => List.all_eq_true.1 v1.1 y hy) s3 s1 N0 0 (by omega) (by omega)
      · obtain ⟨N, hN⟩ : ∃ N, N0 = N + 1 := ⟨N0 - 1, by omega⟩
        have : ∀ z, laws_FnSolved_l18 N0 N0 z = laws_FnSolved_l18 N0 (N + 1) z := fun z => by rw [← hN]
        rw [this, laws_FnSolved_l18]
        exact sol_rest ht hfit hm hml _ _ _ _ _ _ _ (.inl hc)

theorem law_FnSolved (code more : List Int) (hc : WfD (.list (.int .u8)) code) (hm : WfD (.list (.int .u8)) more) : laws_FnSolved N0 code more = r1 true := by
  have := N0_big
  simp only [laws_FnSolved, laws_FnSolved_t, laws_f6big, laws_f6big_t, Option.bind_some]
  by_cases h1 : (code.length : Int) > 4096
  · rw [dec_t h1]; rfl
  · by_cases h2 : (more.length : Int) > 4096
    · rw [dec_f h1, dec_t h2]; rfl
    · obtain ⟨t, e, ht⟩ := P6Table_is (code_wf hc) (by omega)
      have hb : t.2.1.length ≤ 9223372036854775807 := by have := ht.len; omega
      have hfit : ∀ o ∈ t.2.1, Fit6 o.1 := fun o ho j => by
        have := (ht.obs o ho).cf
        by_cases hj : j < 6
        · have := this j hj; unfold I64; omega
        · have e : at6 o.1 j = 0 := by
            obtain ⟨k, rfl⟩ : ∃ k, j = k + 6 := ⟨j - 6, by omega⟩
            rfl
          rw [e]; unfold I64; omega
      obtain ⟨p1, p2, p3⟩ := norP_len t
      simp only [dec_f h1, dec_f h2, cond_false, e, Option.bind_some, pr_eta, impl_NormalOf_is t hb hfit, spec_NormalOf_is t hb, bne_self_eq_false, drawn_code ht, List.length_range, same_is _ (show (norP t).2.1.length ≤ 1048576 by omega), Bool.not_true]
      exact sol_l9 ht hfit (code_wf hm) (by omega) N0 0 (by omega) (by omega)
end Go.Abs
