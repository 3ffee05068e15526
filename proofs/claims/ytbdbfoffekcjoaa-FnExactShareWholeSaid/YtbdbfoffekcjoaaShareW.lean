/- ShareWhole: what the program's and the reference's give. -/
import Derived.Test.YtbdbfoffekcjoaaShare
namespace Go.Abs
set_option linter.unusedSimpArgs false
set_option linter.unusedSectionVars false
set_option linter.unusedVariables false

/-- within the bounds that are asked for -/
def inR (x : Int) : Bool := btw x (-1000000000) 1000000000

/-- shares of a closing error -/
def shr (e q m : Int) : Nat → List Int → List Int
  | _, [] => []
  | i, x :: r => (bif decide ((i : Int) < e - q * m) then x - q - 1 else x - q) :: shr e q m (i + 1) r

theorem shr_len (e q m : Int) : ∀ (i : Nat) (v : List Int), (shr e q m i v).length = v.length
  | _, [] => rfl
  | i, x :: r => by rw [shr, List.length_cons, List.length_cons, shr_len]

def shareOut (v : List Int) (t : Int) : List Int := shr (sumL v - t) ((sumL v - t) / (v.length : Int)) (v.length : Int) 0 v
def shareOk (v : List Int) (t : Int) : Bool := btw (v.length : Int) 1 64 && (inR t && v.all inR)

theorem inR_iff {x : Int} : inR x = true ↔ -1000000000 ≤ x ∧ x ≤ 1000000000 := btw_iff

theorem inR_at {v : List Int} (hv : v.all inR = true) {i : Nat} (h : i < v.length) : -1000000000 ≤ v[i] ∧ v[i] ≤ 1000000000 :=
  inR_iff.1 (List.all_eq_true.1 hv _ (List.getElem_mem h))

section
variable {v : List Int} (hv : v.all inR = true) (hm : v.length ≤ 64) {e q : Int} (he : -1000000000000 ≤ e ∧ e ≤ 1000000000000) (hq : -1000000000000 ≤ q ∧ q ≤ 1000000000000)
include hv hm he hq

theorem shr_w : IntKind.wrap .i64 (e - IntKind.wrap .i64 (q * (v.length : Int))) = e - q * (v.length : Int) := by
  have := mul_bd (a := q) (b := (v.length : Int)) (A := 1000000000000) (B := 64) (by omega) (by omega)
  rw [w_in (x := q * (v.length : Int)) (by unfold I64; omega), w_in (by unfold I64; omega)]

theorem spec_ShareWhole_l17_is (n : Nat) : ∀ (k i : Nat) (b : List Int), i ≤ v.length → b.length ≤ i → v.length - i < k →
    spec_ShareWhole_l17 n k (i : Int) (v.length : Int) q e v b = r2 (b ++ shr e q (v.length : Int) i (v.drop i)) 0
  | 0, i, b, _, _, hk => by omega
  | k + 1, i, b, hi, hl, hk => by
    simp only [spec_ShareWhole_l17, spec_ShareWhole_t17]
    by_cases h : i < v.length
    · have hx := inR_at hv h
      simp only [lt_t h, nn_t, Bool.and_self, cond_true, Int.toNat_natCast, get_ix h, w_succ (i := i) (by omega), shr_w hv hm he hq, List.length_singleton, room_t (k := b.length + 1) (c := 9) (by omega)]
      rw [w_in (x := v[i] - q) (by unfold I64; omega), w_in (x := v[i] - q - 1) (by unfold I64; omega), drop_ix h, shr]
      cases decide ((i : Int) < e - q * (v.length : Int)) with
      | true =>
        rw [cond_true, cond_true, spec_ShareWhole_l17_is n k (i + 1) _ h (by simp; omega) (by omega)]
        simp
      | false =>
        rw [cond_false, cond_false, spec_ShareWhole_l17_is n k (i + 1) _ h (by simp; omega) (by omega)]
        simp
    · have : i = v.length := by omega
      subst this
      simp only [lt_f h, cond_false]
      simp [shr]

theorem impl_ShareWhole_l11_is (n : Nat) : ∀ (k i : Nat) (b : List Int), i ≤ v.length → b.length ≤ i → v.length - i < k →
    impl_ShareWhole_l11 n k (i : Int) q (v.length : Int) e v (v.length : Int) b = r2 (b ++ shr e q (v.length : Int) i (v.drop i)) 0
  | 0, i, b, _, _, hk => by omega
  | k + 1, i, b, hi, hl, hk => by
    simp only [impl_ShareWhole_l11, impl_ShareWhole_t11]
    by_cases h : i < v.length
    · have hx := inR_at hv h
      simp only [lt_t h, nn_t, Bool.and_self, cond_true, Int.toNat_natCast, get_ix h, w_succ (i := i) (by omega), shr_w hv hm he hq, List.length_singleton, room_t (k := b.length + 1) (c := 9) (by omega)]
      rw [w_in (x := v[i] - 1) (by unfold I64; omega), w_in (x := v[i] - q) (by unfold I64; omega), w_in (x := v[i] - 1 - q) (by unfold I64; omega), drop_ix h, shr, show v[i] - q - 1 = v[i] - 1 - q by omega]
      cases decide ((i : Int) < e - q * (v.length : Int)) with
      | true =>
        rw [cond_true, cond_true, impl_ShareWhole_l11_is n k (i + 1) _ h (by simp; omega) (by omega)]
        simp
      | false =>
        rw [cond_false, cond_false, impl_ShareWhole_l11_is n k (i + 1) _ h (by simp; omega) (by omega)]
        simp
    · have : i = v.length := by omega
      subst this
      simp only [lt_f h, cond_false]
      simp [shr]
end

theorem sumL_drop {v : List Int} (hv : v.all inR = true) (i : Nat) : -(1000000000 * (v.length : Int)) ≤ sumL (v.drop i) ∧ sumL (v.drop i) ≤ 1000000000 * (v.length : Int) := by
  have := sumL_bd (v := v.drop i) (B := 1000000000) (by omega) (fun x hx => inR_iff.1 (List.all_eq_true.1 hv _ (List.mem_of_mem_drop hx)))
  rw [List.length_drop] at this
  omega

theorem spec_ShareWhole_l11_is {v : List Int} (hv : v.all inR = true) (hp : 0 < v.length) (hm : v.length ≤ 64) : ∀ (k i : Nat) (e : Int), i ≤ v.length → -1000000000 * (1 + (i : Int)) ≤ e → e ≤ 1000000000 * (1 + (i : Int)) → v.length - i < k →
    spec_ShareWhole_l11 N0 k (i : Int) v e (v.length : Int) = r2 (shr (e + sumL (v.drop i)) ((e + sumL (v.drop i)) / (v.length : Int)) (v.length : Int) 0 v) 0
  | 0, i, e, _, _, _, hk => by omega
  | k + 1, i, e, hi, he1, he2, hk => by
    have := N0_big
    simp only [spec_ShareWhole_l11, spec_ShareWhole_t11]
    by_cases h : i < v.length
    · have hx := inR_at hv h
      simp only [lt_t h, nn_t, Bool.and_self, cond_true, Int.toNat_natCast, get_ix h, w_succ (i := i) (by omega)]
      rw [w_in (x := e + v[i]) (by unfold I64; omega), spec_ShareWhole_l11_is hv hp hm k (i + 1) _ h (by omega) (by omega) (by omega), drop_ix h, sumL, Int.add_assoc]
    · have : i = v.length := by omega
      subst this
      have hd := div_bd (e := e) (m := (v.length : Int)) (A := 1000000000000) (by omega) (by omega)
      simp only [lt_f h, cond_false]
      rw [spec_l01Down_is N0 (by omega) (by unfold I64; omega)]
      simp only [Option.bind_some]
      have := spec_ShareWhole_l17_is hv hm (e := e) (q := e / (v.length : Int)) (by omega) hd N0 N0 0 [] (by omega) (by simp) (by omega)
      simpa [sumL] using this

theorem impl_ShareWhole_l5_is {v : List Int} (hv : v.all inR = true) (hp : 0 < v.length) (hm : v.length ≤ 64) : ∀ (k i : Nat) (e : Int), i ≤ v.length → -1000000000 * (1 + (i : Int)) ≤ e → e ≤ 1000000000 * (1 + (i : Int)) → v.length - i < k →
    impl_ShareWhole_l5 N0 k (i : Int) e v (v.length : Int) v (v.length : Int) = r2 (shr (e + sumL (v.drop i)) ((e + sumL (v.drop i)) / (v.length : Int)) (v.length : Int) 0 v) 0
  | 0, i, e, _, _, _, hk => by omega
  | k + 1, i, e, hi, he1, he2, hk => by
    have := N0_big
    simp only [impl_ShareWhole_l5, impl_ShareWhole_t5]
    by_cases h : i < v.length
    · have hx := inR_at hv h
      simp only [lt_t h, nn_t, Bool.and_self, cond_true, Int.toNat_natCast, get_ix h, w_succ (i := i) (by omega)]
      rw [w_in (x := e + v[i]) (by unfold I64; omega), impl_ShareWhole_l5_is hv hp hm k (i + 1) _ h (by omega) (by omega) (by omega), drop_ix h, sumL, Int.add_assoc]
    · have : i = v.length := by omega
      subst this
      have hd := div_bd (e := e) (m := (v.length : Int)) (A := 1000000000000) (by omega) (by omega)
      simp only [lt_f h, cond_false]
      rw [impl_floorDiv_is N0 (by omega) (by unfold I64; omega)]
      simp only [Option.bind_some]
      have := impl_ShareWhole_l11_is hv hm (e := e) (q := e / (v.length : Int)) (by omega) hd N0 N0 0 [] (by omega) (by simp) (by omega)
      simpa [sumL] using this

/-- the answer -/
abbrev shareRes (v : List Int) (t : Int) : Option (((List Int × Unit) × ((Int × Unit) × Unit)) × Unit) := bif shareOk v t then r2 (shareOut v t) 0 else r2 [] 2

theorem spec_ShareWhole_l4_is (v : List Int) (t : Int) (hb : v.length ≤ 4611686018427387904) : ∀ (k i : Nat) (b : Bool), i ≤ v.length → v.length - i < k →
    (b = true → btw (v.length : Int) 1 64 = true ∧ inR t = true ∧ (v.take i).all inR = true) →
    spec_ShareWhole_l4 N0 k (i : Int) v (v.length : Int) t b = bif b && (v.drop i).all inR then r2 (shareOut v t) 0 else r2 [] 2
  | 0, i, b, _, hk, _ => by omega
  | k + 1, i, b, hi, hk, hb' => by
    have := N0_big
    simp only [spec_ShareWhole_l4, spec_ShareWhole_t4]
    cases b with
    | false => cases decide ((i : Int) < ((v.length : Nat) : Int)) <;> rfl
    | true =>
      obtain ⟨hl, ht, hta⟩ := hb' rfl
      rw [btw_iff] at hl
      by_cases h : i < v.length
      · simp only [lt_t h, nn_t, Bool.and_self, cond_true, Int.toNat_natCast, get_ix h, w_succ (i := i) (by omega), spec_l00In_is, Option.bind_some]
        rw [spec_ShareWhole_l4_is v t hb k (i + 1) _ h (by omega) (fun hr => ⟨btw_iff.2 hl, ht, by rw [take_ix h, List.all_append, hta]; simpa [inR] using hr⟩), drop_ix h, List.all_cons, Bool.true_and]
        rfl
      · have : i = v.length := by omega
        subst this
        have hv : v.all inR = true := by simpa using hta
        rw [inR_iff] at ht
        simp only [lt_f h, cond_false, Bool.not_true, List.drop_length, List.all_nil, Bool.and_self, cond_true]
        rw [w_in (x := 0 - t) (by unfold I64; omega)]
        have := spec_ShareWhole_l11_is hv (by omega) (by omega) N0 0 (0 - t) (by omega) (by omega) (by omega) (by omega)
        rw [List.drop_zero, show 0 - t + sumL v = sumL v - t by omega] at this
        exact this

theorem spec_ShareWhole_is (v : List Int) (t : Int) (hb : v.length ≤ 4611686018427387904) : spec_ShareWhole N0 v t = shareRes v t := by
  have := N0_big
  have key : ∀ b : Bool, (b = true → btw (v.length : Int) 1 64 = true ∧ inR t = true) → spec_ShareWhole_l4 N0 N0 0 v (v.length : Int) t b = bif b && v.all inR then r2 (shareOut v t) 0 else r2 [] 2 := by
    intro b hb'
    have := spec_ShareWhole_l4_is v t hb N0 0 b (by omega) (by omega) (fun h => ⟨(hb' h).1, (hb' h).2, by simp⟩)
    simpa using this
  simp only [spec_ShareWhole, spec_ShareWhole_t, spec_l00In_is, Option.bind_some]
  unfold shareRes shareOk
  cases hl : btw (v.length : Int) 1 64 with
  | false => rw [cond_false, key false (by simp)]; rfl
  | true =>
    rw [cond_true]
    change spec_ShareWhole_l4 N0 N0 0 v (v.length : Int) t (inR t) = _
    rw [key _ (fun h => ⟨hl, h⟩), Bool.true_and]

theorem impl_ShareWhole_1_is (n : Nat) (x : Int) : impl_ShareWhole_1 n x = r1 (!inR x) := by
  simp only [impl_ShareWhole_1, impl_ShareWhole_1_t, impl_within_is, Option.bind_some]
  rfl

theorem impl_ShareWhole_c_is (v : List Int) (hb : v.length ≤ 4611686018427387904) : slices_ContainsFunc_int64_int64_at_impl_ShareWhole_1 N0 v = r1 (v.any fun x => !inR x) := by
  simp only [slices_ContainsFunc_int64_int64_at_impl_ShareWhole_1, slices_ContainsFunc_int64_int64_at_impl_ShareWhole_1_t, slices_IndexFunc_int64_int64_at_impl_ShareWhole_1, slices_IndexFunc_int64_int64_at_impl_ShareWhole_1_t]
  rw [idx_all (L := slices_IndexFunc_int64_int64_at_impl_ShareWhole_1_l2 N0) (d := 0) (fun x => !inR x) (impl_ShareWhole_1_is N0) (fun _ _ _ _ => rfl) v hb]
  simp only [Option.bind_some, fIdx_any]

theorem any_not {α : Type} (p : α → Bool) (v : List α) : (v.any fun x => !p x) = !v.all p := by
  induction v with
  | nil => rfl
  | cons x r ih => rw [List.any_cons, List.all_cons, ih]; cases p x <;> rfl

theorem impl_ShareWhole_is (v : List Int) (t : Int) (hb : v.length ≤ 1048576) : impl_ShareWhole N0 v t = shareRes v t := by
  have := N0_big
  simp only [impl_ShareWhole, impl_ShareWhole_t]
  unfold shareRes shareOk
  by_cases h0 : v.length = 0
  · rw [eq_t (by omega), cond_true, show btw (v.length : Int) 1 64 = false by rw [h0]; rfl]
    rfl
  · rw [eq_f (by omega), cond_false]
    by_cases h64 : v.length ≤ 64
    · rw [gt_f (by omega), cond_false, show btw (v.length : Int) 1 64 = true by rw [btw_iff]; omega, List.length_singleton, room_t (by omega), cond_true, List.cons_append, List.nil_append]
      rw [impl_ShareWhole_c_is (t :: v) (by simp; omega), any_not]
      simp only [Option.bind_some, List.all_cons]
      cases ht : inR t with
      | false => rfl
      | true =>
        cases hv : v.all inR with
        | false => rfl
        | true =>
          simp only [Bool.and_self, Bool.not_true, cond_false, cond_true]
          rw [inR_iff] at ht
          rw [w_in (x := 0 - t) (by unfold I64; omega)]
          have := impl_ShareWhole_l5_is hv (by omega) (by omega) N0 0 (0 - t) (by omega) (by omega) (by omega) (by omega)
          rw [List.drop_zero, show 0 - t + sumL v = sumL v - t by omega] at this
          exact this
    · rw [gt_t (by omega), cond_true, show btw (v.length : Int) 1 64 = false by cases hc : btw (v.length : Int) 1 64; rfl; rw [btw_iff] at hc; omega]
      rfl
end Go.Abs
