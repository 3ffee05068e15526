/- Sums, means, the middle of lists of fractions over one denominator. -/
import Derived.Test.YtpamckmeeamjjaaGreatDoorFrL
namespace Go.Abs
set_option linter.unusedSectionVars false
set_option linter.unusedSimpArgs false
set_option linter.unusedVariables false

section
variable {D : Int} (h : Dn D)
include h

theorem cF_zero : cF D 0 = (0, 1) := by
  unfold cF
  rw [mkF_zero h.1]
  rfl

theorem fsum_c (Bs : List Int) : ∀ (X : Int), (∀ b ∈ Bs, -1280 ≤ b ∧ b ≤ 1280) → -100000 + 1280 * (Bs.length : Int) ≤ X → X ≤ 100000 - 1280 * (Bs.length : Int) → fsum (cF D X) (Bs.map (cF D)) = some (cF D (X + Bs.sum)) := by
  induction Bs with
  | nil => intro X _ _ _; rw [List.map_nil, fsum, List.sum_nil, Int.add_zero]
  | cons b r ih =>
    intro X hb h1 h2
    have hbb := hb b (by simp)
    simp only [List.length_cons, Int.natCast_add, Int.natCast_one] at h1 h2
    have e : fadd (cF D X) (cF D b) = some (cF D (X + b)) := cF_add h (by unfold Sm; omega) (by unfold Sm; omega) (by unfold Sm; omega)
    rw [List.map_cons, fsum, e]
    dsimp only
    rw [ih (X + b) (fun y hy => hb y (by simp [hy])) (by omega) (by omega), List.sum_cons, Int.add_assoc]

theorem all_v {Bs : List Int} (hs : ∀ x ∈ Bs, Sm x) : (Bs.map (cF D)).all vF = true := by
  rw [List.all_eq_true]
  intro x hx
  obtain ⟨b, hb, rfl⟩ := List.mem_map.1 hx
  exact (cF_some h (hs b hb)).2

variable {Bs : List Int} (hb : ∀ b ∈ Bs, -1280 ≤ b ∧ b ≤ 1280) (hl : 1 ≤ Bs.length ∧ Bs.length ≤ 8)

include hb in
theorem sm_all : ∀ x ∈ Bs, Sm x := fun x hx => by have := hb x hx; unfold Sm; omega

include hb hl

theorem sum_bd : -10240 ≤ Bs.sum ∧ Bs.sum ≤ 10240 := by
  have key : ∀ (l : List Int), (∀ b ∈ l, -1280 ≤ b ∧ b ≤ 1280) → -1280 * (l.length : Int) ≤ l.sum ∧ l.sum ≤ 1280 * (l.length : Int) := by
    intro l
    induction l with
    | nil => intro _; simp
    | cons x r ih =>
      intro hh
      have h1 := hh x (by simp)
      have h2 := ih fun y hy => hh y (by simp [hy])
      simp only [List.sum_cons, List.length_cons, Int.natCast_add, Int.natCast_one]
      omega
  have := key Bs hb
  omega

theorem gsum_c : gsum (0, 1) (Bs.map (cF D)) = (cF D Bs.sum, false) := by
  obtain ⟨g1, g2⟩ := gsum_fsum (Bs.map (cF D)) (0, 1)
  have hf := fsum_c h Bs 0 hb (by omega) (by omega)
  rw [cF_zero h, Int.zero_add] at hf
  rw [hf] at g1
  exact Prod.ext (g2 _ hf) (by rw [g1]; rfl)

theorem calc_sum_c : impl_calc_sum N0 (Bs.map (cF D)) false = c1 (cF D Bs.sum) false := by
  rw [impl_calc_sum_is _ (by rw [List.length_map]; omega) (all_bd (all_v h (sm_all h hb))), gsum_c h hb hl]
  rfl

theorem spec_sum_c : spec_l01Sum N0 (Bs.map (cF D)) = r2 (cF D Bs.sum) 0 := by
  have hf := fsum_c h Bs 0 hb (by omega) (by omega)
  rw [cF_zero h, Int.zero_add] at hf
  rw [spec_l01Sum_is _ (by rw [List.length_map]; omega) (all_bd (all_v h (sm_all h hb))), hf]
  rfl

theorem isSome_c : impl_isSome N0 (Bs.map (cF D)) = r1 0 := by
  simp only [impl_isSome, impl_isSome_t, cq_areValid_is _ (by rw [List.length_map]; omega : (Bs.map (cF D)).length ≤ 9223372036854775807), all_v h (sm_all h hb), Option.bind_some, Bool.not_true, cond_false, List.length_map]
  rw [eq_f (by omega), dec_f (by omega)]
  rfl

theorem SumOf_c : impl_SumOf N0 (Bs.map (cF D)) = r2 (cF D Bs.sum) 0 := by
  simp only [impl_SumOf, impl_SumOf_t, cq_areValid_is _ (by rw [List.length_map]; omega : (Bs.map (cF D)).length ≤ 9223372036854775807), all_v h (sm_all h hb), Option.bind_some, Bool.not_true, cond_false, List.length_map, calc_sum_c h hb hl, impl_calc_one_is, pr_eta]
  rw [dec_f (by omega)]
  rfl

variable {Y : Int} (hY : Bs.sum = (Bs.length : Int) * Y)
include hY

theorem mean_bd : -10240 ≤ Y ∧ Y ≤ 10240 := by
  have := sum_bd h hb hl
  rw [hY] at this
  exact ⟨ge_of_mul (by omega) this.1 (by omega), le_of_mul (by omega) this.2 (by omega)⟩

theorem fdiv_c : fdiv (cF D Bs.sum) ((Bs.length : Int), 1) = some (cF D Y) := by
  have h1 := sum_bd h hb hl
  have h2 := mean_bd h hb hl hY
  have hS : Sm Bs.sum := by unfold Sm; omega
  have hv := cF_val h hS
  have hq := (cF_bd h hS).1
  refine cF_of h (by unfold Sm; omega) (P := (cF D Bs.sum).1 * 1) (Q := (cF D Bs.sum).2 * (Bs.length : Int)) (Int.mul_pos (by omega) (by omega)) ?_
  rw [Int.mul_one, hv, hY]
  grind

theorem MeanOf_c : impl_MeanOf N0 (Bs.map (cF D)) = r2 (cF D Y) 0 := by
  have h1 := sum_bd h hb hl
  have hS : Sm Bs.sum := by unfold Sm; omega
  have hd := fdiv_c h hb hl hY
  simp only [impl_MeanOf, impl_MeanOf_t, isSome_c h hb hl, Option.bind_some, bne_self_eq_false, cond_false, calc_sum_c h hb hl, impl_num_is, List.length_map, pr_eta]
  rw [impl_calc_div_is (cF_bd h hS) (Bd.num (by omega)) false (by simp only; omega), hd]
  rfl

theorem spec_Mean_c : spec_l01Mean N0 (Bs.map (cF D)) = r2 (cF D Y) 0 := by
  have h1 := sum_bd h hb hl
  have hS : Sm Bs.sum := by unfold Sm; omega
  have hd := fdiv_c h hb hl hY
  simp only [spec_l01Mean, spec_l01Mean_t, spec_sum_c h hb hl, Option.bind_some, bne_self_eq_false, cond_false, spec_l01Whole_is, List.length_map, pr_eta]
  rw [spec_l01Div_is (cF_bd h hS) (Bd.num (by omega)) (by simp only; omega), hd]
  rfl

theorem mul_c : spec_MulFracs N0 (cF D Y) ((Bs.length : Int), 1) = r2 (cF D Bs.sum) 0 := by
  have h1 := sum_bd h hb hl
  have h2 := mean_bd h hb hl hY
  have hS : Sm Bs.sum := by unfold Sm; omega
  have hY' : Sm Y := by unfold Sm; omega
  rw [spec_MulFracs_is (cF_some h hY').2 (vF_one (by omega)), mul_div (cF_some h hS).2 (by omega) (fdiv_c h hb hl hY)]
  rfl
end

/-! ### the middle -/
def midI (S : List Int) : Int := if S.length % 2 = 1 then S.getD (S.length / 2) 0 else (S.getD (S.length / 2 - 1) 0 + S.getD (S.length / 2) 0) / 2

theorem two_at {α : Type} (S : List α) (d : α) (k : Nat) (hk : 1 ≤ k) (hl : k < S.length) : (S.drop (k - 1)).take (k + 1 - (k - 1)) = [S.getD (k - 1) d, S.getD k d] := by
  rw [show k + 1 - (k - 1) = 2 by omega, List.drop_eq_getElem_cons (by omega : k - 1 < S.length), show k - 1 + 1 = k by omega, List.drop_eq_getElem_cons hl, get_ix (by omega : k - 1 < S.length), get_ix hl]
  rfl

section
variable {D : Int} (h : Dn D) {Bs : List Int} (hb : ∀ b ∈ Bs, -1280 ≤ b ∧ b ≤ 1280) (he : ∀ b ∈ Bs, b % 2 = 0) (hl : 1 ≤ Bs.length ∧ Bs.length ≤ 8)
include h hb he hl

theorem Middle_c : impl_MiddleOf N0 (Bs.map (cF D)) = r2 (cF D (midI (sortI Bs))) 0 ∧ spec_MiddleOf N0 (Bs.map (cF D)) = r2 (cF D (midI (sortI Bs))) 0 := by
  have hN := N0_big
  obtain ⟨g1, g2, g3⟩ := sortI_spec Bs
  have hlist : spec_l01List N0 (Bs.map (cF D)) 1 = r1 0 := by
    have key : ∀ (k i : Nat), i ≤ Bs.length → Bs.length - i < k → spec_l01List_l2 N0 k (i : Int) (Bs.map (cF D)) 1 = r1 0 := by
      intro k
      induction k with
      | zero => intro i _ hk; omega
      | succ k ih =>
        intro i hi hk
        simp only [spec_l01List_l2, spec_l01List_t2, List.length_map]
        by_cases hlt : i < Bs.length
        · have hv := (cF_some h (sm_all h hb _ (List.getElem_mem hlt))).2
          rw [lt_t hlt, nn_t, Bool.and_self, cond_true, cond_true, Int.toNat_natCast, map_F h Bs i hlt, get_ix hlt]
          simp only [pr_eta]
          rw [spec_l01Ok_is, hv, Option.bind_some, w_succ (i := i) (by omega)]
          exact ih (i + 1) hlt (by omega)
        · have : i = Bs.length := by omega
          subst this
          rw [lt_f (Nat.lt_irrefl _), cond_false, dec_f (by omega), cond_false, dec_f (by omega), cond_false]
    exact key N0 0 (by omega) (by omega)
  have hasc := impl_ascending_is h hl (sm_all h hb)
  have hsrt := spec_Sorted_is h hl.2 (sm_all h hb)
  have hmod : Int.tmod (Bs.length : Int) 2 = ((Bs.length % 2 : Nat) : Int) := rfl
  have hdiv : IntKind.wrap .i64 (Int.tdiv (Bs.length : Int) 2) = ((Bs.length / 2 : Nat) : Int) := by
    rw [show Int.tdiv (Bs.length : Int) 2 = ((Bs.length / 2 : Nat) : Int) from rfl, w_in (by unfold I64; omega)]
  unfold impl_MiddleOf impl_MiddleOf_t spec_MiddleOf spec_MiddleOf_t spec_l01Middle spec_l01Middle_t
  rw [isSome_c h hb hl, hlist, Option.bind_some, Option.bind_some]
  dsimp only
  rw [show ((0 : Int) != 0) = false from rfl, cond_false, cond_false, hasc, hsrt, Option.bind_some, Option.bind_some]
  simp only [List.length_map, g2, hmod, hdiv]
  unfold midI
  rw [g2]
  by_cases hodd : Bs.length % 2 = 1
  · rw [if_pos hodd, eq_t (by omega), cond_true, cond_true, in_t (by omega : Bs.length / 2 < Bs.length), Int.toNat_natCast, map_F h (sortI Bs) (Bs.length / 2) (by omega)]
    exact ⟨rfl, rfl⟩
  · have e1 : IntKind.wrap .i64 (((Bs.length / 2 : Nat) : Int) - 1) = ((Bs.length / 2 - 1 : Nat) : Int) := by rw [w_in (by unfold I64; omega)]; omega
    have hx : (sortI Bs).getD (Bs.length / 2 - 1) 0 ∈ Bs := by
      rw [get_ix (by omega : Bs.length / 2 - 1 < (sortI Bs).length)]
      exact (g3 _).1 (List.getElem_mem _)
    have hy : (sortI Bs).getD (Bs.length / 2) 0 ∈ Bs := by
      rw [get_ix (by omega : Bs.length / 2 < (sortI Bs).length)]
      exact (g3 _).1 (List.getElem_mem _)
    have hsub : (((sortI Bs).map (cF D)).drop (Int.toNat ((Bs.length / 2 - 1 : Nat) : Int))).take (Int.toNat ((Bs.length / 2 + 1 : Nat) : Int) - Int.toNat ((Bs.length / 2 - 1 : Nat) : Int)) = ([(sortI Bs).getD (Bs.length / 2 - 1) 0, (sortI Bs).getD (Bs.length / 2) 0] : List Int).map (cF D) := by
      rw [Int.toNat_natCast, Int.toNat_natCast, ← List.map_drop, ← List.map_take, two_at (sortI Bs) 0 (Bs.length / 2) (by omega) (by omega)]
    have hb2 : ∀ b ∈ ([(sortI Bs).getD (Bs.length / 2 - 1) 0, (sortI Bs).getD (Bs.length / 2) 0] : List Int), -1280 ≤ b ∧ b ≤ 1280 := by
      intro b hbb
      simp only [List.mem_cons, List.mem_nil_iff, or_false] at hbb
      rcases hbb with rfl | rfl
      · exact hb _ hx
      · exact hb _ hy
    have ex := he _ hx
    have ey := he _ hy
    have hsum : ([(sortI Bs).getD (Bs.length / 2 - 1) 0, (sortI Bs).getD (Bs.length / 2) 0] : List Int).sum = ((([(sortI Bs).getD (Bs.length / 2 - 1) 0, (sortI Bs).getD (Bs.length / 2) 0] : List Int).length : Nat) : Int) * (((sortI Bs).getD (Bs.length / 2 - 1) 0 + (sortI Bs).getD (Bs.length / 2) 0) / 2) := by
      simp only [List.sum_cons, List.sum_nil, List.length_cons, List.length_nil]
      omega
    rw [if_neg hodd, eq_f (by omega), cond_false, cond_false, e1, w_succ (i := Bs.length / 2) (by omega), hsub, MeanOf_c h hb2 (by simp) hsum, spec_Mean_c h hb2 (by simp) hsum]
    rw [nn_t, dec_t (p := ((Bs.length / 2 - 1 : Nat) : Int) ≤ ((Bs.length / 2 + 1 : Nat) : Int)) (by omega), dec_t (p := ((Bs.length / 2 + 1 : Nat) : Int) ≤ ((Bs.length : Nat) : Int)) (by omega)]
    exact ⟨rfl, rfl⟩
end

theorem P6Frac_ex (code : List Int) (h : ∀ y ∈ code, 0 ≤ y ∧ y ≤ 255) (hl : code.length ≤ 1000000000) : ∃ a, spec_P6Frac N0 code = r1 a ∧ Sf a 60 12 := by
  obtain ⟨e0, k0⟩ := src_from code h hl
  obtain ⟨x, s1, e1, hx, k1⟩ := src_pick (n := 121) k0 (by omega) (by omega)
  obtain ⟨y, s2, e2, hy, k2⟩ := src_pick (n := 12) k1 (by omega) (by omega)
  obtain ⟨a, ea, ha⟩ := Sf.of (p := x - 60) (q := 1 + y) (A := 60) (B := 12) (by omega) (by omega) (by omega) (by omega)
  refine ⟨a, ?_, ha⟩
  simp only [spec_P6Frac, spec_P6Frac_t, pr_eta, e0, e1, e2, Option.bind_some]
  rw [w_in (x := x - 60) (by unfold I64; omega), w_in (x := 1 + y) (by unfold I64; omega), spec_l01Reduced_is (by unfold small; omega) (by unfold small; omega) (by omega), ea]
  rfl

theorem P6Pick_ex (code : List Int) (h : ∀ y ∈ code, 0 ≤ y ∧ y ≤ 255) (hl : code.length ≤ 1000000000) : ∃ x, spec_P6Pick N0 code 5 = r1 x ∧ (0 ≤ x ∧ x < 5) := by
  obtain ⟨e0, k0⟩ := src_from code h hl
  obtain ⟨x, s1, e1, hx, k1⟩ := src_pick (n := 5) k0 (by omega) (by omega)
  exact ⟨x, by simp only [spec_P6Pick, spec_P6Pick_t, pr_eta, e0, e1, Option.bind_some], hx⟩

theorem dn4 : Dn 4 := by constructor <;> omega

theorem small_ex {s : Src} {b : Int} (hs : SrcAt s b) (hb : b ≤ 10000000) : ∃ A s', spec_l04Small N0 s = c1 (cF 4 A) s' ∧ (-80 ≤ A ∧ A ≤ 80) ∧ SrcAt s' (b + 4) := by
  obtain ⟨x, s1, e1, hx, k1⟩ := src_pick (n := 41) hs (by omega) (by omega)
  obtain ⟨z, s2, e2, hz, k2⟩ := src_among (l := [1, 1, 2, 4]) k1 (by omega) (by simp)
  have hz' : z = 1 ∨ z = 2 ∨ z = 4 := by
    simp only [List.mem_cons, List.mem_nil_iff, or_false] at hz
    omega
  obtain ⟨A, hA, ez⟩ : ∃ A, (-80 ≤ A ∧ A ≤ 80) ∧ (x - 20) * 4 = A * z := by
    rcases hz' with rfl | rfl | rfl
    · exact ⟨4 * (x - 20), by omega, by omega⟩
    · exact ⟨2 * (x - 20), by omega, by omega⟩
    · exact ⟨x - 20, by omega, rfl⟩
  have em : mkF (x - 20) z = some (cF 4 A) := cF_of dn4 (by unfold Sm; omega) (by omega) ez
  refine ⟨A, s2, ?_, hA, k2.mono (by omega)⟩
  simp only [spec_l04Small, spec_l04Small_t, pr_eta, e1, Option.bind_some]
  rw [show (1 :: (1 :: (2 :: (4 :: [])))) = ([1, 1, 2, 4] : List Int) from rfl, e2, Option.bind_some]
  dsimp only
  rw [w_in (x := x - 20) (by unfold I64; omega), spec_l01Reduced_is (by unfold small; omega) (by unfold small; omega) (by omega), em]
  rfl

theorem drawnF_is : ∀ (k c : Nat) (s : Src) (B : Int) (As : List Int), c < k → SrcAt s B → B + 4 * (c : Int) ≤ 1000 → As.length + c ≤ 8 → (∀ A ∈ As, -80 ≤ A ∧ A ≤ 80) →
    ∃ Bs : List Int, spec_P6List_l4 N0 k (c : Int) s.1 s.2.1 s.2.2 (As.map (cF 4)) = r1 (Bs.map (cF 4)) ∧ Bs.length = As.length + c ∧ ∀ A ∈ Bs, -80 ≤ A ∧ A ≤ 80
  | 0, c, s, B, As, hk, _, _, _, _ => by omega
  | k + 1, 0, s, B, As, _, _, _, _, hA => by
    refine ⟨As, ?_, rfl, hA⟩
    simp only [spec_P6List_l4, spec_P6List_t4]
    rw [dec_f (by omega), cond_false]
  | k + 1, c + 1, s, B, As, hk, hs, hB, hl, hA => by
    obtain ⟨A, s1, e1, h1, k1⟩ := small_ex hs (by omega)
    have e2 : IntKind.wrap .i64 (((c + 1 : Nat) : Int) - 1) = ((c : Nat) : Int) := by rw [w_in (by unfold I64; omega)]; omega
    obtain ⟨Bs, e3, h3, h4⟩ := drawnF_is k c s1 (B + 4) (As ++ [A]) (by omega) k1 (by omega) (by simp; omega) (by
      intro y hy
      rcases List.mem_append.1 hy with hy | hy
      · exact hA y hy
      · simp only [List.mem_cons, List.mem_nil_iff, or_false] at hy
        rw [hy]; exact h1)
    refine ⟨Bs, ?_, by rw [h3]; simp; omega, h4⟩
    simp only [spec_P6List_l4, spec_P6List_t4, pr_eta, e1, Option.bind_some, e2]
    rw [dec_t (p := ((c + 1 : Nat) : Int) > 0) (by omega), cond_true, dec_t (by simp; omega), cond_true]
    rw [List.map_append] at e3
    exact e3

theorem P6List_ex (code : List Int) (h : ∀ y ∈ code, 0 ≤ y ∧ y ≤ 255) (hl : code.length ≤ 1000000000) : ∃ As : List Int, spec_P6List N0 code = r1 (As.map (cF 4)) ∧ (1 ≤ As.length ∧ As.length ≤ 8) ∧ ∀ A ∈ As, -80 ≤ A ∧ A ≤ 80 := by
  have hN := N0_big
  obtain ⟨e0, k0⟩ := src_from code h hl
  obtain ⟨x, s1, e1, hx, k1⟩ := src_pick (n := 8) k0 (by omega) (by omega)
  obtain ⟨n, hn⟩ : ∃ n : Nat, 1 + x = (n : Int) := ⟨(1 + x).toNat, by omega⟩
  obtain ⟨Bs, e2, h2, h3⟩ := drawnF_is N0 n s1 (0 + 2) [] (by omega) k1 (by omega) (by simp; omega) (by simp)
  refine ⟨Bs, ?_, by rw [h2]; simp; omega, h3⟩
  simp only [spec_P6List, spec_P6List_t, pr_eta, e0, e1, Option.bind_some]
  rw [w_in (x := 1 + x) (by unfold I64; omega), hn]
  exact e2

/-- the same over eight times their number -/
theorem scale_c {L A : Int} (hL : 1 ≤ L ∧ L ≤ 8) (hA : -80 ≤ A ∧ A ≤ 80) : cF 4 A = cF (8 * L) (2 * L * A) := by
  have h4 : Sm A := by unfold Sm; omega
  have hb := mul_bd (a := L) (b := A) (A := 8) (B := 80) (by omega) hA
  have hD : Dn (8 * L) := by constructor <;> omega
  refine cF_is hD (by rw [Int.mul_assoc]; unfold Sm; omega) (cF_some dn4 h4).2 ?_
  have hv := cF_val dn4 h4
  grind

theorem scale_list {As : List Int} (hl : 1 ≤ As.length ∧ As.length ≤ 8) (hA : ∀ A ∈ As, -80 ≤ A ∧ A ≤ 80) :
    ∃ Bs : List Int, As.map (cF 4) = Bs.map (cF (8 * (As.length : Int))) ∧ Bs.length = As.length ∧ (∀ b ∈ Bs, -1280 ≤ b ∧ b ≤ 1280) ∧ (∀ b ∈ Bs, b % 2 = 0) ∧ ∃ Y, Bs.sum = (Bs.length : Int) * Y := by
  refine ⟨As.map fun A => 2 * (As.length : Int) * A, ?_, List.length_map _, ?_, ?_, 2 * As.sum, ?_⟩
  · rw [List.map_map]
    apply List.map_congr_left
    intro A hA'
    exact scale_c (by omega) (hA A hA')
  · intro b hb
    obtain ⟨A, hA', rfl⟩ := List.mem_map.1 hb
    have hh := mul_bd (a := (As.length : Int)) (b := A) (A := 8) (B := 80) (by omega) (hA A hA')
    rw [Int.mul_assoc]
    omega
  · intro b hb
    obtain ⟨A, _, rfl⟩ := List.mem_map.1 hb
    rw [Int.mul_assoc]
    omega
  · have key : ∀ (l : List Int) (c : Int), (l.map fun A => c * A).sum = c * l.sum := by
      intro l c
      induction l with
      | nil => simp
      | cons x r ih => rw [List.map_cons, List.sum_cons, List.sum_cons, ih, Int.mul_add]
    rw [List.length_map, key]
    grind
end Go.Abs
