/- Disks and angles that are drawn. -/
import Derived.Test.YtpamckmeeamjjaaDoorSrcP
import Derived.Test.YtpamckmeeamjjaaDoorDiskL
namespace Go.Abs
set_option linter.unusedSectionVars false
set_option linter.unusedSimpArgs false
set_option linter.unusedVariables false

theorem wi16 {y : Int} (h : -32768 ≤ y ∧ y ≤ 32767) : IntKind.wrap .i16 y = y := by
  simp [IntKind.wrap, IntKind.bits, IntKind.signed]
  omega

structure DkD (d : Dk) : Prop where
  lo : 1 ≤ d.1.length
  hi : d.1.length ≤ 36
  tm : Int.tmod 1296000 (d.1.length : Int) = 0
  el : ∀ y ∈ d.1, -60 ≤ y ∧ y ≤ 60
  east : -60 ≤ d.2.1 ∧ d.2.1 ≤ 60
  north : -60 ≤ d.2.2 ∧ d.2.2 ≤ 60

theorem DkD.ok {d : Dk} (h : DkD d) : diskOk d = true := by
  rw [diskOk_iff]
  refine ⟨⟨h.lo, by have := h.hi; omega⟩, h.tm, by have := h.east; omega, by have := h.north; omega, ?_⟩
  rw [List.all_eq_true]
  intro y hy
  have := h.el y hy
  unfold isFault
  rw [w_in (by unfold I64; omega)]
  exact btw_iff.2 (by omega)

theorem drawn_l3_is : ∀ (k c : Nat) (s : Src) (B : Int) (p q : Int × Int) (b : List Int), c < k → SrcAt s B → B + 4 * (c : Int) ≤ 10000 → b.length + c ≤ 36 → (∀ y ∈ b, -60 ≤ y ∧ y ≤ 60) → (-60 ≤ p.1 ∧ p.1 ≤ 60) → (-60 ≤ p.2 ∧ p.2 ≤ 60) →
    ∃ d s', spec_l03Drawn_l3 N0 k (c : Int) s.1 s.2.1 s.2.2 p.1 p.2 q.1 q.2 b = c1 d s' ∧ d.1.length = b.length + c ∧ (∀ y ∈ d.1, -60 ≤ y ∧ y ≤ 60) ∧ (-60 ≤ d.2.1 ∧ d.2.1 ≤ 60) ∧ (-60 ≤ d.2.2 ∧ d.2.2 ≤ 60)
  | 0, c, s, B, p, q, b, hk, _, _, _, _, _, _ => by omega
  | k + 1, c, s, B, p, q, b, hk, hs, hB, hl, hR, hp1, hp2 => by
    simp only [spec_l03Drawn_l3, spec_l03Drawn_t3, spec_l03Drawn_j8, spec_l03Drawn_t8, spec_l03Drawn_j12, spec_l03Drawn_t12]
    have hr (x : Int) : decide ((b.length + (x :: []).length) * 3 ≤ 70368744177664) = true := dec_t (by simp only [List.length_cons, List.length_nil]; omega)
    cases c with
    | zero =>
      rw [dec_f (by omega), cond_false]
      simp only [pr_eta]
      obtain ⟨x, s1, e1, k1⟩ := src_one (n := 2) hs (by omega) (by omega)
      rw [e1, Option.bind_some]
      dsimp only
      cases x with
      | false => exact ⟨_, _, rfl, by simp, hR, hp1, hp2⟩
      | true =>
        obtain ⟨y, s2, e2, hy, k2⟩ := src_pick (n := 121) k1 (by omega) (by omega)
        obtain ⟨z, s3, e3, hz, k3⟩ := src_pick (n := 121) k2 (by omega) (by omega)
        rw [cond_true]
        rw [e2, Option.bind_some]
        dsimp only
        rw [e3, Option.bind_some]
        dsimp only
        rw [w_in (x := y - 60) (by unfold I64; omega), w_in (x := z - 60) (by unfold I64; omega)]
        exact ⟨_, _, rfl, by simp, hR, by simp only; omega, by simp only; omega⟩
    | succ c =>
      rw [dec_t (by omega), cond_true]
      simp only [pr_eta]
      obtain ⟨x, s1, e1, k1⟩ := src_one (n := 4) hs (by omega) (by omega)
      have hw : IntKind.wrap .i64 (((c + 1 : Nat) : Int) - 1) = (c : Int) := by rw [w_in (by unfold I64; omega)]; omega
      have step : ∀ (f : Int) (s2 : Src), -60 ≤ f ∧ f ≤ 60 → SrcAt s2 (B + 4) → ∃ d s', spec_l03Drawn_l3 N0 k (c : Int) s2.1 s2.2.1 s2.2.2 p.1 p.2 q.1 q.2 (b ++ (f :: [])) = c1 d s' ∧ d.1.length = b.length + (c + 1) ∧ (∀ y ∈ d.1, -60 ≤ y ∧ y ≤ 60) ∧ (-60 ≤ d.2.1 ∧ d.2.1 ≤ 60) ∧ (-60 ≤ d.2.2 ∧ d.2.2 ≤ 60) := by
        intro f s2 hf k2
        obtain ⟨d, s', e, h1, h2⟩ := drawn_l3_is k c s2 (B + 4) p q (b ++ (f :: [])) (by omega) k2 (by omega) (by simp; omega) (by
          intro z hz
          rcases List.mem_append.1 hz with hz | hz
          · exact hR z hz
          · rw [List.mem_singleton.1 hz]; exact hf) hp1 hp2
        exact ⟨d, s', e, by rw [h1]; simp; omega, h2⟩
      rw [e1, Option.bind_some]
      dsimp only
      cases x with
      | true =>
        rw [Bool.not_true, cond_false, hr, cond_true, hw]
        exact step 0 s1 (by omega) (k1.mono (by omega))
      | false =>
        obtain ⟨y, s2, e2, hy, k2⟩ := src_pick (n := 121) k1 (by omega) (by omega)
        rw [Bool.not_false, cond_true, e2, Option.bind_some]
        dsimp only
        rw [hr, cond_true, hw, w_in (x := y - 60) (by unfold I64; omega), wi16 (y := y - 60) (by omega)]
        exact step (y - 60) s2 (by omega) (k2.mono (by omega))

theorem spec_A2Disk_ex (code : List Int) (h : ∀ y ∈ code, 0 ≤ y ∧ y ≤ 255) (hl : code.length ≤ 1000000000) : ∃ d, spec_A2Disk N0 code = r1 d ∧ DkD d := by
  have := N0_big
  obtain ⟨e0, k0⟩ := src_from code h hl
  obtain ⟨n, s1, e1, hn, k1⟩ := src_among (l := [1, 2, 4, 6, 8, 12, 36]) k0 (by omega) (by simp)
  simp only [spec_A2Disk, spec_A2Disk_t, e0, Option.bind_some, pr_eta, spec_l03Drawn, spec_l03Drawn_t, e1]
  have key : ∀ m : Nat, n = (m : Int) → 1 ≤ m ∧ m ≤ 36 → Int.tmod 1296000 (m : Int) = 0 → ∃ d, ((spec_l03Drawn_l3 N0 N0 n s1.1 s1.2.1 s1.2.2 0 0 0 0 []).bind fun r1 => some (((r1.1.1.1, ()), ()), ())) = r1 d ∧ DkD d := by
    intro m hm h1 h2
    obtain ⟨d, s', e, g1, g2, g3, g4⟩ := drawn_l3_is N0 m s1 2 (0, 0) (0, 0) [] (by omega) (k1.mono (by omega)) (by omega) (by simp; omega) (by simp) (by decide) (by decide)
    have g1 : d.1.length = m := by rw [g1]; simp
    have e : spec_l03Drawn_l3 N0 N0 (m : Int) s1.1 s1.2.1 s1.2.2 0 0 0 0 [] = c1 d s' := e
    rw [hm, e]
    exact ⟨d, rfl, by omega, by omega, by rw [g1]; exact h2, g2, g3, g4⟩
  simp only [List.mem_cons, List.not_mem_nil, or_false] at hn
  rcases hn with hn | hn | hn | hn | hn | hn | hn
  · exact key 1 hn (by omega) rfl
  · exact key 2 hn (by omega) rfl
  · exact key 4 hn (by omega) rfl
  · exact key 6 hn (by omega) rfl
  · exact key 8 hn (by omega) rfl
  · exact key 12 hn (by omega) rfl
  · exact key 36 hn (by omega) rfl

theorem spec_A2Angle_ex (code : List Int) (h : ∀ y ∈ code, 0 ≤ y ∧ y ≤ 255) (hl : code.length ≤ 1000000000) : ∃ a, spec_A2Angle N0 code = r1 a ∧ isAng a = true := by
  obtain ⟨e0, k0⟩ := src_from code h hl
  obtain ⟨x, s1, e1, hx, k1⟩ := src_pick (n := 12) k0 (by omega) (by omega)
  simp only [spec_A2Angle, spec_A2Angle_t, e0, Option.bind_some, pr_eta, spec_l03Drawing, spec_l03Drawing_t, e1, spec_l03Wrap_is]
  have key : ∀ y, ∃ a, r1 (y % 1296000) = r1 a ∧ isAng a = true := fun y => ⟨_, rfl, btw_iff.2 (ang_mod y)⟩
  cases x == 0 with
  | true =>
    obtain ⟨y, s2, e2, _, k2⟩ := src_among (l := [0, 324000, 648000, 972000, 1295999, -1, 1296000]) k1 (by omega) (by simp)
    rw [cond_true, e2]
    exact key y
  | false =>
    rw [cond_false]
    cases x == 1 with
    | true =>
      obtain ⟨y, s2, e2, _, k2⟩ := src_pick (n := 60) k1 (by omega) (by omega)
      rw [cond_true, e2]
      exact key y
    | false =>
      obtain ⟨y, s2, e2, _, k2⟩ := src_pick (n := 1296) k1 (by omega) (by omega)
      rw [cond_false, e2]
      exact key _
end Go.Abs
