/- Repeated angles. -/
import Derived.Test.YtipjecagbndhbaaDPRepeats0
import Derived.Test.YtipjecagbndhbaaDiskL
import Derived.Test.YtipjecagbndhbaaFracSm
import Derived.Test.YtipjecagbndhbaaTrod
namespace Go.Abs
set_option linter.unusedSectionVars false
set_option linter.unusedSimpArgs false
set_option linter.unusedVariables false

/-- how far it is turned behind all, at a number of times -/
def repT (d : Dk) (s a l n : Int) : Int := turn (headR d s l) (headR d ((s + n * a) % 1296000) l)
def repK (d : Dk) (s a l n : Int) : Int := (2 * (n * a - repT d s a l n) + 1296000) / 2592000
def repP (d : Dk) (s a l n : Int) : Int := repT d s a l n + repK d s a l n * 1296000

structure RepIs (d : Dk) (s a l : Int) : Prop where
  ok : diskOk d = true
  s : isAng s = true
  a : isAng a = true
  l : 1 ≤ l ∧ l ≤ 3600

section
variable {d : Dk} {s a l : Int} (h : RepIs d s a l) {n : Int} (hn : 1 ≤ n ∧ n ≤ 200)
include h hn

theorem rep_na : 0 ≤ n * a ∧ n * a ≤ 259199800 := by
  have := btw_iff.1 h.a
  have := mul_pos_bd (a := n) (b := a) (A := 200) (B := 1295999) (by omega) (by omega)
  omega

theorem rep_bd : (-648000 < repT d s a l n ∧ repT d s a l n ≤ 648000) ∧ (-10 ≤ repK d s a l n ∧ repK d s a l n ≤ 300) ∧ (-1296000 ≤ repP d s a l n ∧ repP d s a l n ≤ 400000000) := by
  have hna := rep_na h hn
  have ht : -648000 < repT d s a l n ∧ repT d s a l n ≤ 648000 := turn_bd _ _
  have hk : -10 ≤ repK d s a l n ∧ repK d s a l n ≤ 300 := by unfold repK; omega
  refine ⟨ht, hk, ?_⟩
  have e : repK d s a l n * 2592000 ≤ 2 * (n * a - repT d s a l n) + 1296000 := by
    unfold repK
    exact Int.ediv_mul_le _ (by decide)
  have e' : 2 * (n * a - repT d s a l n) + 1296000 < (repK d s a l n + 1) * 2592000 := by
    unfold repK
    exact Int.lt_ediv_add_one_mul_self _ (by decide)
  unfold repP
  omega

theorem rep_head1 : HeadIs d s l := ⟨h.ok, h.s, h.l⟩
theorem rep_head2 : HeadIs d ((s + n * a) % 1296000) l := ⟨h.ok, btw_iff.2 (ang_mod _), h.l⟩

theorem impl_repeat_is : impl_repeat N0 d s a n l = r2 (repP d s a l n) (repK d s a l n) := by
  have hna := rep_na h hn
  obtain ⟨hT, hK, hP⟩ := rep_bd h hn
  have hs := btw_iff.1 h.s
  have r1' := btw_iff.1 (headR_ang d s l)
  have r2' := btw_iff.1 (headR_ang d ((s + n * a) % 1296000) l)
  unfold impl_repeat impl_repeat_t
  rw [impl_head_is (rep_head1 h hn), Option.bind_some, w_in (x := n * a) (by unfold I64; omega), w_in (x := s + n * a) (by unfold I64; omega), impl_wrap_is, Option.bind_some]
  dsimp only
  rw [impl_head_is (rep_head2 h hn), Option.bind_some]
  dsimp only
  rw [impl_turnFrom_is N0 (a := headR d s l) (b := headR d ((s + n * a) % 1296000) l) (by unfold I64; omega), Option.bind_some]
  dsimp only
  rw [show turn (headR d s l) (headR d ((s + n * a) % 1296000) l) = repT d s a l n from rfl, w_in (x := n * a - repT d s a l n) (by unfold I64; omega), w_in (x := 2 * (n * a - repT d s a l n)) (by unfold I64; omega),
    w_in (x := 2 * (n * a - repT d s a l n) + 1296000) (by unfold I64; omega), impl_floorDiv_is N0 (by decide) (by unfold I64; omega), Option.bind_some]
  dsimp only
  rw [show (2 * (n * a - repT d s a l n) + 1296000) / 2592000 = repK d s a l n from rfl, w_in (x := repK d s a l n * 1296000) (by unfold I64; omega), show repT d s a l n + repK d s a l n * 1296000 = repP d s a l n from rfl, w_in (x := repP d s a l n) (by unfold I64; omega)]

theorem rep_mkF : ∃ g m, mkF (repP d s a l n) n = some m ∧ vF m = true ∧ 1 ≤ g ∧ repP d s a l n = g * m.1 ∧ n = g * m.2 := by
  obtain ⟨_, _, hP⟩ := rep_bd h hn
  exact mkF_small (by omega) (by omega)

/-- the mean -/
def repM (d : Dk) (s a l n : Int) : Int × Int := (mkF (repP d s a l n) n).getD (0, 0)

theorem spec_l03Repeat_is : spec_l03Repeat N0 s a n l d = some (((repM d s a l n, ()), ((repK d s a l n, ()), ((0, ()), ()))), (d, ())) := by
  have hna := rep_na h hn
  obtain ⟨hT, hK, hP⟩ := rep_bd h hn
  have hs := btw_iff.1 h.s
  have r1' := btw_iff.1 (headR_ang d s l)
  have r2' := btw_iff.1 (headR_ang d ((s + n * a) % 1296000) l)
  obtain ⟨g, m, hm, _⟩ := rep_mkF h hn
  unfold spec_l03Repeat spec_l03Repeat_t
  rw [spec_l03Head_is (rep_head1 h hn), Option.bind_some, w_in (x := n * a) (by unfold I64; omega), w_in (x := s + n * a) (by unfold I64; omega), spec_l03Wrap_is, Option.bind_some]
  dsimp only
  rw [spec_l03Head_is (rep_head2 h hn), Option.bind_some]
  dsimp only
  rw [spec_l03Turn_is N0 (a := headR d s l) (b := headR d ((s + n * a) % 1296000) l) (by unfold I64; omega), Option.bind_some]
  dsimp only
  rw [show turn (headR d s l) (headR d ((s + n * a) % 1296000) l) = repT d s a l n from rfl, w_in (x := n * a - repT d s a l n) (by unfold I64; omega), w_in (x := 2 * (n * a - repT d s a l n)) (by unfold I64; omega),
    w_in (x := 2 * (n * a - repT d s a l n) + 1296000) (by unfold I64; omega), spec_l01Down_is N0 (by decide) (by unfold I64; omega), Option.bind_some]
  dsimp only
  rw [show (2 * (n * a - repT d s a l n) + 1296000) / 2592000 = repK d s a l n from rfl, w_in (x := repK d s a l n * 1296000) (by unfold I64; omega), show repT d s a l n + repK d s a l n * 1296000 = repP d s a l n from rfl, w_in (x := repP d s a l n) (by unfold I64; omega),
    spec_l01Reduced_is (by unfold small; omega) (by unfold small; omega) (by omega), Option.bind_some]
  unfold repM
  rw [hm]
  rfl
end

/-- the code -/
abbrev repC (d : Dk) (s a n l : Int) : Int := bif diskOk d && (isAng s && isAng a) then (bif btw l 1 3600 && btw n 1 200 then 0 else 2) else 1

theorem repC_ok {d : Dk} {s a n l : Int} (h : repC d s a n l = 0) : RepIs d s a l ∧ (1 ≤ n ∧ n ≤ 200) := by
  unfold repC at h
  cases h1 : (diskOk d && (isAng s && isAng a)) with
  | false => rw [h1] at h; cases h
  | true =>
    cases h2 : (btw l 1 3600 && btw n 1 200) with
    | false => rw [h1, h2] at h; cases h
    | true =>
      rw [Bool.and_eq_true, Bool.and_eq_true] at h1
      rw [Bool.and_eq_true, btw_iff, btw_iff] at h2
      exact ⟨⟨h1.1, h1.2.1, h1.2.2, h2.1⟩, h2.2⟩

theorem spec_l03Repeated_is (d : Dk) (s a n l : Int) (hb : d.1.length ≤ 9223372036854775807) : spec_l03Repeated N0 s a n l d = c1 (repC d s a n l) d := by
  simp only [spec_l03Repeated, spec_l03Repeated_t, pr_eta, spec_l03Ok_is d hb, spec_l03Angle_is, spec_l00In_is, Option.bind_some]
  unfold repC
  cases diskOk d with
  | false => rfl
  | true =>
    cases isAng s with
    | false => rfl
    | true =>
      cases isAng a with
      | false => rfl
      | true =>
        cases btw l 1 3600 with
        | false => rfl
        | true => cases btw n 1 200 <;> rfl

/-- the program's code, by its own steps -/
theorem impl_rep_code (d : Dk) (s a l : Int) (hb : d.1.length ≤ 9223372036854775807) : impl_headCode N0 d l (s :: a :: []) = r1 (bif diskOk d && (isAng s && isAng a) then (bif btw l 1 3600 then 0 else 2) else 1) := by
  rw [impl_headCode_is d l [s, a] hb (by simp)]
  simp only [List.all_cons, List.all_nil, Bool.and_true]

abbrev repRes (d : Dk) (s a n l : Int) : Option ((((Int × Int) × Unit) × ((Int × Unit) × ((Int × Unit) × Unit))) × Unit) :=
  bif repC d s a n l == 0 then r3 (repM d s a l n) (repK d s a l n) 0 else r3 (0, 0) 0 (repC d s a n l)

theorem spec_RepeatAngle_is (d : Dk) (s a n l : Int) (hb : d.1.length ≤ 9223372036854775807) : spec_RepeatAngle N0 d s a n l = repRes d s a n l := by
  simp only [spec_RepeatAngle, spec_RepeatAngle_t, pr_eta, spec_l03Repeated_is d s a n l hb, Option.bind_some]
  unfold repRes
  by_cases h : repC d s a n l = 0
  · obtain ⟨h1, h2⟩ := repC_ok h
    rw [h]
    simp only [bne_self_eq_false, cond_false, spec_l03Repeat_is h1 h2, Option.bind_some]
    rfl
  · rw [ne_true h, eq_f h]; rfl

theorem impl_RepeatAngle_is (d : Dk) (s a n l : Int) (hb : d.1.length ≤ 9223372036854775807) : impl_RepeatAngle N0 d s a n l = repRes d s a n l := by
  simp only [impl_RepeatAngle, impl_RepeatAngle_t, pr_eta, impl_rep_code d s a l hb, impl_within_is, Option.bind_some]
  unfold repRes repC
  cases h1 : (diskOk d && (isAng s && isAng a)) with
  | false => rfl
  | true =>
    cases h2 : btw l 1 3600 with
    | false => rfl
    | true =>
      cases h3 : btw n 1 200 with
      | false => rfl
      | true =>
        rw [Bool.and_eq_true, Bool.and_eq_true] at h1
        have hr : RepIs d s a l := ⟨h1.1, h1.2.1, h1.2.2, btw_iff.1 h2⟩
        have hn := btw_iff.1 h3
        obtain ⟨_, _, hP⟩ := rep_bd hr hn
        obtain ⟨g, m, hm, _⟩ := rep_mkF hr hn
        simp only [cond_true, beq_self_eq_true, Bool.not_true, cond_false, bne_self_eq_false, Bool.and_self, impl_repeat_is hr hn, Option.bind_some, impl_fracOf_is (p := repP d s a l n) (q := n) (by unfold small; omega) (by unfold small; omega) (by omega), hm]
        unfold repM
        rw [hm]
        rfl

/-! ### the best number of times -/
/-- how far the mean is off, times the number of times -/
def far (d : Dk) (s a l n : Int) : Int := ((repP d s a l n - n * a).natAbs : Int)

section
variable {d : Dk} {s a l : Int} (h : RepIs d s a l) {n : Int} (hn : 1 ≤ n ∧ n ≤ 200)
include h hn

theorem far_bd : 0 ≤ far d s a l n ∧ far d s a l n ≤ 700000000 := by
  have := rep_na h hn
  obtain ⟨_, _, hP⟩ := rep_bd h hn
  unfold far
  omega

theorem far_max : (if IntKind.wrap .i64 (repP d s a l n - IntKind.wrap .i64 (n * a)) < IntKind.wrap .i64 (IntKind.wrap .i64 (n * a) - repP d s a l n) then IntKind.wrap .i64 (IntKind.wrap .i64 (n * a) - repP d s a l n) else IntKind.wrap .i64 (repP d s a l n - IntKind.wrap .i64 (n * a))) = far d s a l n := by
  have := rep_na h hn
  obtain ⟨_, _, hP⟩ := rep_bd h hn
  rw [w_in (x := n * a) (by unfold I64; omega), w_in (x := repP d s a l n - n * a) (by unfold I64; omega), w_in (x := n * a - repP d s a l n) (by unfold I64; omega)]
  unfold far
  split <;> omega

/-- how far the mean is off, times its own lower part -/
def offM (d : Dk) (s a l n : Int) : Int := (((repM d s a l n).1 - a * (repM d s a l n).2).natAbs : Int)

theorem offM_is : ∃ g, 1 ≤ g ∧ far d s a l n = g * offM d s a l n ∧ n = g * (repM d s a l n).2 ∧ (1 ≤ (repM d s a l n).2 ∧ (repM d s a l n).2 ≤ 200) ∧ (0 ≤ offM d s a l n ∧ offM d s a l n ≤ 700000000) ∧ (-1000000000 ≤ (repM d s a l n).1 ∧ (repM d s a l n).1 ≤ 1000000000) := by
  obtain ⟨g, m, hm, hv, hg, e1, e2⟩ := rep_mkF h hn
  have hM : repM d s a l n = m := by unfold repM; rw [hm]; rfl
  have hbd := vF_bd hv
  have hf := far_bd h hn
  rw [hM]
  have e3 : far d s a l n = g * offM d s a l n := by
    unfold far offM
    rw [hM, e1]
    have : g * m.1 - n * a = g * (m.1 - a * m.2) := by
      rw [Int.mul_sub, e2, Int.mul_assoc g m.2 a, Int.mul_comm m.2 a]
    rw [this, Int.natAbs_mul, Int.natCast_mul]
    congr 1
    omega
  have hq : m.2 ≤ 200 := by
    have : 1 * m.2 ≤ g * m.2 := Int.mul_le_mul_of_nonneg_right hg (by omega)
    omega
  have ho0 : 0 ≤ offM d s a l n := by unfold offM; omega
  have ho : offM d s a l n ≤ 700000000 := by
    have : 1 * offM d s a l n ≤ g * offM d s a l n := Int.mul_le_mul_of_nonneg_right hg ho0
    omega
  exact ⟨g, hg, e3, e2, ⟨hbd.1.1, hq⟩, ⟨ho0, ho⟩, hbd.2⟩
end

theorem better_iff {d : Dk} {s a l : Int} (h : RepIs d s a l) {n b : Int} (hn : 1 ≤ n ∧ n ≤ 200) (hb : 1 ≤ b ∧ b ≤ 200) :
    (offM d s a l n * (repM d s a l b).2 < offM d s a l b * (repM d s a l n).2) ↔ (far d s a l n * b < far d s a l b * n) := by
  obtain ⟨g, hg, e1, e2, _⟩ := offM_is h hn
  obtain ⟨g', hg', e1', e2', _⟩ := offM_is h hb
  have k1 : far d s a l n * b = (g * g') * (offM d s a l n * (repM d s a l b).2) := by
    rw [e1, show b = g' * (repM d s a l b).2 from e2']
    conv => lhs; rw [Int.mul_assoc, ← Int.mul_assoc (offM d s a l n), Int.mul_comm (offM d s a l n) g', Int.mul_assoc g', ← Int.mul_assoc]
    rw [← e2']
  have k2 : far d s a l b * n = (g * g') * (offM d s a l b * (repM d s a l n).2) := by
    rw [e1', show n = g * (repM d s a l n).2 from e2]
    conv => lhs; rw [Int.mul_assoc, ← Int.mul_assoc (offM d s a l b), Int.mul_comm (offM d s a l b) g, Int.mul_assoc g, ← Int.mul_assoc, Int.mul_comm g' g]
    rw [← e2]
  have hpos : 0 < g * g' := Int.mul_pos (by omega) (by omega)
  rw [k1, k2]
  exact ⟨fun x => Int.mul_lt_mul_of_pos_left x hpos, fun x => Int.lt_of_mul_lt_mul_left x (by omega)⟩

/-- the best one, of c more, from i on -/
def bestGo (d : Dk) (s a l : Int) : Nat → Int → Int → Int
  | 0, _, b => b
  | c + 1, i, b => bestGo d s a l c (i + 1) (bif decide (far d s a l i * b < far d s a l b * i) then i else b)

section
variable {d : Dk} {s a l most : Int} (h : RepIs d s a l) (hm : 1 ≤ most ∧ most ≤ 200)
include h hm

theorem impl_BestRepeats_l8_is : ∀ (c k : Nat) (i b : Int), 1 ≤ i → i + c = most + 1 → c < k → 1 ≤ b ∧ b ≤ 200 →
    impl_BestRepeats_l8 N0 k i (far d s a l b) b a l s (repP d s a l b) most d.1 d.2.1 d.2.2 0 0 = r3 (bestGo d s a l c i b) (repM d s a l (bestGo d s a l c i b)) 0
  | 0, 0, i, b, _, _, hk, _ => by omega
  | 0, k + 1, i, b, hi, he, hk, hb => by
    simp only [impl_BestRepeats_l8, impl_BestRepeats_t8]
    have hlt : decide (i ≤ most) = false := dec_f (by omega)
    obtain ⟨_, _, hP⟩ := rep_bd h hb
    obtain ⟨g, m, hmk, _⟩ := rep_mkF h hb
    rw [hlt, cond_false, impl_fracOf_is (p := repP d s a l b) (q := b) (by unfold small; omega) (by unfold small; omega) (by omega), Option.bind_some, hmk, bestGo]
    unfold repM
    rw [hmk]
    rfl
  | c + 1, 0, i, b, _, _, hk, _ => by omega
  | c + 1, k + 1, i, b, hi, he, hk, hb => by
    have hin : 1 ≤ i ∧ i ≤ 200 := by omega
    have hlt : decide (i ≤ most) = true := dec_t (by omega)
    have f1 := far_bd h hin
    have f2 := far_bd h hb
    have m1 := mul_pos_bd (a := far d s a l i) (b := b) (A := 700000000) (B := 200) f1 (by omega)
    have m2 := mul_pos_bd (a := far d s a l b) (b := i) (A := 700000000) (B := 200) f2 (by omega)
    simp only [impl_BestRepeats_l8, impl_BestRepeats_t8, pr_eta]
    rw [hlt, cond_true, impl_repeat_is h hin, Option.bind_some]
    dsimp only
    rw [far_max h hin, dec_f (p := far d s a l b < 0) (by omega), cond_false, w_in (x := far d s a l i * b) (by unfold I64; omega), w_in (x := far d s a l b * i) (by unfold I64; omega), w_in (x := i + 1) (by unfold I64; omega), bestGo]
    cases decide (far d s a l i * b < far d s a l b * i) with
    | true => exact impl_BestRepeats_l8_is c k (i + 1) i (by omega) (by omega) (by omega) hin
    | false => exact impl_BestRepeats_l8_is c k (i + 1) b (by omega) (by omega) (by omega) hb

theorem spec_BestRepeats_l8_is : ∀ (c k : Nat) (i b : Int), 1 ≤ i → i + c = most + 1 → c < k → 1 ≤ b ∧ b ≤ 200 →
    spec_BestRepeats_l8 N0 k i b a l s most 0 0 (offM d s a l b) (repM d s a l b).2 (repM d s a l b).1 (repM d s a l b).2 d.1 d.2.1 d.2.2 = r3 (bestGo d s a l c i b) (repM d s a l (bestGo d s a l c i b)) 0
  | 0, 0, i, b, _, _, hk, _ => by omega
  | 0, k + 1, i, b, hi, he, hk, hb => by
    simp only [spec_BestRepeats_l8, spec_BestRepeats_t8]
    have hlt : decide (i ≤ most) = false := dec_f (by omega)
    rw [hlt, cond_false, bestGo]
  | c + 1, 0, i, b, _, _, hk, _ => by omega
  | c + 1, k + 1, i, b, hi, he, hk, hb => by
    have hin : 1 ≤ i ∧ i ≤ 200 := by omega
    have hlt : decide (i ≤ most) = true := dec_t (by omega)
    have ha := btw_iff.1 h.a
    obtain ⟨_, _, _, _, q1, o1, p1⟩ := offM_is h hin
    obtain ⟨_, _, _, _, q2, o2, p2⟩ := offM_is h hb
    have m0 := mul_pos_bd (a := a) (b := (repM d s a l i).2) (A := 1295999) (B := 200) (by omega) (by omega)
    have m1 := mul_pos_bd (a := offM d s a l i) (b := (repM d s a l b).2) (A := 700000000) (B := 200) o1 (by omega)
    have m2 := mul_pos_bd (a := offM d s a l b) (b := (repM d s a l i).2) (A := 700000000) (B := 200) o2 (by omega)
    simp only [spec_BestRepeats_l8, spec_BestRepeats_t8, pr_eta]
    rw [hlt, cond_true, spec_l03Repeat_is h hin, Option.bind_some]
    dsimp only
    rw [ne_f rfl, cond_false, w_in (x := a * (repM d s a l i).2) (by unfold I64; omega), w_in (x := (repM d s a l i).1 - a * (repM d s a l i).2) (by unfold I64; omega), spec_l01Abs_is N0 (a := (repM d s a l i).1 - a * (repM d s a l i).2) (by omega), Option.bind_some]
    dsimp only
    rw [show (((repM d s a l i).1 - a * (repM d s a l i).2).natAbs : Int) = offM d s a l i from rfl, eq_f (a := b) (b := 0) (by omega), cond_false, w_in (x := offM d s a l i * (repM d s a l b).2) (by unfold I64; omega), w_in (x := offM d s a l b * (repM d s a l i).2) (by unfold I64; omega), w_in (x := i + 1) (by unfold I64; omega), bestGo,
      decide_eq_decide.2 (better_iff h hin hb)]
    cases decide (far d s a l i * b < far d s a l b * i) with
    | true => exact spec_BestRepeats_l8_is c k (i + 1) i (by omega) (by omega) (by omega) hin
    | false => exact spec_BestRepeats_l8_is c k (i + 1) b (by omega) (by omega) (by omega) hb

theorem spec_best_first : spec_BestRepeats_l8 N0 N0 1 0 a l s most 0 0 0 0 0 0 d.1 d.2.1 d.2.2 = r3 (bestGo d s a l (most.toNat - 1) 2 1) (repM d s a l (bestGo d s a l (most.toNat - 1) 2 1)) 0 := by
  have := N0_big
  obtain ⟨k, hk⟩ : ∃ k, N0 = k + 1 := ⟨N0 - 1, by omega⟩
  have hin : (1 : Int) ≤ 1 ∧ (1 : Int) ≤ 200 := by omega
  have ha := btw_iff.1 h.a
  obtain ⟨_, _, _, _, q1, o1, p1⟩ := offM_is h hin
  have m0 := mul_pos_bd (a := a) (b := (repM d s a l 1).2) (A := 1295999) (B := 200) (by omega) (by omega)
  have key := spec_BestRepeats_l8_is h hm (most.toNat - 1) k 2 1 (by omega) (by omega) (by omega) (by omega)
  rw [show spec_BestRepeats_l8 N0 N0 = spec_BestRepeats_l8 N0 (k + 1) by rw [← hk]]
  simp only [spec_BestRepeats_l8, spec_BestRepeats_t8, pr_eta]
  rw [dec_t (p := (1 : Int) ≤ most) (by omega), cond_true, spec_l03Repeat_is h hin, Option.bind_some]
  dsimp only
  rw [ne_f rfl, cond_false, w_in (x := a * (repM d s a l 1).2) (by unfold I64; omega), w_in (x := (repM d s a l 1).1 - a * (repM d s a l 1).2) (by unfold I64; omega), spec_l01Abs_is N0 (a := (repM d s a l 1).1 - a * (repM d s a l 1).2) (by omega), Option.bind_some]
  dsimp only
  rw [show (((repM d s a l 1).1 - a * (repM d s a l 1).2).natAbs : Int) = offM d s a l 1 from rfl, eq_t (a := (0 : Int)) (b := 0) rfl, cond_true, w_in (x := 1 + 1) (by unfold I64; omega)]
  exact key

theorem impl_best_first : impl_BestRepeats_l8 N0 N0 1 (-1) 1 a l s 0 most d.1 d.2.1 d.2.2 0 0 = r3 (bestGo d s a l (most.toNat - 1) 2 1) (repM d s a l (bestGo d s a l (most.toNat - 1) 2 1)) 0 := by
  have := N0_big
  obtain ⟨k, hk⟩ : ∃ k, N0 = k + 1 := ⟨N0 - 1, by omega⟩
  have hin : (1 : Int) ≤ 1 ∧ (1 : Int) ≤ 200 := by omega
  have key := impl_BestRepeats_l8_is h hm (most.toNat - 1) k 2 1 (by omega) (by omega) (by omega) (by omega)
  rw [show impl_BestRepeats_l8 N0 N0 = impl_BestRepeats_l8 N0 (k + 1) by rw [← hk]]
  simp only [impl_BestRepeats_l8, impl_BestRepeats_t8, pr_eta]
  rw [dec_t (p := (1 : Int) ≤ most) (by omega), cond_true, impl_repeat_is h hin, Option.bind_some]
  dsimp only
  rw [far_max h hin, dec_t (p := (-1 : Int) < 0) (by decide), cond_true, w_in (x := 1 + 1) (by unfold I64; omega)]
  exact key
end

abbrev bestRes (d : Dk) (s a n l : Int) : Option (((Int × Unit) × (((Int × Int) × Unit) × ((Int × Unit) × Unit))) × Unit) :=
  bif repC d s a n l == 0 then r3 (bestGo d s a l (n.toNat - 1) 2 1) (repM d s a l (bestGo d s a l (n.toNat - 1) 2 1)) 0 else r3 0 (0, 0) (repC d s a n l)

theorem spec_BestRepeats_is (d : Dk) (s a n l : Int) (hb : d.1.length ≤ 9223372036854775807) : spec_BestRepeats N0 d s a n l = bestRes d s a n l := by
  simp only [spec_BestRepeats, spec_BestRepeats_t, pr_eta, spec_l03Repeated_is d s a n l hb, Option.bind_some]
  unfold bestRes
  by_cases h : repC d s a n l = 0
  · obtain ⟨h1, h2⟩ := repC_ok h
    rw [h]
    simp only [bne_self_eq_false, cond_false, spec_best_first h1 h2]
    rfl
  · rw [ne_true h, eq_f h]; rfl

theorem impl_BestRepeats_is (d : Dk) (s a n l : Int) (hb : d.1.length ≤ 9223372036854775807) : impl_BestRepeats N0 d s a n l = bestRes d s a n l := by
  simp only [impl_BestRepeats, impl_BestRepeats_t, pr_eta, impl_rep_code d s a l hb, impl_within_is, Option.bind_some]
  unfold bestRes repC
  cases h1 : (diskOk d && (isAng s && isAng a)) with
  | false => rfl
  | true =>
    cases h2 : btw l 1 3600 with
    | false => rfl
    | true =>
      cases h3 : btw n 1 200 with
      | false => rfl
      | true =>
        rw [Bool.and_eq_true, Bool.and_eq_true] at h1
        have hr : RepIs d s a l := ⟨h1.1, h1.2.1, h1.2.2, btw_iff.1 h2⟩
        have hn := btw_iff.1 h3
        simp only [cond_true, beq_self_eq_true, Bool.not_true, cond_false, bne_self_eq_false, Bool.and_self, impl_best_first hr hn]

end Go.Abs
