/- The plain law of repeated angles. -/
import Derived.Test.YtipjecagbndhbaaDrawDisk
import Derived.Test.YtipjecagbndhbaaFracQ
import Derived.Test.YtipjecagbndhbaaRepP
import Derived.Test.YtipjecagbndhbaaWorstP
namespace Go.Abs
set_option linter.unusedSectionVars false
set_option linter.unusedSimpArgs false
set_option linter.unusedVariables false

theorem laws_a2At_ex (l : List Int) (h : ∀ y ∈ l, 0 ≤ y ∧ y ≤ 255) {m : Int} (hm : 1 ≤ m) : ∃ x, laws_a2At N0 l 0 m = r1 x ∧ 0 ≤ x ∧ x < m := by
  simp only [laws_a2At, laws_a2At_t]
  by_cases h0 : (0 : Int) ≥ (l.length : Int)
  · rw [dec_t h0, cond_true]
    exact ⟨0, rfl, by omega, by omega⟩
  · have hl : 0 < l.length := by omega
    have hy := h _ (List.getElem_mem hl)
    rw [dec_f h0, cond_false, dec_f (p := m < 1) (by omega), cond_false, dec_t (p := (0 : Int) ≤ 0) (by decide), dec_t (p := (0 : Int) < (l.length : Int)) (by omega), Bool.and_self, cond_true, ne_true (a := m) (b := 0) (by omega), cond_true]
    rw [show (0 : Int).toNat = 0 from rfl, get_ix hl, w_in (x := l[0]) (by unfold I64; omega)]
    exact ⟨_, rfl, Int.tmod_nonneg _ (by omega), Int.tmod_lt_of_pos _ (by omega)⟩

/-- the difference that is nearest to nought -/
theorem rep_near (d : Dk) (s a l n : Int) : (-648000 ≤ repP d s a l n - n * a ∧ repP d s a l n - n * a ≤ 648000) ∧
    (repP d s a l n - n * a - (turn ((s + n * a) % 1296000) (headR d ((s + n * a) % 1296000) l) - turn s (headR d s l))) % 1296000 = 0 := by
  have hT : (repT d s a l n - (headR d ((s + n * a) % 1296000) l - headR d s l)) % 1296000 = 0 := by
    unfold repT turn
    cases decide ((headR d ((s + n * a) % 1296000) l - headR d s l) % 1296000 > 648000) <;> simp only [cond_true, cond_false] <;> omega
  have h1 : (turn s (headR d s l) - (headR d s l - s)) % 1296000 = 0 := by
    unfold turn
    cases decide ((headR d s l - s) % 1296000 > 648000) <;> simp only [cond_true, cond_false] <;> omega
  have h2 : (turn ((s + n * a) % 1296000) (headR d ((s + n * a) % 1296000) l) - (headR d ((s + n * a) % 1296000) l - (s + n * a) % 1296000)) % 1296000 = 0 := by
    unfold turn
    cases decide ((headR d ((s + n * a) % 1296000) l - (s + n * a) % 1296000) % 1296000 > 648000) <;> simp only [cond_true, cond_false] <;> omega
  have e : repK d s a l n * 2592000 ≤ 2 * (n * a - repT d s a l n) + 1296000 := by
    unfold repK
    exact Int.ediv_mul_le _ (by decide)
  have e' : 2 * (n * a - repT d s a l n) + 1296000 < (repK d s a l n + 1) * 2592000 := by
    unfold repK
    exact Int.lt_ediv_add_one_mul_self _ (by decide)
  unfold repP
  omega

theorem rep_far (d : Dk) (s a l n : Int) : far d s a l n ≤ headOff d l s + headOff d l ((s + n * a) % 1296000) := by
  obtain ⟨h1, h2⟩ := rep_near d s a l n
  unfold far headOff
  generalize turn ((s + n * a) % 1296000) (headR d ((s + n * a) % 1296000) l) = e2 at *
  generalize turn s (headR d s l) = e1 at *
  omega

/-- the disk with no faults -/
theorem headR_plain {a : Int} (ha : 0 ≤ a ∧ a ≤ 1295999) : headR (([0] : List Int), ((0 : Int), (0 : Int))) a 1 = a := by
  have hw : dW [0] = 1296000 := rfl
  have hf : ∀ i, flA [0] i = 0 := by
    intro i
    cases i <;> rfl
  have hS : headS (([0] : List Int), ((0 : Int), (0 : Int))) a = a * 419904000000 := by
    unfold headS faultP offP
    simp only [hf, hw, Int.zero_mul, Int.add_zero, Int.sub_self]
    rw [Int.mul_assoc]
    rfl
  unfold headR headN
  rw [hS]
  unfold headU
  rw [hw]
  omega

theorem repP_plain {s a n : Int} (hs : 0 ≤ s ∧ s ≤ 1295999) (hr : RepIs (([0] : List Int), ((0 : Int), (0 : Int))) s a 1) (hn : 1 ≤ n ∧ n ≤ 200) : repM (([0] : List Int), ((0 : Int), (0 : Int))) s a 1 n = (a, 1) := by
  have h := rep_far (([0] : List Int), ((0 : Int), (0 : Int))) s a 1 n
  have e1 : headOff (([0] : List Int), ((0 : Int), (0 : Int))) 1 s = 0 := by
    unfold headOff turn
    rw [headR_plain hs]
    simp
  have e2 : headOff (([0] : List Int), ((0 : Int), (0 : Int))) 1 ((s + n * a) % 1296000) = 0 := by
    unfold headOff turn
    rw [headR_plain (ang_mod _)]
    simp
  have ha := btw_iff.1 hr.a
  rw [e1, e2] at h
  unfold far at h
  have e : repP (([0] : List Int), ((0 : Int), (0 : Int))) s a 1 n = a * n := by
    rw [Int.mul_comm a n]
    omega
  unfold repM
  rw [e, mkF_mul (by omega) hn.1]
  rfl

theorem le_trans_q {x y z b j b' : Int} (hb : 0 < b) (hj : 0 ≤ j) (hb' : 0 ≤ b') (h1 : x * b ≤ y * b') (h2 : y * j ≤ z * b) : x * j ≤ z * b' := by
  have k1 : x * b * j ≤ y * b' * j := Int.mul_le_mul_of_nonneg_right h1 hj
  have k2 : y * j * b' ≤ z * b * b' := Int.mul_le_mul_of_nonneg_right h2 hb'
  have e1 : x * b * j = b * (x * j) := by rw [Int.mul_comm x b, Int.mul_assoc]
  have e2 : y * b' * j = y * j * b' := by rw [Int.mul_assoc, Int.mul_comm b' j, ← Int.mul_assoc]
  have e3 : z * b * b' = b * (z * b') := by rw [Int.mul_comm z b, Int.mul_assoc]
  rw [e1, e2] at k1
  rw [e3] at k2
  exact Int.le_of_mul_le_mul_left (Int.le_trans k1 k2) hb

theorem bestGo_best (d : Dk) (s a l : Int) : ∀ (c : Nat) (i b : Int), 1 ≤ i → 1 ≤ b → b < i →
    (1 ≤ bestGo d s a l c i b ∧ bestGo d s a l c i b < i + c) ∧ (far d s a l (bestGo d s a l c i b) * b ≤ far d s a l b * bestGo d s a l c i b) ∧
      ∀ j, i ≤ j → j < i + c → far d s a l (bestGo d s a l c i b) * j ≤ far d s a l j * bestGo d s a l c i b
  | 0, i, b, hi, hb, hlt => by
    rw [bestGo]
    exact ⟨⟨hb, by omega⟩, Int.le_refl _, fun j h1 h2 => by omega⟩
  | c + 1, i, b, hi, hb, hlt => by
    rw [bestGo]
    by_cases h : far d s a l i * b < far d s a l b * i
    · rw [dec_t h, cond_true]
      obtain ⟨h1, h2, h3⟩ := bestGo_best d s a l c (i + 1) i (by omega) hi (by omega)
      refine ⟨⟨h1.1, by omega⟩, le_trans_q (show (0 : Int) < i by omega) (by omega) (by omega) h2 (Int.le_of_lt h), fun j k1 k2 => ?_⟩
      by_cases hj : j = i
      · rw [hj]; exact h2
      · exact h3 j (by omega) (by omega)
    · rw [dec_f h, cond_false]
      obtain ⟨h1, h2, h3⟩ := bestGo_best d s a l c (i + 1) b (by omega) hb (by omega)
      refine ⟨⟨h1.1, by omega⟩, h2, fun j k1 k2 => ?_⟩
      by_cases hj : j = i
      · rw [hj]; exact le_trans_q (show (0 : Int) < b by omega) (by omega) (by omega) h2 (by omega)
      · exact h3 j (by omega) (by omega)

theorem best_all (d : Dk) (s a l : Int) {n : Int} (hn : 1 ≤ n ∧ n ≤ 200) : (1 ≤ bestGo d s a l (n.toNat - 1) 2 1 ∧ bestGo d s a l (n.toNat - 1) 2 1 ≤ n) ∧ far d s a l (bestGo d s a l (n.toNat - 1) 2 1) * n ≤ far d s a l n * bestGo d s a l (n.toNat - 1) 2 1 := by
  obtain ⟨h1, h2, h3⟩ := bestGo_best d s a l (n.toNat - 1) 2 1 (by omega) (by omega) (by omega)
  refine ⟨by omega, ?_⟩
  by_cases h : n = 1
  · rw [h] at h2 ⊢; exact h2
  · exact h3 n (by omega) (by omega)

theorem worst_one (d : Dk) (l a : Int) : worstOf d l [a] (-1) 0 = (headOff d l a, a) := by
  have : headOff d l a > -1 := by unfold headOff; omega
  rw [worstOf, dec_t this]
  rfl

theorem headOff_bd (d : Dk) (l a : Int) : 0 ≤ headOff d l a ∧ headOff d l a ≤ 648000 := by
  have := turn_bd a (headR d a l)
  unfold headOff
  omega

/-- what the law asks of a mean that is off, and of the two ends -/
theorem rep_ends {d : Dk} {s a n : Int} (hr : RepIs d s a 1) (hn : 1 ≤ n ∧ n ≤ 200) :
    ((repM d s a 1 n).1 - a * (repM d s a 1 n).2) * n ≤ (headOff d 1 s + headOff d 1 ((s + n * a) % 1296000)) * (repM d s a 1 n).2 ∧
    (0 - (headOff d 1 s + headOff d 1 ((s + n * a) % 1296000))) * (repM d s a 1 n).2 ≤ ((repM d s a 1 n).1 - a * (repM d s a 1 n).2) * n := by
  obtain ⟨g, hg, e1, e2, q, o, p⟩ := offM_is hr hn
  have hf := rep_far d s a 1 n
  have k : far d s a 1 n * (repM d s a 1 n).2 ≤ (headOff d 1 s + headOff d 1 ((s + n * a) % 1296000)) * (repM d s a 1 n).2 := Int.mul_le_mul_of_nonneg_right hf (by omega)
  have e : far d s a 1 n * (repM d s a 1 n).2 = offM d s a 1 n * n := by
    have e3 : offM d s a 1 n * n = offM d s a 1 n * (g * (repM d s a 1 n).2) := congrArg (offM d s a 1 n * ·) e2
    rw [e3, e1, Int.mul_comm g, Int.mul_assoc]
  rw [e] at k
  rw [Int.zero_sub, Int.neg_mul]
  have k2 : offM d s a 1 n * n = ((((repM d s a 1 n).1 - a * (repM d s a 1 n).2) * n).natAbs : Int) := by
    unfold offM
    rw [Int.natAbs_mul, Int.natCast_mul]
    congr 1
    omega
  rw [k2] at k
  omega

theorem law_FnRepeats (code more : List Int) (h : WfD (.list (.int .u8)) code) (hm : WfD (.list (.int .u8)) more) : laws_FnRepeats N0 code more = r1 true := by
  unfold laws_FnRepeats laws_FnRepeats_t
  rw [laws_a2Long_is, Option.bind_some]
  dsimp only
  cases hl : (decide ((code.length : Int) > 3000) || decide ((more.length : Int) > 3000)) with
  | true => rfl
  | false =>
    rw [Bool.or_eq_false_iff] at hl
    have hl1 := of_decide_eq_false hl.1
    have hl2 := of_decide_eq_false hl.2
    obtain ⟨d, ed, hd⟩ := spec_A2Disk_ex code (code_wf h) (by omega)
    obtain ⟨s, es, hs⟩ := spec_A2Angle_ex more (code_wf hm) (by omega)
    obtain ⟨a, ea, ha⟩ := spec_A2Angle_ex ([2] ++ code) (by
      intro y hy
      rcases List.mem_append.1 hy with hy | hy
      · rw [List.mem_singleton.1 hy]; omega
      · exact code_wf h y hy) (by simp; omega)
    obtain ⟨x, ex, hx⟩ := laws_a2At_ex more (code_wf hm) (m := 30) (by omega)
    have hdl := hd.hi
    have hok := hd.ok
    have hb : d.1.length ≤ 9223372036854775807 := by omega
    have hroom : decide ((([2] : List Nat).length + code.length) * 2 ≤ 70368744177664) = true := dec_t (by simp only [List.length_cons, List.length_nil]; omega)
    obtain ⟨n, hnx⟩ : ∃ n, n = 1 + x := ⟨_, rfl⟩
    have hn : 1 ≤ n ∧ n ≤ 200 := by omega
    have hr : RepIs d s a 1 := ⟨hok, hs, ha, by omega⟩
    have hsa := btw_iff.1 hs
    have haa := btw_iff.1 ha
    have hna := rep_na hr hn
    have hna' := mul_pos_bd (a := n) (b := a) (A := 30) (B := 1295999) (by omega) (by omega)
    have hC : ∀ m, 1 ≤ m ∧ m ≤ 200 → repC d s a m 1 = 0 := by
      intro m hm
      unfold repC
      rw [hok, hs, ha, show btw (1 : Int) 1 3600 = true from rfl, show btw m 1 200 = true from btw_iff.2 hm]
      rfl
    have hR1 : ∀ m, 1 ≤ m ∧ m ≤ 200 → impl_RepeatAngle N0 d s a m 1 = r3 (repM d s a 1 m) (repK d s a 1 m) 0 := by
      intro m hm
      rw [impl_RepeatAngle_is d s a m 1 hb, repRes, hC m hm]
      rfl
    have hR2 : spec_RepeatAngle N0 d s a n 1 = r3 (repM d s a 1 n) (repK d s a 1 n) 0 := by
      rw [spec_RepeatAngle_is d s a n 1 hb, repRes, hC n hn]
      rfl
    have hB1 : impl_BestRepeats N0 d s a n 1 = r3 (bestGo d s a 1 (n.toNat - 1) 2 1) (repM d s a 1 (bestGo d s a 1 (n.toNat - 1) 2 1)) 0 := by
      rw [impl_BestRepeats_is d s a n 1 hb, bestRes, hC n hn]
      rfl
    have hB2 : spec_BestRepeats N0 d s a n 1 = r3 (bestGo d s a 1 (n.toNat - 1) 2 1) (repM d s a 1 (bestGo d s a 1 (n.toNat - 1) 2 1)) 0 := by
      rw [spec_BestRepeats_is d s a n 1 hb, bestRes, hC n hn]
      rfl
    have hP : impl_RepeatAngle N0 (([0] : List Int), ((0 : Int), (0 : Int))) s a n 1 = r3 (a, 1) (repK (([0] : List Int), ((0 : Int), (0 : Int))) s a 1 n) 0 := by
      have hk : RepIs (([0] : List Int), ((0 : Int), (0 : Int))) s a 1 := ⟨rfl, hs, ha, by omega⟩
      rw [impl_RepeatAngle_is _ s a n 1 (by decide), repRes, ← repP_plain hsa hk hn]
      unfold repC
      rw [hs, ha, show btw (1 : Int) 1 3600 = true from rfl, show btw n 1 200 = true from btw_iff.2 hn]
      rfl
    have hW : impl_WrapAngle N0 (s + n * a) = r2 ((s + n * a) % 1296000) 0 := by
      simp only [impl_WrapAngle, impl_WrapAngle_t, impl_within_is, Option.bind_some, show btw (s + n * a) (-1000000000000) 1000000000000 = true from btw_iff.2 (by omega), Bool.not_true, cond_false, impl_wrap_is]
    have hw1 : ∀ y, isAng y = true → impl_WorstHead N0 d [y] 1 = r3 (headOff d 1 y) y 0 := by
      intro y hy
      rw [impl_WorstHead_is d [y] 1 (by simp) hb, worstRes, worst_one]
      unfold worstC
      rw [hok, show [y].all isAng = true by rw [List.all_cons, hy]; rfl]
      rfl
    have hE : isAng ((s + n * a) % 1296000) = true := btw_iff.2 (ang_mod _)
    obtain ⟨hb1, hb2⟩ := best_all d s a 1 hn
    obtain ⟨b, hbe⟩ : ∃ b, b = bestGo d s a 1 (n.toNat - 1) 2 1 := ⟨_, rfl⟩
    rw [← hbe] at hB1 hB2 hb1 hb2
    have hb200 : 1 ≤ b ∧ b ≤ 200 := by omega
    obtain ⟨_, _, _, _, q1, o1, p1⟩ := offM_is hr hn
    obtain ⟨_, _, _, _, q2, o2, p2⟩ := offM_is hr hb200
    have hbest : offM d s a 1 b * (repM d s a 1 n).2 ≤ offM d s a 1 n * (repM d s a 1 b).2 := by
      have := better_iff hr hn hb200
      omega
    obtain ⟨g1, g2⟩ := rep_ends hr hn
    have h1 := headOff_bd d 1 s
    have h2 := headOff_bd d 1 ((s + n * a) % 1296000)
    have m1 := mul_pos_bd (a := a) (b := (repM d s a 1 n).2) (A := 1295999) (B := 200) (by omega) (by omega)
    have m2 := mul_pos_bd (a := a) (b := (repM d s a 1 b).2) (A := 1295999) (B := 200) (by omega) (by omega)
    have m3 := mul_bd (a := (repM d s a 1 n).1 - a * (repM d s a 1 n).2) (b := n) (A := 2000000000) (B := 200) (by omega) (by omega)
    have m4 := mul_pos_bd (a := headOff d 1 s + headOff d 1 ((s + n * a) % 1296000)) (b := (repM d s a 1 n).2) (A := 1296000) (B := 200) (by omega) (by omega)
    have m5 := mul_bd (a := 0 - (headOff d 1 s + headOff d 1 ((s + n * a) % 1296000))) (b := (repM d s a 1 n).2) (A := 1296000) (B := 200) (by omega) (by omega)
    have m6 := mul_pos_bd (a := offM d s a 1 b) (b := (repM d s a 1 n).2) (A := 700000000) (B := 200) o2 (by omega)
    have m7 := mul_pos_bd (a := offM d s a 1 n) (b := (repM d s a 1 b).2) (A := 700000000) (B := 200) o1 (by omega)
    have ea : spec_A2Angle N0 (2 :: [] ++ code) = r1 a := ea
    rw [cond_false, ed, Option.bind_some]
    dsimp only
    rw [es, Option.bind_some]
    dsimp only
    rw [hroom, cond_true, ea, Option.bind_some]
    dsimp only
    rw [ex, Option.bind_some]
    dsimp only
    rw [w_in (x := 1 + x) (by unfold I64; omega), ← hnx]
    simp only [pr_eta, hR1 n hn, hR2, Option.bind_some, bne_self_eq_false, cond_false, beq_self_eq_true, Bool.and_self, Bool.not_true, w_in (x := n * a) (by unfold I64; omega), w_in (x := s + n * a) (by unfold I64; omega), hW, hw1 s hs, hw1 _ hE,
      w_in (x := a * (repM d s a 1 n).2) (by unfold I64; omega), w_in (x := (repM d s a 1 n).1 - a * (repM d s a 1 n).2) (by unfold I64; omega), w_in (x := ((repM d s a 1 n).1 - a * (repM d s a 1 n).2) * n) (by unfold I64; omega),
      w_in (x := headOff d 1 s + headOff d 1 ((s + n * a) % 1296000)) (by unfold I64; omega), w_in (x := (headOff d 1 s + headOff d 1 ((s + n * a) % 1296000)) * (repM d s a 1 n).2) (by unfold I64; omega), w_in (x := 0 - (headOff d 1 s + headOff d 1 ((s + n * a) % 1296000))) (by unfold I64; omega), w_in (x := (0 - (headOff d 1 s + headOff d 1 ((s + n * a) % 1296000))) * (repM d s a 1 n).2) (by unfold I64; omega)]
    rw [dec_f (p := _ > _) (by omega), cond_false, dec_f (p := _ < _) (by omega), cond_false]
    simp only [hP, hB1, hB2, Option.bind_some, bne_self_eq_false, cond_false, beq_self_eq_true, Bool.and_self, Bool.not_true, dec_f (p := b < 1) (by omega), dec_f (p := b > n) (by omega), hR1 b hb200, cond_true, w_in (x := a * (repM d s a 1 b).2) (by unfold I64; omega), w_in (x := (repM d s a 1 b).1 - a * (repM d s a 1 b).2) (by unfold I64; omega)]
    have c1 : ∀ m, (repM d s a 1 m).1 - a * (repM d s a 1 m).2 < 0 → 0 - ((repM d s a 1 m).1 - a * (repM d s a 1 m).2) = offM d s a 1 m := by intro m hm; unfold offM; omega
    have c2 : ∀ m, ¬ (repM d s a 1 m).1 - a * (repM d s a 1 m).2 < 0 → (repM d s a 1 m).1 - a * (repM d s a 1 m).2 = offM d s a 1 m := by intro m hm; unfold offM; omega
    have fin : decide (IntKind.wrap .i64 (IntKind.wrap .i64 (offM d s a 1 b) * (repM d s a 1 n).2) ≤ IntKind.wrap .i64 (IntKind.wrap .i64 (offM d s a 1 n) * (repM d s a 1 b).2)) = true := by
      rw [w_in (x := offM d s a 1 b) (by unfold I64; omega), w_in (x := offM d s a 1 n) (by unfold I64; omega), w_in (x := offM d s a 1 b * (repM d s a 1 n).2) (by unfold I64; omega), w_in (x := offM d s a 1 n * (repM d s a 1 b).2) (by unfold I64; omega)]
      exact dec_t hbest
    have fin2 : decide (IntKind.wrap .i64 (offM d s a 1 b * (repM d s a 1 n).2) ≤ IntKind.wrap .i64 (offM d s a 1 n * (repM d s a 1 b).2)) = true := by
      rw [w_in (x := offM d s a 1 b * (repM d s a 1 n).2) (by unfold I64; omega), w_in (x := offM d s a 1 n * (repM d s a 1 b).2) (by unfold I64; omega)]
      exact dec_t hbest
    have wb : IntKind.wrap .i64 (offM d s a 1 b) = offM d s a 1 b := w_in (by unfold I64; omega)
    have wn : IntKind.wrap .i64 (offM d s a 1 n) = offM d s a 1 n := w_in (by unfold I64; omega)
    by_cases s1 : (repM d s a 1 b).1 - a * (repM d s a 1 b).2 < 0
    · by_cases s2 : (repM d s a 1 n).1 - a * (repM d s a 1 n).2 < 0
      · simp only [dec_t s1, dec_t s2, cond_true]
        simp only [c1 b s1, c1 n s2, wb, wn, fin2, cond_true]
      · simp only [dec_t s1, dec_f s2, cond_true, cond_false]
        simp only [c1 b s1, c2 n s2, wb, wn, fin2, cond_true]
    · by_cases s2 : (repM d s a 1 n).1 - a * (repM d s a 1 n).2 < 0
      · simp only [dec_f s1, dec_t s2, cond_true, cond_false]
        simp only [c2 b s1, c1 n s2, wb, wn, fin2, cond_true]
      · simp only [dec_f s1, dec_f s2, cond_true, cond_false]
        simp only [c2 b s1, c2 n s2, wb, wn, fin2, cond_true]
end Go.Abs
