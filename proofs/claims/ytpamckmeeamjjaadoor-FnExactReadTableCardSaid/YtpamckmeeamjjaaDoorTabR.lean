/- A table's text as lines and words; a table out of a text: the program's. -/
import Derived.Test.YtpamckmeeamjjaaDoorTabText
import Derived.Test.YtpamckmeeamjjaaDoorAngleP
import Derived.Lib.IndexMore
namespace Go.Abs
set_option linter.unusedSectionVars false
set_option linter.unusedSimpArgs false
set_option linter.unusedVariables false
open Go.Lib (decDigits itoa)

theorem joinC_cons (c : UInt8) (w : List UInt8) {ws : List (List UInt8)} (h : ws ≠ []) : joinC c (w :: ws) = w ++ c :: joinC c ws := by
  cases ws with
  | nil => exact absurd rfl h
  | cons v vs => rfl

theorem splitC_join {c : UInt8} : ∀ {ws : List (List UInt8)}, ws ≠ [] → (∀ w ∈ ws, c ∉ w) → splitC c (joinC c ws) = ws
  | [], h, _ => absurd rfl h
  | [w], _, hw => splitC_no (hw w (by simp))
  | w :: v :: ws, _, hw => by
    rw [joinC_cons c w (by simp), splitC_app (hw w (by simp)), splitC_join (by simp) (fun x hx => hw x (List.mem_cons_of_mem _ hx))]

theorem join_no {c d : UInt8} (hcd : c ≠ d) : ∀ {ws : List (List UInt8)}, (∀ w ∈ ws, c ∉ w) → c ∉ joinC d ws
  | [], _ => by simp [joinC]
  | [w], h => h w (by simp)
  | w :: v :: ws, h => by
    rw [joinC_cons d w (by simp), List.mem_append, List.mem_cons]
    rintro (h1 | h1 | h1)
    · exact h w (by simp) h1
    · exact hcd h1
    · exact join_no hcd (fun x hx => h x (List.mem_cons_of_mem _ hx)) h1

/-- what a number's text is made of -/
theorem itoa_no {c : UInt8} (hc : ¬ isDg c) (h45 : c ≠ 45) (n : Int) : c ∉ itoa n := by
  unfold itoa
  split
  · rw [List.mem_cons]
    rintro (h | h)
    · exact h45 h
    · exact dg_ne hc (dig_all _) h
  · exact dg_ne hc (dig_all _)

theorem fracT_no {c : UInt8} (hc : ¬ isDg c) (h45 : c ≠ 45) (h47 : c ≠ 47) (a : Int × Int) : c ∉ fracT a := by
  unfold fracT
  cases a.2 == 1 with
  | true => exact itoa_no hc h45 _
  | false =>
    rw [cond_false, List.mem_append, List.mem_append]
    rintro ((h | h) | h)
    · exact itoa_no hc h45 _ h
    · simp at h; exact h47 h
    · exact itoa_no hc h45 _ h

def coW (a : A6) : Nat → Nat → List (List UInt8)
  | 0, _ => []
  | k + 1, j => itoa (at6 a j) :: coW a k (j + 1)
/-- an observation's words -/
def obW (count : Nat) (o : Ob) : List (List UInt8) := coW o.1 count 0 ++ [fracT o.2.1, itoa o.2.2]
def closedT : List UInt8 := [99, 108, 111, 115, 101, 100]
def headW (t : Tb) : List (List UInt8) := bif t.2.2.1 then [itoa t.1, closedT, fracT t.2.2.2] else [itoa t.1]
def tabL (t : Tb) : List (List UInt8) := joinC 32 (headW t) :: t.2.1.map fun o => joinC 32 (obW t.1.toNat o)

theorem coW_len (a : A6) : ∀ (k j : Nat), (coW a k j).length = k
  | 0, _ => rfl
  | k + 1, j => by rw [coW, List.length_cons, coW_len a k (j + 1)]

theorem coW_at (a : A6) : ∀ (k j i : Nat) (d : List UInt8), i < k → (coW a k j).getD i d = itoa (at6 a (j + i))
  | 0, _, _, _, h => by omega
  | k + 1, j, 0, d, _ => rfl
  | k + 1, j, i + 1, d, h => by
    rw [coW, List.getD_cons_succ, coW_at a k (j + 1) i d (by omega), show j + 1 + i = j + (i + 1) by omega]

theorem coW_no {c : UInt8} (hc : ¬ isDg c) (h45 : c ≠ 45) (a : A6) : ∀ (k j : Nat), ∀ w ∈ coW a k j, c ∉ w
  | 0, _, w, h => by simp [coW] at h
  | k + 1, j, w, h => by
    rcases List.mem_cons.1 h with rfl | h
    · exact itoa_no hc h45 _
    · exact coW_no hc h45 a k (j + 1) w h

theorem obW_no {c : UInt8} (hc : ¬ isDg c) (h45 : c ≠ 45) (h47 : c ≠ 47) (n : Nat) (o : Ob) : ∀ w ∈ obW n o, c ∉ w := by
  intro w h
  unfold obW at h
  rcases List.mem_append.1 h with h | h
  · exact coW_no hc h45 _ _ _ w h
  · simp only [List.mem_cons, List.mem_nil_iff, or_false] at h
    rcases h with rfl | rfl
    · exact fracT_no hc h45 h47 _
    · exact itoa_no hc h45 _

theorem headW_no {c : UInt8} (hc : ¬ isDg c) (h45 : c ≠ 45) (h47 : c ≠ 47) (hcl : c ∉ closedT) (t : Tb) : ∀ w ∈ headW t, c ∉ w := by
  intro w h
  unfold headW at h
  cases hb : t.2.2.1 with
  | true =>
    rw [hb] at h
    simp only [cond_true, List.mem_cons, List.mem_nil_iff, or_false] at h
    rcases h with rfl | rfl | rfl
    · exact itoa_no hc h45 _
    · exact hcl
    · exact fracT_no hc h45 h47 _
  | false =>
    rw [hb] at h
    simp only [cond_false, List.mem_cons, List.mem_nil_iff, or_false] at h
    rw [h]
    exact itoa_no hc h45 _

theorem obW_ne (n : Nat) (o : Ob) : obW n o ≠ [] := by simp [obW]
theorem headW_ne (t : Tb) : headW t ≠ [] := by unfold headW; cases t.2.2.1 <;> simp

theorem coT_join (a : A6) (e : List UInt8) {r : List (List UInt8)} (hr : r ≠ []) (he : e = joinC 32 r ++ [10]) : ∀ (k j : Nat), coT a k j ++ e = joinC 32 (coW a k j ++ r) ++ [10]
  | 0, j => by rw [coT, coW, List.nil_append, List.nil_append, he]
  | k + 1, j => by
    rw [coT, coW, List.cons_append, joinC_cons 32 _ (by cases coW a k (j + 1) <;> simp [hr]), List.append_assoc, coT_join a e hr he k (j + 1)]
    simp

theorem obT_join (n : Nat) (o : Ob) : obT n o = joinC 32 (obW n o) ++ [10] := by
  unfold obT obW
  refine coT_join o.1 (obE o) (by simp) ?_ n 0
  unfold obE
  simp [joinC]

theorem headT_join (t : Tb) : headT t = joinC 32 (headW t) ++ [10] := by
  unfold headT headW closedT
  cases t.2.2.1 <;> simp [joinC]

theorem obs_join (n : Nat) (h : List UInt8) : ∀ (l : List Ob), h ++ [10] ++ obsT n l = joinC 10 ((h :: l.map fun o => joinC 32 (obW n o)) ++ [[]])
  | [] => by simp [obsT, joinC]
  | o :: l => by
    rw [List.map_cons, List.cons_append, joinC_cons 10 h (by simp), ← obs_join n (joinC 32 (obW n o)) l]
    simp [obsT, obT_join]

theorem tabT_join (t : Tb) : tabT t = joinC 10 (tabL t ++ [[]]) := by
  unfold tabT tabL
  rw [headT_join, obs_join]

theorem tab_split (t : Tb) : splitC 10 (tabT t) = tabL t ++ [[]] := by
  rw [tabT_join]
  refine splitC_join (by simp) ?_
  intro w h
  have h10 : ¬ isDg 10 := by decide
  rcases List.mem_append.1 h with h | h
  · unfold tabL at h
    rcases List.mem_cons.1 h with rfl | h
    · exact join_no (by decide) (headW_no h10 (by decide) (by decide) (by decide) t)
    · obtain ⟨o, _, rfl⟩ := List.mem_map.1 h
      exact join_no (by decide) (obW_no h10 (by decide) (by decide) _ o)
  · simp only [List.mem_cons, List.mem_nil_iff, or_false] at h
    rw [h]; simp

theorem ob_split (n : Nat) (o : Ob) : splitC 32 (joinC 32 (obW n o)) = obW n o :=
  splitC_join (obW_ne n o) (obW_no (by decide) (by decide) (by decide) n o)
theorem head_split (t : Tb) : splitC 32 (joinC 32 (headW t)) = headW t :=
  splitC_join (headW_ne t) (headW_no (by decide) (by decide) (by decide) (by decide) t)

/-! ### a cut at '/' -/
open Go.Lib in
theorem index_no {c : UInt8} {l : List UInt8} (h : c ∉ l) : indexByte l c = -1 := by
  induction l with
  | nil => rfl
  | cons x r ih =>
    rw [List.mem_cons, not_or] at h
    have hb : (x == c) = false := by simp [Ne.symm h.1]
    simp only [indexByte, hb, Bool.false_eq_true, if_false]
    rw [ih h.2]
    rfl

open Go.Lib in
theorem index_app {c : UInt8} {m : List UInt8} : ∀ {l : List UInt8}, c ∉ l → indexByte (l ++ c :: m) c = (l.length : Int)
  | [], _ => by simp [indexByte]
  | x :: r, h => by
    rw [List.mem_cons, not_or] at h
    have hb : (x == c) = false := by simp [Ne.symm h.1]
    simp only [List.cons_append, indexByte, hb, Bool.false_eq_true, if_false]
    rw [index_app h.2]
    rw [if_neg (by simp)]
    simp

open Go.Lib in
theorem cut_no {c : UInt8} {l : List UInt8} (h : c ∉ l) : cut l [c] = (l, [], false) := by
  unfold cut
  rw [index_one, index_no h, if_neg (by decide)]

open Go.Lib in
theorem cut_app {c : UInt8} {l m : List UInt8} (h : c ∉ l) : cut (l ++ c :: m) [c] = (l, m, true) := by
  unfold cut
  rw [index_one, index_app h, if_pos (by omega)]
  simp

open Go.Lib in
theorem cut_len (l m : List UInt8) : (cut l m).1.length ≤ l.length ∧ (cut l m).2.1.length ≤ l.length := by
  unfold cut
  split
  · simp only [List.length_take, List.length_drop]; omega
  · simp

/-! ### sixes -/
theorem at6_0 (a : A6) : at6 a 0 = a.1 := rfl
theorem at6_1 (a : A6) : at6 a 1 = a.2.1 := rfl
theorem at6_2 (a : A6) : at6 a 2 = a.2.2.1 := rfl
theorem at6_3 (a : A6) : at6 a 3 = a.2.2.2.1 := rfl
theorem at6_4 (a : A6) : at6 a 4 = a.2.2.2.2.1 := rfl
theorem at6_5 (a : A6) : at6 a 5 = a.2.2.2.2.2 := rfl

theorem a6_ext {a b : A6} (h : ∀ j, j < 6 → at6 a j = at6 b j) : a = b := by
  obtain ⟨a0, a1, a2, a3, a4, a5⟩ := a
  obtain ⟨b0, b1, b2, b3, b4, b5⟩ := b
  have h0 : a0 = b0 := h 0 (by omega)
  have h1 : a1 = b1 := h 1 (by omega)
  have h2 : a2 = b2 := h 2 (by omega)
  have h3 : a3 = b3 := h 3 (by omega)
  have h4 : a4 = b4 := h 4 (by omega)
  have h5 : a5 = b5 := h 5 (by omega)
  subst h0 h1 h2 h3 h4 h5
  rfl

/-- one coefficient set -/
def set6 (a : A6) (j : Nat) (v : Int) : A6 := ((cond (Nat.beq j 0) v a.1), ((cond (Nat.beq j 1) v a.2.1), ((cond (Nat.beq j 2) v a.2.2.1), ((cond (Nat.beq j 3) v a.2.2.2.1), ((cond (Nat.beq j 4) v a.2.2.2.2.1), (cond (Nat.beq j 5) v a.2.2.2.2.2))))))

theorem at6_set {a : A6} {j i : Nat} {v : Int} (hj : j < 6) (hi : i < 6) : at6 (set6 a j v) i = if i = j then v else at6 a i := by
  obtain rfl | rfl | rfl | rfl | rfl | rfl : j = 0 ∨ j = 1 ∨ j = 2 ∨ j = 3 ∨ j = 4 ∨ j = 5 := by omega
  all_goals (obtain rfl | rfl | rfl | rfl | rfl | rfl : i = 0 ∨ i = 1 ∨ i = 2 ∨ i = 3 ∨ i = 4 ∨ i = 5 := by omega)
  all_goals rfl

theorem at6_out {a : A6} {j : Nat} (h : 6 ≤ j) : at6 a j = 0 := by
  unfold at6
  obtain ⟨k, rfl⟩ : ∃ k, j = k + 6 := ⟨j - 6, by omega⟩
  rfl

def z6 : A6 := (0, (0, (0, (0, (0, 0)))))
theorem at6_z (j : Nat) : at6 z6 j = 0 := by
  by_cases h : j < 6
  · obtain rfl | rfl | rfl | rfl | rfl | rfl : j = 0 ∨ j = 1 ∨ j = 2 ∨ j = 3 ∨ j = 4 ∨ j = 5 := by omega
    all_goals rfl
  · exact at6_out (by omega)

/-- the first j coefficients -/
def pre6 (a : A6) : Nat → A6
  | 0 => z6
  | j + 1 => set6 (pre6 a j) j (at6 a j)

theorem at6_pre {a : A6} : ∀ {j i : Nat}, j ≤ 6 → i < 6 → at6 (pre6 a j) i = if i < j then at6 a i else 0
  | 0, i, _, _ => by rw [pre6, at6_z, if_neg (by omega)]
  | j + 1, i, hj, hi => by
    rw [pre6, at6_set (by omega) hi, at6_pre (by omega) hi]
    by_cases h : i = j
    · rw [if_pos h, if_pos (by omega), h]
    · rw [if_neg h]
      by_cases h2 : i < j
      · rw [if_pos h2, if_pos (by omega)]
      · rw [if_neg h2, if_neg (by omega)]

theorem ob_zero {count : Int} {o : Ob} (h : obOk count o = true) {j : Nat} (hj : j < 6) (hc : count ≤ j) : at6 o.1 j = 0 := by
  unfold obOk at h
  rw [Bool.and_eq_true] at h
  have := allUp_at h.1 j (by omega) (by omega)
  unfold coefAt at this
  rw [Bool.and_eq_true, dec_f (by omega)] at this
  simpa using this.2

theorem pre6_all {count : Nat} {o : Ob} (hc : count ≤ 6) (h : obOk (count : Int) o = true) : pre6 o.1 count = o.1 := by
  apply a6_ext
  intro j hj
  rw [at6_pre hc hj]
  by_cases h2 : j < count
  · rw [if_pos h2]
  · rw [if_neg h2, ob_zero h hj (by omega)]

theorem w8_in {x : Int} (h : -3 ≤ x ∧ x ≤ 3) : IntKind.wrap .i8 x = x := by
  obtain rfl | rfl | rfl | rfl | rfl | rfl | rfl : x = -3 ∨ x = -2 ∨ x = -1 ∨ x = 0 ∨ x = 1 ∨ x = 2 ∨ x = 3 := by omega
  all_goals rfl

theorem w8_fit (x : Int) : I64 (IntKind.wrap .i8 x) := by
  unfold I64 IntKind.wrap
  simp only [IntKind.bits, IntKind.signed]
  omega

abbrev rTab (t : Tb) (c : Int) : Option ((((Int × (List Ob × ((Bool × (Int × Int)) × Unit))) × ((Int × Unit) × Unit))) × Unit) := some (((t.1, (t.2.1, (t.2.2, ()))), ((c, ()), ())), ())
abbrev nTab : Tb := (0, ([], (false, (0, 0))))

theorem map_getD (ws : List (List UInt8)) (j : Nat) : (ws.map bs).getD j (ByteArray.mk #[]) = bs (ws.getD j []) := by
  simp only [List.getD_eq_getElem?_getD, List.getElem?_map]
  cases ws[j]? <;> rfl

theorem number_bs {l : List UInt8} (h : l.length ≤ 1048576) : impl_number N0 (bs l) = r1 (numL l) := impl_number_is (by rw [bs_size]; omega)

theorem cut_bs {l : List UInt8} (h : l.length ≤ 1048576) : strings_Cut N0 (bs l) (ByteArray.mk #[47]) = r3 (bs (Go.Lib.cut l [47]).1) (bs (Go.Lib.cut l [47]).2.1) (Go.Lib.cut l [47]).2.2 := by
  unfold strings_Cut
  rw [dec_t (by rw [bs_size]; omega), cond_true]

theorem impl_RF_tot {l : List UInt8} (h : l.length ≤ 1048576) : ∃ f c, impl_ReadFrac N0 (bs l) = r2 f c := by
  have hc := cut_len l [47]
  unfold impl_ReadFrac impl_ReadFrac_t
  rw [cut_bs h, Option.bind_some]
  dsimp only
  rw [number_bs (by omega), Option.bind_some]
  dsimp only
  rw [number_bs (by omega)]
  simp only [Option.bind_some, impl_FracText_is]
  cases (Go.Lib.cut l [47]).2.2 with
  | true =>
    simp only [cond_true]
    cases eqStr (bs l) (ByteArray.mk #[]) with
    | true => exact ⟨_, _, rfl⟩
    | false =>
      rw [cond_false]
      generalize (!eqStr _ (bs l)) = b
      cases b with
      | true => exact ⟨_, _, rfl⟩
      | false => exact ⟨_, _, rfl⟩
  | false =>
    simp only [cond_false]
    cases eqStr (bs l) (ByteArray.mk #[]) with
    | true => exact ⟨_, _, rfl⟩
    | false =>
      rw [cond_false]
      generalize (!eqStr _ (bs l)) = b
      cases b with
      | true => exact ⟨_, _, rfl⟩
      | false => exact ⟨_, _, rfl⟩

/-- the program's fraction of a text -/
noncomputable def rdF (l : List UInt8) : Int × Int := match impl_ReadFrac N0 (bs l) with
  | some r => r.1.1.1
  | none => (0, 0)

theorem impl_RF_is {l : List UInt8} (h : l.length ≤ 1048576) : ∃ c, impl_ReadFrac N0 (bs l) = r2 (rdF l) c := by
  obtain ⟨f, c, e⟩ := impl_RF_tot h
  refine ⟨c, ?_⟩
  unfold rdF
  rw [e]

theorem fracT_ne (a : Int × Int) : fracT a ≠ [] := by
  have h : itoa a.1 ≠ [] := by
    unfold itoa
    split
    · simp
    · exact dig_ne _
  unfold fracT
  cases a.2 == 1 with
  | true => exact h
  | false => simp

theorem rdF_is {a : Int × Int} (h : vF a = true) : rdF (fracT a) = a := by
  have hb := vF_bd h
  have hl := fracT_len h
  have h47 : ¬ isDg 47 := by decide
  have he : eqStr (bs (fracT a)) (ByteArray.mk #[]) = false := by
    rw [show (ByteArray.mk #[]) = bs [] from rfl, eqStr_bs]
    exact dec_f (fracT_ne a)
  unfold rdF impl_ReadFrac impl_ReadFrac_t
  rw [cut_bs (by omega), Option.bind_some]
  dsimp only
  cases h1 : a.2 == 1 with
  | true =>
    have e : fracT a = itoa a.1 := by unfold fracT; rw [h1, cond_true]
    have e1 : a.2 = 1 := by simpa using h1
    have ea : a = (a.1, 1) := by rw [← e1]
    have hn : Go.Lib.cut (fracT a) [47] = (itoa a.1, [], false) := by rw [e]; exact cut_no (itoa_no h47 (by decide) _)
    rw [hn]
    dsimp only
    rw [number_bs (by rw [← e]; omega), numL_itoa (by unfold I64; omega), Option.bind_some, cond_false, he, cond_false]
    dsimp only
    rw [← ea, impl_FracText_is, h, cond_true, Option.bind_some]
    dsimp only
    rw [eqStr_bs, dec_t rfl]
    rfl
  | false =>
    have e : fracT a = itoa a.1 ++ 47 :: itoa a.2 := by unfold fracT; rw [h1, cond_false]; simp
    have hn : Go.Lib.cut (fracT a) [47] = (itoa a.1, itoa a.2, true) := by rw [e]; exact cut_app (itoa_no h47 (by decide) _)
    have hl1 := itoa_len (n := a.1) (by omega)
    have hl2 := itoa_len (n := a.2) (by omega)
    rw [hn]
    dsimp only
    rw [number_bs (by omega), numL_itoa (by unfold I64; omega), Option.bind_some, cond_true, number_bs (by omega), numL_itoa (by unfold I64; omega), Option.bind_some, he, cond_false]
    dsimp only
    rw [pr_eta, impl_FracText_is, h, cond_true, Option.bind_some]
    dsimp only
    rw [eqStr_bs, dec_t rfl]
    rfl

/-! ### lines -/
theorem impl_lines_is {l : List UInt8} (h : l.length ≤ 1048576) : impl_lines N0 (bs l) =
    bif decide (l = []) then r2 [] true else r2 (((splitC 10 l).take ((splitC 10 l).length - 1)).map bs) (decide ((splitC 10 l).getD ((splitC 10 l).length - 1) [] = [])) := by
  have hlen := splitC_len 10 l
  have hpos := List.length_pos_iff.2 (splitC_ne 10 l)
  unfold impl_lines impl_lines_t
  rw [show (ByteArray.mk #[]) = bs [] from rfl, eqStr_bs]
  cases decide (l = []) with
  | true => rfl
  | false =>
    rw [cond_false, cond_false, show (ByteArray.mk #[10]) = bs [10] from rfl, strings_Split_is (by rw [bs_size]; omega), Option.bind_some]
    dsimp only
    have e : IntKind.wrap .i64 (((((splitC 10 (bs l).data.toList).map bs).length : Nat) : Int) - 1) = (((splitC 10 l).length - 1 : Nat) : Int) := by
      rw [List.length_map, show (bs l).data.toList = l from rfl, w_in (by unfold I64; omega)]
      omega
    rw [e, List.length_map, nn_t, dec_t (by omega), dec_t (by omega), Int.toNat_natCast, show (bs []) = (ByteArray.mk #[]) from rfl, map_getD, show (ByteArray.mk #[]) = bs [] from rfl, eqStr_bs]
    simp only [Bool.and_self, cond_true, Int.toNat_zero, List.drop_zero, Nat.sub_zero, List.map_take]

/-! ### a line's numbers -/
section
variable (G : Int → List ByteArray → ByteArray → Int → Int → Bool → Int → Int → Int → Bool → Int → Int → List Ob → Option ((((Int) × ((List Ob) × (((Bool) × ((Int) × (Int))) × (Unit)))) × (((Int) × (Unit)) × (Unit))) × (Unit)))
variable (v58 : List ByteArray) (v0 : ByteArray) (v59 v60 : Int) (b0 : Int) (b2 : Bool) (b3 b4 : Int) (f : Int × Int) (w : Int) (ws : List (List UInt8)) (c0 : Int) (c2 : Bool) (c3 c4 : Int) (p : List Ob)

theorem impl_RT_l18_step (m : Nat) (hm : m ≤ 6) (hw : m ≤ ws.length) (hs : ∀ x ∈ ws, x.length ≤ 1048576) (k j : Nat) (hj : j < m) (a : A6) :
    impl_ReadTable_l18 N0 G (k + 1) (j : Int) 0 m v58 v0 v59 v60 (m : Int) b0 b2 b3 b4 a.1 a.2.1 a.2.2.1 a.2.2.2.1 a.2.2.2.2.1 a.2.2.2.2.2 f.1 f.2 w (ws.map bs) c0 c2 c3 c4 p =
      bif btw (numL (ws.getD j [])) (-3) 3 then
        impl_ReadTable_l18 N0 G k ((j + 1 : Nat) : Int) 0 m v58 v0 v59 v60 (m : Int) b0 b2 b3 b4 (set6 a j (IntKind.wrap .i8 (numL (ws.getD j [])))).1 (set6 a j (IntKind.wrap .i8 (numL (ws.getD j [])))).2.1 (set6 a j (IntKind.wrap .i8 (numL (ws.getD j [])))).2.2.1 (set6 a j (IntKind.wrap .i8 (numL (ws.getD j [])))).2.2.2.1 (set6 a j (IntKind.wrap .i8 (numL (ws.getD j [])))).2.2.2.2.1 (set6 a j (IntKind.wrap .i8 (numL (ws.getD j [])))).2.2.2.2.2 f.1 f.2 w (ws.map bs) c0 c2 c3 c4 p
      else rTab nTab 5 := by
  have hd : (ws.getD j []).length ≤ 1048576 := by rw [get_ix (by omega : j < ws.length)]; exact hs _ (List.getElem_mem _)
  simp only [impl_ReadTable_l18, impl_ReadTable_t18]
  rw [dec_t (p := (j : Int) < (m : Int)) (by omega), cond_true, List.drop_zero, List.length_take, List.length_map, Nat.min_eq_left hw, nn_t, dec_t (p := (j : Int) < ((m : Nat) : Int)) (by omega), Bool.and_self, cond_true, Nat.zero_add, Int.toNat_natCast, map_getD, number_bs hd, Option.bind_some]
  dsimp only
  rw [impl_within_is, Option.bind_some]
  dsimp only
  cases btw (numL (ws.getD j [])) (-3) 3 with
  | false => rfl
  | true =>
    rw [dec_t (p := (j : Int) < 6) (by omega), Bool.not_true, cond_false, cond_true, Bool.and_self, cond_true, w_succ (i := j) (by omega)]
    rfl

theorem impl_RT_l18_end (m : Nat) (hp : p.length ≤ 100000) (k : Nat) (a : A6) :
    impl_ReadTable_l18 N0 G (k + 1) (m : Int) 0 m v58 v0 v59 v60 (m : Int) b0 b2 b3 b4 a.1 a.2.1 a.2.2.1 a.2.2.2.1 a.2.2.2.2.1 a.2.2.2.2.2 f.1 f.2 w (ws.map bs) c0 c2 c3 c4 p =
      G (IntKind.wrap .i64 (v60 + 1)) v58 v0 v59 b0 b2 b3 b4 c0 c2 c3 c4 (p ++ [(a, (f, w))]) := by
  simp only [impl_ReadTable_l18, impl_ReadTable_t18]
  rw [dec_f (p := (m : Int) < (m : Int)) (by omega), cond_false, dec_t (by simp; omega), cond_true]
end

theorem dec_c {p q : Prop} [Decidable p] [Decidable q] (h : p ↔ q) : decide p = decide q := by
  by_cases hp : p
  · rw [dec_t hp, dec_t (h.1 hp)]
  · rw [dec_f hp, dec_f (fun hq => hp (h.2 hq))]

theorem split_bs {l : List UInt8} (c : UInt8) (h : l.length ≤ 1048576) : strings_Split N0 (bs l) (bs [c]) = r1 ((splitC c l).map bs) := strings_Split_is (by rw [bs_size]; omega)

section
variable (ls : List (List UInt8)) (l : List UInt8) (b0 : Int) (b2 : Bool) (b3 b4 : Int) (c0 : Int) (c2 : Bool) (c3 c4 : Int)

theorem impl_RT_l9_step (hl : ls.length ≤ 25) (hs : ∀ x ∈ ls, x.length ≤ 1048576) (p : List Ob) (k i : Nat) (hi : i < ls.length) :
    impl_ReadTable_l9 N0 (k + 1) (i : Int) (ls.map bs) (bs l) (ls.length : Int) b0 b2 b3 b4 c0 c2 c3 c4 p =
      bif decide ((splitC 32 (ls.getD i [])).length < 3) then rTab nTab 5 else
      bif decide (8 < (splitC 32 (ls.getD i [])).length) then rTab nTab 5 else
      impl_ReadTable_l18 N0 (impl_ReadTable_l9 N0 k) N0 ((0 : Nat) : Int) 0 ((splitC 32 (ls.getD i [])).length - 2) (ls.map bs) (bs l) (ls.length : Int) (i : Int) (((splitC 32 (ls.getD i [])).length - 2 : Nat) : Int) b0 b2 b3 b4 z6.1 z6.2.1 z6.2.2.1 z6.2.2.2.1 z6.2.2.2.2.1 z6.2.2.2.2.2
        (rdF ((splitC 32 (ls.getD i [])).getD ((splitC 32 (ls.getD i [])).length - 2) [])).1 (rdF ((splitC 32 (ls.getD i [])).getD ((splitC 32 (ls.getD i [])).length - 2) [])).2 (numL ((splitC 32 (ls.getD i [])).getD ((splitC 32 (ls.getD i [])).length - 1) [])) ((splitC 32 (ls.getD i [])).map bs) c0 c2 c3 c4 p := by
  have hd : (ls.getD i []).length ≤ 1048576 := by rw [get_ix hi]; exact hs _ (List.getElem_mem _)
  have hW := splitC_len 32 (ls.getD i [])
  have hpos := List.length_pos_iff.2 (splitC_ne 32 (ls.getD i []))
  have hwd : ∀ j, ((splitC 32 (ls.getD i [])).getD j []).length ≤ 1048576 := by
    intro j
    by_cases hj : j < (splitC 32 (ls.getD i [])).length
    · rw [get_ix hj]
      have := splitC_part (List.getElem_mem hj)
      omega
    · rw [List.getD_eq_getElem?_getD, List.getElem?_eq_none (by omega)]; simp
  have hsp := split_bs 32 hd
  generalize splitC 32 (ls.getD i []) = ws at hW hpos hwd hsp ⊢
  simp only [impl_ReadTable_l9, impl_ReadTable_t9]
  rw [lt_t hi, cond_true, List.length_map, in_t hi, cond_true, Int.toNat_natCast, map_getD, show (ByteArray.mk #[32]) = bs [32] from rfl, hsp, Option.bind_some]
  dsimp only
  rw [List.length_map]
  by_cases h3 : ws.length < 3
  · rw [dec_t h3, cond_true, dec_t (p := IntKind.wrap .i64 (((ws.length : Nat) : Int) - 2) < 1) (by rw [w_in (by unfold I64; omega)]; omega), cond_true]
  · by_cases h8 : 8 < ws.length
    · rw [dec_f h3, dec_t h8, cond_false, cond_true, dec_f (p := IntKind.wrap .i64 (((ws.length : Nat) : Int) - 2) < 1) (by rw [w_in (by unfold I64; omega)]; omega), cond_false, dec_t (p := IntKind.wrap .i64 (((ws.length : Nat) : Int) - 2) > 6) (by rw [w_in (by unfold I64; omega)]; omega), cond_true]
    · have e2 : IntKind.wrap .i64 (((ws.length : Nat) : Int) - 2) = ((ws.length - 2 : Nat) : Int) := by rw [w_in (by unfold I64; omega)]; omega
      have e1 : IntKind.wrap .i64 (((ws.length - 2 : Nat) : Int) + 1) = ((ws.length - 1 : Nat) : Int) := by rw [w_succ (by omega)]; omega
      obtain ⟨c, hc⟩ := impl_RF_is (hwd (ws.length - 2))
      rw [dec_f h3, dec_f h8, cond_false, cond_false, e2, e1, dec_f (p := ((ws.length - 2 : Nat) : Int) < 1) (by omega), cond_false, dec_f (p := ((ws.length - 2 : Nat) : Int) > 6) (by omega), cond_false, in_t (by omega), in_t (by omega), cond_true, Int.toNat_natCast, Int.toNat_natCast, map_getD, number_bs (hwd _), Option.bind_some]
      dsimp only
      rw [cond_true, map_getD, hc, Option.bind_some]
      dsimp only
      rw [nn_t, dec_t (p := ((ws.length - 2 : Nat) : Int) ≤ ((ws.length : Nat) : Int)) (by omega), Bool.and_self, cond_true, Int.toNat_zero, Nat.sub_zero, List.drop_zero, List.length_take, List.length_map, Nat.min_eq_left (by omega)]
      rfl

theorem impl_RT_l9_end (p : List Ob) (hp : p.length ≤ 100000) (hf : ∀ o ∈ p, Fit6 o.1) (hne : l ≠ []) (k : Nat) :
    impl_ReadTable_l9 N0 (k + 1) (ls.length : Int) (ls.map bs) (bs l) (ls.length : Int) b0 b2 b3 b4 c0 c2 c3 c4 p =
      bif tabOk (c0, (p, (c2, (c3, c4)))) && decide (tabT (c0, (p, (c2, (c3, c4)))) = l) then rTab (c0, (p, (c2, (c3, c4)))) 0 else rTab nTab 5 := by
  simp only [impl_ReadTable_l9, impl_ReadTable_t9]
  rw [lt_f (Nat.lt_irrefl _), cond_false, impl_ValidTable_is _ (by dsimp only; omega) hf, Option.bind_some]
  dsimp only
  cases hk : tabOk (c0, (p, (c2, (c3, c4)))) with
  | false => rfl
  | true =>
    rw [Bool.not_true, cond_false, Bool.true_and, impl_TableText_is _ (by dsimp only; omega) hf, hk, cond_true, Option.bind_some]
    dsimp only
    rw [eqStr_bs]
    cases decide (tabT (c0, (p, (c2, (c3, c4)))) = l) <;> rfl
end

abbrev QRT (l : List UInt8) (x : Option ((((Int × (List Ob × ((Bool × (Int × Int)) × Unit))) × ((Int × Unit) × Unit))) × Unit)) : Prop :=
  x = rTab nTab 5 ∨ ∃ t, tabOk t = true ∧ tabT t = l ∧ x = rTab t 0

theorem fit6_set {a : A6} (h : Fit6 a) (j : Nat) (hj : j < 6) (x : Int) : Fit6 (set6 a j (IntKind.wrap .i8 x)) := by
  intro i
  by_cases hi : i < 6
  · rw [at6_set hj hi]
    split
    · exact w8_fit x
    · exact h i
  · rw [at6_out (by omega)]; unfold I64; omega

theorem fit6_z : Fit6 z6 := by intro j; rw [at6_z]; unfold I64; omega

section
variable (ls : List (List UInt8)) (l : List UInt8) (b0 : Int) (b2 : Bool) (b3 b4 : Int) (c0 : Int) (c2 : Bool) (c3 c4 : Int)

theorem impl_RT_l18_Q (G : Int → List ByteArray → ByteArray → Int → Int → Bool → Int → Int → Int → Bool → Int → Int → List Ob → Option ((((Int) × ((List Ob) × (((Bool) × ((Int) × (Int))) × (Unit)))) × (((Int) × (Unit)) × (Unit))) × (Unit)))
    (v58 : List ByteArray) (v0 : ByteArray) (v59 v60 : Int) (f : Int × Int) (w : Int) (ws : List (List UInt8)) (p : List Ob) (hp : p.length ≤ 100000)
    (hG : ∀ a, Fit6 a → QRT l (G (IntKind.wrap .i64 (v60 + 1)) v58 v0 v59 b0 b2 b3 b4 c0 c2 c3 c4 (p ++ [(a, (f, w))])))
    (m : Nat) (hm : m ≤ 6) (hw : m ≤ ws.length) (hs : ∀ x ∈ ws, x.length ≤ 1048576) : ∀ (k j : Nat) (a : A6), Fit6 a → j ≤ m → m - j < k →
    QRT l (impl_ReadTable_l18 N0 G k (j : Int) 0 m v58 v0 v59 v60 (m : Int) b0 b2 b3 b4 a.1 a.2.1 a.2.2.1 a.2.2.2.1 a.2.2.2.2.1 a.2.2.2.2.2 f.1 f.2 w (ws.map bs) c0 c2 c3 c4 p)
  | 0, j, a, _, _, hk => by omega
  | k + 1, j, a, ha, hj, hk => by
    by_cases h : j < m
    · rw [impl_RT_l18_step G v58 v0 v59 v60 b0 b2 b3 b4 f w ws c0 c2 c3 c4 p m hm hw hs k j h a]
      cases btw (numL (ws.getD j [])) (-3) 3 with
      | false => exact Or.inl rfl
      | true => exact impl_RT_l18_Q G v58 v0 v59 v60 f w ws p hp hG m hm hw hs k (j + 1) _ (fit6_set ha j (by omega) _) h (by omega)
    · have : j = m := by omega
      subst this
      rw [impl_RT_l18_end G v58 v0 v59 v60 b0 b2 b3 b4 f w ws c0 c2 c3 c4 p j hp k a]
      exact hG a ha

theorem impl_RT_l9_Q (hl : ls.length ≤ 25) (hs : ∀ x ∈ ls, x.length ≤ 1048576) (hne : l ≠ []) : ∀ (k i : Nat) (p : List Ob), i ≤ ls.length → ls.length - i < k → p.length ≤ i → (∀ o ∈ p, Fit6 o.1) →
    QRT l (impl_ReadTable_l9 N0 k (i : Int) (ls.map bs) (bs l) (ls.length : Int) b0 b2 b3 b4 c0 c2 c3 c4 p)
  | 0, i, p, _, hk, _, _ => by omega
  | k + 1, i, p, hi, hk, hp, hf => by
    have hN := N0_big
    by_cases h : i < ls.length
    · rw [impl_RT_l9_step ls l b0 b2 b3 b4 c0 c2 c3 c4 hl hs p k i h]
      have hd : (ls.getD i []).length ≤ 1048576 := by rw [get_ix h]; exact hs _ (List.getElem_mem _)
      have hpart : ∀ x ∈ splitC 32 (ls.getD i []), x.length ≤ 1048576 := fun x hx => Nat.le_trans (splitC_part hx) hd
      generalize splitC 32 (ls.getD i []) = ws at hpart ⊢
      by_cases h3 : ws.length < 3
      · rw [dec_t h3]; exact Or.inl rfl
      · by_cases h8 : 8 < ws.length
        · rw [dec_f h3, dec_t h8]; exact Or.inl rfl
        · rw [dec_f h3, dec_f h8, cond_false, cond_false]
          refine impl_RT_l18_Q l b0 b2 b3 b4 c0 c2 c3 c4 _ _ _ _ _ _ _ ws p (by omega) ?_ (ws.length - 2) (by omega) (by omega) hpart N0 0 z6 fit6_z (by omega) (by omega)
          intro a ha
          rw [w_succ (i := i) (by omega)]
          refine impl_RT_l9_Q hl hs hne k (i + 1) _ h (by omega) (by simp; omega) ?_
          intro o ho
          rcases List.mem_append.1 ho with ho | ho
          · exact hf o ho
          · simp only [List.mem_cons, List.mem_nil_iff, or_false] at ho
            rw [ho]; exact ha
    · have : i = ls.length := by omega
      subst this
      rw [impl_RT_l9_end ls l b0 b2 b3 b4 c0 c2 c3 c4 p (by omega) hf hne k]
      cases hk : tabOk (c0, (p, (c2, (c3, c4)))) && decide (tabT (c0, (p, (c2, (c3, c4)))) = l) with
      | false => exact Or.inl rfl
      | true =>
        rw [Bool.and_eq_true, decide_eq_true_eq] at hk
        exact Or.inr ⟨_, hk.1, hk.2, rfl⟩
end

theorem impl_RT_Q {l : List UInt8} (h : l.length ≤ 1048576) : QRT l (impl_ReadTable N0 (bs l)) := by
  have hN := N0_big
  unfold impl_ReadTable impl_ReadTable_t
  rw [impl_lines_is h]
  by_cases hne : l = []
  · rw [dec_t hne, cond_true, Option.bind_some]
    exact Or.inl rfl
  rw [dec_f hne, cond_false, Option.bind_some]
  dsimp only
  cases decide ((splitC 10 l).getD ((splitC 10 l).length - 1) [] = []) with
  | false => exact Or.inl rfl
  | true =>
    have hpart : ∀ x ∈ (splitC 10 l).take ((splitC 10 l).length - 1), x.length ≤ 1048576 := fun x hx => Nat.le_trans (splitC_part (List.mem_of_mem_take hx)) h
    generalize (splitC 10 l).take ((splitC 10 l).length - 1) = ls at hpart ⊢
    rw [Bool.not_true, cond_false, List.length_map]
    by_cases h0 : ls.length = 0
    · rw [eq_t (by omega)]; exact Or.inl rfl
    rw [eq_f (by omega), cond_false]
    by_cases h25 : ls.length ≤ 25
    · obtain ⟨x, ls', rfl⟩ : ∃ x ls', ls = x :: ls' := by
        cases ls with
        | nil => simp at h0
        | cons x r => exact ⟨x, r, rfl⟩
      have hx : x.length ≤ 1048576 := hpart x (by simp)
      have hs : ∀ y ∈ ls', y.length ≤ 1048576 := fun y hy => hpart y (List.mem_cons_of_mem _ hy)
      have hl' : ls'.length ≤ 25 := by simp at h25; omega
      have hwp : ∀ y ∈ splitC 32 x, y.length ≤ 1048576 := fun y hy => Nat.le_trans (splitC_part hy) hx
      have hpos := List.length_pos_iff.2 (splitC_ne 32 x)
      have hsp := split_bs 32 hx
      generalize splitC 32 x = ws at hwp hpos hsp
      rw [dec_f (by omega), cond_false, dec_t (p := (0 : Int) < (((x :: ls').length : Nat) : Int)) (by simp), cond_true, Int.toNat_zero, List.map_cons, List.getD_cons_zero, show (ByteArray.mk #[32]) = bs [32] from rfl, hsp, Option.bind_some]
      dsimp only
      have hwd : ∀ j, (ws.getD j []).length ≤ 1048576 := by
        intro j
        by_cases hj : j < ws.length
        · rw [get_ix hj]; exact hwp _ (List.getElem_mem _)
        · rw [List.getD_eq_getElem?_getD, List.getElem?_eq_none (by omega)]; simp
      rw [List.length_map, dec_t (p := (0 : Int) < ((ws.length : Nat) : Int)) (by omega), cond_true, map_getD, number_bs (hwd 0), Option.bind_some, impl_zero_is, Option.bind_some]
      dsimp only
      have e1 : decide ((1 : Int) ≤ (((x :: ls').length : Nat) : Int)) = true := dec_t (by simp; omega)
      have e2 : decide ((((x :: ls').length : Nat) : Int) ≤ (((x :: ls').length : Nat) : Int)) = true := dec_t (Int.le_refl _)
      have e3 : ((bs x :: ls'.map bs).drop (Int.toNat 1)).take (Int.toNat (((x :: ls').length : Nat) : Int) - Int.toNat 1) = ls'.map bs := by
        rw [Int.toNat_natCast, show Int.toNat 1 = 1 from rfl, List.drop_succ_cons, List.drop_zero, List.length_cons, Nat.add_sub_cancel]
        exact List.take_of_length_le (by simp)
      by_cases hw3 : ws.length = 3
      · obtain ⟨c, hc⟩ := impl_RF_is (hwd 2)
        rw [eq_t (by omega), cond_true, dec_t (p := (2 : Int) < ((ws.length : Nat) : Int)) (by omega), cond_true, show Int.toNat 2 = 2 from rfl, map_getD, hc, Option.bind_some]
        dsimp only
        rw [e1, e2, Bool.and_self, cond_true, e3, List.length_map]
        exact impl_RT_l9_Q ls' l 0 false 0 0 _ _ _ _ hl' hs hne N0 0 [] (by omega) (by omega) (by simp) (by simp)
      · rw [eq_f (by omega), cond_false, e1, e2, Bool.and_self, cond_true, e3, List.length_map]
        exact impl_RT_l9_Q ls' l 0 false 0 0 _ _ _ _ hl' hs hne N0 0 [] (by omega) (by omega) (by simp) (by simp)
    · rw [dec_t (by omega)]; exact Or.inl rfl

theorem obW_len (n : Nat) (o : Ob) : (obW n o).length = n + 2 := by unfold obW; rw [List.length_append, coW_len]; rfl
theorem obW_co {n : Nat} {o : Ob} {j : Nat} (h : j < n) : (obW n o).getD j [] = itoa (at6 o.1 j) := by
  have := coW_at o.1 n 0 j [] h
  rw [Nat.zero_add] at this
  rw [← this]
  unfold obW
  simp only [List.getD_eq_getElem?_getD]
  rw [List.getElem?_append_left (by rw [coW_len]; exact h)]
theorem obW_fr (n : Nat) (o : Ob) : (obW n o).getD n [] = fracT o.2.1 := by
  unfold obW
  simp only [List.getD_eq_getElem?_getD]
  rw [List.getElem?_append_right (by rw [coW_len]; exact Nat.le_refl _), coW_len, Nat.sub_self]
  rfl
theorem obW_wt (n : Nat) (o : Ob) : (obW n o).getD (n + 1) [] = itoa o.2.2 := by
  unfold obW
  simp only [List.getD_eq_getElem?_getD]
  rw [List.getElem?_append_right (by rw [coW_len]; omega), coW_len, show n + 1 - n = 1 by omega]
  rfl

theorem join_len {c : UInt8} {w : List UInt8} : ∀ {ws : List (List UInt8)}, w ∈ ws → w.length ≤ (joinC c ws).length
  | [x], h => by
    simp only [List.mem_cons, List.mem_nil_iff, or_false] at h
    rw [h]; exact Nat.le_refl _
  | x :: y :: ws, h => by
    rw [joinC_cons c x (by simp), List.length_append, List.length_cons]
    rcases List.mem_cons.1 h with rfl | h
    · omega
    · have := join_len (c := c) h; omega

section
variable (t : Tb) (ht : tabOk t = true) (b0 : Int) (b2 : Bool) (b3 b4 : Int) (c0 : Int) (c2 : Bool) (c3 c4 : Int)

theorem impl_RT_l18_fwd (G : Int → List ByteArray → ByteArray → Int → Int → Bool → Int → Int → Int → Bool → Int → Int → List Ob → Option ((((Int) × ((List Ob) × (((Bool) × ((Int) × (Int))) × (Unit)))) × (((Int) × (Unit)) × (Unit))) × (Unit)))
    (v58 : List ByteArray) (v0 : ByteArray) (v59 v60 : Int) (f : Int × Int) (w : Int) (p : List Ob) (hp : p.length ≤ 100000)
    (n : Nat) (hn : n ≤ 6) (o : Ob) (ho : obOk (n : Int) o = true) (hs : ∀ x ∈ obW n o, x.length ≤ 1048576) : ∀ (k j : Nat), j ≤ n → n - j < k →
    impl_ReadTable_l18 N0 G k (j : Int) 0 n v58 v0 v59 v60 (n : Int) b0 b2 b3 b4 (pre6 o.1 j).1 (pre6 o.1 j).2.1 (pre6 o.1 j).2.2.1 (pre6 o.1 j).2.2.2.1 (pre6 o.1 j).2.2.2.2.1 (pre6 o.1 j).2.2.2.2.2 f.1 f.2 w ((obW n o).map bs) c0 c2 c3 c4 p
      = G (IntKind.wrap .i64 (v60 + 1)) v58 v0 v59 b0 b2 b3 b4 c0 c2 c3 c4 (p ++ [(o.1, (f, w))])
  | 0, j, _, hk => by omega
  | k + 1, j, hj, hk => by
    by_cases h : j < n
    · have hb := (ob_in3 ho).1 j (by omega)
      rw [impl_RT_l18_step G v58 v0 v59 v60 b0 b2 b3 b4 f w (obW n o) c0 c2 c3 c4 p n hn (by rw [obW_len]; omega) hs k j h (pre6 o.1 j)]
      rw [obW_co h, numL_itoa (by unfold I64; omega), btw_iff.2 hb, cond_true, w8_in hb]
      exact impl_RT_l18_fwd G v58 v0 v59 v60 f w p hp n hn o ho hs k (j + 1) h (by omega)
    · have : j = n := by omega
      subst this
      rw [impl_RT_l18_end G v58 v0 v59 v60 b0 b2 b3 b4 f w (obW j o) c0 c2 c3 c4 p j hp k (pre6 o.1 j), pre6_all hn ho]

include ht in
theorem impl_RT_l9_fwd (hlen : (tabT t).length ≤ 1048576) : ∀ (k i : Nat), i ≤ t.2.1.length → t.2.1.length - i < k →
    impl_ReadTable_l9 N0 k (i : Int) ((t.2.1.map fun o => joinC 32 (obW t.1.toNat o)).map bs) (bs (tabT t)) ((t.2.1.map fun o => joinC 32 (obW t.1.toNat o)).length : Int) b0 b2 b3 b4 t.1 t.2.2.1 t.2.2.2.1 t.2.2.2.2 (t.2.1.take i) = rTab t 0
  | 0, i, _, hk => by omega
  | k + 1, i, hi, hk => by
    obtain ⟨h1, h2, h3, h4, h5⟩ := tab_ok ht
    have hN := N0_big
    have hcnt : ((t.1.toNat : Nat) : Int) = t.1 := by omega
    have hall : ∀ x ∈ tabL t ++ [[]], x.length ≤ 1048576 := by
      intro x hx
      have := join_len (c := 10) hx
      rw [← tabT_join] at this
      omega
    have hs : ∀ x ∈ (t.2.1.map fun o => joinC 32 (obW t.1.toNat o)), x.length ≤ 1048576 := fun x hx => hall x (List.mem_append_left _ (List.mem_cons_of_mem _ hx))
    have hm : (t.2.1.map fun o => joinC 32 (obW t.1.toNat o)).length = t.2.1.length := List.length_map _
    by_cases h : i < t.2.1.length
    · have hg : (t.2.1.map fun o => joinC 32 (obW t.1.toNat o)).getD i [] = joinC 32 (obW t.1.toNat t.2.1[i]) := by
        rw [get_ix (by rw [hm]; exact h)]; simp
      have hok : obOk ((t.1.toNat : Nat) : Int) t.2.1[i] = true := by rw [hcnt]; exact h5 _ (List.getElem_mem h)
      have hb := (ob_in3 hok).2
      have hword : ∀ x ∈ obW t.1.toNat t.2.1[i], x.length ≤ 1048576 := by
        intro x hx
        have e1 := join_len (c := 32) hx
        have e2 := hs (joinC 32 (obW t.1.toNat t.2.1[i])) (List.mem_map.2 ⟨_, List.getElem_mem h, rfl⟩)
        omega
      rw [impl_RT_l9_step (t.2.1.map fun o => joinC 32 (obW t.1.toNat o)) (tabT t) b0 b2 b3 b4 t.1 t.2.2.1 t.2.2.2.1 t.2.2.2.2 (by rw [hm]; omega) hs (t.2.1.take i) k i (by rw [hm]; exact h)]
      rw [hg, ob_split, obW_len, dec_f (by omega), dec_f (by omega), cond_false, cond_false, show t.1.toNat + 2 - 2 = t.1.toNat by omega, show t.1.toNat + 2 - 1 = t.1.toNat + 1 by omega, obW_fr, obW_wt, rdF_is hb.1, numL_itoa (by unfold I64; omega)]
      have e := impl_RT_l18_fwd b0 b2 b3 b4 t.1 t.2.2.1 t.2.2.2.1 t.2.2.2.2 (impl_ReadTable_l9 N0 k) ((t.2.1.map fun o => joinC 32 (obW t.1.toNat o)).map bs) (bs (tabT t)) ((t.2.1.map fun o => joinC 32 (obW t.1.toNat o)).length : Int) (i : Int) t.2.1[i].2.1 t.2.1[i].2.2 (t.2.1.take i) (by rw [List.length_take]; omega) t.1.toNat (by omega) t.2.1[i] hok hword N0 0 (by omega) (by omega)
      rw [show pre6 t.2.1[i].1 0 = z6 from rfl] at e
      rw [e, w_succ (i := i) (by omega), show (t.2.1[i].1, (t.2.1[i].2.1, t.2.1[i].2.2)) = t.2.1[i] from rfl, ← List.take_succ_eq_append_getElem h]
      exact impl_RT_l9_fwd hlen k (i + 1) h (by omega)
    · have : i = t.2.1.length := by omega
      subst this
      have hne : tabT t ≠ [] := by rw [tabT_join]; unfold tabL; rw [List.cons_append, joinC_cons 10 _ (by simp)]; simp
      have hf : ∀ o ∈ t.2.1, Fit6 o.1 := by
        intro o ho j
        by_cases hj : j < 6
        · have := (ob_in3 (h5 o ho)).1 j hj; unfold I64; omega
        · rw [at6_out (by omega)]; unfold I64; omega
      have e := impl_RT_l9_end (t.2.1.map fun o => joinC 32 (obW t.1.toNat o)) (tabT t) b0 b2 b3 b4 t.1 t.2.2.1 t.2.2.2.1 t.2.2.2.2 t.2.1 (by omega) hf hne k
      rw [hm] at e ⊢
      rw [List.take_length, e, show (t.1, (t.2.1, (t.2.2.1, (t.2.2.2.1, t.2.2.2.2)))) = t from rfl, ht, dec_t rfl]
      rfl
end

theorem tot_zero {a : Int × Int} (h : vF a = true) (h0 : a.1 = 0) : a = (0, 1) := by
  have hb := vF_bd h
  unfold vF at h
  simp only [Bool.and_eq_true, beq_iff_eq] at h
  have hg := h.2.2
  rw [h0, Int.gcd_zero_left] at hg
  obtain ⟨p, q⟩ := a
  simp only at h0 hb hg ⊢
  subst h0
  congr 1
  omega

theorem impl_RT_pos {t : Tb} (ht : tabOk t = true) (hlen : (tabT t).length ≤ 1048576) : impl_ReadTable N0 (bs (tabT t)) = rTab t 0 := by
  have hN := N0_big
  obtain ⟨h1, h2, h3, h4, h5⟩ := tab_ok ht
  have hne : tabT t ≠ [] := by rw [tabT_join]; unfold tabL; rw [List.cons_append, joinC_cons 10 _ (by simp)]; simp
  have hall : ∀ x ∈ tabL t ++ [[]], x.length ≤ 1048576 := by
    intro x hx
    have := join_len (c := 10) hx
    rw [← tabT_join] at this
    omega
  have hx : (joinC 32 (headW t)).length ≤ 1048576 := hall _ (by unfold tabL; simp)
  have hlen2 : (tabL t ++ [[]]).length - 1 = (tabL t).length := by rw [List.length_append]; rfl
  have htk : (tabL t ++ [[]]).take (tabL t).length = tabL t := by rw [List.take_append_of_le_length (Nat.le_refl _), List.take_length]
  have hlast : (tabL t ++ [[]]).getD (tabL t).length [] = [] := by
    simp only [List.getD_eq_getElem?_getD]
    rw [List.getElem?_append_right (Nat.le_refl _), Nat.sub_self]
    rfl
  have hlen3 : (tabL t).length = t.2.1.length + 1 := by unfold tabL; rw [List.length_cons, List.length_map]
  unfold impl_ReadTable impl_ReadTable_t
  rw [impl_lines_is hlen, dec_f hne, cond_false, Option.bind_some, tab_split, hlen2, hlast, htk]
  dsimp only
  have hsp := split_bs 32 hx
  rw [head_split] at hsp
  have hl18 := impl_RT_l9_fwd t ht 0 false 0 0 hlen N0 0 (by omega) (by omega)
  rw [List.take_zero, show ((0 : Nat) : Int) = 0 from rfl] at hl18
  have e3 : ((bs (joinC 32 (headW t)) :: (t.2.1.map fun o => joinC 32 (obW t.1.toNat o)).map bs).drop (Int.toNat 1)).take (Int.toNat (((tabL t).length : Nat) : Int) - Int.toNat 1) = (t.2.1.map fun o => joinC 32 (obW t.1.toNat o)).map bs := by
    rw [Int.toNat_natCast, show Int.toNat 1 = 1 from rfl, List.drop_succ_cons, List.drop_zero, hlen3, Nat.add_sub_cancel]
    exact List.take_of_length_le (by simp)
  have e1 : decide ((1 : Int) ≤ (((tabL t).length : Nat) : Int)) = true := dec_t (by omega)
  have e2 : decide ((((tabL t).length : Nat) : Int) ≤ (((tabL t).length : Nat) : Int)) = true := dec_t (Int.le_refl _)
  have em : (tabL t).map bs = bs (joinC 32 (headW t)) :: (t.2.1.map fun o => joinC 32 (obW t.1.toNat o)).map bs := rfl
  rw [dec_t rfl, Bool.not_true, cond_false, List.length_map, eq_f (by omega), cond_false, dec_f (by omega), cond_false, dec_t (p := (0 : Int) < (((tabL t).length : Nat) : Int)) (by omega), cond_true, em, Int.toNat_zero, List.getD_cons_zero, show (ByteArray.mk #[32]) = bs [32] from rfl, hsp, Option.bind_some]
  dsimp only
  have hword : ∀ x ∈ headW t, x.length ≤ 1048576 := by
    intro x h
    have := join_len (c := 32) h
    omega
  have hw0 : decide ((0 : Int) < (((headW t).length : Nat) : Int)) = true := dec_t (by have := List.length_pos_iff.2 (headW_ne t); omega)
  simp only [e1, e2, Bool.and_self, cond_true, e3, List.length_map, hw0, map_getD]
  rw [List.length_map] at hl18
  have hcl : t.2.2.1 = true ∨ t.2.2.1 = false := by cases t.2.2.1 <;> simp
  rcases hcl with hcl | hcl
  · have hw : headW t = [itoa t.1, closedT, fracT t.2.2.2] := by unfold headW; rw [hcl]; rfl
    rw [hw] at hword ⊢
    obtain ⟨c, hc⟩ := impl_RF_is (hword (fracT t.2.2.2) (by simp))
    have g0 : List.getD [itoa t.1, closedT, fracT t.2.2.2] 0 [] = itoa t.1 := rfl
    have g2 : List.getD [itoa t.1, closedT, fracT t.2.2.2] (Int.toNat 2) [] = fracT t.2.2.2 := rfl
    have b3 : ((([itoa t.1, closedT, fracT t.2.2.2].length : Nat) : Int) == 3) = true := rfl
    have b2 : decide ((2 : Int) < (([itoa t.1, closedT, fracT t.2.2.2].length : Nat) : Int)) = true := rfl
    rw [g0, number_bs (hword _ (by simp)), numL_itoa (by unfold I64; omega), Option.bind_some, impl_zero_is, Option.bind_some]
    simp only [b3, b2, cond_true, g2, hc, Option.bind_some, rdF_is h3]
    rw [hcl] at hl18
    exact hl18
  · have hw : headW t = [itoa t.1] := by unfold headW; rw [hcl]; rfl
    rw [hw] at hword ⊢
    have g0 : List.getD [itoa t.1] 0 [] = itoa t.1 := rfl
    have b3 : ((([itoa t.1].length : Nat) : Int) == 3) = false := rfl
    rw [g0, number_bs (hword _ (by simp)), numL_itoa (by unfold I64; omega), Option.bind_some, impl_zero_is, Option.bind_some]
    simp only [b3, cond_false]
    have hz := tot_zero h3 (h4.resolve_left (by rw [hcl]; simp))
    rw [hcl, hz] at hl18
    exact hl18
end Go.Abs
