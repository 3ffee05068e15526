/- Disks: validity, faults, swings, heads. -/
import Derived.Test.YtpamckmeeamjjaaDoorShare
namespace Go.Abs
set_option linter.unusedSectionVars false
set_option linter.unusedSimpArgs false
set_option linter.unusedVariables false

abbrev Dk : Type := List Int × (Int × Int)

theorem any_not' {α : Type} (p : α → Bool) (v : List α) : (v.any fun x => !p x) = !v.all p := by
  induction v with
  | nil => rfl
  | cons x r ih => rw [List.any_cons, List.all_cons, ih]; cases p x <;> rfl

def isFault (x : Int) : Bool := btw (IntKind.wrap .i64 x) (-600) 600
/-- a valid disk -/
def diskOk (d : Dk) : Bool := btw (d.1.length : Int) 1 72 && ((Int.tmod 1296000 (d.1.length : Int) == 0) && (btw d.2.1 (-600) 600 && (btw d.2.2 (-600) 600 && d.1.all isFault)))

theorem impl_ValidDisk_1_is (n : Nat) (x : Int) : impl_ValidDisk_1 n x = r1 (!isFault x) := by
  simp only [impl_ValidDisk_1, impl_ValidDisk_1_t, impl_within_is, Option.bind_some]
  rfl

theorem impl_ValidDisk_is (d : Dk) (hb : d.1.length ≤ 9223372036854775807) : impl_ValidDisk N0 d = r1 (diskOk d) := by
  have hc : slices_ContainsFunc_int16_int16_at_impl_ValidDisk_1 N0 d.1 = r1 (!d.1.all isFault) := by
    simp only [slices_ContainsFunc_int16_int16_at_impl_ValidDisk_1, slices_ContainsFunc_int16_int16_at_impl_ValidDisk_1_t, slices_IndexFunc_int16_int16_at_impl_ValidDisk_1, slices_IndexFunc_int16_int16_at_impl_ValidDisk_1_t]
    rw [idx_all (L := slices_IndexFunc_int16_int16_at_impl_ValidDisk_1_l2 N0) (d := 0) (fun x => !isFault x) (impl_ValidDisk_1_is N0) (fun _ _ _ _ => rfl) d.1 hb]
    simp only [Option.bind_some, fIdx_any, any_not']
  simp only [impl_ValidDisk, impl_ValidDisk_t, impl_within_is, Option.bind_some, hc, Bool.not_not]
  unfold diskOk
  cases h1 : btw (d.1.length : Int) 1 72 with
  | false => rfl
  | true =>
    rw [btw_iff] at h1
    rw [cond_true, ne_true (by omega), cond_true, Bool.true_and]
    cases (Int.tmod 1296000 (d.1.length : Int) == 0) with
    | false => rfl
    | true =>
      cases btw d.2.1 (-600) 600 with
      | false => rfl
      | true => cases btw d.2.2 (-600) 600 <;> rfl

theorem spec_l03Ok_l5_is (v : List Int) (e o : Int) (hb : v.length ≤ 9223372036854775807) : ∀ (k i : Nat), i ≤ v.length → v.length - i < k →
    spec_l03Ok_l5 N0 k (i : Int) v e o = c1 ((v.drop i).all isFault && (btw e (-600) 600 && btw o (-600) 600)) (v, (e, o))
  | 0, i, _, hk => by omega
  | k + 1, i, hi, hk => by
    simp only [spec_l03Ok_l5, spec_l03Ok_t5]
    by_cases h : i < v.length
    · simp only [lt_t h, nn_t, Bool.and_self, cond_true, Int.toNat_natCast, get_ix h, w_succ (i := i) (by omega), spec_l00In_is, Option.bind_some]
      rw [drop_ix h, List.all_cons]
      change (bif !isFault v[i] then _ else _) = _
      cases isFault v[i] with
      | true => rw [Bool.not_true, cond_false, Bool.true_and]; exact spec_l03Ok_l5_is v e o hb k (i + 1) h (by omega)
      | false => rfl
    · have : i = v.length := by omega
      subst this
      simp only [lt_f h, cond_false, List.drop_length, List.all_nil, Bool.true_and, spec_l00In_is, Option.bind_some]
      cases btw e (-600) 600 <;> rfl

theorem spec_l03Ok_is (d : Dk) (hb : d.1.length ≤ 9223372036854775807) : spec_l03Ok N0 d = c1 (diskOk d) d := by
  have := N0_big
  have h := spec_l03Ok_l5_is d.1 d.2.1 d.2.2 hb N0 0 (by omega) (by omega)
  rw [List.drop_zero] at h
  have h : spec_l03Ok_l5 N0 N0 0 d.1 d.2.1 d.2.2 = c1 (d.1.all isFault && (btw d.2.1 (-600) 600 && btw d.2.2 (-600) 600)) d := h
  simp only [spec_l03Ok, spec_l03Ok_t, spec_l00In_is, Option.bind_some, h, pr_eta]
  unfold diskOk
  cases h1 : btw (d.1.length : Int) 1 72 with
  | false => rfl
  | true =>
    rw [btw_iff] at h1
    rw [Bool.not_true, cond_false, ne_true (by omega), cond_true, Bool.true_and]
    by_cases h2 : Int.tmod 1296000 (d.1.length : Int) = 0
    · rw [eq_t h2, ne_f h2, cond_false, Bool.true_and]
      rw [Bool.and_comm, Bool.and_assoc]
    · rw [eq_f h2, ne_true h2, cond_true]
      rfl

theorem diskOk_iff {d : Dk} : diskOk d = true ↔ (1 ≤ d.1.length ∧ d.1.length ≤ 72) ∧ Int.tmod 1296000 (d.1.length : Int) = 0 ∧ (-600 ≤ d.2.1 ∧ d.2.1 ≤ 600) ∧ (-600 ≤ d.2.2 ∧ d.2.2 ≤ 600) ∧ d.1.all isFault = true := by
  unfold diskOk
  rw [Bool.and_eq_true, Bool.and_eq_true, Bool.and_eq_true, Bool.and_eq_true, btw_iff, btw_iff, btw_iff, beq_iff_eq]
  constructor <;> (rintro ⟨h1, h2⟩; exact ⟨by omega, h2⟩)

/-- the size of a sector -/
def dW (v : List Int) : Int := 1296000 / (v.length : Int)
/-- a mark's fault -/
def flA (v : List Int) (i : Nat) : Int := IntKind.wrap .i64 (v.getD i 0)
/-- the sector of an angle -/
def dK (v : List Int) (a : Int) : Nat := (a / dW v).toNat
/-- a fault, times the size of a sector -/
def faultP (v : List Int) (a : Int) : Int := flA v (dK v a) * dW v + (flA v ((dK v a + 1) % v.length) - flA v (dK v a)) * (a % dW v)

theorem flA_bd {v : List Int} (hv : v.all isFault = true) (i : Nat) : -600 ≤ flA v i ∧ flA v i ≤ 600 := by
  unfold flA
  by_cases h : i < v.length
  · rw [get_ix h]
    exact btw_iff.1 (List.all_eq_true.1 hv _ (List.getElem_mem h))
  · rw [show v.getD i 0 = 0 by simp [List.getD, List.getElem?_eq_none (Nat.le_of_not_lt h)]]
    decide

structure DiskIs (v : List Int) (a : Int) : Prop where
  len : 1 ≤ v.length ∧ v.length ≤ 72
  w : 1 ≤ dW v ∧ dW v ≤ 1296000
  mul : dW v * (v.length : Int) = 1296000
  k : dK v a < v.length
  kI : a / dW v = (dK v a : Int)
  ang : 0 ≤ a ∧ a ≤ 1295999
  md : 0 ≤ a % dW v ∧ a % dW v < dW v
  fl : v.all isFault = true

theorem DiskIs.of {d : Dk} {a : Int} (h : diskOk d = true) (ha : isAng a = true) : DiskIs d.1 a := by
  rw [diskOk_iff] at h
  rw [btw_iff] at ha
  obtain ⟨hl, hm, _, _, hf⟩ := h
  have hn : (0 : Int) < (d.1.length : Int) := by omega
  have hm' : 1296000 % (d.1.length : Int) = 0 := by rw [← Int.tmod_eq_emod_of_nonneg (by decide)]; exact hm
  have hmul : dW d.1 * (d.1.length : Int) = 1296000 := by
    unfold dW
    have := Int.mul_ediv_add_emod 1296000 (d.1.length : Int)
    rw [hm', Int.add_zero, Int.mul_comm] at this
    exact this
  have hw1 : 1 ≤ dW d.1 := by
    unfold dW
    rw [Int.le_ediv_iff_mul_le hn]; omega
  have hw2 : dW d.1 ≤ 1296000 := Int.ediv_le_self _ (by decide)
  have hk0 : 0 ≤ a / dW d.1 := Int.ediv_nonneg ha.1 (by omega)
  have hk1 : a / dW d.1 < (d.1.length : Int) := by
    rw [Int.ediv_lt_iff_lt_mul (by omega), Int.mul_comm, hmul]; omega
  exact ⟨hl, ⟨hw1, hw2⟩, hmul, by unfold dK; omega, by unfold dK; omega, ha, ⟨Int.emod_nonneg _ (by omega), Int.emod_lt_of_pos _ (by omega)⟩, hf⟩

theorem DiskIs.bd {v : List Int} {a : Int} (h : DiskIs v a) : (-777600000 ≤ flA v (dK v a) * dW v ∧ flA v (dK v a) * dW v ≤ 777600000) ∧
    (-1555200000 ≤ (flA v ((dK v a + 1) % v.length) - flA v (dK v a)) * (a % dW v) ∧ (flA v ((dK v a + 1) % v.length) - flA v (dK v a)) * (a % dW v) ≤ 1555200000) := by
  have h1 := flA_bd h.fl (dK v a)
  have h2 := flA_bd h.fl ((dK v a + 1) % v.length)
  have hw := h.w
  have hm := h.md
  have m1 := mul_bd (a := flA v (dK v a)) (b := dW v) (A := 600) (B := 1296000) h1 (by omega)
  have m2 := mul_bd (a := flA v ((dK v a + 1) % v.length) - flA v (dK v a)) (b := a % dW v) (A := 1200) (B := 1296000) (by omega) (by omega)
  omega

theorem faultP_bd {v : List Int} {a : Int} (h : DiskIs v a) : -2332800000 ≤ faultP v a ∧ faultP v a ≤ 2332800000 := by
  have := h.bd
  unfold faultP
  omega

theorem impl_faultAt_is {d : Dk} {a : Int} (h : DiskIs d.1 a) : impl_faultAt N0 d a = r2 (faultP d.1 a) (dW d.1) := by
  obtain ⟨hl, hw, hmul, hk, hkI, ha, hmd, hf⟩ := h
  have hb := (DiskIs.mk hl hw hmul hk hkI ha hmd hf).bd
  have e1 : Int.tdiv 1296000 (d.1.length : Int) = dW d.1 := Int.tdiv_eq_ediv_of_nonneg (by decide)
  have e2 : Int.tdiv a (dW d.1) = (dK d.1 a : Int) := by rw [Int.tdiv_eq_ediv_of_nonneg ha.1, hkI]
  have e3 : Int.tmod a (dW d.1) = a % dW d.1 := Int.tmod_eq_emod_of_nonneg ha.1
  have e4 : Int.tmod ((dK d.1 a + 1 : Nat) : Int) (d.1.length : Int) = (((dK d.1 a + 1) % d.1.length : Nat) : Int) := by
    rw [Int.tmod_eq_emod_of_nonneg (by omega)]; rfl
  have hk' : (dK d.1 a + 1) % d.1.length < d.1.length := Nat.mod_lt _ (by omega)
  simp only [impl_faultAt, impl_faultAt_t, e1, w_in (x := dW d.1) (by unfold I64; omega), e2, w_in (x := (dK d.1 a : Int)) (by unfold I64; omega), w_succ (i := dK d.1 a) (by omega), e3, e4, ne_true (a := (d.1.length : Int)) (b := 0) (by omega),
    ne_true (a := dW d.1) (b := 0) (by omega), lt_t hk, lt_t hk', nn_t, Bool.and_self, cond_true, Int.toNat_natCast]
  change r2 (IntKind.wrap .i64 (IntKind.wrap .i64 (flA d.1 (dK d.1 a) * dW d.1) + IntKind.wrap .i64 (IntKind.wrap .i64 (flA d.1 ((dK d.1 a + 1) % d.1.length) - flA d.1 (dK d.1 a)) * (a % dW d.1)))) (dW d.1) = _
  have h1 := flA_bd hf (dK d.1 a)
  have h2 := flA_bd hf ((dK d.1 a + 1) % d.1.length)
  rw [w_in (x := flA d.1 ((dK d.1 a + 1) % d.1.length) - flA d.1 (dK d.1 a)) (by unfold I64; omega), w_in (x := flA d.1 (dK d.1 a) * dW d.1) (by unfold I64; omega), w_in (x := (flA d.1 ((dK d.1 a + 1) % d.1.length) - flA d.1 (dK d.1 a)) * (a % dW d.1)) (by unfold I64; omega), w_in (by unfold I64; omega)]
  rfl

theorem spec_l03Fault_is {d : Dk} {a : Int} (h : DiskIs d.1 a) : spec_l03Fault N0 a d = c2 (faultP d.1 a) (dW d.1) d := by
  obtain ⟨hl, hw, hmul, hk, hkI, ha, hmd, hf⟩ := h
  have hb := (DiskIs.mk hl hw hmul hk hkI ha hmd hf).bd
  have e1 : Int.tdiv 1296000 (d.1.length : Int) = dW d.1 := Int.tdiv_eq_ediv_of_nonneg (by decide)
  have e2 : Int.tdiv a (dW d.1) = (dK d.1 a : Int) := by rw [Int.tdiv_eq_ediv_of_nonneg ha.1, hkI]
  have e5 : IntKind.wrap .i64 (a - IntKind.wrap .i64 ((dK d.1 a : Int) * dW d.1)) = a % dW d.1 := by
    have := Int.mul_ediv_add_emod a (dW d.1)
    rw [hkI, Int.mul_comm] at this
    rw [w_in (x := (dK d.1 a : Int) * dW d.1) (by unfold I64; omega), w_in (by unfold I64; omega)]
    omega
  have e4 : Int.tmod ((dK d.1 a + 1 : Nat) : Int) (d.1.length : Int) = (((dK d.1 a + 1) % d.1.length : Nat) : Int) := by
    rw [Int.tmod_eq_emod_of_nonneg (by omega)]; rfl
  have hk' : (dK d.1 a + 1) % d.1.length < d.1.length := Nat.mod_lt _ (by omega)
  simp only [spec_l03Fault, spec_l03Fault_t, e1, w_in (x := dW d.1) (by unfold I64; omega), e2, w_in (x := (dK d.1 a : Int)) (by unfold I64; omega), w_succ (i := dK d.1 a) (by omega), e5, e4, ne_true (a := (d.1.length : Int)) (b := 0) (by omega),
    ne_true (a := dW d.1) (b := 0) (by omega), lt_t hk, lt_t hk', nn_t, Bool.and_self, cond_true, Int.toNat_natCast]
  change c2 (IntKind.wrap .i64 (IntKind.wrap .i64 (flA d.1 (dK d.1 a) * dW d.1) + IntKind.wrap .i64 (IntKind.wrap .i64 (flA d.1 ((dK d.1 a + 1) % d.1.length) - flA d.1 (dK d.1 a)) * (a % dW d.1)))) (dW d.1) d = _
  have h1 := flA_bd hf (dK d.1 a)
  have h2 := flA_bd hf ((dK d.1 a + 1) % d.1.length)
  rw [w_in (x := flA d.1 ((dK d.1 a + 1) % d.1.length) - flA d.1 (dK d.1 a)) (by unfold I64; omega), w_in (x := flA d.1 (dK d.1 a) * dW d.1) (by unfold I64; omega), w_in (x := (flA d.1 ((dK d.1 a + 1) % d.1.length) - flA d.1 (dK d.1 a)) * (a % dW d.1)) (by unfold I64; omega), w_in (by unfold I64; omega)]
  rfl

/-- the code of a disk and an angle -/
theorem spec_l03Asked_is (d : Dk) (a : Int) (hb : d.1.length ≤ 9223372036854775807) : spec_l03Asked N0 a d = c1 (bif diskOk d && isAng a then 0 else 1) d := by
  simp only [spec_l03Asked, spec_l03Asked_t, pr_eta, spec_l03Ok_is d hb, spec_l03Angle_is, Option.bind_some]
  cases diskOk d with
  | false => rfl
  | true => cases isAng a <;> rfl

/-! ### swings -/
def swing (a : Int) : Int := bif decide (a ≤ 324000) then a else bif decide (a ≤ 972000) then 648000 - a else a - 1296000

theorem swing_bd {a : Int} (h : 0 ≤ a ∧ a ≤ 1295999) : -324000 ≤ swing a ∧ swing a ≤ 324000 := by
  unfold swing
  by_cases h1 : a ≤ 324000
  · rw [dec_t h1, cond_true]; omega
  · rw [dec_f h1, cond_false]
    by_cases h2 : a ≤ 972000
    · rw [dec_t h2, cond_true]; omega
    · rw [dec_f h2, cond_false]; omega

theorem impl_swing_is (n : Nat) {a : Int} (h : 0 ≤ a ∧ a ≤ 1295999) : impl_swing n a = r1 (swing a) := by
  simp only [impl_swing, impl_swing_t, swing, w_in (x := 648000 - a) (by unfold I64; omega), w_in (x := a - 1296000) (by unfold I64; omega)]
  cases decide (a ≤ 324000) with
  | true => rfl
  | false => cases decide (a ≤ 972000) <;> rfl

theorem spec_l03Swing_is (n : Nat) {a : Int} (h : 0 ≤ a ∧ a ≤ 1295999) : spec_l03Swing n a = r1 (swing a) := by
  simp only [spec_l03Swing, spec_l03Swing_t, swing, w_in (x := 648000 - a) (by unfold I64; omega), w_in (x := a - 1296000) (by unfold I64; omega)]
  cases decide (a ≤ 324000) with
  | true => rfl
  | false => cases decide (a ≤ 972000) <;> rfl

/-- what the middle does, times a quarter of the circle -/
def offP (d : Dk) (a : Int) : Int := d.2.1 * swing a + d.2.2 * swing ((a + 324000) % 1296000)

theorem ang_mod (x : Int) : 0 ≤ x % 1296000 ∧ x % 1296000 ≤ 1295999 := by omega

theorem off_parts {d : Dk} (h : diskOk d = true) {a : Int} (ha : 0 ≤ a ∧ a ≤ 1295999) : (-194400000 ≤ d.2.1 * swing a ∧ d.2.1 * swing a ≤ 194400000) ∧ (-194400000 ≤ d.2.2 * swing ((a + 324000) % 1296000) ∧ d.2.2 * swing ((a + 324000) % 1296000) ≤ 194400000) := by
  rw [diskOk_iff] at h
  have h1 := swing_bd ha
  have h2 := swing_bd (ang_mod (a + 324000))
  exact ⟨mul_bd (A := 600) (B := 324000) (by omega) h1, mul_bd (A := 600) (B := 324000) (by omega) h2⟩

theorem offP_bd {d : Dk} (h : diskOk d = true) {a : Int} (ha : 0 ≤ a ∧ a ≤ 1295999) : -388800000 ≤ offP d a ∧ offP d a ≤ 388800000 := by
  have := off_parts h ha
  unfold offP
  omega

theorem impl_swingAt_is {d : Dk} (h : diskOk d = true) {a : Int} (ha : 0 ≤ a ∧ a ≤ 1295999) : impl_swingAt N0 d a = r2 (offP d a) 324000 := by
  have hp := off_parts h ha
  simp only [impl_swingAt, impl_swingAt_t, impl_swing_is N0 ha, w_in (x := a + 324000) (by unfold I64; omega), impl_wrap_is, Option.bind_some, impl_swing_is N0 (ang_mod (a + 324000)),
    w_in (x := d.2.1 * swing a) (by unfold I64; omega), w_in (x := d.2.2 * swing ((a + 324000) % 1296000)) (by unfold I64; omega)]
  rw [w_in (by unfold I64; omega)]
  rfl

theorem spec_l03Off_is {d : Dk} (h : diskOk d = true) {a : Int} (ha : 0 ≤ a ∧ a ≤ 1295999) : spec_l03Off N0 a d = c1 (offP d a) d := by
  have hp := off_parts h ha
  simp only [spec_l03Off, spec_l03Off_t, spec_l03Swing_is N0 ha, w_in (x := a + 324000) (by unfold I64; omega), spec_l03Wrap_is, Option.bind_some, spec_l03Swing_is N0 (ang_mod (a + 324000)),
    w_in (x := d.2.1 * swing a) (by unfold I64; omega), w_in (x := d.2.2 * swing ((a + 324000) % 1296000)) (by unfold I64; omega)]
  rw [w_in (by unfold I64; omega)]
  rfl

/-! ### heads -/
/-- what is read, times the size of a sector and a quarter of the circle -/
def headS (d : Dk) (a : Int) : Int := a * dW d.1 * 324000 + faultP d.1 a * 324000 + offP d a * dW d.1
/-- the unit, likewise -/
def headU (d : Dk) (least : Int) : Int := dW d.1 * 324000 * least
def headN (d : Dk) (a least : Int) : Int := (2 * headS d a + headU d least) / (2 * headU d least)
/-- what a head reads -/
def headR (d : Dk) (a least : Int) : Int := (headN d a least * least) % 1296000

structure HeadIs (d : Dk) (a least : Int) : Prop where
  ok : diskOk d = true
  ang : isAng a = true
  least : 1 ≤ least ∧ least ≤ 3600

section
variable {d : Dk} {a least : Int} (h : HeadIs d a least)
include h
theorem head_bd : (0 ≤ a * dW d.1 ∧ a * dW d.1 ≤ 1679616000000) ∧ (-503884800000000 ≤ offP d a * dW d.1 ∧ offP d a * dW d.1 ≤ 503884800000000) ∧ (324000 ≤ headU d least ∧ headU d least ≤ 1511654400000000) := by
  have hi := DiskIs.of h.ok h.ang
  have hw := hi.w
  have hl := h.least
  have m1 := mul_pos_bd (a := a) (b := dW d.1) (A := 1295999) (B := 1296000) hi.ang (by omega)
  have ho := offP_bd h.ok hi.ang
  have m2 := mul_bd (a := offP d a) (b := dW d.1) (A := 388800000) (B := 1296000) ho (by omega)
  have m3 := mul_pos_bd (a := dW d.1 * 324000) (b := least) (A := 419904000000) (B := 3600) (by omega) (by omega)
  have m4 : dW d.1 * 324000 * 1 ≤ dW d.1 * 324000 * least := Int.mul_le_mul_of_nonneg_left (by omega) (by omega)
  unfold headU
  omega

theorem headS_bd : -2000000000000000 ≤ headS d a ∧ headS d a ≤ 600000000000000000 := by
  have hb := head_bd h
  have hf := faultP_bd (DiskIs.of h.ok h.ang)
  unfold headS
  omega

theorem headN_bd : -4000000000000 ≤ headN d a least ∧ headN d a least ≤ 4000000000000 := by
  have hb := head_bd h
  have hs := headS_bd h
  unfold headN
  constructor
  · rw [Int.le_ediv_iff_mul_le (by omega)]; omega
  · have : (2 * headS d a + headU d least) / (2 * headU d least) < 4000000000001 := by
      rw [Int.ediv_lt_iff_lt_mul (by omega)]; omega
    omega

theorem impl_head_is : impl_head N0 d a least = r1 (headR d a least) := by
  have hi := DiskIs.of h.ok h.ang
  have hb := head_bd h
  have hs := headS_bd h
  have hn := headN_bd h
  have hf := faultP_bd hi
  have hw := hi.w
  have hl := h.least
  have m5 := mul_bd (a := headN d a least) (b := least) (A := 4000000000000) (B := 3600) hn (by omega)
  unfold impl_head impl_head_t
  rw [impl_faultAt_is hi, Option.bind_some, impl_swingAt_is h.ok hi.ang, Option.bind_some]
  simp only [impl_nearest, impl_nearest_t, impl_within_is]
  rw [w_in (x := a * dW d.1) (by unfold I64; omega), w_in (x := a * dW d.1 * 324000) (by unfold I64; omega), w_in (x := faultP d.1 a * 324000) (by unfold I64; omega), w_in (x := a * dW d.1 * 324000 + faultP d.1 a * 324000) (by unfold I64; omega),
    w_in (x := offP d a * dW d.1) (by unfold I64; omega), w_in (x := dW d.1 * 324000) (by unfold I64; omega)]
  rw [show a * dW d.1 * 324000 + faultP d.1 a * 324000 + offP d a * dW d.1 = headS d a from rfl, show dW d.1 * 324000 * least = headU d least from rfl]
  rw [w_in (x := headS d a) (by unfold I64; omega), w_in (x := headU d least) (by unfold I64; omega), w_in (x := 2 * headS d a) (by unfold I64; omega), w_in (x := 2 * headU d least) (by unfold I64; omega), impl_floorDiv_is N0 (by omega) (w_range _),
    w_in (x := 2 * headS d a + headU d least) (by unfold I64; omega)]
  simp only [Option.bind_some]
  rw [show (2 * headS d a + headU d least) / (2 * headU d least) = headN d a least from rfl, w_in (x := headN d a least * least) (by unfold I64; omega), impl_wrap_is]
  simp only [Option.bind_some]
  rfl

theorem spec_l03Head_is : spec_l03Head N0 a least d = c1 (headR d a least) d := by
  have hi := DiskIs.of h.ok h.ang
  have hb := head_bd h
  have hs := headS_bd h
  have hn := headN_bd h
  have hf := faultP_bd hi
  have hw := hi.w
  have hl := h.least
  have m5 := mul_bd (a := headN d a least) (b := least) (A := 4000000000000) (B := 3600) hn (by omega)
  unfold spec_l03Head spec_l03Head_t
  rw [spec_l03Fault_is hi, Option.bind_some, spec_l03Off_is h.ok hi.ang, Option.bind_some]
  simp only []
  rw [w_in (x := a * dW d.1) (by unfold I64; omega), w_in (x := a * dW d.1 * 324000) (by unfold I64; omega), w_in (x := faultP d.1 a * 324000) (by unfold I64; omega), w_in (x := a * dW d.1 * 324000 + faultP d.1 a * 324000) (by unfold I64; omega),
    w_in (x := offP d a * dW d.1) (by unfold I64; omega), w_in (x := dW d.1 * 324000) (by unfold I64; omega)]
  rw [show a * dW d.1 * 324000 + faultP d.1 a * 324000 + offP d a * dW d.1 = headS d a from rfl, show dW d.1 * 324000 * least = headU d least from rfl]
  rw [w_in (x := headS d a) (by unfold I64; omega), w_in (x := headU d least) (by unfold I64; omega), w_in (x := 2 * headS d a) (by unfold I64; omega), w_in (x := 2 * headU d least) (by unfold I64; omega), spec_l01Down_is N0 (by omega) (w_range _),
    w_in (x := 2 * headS d a + headU d least) (by unfold I64; omega)]
  simp only [Option.bind_some]
  rw [show (2 * headS d a + headU d least) / (2 * headU d least) = headN d a least from rfl, Int.mul_comm least, w_in (x := headN d a least * least) (by unfold I64; omega), spec_l03Wrap_is]
  simp only [Option.bind_some]
  rfl
end

theorem headR_ang (d : Dk) (a least : Int) : isAng (headR d a least) = true := by
  rw [btw_iff]
  exact ang_mod _

/-- the code of a disk, an angle and a unit -/
abbrev leastC (d : Dk) (a least : Int) : Int := bif diskOk d && isAng a then (bif btw least 1 3600 then 0 else 2) else 1

theorem spec_l03Least_is (d : Dk) (a least : Int) (hb : d.1.length ≤ 9223372036854775807) : spec_l03Least N0 a least d = c1 (leastC d a least) d := by
  simp only [spec_l03Least, spec_l03Least_t, pr_eta, spec_l03Asked_is d a hb, spec_l00In_is, Option.bind_some]
  cases hx : (diskOk d && isAng a) <;> cases hy : btw least 1 3600 <;> simp [leastC, hx, hy]

theorem impl_headCode_1_is (n : Nat) (x : Int) : impl_headCode_1 n x = r1 (!isAng x) := by
  simp only [impl_headCode_1, impl_headCode_1_t, impl_isAngle_is, Option.bind_some]

/-- the program's code of a disk, angles and a unit -/
theorem impl_headCode_is (d : Dk) (least : Int) (l : List Int) (hb : d.1.length ≤ 9223372036854775807) (hl : l.length ≤ 9223372036854775807) :
    impl_headCode N0 d least l = r1 (bif diskOk d && l.all isAng then (bif btw least 1 3600 then 0 else 2) else 1) := by
  have hc : slices_ContainsFunc_int64_int64_at_impl_headCode_1 N0 l = r1 (!l.all isAng) := by
    simp only [slices_ContainsFunc_int64_int64_at_impl_headCode_1, slices_ContainsFunc_int64_int64_at_impl_headCode_1_t, slices_IndexFunc_int64_int64_at_impl_headCode_1, slices_IndexFunc_int64_int64_at_impl_headCode_1_t]
    rw [idx_all (L := slices_IndexFunc_int64_int64_at_impl_headCode_1_l2 N0) (d := 0) (fun x => !isAng x) (impl_headCode_1_is N0) (fun _ _ _ _ => rfl) l hl]
    simp only [Option.bind_some, fIdx_any]
    rw [any_not' isAng]
  simp only [impl_headCode, impl_headCode_t, pr_eta, impl_ValidDisk_is d hb, hc, impl_within_is, Option.bind_some]
  cases diskOk d with
  | false => rfl
  | true =>
    cases l.all isAng with
    | false => rfl
    | true => cases btw least 1 3600 <;> rfl
end Go.Abs
