import Derived.Test.YtoalilpbncahgaaLib
namespace Go.Abs
set_option linter.unusedVariables false

abbrev FQ9 : Type := Int × Int
abbrev OB9 : Type := (Int × (Int × (Int × (Int × (Int × Int))))) × (FQ9 × Int)
abbrev RT0 : Type := Option ((((Int) × (Unit)) × (Unit)) × (Unit))
abbrev RT1 : Type := Option ((((Bool) × (Unit)) × (Unit)) × (Unit))
abbrev RT2 : Type := Option (((FQ9 × (Unit)) × (((Bool) × (Unit)) × (Unit))) × (Unit))
abbrev RT3 : Type := Option (((FQ9 × (Unit)) × (Unit)) × (Unit))
abbrev RT4 : Type := Option (((FQ9 × (Unit)) × (Unit)) × ((Bool) × (Unit)))
abbrev RT5 : Type := Option ((((Int) × (Unit)) × (((Int) × (Unit)) × (Unit))) × (Unit))
abbrev RT6 : Type := Option ((((List FQ9) × (Unit)) × (Unit)) × (Unit))
abbrev RT7 : Type := Option (((((List Nat) × (List (List FQ9))) × (Unit)) × (((List FQ9) × (Unit)) × (Unit))) × ((Bool) × (Unit)))
abbrev RT8 : Type := Option (((((List Nat) × (List (List FQ9))) × (Unit)) × (((List FQ9) × (Unit)) × (((Int) × (Unit)) × (Unit)))) × (Unit))
abbrev RT9 : Type := Option ((((Bool) × (Unit)) × (Unit)) × ((Bool) × (((List Nat) × (List (List FQ9))) × ((List FQ9) × (Unit)))))
abbrev RT10 : Type := Option (((((List Nat) × (List (List FQ9))) × (Unit)) × (Unit)) × (Unit))
abbrev RT11 : Type := Option ((((Bool) × (Unit)) × (Unit)) × ((Int) × (Unit)))
abbrev RT12 : Type := Option ((((Int) × (Unit)) × (Unit)) × ((Int) × (Unit)))
abbrev RT13 : Type := Option ((((List FQ9) × (Unit)) × (((Int) × (Unit)) × (Unit))) × (Unit))
abbrev RT14 : Type := Option (((OB9 × (Unit)) × (Unit)) × (Unit))
abbrev RT15 : Type := Option ((((Int) × ((List OB9) × (((Bool) × FQ9) × (Unit)))) × (((Int) × (Unit)) × (Unit))) × (Unit))
abbrev RT16 : Type := Option ((((List (Int)) × (Unit)) × (((Int) × (Unit)) × (Unit))) × (Unit))
abbrev RT17 : Type := Option (((((List (Int)) × FQ9) × (Unit)) × (Unit)) × (Unit))
abbrev RT18 : Type := Option ((((Int) × (Unit)) × (Unit)) × (((List (Int)) × FQ9) × (Unit)))
abbrev RT19 : Type := Option (((FQ9 × (Unit)) × (((Int) × (Unit)) × (Unit))) × (Unit))
abbrev RT20 : Type := Option ((((Int) × (Unit)) × (Unit)) × (((List (Int)) × FQ9) × ((List (Int)) × (Unit))))
abbrev RT21 : Type := Option (((FQ9 × (Unit)) × (Unit)) × (((List (Int)) × FQ9) × (Unit)))
abbrev RT22 : Type := Option (((((Int) × ((List OB9) × ((Bool) × FQ9))) × (Unit)) × (((Int) × (Unit)) × (Unit))) × (Unit))
noncomputable def impl_gcd_t1 (n : Nat) (g1 : Int → Int → RT0) (v1 : Int) (v0 : Int) : RT0 :=
  cond ((v1 != 0))
  (cond ((v1 != 0))
    (g1 ((Int.tmod v0 v1)) v1)
    (none))
  (some (((((if v0 < (IntKind.wrap .i64 (0 - v0)) then (IntKind.wrap .i64 (0 - v0)) else v0), ()), ()), ())))

noncomputable def impl_gcd_l1 (n : Nat) : Nat → Int → Int → RT0
  | 0, _, _ => none
  | k + 1, v1, v0 => impl_gcd_t1 n (impl_gcd_l1 n k) v1 v0

noncomputable def impl_gcd_t (n : Nat) (h1 : Nat → Int → Int → RT0) (a0 : Int) (a1 : Int) : RT0 :=
  h1 n a1 a0

noncomputable def impl_gcd (n : Nat) (a0 : Int) (a1 : Int) : RT0 := impl_gcd_t n (impl_gcd_l1 n) a0 a1

noncomputable def impl_within_t (n : Nat) (a0 : Int) (a1 : Int) (a2 : Int) : RT1 :=
  cond (decide (a1 ≤ a0))
  (some ((((decide (a0 ≤ a2), ()), ()), ())))
  (some ((((false, ()), ()), ())))

noncomputable def impl_within (n : Nat) (a0 : Int) (a1 : Int) (a2 : Int) : RT1 := impl_within_t n a0 a1 a2

noncomputable def impl_ValidFrac_t (n : Nat) (a0 : (Int) × (Int)) : RT1 :=
  (impl_within n a0.2 1 1000000000).bind fun r0 =>
  cond r0.1.1.1
  ((impl_within n a0.1 (-1000000000) 1000000000).bind fun r1 =>
    cond r1.1.1.1
    ((impl_gcd n a0.1 a0.2).bind fun r2 =>
      some (((((r2.1.1.1 == 1), ()), ()), ())))
    (some ((((false, ()), ()), ()))))
  (some ((((false, ()), ()), ())))

noncomputable def impl_ValidFrac (n : Nat) (a0 : (Int) × (Int)) : RT1 := impl_ValidFrac_t n a0

noncomputable def impl_ValidTable_t8 (n : Nat) (g4 : Int → (List OB9) → Int → Int → (List OB9) → Bool → Int → Int → RT1) (g8 : Int → Bool → Int → Int → Int → Int → Int → Int → (List OB9) → Int → Int → Int → (List OB9) → Bool → Int → Int → Int → Int → Int → Int → Int → Int → Int → Int → Int → RT1) (v44 : Int) (v5 : Bool) (v43_0 : Int) (v43_1 : Int) (v43_2 : Int) (v43_3 : Int) (v43_4 : Int) (v43_5 : Int) (v36 : List OB9) (v37 : Int) (v38 : Int) (b0_0 : Int) (b0_1 : List OB9) (b0_2 : Bool) (b0_3 : Int) (b0_4 : Int) (b1_0 : Int) (b1_1 : Int) (b1_2 : Int) (b1_3 : Int) (b1_4 : Int) (b1_5 : Int) (b1_6 : Int) (b1_7 : Int) (b1_8 : Int) : RT1 :=
  cond (decide (v44 < 6))
  (cond ((decide (0 ≤ v44) && decide (v44 < 6)))
    ((impl_within n ((IntKind.wrap .i64 (cond (Nat.beq (Int.toNat v44) 0) v43_0 (cond (Nat.beq ((Int.toNat v44) - 1) 0) v43_1 (cond (Nat.beq (((Int.toNat v44) - 1) - 1) 0) v43_2 (cond (Nat.beq ((((Int.toNat v44) - 1) - 1) - 1) 0) v43_3 (cond (Nat.beq (((((Int.toNat v44) - 1) - 1) - 1) - 1) 0) v43_4 (cond (Nat.beq ((((((Int.toNat v44) - 1) - 1) - 1) - 1) - 1) 0) v43_5 0)))))))) (-3) 3).bind fun r2 =>
      cond (!r2.1.1.1)
      (some ((((false, ()), ()), ())))
      (cond (((cond (Nat.beq (Int.toNat v44) 0) v43_0 (cond (Nat.beq ((Int.toNat v44) - 1) 0) v43_1 (cond (Nat.beq (((Int.toNat v44) - 1) - 1) 0) v43_2 (cond (Nat.beq ((((Int.toNat v44) - 1) - 1) - 1) 0) v43_3 (cond (Nat.beq (((((Int.toNat v44) - 1) - 1) - 1) - 1) 0) v43_4 (cond (Nat.beq ((((((Int.toNat v44) - 1) - 1) - 1) - 1) - 1) 0) v43_5 0)))))) != 0))
        (cond (decide (v44 ≥ b0_0))
          (some ((((false, ()), ()), ())))
          (cond v5
            (g8 ((IntKind.wrap .i64 (v44 + 1))) true v43_0 v43_1 v43_2 v43_3 v43_4 v43_5 v36 v37 v38 b0_0 b0_1 b0_2 b0_3 b0_4 b1_0 b1_1 b1_2 b1_3 b1_4 b1_5 b1_6 b1_7 b1_8)
            (g8 ((IntKind.wrap .i64 (v44 + 1))) (((cond (Nat.beq (Int.toNat v44) 0) v43_0 (cond (Nat.beq ((Int.toNat v44) - 1) 0) v43_1 (cond (Nat.beq (((Int.toNat v44) - 1) - 1) 0) v43_2 (cond (Nat.beq ((((Int.toNat v44) - 1) - 1) - 1) 0) v43_3 (cond (Nat.beq (((((Int.toNat v44) - 1) - 1) - 1) - 1) 0) v43_4 (cond (Nat.beq ((((((Int.toNat v44) - 1) - 1) - 1) - 1) - 1) 0) v43_5 0)))))) != 0)) v43_0 v43_1 v43_2 v43_3 v43_4 v43_5 v36 v37 v38 b0_0 b0_1 b0_2 b0_3 b0_4 b1_0 b1_1 b1_2 b1_3 b1_4 b1_5 b1_6 b1_7 b1_8)))
        (cond v5
          (g8 ((IntKind.wrap .i64 (v44 + 1))) true v43_0 v43_1 v43_2 v43_3 v43_4 v43_5 v36 v37 v38 b0_0 b0_1 b0_2 b0_3 b0_4 b1_0 b1_1 b1_2 b1_3 b1_4 b1_5 b1_6 b1_7 b1_8)
          (g8 ((IntKind.wrap .i64 (v44 + 1))) (((cond (Nat.beq (Int.toNat v44) 0) v43_0 (cond (Nat.beq ((Int.toNat v44) - 1) 0) v43_1 (cond (Nat.beq (((Int.toNat v44) - 1) - 1) 0) v43_2 (cond (Nat.beq ((((Int.toNat v44) - 1) - 1) - 1) 0) v43_3 (cond (Nat.beq (((((Int.toNat v44) - 1) - 1) - 1) - 1) 0) v43_4 (cond (Nat.beq ((((((Int.toNat v44) - 1) - 1) - 1) - 1) - 1) 0) v43_5 0)))))) != 0)) v43_0 v43_1 v43_2 v43_3 v43_4 v43_5 v36 v37 v38 b0_0 b0_1 b0_2 b0_3 b0_4 b1_0 b1_1 b1_2 b1_3 b1_4 b1_5 b1_6 b1_7 b1_8))))
    (none))
  (cond (!v5)
    (some ((((false, ()), ()), ())))
    ((impl_ValidFrac n ((b1_6, b1_7))).bind fun r3 =>
      cond (!r3.1.1.1)
      (some ((((false, ()), ()), ())))
      ((impl_within n b1_8 1 100).bind fun r4 =>
        cond (!r4.1.1.1)
        (some ((((false, ()), ()), ())))
        (g4 ((IntKind.wrap .i64 (v38 + 1))) v36 v37 b0_0 b0_1 b0_2 b0_3 b0_4))))

noncomputable def impl_ValidTable_l8 (n : Nat) (g4 : Int → (List OB9) → Int → Int → (List OB9) → Bool → Int → Int → RT1) : Nat → Int → Bool → Int → Int → Int → Int → Int → Int → (List OB9) → Int → Int → Int → (List OB9) → Bool → Int → Int → Int → Int → Int → Int → Int → Int → Int → Int → Int → RT1
  | 0, _, _, _, _, _, _, _, _, _, _, _, _, _, _, _, _, _, _, _, _, _, _, _, _, _ => none
  | k + 1, v44, v5, v43_0, v43_1, v43_2, v43_3, v43_4, v43_5, v36, v37, v38, b0_0, b0_1, b0_2, b0_3, b0_4, b1_0, b1_1, b1_2, b1_3, b1_4, b1_5, b1_6, b1_7, b1_8 => impl_ValidTable_t8 n g4 (impl_ValidTable_l8 n g4 k) v44 v5 v43_0 v43_1 v43_2 v43_3 v43_4 v43_5 v36 v37 v38 b0_0 b0_1 b0_2 b0_3 b0_4 b1_0 b1_1 b1_2 b1_3 b1_4 b1_5 b1_6 b1_7 b1_8

noncomputable def impl_ValidTable_t4 (n : Nat) (h8 : Nat → Int → Bool → Int → Int → Int → Int → Int → Int → (List OB9) → Int → Int → Int → (List OB9) → Bool → Int → Int → Int → Int → Int → Int → Int → Int → Int → Int → Int → RT1) (g4 : Int → (List OB9) → Int → Int → (List OB9) → Bool → Int → Int → RT1) (v38 : Int) (v36 : List OB9) (v37 : Int) (b0_0 : Int) (b0_1 : List OB9) (b0_2 : Bool) (b0_3 : Int) (b0_4 : Int) : RT1 :=
  cond (decide (v38 < v37))
  (cond ((decide (0 ≤ v38) && decide (v38 < ((v36.length : Nat) : Int))))
    (h8 n 0 false ((v36.getD (Int.toNat v38) ((0, (0, (0, (0, (0, 0))))), ((0, 0), 0))).1.1) ((v36.getD (Int.toNat v38) ((0, (0, (0, (0, (0, 0))))), ((0, 0), 0))).1.2.1) ((v36.getD (Int.toNat v38) ((0, (0, (0, (0, (0, 0))))), ((0, 0), 0))).1.2.2.1) ((v36.getD (Int.toNat v38) ((0, (0, (0, (0, (0, 0))))), ((0, 0), 0))).1.2.2.2.1) ((v36.getD (Int.toNat v38) ((0, (0, (0, (0, (0, 0))))), ((0, 0), 0))).1.2.2.2.2.1) ((v36.getD (Int.toNat v38) ((0, (0, (0, (0, (0, 0))))), ((0, 0), 0))).1.2.2.2.2.2) v36 v37 v38 b0_0 b0_1 b0_2 b0_3 b0_4 ((v36.getD (Int.toNat v38) ((0, (0, (0, (0, (0, 0))))), ((0, 0), 0))).1.1) ((v36.getD (Int.toNat v38) ((0, (0, (0, (0, (0, 0))))), ((0, 0), 0))).1.2.1) ((v36.getD (Int.toNat v38) ((0, (0, (0, (0, (0, 0))))), ((0, 0), 0))).1.2.2.1) ((v36.getD (Int.toNat v38) ((0, (0, (0, (0, (0, 0))))), ((0, 0), 0))).1.2.2.2.1) ((v36.getD (Int.toNat v38) ((0, (0, (0, (0, (0, 0))))), ((0, 0), 0))).1.2.2.2.2.1) ((v36.getD (Int.toNat v38) ((0, (0, (0, (0, (0, 0))))), ((0, 0), 0))).1.2.2.2.2.2) ((v36.getD (Int.toNat v38) ((0, (0, (0, (0, (0, 0))))), ((0, 0), 0))).2.1.1) ((v36.getD (Int.toNat v38) ((0, (0, (0, (0, (0, 0))))), ((0, 0), 0))).2.1.2) ((v36.getD (Int.toNat v38) ((0, (0, (0, (0, (0, 0))))), ((0, 0), 0))).2.2))
    (none))
  (some ((((true, ()), ()), ())))

noncomputable def impl_ValidTable_l4 (n : Nat) : Nat → Int → (List OB9) → Int → Int → (List OB9) → Bool → Int → Int → RT1
  | 0, _, _, _, _, _, _, _, _ => none
  | k + 1, v38, v36, v37, b0_0, b0_1, b0_2, b0_3, b0_4 => impl_ValidTable_t4 n (impl_ValidTable_l8 n (impl_ValidTable_l4 n k)) (impl_ValidTable_l4 n k) v38 v36 v37 b0_0 b0_1 b0_2 b0_3 b0_4

noncomputable def impl_ValidTable_t (n : Nat) (h4 : Nat → Int → (List OB9) → Int → Int → (List OB9) → Bool → Int → Int → RT1) (a0 : (Int) × ((List OB9) × ((Bool) × FQ9))) : RT1 :=
  (impl_within n a0.1 1 6).bind fun r0 =>
  cond (!r0.1.1.1)
  (some ((((false, ()), ()), ())))
  (cond (decide (((a0.2.1.length : Nat) : Int) > 24))
    (some ((((false, ()), ()), ())))
    ((impl_ValidFrac n ((a0.2.2.2.1, a0.2.2.2.2))).bind fun r1 =>
      cond (!r1.1.1.1)
      (some ((((false, ()), ()), ())))
      (cond (!a0.2.2.1)
        (cond ((a0.2.2.2.1 != 0))
          (some ((((false, ()), ()), ())))
          (h4 n 0 a0.2.1 (((a0.2.1.length : Nat) : Int)) a0.1 a0.2.1 a0.2.2.1 a0.2.2.2.1 a0.2.2.2.2))
        (h4 n 0 a0.2.1 (((a0.2.1.length : Nat) : Int)) a0.1 a0.2.1 a0.2.2.1 a0.2.2.2.1 a0.2.2.2.2))))

noncomputable def impl_ValidTable (n : Nat) (a0 : (Int) × ((List OB9) × ((Bool) × FQ9))) : RT1 := impl_ValidTable_t n (impl_ValidTable_l4 n) a0

noncomputable def impl_fracOf_t (n : Nat) (a0 : Int) (a1 : Int) : RT2 :=
  cond (decide (a1 < 0))
  ((impl_gcd n ((IntKind.wrap .i64 (0 - a0))) ((IntKind.wrap .i64 (0 - a1)))).bind fun r0 =>
    cond ((r0.1.1.1 != 0))
    (cond ((r0.1.1.1 != 0))
      ((impl_ValidFrac n (((IntKind.wrap .i64 (Int.tdiv (IntKind.wrap .i64 (0 - a0)) r0.1.1.1)), (IntKind.wrap .i64 (Int.tdiv (IntKind.wrap .i64 (0 - a1)) r0.1.1.1))))).bind fun r1 =>
        cond (!r1.1.1.1)
        (some (((((0, 0), ()), ((false, ()), ())), ())))
        (some ((((((IntKind.wrap .i64 (Int.tdiv (IntKind.wrap .i64 (0 - a0)) r0.1.1.1)), (IntKind.wrap .i64 (Int.tdiv (IntKind.wrap .i64 (0 - a1)) r0.1.1.1))), ()), ((true, ()), ())), ()))))
      (none))
    (none))
  ((impl_gcd n a0 a1).bind fun r2 =>
    cond ((r2.1.1.1 != 0))
    (cond ((r2.1.1.1 != 0))
      ((impl_ValidFrac n (((IntKind.wrap .i64 (Int.tdiv a0 r2.1.1.1)), (IntKind.wrap .i64 (Int.tdiv a1 r2.1.1.1))))).bind fun r3 =>
        cond (!r3.1.1.1)
        (some (((((0, 0), ()), ((false, ()), ())), ())))
        (some ((((((IntKind.wrap .i64 (Int.tdiv a0 r2.1.1.1)), (IntKind.wrap .i64 (Int.tdiv a1 r2.1.1.1))), ()), ((true, ()), ())), ()))))
      (none))
    (none))

noncomputable def impl_fracOf (n : Nat) (a0 : Int) (a1 : Int) : RT2 := impl_fracOf_t n a0 a1

noncomputable def impl_zero_t (n : Nat) : RT3 :=
  some (((((0, 1), ()), ()), ()))

noncomputable def impl_zero (n : Nat) : RT3 := impl_zero_t n

noncomputable def impl_calc_told_t (n : Nat) (a1 : Int) (a2 : Int) (b0 : Bool) : RT4 :=
  (impl_fracOf n a1 a2).bind fun r0 =>
  cond (!r0.1.2.1.1)
  ((impl_zero n).bind fun r1 =>
    some (((((r1.1.1.1.1, r1.1.1.1.2), ()), ()), (true, ()))))
  (some (((((r0.1.1.1.1, r0.1.1.1.2), ()), ()), (b0, ()))))

noncomputable def impl_calc_told (n : Nat) (a1 : Int) (a2 : Int) (b0 : Bool) : RT4 := impl_calc_told_t n a1 a2 b0

noncomputable def impl_calc_add_t (n : Nat) (a1 : (Int) × (Int)) (a2 : (Int) × (Int)) (b0 : Bool) : RT4 :=
  (impl_calc_told n ((IntKind.wrap .i64 ((IntKind.wrap .i64 (a1.1 * a2.2)) + (IntKind.wrap .i64 (a2.1 * a1.2))))) ((IntKind.wrap .i64 (a1.2 * a2.2))) b0).bind fun r0 =>
  some (((((r0.1.1.1.1, r0.1.1.1.2), ()), ()), (r0.2.1, ())))

noncomputable def impl_calc_add (n : Nat) (a1 : (Int) × (Int)) (a2 : (Int) × (Int)) (b0 : Bool) : RT4 := impl_calc_add_t n a1 a2 b0

noncomputable def impl_calc_mul_t (n : Nat) (a1 : (Int) × (Int)) (a2 : (Int) × (Int)) (b0 : Bool) : RT4 :=
  (impl_calc_told n ((IntKind.wrap .i64 (a1.1 * a2.1))) ((IntKind.wrap .i64 (a1.2 * a2.2))) b0).bind fun r0 =>
  some (((((r0.1.1.1.1, r0.1.1.1.2), ()), ()), (r0.2.1, ())))

noncomputable def impl_calc_mul (n : Nat) (a1 : (Int) × (Int)) (a2 : (Int) × (Int)) (b0 : Bool) : RT4 := impl_calc_mul_t n a1 a2 b0

noncomputable def impl_num_t (n : Nat) (a0 : Int) : RT3 :=
  some (((((a0, 1), ()), ()), ()))

noncomputable def impl_num (n : Nat) (a0 : Int) : RT3 := impl_num_t n a0

noncomputable def math_bits_Mul64_t (n : Nat) (a0 : Int) (a1 : Int) : RT5 :=
  some (((((IntKind.wrap .u64 ((IntKind.wrap .u64 ((IntKind.wrap .u64 ((shrInt .u64 a0 32) * (shrInt .u64 a1 32))) + (shrInt .u64 (IntKind.wrap .u64 ((IntKind.wrap .u64 ((shrInt .u64 a0 32) * (andInt .u64 a1 4294967295))) + (shrInt .u64 (IntKind.wrap .u64 ((andInt .u64 a0 4294967295) * (andInt .u64 a1 4294967295))) 32))) 32))) + (shrInt .u64 (IntKind.wrap .u64 ((andInt .u64 (IntKind.wrap .u64 ((IntKind.wrap .u64 ((shrInt .u64 a0 32) * (andInt .u64 a1 4294967295))) + (shrInt .u64 (IntKind.wrap .u64 ((andInt .u64 a0 4294967295) * (andInt .u64 a1 4294967295))) 32))) 4294967295) + (IntKind.wrap .u64 ((andInt .u64 a0 4294967295) * (shrInt .u64 a1 32))))) 32))), ()), (((IntKind.wrap .u64 (a0 * a1)), ()), ())), ()))

noncomputable def math_bits_Mul64 (n : Nat) (a0 : Int) (a1 : Int) : RT5 := math_bits_Mul64_t n a0 a1

noncomputable def math_bits_Mul_t (n : Nat) (a0 : Int) (a1 : Int) : RT5 :=
  (math_bits_Mul64 n a0 a1).bind fun r0 =>
  some ((((r0.1.1.1, ()), ((r0.1.2.1.1, ()), ())), ()))

noncomputable def math_bits_Mul (n : Nat) (a0 : Int) (a1 : Int) : RT5 := math_bits_Mul_t n a0 a1

noncomputable def slices_Repeat_impl_Frac_impl_Frac_t8 (n : Nat) (g8 : Int → (List FQ9) → RT6) (v8 : Int) (b0 : List FQ9) : RT6 :=
  cond (decide (v8 < ((b0.length : Nat) : Int)))
  (cond (((decide (0 ≤ v8) && decide (v8 ≤ ((b0.length : Nat) : Int))) && decide (((b0.length : Nat) : Int) ≤ ((b0.length : Nat) : Int))))
    (cond ((decide (0 ≤ v8) && decide (v8 ≤ ((b0.length : Nat) : Int))))
      (g8 ((IntKind.wrap .i64 (v8 + (((copyN ((b0.drop (Int.toNat v8)).take ((Int.toNat ((b0.length : Nat) : Int)) - (Int.toNat v8))).length ((b0.drop 0).take ((Int.toNat v8) - (Int.toNat 0)))) : Nat) : Int)))) ((copyL b0 (Int.toNat v8) ((b0.drop (Int.toNat v8)).take ((Int.toNat ((b0.length : Nat) : Int)) - (Int.toNat v8))).length ((b0.drop 0).take ((Int.toNat v8) - (Int.toNat 0))))))
      (none))
    (none))
  (some ((((b0, ()), ()), ())))

noncomputable def slices_Repeat_impl_Frac_impl_Frac_l8 (n : Nat) : Nat → Int → (List FQ9) → RT6
  | 0, _, _ => none
  | k + 1, v8, b0 => slices_Repeat_impl_Frac_impl_Frac_t8 n (slices_Repeat_impl_Frac_impl_Frac_l8 n k) v8 b0

noncomputable def slices_Repeat_impl_Frac_impl_Frac_t (n : Nat) (h8 : Nat → Int → (List FQ9) → RT6) (a0 : List FQ9) (a1 : Int) : RT6 :=
  cond (decide (a1 < 0))
  (none)
  ((math_bits_Mul n ((IntKind.wrap .u64 ((a0.length : Nat) : Int))) ((IntKind.wrap .u64 a1))).bind fun r0 =>
    cond (decide (r0.1.1.1 > 0))
    (none)
    (cond (decide (r0.1.2.1.1 > 9223372036854775807))
      (none)
      (cond (((((IntKind.wrap .i64 r0.1.2.1.1) == (IntKind.wrap .i64 r0.1.2.1.1)) && decide (0 ≤ (IntKind.wrap .i64 r0.1.2.1.1))) && decide (((Int.toNat (IntKind.wrap .i64 r0.1.2.1.1)) * 17) ≤ 70368744177664)))
        (h8 n ((((copyN (List.replicate (Int.toNat (IntKind.wrap .i64 r0.1.2.1.1)) ((0, 0) : (Int) × (Int))).length a0) : Nat) : Int)) ((copyL (List.replicate (Int.toNat (IntKind.wrap .i64 r0.1.2.1.1)) ((0, 0) : (Int) × (Int))) 0 (List.replicate (Int.toNat (IntKind.wrap .i64 r0.1.2.1.1)) ((0, 0) : (Int) × (Int))).length a0)))
        (none))))

noncomputable def slices_Repeat_impl_Frac_impl_Frac (n : Nat) (a0 : List FQ9) (a1 : Int) : RT6 := slices_Repeat_impl_Frac_impl_Frac_t n (slices_Repeat_impl_Frac_impl_Frac_l8 n) a0 a1

noncomputable def impl_calc_normal_t11 (n : Nat) (g3 : Int → Int → Bool → Int → (List OB9) → Bool → Int → Int → (List FQ9) → (List Nat) → (List (List FQ9)) → RT7) (g7 : Int → Int → Int → Int → Int → Bool → (List FQ9) → Int → (List OB9) → Bool → Int → Int → (List FQ9) → (List Nat) → (List (List FQ9)) → RT7) (g11 : Int → Int → Int → Int → (List OB9) → Int → Int → Int → Int → Int → Bool → Int → (List OB9) → Bool → Int → Int → (List FQ9) → (List Nat) → (List (List FQ9)) → (List FQ9) → RT7) (v33 : Int) (v10 : Int) (v8 : Int) (v11 : Int) (v31 : List OB9) (v20 : Int) (v21 : Int) (v26 : Int) (v27 : Int) (v32 : Int) (b0 : Bool) (b1_0 : Int) (b1_1 : List OB9) (b1_2 : Bool) (b1_3 : Int) (b1_4 : Int) (b2 : List FQ9) (b3p : List Nat) (b3i : List (List FQ9)) (b4 : List FQ9) : RT7 :=
  cond (decide (v33 < v32))
  (cond ((decide (0 ≤ v33) && decide (v33 < ((v31.length : Nat) : Int))))
    (cond ((decide (0 ≤ v8) && decide (v8 < 6)))
      (cond ((decide (0 ≤ v10) && decide (v10 < 6)))
        (g11 ((IntKind.wrap .i64 (v33 + 1))) v10 v8 ((IntKind.wrap .i64 (v11 + (IntKind.wrap .i64 ((IntKind.wrap .i64 ((v31.getD (Int.toNat v33) ((0, (0, (0, (0, (0, 0))))), ((0, 0), 0))).2.2 * (IntKind.wrap .i64 (cond (Nat.beq (Int.toNat v8) 0) (v31.getD (Int.toNat v33) ((0, (0, (0, (0, (0, 0))))), ((0, 0), 0))).1.1 (cond (Nat.beq ((Int.toNat v8) - 1) 0) (v31.getD (Int.toNat v33) ((0, (0, (0, (0, (0, 0))))), ((0, 0), 0))).1.2.1 (cond (Nat.beq (((Int.toNat v8) - 1) - 1) 0) (v31.getD (Int.toNat v33) ((0, (0, (0, (0, (0, 0))))), ((0, 0), 0))).1.2.2.1 (cond (Nat.beq ((((Int.toNat v8) - 1) - 1) - 1) 0) (v31.getD (Int.toNat v33) ((0, (0, (0, (0, (0, 0))))), ((0, 0), 0))).1.2.2.2.1 (cond (Nat.beq (((((Int.toNat v8) - 1) - 1) - 1) - 1) 0) (v31.getD (Int.toNat v33) ((0, (0, (0, (0, (0, 0))))), ((0, 0), 0))).1.2.2.2.2.1 (cond (Nat.beq ((((((Int.toNat v8) - 1) - 1) - 1) - 1) - 1) 0) (v31.getD (Int.toNat v33) ((0, (0, (0, (0, (0, 0))))), ((0, 0), 0))).1.2.2.2.2.2 0))))))))) * (IntKind.wrap .i64 (cond (Nat.beq (Int.toNat v10) 0) (v31.getD (Int.toNat v33) ((0, (0, (0, (0, (0, 0))))), ((0, 0), 0))).1.1 (cond (Nat.beq ((Int.toNat v10) - 1) 0) (v31.getD (Int.toNat v33) ((0, (0, (0, (0, (0, 0))))), ((0, 0), 0))).1.2.1 (cond (Nat.beq (((Int.toNat v10) - 1) - 1) 0) (v31.getD (Int.toNat v33) ((0, (0, (0, (0, (0, 0))))), ((0, 0), 0))).1.2.2.1 (cond (Nat.beq ((((Int.toNat v10) - 1) - 1) - 1) 0) (v31.getD (Int.toNat v33) ((0, (0, (0, (0, (0, 0))))), ((0, 0), 0))).1.2.2.2.1 (cond (Nat.beq (((((Int.toNat v10) - 1) - 1) - 1) - 1) 0) (v31.getD (Int.toNat v33) ((0, (0, (0, (0, (0, 0))))), ((0, 0), 0))).1.2.2.2.2.1 (cond (Nat.beq ((((((Int.toNat v10) - 1) - 1) - 1) - 1) - 1) 0) (v31.getD (Int.toNat v33) ((0, (0, (0, (0, (0, 0))))), ((0, 0), 0))).1.2.2.2.2.2 0)))))))))))) v31 v20 v21 v26 v27 v32 b0 b1_0 b1_1 b1_2 b1_3 b1_4 b2 b3p b3i b4)
        (none))
      (none))
    (none))
  ((impl_num n v11).bind fun r0 =>
    cond (decide (((b4.length + ((r0.1.1.1.1, r0.1.1.1.2) :: []).length) * 17) ≤ 70368744177664))
    (g7 v8 ((IntKind.wrap .i64 (v27 + 1))) v20 v21 v26 b0 ((b4 ++ ((r0.1.1.1.1, r0.1.1.1.2) :: []))) b1_0 b1_1 b1_2 b1_3 b1_4 b2 b3p b3i)
    (none))

noncomputable def impl_calc_normal_l11 (n : Nat) (g3 : Int → Int → Bool → Int → (List OB9) → Bool → Int → Int → (List FQ9) → (List Nat) → (List (List FQ9)) → RT7) (g7 : Int → Int → Int → Int → Int → Bool → (List FQ9) → Int → (List OB9) → Bool → Int → Int → (List FQ9) → (List Nat) → (List (List FQ9)) → RT7) : Nat → Int → Int → Int → Int → (List OB9) → Int → Int → Int → Int → Int → Bool → Int → (List OB9) → Bool → Int → Int → (List FQ9) → (List Nat) → (List (List FQ9)) → (List FQ9) → RT7
  | 0, _, _, _, _, _, _, _, _, _, _, _, _, _, _, _, _, _, _, _, _ => none
  | k + 1, v33, v10, v8, v11, v31, v20, v21, v26, v27, v32, b0, b1_0, b1_1, b1_2, b1_3, b1_4, b2, b3p, b3i, b4 => impl_calc_normal_t11 n g3 g7 (impl_calc_normal_l11 n g3 g7 k) v33 v10 v8 v11 v31 v20 v21 v26 v27 v32 b0 b1_0 b1_1 b1_2 b1_3 b1_4 b2 b3p b3i b4

noncomputable def impl_calc_normal_t19 (n : Nat) (g3 : Int → Int → Bool → Int → (List OB9) → Bool → Int → Int → (List FQ9) → (List Nat) → (List (List FQ9)) → RT7) (g19 : Int → Int → (List OB9) → Int → Int → Int → Bool → Int → Int → Int → (List OB9) → Bool → Int → Int → (List FQ9) → (List Nat) → (List (List FQ9)) → (List FQ9) → RT7) (v64 : Int) (v8 : Int) (v62 : List OB9) (v20 : Int) (v21 : Int) (v63 : Int) (b0 : Bool) (b1_0 : Int) (b1_1 : Int) (b2_0 : Int) (b2_1 : List OB9) (b2_2 : Bool) (b2_3 : Int) (b2_4 : Int) (b3 : List FQ9) (b4p : List Nat) (b4i : List (List FQ9)) (b5 : List FQ9) : RT7 :=
  cond (decide (v64 < v63))
  (cond ((decide (0 ≤ v64) && decide (v64 < ((v62.length : Nat) : Int))))
    (cond ((decide (0 ≤ v8) && decide (v8 < 6)))
      ((impl_num n ((IntKind.wrap .i64 ((v62.getD (Int.toNat v64) ((0, (0, (0, (0, (0, 0))))), ((0, 0), 0))).2.2 * (IntKind.wrap .i64 (cond (Nat.beq (Int.toNat v8) 0) (v62.getD (Int.toNat v64) ((0, (0, (0, (0, (0, 0))))), ((0, 0), 0))).1.1 (cond (Nat.beq ((Int.toNat v8) - 1) 0) (v62.getD (Int.toNat v64) ((0, (0, (0, (0, (0, 0))))), ((0, 0), 0))).1.2.1 (cond (Nat.beq (((Int.toNat v8) - 1) - 1) 0) (v62.getD (Int.toNat v64) ((0, (0, (0, (0, (0, 0))))), ((0, 0), 0))).1.2.2.1 (cond (Nat.beq ((((Int.toNat v8) - 1) - 1) - 1) 0) (v62.getD (Int.toNat v64) ((0, (0, (0, (0, (0, 0))))), ((0, 0), 0))).1.2.2.2.1 (cond (Nat.beq (((((Int.toNat v8) - 1) - 1) - 1) - 1) 0) (v62.getD (Int.toNat v64) ((0, (0, (0, (0, (0, 0))))), ((0, 0), 0))).1.2.2.2.2.1 (cond (Nat.beq ((((((Int.toNat v8) - 1) - 1) - 1) - 1) - 1) 0) (v62.getD (Int.toNat v64) ((0, (0, (0, (0, (0, 0))))), ((0, 0), 0))).1.2.2.2.2.2 0))))))))))).bind fun r2 =>
        (impl_calc_mul n ((r2.1.1.1.1, r2.1.1.1.2)) (((v62.getD (Int.toNat v64) ((0, (0, (0, (0, (0, 0))))), ((0, 0), 0))).2.1.1, (v62.getD (Int.toNat v64) ((0, (0, (0, (0, (0, 0))))), ((0, 0), 0))).2.1.2)) b0).bind fun r3 =>
        (impl_calc_add n ((b1_0, b1_1)) ((r3.1.1.1.1, r3.1.1.1.2)) r3.2.1).bind fun r4 =>
        g19 ((IntKind.wrap .i64 (v64 + 1))) v8 v62 v20 v21 v63 r4.2.1 r4.1.1.1.1 r4.1.1.1.2 b2_0 b2_1 b2_2 b2_3 b2_4 b3 b4p b4i b5)
      (none))
    (none))
  (cond b2_2
    ((impl_num n 1).bind fun r5 =>
      cond (decide (((b5.length + ((r5.1.1.1.1, r5.1.1.1.2) :: []).length) * 17) ≤ 70368744177664))
      (cond (decide (((b4p.length + 1) * 25) ≤ 70368744177664))
        (cond (decide (((b3.length + ((b1_0, b1_1) :: []).length) * 17) ≤ 70368744177664))
          (g3 ((IntKind.wrap .i64 (v21 + 1))) v20 b0 b2_0 b2_1 b2_2 b2_3 b2_4 ((b3 ++ ((b1_0, b1_1) :: []))) ((b4p ++ (b4i.length :: []))) ((b4i ++ ((b5 ++ ((r5.1.1.1.1, r5.1.1.1.2) :: [])) :: []))))
          (none))
        (none))
      (none))
    (cond (decide (((b4p.length + 1) * 25) ≤ 70368744177664))
      (cond (decide (((b3.length + ((b1_0, b1_1) :: []).length) * 17) ≤ 70368744177664))
        (g3 ((IntKind.wrap .i64 (v21 + 1))) v20 b0 b2_0 b2_1 b2_2 b2_3 b2_4 ((b3 ++ ((b1_0, b1_1) :: []))) ((b4p ++ (b4i.length :: []))) ((b4i ++ (b5 :: []))))
        (none))
      (none)))

noncomputable def impl_calc_normal_l19 (n : Nat) (g3 : Int → Int → Bool → Int → (List OB9) → Bool → Int → Int → (List FQ9) → (List Nat) → (List (List FQ9)) → RT7) : Nat → Int → Int → (List OB9) → Int → Int → Int → Bool → Int → Int → Int → (List OB9) → Bool → Int → Int → (List FQ9) → (List Nat) → (List (List FQ9)) → (List FQ9) → RT7
  | 0, _, _, _, _, _, _, _, _, _, _, _, _, _, _, _, _, _, _ => none
  | k + 1, v64, v8, v62, v20, v21, v63, b0, b1_0, b1_1, b2_0, b2_1, b2_2, b2_3, b2_4, b3, b4p, b4i, b5 => impl_calc_normal_t19 n g3 (impl_calc_normal_l19 n g3 k) v64 v8 v62 v20 v21 v63 b0 b1_0 b1_1 b2_0 b2_1 b2_2 b2_3 b2_4 b3 b4p b4i b5

noncomputable def impl_calc_normal_t7 (n : Nat) (h11 : Nat → Int → Int → Int → Int → (List OB9) → Int → Int → Int → Int → Int → Bool → Int → (List OB9) → Bool → Int → Int → (List FQ9) → (List Nat) → (List (List FQ9)) → (List FQ9) → RT7) (h19 : Nat → Int → Int → (List OB9) → Int → Int → Int → Bool → Int → Int → Int → (List OB9) → Bool → Int → Int → (List FQ9) → (List Nat) → (List (List FQ9)) → (List FQ9) → RT7) (g3 : Int → Int → Bool → Int → (List OB9) → Bool → Int → Int → (List FQ9) → (List Nat) → (List (List FQ9)) → RT7) (g7 : Int → Int → Int → Int → Int → Bool → (List FQ9) → Int → (List OB9) → Bool → Int → Int → (List FQ9) → (List Nat) → (List (List FQ9)) → RT7) (v8 : Int) (v27 : Int) (v20 : Int) (v21 : Int) (v26 : Int) (b0 : Bool) (b1 : List FQ9) (b2_0 : Int) (b2_1 : List OB9) (b2_2 : Bool) (b2_3 : Int) (b2_4 : Int) (b3 : List FQ9) (b4p : List Nat) (b4i : List (List FQ9)) : RT7 :=
  cond (decide (v27 < v26))
  (h11 n 0 v27 v8 0 b2_1 v20 v21 v26 v27 (((b2_1.length : Nat) : Int)) b0 b2_0 b2_1 b2_2 b2_3 b2_4 b3 b4p b4i b1)
  ((impl_zero n).bind fun r1 =>
    h19 n 0 v8 b2_1 v20 v21 (((b2_1.length : Nat) : Int)) b0 r1.1.1.1.1 r1.1.1.1.2 b2_0 b2_1 b2_2 b2_3 b2_4 b3 b4p b4i b1)

noncomputable def impl_calc_normal_l7 (n : Nat) (g3 : Int → Int → Bool → Int → (List OB9) → Bool → Int → Int → (List FQ9) → (List Nat) → (List (List FQ9)) → RT7) : Nat → Int → Int → Int → Int → Int → Bool → (List FQ9) → Int → (List OB9) → Bool → Int → Int → (List FQ9) → (List Nat) → (List (List FQ9)) → RT7
  | 0, _, _, _, _, _, _, _, _, _, _, _, _, _, _, _ => none
  | k + 1, v8, v27, v20, v21, v26, b0, b1, b2_0, b2_1, b2_2, b2_3, b2_4, b3, b4p, b4i => impl_calc_normal_t7 n (impl_calc_normal_l11 n g3 (impl_calc_normal_l7 n g3 k)) (impl_calc_normal_l19 n g3) g3 (impl_calc_normal_l7 n g3 k) v8 v27 v20 v21 v26 b0 b1 b2_0 b2_1 b2_2 b2_3 b2_4 b3 b4p b4i

noncomputable def impl_calc_normal_t3 (n : Nat) (h7 : Nat → Int → Int → Int → Int → Int → Bool → (List FQ9) → Int → (List OB9) → Bool → Int → Int → (List FQ9) → (List Nat) → (List (List FQ9)) → RT7) (g3 : Int → Int → Bool → Int → (List OB9) → Bool → Int → Int → (List FQ9) → (List Nat) → (List (List FQ9)) → RT7) (v21 : Int) (v20 : Int) (b0 : Bool) (b1_0 : Int) (b1_1 : List OB9) (b1_2 : Bool) (b1_3 : Int) (b1_4 : Int) (b2 : List FQ9) (b3p : List Nat) (b3i : List (List FQ9)) : RT7 :=
  cond (decide (v21 < v20))
  (h7 n v21 0 v20 v21 b1_0 b0 [] b1_0 b1_1 b1_2 b1_3 b1_4 b2 b3p b3i)
  (cond b1_2
    ((impl_num n 1).bind fun r6 =>
      (slices_Repeat_impl_Frac_impl_Frac n (((r6.1.1.1.1, r6.1.1.1.2) :: [])) b1_0).bind fun r7 =>
      (impl_zero n).bind fun r8 =>
      cond (decide (((r7.1.1.1.length + ((r8.1.1.1.1, r8.1.1.1.2) :: []).length) * 17) ≤ 70368744177664))
      (cond (decide (((b3p.length + 1) * 25) ≤ 70368744177664))
        (cond (decide (((b2.length + ((b1_3, b1_4) :: []).length) * 17) ≤ 70368744177664))
          (some ((((((b3p ++ (b3i.length :: [])), (b3i ++ ((r7.1.1.1 ++ ((r8.1.1.1.1, r8.1.1.1.2) :: [])) :: []))), ()), (((b2 ++ ((b1_3, b1_4) :: [])), ()), ())), (b0, ()))))
          (none))
        (none))
      (none))
    (some (((((b3p, b3i), ()), ((b2, ()), ())), (b0, ())))))

noncomputable def impl_calc_normal_l3 (n : Nat) : Nat → Int → Int → Bool → Int → (List OB9) → Bool → Int → Int → (List FQ9) → (List Nat) → (List (List FQ9)) → RT7
  | 0, _, _, _, _, _, _, _, _, _, _, _ => none
  | k + 1, v21, v20, b0, b1_0, b1_1, b1_2, b1_3, b1_4, b2, b3p, b3i => impl_calc_normal_t3 n (impl_calc_normal_l7 n (impl_calc_normal_l3 n k)) (impl_calc_normal_l3 n k) v21 v20 b0 b1_0 b1_1 b1_2 b1_3 b1_4 b2 b3p b3i

noncomputable def impl_calc_normal_t (n : Nat) (h3 : Nat → Int → Int → Bool → Int → (List OB9) → Bool → Int → Int → (List FQ9) → (List Nat) → (List (List FQ9)) → RT7) (a1 : (Int) × ((List OB9) × ((Bool) × FQ9))) (b0 : Bool) : RT7 :=
  h3 n 0 a1.1 b0 a1.1 a1.2.1 a1.2.2.1 a1.2.2.2.1 a1.2.2.2.2 [] [] []

noncomputable def impl_calc_normal (n : Nat) (a1 : (Int) × ((List OB9) × ((Bool) × FQ9))) (b0 : Bool) : RT7 := impl_calc_normal_t n (impl_calc_normal_l3 n) a1 b0

noncomputable def impl_NormalOf_t (n : Nat) (a0 : (Int) × ((List OB9) × ((Bool) × FQ9))) : RT8 :=
  (impl_ValidTable n ((a0.1, (a0.2.1, (a0.2.2.1, (a0.2.2.2.1, a0.2.2.2.2)))))).bind fun r0 =>
  cond (!r0.1.1.1)
  (some ((((([], []), ()), (([], ()), ((1, ()), ()))), ())))
  ((impl_calc_normal n ((a0.1, (a0.2.1, (a0.2.2.1, (a0.2.2.2.1, a0.2.2.2.2))))) false).bind fun r1 =>
    cond r1.2.1
    (some ((((([], []), ()), (([], ()), ((3, ()), ()))), ())))
    (some (((((r1.1.1.1.1, r1.1.1.1.2), ()), ((r1.1.2.1.1, ()), ((0, ()), ()))), ()))))

noncomputable def impl_NormalOf (n : Nat) (a0 : (Int) × ((List OB9) × ((Bool) × FQ9))) : RT8 := impl_NormalOf_t n a0

noncomputable def impl_areValid_1_t (n : Nat) (a0 : (Int) × (Int)) : RT1 :=
  (impl_ValidFrac n ((a0.1, a0.2))).bind fun r0 =>
  some (((((!r0.1.1.1), ()), ()), ()))

noncomputable def impl_areValid_1 (n : Nat) (a0 : (Int) × (Int)) : RT1 := impl_areValid_1_t n a0

noncomputable def slices_IndexFunc_impl_Frac_impl_Frac_at_impl_areValid_1_t2 (n : Nat) (g2 : Int → (List FQ9) → Int → RT0) (v8 : Int) (v0 : List FQ9) (v7 : Int) : RT0 :=
  cond (decide (v8 < v7))
  (cond ((decide (0 ≤ v8) && decide (v8 < ((v0.length : Nat) : Int))))
    ((impl_areValid_1 n (((v0.getD (Int.toNat v8) (0, 0)).1, (v0.getD (Int.toNat v8) (0, 0)).2))).bind fun r0 =>
      cond r0.1.1.1
      (some ((((v8, ()), ()), ())))
      (g2 ((IntKind.wrap .i64 (v8 + 1))) v0 v7))
    (none))
  (some (((((-1), ()), ()), ())))

noncomputable def slices_IndexFunc_impl_Frac_impl_Frac_at_impl_areValid_1_l2 (n : Nat) : Nat → Int → (List FQ9) → Int → RT0
  | 0, _, _, _ => none
  | k + 1, v8, v0, v7 => slices_IndexFunc_impl_Frac_impl_Frac_at_impl_areValid_1_t2 n (slices_IndexFunc_impl_Frac_impl_Frac_at_impl_areValid_1_l2 n k) v8 v0 v7

noncomputable def slices_IndexFunc_impl_Frac_impl_Frac_at_impl_areValid_1_t (n : Nat) (h2 : Nat → Int → (List FQ9) → Int → RT0) (a0 : List FQ9) : RT0 :=
  h2 n 0 a0 (((a0.length : Nat) : Int))

noncomputable def slices_IndexFunc_impl_Frac_impl_Frac_at_impl_areValid_1 (n : Nat) (a0 : List FQ9) : RT0 := slices_IndexFunc_impl_Frac_impl_Frac_at_impl_areValid_1_t n (slices_IndexFunc_impl_Frac_impl_Frac_at_impl_areValid_1_l2 n) a0

noncomputable def slices_ContainsFunc_impl_Frac_impl_Frac_at_impl_areValid_1_t (n : Nat) (a0 : List FQ9) : RT1 :=
  (slices_IndexFunc_impl_Frac_impl_Frac_at_impl_areValid_1 n a0).bind fun r0 =>
  some ((((decide (r0.1.1.1 ≥ 0), ()), ()), ()))

noncomputable def slices_ContainsFunc_impl_Frac_impl_Frac_at_impl_areValid_1 (n : Nat) (a0 : List FQ9) : RT1 := slices_ContainsFunc_impl_Frac_impl_Frac_at_impl_areValid_1_t n a0

noncomputable def impl_areValid_t (n : Nat) (a0 : List FQ9) : RT1 :=
  (slices_ContainsFunc_impl_Frac_impl_Frac_at_impl_areValid_1 n a0).bind fun r0 =>
  some (((((!r0.1.1.1), ()), ()), ()))

noncomputable def impl_areValid (n : Nat) (a0 : List FQ9) : RT1 := impl_areValid_t n a0

noncomputable def impl_calc_div_t (n : Nat) (a1 : (Int) × (Int)) (a2 : (Int) × (Int)) (b0 : Bool) : RT4 :=
  cond ((a2.1 == 0))
  ((impl_zero n).bind fun r0 =>
    some (((((r0.1.1.1.1, r0.1.1.1.2), ()), ()), (true, ()))))
  ((impl_calc_told n ((IntKind.wrap .i64 (a1.1 * a2.2))) ((IntKind.wrap .i64 (a1.2 * a2.1))) b0).bind fun r1 =>
    some (((((r1.1.1.1.1, r1.1.1.1.2), ()), ()), (r1.2.1, ()))))

noncomputable def impl_calc_div (n : Nat) (a1 : (Int) × (Int)) (a2 : (Int) × (Int)) (b0 : Bool) : RT4 := impl_calc_div_t n a1 a2 b0

noncomputable def impl_calc_sub_t (n : Nat) (a1 : (Int) × (Int)) (a2 : (Int) × (Int)) (b0 : Bool) : RT4 :=
  (impl_calc_told n ((IntKind.wrap .i64 ((IntKind.wrap .i64 (a1.1 * a2.2)) - (IntKind.wrap .i64 (a2.1 * a1.2))))) ((IntKind.wrap .i64 (a1.2 * a2.2))) b0).bind fun r0 =>
  some (((((r0.1.1.1.1, r0.1.1.1.2), ()), ()), (r0.2.1, ())))

noncomputable def impl_calc_sub (n : Nat) (a1 : (Int) × (Int)) (a2 : (Int) × (Int)) (b0 : Bool) : RT4 := impl_calc_sub_t n a1 a2 b0

noncomputable def impl_calc_eliminate_t14 (n : Nat) (g9 : Int → Int → Int → Int → Bool → (List Nat) → (List (List FQ9)) → (List FQ9) → RT9) (g14 : Int → Int → Int → Int → Int → Int → Bool → (List Nat) → (List (List FQ9)) → (List FQ9) → Int → Int → RT9) (v14 : Int) (v4 : Int) (v12 : Int) (v3 : Int) (v66 : Int) (v67 : Int) (b0 : Bool) (b1p : List Nat) (b1i : List (List FQ9)) (b2 : List FQ9) (b3_0 : Int) (b3_1 : Int) : RT9 :=
  cond ((decide (0 ≤ v12) && decide (v12 < ((b1p.length : Nat) : Int))))
  (cond (decide (v14 < (((b1i.getD (b1p.getD (Int.toNat v12) 0) []).length : Nat) : Int)))
    (cond ((decide (0 ≤ v12) && decide (v12 < ((b1p.length : Nat) : Int))))
      (cond ((decide (0 ≤ v12) && decide (v12 < ((b1p.length : Nat) : Int))))
        (cond ((decide (0 ≤ v14) && decide (v14 < (((b1i.getD (b1p.getD (Int.toNat v12) 0) []).length : Nat) : Int))))
          (cond ((decide (0 ≤ v4) && decide (v4 < ((b1p.length : Nat) : Int))))
            (cond ((decide (0 ≤ v14) && decide (v14 < (((b1i.getD (b1p.getD (Int.toNat v4) 0) []).length : Nat) : Int))))
              ((impl_calc_mul n ((b3_0, b3_1)) ((((b1i.getD (b1p.getD (Int.toNat v4) 0) []).getD (Int.toNat v14) (0, 0)).1, ((b1i.getD (b1p.getD (Int.toNat v4) 0) []).getD (Int.toNat v14) (0, 0)).2)) b0).bind fun r1 =>
                (impl_calc_sub n ((((b1i.getD (b1p.getD (Int.toNat v12) 0) []).getD (Int.toNat v14) (0, 0)).1, ((b1i.getD (b1p.getD (Int.toNat v12) 0) []).getD (Int.toNat v14) (0, 0)).2)) ((r1.1.1.1.1, r1.1.1.1.2)) r1.2.1).bind fun r2 =>
                cond ((decide (0 ≤ v14) && decide (v14 < (((b1i.getD (b1p.getD (Int.toNat v12) 0) []).length : Nat) : Int))))
                (g14 ((IntKind.wrap .i64 (v14 + 1))) v4 v12 v3 v66 v67 r2.2.1 b1p ((b1i.set (b1p.getD (Int.toNat v12) 0) ((b1i.getD (b1p.getD (Int.toNat v12) 0) []).set (Int.toNat v14) (r2.1.1.1.1, r2.1.1.1.2)))) b2 b3_0 b3_1)
                (none))
              (none))
            (none))
          (none))
        (none))
      (none))
    (cond ((decide (0 ≤ v12) && decide (v12 < ((b2.length : Nat) : Int))))
      (cond ((decide (0 ≤ v4) && decide (v4 < ((b2.length : Nat) : Int))))
        ((impl_calc_mul n ((b3_0, b3_1)) (((b2.getD (Int.toNat v4) (0, 0)).1, (b2.getD (Int.toNat v4) (0, 0)).2)) b0).bind fun r3 =>
          (impl_calc_sub n (((b2.getD (Int.toNat v12) (0, 0)).1, (b2.getD (Int.toNat v12) (0, 0)).2)) ((r3.1.1.1.1, r3.1.1.1.2)) r3.2.1).bind fun r4 =>
          cond ((decide (0 ≤ v12) && decide (v12 < ((b2.length : Nat) : Int))))
          (g9 ((IntKind.wrap .i64 (v67 + 1))) v4 v3 v66 r4.2.1 b1p b1i ((b2.set (Int.toNat v12) (r4.1.1.1.1, r4.1.1.1.2))))
          (none))
        (none))
      (none)))
  (none)

noncomputable def impl_calc_eliminate_l14 (n : Nat) (g9 : Int → Int → Int → Int → Bool → (List Nat) → (List (List FQ9)) → (List FQ9) → RT9) : Nat → Int → Int → Int → Int → Int → Int → Bool → (List Nat) → (List (List FQ9)) → (List FQ9) → Int → Int → RT9
  | 0, _, _, _, _, _, _, _, _, _, _, _, _ => none
  | k + 1, v14, v4, v12, v3, v66, v67, b0, b1p, b1i, b2, b3_0, b3_1 => impl_calc_eliminate_t14 n g9 (impl_calc_eliminate_l14 n g9 k) v14 v4 v12 v3 v66 v67 b0 b1p b1i b2 b3_0 b3_1

noncomputable def impl_calc_eliminate_t9 (n : Nat) (h14 : Nat → Int → Int → Int → Int → Int → Int → Bool → (List Nat) → (List (List FQ9)) → (List FQ9) → Int → Int → RT9) (g9 : Int → Int → Int → Int → Bool → (List Nat) → (List (List FQ9)) → (List FQ9) → RT9) (v67 : Int) (v4 : Int) (v3 : Int) (v66 : Int) (b0 : Bool) (b1p : List Nat) (b1i : List (List FQ9)) (b2 : List FQ9) : RT9 :=
  cond (decide (v67 < v66))
  (cond ((v67 == v4))
    (g9 ((IntKind.wrap .i64 (v67 + 1))) v4 v3 v66 b0 b1p b1i b2)
    (cond ((decide (0 ≤ v67) && decide (v67 < ((b1p.length : Nat) : Int))))
      (cond ((decide (0 ≤ v3) && decide (v3 < (((b1i.getD (b1p.getD (Int.toNat v67) 0) []).length : Nat) : Int))))
        (cond ((((b1i.getD (b1p.getD (Int.toNat v67) 0) []).getD (Int.toNat v3) (0, 0)).1 == 0))
          (g9 ((IntKind.wrap .i64 (v67 + 1))) v4 v3 v66 b0 b1p b1i b2)
          (cond b0
            (g9 ((IntKind.wrap .i64 (v67 + 1))) v4 v3 v66 b0 b1p b1i b2)
            (cond ((decide (0 ≤ v67) && decide (v67 < ((b1p.length : Nat) : Int))))
              (cond ((decide (0 ≤ v3) && decide (v3 < (((b1i.getD (b1p.getD (Int.toNat v67) 0) []).length : Nat) : Int))))
                (cond ((decide (0 ≤ v4) && decide (v4 < ((b1p.length : Nat) : Int))))
                  (cond ((decide (0 ≤ v3) && decide (v3 < (((b1i.getD (b1p.getD (Int.toNat v4) 0) []).length : Nat) : Int))))
                    ((impl_calc_div n ((((b1i.getD (b1p.getD (Int.toNat v67) 0) []).getD (Int.toNat v3) (0, 0)).1, ((b1i.getD (b1p.getD (Int.toNat v67) 0) []).getD (Int.toNat v3) (0, 0)).2)) ((((b1i.getD (b1p.getD (Int.toNat v4) 0) []).getD (Int.toNat v3) (0, 0)).1, ((b1i.getD (b1p.getD (Int.toNat v4) 0) []).getD (Int.toNat v3) (0, 0)).2)) b0).bind fun r0 =>
                      h14 n v3 v4 v67 v3 v66 v67 r0.2.1 b1p b1i b2 r0.1.1.1.1 r0.1.1.1.2)
                    (none))
                  (none))
                (none))
              (none))))
        (none))
      (none)))
  (some ((((true, ()), ()), (b0, ((b1p, b1i), (b2, ()))))))

noncomputable def impl_calc_eliminate_l9 (n : Nat) : Nat → Int → Int → Int → Int → Bool → (List Nat) → (List (List FQ9)) → (List FQ9) → RT9
  | 0, _, _, _, _, _, _, _, _ => none
  | k + 1, v67, v4, v3, v66, b0, b1p, b1i, b2 => impl_calc_eliminate_t9 n (impl_calc_eliminate_l14 n (impl_calc_eliminate_l9 n k)) (impl_calc_eliminate_l9 n k) v67 v4 v3 v66 b0 b1p b1i b2

noncomputable def impl_calc_eliminate_t2 (n : Nat) (h9 : Nat → Int → Int → Int → Int → Bool → (List Nat) → (List (List FQ9)) → (List FQ9) → RT9) (g2 : Int → Int → Int → Bool → (List Nat) → (List (List FQ9)) → (List FQ9) → RT9) (v11 : Int) (v4 : Int) (v3 : Int) (b0 : Bool) (b1p : List Nat) (b1i : List (List FQ9)) (b2 : List FQ9) : RT9 :=
  cond (decide (v11 < ((b1p.length : Nat) : Int)))
  (cond ((decide (0 ≤ v11) && decide (v11 < ((b1p.length : Nat) : Int))))
    (cond ((decide (0 ≤ v3) && decide (v3 < (((b1i.getD (b1p.getD (Int.toNat v11) 0) []).length : Nat) : Int))))
      (cond ((((b1i.getD (b1p.getD (Int.toNat v11) 0) []).getD (Int.toNat v3) (0, 0)).1 == 0))
        (g2 ((IntKind.wrap .i64 (v11 + 1))) v4 v3 b0 b1p b1i b2)
        (cond ((v11 == ((b1p.length : Nat) : Int)))
          (some ((((false, ()), ()), (b0, ((b1p, b1i), (b2, ()))))))
          (cond ((decide (0 ≤ v4) && decide (v4 < ((b1p.length : Nat) : Int))))
            (cond ((decide (0 ≤ v11) && decide (v11 < ((b1p.length : Nat) : Int))))
              (cond ((decide (0 ≤ v11) && decide (v11 < ((b1p.length : Nat) : Int))))
                (cond ((decide (0 ≤ v4) && decide (v4 < (((b1p.set (Int.toNat v11) (b1p.getD (Int.toNat v4) 0)).length : Nat) : Int))))
                  (cond ((decide (0 ≤ v4) && decide (v4 < ((b2.length : Nat) : Int))))
                    (cond ((decide (0 ≤ v11) && decide (v11 < ((b2.length : Nat) : Int))))
                      (cond ((decide (0 ≤ v11) && decide (v11 < ((b2.length : Nat) : Int))))
                        (cond ((decide (0 ≤ v4) && decide (v4 < (((b2.set (Int.toNat v11) ((b2.getD (Int.toNat v4) (0, 0)).1, (b2.getD (Int.toNat v4) (0, 0)).2)).length : Nat) : Int))))
                          (h9 n 0 v4 v3 (((((b1p.set (Int.toNat v11) (b1p.getD (Int.toNat v4) 0)).set (Int.toNat v4) (b1p.getD (Int.toNat v11) 0)).length : Nat) : Int)) b0 (((b1p.set (Int.toNat v11) (b1p.getD (Int.toNat v4) 0)).set (Int.toNat v4) (b1p.getD (Int.toNat v11) 0))) b1i (((b2.set (Int.toNat v11) ((b2.getD (Int.toNat v4) (0, 0)).1, (b2.getD (Int.toNat v4) (0, 0)).2)).set (Int.toNat v4) ((b2.getD (Int.toNat v11) (0, 0)).1, (b2.getD (Int.toNat v11) (0, 0)).2))))
                          (none))
                        (none))
                      (none))
                    (none))
                  (none))
                (none))
              (none))
            (none))))
      (none))
    (none))
  (cond ((v11 == ((b1p.length : Nat) : Int)))
    (some ((((false, ()), ()), (b0, ((b1p, b1i), (b2, ()))))))
    (cond ((decide (0 ≤ v4) && decide (v4 < ((b1p.length : Nat) : Int))))
      (cond ((decide (0 ≤ v11) && decide (v11 < ((b1p.length : Nat) : Int))))
        (cond ((decide (0 ≤ v11) && decide (v11 < ((b1p.length : Nat) : Int))))
          (cond ((decide (0 ≤ v4) && decide (v4 < (((b1p.set (Int.toNat v11) (b1p.getD (Int.toNat v4) 0)).length : Nat) : Int))))
            (cond ((decide (0 ≤ v4) && decide (v4 < ((b2.length : Nat) : Int))))
              (cond ((decide (0 ≤ v11) && decide (v11 < ((b2.length : Nat) : Int))))
                (cond ((decide (0 ≤ v11) && decide (v11 < ((b2.length : Nat) : Int))))
                  (cond ((decide (0 ≤ v4) && decide (v4 < (((b2.set (Int.toNat v11) ((b2.getD (Int.toNat v4) (0, 0)).1, (b2.getD (Int.toNat v4) (0, 0)).2)).length : Nat) : Int))))
                    (h9 n 0 v4 v3 (((((b1p.set (Int.toNat v11) (b1p.getD (Int.toNat v4) 0)).set (Int.toNat v4) (b1p.getD (Int.toNat v11) 0)).length : Nat) : Int)) b0 (((b1p.set (Int.toNat v11) (b1p.getD (Int.toNat v4) 0)).set (Int.toNat v4) (b1p.getD (Int.toNat v11) 0))) b1i (((b2.set (Int.toNat v11) ((b2.getD (Int.toNat v4) (0, 0)).1, (b2.getD (Int.toNat v4) (0, 0)).2)).set (Int.toNat v4) ((b2.getD (Int.toNat v11) (0, 0)).1, (b2.getD (Int.toNat v11) (0, 0)).2))))
                    (none))
                  (none))
                (none))
              (none))
            (none))
          (none))
        (none))
      (none)))

noncomputable def impl_calc_eliminate_l2 (n : Nat) : Nat → Int → Int → Int → Bool → (List Nat) → (List (List FQ9)) → (List FQ9) → RT9
  | 0, _, _, _, _, _, _, _ => none
  | k + 1, v11, v4, v3, b0, b1p, b1i, b2 => impl_calc_eliminate_t2 n (impl_calc_eliminate_l9 n) (impl_calc_eliminate_l2 n k) v11 v4 v3 b0 b1p b1i b2

noncomputable def impl_calc_eliminate_t (n : Nat) (h2 : Nat → Int → Int → Int → Bool → (List Nat) → (List (List FQ9)) → (List FQ9) → RT9) (a3 : Int) (a4 : Int) (b0 : Bool) (b1 : (List Nat) × (List (List FQ9))) (b2 : List FQ9) : RT9 :=
  h2 n a4 a4 a3 b0 b1.1 b1.2 b2

noncomputable def impl_calc_eliminate (n : Nat) (a3 : Int) (a4 : Int) (b0 : Bool) (b1 : (List Nat) × (List (List FQ9))) (b2 : List FQ9) : RT9 := impl_calc_eliminate_t n (impl_calc_eliminate_l2 n) a3 a4 b0 b1 b2

noncomputable def slices_Clone_impl_Frac_impl_Frac_t (n : Nat) (a0 : List FQ9) : RT6 :=
  cond ((emptyL a0))
  (eith
    (some (((([], ()), ()), ())))
    (cond (decide (((0 + a0.length) * 17) ≤ 70368744177664))
      (some ((((([] ++ a0), ()), ()), ())))
      (none)))
  (cond (decide (((0 + a0.length) * 17) ≤ 70368744177664))
    (some ((((([] ++ a0), ()), ()), ())))
    (none))

noncomputable def slices_Clone_impl_Frac_impl_Frac (n : Nat) (a0 : List FQ9) : RT6 := slices_Clone_impl_Frac_impl_Frac_t n a0

noncomputable def impl_copyRows_t3 (n : Nat) (g3 : Int → (List (List FQ9)) → Int → (List Nat) → (List (List FQ9)) → RT10) (v9 : Int) (v7 : List (List FQ9)) (v8 : Int) (b0p : List Nat) (b0i : List (List FQ9)) : RT10 :=
  cond (decide (v9 < v8))
  (cond ((decide (0 ≤ v9) && decide (v9 < ((v7.length : Nat) : Int))))
    ((slices_Clone_impl_Frac_impl_Frac n ((v7.getD (Int.toNat v9) []))).bind fun r0 =>
      cond (decide (((b0p.length + 1) * 25) ≤ 70368744177664))
      (g3 ((IntKind.wrap .i64 (v9 + 1))) v7 v8 ((b0p ++ (b0i.length :: []))) ((b0i ++ (r0.1.1.1 :: []))))
      (none))
    (none))
  (some (((((b0p, b0i), ()), ()), ())))

noncomputable def impl_copyRows_l3 (n : Nat) : Nat → Int → (List (List FQ9)) → Int → (List Nat) → (List (List FQ9)) → RT10
  | 0, _, _, _, _, _ => none
  | k + 1, v9, v7, v8, b0p, b0i => impl_copyRows_t3 n (impl_copyRows_l3 n k) v9 v7 v8 b0p b0i

noncomputable def impl_copyRows_t (n : Nat) (h3 : Nat → Int → (List (List FQ9)) → Int → (List Nat) → (List (List FQ9)) → RT10) (a0 : List (List FQ9)) : RT10 :=
  h3 n 0 a0 (((a0.length : Nat) : Int)) [] []

noncomputable def impl_copyRows (n : Nat) (a0 : List (List FQ9)) : RT10 := impl_copyRows_t n (impl_copyRows_l3 n) a0

noncomputable def impl_SolveFracs_1_t (n : Nat) (a0 : List FQ9) (b0 : Int) : RT11 :=
  some (((((((a0.length : Nat) : Int) != b0), ()), ()), (b0, ())))

noncomputable def impl_SolveFracs_1 (n : Nat) (a0 : List FQ9) (b0 : Int) : RT11 := impl_SolveFracs_1_t n a0 b0

noncomputable def slices_IndexFunc_impl_Frac_impl_Frac_at_impl_SolveFracs_1_t2 (n : Nat) (g2 : Int → (List (List FQ9)) → Int → Int → RT12) (v8 : Int) (v0 : List (List FQ9)) (v7 : Int) (b0 : Int) : RT12 :=
  cond (decide (v8 < v7))
  (cond ((decide (0 ≤ v8) && decide (v8 < ((v0.length : Nat) : Int))))
    ((impl_SolveFracs_1 n ((v0.getD (Int.toNat v8) [])) b0).bind fun r0 =>
      cond r0.1.1.1
      (some ((((v8, ()), ()), (r0.2.1, ()))))
      (g2 ((IntKind.wrap .i64 (v8 + 1))) v0 v7 r0.2.1))
    (none))
  (some (((((-1), ()), ()), (b0, ()))))

noncomputable def slices_IndexFunc_impl_Frac_impl_Frac_at_impl_SolveFracs_1_l2 (n : Nat) : Nat → Int → (List (List FQ9)) → Int → Int → RT12
  | 0, _, _, _, _ => none
  | k + 1, v8, v0, v7, b0 => slices_IndexFunc_impl_Frac_impl_Frac_at_impl_SolveFracs_1_t2 n (slices_IndexFunc_impl_Frac_impl_Frac_at_impl_SolveFracs_1_l2 n k) v8 v0 v7 b0

noncomputable def slices_IndexFunc_impl_Frac_impl_Frac_at_impl_SolveFracs_1_t (n : Nat) (h2 : Nat → Int → (List (List FQ9)) → Int → Int → RT12) (a0 : List (List FQ9)) (b0 : Int) : RT12 :=
  h2 n 0 a0 (((a0.length : Nat) : Int)) b0

noncomputable def slices_IndexFunc_impl_Frac_impl_Frac_at_impl_SolveFracs_1 (n : Nat) (a0 : List (List FQ9)) (b0 : Int) : RT12 := slices_IndexFunc_impl_Frac_impl_Frac_at_impl_SolveFracs_1_t n (slices_IndexFunc_impl_Frac_impl_Frac_at_impl_SolveFracs_1_l2 n) a0 b0

noncomputable def slices_ContainsFunc_impl_Frac_impl_Frac_at_impl_SolveFracs_1_t (n : Nat) (a0 : List (List FQ9)) (b0 : Int) : RT11 :=
  (slices_IndexFunc_impl_Frac_impl_Frac_at_impl_SolveFracs_1 n a0 b0).bind fun r0 =>
  some ((((decide (r0.1.1.1 ≥ 0), ()), ()), (r0.2.1, ())))

noncomputable def slices_ContainsFunc_impl_Frac_impl_Frac_at_impl_SolveFracs_1 (n : Nat) (a0 : List (List FQ9)) (b0 : Int) : RT11 := slices_ContainsFunc_impl_Frac_impl_Frac_at_impl_SolveFracs_1_t n a0 b0

noncomputable def impl_SolveFracs_t20 (n : Nat) (g20 : Int → Int → (List Nat) → (List (List FQ9)) → (List FQ9) → Bool → RT13) (v70 : Int) (v69 : Int) (b0p : List Nat) (b0i : List (List FQ9)) (b1 : List FQ9) (b2 : Bool) : RT13 :=
  cond (decide (v70 < v69))
  (cond ((decide (0 ≤ v70) && decide (v70 < ((b1.length : Nat) : Int))))
    (cond ((decide (0 ≤ v70) && decide (v70 < ((b0p.length : Nat) : Int))))
      (cond ((decide (0 ≤ v70) && decide (v70 < (((b0i.getD (b0p.getD (Int.toNat v70) 0) []).length : Nat) : Int))))
        ((impl_calc_div n (((b1.getD (Int.toNat v70) (0, 0)).1, (b1.getD (Int.toNat v70) (0, 0)).2)) ((((b0i.getD (b0p.getD (Int.toNat v70) 0) []).getD (Int.toNat v70) (0, 0)).1, ((b0i.getD (b0p.getD (Int.toNat v70) 0) []).getD (Int.toNat v70) (0, 0)).2)) b2).bind fun r6 =>
          cond ((decide (0 ≤ v70) && decide (v70 < ((b1.length : Nat) : Int))))
          (g20 ((IntKind.wrap .i64 (v70 + 1))) v69 b0p b0i ((b1.set (Int.toNat v70) (r6.1.1.1.1, r6.1.1.1.2))) r6.2.1)
          (none))
        (none))
      (none))
    (none))
  (cond b2
    (some (((([], ()), ((3, ()), ())), ())))
    (some ((((b1, ()), ((0, ()), ())), ()))))

noncomputable def impl_SolveFracs_l20 (n : Nat) : Nat → Int → Int → (List Nat) → (List (List FQ9)) → (List FQ9) → Bool → RT13
  | 0, _, _, _, _, _, _ => none
  | k + 1, v70, v69, b0p, b0i, b1, b2 => impl_SolveFracs_t20 n (impl_SolveFracs_l20 n k) v70 v69 b0p b0i b1 b2

noncomputable def impl_SolveFracs_t12 (n : Nat) (h20 : Nat → Int → Int → (List Nat) → (List (List FQ9)) → (List FQ9) → Bool → RT13) (g12 : Int → Int → Bool → (List FQ9) → (List Nat) → (List (List FQ9)) → Int → RT13) (v54 : Int) (v53 : Int) (b0 : Bool) (b1 : List FQ9) (b2p : List Nat) (b2i : List (List FQ9)) (b3 : Int) : RT13 :=
  cond (decide (v54 < v53))
  ((impl_calc_eliminate n v54 v54 b0 ((b2p, b2i)) b1).bind fun r5 =>
    cond (!r5.1.1.1)
    (some (((([], ()), ((4, ()), ())), ())))
    (cond r5.2.1
      (some (((([], ()), ((3, ()), ())), ())))
      (g12 ((IntKind.wrap .i64 (v54 + 1))) v53 r5.2.1 r5.2.2.2.1 r5.2.2.1.1 r5.2.2.1.2 b3)))
  (h20 n 0 b3 b2p b2i b1 b0)

noncomputable def impl_SolveFracs_l12 (n : Nat) : Nat → Int → Int → Bool → (List FQ9) → (List Nat) → (List (List FQ9)) → Int → RT13
  | 0, _, _, _, _, _, _, _ => none
  | k + 1, v54, v53, b0, b1, b2p, b2i, b3 => impl_SolveFracs_t12 n (impl_SolveFracs_l20 n) (impl_SolveFracs_l12 n k) v54 v53 b0 b1 b2p b2i b3

noncomputable def impl_SolveFracs_t2 (n : Nat) (h12 : Nat → Int → Int → Bool → (List FQ9) → (List Nat) → (List (List FQ9)) → Int → RT13) (g2 : Int → (List (List FQ9)) → (List FQ9) → (List (List FQ9)) → Int → RT13) (v20 : Int) (v18 : List (List FQ9)) (v1 : List FQ9) (v0 : List (List FQ9)) (v19 : Int) : RT13 :=
  cond (decide (v20 < v19))
  (cond ((decide (0 ≤ v20) && decide (v20 < ((v18.length : Nat) : Int))))
    ((impl_areValid n ((v18.getD (Int.toNat v20) []))).bind fun r1 =>
      cond (!r1.1.1.1)
      (some (((([], ()), ((1, ()), ())), ())))
      (g2 ((IntKind.wrap .i64 (v20 + 1))) v18 v1 v0 v19))
    (none))
  (cond (decide (((v0.length : Nat) : Int) < 1))
    (some (((([], ()), ((2, ()), ())), ())))
    (cond (decide (((v0.length : Nat) : Int) > 7))
      (some (((([], ()), ((2, ()), ())), ())))
      (cond ((((v1.length : Nat) : Int) != ((v0.length : Nat) : Int)))
        (some (((([], ()), ((2, ()), ())), ())))
        ((slices_ContainsFunc_impl_Frac_impl_Frac_at_impl_SolveFracs_1 n v0 (((v0.length : Nat) : Int))).bind fun r2 =>
          cond r2.1.1.1
          (some (((([], ()), ((2, ()), ())), ())))
          ((impl_copyRows n v0).bind fun r3 =>
            (slices_Clone_impl_Frac_impl_Frac n v1).bind fun r4 =>
            h12 n 0 r2.2.1 false r4.1.1.1 r3.1.1.1.1 r3.1.1.1.2 r2.2.1)))))

noncomputable def impl_SolveFracs_l2 (n : Nat) : Nat → Int → (List (List FQ9)) → (List FQ9) → (List (List FQ9)) → Int → RT13
  | 0, _, _, _, _, _ => none
  | k + 1, v20, v18, v1, v0, v19 => impl_SolveFracs_t2 n (impl_SolveFracs_l12 n) (impl_SolveFracs_l2 n k) v20 v18 v1 v0 v19

noncomputable def impl_SolveFracs_t (n : Nat) (h2 : Nat → Int → (List (List FQ9)) → (List FQ9) → (List (List FQ9)) → Int → RT13) (a0 : List (List FQ9)) (a1 : List FQ9) : RT13 :=
  (impl_copyRows n a0).bind fun r0 =>
  cond (decide (((r0.1.1.1.1.length + (a1 :: []).length) * 25) ≤ 70368744177664))
  (h2 n 0 (((rowsAt r0.1.1.1.1 r0.1.1.1.2) ++ (a1 :: []))) a1 a0 (((((rowsAt r0.1.1.1.1 r0.1.1.1.2) ++ (a1 :: [])).length : Nat) : Int)))
  (none)

noncomputable def impl_SolveFracs (n : Nat) (a0 : List (List FQ9)) (a1 : List FQ9) : RT13 := impl_SolveFracs_t n (impl_SolveFracs_l2 n) a0 a1

noncomputable def impl_CorrectionsOf_t (n : Nat) (a0 : (Int) × ((List OB9) × ((Bool) × FQ9))) : RT13 :=
  (impl_NormalOf n ((a0.1, (a0.2.1, (a0.2.2.1, (a0.2.2.2.1, a0.2.2.2.2)))))).bind fun r0 =>
  cond ((r0.1.2.2.1.1 != 0))
  (some (((([], ()), ((r0.1.2.2.1.1, ()), ())), ())))
  ((impl_SolveFracs n ((rowsAt r0.1.1.1.1 r0.1.1.1.2)) r0.1.2.1.1).bind fun r1 =>
    cond ((r1.1.2.1.1 != 0))
    (some (((([], ()), ((r1.1.2.1.1, ()), ())), ())))
    (cond ((decide (0 ≤ a0.1) && decide (a0.1 ≤ ((r1.1.1.1.length : Nat) : Int))))
      ((slices_Clone_impl_Frac_impl_Frac n (((r1.1.1.1.drop 0).take ((Int.toNat a0.1) - (Int.toNat 0))))).bind fun r2 =>
        some ((((r2.1.1.1, ()), ((0, ()), ())), ())))
      (none)))

noncomputable def impl_CorrectionsOf (n : Nat) (a0 : (Int) × ((List OB9) × ((Bool) × FQ9))) : RT13 := impl_CorrectionsOf_t n a0

noncomputable def impl_pairObs_t (n : Nat) (a0 : Int) (a1 : Int) (a2 : (Int) × (Int)) : RT14 :=
  cond ((decide (0 ≤ a0) && decide (a0 < 6)))
  (cond ((decide (0 ≤ a1) && decide (a1 < 6)))
    (some (((((((cond (Nat.beq (Int.toNat a1) 0) (-1) (cond (Nat.beq (Int.toNat a0) 0) 1 0)), ((cond (Nat.beq (Int.toNat a1) 1) (-1) (cond (Nat.beq (Int.toNat a0) 1) 1 0)), ((cond (Nat.beq (Int.toNat a1) 2) (-1) (cond (Nat.beq (Int.toNat a0) 2) 1 0)), ((cond (Nat.beq (Int.toNat a1) 3) (-1) (cond (Nat.beq (Int.toNat a0) 3) 1 0)), ((cond (Nat.beq (Int.toNat a1) 4) (-1) (cond (Nat.beq (Int.toNat a0) 4) 1 0)), (cond (Nat.beq (Int.toNat a1) 5) (-1) (cond (Nat.beq (Int.toNat a0) 5) 1 0))))))), ((a2.1, a2.2), 1)), ()), ()), ())))
    (none))
  (none)

noncomputable def impl_pairObs (n : Nat) (a0 : Int) (a1 : Int) (a2 : (Int) × (Int)) : RT14 := impl_pairObs_t n a0 a1 a2

noncomputable def impl_RingTable_t8 (n : Nat) (g8 : Int → Int → (List FQ9) → Int → Int → Bool → Int → Int → Int → Bool → Int → Int → (List OB9) → RT15) (v35 : Int) (v6 : Int) (v33 : List FQ9) (v34 : Int) (b0_0 : Int) (b0_2 : Bool) (b0_3 : Int) (b0_4 : Int) (b1_0 : Int) (b1_2 : Bool) (b1_3 : Int) (b1_4 : Int) (b2 : List OB9) : RT15 :=
  cond (decide (v35 < v34))
  (cond ((decide (0 ≤ v35) && decide (v35 < ((v33.length : Nat) : Int))))
    (cond ((v6 != 0))
      ((impl_pairObs n v35 ((Int.tmod (IntKind.wrap .i64 (v35 + 1)) v6)) (((v33.getD (Int.toNat v35) (0, 0)).1, (v33.getD (Int.toNat v35) (0, 0)).2))).bind fun r2 =>
        cond (decide (((b2.length + (((r2.1.1.1.1.1, (r2.1.1.1.1.2.1, (r2.1.1.1.1.2.2.1, (r2.1.1.1.1.2.2.2.1, (r2.1.1.1.1.2.2.2.2.1, r2.1.1.1.1.2.2.2.2.2))))), ((r2.1.1.1.2.1.1, r2.1.1.1.2.1.2), r2.1.1.1.2.2)) :: []).length) * 33) ≤ 70368744177664))
        (g8 ((IntKind.wrap .i64 (v35 + 1))) v6 v33 v34 b0_0 b0_2 b0_3 b0_4 b1_0 b1_2 b1_3 b1_4 ((b2 ++ (((r2.1.1.1.1.1, (r2.1.1.1.1.2.1, (r2.1.1.1.1.2.2.1, (r2.1.1.1.1.2.2.2.1, (r2.1.1.1.1.2.2.2.2.1, r2.1.1.1.1.2.2.2.2.2))))), ((r2.1.1.1.2.1.1, r2.1.1.1.2.1.2), r2.1.1.1.2.2)) :: []))))
        (none))
      (none))
    (none))
  (some ((((b0_0, (b2, ((b0_2, (b0_3, b0_4)), ()))), ((0, ()), ())), ())))

noncomputable def impl_RingTable_l8 (n : Nat) : Nat → Int → Int → (List FQ9) → Int → Int → Bool → Int → Int → Int → Bool → Int → Int → (List OB9) → RT15
  | 0, _, _, _, _, _, _, _, _, _, _, _, _, _ => none
  | k + 1, v35, v6, v33, v34, b0_0, b0_2, b0_3, b0_4, b1_0, b1_2, b1_3, b1_4, b2 => impl_RingTable_t8 n (impl_RingTable_l8 n k) v35 v6 v33 v34 b0_0 b0_2 b0_3 b0_4 b1_0 b1_2 b1_3 b1_4 b2

noncomputable def impl_RingTable_t (n : Nat) (h8 : Nat → Int → Int → (List FQ9) → Int → Int → Bool → Int → Int → Int → Bool → Int → Int → (List OB9) → RT15) (a0 : List FQ9) (a1 : (Int) × (Int)) : RT15 :=
  (impl_areValid n a0).bind fun r0 =>
  cond (!r0.1.1.1)
  (some ((((0, ([], ((false, (0, 0)), ()))), ((1, ()), ())), ())))
  ((impl_ValidFrac n ((a1.1, a1.2))).bind fun r1 =>
    cond (!r1.1.1.1)
    (some ((((0, ([], ((false, (0, 0)), ()))), ((1, ()), ())), ())))
    (cond (decide (((a0.length : Nat) : Int) < 2))
      (some ((((0, ([], ((false, (0, 0)), ()))), ((2, ()), ())), ())))
      (cond (decide (((a0.length : Nat) : Int) > 6))
        (some ((((0, ([], ((false, (0, 0)), ()))), ((2, ()), ())), ())))
        (h8 n 0 (((a0.length : Nat) : Int)) a0 (((a0.length : Nat) : Int)) (((a0.length : Nat) : Int)) true a1.1 a1.2 0 false 0 0 []))))

noncomputable def impl_RingTable (n : Nat) (a0 : List FQ9) (a1 : (Int) × (Int)) : RT15 := impl_RingTable_t n (impl_RingTable_l8 n) a0 a1

noncomputable def impl_calc_sum_t3 (n : Nat) (g3 : Int → (List FQ9) → Int → Bool → Int → Int → Int → Int → RT4) (v11 : Int) (v9 : List FQ9) (v10 : Int) (b0 : Bool) (b1_0 : Int) (b1_1 : Int) (b2_0 : Int) (b2_1 : Int) : RT4 :=
  cond (decide (v11 < v10))
  (cond ((decide (0 ≤ v11) && decide (v11 < ((v9.length : Nat) : Int))))
    ((impl_calc_add n ((b1_0, b1_1)) (((v9.getD (Int.toNat v11) (0, 0)).1, (v9.getD (Int.toNat v11) (0, 0)).2)) b0).bind fun r1 =>
      g3 ((IntKind.wrap .i64 (v11 + 1))) v9 v10 r1.2.1 r1.1.1.1.1 r1.1.1.1.2 b2_0 b2_1)
    (none))
  (some (((((b1_0, b1_1), ()), ()), (b0, ()))))

noncomputable def impl_calc_sum_l3 (n : Nat) : Nat → Int → (List FQ9) → Int → Bool → Int → Int → Int → Int → RT4
  | 0, _, _, _, _, _, _, _, _ => none
  | k + 1, v11, v9, v10, b0, b1_0, b1_1, b2_0, b2_1 => impl_calc_sum_t3 n (impl_calc_sum_l3 n k) v11 v9 v10 b0 b1_0 b1_1 b2_0 b2_1

noncomputable def impl_calc_sum_t (n : Nat) (h3 : Nat → Int → (List FQ9) → Int → Bool → Int → Int → Int → Int → RT4) (a1 : List FQ9) (b0 : Bool) : RT4 :=
  (impl_zero n).bind fun r0 =>
  h3 n 0 a1 (((a1.length : Nat) : Int)) b0 r0.1.1.1.1 r0.1.1.1.2 0 0

noncomputable def impl_calc_sum (n : Nat) (a1 : List FQ9) (b0 : Bool) : RT4 := impl_calc_sum_t n (impl_calc_sum_l3 n) a1 b0

noncomputable def impl_isSome_t (n : Nat) (a0 : List FQ9) : RT0 :=
  (impl_areValid n a0).bind fun r0 =>
  cond (!r0.1.1.1)
  (some ((((1, ()), ()), ())))
  (cond ((((a0.length : Nat) : Int) == 0))
    (some ((((2, ()), ()), ())))
    (cond (decide (((a0.length : Nat) : Int) > 64))
      (some ((((2, ()), ()), ())))
      (some ((((0, ()), ()), ())))))

noncomputable def impl_isSome (n : Nat) (a0 : List FQ9) : RT0 := impl_isSome_t n a0

noncomputable def impl_ShareEvenly_t10 (n : Nat) (g10 : Int → (List FQ9) → Int → Int → Int → Bool → (List FQ9) → RT13) (v36 : Int) (v34 : List FQ9) (v35 : Int) (b0_0 : Int) (b0_1 : Int) (b1 : Bool) (b2 : List FQ9) : RT13 :=
  cond (decide (v36 < v35))
  (cond ((decide (0 ≤ v36) && decide (v36 < ((v34.length : Nat) : Int))))
    ((impl_calc_sub n (((v34.getD (Int.toNat v36) (0, 0)).1, (v34.getD (Int.toNat v36) (0, 0)).2)) ((b0_0, b0_1)) b1).bind fun r6 =>
      cond (decide (((b2.length + ((r6.1.1.1.1, r6.1.1.1.2) :: []).length) * 17) ≤ 70368744177664))
      (g10 ((IntKind.wrap .i64 (v36 + 1))) v34 v35 b0_0 b0_1 r6.2.1 ((b2 ++ ((r6.1.1.1.1, r6.1.1.1.2) :: []))))
      (none))
    (none))
  (cond b1
    (some (((([], ()), ((3, ()), ())), ())))
    (some ((((b2, ()), ((0, ()), ())), ()))))

noncomputable def impl_ShareEvenly_l10 (n : Nat) : Nat → Int → (List FQ9) → Int → Int → Int → Bool → (List FQ9) → RT13
  | 0, _, _, _, _, _, _, _ => none
  | k + 1, v36, v34, v35, b0_0, b0_1, b1, b2 => impl_ShareEvenly_t10 n (impl_ShareEvenly_l10 n k) v36 v34 v35 b0_0 b0_1 b1 b2

noncomputable def impl_ShareEvenly_t (n : Nat) (h10 : Nat → Int → (List FQ9) → Int → Int → Int → Bool → (List FQ9) → RT13) (a0 : List FQ9) (a1 : (Int) × (Int)) : RT13 :=
  (impl_ValidFrac n ((a1.1, a1.2))).bind fun r0 =>
  cond (!r0.1.1.1)
  (some (((([], ()), ((1, ()), ())), ())))
  ((impl_isSome n a0).bind fun r1 =>
    cond ((r1.1.1.1 != 0))
    (some (((([], ()), ((r1.1.1.1, ()), ())), ())))
    ((impl_calc_sum n a0 false).bind fun r2 =>
      (impl_calc_sub n ((r2.1.1.1.1, r2.1.1.1.2)) ((a1.1, a1.2)) r2.2.1).bind fun r3 =>
      (impl_num n (((a0.length : Nat) : Int))).bind fun r4 =>
      (impl_calc_div n ((r3.1.1.1.1, r3.1.1.1.2)) ((r4.1.1.1.1, r4.1.1.1.2)) r3.2.1).bind fun r5 =>
      h10 n 0 a0 (((a0.length : Nat) : Int)) r5.1.1.1.1 r5.1.1.1.2 r5.2.1 []))

noncomputable def impl_ShareEvenly (n : Nat) (a0 : List FQ9) (a1 : (Int) × (Int)) : RT13 := impl_ShareEvenly_t n (impl_ShareEvenly_l10 n) a0 a1

noncomputable def impl_floorDiv_t (n : Nat) (a0 : Int) (a1 : Int) : RT0 :=
  cond ((a1 != 0))
  (cond ((a1 != 0))
    (cond (((Int.tmod a0 a1) != 0))
      (cond ((!(decide (a0 < 0) == decide (a1 < 0))))
        (some (((((IntKind.wrap .i64 ((IntKind.wrap .i64 (Int.tdiv a0 a1)) - 1)), ()), ()), ())))
        (some (((((IntKind.wrap .i64 (Int.tdiv a0 a1)), ()), ()), ()))))
      (some (((((IntKind.wrap .i64 (Int.tdiv a0 a1)), ()), ()), ()))))
    (none))
  (none)

noncomputable def impl_floorDiv (n : Nat) (a0 : Int) (a1 : Int) : RT0 := impl_floorDiv_t n a0 a1

noncomputable def impl_ShareWhole_1_t (n : Nat) (a0 : Int) : RT1 :=
  (impl_within n a0 (-1000000000) 1000000000).bind fun r0 =>
  some (((((!r0.1.1.1), ()), ()), ()))

noncomputable def impl_ShareWhole_1 (n : Nat) (a0 : Int) : RT1 := impl_ShareWhole_1_t n a0

noncomputable def slices_IndexFunc_int64_int64_at_impl_ShareWhole_1_t2 (n : Nat) (g2 : Int → (List (Int)) → Int → RT0) (v8 : Int) (v0 : List (Int)) (v7 : Int) : RT0 :=
  cond (decide (v8 < v7))
  (cond ((decide (0 ≤ v8) && decide (v8 < ((v0.length : Nat) : Int))))
    ((impl_ShareWhole_1 n ((v0.getD (Int.toNat v8) 0))).bind fun r0 =>
      cond r0.1.1.1
      (some ((((v8, ()), ()), ())))
      (g2 ((IntKind.wrap .i64 (v8 + 1))) v0 v7))
    (none))
  (some (((((-1), ()), ()), ())))

noncomputable def slices_IndexFunc_int64_int64_at_impl_ShareWhole_1_l2 (n : Nat) : Nat → Int → (List (Int)) → Int → RT0
  | 0, _, _, _ => none
  | k + 1, v8, v0, v7 => slices_IndexFunc_int64_int64_at_impl_ShareWhole_1_t2 n (slices_IndexFunc_int64_int64_at_impl_ShareWhole_1_l2 n k) v8 v0 v7

noncomputable def slices_IndexFunc_int64_int64_at_impl_ShareWhole_1_t (n : Nat) (h2 : Nat → Int → (List (Int)) → Int → RT0) (a0 : List (Int)) : RT0 :=
  h2 n 0 a0 (((a0.length : Nat) : Int))

noncomputable def slices_IndexFunc_int64_int64_at_impl_ShareWhole_1 (n : Nat) (a0 : List (Int)) : RT0 := slices_IndexFunc_int64_int64_at_impl_ShareWhole_1_t n (slices_IndexFunc_int64_int64_at_impl_ShareWhole_1_l2 n) a0

noncomputable def slices_ContainsFunc_int64_int64_at_impl_ShareWhole_1_t (n : Nat) (a0 : List (Int)) : RT1 :=
  (slices_IndexFunc_int64_int64_at_impl_ShareWhole_1 n a0).bind fun r0 =>
  some ((((decide (r0.1.1.1 ≥ 0), ()), ()), ()))

noncomputable def slices_ContainsFunc_int64_int64_at_impl_ShareWhole_1 (n : Nat) (a0 : List (Int)) : RT1 := slices_ContainsFunc_int64_int64_at_impl_ShareWhole_1_t n a0

noncomputable def impl_ShareWhole_t11 (n : Nat) (g11 : Int → Int → Int → Int → (List (Int)) → Int → (List (Int)) → RT16) (v49 : Int) (v10 : Int) (v7 : Int) (v6 : Int) (v47 : List (Int)) (v48 : Int) (b0 : List (Int)) : RT16 :=
  cond (decide (v49 < v48))
  (cond ((decide (0 ≤ v49) && decide (v49 < ((v47.length : Nat) : Int))))
    (cond (decide (v49 < (IntKind.wrap .i64 (v6 - (IntKind.wrap .i64 (v10 * v7))))))
      (cond (decide (((b0.length + ((IntKind.wrap .i64 ((IntKind.wrap .i64 ((v47.getD (Int.toNat v49) 0) - 1)) - v10)) :: []).length) * 9) ≤ 70368744177664))
        (g11 ((IntKind.wrap .i64 (v49 + 1))) v10 v7 v6 v47 v48 ((b0 ++ ((IntKind.wrap .i64 ((IntKind.wrap .i64 ((v47.getD (Int.toNat v49) 0) - 1)) - v10)) :: []))))
        (none))
      (cond (decide (((b0.length + ((IntKind.wrap .i64 ((v47.getD (Int.toNat v49) 0) - v10)) :: []).length) * 9) ≤ 70368744177664))
        (g11 ((IntKind.wrap .i64 (v49 + 1))) v10 v7 v6 v47 v48 ((b0 ++ ((IntKind.wrap .i64 ((v47.getD (Int.toNat v49) 0) - v10)) :: []))))
        (none)))
    (none))
  (some ((((b0, ()), ((0, ()), ())), ())))

noncomputable def impl_ShareWhole_l11 (n : Nat) : Nat → Int → Int → Int → Int → (List (Int)) → Int → (List (Int)) → RT16
  | 0, _, _, _, _, _, _, _ => none
  | k + 1, v49, v10, v7, v6, v47, v48, b0 => impl_ShareWhole_t11 n (impl_ShareWhole_l11 n k) v49 v10 v7 v6 v47 v48 b0

noncomputable def impl_ShareWhole_t5 (n : Nat) (h11 : Nat → Int → Int → Int → Int → (List (Int)) → Int → (List (Int)) → RT16) (g5 : Int → Int → (List (Int)) → Int → (List (Int)) → Int → RT16) (v35 : Int) (v6 : Int) (v33 : List (Int)) (v7 : Int) (v0 : List (Int)) (v34 : Int) : RT16 :=
  cond (decide (v35 < v34))
  (cond ((decide (0 ≤ v35) && decide (v35 < ((v33.length : Nat) : Int))))
    (g5 ((IntKind.wrap .i64 (v35 + 1))) ((IntKind.wrap .i64 (v6 + (v33.getD (Int.toNat v35) 0)))) v33 v7 v0 v34)
    (none))
  ((impl_floorDiv n v6 v7).bind fun r1 =>
    h11 n 0 r1.1.1.1 v7 v6 v0 (((v0.length : Nat) : Int)) [])

noncomputable def impl_ShareWhole_l5 (n : Nat) : Nat → Int → Int → (List (Int)) → Int → (List (Int)) → Int → RT16
  | 0, _, _, _, _, _, _ => none
  | k + 1, v35, v6, v33, v7, v0, v34 => impl_ShareWhole_t5 n (impl_ShareWhole_l11 n) (impl_ShareWhole_l5 n k) v35 v6 v33 v7 v0 v34

noncomputable def impl_ShareWhole_t (n : Nat) (h5 : Nat → Int → Int → (List (Int)) → Int → (List (Int)) → Int → RT16) (a0 : List (Int)) (a1 : Int) : RT16 :=
  cond ((((a0.length : Nat) : Int) == 0))
  (some (((([], ()), ((2, ()), ())), ())))
  (cond (decide (((a0.length : Nat) : Int) > 64))
    (some (((([], ()), ((2, ()), ())), ())))
    (cond (decide ((((a1 :: []).length + a0.length) * 9) ≤ 70368744177664))
      ((slices_ContainsFunc_int64_int64_at_impl_ShareWhole_1 n (((a1 :: []) ++ a0))).bind fun r0 =>
        cond r0.1.1.1
        (some (((([], ()), ((2, ()), ())), ())))
        (h5 n 0 ((IntKind.wrap .i64 (0 - a1))) a0 (((a0.length : Nat) : Int)) a0 (((a0.length : Nat) : Int))))
      (none)))

noncomputable def impl_ShareWhole (n : Nat) (a0 : List (Int)) (a1 : Int) : RT16 := impl_ShareWhole_t n (impl_ShareWhole_l5 n) a0 a1

noncomputable def laws_f6big_t (n : Nat) (a0 : List (Int)) : RT1 :=
  some ((((decide (((a0.length : Nat) : Int) > 4096), ()), ()), ()))

noncomputable def laws_f6big (n : Nat) (a0 : List (Int)) : RT1 := laws_f6big_t n a0

noncomputable def spec_l00From_t (n : Nat) (a0 : List (Int)) : RT17 :=
  some (((((a0, (0, 0)), ()), ()), ()))

noncomputable def spec_l00From (n : Nat) (a0 : List (Int)) : RT17 := spec_l00From_t n a0

noncomputable def spec_l00Src_next_t (n : Nat) (b0 : (List (Int)) × FQ9) : RT18 :=
  cond (decide (b0.2.1 < ((b0.1.length : Nat) : Int)))
  (cond ((decide (0 ≤ b0.2.1) && decide (b0.2.1 < ((b0.1.length : Nat) : Int))))
    (cond (decide ((IntKind.wrap .i64 (b0.2.1 + 1)) ≤ ((b0.1.length : Nat) : Int)))
      (some (((((IntKind.wrap .i64 (b0.1.getD (Int.toNat b0.2.1) 0)), ()), ()), ((b0.1, ((IntKind.wrap .i64 (b0.2.1 + 1)), (IntKind.wrap .u64 ((IntKind.wrap .u64 ((IntKind.wrap .u64 (b0.2.2 * 6364136223846793005)) + (IntKind.wrap .u64 (IntKind.wrap .i64 (b0.1.getD (Int.toNat b0.2.1) 0))))) + 1442695040888963407)))), ()))))
      (some (((((IntKind.wrap .i64 (andInt .u64 (shrInt .u64 (IntKind.wrap .u64 ((IntKind.wrap .u64 ((IntKind.wrap .u64 (b0.2.2 * 6364136223846793005)) + (IntKind.wrap .u64 (IntKind.wrap .i64 (b0.1.getD (Int.toNat b0.2.1) 0))))) + 1442695040888963407)) 40) 255)), ()), ()), ((b0.1, ((IntKind.wrap .i64 (b0.2.1 + 1)), (IntKind.wrap .u64 ((IntKind.wrap .u64 ((IntKind.wrap .u64 (b0.2.2 * 6364136223846793005)) + (IntKind.wrap .u64 (IntKind.wrap .i64 (b0.1.getD (Int.toNat b0.2.1) 0))))) + 1442695040888963407)))), ())))))
    (none))
  (cond (decide ((IntKind.wrap .i64 (b0.2.1 + 1)) ≤ ((b0.1.length : Nat) : Int)))
    (some ((((0, ()), ()), ((b0.1, ((IntKind.wrap .i64 (b0.2.1 + 1)), (IntKind.wrap .u64 ((IntKind.wrap .u64 ((IntKind.wrap .u64 (b0.2.2 * 6364136223846793005)) + (IntKind.wrap .u64 0))) + 1442695040888963407)))), ()))))
    (some (((((IntKind.wrap .i64 (andInt .u64 (shrInt .u64 (IntKind.wrap .u64 ((IntKind.wrap .u64 ((IntKind.wrap .u64 (b0.2.2 * 6364136223846793005)) + (IntKind.wrap .u64 0))) + 1442695040888963407)) 40) 255)), ()), ()), ((b0.1, ((IntKind.wrap .i64 (b0.2.1 + 1)), (IntKind.wrap .u64 ((IntKind.wrap .u64 ((IntKind.wrap .u64 (b0.2.2 * 6364136223846793005)) + (IntKind.wrap .u64 0))) + 1442695040888963407)))), ())))))

noncomputable def spec_l00Src_next (n : Nat) (b0 : (List (Int)) × FQ9) : RT18 := spec_l00Src_next_t n b0

noncomputable def spec_l00Src_pick_t (n : Nat) (a1 : Int) (b0 : (List (Int)) × FQ9) : RT18 :=
  cond (decide (a1 ≤ 1))
  (some ((((0, ()), ()), ((b0.1, (b0.2.1, b0.2.2)), ()))))
  ((spec_l00Src_next n ((b0.1, (b0.2.1, b0.2.2)))).bind fun r0 =>
    cond (decide (a1 > 200))
    ((spec_l00Src_next n ((r0.2.1.1, (r0.2.1.2.1, r0.2.1.2.2)))).bind fun r1 =>
      cond ((a1 != 0))
      (some (((((Int.tmod (IntKind.wrap .i64 ((IntKind.wrap .i64 (r0.1.1.1 * 256)) + r1.1.1.1)) a1), ()), ()), ((r1.2.1.1, (r1.2.1.2.1, r1.2.1.2.2)), ()))))
      (none))
    (cond ((a1 != 0))
      (some (((((Int.tmod r0.1.1.1 a1), ()), ()), ((r0.2.1.1, (r0.2.1.2.1, r0.2.1.2.2)), ()))))
      (none)))

noncomputable def spec_l00Src_pick (n : Nat) (a1 : Int) (b0 : (List (Int)) × FQ9) : RT18 := spec_l00Src_pick_t n a1 b0

noncomputable def spec_l01Abs_t (n : Nat) (a0 : Int) : RT0 :=
  cond (decide (a0 < 0))
  (some (((((IntKind.wrap .i64 (0 - a0)), ()), ()), ())))
  (some ((((a0, ()), ()), ())))

noncomputable def spec_l01Abs (n : Nat) (a0 : Int) : RT0 := spec_l01Abs_t n a0

noncomputable def spec_l01Gcd_t1 (n : Nat) (g1 : Int → Int → RT0) (v1 : Int) (v0 : Int) : RT0 :=
  cond ((v1 != 0))
  (cond ((v1 != 0))
    (g1 ((Int.tmod v0 v1)) v1)
    (none))
  (some ((((v0, ()), ()), ())))

noncomputable def spec_l01Gcd_l1 (n : Nat) : Nat → Int → Int → RT0
  | 0, _, _ => none
  | k + 1, v1, v0 => spec_l01Gcd_t1 n (spec_l01Gcd_l1 n k) v1 v0

noncomputable def spec_l01Gcd_t (n : Nat) (h1 : Nat → Int → Int → RT0) (a0 : Int) (a1 : Int) : RT0 :=
  h1 n a1 a0

noncomputable def spec_l01Gcd (n : Nat) (a0 : Int) (a1 : Int) : RT0 := spec_l01Gcd_t n (spec_l01Gcd_l1 n) a0 a1

noncomputable def spec_l00In_t (n : Nat) (a0 : Int) (a1 : Int) (a2 : Int) : RT1 :=
  cond (decide (a0 ≥ a1))
  (some ((((decide (a0 ≤ a2), ()), ()), ())))
  (some ((((false, ()), ()), ())))

noncomputable def spec_l00In (n : Nat) (a0 : Int) (a1 : Int) (a2 : Int) : RT1 := spec_l00In_t n a0 a1 a2

noncomputable def spec_l01Ok_t (n : Nat) (a0 : (Int) × (Int)) : RT1 :=
  (spec_l00In n a0.2 1 1000000000).bind fun r0 =>
  cond r0.1.1.1
  ((spec_l00In n a0.1 (-1000000000) 1000000000).bind fun r1 =>
    cond r1.1.1.1
    ((spec_l01Abs n a0.1).bind fun r2 =>
      (spec_l01Gcd n r2.1.1.1 a0.2).bind fun r3 =>
      some (((((r3.1.1.1 == 1), ()), ()), ())))
    (some ((((false, ()), ()), ()))))
  (some ((((false, ()), ()), ())))

noncomputable def spec_l01Ok (n : Nat) (a0 : (Int) × (Int)) : RT1 := spec_l01Ok_t n a0

noncomputable def spec_l01Reduced_t (n : Nat) (a0 : Int) (a1 : Int) : RT19 :=
  (spec_l01Abs n a0).bind fun r0 =>
  (spec_l01Abs n a1).bind fun r1 =>
  (spec_l01Gcd n r0.1.1.1 r1.1.1.1).bind fun r2 =>
  cond ((r2.1.1.1 != 0))
  (cond ((r2.1.1.1 != 0))
    (cond (decide ((IntKind.wrap .i64 (Int.tdiv a1 r2.1.1.1)) < 0))
      ((spec_l01Ok n (((IntKind.wrap .i64 (0 - (IntKind.wrap .i64 (Int.tdiv a0 r2.1.1.1)))), (IntKind.wrap .i64 (0 - (IntKind.wrap .i64 (Int.tdiv a1 r2.1.1.1))))))).bind fun r3 =>
        cond (!r3.1.1.1)
        (some (((((0, 0), ()), ((3, ()), ())), ())))
        (some ((((((IntKind.wrap .i64 (0 - (IntKind.wrap .i64 (Int.tdiv a0 r2.1.1.1)))), (IntKind.wrap .i64 (0 - (IntKind.wrap .i64 (Int.tdiv a1 r2.1.1.1))))), ()), ((0, ()), ())), ()))))
      ((spec_l01Ok n (((IntKind.wrap .i64 (Int.tdiv a0 r2.1.1.1)), (IntKind.wrap .i64 (Int.tdiv a1 r2.1.1.1))))).bind fun r4 =>
        cond (!r4.1.1.1)
        (some (((((0, 0), ()), ((3, ()), ())), ())))
        (some ((((((IntKind.wrap .i64 (Int.tdiv a0 r2.1.1.1)), (IntKind.wrap .i64 (Int.tdiv a1 r2.1.1.1))), ()), ((0, ()), ())), ())))))
    (none))
  (none)

noncomputable def spec_l01Reduced (n : Nat) (a0 : Int) (a1 : Int) : RT19 := spec_l01Reduced_t n a0 a1

noncomputable def spec_P6Frac_t (n : Nat) (a0 : List (Int)) : RT3 :=
  (spec_l00From n a0).bind fun r0 =>
  (spec_l00Src_pick n 121 ((r0.1.1.1.1, (r0.1.1.1.2.1, r0.1.1.1.2.2)))).bind fun r1 =>
  (spec_l00Src_pick n 12 ((r1.2.1.1, (r1.2.1.2.1, r1.2.1.2.2)))).bind fun r2 =>
  (spec_l01Reduced n ((IntKind.wrap .i64 (r1.1.1.1 - 60))) ((IntKind.wrap .i64 (1 + r2.1.1.1)))).bind fun r3 =>
  some (((((r3.1.1.1.1, r3.1.1.1.2), ()), ()), ()))

noncomputable def spec_P6Frac (n : Nat) (a0 : List (Int)) : RT3 := spec_P6Frac_t n a0

noncomputable def spec_l00Src_among_t (n : Nat) (b0 : (List (Int)) × FQ9) (b1 : List (Int)) : RT20 :=
  (spec_l00Src_pick n (((b1.length : Nat) : Int)) ((b0.1, (b0.2.1, b0.2.2)))).bind fun r0 =>
  cond ((decide (0 ≤ r0.1.1.1) && decide (r0.1.1.1 < ((b1.length : Nat) : Int))))
  (some (((((b1.getD (Int.toNat r0.1.1.1) 0), ()), ()), ((r0.2.1.1, (r0.2.1.2.1, r0.2.1.2.2)), (b1, ())))))
  (none)

noncomputable def spec_l00Src_among (n : Nat) (b0 : (List (Int)) × FQ9) (b1 : List (Int)) : RT20 := spec_l00Src_among_t n b0 b1

noncomputable def spec_l04Small_t (n : Nat) (b0 : (List (Int)) × FQ9) : RT21 :=
  (spec_l00Src_pick n 41 ((b0.1, (b0.2.1, b0.2.2)))).bind fun r0 =>
  (spec_l00Src_among n ((r0.2.1.1, (r0.2.1.2.1, r0.2.1.2.2))) ((1 :: (1 :: (2 :: (4 :: [])))))).bind fun r1 =>
  (spec_l01Reduced n ((IntKind.wrap .i64 (r0.1.1.1 - 20))) r1.1.1.1).bind fun r2 =>
  some (((((r2.1.1.1.1, r2.1.1.1.2), ()), ()), ((r1.2.1.1, (r1.2.1.2.1, r1.2.1.2.2)), ())))

noncomputable def spec_l04Small (n : Nat) (b0 : (List (Int)) × FQ9) : RT21 := spec_l04Small_t n b0

noncomputable def spec_P6List_t4 (n : Nat) (g4 : Int → (List (Int)) → Int → Int → (List FQ9) → RT6) (v5 : Int) (b0_0 : List (Int)) (b0_1 : Int) (b0_2 : Int) (b1 : List FQ9) : RT6 :=
  cond (decide (v5 > 0))
  ((spec_l04Small n ((b0_0, (b0_1, b0_2)))).bind fun r2 =>
    cond (decide (((b1.length + ((r2.1.1.1.1, r2.1.1.1.2) :: []).length) * 17) ≤ 70368744177664))
    (g4 ((IntKind.wrap .i64 (v5 - 1))) r2.2.1.1 r2.2.1.2.1 r2.2.1.2.2 ((b1 ++ ((r2.1.1.1.1, r2.1.1.1.2) :: []))))
    (none))
  (some ((((b1, ()), ()), ())))

noncomputable def spec_P6List_l4 (n : Nat) : Nat → Int → (List (Int)) → Int → Int → (List FQ9) → RT6
  | 0, _, _, _, _, _ => none
  | k + 1, v5, b0_0, b0_1, b0_2, b1 => spec_P6List_t4 n (spec_P6List_l4 n k) v5 b0_0 b0_1 b0_2 b1

noncomputable def spec_P6List_t (n : Nat) (h4 : Nat → Int → (List (Int)) → Int → Int → (List FQ9) → RT6) (a0 : List (Int)) : RT6 :=
  (spec_l00From n a0).bind fun r0 =>
  (spec_l00Src_pick n 8 ((r0.1.1.1.1, (r0.1.1.1.2.1, r0.1.1.1.2.2)))).bind fun r1 =>
  h4 n ((IntKind.wrap .i64 (1 + r1.1.1.1))) r1.2.1.1 r1.2.1.2.1 r1.2.1.2.2 []

noncomputable def spec_P6List (n : Nat) (a0 : List (Int)) : RT6 := spec_P6List_t n (spec_P6List_l4 n) a0

noncomputable def spec_P6Pick_t (n : Nat) (a0 : List (Int)) (a1 : Int) : RT0 :=
  (spec_l00From n a0).bind fun r0 =>
  (spec_l00Src_pick n a1 ((r0.1.1.1.1, (r0.1.1.1.2.1, r0.1.1.1.2.2)))).bind fun r1 =>
  some ((((r1.1.1.1, ()), ()), ()))

noncomputable def spec_P6Pick (n : Nat) (a0 : List (Int)) (a1 : Int) : RT0 := spec_P6Pick_t n a0 a1

noncomputable def spec_l04Fracs_t2 (n : Nat) (g2 : Int → (List FQ9) → RT1) (v3 : Int) (v0 : List FQ9) : RT1 :=
  cond (decide (v3 < ((v0.length : Nat) : Int)))
  (cond ((decide (0 ≤ v3) && decide (v3 < ((v0.length : Nat) : Int))))
    ((spec_l01Ok n (((v0.getD (Int.toNat v3) (0, 0)).1, (v0.getD (Int.toNat v3) (0, 0)).2))).bind fun r0 =>
      cond (!r0.1.1.1)
      (some ((((false, ()), ()), ())))
      (g2 ((IntKind.wrap .i64 (v3 + 1))) v0))
    (none))
  (some ((((true, ()), ()), ())))

noncomputable def spec_l04Fracs_l2 (n : Nat) : Nat → Int → (List FQ9) → RT1
  | 0, _, _ => none
  | k + 1, v3, v0 => spec_l04Fracs_t2 n (spec_l04Fracs_l2 n k) v3 v0

noncomputable def spec_l04Fracs_t (n : Nat) (h2 : Nat → Int → (List FQ9) → RT1) (a0 : List FQ9) : RT1 :=
  h2 n 0 a0

noncomputable def spec_l04Fracs (n : Nat) (a0 : List FQ9) : RT1 := spec_l04Fracs_t n (spec_l04Fracs_l2 n) a0

noncomputable def spec_l04Pair_t (n : Nat) (a0 : Int) (a1 : Int) (a2 : (Int) × (Int)) : RT14 :=
  cond ((decide (0 ≤ a0) && decide (a0 < 6)))
  (cond ((decide (0 ≤ a1) && decide (a1 < 6)))
    (some (((((((cond (Nat.beq (Int.toNat a1) 0) (-1) (cond (Nat.beq (Int.toNat a0) 0) 1 0)), ((cond (Nat.beq (Int.toNat a1) 1) (-1) (cond (Nat.beq (Int.toNat a0) 1) 1 0)), ((cond (Nat.beq (Int.toNat a1) 2) (-1) (cond (Nat.beq (Int.toNat a0) 2) 1 0)), ((cond (Nat.beq (Int.toNat a1) 3) (-1) (cond (Nat.beq (Int.toNat a0) 3) 1 0)), ((cond (Nat.beq (Int.toNat a1) 4) (-1) (cond (Nat.beq (Int.toNat a0) 4) 1 0)), (cond (Nat.beq (Int.toNat a1) 5) (-1) (cond (Nat.beq (Int.toNat a0) 5) 1 0))))))), ((a2.1, a2.2), 1)), ()), ()), ())))
    (none))
  (none)

noncomputable def spec_l04Pair (n : Nat) (a0 : Int) (a1 : Int) (a2 : (Int) × (Int)) : RT14 := spec_l04Pair_t n a0 a1 a2

noncomputable def spec_RingTable_t8 (n : Nat) (g8 : Int → (List FQ9) → Int → Int → Bool → Int → Int → Int → Bool → Int → Int → (List OB9) → RT22) (v8 : Int) (v0 : List FQ9) (v6 : Int) (b0_0 : Int) (b0_2 : Bool) (b0_3 : Int) (b0_4 : Int) (b1_0 : Int) (b1_2 : Bool) (b1_3 : Int) (b1_4 : Int) (b2 : List OB9) : RT22 :=
  cond (decide (v8 < v6))
  (cond ((v6 != 0))
    (cond ((decide (0 ≤ v8) && decide (v8 < ((v0.length : Nat) : Int))))
      ((spec_l04Pair n v8 ((Int.tmod (IntKind.wrap .i64 (v8 + 1)) v6)) (((v0.getD (Int.toNat v8) (0, 0)).1, (v0.getD (Int.toNat v8) (0, 0)).2))).bind fun r3 =>
        cond (decide (((b2.length + (((r3.1.1.1.1.1, (r3.1.1.1.1.2.1, (r3.1.1.1.1.2.2.1, (r3.1.1.1.1.2.2.2.1, (r3.1.1.1.1.2.2.2.2.1, r3.1.1.1.1.2.2.2.2.2))))), ((r3.1.1.1.2.1.1, r3.1.1.1.2.1.2), r3.1.1.1.2.2)) :: []).length) * 33) ≤ 70368744177664))
        (g8 ((IntKind.wrap .i64 (v8 + 1))) v0 v6 b0_0 b0_2 b0_3 b0_4 b1_0 b1_2 b1_3 b1_4 ((b2 ++ (((r3.1.1.1.1.1, (r3.1.1.1.1.2.1, (r3.1.1.1.1.2.2.1, (r3.1.1.1.1.2.2.2.1, (r3.1.1.1.1.2.2.2.2.1, r3.1.1.1.1.2.2.2.2.2))))), ((r3.1.1.1.2.1.1, r3.1.1.1.2.1.2), r3.1.1.1.2.2)) :: []))))
        (none))
      (none))
    (none))
  (some (((((b0_0, (b2, (b0_2, (b0_3, b0_4)))), ()), ((0, ()), ())), ())))

noncomputable def spec_RingTable_l8 (n : Nat) : Nat → Int → (List FQ9) → Int → Int → Bool → Int → Int → Int → Bool → Int → Int → (List OB9) → RT22
  | 0, _, _, _, _, _, _, _, _, _, _, _, _ => none
  | k + 1, v8, v0, v6, b0_0, b0_2, b0_3, b0_4, b1_0, b1_2, b1_3, b1_4, b2 => spec_RingTable_t8 n (spec_RingTable_l8 n k) v8 v0 v6 b0_0 b0_2 b0_3 b0_4 b1_0 b1_2 b1_3 b1_4 b2

noncomputable def spec_RingTable_t (n : Nat) (h8 : Nat → Int → (List FQ9) → Int → Int → Bool → Int → Int → Int → Bool → Int → Int → (List OB9) → RT22) (a0 : List FQ9) (a1 : (Int) × (Int)) : RT22 :=
  (spec_l04Fracs n a0).bind fun r0 =>
  cond (!r0.1.1.1)
  (some (((((0, ([], (false, (0, 0)))), ()), ((1, ()), ())), ())))
  ((spec_l01Ok n ((a1.1, a1.2))).bind fun r1 =>
    cond (!r1.1.1.1)
    (some (((((0, ([], (false, (0, 0)))), ()), ((1, ()), ())), ())))
    ((spec_l00In n (((a0.length : Nat) : Int)) 2 6).bind fun r2 =>
      cond (!r2.1.1.1)
      (some (((((0, ([], (false, (0, 0)))), ()), ((2, ()), ())), ())))
      (h8 n 0 a0 (((a0.length : Nat) : Int)) (((a0.length : Nat) : Int)) true a1.1 a1.2 0 false 0 0 [])))

noncomputable def spec_RingTable (n : Nat) (a0 : List FQ9) (a1 : (Int) × (Int)) : RT22 := spec_RingTable_t n (spec_RingTable_l8 n) a0 a1

noncomputable def spec_SameFracs_t4 (n : Nat) (g4 : Int → (List FQ9) → (List FQ9) → RT1) (v5 : Int) (v1 : List FQ9) (v0 : List FQ9) : RT1 :=
  cond (decide (v5 < ((v0.length : Nat) : Int)))
  (cond ((decide (0 ≤ v5) && decide (v5 < ((v0.length : Nat) : Int))))
    (cond ((decide (0 ≤ v5) && decide (v5 < ((v1.length : Nat) : Int))))
      (cond ((!(((v0.getD (Int.toNat v5) (0, 0)).1 == (v1.getD (Int.toNat v5) (0, 0)).1) && (((v0.getD (Int.toNat v5) (0, 0)).2 == (v1.getD (Int.toNat v5) (0, 0)).2) && true))))
        (some ((((false, ()), ()), ())))
        (g4 ((IntKind.wrap .i64 (v5 + 1))) v1 v0))
      (none))
    (none))
  (some ((((true, ()), ()), ())))

noncomputable def spec_SameFracs_l4 (n : Nat) : Nat → Int → (List FQ9) → (List FQ9) → RT1
  | 0, _, _, _ => none
  | k + 1, v5, v1, v0 => spec_SameFracs_t4 n (spec_SameFracs_l4 n k) v5 v1 v0

noncomputable def spec_SameFracs_t (n : Nat) (h4 : Nat → Int → (List FQ9) → (List FQ9) → RT1) (a0 : List FQ9) (a1 : List FQ9) : RT1 :=
  cond ((((a0.length : Nat) : Int) != ((a1.length : Nat) : Int)))
  (some ((((false, ()), ()), ())))
  (h4 n 0 a1 a0)

noncomputable def spec_SameFracs (n : Nat) (a0 : List FQ9) (a1 : List FQ9) : RT1 := spec_SameFracs_t n (spec_SameFracs_l4 n) a0 a1

noncomputable def spec_SameTable_t4 (n : Nat) (g4 : Int → Int → (List OB9) → Bool → Int → Int → Int → (List OB9) → Bool → Int → Int → RT1) (v5 : Int) (b0_0 : Int) (b0_1 : List OB9) (b0_2 : Bool) (b0_3 : Int) (b0_4 : Int) (b1_0 : Int) (b1_1 : List OB9) (b1_2 : Bool) (b1_3 : Int) (b1_4 : Int) : RT1 :=
  cond (decide (v5 < ((b1_1.length : Nat) : Int)))
  (cond ((decide (0 ≤ v5) && decide (v5 < ((b1_1.length : Nat) : Int))))
    (cond ((decide (0 ≤ v5) && decide (v5 < ((b0_1.length : Nat) : Int))))
      (cond ((!(((b1_1.getD (Int.toNat v5) ((0, (0, (0, (0, (0, 0))))), ((0, 0), 0))).1.1 == (b0_1.getD (Int.toNat v5) ((0, (0, (0, (0, (0, 0))))), ((0, 0), 0))).1.1) && (((b1_1.getD (Int.toNat v5) ((0, (0, (0, (0, (0, 0))))), ((0, 0), 0))).1.2.1 == (b0_1.getD (Int.toNat v5) ((0, (0, (0, (0, (0, 0))))), ((0, 0), 0))).1.2.1) && (((b1_1.getD (Int.toNat v5) ((0, (0, (0, (0, (0, 0))))), ((0, 0), 0))).1.2.2.1 == (b0_1.getD (Int.toNat v5) ((0, (0, (0, (0, (0, 0))))), ((0, 0), 0))).1.2.2.1) && (((b1_1.getD (Int.toNat v5) ((0, (0, (0, (0, (0, 0))))), ((0, 0), 0))).1.2.2.2.1 == (b0_1.getD (Int.toNat v5) ((0, (0, (0, (0, (0, 0))))), ((0, 0), 0))).1.2.2.2.1) && (((b1_1.getD (Int.toNat v5) ((0, (0, (0, (0, (0, 0))))), ((0, 0), 0))).1.2.2.2.2.1 == (b0_1.getD (Int.toNat v5) ((0, (0, (0, (0, (0, 0))))), ((0, 0), 0))).1.2.2.2.2.1) && (((b1_1.getD (Int.toNat v5) ((0, (0, (0, (0, (0, 0))))), ((0, 0), 0))).1.2.2.2.2.2 == (b0_1.getD (Int.toNat v5) ((0, (0, (0, (0, (0, 0))))), ((0, 0), 0))).1.2.2.2.2.2) && (((b1_1.getD (Int.toNat v5) ((0, (0, (0, (0, (0, 0))))), ((0, 0), 0))).2.1.1 == (b0_1.getD (Int.toNat v5) ((0, (0, (0, (0, (0, 0))))), ((0, 0), 0))).2.1.1) && (((b1_1.getD (Int.toNat v5) ((0, (0, (0, (0, (0, 0))))), ((0, 0), 0))).2.1.2 == (b0_1.getD (Int.toNat v5) ((0, (0, (0, (0, (0, 0))))), ((0, 0), 0))).2.1.2) && (((b1_1.getD (Int.toNat v5) ((0, (0, (0, (0, (0, 0))))), ((0, 0), 0))).2.2 == (b0_1.getD (Int.toNat v5) ((0, (0, (0, (0, (0, 0))))), ((0, 0), 0))).2.2) && true)))))))))))
        (some ((((false, ()), ()), ())))
        (g4 ((IntKind.wrap .i64 (v5 + 1))) b0_0 b0_1 b0_2 b0_3 b0_4 b1_0 b1_1 b1_2 b1_3 b1_4))
      (none))
    (none))
  (some ((((true, ()), ()), ())))

noncomputable def spec_SameTable_l4 (n : Nat) : Nat → Int → Int → (List OB9) → Bool → Int → Int → Int → (List OB9) → Bool → Int → Int → RT1
  | 0, _, _, _, _, _, _, _, _, _, _, _ => none
  | k + 1, v5, b0_0, b0_1, b0_2, b0_3, b0_4, b1_0, b1_1, b1_2, b1_3, b1_4 => spec_SameTable_t4 n (spec_SameTable_l4 n k) v5 b0_0 b0_1 b0_2 b0_3 b0_4 b1_0 b1_1 b1_2 b1_3 b1_4

noncomputable def spec_SameTable_t (n : Nat) (h4 : Nat → Int → Int → (List OB9) → Bool → Int → Int → Int → (List OB9) → Bool → Int → Int → RT1) (a0 : (Int) × ((List OB9) × ((Bool) × FQ9))) (a1 : (Int) × ((List OB9) × ((Bool) × FQ9))) : RT1 :=
  cond ((a0.1 != a1.1))
  (some ((((false, ()), ()), ())))
  (cond ((!(a0.2.2.1 == a1.2.2.1)))
    (some ((((false, ()), ()), ())))
    (cond ((!((a0.2.2.2.1 == a1.2.2.2.1) && ((a0.2.2.2.2 == a1.2.2.2.2) && true))))
      (some ((((false, ()), ()), ())))
      (cond ((((a0.2.1.length : Nat) : Int) != ((a1.2.1.length : Nat) : Int)))
        (some ((((false, ()), ()), ())))
        (h4 n 0 a1.1 a1.2.1 a1.2.2.1 a1.2.2.2.1 a1.2.2.2.2 a0.1 a0.2.1 a0.2.2.1 a0.2.2.2.1 a0.2.2.2.2))))

noncomputable def spec_SameTable (n : Nat) (a0 : (Int) × ((List OB9) × ((Bool) × FQ9))) (a1 : (Int) × ((List OB9) × ((Bool) × FQ9))) : RT1 := spec_SameTable_t n (spec_SameTable_l4 n) a0 a1

noncomputable def spec_l00Same_t4 (n : Nat) (g4 : Int → (List (Int)) → (List (Int)) → RT1) (v5 : Int) (v1 : List (Int)) (v0 : List (Int)) : RT1 :=
  cond (decide (v5 < ((v0.length : Nat) : Int)))
  (cond ((decide (0 ≤ v5) && decide (v5 < ((v0.length : Nat) : Int))))
    (cond ((decide (0 ≤ v5) && decide (v5 < ((v1.length : Nat) : Int))))
      (cond (((v0.getD (Int.toNat v5) 0) != (v1.getD (Int.toNat v5) 0)))
        (some ((((false, ()), ()), ())))
        (g4 ((IntKind.wrap .i64 (v5 + 1))) v1 v0))
      (none))
    (none))
  (some ((((true, ()), ()), ())))

noncomputable def spec_l00Same_l4 (n : Nat) : Nat → Int → (List (Int)) → (List (Int)) → RT1
  | 0, _, _, _ => none
  | k + 1, v5, v1, v0 => spec_l00Same_t4 n (spec_l00Same_l4 n k) v5 v1 v0

noncomputable def spec_l00Same_t (n : Nat) (h4 : Nat → Int → (List (Int)) → (List (Int)) → RT1) (a0 : List (Int)) (a1 : List (Int)) : RT1 :=
  cond ((((a0.length : Nat) : Int) != ((a1.length : Nat) : Int)))
  (some ((((false, ()), ()), ())))
  (h4 n 0 a1 a0)

noncomputable def spec_l00Same (n : Nat) (a0 : List (Int)) (a1 : List (Int)) : RT1 := spec_l00Same_t n (spec_l00Same_l4 n) a0 a1

noncomputable def spec_SameWhole_t (n : Nat) (a0 : List (Int)) (a1 : List (Int)) : RT1 :=
  (spec_l00Same n a0 a1).bind fun r0 =>
  some ((((r0.1.1.1, ()), ()), ()))

noncomputable def spec_SameWhole (n : Nat) (a0 : List (Int)) (a1 : List (Int)) : RT1 := spec_SameWhole_t n a0 a1

noncomputable def spec_l01Div_t (n : Nat) (a0 : (Int) × (Int)) (a1 : (Int) × (Int)) : RT19 :=
  (spec_l01Reduced n ((IntKind.wrap .i64 (a0.1 * a1.2))) ((IntKind.wrap .i64 (a0.2 * a1.1)))).bind fun r0 =>
  some (((((r0.1.1.1.1, r0.1.1.1.2), ()), ((r0.1.2.1.1, ()), ())), ()))

noncomputable def spec_l01Div (n : Nat) (a0 : (Int) × (Int)) (a1 : (Int) × (Int)) : RT19 := spec_l01Div_t n a0 a1

noncomputable def spec_l01Add_t (n : Nat) (a0 : (Int) × (Int)) (a1 : (Int) × (Int)) : RT19 :=
  (spec_l01Reduced n ((IntKind.wrap .i64 ((IntKind.wrap .i64 (a0.1 * a1.2)) + (IntKind.wrap .i64 (a1.1 * a0.2))))) ((IntKind.wrap .i64 (a0.2 * a1.2)))).bind fun r0 =>
  some (((((r0.1.1.1.1, r0.1.1.1.2), ()), ((r0.1.2.1.1, ()), ())), ()))

noncomputable def spec_l01Add (n : Nat) (a0 : (Int) × (Int)) (a1 : (Int) × (Int)) : RT19 := spec_l01Add_t n a0 a1

noncomputable def spec_l01Neg_t (n : Nat) (a0 : (Int) × (Int)) : RT3 :=
  some ((((((IntKind.wrap .i64 (0 - a0.1)), a0.2), ()), ()), ()))

noncomputable def spec_l01Neg (n : Nat) (a0 : (Int) × (Int)) : RT3 := spec_l01Neg_t n a0

noncomputable def spec_l01Sub_t (n : Nat) (a0 : (Int) × (Int)) (a1 : (Int) × (Int)) : RT19 :=
  (spec_l01Neg n ((a1.1, a1.2))).bind fun r0 =>
  (spec_l01Add n ((a0.1, a0.2)) ((r0.1.1.1.1, r0.1.1.1.2))).bind fun r1 =>
  some (((((r1.1.1.1.1, r1.1.1.1.2), ()), ((r1.1.2.1.1, ()), ())), ()))

noncomputable def spec_l01Sub (n : Nat) (a0 : (Int) × (Int)) (a1 : (Int) × (Int)) : RT19 := spec_l01Sub_t n a0 a1

noncomputable def spec_l01Whole_t (n : Nat) (a0 : Int) : RT3 :=
  some (((((a0, 1), ()), ()), ()))

noncomputable def spec_l01Whole (n : Nat) (a0 : Int) : RT3 := spec_l01Whole_t n a0

noncomputable def spec_l01Sum_t3 (n : Nat) (g3 : Int → (List FQ9) → Int → Int → Int → Int → RT19) (v5 : Int) (v0 : List FQ9) (b0_0 : Int) (b0_1 : Int) (b1_0 : Int) (b1_1 : Int) : RT19 :=
  cond (decide (v5 < ((v0.length : Nat) : Int)))
  (cond ((decide (0 ≤ v5) && decide (v5 < ((v0.length : Nat) : Int))))
    ((spec_l01Add n ((b1_0, b1_1)) (((v0.getD (Int.toNat v5) (0, 0)).1, (v0.getD (Int.toNat v5) (0, 0)).2))).bind fun r1 =>
      cond ((r1.1.2.1.1 != 0))
      (some (((((0, 0), ()), ((r1.1.2.1.1, ()), ())), ())))
      (g3 ((IntKind.wrap .i64 (v5 + 1))) v0 b0_0 b0_1 r1.1.1.1.1 r1.1.1.1.2))
    (none))
  (some (((((b1_0, b1_1), ()), ((0, ()), ())), ())))

noncomputable def spec_l01Sum_l3 (n : Nat) : Nat → Int → (List FQ9) → Int → Int → Int → Int → RT19
  | 0, _, _, _, _, _, _ => none
  | k + 1, v5, v0, b0_0, b0_1, b1_0, b1_1 => spec_l01Sum_t3 n (spec_l01Sum_l3 n k) v5 v0 b0_0 b0_1 b1_0 b1_1

noncomputable def spec_l01Sum_t (n : Nat) (h3 : Nat → Int → (List FQ9) → Int → Int → Int → Int → RT19) (a0 : List FQ9) : RT19 :=
  (spec_l01Whole n 0).bind fun r0 =>
  h3 n 0 a0 0 0 r0.1.1.1.1 r0.1.1.1.2

noncomputable def spec_l01Sum (n : Nat) (a0 : List FQ9) : RT19 := spec_l01Sum_t n (spec_l01Sum_l3 n) a0

noncomputable def spec_ShareEvenly_t16 (n : Nat) (g16 : Int → (List FQ9) → (List FQ9) → Int → Int → RT13) (v13 : Int) (v0 : List FQ9) (b0 : List FQ9) (b1_0 : Int) (b1_1 : Int) : RT13 :=
  cond (decide (v13 < ((v0.length : Nat) : Int)))
  (cond ((decide (0 ≤ v13) && decide (v13 < ((v0.length : Nat) : Int))))
    ((spec_l01Sub n (((v0.getD (Int.toNat v13) (0, 0)).1, (v0.getD (Int.toNat v13) (0, 0)).2)) ((b1_0, b1_1))).bind fun r7 =>
      cond ((r7.1.2.1.1 != 0))
      (some (((([], ()), ((r7.1.2.1.1, ()), ())), ())))
      (cond (decide (((b0.length + ((r7.1.1.1.1, r7.1.1.1.2) :: []).length) * 17) ≤ 70368744177664))
        (g16 ((IntKind.wrap .i64 (v13 + 1))) v0 ((b0 ++ ((r7.1.1.1.1, r7.1.1.1.2) :: []))) b1_0 b1_1)
        (none)))
    (none))
  (some ((((b0, ()), ((0, ()), ())), ())))

noncomputable def spec_ShareEvenly_l16 (n : Nat) : Nat → Int → (List FQ9) → (List FQ9) → Int → Int → RT13
  | 0, _, _, _, _, _ => none
  | k + 1, v13, v0, b0, b1_0, b1_1 => spec_ShareEvenly_t16 n (spec_ShareEvenly_l16 n k) v13 v0 b0 b1_0 b1_1

noncomputable def spec_ShareEvenly_t (n : Nat) (h16 : Nat → Int → (List FQ9) → (List FQ9) → Int → Int → RT13) (a0 : List FQ9) (a1 : (Int) × (Int)) : RT13 :=
  (spec_l04Fracs n a0).bind fun r0 =>
  cond (!r0.1.1.1)
  (some (((([], ()), ((1, ()), ())), ())))
  ((spec_l01Ok n ((a1.1, a1.2))).bind fun r1 =>
    cond (!r1.1.1.1)
    (some (((([], ()), ((1, ()), ())), ())))
    ((spec_l00In n (((a0.length : Nat) : Int)) 1 64).bind fun r2 =>
      cond (!r2.1.1.1)
      (some (((([], ()), ((2, ()), ())), ())))
      ((spec_l01Sum n a0).bind fun r3 =>
        cond ((r3.1.2.1.1 != 0))
        (some (((([], ()), ((r3.1.2.1.1, ()), ())), ())))
        ((spec_l01Sub n ((r3.1.1.1.1, r3.1.1.1.2)) ((a1.1, a1.2))).bind fun r4 =>
          cond ((r4.1.2.1.1 != 0))
          (some (((([], ()), ((r4.1.2.1.1, ()), ())), ())))
          ((spec_l01Whole n (((a0.length : Nat) : Int))).bind fun r5 =>
            (spec_l01Div n ((r4.1.1.1.1, r4.1.1.1.2)) ((r5.1.1.1.1, r5.1.1.1.2))).bind fun r6 =>
            cond ((r6.1.2.1.1 != 0))
            (some (((([], ()), ((r6.1.2.1.1, ()), ())), ())))
            (h16 n 0 a0 [] r6.1.1.1.1 r6.1.1.1.2))))))

noncomputable def spec_ShareEvenly (n : Nat) (a0 : List FQ9) (a1 : (Int) × (Int)) : RT13 := spec_ShareEvenly_t n (spec_ShareEvenly_l16 n) a0 a1

noncomputable def spec_l01Down_t (n : Nat) (a0 : Int) (a1 : Int) : RT0 :=
  cond ((a1 != 0))
  (cond ((a1 != 0))
    (cond (decide ((Int.tmod a0 a1) < 0))
      (some (((((IntKind.wrap .i64 ((IntKind.wrap .i64 (Int.tdiv a0 a1)) - 1)), ()), ()), ())))
      (some (((((IntKind.wrap .i64 (Int.tdiv a0 a1)), ()), ()), ()))))
    (none))
  (none)

noncomputable def spec_l01Down (n : Nat) (a0 : Int) (a1 : Int) : RT0 := spec_l01Down_t n a0 a1

noncomputable def spec_ShareWhole_t17 (n : Nat) (g17 : Int → Int → Int → Int → (List (Int)) → (List (Int)) → RT16) (v13 : Int) (v6 : Int) (v11 : Int) (v9 : Int) (v0 : List (Int)) (b0 : List (Int)) : RT16 :=
  cond (decide (v13 < v6))
  (cond ((decide (0 ≤ v13) && decide (v13 < ((v0.length : Nat) : Int))))
    (cond (decide (v13 < (IntKind.wrap .i64 (v9 - (IntKind.wrap .i64 (v11 * v6))))))
      (cond (decide (((b0.length + ((IntKind.wrap .i64 ((IntKind.wrap .i64 ((v0.getD (Int.toNat v13) 0) - v11)) - 1)) :: []).length) * 9) ≤ 70368744177664))
        (g17 ((IntKind.wrap .i64 (v13 + 1))) v6 v11 v9 v0 ((b0 ++ ((IntKind.wrap .i64 ((IntKind.wrap .i64 ((v0.getD (Int.toNat v13) 0) - v11)) - 1)) :: []))))
        (none))
      (cond (decide (((b0.length + ((IntKind.wrap .i64 ((v0.getD (Int.toNat v13) 0) - v11)) :: []).length) * 9) ≤ 70368744177664))
        (g17 ((IntKind.wrap .i64 (v13 + 1))) v6 v11 v9 v0 ((b0 ++ ((IntKind.wrap .i64 ((v0.getD (Int.toNat v13) 0) - v11)) :: []))))
        (none)))
    (none))
  (some ((((b0, ()), ((0, ()), ())), ())))

noncomputable def spec_ShareWhole_l17 (n : Nat) : Nat → Int → Int → Int → Int → (List (Int)) → (List (Int)) → RT16
  | 0, _, _, _, _, _, _ => none
  | k + 1, v13, v6, v11, v9, v0, b0 => spec_ShareWhole_t17 n (spec_ShareWhole_l17 n k) v13 v6 v11 v9 v0 b0

noncomputable def spec_ShareWhole_t11 (n : Nat) (h17 : Nat → Int → Int → Int → Int → (List (Int)) → (List (Int)) → RT16) (g11 : Int → (List (Int)) → Int → Int → RT16) (v10 : Int) (v0 : List (Int)) (v9 : Int) (v6 : Int) : RT16 :=
  cond (decide (v10 < ((v0.length : Nat) : Int)))
  (cond ((decide (0 ≤ v10) && decide (v10 < ((v0.length : Nat) : Int))))
    (g11 ((IntKind.wrap .i64 (v10 + 1))) v0 ((IntKind.wrap .i64 (v9 + (v0.getD (Int.toNat v10) 0)))) v6)
    (none))
  ((spec_l01Down n v9 v6).bind fun r3 =>
    h17 n 0 v6 r3.1.1.1 v9 v0 [])

noncomputable def spec_ShareWhole_l11 (n : Nat) : Nat → Int → (List (Int)) → Int → Int → RT16
  | 0, _, _, _, _ => none
  | k + 1, v10, v0, v9, v6 => spec_ShareWhole_t11 n (spec_ShareWhole_l17 n) (spec_ShareWhole_l11 n k) v10 v0 v9 v6

noncomputable def spec_ShareWhole_t4 (n : Nat) (h11 : Nat → Int → (List (Int)) → Int → Int → RT16) (g4 : Int → (List (Int)) → Int → Int → Bool → RT16) (v8 : Int) (v0 : List (Int)) (v6 : Int) (v1 : Int) (v7 : Bool) : RT16 :=
  cond (decide (v8 < ((v0.length : Nat) : Int)))
  (cond v7
    (cond ((decide (0 ≤ v8) && decide (v8 < ((v0.length : Nat) : Int))))
      ((spec_l00In n ((v0.getD (Int.toNat v8) 0)) (-1000000000) 1000000000).bind fun r2 =>
        g4 ((IntKind.wrap .i64 (v8 + 1))) v0 v6 v1 r2.1.1.1)
      (none))
    (cond (!v7)
      (some (((([], ()), ((2, ()), ())), ())))
      (h11 n 0 v0 ((IntKind.wrap .i64 (0 - v1))) v6)))
  (cond (!v7)
    (some (((([], ()), ((2, ()), ())), ())))
    (h11 n 0 v0 ((IntKind.wrap .i64 (0 - v1))) v6))

noncomputable def spec_ShareWhole_l4 (n : Nat) : Nat → Int → (List (Int)) → Int → Int → Bool → RT16
  | 0, _, _, _, _, _ => none
  | k + 1, v8, v0, v6, v1, v7 => spec_ShareWhole_t4 n (spec_ShareWhole_l11 n) (spec_ShareWhole_l4 n k) v8 v0 v6 v1 v7

noncomputable def spec_ShareWhole_t (n : Nat) (h4 : Nat → Int → (List (Int)) → Int → Int → Bool → RT16) (a0 : List (Int)) (a1 : Int) : RT16 :=
  (spec_l00In n (((a0.length : Nat) : Int)) 1 64).bind fun r0 =>
  cond r0.1.1.1
  ((spec_l00In n a1 (-1000000000) 1000000000).bind fun r1 =>
    h4 n 0 a0 (((a0.length : Nat) : Int)) a1 r1.1.1.1)
  (h4 n 0 a0 (((a0.length : Nat) : Int)) a1 false)

noncomputable def spec_ShareWhole (n : Nat) (a0 : List (Int)) (a1 : Int) : RT16 := spec_ShareWhole_t n (spec_ShareWhole_l4 n) a0 a1

noncomputable def spec_l01List_t2 (n : Nat) (g2 : Int → (List FQ9) → Int → RT0) (v5 : Int) (v0 : List FQ9) (v1 : Int) : RT0 :=
  cond (decide (v5 < ((v0.length : Nat) : Int)))
  (cond ((decide (0 ≤ v5) && decide (v5 < ((v0.length : Nat) : Int))))
    ((spec_l01Ok n (((v0.getD (Int.toNat v5) (0, 0)).1, (v0.getD (Int.toNat v5) (0, 0)).2))).bind fun r0 =>
      cond (!r0.1.1.1)
      (some ((((1, ()), ()), ())))
      (g2 ((IntKind.wrap .i64 (v5 + 1))) v0 v1))
    (none))
  (cond (decide (((v0.length : Nat) : Int) > 64))
    (some ((((2, ()), ()), ())))
    (cond (decide (((v0.length : Nat) : Int) < v1))
      (some ((((2, ()), ()), ())))
      (some ((((0, ()), ()), ())))))

noncomputable def spec_l01List_l2 (n : Nat) : Nat → Int → (List FQ9) → Int → RT0
  | 0, _, _, _ => none
  | k + 1, v5, v0, v1 => spec_l01List_t2 n (spec_l01List_l2 n k) v5 v0 v1

noncomputable def spec_l01List_t (n : Nat) (h2 : Nat → Int → (List FQ9) → Int → RT0) (a0 : List FQ9) (a1 : Int) : RT0 :=
  h2 n 0 a0 a1

noncomputable def spec_l01List (n : Nat) (a0 : List FQ9) (a1 : Int) : RT0 := spec_l01List_t n (spec_l01List_l2 n) a0 a1

noncomputable def spec_SumOf_t (n : Nat) (a0 : List FQ9) : RT19 :=
  (spec_l01List n a0 0).bind fun r0 =>
  cond ((r0.1.1.1 != 0))
  (some (((((0, 0), ()), ((r0.1.1.1, ()), ())), ())))
  ((spec_l01Sum n a0).bind fun r1 =>
    some (((((r1.1.1.1.1, r1.1.1.1.2), ()), ((r1.1.2.1.1, ()), ())), ())))

noncomputable def spec_SumOf (n : Nat) (a0 : List FQ9) : RT19 := spec_SumOf_t n a0

noncomputable def laws_FnShared_t27 (n : Nat) (g27 : Int → Int → Int → Int → Int → (List (Int)) → (List (Int)) → Int → Int → (List FQ9) → RT1) (v23 : Int) (v22 : Int) (v21 : Int) (v20 : Int) (v15 : Int) (b0 : List (Int)) (b1 : List (Int)) (b2_0 : Int) (b2_1 : Int) (b3 : List FQ9) : RT1 :=
  cond (decide (v23 < ((b0.length : Nat) : Int)))
  (cond ((decide (0 ≤ v23) && decide (v23 < ((b0.length : Nat) : Int))))
    (cond ((decide (0 ≤ v23) && decide (v23 < ((b1.length : Nat) : Int))))
      (cond ((decide (0 ≤ v23) && decide (v23 < ((b0.length : Nat) : Int))))
        (cond ((decide (0 ≤ v23) && decide (v23 < ((b1.length : Nat) : Int))))
          (cond ((decide (0 ≤ v23) && decide (v23 < ((b0.length : Nat) : Int))))
            (g27 ((IntKind.wrap .i64 (v23 + 1))) ((if v22 < (IntKind.wrap .i64 ((b1.getD (Int.toNat v23) 0) - (b0.getD (Int.toNat v23) 0))) then (IntKind.wrap .i64 ((b1.getD (Int.toNat v23) 0) - (b0.getD (Int.toNat v23) 0))) else v22)) ((if (IntKind.wrap .i64 ((b1.getD (Int.toNat v23) 0) - (b0.getD (Int.toNat v23) 0))) < v21 then (IntKind.wrap .i64 ((b1.getD (Int.toNat v23) 0) - (b0.getD (Int.toNat v23) 0))) else v21)) ((IntKind.wrap .i64 (v20 + (b0.getD (Int.toNat v23) 0)))) v15 b0 b1 b2_0 b2_1 b3)
            (none))
          (none))
        (none))
      (none))
    (none))
  (cond ((v20 != v15))
    (some ((((false, ()), ()), ())))
    (cond (decide ((IntKind.wrap .i64 (v22 - v21)) > 1))
      (some ((((false, ()), ()), ())))
      (cond (decide (((b3.length : Nat) : Int) < 2))
        ((impl_RingTable n b3 ((b2_0, b2_1))).bind fun r12 =>
          some (((((r12.1.2.1.1 == 2), ()), ()), ())))
        (cond (decide (((b3.length : Nat) : Int) > 6))
          ((impl_RingTable n b3 ((b2_0, b2_1))).bind fun r13 =>
            some (((((r13.1.2.1.1 == 2), ()), ()), ())))
          ((impl_RingTable n b3 ((b2_0, b2_1))).bind fun r14 =>
            (spec_RingTable n b3 ((b2_0, b2_1))).bind fun r15 =>
            (impl_CorrectionsOf n ((r15.1.1.1.1, (r15.1.1.1.2.1, (r15.1.1.1.2.2.1, (r15.1.1.1.2.2.2.1, r15.1.1.1.2.2.2.2)))))).bind fun r16 =>
            cond ((r14.1.2.1.1 != r15.1.2.1.1))
            (cond ((r16.1.2.1.1 == 3))
              (cond ((r14.1.2.1.1 == r15.1.2.1.1))
                ((spec_SameTable n ((r14.1.1.1, (r14.1.1.2.1, (r14.1.1.2.2.1.1, (r14.1.1.2.2.1.2.1, r14.1.1.2.2.1.2.2))))) ((r15.1.1.1.1, (r15.1.1.1.2.1, (r15.1.1.1.2.2.1, (r15.1.1.1.2.2.2.1, r15.1.1.1.2.2.2.2)))))).bind fun r17 =>
                  some ((((r17.1.1.1, ()), ()), ())))
                (some ((((false, ()), ()), ()))))
              (some ((((false, ()), ()), ()))))
            (cond ((r14.1.2.1.1 != 0))
              (cond ((r16.1.2.1.1 == 3))
                (cond ((r14.1.2.1.1 == r15.1.2.1.1))
                  ((spec_SameTable n ((r14.1.1.1, (r14.1.1.2.1, (r14.1.1.2.2.1.1, (r14.1.1.2.2.1.2.1, r14.1.1.2.2.1.2.2))))) ((r15.1.1.1.1, (r15.1.1.1.2.1, (r15.1.1.1.2.2.1, (r15.1.1.1.2.2.2.1, r15.1.1.1.2.2.2.2)))))).bind fun r18 =>
                    some ((((r18.1.1.1, ()), ()), ())))
                  (some ((((false, ()), ()), ()))))
                (some ((((false, ()), ()), ()))))
              ((spec_SameTable n ((r14.1.1.1, (r14.1.1.2.1, (r14.1.1.2.2.1.1, (r14.1.1.2.2.1.2.1, r14.1.1.2.2.1.2.2))))) ((r15.1.1.1.1, (r15.1.1.1.2.1, (r15.1.1.1.2.2.1, (r15.1.1.1.2.2.2.1, r15.1.1.1.2.2.2.2)))))).bind fun r19 =>
                cond (!r19.1.1.1)
                (cond ((r16.1.2.1.1 == 3))
                  (cond ((r14.1.2.1.1 == r15.1.2.1.1))
                    ((spec_SameTable n ((r14.1.1.1, (r14.1.1.2.1, (r14.1.1.2.2.1.1, (r14.1.1.2.2.1.2.1, r14.1.1.2.2.1.2.2))))) ((r15.1.1.1.1, (r15.1.1.1.2.1, (r15.1.1.1.2.2.1, (r15.1.1.1.2.2.2.1, r15.1.1.1.2.2.2.2)))))).bind fun r20 =>
                      some ((((r20.1.1.1, ()), ()), ())))
                    (some ((((false, ()), ()), ()))))
                  (some ((((false, ()), ()), ()))))
                (cond ((r16.1.2.1.1 != 0))
                  (cond ((r16.1.2.1.1 == 3))
                    (cond ((r14.1.2.1.1 == r15.1.2.1.1))
                      ((spec_SameTable n ((r14.1.1.1, (r14.1.1.2.1, (r14.1.1.2.2.1.1, (r14.1.1.2.2.1.2.1, r14.1.1.2.2.1.2.2))))) ((r15.1.1.1.1, (r15.1.1.1.2.1, (r15.1.1.1.2.2.1, (r15.1.1.1.2.2.2.1, r15.1.1.1.2.2.2.2)))))).bind fun r21 =>
                        some ((((r21.1.1.1, ()), ()), ())))
                      (some ((((false, ()), ()), ()))))
                    (some ((((false, ()), ()), ()))))
                  ((spec_SumOf n r16.1.1.1).bind fun r22 =>
                    cond ((((r16.1.1.1.length : Nat) : Int) == r15.1.1.1.1))
                    (cond ((r22.1.2.1.1 != 0))
                      (some ((((true, ()), ()), ())))
                      (some ((((((r22.1.1.1.1 == b2_0) && ((r22.1.1.1.2 == b2_1) && true)), ()), ()), ()))))
                    (some ((((false, ()), ()), ()))))))))))))

noncomputable def laws_FnShared_l27 (n : Nat) : Nat → Int → Int → Int → Int → Int → (List (Int)) → (List (Int)) → Int → Int → (List FQ9) → RT1
  | 0, _, _, _, _, _, _, _, _, _, _ => none
  | k + 1, v23, v22, v21, v20, v15, b0, b1, b2_0, b2_1, b3 => laws_FnShared_t27 n (laws_FnShared_l27 n k) v23 v22 v21 v20 v15 b0 b1 b2_0 b2_1 b3

noncomputable def laws_FnShared_t15 (n : Nat) (h27 : Nat → Int → Int → Int → Int → Int → (List (Int)) → (List (Int)) → Int → Int → (List FQ9) → RT1) (g15 : Int → (List (Int)) → (List FQ9) → (List (Int)) → Int → Int → RT1) (v14 : Int) (v1 : List (Int)) (b0 : List FQ9) (b1 : List (Int)) (b2_0 : Int) (b2_1 : Int) : RT1 :=
  cond (decide (v14 < ((b0.length : Nat) : Int)))
  (cond ((decide (0 ≤ v14) && decide (v14 < ((b0.length : Nat) : Int))))
    (cond (decide (((b1.length + ((b0.getD (Int.toNat v14) (0, 0)).1 :: []).length) * 9) ≤ 70368744177664))
      (g15 ((IntKind.wrap .i64 (v14 + 1))) v1 b0 ((b1 ++ ((b0.getD (Int.toNat v14) (0, 0)).1 :: []))) b2_0 b2_1)
      (none))
    (none))
  ((spec_P6Pick n v1 200).bind fun r8 =>
    (impl_ShareWhole n b1 ((IntKind.wrap .i64 (r8.1.1.1 - 100)))).bind fun r9 =>
    (spec_ShareWhole n b1 ((IntKind.wrap .i64 (r8.1.1.1 - 100)))).bind fun r10 =>
    cond ((r9.1.2.1.1 != r10.1.2.1.1))
    (some ((((false, ()), ()), ())))
    (cond ((r9.1.2.1.1 != 0))
      (some ((((false, ()), ()), ())))
      ((spec_SameWhole n r9.1.1.1 r10.1.1.1).bind fun r11 =>
        cond (!r11.1.1.1)
        (some ((((false, ()), ()), ())))
        (cond (decide (0 < ((b1.length : Nat) : Int)))
          (cond (decide (0 < ((r10.1.1.1.length : Nat) : Int)))
            (h27 n 0 ((IntKind.wrap .i64 ((b1.getD (Int.toNat 0) 0) - (r10.1.1.1.getD (Int.toNat 0) 0)))) ((IntKind.wrap .i64 ((b1.getD (Int.toNat 0) 0) - (r10.1.1.1.getD (Int.toNat 0) 0)))) 0 ((IntKind.wrap .i64 (r8.1.1.1 - 100))) r10.1.1.1 b1 b2_0 b2_1 b0)
            (none))
          (none)))))

noncomputable def laws_FnShared_l15 (n : Nat) : Nat → Int → (List (Int)) → (List FQ9) → (List (Int)) → Int → Int → RT1
  | 0, _, _, _, _, _, _ => none
  | k + 1, v14, v1, b0, b1, b2_0, b2_1 => laws_FnShared_t15 n (laws_FnShared_l27 n) (laws_FnShared_l15 n k) v14 v1 b0 b1 b2_0 b2_1

noncomputable def laws_FnShared_t (n : Nat) (h15 : Nat → Int → (List (Int)) → (List FQ9) → (List (Int)) → Int → Int → RT1) (a0 : List (Int)) (a1 : List (Int)) : RT1 :=
  (laws_f6big n a0).bind fun r0 =>
  cond r0.1.1.1
  (some ((((true, ()), ()), ())))
  ((laws_f6big n a1).bind fun r1 =>
    cond r1.1.1.1
    (some ((((true, ()), ()), ())))
    ((spec_P6List n a0).bind fun r2 =>
      (spec_P6Frac n a1).bind fun r3 =>
      (impl_ShareEvenly n r2.1.1.1 ((r3.1.1.1.1, r3.1.1.1.2))).bind fun r4 =>
      (spec_ShareEvenly n r2.1.1.1 ((r3.1.1.1.1, r3.1.1.1.2))).bind fun r5 =>
      cond ((r4.1.2.1.1 != r5.1.2.1.1))
      (some ((((false, ()), ()), ())))
      ((spec_SameFracs n r4.1.1.1 r5.1.1.1).bind fun r6 =>
        cond (!r6.1.1.1)
        (some ((((false, ()), ()), ())))
        (cond ((r4.1.2.1.1 == 0))
          ((spec_SumOf n r5.1.1.1).bind fun r7 =>
            cond ((r7.1.2.1.1 == 0))
            (cond ((!((r7.1.1.1.1 == r3.1.1.1.1) && ((r7.1.1.1.2 == r3.1.1.1.2) && true))))
              (some ((((false, ()), ()), ())))
              (h15 n 0 a1 r2.1.1.1 [] r3.1.1.1.1 r3.1.1.1.2))
            (h15 n 0 a1 r2.1.1.1 [] r3.1.1.1.1 r3.1.1.1.2))
          (h15 n 0 a1 r2.1.1.1 [] r3.1.1.1.1 r3.1.1.1.2)))))

noncomputable def laws_FnShared (n : Nat) (a0 : List (Int)) (a1 : List (Int)) : RT1 := laws_FnShared_t n (laws_FnShared_l15 n) a0 a1

end Go.Abs
