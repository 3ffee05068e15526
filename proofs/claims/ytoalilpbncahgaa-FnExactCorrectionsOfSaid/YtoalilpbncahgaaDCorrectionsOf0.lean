import Derived.Test.YtoalilpbncahgaaLib
namespace Go.Abs
set_option linter.unusedVariables false

noncomputable def impl_gcd_t1 (n : Nat) (g1 : Int → Int → Option ((((Int) × (Unit)) × (Unit)) × (Unit))) (v1 : Int) (v0 : Int) : Option ((((Int) × (Unit)) × (Unit)) × (Unit)) :=
  cond ((v1 != 0))
  (cond ((v1 != 0))
    (g1 ((Int.tmod v0 v1)) v1)
    (none))
  (some (((((if v0 < (IntKind.wrap .i64 (0 - v0)) then (IntKind.wrap .i64 (0 - v0)) else v0), ()), ()), ())))

noncomputable def impl_gcd_l1 (n : Nat) : Nat → Int → Int → Option ((((Int) × (Unit)) × (Unit)) × (Unit))
  | 0, _, _ => none
  | k + 1, v1, v0 => impl_gcd_t1 n (impl_gcd_l1 n k) v1 v0

noncomputable def impl_gcd_t (n : Nat) (h1 : Nat → Int → Int → Option ((((Int) × (Unit)) × (Unit)) × (Unit))) (a0 : Int) (a1 : Int) : Option ((((Int) × (Unit)) × (Unit)) × (Unit)) :=
  h1 n a1 a0

noncomputable def impl_gcd (n : Nat) (a0 : Int) (a1 : Int) : Option ((((Int) × (Unit)) × (Unit)) × (Unit)) := impl_gcd_t n (impl_gcd_l1 n) a0 a1

noncomputable def impl_within_t (n : Nat) (a0 : Int) (a1 : Int) (a2 : Int) : Option ((((Bool) × (Unit)) × (Unit)) × (Unit)) :=
  cond (decide (a1 ≤ a0))
  (some ((((decide (a0 ≤ a2), ()), ()), ())))
  (some ((((false, ()), ()), ())))

noncomputable def impl_within (n : Nat) (a0 : Int) (a1 : Int) (a2 : Int) : Option ((((Bool) × (Unit)) × (Unit)) × (Unit)) := impl_within_t n a0 a1 a2

noncomputable def impl_ValidFrac_t (n : Nat) (a0 : (Int) × (Int)) : Option ((((Bool) × (Unit)) × (Unit)) × (Unit)) :=
  (impl_within n a0.2 1 1000000000).bind fun r0 =>
  cond r0.1.1.1
  ((impl_within n a0.1 (-1000000000) 1000000000).bind fun r1 =>
    cond r1.1.1.1
    ((impl_gcd n a0.1 a0.2).bind fun r2 =>
      some (((((r2.1.1.1 == 1), ()), ()), ())))
    (some ((((false, ()), ()), ()))))
  (some ((((false, ()), ()), ())))

noncomputable def impl_ValidFrac (n : Nat) (a0 : (Int) × (Int)) : Option ((((Bool) × (Unit)) × (Unit)) × (Unit)) := impl_ValidFrac_t n a0

noncomputable def impl_ValidTable_t8 (n : Nat) (g4 : Int → (List (((Int) × ((Int) × ((Int) × ((Int) × ((Int) × (Int)))))) × (((Int) × (Int)) × (Int)))) → Int → Int → (List (((Int) × ((Int) × ((Int) × ((Int) × ((Int) × (Int)))))) × (((Int) × (Int)) × (Int)))) → Bool → Int → Int → Option ((((Bool) × (Unit)) × (Unit)) × (Unit))) (g8 : Int → Bool → Int → Int → Int → Int → Int → Int → (List (((Int) × ((Int) × ((Int) × ((Int) × ((Int) × (Int)))))) × (((Int) × (Int)) × (Int)))) → Int → Int → Int → (List (((Int) × ((Int) × ((Int) × ((Int) × ((Int) × (Int)))))) × (((Int) × (Int)) × (Int)))) → Bool → Int → Int → Int → Int → Int → Int → Int → Int → Int → Int → Int → Option ((((Bool) × (Unit)) × (Unit)) × (Unit))) (v44 : Int) (v5 : Bool) (v43_0 : Int) (v43_1 : Int) (v43_2 : Int) (v43_3 : Int) (v43_4 : Int) (v43_5 : Int) (v36 : List (((Int) × ((Int) × ((Int) × ((Int) × ((Int) × (Int)))))) × (((Int) × (Int)) × (Int)))) (v37 : Int) (v38 : Int) (b0_0 : Int) (b0_1 : List (((Int) × ((Int) × ((Int) × ((Int) × ((Int) × (Int)))))) × (((Int) × (Int)) × (Int)))) (b0_2 : Bool) (b0_3 : Int) (b0_4 : Int) (b1_0 : Int) (b1_1 : Int) (b1_2 : Int) (b1_3 : Int) (b1_4 : Int) (b1_5 : Int) (b1_6 : Int) (b1_7 : Int) (b1_8 : Int) : Option ((((Bool) × (Unit)) × (Unit)) × (Unit)) :=
  cond (decide (v44 < 6))
  (cond ((decide (0 ≤ v44) && decide (v44 < 6)))
    ((impl_within n ((IntKind.wrap .i64 (cond (Nat.beq (Int.toNat v44) 0) v43_0 (cond (Nat.beq ((Int.toNat v44) - 1) 0) v43_1 (cond (Nat.beq (((Int.toNat v44) - 1) - 1) 0) v43_2 (cond (Nat.beq ((((Int.toNat v44) - 1) - 1) - 1) 0) v43_3 (cond (Nat.beq (((((Int.toNat v44) - 1) - 1) - 1) - 1) 0) v43_4 (cond (Nat.beq ((((((Int.toNat v44) - 1) - 1) - 1) - 1) - 1) 0) v43_5 0)))))))) (-3) 3).bind fun r2 =>
      cond (!r2.1.1.1)
      (some ((((false, ()), ()), ())))
      (cond (((cond (Nat.beq (Int.toNat v44) 0) v43_0 (cond (Nat.beq ((Int.toNat v44) - 1) 0) v43_1 (cond (Nat.beq (((Int.toNat v44) - 1) - 1) 0) v43_2 (cond (Nat.beq ((((Int.toNat v44) - 1) - 1) - 1) 0) v43_3 (cond (Nat.beq (((((Int.toNat v44) - 1) - 1) - 1) - 1) 0) v43_4 (cond (Nat.beq ((((((Int.toNat v44) - 1) - 1) - 1) - 1) - 1) 0) v43_5 0)))))) != 0))
        (cond (decide (v44 ≥ b0_0))
          (some ((((false, ()), ()), ())))
          (cond v5
            (g8 ((IntKind.wrap .i64 (v44 + 1))) true v43_0 v43_1 v43_2 v43_3 v43_4 v43_5 v36 v37 v38 b0_0 b0_1 b0_2 b0_3 b0_4 b1_0 b1_1 b1_2 b1_3 b1_4 b1_5 b1_6 b1_7 b1_8)
            (g8 ((IntKind.wrap .i64 (v44 + 1))) (((cond (Nat.beq (Int.toNat v44) 0) v43_0 (cond (Nat.beq ((Int.toNat v44) - 1) 0) v43_1 (cond (Nat.beq (((Int.toNat v44) - 1) - 1) 0) v43_2 (cond (Nat.beq ((((Int.toNat v44) - 1) - 1) - 1) 0) v43_3 (cond (Nat.beq (((((Int.toNat v44) - 1) - 1) - 1) - 1) 0) v43_4 (cond (Nat.beq ((((((Int.toNat v44) - 1) - 1) - 1) - 1) - 1) 0) v43_5 0)))))) != 0)) v43_0 v43_1 v43_2 v43_3 v43_4 v43_5 v36 v37 v38 b0_0 b0_1 b0_2 b0_3 b0_4 b1_0 b1_1 b1_2 b1_3 b1_4 b1_5 b1_6 b1_7 b1_8)))
        (cond v5
          (g8 ((IntKind.wrap .i64 (v44 + 1))) true v43_0 v43_1 v43_2 v43_3 v43_4 v43_5 v36 v37 v38 b0_0 b0_1 b0_2 b0_3 b0_4 b1_0 b1_1 b1_2 b1_3 b1_4 b1_5 b1_6 b1_7 b1_8)
          (g8 ((IntKind.wrap .i64 (v44 + 1))) (((cond (Nat.beq (Int.toNat v44) 0) v43_0 (cond (Nat.beq ((Int.toNat v44) - 1) 0) v43_1 (cond (Nat.beq (((Int.toNat v44) - 1) - 1) 0) v43_2 (cond (Nat.beq ((((Int.toNat v44) - 1) - 1) - 1) 0) v43_3 (cond (Nat.beq (((((Int.toNat v44) - 1) - 1) - 1) - 1) 0) v43_4 (cond (Nat.beq ((((((Int.toNat v44) - 1) - 1) - 1) - 1) - 1) 0) v43_5 0)))))) != 0)) v43_0 v43_1 v43_2 v43_3 v43_4 v43_5 v36 v37 v38 b0_0 b0_1 b0_2 b0_3 b0_4 b1_0 b1_1 b1_2 b1_3 b1_4 b1_5 b1_6 b1_7 b1_8))))
    (none))
  (cond (!v5)
    (some ((((false, ()), ()), ())))
    ((impl_ValidFrac n ((b1_6, b1_7))).bind fun r3 =>
      cond (!r3.1.1.1)
      (some ((((false, ()), ()), ())))
      ((impl_within n b1_8 1 100).bind fun r4 =>
        cond (!r4.1.1.1)
        (some ((((false, ()), ()), ())))
        (g4 ((IntKind.wrap .i64 (v38 + 1))) v36 v37 b0_0 b0_1 b0_2 b0_3 b0_4))))

noncomputable def impl_ValidTable_l8 (n : Nat) (g4 : Int → (List (((Int) × ((Int) × ((Int) × ((Int) × ((Int) × (Int)))))) × (((Int) × (Int)) × (Int)))) → Int → Int → (List (((Int) × ((Int) × ((Int) × ((Int) × ((Int) × (Int)))))) × (((Int) × (Int)) × (Int)))) → Bool → Int → Int → Option ((((Bool) × (Unit)) × (Unit)) × (Unit))) : Nat → Int → Bool → Int → Int → Int → Int → Int → Int → (List (((Int) × ((Int) × ((Int) × ((Int) × ((Int) × (Int)))))) × (((Int) × (Int)) × (Int)))) → Int → Int → Int → (List (((Int) × ((Int) × ((Int) × ((Int) × ((Int) × (Int)))))) × (((Int) × (Int)) × (Int)))) → Bool → Int → Int → Int → Int → Int → Int → Int → Int → Int → Int → Int → Option ((((Bool) × (Unit)) × (Unit)) × (Unit))
  | 0, _, _, _, _, _, _, _, _, _, _, _, _, _, _, _, _, _, _, _, _, _, _, _, _, _ => none
  | k + 1, v44, v5, v43_0, v43_1, v43_2, v43_3, v43_4, v43_5, v36, v37, v38, b0_0, b0_1, b0_2, b0_3, b0_4, b1_0, b1_1, b1_2, b1_3, b1_4, b1_5, b1_6, b1_7, b1_8 => impl_ValidTable_t8 n g4 (impl_ValidTable_l8 n g4 k) v44 v5 v43_0 v43_1 v43_2 v43_3 v43_4 v43_5 v36 v37 v38 b0_0 b0_1 b0_2 b0_3 b0_4 b1_0 b1_1 b1_2 b1_3 b1_4 b1_5 b1_6 b1_7 b1_8

noncomputable def impl_ValidTable_t4 (n : Nat) (h8 : Nat → Int → Bool → Int → Int → Int → Int → Int → Int → (List (((Int) × ((Int) × ((Int) × ((Int) × ((Int) × (Int)))))) × (((Int) × (Int)) × (Int)))) → Int → Int → Int → (List (((Int) × ((Int) × ((Int) × ((Int) × ((Int) × (Int)))))) × (((Int) × (Int)) × (Int)))) → Bool → Int → Int → Int → Int → Int → Int → Int → Int → Int → Int → Int → Option ((((Bool) × (Unit)) × (Unit)) × (Unit))) (g4 : Int → (List (((Int) × ((Int) × ((Int) × ((Int) × ((Int) × (Int)))))) × (((Int) × (Int)) × (Int)))) → Int → Int → (List (((Int) × ((Int) × ((Int) × ((Int) × ((Int) × (Int)))))) × (((Int) × (Int)) × (Int)))) → Bool → Int → Int → Option ((((Bool) × (Unit)) × (Unit)) × (Unit))) (v38 : Int) (v36 : List (((Int) × ((Int) × ((Int) × ((Int) × ((Int) × (Int)))))) × (((Int) × (Int)) × (Int)))) (v37 : Int) (b0_0 : Int) (b0_1 : List (((Int) × ((Int) × ((Int) × ((Int) × ((Int) × (Int)))))) × (((Int) × (Int)) × (Int)))) (b0_2 : Bool) (b0_3 : Int) (b0_4 : Int) : Option ((((Bool) × (Unit)) × (Unit)) × (Unit)) :=
  cond (decide (v38 < v37))
  (cond ((decide (0 ≤ v38) && decide (v38 < ((v36.length : Nat) : Int))))
    (h8 n 0 false ((v36.getD (Int.toNat v38) ((0, (0, (0, (0, (0, 0))))), ((0, 0), 0))).1.1) ((v36.getD (Int.toNat v38) ((0, (0, (0, (0, (0, 0))))), ((0, 0), 0))).1.2.1) ((v36.getD (Int.toNat v38) ((0, (0, (0, (0, (0, 0))))), ((0, 0), 0))).1.2.2.1) ((v36.getD (Int.toNat v38) ((0, (0, (0, (0, (0, 0))))), ((0, 0), 0))).1.2.2.2.1) ((v36.getD (Int.toNat v38) ((0, (0, (0, (0, (0, 0))))), ((0, 0), 0))).1.2.2.2.2.1) ((v36.getD (Int.toNat v38) ((0, (0, (0, (0, (0, 0))))), ((0, 0), 0))).1.2.2.2.2.2) v36 v37 v38 b0_0 b0_1 b0_2 b0_3 b0_4 ((v36.getD (Int.toNat v38) ((0, (0, (0, (0, (0, 0))))), ((0, 0), 0))).1.1) ((v36.getD (Int.toNat v38) ((0, (0, (0, (0, (0, 0))))), ((0, 0), 0))).1.2.1) ((v36.getD (Int.toNat v38) ((0, (0, (0, (0, (0, 0))))), ((0, 0), 0))).1.2.2.1) ((v36.getD (Int.toNat v38) ((0, (0, (0, (0, (0, 0))))), ((0, 0), 0))).1.2.2.2.1) ((v36.getD (Int.toNat v38) ((0, (0, (0, (0, (0, 0))))), ((0, 0), 0))).1.2.2.2.2.1) ((v36.getD (Int.toNat v38) ((0, (0, (0, (0, (0, 0))))), ((0, 0), 0))).1.2.2.2.2.2) ((v36.getD (Int.toNat v38) ((0, (0, (0, (0, (0, 0))))), ((0, 0), 0))).2.1.1) ((v36.getD (Int.toNat v38) ((0, (0, (0, (0, (0, 0))))), ((0, 0), 0))).2.1.2) ((v36.getD (Int.toNat v38) ((0, (0, (0, (0, (0, 0))))), ((0, 0), 0))).2.2))
    (none))
  (some ((((true, ()), ()), ())))

noncomputable def impl_ValidTable_l4 (n : Nat) : Nat → Int → (List (((Int) × ((Int) × ((Int) × ((Int) × ((Int) × (Int)))))) × (((Int) × (Int)) × (Int)))) → Int → Int → (List (((Int) × ((Int) × ((Int) × ((Int) × ((Int) × (Int)))))) × (((Int) × (Int)) × (Int)))) → Bool → Int → Int → Option ((((Bool) × (Unit)) × (Unit)) × (Unit))
  | 0, _, _, _, _, _, _, _, _ => none
  | k + 1, v38, v36, v37, b0_0, b0_1, b0_2, b0_3, b0_4 => impl_ValidTable_t4 n (impl_ValidTable_l8 n (impl_ValidTable_l4 n k)) (impl_ValidTable_l4 n k) v38 v36 v37 b0_0 b0_1 b0_2 b0_3 b0_4

noncomputable def impl_ValidTable_t (n : Nat) (h4 : Nat → Int → (List (((Int) × ((Int) × ((Int) × ((Int) × ((Int) × (Int)))))) × (((Int) × (Int)) × (Int)))) → Int → Int → (List (((Int) × ((Int) × ((Int) × ((Int) × ((Int) × (Int)))))) × (((Int) × (Int)) × (Int)))) → Bool → Int → Int → Option ((((Bool) × (Unit)) × (Unit)) × (Unit))) (a0 : (Int) × ((List (((Int) × ((Int) × ((Int) × ((Int) × ((Int) × (Int)))))) × (((Int) × (Int)) × (Int)))) × ((Bool) × ((Int) × (Int))))) : Option ((((Bool) × (Unit)) × (Unit)) × (Unit)) :=
  (impl_within n a0.1 1 6).bind fun r0 =>
  cond (!r0.1.1.1)
  (some ((((false, ()), ()), ())))
  (cond (decide (((a0.2.1.length : Nat) : Int) > 24))
    (some ((((false, ()), ()), ())))
    ((impl_ValidFrac n ((a0.2.2.2.1, a0.2.2.2.2))).bind fun r1 =>
      cond (!r1.1.1.1)
      (some ((((false, ()), ()), ())))
      (cond (!a0.2.2.1)
        (cond ((a0.2.2.2.1 != 0))
          (some ((((false, ()), ()), ())))
          (h4 n 0 a0.2.1 (((a0.2.1.length : Nat) : Int)) a0.1 a0.2.1 a0.2.2.1 a0.2.2.2.1 a0.2.2.2.2))
        (h4 n 0 a0.2.1 (((a0.2.1.length : Nat) : Int)) a0.1 a0.2.1 a0.2.2.1 a0.2.2.2.1 a0.2.2.2.2))))

noncomputable def impl_ValidTable (n : Nat) (a0 : (Int) × ((List (((Int) × ((Int) × ((Int) × ((Int) × ((Int) × (Int)))))) × (((Int) × (Int)) × (Int)))) × ((Bool) × ((Int) × (Int))))) : Option ((((Bool) × (Unit)) × (Unit)) × (Unit)) := impl_ValidTable_t n (impl_ValidTable_l4 n) a0

noncomputable def impl_fracOf_t (n : Nat) (a0 : Int) (a1 : Int) : Option (((((Int) × (Int)) × (Unit)) × (((Bool) × (Unit)) × (Unit))) × (Unit)) :=
  cond (decide (a1 < 0))
  ((impl_gcd n ((IntKind.wrap .i64 (0 - a0))) ((IntKind.wrap .i64 (0 - a1)))).bind fun r0 =>
    cond ((r0.1.1.1 != 0))
    (cond ((r0.1.1.1 != 0))
      ((impl_ValidFrac n (((IntKind.wrap .i64 (Int.tdiv (IntKind.wrap .i64 (0 - a0)) r0.1.1.1)), (IntKind.wrap .i64 (Int.tdiv (IntKind.wrap .i64 (0 - a1)) r0.1.1.1))))).bind fun r1 =>
        cond (!r1.1.1.1)
        (some (((((0, 0), ()), ((false, ()), ())), ())))
        (some ((((((IntKind.wrap .i64 (Int.tdiv (IntKind.wrap .i64 (0 - a0)) r0.1.1.1)), (IntKind.wrap .i64 (Int.tdiv (IntKind.wrap .i64 (0 - a1)) r0.1.1.1))), ()), ((true, ()), ())), ()))))
      (none))
    (none))
  ((impl_gcd n a0 a1).bind fun r2 =>
    cond ((r2.1.1.1 != 0))
    (cond ((r2.1.1.1 != 0))
      ((impl_ValidFrac n (((IntKind.wrap .i64 (Int.tdiv a0 r2.1.1.1)), (IntKind.wrap .i64 (Int.tdiv a1 r2.1.1.1))))).bind fun r3 =>
        cond (!r3.1.1.1)
        (some (((((0, 0), ()), ((false, ()), ())), ())))
        (some ((((((IntKind.wrap .i64 (Int.tdiv a0 r2.1.1.1)), (IntKind.wrap .i64 (Int.tdiv a1 r2.1.1.1))), ()), ((true, ()), ())), ()))))
      (none))
    (none))

noncomputable def impl_fracOf (n : Nat) (a0 : Int) (a1 : Int) : Option (((((Int) × (Int)) × (Unit)) × (((Bool) × (Unit)) × (Unit))) × (Unit)) := impl_fracOf_t n a0 a1

noncomputable def impl_zero_t (n : Nat) : Option (((((Int) × (Int)) × (Unit)) × (Unit)) × (Unit)) :=
  some (((((0, 1), ()), ()), ()))

noncomputable def impl_zero (n : Nat) : Option (((((Int) × (Int)) × (Unit)) × (Unit)) × (Unit)) := impl_zero_t n

noncomputable def impl_calc_told_t (n : Nat) (a1 : Int) (a2 : Int) (b0 : Bool) : Option (((((Int) × (Int)) × (Unit)) × (Unit)) × ((Bool) × (Unit))) :=
  (impl_fracOf n a1 a2).bind fun r0 =>
  cond (!r0.1.2.1.1)
  ((impl_zero n).bind fun r1 =>
    some (((((r1.1.1.1.1, r1.1.1.1.2), ()), ()), (true, ()))))
  (some (((((r0.1.1.1.1, r0.1.1.1.2), ()), ()), (b0, ()))))

noncomputable def impl_calc_told (n : Nat) (a1 : Int) (a2 : Int) (b0 : Bool) : Option (((((Int) × (Int)) × (Unit)) × (Unit)) × ((Bool) × (Unit))) := impl_calc_told_t n a1 a2 b0

noncomputable def impl_calc_add_t (n : Nat) (a1 : (Int) × (Int)) (a2 : (Int) × (Int)) (b0 : Bool) : Option (((((Int) × (Int)) × (Unit)) × (Unit)) × ((Bool) × (Unit))) :=
  (impl_calc_told n ((IntKind.wrap .i64 ((IntKind.wrap .i64 (a1.1 * a2.2)) + (IntKind.wrap .i64 (a2.1 * a1.2))))) ((IntKind.wrap .i64 (a1.2 * a2.2))) b0).bind fun r0 =>
  some (((((r0.1.1.1.1, r0.1.1.1.2), ()), ()), (r0.2.1, ())))

noncomputable def impl_calc_add (n : Nat) (a1 : (Int) × (Int)) (a2 : (Int) × (Int)) (b0 : Bool) : Option (((((Int) × (Int)) × (Unit)) × (Unit)) × ((Bool) × (Unit))) := impl_calc_add_t n a1 a2 b0

noncomputable def impl_calc_mul_t (n : Nat) (a1 : (Int) × (Int)) (a2 : (Int) × (Int)) (b0 : Bool) : Option (((((Int) × (Int)) × (Unit)) × (Unit)) × ((Bool) × (Unit))) :=
  (impl_calc_told n ((IntKind.wrap .i64 (a1.1 * a2.1))) ((IntKind.wrap .i64 (a1.2 * a2.2))) b0).bind fun r0 =>
  some (((((r0.1.1.1.1, r0.1.1.1.2), ()), ()), (r0.2.1, ())))

noncomputable def impl_calc_mul (n : Nat) (a1 : (Int) × (Int)) (a2 : (Int) × (Int)) (b0 : Bool) : Option (((((Int) × (Int)) × (Unit)) × (Unit)) × ((Bool) × (Unit))) := impl_calc_mul_t n a1 a2 b0

noncomputable def impl_num_t (n : Nat) (a0 : Int) : Option (((((Int) × (Int)) × (Unit)) × (Unit)) × (Unit)) :=
  some (((((a0, 1), ()), ()), ()))

noncomputable def impl_num (n : Nat) (a0 : Int) : Option (((((Int) × (Int)) × (Unit)) × (Unit)) × (Unit)) := impl_num_t n a0

noncomputable def math_bits_Mul64_t (n : Nat) (a0 : Int) (a1 : Int) : Option ((((Int) × (Unit)) × (((Int) × (Unit)) × (Unit))) × (Unit)) :=
  some (((((IntKind.wrap .u64 ((IntKind.wrap .u64 ((IntKind.wrap .u64 ((shrInt .u64 a0 32) * (shrInt .u64 a1 32))) + (shrInt .u64 (IntKind.wrap .u64 ((IntKind.wrap .u64 ((shrInt .u64 a0 32) * (andInt .u64 a1 4294967295))) + (shrInt .u64 (IntKind.wrap .u64 ((andInt .u64 a0 4294967295) * (andInt .u64 a1 4294967295))) 32))) 32))) + (shrInt .u64 (IntKind.wrap .u64 ((andInt .u64 (IntKind.wrap .u64 ((IntKind.wrap .u64 ((shrInt .u64 a0 32) * (andInt .u64 a1 4294967295))) + (shrInt .u64 (IntKind.wrap .u64 ((andInt .u64 a0 4294967295) * (andInt .u64 a1 4294967295))) 32))) 4294967295) + (IntKind.wrap .u64 ((andInt .u64 a0 4294967295) * (shrInt .u64 a1 32))))) 32))), ()), (((IntKind.wrap .u64 (a0 * a1)), ()), ())), ()))

noncomputable def math_bits_Mul64 (n : Nat) (a0 : Int) (a1 : Int) : Option ((((Int) × (Unit)) × (((Int) × (Unit)) × (Unit))) × (Unit)) := math_bits_Mul64_t n a0 a1

noncomputable def math_bits_Mul_t (n : Nat) (a0 : Int) (a1 : Int) : Option ((((Int) × (Unit)) × (((Int) × (Unit)) × (Unit))) × (Unit)) :=
  (math_bits_Mul64 n a0 a1).bind fun r0 =>
  some ((((r0.1.1.1, ()), ((r0.1.2.1.1, ()), ())), ()))

noncomputable def math_bits_Mul (n : Nat) (a0 : Int) (a1 : Int) : Option ((((Int) × (Unit)) × (((Int) × (Unit)) × (Unit))) × (Unit)) := math_bits_Mul_t n a0 a1

noncomputable def slices_Repeat_impl_Frac_impl_Frac_t8 (n : Nat) (g8 : Int → (List ((Int) × (Int))) → Option ((((List ((Int) × (Int))) × (Unit)) × (Unit)) × (Unit))) (v8 : Int) (b0 : List ((Int) × (Int))) : Option ((((List ((Int) × (Int))) × (Unit)) × (Unit)) × (Unit)) :=
  cond (decide (v8 < ((b0.length : Nat) : Int)))
  (cond (((decide (0 ≤ v8) && decide (v8 ≤ ((b0.length : Nat) : Int))) && decide (((b0.length : Nat) : Int) ≤ ((b0.length : Nat) : Int))))
    (cond ((decide (0 ≤ v8) && decide (v8 ≤ ((b0.length : Nat) : Int))))
      (g8 ((IntKind.wrap .i64 (v8 + (((copyN ((b0.drop (Int.toNat v8)).take ((Int.toNat ((b0.length : Nat) : Int)) - (Int.toNat v8))).length ((b0.drop 0).take ((Int.toNat v8) - (Int.toNat 0)))) : Nat) : Int)))) ((copyL b0 (Int.toNat v8) ((b0.drop (Int.toNat v8)).take ((Int.toNat ((b0.length : Nat) : Int)) - (Int.toNat v8))).length ((b0.drop 0).take ((Int.toNat v8) - (Int.toNat 0))))))
      (none))
    (none))
  (some ((((b0, ()), ()), ())))

noncomputable def slices_Repeat_impl_Frac_impl_Frac_l8 (n : Nat) : Nat → Int → (List ((Int) × (Int))) → Option ((((List ((Int) × (Int))) × (Unit)) × (Unit)) × (Unit))
  | 0, _, _ => none
  | k + 1, v8, b0 => slices_Repeat_impl_Frac_impl_Frac_t8 n (slices_Repeat_impl_Frac_impl_Frac_l8 n k) v8 b0

noncomputable def slices_Repeat_impl_Frac_impl_Frac_t (n : Nat) (h8 : Nat → Int → (List ((Int) × (Int))) → Option ((((List ((Int) × (Int))) × (Unit)) × (Unit)) × (Unit))) (a0 : List ((Int) × (Int))) (a1 : Int) : Option ((((List ((Int) × (Int))) × (Unit)) × (Unit)) × (Unit)) :=
  cond (decide (a1 < 0))
  (none)
  ((math_bits_Mul n ((IntKind.wrap .u64 ((a0.length : Nat) : Int))) ((IntKind.wrap .u64 a1))).bind fun r0 =>
    cond (decide (r0.1.1.1 > 0))
    (none)
    (cond (decide (r0.1.2.1.1 > 9223372036854775807))
      (none)
      (cond (((((IntKind.wrap .i64 r0.1.2.1.1) == (IntKind.wrap .i64 r0.1.2.1.1)) && decide (0 ≤ (IntKind.wrap .i64 r0.1.2.1.1))) && decide (((Int.toNat (IntKind.wrap .i64 r0.1.2.1.1)) * 17) ≤ 70368744177664)))
        (h8 n ((((copyN (List.replicate (Int.toNat (IntKind.wrap .i64 r0.1.2.1.1)) ((0, 0) : (Int) × (Int))).length a0) : Nat) : Int)) ((copyL (List.replicate (Int.toNat (IntKind.wrap .i64 r0.1.2.1.1)) ((0, 0) : (Int) × (Int))) 0 (List.replicate (Int.toNat (IntKind.wrap .i64 r0.1.2.1.1)) ((0, 0) : (Int) × (Int))).length a0)))
        (none))))

noncomputable def slices_Repeat_impl_Frac_impl_Frac (n : Nat) (a0 : List ((Int) × (Int))) (a1 : Int) : Option ((((List ((Int) × (Int))) × (Unit)) × (Unit)) × (Unit)) := slices_Repeat_impl_Frac_impl_Frac_t n (slices_Repeat_impl_Frac_impl_Frac_l8 n) a0 a1

noncomputable def impl_calc_normal_t11 (n : Nat) (g3 : Int → Int → Bool → Int → (List (((Int) × ((Int) × ((Int) × ((Int) × ((Int) × (Int)))))) × (((Int) × (Int)) × (Int)))) → Bool → Int → Int → (List ((Int) × (Int))) → (List Nat) → (List (List ((Int) × (Int)))) → Option (((((List Nat) × (List (List ((Int) × (Int))))) × (Unit)) × (((List ((Int) × (Int))) × (Unit)) × (Unit))) × ((Bool) × (Unit)))) (g7 : Int → Int → Int → Int → Int → Bool → (List ((Int) × (Int))) → Int → (List (((Int) × ((Int) × ((Int) × ((Int) × ((Int) × (Int)))))) × (((Int) × (Int)) × (Int)))) → Bool → Int → Int → (List ((Int) × (Int))) → (List Nat) → (List (List ((Int) × (Int)))) → Option (((((List Nat) × (List (List ((Int) × (Int))))) × (Unit)) × (((List ((Int) × (Int))) × (Unit)) × (Unit))) × ((Bool) × (Unit)))) (g11 : Int → Int → Int → Int → (List (((Int) × ((Int) × ((Int) × ((Int) × ((Int) × (Int)))))) × (((Int) × (Int)) × (Int)))) → Int → Int → Int → Int → Int → Bool → Int → (List (((Int) × ((Int) × ((Int) × ((Int) × ((Int) × (Int)))))) × (((Int) × (Int)) × (Int)))) → Bool → Int → Int → (List ((Int) × (Int))) → (List Nat) → (List (List ((Int) × (Int)))) → (List ((Int) × (Int))) → Option (((((List Nat) × (List (List ((Int) × (Int))))) × (Unit)) × (((List ((Int) × (Int))) × (Unit)) × (Unit))) × ((Bool) × (Unit)))) (v33 : Int) (v10 : Int) (v8 : Int) (v11 : Int) (v31 : List (((Int) × ((Int) × ((Int) × ((Int) × ((Int) × (Int)))))) × (((Int) × (Int)) × (Int)))) (v20 : Int) (v21 : Int) (v26 : Int) (v27 : Int) (v32 : Int) (b0 : Bool) (b1_0 : Int) (b1_1 : List (((Int) × ((Int) × ((Int) × ((Int) × ((Int) × (Int)))))) × (((Int) × (Int)) × (Int)))) (b1_2 : Bool) (b1_3 : Int) (b1_4 : Int) (b2 : List ((Int) × (Int))) (b3p : List Nat) (b3i : List (List ((Int) × (Int)))) (b4 : List ((Int) × (Int))) : Option (((((List Nat) × (List (List ((Int) × (Int))))) × (Unit)) × (((List ((Int) × (Int))) × (Unit)) × (Unit))) × ((Bool) × (Unit))) :=
  cond (decide (v33 < v32))
  (cond ((decide (0 ≤ v33) && decide (v33 < ((v31.length : Nat) : Int))))
    (cond ((decide (0 ≤ v8) && decide (v8 < 6)))
      (cond ((decide (0 ≤ v10) && decide (v10 < 6)))
        (g11 ((IntKind.wrap .i64 (v33 + 1))) v10 v8 ((IntKind.wrap .i64 (v11 + (IntKind.wrap .i64 ((IntKind.wrap .i64 ((v31.getD (Int.toNat v33) ((0, (0, (0, (0, (0, 0))))), ((0, 0), 0))).2.2 * (IntKind.wrap .i64 (cond (Nat.beq (Int.toNat v8) 0) (v31.getD (Int.toNat v33) ((0, (0, (0, (0, (0, 0))))), ((0, 0), 0))).1.1 (cond (Nat.beq ((Int.toNat v8) - 1) 0) (v31.getD (Int.toNat v33) ((0, (0, (0, (0, (0, 0))))), ((0, 0), 0))).1.2.1 (cond (Nat.beq (((Int.toNat v8) - 1) - 1) 0) (v31.getD (Int.toNat v33) ((0, (0, (0, (0, (0, 0))))), ((0, 0), 0))).1.2.2.1 (cond (Nat.beq ((((Int.toNat v8) - 1) - 1) - 1) 0) (v31.getD (Int.toNat v33) ((0, (0, (0, (0, (0, 0))))), ((0, 0), 0))).1.2.2.2.1 (cond (Nat.beq (((((Int.toNat v8) - 1) - 1) - 1) - 1) 0) (v31.getD (Int.toNat v33) ((0, (0, (0, (0, (0, 0))))), ((0, 0), 0))).1.2.2.2.2.1 (cond (Nat.beq ((((((Int.toNat v8) - 1) - 1) - 1) - 1) - 1) 0) (v31.getD (Int.toNat v33) ((0, (0, (0, (0, (0, 0))))), ((0, 0), 0))).1.2.2.2.2.2 0))))))))) * (IntKind.wrap .i64 (cond (Nat.beq (Int.toNat v10) 0) (v31.getD (Int.toNat v33) ((0, (0, (0, (0, (0, 0))))), ((0, 0), 0))).1.1 (cond (Nat.beq ((Int.toNat v10) - 1) 0) (v31.getD (Int.toNat v33) ((0, (0, (0, (0, (0, 0))))), ((0, 0), 0))).1.2.1 (cond (Nat.beq (((Int.toNat v10) - 1) - 1) 0) (v31.getD (Int.toNat v33) ((0, (0, (0, (0, (0, 0))))), ((0, 0), 0))).1.2.2.1 (cond (Nat.beq ((((Int.toNat v10) - 1) - 1) - 1) 0) (v31.getD (Int.toNat v33) ((0, (0, (0, (0, (0, 0))))), ((0, 0), 0))).1.2.2.2.1 (cond (Nat.beq (((((Int.toNat v10) - 1) - 1) - 1) - 1) 0) (v31.getD (Int.toNat v33) ((0, (0, (0, (0, (0, 0))))), ((0, 0), 0))).1.2.2.2.2.1 (cond (Nat.beq ((((((Int.toNat v10) - 1) - 1) - 1) - 1) - 1) 0) (v31.getD (Int.toNat v33) ((0, (0, (0, (0, (0, 0))))), ((0, 0), 0))).1.2.2.2.2.2 0)))))))))))) v31 v20 v21 v26 v27 v32 b0 b1_0 b1_1 b1_2 b1_3 b1_4 b2 b3p b3i b4)
        (none))
      (none))
    (none))
  ((impl_num n v11).bind fun r0 =>
    cond (decide (((b4.length + ((r0.1.1.1.1, r0.1.1.1.2) :: []).length) * 17) ≤ 70368744177664))
    (g7 v8 ((IntKind.wrap .i64 (v27 + 1))) v20 v21 v26 b0 ((b4 ++ ((r0.1.1.1.1, r0.1.1.1.2) :: []))) b1_0 b1_1 b1_2 b1_3 b1_4 b2 b3p b3i)
    (none))

noncomputable def impl_calc_normal_l11 (n : Nat) (g3 : Int → Int → Bool → Int → (List (((Int) × ((Int) × ((Int) × ((Int) × ((Int) × (Int)))))) × (((Int) × (Int)) × (Int)))) → Bool → Int → Int → (List ((Int) × (Int))) → (List Nat) → (List (List ((Int) × (Int)))) → Option (((((List Nat) × (List (List ((Int) × (Int))))) × (Unit)) × (((List ((Int) × (Int))) × (Unit)) × (Unit))) × ((Bool) × (Unit)))) (g7 : Int → Int → Int → Int → Int → Bool → (List ((Int) × (Int))) → Int → (List (((Int) × ((Int) × ((Int) × ((Int) × ((Int) × (Int)))))) × (((Int) × (Int)) × (Int)))) → Bool → Int → Int → (List ((Int) × (Int))) → (List Nat) → (List (List ((Int) × (Int)))) → Option (((((List Nat) × (List (List ((Int) × (Int))))) × (Unit)) × (((List ((Int) × (Int))) × (Unit)) × (Unit))) × ((Bool) × (Unit)))) : Nat → Int → Int → Int → Int → (List (((Int) × ((Int) × ((Int) × ((Int) × ((Int) × (Int)))))) × (((Int) × (Int)) × (Int)))) → Int → Int → Int → Int → Int → Bool → Int → (List (((Int) × ((Int) × ((Int) × ((Int) × ((Int) × (Int)))))) × (((Int) × (Int)) × (Int)))) → Bool → Int → Int → (List ((Int) × (Int))) → (List Nat) → (List (List ((Int) × (Int)))) → (List ((Int) × (Int))) → Option (((((List Nat) × (List (List ((Int) × (Int))))) × (Unit)) × (((List ((Int) × (Int))) × (Unit)) × (Unit))) × ((Bool) × (Unit)))
  | 0, _, _, _, _, _, _, _, _, _, _, _, _, _, _, _, _, _, _, _, _ => none
  | k + 1, v33, v10, v8, v11, v31, v20, v21, v26, v27, v32, b0, b1_0, b1_1, b1_2, b1_3, b1_4, b2, b3p, b3i, b4 => impl_calc_normal_t11 n g3 g7 (impl_calc_normal_l11 n g3 g7 k) v33 v10 v8 v11 v31 v20 v21 v26 v27 v32 b0 b1_0 b1_1 b1_2 b1_3 b1_4 b2 b3p b3i b4

noncomputable def impl_calc_normal_t19 (n : Nat) (g3 : Int → Int → Bool → Int → (List (((Int) × ((Int) × ((Int) × ((Int) × ((Int) × (Int)))))) × (((Int) × (Int)) × (Int)))) → Bool → Int → Int → (List ((Int) × (Int))) → (List Nat) → (List (List ((Int) × (Int)))) → Option (((((List Nat) × (List (List ((Int) × (Int))))) × (Unit)) × (((List ((Int) × (Int))) × (Unit)) × (Unit))) × ((Bool) × (Unit)))) (g19 : Int → Int → (List (((Int) × ((Int) × ((Int) × ((Int) × ((Int) × (Int)))))) × (((Int) × (Int)) × (Int)))) → Int → Int → Int → Bool → Int → Int → Int → (List (((Int) × ((Int) × ((Int) × ((Int) × ((Int) × (Int)))))) × (((Int) × (Int)) × (Int)))) → Bool → Int → Int → (List ((Int) × (Int))) → (List Nat) → (List (List ((Int) × (Int)))) → (List ((Int) × (Int))) → Option (((((List Nat) × (List (List ((Int) × (Int))))) × (Unit)) × (((List ((Int) × (Int))) × (Unit)) × (Unit))) × ((Bool) × (Unit)))) (v64 : Int) (v8 : Int) (v62 : List (((Int) × ((Int) × ((Int) × ((Int) × ((Int) × (Int)))))) × (((Int) × (Int)) × (Int)))) (v20 : Int) (v21 : Int) (v63 : Int) (b0 : Bool) (b1_0 : Int) (b1_1 : Int) (b2_0 : Int) (b2_1 : List (((Int) × ((Int) × ((Int) × ((Int) × ((Int) × (Int)))))) × (((Int) × (Int)) × (Int)))) (b2_2 : Bool) (b2_3 : Int) (b2_4 : Int) (b3 : List ((Int) × (Int))) (b4p : List Nat) (b4i : List (List ((Int) × (Int)))) (b5 : List ((Int) × (Int))) : Option (((((List Nat) × (List (List ((Int) × (Int))))) × (Unit)) × (((List ((Int) × (Int))) × (Unit)) × (Unit))) × ((Bool) × (Unit))) :=
  cond (decide (v64 < v63))
  (cond ((decide (0 ≤ v64) && decide (v64 < ((v62.length : Nat) : Int))))
    (cond ((decide (0 ≤ v8) && decide (v8 < 6)))
      ((impl_num n ((IntKind.wrap .i64 ((v62.getD (Int.toNat v64) ((0, (0, (0, (0, (0, 0))))), ((0, 0), 0))).2.2 * (IntKind.wrap .i64 (cond (Nat.beq (Int.toNat v8) 0) (v62.getD (Int.toNat v64) ((0, (0, (0, (0, (0, 0))))), ((0, 0), 0))).1.1 (cond (Nat.beq ((Int.toNat v8) - 1) 0) (v62.getD (Int.toNat v64) ((0, (0, (0, (0, (0, 0))))), ((0, 0), 0))).1.2.1 (cond (Nat.beq (((Int.toNat v8) - 1) - 1) 0) (v62.getD (Int.toNat v64) ((0, (0, (0, (0, (0, 0))))), ((0, 0), 0))).1.2.2.1 (cond (Nat.beq ((((Int.toNat v8) - 1) - 1) - 1) 0) (v62.getD (Int.toNat v64) ((0, (0, (0, (0, (0, 0))))), ((0, 0), 0))).1.2.2.2.1 (cond (Nat.beq (((((Int.toNat v8) - 1) - 1) - 1) - 1) 0) (v62.getD (Int.toNat v64) ((0, (0, (0, (0, (0, 0))))), ((0, 0), 0))).1.2.2.2.2.1 (cond (Nat.beq ((((((Int.toNat v8) - 1) - 1) - 1) - 1) - 1) 0) (v62.getD (Int.toNat v64) ((0, (0, (0, (0, (0, 0))))), ((0, 0), 0))).1.2.2.2.2.2 0))))))))))).bind fun r2 =>
        (impl_calc_mul n ((r2.1.1.1.1, r2.1.1.1.2)) (((v62.getD (Int.toNat v64) ((0, (0, (0, (0, (0, 0))))), ((0, 0), 0))).2.1.1, (v62.getD (Int.toNat v64) ((0, (0, (0, (0, (0, 0))))), ((0, 0), 0))).2.1.2)) b0).bind fun r3 =>
        (impl_calc_add n ((b1_0, b1_1)) ((r3.1.1.1.1, r3.1.1.1.2)) r3.2.1).bind fun r4 =>
        g19 ((IntKind.wrap .i64 (v64 + 1))) v8 v62 v20 v21 v63 r4.2.1 r4.1.1.1.1 r4.1.1.1.2 b2_0 b2_1 b2_2 b2_3 b2_4 b3 b4p b4i b5)
      (none))
    (none))
  (cond b2_2
    ((impl_num n 1).bind fun r5 =>
      cond (decide (((b5.length + ((r5.1.1.1.1, r5.1.1.1.2) :: []).length) * 17) ≤ 70368744177664))
      (cond (decide (((b4p.length + 1) * 25) ≤ 70368744177664))
        (cond (decide (((b3.length + ((b1_0, b1_1) :: []).length) * 17) ≤ 70368744177664))
          (g3 ((IntKind.wrap .i64 (v21 + 1))) v20 b0 b2_0 b2_1 b2_2 b2_3 b2_4 ((b3 ++ ((b1_0, b1_1) :: []))) ((b4p ++ (b4i.length :: []))) ((b4i ++ ((b5 ++ ((r5.1.1.1.1, r5.1.1.1.2) :: [])) :: []))))
          (none))
        (none))
      (none))
    (cond (decide (((b4p.length + 1) * 25) ≤ 70368744177664))
      (cond (decide (((b3.length + ((b1_0, b1_1) :: []).length) * 17) ≤ 70368744177664))
        (g3 ((IntKind.wrap .i64 (v21 + 1))) v20 b0 b2_0 b2_1 b2_2 b2_3 b2_4 ((b3 ++ ((b1_0, b1_1) :: []))) ((b4p ++ (b4i.length :: []))) ((b4i ++ (b5 :: []))))
        (none))
      (none)))

noncomputable def impl_calc_normal_l19 (n : Nat) (g3 : Int → Int → Bool → Int → (List (((Int) × ((Int) × ((Int) × ((Int) × ((Int) × (Int)))))) × (((Int) × (Int)) × (Int)))) → Bool → Int → Int → (List ((Int) × (Int))) → (List Nat) → (List (List ((Int) × (Int)))) → Option (((((List Nat) × (List (List ((Int) × (Int))))) × (Unit)) × (((List ((Int) × (Int))) × (Unit)) × (Unit))) × ((Bool) × (Unit)))) : Nat → Int → Int → (List (((Int) × ((Int) × ((Int) × ((Int) × ((Int) × (Int)))))) × (((Int) × (Int)) × (Int)))) → Int → Int → Int → Bool → Int → Int → Int → (List (((Int) × ((Int) × ((Int) × ((Int) × ((Int) × (Int)))))) × (((Int) × (Int)) × (Int)))) → Bool → Int → Int → (List ((Int) × (Int))) → (List Nat) → (List (List ((Int) × (Int)))) → (List ((Int) × (Int))) → Option (((((List Nat) × (List (List ((Int) × (Int))))) × (Unit)) × (((List ((Int) × (Int))) × (Unit)) × (Unit))) × ((Bool) × (Unit)))
  | 0, _, _, _, _, _, _, _, _, _, _, _, _, _, _, _, _, _, _ => none
  | k + 1, v64, v8, v62, v20, v21, v63, b0, b1_0, b1_1, b2_0, b2_1, b2_2, b2_3, b2_4, b3, b4p, b4i, b5 => impl_calc_normal_t19 n g3 (impl_calc_normal_l19 n g3 k) v64 v8 v62 v20 v21 v63 b0 b1_0 b1_1 b2_0 b2_1 b2_2 b2_3 b2_4 b3 b4p b4i b5

noncomputable def impl_calc_normal_t7 (n : Nat) (h11 : Nat → Int → Int → Int → Int → (List (((Int) × ((Int) × ((Int) × ((Int) × ((Int) × (Int)))))) × (((Int) × (Int)) × (Int)))) → Int → Int → Int → Int → Int → Bool → Int → (List (((Int) × ((Int) × ((Int) × ((Int) × ((Int) × (Int)))))) × (((Int) × (Int)) × (Int)))) → Bool → Int → Int → (List ((Int) × (Int))) → (List Nat) → (List (List ((Int) × (Int)))) → (List ((Int) × (Int))) → Option (((((List Nat) × (List (List ((Int) × (Int))))) × (Unit)) × (((List ((Int) × (Int))) × (Unit)) × (Unit))) × ((Bool) × (Unit)))) (h19 : Nat → Int → Int → (List (((Int) × ((Int) × ((Int) × ((Int) × ((Int) × (Int)))))) × (((Int) × (Int)) × (Int)))) → Int → Int → Int → Bool → Int → Int → Int → (List (((Int) × ((Int) × ((Int) × ((Int) × ((Int) × (Int)))))) × (((Int) × (Int)) × (Int)))) → Bool → Int → Int → (List ((Int) × (Int))) → (List Nat) → (List (List ((Int) × (Int)))) → (List ((Int) × (Int))) → Option (((((List Nat) × (List (List ((Int) × (Int))))) × (Unit)) × (((List ((Int) × (Int))) × (Unit)) × (Unit))) × ((Bool) × (Unit)))) (g3 : Int → Int → Bool → Int → (List (((Int) × ((Int) × ((Int) × ((Int) × ((Int) × (Int)))))) × (((Int) × (Int)) × (Int)))) → Bool → Int → Int → (List ((Int) × (Int))) → (List Nat) → (List (List ((Int) × (Int)))) → Option (((((List Nat) × (List (List ((Int) × (Int))))) × (Unit)) × (((List ((Int) × (Int))) × (Unit)) × (Unit))) × ((Bool) × (Unit)))) (g7 : Int → Int → Int → Int → Int → Bool → (List ((Int) × (Int))) → Int → (List (((Int) × ((Int) × ((Int) × ((Int) × ((Int) × (Int)))))) × (((Int) × (Int)) × (Int)))) → Bool → Int → Int → (List ((Int) × (Int))) → (List Nat) → (List (List ((Int) × (Int)))) → Option (((((List Nat) × (List (List ((Int) × (Int))))) × (Unit)) × (((List ((Int) × (Int))) × (Unit)) × (Unit))) × ((Bool) × (Unit)))) (v8 : Int) (v27 : Int) (v20 : Int) (v21 : Int) (v26 : Int) (b0 : Bool) (b1 : List ((Int) × (Int))) (b2_0 : Int) (b2_1 : List (((Int) × ((Int) × ((Int) × ((Int) × ((Int) × (Int)))))) × (((Int) × (Int)) × (Int)))) (b2_2 : Bool) (b2_3 : Int) (b2_4 : Int) (b3 : List ((Int) × (Int))) (b4p : List Nat) (b4i : List (List ((Int) × (Int)))) : Option (((((List Nat) × (List (List ((Int) × (Int))))) × (Unit)) × (((List ((Int) × (Int))) × (Unit)) × (Unit))) × ((Bool) × (Unit))) :=
  cond (decide (v27 < v26))
  (h11 n 0 v27 v8 0 b2_1 v20 v21 v26 v27 (((b2_1.length : Nat) : Int)) b0 b2_0 b2_1 b2_2 b2_3 b2_4 b3 b4p b4i b1)
  ((impl_zero n).bind fun r1 =>
    h19 n 0 v8 b2_1 v20 v21 (((b2_1.length : Nat) : Int)) b0 r1.1.1.1.1 r1.1.1.1.2 b2_0 b2_1 b2_2 b2_3 b2_4 b3 b4p b4i b1)

noncomputable def impl_calc_normal_l7 (n : Nat) (g3 : Int → Int → Bool → Int → (List (((Int) × ((Int) × ((Int) × ((Int) × ((Int) × (Int)))))) × (((Int) × (Int)) × (Int)))) → Bool → Int → Int → (List ((Int) × (Int))) → (List Nat) → (List (List ((Int) × (Int)))) → Option (((((List Nat) × (List (List ((Int) × (Int))))) × (Unit)) × (((List ((Int) × (Int))) × (Unit)) × (Unit))) × ((Bool) × (Unit)))) : Nat → Int → Int → Int → Int → Int → Bool → (List ((Int) × (Int))) → Int → (List (((Int) × ((Int) × ((Int) × ((Int) × ((Int) × (Int)))))) × (((Int) × (Int)) × (Int)))) → Bool → Int → Int → (List ((Int) × (Int))) → (List Nat) → (List (List ((Int) × (Int)))) → Option (((((List Nat) × (List (List ((Int) × (Int))))) × (Unit)) × (((List ((Int) × (Int))) × (Unit)) × (Unit))) × ((Bool) × (Unit)))
  | 0, _, _, _, _, _, _, _, _, _, _, _, _, _, _, _ => none
  | k + 1, v8, v27, v20, v21, v26, b0, b1, b2_0, b2_1, b2_2, b2_3, b2_4, b3, b4p, b4i => impl_calc_normal_t7 n (impl_calc_normal_l11 n g3 (impl_calc_normal_l7 n g3 k)) (impl_calc_normal_l19 n g3) g3 (impl_calc_normal_l7 n g3 k) v8 v27 v20 v21 v26 b0 b1 b2_0 b2_1 b2_2 b2_3 b2_4 b3 b4p b4i

noncomputable def impl_calc_normal_t3 (n : Nat) (h7 : Nat → Int → Int → Int → Int → Int → Bool → (List ((Int) × (Int))) → Int → (List (((Int) × ((Int) × ((Int) × ((Int) × ((Int) × (Int)))))) × (((Int) × (Int)) × (Int)))) → Bool → Int → Int → (List ((Int) × (Int))) → (List Nat) → (List (List ((Int) × (Int)))) → Option (((((List Nat) × (List (List ((Int) × (Int))))) × (Unit)) × (((List ((Int) × (Int))) × (Unit)) × (Unit))) × ((Bool) × (Unit)))) (g3 : Int → Int → Bool → Int → (List (((Int) × ((Int) × ((Int) × ((Int) × ((Int) × (Int)))))) × (((Int) × (Int)) × (Int)))) → Bool → Int → Int → (List ((Int) × (Int))) → (List Nat) → (List (List ((Int) × (Int)))) → Option (((((List Nat) × (List (List ((Int) × (Int))))) × (Unit)) × (((List ((Int) × (Int))) × (Unit)) × (Unit))) × ((Bool) × (Unit)))) (v21 : Int) (v20 : Int) (b0 : Bool) (b1_0 : Int) (b1_1 : List (((Int) × ((Int) × ((Int) × ((Int) × ((Int) × (Int)))))) × (((Int) × (Int)) × (Int)))) (b1_2 : Bool) (b1_3 : Int) (b1_4 : Int) (b2 : List ((Int) × (Int))) (b3p : List Nat) (b3i : List (List ((Int) × (Int)))) : Option (((((List Nat) × (List (List ((Int) × (Int))))) × (Unit)) × (((List ((Int) × (Int))) × (Unit)) × (Unit))) × ((Bool) × (Unit))) :=
  cond (decide (v21 < v20))
  (h7 n v21 0 v20 v21 b1_0 b0 [] b1_0 b1_1 b1_2 b1_3 b1_4 b2 b3p b3i)
  (cond b1_2
    ((impl_num n 1).bind fun r6 =>
      (slices_Repeat_impl_Frac_impl_Frac n (((r6.1.1.1.1, r6.1.1.1.2) :: [])) b1_0).bind fun r7 =>
      (impl_zero n).bind fun r8 =>
      cond (decide (((r7.1.1.1.length + ((r8.1.1.1.1, r8.1.1.1.2) :: []).length) * 17) ≤ 70368744177664))
      (cond (decide (((b3p.length + 1) * 25) ≤ 70368744177664))
        (cond (decide (((b2.length + ((b1_3, b1_4) :: []).length) * 17) ≤ 70368744177664))
          (some ((((((b3p ++ (b3i.length :: [])), (b3i ++ ((r7.1.1.1 ++ ((r8.1.1.1.1, r8.1.1.1.2) :: [])) :: []))), ()), (((b2 ++ ((b1_3, b1_4) :: [])), ()), ())), (b0, ()))))
          (none))
        (none))
      (none))
    (some (((((b3p, b3i), ()), ((b2, ()), ())), (b0, ())))))

noncomputable def impl_calc_normal_l3 (n : Nat) : Nat → Int → Int → Bool → Int → (List (((Int) × ((Int) × ((Int) × ((Int) × ((Int) × (Int)))))) × (((Int) × (Int)) × (Int)))) → Bool → Int → Int → (List ((Int) × (Int))) → (List Nat) → (List (List ((Int) × (Int)))) → Option (((((List Nat) × (List (List ((Int) × (Int))))) × (Unit)) × (((List ((Int) × (Int))) × (Unit)) × (Unit))) × ((Bool) × (Unit)))
  | 0, _, _, _, _, _, _, _, _, _, _, _ => none
  | k + 1, v21, v20, b0, b1_0, b1_1, b1_2, b1_3, b1_4, b2, b3p, b3i => impl_calc_normal_t3 n (impl_calc_normal_l7 n (impl_calc_normal_l3 n k)) (impl_calc_normal_l3 n k) v21 v20 b0 b1_0 b1_1 b1_2 b1_3 b1_4 b2 b3p b3i

noncomputable def impl_calc_normal_t (n : Nat) (h3 : Nat → Int → Int → Bool → Int → (List (((Int) × ((Int) × ((Int) × ((Int) × ((Int) × (Int)))))) × (((Int) × (Int)) × (Int)))) → Bool → Int → Int → (List ((Int) × (Int))) → (List Nat) → (List (List ((Int) × (Int)))) → Option (((((List Nat) × (List (List ((Int) × (Int))))) × (Unit)) × (((List ((Int) × (Int))) × (Unit)) × (Unit))) × ((Bool) × (Unit)))) (a1 : (Int) × ((List (((Int) × ((Int) × ((Int) × ((Int) × ((Int) × (Int)))))) × (((Int) × (Int)) × (Int)))) × ((Bool) × ((Int) × (Int))))) (b0 : Bool) : Option (((((List Nat) × (List (List ((Int) × (Int))))) × (Unit)) × (((List ((Int) × (Int))) × (Unit)) × (Unit))) × ((Bool) × (Unit))) :=
  h3 n 0 a1.1 b0 a1.1 a1.2.1 a1.2.2.1 a1.2.2.2.1 a1.2.2.2.2 [] [] []

noncomputable def impl_calc_normal (n : Nat) (a1 : (Int) × ((List (((Int) × ((Int) × ((Int) × ((Int) × ((Int) × (Int)))))) × (((Int) × (Int)) × (Int)))) × ((Bool) × ((Int) × (Int))))) (b0 : Bool) : Option (((((List Nat) × (List (List ((Int) × (Int))))) × (Unit)) × (((List ((Int) × (Int))) × (Unit)) × (Unit))) × ((Bool) × (Unit))) := impl_calc_normal_t n (impl_calc_normal_l3 n) a1 b0

noncomputable def impl_NormalOf_t (n : Nat) (a0 : (Int) × ((List (((Int) × ((Int) × ((Int) × ((Int) × ((Int) × (Int)))))) × (((Int) × (Int)) × (Int)))) × ((Bool) × ((Int) × (Int))))) : Option (((((List Nat) × (List (List ((Int) × (Int))))) × (Unit)) × (((List ((Int) × (Int))) × (Unit)) × (((Int) × (Unit)) × (Unit)))) × (Unit)) :=
  (impl_ValidTable n ((a0.1, (a0.2.1, (a0.2.2.1, (a0.2.2.2.1, a0.2.2.2.2)))))).bind fun r0 =>
  cond (!r0.1.1.1)
  (some ((((([], []), ()), (([], ()), ((1, ()), ()))), ())))
  ((impl_calc_normal n ((a0.1, (a0.2.1, (a0.2.2.1, (a0.2.2.2.1, a0.2.2.2.2))))) false).bind fun r1 =>
    cond r1.2.1
    (some ((((([], []), ()), (([], ()), ((3, ()), ()))), ())))
    (some (((((r1.1.1.1.1, r1.1.1.1.2), ()), ((r1.1.2.1.1, ()), ((0, ()), ()))), ()))))

noncomputable def impl_NormalOf (n : Nat) (a0 : (Int) × ((List (((Int) × ((Int) × ((Int) × ((Int) × ((Int) × (Int)))))) × (((Int) × (Int)) × (Int)))) × ((Bool) × ((Int) × (Int))))) : Option (((((List Nat) × (List (List ((Int) × (Int))))) × (Unit)) × (((List ((Int) × (Int))) × (Unit)) × (((Int) × (Unit)) × (Unit)))) × (Unit)) := impl_NormalOf_t n a0

noncomputable def impl_areValid_1_t (n : Nat) (a0 : (Int) × (Int)) : Option ((((Bool) × (Unit)) × (Unit)) × (Unit)) :=
  (impl_ValidFrac n ((a0.1, a0.2))).bind fun r0 =>
  some (((((!r0.1.1.1), ()), ()), ()))

noncomputable def impl_areValid_1 (n : Nat) (a0 : (Int) × (Int)) : Option ((((Bool) × (Unit)) × (Unit)) × (Unit)) := impl_areValid_1_t n a0

noncomputable def slices_IndexFunc_impl_Frac_impl_Frac_at_impl_areValid_1_t2 (n : Nat) (g2 : Int → (List ((Int) × (Int))) → Int → Option ((((Int) × (Unit)) × (Unit)) × (Unit))) (v8 : Int) (v0 : List ((Int) × (Int))) (v7 : Int) : Option ((((Int) × (Unit)) × (Unit)) × (Unit)) :=
  cond (decide (v8 < v7))
  (cond ((decide (0 ≤ v8) && decide (v8 < ((v0.length : Nat) : Int))))
    ((impl_areValid_1 n (((v0.getD (Int.toNat v8) (0, 0)).1, (v0.getD (Int.toNat v8) (0, 0)).2))).bind fun r0 =>
      cond r0.1.1.1
      (some ((((v8, ()), ()), ())))
      (g2 ((IntKind.wrap .i64 (v8 + 1))) v0 v7))
    (none))
  (some (((((-1), ()), ()), ())))

noncomputable def slices_IndexFunc_impl_Frac_impl_Frac_at_impl_areValid_1_l2 (n : Nat) : Nat → Int → (List ((Int) × (Int))) → Int → Option ((((Int) × (Unit)) × (Unit)) × (Unit))
  | 0, _, _, _ => none
  | k + 1, v8, v0, v7 => slices_IndexFunc_impl_Frac_impl_Frac_at_impl_areValid_1_t2 n (slices_IndexFunc_impl_Frac_impl_Frac_at_impl_areValid_1_l2 n k) v8 v0 v7

noncomputable def slices_IndexFunc_impl_Frac_impl_Frac_at_impl_areValid_1_t (n : Nat) (h2 : Nat → Int → (List ((Int) × (Int))) → Int → Option ((((Int) × (Unit)) × (Unit)) × (Unit))) (a0 : List ((Int) × (Int))) : Option ((((Int) × (Unit)) × (Unit)) × (Unit)) :=
  h2 n 0 a0 (((a0.length : Nat) : Int))

noncomputable def slices_IndexFunc_impl_Frac_impl_Frac_at_impl_areValid_1 (n : Nat) (a0 : List ((Int) × (Int))) : Option ((((Int) × (Unit)) × (Unit)) × (Unit)) := slices_IndexFunc_impl_Frac_impl_Frac_at_impl_areValid_1_t n (slices_IndexFunc_impl_Frac_impl_Frac_at_impl_areValid_1_l2 n) a0

noncomputable def slices_ContainsFunc_impl_Frac_impl_Frac_at_impl_areValid_1_t (n : Nat) (a0 : List ((Int) × (Int))) : Option ((((Bool) × (Unit)) × (Unit)) × (Unit)) :=
  (slices_IndexFunc_impl_Frac_impl_Frac_at_impl_areValid_1 n a0).bind fun r0 =>
  some ((((decide (r0.1.1.1 ≥ 0), ()), ()), ()))

noncomputable def slices_ContainsFunc_impl_Frac_impl_Frac_at_impl_areValid_1 (n : Nat) (a0 : List ((Int) × (Int))) : Option ((((Bool) × (Unit)) × (Unit)) × (Unit)) := slices_ContainsFunc_impl_Frac_impl_Frac_at_impl_areValid_1_t n a0

noncomputable def impl_areValid_t (n : Nat) (a0 : List ((Int) × (Int))) : Option ((((Bool) × (Unit)) × (Unit)) × (Unit)) :=
  (slices_ContainsFunc_impl_Frac_impl_Frac_at_impl_areValid_1 n a0).bind fun r0 =>
  some (((((!r0.1.1.1), ()), ()), ()))

noncomputable def impl_areValid (n : Nat) (a0 : List ((Int) × (Int))) : Option ((((Bool) × (Unit)) × (Unit)) × (Unit)) := impl_areValid_t n a0

noncomputable def impl_calc_div_t (n : Nat) (a1 : (Int) × (Int)) (a2 : (Int) × (Int)) (b0 : Bool) : Option (((((Int) × (Int)) × (Unit)) × (Unit)) × ((Bool) × (Unit))) :=
  cond ((a2.1 == 0))
  ((impl_zero n).bind fun r0 =>
    some (((((r0.1.1.1.1, r0.1.1.1.2), ()), ()), (true, ()))))
  ((impl_calc_told n ((IntKind.wrap .i64 (a1.1 * a2.2))) ((IntKind.wrap .i64 (a1.2 * a2.1))) b0).bind fun r1 =>
    some (((((r1.1.1.1.1, r1.1.1.1.2), ()), ()), (r1.2.1, ()))))

noncomputable def impl_calc_div (n : Nat) (a1 : (Int) × (Int)) (a2 : (Int) × (Int)) (b0 : Bool) : Option (((((Int) × (Int)) × (Unit)) × (Unit)) × ((Bool) × (Unit))) := impl_calc_div_t n a1 a2 b0

noncomputable def impl_calc_sub_t (n : Nat) (a1 : (Int) × (Int)) (a2 : (Int) × (Int)) (b0 : Bool) : Option (((((Int) × (Int)) × (Unit)) × (Unit)) × ((Bool) × (Unit))) :=
  (impl_calc_told n ((IntKind.wrap .i64 ((IntKind.wrap .i64 (a1.1 * a2.2)) - (IntKind.wrap .i64 (a2.1 * a1.2))))) ((IntKind.wrap .i64 (a1.2 * a2.2))) b0).bind fun r0 =>
  some (((((r0.1.1.1.1, r0.1.1.1.2), ()), ()), (r0.2.1, ())))

noncomputable def impl_calc_sub (n : Nat) (a1 : (Int) × (Int)) (a2 : (Int) × (Int)) (b0 : Bool) : Option (((((Int) × (Int)) × (Unit)) × (Unit)) × ((Bool) × (Unit))) := impl_calc_sub_t n a1 a2 b0

noncomputable def impl_calc_eliminate_t14 (n : Nat) (g9 : Int → Int → Int → Int → Bool → (List Nat) → (List (List ((Int) × (Int)))) → (List ((Int) × (Int))) → Option ((((Bool) × (Unit)) × (Unit)) × ((Bool) × (((List Nat) × (List (List ((Int) × (Int))))) × ((List ((Int) × (Int))) × (Unit)))))) (g14 : Int → Int → Int → Int → Int → Int → Bool → (List Nat) → (List (List ((Int) × (Int)))) → (List ((Int) × (Int))) → Int → Int → Option ((((Bool) × (Unit)) × (Unit)) × ((Bool) × (((List Nat) × (List (List ((Int) × (Int))))) × ((List ((Int) × (Int))) × (Unit)))))) (v14 : Int) (v4 : Int) (v12 : Int) (v3 : Int) (v66 : Int) (v67 : Int) (b0 : Bool) (b1p : List Nat) (b1i : List (List ((Int) × (Int)))) (b2 : List ((Int) × (Int))) (b3_0 : Int) (b3_1 : Int) : Option ((((Bool) × (Unit)) × (Unit)) × ((Bool) × (((List Nat) × (List (List ((Int) × (Int))))) × ((List ((Int) × (Int))) × (Unit))))) :=
  cond ((decide (0 ≤ v12) && decide (v12 < ((b1p.length : Nat) : Int))))
  (cond (decide (v14 < (((b1i.getD (b1p.getD (Int.toNat v12) 0) []).length : Nat) : Int)))
    (cond ((decide (0 ≤ v12) && decide (v12 < ((b1p.length : Nat) : Int))))
      (cond ((decide (0 ≤ v12) && decide (v12 < ((b1p.length : Nat) : Int))))
        (cond ((decide (0 ≤ v14) && decide (v14 < (((b1i.getD (b1p.getD (Int.toNat v12) 0) []).length : Nat) : Int))))
          (cond ((decide (0 ≤ v4) && decide (v4 < ((b1p.length : Nat) : Int))))
            (cond ((decide (0 ≤ v14) && decide (v14 < (((b1i.getD (b1p.getD (Int.toNat v4) 0) []).length : Nat) : Int))))
              ((impl_calc_mul n ((b3_0, b3_1)) ((((b1i.getD (b1p.getD (Int.toNat v4) 0) []).getD (Int.toNat v14) (0, 0)).1, ((b1i.getD (b1p.getD (Int.toNat v4) 0) []).getD (Int.toNat v14) (0, 0)).2)) b0).bind fun r1 =>
                (impl_calc_sub n ((((b1i.getD (b1p.getD (Int.toNat v12) 0) []).getD (Int.toNat v14) (0, 0)).1, ((b1i.getD (b1p.getD (Int.toNat v12) 0) []).getD (Int.toNat v14) (0, 0)).2)) ((r1.1.1.1.1, r1.1.1.1.2)) r1.2.1).bind fun r2 =>
                cond ((decide (0 ≤ v14) && decide (v14 < (((b1i.getD (b1p.getD (Int.toNat v12) 0) []).length : Nat) : Int))))
                (g14 ((IntKind.wrap .i64 (v14 + 1))) v4 v12 v3 v66 v67 r2.2.1 b1p ((b1i.set (b1p.getD (Int.toNat v12) 0) ((b1i.getD (b1p.getD (Int.toNat v12) 0) []).set (Int.toNat v14) (r2.1.1.1.1, r2.1.1.1.2)))) b2 b3_0 b3_1)
                (none))
              (none))
            (none))
          (none))
        (none))
      (none))
    (cond ((decide (0 ≤ v12) && decide (v12 < ((b2.length : Nat) : Int))))
      (cond ((decide (0 ≤ v4) && decide (v4 < ((b2.length : Nat) : Int))))
        ((impl_calc_mul n ((b3_0, b3_1)) (((b2.getD (Int.toNat v4) (0, 0)).1, (b2.getD (Int.toNat v4) (0, 0)).2)) b0).bind fun r3 =>
          (impl_calc_sub n (((b2.getD (Int.toNat v12) (0, 0)).1, (b2.getD (Int.toNat v12) (0, 0)).2)) ((r3.1.1.1.1, r3.1.1.1.2)) r3.2.1).bind fun r4 =>
          cond ((decide (0 ≤ v12) && decide (v12 < ((b2.length : Nat) : Int))))
          (g9 ((IntKind.wrap .i64 (v67 + 1))) v4 v3 v66 r4.2.1 b1p b1i ((b2.set (Int.toNat v12) (r4.1.1.1.1, r4.1.1.1.2))))
          (none))
        (none))
      (none)))
  (none)

noncomputable def impl_calc_eliminate_l14 (n : Nat) (g9 : Int → Int → Int → Int → Bool → (List Nat) → (List (List ((Int) × (Int)))) → (List ((Int) × (Int))) → Option ((((Bool) × (Unit)) × (Unit)) × ((Bool) × (((List Nat) × (List (List ((Int) × (Int))))) × ((List ((Int) × (Int))) × (Unit)))))) : Nat → Int → Int → Int → Int → Int → Int → Bool → (List Nat) → (List (List ((Int) × (Int)))) → (List ((Int) × (Int))) → Int → Int → Option ((((Bool) × (Unit)) × (Unit)) × ((Bool) × (((List Nat) × (List (List ((Int) × (Int))))) × ((List ((Int) × (Int))) × (Unit)))))
  | 0, _, _, _, _, _, _, _, _, _, _, _, _ => none
  | k + 1, v14, v4, v12, v3, v66, v67, b0, b1p, b1i, b2, b3_0, b3_1 => impl_calc_eliminate_t14 n g9 (impl_calc_eliminate_l14 n g9 k) v14 v4 v12 v3 v66 v67 b0 b1p b1i b2 b3_0 b3_1

noncomputable def impl_calc_eliminate_t9 (n : Nat) (h14 : Nat → Int → Int → Int → Int → Int → Int → Bool → (List Nat) → (List (List ((Int) × (Int)))) → (List ((Int) × (Int))) → Int → Int → Option ((((Bool) × (Unit)) × (Unit)) × ((Bool) × (((List Nat) × (List (List ((Int) × (Int))))) × ((List ((Int) × (Int))) × (Unit)))))) (g9 : Int → Int → Int → Int → Bool → (List Nat) → (List (List ((Int) × (Int)))) → (List ((Int) × (Int))) → Option ((((Bool) × (Unit)) × (Unit)) × ((Bool) × (((List Nat) × (List (List ((Int) × (Int))))) × ((List ((Int) × (Int))) × (Unit)))))) (v67 : Int) (v4 : Int) (v3 : Int) (v66 : Int) (b0 : Bool) (b1p : List Nat) (b1i : List (List ((Int) × (Int)))) (b2 : List ((Int) × (Int))) : Option ((((Bool) × (Unit)) × (Unit)) × ((Bool) × (((List Nat) × (List (List ((Int) × (Int))))) × ((List ((Int) × (Int))) × (Unit))))) :=
  cond (decide (v67 < v66))
  (cond ((v67 == v4))
    (g9 ((IntKind.wrap .i64 (v67 + 1))) v4 v3 v66 b0 b1p b1i b2)
    (cond ((decide (0 ≤ v67) && decide (v67 < ((b1p.length : Nat) : Int))))
      (cond ((decide (0 ≤ v3) && decide (v3 < (((b1i.getD (b1p.getD (Int.toNat v67) 0) []).length : Nat) : Int))))
        (cond ((((b1i.getD (b1p.getD (Int.toNat v67) 0) []).getD (Int.toNat v3) (0, 0)).1 == 0))
          (g9 ((IntKind.wrap .i64 (v67 + 1))) v4 v3 v66 b0 b1p b1i b2)
          (cond b0
            (g9 ((IntKind.wrap .i64 (v67 + 1))) v4 v3 v66 b0 b1p b1i b2)
            (cond ((decide (0 ≤ v67) && decide (v67 < ((b1p.length : Nat) : Int))))
              (cond ((decide (0 ≤ v3) && decide (v3 < (((b1i.getD (b1p.getD (Int.toNat v67) 0) []).length : Nat) : Int))))
                (cond ((decide (0 ≤ v4) && decide (v4 < ((b1p.length : Nat) : Int))))
                  (cond ((decide (0 ≤ v3) && decide (v3 < (((b1i.getD (b1p.getD (Int.toNat v4) 0) []).length : Nat) : Int))))
                    ((impl_calc_div n ((((b1i.getD (b1p.getD (Int.toNat v67) 0) []).getD (Int.toNat v3) (0, 0)).1, ((b1i.getD (b1p.getD (Int.toNat v67) 0) []).getD (Int.toNat v3) (0, 0)).2)) ((((b1i.getD (b1p.getD (Int.toNat v4) 0) []).getD (Int.toNat v3) (0, 0)).1, ((b1i.getD (b1p.getD (Int.toNat v4) 0) []).getD (Int.toNat v3) (0, 0)).2)) b0).bind fun r0 =>
                      h14 n v3 v4 v67 v3 v66 v67 r0.2.1 b1p b1i b2 r0.1.1.1.1 r0.1.1.1.2)
                    (none))
                  (none))
                (none))
              (none))))
        (none))
      (none)))
  (some ((((true, ()), ()), (b0, ((b1p, b1i), (b2, ()))))))

noncomputable def impl_calc_eliminate_l9 (n : Nat) : Nat → Int → Int → Int → Int → Bool → (List Nat) → (List (List ((Int) × (Int)))) → (List ((Int) × (Int))) → Option ((((Bool) × (Unit)) × (Unit)) × ((Bool) × (((List Nat) × (List (List ((Int) × (Int))))) × ((List ((Int) × (Int))) × (Unit)))))
  | 0, _, _, _, _, _, _, _, _ => none
  | k + 1, v67, v4, v3, v66, b0, b1p, b1i, b2 => impl_calc_eliminate_t9 n (impl_calc_eliminate_l14 n (impl_calc_eliminate_l9 n k)) (impl_calc_eliminate_l9 n k) v67 v4 v3 v66 b0 b1p b1i b2

noncomputable def impl_calc_eliminate_t2 (n : Nat) (h9 : Nat → Int → Int → Int → Int → Bool → (List Nat) → (List (List ((Int) × (Int)))) → (List ((Int) × (Int))) → Option ((((Bool) × (Unit)) × (Unit)) × ((Bool) × (((List Nat) × (List (List ((Int) × (Int))))) × ((List ((Int) × (Int))) × (Unit)))))) (g2 : Int → Int → Int → Bool → (List Nat) → (List (List ((Int) × (Int)))) → (List ((Int) × (Int))) → Option ((((Bool) × (Unit)) × (Unit)) × ((Bool) × (((List Nat) × (List (List ((Int) × (Int))))) × ((List ((Int) × (Int))) × (Unit)))))) (v11 : Int) (v4 : Int) (v3 : Int) (b0 : Bool) (b1p : List Nat) (b1i : List (List ((Int) × (Int)))) (b2 : List ((Int) × (Int))) : Option ((((Bool) × (Unit)) × (Unit)) × ((Bool) × (((List Nat) × (List (List ((Int) × (Int))))) × ((List ((Int) × (Int))) × (Unit))))) :=
  cond (decide (v11 < ((b1p.length : Nat) : Int)))
  (cond ((decide (0 ≤ v11) && decide (v11 < ((b1p.length : Nat) : Int))))
    (cond ((decide (0 ≤ v3) && decide (v3 < (((b1i.getD (b1p.getD (Int.toNat v11) 0) []).length : Nat) : Int))))
      (cond ((((b1i.getD (b1p.getD (Int.toNat v11) 0) []).getD (Int.toNat v3) (0, 0)).1 == 0))
        (g2 ((IntKind.wrap .i64 (v11 + 1))) v4 v3 b0 b1p b1i b2)
        (cond ((v11 == ((b1p.length : Nat) : Int)))
          (some ((((false, ()), ()), (b0, ((b1p, b1i), (b2, ()))))))
          (cond ((decide (0 ≤ v4) && decide (v4 < ((b1p.length : Nat) : Int))))
            (cond ((decide (0 ≤ v11) && decide (v11 < ((b1p.length : Nat) : Int))))
              (cond ((decide (0 ≤ v11) && decide (v11 < ((b1p.length : Nat) : Int))))
                (cond ((decide (0 ≤ v4) && decide (v4 < (((b1p.set (Int.toNat v11) (b1p.getD (Int.toNat v4) 0)).length : Nat) : Int))))
                  (cond ((decide (0 ≤ v4) && decide (v4 < ((b2.length : Nat) : Int))))
                    (cond ((decide (0 ≤ v11) && decide (v11 < ((b2.length : Nat) : Int))))
                      (cond ((decide (0 ≤ v11) && decide (v11 < ((b2.length : Nat) : Int))))
                        (cond ((decide (0 ≤ v4) && decide (v4 < (((b2.set (Int.toNat v11) ((b2.getD (Int.toNat v4) (0, 0)).1, (b2.getD (Int.toNat v4) (0, 0)).2)).length : Nat) : Int))))
                          (h9 n 0 v4 v3 (((((b1p.set (Int.toNat v11) (b1p.getD (Int.toNat v4) 0)).set (Int.toNat v4) (b1p.getD (Int.toNat v11) 0)).length : Nat) : Int)) b0 (((b1p.set (Int.toNat v11) (b1p.getD (Int.toNat v4) 0)).set (Int.toNat v4) (b1p.getD (Int.toNat v11) 0))) b1i (((b2.set (Int.toNat v11) ((b2.getD (Int.toNat v4) (0, 0)).1, (b2.getD (Int.toNat v4) (0, 0)).2)).set (Int.toNat v4) ((b2.getD (Int.toNat v11) (0, 0)).1, (b2.getD (Int.toNat v11) (0, 0)).2))))
                          (none))
                        (none))
                      (none))
                    (none))
                  (none))
                (none))
              (none))
            (none))))
      (none))
    (none))
  (cond ((v11 == ((b1p.length : Nat) : Int)))
    (some ((((false, ()), ()), (b0, ((b1p, b1i), (b2, ()))))))
    (cond ((decide (0 ≤ v4) && decide (v4 < ((b1p.length : Nat) : Int))))
      (cond ((decide (0 ≤ v11) && decide (v11 < ((b1p.length : Nat) : Int))))
        (cond ((decide (0 ≤ v11) && decide (v11 < ((b1p.length : Nat) : Int))))
          (cond ((decide (0 ≤ v4) && decide (v4 < (((b1p.set (Int.toNat v11) (b1p.getD (Int.toNat v4) 0)).length : Nat) : Int))))
            (cond ((decide (0 ≤ v4) && decide (v4 < ((b2.length : Nat) : Int))))
              (cond ((decide (0 ≤ v11) && decide (v11 < ((b2.length : Nat) : Int))))
                (cond ((decide (0 ≤ v11) && decide (v11 < ((b2.length : Nat) : Int))))
                  (cond ((decide (0 ≤ v4) && decide (v4 < (((b2.set (Int.toNat v11) ((b2.getD (Int.toNat v4) (0, 0)).1, (b2.getD (Int.toNat v4) (0, 0)).2)).length : Nat) : Int))))
                    (h9 n 0 v4 v3 (((((b1p.set (Int.toNat v11) (b1p.getD (Int.toNat v4) 0)).set (Int.toNat v4) (b1p.getD (Int.toNat v11) 0)).length : Nat) : Int)) b0 (((b1p.set (Int.toNat v11) (b1p.getD (Int.toNat v4) 0)).set (Int.toNat v4) (b1p.getD (Int.toNat v11) 0))) b1i (((b2.set (Int.toNat v11) ((b2.getD (Int.toNat v4) (0, 0)).1, (b2.getD (Int.toNat v4) (0, 0)).2)).set (Int.toNat v4) ((b2.getD (Int.toNat v11) (0, 0)).1, (b2.getD (Int.toNat v11) (0, 0)).2))))
                    (none))
                  (none))
                (none))
              (none))
            (none))
          (none))
        (none))
      (none)))

noncomputable def impl_calc_eliminate_l2 (n : Nat) : Nat → Int → Int → Int → Bool → (List Nat) → (List (List ((Int) × (Int)))) → (List ((Int) × (Int))) → Option ((((Bool) × (Unit)) × (Unit)) × ((Bool) × (((List Nat) × (List (List ((Int) × (Int))))) × ((List ((Int) × (Int))) × (Unit)))))
  | 0, _, _, _, _, _, _, _ => none
  | k + 1, v11, v4, v3, b0, b1p, b1i, b2 => impl_calc_eliminate_t2 n (impl_calc_eliminate_l9 n) (impl_calc_eliminate_l2 n k) v11 v4 v3 b0 b1p b1i b2

noncomputable def impl_calc_eliminate_t (n : Nat) (h2 : Nat → Int → Int → Int → Bool → (List Nat) → (List (List ((Int) × (Int)))) → (List ((Int) × (Int))) → Option ((((Bool) × (Unit)) × (Unit)) × ((Bool) × (((List Nat) × (List (List ((Int) × (Int))))) × ((List ((Int) × (Int))) × (Unit)))))) (a3 : Int) (a4 : Int) (b0 : Bool) (b1 : (List Nat) × (List (List ((Int) × (Int))))) (b2 : List ((Int) × (Int))) : Option ((((Bool) × (Unit)) × (Unit)) × ((Bool) × (((List Nat) × (List (List ((Int) × (Int))))) × ((List ((Int) × (Int))) × (Unit))))) :=
  h2 n a4 a4 a3 b0 b1.1 b1.2 b2

noncomputable def impl_calc_eliminate (n : Nat) (a3 : Int) (a4 : Int) (b0 : Bool) (b1 : (List Nat) × (List (List ((Int) × (Int))))) (b2 : List ((Int) × (Int))) : Option ((((Bool) × (Unit)) × (Unit)) × ((Bool) × (((List Nat) × (List (List ((Int) × (Int))))) × ((List ((Int) × (Int))) × (Unit))))) := impl_calc_eliminate_t n (impl_calc_eliminate_l2 n) a3 a4 b0 b1 b2

noncomputable def slices_Clone_impl_Frac_impl_Frac_t (n : Nat) (a0 : List ((Int) × (Int))) : Option ((((List ((Int) × (Int))) × (Unit)) × (Unit)) × (Unit)) :=
  cond ((emptyL a0))
  (eith
    (some (((([], ()), ()), ())))
    (cond (decide (((0 + a0.length) * 17) ≤ 70368744177664))
      (some ((((([] ++ a0), ()), ()), ())))
      (none)))
  (cond (decide (((0 + a0.length) * 17) ≤ 70368744177664))
    (some ((((([] ++ a0), ()), ()), ())))
    (none))

noncomputable def slices_Clone_impl_Frac_impl_Frac (n : Nat) (a0 : List ((Int) × (Int))) : Option ((((List ((Int) × (Int))) × (Unit)) × (Unit)) × (Unit)) := slices_Clone_impl_Frac_impl_Frac_t n a0

noncomputable def impl_copyRows_t3 (n : Nat) (g3 : Int → (List (List ((Int) × (Int)))) → Int → (List Nat) → (List (List ((Int) × (Int)))) → Option (((((List Nat) × (List (List ((Int) × (Int))))) × (Unit)) × (Unit)) × (Unit))) (v9 : Int) (v7 : List (List ((Int) × (Int)))) (v8 : Int) (b0p : List Nat) (b0i : List (List ((Int) × (Int)))) : Option (((((List Nat) × (List (List ((Int) × (Int))))) × (Unit)) × (Unit)) × (Unit)) :=
  cond (decide (v9 < v8))
  (cond ((decide (0 ≤ v9) && decide (v9 < ((v7.length : Nat) : Int))))
    ((slices_Clone_impl_Frac_impl_Frac n ((v7.getD (Int.toNat v9) []))).bind fun r0 =>
      cond (decide (((b0p.length + 1) * 25) ≤ 70368744177664))
      (g3 ((IntKind.wrap .i64 (v9 + 1))) v7 v8 ((b0p ++ (b0i.length :: []))) ((b0i ++ (r0.1.1.1 :: []))))
      (none))
    (none))
  (some (((((b0p, b0i), ()), ()), ())))

noncomputable def impl_copyRows_l3 (n : Nat) : Nat → Int → (List (List ((Int) × (Int)))) → Int → (List Nat) → (List (List ((Int) × (Int)))) → Option (((((List Nat) × (List (List ((Int) × (Int))))) × (Unit)) × (Unit)) × (Unit))
  | 0, _, _, _, _, _ => none
  | k + 1, v9, v7, v8, b0p, b0i => impl_copyRows_t3 n (impl_copyRows_l3 n k) v9 v7 v8 b0p b0i

noncomputable def impl_copyRows_t (n : Nat) (h3 : Nat → Int → (List (List ((Int) × (Int)))) → Int → (List Nat) → (List (List ((Int) × (Int)))) → Option (((((List Nat) × (List (List ((Int) × (Int))))) × (Unit)) × (Unit)) × (Unit))) (a0 : List (List ((Int) × (Int)))) : Option (((((List Nat) × (List (List ((Int) × (Int))))) × (Unit)) × (Unit)) × (Unit)) :=
  h3 n 0 a0 (((a0.length : Nat) : Int)) [] []

noncomputable def impl_copyRows (n : Nat) (a0 : List (List ((Int) × (Int)))) : Option (((((List Nat) × (List (List ((Int) × (Int))))) × (Unit)) × (Unit)) × (Unit)) := impl_copyRows_t n (impl_copyRows_l3 n) a0

noncomputable def impl_SolveFracs_1_t (n : Nat) (a0 : List ((Int) × (Int))) (b0 : Int) : Option ((((Bool) × (Unit)) × (Unit)) × ((Int) × (Unit))) :=
  some (((((((a0.length : Nat) : Int) != b0), ()), ()), (b0, ())))

noncomputable def impl_SolveFracs_1 (n : Nat) (a0 : List ((Int) × (Int))) (b0 : Int) : Option ((((Bool) × (Unit)) × (Unit)) × ((Int) × (Unit))) := impl_SolveFracs_1_t n a0 b0

noncomputable def slices_IndexFunc_impl_Frac_impl_Frac_at_impl_SolveFracs_1_t2 (n : Nat) (g2 : Int → (List (List ((Int) × (Int)))) → Int → Int → Option ((((Int) × (Unit)) × (Unit)) × ((Int) × (Unit)))) (v8 : Int) (v0 : List (List ((Int) × (Int)))) (v7 : Int) (b0 : Int) : Option ((((Int) × (Unit)) × (Unit)) × ((Int) × (Unit))) :=
  cond (decide (v8 < v7))
  (cond ((decide (0 ≤ v8) && decide (v8 < ((v0.length : Nat) : Int))))
    ((impl_SolveFracs_1 n ((v0.getD (Int.toNat v8) [])) b0).bind fun r0 =>
      cond r0.1.1.1
      (some ((((v8, ()), ()), (r0.2.1, ()))))
      (g2 ((IntKind.wrap .i64 (v8 + 1))) v0 v7 r0.2.1))
    (none))
  (some (((((-1), ()), ()), (b0, ()))))

noncomputable def slices_IndexFunc_impl_Frac_impl_Frac_at_impl_SolveFracs_1_l2 (n : Nat) : Nat → Int → (List (List ((Int) × (Int)))) → Int → Int → Option ((((Int) × (Unit)) × (Unit)) × ((Int) × (Unit)))
  | 0, _, _, _, _ => none
  | k + 1, v8, v0, v7, b0 => slices_IndexFunc_impl_Frac_impl_Frac_at_impl_SolveFracs_1_t2 n (slices_IndexFunc_impl_Frac_impl_Frac_at_impl_SolveFracs_1_l2 n k) v8 v0 v7 b0

noncomputable def slices_IndexFunc_impl_Frac_impl_Frac_at_impl_SolveFracs_1_t (n : Nat) (h2 : Nat → Int → (List (List ((Int) × (Int)))) → Int → Int → Option ((((Int) × (Unit)) × (Unit)) × ((Int) × (Unit)))) (a0 : List (List ((Int) × (Int)))) (b0 : Int) : Option ((((Int) × (Unit)) × (Unit)) × ((Int) × (Unit))) :=
  h2 n 0 a0 (((a0.length : Nat) : Int)) b0

noncomputable def slices_IndexFunc_impl_Frac_impl_Frac_at_impl_SolveFracs_1 (n : Nat) (a0 : List (List ((Int) × (Int)))) (b0 : Int) : Option ((((Int) × (Unit)) × (Unit)) × ((Int) × (Unit))) := slices_IndexFunc_impl_Frac_impl_Frac_at_impl_SolveFracs_1_t n (slices_IndexFunc_impl_Frac_impl_Frac_at_impl_SolveFracs_1_l2 n) a0 b0

noncomputable def slices_ContainsFunc_impl_Frac_impl_Frac_at_impl_SolveFracs_1_t (n : Nat) (a0 : List (List ((Int) × (Int)))) (b0 : Int) : Option ((((Bool) × (Unit)) × (Unit)) × ((Int) × (Unit))) :=
  (slices_IndexFunc_impl_Frac_impl_Frac_at_impl_SolveFracs_1 n a0 b0).bind fun r0 =>
  some ((((decide (r0.1.1.1 ≥ 0), ()), ()), (r0.2.1, ())))

noncomputable def slices_ContainsFunc_impl_Frac_impl_Frac_at_impl_SolveFracs_1 (n : Nat) (a0 : List (List ((Int) × (Int)))) (b0 : Int) : Option ((((Bool) × (Unit)) × (Unit)) × ((Int) × (Unit))) := slices_ContainsFunc_impl_Frac_impl_Frac_at_impl_SolveFracs_1_t n a0 b0

noncomputable def impl_SolveFracs_t20 (n : Nat) (g20 : Int → Int → (List Nat) → (List (List ((Int) × (Int)))) → (List ((Int) × (Int))) → Bool → Option ((((List ((Int) × (Int))) × (Unit)) × (((Int) × (Unit)) × (Unit))) × (Unit))) (v70 : Int) (v69 : Int) (b0p : List Nat) (b0i : List (List ((Int) × (Int)))) (b1 : List ((Int) × (Int))) (b2 : Bool) : Option ((((List ((Int) × (Int))) × (Unit)) × (((Int) × (Unit)) × (Unit))) × (Unit)) :=
  cond (decide (v70 < v69))
  (cond ((decide (0 ≤ v70) && decide (v70 < ((b1.length : Nat) : Int))))
    (cond ((decide (0 ≤ v70) && decide (v70 < ((b0p.length : Nat) : Int))))
      (cond ((decide (0 ≤ v70) && decide (v70 < (((b0i.getD (b0p.getD (Int.toNat v70) 0) []).length : Nat) : Int))))
        ((impl_calc_div n (((b1.getD (Int.toNat v70) (0, 0)).1, (b1.getD (Int.toNat v70) (0, 0)).2)) ((((b0i.getD (b0p.getD (Int.toNat v70) 0) []).getD (Int.toNat v70) (0, 0)).1, ((b0i.getD (b0p.getD (Int.toNat v70) 0) []).getD (Int.toNat v70) (0, 0)).2)) b2).bind fun r6 =>
          cond ((decide (0 ≤ v70) && decide (v70 < ((b1.length : Nat) : Int))))
          (g20 ((IntKind.wrap .i64 (v70 + 1))) v69 b0p b0i ((b1.set (Int.toNat v70) (r6.1.1.1.1, r6.1.1.1.2))) r6.2.1)
          (none))
        (none))
      (none))
    (none))
  (cond b2
    (some (((([], ()), ((3, ()), ())), ())))
    (some ((((b1, ()), ((0, ()), ())), ()))))

noncomputable def impl_SolveFracs_l20 (n : Nat) : Nat → Int → Int → (List Nat) → (List (List ((Int) × (Int)))) → (List ((Int) × (Int))) → Bool → Option ((((List ((Int) × (Int))) × (Unit)) × (((Int) × (Unit)) × (Unit))) × (Unit))
  | 0, _, _, _, _, _, _ => none
  | k + 1, v70, v69, b0p, b0i, b1, b2 => impl_SolveFracs_t20 n (impl_SolveFracs_l20 n k) v70 v69 b0p b0i b1 b2

noncomputable def impl_SolveFracs_t12 (n : Nat) (h20 : Nat → Int → Int → (List Nat) → (List (List ((Int) × (Int)))) → (List ((Int) × (Int))) → Bool → Option ((((List ((Int) × (Int))) × (Unit)) × (((Int) × (Unit)) × (Unit))) × (Unit))) (g12 : Int → Int → Bool → (List ((Int) × (Int))) → (List Nat) → (List (List ((Int) × (Int)))) → Int → Option ((((List ((Int) × (Int))) × (Unit)) × (((Int) × (Unit)) × (Unit))) × (Unit))) (v54 : Int) (v53 : Int) (b0 : Bool) (b1 : List ((Int) × (Int))) (b2p : List Nat) (b2i : List (List ((Int) × (Int)))) (b3 : Int) : Option ((((List ((Int) × (Int))) × (Unit)) × (((Int) × (Unit)) × (Unit))) × (Unit)) :=
  cond (decide (v54 < v53))
  ((impl_calc_eliminate n v54 v54 b0 ((b2p, b2i)) b1).bind fun r5 =>
    cond (!r5.1.1.1)
    (some (((([], ()), ((4, ()), ())), ())))
    (cond r5.2.1
      (some (((([], ()), ((3, ()), ())), ())))
      (g12 ((IntKind.wrap .i64 (v54 + 1))) v53 r5.2.1 r5.2.2.2.1 r5.2.2.1.1 r5.2.2.1.2 b3)))
  (h20 n 0 b3 b2p b2i b1 b0)

noncomputable def impl_SolveFracs_l12 (n : Nat) : Nat → Int → Int → Bool → (List ((Int) × (Int))) → (List Nat) → (List (List ((Int) × (Int)))) → Int → Option ((((List ((Int) × (Int))) × (Unit)) × (((Int) × (Unit)) × (Unit))) × (Unit))
  | 0, _, _, _, _, _, _, _ => none
  | k + 1, v54, v53, b0, b1, b2p, b2i, b3 => impl_SolveFracs_t12 n (impl_SolveFracs_l20 n) (impl_SolveFracs_l12 n k) v54 v53 b0 b1 b2p b2i b3

noncomputable def impl_SolveFracs_t2 (n : Nat) (h12 : Nat → Int → Int → Bool → (List ((Int) × (Int))) → (List Nat) → (List (List ((Int) × (Int)))) → Int → Option ((((List ((Int) × (Int))) × (Unit)) × (((Int) × (Unit)) × (Unit))) × (Unit))) (g2 : Int → (List (List ((Int) × (Int)))) → (List ((Int) × (Int))) → (List (List ((Int) × (Int)))) → Int → Option ((((List ((Int) × (Int))) × (Unit)) × (((Int) × (Unit)) × (Unit))) × (Unit))) (v20 : Int) (v18 : List (List ((Int) × (Int)))) (v1 : List ((Int) × (Int))) (v0 : List (List ((Int) × (Int)))) (v19 : Int) : Option ((((List ((Int) × (Int))) × (Unit)) × (((Int) × (Unit)) × (Unit))) × (Unit)) :=
  cond (decide (v20 < v19))
  (cond ((decide (0 ≤ v20) && decide (v20 < ((v18.length : Nat) : Int))))
    ((impl_areValid n ((v18.getD (Int.toNat v20) []))).bind fun r1 =>
      cond (!r1.1.1.1)
      (some (((([], ()), ((1, ()), ())), ())))
      (g2 ((IntKind.wrap .i64 (v20 + 1))) v18 v1 v0 v19))
    (none))
  (cond (decide (((v0.length : Nat) : Int) < 1))
    (some (((([], ()), ((2, ()), ())), ())))
    (cond (decide (((v0.length : Nat) : Int) > 7))
      (some (((([], ()), ((2, ()), ())), ())))
      (cond ((((v1.length : Nat) : Int) != ((v0.length : Nat) : Int)))
        (some (((([], ()), ((2, ()), ())), ())))
        ((slices_ContainsFunc_impl_Frac_impl_Frac_at_impl_SolveFracs_1 n v0 (((v0.length : Nat) : Int))).bind fun r2 =>
          cond r2.1.1.1
          (some (((([], ()), ((2, ()), ())), ())))
          ((impl_copyRows n v0).bind fun r3 =>
            (slices_Clone_impl_Frac_impl_Frac n v1).bind fun r4 =>
            h12 n 0 r2.2.1 false r4.1.1.1 r3.1.1.1.1 r3.1.1.1.2 r2.2.1)))))

noncomputable def impl_SolveFracs_l2 (n : Nat) : Nat → Int → (List (List ((Int) × (Int)))) → (List ((Int) × (Int))) → (List (List ((Int) × (Int)))) → Int → Option ((((List ((Int) × (Int))) × (Unit)) × (((Int) × (Unit)) × (Unit))) × (Unit))
  | 0, _, _, _, _, _ => none
  | k + 1, v20, v18, v1, v0, v19 => impl_SolveFracs_t2 n (impl_SolveFracs_l12 n) (impl_SolveFracs_l2 n k) v20 v18 v1 v0 v19

noncomputable def impl_SolveFracs_t (n : Nat) (h2 : Nat → Int → (List (List ((Int) × (Int)))) → (List ((Int) × (Int))) → (List (List ((Int) × (Int)))) → Int → Option ((((List ((Int) × (Int))) × (Unit)) × (((Int) × (Unit)) × (Unit))) × (Unit))) (a0 : List (List ((Int) × (Int)))) (a1 : List ((Int) × (Int))) : Option ((((List ((Int) × (Int))) × (Unit)) × (((Int) × (Unit)) × (Unit))) × (Unit)) :=
  (impl_copyRows n a0).bind fun r0 =>
  cond (decide (((r0.1.1.1.1.length + (a1 :: []).length) * 25) ≤ 70368744177664))
  (h2 n 0 (((rowsAt r0.1.1.1.1 r0.1.1.1.2) ++ (a1 :: []))) a1 a0 (((((rowsAt r0.1.1.1.1 r0.1.1.1.2) ++ (a1 :: [])).length : Nat) : Int)))
  (none)

noncomputable def impl_SolveFracs (n : Nat) (a0 : List (List ((Int) × (Int)))) (a1 : List ((Int) × (Int))) : Option ((((List ((Int) × (Int))) × (Unit)) × (((Int) × (Unit)) × (Unit))) × (Unit)) := impl_SolveFracs_t n (impl_SolveFracs_l2 n) a0 a1

noncomputable def impl_CorrectionsOf_t (n : Nat) (a0 : (Int) × ((List (((Int) × ((Int) × ((Int) × ((Int) × ((Int) × (Int)))))) × (((Int) × (Int)) × (Int)))) × ((Bool) × ((Int) × (Int))))) : Option ((((List ((Int) × (Int))) × (Unit)) × (((Int) × (Unit)) × (Unit))) × (Unit)) :=
  (impl_NormalOf n ((a0.1, (a0.2.1, (a0.2.2.1, (a0.2.2.2.1, a0.2.2.2.2)))))).bind fun r0 =>
  cond ((r0.1.2.2.1.1 != 0))
  (some (((([], ()), ((r0.1.2.2.1.1, ()), ())), ())))
  ((impl_SolveFracs n ((rowsAt r0.1.1.1.1 r0.1.1.1.2)) r0.1.2.1.1).bind fun r1 =>
    cond ((r1.1.2.1.1 != 0))
    (some (((([], ()), ((r1.1.2.1.1, ()), ())), ())))
    (cond ((decide (0 ≤ a0.1) && decide (a0.1 ≤ ((r1.1.1.1.length : Nat) : Int))))
      ((slices_Clone_impl_Frac_impl_Frac n (((r1.1.1.1.drop 0).take ((Int.toNat a0.1) - (Int.toNat 0))))).bind fun r2 =>
        some ((((r2.1.1.1, ()), ((0, ()), ())), ())))
      (none)))

noncomputable def impl_CorrectionsOf (n : Nat) (a0 : (Int) × ((List (((Int) × ((Int) × ((Int) × ((Int) × ((Int) × (Int)))))) × (((Int) × (Int)) × (Int)))) × ((Bool) × ((Int) × (Int))))) : Option ((((List ((Int) × (Int))) × (Unit)) × (((Int) × (Unit)) × (Unit))) × (Unit)) := impl_CorrectionsOf_t n a0

noncomputable def laws_eqFrac_t (n : Nat) (a0 : (Int) × (Int)) (a1 : (Int) × (Int)) : Option ((((Bool) × (Unit)) × (Unit)) × (Unit)) :=
  cond ((a0.1 != a1.1))
  (some ((((false, ()), ()), ())))
  (cond ((a0.2 != a1.2))
    (some ((((false, ()), ()), ())))
    (some ((((true, ()), ()), ()))))

noncomputable def laws_eqFrac (n : Nat) (a0 : (Int) × (Int)) (a1 : (Int) × (Int)) : Option ((((Bool) × (Unit)) × (Unit)) × (Unit)) := laws_eqFrac_t n a0 a1

noncomputable def laws_eqFracS_t4 (n : Nat) (g4 : Int → (List ((Int) × (Int))) → (List ((Int) × (Int))) → Option ((((Bool) × (Unit)) × (Unit)) × (Unit))) (v5 : Int) (v1 : List ((Int) × (Int))) (v0 : List ((Int) × (Int))) : Option ((((Bool) × (Unit)) × (Unit)) × (Unit)) :=
  cond (decide (v5 < ((v0.length : Nat) : Int)))
  (cond ((decide (0 ≤ v5) && decide (v5 < ((v0.length : Nat) : Int))))
    (cond ((decide (0 ≤ v5) && decide (v5 < ((v1.length : Nat) : Int))))
      ((laws_eqFrac n (((v0.getD (Int.toNat v5) (0, 0)).1, (v0.getD (Int.toNat v5) (0, 0)).2)) (((v1.getD (Int.toNat v5) (0, 0)).1, (v1.getD (Int.toNat v5) (0, 0)).2))).bind fun r0 =>
        cond (!r0.1.1.1)
        (some ((((false, ()), ()), ())))
        (g4 ((IntKind.wrap .i64 (v5 + 1))) v1 v0))
      (none))
    (none))
  (some ((((true, ()), ()), ())))

noncomputable def laws_eqFracS_l4 (n : Nat) : Nat → Int → (List ((Int) × (Int))) → (List ((Int) × (Int))) → Option ((((Bool) × (Unit)) × (Unit)) × (Unit))
  | 0, _, _, _ => none
  | k + 1, v5, v1, v0 => laws_eqFracS_t4 n (laws_eqFracS_l4 n k) v5 v1 v0

noncomputable def laws_eqFracS_t (n : Nat) (h4 : Nat → Int → (List ((Int) × (Int))) → (List ((Int) × (Int))) → Option ((((Bool) × (Unit)) × (Unit)) × (Unit))) (a0 : List ((Int) × (Int))) (a1 : List ((Int) × (Int))) : Option ((((Bool) × (Unit)) × (Unit)) × (Unit)) :=
  cond ((((a0.length : Nat) : Int) != ((a1.length : Nat) : Int)))
  (some ((((false, ()), ()), ())))
  (h4 n 0 a1 a0)

noncomputable def laws_eqFracS (n : Nat) (a0 : List ((Int) × (Int))) (a1 : List ((Int) × (Int))) : Option ((((Bool) × (Unit)) × (Unit)) × (Unit)) := laws_eqFracS_t n (laws_eqFracS_l4 n) a0 a1

noncomputable def laws_eqInt8A6_t2 (n : Nat) (g2 : Int → Int → Int → Int → Int → Int → Int → Int → Int → Int → Int → Int → Int → Option ((((Bool) × (Unit)) × (Unit)) × (Unit))) (v5 : Int) (b0_0 : Int) (b0_1 : Int) (b0_2 : Int) (b0_3 : Int) (b0_4 : Int) (b0_5 : Int) (b1_0 : Int) (b1_1 : Int) (b1_2 : Int) (b1_3 : Int) (b1_4 : Int) (b1_5 : Int) : Option ((((Bool) × (Unit)) × (Unit)) × (Unit)) :=
  cond (decide (v5 < 6))
  (cond ((decide (0 ≤ v5) && decide (v5 < 6)))
    (cond ((decide (0 ≤ v5) && decide (v5 < 6)))
      (cond (((cond (Nat.beq (Int.toNat v5) 0) b1_0 (cond (Nat.beq ((Int.toNat v5) - 1) 0) b1_1 (cond (Nat.beq (((Int.toNat v5) - 1) - 1) 0) b1_2 (cond (Nat.beq ((((Int.toNat v5) - 1) - 1) - 1) 0) b1_3 (cond (Nat.beq (((((Int.toNat v5) - 1) - 1) - 1) - 1) 0) b1_4 (cond (Nat.beq ((((((Int.toNat v5) - 1) - 1) - 1) - 1) - 1) 0) b1_5 0)))))) != (cond (Nat.beq (Int.toNat v5) 0) b0_0 (cond (Nat.beq ((Int.toNat v5) - 1) 0) b0_1 (cond (Nat.beq (((Int.toNat v5) - 1) - 1) 0) b0_2 (cond (Nat.beq ((((Int.toNat v5) - 1) - 1) - 1) 0) b0_3 (cond (Nat.beq (((((Int.toNat v5) - 1) - 1) - 1) - 1) 0) b0_4 (cond (Nat.beq ((((((Int.toNat v5) - 1) - 1) - 1) - 1) - 1) 0) b0_5 0))))))))
        (some ((((false, ()), ()), ())))
        (g2 ((IntKind.wrap .i64 (v5 + 1))) b0_0 b0_1 b0_2 b0_3 b0_4 b0_5 b1_0 b1_1 b1_2 b1_3 b1_4 b1_5))
      (none))
    (none))
  (some ((((true, ()), ()), ())))

noncomputable def laws_eqInt8A6_l2 (n : Nat) : Nat → Int → Int → Int → Int → Int → Int → Int → Int → Int → Int → Int → Int → Int → Option ((((Bool) × (Unit)) × (Unit)) × (Unit))
  | 0, _, _, _, _, _, _, _, _, _, _, _, _, _ => none
  | k + 1, v5, b0_0, b0_1, b0_2, b0_3, b0_4, b0_5, b1_0, b1_1, b1_2, b1_3, b1_4, b1_5 => laws_eqInt8A6_t2 n (laws_eqInt8A6_l2 n k) v5 b0_0 b0_1 b0_2 b0_3 b0_4 b0_5 b1_0 b1_1 b1_2 b1_3 b1_4 b1_5

noncomputable def laws_eqInt8A6_t (n : Nat) (h2 : Nat → Int → Int → Int → Int → Int → Int → Int → Int → Int → Int → Int → Int → Int → Option ((((Bool) × (Unit)) × (Unit)) × (Unit))) (a0 : (Int) × ((Int) × ((Int) × ((Int) × ((Int) × (Int)))))) (a1 : (Int) × ((Int) × ((Int) × ((Int) × ((Int) × (Int)))))) : Option ((((Bool) × (Unit)) × (Unit)) × (Unit)) :=
  h2 n 0 a1.1 a1.2.1 a1.2.2.1 a1.2.2.2.1 a1.2.2.2.2.1 a1.2.2.2.2.2 a0.1 a0.2.1 a0.2.2.1 a0.2.2.2.1 a0.2.2.2.2.1 a0.2.2.2.2.2

noncomputable def laws_eqInt8A6 (n : Nat) (a0 : (Int) × ((Int) × ((Int) × ((Int) × ((Int) × (Int)))))) (a1 : (Int) × ((Int) × ((Int) × ((Int) × ((Int) × (Int)))))) : Option ((((Bool) × (Unit)) × (Unit)) × (Unit)) := laws_eqInt8A6_t n (laws_eqInt8A6_l2 n) a0 a1

noncomputable def laws_eqObs_t (n : Nat) (a0 : ((Int) × ((Int) × ((Int) × ((Int) × ((Int) × (Int)))))) × (((Int) × (Int)) × (Int))) (a1 : ((Int) × ((Int) × ((Int) × ((Int) × ((Int) × (Int)))))) × (((Int) × (Int)) × (Int))) : Option ((((Bool) × (Unit)) × (Unit)) × (Unit)) :=
  (laws_eqInt8A6 n ((a0.1.1, (a0.1.2.1, (a0.1.2.2.1, (a0.1.2.2.2.1, (a0.1.2.2.2.2.1, a0.1.2.2.2.2.2)))))) ((a1.1.1, (a1.1.2.1, (a1.1.2.2.1, (a1.1.2.2.2.1, (a1.1.2.2.2.2.1, a1.1.2.2.2.2.2))))))).bind fun r0 =>
  cond (!r0.1.1.1)
  (some ((((false, ()), ()), ())))
  ((laws_eqFrac n ((a0.2.1.1, a0.2.1.2)) ((a1.2.1.1, a1.2.1.2))).bind fun r1 =>
    cond (!r1.1.1.1)
    (some ((((false, ()), ()), ())))
    (cond ((a0.2.2 != a1.2.2))
      (some ((((false, ()), ()), ())))
      (some ((((true, ()), ()), ())))))

noncomputable def laws_eqObs (n : Nat) (a0 : ((Int) × ((Int) × ((Int) × ((Int) × ((Int) × (Int)))))) × (((Int) × (Int)) × (Int))) (a1 : ((Int) × ((Int) × ((Int) × ((Int) × ((Int) × (Int)))))) × (((Int) × (Int)) × (Int))) : Option ((((Bool) × (Unit)) × (Unit)) × (Unit)) := laws_eqObs_t n a0 a1

noncomputable def laws_eqObsS_t4 (n : Nat) (g4 : Int → (List (((Int) × ((Int) × ((Int) × ((Int) × ((Int) × (Int)))))) × (((Int) × (Int)) × (Int)))) → (List (((Int) × ((Int) × ((Int) × ((Int) × ((Int) × (Int)))))) × (((Int) × (Int)) × (Int)))) → Option ((((Bool) × (Unit)) × (Unit)) × (Unit))) (v5 : Int) (v1 : List (((Int) × ((Int) × ((Int) × ((Int) × ((Int) × (Int)))))) × (((Int) × (Int)) × (Int)))) (v0 : List (((Int) × ((Int) × ((Int) × ((Int) × ((Int) × (Int)))))) × (((Int) × (Int)) × (Int)))) : Option ((((Bool) × (Unit)) × (Unit)) × (Unit)) :=
  cond (decide (v5 < ((v0.length : Nat) : Int)))
  (cond ((decide (0 ≤ v5) && decide (v5 < ((v0.length : Nat) : Int))))
    (cond ((decide (0 ≤ v5) && decide (v5 < ((v1.length : Nat) : Int))))
      ((laws_eqObs n ((((v0.getD (Int.toNat v5) ((0, (0, (0, (0, (0, 0))))), ((0, 0), 0))).1.1, ((v0.getD (Int.toNat v5) ((0, (0, (0, (0, (0, 0))))), ((0, 0), 0))).1.2.1, ((v0.getD (Int.toNat v5) ((0, (0, (0, (0, (0, 0))))), ((0, 0), 0))).1.2.2.1, ((v0.getD (Int.toNat v5) ((0, (0, (0, (0, (0, 0))))), ((0, 0), 0))).1.2.2.2.1, ((v0.getD (Int.toNat v5) ((0, (0, (0, (0, (0, 0))))), ((0, 0), 0))).1.2.2.2.2.1, (v0.getD (Int.toNat v5) ((0, (0, (0, (0, (0, 0))))), ((0, 0), 0))).1.2.2.2.2.2))))), (((v0.getD (Int.toNat v5) ((0, (0, (0, (0, (0, 0))))), ((0, 0), 0))).2.1.1, (v0.getD (Int.toNat v5) ((0, (0, (0, (0, (0, 0))))), ((0, 0), 0))).2.1.2), (v0.getD (Int.toNat v5) ((0, (0, (0, (0, (0, 0))))), ((0, 0), 0))).2.2))) ((((v1.getD (Int.toNat v5) ((0, (0, (0, (0, (0, 0))))), ((0, 0), 0))).1.1, ((v1.getD (Int.toNat v5) ((0, (0, (0, (0, (0, 0))))), ((0, 0), 0))).1.2.1, ((v1.getD (Int.toNat v5) ((0, (0, (0, (0, (0, 0))))), ((0, 0), 0))).1.2.2.1, ((v1.getD (Int.toNat v5) ((0, (0, (0, (0, (0, 0))))), ((0, 0), 0))).1.2.2.2.1, ((v1.getD (Int.toNat v5) ((0, (0, (0, (0, (0, 0))))), ((0, 0), 0))).1.2.2.2.2.1, (v1.getD (Int.toNat v5) ((0, (0, (0, (0, (0, 0))))), ((0, 0), 0))).1.2.2.2.2.2))))), (((v1.getD (Int.toNat v5) ((0, (0, (0, (0, (0, 0))))), ((0, 0), 0))).2.1.1, (v1.getD (Int.toNat v5) ((0, (0, (0, (0, (0, 0))))), ((0, 0), 0))).2.1.2), (v1.getD (Int.toNat v5) ((0, (0, (0, (0, (0, 0))))), ((0, 0), 0))).2.2)))).bind fun r0 =>
        cond (!r0.1.1.1)
        (some ((((false, ()), ()), ())))
        (g4 ((IntKind.wrap .i64 (v5 + 1))) v1 v0))
      (none))
    (none))
  (some ((((true, ()), ()), ())))

noncomputable def laws_eqObsS_l4 (n : Nat) : Nat → Int → (List (((Int) × ((Int) × ((Int) × ((Int) × ((Int) × (Int)))))) × (((Int) × (Int)) × (Int)))) → (List (((Int) × ((Int) × ((Int) × ((Int) × ((Int) × (Int)))))) × (((Int) × (Int)) × (Int)))) → Option ((((Bool) × (Unit)) × (Unit)) × (Unit))
  | 0, _, _, _ => none
  | k + 1, v5, v1, v0 => laws_eqObsS_t4 n (laws_eqObsS_l4 n k) v5 v1 v0

noncomputable def laws_eqObsS_t (n : Nat) (h4 : Nat → Int → (List (((Int) × ((Int) × ((Int) × ((Int) × ((Int) × (Int)))))) × (((Int) × (Int)) × (Int)))) → (List (((Int) × ((Int) × ((Int) × ((Int) × ((Int) × (Int)))))) × (((Int) × (Int)) × (Int)))) → Option ((((Bool) × (Unit)) × (Unit)) × (Unit))) (a0 : List (((Int) × ((Int) × ((Int) × ((Int) × ((Int) × (Int)))))) × (((Int) × (Int)) × (Int)))) (a1 : List (((Int) × ((Int) × ((Int) × ((Int) × ((Int) × (Int)))))) × (((Int) × (Int)) × (Int)))) : Option ((((Bool) × (Unit)) × (Unit)) × (Unit)) :=
  cond ((((a0.length : Nat) : Int) != ((a1.length : Nat) : Int)))
  (some ((((false, ()), ()), ())))
  (h4 n 0 a1 a0)

noncomputable def laws_eqObsS (n : Nat) (a0 : List (((Int) × ((Int) × ((Int) × ((Int) × ((Int) × (Int)))))) × (((Int) × (Int)) × (Int)))) (a1 : List (((Int) × ((Int) × ((Int) × ((Int) × ((Int) × (Int)))))) × (((Int) × (Int)) × (Int)))) : Option ((((Bool) × (Unit)) × (Unit)) × (Unit)) := laws_eqObsS_t n (laws_eqObsS_l4 n) a0 a1

noncomputable def laws_eqTable_t (n : Nat) (a0 : (Int) × ((List (((Int) × ((Int) × ((Int) × ((Int) × ((Int) × (Int)))))) × (((Int) × (Int)) × (Int)))) × ((Bool) × ((Int) × (Int))))) (a1 : (Int) × ((List (((Int) × ((Int) × ((Int) × ((Int) × ((Int) × (Int)))))) × (((Int) × (Int)) × (Int)))) × ((Bool) × ((Int) × (Int))))) : Option ((((Bool) × (Unit)) × (Unit)) × (Unit)) :=
  cond ((a0.1 != a1.1))
  (some ((((false, ()), ()), ())))
  ((laws_eqObsS n a0.2.1 a1.2.1).bind fun r0 =>
    cond (!r0.1.1.1)
    (some ((((false, ()), ()), ())))
    (cond ((!(a0.2.2.1 == a1.2.2.1)))
      (some ((((false, ()), ()), ())))
      ((laws_eqFrac n ((a0.2.2.2.1, a0.2.2.2.2)) ((a1.2.2.2.1, a1.2.2.2.2))).bind fun r1 =>
        cond (!r1.1.1.1)
        (some ((((false, ()), ()), ())))
        (some ((((true, ()), ()), ()))))))

noncomputable def laws_eqTable (n : Nat) (a0 : (Int) × ((List (((Int) × ((Int) × ((Int) × ((Int) × ((Int) × (Int)))))) × (((Int) × (Int)) × (Int)))) × ((Bool) × ((Int) × (Int))))) (a1 : (Int) × ((List (((Int) × ((Int) × ((Int) × ((Int) × ((Int) × (Int)))))) × (((Int) × (Int)) × (Int)))) × ((Bool) × ((Int) × (Int))))) : Option ((((Bool) × (Unit)) × (Unit)) × (Unit)) := laws_eqTable_t n a0 a1

noncomputable def laws_heldFracS_t2 (n : Nat) (g2 : Int → (List ((Int) × (Int))) → Int → Option ((((Int) × (Unit)) × (Unit)) × (Unit))) (v5 : Int) (v0 : List ((Int) × (Int))) (v1 : Int) : Option ((((Int) × (Unit)) × (Unit)) × (Unit)) :=
  cond (decide (v5 < ((v0.length : Nat) : Int)))
  (cond ((decide (0 ≤ v5) && decide (v5 < ((v0.length : Nat) : Int))))
    (cond (((v0.getD (Int.toNat v5) (0, 0)).1 != v1))
      (some (((((-1), ()), ()), ())))
      (cond ((decide (0 ≤ v5) && decide (v5 < ((v0.length : Nat) : Int))))
        (cond (((v0.getD (Int.toNat v5) (0, 0)).2 != (IntKind.wrap .i64 (v1 + 1))))
          (some (((((-1), ()), ()), ())))
          (g2 ((IntKind.wrap .i64 (v5 + 1))) v0 ((IntKind.wrap .i64 ((IntKind.wrap .i64 (v1 + 1)) + 1)))))
        (none)))
    (none))
  (some ((((v1, ()), ()), ())))

noncomputable def laws_heldFracS_l2 (n : Nat) : Nat → Int → (List ((Int) × (Int))) → Int → Option ((((Int) × (Unit)) × (Unit)) × (Unit))
  | 0, _, _, _ => none
  | k + 1, v5, v0, v1 => laws_heldFracS_t2 n (laws_heldFracS_l2 n k) v5 v0 v1

noncomputable def laws_heldFracS_t (n : Nat) (h2 : Nat → Int → (List ((Int) × (Int))) → Int → Option ((((Int) × (Unit)) × (Unit)) × (Unit))) (a0 : List ((Int) × (Int))) (a1 : Int) : Option ((((Int) × (Unit)) × (Unit)) × (Unit)) :=
  h2 n 0 a0 a1

noncomputable def laws_heldFracS (n : Nat) (a0 : List ((Int) × (Int))) (a1 : Int) : Option ((((Int) × (Unit)) × (Unit)) × (Unit)) := laws_heldFracS_t n (laws_heldFracS_l2 n) a0 a1

noncomputable def laws_markFracS_t2 (n : Nat) (g2 : Int → Int → (List ((Int) × (Int))) → Option ((((Int) × (Unit)) × (Unit)) × ((List ((Int) × (Int))) × (Unit)))) (v5 : Int) (v1 : Int) (b0 : List ((Int) × (Int))) : Option ((((Int) × (Unit)) × (Unit)) × ((List ((Int) × (Int))) × (Unit))) :=
  cond (decide (v5 < ((b0.length : Nat) : Int)))
  (cond ((decide (0 ≤ v5) && decide (v5 < ((b0.length : Nat) : Int))))
    (cond ((decide (0 ≤ v5) && decide (v5 < (((b0.set (Int.toNat v5) (v1, (b0.getD (Int.toNat v5) (0, 0)).2)).length : Nat) : Int))))
      (g2 ((IntKind.wrap .i64 (v5 + 1))) ((IntKind.wrap .i64 ((IntKind.wrap .i64 (v1 + 1)) + 1))) (((b0.set (Int.toNat v5) (v1, (b0.getD (Int.toNat v5) (0, 0)).2)).set (Int.toNat v5) (((b0.set (Int.toNat v5) (v1, (b0.getD (Int.toNat v5) (0, 0)).2)).getD (Int.toNat v5) (0, 0)).1, (IntKind.wrap .i64 (v1 + 1))))))
      (none))
    (none))
  (some ((((v1, ()), ()), (b0, ()))))

noncomputable def laws_markFracS_l2 (n : Nat) : Nat → Int → Int → (List ((Int) × (Int))) → Option ((((Int) × (Unit)) × (Unit)) × ((List ((Int) × (Int))) × (Unit)))
  | 0, _, _, _ => none
  | k + 1, v5, v1, b0 => laws_markFracS_t2 n (laws_markFracS_l2 n k) v5 v1 b0

noncomputable def laws_markFracS_t (n : Nat) (h2 : Nat → Int → Int → (List ((Int) × (Int))) → Option ((((Int) × (Unit)) × (Unit)) × ((List ((Int) × (Int))) × (Unit)))) (a1 : Int) (b0 : List ((Int) × (Int))) : Option ((((Int) × (Unit)) × (Unit)) × ((List ((Int) × (Int))) × (Unit))) :=
  h2 n 0 a1 b0

noncomputable def laws_markFracS (n : Nat) (a1 : Int) (b0 : List ((Int) × (Int))) : Option ((((Int) × (Unit)) × (Unit)) × ((List ((Int) × (Int))) × (Unit))) := laws_markFracS_t n (laws_markFracS_l2 n) a1 b0

noncomputable def laws_markObsS_t5 (n : Nat) (g2 : Int → Int → (List (((Int) × ((Int) × ((Int) × ((Int) × ((Int) × (Int)))))) × (((Int) × (Int)) × (Int)))) → Option ((((Int) × (Unit)) × (Unit)) × ((List (((Int) × ((Int) × ((Int) × ((Int) × ((Int) × (Int)))))) × (((Int) × (Int)) × (Int)))) × (Unit)))) (g5 : Int → Int → Int → (List (((Int) × ((Int) × ((Int) × ((Int) × ((Int) × (Int)))))) × (((Int) × (Int)) × (Int)))) → Option ((((Int) × (Unit)) × (Unit)) × ((List (((Int) × ((Int) × ((Int) × ((Int) × ((Int) × (Int)))))) × (((Int) × (Int)) × (Int)))) × (Unit)))) (v6 : Int) (v1 : Int) (v5 : Int) (b0 : List (((Int) × ((Int) × ((Int) × ((Int) × ((Int) × (Int)))))) × (((Int) × (Int)) × (Int)))) : Option ((((Int) × (Unit)) × (Unit)) × ((List (((Int) × ((Int) × ((Int) × ((Int) × ((Int) × (Int)))))) × (((Int) × (Int)) × (Int)))) × (Unit))) :=
  cond (decide (v6 < 6))
  (cond ((decide (0 ≤ v5) && decide (v5 < ((b0.length : Nat) : Int))))
    (cond ((decide (0 ≤ v6) && decide (v6 < 6)))
      (letIn ((b0.set (Int.toNat v5) (((cond (Nat.beq (Int.toNat v6) 0) (IntKind.wrap .i8 v1) (b0.getD (Int.toNat v5) ((0, (0, (0, (0, (0, 0))))), ((0, 0), 0))).1.1), ((cond (Nat.beq (Int.toNat v6) 1) (IntKind.wrap .i8 v1) (b0.getD (Int.toNat v5) ((0, (0, (0, (0, (0, 0))))), ((0, 0), 0))).1.2.1), ((cond (Nat.beq (Int.toNat v6) 2) (IntKind.wrap .i8 v1) (b0.getD (Int.toNat v5) ((0, (0, (0, (0, (0, 0))))), ((0, 0), 0))).1.2.2.1), ((cond (Nat.beq (Int.toNat v6) 3) (IntKind.wrap .i8 v1) (b0.getD (Int.toNat v5) ((0, (0, (0, (0, (0, 0))))), ((0, 0), 0))).1.2.2.2.1), ((cond (Nat.beq (Int.toNat v6) 4) (IntKind.wrap .i8 v1) (b0.getD (Int.toNat v5) ((0, (0, (0, (0, (0, 0))))), ((0, 0), 0))).1.2.2.2.2.1), (cond (Nat.beq (Int.toNat v6) 5) (IntKind.wrap .i8 v1) (b0.getD (Int.toNat v5) ((0, (0, (0, (0, (0, 0))))), ((0, 0), 0))).1.2.2.2.2.2)))))), (((b0.getD (Int.toNat v5) ((0, (0, (0, (0, (0, 0))))), ((0, 0), 0))).2.1.1, (b0.getD (Int.toNat v5) ((0, (0, (0, (0, (0, 0))))), ((0, 0), 0))).2.1.2), (b0.getD (Int.toNat v5) ((0, (0, (0, (0, (0, 0))))), ((0, 0), 0))).2.2)))) fun r0 =>
        g5 ((IntKind.wrap .i64 (v6 + 1))) ((IntKind.wrap .i64 (v1 + 1))) v5 r0)
      (none))
    (none))
  (cond ((decide (0 ≤ v5) && decide (v5 < ((b0.length : Nat) : Int))))
    (letIn ((b0.set (Int.toNat v5) (((b0.getD (Int.toNat v5) ((0, (0, (0, (0, (0, 0))))), ((0, 0), 0))).1.1, ((b0.getD (Int.toNat v5) ((0, (0, (0, (0, (0, 0))))), ((0, 0), 0))).1.2.1, ((b0.getD (Int.toNat v5) ((0, (0, (0, (0, (0, 0))))), ((0, 0), 0))).1.2.2.1, ((b0.getD (Int.toNat v5) ((0, (0, (0, (0, (0, 0))))), ((0, 0), 0))).1.2.2.2.1, ((b0.getD (Int.toNat v5) ((0, (0, (0, (0, (0, 0))))), ((0, 0), 0))).1.2.2.2.2.1, (b0.getD (Int.toNat v5) ((0, (0, (0, (0, (0, 0))))), ((0, 0), 0))).1.2.2.2.2.2))))), ((v1, (b0.getD (Int.toNat v5) ((0, (0, (0, (0, (0, 0))))), ((0, 0), 0))).2.1.2), (b0.getD (Int.toNat v5) ((0, (0, (0, (0, (0, 0))))), ((0, 0), 0))).2.2)))) fun r1 =>
      cond ((decide (0 ≤ v5) && decide (v5 < ((r1.length : Nat) : Int))))
      (letIn ((r1.set (Int.toNat v5) (((r1.getD (Int.toNat v5) ((0, (0, (0, (0, (0, 0))))), ((0, 0), 0))).1.1, ((r1.getD (Int.toNat v5) ((0, (0, (0, (0, (0, 0))))), ((0, 0), 0))).1.2.1, ((r1.getD (Int.toNat v5) ((0, (0, (0, (0, (0, 0))))), ((0, 0), 0))).1.2.2.1, ((r1.getD (Int.toNat v5) ((0, (0, (0, (0, (0, 0))))), ((0, 0), 0))).1.2.2.2.1, ((r1.getD (Int.toNat v5) ((0, (0, (0, (0, (0, 0))))), ((0, 0), 0))).1.2.2.2.2.1, (r1.getD (Int.toNat v5) ((0, (0, (0, (0, (0, 0))))), ((0, 0), 0))).1.2.2.2.2.2))))), (((r1.getD (Int.toNat v5) ((0, (0, (0, (0, (0, 0))))), ((0, 0), 0))).2.1.1, (IntKind.wrap .i64 (v1 + 1))), (r1.getD (Int.toNat v5) ((0, (0, (0, (0, (0, 0))))), ((0, 0), 0))).2.2)))) fun r2 =>
        cond ((decide (0 ≤ v5) && decide (v5 < ((r2.length : Nat) : Int))))
        (letIn ((r2.set (Int.toNat v5) (((r2.getD (Int.toNat v5) ((0, (0, (0, (0, (0, 0))))), ((0, 0), 0))).1.1, ((r2.getD (Int.toNat v5) ((0, (0, (0, (0, (0, 0))))), ((0, 0), 0))).1.2.1, ((r2.getD (Int.toNat v5) ((0, (0, (0, (0, (0, 0))))), ((0, 0), 0))).1.2.2.1, ((r2.getD (Int.toNat v5) ((0, (0, (0, (0, (0, 0))))), ((0, 0), 0))).1.2.2.2.1, ((r2.getD (Int.toNat v5) ((0, (0, (0, (0, (0, 0))))), ((0, 0), 0))).1.2.2.2.2.1, (r2.getD (Int.toNat v5) ((0, (0, (0, (0, (0, 0))))), ((0, 0), 0))).1.2.2.2.2.2))))), (((r2.getD (Int.toNat v5) ((0, (0, (0, (0, (0, 0))))), ((0, 0), 0))).2.1.1, (r2.getD (Int.toNat v5) ((0, (0, (0, (0, (0, 0))))), ((0, 0), 0))).2.1.2), (IntKind.wrap .i64 ((IntKind.wrap .i64 (v1 + 1)) + 1)))))) fun r3 =>
          g2 ((IntKind.wrap .i64 ((IntKind.wrap .i64 ((IntKind.wrap .i64 (v1 + 1)) + 1)) + 1))) ((IntKind.wrap .i64 (v5 + 1))) r3)
        (none))
      (none))
    (none))

noncomputable def laws_markObsS_l5 (n : Nat) (g2 : Int → Int → (List (((Int) × ((Int) × ((Int) × ((Int) × ((Int) × (Int)))))) × (((Int) × (Int)) × (Int)))) → Option ((((Int) × (Unit)) × (Unit)) × ((List (((Int) × ((Int) × ((Int) × ((Int) × ((Int) × (Int)))))) × (((Int) × (Int)) × (Int)))) × (Unit)))) : Nat → Int → Int → Int → (List (((Int) × ((Int) × ((Int) × ((Int) × ((Int) × (Int)))))) × (((Int) × (Int)) × (Int)))) → Option ((((Int) × (Unit)) × (Unit)) × ((List (((Int) × ((Int) × ((Int) × ((Int) × ((Int) × (Int)))))) × (((Int) × (Int)) × (Int)))) × (Unit)))
  | 0, _, _, _, _ => none
  | k + 1, v6, v1, v5, b0 => laws_markObsS_t5 n g2 (laws_markObsS_l5 n g2 k) v6 v1 v5 b0

noncomputable def laws_markObsS_t2 (n : Nat) (h5 : Nat → Int → Int → Int → (List (((Int) × ((Int) × ((Int) × ((Int) × ((Int) × (Int)))))) × (((Int) × (Int)) × (Int)))) → Option ((((Int) × (Unit)) × (Unit)) × ((List (((Int) × ((Int) × ((Int) × ((Int) × ((Int) × (Int)))))) × (((Int) × (Int)) × (Int)))) × (Unit)))) (g2 : Int → Int → (List (((Int) × ((Int) × ((Int) × ((Int) × ((Int) × (Int)))))) × (((Int) × (Int)) × (Int)))) → Option ((((Int) × (Unit)) × (Unit)) × ((List (((Int) × ((Int) × ((Int) × ((Int) × ((Int) × (Int)))))) × (((Int) × (Int)) × (Int)))) × (Unit)))) (v1 : Int) (v5 : Int) (b0 : List (((Int) × ((Int) × ((Int) × ((Int) × ((Int) × (Int)))))) × (((Int) × (Int)) × (Int)))) : Option ((((Int) × (Unit)) × (Unit)) × ((List (((Int) × ((Int) × ((Int) × ((Int) × ((Int) × (Int)))))) × (((Int) × (Int)) × (Int)))) × (Unit))) :=
  cond (decide (v5 < ((b0.length : Nat) : Int)))
  (h5 n 0 v1 v5 b0)
  (some ((((v1, ()), ()), (b0, ()))))

noncomputable def laws_markObsS_l2 (n : Nat) : Nat → Int → Int → (List (((Int) × ((Int) × ((Int) × ((Int) × ((Int) × (Int)))))) × (((Int) × (Int)) × (Int)))) → Option ((((Int) × (Unit)) × (Unit)) × ((List (((Int) × ((Int) × ((Int) × ((Int) × ((Int) × (Int)))))) × (((Int) × (Int)) × (Int)))) × (Unit)))
  | 0, _, _, _ => none
  | k + 1, v1, v5, b0 => laws_markObsS_t2 n (laws_markObsS_l5 n (laws_markObsS_l2 n k)) (laws_markObsS_l2 n k) v1 v5 b0

noncomputable def laws_markObsS_t (n : Nat) (h2 : Nat → Int → Int → (List (((Int) × ((Int) × ((Int) × ((Int) × ((Int) × (Int)))))) × (((Int) × (Int)) × (Int)))) → Option ((((Int) × (Unit)) × (Unit)) × ((List (((Int) × ((Int) × ((Int) × ((Int) × ((Int) × (Int)))))) × (((Int) × (Int)) × (Int)))) × (Unit)))) (a1 : Int) (b0 : List (((Int) × ((Int) × ((Int) × ((Int) × ((Int) × (Int)))))) × (((Int) × (Int)) × (Int)))) : Option ((((Int) × (Unit)) × (Unit)) × ((List (((Int) × ((Int) × ((Int) × ((Int) × ((Int) × (Int)))))) × (((Int) × (Int)) × (Int)))) × (Unit))) :=
  h2 n a1 0 b0

noncomputable def laws_markObsS (n : Nat) (a1 : Int) (b0 : List (((Int) × ((Int) × ((Int) × ((Int) × ((Int) × (Int)))))) × (((Int) × (Int)) × (Int)))) : Option ((((Int) × (Unit)) × (Unit)) × ((List (((Int) × ((Int) × ((Int) × ((Int) × ((Int) × (Int)))))) × (((Int) × (Int)) × (Int)))) × (Unit))) := laws_markObsS_t n (laws_markObsS_l2 n) a1 b0

noncomputable def laws_markTable_t (n : Nat) (a0 : (Int) × (((Bool) × ((Int) × (Int))) × (Unit))) (a1 : Int) (b0 : List (((Int) × ((Int) × ((Int) × ((Int) × ((Int) × (Int)))))) × (((Int) × (Int)) × (Int)))) : Option ((((Int) × (Unit)) × (Unit)) × ((List (((Int) × ((Int) × ((Int) × ((Int) × ((Int) × (Int)))))) × (((Int) × (Int)) × (Int)))) × (Unit))) :=
  (laws_markObsS n a1 b0).bind fun r0 =>
  some ((((r0.1.1.1, ()), ()), (r0.2.1, ())))

noncomputable def laws_markTable (n : Nat) (a0 : (Int) × (((Bool) × ((Int) × (Int))) × (Unit))) (a1 : Int) (b0 : List (((Int) × ((Int) × ((Int) × ((Int) × ((Int) × (Int)))))) × (((Int) × (Int)) × (Int)))) : Option ((((Int) × (Unit)) × (Unit)) × ((List (((Int) × ((Int) × ((Int) × ((Int) × ((Int) × (Int)))))) × (((Int) × (Int)) × (Int)))) × (Unit))) := laws_markTable_t n a0 a1 b0

noncomputable def laws_szObsS_t (n : Nat) (a0 : List (((Int) × ((Int) × ((Int) × ((Int) × ((Int) × (Int)))))) × (((Int) × (Int)) × (Int)))) (a1 : Int) : Option ((((Int) × (Unit)) × (Unit)) × (Unit)) :=
  cond (decide ((IntKind.wrap .i64 (a1 - ((a0.length : Nat) : Int))) < 0))
  (some (((((-1), ()), ()), ())))
  (some (((((IntKind.wrap .i64 (a1 - ((a0.length : Nat) : Int))), ()), ()), ())))

noncomputable def laws_szObsS (n : Nat) (a0 : List (((Int) × ((Int) × ((Int) × ((Int) × ((Int) × (Int)))))) × (((Int) × (Int)) × (Int)))) (a1 : Int) : Option ((((Int) × (Unit)) × (Unit)) × (Unit)) := laws_szObsS_t n a0 a1

noncomputable def laws_szTable_t (n : Nat) (a0 : (Int) × ((List (((Int) × ((Int) × ((Int) × ((Int) × ((Int) × (Int)))))) × (((Int) × (Int)) × (Int)))) × ((Bool) × ((Int) × (Int))))) (a1 : Int) : Option ((((Int) × (Unit)) × (Unit)) × (Unit)) :=
  (laws_szObsS n a0.2.1 a1).bind fun r0 =>
  cond (decide (r0.1.1.1 < 0))
  (some (((((-1), ()), ()), ())))
  (some ((((r0.1.1.1, ()), ()), ())))

noncomputable def laws_szTable (n : Nat) (a0 : (Int) × ((List (((Int) × ((Int) × ((Int) × ((Int) × ((Int) × (Int)))))) × (((Int) × (Int)) × (Int)))) × ((Bool) × ((Int) × (Int))))) (a1 : Int) : Option ((((Int) × (Unit)) × (Unit)) × (Unit)) := laws_szTable_t n a0 a1

noncomputable def laws_toFrac_t (n : Nat) (a0 : (Int) × (Int)) : Option (((((Int) × (Int)) × (Unit)) × (Unit)) × (Unit)) :=
  some (((((a0.1, a0.2), ()), ()), ()))

noncomputable def laws_toFrac (n : Nat) (a0 : (Int) × (Int)) : Option (((((Int) × (Int)) × (Unit)) × (Unit)) × (Unit)) := laws_toFrac_t n a0

noncomputable def laws_toInt8A6_t3 (n : Nat) (g3 : Int → Int → Int → Int → Int → Int → Int → Int → Int → Int → Int → Int → Int → Int → Int → Int → Int → Int → Int → Option (((((Int) × ((Int) × ((Int) × ((Int) × ((Int) × (Int)))))) × (Unit)) × (Unit)) × (Unit))) (v4 : Int) (b0_0 : Int) (b0_1 : Int) (b0_2 : Int) (b0_3 : Int) (b0_4 : Int) (b0_5 : Int) (b1_0 : Int) (b1_1 : Int) (b1_2 : Int) (b1_3 : Int) (b1_4 : Int) (b1_5 : Int) (b2_0 : Int) (b2_1 : Int) (b2_2 : Int) (b2_3 : Int) (b2_4 : Int) (b2_5 : Int) : Option (((((Int) × ((Int) × ((Int) × ((Int) × ((Int) × (Int)))))) × (Unit)) × (Unit)) × (Unit)) :=
  cond (decide (v4 < 6))
  (cond ((decide (0 ≤ v4) && decide (v4 < 6)))
    (cond ((decide (0 ≤ v4) && decide (v4 < 6)))
      (g3 ((IntKind.wrap .i64 (v4 + 1))) ((cond (Nat.beq (Int.toNat v4) 0) (cond (Nat.beq (Int.toNat v4) 0) b1_0 (cond (Nat.beq ((Int.toNat v4) - 1) 0) b1_1 (cond (Nat.beq (((Int.toNat v4) - 1) - 1) 0) b1_2 (cond (Nat.beq ((((Int.toNat v4) - 1) - 1) - 1) 0) b1_3 (cond (Nat.beq (((((Int.toNat v4) - 1) - 1) - 1) - 1) 0) b1_4 (cond (Nat.beq ((((((Int.toNat v4) - 1) - 1) - 1) - 1) - 1) 0) b1_5 0)))))) b0_0)) ((cond (Nat.beq (Int.toNat v4) 1) (cond (Nat.beq (Int.toNat v4) 0) b1_0 (cond (Nat.beq ((Int.toNat v4) - 1) 0) b1_1 (cond (Nat.beq (((Int.toNat v4) - 1) - 1) 0) b1_2 (cond (Nat.beq ((((Int.toNat v4) - 1) - 1) - 1) 0) b1_3 (cond (Nat.beq (((((Int.toNat v4) - 1) - 1) - 1) - 1) 0) b1_4 (cond (Nat.beq ((((((Int.toNat v4) - 1) - 1) - 1) - 1) - 1) 0) b1_5 0)))))) b0_1)) ((cond (Nat.beq (Int.toNat v4) 2) (cond (Nat.beq (Int.toNat v4) 0) b1_0 (cond (Nat.beq ((Int.toNat v4) - 1) 0) b1_1 (cond (Nat.beq (((Int.toNat v4) - 1) - 1) 0) b1_2 (cond (Nat.beq ((((Int.toNat v4) - 1) - 1) - 1) 0) b1_3 (cond (Nat.beq (((((Int.toNat v4) - 1) - 1) - 1) - 1) 0) b1_4 (cond (Nat.beq ((((((Int.toNat v4) - 1) - 1) - 1) - 1) - 1) 0) b1_5 0)))))) b0_2)) ((cond (Nat.beq (Int.toNat v4) 3) (cond (Nat.beq (Int.toNat v4) 0) b1_0 (cond (Nat.beq ((Int.toNat v4) - 1) 0) b1_1 (cond (Nat.beq (((Int.toNat v4) - 1) - 1) 0) b1_2 (cond (Nat.beq ((((Int.toNat v4) - 1) - 1) - 1) 0) b1_3 (cond (Nat.beq (((((Int.toNat v4) - 1) - 1) - 1) - 1) 0) b1_4 (cond (Nat.beq ((((((Int.toNat v4) - 1) - 1) - 1) - 1) - 1) 0) b1_5 0)))))) b0_3)) ((cond (Nat.beq (Int.toNat v4) 4) (cond (Nat.beq (Int.toNat v4) 0) b1_0 (cond (Nat.beq ((Int.toNat v4) - 1) 0) b1_1 (cond (Nat.beq (((Int.toNat v4) - 1) - 1) 0) b1_2 (cond (Nat.beq ((((Int.toNat v4) - 1) - 1) - 1) 0) b1_3 (cond (Nat.beq (((((Int.toNat v4) - 1) - 1) - 1) - 1) 0) b1_4 (cond (Nat.beq ((((((Int.toNat v4) - 1) - 1) - 1) - 1) - 1) 0) b1_5 0)))))) b0_4)) ((cond (Nat.beq (Int.toNat v4) 5) (cond (Nat.beq (Int.toNat v4) 0) b1_0 (cond (Nat.beq ((Int.toNat v4) - 1) 0) b1_1 (cond (Nat.beq (((Int.toNat v4) - 1) - 1) 0) b1_2 (cond (Nat.beq ((((Int.toNat v4) - 1) - 1) - 1) 0) b1_3 (cond (Nat.beq (((((Int.toNat v4) - 1) - 1) - 1) - 1) 0) b1_4 (cond (Nat.beq ((((((Int.toNat v4) - 1) - 1) - 1) - 1) - 1) 0) b1_5 0)))))) b0_5)) b1_0 b1_1 b1_2 b1_3 b1_4 b1_5 b2_0 b2_1 b2_2 b2_3 b2_4 b2_5)
      (none))
    (none))
  (some (((((b0_0, (b0_1, (b0_2, (b0_3, (b0_4, b0_5))))), ()), ()), ())))

noncomputable def laws_toInt8A6_l3 (n : Nat) : Nat → Int → Int → Int → Int → Int → Int → Int → Int → Int → Int → Int → Int → Int → Int → Int → Int → Int → Int → Int → Option (((((Int) × ((Int) × ((Int) × ((Int) × ((Int) × (Int)))))) × (Unit)) × (Unit)) × (Unit))
  | 0, _, _, _, _, _, _, _, _, _, _, _, _, _, _, _, _, _, _, _ => none
  | k + 1, v4, b0_0, b0_1, b0_2, b0_3, b0_4, b0_5, b1_0, b1_1, b1_2, b1_3, b1_4, b1_5, b2_0, b2_1, b2_2, b2_3, b2_4, b2_5 => laws_toInt8A6_t3 n (laws_toInt8A6_l3 n k) v4 b0_0 b0_1 b0_2 b0_3 b0_4 b0_5 b1_0 b1_1 b1_2 b1_3 b1_4 b1_5 b2_0 b2_1 b2_2 b2_3 b2_4 b2_5

noncomputable def laws_toInt8A6_t (n : Nat) (h3 : Nat → Int → Int → Int → Int → Int → Int → Int → Int → Int → Int → Int → Int → Int → Int → Int → Int → Int → Int → Int → Option (((((Int) × ((Int) × ((Int) × ((Int) × ((Int) × (Int)))))) × (Unit)) × (Unit)) × (Unit))) (a0 : (Int) × ((Int) × ((Int) × ((Int) × ((Int) × (Int)))))) : Option (((((Int) × ((Int) × ((Int) × ((Int) × ((Int) × (Int)))))) × (Unit)) × (Unit)) × (Unit)) :=
  h3 n 0 0 0 0 0 0 0 a0.1 a0.2.1 a0.2.2.1 a0.2.2.2.1 a0.2.2.2.2.1 a0.2.2.2.2.2 0 0 0 0 0 0

noncomputable def laws_toInt8A6 (n : Nat) (a0 : (Int) × ((Int) × ((Int) × ((Int) × ((Int) × (Int)))))) : Option (((((Int) × ((Int) × ((Int) × ((Int) × ((Int) × (Int)))))) × (Unit)) × (Unit)) × (Unit)) := laws_toInt8A6_t n (laws_toInt8A6_l3 n) a0

noncomputable def laws_toObs_t (n : Nat) (a0 : ((Int) × ((Int) × ((Int) × ((Int) × ((Int) × (Int)))))) × (((Int) × (Int)) × (Int))) : Option ((((((Int) × ((Int) × ((Int) × ((Int) × ((Int) × (Int)))))) × (((Int) × (Int)) × (Int))) × (Unit)) × (Unit)) × (Unit)) :=
  (laws_toInt8A6 n ((a0.1.1, (a0.1.2.1, (a0.1.2.2.1, (a0.1.2.2.2.1, (a0.1.2.2.2.2.1, a0.1.2.2.2.2.2))))))).bind fun r0 =>
  (laws_toFrac n ((a0.2.1.1, a0.2.1.2))).bind fun r1 =>
  some ((((((r0.1.1.1.1, (r0.1.1.1.2.1, (r0.1.1.1.2.2.1, (r0.1.1.1.2.2.2.1, (r0.1.1.1.2.2.2.2.1, r0.1.1.1.2.2.2.2.2))))), ((r1.1.1.1.1, r1.1.1.1.2), a0.2.2)), ()), ()), ()))

noncomputable def laws_toObs (n : Nat) (a0 : ((Int) × ((Int) × ((Int) × ((Int) × ((Int) × (Int)))))) × (((Int) × (Int)) × (Int))) : Option ((((((Int) × ((Int) × ((Int) × ((Int) × ((Int) × (Int)))))) × (((Int) × (Int)) × (Int))) × (Unit)) × (Unit)) × (Unit)) := laws_toObs_t n a0

noncomputable def laws_toObsS_t3 (n : Nat) (g3 : Int → (List (((Int) × ((Int) × ((Int) × ((Int) × ((Int) × (Int)))))) × (((Int) × (Int)) × (Int)))) → (List (((Int) × ((Int) × ((Int) × ((Int) × ((Int) × (Int)))))) × (((Int) × (Int)) × (Int)))) → Option ((((List (((Int) × ((Int) × ((Int) × ((Int) × ((Int) × (Int)))))) × (((Int) × (Int)) × (Int)))) × (Unit)) × (Unit)) × (Unit))) (v4 : Int) (v0 : List (((Int) × ((Int) × ((Int) × ((Int) × ((Int) × (Int)))))) × (((Int) × (Int)) × (Int)))) (b0 : List (((Int) × ((Int) × ((Int) × ((Int) × ((Int) × (Int)))))) × (((Int) × (Int)) × (Int)))) : Option ((((List (((Int) × ((Int) × ((Int) × ((Int) × ((Int) × (Int)))))) × (((Int) × (Int)) × (Int)))) × (Unit)) × (Unit)) × (Unit)) :=
  cond (decide (v4 < ((v0.length : Nat) : Int)))
  (cond ((decide (0 ≤ v4) && decide (v4 < ((v0.length : Nat) : Int))))
    ((laws_toObs n ((((v0.getD (Int.toNat v4) ((0, (0, (0, (0, (0, 0))))), ((0, 0), 0))).1.1, ((v0.getD (Int.toNat v4) ((0, (0, (0, (0, (0, 0))))), ((0, 0), 0))).1.2.1, ((v0.getD (Int.toNat v4) ((0, (0, (0, (0, (0, 0))))), ((0, 0), 0))).1.2.2.1, ((v0.getD (Int.toNat v4) ((0, (0, (0, (0, (0, 0))))), ((0, 0), 0))).1.2.2.2.1, ((v0.getD (Int.toNat v4) ((0, (0, (0, (0, (0, 0))))), ((0, 0), 0))).1.2.2.2.2.1, (v0.getD (Int.toNat v4) ((0, (0, (0, (0, (0, 0))))), ((0, 0), 0))).1.2.2.2.2.2))))), (((v0.getD (Int.toNat v4) ((0, (0, (0, (0, (0, 0))))), ((0, 0), 0))).2.1.1, (v0.getD (Int.toNat v4) ((0, (0, (0, (0, (0, 0))))), ((0, 0), 0))).2.1.2), (v0.getD (Int.toNat v4) ((0, (0, (0, (0, (0, 0))))), ((0, 0), 0))).2.2)))).bind fun r0 =>
      cond ((decide (0 ≤ v4) && decide (v4 < ((b0.length : Nat) : Int))))
      (letIn ((b0.set (Int.toNat v4) ((r0.1.1.1.1.1, (r0.1.1.1.1.2.1, (r0.1.1.1.1.2.2.1, (r0.1.1.1.1.2.2.2.1, (r0.1.1.1.1.2.2.2.2.1, r0.1.1.1.1.2.2.2.2.2))))), ((r0.1.1.1.2.1.1, r0.1.1.1.2.1.2), r0.1.1.1.2.2)))) fun r1 =>
        g3 ((IntKind.wrap .i64 (v4 + 1))) v0 r1)
      (none))
    (none))
  (some ((((b0, ()), ()), ())))

noncomputable def laws_toObsS_l3 (n : Nat) : Nat → Int → (List (((Int) × ((Int) × ((Int) × ((Int) × ((Int) × (Int)))))) × (((Int) × (Int)) × (Int)))) → (List (((Int) × ((Int) × ((Int) × ((Int) × ((Int) × (Int)))))) × (((Int) × (Int)) × (Int)))) → Option ((((List (((Int) × ((Int) × ((Int) × ((Int) × ((Int) × (Int)))))) × (((Int) × (Int)) × (Int)))) × (Unit)) × (Unit)) × (Unit))
  | 0, _, _, _ => none
  | k + 1, v4, v0, b0 => laws_toObsS_t3 n (laws_toObsS_l3 n k) v4 v0 b0

noncomputable def laws_toObsS_t (n : Nat) (h3 : Nat → Int → (List (((Int) × ((Int) × ((Int) × ((Int) × ((Int) × (Int)))))) × (((Int) × (Int)) × (Int)))) → (List (((Int) × ((Int) × ((Int) × ((Int) × ((Int) × (Int)))))) × (((Int) × (Int)) × (Int)))) → Option ((((List (((Int) × ((Int) × ((Int) × ((Int) × ((Int) × (Int)))))) × (((Int) × (Int)) × (Int)))) × (Unit)) × (Unit)) × (Unit))) (a0 : List (((Int) × ((Int) × ((Int) × ((Int) × ((Int) × (Int)))))) × (((Int) × (Int)) × (Int)))) : Option ((((List (((Int) × ((Int) × ((Int) × ((Int) × ((Int) × (Int)))))) × (((Int) × (Int)) × (Int)))) × (Unit)) × (Unit)) × (Unit)) :=
  cond ((((((a0.length : Nat) : Int) == ((a0.length : Nat) : Int)) && decide (0 ≤ ((a0.length : Nat) : Int))) && decide (((Int.toNat ((a0.length : Nat) : Int)) * 33) ≤ 70368744177664)))
  (h3 n 0 a0 ((List.replicate (Int.toNat ((a0.length : Nat) : Int)) (((0, (0, (0, (0, (0, 0))))), ((0, 0), 0)) : ((Int) × ((Int) × ((Int) × ((Int) × ((Int) × (Int)))))) × (((Int) × (Int)) × (Int))))))
  (none)

noncomputable def laws_toObsS (n : Nat) (a0 : List (((Int) × ((Int) × ((Int) × ((Int) × ((Int) × (Int)))))) × (((Int) × (Int)) × (Int)))) : Option ((((List (((Int) × ((Int) × ((Int) × ((Int) × ((Int) × (Int)))))) × (((Int) × (Int)) × (Int)))) × (Unit)) × (Unit)) × (Unit)) := laws_toObsS_t n (laws_toObsS_l3 n) a0

noncomputable def laws_toTable_t (n : Nat) (a0 : (Int) × ((List (((Int) × ((Int) × ((Int) × ((Int) × ((Int) × (Int)))))) × (((Int) × (Int)) × (Int)))) × ((Bool) × ((Int) × (Int))))) : Option ((((Int) × ((List (((Int) × ((Int) × ((Int) × ((Int) × ((Int) × (Int)))))) × (((Int) × (Int)) × (Int)))) × (((Bool) × ((Int) × (Int))) × (Unit)))) × (Unit)) × (Unit)) :=
  (laws_toObsS n a0.2.1).bind fun r0 =>
  (laws_toFrac n ((a0.2.2.2.1, a0.2.2.2.2))).bind fun r1 =>
  some ((((a0.1, (r0.1.1.1, ((a0.2.2.1, (r1.1.1.1.1, r1.1.1.1.2)), ()))), ()), ()))

noncomputable def laws_toTable (n : Nat) (a0 : (Int) × ((List (((Int) × ((Int) × ((Int) × ((Int) × ((Int) × (Int)))))) × (((Int) × (Int)) × (Int)))) × ((Bool) × ((Int) × (Int))))) : Option ((((Int) × ((List (((Int) × ((Int) × ((Int) × ((Int) × ((Int) × (Int)))))) × (((Int) × (Int)) × (Int)))) × (((Bool) × ((Int) × (Int))) × (Unit)))) × (Unit)) × (Unit)) := laws_toTable_t n a0

noncomputable def spec_l01Abs_t (n : Nat) (a0 : Int) : Option ((((Int) × (Unit)) × (Unit)) × (Unit)) :=
  cond (decide (a0 < 0))
  (some (((((IntKind.wrap .i64 (0 - a0)), ()), ()), ())))
  (some ((((a0, ()), ()), ())))

noncomputable def spec_l01Abs (n : Nat) (a0 : Int) : Option ((((Int) × (Unit)) × (Unit)) × (Unit)) := spec_l01Abs_t n a0

noncomputable def spec_l01Gcd_t1 (n : Nat) (g1 : Int → Int → Option ((((Int) × (Unit)) × (Unit)) × (Unit))) (v1 : Int) (v0 : Int) : Option ((((Int) × (Unit)) × (Unit)) × (Unit)) :=
  cond ((v1 != 0))
  (cond ((v1 != 0))
    (g1 ((Int.tmod v0 v1)) v1)
    (none))
  (some ((((v0, ()), ()), ())))

noncomputable def spec_l01Gcd_l1 (n : Nat) : Nat → Int → Int → Option ((((Int) × (Unit)) × (Unit)) × (Unit))
  | 0, _, _ => none
  | k + 1, v1, v0 => spec_l01Gcd_t1 n (spec_l01Gcd_l1 n k) v1 v0

noncomputable def spec_l01Gcd_t (n : Nat) (h1 : Nat → Int → Int → Option ((((Int) × (Unit)) × (Unit)) × (Unit))) (a0 : Int) (a1 : Int) : Option ((((Int) × (Unit)) × (Unit)) × (Unit)) :=
  h1 n a1 a0

noncomputable def spec_l01Gcd (n : Nat) (a0 : Int) (a1 : Int) : Option ((((Int) × (Unit)) × (Unit)) × (Unit)) := spec_l01Gcd_t n (spec_l01Gcd_l1 n) a0 a1

noncomputable def spec_l00In_t (n : Nat) (a0 : Int) (a1 : Int) (a2 : Int) : Option ((((Bool) × (Unit)) × (Unit)) × (Unit)) :=
  cond (decide (a0 ≥ a1))
  (some ((((decide (a0 ≤ a2), ()), ()), ())))
  (some ((((false, ()), ()), ())))

noncomputable def spec_l00In (n : Nat) (a0 : Int) (a1 : Int) (a2 : Int) : Option ((((Bool) × (Unit)) × (Unit)) × (Unit)) := spec_l00In_t n a0 a1 a2

noncomputable def spec_l01Ok_t (n : Nat) (a0 : (Int) × (Int)) : Option ((((Bool) × (Unit)) × (Unit)) × (Unit)) :=
  (spec_l00In n a0.2 1 1000000000).bind fun r0 =>
  cond r0.1.1.1
  ((spec_l00In n a0.1 (-1000000000) 1000000000).bind fun r1 =>
    cond r1.1.1.1
    ((spec_l01Abs n a0.1).bind fun r2 =>
      (spec_l01Gcd n r2.1.1.1 a0.2).bind fun r3 =>
      some (((((r3.1.1.1 == 1), ()), ()), ())))
    (some ((((false, ()), ()), ()))))
  (some ((((false, ()), ()), ())))

noncomputable def spec_l01Ok (n : Nat) (a0 : (Int) × (Int)) : Option ((((Bool) × (Unit)) × (Unit)) × (Unit)) := spec_l01Ok_t n a0

noncomputable def spec_l01Reduced_t (n : Nat) (a0 : Int) (a1 : Int) : Option (((((Int) × (Int)) × (Unit)) × (((Int) × (Unit)) × (Unit))) × (Unit)) :=
  (spec_l01Abs n a0).bind fun r0 =>
  (spec_l01Abs n a1).bind fun r1 =>
  (spec_l01Gcd n r0.1.1.1 r1.1.1.1).bind fun r2 =>
  cond ((r2.1.1.1 != 0))
  (cond ((r2.1.1.1 != 0))
    (cond (decide ((IntKind.wrap .i64 (Int.tdiv a1 r2.1.1.1)) < 0))
      ((spec_l01Ok n (((IntKind.wrap .i64 (0 - (IntKind.wrap .i64 (Int.tdiv a0 r2.1.1.1)))), (IntKind.wrap .i64 (0 - (IntKind.wrap .i64 (Int.tdiv a1 r2.1.1.1))))))).bind fun r3 =>
        cond (!r3.1.1.1)
        (some (((((0, 0), ()), ((3, ()), ())), ())))
        (some ((((((IntKind.wrap .i64 (0 - (IntKind.wrap .i64 (Int.tdiv a0 r2.1.1.1)))), (IntKind.wrap .i64 (0 - (IntKind.wrap .i64 (Int.tdiv a1 r2.1.1.1))))), ()), ((0, ()), ())), ()))))
      ((spec_l01Ok n (((IntKind.wrap .i64 (Int.tdiv a0 r2.1.1.1)), (IntKind.wrap .i64 (Int.tdiv a1 r2.1.1.1))))).bind fun r4 =>
        cond (!r4.1.1.1)
        (some (((((0, 0), ()), ((3, ()), ())), ())))
        (some ((((((IntKind.wrap .i64 (Int.tdiv a0 r2.1.1.1)), (IntKind.wrap .i64 (Int.tdiv a1 r2.1.1.1))), ()), ((0, ()), ())), ())))))
    (none))
  (none)

noncomputable def spec_l01Reduced (n : Nat) (a0 : Int) (a1 : Int) : Option (((((Int) × (Int)) × (Unit)) × (((Int) × (Unit)) × (Unit))) × (Unit)) := spec_l01Reduced_t n a0 a1

noncomputable def spec_l01Add_t (n : Nat) (a0 : (Int) × (Int)) (a1 : (Int) × (Int)) : Option (((((Int) × (Int)) × (Unit)) × (((Int) × (Unit)) × (Unit))) × (Unit)) :=
  (spec_l01Reduced n ((IntKind.wrap .i64 ((IntKind.wrap .i64 (a0.1 * a1.2)) + (IntKind.wrap .i64 (a1.1 * a0.2))))) ((IntKind.wrap .i64 (a0.2 * a1.2)))).bind fun r0 =>
  some (((((r0.1.1.1.1, r0.1.1.1.2), ()), ((r0.1.2.1.1, ()), ())), ()))

noncomputable def spec_l01Add (n : Nat) (a0 : (Int) × (Int)) (a1 : (Int) × (Int)) : Option (((((Int) × (Int)) × (Unit)) × (((Int) × (Unit)) × (Unit))) × (Unit)) := spec_l01Add_t n a0 a1

noncomputable def spec_l01Mul_t (n : Nat) (a0 : (Int) × (Int)) (a1 : (Int) × (Int)) : Option (((((Int) × (Int)) × (Unit)) × (((Int) × (Unit)) × (Unit))) × (Unit)) :=
  (spec_l01Reduced n ((IntKind.wrap .i64 (a0.1 * a1.1))) ((IntKind.wrap .i64 (a0.2 * a1.2)))).bind fun r0 =>
  some (((((r0.1.1.1.1, r0.1.1.1.2), ()), ((r0.1.2.1.1, ()), ())), ()))

noncomputable def spec_l01Mul (n : Nat) (a0 : (Int) × (Int)) (a1 : (Int) × (Int)) : Option (((((Int) × (Int)) × (Unit)) × (((Int) × (Unit)) × (Unit))) × (Unit)) := spec_l01Mul_t n a0 a1

noncomputable def spec_l01Whole_t (n : Nat) (a0 : Int) : Option (((((Int) × (Int)) × (Unit)) × (Unit)) × (Unit)) :=
  some (((((a0, 1), ()), ()), ()))

noncomputable def spec_l01Whole (n : Nat) (a0 : Int) : Option (((((Int) × (Int)) × (Unit)) × (Unit)) × (Unit)) := spec_l01Whole_t n a0

noncomputable def spec_l04Normal_t12 (n : Nat) (g4 : Int → Int → (List (((Int) × ((Int) × ((Int) × ((Int) × ((Int) × (Int)))))) × (((Int) × (Int)) × (Int)))) → Bool → Int → Int → (List ((Int) × (Int))) → (List (List ((Int) × (Int)))) → Option ((((List (List ((Int) × (Int)))) × (Unit)) × (((List ((Int) × (Int))) × (Unit)) × (((Int) × (Unit)) × (Unit)))) × (((Int) × ((List (((Int) × ((Int) × ((Int) × ((Int) × ((Int) × (Int)))))) × (((Int) × (Int)) × (Int)))) × ((Bool) × ((Int) × (Int))))) × (Unit)))) (g8 : Int → Int → Int → (List (((Int) × ((Int) × ((Int) × ((Int) × ((Int) × (Int)))))) × (((Int) × (Int)) × (Int)))) → Bool → Int → Int → (List ((Int) × (Int))) → (List ((Int) × (Int))) → (List (List ((Int) × (Int)))) → Option ((((List (List ((Int) × (Int)))) × (Unit)) × (((List ((Int) × (Int))) × (Unit)) × (((Int) × (Unit)) × (Unit)))) × (((Int) × ((List (((Int) × ((Int) × ((Int) × ((Int) × ((Int) × (Int)))))) × (((Int) × (Int)) × (Int)))) × ((Bool) × ((Int) × (Int))))) × (Unit)))) (g12 : Int → Int → Int → Int → Int → (List (((Int) × ((Int) × ((Int) × ((Int) × ((Int) × (Int)))))) × (((Int) × (Int)) × (Int)))) → Bool → Int → Int → (List ((Int) × (Int))) → (List (List ((Int) × (Int)))) → (List ((Int) × (Int))) → Option ((((List (List ((Int) × (Int)))) × (Unit)) × (((List ((Int) × (Int))) × (Unit)) × (((Int) × (Unit)) × (Unit)))) × (((Int) × ((List (((Int) × ((Int) × ((Int) × ((Int) × ((Int) × (Int)))))) × (((Int) × (Int)) × (Int)))) × ((Bool) × ((Int) × (Int))))) × (Unit)))) (v11 : Int) (v9 : Int) (v7 : Int) (v10 : Int) (b0_0 : Int) (b0_1 : List (((Int) × ((Int) × ((Int) × ((Int) × ((Int) × (Int)))))) × (((Int) × (Int)) × (Int)))) (b0_2 : Bool) (b0_3 : Int) (b0_4 : Int) (b1 : List ((Int) × (Int))) (b2 : List (List ((Int) × (Int)))) (b3 : List ((Int) × (Int))) : Option ((((List (List ((Int) × (Int)))) × (Unit)) × (((List ((Int) × (Int))) × (Unit)) × (((Int) × (Unit)) × (Unit)))) × (((Int) × ((List (((Int) × ((Int) × ((Int) × ((Int) × ((Int) × (Int)))))) × (((Int) × (Int)) × (Int)))) × ((Bool) × ((Int) × (Int))))) × (Unit))) :=
  cond (decide (v11 < ((b0_1.length : Nat) : Int)))
  (cond ((decide (0 ≤ v11) && decide (v11 < ((b0_1.length : Nat) : Int))))
    (cond ((decide (0 ≤ v11) && decide (v11 < ((b0_1.length : Nat) : Int))))
      (cond ((decide (0 ≤ v7) && decide (v7 < 6)))
        (cond ((decide (0 ≤ v11) && decide (v11 < ((b0_1.length : Nat) : Int))))
          (cond ((decide (0 ≤ v9) && decide (v9 < 6)))
            (g12 ((IntKind.wrap .i64 (v11 + 1))) v9 v7 ((IntKind.wrap .i64 (v10 + (IntKind.wrap .i64 ((IntKind.wrap .i64 ((b0_1.getD (Int.toNat v11) ((0, (0, (0, (0, (0, 0))))), ((0, 0), 0))).2.2 * (IntKind.wrap .i64 (cond (Nat.beq (Int.toNat v7) 0) (b0_1.getD (Int.toNat v11) ((0, (0, (0, (0, (0, 0))))), ((0, 0), 0))).1.1 (cond (Nat.beq ((Int.toNat v7) - 1) 0) (b0_1.getD (Int.toNat v11) ((0, (0, (0, (0, (0, 0))))), ((0, 0), 0))).1.2.1 (cond (Nat.beq (((Int.toNat v7) - 1) - 1) 0) (b0_1.getD (Int.toNat v11) ((0, (0, (0, (0, (0, 0))))), ((0, 0), 0))).1.2.2.1 (cond (Nat.beq ((((Int.toNat v7) - 1) - 1) - 1) 0) (b0_1.getD (Int.toNat v11) ((0, (0, (0, (0, (0, 0))))), ((0, 0), 0))).1.2.2.2.1 (cond (Nat.beq (((((Int.toNat v7) - 1) - 1) - 1) - 1) 0) (b0_1.getD (Int.toNat v11) ((0, (0, (0, (0, (0, 0))))), ((0, 0), 0))).1.2.2.2.2.1 (cond (Nat.beq ((((((Int.toNat v7) - 1) - 1) - 1) - 1) - 1) 0) (b0_1.getD (Int.toNat v11) ((0, (0, (0, (0, (0, 0))))), ((0, 0), 0))).1.2.2.2.2.2 0))))))))) * (IntKind.wrap .i64 (cond (Nat.beq (Int.toNat v9) 0) (b0_1.getD (Int.toNat v11) ((0, (0, (0, (0, (0, 0))))), ((0, 0), 0))).1.1 (cond (Nat.beq ((Int.toNat v9) - 1) 0) (b0_1.getD (Int.toNat v11) ((0, (0, (0, (0, (0, 0))))), ((0, 0), 0))).1.2.1 (cond (Nat.beq (((Int.toNat v9) - 1) - 1) 0) (b0_1.getD (Int.toNat v11) ((0, (0, (0, (0, (0, 0))))), ((0, 0), 0))).1.2.2.1 (cond (Nat.beq ((((Int.toNat v9) - 1) - 1) - 1) 0) (b0_1.getD (Int.toNat v11) ((0, (0, (0, (0, (0, 0))))), ((0, 0), 0))).1.2.2.2.1 (cond (Nat.beq (((((Int.toNat v9) - 1) - 1) - 1) - 1) 0) (b0_1.getD (Int.toNat v11) ((0, (0, (0, (0, (0, 0))))), ((0, 0), 0))).1.2.2.2.2.1 (cond (Nat.beq ((((((Int.toNat v9) - 1) - 1) - 1) - 1) - 1) 0) (b0_1.getD (Int.toNat v11) ((0, (0, (0, (0, (0, 0))))), ((0, 0), 0))).1.2.2.2.2.2 0)))))))))))) b0_0 b0_1 b0_2 b0_3 b0_4 b1 b2 b3)
            (none))
          (none))
        (none))
      (none))
    (none))
  ((spec_l01Whole n v10).bind fun r0 =>
    cond (decide (((b3.length + ((r0.1.1.1.1, r0.1.1.1.2) :: []).length) * 17) ≤ 70368744177664))
    (g8 ((IntKind.wrap .i64 (v9 + 1))) v7 b0_0 b0_1 b0_2 b0_3 b0_4 ((b3 ++ ((r0.1.1.1.1, r0.1.1.1.2) :: []))) b1 b2)
    (none))

noncomputable def spec_l04Normal_l12 (n : Nat) (g4 : Int → Int → (List (((Int) × ((Int) × ((Int) × ((Int) × ((Int) × (Int)))))) × (((Int) × (Int)) × (Int)))) → Bool → Int → Int → (List ((Int) × (Int))) → (List (List ((Int) × (Int)))) → Option ((((List (List ((Int) × (Int)))) × (Unit)) × (((List ((Int) × (Int))) × (Unit)) × (((Int) × (Unit)) × (Unit)))) × (((Int) × ((List (((Int) × ((Int) × ((Int) × ((Int) × ((Int) × (Int)))))) × (((Int) × (Int)) × (Int)))) × ((Bool) × ((Int) × (Int))))) × (Unit)))) (g8 : Int → Int → Int → (List (((Int) × ((Int) × ((Int) × ((Int) × ((Int) × (Int)))))) × (((Int) × (Int)) × (Int)))) → Bool → Int → Int → (List ((Int) × (Int))) → (List ((Int) × (Int))) → (List (List ((Int) × (Int)))) → Option ((((List (List ((Int) × (Int)))) × (Unit)) × (((List ((Int) × (Int))) × (Unit)) × (((Int) × (Unit)) × (Unit)))) × (((Int) × ((List (((Int) × ((Int) × ((Int) × ((Int) × ((Int) × (Int)))))) × (((Int) × (Int)) × (Int)))) × ((Bool) × ((Int) × (Int))))) × (Unit)))) : Nat → Int → Int → Int → Int → Int → (List (((Int) × ((Int) × ((Int) × ((Int) × ((Int) × (Int)))))) × (((Int) × (Int)) × (Int)))) → Bool → Int → Int → (List ((Int) × (Int))) → (List (List ((Int) × (Int)))) → (List ((Int) × (Int))) → Option ((((List (List ((Int) × (Int)))) × (Unit)) × (((List ((Int) × (Int))) × (Unit)) × (((Int) × (Unit)) × (Unit)))) × (((Int) × ((List (((Int) × ((Int) × ((Int) × ((Int) × ((Int) × (Int)))))) × (((Int) × (Int)) × (Int)))) × ((Bool) × ((Int) × (Int))))) × (Unit)))
  | 0, _, _, _, _, _, _, _, _, _, _, _, _ => none
  | k + 1, v11, v9, v7, v10, b0_0, b0_1, b0_2, b0_3, b0_4, b1, b2, b3 => spec_l04Normal_t12 n g4 g8 (spec_l04Normal_l12 n g4 g8 k) v11 v9 v7 v10 b0_0 b0_1 b0_2 b0_3 b0_4 b1 b2 b3

noncomputable def spec_l04Normal_t18 (n : Nat) (g4 : Int → Int → (List (((Int) × ((Int) × ((Int) × ((Int) × ((Int) × (Int)))))) × (((Int) × (Int)) × (Int)))) → Bool → Int → Int → (List ((Int) × (Int))) → (List (List ((Int) × (Int)))) → Option ((((List (List ((Int) × (Int)))) × (Unit)) × (((List ((Int) × (Int))) × (Unit)) × (((Int) × (Unit)) × (Unit)))) × (((Int) × ((List (((Int) × ((Int) × ((Int) × ((Int) × ((Int) × (Int)))))) × (((Int) × (Int)) × (Int)))) × ((Bool) × ((Int) × (Int))))) × (Unit)))) (g18 : Int → Int → Int → (List (((Int) × ((Int) × ((Int) × ((Int) × ((Int) × (Int)))))) × (((Int) × (Int)) × (Int)))) → Bool → Int → Int → Int → Int → (List ((Int) × (Int))) → (List (List ((Int) × (Int)))) → (List ((Int) × (Int))) → Option ((((List (List ((Int) × (Int)))) × (Unit)) × (((List ((Int) × (Int))) × (Unit)) × (((Int) × (Unit)) × (Unit)))) × (((Int) × ((List (((Int) × ((Int) × ((Int) × ((Int) × ((Int) × (Int)))))) × (((Int) × (Int)) × (Int)))) × ((Bool) × ((Int) × (Int))))) × (Unit)))) (v13 : Int) (v7 : Int) (b0_0 : Int) (b0_1 : List (((Int) × ((Int) × ((Int) × ((Int) × ((Int) × (Int)))))) × (((Int) × (Int)) × (Int)))) (b0_2 : Bool) (b0_3 : Int) (b0_4 : Int) (b1_0 : Int) (b1_1 : Int) (b2 : List ((Int) × (Int))) (b3 : List (List ((Int) × (Int)))) (b4 : List ((Int) × (Int))) : Option ((((List (List ((Int) × (Int)))) × (Unit)) × (((List ((Int) × (Int))) × (Unit)) × (((Int) × (Unit)) × (Unit)))) × (((Int) × ((List (((Int) × ((Int) × ((Int) × ((Int) × ((Int) × (Int)))))) × (((Int) × (Int)) × (Int)))) × ((Bool) × ((Int) × (Int))))) × (Unit))) :=
  cond (decide (v13 < ((b0_1.length : Nat) : Int)))
  (cond ((decide (0 ≤ v13) && decide (v13 < ((b0_1.length : Nat) : Int))))
    (cond ((decide (0 ≤ v13) && decide (v13 < ((b0_1.length : Nat) : Int))))
      (cond ((decide (0 ≤ v7) && decide (v7 < 6)))
        ((spec_l01Whole n ((IntKind.wrap .i64 ((b0_1.getD (Int.toNat v13) ((0, (0, (0, (0, (0, 0))))), ((0, 0), 0))).2.2 * (IntKind.wrap .i64 (cond (Nat.beq (Int.toNat v7) 0) (b0_1.getD (Int.toNat v13) ((0, (0, (0, (0, (0, 0))))), ((0, 0), 0))).1.1 (cond (Nat.beq ((Int.toNat v7) - 1) 0) (b0_1.getD (Int.toNat v13) ((0, (0, (0, (0, (0, 0))))), ((0, 0), 0))).1.2.1 (cond (Nat.beq (((Int.toNat v7) - 1) - 1) 0) (b0_1.getD (Int.toNat v13) ((0, (0, (0, (0, (0, 0))))), ((0, 0), 0))).1.2.2.1 (cond (Nat.beq ((((Int.toNat v7) - 1) - 1) - 1) 0) (b0_1.getD (Int.toNat v13) ((0, (0, (0, (0, (0, 0))))), ((0, 0), 0))).1.2.2.2.1 (cond (Nat.beq (((((Int.toNat v7) - 1) - 1) - 1) - 1) 0) (b0_1.getD (Int.toNat v13) ((0, (0, (0, (0, (0, 0))))), ((0, 0), 0))).1.2.2.2.2.1 (cond (Nat.beq ((((((Int.toNat v7) - 1) - 1) - 1) - 1) - 1) 0) (b0_1.getD (Int.toNat v13) ((0, (0, (0, (0, (0, 0))))), ((0, 0), 0))).1.2.2.2.2.2 0))))))))))).bind fun r2 =>
          cond ((decide (0 ≤ v13) && decide (v13 < ((b0_1.length : Nat) : Int))))
          ((spec_l01Mul n ((r2.1.1.1.1, r2.1.1.1.2)) (((b0_1.getD (Int.toNat v13) ((0, (0, (0, (0, (0, 0))))), ((0, 0), 0))).2.1.1, (b0_1.getD (Int.toNat v13) ((0, (0, (0, (0, (0, 0))))), ((0, 0), 0))).2.1.2))).bind fun r3 =>
            cond ((r3.1.2.1.1 != 0))
            (some (((([], ()), (([], ()), ((r3.1.2.1.1, ()), ()))), ((b0_0, (b0_1, (b0_2, (b0_3, b0_4)))), ()))))
            ((spec_l01Add n ((b1_0, b1_1)) ((r3.1.1.1.1, r3.1.1.1.2))).bind fun r4 =>
              cond ((r4.1.2.1.1 != 0))
              (some (((([], ()), (([], ()), ((r4.1.2.1.1, ()), ()))), ((b0_0, (b0_1, (b0_2, (b0_3, b0_4)))), ()))))
              (g18 ((IntKind.wrap .i64 (v13 + 1))) v7 b0_0 b0_1 b0_2 b0_3 b0_4 r4.1.1.1.1 r4.1.1.1.2 b2 b3 b4)))
          (none))
        (none))
      (none))
    (none))
  (cond b0_2
    ((spec_l01Whole n 1).bind fun r5 =>
      cond (decide (((b4.length + ((r5.1.1.1.1, r5.1.1.1.2) :: []).length) * 17) ≤ 70368744177664))
      (cond (decide (((b3.length + ((b4 ++ ((r5.1.1.1.1, r5.1.1.1.2) :: [])) :: []).length) * 25) ≤ 70368744177664))
        (cond (decide (((b2.length + ((b1_0, b1_1) :: []).length) * 17) ≤ 70368744177664))
          (g4 ((IntKind.wrap .i64 (v7 + 1))) b0_0 b0_1 b0_2 b0_3 b0_4 ((b2 ++ ((b1_0, b1_1) :: []))) ((b3 ++ ((b4 ++ ((r5.1.1.1.1, r5.1.1.1.2) :: [])) :: []))))
          (none))
        (none))
      (none))
    (cond (decide (((b3.length + (b4 :: []).length) * 25) ≤ 70368744177664))
      (cond (decide (((b2.length + ((b1_0, b1_1) :: []).length) * 17) ≤ 70368744177664))
        (g4 ((IntKind.wrap .i64 (v7 + 1))) b0_0 b0_1 b0_2 b0_3 b0_4 ((b2 ++ ((b1_0, b1_1) :: []))) ((b3 ++ (b4 :: []))))
        (none))
      (none)))

noncomputable def spec_l04Normal_l18 (n : Nat) (g4 : Int → Int → (List (((Int) × ((Int) × ((Int) × ((Int) × ((Int) × (Int)))))) × (((Int) × (Int)) × (Int)))) → Bool → Int → Int → (List ((Int) × (Int))) → (List (List ((Int) × (Int)))) → Option ((((List (List ((Int) × (Int)))) × (Unit)) × (((List ((Int) × (Int))) × (Unit)) × (((Int) × (Unit)) × (Unit)))) × (((Int) × ((List (((Int) × ((Int) × ((Int) × ((Int) × ((Int) × (Int)))))) × (((Int) × (Int)) × (Int)))) × ((Bool) × ((Int) × (Int))))) × (Unit)))) : Nat → Int → Int → Int → (List (((Int) × ((Int) × ((Int) × ((Int) × ((Int) × (Int)))))) × (((Int) × (Int)) × (Int)))) → Bool → Int → Int → Int → Int → (List ((Int) × (Int))) → (List (List ((Int) × (Int)))) → (List ((Int) × (Int))) → Option ((((List (List ((Int) × (Int)))) × (Unit)) × (((List ((Int) × (Int))) × (Unit)) × (((Int) × (Unit)) × (Unit)))) × (((Int) × ((List (((Int) × ((Int) × ((Int) × ((Int) × ((Int) × (Int)))))) × (((Int) × (Int)) × (Int)))) × ((Bool) × ((Int) × (Int))))) × (Unit)))
  | 0, _, _, _, _, _, _, _, _, _, _, _, _ => none
  | k + 1, v13, v7, b0_0, b0_1, b0_2, b0_3, b0_4, b1_0, b1_1, b2, b3, b4 => spec_l04Normal_t18 n g4 (spec_l04Normal_l18 n g4 k) v13 v7 b0_0 b0_1 b0_2 b0_3 b0_4 b1_0 b1_1 b2 b3 b4

noncomputable def spec_l04Normal_t8 (n : Nat) (h12 : Nat → Int → Int → Int → Int → Int → (List (((Int) × ((Int) × ((Int) × ((Int) × ((Int) × (Int)))))) × (((Int) × (Int)) × (Int)))) → Bool → Int → Int → (List ((Int) × (Int))) → (List (List ((Int) × (Int)))) → (List ((Int) × (Int))) → Option ((((List (List ((Int) × (Int)))) × (Unit)) × (((List ((Int) × (Int))) × (Unit)) × (((Int) × (Unit)) × (Unit)))) × (((Int) × ((List (((Int) × ((Int) × ((Int) × ((Int) × ((Int) × (Int)))))) × (((Int) × (Int)) × (Int)))) × ((Bool) × ((Int) × (Int))))) × (Unit)))) (h18 : Nat → Int → Int → Int → (List (((Int) × ((Int) × ((Int) × ((Int) × ((Int) × (Int)))))) × (((Int) × (Int)) × (Int)))) → Bool → Int → Int → Int → Int → (List ((Int) × (Int))) → (List (List ((Int) × (Int)))) → (List ((Int) × (Int))) → Option ((((List (List ((Int) × (Int)))) × (Unit)) × (((List ((Int) × (Int))) × (Unit)) × (((Int) × (Unit)) × (Unit)))) × (((Int) × ((List (((Int) × ((Int) × ((Int) × ((Int) × ((Int) × (Int)))))) × (((Int) × (Int)) × (Int)))) × ((Bool) × ((Int) × (Int))))) × (Unit)))) (g4 : Int → Int → (List (((Int) × ((Int) × ((Int) × ((Int) × ((Int) × (Int)))))) × (((Int) × (Int)) × (Int)))) → Bool → Int → Int → (List ((Int) × (Int))) → (List (List ((Int) × (Int)))) → Option ((((List (List ((Int) × (Int)))) × (Unit)) × (((List ((Int) × (Int))) × (Unit)) × (((Int) × (Unit)) × (Unit)))) × (((Int) × ((List (((Int) × ((Int) × ((Int) × ((Int) × ((Int) × (Int)))))) × (((Int) × (Int)) × (Int)))) × ((Bool) × ((Int) × (Int))))) × (Unit)))) (g8 : Int → Int → Int → (List (((Int) × ((Int) × ((Int) × ((Int) × ((Int) × (Int)))))) × (((Int) × (Int)) × (Int)))) → Bool → Int → Int → (List ((Int) × (Int))) → (List ((Int) × (Int))) → (List (List ((Int) × (Int)))) → Option ((((List (List ((Int) × (Int)))) × (Unit)) × (((List ((Int) × (Int))) × (Unit)) × (((Int) × (Unit)) × (Unit)))) × (((Int) × ((List (((Int) × ((Int) × ((Int) × ((Int) × ((Int) × (Int)))))) × (((Int) × (Int)) × (Int)))) × ((Bool) × ((Int) × (Int))))) × (Unit)))) (v9 : Int) (v7 : Int) (b0_0 : Int) (b0_1 : List (((Int) × ((Int) × ((Int) × ((Int) × ((Int) × (Int)))))) × (((Int) × (Int)) × (Int)))) (b0_2 : Bool) (b0_3 : Int) (b0_4 : Int) (b1 : List ((Int) × (Int))) (b2 : List ((Int) × (Int))) (b3 : List (List ((Int) × (Int)))) : Option ((((List (List ((Int) × (Int)))) × (Unit)) × (((List ((Int) × (Int))) × (Unit)) × (((Int) × (Unit)) × (Unit)))) × (((Int) × ((List (((Int) × ((Int) × ((Int) × ((Int) × ((Int) × (Int)))))) × (((Int) × (Int)) × (Int)))) × ((Bool) × ((Int) × (Int))))) × (Unit))) :=
  cond (decide (v9 < b0_0))
  (h12 n 0 v9 v7 0 b0_0 b0_1 b0_2 b0_3 b0_4 b2 b3 b1)
  ((spec_l01Whole n 0).bind fun r1 =>
    h18 n 0 v7 b0_0 b0_1 b0_2 b0_3 b0_4 r1.1.1.1.1 r1.1.1.1.2 b2 b3 b1)

noncomputable def spec_l04Normal_l8 (n : Nat) (g4 : Int → Int → (List (((Int) × ((Int) × ((Int) × ((Int) × ((Int) × (Int)))))) × (((Int) × (Int)) × (Int)))) → Bool → Int → Int → (List ((Int) × (Int))) → (List (List ((Int) × (Int)))) → Option ((((List (List ((Int) × (Int)))) × (Unit)) × (((List ((Int) × (Int))) × (Unit)) × (((Int) × (Unit)) × (Unit)))) × (((Int) × ((List (((Int) × ((Int) × ((Int) × ((Int) × ((Int) × (Int)))))) × (((Int) × (Int)) × (Int)))) × ((Bool) × ((Int) × (Int))))) × (Unit)))) : Nat → Int → Int → Int → (List (((Int) × ((Int) × ((Int) × ((Int) × ((Int) × (Int)))))) × (((Int) × (Int)) × (Int)))) → Bool → Int → Int → (List ((Int) × (Int))) → (List ((Int) × (Int))) → (List (List ((Int) × (Int)))) → Option ((((List (List ((Int) × (Int)))) × (Unit)) × (((List ((Int) × (Int))) × (Unit)) × (((Int) × (Unit)) × (Unit)))) × (((Int) × ((List (((Int) × ((Int) × ((Int) × ((Int) × ((Int) × (Int)))))) × (((Int) × (Int)) × (Int)))) × ((Bool) × ((Int) × (Int))))) × (Unit)))
  | 0, _, _, _, _, _, _, _, _, _, _ => none
  | k + 1, v9, v7, b0_0, b0_1, b0_2, b0_3, b0_4, b1, b2, b3 => spec_l04Normal_t8 n (spec_l04Normal_l12 n g4 (spec_l04Normal_l8 n g4 k)) (spec_l04Normal_l18 n g4) g4 (spec_l04Normal_l8 n g4 k) v9 v7 b0_0 b0_1 b0_2 b0_3 b0_4 b1 b2 b3

noncomputable def spec_l04Normal_t34 (n : Nat) (g34 : Int → Int → (List (((Int) × ((Int) × ((Int) × ((Int) × ((Int) × (Int)))))) × (((Int) × (Int)) × (Int)))) → Bool → Int → Int → (List ((Int) × (Int))) → (List ((Int) × (Int))) → (List (List ((Int) × (Int)))) → Option ((((List (List ((Int) × (Int)))) × (Unit)) × (((List ((Int) × (Int))) × (Unit)) × (((Int) × (Unit)) × (Unit)))) × (((Int) × ((List (((Int) × ((Int) × ((Int) × ((Int) × ((Int) × (Int)))))) × (((Int) × (Int)) × (Int)))) × ((Bool) × ((Int) × (Int))))) × (Unit)))) (v19 : Int) (b0_0 : Int) (b0_1 : List (((Int) × ((Int) × ((Int) × ((Int) × ((Int) × (Int)))))) × (((Int) × (Int)) × (Int)))) (b0_2 : Bool) (b0_3 : Int) (b0_4 : Int) (b1 : List ((Int) × (Int))) (b2 : List ((Int) × (Int))) (b3 : List (List ((Int) × (Int)))) : Option ((((List (List ((Int) × (Int)))) × (Unit)) × (((List ((Int) × (Int))) × (Unit)) × (((Int) × (Unit)) × (Unit)))) × (((Int) × ((List (((Int) × ((Int) × ((Int) × ((Int) × ((Int) × (Int)))))) × (((Int) × (Int)) × (Int)))) × ((Bool) × ((Int) × (Int))))) × (Unit))) :=
  cond (decide (v19 < b0_0))
  ((spec_l01Whole n 1).bind fun r6 =>
    cond (decide (((b1.length + ((r6.1.1.1.1, r6.1.1.1.2) :: []).length) * 17) ≤ 70368744177664))
    (g34 ((IntKind.wrap .i64 (v19 + 1))) b0_0 b0_1 b0_2 b0_3 b0_4 ((b1 ++ ((r6.1.1.1.1, r6.1.1.1.2) :: []))) b2 b3)
    (none))
  ((spec_l01Whole n 0).bind fun r7 =>
    cond (decide (((b1.length + ((r7.1.1.1.1, r7.1.1.1.2) :: []).length) * 17) ≤ 70368744177664))
    (cond (decide (((b3.length + ((b1 ++ ((r7.1.1.1.1, r7.1.1.1.2) :: [])) :: []).length) * 25) ≤ 70368744177664))
      (cond (decide (((b2.length + ((b0_3, b0_4) :: []).length) * 17) ≤ 70368744177664))
        (some (((((b3 ++ ((b1 ++ ((r7.1.1.1.1, r7.1.1.1.2) :: [])) :: [])), ()), (((b2 ++ ((b0_3, b0_4) :: [])), ()), ((0, ()), ()))), ((b0_0, (b0_1, (b0_2, (b0_3, b0_4)))), ()))))
        (none))
      (none))
    (none))

noncomputable def spec_l04Normal_l34 (n : Nat) : Nat → Int → Int → (List (((Int) × ((Int) × ((Int) × ((Int) × ((Int) × (Int)))))) × (((Int) × (Int)) × (Int)))) → Bool → Int → Int → (List ((Int) × (Int))) → (List ((Int) × (Int))) → (List (List ((Int) × (Int)))) → Option ((((List (List ((Int) × (Int)))) × (Unit)) × (((List ((Int) × (Int))) × (Unit)) × (((Int) × (Unit)) × (Unit)))) × (((Int) × ((List (((Int) × ((Int) × ((Int) × ((Int) × ((Int) × (Int)))))) × (((Int) × (Int)) × (Int)))) × ((Bool) × ((Int) × (Int))))) × (Unit)))
  | 0, _, _, _, _, _, _, _, _, _ => none
  | k + 1, v19, b0_0, b0_1, b0_2, b0_3, b0_4, b1, b2, b3 => spec_l04Normal_t34 n (spec_l04Normal_l34 n k) v19 b0_0 b0_1 b0_2 b0_3 b0_4 b1 b2 b3

noncomputable def spec_l04Normal_t4 (n : Nat) (h8 : Nat → Int → Int → Int → (List (((Int) × ((Int) × ((Int) × ((Int) × ((Int) × (Int)))))) × (((Int) × (Int)) × (Int)))) → Bool → Int → Int → (List ((Int) × (Int))) → (List ((Int) × (Int))) → (List (List ((Int) × (Int)))) → Option ((((List (List ((Int) × (Int)))) × (Unit)) × (((List ((Int) × (Int))) × (Unit)) × (((Int) × (Unit)) × (Unit)))) × (((Int) × ((List (((Int) × ((Int) × ((Int) × ((Int) × ((Int) × (Int)))))) × (((Int) × (Int)) × (Int)))) × ((Bool) × ((Int) × (Int))))) × (Unit)))) (h34 : Nat → Int → Int → (List (((Int) × ((Int) × ((Int) × ((Int) × ((Int) × (Int)))))) × (((Int) × (Int)) × (Int)))) → Bool → Int → Int → (List ((Int) × (Int))) → (List ((Int) × (Int))) → (List (List ((Int) × (Int)))) → Option ((((List (List ((Int) × (Int)))) × (Unit)) × (((List ((Int) × (Int))) × (Unit)) × (((Int) × (Unit)) × (Unit)))) × (((Int) × ((List (((Int) × ((Int) × ((Int) × ((Int) × ((Int) × (Int)))))) × (((Int) × (Int)) × (Int)))) × ((Bool) × ((Int) × (Int))))) × (Unit)))) (g4 : Int → Int → (List (((Int) × ((Int) × ((Int) × ((Int) × ((Int) × (Int)))))) × (((Int) × (Int)) × (Int)))) → Bool → Int → Int → (List ((Int) × (Int))) → (List (List ((Int) × (Int)))) → Option ((((List (List ((Int) × (Int)))) × (Unit)) × (((List ((Int) × (Int))) × (Unit)) × (((Int) × (Unit)) × (Unit)))) × (((Int) × ((List (((Int) × ((Int) × ((Int) × ((Int) × ((Int) × (Int)))))) × (((Int) × (Int)) × (Int)))) × ((Bool) × ((Int) × (Int))))) × (Unit)))) (v7 : Int) (b0_0 : Int) (b0_1 : List (((Int) × ((Int) × ((Int) × ((Int) × ((Int) × (Int)))))) × (((Int) × (Int)) × (Int)))) (b0_2 : Bool) (b0_3 : Int) (b0_4 : Int) (b1 : List ((Int) × (Int))) (b2 : List (List ((Int) × (Int)))) : Option ((((List (List ((Int) × (Int)))) × (Unit)) × (((List ((Int) × (Int))) × (Unit)) × (((Int) × (Unit)) × (Unit)))) × (((Int) × ((List (((Int) × ((Int) × ((Int) × ((Int) × ((Int) × (Int)))))) × (((Int) × (Int)) × (Int)))) × ((Bool) × ((Int) × (Int))))) × (Unit))) :=
  cond (decide (v7 < b0_0))
  (h8 n 0 v7 b0_0 b0_1 b0_2 b0_3 b0_4 [] b1 b2)
  (cond b0_2
    (h34 n 0 b0_0 b0_1 b0_2 b0_3 b0_4 [] b1 b2)
    (some ((((b2, ()), ((b1, ()), ((0, ()), ()))), ((b0_0, (b0_1, (b0_2, (b0_3, b0_4)))), ())))))

noncomputable def spec_l04Normal_l4 (n : Nat) : Nat → Int → Int → (List (((Int) × ((Int) × ((Int) × ((Int) × ((Int) × (Int)))))) × (((Int) × (Int)) × (Int)))) → Bool → Int → Int → (List ((Int) × (Int))) → (List (List ((Int) × (Int)))) → Option ((((List (List ((Int) × (Int)))) × (Unit)) × (((List ((Int) × (Int))) × (Unit)) × (((Int) × (Unit)) × (Unit)))) × (((Int) × ((List (((Int) × ((Int) × ((Int) × ((Int) × ((Int) × (Int)))))) × (((Int) × (Int)) × (Int)))) × ((Bool) × ((Int) × (Int))))) × (Unit)))
  | 0, _, _, _, _, _, _, _, _ => none
  | k + 1, v7, b0_0, b0_1, b0_2, b0_3, b0_4, b1, b2 => spec_l04Normal_t4 n (spec_l04Normal_l8 n (spec_l04Normal_l4 n k)) (spec_l04Normal_l34 n) (spec_l04Normal_l4 n k) v7 b0_0 b0_1 b0_2 b0_3 b0_4 b1 b2

noncomputable def spec_l04Normal_t (n : Nat) (h4 : Nat → Int → Int → (List (((Int) × ((Int) × ((Int) × ((Int) × ((Int) × (Int)))))) × (((Int) × (Int)) × (Int)))) → Bool → Int → Int → (List ((Int) × (Int))) → (List (List ((Int) × (Int)))) → Option ((((List (List ((Int) × (Int)))) × (Unit)) × (((List ((Int) × (Int))) × (Unit)) × (((Int) × (Unit)) × (Unit)))) × (((Int) × ((List (((Int) × ((Int) × ((Int) × ((Int) × ((Int) × (Int)))))) × (((Int) × (Int)) × (Int)))) × ((Bool) × ((Int) × (Int))))) × (Unit)))) (b0 : (Int) × ((List (((Int) × ((Int) × ((Int) × ((Int) × ((Int) × (Int)))))) × (((Int) × (Int)) × (Int)))) × ((Bool) × ((Int) × (Int))))) : Option ((((List (List ((Int) × (Int)))) × (Unit)) × (((List ((Int) × (Int))) × (Unit)) × (((Int) × (Unit)) × (Unit)))) × (((Int) × ((List (((Int) × ((Int) × ((Int) × ((Int) × ((Int) × (Int)))))) × (((Int) × (Int)) × (Int)))) × ((Bool) × ((Int) × (Int))))) × (Unit))) :=
  h4 n 0 b0.1 b0.2.1 b0.2.2.1 b0.2.2.2.1 b0.2.2.2.2 [] []

noncomputable def spec_l04Normal (n : Nat) (b0 : (Int) × ((List (((Int) × ((Int) × ((Int) × ((Int) × ((Int) × (Int)))))) × (((Int) × (Int)) × (Int)))) × ((Bool) × ((Int) × (Int))))) : Option ((((List (List ((Int) × (Int)))) × (Unit)) × (((List ((Int) × (Int))) × (Unit)) × (((Int) × (Unit)) × (Unit)))) × (((Int) × ((List (((Int) × ((Int) × ((Int) × ((Int) × ((Int) × (Int)))))) × (((Int) × (Int)) × (Int)))) × ((Bool) × ((Int) × (Int))))) × (Unit))) := spec_l04Normal_t n (spec_l04Normal_l4 n) b0

noncomputable def spec_l04Obs_e_t3 (n : Nat) (g3 : Int → Bool → Int → ((Int) × ((Int) × ((Int) × ((Int) × ((Int) × (Int)))))) × (((Int) × (Int)) × (Int)) → Option ((((Bool) × (Unit)) × (Unit)) × (Unit))) (v6 : Int) (v5 : Bool) (v1 : Int) (v0 : ((Int) × ((Int) × ((Int) × ((Int) × ((Int) × (Int)))))) × (((Int) × (Int)) × (Int))) : Option ((((Bool) × (Unit)) × (Unit)) × (Unit)) :=
  cond (decide (v6 < 6))
  (cond ((decide (0 ≤ v6) && decide (v6 < 6)))
    (cond (decide ((cond (Nat.beq (Int.toNat v6) 0) v0.1.1 (cond (Nat.beq ((Int.toNat v6) - 1) 0) v0.1.2.1 (cond (Nat.beq (((Int.toNat v6) - 1) - 1) 0) v0.1.2.2.1 (cond (Nat.beq ((((Int.toNat v6) - 1) - 1) - 1) 0) v0.1.2.2.2.1 (cond (Nat.beq (((((Int.toNat v6) - 1) - 1) - 1) - 1) 0) v0.1.2.2.2.2.1 (cond (Nat.beq ((((((Int.toNat v6) - 1) - 1) - 1) - 1) - 1) 0) v0.1.2.2.2.2.2 0)))))) < (-3)))
      (some ((((false, ()), ()), ())))
      (cond (decide ((cond (Nat.beq (Int.toNat v6) 0) v0.1.1 (cond (Nat.beq ((Int.toNat v6) - 1) 0) v0.1.2.1 (cond (Nat.beq (((Int.toNat v6) - 1) - 1) 0) v0.1.2.2.1 (cond (Nat.beq ((((Int.toNat v6) - 1) - 1) - 1) 0) v0.1.2.2.2.1 (cond (Nat.beq (((((Int.toNat v6) - 1) - 1) - 1) - 1) 0) v0.1.2.2.2.2.1 (cond (Nat.beq ((((((Int.toNat v6) - 1) - 1) - 1) - 1) - 1) 0) v0.1.2.2.2.2.2 0)))))) > 3))
        (some ((((false, ()), ()), ())))
        (cond (decide (v6 ≥ v1))
          (cond (((cond (Nat.beq (Int.toNat v6) 0) v0.1.1 (cond (Nat.beq ((Int.toNat v6) - 1) 0) v0.1.2.1 (cond (Nat.beq (((Int.toNat v6) - 1) - 1) 0) v0.1.2.2.1 (cond (Nat.beq ((((Int.toNat v6) - 1) - 1) - 1) 0) v0.1.2.2.2.1 (cond (Nat.beq (((((Int.toNat v6) - 1) - 1) - 1) - 1) 0) v0.1.2.2.2.2.1 (cond (Nat.beq ((((((Int.toNat v6) - 1) - 1) - 1) - 1) - 1) 0) v0.1.2.2.2.2.2 0)))))) != 0))
            (some ((((false, ()), ()), ())))
            (cond v5
              (g3 ((IntKind.wrap .i64 (v6 + 1))) true v1 v0)
              (g3 ((IntKind.wrap .i64 (v6 + 1))) (((cond (Nat.beq (Int.toNat v6) 0) v0.1.1 (cond (Nat.beq ((Int.toNat v6) - 1) 0) v0.1.2.1 (cond (Nat.beq (((Int.toNat v6) - 1) - 1) 0) v0.1.2.2.1 (cond (Nat.beq ((((Int.toNat v6) - 1) - 1) - 1) 0) v0.1.2.2.2.1 (cond (Nat.beq (((((Int.toNat v6) - 1) - 1) - 1) - 1) 0) v0.1.2.2.2.2.1 (cond (Nat.beq ((((((Int.toNat v6) - 1) - 1) - 1) - 1) - 1) 0) v0.1.2.2.2.2.2 0)))))) != 0)) v1 v0)))
          (cond v5
            (g3 ((IntKind.wrap .i64 (v6 + 1))) true v1 v0)
            (g3 ((IntKind.wrap .i64 (v6 + 1))) (((cond (Nat.beq (Int.toNat v6) 0) v0.1.1 (cond (Nat.beq ((Int.toNat v6) - 1) 0) v0.1.2.1 (cond (Nat.beq (((Int.toNat v6) - 1) - 1) 0) v0.1.2.2.1 (cond (Nat.beq ((((Int.toNat v6) - 1) - 1) - 1) 0) v0.1.2.2.2.1 (cond (Nat.beq (((((Int.toNat v6) - 1) - 1) - 1) - 1) 0) v0.1.2.2.2.2.1 (cond (Nat.beq ((((((Int.toNat v6) - 1) - 1) - 1) - 1) - 1) 0) v0.1.2.2.2.2.2 0)))))) != 0)) v1 v0)))))
    (none))
  (cond v5
    ((spec_l01Ok n ((v0.2.1.1, v0.2.1.2))).bind fun r0 =>
      cond r0.1.1.1
      ((spec_l00In n v0.2.2 1 100).bind fun r1 =>
        some ((((r1.1.1.1, ()), ()), ())))
      (some ((((false, ()), ()), ()))))
    (some ((((false, ()), ()), ()))))

noncomputable def spec_l04Obs_e_l3 (n : Nat) : Nat → Int → Bool → Int → ((Int) × ((Int) × ((Int) × ((Int) × ((Int) × (Int)))))) × (((Int) × (Int)) × (Int)) → Option ((((Bool) × (Unit)) × (Unit)) × (Unit))
  | 0, _, _, _, _ => none
  | k + 1, v6, v5, v1, v0 => spec_l04Obs_e_t3 n (spec_l04Obs_e_l3 n k) v6 v5 v1 v0

noncomputable def spec_l04Obs_e_t (n : Nat) (h3 : Nat → Int → Bool → Int → ((Int) × ((Int) × ((Int) × ((Int) × ((Int) × (Int)))))) × (((Int) × (Int)) × (Int)) → Option ((((Bool) × (Unit)) × (Unit)) × (Unit))) (a0 : ((Int) × ((Int) × ((Int) × ((Int) × ((Int) × (Int)))))) × (((Int) × (Int)) × (Int))) (a1 : Int) : Option ((((Bool) × (Unit)) × (Unit)) × (Unit)) :=
  h3 n 0 false a1 a0

noncomputable def spec_l04Obs_e (n : Nat) (a0 : ((Int) × ((Int) × ((Int) × ((Int) × ((Int) × (Int)))))) × (((Int) × (Int)) × (Int))) (a1 : Int) : Option ((((Bool) × (Unit)) × (Unit)) × (Unit)) := spec_l04Obs_e_t n (spec_l04Obs_e_l3 n) a0 a1

noncomputable def spec_l04Ok_t4 (n : Nat) (g4 : Int → Int → (List (((Int) × ((Int) × ((Int) × ((Int) × ((Int) × (Int)))))) × (((Int) × (Int)) × (Int)))) → Bool → Int → Int → Option ((((Bool) × (Unit)) × (Unit)) × (((Int) × ((List (((Int) × ((Int) × ((Int) × ((Int) × ((Int) × (Int)))))) × (((Int) × (Int)) × (Int)))) × ((Bool) × ((Int) × (Int))))) × (Unit)))) (v3 : Int) (b0_0 : Int) (b0_1 : List (((Int) × ((Int) × ((Int) × ((Int) × ((Int) × (Int)))))) × (((Int) × (Int)) × (Int)))) (b0_2 : Bool) (b0_3 : Int) (b0_4 : Int) : Option ((((Bool) × (Unit)) × (Unit)) × (((Int) × ((List (((Int) × ((Int) × ((Int) × ((Int) × ((Int) × (Int)))))) × (((Int) × (Int)) × (Int)))) × ((Bool) × ((Int) × (Int))))) × (Unit))) :=
  cond (decide (v3 < ((b0_1.length : Nat) : Int)))
  (cond ((decide (0 ≤ v3) && decide (v3 < ((b0_1.length : Nat) : Int))))
    ((spec_l04Obs_e n ((((b0_1.getD (Int.toNat v3) ((0, (0, (0, (0, (0, 0))))), ((0, 0), 0))).1.1, ((b0_1.getD (Int.toNat v3) ((0, (0, (0, (0, (0, 0))))), ((0, 0), 0))).1.2.1, ((b0_1.getD (Int.toNat v3) ((0, (0, (0, (0, (0, 0))))), ((0, 0), 0))).1.2.2.1, ((b0_1.getD (Int.toNat v3) ((0, (0, (0, (0, (0, 0))))), ((0, 0), 0))).1.2.2.2.1, ((b0_1.getD (Int.toNat v3) ((0, (0, (0, (0, (0, 0))))), ((0, 0), 0))).1.2.2.2.2.1, (b0_1.getD (Int.toNat v3) ((0, (0, (0, (0, (0, 0))))), ((0, 0), 0))).1.2.2.2.2.2))))), (((b0_1.getD (Int.toNat v3) ((0, (0, (0, (0, (0, 0))))), ((0, 0), 0))).2.1.1, (b0_1.getD (Int.toNat v3) ((0, (0, (0, (0, (0, 0))))), ((0, 0), 0))).2.1.2), (b0_1.getD (Int.toNat v3) ((0, (0, (0, (0, (0, 0))))), ((0, 0), 0))).2.2))) b0_0).bind fun r2 =>
      cond (!r2.1.1.1)
      (some ((((false, ()), ()), ((b0_0, (b0_1, (b0_2, (b0_3, b0_4)))), ()))))
      (g4 ((IntKind.wrap .i64 (v3 + 1))) b0_0 b0_1 b0_2 b0_3 b0_4))
    (none))
  (some ((((true, ()), ()), ((b0_0, (b0_1, (b0_2, (b0_3, b0_4)))), ()))))

noncomputable def spec_l04Ok_l4 (n : Nat) : Nat → Int → Int → (List (((Int) × ((Int) × ((Int) × ((Int) × ((Int) × (Int)))))) × (((Int) × (Int)) × (Int)))) → Bool → Int → Int → Option ((((Bool) × (Unit)) × (Unit)) × (((Int) × ((List (((Int) × ((Int) × ((Int) × ((Int) × ((Int) × (Int)))))) × (((Int) × (Int)) × (Int)))) × ((Bool) × ((Int) × (Int))))) × (Unit)))
  | 0, _, _, _, _, _, _ => none
  | k + 1, v3, b0_0, b0_1, b0_2, b0_3, b0_4 => spec_l04Ok_t4 n (spec_l04Ok_l4 n k) v3 b0_0 b0_1 b0_2 b0_3 b0_4

noncomputable def spec_l04Ok_t (n : Nat) (h4 : Nat → Int → Int → (List (((Int) × ((Int) × ((Int) × ((Int) × ((Int) × (Int)))))) × (((Int) × (Int)) × (Int)))) → Bool → Int → Int → Option ((((Bool) × (Unit)) × (Unit)) × (((Int) × ((List (((Int) × ((Int) × ((Int) × ((Int) × ((Int) × (Int)))))) × (((Int) × (Int)) × (Int)))) × ((Bool) × ((Int) × (Int))))) × (Unit)))) (b0 : (Int) × ((List (((Int) × ((Int) × ((Int) × ((Int) × ((Int) × (Int)))))) × (((Int) × (Int)) × (Int)))) × ((Bool) × ((Int) × (Int))))) : Option ((((Bool) × (Unit)) × (Unit)) × (((Int) × ((List (((Int) × ((Int) × ((Int) × ((Int) × ((Int) × (Int)))))) × (((Int) × (Int)) × (Int)))) × ((Bool) × ((Int) × (Int))))) × (Unit))) :=
  (spec_l00In n b0.1 1 6).bind fun r0 =>
  cond (!r0.1.1.1)
  (some ((((false, ()), ()), ((b0.1, (b0.2.1, (b0.2.2.1, (b0.2.2.2.1, b0.2.2.2.2)))), ()))))
  (cond (decide (((b0.2.1.length : Nat) : Int) > 24))
    (some ((((false, ()), ()), ((b0.1, (b0.2.1, (b0.2.2.1, (b0.2.2.2.1, b0.2.2.2.2)))), ()))))
    ((spec_l01Ok n ((b0.2.2.2.1, b0.2.2.2.2))).bind fun r1 =>
      cond (!r1.1.1.1)
      (some ((((false, ()), ()), ((b0.1, (b0.2.1, (b0.2.2.1, (b0.2.2.2.1, b0.2.2.2.2)))), ()))))
      (cond (!b0.2.2.1)
        (cond ((b0.2.2.2.1 != 0))
          (some ((((false, ()), ()), ((b0.1, (b0.2.1, (b0.2.2.1, (b0.2.2.2.1, b0.2.2.2.2)))), ()))))
          (h4 n 0 b0.1 b0.2.1 b0.2.2.1 b0.2.2.2.1 b0.2.2.2.2))
        (h4 n 0 b0.1 b0.2.1 b0.2.2.1 b0.2.2.2.1 b0.2.2.2.2))))

noncomputable def spec_l04Ok (n : Nat) (b0 : (Int) × ((List (((Int) × ((Int) × ((Int) × ((Int) × ((Int) × (Int)))))) × (((Int) × (Int)) × (Int)))) × ((Bool) × ((Int) × (Int))))) : Option ((((Bool) × (Unit)) × (Unit)) × (((Int) × ((List (((Int) × ((Int) × ((Int) × ((Int) × ((Int) × (Int)))))) × (((Int) × (Int)) × (Int)))) × ((Bool) × ((Int) × (Int))))) × (Unit))) := spec_l04Ok_t n (spec_l04Ok_l4 n) b0

noncomputable def spec_NormalOf_t (n : Nat) (a0 : (Int) × ((List (((Int) × ((Int) × ((Int) × ((Int) × ((Int) × (Int)))))) × (((Int) × (Int)) × (Int)))) × ((Bool) × ((Int) × (Int))))) : Option ((((List (List ((Int) × (Int)))) × (Unit)) × (((List ((Int) × (Int))) × (Unit)) × (((Int) × (Unit)) × (Unit)))) × (Unit)) :=
  (spec_l04Ok n ((a0.1, (a0.2.1, (a0.2.2.1, (a0.2.2.2.1, a0.2.2.2.2)))))).bind fun r0 =>
  cond (!r0.1.1.1)
  (some (((([], ()), (([], ()), ((1, ()), ()))), ())))
  ((spec_l04Normal n ((r0.2.1.1, (r0.2.1.2.1, (r0.2.1.2.2.1, (r0.2.1.2.2.2.1, r0.2.1.2.2.2.2)))))).bind fun r1 =>
    some ((((r1.1.1.1, ()), ((r1.1.2.1.1, ()), ((r1.1.2.2.1.1, ()), ()))), ())))

noncomputable def spec_NormalOf (n : Nat) (a0 : (Int) × ((List (((Int) × ((Int) × ((Int) × ((Int) × ((Int) × (Int)))))) × (((Int) × (Int)) × (Int)))) × ((Bool) × ((Int) × (Int))))) : Option ((((List (List ((Int) × (Int)))) × (Unit)) × (((List ((Int) × (Int))) × (Unit)) × (((Int) × (Unit)) × (Unit)))) × (Unit)) := spec_NormalOf_t n a0

noncomputable def spec_l01Div_t (n : Nat) (a0 : (Int) × (Int)) (a1 : (Int) × (Int)) : Option (((((Int) × (Int)) × (Unit)) × (((Int) × (Unit)) × (Unit))) × (Unit)) :=
  (spec_l01Reduced n ((IntKind.wrap .i64 (a0.1 * a1.2))) ((IntKind.wrap .i64 (a0.2 * a1.1)))).bind fun r0 =>
  some (((((r0.1.1.1.1, r0.1.1.1.2), ()), ((r0.1.2.1.1, ()), ())), ()))

noncomputable def spec_l01Div (n : Nat) (a0 : (Int) × (Int)) (a1 : (Int) × (Int)) : Option (((((Int) × (Int)) × (Unit)) × (((Int) × (Unit)) × (Unit))) × (Unit)) := spec_l01Div_t n a0 a1

noncomputable def spec_l04Begin_t3 (n : Nat) (g3 : Int → (List (List ((Int) × (Int)))) → Int → (List Nat) → (List (List ((Int) × (Int)))) → (List ((Int) × (Int))) → Option ((((((List Nat) × (List (List ((Int) × (Int))))) × ((List ((Int) × (Int))) × ((Int) × (Unit)))) × (Unit)) × (Unit)) × (Unit))) (v6 : Int) (v0 : List (List ((Int) × (Int)))) (b0_2 : Int) (b1p : List Nat) (b1i : List (List ((Int) × (Int)))) (b2 : List ((Int) × (Int))) : Option ((((((List Nat) × (List (List ((Int) × (Int))))) × ((List ((Int) × (Int))) × ((Int) × (Unit)))) × (Unit)) × (Unit)) × (Unit)) :=
  cond (decide (v6 < ((v0.length : Nat) : Int)))
  (cond ((decide (0 ≤ v6) && decide (v6 < ((v0.length : Nat) : Int))))
    (cond (decide (((0 + (v0.getD (Int.toNat v6) []).length) * 17) ≤ 70368744177664))
      (cond (decide (((b1p.length + 1) * 25) ≤ 70368744177664))
        (g3 ((IntKind.wrap .i64 (v6 + 1))) v0 b0_2 ((b1p ++ (b1i.length :: []))) ((b1i ++ (([] ++ (v0.getD (Int.toNat v6) [])) :: []))) b2)
        (none))
      (none))
    (none))
  (some ((((((b1p, b1i), (b2, (b0_2, ()))), ()), ()), ())))

noncomputable def spec_l04Begin_l3 (n : Nat) : Nat → Int → (List (List ((Int) × (Int)))) → Int → (List Nat) → (List (List ((Int) × (Int)))) → (List ((Int) × (Int))) → Option ((((((List Nat) × (List (List ((Int) × (Int))))) × ((List ((Int) × (Int))) × ((Int) × (Unit)))) × (Unit)) × (Unit)) × (Unit))
  | 0, _, _, _, _, _, _ => none
  | k + 1, v6, v0, b0_2, b1p, b1i, b2 => spec_l04Begin_t3 n (spec_l04Begin_l3 n k) v6 v0 b0_2 b1p b1i b2

noncomputable def spec_l04Begin_t (n : Nat) (h3 : Nat → Int → (List (List ((Int) × (Int)))) → Int → (List Nat) → (List (List ((Int) × (Int)))) → (List ((Int) × (Int))) → Option ((((((List Nat) × (List (List ((Int) × (Int))))) × ((List ((Int) × (Int))) × ((Int) × (Unit)))) × (Unit)) × (Unit)) × (Unit))) (a0 : List (List ((Int) × (Int)))) (a1 : List ((Int) × (Int))) : Option ((((((List Nat) × (List (List ((Int) × (Int))))) × ((List ((Int) × (Int))) × ((Int) × (Unit)))) × (Unit)) × (Unit)) × (Unit)) :=
  cond (decide (((0 + a1.length) * 17) ≤ 70368744177664))
  (h3 n 0 a0 0 [] [] (([] ++ a1)))
  (none)

noncomputable def spec_l04Begin (n : Nat) (a0 : List (List ((Int) × (Int)))) (a1 : List ((Int) × (Int))) : Option ((((((List Nat) × (List (List ((Int) × (Int))))) × ((List ((Int) × (Int))) × ((Int) × (Unit)))) × (Unit)) × (Unit)) × (Unit)) := spec_l04Begin_t n (spec_l04Begin_l3 n) a0 a1

noncomputable def spec_l01Neg_t (n : Nat) (a0 : (Int) × (Int)) : Option (((((Int) × (Int)) × (Unit)) × (Unit)) × (Unit)) :=
  some ((((((IntKind.wrap .i64 (0 - a0.1)), a0.2), ()), ()), ()))

noncomputable def spec_l01Neg (n : Nat) (a0 : (Int) × (Int)) : Option (((((Int) × (Int)) × (Unit)) × (Unit)) × (Unit)) := spec_l01Neg_t n a0

noncomputable def spec_l01Sub_t (n : Nat) (a0 : (Int) × (Int)) (a1 : (Int) × (Int)) : Option (((((Int) × (Int)) × (Unit)) × (((Int) × (Unit)) × (Unit))) × (Unit)) :=
  (spec_l01Neg n ((a1.1, a1.2))).bind fun r0 =>
  (spec_l01Add n ((a0.1, a0.2)) ((r0.1.1.1.1, r0.1.1.1.2))).bind fun r1 =>
  some (((((r1.1.1.1.1, r1.1.1.1.2), ()), ((r1.1.2.1.1, ()), ())), ()))

noncomputable def spec_l01Sub (n : Nat) (a0 : (Int) × (Int)) (a1 : (Int) × (Int)) : Option (((((Int) × (Int)) × (Unit)) × (((Int) × (Unit)) × (Unit))) × (Unit)) := spec_l01Sub_t n a0 a1

noncomputable def spec_l04Less_t (n : Nat) (a0 : (Int) × (Int)) (a1 : (Int) × (Int)) (a2 : (Int) × (Int)) : Option (((((Int) × (Int)) × (Unit)) × (((Int) × (Unit)) × (Unit))) × (Unit)) :=
  (spec_l01Mul n ((a1.1, a1.2)) ((a2.1, a2.2))).bind fun r0 =>
  cond ((r0.1.2.1.1 != 0))
  (some (((((0, 0), ()), ((r0.1.2.1.1, ()), ())), ())))
  ((spec_l01Sub n ((a0.1, a0.2)) ((r0.1.1.1.1, r0.1.1.1.2))).bind fun r1 =>
    some (((((r1.1.1.1.1, r1.1.1.1.2), ()), ((r1.1.2.1.1, ()), ())), ())))

noncomputable def spec_l04Less (n : Nat) (a0 : (Int) × (Int)) (a1 : (Int) × (Int)) (a2 : (Int) × (Int)) : Option (((((Int) × (Int)) × (Unit)) × (((Int) × (Unit)) × (Unit))) × (Unit)) := spec_l04Less_t n a0 a1 a2

noncomputable def spec_l04Solver_clear_t7 (n : Nat) (g1 : Int → Int → Int → Int → (List Nat) → (List (List ((Int) × (Int)))) → (List ((Int) × (Int))) → Option ((Unit) × (((Int) × (Unit)) × (((List Nat) × (List (List ((Int) × (Int))))) × ((List ((Int) × (Int))) × (Unit)))))) (g7 : Int → Int → Int → Int → Int → (List Nat) → (List (List ((Int) × (Int)))) → (List ((Int) × (Int))) → Int → Int → Option ((Unit) × (((Int) × (Unit)) × (((List Nat) × (List (List ((Int) × (Int))))) × ((List ((Int) × (Int))) × (Unit)))))) (v9 : Int) (v6 : Int) (v1 : Int) (v2 : Int) (b0_2 : Int) (b1p : List Nat) (b1i : List (List ((Int) × (Int)))) (b2 : List ((Int) × (Int))) (b3_0 : Int) (b3_1 : Int) : Option ((Unit) × (((Int) × (Unit)) × (((List Nat) × (List (List ((Int) × (Int))))) × ((List ((Int) × (Int))) × (Unit))))) :=
  cond (decide (v9 < ((b1p.length : Nat) : Int)))
  (cond ((b0_2 == 0))
    (cond ((decide (0 ≤ v6) && decide (v6 < ((b1p.length : Nat) : Int))))
      (cond ((decide (0 ≤ v9) && decide (v9 < (((b1i.getD (b1p.getD (Int.toNat v6) 0) []).length : Nat) : Int))))
        (cond ((decide (0 ≤ v1) && decide (v1 < ((b1p.length : Nat) : Int))))
          (cond ((decide (0 ≤ v9) && decide (v9 < (((b1i.getD (b1p.getD (Int.toNat v1) 0) []).length : Nat) : Int))))
            ((spec_l04Less n ((((b1i.getD (b1p.getD (Int.toNat v6) 0) []).getD (Int.toNat v9) (0, 0)).1, ((b1i.getD (b1p.getD (Int.toNat v6) 0) []).getD (Int.toNat v9) (0, 0)).2)) ((b3_0, b3_1)) ((((b1i.getD (b1p.getD (Int.toNat v1) 0) []).getD (Int.toNat v9) (0, 0)).1, ((b1i.getD (b1p.getD (Int.toNat v1) 0) []).getD (Int.toNat v9) (0, 0)).2))).bind fun r1 =>
              cond ((decide (0 ≤ v6) && decide (v6 < ((b1p.length : Nat) : Int))))
              (cond ((decide (0 ≤ v9) && decide (v9 < (((b1i.getD (b1p.getD (Int.toNat v6) 0) []).length : Nat) : Int))))
                (g7 ((IntKind.wrap .i64 (v9 + 1))) v6 v1 v2 r1.1.2.1.1 b1p ((b1i.set (b1p.getD (Int.toNat v6) 0) ((b1i.getD (b1p.getD (Int.toNat v6) 0) []).set (Int.toNat v9) (r1.1.1.1.1, r1.1.1.1.2)))) b2 b3_0 b3_1)
                (none))
              (none))
            (none))
          (none))
        (none))
      (none))
    (cond ((b0_2 == 0))
      (cond ((decide (0 ≤ v6) && decide (v6 < ((b2.length : Nat) : Int))))
        (cond ((decide (0 ≤ v1) && decide (v1 < ((b2.length : Nat) : Int))))
          ((spec_l04Less n (((b2.getD (Int.toNat v6) (0, 0)).1, (b2.getD (Int.toNat v6) (0, 0)).2)) ((b3_0, b3_1)) (((b2.getD (Int.toNat v1) (0, 0)).1, (b2.getD (Int.toNat v1) (0, 0)).2))).bind fun r2 =>
            cond ((decide (0 ≤ v6) && decide (v6 < ((b2.length : Nat) : Int))))
            (g1 ((IntKind.wrap .i64 (v6 + 1))) v1 v2 r2.1.2.1.1 b1p b1i ((b2.set (Int.toNat v6) (r2.1.1.1.1, r2.1.1.1.2))))
            (none))
          (none))
        (none))
      (g1 ((IntKind.wrap .i64 (v6 + 1))) v1 v2 b0_2 b1p b1i b2)))
  (cond ((b0_2 == 0))
    (cond ((decide (0 ≤ v6) && decide (v6 < ((b2.length : Nat) : Int))))
      (cond ((decide (0 ≤ v1) && decide (v1 < ((b2.length : Nat) : Int))))
        ((spec_l04Less n (((b2.getD (Int.toNat v6) (0, 0)).1, (b2.getD (Int.toNat v6) (0, 0)).2)) ((b3_0, b3_1)) (((b2.getD (Int.toNat v1) (0, 0)).1, (b2.getD (Int.toNat v1) (0, 0)).2))).bind fun r3 =>
          cond ((decide (0 ≤ v6) && decide (v6 < ((b2.length : Nat) : Int))))
          (g1 ((IntKind.wrap .i64 (v6 + 1))) v1 v2 r3.1.2.1.1 b1p b1i ((b2.set (Int.toNat v6) (r3.1.1.1.1, r3.1.1.1.2))))
          (none))
        (none))
      (none))
    (g1 ((IntKind.wrap .i64 (v6 + 1))) v1 v2 b0_2 b1p b1i b2))

noncomputable def spec_l04Solver_clear_l7 (n : Nat) (g1 : Int → Int → Int → Int → (List Nat) → (List (List ((Int) × (Int)))) → (List ((Int) × (Int))) → Option ((Unit) × (((Int) × (Unit)) × (((List Nat) × (List (List ((Int) × (Int))))) × ((List ((Int) × (Int))) × (Unit)))))) : Nat → Int → Int → Int → Int → Int → (List Nat) → (List (List ((Int) × (Int)))) → (List ((Int) × (Int))) → Int → Int → Option ((Unit) × (((Int) × (Unit)) × (((List Nat) × (List (List ((Int) × (Int))))) × ((List ((Int) × (Int))) × (Unit)))))
  | 0, _, _, _, _, _, _, _, _, _, _ => none
  | k + 1, v9, v6, v1, v2, b0_2, b1p, b1i, b2, b3_0, b3_1 => spec_l04Solver_clear_t7 n g1 (spec_l04Solver_clear_l7 n g1 k) v9 v6 v1 v2 b0_2 b1p b1i b2 b3_0 b3_1

noncomputable def spec_l04Solver_clear_t1 (n : Nat) (h7 : Nat → Int → Int → Int → Int → Int → (List Nat) → (List (List ((Int) × (Int)))) → (List ((Int) × (Int))) → Int → Int → Option ((Unit) × (((Int) × (Unit)) × (((List Nat) × (List (List ((Int) × (Int))))) × ((List ((Int) × (Int))) × (Unit)))))) (g1 : Int → Int → Int → Int → (List Nat) → (List (List ((Int) × (Int)))) → (List ((Int) × (Int))) → Option ((Unit) × (((Int) × (Unit)) × (((List Nat) × (List (List ((Int) × (Int))))) × ((List ((Int) × (Int))) × (Unit)))))) (v6 : Int) (v1 : Int) (v2 : Int) (b0_2 : Int) (b1p : List Nat) (b1i : List (List ((Int) × (Int)))) (b2 : List ((Int) × (Int))) : Option ((Unit) × (((Int) × (Unit)) × (((List Nat) × (List (List ((Int) × (Int))))) × ((List ((Int) × (Int))) × (Unit))))) :=
  cond (decide (v6 < ((b1p.length : Nat) : Int)))
  (cond ((b0_2 == 0))
    (cond ((v6 == v1))
      (g1 ((IntKind.wrap .i64 (v6 + 1))) v1 v2 b0_2 b1p b1i b2)
      (cond ((decide (0 ≤ v6) && decide (v6 < ((b1p.length : Nat) : Int))))
        (cond ((decide (0 ≤ v2) && decide (v2 < (((b1i.getD (b1p.getD (Int.toNat v6) 0) []).length : Nat) : Int))))
          (cond ((((b1i.getD (b1p.getD (Int.toNat v6) 0) []).getD (Int.toNat v2) (0, 0)).1 == 0))
            (g1 ((IntKind.wrap .i64 (v6 + 1))) v1 v2 b0_2 b1p b1i b2)
            (cond ((decide (0 ≤ v6) && decide (v6 < ((b1p.length : Nat) : Int))))
              (cond ((decide (0 ≤ v2) && decide (v2 < (((b1i.getD (b1p.getD (Int.toNat v6) 0) []).length : Nat) : Int))))
                (cond ((decide (0 ≤ v1) && decide (v1 < ((b1p.length : Nat) : Int))))
                  (cond ((decide (0 ≤ v2) && decide (v2 < (((b1i.getD (b1p.getD (Int.toNat v1) 0) []).length : Nat) : Int))))
                    ((spec_l01Div n ((((b1i.getD (b1p.getD (Int.toNat v6) 0) []).getD (Int.toNat v2) (0, 0)).1, ((b1i.getD (b1p.getD (Int.toNat v6) 0) []).getD (Int.toNat v2) (0, 0)).2)) ((((b1i.getD (b1p.getD (Int.toNat v1) 0) []).getD (Int.toNat v2) (0, 0)).1, ((b1i.getD (b1p.getD (Int.toNat v1) 0) []).getD (Int.toNat v2) (0, 0)).2))).bind fun r0 =>
                      h7 n v2 v6 v1 v2 r0.1.2.1.1 b1p b1i b2 r0.1.1.1.1 r0.1.1.1.2)
                    (none))
                  (none))
                (none))
              (none)))
          (none))
        (none)))
    (some (((), ((b0_2, ()), ((b1p, b1i), (b2, ())))))))
  (some (((), ((b0_2, ()), ((b1p, b1i), (b2, ()))))))

noncomputable def spec_l04Solver_clear_l1 (n : Nat) : Nat → Int → Int → Int → Int → (List Nat) → (List (List ((Int) × (Int)))) → (List ((Int) × (Int))) → Option ((Unit) × (((Int) × (Unit)) × (((List Nat) × (List (List ((Int) × (Int))))) × ((List ((Int) × (Int))) × (Unit)))))
  | 0, _, _, _, _, _, _, _ => none
  | k + 1, v6, v1, v2, b0_2, b1p, b1i, b2 => spec_l04Solver_clear_t1 n (spec_l04Solver_clear_l7 n (spec_l04Solver_clear_l1 n k)) (spec_l04Solver_clear_l1 n k) v6 v1 v2 b0_2 b1p b1i b2

noncomputable def spec_l04Solver_clear_t (n : Nat) (h1 : Nat → Int → Int → Int → Int → (List Nat) → (List (List ((Int) × (Int)))) → (List ((Int) × (Int))) → Option ((Unit) × (((Int) × (Unit)) × (((List Nat) × (List (List ((Int) × (Int))))) × ((List ((Int) × (Int))) × (Unit)))))) (a1 : Int) (a2 : Int) (b0 : (Int) × (Unit)) (b1 : (List Nat) × (List (List ((Int) × (Int))))) (b2 : List ((Int) × (Int))) : Option ((Unit) × (((Int) × (Unit)) × (((List Nat) × (List (List ((Int) × (Int))))) × ((List ((Int) × (Int))) × (Unit))))) :=
  h1 n 0 a1 a2 b0.1 b1.1 b1.2 b2

noncomputable def spec_l04Solver_clear (n : Nat) (a1 : Int) (a2 : Int) (b0 : (Int) × (Unit)) (b1 : (List Nat) × (List (List ((Int) × (Int))))) (b2 : List ((Int) × (Int))) : Option ((Unit) × (((Int) × (Unit)) × (((List Nat) × (List (List ((Int) × (Int))))) × ((List ((Int) × (Int))) × (Unit))))) := spec_l04Solver_clear_t n (spec_l04Solver_clear_l1 n) a1 a2 b0 b1 b2

noncomputable def spec_l04Solver_find_t2 (n : Nat) (g2 : Int → Int → Int → (List Nat) → (List (List ((Int) × (Int)))) → (List ((Int) × (Int))) → Option ((((Int) × (Unit)) × (Unit)) × (((Int) × (Unit)) × (((List Nat) × (List (List ((Int) × (Int))))) × ((List ((Int) × (Int))) × (Unit)))))) (v7 : Int) (v2 : Int) (b0_2 : Int) (b1p : List Nat) (b1i : List (List ((Int) × (Int)))) (b2 : List ((Int) × (Int))) : Option ((((Int) × (Unit)) × (Unit)) × (((Int) × (Unit)) × (((List Nat) × (List (List ((Int) × (Int))))) × ((List ((Int) × (Int))) × (Unit))))) :=
  cond (decide (v7 < ((b1p.length : Nat) : Int)))
  (cond ((decide (0 ≤ v7) && decide (v7 < ((b1p.length : Nat) : Int))))
    (cond ((decide (0 ≤ v2) && decide (v2 < (((b1i.getD (b1p.getD (Int.toNat v7) 0) []).length : Nat) : Int))))
      (cond ((((b1i.getD (b1p.getD (Int.toNat v7) 0) []).getD (Int.toNat v2) (0, 0)).1 != 0))
        (some ((((v7, ()), ()), ((b0_2, ()), ((b1p, b1i), (b2, ()))))))
        (g2 ((IntKind.wrap .i64 (v7 + 1))) v2 b0_2 b1p b1i b2))
      (none))
    (none))
  (some (((((-1), ()), ()), ((b0_2, ()), ((b1p, b1i), (b2, ()))))))

noncomputable def spec_l04Solver_find_l2 (n : Nat) : Nat → Int → Int → Int → (List Nat) → (List (List ((Int) × (Int)))) → (List ((Int) × (Int))) → Option ((((Int) × (Unit)) × (Unit)) × (((Int) × (Unit)) × (((List Nat) × (List (List ((Int) × (Int))))) × ((List ((Int) × (Int))) × (Unit)))))
  | 0, _, _, _, _, _, _ => none
  | k + 1, v7, v2, b0_2, b1p, b1i, b2 => spec_l04Solver_find_t2 n (spec_l04Solver_find_l2 n k) v7 v2 b0_2 b1p b1i b2

noncomputable def spec_l04Solver_find_t (n : Nat) (h2 : Nat → Int → Int → Int → (List Nat) → (List (List ((Int) × (Int)))) → (List ((Int) × (Int))) → Option ((((Int) × (Unit)) × (Unit)) × (((Int) × (Unit)) × (((List Nat) × (List (List ((Int) × (Int))))) × ((List ((Int) × (Int))) × (Unit)))))) (a1 : Int) (a2 : Int) (b0 : (Int) × (Unit)) (b1 : (List Nat) × (List (List ((Int) × (Int))))) (b2 : List ((Int) × (Int))) : Option ((((Int) × (Unit)) × (Unit)) × (((Int) × (Unit)) × (((List Nat) × (List (List ((Int) × (Int))))) × ((List ((Int) × (Int))) × (Unit))))) :=
  h2 n a1 a2 b0.1 b1.1 b1.2 b2

noncomputable def spec_l04Solver_find (n : Nat) (a1 : Int) (a2 : Int) (b0 : (Int) × (Unit)) (b1 : (List Nat) × (List (List ((Int) × (Int))))) (b2 : List ((Int) × (Int))) : Option ((((Int) × (Unit)) × (Unit)) × (((Int) × (Unit)) × (((List Nat) × (List (List ((Int) × (Int))))) × ((List ((Int) × (Int))) × (Unit))))) := spec_l04Solver_find_t n (spec_l04Solver_find_l2 n) a1 a2 b0 b1 b2

noncomputable def spec_l04Solver_swap_t (n : Nat) (a1 : Int) (a2 : Int) (b0 : (Int) × (Unit)) (b1 : (List Nat) × (List (List ((Int) × (Int))))) (b2 : List ((Int) × (Int))) : Option ((Unit) × (((Int) × (Unit)) × (((List Nat) × (List (List ((Int) × (Int))))) × ((List ((Int) × (Int))) × (Unit))))) :=
  cond ((decide (0 ≤ a1) && decide (a1 < ((b1.1.length : Nat) : Int))))
  (cond ((decide (0 ≤ a2) && decide (a2 < ((b1.1.length : Nat) : Int))))
    (cond ((decide (0 ≤ a1) && decide (a1 < ((b1.1.length : Nat) : Int))))
      (cond ((decide (0 ≤ a2) && decide (a2 < (((b1.1.set (Int.toNat a1) (b1.1.getD (Int.toNat a2) 0)).length : Nat) : Int))))
        (cond ((decide (0 ≤ a1) && decide (a1 < ((b2.length : Nat) : Int))))
          (cond ((decide (0 ≤ a2) && decide (a2 < ((b2.length : Nat) : Int))))
            (cond ((decide (0 ≤ a1) && decide (a1 < ((b2.length : Nat) : Int))))
              (cond ((decide (0 ≤ a2) && decide (a2 < (((b2.set (Int.toNat a1) ((b2.getD (Int.toNat a2) (0, 0)).1, (b2.getD (Int.toNat a2) (0, 0)).2)).length : Nat) : Int))))
                (some (((), ((b0.1, ()), ((((b1.1.set (Int.toNat a1) (b1.1.getD (Int.toNat a2) 0)).set (Int.toNat a2) (b1.1.getD (Int.toNat a1) 0)), b1.2), (((b2.set (Int.toNat a1) ((b2.getD (Int.toNat a2) (0, 0)).1, (b2.getD (Int.toNat a2) (0, 0)).2)).set (Int.toNat a2) ((b2.getD (Int.toNat a1) (0, 0)).1, (b2.getD (Int.toNat a1) (0, 0)).2)), ()))))))
                (none))
              (none))
            (none))
          (none))
        (none))
      (none))
    (none))
  (none)

noncomputable def spec_l04Solver_swap (n : Nat) (a1 : Int) (a2 : Int) (b0 : (Int) × (Unit)) (b1 : (List Nat) × (List (List ((Int) × (Int))))) (b2 : List ((Int) × (Int))) : Option ((Unit) × (((Int) × (Unit)) × (((List Nat) × (List (List ((Int) × (Int))))) × ((List ((Int) × (Int))) × (Unit))))) := spec_l04Solver_swap_t n a1 a2 b0 b1 b2

noncomputable def spec_l04Solve_t14 (n : Nat) (g14 : Int → (List (List ((Int) × (Int)))) → (List ((Int) × (Int))) → Int → (List Nat) → (List (List ((Int) × (Int)))) → (List ((Int) × (Int))) → Option ((((List ((Int) × (Int))) × (Unit)) × (((Int) × (Unit)) × (Unit))) × (Unit))) (v10 : Int) (v0 : List (List ((Int) × (Int)))) (b0 : List ((Int) × (Int))) (b1_2 : Int) (b2p : List Nat) (b2i : List (List ((Int) × (Int)))) (b3 : List ((Int) × (Int))) : Option ((((List ((Int) × (Int))) × (Unit)) × (((Int) × (Unit)) × (Unit))) × (Unit)) :=
  cond (decide (v10 < ((v0.length : Nat) : Int)))
  (cond ((decide (0 ≤ v10) && decide (v10 < ((b3.length : Nat) : Int))))
    (cond ((decide (0 ≤ v10) && decide (v10 < ((b2p.length : Nat) : Int))))
      (cond ((decide (0 ≤ v10) && decide (v10 < (((b2i.getD (b2p.getD (Int.toNat v10) 0) []).length : Nat) : Int))))
        ((spec_l01Div n (((b3.getD (Int.toNat v10) (0, 0)).1, (b3.getD (Int.toNat v10) (0, 0)).2)) ((((b2i.getD (b2p.getD (Int.toNat v10) 0) []).getD (Int.toNat v10) (0, 0)).1, ((b2i.getD (b2p.getD (Int.toNat v10) 0) []).getD (Int.toNat v10) (0, 0)).2))).bind fun r4 =>
          cond ((r4.1.2.1.1 != 0))
          (some (((([], ()), ((r4.1.2.1.1, ()), ())), ())))
          (cond (decide (((b0.length + ((r4.1.1.1.1, r4.1.1.1.2) :: []).length) * 17) ≤ 70368744177664))
            (g14 ((IntKind.wrap .i64 (v10 + 1))) v0 ((b0 ++ ((r4.1.1.1.1, r4.1.1.1.2) :: []))) b1_2 b2p b2i b3)
            (none)))
        (none))
      (none))
    (none))
  (some ((((b0, ()), ((0, ()), ())), ())))

noncomputable def spec_l04Solve_l14 (n : Nat) : Nat → Int → (List (List ((Int) × (Int)))) → (List ((Int) × (Int))) → Int → (List Nat) → (List (List ((Int) × (Int)))) → (List ((Int) × (Int))) → Option ((((List ((Int) × (Int))) × (Unit)) × (((Int) × (Unit)) × (Unit))) × (Unit))
  | 0, _, _, _, _, _, _, _ => none
  | k + 1, v10, v0, b0, b1_2, b2p, b2i, b3 => spec_l04Solve_t14 n (spec_l04Solve_l14 n k) v10 v0 b0 b1_2 b2p b2i b3

noncomputable def spec_l04Solve_t3 (n : Nat) (h14 : Nat → Int → (List (List ((Int) × (Int)))) → (List ((Int) × (Int))) → Int → (List Nat) → (List (List ((Int) × (Int)))) → (List ((Int) × (Int))) → Option ((((List ((Int) × (Int))) × (Unit)) × (((Int) × (Unit)) × (Unit))) × (Unit))) (g3 : Int → (List (List ((Int) × (Int)))) → Int → (List Nat) → (List (List ((Int) × (Int)))) → (List ((Int) × (Int))) → Option ((((List ((Int) × (Int))) × (Unit)) × (((Int) × (Unit)) × (Unit))) × (Unit))) (v7 : Int) (v0 : List (List ((Int) × (Int)))) (b0_2 : Int) (b1p : List Nat) (b1i : List (List ((Int) × (Int)))) (b2 : List ((Int) × (Int))) : Option ((((List ((Int) × (Int))) × (Unit)) × (((Int) × (Unit)) × (Unit))) × (Unit)) :=
  cond (decide (v7 < ((v0.length : Nat) : Int)))
  ((spec_l04Solver_find n v7 v7 ((b0_2, ())) ((b1p, b1i)) b2).bind fun r1 =>
    cond (decide (r1.1.1.1 < 0))
    (some (((([], ()), ((4, ()), ())), ())))
    ((spec_l04Solver_swap n v7 r1.1.1.1 ((r1.2.1.1, ())) ((r1.2.2.1.1, r1.2.2.1.2)) r1.2.2.2.1).bind fun r2 =>
      (spec_l04Solver_clear n v7 v7 ((r2.2.1.1, ())) ((r2.2.2.1.1, r2.2.2.1.2)) r2.2.2.2.1).bind fun r3 =>
      cond ((r3.2.1.1 != 0))
      (some (((([], ()), ((r3.2.1.1, ()), ())), ())))
      (g3 ((IntKind.wrap .i64 (v7 + 1))) v0 r3.2.1.1 r3.2.2.1.1 r3.2.2.1.2 r3.2.2.2.1)))
  (h14 n 0 v0 [] b0_2 b1p b1i b2)

noncomputable def spec_l04Solve_l3 (n : Nat) : Nat → Int → (List (List ((Int) × (Int)))) → Int → (List Nat) → (List (List ((Int) × (Int)))) → (List ((Int) × (Int))) → Option ((((List ((Int) × (Int))) × (Unit)) × (((Int) × (Unit)) × (Unit))) × (Unit))
  | 0, _, _, _, _, _, _ => none
  | k + 1, v7, v0, b0_2, b1p, b1i, b2 => spec_l04Solve_t3 n (spec_l04Solve_l14 n) (spec_l04Solve_l3 n k) v7 v0 b0_2 b1p b1i b2

noncomputable def spec_l04Solve_t (n : Nat) (h3 : Nat → Int → (List (List ((Int) × (Int)))) → Int → (List Nat) → (List (List ((Int) × (Int)))) → (List ((Int) × (Int))) → Option ((((List ((Int) × (Int))) × (Unit)) × (((Int) × (Unit)) × (Unit))) × (Unit))) (a0 : List (List ((Int) × (Int)))) (a1 : List ((Int) × (Int))) : Option ((((List ((Int) × (Int))) × (Unit)) × (((Int) × (Unit)) × (Unit))) × (Unit)) :=
  (spec_l04Begin n a0 a1).bind fun r0 =>
  h3 n 0 a0 r0.1.1.1.2.2.1 r0.1.1.1.1.1 r0.1.1.1.1.2 r0.1.1.1.2.1

noncomputable def spec_l04Solve (n : Nat) (a0 : List (List ((Int) × (Int)))) (a1 : List ((Int) × (Int))) : Option ((((List ((Int) × (Int))) × (Unit)) × (((Int) × (Unit)) × (Unit))) × (Unit)) := spec_l04Solve_t n (spec_l04Solve_l3 n) a0 a1

noncomputable def spec_CorrectionsOf_t (n : Nat) (a0 : (Int) × ((List (((Int) × ((Int) × ((Int) × ((Int) × ((Int) × (Int)))))) × (((Int) × (Int)) × (Int)))) × ((Bool) × ((Int) × (Int))))) : Option ((((List ((Int) × (Int))) × (Unit)) × (((Int) × (Unit)) × (Unit))) × (Unit)) :=
  (spec_NormalOf n ((a0.1, (a0.2.1, (a0.2.2.1, (a0.2.2.2.1, a0.2.2.2.2)))))).bind fun r0 =>
  cond ((r0.1.2.2.1.1 != 0))
  (some (((([], ()), ((r0.1.2.2.1.1, ()), ())), ())))
  ((spec_l04Solve n r0.1.1.1 r0.1.2.1.1).bind fun r1 =>
    cond ((r1.1.2.1.1 != 0))
    (some (((([], ()), ((r1.1.2.1.1, ()), ())), ())))
    (cond ((decide (0 ≤ a0.1) && decide (a0.1 ≤ ((r1.1.1.1.length : Nat) : Int))))
      (cond (decide (((0 + ((r1.1.1.1.drop 0).take ((Int.toNat a0.1) - (Int.toNat 0))).length) * 17) ≤ 70368744177664))
        (some ((((([] ++ ((r1.1.1.1.drop 0).take ((Int.toNat a0.1) - (Int.toNat 0)))), ()), ((0, ()), ())), ())))
        (none))
      (none)))

noncomputable def spec_CorrectionsOf (n : Nat) (a0 : (Int) × ((List (((Int) × ((Int) × ((Int) × ((Int) × ((Int) × (Int)))))) × (((Int) × (Int)) × (Int)))) × ((Bool) × ((Int) × (Int))))) : Option ((((List ((Int) × (Int))) × (Unit)) × (((Int) × (Unit)) × (Unit))) × (Unit)) := spec_CorrectionsOf_t n a0

noncomputable def laws_FnExactCorrectionsOf_t (n : Nat) (a0 : (Int) × ((List (((Int) × ((Int) × ((Int) × ((Int) × ((Int) × (Int)))))) × (((Int) × (Int)) × (Int)))) × ((Bool) × ((Int) × (Int))))) : Option ((((Bool) × (Unit)) × (Unit)) × (Unit)) :=
  (laws_szTable n ((a0.1, (a0.2.1, (a0.2.2.1, (a0.2.2.2.1, a0.2.2.2.2))))) 1048576).bind fun r0 =>
  cond (decide (r0.1.1.1 < 0))
  (some ((((true, ()), ()), ())))
  ((laws_toTable n ((a0.1, (a0.2.1, (a0.2.2.1, (a0.2.2.2.1, a0.2.2.2.2)))))).bind fun r1 =>
    (spec_CorrectionsOf n ((r1.1.1.1, (r1.1.1.2.1, (r1.1.1.2.2.1.1, (r1.1.1.2.2.1.2.1, r1.1.1.2.2.1.2.2)))))).bind fun r2 =>
    (laws_toTable n ((a0.1, (a0.2.1, (a0.2.2.1, (a0.2.2.2.1, a0.2.2.2.2)))))).bind fun r3 =>
    (impl_CorrectionsOf n ((r3.1.1.1, (r3.1.1.2.1, (r3.1.1.2.2.1.1, (r3.1.1.2.2.1.2.1, r3.1.1.2.2.1.2.2)))))).bind fun r4 =>
    (laws_eqFracS n r4.1.1.1 r2.1.1.1).bind fun r5 =>
    cond (!r5.1.1.1)
    (some ((((false, ()), ()), ())))
    (cond ((r4.1.2.1.1 != r2.1.2.1.1))
      (some ((((false, ()), ()), ())))
      ((laws_toTable n ((a0.1, (a0.2.1, (a0.2.2.1, (a0.2.2.2.1, a0.2.2.2.2)))))).bind fun r6 =>
        (laws_eqTable n ((r3.1.1.1, (r3.1.1.2.1, (r3.1.1.2.2.1.1, (r3.1.1.2.2.1.2.1, r3.1.1.2.2.1.2.2))))) ((r6.1.1.1, (r6.1.1.2.1, (r6.1.1.2.2.1.1, (r6.1.1.2.2.1.2.1, r6.1.1.2.2.1.2.2)))))).bind fun r7 =>
        cond (!r7.1.1.1)
        (some ((((false, ()), ()), ())))
        ((laws_markTable n ((r3.1.1.1, ((r3.1.1.2.2.1.1, (r3.1.1.2.2.1.2.1, r3.1.1.2.2.1.2.2)), ()))) 1 r3.1.1.2.1).bind fun r8 =>
          cond (decide (r8.1.1.1 < 0))
          (some ((((false, ()), ()), ())))
          ((laws_eqFracS n r4.1.1.1 r2.1.1.1).bind fun r9 =>
            cond (!r9.1.1.1)
            (some ((((false, ()), ()), ())))
            (cond ((r4.1.2.1.1 != r2.1.2.1.1))
              (some ((((false, ()), ()), ())))
              ((laws_markFracS n 1 r4.1.1.1).bind fun r10 =>
                (laws_heldFracS n r10.2.1 1).bind fun r11 =>
                cond (decide (r11.1.1.1 < 0))
                (some ((((false, ()), ()), ())))
                (cond ((r11.1.1.1 != r10.1.1.1))
                  (some ((((false, ()), ()), ())))
                  ((laws_toTable n ((a0.1, (a0.2.1, (a0.2.2.1, (a0.2.2.2.1, a0.2.2.2.2)))))).bind fun r12 =>
                    (impl_CorrectionsOf n ((r12.1.1.1, (r12.1.1.2.1, (r12.1.1.2.2.1.1, (r12.1.1.2.2.1.2.1, r12.1.1.2.2.1.2.2)))))).bind fun r13 =>
                    (laws_eqFracS n r13.1.1.1 r2.1.1.1).bind fun r14 =>
                    cond (!r14.1.1.1)
                    (some ((((false, ()), ()), ())))
                    (cond ((r13.1.2.1.1 != r2.1.2.1.1))
                      (some ((((false, ()), ()), ())))
                      ((laws_heldFracS n r10.2.1 1).bind fun r15 =>
                        cond (decide (r15.1.1.1 < 0))
                        (some ((((false, ()), ()), ())))
                        (cond ((r15.1.1.1 != r10.1.1.1))
                          (some ((((false, ()), ()), ())))
                          (some ((((true, ()), ()), ())))))))))))))))

noncomputable def laws_FnExactCorrectionsOf (n : Nat) (a0 : (Int) × ((List (((Int) × ((Int) × ((Int) × ((Int) × ((Int) × (Int)))))) × (((Int) × (Int)) × (Int)))) × ((Bool) × ((Int) × (Int))))) : Option ((((Bool) × (Unit)) × (Unit)) × (Unit)) := laws_FnExactCorrectionsOf_t n a0

end Go.Abs
