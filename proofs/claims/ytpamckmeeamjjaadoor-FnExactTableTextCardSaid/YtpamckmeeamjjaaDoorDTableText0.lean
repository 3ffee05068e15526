import Derived.Test.YtpamckmeeamjjaaDoorLib
namespace Go.Abs
set_option linter.unusedVariables false

noncomputable def impl_gcd_t1 (n : Nat) (g1 : Int → Int → Option ((((Int) × (Unit)) × (Unit)) × (Unit))) (v1 : Int) (v0 : Int) : Option ((((Int) × (Unit)) × (Unit)) × (Unit)) :=
  cond ((v1 != 0))
  (cond ((v1 != 0))
    (g1 ((Int.tmod v0 v1)) v1)
    (none))
  (some (((((if v0 < (IntKind.wrap .i64 (0 - v0)) then (IntKind.wrap .i64 (0 - v0)) else v0), ()), ()), ())))

noncomputable def impl_gcd_l1 (n : Nat) : Nat → Int → Int → Option ((((Int) × (Unit)) × (Unit)) × (Unit))
  | 0, _, _ => none
  | k + 1, v1, v0 => impl_gcd_t1 n (impl_gcd_l1 n k) v1 v0

noncomputable def impl_gcd_t (n : Nat) (h1 : Nat → Int → Int → Option ((((Int) × (Unit)) × (Unit)) × (Unit))) (a0 : Int) (a1 : Int) : Option ((((Int) × (Unit)) × (Unit)) × (Unit)) :=
  h1 n a1 a0

noncomputable def impl_gcd (n : Nat) (a0 : Int) (a1 : Int) : Option ((((Int) × (Unit)) × (Unit)) × (Unit)) := impl_gcd_t n (impl_gcd_l1 n) a0 a1

noncomputable def impl_within_t (n : Nat) (a0 : Int) (a1 : Int) (a2 : Int) : Option ((((Bool) × (Unit)) × (Unit)) × (Unit)) :=
  cond (decide (a1 ≤ a0))
  (some ((((decide (a0 ≤ a2), ()), ()), ())))
  (some ((((false, ()), ()), ())))

noncomputable def impl_within (n : Nat) (a0 : Int) (a1 : Int) (a2 : Int) : Option ((((Bool) × (Unit)) × (Unit)) × (Unit)) := impl_within_t n a0 a1 a2

noncomputable def impl_ValidFrac_t (n : Nat) (a0 : (Int) × (Int)) : Option ((((Bool) × (Unit)) × (Unit)) × (Unit)) :=
  (impl_within n a0.2 1 1000000000).bind fun r0 =>
  cond r0.1.1.1
  ((impl_within n a0.1 (-1000000000) 1000000000).bind fun r1 =>
    cond r1.1.1.1
    ((impl_gcd n a0.1 a0.2).bind fun r2 =>
      some (((((r2.1.1.1 == 1), ()), ()), ())))
    (some ((((false, ()), ()), ()))))
  (some ((((false, ()), ()), ())))

noncomputable def impl_ValidFrac (n : Nat) (a0 : (Int) × (Int)) : Option ((((Bool) × (Unit)) × (Unit)) × (Unit)) := impl_ValidFrac_t n a0

noncomputable def strconv_FormatInt (n : Nat) (a0 : Int) (a1 : Int) : Option ((((ByteArray) × (Unit)) × (Unit)) × (Unit)) :=
  cond ((decide (-9223372036854775808 ≤ a0) && decide (a0 ≤ 9223372036854775807)) && (a1 == 10)) (some ((((ByteArray.mk (Go.Lib.itoa a0).toArray, ()), ()), ()))) none

noncomputable def impl_dec_t (n : Nat) (a0 : Int) : Option ((((ByteArray) × (Unit)) × (Unit)) × (Unit)) :=
  (strconv_FormatInt n a0 10).bind fun r0 =>
  some ((((r0.1.1.1, ()), ()), ()))

noncomputable def impl_dec (n : Nat) (a0 : Int) : Option ((((ByteArray) × (Unit)) × (Unit)) × (Unit)) := impl_dec_t n a0

noncomputable def impl_FracText_t (n : Nat) (a0 : (Int) × (Int)) : Option ((((ByteArray) × (Unit)) × (Unit)) × (Unit)) :=
  (impl_ValidFrac n ((a0.1, a0.2))).bind fun r0 =>
  cond (!r0.1.1.1)
  (some (((((ByteArray.mk #[]), ()), ()), ())))
  (cond ((a0.2 == 1))
    ((impl_dec n a0.1).bind fun r1 =>
      some ((((r1.1.1.1, ()), ()), ())))
    ((impl_dec n a0.1).bind fun r2 =>
      cond ((roomStr r2.1.1.1 (ByteArray.mk #[47])))
      ((impl_dec n a0.2).bind fun r3 =>
        cond ((roomStr (r2.1.1.1 ++ (ByteArray.mk #[47])) r3.1.1.1))
        (some ((((((r2.1.1.1 ++ (ByteArray.mk #[47])) ++ r3.1.1.1), ()), ()), ())))
        (none))
      (none)))

noncomputable def impl_FracText (n : Nat) (a0 : (Int) × (Int)) : Option ((((ByteArray) × (Unit)) × (Unit)) × (Unit)) := impl_FracText_t n a0

noncomputable def impl_ValidTable_t8 (n : Nat) (g4 : Int → (List (((Int) × ((Int) × ((Int) × ((Int) × ((Int) × (Int)))))) × (((Int) × (Int)) × (Int)))) → Int → Int → (List (((Int) × ((Int) × ((Int) × ((Int) × ((Int) × (Int)))))) × (((Int) × (Int)) × (Int)))) → Bool → Int → Int → Option ((((Bool) × (Unit)) × (Unit)) × (Unit))) (g8 : Int → Bool → Int → Int → Int → Int → Int → Int → (List (((Int) × ((Int) × ((Int) × ((Int) × ((Int) × (Int)))))) × (((Int) × (Int)) × (Int)))) → Int → Int → Int → (List (((Int) × ((Int) × ((Int) × ((Int) × ((Int) × (Int)))))) × (((Int) × (Int)) × (Int)))) → Bool → Int → Int → Int → Int → Int → Int → Int → Int → Int → Int → Int → Option ((((Bool) × (Unit)) × (Unit)) × (Unit))) (v44 : Int) (v5 : Bool) (v43_0 : Int) (v43_1 : Int) (v43_2 : Int) (v43_3 : Int) (v43_4 : Int) (v43_5 : Int) (v36 : List (((Int) × ((Int) × ((Int) × ((Int) × ((Int) × (Int)))))) × (((Int) × (Int)) × (Int)))) (v37 : Int) (v38 : Int) (b0_0 : Int) (b0_1 : List (((Int) × ((Int) × ((Int) × ((Int) × ((Int) × (Int)))))) × (((Int) × (Int)) × (Int)))) (b0_2 : Bool) (b0_3 : Int) (b0_4 : Int) (b1_0 : Int) (b1_1 : Int) (b1_2 : Int) (b1_3 : Int) (b1_4 : Int) (b1_5 : Int) (b1_6 : Int) (b1_7 : Int) (b1_8 : Int) : Option ((((Bool) × (Unit)) × (Unit)) × (Unit)) :=
  cond (decide (v44 < 6))
  (cond ((decide (0 ≤ v44) && decide (v44 < 6)))
    ((impl_within n ((IntKind.wrap .i64 (cond (Nat.beq (Int.toNat v44) 0) v43_0 (cond (Nat.beq ((Int.toNat v44) - 1) 0) v43_1 (cond (Nat.beq (((Int.toNat v44) - 1) - 1) 0) v43_2 (cond (Nat.beq ((((Int.toNat v44) - 1) - 1) - 1) 0) v43_3 (cond (Nat.beq (((((Int.toNat v44) - 1) - 1) - 1) - 1) 0) v43_4 (cond (Nat.beq ((((((Int.toNat v44) - 1) - 1) - 1) - 1) - 1) 0) v43_5 0)))))))) (-3) 3).bind fun r2 =>
      cond (!r2.1.1.1)
      (some ((((false, ()), ()), ())))
      (cond (((cond (Nat.beq (Int.toNat v44) 0) v43_0 (cond (Nat.beq ((Int.toNat v44) - 1) 0) v43_1 (cond (Nat.beq (((Int.toNat v44) - 1) - 1) 0) v43_2 (cond (Nat.beq ((((Int.toNat v44) - 1) - 1) - 1) 0) v43_3 (cond (Nat.beq (((((Int.toNat v44) - 1) - 1) - 1) - 1) 0) v43_4 (cond (Nat.beq ((((((Int.toNat v44) - 1) - 1) - 1) - 1) - 1) 0) v43_5 0)))))) != 0))
        (cond (decide (v44 ≥ b0_0))
          (some ((((false, ()), ()), ())))
          (cond v5
            (g8 ((IntKind.wrap .i64 (v44 + 1))) true v43_0 v43_1 v43_2 v43_3 v43_4 v43_5 v36 v37 v38 b0_0 b0_1 b0_2 b0_3 b0_4 b1_0 b1_1 b1_2 b1_3 b1_4 b1_5 b1_6 b1_7 b1_8)
            (g8 ((IntKind.wrap .i64 (v44 + 1))) (((cond (Nat.beq (Int.toNat v44) 0) v43_0 (cond (Nat.beq ((Int.toNat v44) - 1) 0) v43_1 (cond (Nat.beq (((Int.toNat v44) - 1) - 1) 0) v43_2 (cond (Nat.beq ((((Int.toNat v44) - 1) - 1) - 1) 0) v43_3 (cond (Nat.beq (((((Int.toNat v44) - 1) - 1) - 1) - 1) 0) v43_4 (cond (Nat.beq ((((((Int.toNat v44) - 1) - 1) - 1) - 1) - 1) 0) v43_5 0)))))) != 0)) v43_0 v43_1 v43_2 v43_3 v43_4 v43_5 v36 v37 v38 b0_0 b0_1 b0_2 b0_3 b0_4 b1_0 b1_1 b1_2 b1_3 b1_4 b1_5 b1_6 b1_7 b1_8)))
        (cond v5
          (g8 ((IntKind.wrap .i64 (v44 + 1))) true v43_0 v43_1 v43_2 v43_3 v43_4 v43_5 v36 v37 v38 b0_0 b0_1 b0_2 b0_3 b0_4 b1_0 b1_1 b1_2 b1_3 b1_4 b1_5 b1_6 b1_7 b1_8)
          (g8 ((IntKind.wrap .i64 (v44 + 1))) (((cond (Nat.beq (Int.toNat v44) 0) v43_0 (cond (Nat.beq ((Int.toNat v44) - 1) 0) v43_1 (cond (Nat.beq (((Int.toNat v44) - 1) - 1) 0) v43_2 (cond (Nat.beq ((((Int.toNat v44) - 1) - 1) - 1) 0) v43_3 (cond (Nat.beq (((((Int.toNat v44) - 1) - 1) - 1) - 1) 0) v43_4 (cond (Nat.beq ((((((Int.toNat v44) - 1) - 1) - 1) - 1) - 1) 0) v43_5 0)))))) != 0)) v43_0 v43_1 v43_2 v43_3 v43_4 v43_5 v36 v37 v38 b0_0 b0_1 b0_2 b0_3 b0_4 b1_0 b1_1 b1_2 b1_3 b1_4 b1_5 b1_6 b1_7 b1_8))))
    (none))
  (cond (!v5)
    (some ((((false, ()), ()), ())))
    ((impl_ValidFrac n ((b1_6, b1_7))).bind fun r3 =>
      cond (!r3.1.1.1)
      (some ((((false, ()), ()), ())))
      ((impl_within n b1_8 1 100).bind fun r4 =>
        cond (!r4.1.1.1)
        (some ((((false, ()), ()), ())))
        (g4 ((IntKind.wrap .i64 (v38 + 1))) v36 v37 b0_0 b0_1 b0_2 b0_3 b0_4))))

noncomputable def impl_ValidTable_l8 (n : Nat) (g4 : Int → (List (((Int) × ((Int) × ((Int) × ((Int) × ((Int) × (Int)))))) × (((Int) × (Int)) × (Int)))) → Int → Int → (List (((Int) × ((Int) × ((Int) × ((Int) × ((Int) × (Int)))))) × (((Int) × (Int)) × (Int)))) → Bool → Int → Int → Option ((((Bool) × (Unit)) × (Unit)) × (Unit))) : Nat → Int → Bool → Int → Int → Int → Int → Int → Int → (List (((Int) × ((Int) × ((Int) × ((Int) × ((Int) × (Int)))))) × (((Int) × (Int)) × (Int)))) → Int → Int → Int → (List (((Int) × ((Int) × ((Int) × ((Int) × ((Int) × (Int)))))) × (((Int) × (Int)) × (Int)))) → Bool → Int → Int → Int → Int → Int → Int → Int → Int → Int → Int → Int → Option ((((Bool) × (Unit)) × (Unit)) × (Unit))
  | 0, _, _, _, _, _, _, _, _, _, _, _, _, _, _, _, _, _, _, _, _, _, _, _, _, _ => none
  | k + 1, v44, v5, v43_0, v43_1, v43_2, v43_3, v43_4, v43_5, v36, v37, v38, b0_0, b0_1, b0_2, b0_3, b0_4, b1_0, b1_1, b1_2, b1_3, b1_4, b1_5, b1_6, b1_7, b1_8 => impl_ValidTable_t8 n g4 (impl_ValidTable_l8 n g4 k) v44 v5 v43_0 v43_1 v43_2 v43_3 v43_4 v43_5 v36 v37 v38 b0_0 b0_1 b0_2 b0_3 b0_4 b1_0 b1_1 b1_2 b1_3 b1_4 b1_5 b1_6 b1_7 b1_8

noncomputable def impl_ValidTable_t4 (n : Nat) (h8 : Nat → Int → Bool → Int → Int → Int → Int → Int → Int → (List (((Int) × ((Int) × ((Int) × ((Int) × ((Int) × (Int)))))) × (((Int) × (Int)) × (Int)))) → Int → Int → Int → (List (((Int) × ((Int) × ((Int) × ((Int) × ((Int) × (Int)))))) × (((Int) × (Int)) × (Int)))) → Bool → Int → Int → Int → Int → Int → Int → Int → Int → Int → Int → Int → Option ((((Bool) × (Unit)) × (Unit)) × (Unit))) (g4 : Int → (List (((Int) × ((Int) × ((Int) × ((Int) × ((Int) × (Int)))))) × (((Int) × (Int)) × (Int)))) → Int → Int → (List (((Int) × ((Int) × ((Int) × ((Int) × ((Int) × (Int)))))) × (((Int) × (Int)) × (Int)))) → Bool → Int → Int → Option ((((Bool) × (Unit)) × (Unit)) × (Unit))) (v38 : Int) (v36 : List (((Int) × ((Int) × ((Int) × ((Int) × ((Int) × (Int)))))) × (((Int) × (Int)) × (Int)))) (v37 : Int) (b0_0 : Int) (b0_1 : List (((Int) × ((Int) × ((Int) × ((Int) × ((Int) × (Int)))))) × (((Int) × (Int)) × (Int)))) (b0_2 : Bool) (b0_3 : Int) (b0_4 : Int) : Option ((((Bool) × (Unit)) × (Unit)) × (Unit)) :=
  cond (decide (v38 < v37))
  (cond ((decide (0 ≤ v38) && decide (v38 < ((v36.length : Nat) : Int))))
    (h8 n 0 false ((v36.getD (Int.toNat v38) ((0, (0, (0, (0, (0, 0))))), ((0, 0), 0))).1.1) ((v36.getD (Int.toNat v38) ((0, (0, (0, (0, (0, 0))))), ((0, 0), 0))).1.2.1) ((v36.getD (Int.toNat v38) ((0, (0, (0, (0, (0, 0))))), ((0, 0), 0))).1.2.2.1) ((v36.getD (Int.toNat v38) ((0, (0, (0, (0, (0, 0))))), ((0, 0), 0))).1.2.2.2.1) ((v36.getD (Int.toNat v38) ((0, (0, (0, (0, (0, 0))))), ((0, 0), 0))).1.2.2.2.2.1) ((v36.getD (Int.toNat v38) ((0, (0, (0, (0, (0, 0))))), ((0, 0), 0))).1.2.2.2.2.2) v36 v37 v38 b0_0 b0_1 b0_2 b0_3 b0_4 ((v36.getD (Int.toNat v38) ((0, (0, (0, (0, (0, 0))))), ((0, 0), 0))).1.1) ((v36.getD (Int.toNat v38) ((0, (0, (0, (0, (0, 0))))), ((0, 0), 0))).1.2.1) ((v36.getD (Int.toNat v38) ((0, (0, (0, (0, (0, 0))))), ((0, 0), 0))).1.2.2.1) ((v36.getD (Int.toNat v38) ((0, (0, (0, (0, (0, 0))))), ((0, 0), 0))).1.2.2.2.1) ((v36.getD (Int.toNat v38) ((0, (0, (0, (0, (0, 0))))), ((0, 0), 0))).1.2.2.2.2.1) ((v36.getD (Int.toNat v38) ((0, (0, (0, (0, (0, 0))))), ((0, 0), 0))).1.2.2.2.2.2) ((v36.getD (Int.toNat v38) ((0, (0, (0, (0, (0, 0))))), ((0, 0), 0))).2.1.1) ((v36.getD (Int.toNat v38) ((0, (0, (0, (0, (0, 0))))), ((0, 0), 0))).2.1.2) ((v36.getD (Int.toNat v38) ((0, (0, (0, (0, (0, 0))))), ((0, 0), 0))).2.2))
    (none))
  (some ((((true, ()), ()), ())))

noncomputable def impl_ValidTable_l4 (n : Nat) : Nat → Int → (List (((Int) × ((Int) × ((Int) × ((Int) × ((Int) × (Int)))))) × (((Int) × (Int)) × (Int)))) → Int → Int → (List (((Int) × ((Int) × ((Int) × ((Int) × ((Int) × (Int)))))) × (((Int) × (Int)) × (Int)))) → Bool → Int → Int → Option ((((Bool) × (Unit)) × (Unit)) × (Unit))
  | 0, _, _, _, _, _, _, _, _ => none
  | k + 1, v38, v36, v37, b0_0, b0_1, b0_2, b0_3, b0_4 => impl_ValidTable_t4 n (impl_ValidTable_l8 n (impl_ValidTable_l4 n k)) (impl_ValidTable_l4 n k) v38 v36 v37 b0_0 b0_1 b0_2 b0_3 b0_4

noncomputable def impl_ValidTable_t (n : Nat) (h4 : Nat → Int → (List (((Int) × ((Int) × ((Int) × ((Int) × ((Int) × (Int)))))) × (((Int) × (Int)) × (Int)))) → Int → Int → (List (((Int) × ((Int) × ((Int) × ((Int) × ((Int) × (Int)))))) × (((Int) × (Int)) × (Int)))) → Bool → Int → Int → Option ((((Bool) × (Unit)) × (Unit)) × (Unit))) (a0 : (Int) × ((List (((Int) × ((Int) × ((Int) × ((Int) × ((Int) × (Int)))))) × (((Int) × (Int)) × (Int)))) × ((Bool) × ((Int) × (Int))))) : Option ((((Bool) × (Unit)) × (Unit)) × (Unit)) :=
  (impl_within n a0.1 1 6).bind fun r0 =>
  cond (!r0.1.1.1)
  (some ((((false, ()), ()), ())))
  (cond (decide (((a0.2.1.length : Nat) : Int) > 24))
    (some ((((false, ()), ()), ())))
    ((impl_ValidFrac n ((a0.2.2.2.1, a0.2.2.2.2))).bind fun r1 =>
      cond (!r1.1.1.1)
      (some ((((false, ()), ()), ())))
      (cond (!a0.2.2.1)
        (cond ((a0.2.2.2.1 != 0))
          (some ((((false, ()), ()), ())))
          (h4 n 0 a0.2.1 (((a0.2.1.length : Nat) : Int)) a0.1 a0.2.1 a0.2.2.1 a0.2.2.2.1 a0.2.2.2.2))
        (h4 n 0 a0.2.1 (((a0.2.1.length : Nat) : Int)) a0.1 a0.2.1 a0.2.2.1 a0.2.2.2.1 a0.2.2.2.2))))

noncomputable def impl_ValidTable (n : Nat) (a0 : (Int) × ((List (((Int) × ((Int) × ((Int) × ((Int) × ((Int) × (Int)))))) × (((Int) × (Int)) × (Int)))) × ((Bool) × ((Int) × (Int))))) : Option ((((Bool) × (Unit)) × (Unit)) × (Unit)) := impl_ValidTable_t n (impl_ValidTable_l4 n) a0

noncomputable def impl_TableText_t11 (n : Nat) (g8 : ByteArray → Int → (List (((Int) × ((Int) × ((Int) × ((Int) × ((Int) × (Int)))))) × (((Int) × (Int)) × (Int)))) → Int → Int → (List (((Int) × ((Int) × ((Int) × ((Int) × ((Int) × (Int)))))) × (((Int) × (Int)) × (Int)))) → Bool → Int → Int → Option ((((ByteArray) × (Unit)) × (Unit)) × (Unit))) (g11 : Int → ByteArray → Nat → (List (((Int) × ((Int) × ((Int) × ((Int) × ((Int) × (Int)))))) × (((Int) × (Int)) × (Int)))) → Int → Int → Int → Int → Int → Int → Int → Int → Int → Int → Int → Int → Int → (List (((Int) × ((Int) × ((Int) × ((Int) × ((Int) × (Int)))))) × (((Int) × (Int)) × (Int)))) → Bool → Int → Int → Option ((((ByteArray) × (Unit)) × (Unit)) × (Unit))) (v36 : Int) (v3 : ByteArray) (v34a5 : Nat) (v25 : List (((Int) × ((Int) × ((Int) × ((Int) × ((Int) × (Int)))))) × (((Int) × (Int)) × (Int)))) (v26 : Int) (v27 : Int) (v35 : Int) (b0_0 : Int) (b0_1 : Int) (b0_2 : Int) (b0_3 : Int) (b0_4 : Int) (b0_5 : Int) (b0_6 : Int) (b0_7 : Int) (b0_8 : Int) (b1_0 : Int) (b1_1 : List (((Int) × ((Int) × ((Int) × ((Int) × ((Int) × (Int)))))) × (((Int) × (Int)) × (Int)))) (b1_2 : Bool) (b1_3 : Int) (b1_4 : Int) : Option ((((ByteArray) × (Unit)) × (Unit)) × (Unit)) :=
  cond (decide (v36 < v35))
  (cond ((decide (0 ≤ v36) && decide (v36 < ((v34a5 : Nat) : Int))))
    ((impl_dec n ((IntKind.wrap .i64 (cond (Nat.beq (Int.toNat v36) 0) b0_0 (cond (Nat.beq ((Int.toNat v36) - 1) 0) b0_1 (cond (Nat.beq (((Int.toNat v36) - 1) - 1) 0) b0_2 (cond (Nat.beq ((((Int.toNat v36) - 1) - 1) - 1) 0) b0_3 (cond (Nat.beq (((((Int.toNat v36) - 1) - 1) - 1) - 1) 0) b0_4 (cond (Nat.beq ((((((Int.toNat v36) - 1) - 1) - 1) - 1) - 1) 0) b0_5 0))))))))).bind fun r3 =>
      cond ((roomStr r3.1.1.1 (ByteArray.mk #[32])))
      (cond ((roomStr v3 (r3.1.1.1 ++ (ByteArray.mk #[32]))))
        (g11 ((IntKind.wrap .i64 (v36 + 1))) ((v3 ++ (r3.1.1.1 ++ (ByteArray.mk #[32])))) v34a5 v25 v26 v27 v35 b0_0 b0_1 b0_2 b0_3 b0_4 b0_5 b0_6 b0_7 b0_8 b1_0 b1_1 b1_2 b1_3 b1_4)
        (none))
      (none))
    (none))
  ((impl_FracText n ((b0_6, b0_7))).bind fun r4 =>
    cond ((roomStr r4.1.1.1 (ByteArray.mk #[32])))
    ((impl_dec n b0_8).bind fun r5 =>
      cond ((roomStr (r4.1.1.1 ++ (ByteArray.mk #[32])) r5.1.1.1))
      (cond ((roomStr ((r4.1.1.1 ++ (ByteArray.mk #[32])) ++ r5.1.1.1) (ByteArray.mk #[10])))
        (cond ((roomStr v3 (((r4.1.1.1 ++ (ByteArray.mk #[32])) ++ r5.1.1.1) ++ (ByteArray.mk #[10]))))
          (g8 ((v3 ++ (((r4.1.1.1 ++ (ByteArray.mk #[32])) ++ r5.1.1.1) ++ (ByteArray.mk #[10])))) ((IntKind.wrap .i64 (v27 + 1))) v25 v26 b1_0 b1_1 b1_2 b1_3 b1_4)
          (none))
        (none))
      (none))
    (none))

noncomputable def impl_TableText_l11 (n : Nat) (g8 : ByteArray → Int → (List (((Int) × ((Int) × ((Int) × ((Int) × ((Int) × (Int)))))) × (((Int) × (Int)) × (Int)))) → Int → Int → (List (((Int) × ((Int) × ((Int) × ((Int) × ((Int) × (Int)))))) × (((Int) × (Int)) × (Int)))) → Bool → Int → Int → Option ((((ByteArray) × (Unit)) × (Unit)) × (Unit))) : Nat → Int → ByteArray → Nat → (List (((Int) × ((Int) × ((Int) × ((Int) × ((Int) × (Int)))))) × (((Int) × (Int)) × (Int)))) → Int → Int → Int → Int → Int → Int → Int → Int → Int → Int → Int → Int → Int → (List (((Int) × ((Int) × ((Int) × ((Int) × ((Int) × (Int)))))) × (((Int) × (Int)) × (Int)))) → Bool → Int → Int → Option ((((ByteArray) × (Unit)) × (Unit)) × (Unit))
  | 0, _, _, _, _, _, _, _, _, _, _, _, _, _, _, _, _, _, _, _, _, _ => none
  | k + 1, v36, v3, v34a5, v25, v26, v27, v35, b0_0, b0_1, b0_2, b0_3, b0_4, b0_5, b0_6, b0_7, b0_8, b1_0, b1_1, b1_2, b1_3, b1_4 => impl_TableText_t11 n g8 (impl_TableText_l11 n g8 k) v36 v3 v34a5 v25 v26 v27 v35 b0_0 b0_1 b0_2 b0_3 b0_4 b0_5 b0_6 b0_7 b0_8 b1_0 b1_1 b1_2 b1_3 b1_4

noncomputable def impl_TableText_t8 (n : Nat) (h11 : Nat → Int → ByteArray → Nat → (List (((Int) × ((Int) × ((Int) × ((Int) × ((Int) × (Int)))))) × (((Int) × (Int)) × (Int)))) → Int → Int → Int → Int → Int → Int → Int → Int → Int → Int → Int → Int → Int → (List (((Int) × ((Int) × ((Int) × ((Int) × ((Int) × (Int)))))) × (((Int) × (Int)) × (Int)))) → Bool → Int → Int → Option ((((ByteArray) × (Unit)) × (Unit)) × (Unit))) (g8 : ByteArray → Int → (List (((Int) × ((Int) × ((Int) × ((Int) × ((Int) × (Int)))))) × (((Int) × (Int)) × (Int)))) → Int → Int → (List (((Int) × ((Int) × ((Int) × ((Int) × ((Int) × (Int)))))) × (((Int) × (Int)) × (Int)))) → Bool → Int → Int → Option ((((ByteArray) × (Unit)) × (Unit)) × (Unit))) (v3 : ByteArray) (v27 : Int) (v25 : List (((Int) × ((Int) × ((Int) × ((Int) × ((Int) × (Int)))))) × (((Int) × (Int)) × (Int)))) (v26 : Int) (b0_0 : Int) (b0_1 : List (((Int) × ((Int) × ((Int) × ((Int) × ((Int) × (Int)))))) × (((Int) × (Int)) × (Int)))) (b0_2 : Bool) (b0_3 : Int) (b0_4 : Int) : Option ((((ByteArray) × (Unit)) × (Unit)) × (Unit)) :=
  cond (decide (v27 < v26))
  (cond ((decide (0 ≤ v27) && decide (v27 < ((v25.length : Nat) : Int))))
    (cond ((decide (0 ≤ b0_0) && decide (b0_0 ≤ 6)))
      (h11 n 0 v3 ((Int.toNat b0_0)) v25 v26 v27 ((((Int.toNat b0_0) : Nat) : Int)) ((v25.getD (Int.toNat v27) ((0, (0, (0, (0, (0, 0))))), ((0, 0), 0))).1.1) ((v25.getD (Int.toNat v27) ((0, (0, (0, (0, (0, 0))))), ((0, 0), 0))).1.2.1) ((v25.getD (Int.toNat v27) ((0, (0, (0, (0, (0, 0))))), ((0, 0), 0))).1.2.2.1) ((v25.getD (Int.toNat v27) ((0, (0, (0, (0, (0, 0))))), ((0, 0), 0))).1.2.2.2.1) ((v25.getD (Int.toNat v27) ((0, (0, (0, (0, (0, 0))))), ((0, 0), 0))).1.2.2.2.2.1) ((v25.getD (Int.toNat v27) ((0, (0, (0, (0, (0, 0))))), ((0, 0), 0))).1.2.2.2.2.2) ((v25.getD (Int.toNat v27) ((0, (0, (0, (0, (0, 0))))), ((0, 0), 0))).2.1.1) ((v25.getD (Int.toNat v27) ((0, (0, (0, (0, (0, 0))))), ((0, 0), 0))).2.1.2) ((v25.getD (Int.toNat v27) ((0, (0, (0, (0, (0, 0))))), ((0, 0), 0))).2.2) b0_0 b0_1 b0_2 b0_3 b0_4)
      (none))
    (none))
  (some ((((v3, ()), ()), ())))

noncomputable def impl_TableText_l8 (n : Nat) : Nat → ByteArray → Int → (List (((Int) × ((Int) × ((Int) × ((Int) × ((Int) × (Int)))))) × (((Int) × (Int)) × (Int)))) → Int → Int → (List (((Int) × ((Int) × ((Int) × ((Int) × ((Int) × (Int)))))) × (((Int) × (Int)) × (Int)))) → Bool → Int → Int → Option ((((ByteArray) × (Unit)) × (Unit)) × (Unit))
  | 0, _, _, _, _, _, _, _, _, _ => none
  | k + 1, v3, v27, v25, v26, b0_0, b0_1, b0_2, b0_3, b0_4 => impl_TableText_t8 n (impl_TableText_l11 n (impl_TableText_l8 n k)) (impl_TableText_l8 n k) v3 v27 v25 v26 b0_0 b0_1 b0_2 b0_3 b0_4

noncomputable def impl_TableText_t (n : Nat) (h8 : Nat → ByteArray → Int → (List (((Int) × ((Int) × ((Int) × ((Int) × ((Int) × (Int)))))) × (((Int) × (Int)) × (Int)))) → Int → Int → (List (((Int) × ((Int) × ((Int) × ((Int) × ((Int) × (Int)))))) × (((Int) × (Int)) × (Int)))) → Bool → Int → Int → Option ((((ByteArray) × (Unit)) × (Unit)) × (Unit))) (a0 : (Int) × ((List (((Int) × ((Int) × ((Int) × ((Int) × ((Int) × (Int)))))) × (((Int) × (Int)) × (Int)))) × ((Bool) × ((Int) × (Int))))) : Option ((((ByteArray) × (Unit)) × (Unit)) × (Unit)) :=
  (impl_ValidTable n ((a0.1, (a0.2.1, (a0.2.2.1, (a0.2.2.2.1, a0.2.2.2.2)))))).bind fun r0 =>
  cond (!r0.1.1.1)
  (some (((((ByteArray.mk #[]), ()), ()), ())))
  ((impl_dec n a0.1).bind fun r1 =>
    cond a0.2.2.1
    ((impl_FracText n ((a0.2.2.2.1, a0.2.2.2.2))).bind fun r2 =>
      cond ((roomStr (ByteArray.mk #[32, 99, 108, 111, 115, 101, 100, 32]) r2.1.1.1))
      (cond ((roomStr r1.1.1.1 ((ByteArray.mk #[32, 99, 108, 111, 115, 101, 100, 32]) ++ r2.1.1.1)))
        (cond ((roomStr (r1.1.1.1 ++ ((ByteArray.mk #[32, 99, 108, 111, 115, 101, 100, 32]) ++ r2.1.1.1)) (ByteArray.mk #[10])))
          (h8 n (((r1.1.1.1 ++ ((ByteArray.mk #[32, 99, 108, 111, 115, 101, 100, 32]) ++ r2.1.1.1)) ++ (ByteArray.mk #[10]))) 0 a0.2.1 (((a0.2.1.length : Nat) : Int)) a0.1 a0.2.1 a0.2.2.1 a0.2.2.2.1 a0.2.2.2.2)
          (none))
        (none))
      (none))
    (cond ((roomStr r1.1.1.1 (ByteArray.mk #[10])))
      (h8 n ((r1.1.1.1 ++ (ByteArray.mk #[10]))) 0 a0.2.1 (((a0.2.1.length : Nat) : Int)) a0.1 a0.2.1 a0.2.2.1 a0.2.2.2.1 a0.2.2.2.2)
      (none)))

noncomputable def impl_TableText (n : Nat) (a0 : (Int) × ((List (((Int) × ((Int) × ((Int) × ((Int) × ((Int) × (Int)))))) × (((Int) × (Int)) × (Int)))) × ((Bool) × ((Int) × (Int))))) : Option ((((ByteArray) × (Unit)) × (Unit)) × (Unit)) := impl_TableText_t n (impl_TableText_l8 n) a0

noncomputable def laws_eqFrac_t (n : Nat) (a0 : (Int) × (Int)) (a1 : (Int) × (Int)) : Option ((((Bool) × (Unit)) × (Unit)) × (Unit)) :=
  cond ((a0.1 != a1.1))
  (some ((((false, ()), ()), ())))
  (cond ((a0.2 != a1.2))
    (some ((((false, ()), ()), ())))
    (some ((((true, ()), ()), ()))))

noncomputable def laws_eqFrac (n : Nat) (a0 : (Int) × (Int)) (a1 : (Int) × (Int)) : Option ((((Bool) × (Unit)) × (Unit)) × (Unit)) := laws_eqFrac_t n a0 a1

noncomputable def laws_eqInt8A6_t2 (n : Nat) (g2 : Int → Int → Int → Int → Int → Int → Int → Int → Int → Int → Int → Int → Int → Option ((((Bool) × (Unit)) × (Unit)) × (Unit))) (v5 : Int) (b0_0 : Int) (b0_1 : Int) (b0_2 : Int) (b0_3 : Int) (b0_4 : Int) (b0_5 : Int) (b1_0 : Int) (b1_1 : Int) (b1_2 : Int) (b1_3 : Int) (b1_4 : Int) (b1_5 : Int) : Option ((((Bool) × (Unit)) × (Unit)) × (Unit)) :=
  cond (decide (v5 < 6))
  (cond ((decide (0 ≤ v5) && decide (v5 < 6)))
    (cond ((decide (0 ≤ v5) && decide (v5 < 6)))
      (cond (((cond (Nat.beq (Int.toNat v5) 0) b1_0 (cond (Nat.beq ((Int.toNat v5) - 1) 0) b1_1 (cond (Nat.beq (((Int.toNat v5) - 1) - 1) 0) b1_2 (cond (Nat.beq ((((Int.toNat v5) - 1) - 1) - 1) 0) b1_3 (cond (Nat.beq (((((Int.toNat v5) - 1) - 1) - 1) - 1) 0) b1_4 (cond (Nat.beq ((((((Int.toNat v5) - 1) - 1) - 1) - 1) - 1) 0) b1_5 0)))))) != (cond (Nat.beq (Int.toNat v5) 0) b0_0 (cond (Nat.beq ((Int.toNat v5) - 1) 0) b0_1 (cond (Nat.beq (((Int.toNat v5) - 1) - 1) 0) b0_2 (cond (Nat.beq ((((Int.toNat v5) - 1) - 1) - 1) 0) b0_3 (cond (Nat.beq (((((Int.toNat v5) - 1) - 1) - 1) - 1) 0) b0_4 (cond (Nat.beq ((((((Int.toNat v5) - 1) - 1) - 1) - 1) - 1) 0) b0_5 0))))))))
        (some ((((false, ()), ()), ())))
        (g2 ((IntKind.wrap .i64 (v5 + 1))) b0_0 b0_1 b0_2 b0_3 b0_4 b0_5 b1_0 b1_1 b1_2 b1_3 b1_4 b1_5))
      (none))
    (none))
  (some ((((true, ()), ()), ())))

noncomputable def laws_eqInt8A6_l2 (n : Nat) : Nat → Int → Int → Int → Int → Int → Int → Int → Int → Int → Int → Int → Int → Int → Option ((((Bool) × (Unit)) × (Unit)) × (Unit))
  | 0, _, _, _, _, _, _, _, _, _, _, _, _, _ => none
  | k + 1, v5, b0_0, b0_1, b0_2, b0_3, b0_4, b0_5, b1_0, b1_1, b1_2, b1_3, b1_4, b1_5 => laws_eqInt8A6_t2 n (laws_eqInt8A6_l2 n k) v5 b0_0 b0_1 b0_2 b0_3 b0_4 b0_5 b1_0 b1_1 b1_2 b1_3 b1_4 b1_5

noncomputable def laws_eqInt8A6_t (n : Nat) (h2 : Nat → Int → Int → Int → Int → Int → Int → Int → Int → Int → Int → Int → Int → Int → Option ((((Bool) × (Unit)) × (Unit)) × (Unit))) (a0 : (Int) × ((Int) × ((Int) × ((Int) × ((Int) × (Int)))))) (a1 : (Int) × ((Int) × ((Int) × ((Int) × ((Int) × (Int)))))) : Option ((((Bool) × (Unit)) × (Unit)) × (Unit)) :=
  h2 n 0 a1.1 a1.2.1 a1.2.2.1 a1.2.2.2.1 a1.2.2.2.2.1 a1.2.2.2.2.2 a0.1 a0.2.1 a0.2.2.1 a0.2.2.2.1 a0.2.2.2.2.1 a0.2.2.2.2.2

noncomputable def laws_eqInt8A6 (n : Nat) (a0 : (Int) × ((Int) × ((Int) × ((Int) × ((Int) × (Int)))))) (a1 : (Int) × ((Int) × ((Int) × ((Int) × ((Int) × (Int)))))) : Option ((((Bool) × (Unit)) × (Unit)) × (Unit)) := laws_eqInt8A6_t n (laws_eqInt8A6_l2 n) a0 a1

noncomputable def laws_eqObs_t (n : Nat) (a0 : ((Int) × ((Int) × ((Int) × ((Int) × ((Int) × (Int)))))) × (((Int) × (Int)) × (Int))) (a1 : ((Int) × ((Int) × ((Int) × ((Int) × ((Int) × (Int)))))) × (((Int) × (Int)) × (Int))) : Option ((((Bool) × (Unit)) × (Unit)) × (Unit)) :=
  (laws_eqInt8A6 n ((a0.1.1, (a0.1.2.1, (a0.1.2.2.1, (a0.1.2.2.2.1, (a0.1.2.2.2.2.1, a0.1.2.2.2.2.2)))))) ((a1.1.1, (a1.1.2.1, (a1.1.2.2.1, (a1.1.2.2.2.1, (a1.1.2.2.2.2.1, a1.1.2.2.2.2.2))))))).bind fun r0 =>
  cond (!r0.1.1.1)
  (some ((((false, ()), ()), ())))
  ((laws_eqFrac n ((a0.2.1.1, a0.2.1.2)) ((a1.2.1.1, a1.2.1.2))).bind fun r1 =>
    cond (!r1.1.1.1)
    (some ((((false, ()), ()), ())))
    (cond ((a0.2.2 != a1.2.2))
      (some ((((false, ()), ()), ())))
      (some ((((true, ()), ()), ())))))

noncomputable def laws_eqObs (n : Nat) (a0 : ((Int) × ((Int) × ((Int) × ((Int) × ((Int) × (Int)))))) × (((Int) × (Int)) × (Int))) (a1 : ((Int) × ((Int) × ((Int) × ((Int) × ((Int) × (Int)))))) × (((Int) × (Int)) × (Int))) : Option ((((Bool) × (Unit)) × (Unit)) × (Unit)) := laws_eqObs_t n a0 a1

noncomputable def laws_eqObsS_t4 (n : Nat) (g4 : Int → (List (((Int) × ((Int) × ((Int) × ((Int) × ((Int) × (Int)))))) × (((Int) × (Int)) × (Int)))) → (List (((Int) × ((Int) × ((Int) × ((Int) × ((Int) × (Int)))))) × (((Int) × (Int)) × (Int)))) → Option ((((Bool) × (Unit)) × (Unit)) × (Unit))) (v5 : Int) (v1 : List (((Int) × ((Int) × ((Int) × ((Int) × ((Int) × (Int)))))) × (((Int) × (Int)) × (Int)))) (v0 : List (((Int) × ((Int) × ((Int) × ((Int) × ((Int) × (Int)))))) × (((Int) × (Int)) × (Int)))) : Option ((((Bool) × (Unit)) × (Unit)) × (Unit)) :=
  cond (decide (v5 < ((v0.length : Nat) : Int)))
  (cond ((decide (0 ≤ v5) && decide (v5 < ((v0.length : Nat) : Int))))
    (cond ((decide (0 ≤ v5) && decide (v5 < ((v1.length : Nat) : Int))))
      ((laws_eqObs n ((((v0.getD (Int.toNat v5) ((0, (0, (0, (0, (0, 0))))), ((0, 0), 0))).1.1, ((v0.getD (Int.toNat v5) ((0, (0, (0, (0, (0, 0))))), ((0, 0), 0))).1.2.1, ((v0.getD (Int.toNat v5) ((0, (0, (0, (0, (0, 0))))), ((0, 0), 0))).1.2.2.1, ((v0.getD (Int.toNat v5) ((0, (0, (0, (0, (0, 0))))), ((0, 0), 0))).1.2.2.2.1, ((v0.getD (Int.toNat v5) ((0, (0, (0, (0, (0, 0))))), ((0, 0), 0))).1.2.2.2.2.1, (v0.getD (Int.toNat v5) ((0, (0, (0, (0, (0, 0))))), ((0, 0), 0))).1.2.2.2.2.2))))), (((v0.getD (Int.toNat v5) ((0, (0, (0, (0, (0, 0))))), ((0, 0), 0))).2.1.1, (v0.getD (Int.toNat v5) ((0, (0, (0, (0, (0, 0))))), ((0, 0), 0))).2.1.2), (v0.getD (Int.toNat v5) ((0, (0, (0, (0, (0, 0))))), ((0, 0), 0))).2.2))) ((((v1.getD (Int.toNat v5) ((0, (0, (0, (0, (0, 0))))), ((0, 0), 0))).1.1, ((v1.getD (Int.toNat v5) ((0, (0, (0, (0, (0, 0))))), ((0, 0), 0))).1.2.1, ((v1.getD (Int.toNat v5) ((0, (0, (0, (0, (0, 0))))), ((0, 0), 0))).1.2.2.1, ((v1.getD (Int.toNat v5) ((0, (0, (0, (0, (0, 0))))), ((0, 0), 0))).1.2.2.2.1, ((v1.getD (Int.toNat v5) ((0, (0, (0, (0, (0, 0))))), ((0, 0), 0))).1.2.2.2.2.1, (v1.getD (Int.toNat v5) ((0, (0, (0, (0, (0, 0))))), ((0, 0), 0))).1.2.2.2.2.2))))), (((v1.getD (Int.toNat v5) ((0, (0, (0, (0, (0, 0))))), ((0, 0), 0))).2.1.1, (v1.getD (Int.toNat v5) ((0, (0, (0, (0, (0, 0))))), ((0, 0), 0))).2.1.2), (v1.getD (Int.toNat v5) ((0, (0, (0, (0, (0, 0))))), ((0, 0), 0))).2.2)))).bind fun r0 =>
        cond (!r0.1.1.1)
        (some ((((false, ()), ()), ())))
        (g4 ((IntKind.wrap .i64 (v5 + 1))) v1 v0))
      (none))
    (none))
  (some ((((true, ()), ()), ())))

noncomputable def laws_eqObsS_l4 (n : Nat) : Nat → Int → (List (((Int) × ((Int) × ((Int) × ((Int) × ((Int) × (Int)))))) × (((Int) × (Int)) × (Int)))) → (List (((Int) × ((Int) × ((Int) × ((Int) × ((Int) × (Int)))))) × (((Int) × (Int)) × (Int)))) → Option ((((Bool) × (Unit)) × (Unit)) × (Unit))
  | 0, _, _, _ => none
  | k + 1, v5, v1, v0 => laws_eqObsS_t4 n (laws_eqObsS_l4 n k) v5 v1 v0

noncomputable def laws_eqObsS_t (n : Nat) (h4 : Nat → Int → (List (((Int) × ((Int) × ((Int) × ((Int) × ((Int) × (Int)))))) × (((Int) × (Int)) × (Int)))) → (List (((Int) × ((Int) × ((Int) × ((Int) × ((Int) × (Int)))))) × (((Int) × (Int)) × (Int)))) → Option ((((Bool) × (Unit)) × (Unit)) × (Unit))) (a0 : List (((Int) × ((Int) × ((Int) × ((Int) × ((Int) × (Int)))))) × (((Int) × (Int)) × (Int)))) (a1 : List (((Int) × ((Int) × ((Int) × ((Int) × ((Int) × (Int)))))) × (((Int) × (Int)) × (Int)))) : Option ((((Bool) × (Unit)) × (Unit)) × (Unit)) :=
  cond ((((a0.length : Nat) : Int) != ((a1.length : Nat) : Int)))
  (some ((((false, ()), ()), ())))
  (h4 n 0 a1 a0)

noncomputable def laws_eqObsS (n : Nat) (a0 : List (((Int) × ((Int) × ((Int) × ((Int) × ((Int) × (Int)))))) × (((Int) × (Int)) × (Int)))) (a1 : List (((Int) × ((Int) × ((Int) × ((Int) × ((Int) × (Int)))))) × (((Int) × (Int)) × (Int)))) : Option ((((Bool) × (Unit)) × (Unit)) × (Unit)) := laws_eqObsS_t n (laws_eqObsS_l4 n) a0 a1

noncomputable def laws_eqTable_t (n : Nat) (a0 : (Int) × ((List (((Int) × ((Int) × ((Int) × ((Int) × ((Int) × (Int)))))) × (((Int) × (Int)) × (Int)))) × ((Bool) × ((Int) × (Int))))) (a1 : (Int) × ((List (((Int) × ((Int) × ((Int) × ((Int) × ((Int) × (Int)))))) × (((Int) × (Int)) × (Int)))) × ((Bool) × ((Int) × (Int))))) : Option ((((Bool) × (Unit)) × (Unit)) × (Unit)) :=
  cond ((a0.1 != a1.1))
  (some ((((false, ()), ()), ())))
  ((laws_eqObsS n a0.2.1 a1.2.1).bind fun r0 =>
    cond (!r0.1.1.1)
    (some ((((false, ()), ()), ())))
    (cond ((!(a0.2.2.1 == a1.2.2.1)))
      (some ((((false, ()), ()), ())))
      ((laws_eqFrac n ((a0.2.2.2.1, a0.2.2.2.2)) ((a1.2.2.2.1, a1.2.2.2.2))).bind fun r1 =>
        cond (!r1.1.1.1)
        (some ((((false, ()), ()), ())))
        (some ((((true, ()), ()), ()))))))

noncomputable def laws_eqTable (n : Nat) (a0 : (Int) × ((List (((Int) × ((Int) × ((Int) × ((Int) × ((Int) × (Int)))))) × (((Int) × (Int)) × (Int)))) × ((Bool) × ((Int) × (Int))))) (a1 : (Int) × ((List (((Int) × ((Int) × ((Int) × ((Int) × ((Int) × (Int)))))) × (((Int) × (Int)) × (Int)))) × ((Bool) × ((Int) × (Int))))) : Option ((((Bool) × (Unit)) × (Unit)) × (Unit)) := laws_eqTable_t n a0 a1

noncomputable def laws_szObsS_t (n : Nat) (a0 : List (((Int) × ((Int) × ((Int) × ((Int) × ((Int) × (Int)))))) × (((Int) × (Int)) × (Int)))) (a1 : Int) : Option ((((Int) × (Unit)) × (Unit)) × (Unit)) :=
  cond (decide ((IntKind.wrap .i64 (a1 - ((a0.length : Nat) : Int))) < 0))
  (some (((((-1), ()), ()), ())))
  (some (((((IntKind.wrap .i64 (a1 - ((a0.length : Nat) : Int))), ()), ()), ())))

noncomputable def laws_szObsS (n : Nat) (a0 : List (((Int) × ((Int) × ((Int) × ((Int) × ((Int) × (Int)))))) × (((Int) × (Int)) × (Int)))) (a1 : Int) : Option ((((Int) × (Unit)) × (Unit)) × (Unit)) := laws_szObsS_t n a0 a1

noncomputable def laws_szTable_t (n : Nat) (a0 : (Int) × ((List (((Int) × ((Int) × ((Int) × ((Int) × ((Int) × (Int)))))) × (((Int) × (Int)) × (Int)))) × ((Bool) × ((Int) × (Int))))) (a1 : Int) : Option ((((Int) × (Unit)) × (Unit)) × (Unit)) :=
  (laws_szObsS n a0.2.1 a1).bind fun r0 =>
  cond (decide (r0.1.1.1 < 0))
  (some (((((-1), ()), ()), ())))
  (some ((((r0.1.1.1, ()), ()), ())))

noncomputable def laws_szTable (n : Nat) (a0 : (Int) × ((List (((Int) × ((Int) × ((Int) × ((Int) × ((Int) × (Int)))))) × (((Int) × (Int)) × (Int)))) × ((Bool) × ((Int) × (Int))))) (a1 : Int) : Option ((((Int) × (Unit)) × (Unit)) × (Unit)) := laws_szTable_t n a0 a1

noncomputable def laws_toFrac_t (n : Nat) (a0 : (Int) × (Int)) : Option (((((Int) × (Int)) × (Unit)) × (Unit)) × (Unit)) :=
  some (((((a0.1, a0.2), ()), ()), ()))

noncomputable def laws_toFrac (n : Nat) (a0 : (Int) × (Int)) : Option (((((Int) × (Int)) × (Unit)) × (Unit)) × (Unit)) := laws_toFrac_t n a0

noncomputable def laws_toInt8A6_t3 (n : Nat) (g3 : Int → Int → Int → Int → Int → Int → Int → Int → Int → Int → Int → Int → Int → Int → Int → Int → Int → Int → Int → Option (((((Int) × ((Int) × ((Int) × ((Int) × ((Int) × (Int)))))) × (Unit)) × (Unit)) × (Unit))) (v4 : Int) (b0_0 : Int) (b0_1 : Int) (b0_2 : Int) (b0_3 : Int) (b0_4 : Int) (b0_5 : Int) (b1_0 : Int) (b1_1 : Int) (b1_2 : Int) (b1_3 : Int) (b1_4 : Int) (b1_5 : Int) (b2_0 : Int) (b2_1 : Int) (b2_2 : Int) (b2_3 : Int) (b2_4 : Int) (b2_5 : Int) : Option (((((Int) × ((Int) × ((Int) × ((Int) × ((Int) × (Int)))))) × (Unit)) × (Unit)) × (Unit)) :=
  cond (decide (v4 < 6))
  (cond ((decide (0 ≤ v4) && decide (v4 < 6)))
    (cond ((decide (0 ≤ v4) && decide (v4 < 6)))
      (g3 ((IntKind.wrap .i64 (v4 + 1))) ((cond (Nat.beq (Int.toNat v4) 0) (cond (Nat.beq (Int.toNat v4) 0) b1_0 (cond (Nat.beq ((Int.toNat v4) - 1) 0) b1_1 (cond (Nat.beq (((Int.toNat v4) - 1) - 1) 0) b1_2 (cond (Nat.beq ((((Int.toNat v4) - 1) - 1) - 1) 0) b1_3 (cond (Nat.beq (((((Int.toNat v4) - 1) - 1) - 1) - 1) 0) b1_4 (cond (Nat.beq ((((((Int.toNat v4) - 1) - 1) - 1) - 1) - 1) 0) b1_5 0)))))) b0_0)) ((cond (Nat.beq (Int.toNat v4) 1) (cond (Nat.beq (Int.toNat v4) 0) b1_0 (cond (Nat.beq ((Int.toNat v4) - 1) 0) b1_1 (cond (Nat.beq (((Int.toNat v4) - 1) - 1) 0) b1_2 (cond (Nat.beq ((((Int.toNat v4) - 1) - 1) - 1) 0) b1_3 (cond (Nat.beq (((((Int.toNat v4) - 1) - 1) - 1) - 1) 0) b1_4 (cond (Nat.beq ((((((Int.toNat v4) - 1) - 1) - 1) - 1) - 1) 0) b1_5 0)))))) b0_1)) ((cond (Nat.beq (Int.toNat v4) 2) (cond (Nat.beq (Int.toNat v4) 0) b1_0 (cond (Nat.beq ((Int.toNat v4) - 1) 0) b1_1 (cond (Nat.beq (((Int.toNat v4) - 1) - 1) 0) b1_2 (cond (Nat.beq ((((Int.toNat v4) - 1) - 1) - 1) 0) b1_3 (cond (Nat.beq (((((Int.toNat v4) - 1) - 1) - 1) - 1) 0) b1_4 (cond (Nat.beq ((((((Int.toNat v4) - 1) - 1) - 1) - 1) - 1) 0) b1_5 0)))))) b0_2)) ((cond (Nat.beq (Int.toNat v4) 3) (cond (Nat.beq (Int.toNat v4) 0) b1_0 (cond (Nat.beq ((Int.toNat v4) - 1) 0) b1_1 (cond (Nat.beq (((Int.toNat v4) - 1) - 1) 0) b1_2 (cond (Nat.beq ((((Int.toNat v4) - 1) - 1) - 1) 0) b1_3 (cond (Nat.beq (((((Int.toNat v4) - 1) - 1) - 1) - 1) 0) b1_4 (cond (Nat.beq ((((((Int.toNat v4) - 1) - 1) - 1) - 1) - 1) 0) b1_5 0)))))) b0_3)) ((cond (Nat.beq (Int.toNat v4) 4) (cond (Nat.beq (Int.toNat v4) 0) b1_0 (cond (Nat.beq ((Int.toNat v4) - 1) 0) b1_1 (cond (Nat.beq (((Int.toNat v4) - 1) - 1) 0) b1_2 (cond (Nat.beq ((((Int.toNat v4) - 1) - 1) - 1) 0) b1_3 (cond (Nat.beq (((((Int.toNat v4) - 1) - 1) - 1) - 1) 0) b1_4 (cond (Nat.beq ((((((Int.toNat v4) - 1) - 1) - 1) - 1) - 1) 0) b1_5 0)))))) b0_4)) ((cond (Nat.beq (Int.toNat v4) 5) (cond (Nat.beq (Int.toNat v4) 0) b1_0 (cond (Nat.beq ((Int.toNat v4) - 1) 0) b1_1 (cond (Nat.beq (((Int.toNat v4) - 1) - 1) 0) b1_2 (cond (Nat.beq ((((Int.toNat v4) - 1) - 1) - 1) 0) b1_3 (cond (Nat.beq (((((Int.toNat v4) - 1) - 1) - 1) - 1) 0) b1_4 (cond (Nat.beq ((((((Int.toNat v4) - 1) - 1) - 1) - 1) - 1) 0) b1_5 0)))))) b0_5)) b1_0 b1_1 b1_2 b1_3 b1_4 b1_5 b2_0 b2_1 b2_2 b2_3 b2_4 b2_5)
      (none))
    (none))
  (some (((((b0_0, (b0_1, (b0_2, (b0_3, (b0_4, b0_5))))), ()), ()), ())))

noncomputable def laws_toInt8A6_l3 (n : Nat) : Nat → Int → Int → Int → Int → Int → Int → Int → Int → Int → Int → Int → Int → Int → Int → Int → Int → Int → Int → Int → Option (((((Int) × ((Int) × ((Int) × ((Int) × ((Int) × (Int)))))) × (Unit)) × (Unit)) × (Unit))
  | 0, _, _, _, _, _, _, _, _, _, _, _, _, _, _, _, _, _, _, _ => none
  | k + 1, v4, b0_0, b0_1, b0_2, b0_3, b0_4, b0_5, b1_0, b1_1, b1_2, b1_3, b1_4, b1_5, b2_0, b2_1, b2_2, b2_3, b2_4, b2_5 => laws_toInt8A6_t3 n (laws_toInt8A6_l3 n k) v4 b0_0 b0_1 b0_2 b0_3 b0_4 b0_5 b1_0 b1_1 b1_2 b1_3 b1_4 b1_5 b2_0 b2_1 b2_2 b2_3 b2_4 b2_5

noncomputable def laws_toInt8A6_t (n : Nat) (h3 : Nat → Int → Int → Int → Int → Int → Int → Int → Int → Int → Int → Int → Int → Int → Int → Int → Int → Int → Int → Int → Option (((((Int) × ((Int) × ((Int) × ((Int) × ((Int) × (Int)))))) × (Unit)) × (Unit)) × (Unit))) (a0 : (Int) × ((Int) × ((Int) × ((Int) × ((Int) × (Int)))))) : Option (((((Int) × ((Int) × ((Int) × ((Int) × ((Int) × (Int)))))) × (Unit)) × (Unit)) × (Unit)) :=
  h3 n 0 0 0 0 0 0 0 a0.1 a0.2.1 a0.2.2.1 a0.2.2.2.1 a0.2.2.2.2.1 a0.2.2.2.2.2 0 0 0 0 0 0

noncomputable def laws_toInt8A6 (n : Nat) (a0 : (Int) × ((Int) × ((Int) × ((Int) × ((Int) × (Int)))))) : Option (((((Int) × ((Int) × ((Int) × ((Int) × ((Int) × (Int)))))) × (Unit)) × (Unit)) × (Unit)) := laws_toInt8A6_t n (laws_toInt8A6_l3 n) a0

noncomputable def laws_toObs_t (n : Nat) (a0 : ((Int) × ((Int) × ((Int) × ((Int) × ((Int) × (Int)))))) × (((Int) × (Int)) × (Int))) : Option ((((((Int) × ((Int) × ((Int) × ((Int) × ((Int) × (Int)))))) × (((Int) × (Int)) × (Int))) × (Unit)) × (Unit)) × (Unit)) :=
  (laws_toInt8A6 n ((a0.1.1, (a0.1.2.1, (a0.1.2.2.1, (a0.1.2.2.2.1, (a0.1.2.2.2.2.1, a0.1.2.2.2.2.2))))))).bind fun r0 =>
  (laws_toFrac n ((a0.2.1.1, a0.2.1.2))).bind fun r1 =>
  some ((((((r0.1.1.1.1, (r0.1.1.1.2.1, (r0.1.1.1.2.2.1, (r0.1.1.1.2.2.2.1, (r0.1.1.1.2.2.2.2.1, r0.1.1.1.2.2.2.2.2))))), ((r1.1.1.1.1, r1.1.1.1.2), a0.2.2)), ()), ()), ()))

noncomputable def laws_toObs (n : Nat) (a0 : ((Int) × ((Int) × ((Int) × ((Int) × ((Int) × (Int)))))) × (((Int) × (Int)) × (Int))) : Option ((((((Int) × ((Int) × ((Int) × ((Int) × ((Int) × (Int)))))) × (((Int) × (Int)) × (Int))) × (Unit)) × (Unit)) × (Unit)) := laws_toObs_t n a0

noncomputable def laws_toObsS_t3 (n : Nat) (g3 : Int → (List (((Int) × ((Int) × ((Int) × ((Int) × ((Int) × (Int)))))) × (((Int) × (Int)) × (Int)))) → (List (((Int) × ((Int) × ((Int) × ((Int) × ((Int) × (Int)))))) × (((Int) × (Int)) × (Int)))) → Option ((((List (((Int) × ((Int) × ((Int) × ((Int) × ((Int) × (Int)))))) × (((Int) × (Int)) × (Int)))) × (Unit)) × (Unit)) × (Unit))) (v4 : Int) (v0 : List (((Int) × ((Int) × ((Int) × ((Int) × ((Int) × (Int)))))) × (((Int) × (Int)) × (Int)))) (b0 : List (((Int) × ((Int) × ((Int) × ((Int) × ((Int) × (Int)))))) × (((Int) × (Int)) × (Int)))) : Option ((((List (((Int) × ((Int) × ((Int) × ((Int) × ((Int) × (Int)))))) × (((Int) × (Int)) × (Int)))) × (Unit)) × (Unit)) × (Unit)) :=
  cond (decide (v4 < ((v0.length : Nat) : Int)))
  (cond ((decide (0 ≤ v4) && decide (v4 < ((v0.length : Nat) : Int))))
    ((laws_toObs n ((((v0.getD (Int.toNat v4) ((0, (0, (0, (0, (0, 0))))), ((0, 0), 0))).1.1, ((v0.getD (Int.toNat v4) ((0, (0, (0, (0, (0, 0))))), ((0, 0), 0))).1.2.1, ((v0.getD (Int.toNat v4) ((0, (0, (0, (0, (0, 0))))), ((0, 0), 0))).1.2.2.1, ((v0.getD (Int.toNat v4) ((0, (0, (0, (0, (0, 0))))), ((0, 0), 0))).1.2.2.2.1, ((v0.getD (Int.toNat v4) ((0, (0, (0, (0, (0, 0))))), ((0, 0), 0))).1.2.2.2.2.1, (v0.getD (Int.toNat v4) ((0, (0, (0, (0, (0, 0))))), ((0, 0), 0))).1.2.2.2.2.2))))), (((v0.getD (Int.toNat v4) ((0, (0, (0, (0, (0, 0))))), ((0, 0), 0))).2.1.1, (v0.getD (Int.toNat v4) ((0, (0, (0, (0, (0, 0))))), ((0, 0), 0))).2.1.2), (v0.getD (Int.toNat v4) ((0, (0, (0, (0, (0, 0))))), ((0, 0), 0))).2.2)))).bind fun r0 =>
      cond ((decide (0 ≤ v4) && decide (v4 < ((b0.length : Nat) : Int))))
      (letIn ((b0.set (Int.toNat v4) ((r0.1.1.1.1.1, (r0.1.1.1.1.2.1, (r0.1.1.1.1.2.2.1, (r0.1.1.1.1.2.2.2.1, (r0.1.1.1.1.2.2.2.2.1, r0.1.1.1.1.2.2.2.2.2))))), ((r0.1.1.1.2.1.1, r0.1.1.1.2.1.2), r0.1.1.1.2.2)))) fun r1 =>
        g3 ((IntKind.wrap .i64 (v4 + 1))) v0 r1)
      (none))
    (none))
  (some ((((b0, ()), ()), ())))

noncomputable def laws_toObsS_l3 (n : Nat) : Nat → Int → (List (((Int) × ((Int) × ((Int) × ((Int) × ((Int) × (Int)))))) × (((Int) × (Int)) × (Int)))) → (List (((Int) × ((Int) × ((Int) × ((Int) × ((Int) × (Int)))))) × (((Int) × (Int)) × (Int)))) → Option ((((List (((Int) × ((Int) × ((Int) × ((Int) × ((Int) × (Int)))))) × (((Int) × (Int)) × (Int)))) × (Unit)) × (Unit)) × (Unit))
  | 0, _, _, _ => none
  | k + 1, v4, v0, b0 => laws_toObsS_t3 n (laws_toObsS_l3 n k) v4 v0 b0

noncomputable def laws_toObsS_t (n : Nat) (h3 : Nat → Int → (List (((Int) × ((Int) × ((Int) × ((Int) × ((Int) × (Int)))))) × (((Int) × (Int)) × (Int)))) → (List (((Int) × ((Int) × ((Int) × ((Int) × ((Int) × (Int)))))) × (((Int) × (Int)) × (Int)))) → Option ((((List (((Int) × ((Int) × ((Int) × ((Int) × ((Int) × (Int)))))) × (((Int) × (Int)) × (Int)))) × (Unit)) × (Unit)) × (Unit))) (a0 : List (((Int) × ((Int) × ((Int) × ((Int) × ((Int) × (Int)))))) × (((Int) × (Int)) × (Int)))) : Option ((((List (((Int) × ((Int) × ((Int) × ((Int) × ((Int) × (Int)))))) × (((Int) × (Int)) × (Int)))) × (Unit)) × (Unit)) × (Unit)) :=
  cond ((((((a0.length : Nat) : Int) == ((a0.length : Nat) : Int)) && decide (0 ≤ ((a0.length : Nat) : Int))) && decide (((Int.toNat ((a0.length : Nat) : Int)) * 33) ≤ 70368744177664)))
  (h3 n 0 a0 ((List.replicate (Int.toNat ((a0.length : Nat) : Int)) (((0, (0, (0, (0, (0, 0))))), ((0, 0), 0)) : ((Int) × ((Int) × ((Int) × ((Int) × ((Int) × (Int)))))) × (((Int) × (Int)) × (Int))))))
  (none)

noncomputable def laws_toObsS (n : Nat) (a0 : List (((Int) × ((Int) × ((Int) × ((Int) × ((Int) × (Int)))))) × (((Int) × (Int)) × (Int)))) : Option ((((List (((Int) × ((Int) × ((Int) × ((Int) × ((Int) × (Int)))))) × (((Int) × (Int)) × (Int)))) × (Unit)) × (Unit)) × (Unit)) := laws_toObsS_t n (laws_toObsS_l3 n) a0

noncomputable def laws_toTable_t (n : Nat) (a0 : (Int) × ((List (((Int) × ((Int) × ((Int) × ((Int) × ((Int) × (Int)))))) × (((Int) × (Int)) × (Int)))) × ((Bool) × ((Int) × (Int))))) : Option ((((Int) × ((List (((Int) × ((Int) × ((Int) × ((Int) × ((Int) × (Int)))))) × (((Int) × (Int)) × (Int)))) × (((Bool) × ((Int) × (Int))) × (Unit)))) × (Unit)) × (Unit)) :=
  (laws_toObsS n a0.2.1).bind fun r0 =>
  (laws_toFrac n ((a0.2.2.2.1, a0.2.2.2.2))).bind fun r1 =>
  some ((((a0.1, (r0.1.1.1, ((a0.2.2.1, (r1.1.1.1.1, r1.1.1.1.2)), ()))), ()), ()))

noncomputable def laws_toTable (n : Nat) (a0 : (Int) × ((List (((Int) × ((Int) × ((Int) × ((Int) × ((Int) × (Int)))))) × (((Int) × (Int)) × (Int)))) × ((Bool) × ((Int) × (Int))))) : Option ((((Int) × ((List (((Int) × ((Int) × ((Int) × ((Int) × ((Int) × (Int)))))) × (((Int) × (Int)) × (Int)))) × (((Bool) × ((Int) × (Int))) × (Unit)))) × (Unit)) × (Unit)) := laws_toTable_t n a0

noncomputable def spec_l00In_t (n : Nat) (a0 : Int) (a1 : Int) (a2 : Int) : Option ((((Bool) × (Unit)) × (Unit)) × (Unit)) :=
  cond (decide (a0 ≥ a1))
  (some ((((decide (a0 ≤ a2), ()), ()), ())))
  (some ((((false, ()), ()), ())))

noncomputable def spec_l00In (n : Nat) (a0 : Int) (a1 : Int) (a2 : Int) : Option ((((Bool) × (Unit)) × (Unit)) × (Unit)) := spec_l00In_t n a0 a1 a2

noncomputable def spec_l01Abs_t (n : Nat) (a0 : Int) : Option ((((Int) × (Unit)) × (Unit)) × (Unit)) :=
  cond (decide (a0 < 0))
  (some (((((IntKind.wrap .i64 (0 - a0)), ()), ()), ())))
  (some ((((a0, ()), ()), ())))

noncomputable def spec_l01Abs (n : Nat) (a0 : Int) : Option ((((Int) × (Unit)) × (Unit)) × (Unit)) := spec_l01Abs_t n a0

noncomputable def spec_l01Gcd_t1 (n : Nat) (g1 : Int → Int → Option ((((Int) × (Unit)) × (Unit)) × (Unit))) (v1 : Int) (v0 : Int) : Option ((((Int) × (Unit)) × (Unit)) × (Unit)) :=
  cond ((v1 != 0))
  (cond ((v1 != 0))
    (g1 ((Int.tmod v0 v1)) v1)
    (none))
  (some ((((v0, ()), ()), ())))

noncomputable def spec_l01Gcd_l1 (n : Nat) : Nat → Int → Int → Option ((((Int) × (Unit)) × (Unit)) × (Unit))
  | 0, _, _ => none
  | k + 1, v1, v0 => spec_l01Gcd_t1 n (spec_l01Gcd_l1 n k) v1 v0

noncomputable def spec_l01Gcd_t (n : Nat) (h1 : Nat → Int → Int → Option ((((Int) × (Unit)) × (Unit)) × (Unit))) (a0 : Int) (a1 : Int) : Option ((((Int) × (Unit)) × (Unit)) × (Unit)) :=
  h1 n a1 a0

noncomputable def spec_l01Gcd (n : Nat) (a0 : Int) (a1 : Int) : Option ((((Int) × (Unit)) × (Unit)) × (Unit)) := spec_l01Gcd_t n (spec_l01Gcd_l1 n) a0 a1

noncomputable def spec_l01Ok_t (n : Nat) (a0 : (Int) × (Int)) : Option ((((Bool) × (Unit)) × (Unit)) × (Unit)) :=
  (spec_l00In n a0.2 1 1000000000).bind fun r0 =>
  cond r0.1.1.1
  ((spec_l00In n a0.1 (-1000000000) 1000000000).bind fun r1 =>
    cond r1.1.1.1
    ((spec_l01Abs n a0.1).bind fun r2 =>
      (spec_l01Gcd n r2.1.1.1 a0.2).bind fun r3 =>
      some (((((r3.1.1.1 == 1), ()), ()), ())))
    (some ((((false, ()), ()), ()))))
  (some ((((false, ()), ()), ())))

noncomputable def spec_l01Ok (n : Nat) (a0 : (Int) × (Int)) : Option ((((Bool) × (Unit)) × (Unit)) × (Unit)) := spec_l01Ok_t n a0

noncomputable def spec_l04Obs_e_t3 (n : Nat) (g3 : Int → Bool → Int → ((Int) × ((Int) × ((Int) × ((Int) × ((Int) × (Int)))))) × (((Int) × (Int)) × (Int)) → Option ((((Bool) × (Unit)) × (Unit)) × (Unit))) (v6 : Int) (v5 : Bool) (v1 : Int) (v0 : ((Int) × ((Int) × ((Int) × ((Int) × ((Int) × (Int)))))) × (((Int) × (Int)) × (Int))) : Option ((((Bool) × (Unit)) × (Unit)) × (Unit)) :=
  cond (decide (v6 < 6))
  (cond ((decide (0 ≤ v6) && decide (v6 < 6)))
    (cond (decide ((cond (Nat.beq (Int.toNat v6) 0) v0.1.1 (cond (Nat.beq ((Int.toNat v6) - 1) 0) v0.1.2.1 (cond (Nat.beq (((Int.toNat v6) - 1) - 1) 0) v0.1.2.2.1 (cond (Nat.beq ((((Int.toNat v6) - 1) - 1) - 1) 0) v0.1.2.2.2.1 (cond (Nat.beq (((((Int.toNat v6) - 1) - 1) - 1) - 1) 0) v0.1.2.2.2.2.1 (cond (Nat.beq ((((((Int.toNat v6) - 1) - 1) - 1) - 1) - 1) 0) v0.1.2.2.2.2.2 0)))))) < (-3)))
      (some ((((false, ()), ()), ())))
      (cond (decide ((cond (Nat.beq (Int.toNat v6) 0) v0.1.1 (cond (Nat.beq ((Int.toNat v6) - 1) 0) v0.1.2.1 (cond (Nat.beq (((Int.toNat v6) - 1) - 1) 0) v0.1.2.2.1 (cond (Nat.beq ((((Int.toNat v6) - 1) - 1) - 1) 0) v0.1.2.2.2.1 (cond (Nat.beq (((((Int.toNat v6) - 1) - 1) - 1) - 1) 0) v0.1.2.2.2.2.1 (cond (Nat.beq ((((((Int.toNat v6) - 1) - 1) - 1) - 1) - 1) 0) v0.1.2.2.2.2.2 0)))))) > 3))
        (some ((((false, ()), ()), ())))
        (cond (decide (v6 ≥ v1))
          (cond (((cond (Nat.beq (Int.toNat v6) 0) v0.1.1 (cond (Nat.beq ((Int.toNat v6) - 1) 0) v0.1.2.1 (cond (Nat.beq (((Int.toNat v6) - 1) - 1) 0) v0.1.2.2.1 (cond (Nat.beq ((((Int.toNat v6) - 1) - 1) - 1) 0) v0.1.2.2.2.1 (cond (Nat.beq (((((Int.toNat v6) - 1) - 1) - 1) - 1) 0) v0.1.2.2.2.2.1 (cond (Nat.beq ((((((Int.toNat v6) - 1) - 1) - 1) - 1) - 1) 0) v0.1.2.2.2.2.2 0)))))) != 0))
            (some ((((false, ()), ()), ())))
            (cond v5
              (g3 ((IntKind.wrap .i64 (v6 + 1))) true v1 v0)
              (g3 ((IntKind.wrap .i64 (v6 + 1))) (((cond (Nat.beq (Int.toNat v6) 0) v0.1.1 (cond (Nat.beq ((Int.toNat v6) - 1) 0) v0.1.2.1 (cond (Nat.beq (((Int.toNat v6) - 1) - 1) 0) v0.1.2.2.1 (cond (Nat.beq ((((Int.toNat v6) - 1) - 1) - 1) 0) v0.1.2.2.2.1 (cond (Nat.beq (((((Int.toNat v6) - 1) - 1) - 1) - 1) 0) v0.1.2.2.2.2.1 (cond (Nat.beq ((((((Int.toNat v6) - 1) - 1) - 1) - 1) - 1) 0) v0.1.2.2.2.2.2 0)))))) != 0)) v1 v0)))
          (cond v5
            (g3 ((IntKind.wrap .i64 (v6 + 1))) true v1 v0)
            (g3 ((IntKind.wrap .i64 (v6 + 1))) (((cond (Nat.beq (Int.toNat v6) 0) v0.1.1 (cond (Nat.beq ((Int.toNat v6) - 1) 0) v0.1.2.1 (cond (Nat.beq (((Int.toNat v6) - 1) - 1) 0) v0.1.2.2.1 (cond (Nat.beq ((((Int.toNat v6) - 1) - 1) - 1) 0) v0.1.2.2.2.1 (cond (Nat.beq (((((Int.toNat v6) - 1) - 1) - 1) - 1) 0) v0.1.2.2.2.2.1 (cond (Nat.beq ((((((Int.toNat v6) - 1) - 1) - 1) - 1) - 1) 0) v0.1.2.2.2.2.2 0)))))) != 0)) v1 v0)))))
    (none))
  (cond v5
    ((spec_l01Ok n ((v0.2.1.1, v0.2.1.2))).bind fun r0 =>
      cond r0.1.1.1
      ((spec_l00In n v0.2.2 1 100).bind fun r1 =>
        some ((((r1.1.1.1, ()), ()), ())))
      (some ((((false, ()), ()), ()))))
    (some ((((false, ()), ()), ()))))

noncomputable def spec_l04Obs_e_l3 (n : Nat) : Nat → Int → Bool → Int → ((Int) × ((Int) × ((Int) × ((Int) × ((Int) × (Int)))))) × (((Int) × (Int)) × (Int)) → Option ((((Bool) × (Unit)) × (Unit)) × (Unit))
  | 0, _, _, _, _ => none
  | k + 1, v6, v5, v1, v0 => spec_l04Obs_e_t3 n (spec_l04Obs_e_l3 n k) v6 v5 v1 v0

noncomputable def spec_l04Obs_e_t (n : Nat) (h3 : Nat → Int → Bool → Int → ((Int) × ((Int) × ((Int) × ((Int) × ((Int) × (Int)))))) × (((Int) × (Int)) × (Int)) → Option ((((Bool) × (Unit)) × (Unit)) × (Unit))) (a0 : ((Int) × ((Int) × ((Int) × ((Int) × ((Int) × (Int)))))) × (((Int) × (Int)) × (Int))) (a1 : Int) : Option ((((Bool) × (Unit)) × (Unit)) × (Unit)) :=
  h3 n 0 false a1 a0

noncomputable def spec_l04Obs_e (n : Nat) (a0 : ((Int) × ((Int) × ((Int) × ((Int) × ((Int) × (Int)))))) × (((Int) × (Int)) × (Int))) (a1 : Int) : Option ((((Bool) × (Unit)) × (Unit)) × (Unit)) := spec_l04Obs_e_t n (spec_l04Obs_e_l3 n) a0 a1

noncomputable def spec_l04Ok_t4 (n : Nat) (g4 : Int → Int → (List (((Int) × ((Int) × ((Int) × ((Int) × ((Int) × (Int)))))) × (((Int) × (Int)) × (Int)))) → Bool → Int → Int → Option ((((Bool) × (Unit)) × (Unit)) × (((Int) × ((List (((Int) × ((Int) × ((Int) × ((Int) × ((Int) × (Int)))))) × (((Int) × (Int)) × (Int)))) × ((Bool) × ((Int) × (Int))))) × (Unit)))) (v3 : Int) (b0_0 : Int) (b0_1 : List (((Int) × ((Int) × ((Int) × ((Int) × ((Int) × (Int)))))) × (((Int) × (Int)) × (Int)))) (b0_2 : Bool) (b0_3 : Int) (b0_4 : Int) : Option ((((Bool) × (Unit)) × (Unit)) × (((Int) × ((List (((Int) × ((Int) × ((Int) × ((Int) × ((Int) × (Int)))))) × (((Int) × (Int)) × (Int)))) × ((Bool) × ((Int) × (Int))))) × (Unit))) :=
  cond (decide (v3 < ((b0_1.length : Nat) : Int)))
  (cond ((decide (0 ≤ v3) && decide (v3 < ((b0_1.length : Nat) : Int))))
    ((spec_l04Obs_e n ((((b0_1.getD (Int.toNat v3) ((0, (0, (0, (0, (0, 0))))), ((0, 0), 0))).1.1, ((b0_1.getD (Int.toNat v3) ((0, (0, (0, (0, (0, 0))))), ((0, 0), 0))).1.2.1, ((b0_1.getD (Int.toNat v3) ((0, (0, (0, (0, (0, 0))))), ((0, 0), 0))).1.2.2.1, ((b0_1.getD (Int.toNat v3) ((0, (0, (0, (0, (0, 0))))), ((0, 0), 0))).1.2.2.2.1, ((b0_1.getD (Int.toNat v3) ((0, (0, (0, (0, (0, 0))))), ((0, 0), 0))).1.2.2.2.2.1, (b0_1.getD (Int.toNat v3) ((0, (0, (0, (0, (0, 0))))), ((0, 0), 0))).1.2.2.2.2.2))))), (((b0_1.getD (Int.toNat v3) ((0, (0, (0, (0, (0, 0))))), ((0, 0), 0))).2.1.1, (b0_1.getD (Int.toNat v3) ((0, (0, (0, (0, (0, 0))))), ((0, 0), 0))).2.1.2), (b0_1.getD (Int.toNat v3) ((0, (0, (0, (0, (0, 0))))), ((0, 0), 0))).2.2))) b0_0).bind fun r2 =>
      cond (!r2.1.1.1)
      (some ((((false, ()), ()), ((b0_0, (b0_1, (b0_2, (b0_3, b0_4)))), ()))))
      (g4 ((IntKind.wrap .i64 (v3 + 1))) b0_0 b0_1 b0_2 b0_3 b0_4))
    (none))
  (some ((((true, ()), ()), ((b0_0, (b0_1, (b0_2, (b0_3, b0_4)))), ()))))

noncomputable def spec_l04Ok_l4 (n : Nat) : Nat → Int → Int → (List (((Int) × ((Int) × ((Int) × ((Int) × ((Int) × (Int)))))) × (((Int) × (Int)) × (Int)))) → Bool → Int → Int → Option ((((Bool) × (Unit)) × (Unit)) × (((Int) × ((List (((Int) × ((Int) × ((Int) × ((Int) × ((Int) × (Int)))))) × (((Int) × (Int)) × (Int)))) × ((Bool) × ((Int) × (Int))))) × (Unit)))
  | 0, _, _, _, _, _, _ => none
  | k + 1, v3, b0_0, b0_1, b0_2, b0_3, b0_4 => spec_l04Ok_t4 n (spec_l04Ok_l4 n k) v3 b0_0 b0_1 b0_2 b0_3 b0_4

noncomputable def spec_l04Ok_t (n : Nat) (h4 : Nat → Int → Int → (List (((Int) × ((Int) × ((Int) × ((Int) × ((Int) × (Int)))))) × (((Int) × (Int)) × (Int)))) → Bool → Int → Int → Option ((((Bool) × (Unit)) × (Unit)) × (((Int) × ((List (((Int) × ((Int) × ((Int) × ((Int) × ((Int) × (Int)))))) × (((Int) × (Int)) × (Int)))) × ((Bool) × ((Int) × (Int))))) × (Unit)))) (b0 : (Int) × ((List (((Int) × ((Int) × ((Int) × ((Int) × ((Int) × (Int)))))) × (((Int) × (Int)) × (Int)))) × ((Bool) × ((Int) × (Int))))) : Option ((((Bool) × (Unit)) × (Unit)) × (((Int) × ((List (((Int) × ((Int) × ((Int) × ((Int) × ((Int) × (Int)))))) × (((Int) × (Int)) × (Int)))) × ((Bool) × ((Int) × (Int))))) × (Unit))) :=
  (spec_l00In n b0.1 1 6).bind fun r0 =>
  cond (!r0.1.1.1)
  (some ((((false, ()), ()), ((b0.1, (b0.2.1, (b0.2.2.1, (b0.2.2.2.1, b0.2.2.2.2)))), ()))))
  (cond (decide (((b0.2.1.length : Nat) : Int) > 24))
    (some ((((false, ()), ()), ((b0.1, (b0.2.1, (b0.2.2.1, (b0.2.2.2.1, b0.2.2.2.2)))), ()))))
    ((spec_l01Ok n ((b0.2.2.2.1, b0.2.2.2.2))).bind fun r1 =>
      cond (!r1.1.1.1)
      (some ((((false, ()), ()), ((b0.1, (b0.2.1, (b0.2.2.1, (b0.2.2.2.1, b0.2.2.2.2)))), ()))))
      (cond (!b0.2.2.1)
        (cond ((b0.2.2.2.1 != 0))
          (some ((((false, ()), ()), ((b0.1, (b0.2.1, (b0.2.2.1, (b0.2.2.2.1, b0.2.2.2.2)))), ()))))
          (h4 n 0 b0.1 b0.2.1 b0.2.2.1 b0.2.2.2.1 b0.2.2.2.2))
        (h4 n 0 b0.1 b0.2.1 b0.2.2.1 b0.2.2.2.1 b0.2.2.2.2))))

noncomputable def spec_l04Ok (n : Nat) (b0 : (Int) × ((List (((Int) × ((Int) × ((Int) × ((Int) × ((Int) × (Int)))))) × (((Int) × (Int)) × (Int)))) × ((Bool) × ((Int) × (Int))))) : Option ((((Bool) × (Unit)) × (Unit)) × (((Int) × ((List (((Int) × ((Int) × ((Int) × ((Int) × ((Int) × (Int)))))) × (((Int) × (Int)) × (Int)))) × ((Bool) × ((Int) × (Int))))) × (Unit))) := spec_l04Ok_t n (spec_l04Ok_l4 n) b0

noncomputable def spec_Decimal_t (n : Nat) (rec : Int → Option ((((ByteArray) × (Unit)) × (Unit)) × (Unit))) (a0 : Int) : Option ((((ByteArray) × (Unit)) × (Unit)) × (Unit)) :=
  cond (decide (a0 < 10))
  (some (((((byteStr ((IntKind.wrap .u8 (IntKind.wrap .i64 (48 + (Int.tmod a0 10)))) :: [])), ()), ()), ())))
  ((rec ((IntKind.wrap .i64 (Int.tdiv a0 10)))).bind fun r0 =>
    cond ((roomStr r0.1.1.1 (byteStr ((IntKind.wrap .u8 (IntKind.wrap .i64 (48 + (Int.tmod a0 10)))) :: []))))
    (some (((((r0.1.1.1 ++ (byteStr ((IntKind.wrap .u8 (IntKind.wrap .i64 (48 + (Int.tmod a0 10)))) :: []))), ()), ()), ())))
    (none))

noncomputable def spec_Decimal_r (n : Nat) : Nat → Int → Option ((((ByteArray) × (Unit)) × (Unit)) × (Unit))
  | 0, _ => none
  | d + 1, a0 => spec_Decimal_t n (spec_Decimal_r n d) a0

noncomputable def spec_Decimal (n : Nat) (a0 : Int) : Option ((((ByteArray) × (Unit)) × (Unit)) × (Unit)) := spec_Decimal_r n n a0

noncomputable def spec_Signed_t (n : Nat) (a0 : Int) : Option ((((ByteArray) × (Unit)) × (Unit)) × (Unit)) :=
  cond (decide (a0 < 0))
  ((spec_Decimal n ((IntKind.wrap .i64 (0 - a0)))).bind fun r0 =>
    cond ((roomStr (ByteArray.mk #[45]) r0.1.1.1))
    (some ((((((ByteArray.mk #[45]) ++ r0.1.1.1), ()), ()), ())))
    (none))
  ((spec_Decimal n a0).bind fun r1 =>
    some ((((r1.1.1.1, ()), ()), ())))

noncomputable def spec_Signed (n : Nat) (a0 : Int) : Option ((((ByteArray) × (Unit)) × (Unit)) × (Unit)) := spec_Signed_t n a0

noncomputable def spec_l01Text_t (n : Nat) (a0 : (Int) × (Int)) : Option ((((ByteArray) × (Unit)) × (Unit)) × (Unit)) :=
  cond ((a0.2 == 1))
  ((spec_Signed n a0.1).bind fun r0 =>
    some ((((r0.1.1.1, ()), ()), ())))
  ((spec_Signed n a0.1).bind fun r1 =>
    cond ((roomStr r1.1.1.1 (ByteArray.mk #[47])))
    ((spec_Decimal n a0.2).bind fun r2 =>
      cond ((roomStr (r1.1.1.1 ++ (ByteArray.mk #[47])) r2.1.1.1))
      (some ((((((r1.1.1.1 ++ (ByteArray.mk #[47])) ++ r2.1.1.1), ()), ()), ())))
      (none))
    (none))

noncomputable def spec_l01Text (n : Nat) (a0 : (Int) × (Int)) : Option ((((ByteArray) × (Unit)) × (Unit)) × (Unit)) := spec_l01Text_t n a0

noncomputable def spec_l04Text_t9 (n : Nat) (g6 : Int → ByteArray → Int → (List (((Int) × ((Int) × ((Int) × ((Int) × ((Int) × (Int)))))) × (((Int) × (Int)) × (Int)))) → Bool → Int → Int → Option ((((ByteArray) × (Unit)) × (Unit)) × (((Int) × ((List (((Int) × ((Int) × ((Int) × ((Int) × ((Int) × (Int)))))) × (((Int) × (Int)) × (Int)))) × ((Bool) × ((Int) × (Int))))) × (Unit)))) (g9 : Int → Int → ByteArray → Int → (List (((Int) × ((Int) × ((Int) × ((Int) × ((Int) × (Int)))))) × (((Int) × (Int)) × (Int)))) → Bool → Int → Int → Option ((((ByteArray) × (Unit)) × (Unit)) × (((Int) × ((List (((Int) × ((Int) × ((Int) × ((Int) × ((Int) × (Int)))))) × (((Int) × (Int)) × (Int)))) × ((Bool) × ((Int) × (Int))))) × (Unit)))) (v5 : Int) (v4 : Int) (v3 : ByteArray) (b0_0 : Int) (b0_1 : List (((Int) × ((Int) × ((Int) × ((Int) × ((Int) × (Int)))))) × (((Int) × (Int)) × (Int)))) (b0_2 : Bool) (b0_3 : Int) (b0_4 : Int) : Option ((((ByteArray) × (Unit)) × (Unit)) × (((Int) × ((List (((Int) × ((Int) × ((Int) × ((Int) × ((Int) × (Int)))))) × (((Int) × (Int)) × (Int)))) × ((Bool) × ((Int) × (Int))))) × (Unit))) :=
  cond (decide (v5 < b0_0))
  (cond ((decide (0 ≤ v4) && decide (v4 < ((b0_1.length : Nat) : Int))))
    (cond ((decide (0 ≤ v5) && decide (v5 < 6)))
      ((spec_Signed n ((IntKind.wrap .i64 (cond (Nat.beq (Int.toNat v5) 0) (b0_1.getD (Int.toNat v4) ((0, (0, (0, (0, (0, 0))))), ((0, 0), 0))).1.1 (cond (Nat.beq ((Int.toNat v5) - 1) 0) (b0_1.getD (Int.toNat v4) ((0, (0, (0, (0, (0, 0))))), ((0, 0), 0))).1.2.1 (cond (Nat.beq (((Int.toNat v5) - 1) - 1) 0) (b0_1.getD (Int.toNat v4) ((0, (0, (0, (0, (0, 0))))), ((0, 0), 0))).1.2.2.1 (cond (Nat.beq ((((Int.toNat v5) - 1) - 1) - 1) 0) (b0_1.getD (Int.toNat v4) ((0, (0, (0, (0, (0, 0))))), ((0, 0), 0))).1.2.2.2.1 (cond (Nat.beq (((((Int.toNat v5) - 1) - 1) - 1) - 1) 0) (b0_1.getD (Int.toNat v4) ((0, (0, (0, (0, (0, 0))))), ((0, 0), 0))).1.2.2.2.2.1 (cond (Nat.beq ((((((Int.toNat v5) - 1) - 1) - 1) - 1) - 1) 0) (b0_1.getD (Int.toNat v4) ((0, (0, (0, (0, (0, 0))))), ((0, 0), 0))).1.2.2.2.2.2 0))))))))).bind fun r2 =>
        cond ((roomStr r2.1.1.1 (ByteArray.mk #[32])))
        (cond ((roomStr v3 (r2.1.1.1 ++ (ByteArray.mk #[32]))))
          (g9 ((IntKind.wrap .i64 (v5 + 1))) v4 ((v3 ++ (r2.1.1.1 ++ (ByteArray.mk #[32])))) b0_0 b0_1 b0_2 b0_3 b0_4)
          (none))
        (none))
      (none))
    (none))
  (cond ((decide (0 ≤ v4) && decide (v4 < ((b0_1.length : Nat) : Int))))
    ((spec_l01Text n (((b0_1.getD (Int.toNat v4) ((0, (0, (0, (0, (0, 0))))), ((0, 0), 0))).2.1.1, (b0_1.getD (Int.toNat v4) ((0, (0, (0, (0, (0, 0))))), ((0, 0), 0))).2.1.2))).bind fun r3 =>
      cond ((roomStr r3.1.1.1 (ByteArray.mk #[32])))
      (cond ((decide (0 ≤ v4) && decide (v4 < ((b0_1.length : Nat) : Int))))
        ((spec_Decimal n ((b0_1.getD (Int.toNat v4) ((0, (0, (0, (0, (0, 0))))), ((0, 0), 0))).2.2)).bind fun r4 =>
          cond ((roomStr (r3.1.1.1 ++ (ByteArray.mk #[32])) r4.1.1.1))
          (cond ((roomStr ((r3.1.1.1 ++ (ByteArray.mk #[32])) ++ r4.1.1.1) (ByteArray.mk #[10])))
            (cond ((roomStr v3 (((r3.1.1.1 ++ (ByteArray.mk #[32])) ++ r4.1.1.1) ++ (ByteArray.mk #[10]))))
              (g6 ((IntKind.wrap .i64 (v4 + 1))) ((v3 ++ (((r3.1.1.1 ++ (ByteArray.mk #[32])) ++ r4.1.1.1) ++ (ByteArray.mk #[10])))) b0_0 b0_1 b0_2 b0_3 b0_4)
              (none))
            (none))
          (none))
        (none))
      (none))
    (none))

noncomputable def spec_l04Text_l9 (n : Nat) (g6 : Int → ByteArray → Int → (List (((Int) × ((Int) × ((Int) × ((Int) × ((Int) × (Int)))))) × (((Int) × (Int)) × (Int)))) → Bool → Int → Int → Option ((((ByteArray) × (Unit)) × (Unit)) × (((Int) × ((List (((Int) × ((Int) × ((Int) × ((Int) × ((Int) × (Int)))))) × (((Int) × (Int)) × (Int)))) × ((Bool) × ((Int) × (Int))))) × (Unit)))) : Nat → Int → Int → ByteArray → Int → (List (((Int) × ((Int) × ((Int) × ((Int) × ((Int) × (Int)))))) × (((Int) × (Int)) × (Int)))) → Bool → Int → Int → Option ((((ByteArray) × (Unit)) × (Unit)) × (((Int) × ((List (((Int) × ((Int) × ((Int) × ((Int) × ((Int) × (Int)))))) × (((Int) × (Int)) × (Int)))) × ((Bool) × ((Int) × (Int))))) × (Unit)))
  | 0, _, _, _, _, _, _, _, _ => none
  | k + 1, v5, v4, v3, b0_0, b0_1, b0_2, b0_3, b0_4 => spec_l04Text_t9 n g6 (spec_l04Text_l9 n g6 k) v5 v4 v3 b0_0 b0_1 b0_2 b0_3 b0_4

noncomputable def spec_l04Text_t6 (n : Nat) (h9 : Nat → Int → Int → ByteArray → Int → (List (((Int) × ((Int) × ((Int) × ((Int) × ((Int) × (Int)))))) × (((Int) × (Int)) × (Int)))) → Bool → Int → Int → Option ((((ByteArray) × (Unit)) × (Unit)) × (((Int) × ((List (((Int) × ((Int) × ((Int) × ((Int) × ((Int) × (Int)))))) × (((Int) × (Int)) × (Int)))) × ((Bool) × ((Int) × (Int))))) × (Unit)))) (g6 : Int → ByteArray → Int → (List (((Int) × ((Int) × ((Int) × ((Int) × ((Int) × (Int)))))) × (((Int) × (Int)) × (Int)))) → Bool → Int → Int → Option ((((ByteArray) × (Unit)) × (Unit)) × (((Int) × ((List (((Int) × ((Int) × ((Int) × ((Int) × ((Int) × (Int)))))) × (((Int) × (Int)) × (Int)))) × ((Bool) × ((Int) × (Int))))) × (Unit)))) (v4 : Int) (v3 : ByteArray) (b0_0 : Int) (b0_1 : List (((Int) × ((Int) × ((Int) × ((Int) × ((Int) × (Int)))))) × (((Int) × (Int)) × (Int)))) (b0_2 : Bool) (b0_3 : Int) (b0_4 : Int) : Option ((((ByteArray) × (Unit)) × (Unit)) × (((Int) × ((List (((Int) × ((Int) × ((Int) × ((Int) × ((Int) × (Int)))))) × (((Int) × (Int)) × (Int)))) × ((Bool) × ((Int) × (Int))))) × (Unit))) :=
  cond (decide (v4 < ((b0_1.length : Nat) : Int)))
  (h9 n 0 v4 v3 b0_0 b0_1 b0_2 b0_3 b0_4)
  (some ((((v3, ()), ()), ((b0_0, (b0_1, (b0_2, (b0_3, b0_4)))), ()))))

noncomputable def spec_l04Text_l6 (n : Nat) : Nat → Int → ByteArray → Int → (List (((Int) × ((Int) × ((Int) × ((Int) × ((Int) × (Int)))))) × (((Int) × (Int)) × (Int)))) → Bool → Int → Int → Option ((((ByteArray) × (Unit)) × (Unit)) × (((Int) × ((List (((Int) × ((Int) × ((Int) × ((Int) × ((Int) × (Int)))))) × (((Int) × (Int)) × (Int)))) × ((Bool) × ((Int) × (Int))))) × (Unit)))
  | 0, _, _, _, _, _, _, _ => none
  | k + 1, v4, v3, b0_0, b0_1, b0_2, b0_3, b0_4 => spec_l04Text_t6 n (spec_l04Text_l9 n (spec_l04Text_l6 n k)) (spec_l04Text_l6 n k) v4 v3 b0_0 b0_1 b0_2 b0_3 b0_4

noncomputable def spec_l04Text_t (n : Nat) (h6 : Nat → Int → ByteArray → Int → (List (((Int) × ((Int) × ((Int) × ((Int) × ((Int) × (Int)))))) × (((Int) × (Int)) × (Int)))) → Bool → Int → Int → Option ((((ByteArray) × (Unit)) × (Unit)) × (((Int) × ((List (((Int) × ((Int) × ((Int) × ((Int) × ((Int) × (Int)))))) × (((Int) × (Int)) × (Int)))) × ((Bool) × ((Int) × (Int))))) × (Unit)))) (b0 : (Int) × ((List (((Int) × ((Int) × ((Int) × ((Int) × ((Int) × (Int)))))) × (((Int) × (Int)) × (Int)))) × ((Bool) × ((Int) × (Int))))) : Option ((((ByteArray) × (Unit)) × (Unit)) × (((Int) × ((List (((Int) × ((Int) × ((Int) × ((Int) × ((Int) × (Int)))))) × (((Int) × (Int)) × (Int)))) × ((Bool) × ((Int) × (Int))))) × (Unit))) :=
  (spec_Decimal n b0.1).bind fun r0 =>
  cond b0.2.2.1
  ((spec_l01Text n ((b0.2.2.2.1, b0.2.2.2.2))).bind fun r1 =>
    cond ((roomStr (ByteArray.mk #[32, 99, 108, 111, 115, 101, 100, 32]) r1.1.1.1))
    (cond ((roomStr r0.1.1.1 ((ByteArray.mk #[32, 99, 108, 111, 115, 101, 100, 32]) ++ r1.1.1.1)))
      (cond ((roomStr (r0.1.1.1 ++ ((ByteArray.mk #[32, 99, 108, 111, 115, 101, 100, 32]) ++ r1.1.1.1)) (ByteArray.mk #[10])))
        (h6 n 0 (((r0.1.1.1 ++ ((ByteArray.mk #[32, 99, 108, 111, 115, 101, 100, 32]) ++ r1.1.1.1)) ++ (ByteArray.mk #[10]))) b0.1 b0.2.1 b0.2.2.1 b0.2.2.2.1 b0.2.2.2.2)
        (none))
      (none))
    (none))
  (cond ((roomStr r0.1.1.1 (ByteArray.mk #[10])))
    (h6 n 0 ((r0.1.1.1 ++ (ByteArray.mk #[10]))) b0.1 b0.2.1 b0.2.2.1 b0.2.2.2.1 b0.2.2.2.2)
    (none))

noncomputable def spec_l04Text (n : Nat) (b0 : (Int) × ((List (((Int) × ((Int) × ((Int) × ((Int) × ((Int) × (Int)))))) × (((Int) × (Int)) × (Int)))) × ((Bool) × ((Int) × (Int))))) : Option ((((ByteArray) × (Unit)) × (Unit)) × (((Int) × ((List (((Int) × ((Int) × ((Int) × ((Int) × ((Int) × (Int)))))) × (((Int) × (Int)) × (Int)))) × ((Bool) × ((Int) × (Int))))) × (Unit))) := spec_l04Text_t n (spec_l04Text_l6 n) b0

noncomputable def spec_TableText_t (n : Nat) (a0 : (Int) × ((List (((Int) × ((Int) × ((Int) × ((Int) × ((Int) × (Int)))))) × (((Int) × (Int)) × (Int)))) × ((Bool) × ((Int) × (Int))))) : Option ((((ByteArray) × (Unit)) × (Unit)) × (Unit)) :=
  (spec_l04Ok n ((a0.1, (a0.2.1, (a0.2.2.1, (a0.2.2.2.1, a0.2.2.2.2)))))).bind fun r0 =>
  cond (!r0.1.1.1)
  (some (((((ByteArray.mk #[]), ()), ()), ())))
  ((spec_l04Text n ((r0.2.1.1, (r0.2.1.2.1, (r0.2.1.2.2.1, (r0.2.1.2.2.2.1, r0.2.1.2.2.2.2)))))).bind fun r1 =>
    some ((((r1.1.1.1, ()), ()), ())))

noncomputable def spec_TableText (n : Nat) (a0 : (Int) × ((List (((Int) × ((Int) × ((Int) × ((Int) × ((Int) × (Int)))))) × (((Int) × (Int)) × (Int)))) × ((Bool) × ((Int) × (Int))))) : Option ((((ByteArray) × (Unit)) × (Unit)) × (Unit)) := spec_TableText_t n a0

noncomputable def laws_FnExactTableText_t (n : Nat) (a0 : (Int) × ((List (((Int) × ((Int) × ((Int) × ((Int) × ((Int) × (Int)))))) × (((Int) × (Int)) × (Int)))) × ((Bool) × ((Int) × (Int))))) : Option ((((Bool) × (Unit)) × (Unit)) × (Unit)) :=
  (laws_szTable n ((a0.1, (a0.2.1, (a0.2.2.1, (a0.2.2.2.1, a0.2.2.2.2))))) 1048576).bind fun r0 =>
  cond (decide (r0.1.1.1 < 0))
  (some ((((true, ()), ()), ())))
  ((laws_toTable n ((a0.1, (a0.2.1, (a0.2.2.1, (a0.2.2.2.1, a0.2.2.2.2)))))).bind fun r1 =>
    (spec_TableText n ((r1.1.1.1, (r1.1.1.2.1, (r1.1.1.2.2.1.1, (r1.1.1.2.2.1.2.1, r1.1.1.2.2.1.2.2)))))).bind fun r2 =>
    (laws_toTable n ((a0.1, (a0.2.1, (a0.2.2.1, (a0.2.2.2.1, a0.2.2.2.2)))))).bind fun r3 =>
    (impl_TableText n ((r3.1.1.1, (r3.1.1.2.1, (r3.1.1.2.2.1.1, (r3.1.1.2.2.1.2.1, r3.1.1.2.2.1.2.2)))))).bind fun r4 =>
    cond ((!(eqStr r4.1.1.1 r2.1.1.1)))
    (some ((((false, ()), ()), ())))
    ((laws_toTable n ((a0.1, (a0.2.1, (a0.2.2.1, (a0.2.2.2.1, a0.2.2.2.2)))))).bind fun r5 =>
      (laws_eqTable n ((r3.1.1.1, (r3.1.1.2.1, (r3.1.1.2.2.1.1, (r3.1.1.2.2.1.2.1, r3.1.1.2.2.1.2.2))))) ((r5.1.1.1, (r5.1.1.2.1, (r5.1.1.2.2.1.1, (r5.1.1.2.2.1.2.1, r5.1.1.2.2.1.2.2)))))).bind fun r6 =>
      cond (!r6.1.1.1)
      (some ((((false, ()), ()), ())))
      (some ((((true, ()), ()), ())))))

noncomputable def laws_FnExactTableText (n : Nat) (a0 : (Int) × ((List (((Int) × ((Int) × ((Int) × ((Int) × ((Int) × (Int)))))) × (((Int) × (Int)) × (Int)))) × ((Bool) × ((Int) × (Int))))) : Option ((((Bool) × (Unit)) × (Unit)) × (Unit)) := laws_FnExactTableText_t n a0

noncomputable def impl_isAngle_t (n : Nat) (a0 : Int) : Option ((((Bool) × (Unit)) × (Unit)) × (Unit)) :=
  (impl_within n a0 0 1295999).bind fun r0 =>
  some ((((r0.1.1.1, ()), ()), ()))

noncomputable def impl_isAngle (n : Nat) (a0 : Int) : Option ((((Bool) × (Unit)) × (Unit)) × (Unit)) := impl_isAngle_t n a0

noncomputable def impl_two_t (n : Nat) (a0 : Int) : Option ((((ByteArray) × (Unit)) × (Unit)) × (Unit)) :=
  cond (decide (a0 < 10))
  ((impl_dec n a0).bind fun r0 =>
    cond ((roomStr (ByteArray.mk #[48]) r0.1.1.1))
    (some ((((((ByteArray.mk #[48]) ++ r0.1.1.1), ()), ()), ())))
    (none))
  ((impl_dec n a0).bind fun r1 =>
    some ((((r1.1.1.1, ()), ()), ())))

noncomputable def impl_two (n : Nat) (a0 : Int) : Option ((((ByteArray) × (Unit)) × (Unit)) × (Unit)) := impl_two_t n a0

noncomputable def impl_AngleText_t (n : Nat) (a0 : Int) : Option ((((ByteArray) × (Unit)) × (Unit)) × (Unit)) :=
  (impl_isAngle n a0).bind fun r0 =>
  cond (!r0.1.1.1)
  (some (((((ByteArray.mk #[]), ()), ()), ())))
  ((impl_dec n ((IntKind.wrap .i64 (Int.tdiv a0 3600)))).bind fun r1 =>
    cond ((roomStr r1.1.1.1 (ByteArray.mk #[58])))
    ((impl_two n ((Int.tmod (IntKind.wrap .i64 (Int.tdiv a0 60)) 60))).bind fun r2 =>
      cond ((roomStr (r1.1.1.1 ++ (ByteArray.mk #[58])) r2.1.1.1))
      (cond ((roomStr ((r1.1.1.1 ++ (ByteArray.mk #[58])) ++ r2.1.1.1) (ByteArray.mk #[58])))
        ((impl_two n ((Int.tmod a0 60))).bind fun r3 =>
          cond ((roomStr (((r1.1.1.1 ++ (ByteArray.mk #[58])) ++ r2.1.1.1) ++ (ByteArray.mk #[58])) r3.1.1.1))
          (some ((((((((r1.1.1.1 ++ (ByteArray.mk #[58])) ++ r2.1.1.1) ++ (ByteArray.mk #[58])) ++ r3.1.1.1), ()), ()), ())))
          (none))
        (none))
      (none))
    (none))

noncomputable def impl_AngleText (n : Nat) (a0 : Int) : Option ((((ByteArray) × (Unit)) × (Unit)) × (Unit)) := impl_AngleText_t n a0

noncomputable def impl_number (n : Nat) (a0 : ByteArray) : Option ((((Int) × (Unit)) × (Unit)) × (Unit)) :=
  cond (decide (a0.size ≤ 281474976710656)) (match Go.Lib.parseIntB 64 a0.data.toList with
    | .ok v => some ((((v, ()), ()), ()))
    | _ => some ((((0, ()), ()), ()))) none

noncomputable def strings_Split (n : Nat) (a0 : ByteArray) (a1 : ByteArray) : Option ((((List (ByteArray)) × (Unit)) × (Unit)) × (Unit)) :=
  cond (decide (a0.size < 4294967281) && decide (1 ≤ a1.size)) (some ((((Go.Lib.splitB a1 0 (Go.Lib.countB a0 a1) a0, ()), ()), ()))) none

noncomputable def impl_ReadAngle_t5 (n : Nat) (g5 : Int → ByteArray → Int → (List (ByteArray)) → Option ((((Int) × (Unit)) × (((Int) × (Unit)) × (Unit))) × (Unit))) (v15 : Int) (v0 : ByteArray) (v14 : Int) (b0 : List (ByteArray)) : Option ((((Int) × (Unit)) × (((Int) × (Unit)) × (Unit))) × (Unit)) :=
  cond (decide (v15 < v14))
  (cond ((decide (0 ≤ v15) && decide (v15 < ((b0.length : Nat) : Int))))
    (cond (decide ((((ByteArray.size (b0.getD (Int.toNat v15) (ByteArray.mk #[]))) : Nat) : Int) > 4))
      (some ((((0, ()), ((5, ()), ())), ())))
      (g5 ((IntKind.wrap .i64 (v15 + 1))) v0 v14 b0))
    (none))
  (cond (decide (0 < ((b0.length : Nat) : Int)))
    ((impl_number n ((b0.getD (Int.toNat 0) (ByteArray.mk #[])))).bind fun r1 =>
      cond (decide (1 < ((b0.length : Nat) : Int)))
      ((impl_number n ((b0.getD (Int.toNat 1) (ByteArray.mk #[])))).bind fun r2 =>
        cond (decide (2 < ((b0.length : Nat) : Int)))
        ((impl_number n ((b0.getD (Int.toNat 2) (ByteArray.mk #[])))).bind fun r3 =>
          (impl_AngleText n ((IntKind.wrap .i64 ((IntKind.wrap .i64 ((IntKind.wrap .i64 (3600 * r1.1.1.1)) + (IntKind.wrap .i64 (60 * r2.1.1.1)))) + r3.1.1.1)))).bind fun r4 =>
          cond ((!(eqStr r4.1.1.1 v0)))
          (some ((((0, ()), ((5, ()), ())), ())))
          (some (((((IntKind.wrap .i64 ((IntKind.wrap .i64 ((IntKind.wrap .i64 (3600 * r1.1.1.1)) + (IntKind.wrap .i64 (60 * r2.1.1.1)))) + r3.1.1.1)), ()), ((0, ()), ())), ()))))
        (none))
      (none))
    (none))

noncomputable def impl_ReadAngle_l5 (n : Nat) : Nat → Int → ByteArray → Int → (List (ByteArray)) → Option ((((Int) × (Unit)) × (((Int) × (Unit)) × (Unit))) × (Unit))
  | 0, _, _, _, _ => none
  | k + 1, v15, v0, v14, b0 => impl_ReadAngle_t5 n (impl_ReadAngle_l5 n k) v15 v0 v14 b0

noncomputable def impl_ReadAngle_t (n : Nat) (h5 : Nat → Int → ByteArray → Int → (List (ByteArray)) → Option ((((Int) × (Unit)) × (((Int) × (Unit)) × (Unit))) × (Unit))) (a0 : ByteArray) : Option ((((Int) × (Unit)) × (((Int) × (Unit)) × (Unit))) × (Unit)) :=
  (strings_Split n a0 ((ByteArray.mk #[58]))).bind fun r0 =>
  cond ((((r0.1.1.1.length : Nat) : Int) != 3))
  (some ((((0, ()), ((5, ()), ())), ())))
  (h5 n 0 a0 (((r0.1.1.1.length : Nat) : Int)) r0.1.1.1)

noncomputable def impl_ReadAngle (n : Nat) (a0 : ByteArray) : Option ((((Int) × (Unit)) × (((Int) × (Unit)) × (Unit))) × (Unit)) := impl_ReadAngle_t n (impl_ReadAngle_l5 n) a0

noncomputable def impl_calc_one_t (n : Nat) (a1 : (Int) × (Int)) (b0 : Bool) : Option (((((Int) × (Int)) × (Unit)) × (((Int) × (Unit)) × (Unit))) × ((Bool) × (Unit))) :=
  cond b0
  (some (((((0, 0), ()), ((3, ()), ())), (b0, ()))))
  (some (((((a1.1, a1.2), ()), ((0, ()), ())), (b0, ()))))

noncomputable def impl_calc_one (n : Nat) (a1 : (Int) × (Int)) (b0 : Bool) : Option (((((Int) × (Int)) × (Unit)) × (((Int) × (Unit)) × (Unit))) × ((Bool) × (Unit))) := impl_calc_one_t n a1 b0

noncomputable def impl_fracOf_t (n : Nat) (a0 : Int) (a1 : Int) : Option (((((Int) × (Int)) × (Unit)) × (((Bool) × (Unit)) × (Unit))) × (Unit)) :=
  cond (decide (a1 < 0))
  ((impl_gcd n ((IntKind.wrap .i64 (0 - a0))) ((IntKind.wrap .i64 (0 - a1)))).bind fun r0 =>
    cond ((r0.1.1.1 != 0))
    (cond ((r0.1.1.1 != 0))
      ((impl_ValidFrac n (((IntKind.wrap .i64 (Int.tdiv (IntKind.wrap .i64 (0 - a0)) r0.1.1.1)), (IntKind.wrap .i64 (Int.tdiv (IntKind.wrap .i64 (0 - a1)) r0.1.1.1))))).bind fun r1 =>
        cond (!r1.1.1.1)
        (some (((((0, 0), ()), ((false, ()), ())), ())))
        (some ((((((IntKind.wrap .i64 (Int.tdiv (IntKind.wrap .i64 (0 - a0)) r0.1.1.1)), (IntKind.wrap .i64 (Int.tdiv (IntKind.wrap .i64 (0 - a1)) r0.1.1.1))), ()), ((true, ()), ())), ()))))
      (none))
    (none))
  ((impl_gcd n a0 a1).bind fun r2 =>
    cond ((r2.1.1.1 != 0))
    (cond ((r2.1.1.1 != 0))
      ((impl_ValidFrac n (((IntKind.wrap .i64 (Int.tdiv a0 r2.1.1.1)), (IntKind.wrap .i64 (Int.tdiv a1 r2.1.1.1))))).bind fun r3 =>
        cond (!r3.1.1.1)
        (some (((((0, 0), ()), ((false, ()), ())), ())))
        (some ((((((IntKind.wrap .i64 (Int.tdiv a0 r2.1.1.1)), (IntKind.wrap .i64 (Int.tdiv a1 r2.1.1.1))), ()), ((true, ()), ())), ()))))
      (none))
    (none))

noncomputable def impl_fracOf (n : Nat) (a0 : Int) (a1 : Int) : Option (((((Int) × (Int)) × (Unit)) × (((Bool) × (Unit)) × (Unit))) × (Unit)) := impl_fracOf_t n a0 a1

noncomputable def impl_zero_t (n : Nat) : Option (((((Int) × (Int)) × (Unit)) × (Unit)) × (Unit)) :=
  some (((((0, 1), ()), ()), ()))

noncomputable def impl_zero (n : Nat) : Option (((((Int) × (Int)) × (Unit)) × (Unit)) × (Unit)) := impl_zero_t n

noncomputable def impl_calc_told_t (n : Nat) (a1 : Int) (a2 : Int) (b0 : Bool) : Option (((((Int) × (Int)) × (Unit)) × (Unit)) × ((Bool) × (Unit))) :=
  (impl_fracOf n a1 a2).bind fun r0 =>
  cond (!r0.1.2.1.1)
  ((impl_zero n).bind fun r1 =>
    some (((((r1.1.1.1.1, r1.1.1.1.2), ()), ()), (true, ()))))
  (some (((((r0.1.1.1.1, r0.1.1.1.2), ()), ()), (b0, ()))))

noncomputable def impl_calc_told (n : Nat) (a1 : Int) (a2 : Int) (b0 : Bool) : Option (((((Int) × (Int)) × (Unit)) × (Unit)) × ((Bool) × (Unit))) := impl_calc_told_t n a1 a2 b0

noncomputable def impl_wrap_t (n : Nat) (a0 : Int) : Option ((((Int) × (Unit)) × (Unit)) × (Unit)) :=
  some (((((Int.tmod (IntKind.wrap .i64 ((Int.tmod a0 1296000) + 1296000)) 1296000), ()), ()), ()))

noncomputable def impl_wrap (n : Nat) (a0 : Int) : Option ((((Int) × (Unit)) × (Unit)) × (Unit)) := impl_wrap_t n a0

noncomputable def impl_turnFrom_t (n : Nat) (a0 : Int) (a1 : Int) : Option ((((Int) × (Unit)) × (Unit)) × (Unit)) :=
  (impl_wrap n ((IntKind.wrap .i64 (a1 - a0)))).bind fun r0 =>
  cond (decide (r0.1.1.1 > 648000))
  (some (((((IntKind.wrap .i64 (r0.1.1.1 - 1296000)), ()), ()), ())))
  (some ((((r0.1.1.1, ()), ()), ())))

noncomputable def impl_turnFrom (n : Nat) (a0 : Int) (a1 : Int) : Option ((((Int) × (Unit)) × (Unit)) × (Unit)) := impl_turnFrom_t n a0 a1

noncomputable def spec_l03Angle_t (n : Nat) (a0 : Int) : Option ((((Bool) × (Unit)) × (Unit)) × (Unit)) :=
  (spec_l00In n a0 0 1295999).bind fun r0 =>
  some ((((r0.1.1.1, ()), ()), ()))

noncomputable def spec_l03Angle (n : Nat) (a0 : Int) : Option ((((Bool) × (Unit)) × (Unit)) × (Unit)) := spec_l03Angle_t n a0

noncomputable def spec_l03Two_t (n : Nat) (a0 : Int) : Option ((((ByteArray) × (Unit)) × (Unit)) × (Unit)) :=
  (spec_Decimal n ((IntKind.wrap .i64 (Int.tdiv a0 10)))).bind fun r0 =>
  (spec_Decimal n ((Int.tmod a0 10))).bind fun r1 =>
  cond ((roomStr r0.1.1.1 r1.1.1.1))
  (some (((((r0.1.1.1 ++ r1.1.1.1), ()), ()), ())))
  (none)

noncomputable def spec_l03Two (n : Nat) (a0 : Int) : Option ((((ByteArray) × (Unit)) × (Unit)) × (Unit)) := spec_l03Two_t n a0

noncomputable def spec_AngleText_t (n : Nat) (a0 : Int) : Option ((((ByteArray) × (Unit)) × (Unit)) × (Unit)) :=
  (spec_l03Angle n a0).bind fun r0 =>
  cond (!r0.1.1.1)
  (some (((((ByteArray.mk #[]), ()), ()), ())))
  ((spec_Decimal n ((IntKind.wrap .i64 (Int.tdiv a0 3600)))).bind fun r1 =>
    cond ((roomStr r1.1.1.1 (ByteArray.mk #[58])))
    ((spec_l03Two n ((Int.tmod (IntKind.wrap .i64 (Int.tdiv a0 60)) 60))).bind fun r2 =>
      cond ((roomStr (r1.1.1.1 ++ (ByteArray.mk #[58])) r2.1.1.1))
      (cond ((roomStr ((r1.1.1.1 ++ (ByteArray.mk #[58])) ++ r2.1.1.1) (ByteArray.mk #[58])))
        ((spec_l03Two n ((Int.tmod a0 60))).bind fun r3 =>
          cond ((roomStr (((r1.1.1.1 ++ (ByteArray.mk #[58])) ++ r2.1.1.1) ++ (ByteArray.mk #[58])) r3.1.1.1))
          (some ((((((((r1.1.1.1 ++ (ByteArray.mk #[58])) ++ r2.1.1.1) ++ (ByteArray.mk #[58])) ++ r3.1.1.1), ()), ()), ())))
          (none))
        (none))
      (none))
    (none))

noncomputable def spec_AngleText (n : Nat) (a0 : Int) : Option ((((ByteArray) × (Unit)) × (Unit)) × (Unit)) := spec_AngleText_t n a0

noncomputable def spec_l01Number_t5 (n : Nat) (g5 : Int → ByteArray → Int → Option ((((Int) × (Unit)) × (((Bool) × (Unit)) × (Unit))) × (Unit))) (v5 : Int) (v0 : ByteArray) (v4 : Int) : Option ((((Int) × (Unit)) × (((Bool) × (Unit)) × (Unit))) × (Unit)) :=
  cond (decide (v5 < (((ByteArray.size v0) : Nat) : Int)))
  (cond ((decide (0 ≤ v5) && decide (v5 < (((ByteArray.size v0) : Nat) : Int))))
    (cond (decide ((byteAt v0 v5) < 48))
      (some ((((0, ()), ((false, ()), ())), ())))
      (cond ((decide (0 ≤ v5) && decide (v5 < (((ByteArray.size v0) : Nat) : Int))))
        (cond (decide ((byteAt v0 v5) > 57))
          (some ((((0, ()), ((false, ()), ())), ())))
          (cond ((decide (0 ≤ v5) && decide (v5 < (((ByteArray.size v0) : Nat) : Int))))
            (g5 ((IntKind.wrap .i64 (v5 + 1))) v0 ((IntKind.wrap .i64 ((IntKind.wrap .i64 (10 * v4)) + (IntKind.wrap .i64 (IntKind.wrap .u8 ((byteAt v0 v5) - 48)))))))
            (none)))
        (none)))
    (none))
  (some ((((v4, ()), ((true, ()), ())), ())))

noncomputable def spec_l01Number_l5 (n : Nat) : Nat → Int → ByteArray → Int → Option ((((Int) × (Unit)) × (((Bool) × (Unit)) × (Unit))) × (Unit))
  | 0, _, _, _ => none
  | k + 1, v5, v0, v4 => spec_l01Number_t5 n (spec_l01Number_l5 n k) v5 v0 v4

noncomputable def spec_l01Number_t (n : Nat) (h5 : Nat → Int → ByteArray → Int → Option ((((Int) × (Unit)) × (((Bool) × (Unit)) × (Unit))) × (Unit))) (a0 : ByteArray) : Option ((((Int) × (Unit)) × (((Bool) × (Unit)) × (Unit))) × (Unit)) :=
  cond ((eqStr a0 (ByteArray.mk #[])))
  (some ((((0, ()), ((false, ()), ())), ())))
  (cond (decide ((((ByteArray.size a0) : Nat) : Int) > 10))
    (some ((((0, ()), ((false, ()), ())), ())))
    (cond (decide (0 < (((ByteArray.size a0) : Nat) : Int)))
      (cond (((byteAt a0 0) == 48))
        (cond (decide ((((ByteArray.size a0) : Nat) : Int) > 1))
          (some ((((0, ()), ((false, ()), ())), ())))
          (h5 n 0 a0 0))
        (h5 n 0 a0 0))
      (none)))

noncomputable def spec_l01Number (n : Nat) (a0 : ByteArray) : Option ((((Int) × (Unit)) × (((Bool) × (Unit)) × (Unit))) × (Unit)) := spec_l01Number_t n (spec_l01Number_l5 n) a0

noncomputable def spec_l01Split_t4 (n : Nat) (g4 : Int → Int → ByteArray → Int → (List (ByteArray)) → Option ((((List (ByteArray)) × (Unit)) × (Unit)) × (Unit))) (v7 : Int) (v6 : Int) (v0 : ByteArray) (v1 : Int) (b0 : List (ByteArray)) : Option ((((List (ByteArray)) × (Unit)) × (Unit)) × (Unit)) :=
  cond (decide (v7 < (((ByteArray.size v0) : Nat) : Int)))
  (cond ((decide (0 ≤ v7) && decide (v7 < (((ByteArray.size v0) : Nat) : Int))))
    (cond (((byteAt v0 v7) == v1))
      (cond (((decide (0 ≤ v6) && decide (v6 ≤ v7)) && decide (v7 ≤ (((ByteArray.size v0) : Nat) : Int))))
        (cond (decide (((b0.length + ((ByteArray.extract v0 (Int.toNat v6) (Int.toNat v7)) :: []).length) * 17) ≤ 70368744177664))
          (g4 ((IntKind.wrap .i64 (v7 + 1))) ((IntKind.wrap .i64 (v7 + 1))) v0 v1 ((b0 ++ ((ByteArray.extract v0 (Int.toNat v6) (Int.toNat v7)) :: []))))
          (none))
        (none))
      (g4 ((IntKind.wrap .i64 (v7 + 1))) v6 v0 v1 b0))
    (none))
  (cond (((decide (0 ≤ v6) && decide (v6 ≤ (((ByteArray.size v0) : Nat) : Int))) && decide ((((ByteArray.size v0) : Nat) : Int) ≤ (((ByteArray.size v0) : Nat) : Int))))
    (cond (decide (((b0.length + ((ByteArray.extract v0 (Int.toNat v6) (Int.toNat (((ByteArray.size v0) : Nat) : Int))) :: []).length) * 17) ≤ 70368744177664))
      (some (((((b0 ++ ((ByteArray.extract v0 (Int.toNat v6) (Int.toNat (((ByteArray.size v0) : Nat) : Int))) :: [])), ()), ()), ())))
      (none))
    (none))

noncomputable def spec_l01Split_l4 (n : Nat) : Nat → Int → Int → ByteArray → Int → (List (ByteArray)) → Option ((((List (ByteArray)) × (Unit)) × (Unit)) × (Unit))
  | 0, _, _, _, _, _ => none
  | k + 1, v7, v6, v0, v1, b0 => spec_l01Split_t4 n (spec_l01Split_l4 n k) v7 v6 v0 v1 b0

noncomputable def spec_l01Split_t (n : Nat) (h4 : Nat → Int → Int → ByteArray → Int → (List (ByteArray)) → Option ((((List (ByteArray)) × (Unit)) × (Unit)) × (Unit))) (a0 : ByteArray) (a1 : Int) : Option ((((List (ByteArray)) × (Unit)) × (Unit)) × (Unit)) :=
  h4 n 0 0 a0 a1 []

noncomputable def spec_l01Split (n : Nat) (a0 : ByteArray) (a1 : Int) : Option ((((List (ByteArray)) × (Unit)) × (Unit)) × (Unit)) := spec_l01Split_t n (spec_l01Split_l4 n) a0 a1

noncomputable def spec_ReadAngle_t8 (n : Nat) (g8 : Int → Int → (List (ByteArray)) → Option ((((Int) × (Unit)) × (((Int) × (Unit)) × (Unit))) × (Unit))) (v7 : Int) (v5 : Int) (b0 : List (ByteArray)) : Option ((((Int) × (Unit)) × (((Int) × (Unit)) × (Unit))) × (Unit)) :=
  cond (decide (v7 < 3))
  (cond ((decide (0 ≤ v7) && decide (v7 < ((b0.length : Nat) : Int))))
    (cond (decide (0 < (((ByteArray.size (b0.getD (Int.toNat v7) (ByteArray.mk #[]))) : Nat) : Int)))
      (cond ((decide (0 ≤ v7) && decide (v7 < ((b0.length : Nat) : Int))))
        (cond (decide (1 < (((ByteArray.size (b0.getD (Int.toNat v7) (ByteArray.mk #[]))) : Nat) : Int)))
          ((spec_l00In n ((IntKind.wrap .i64 ((IntKind.wrap .i64 (byteAt (b0.getD (Int.toNat v7) (ByteArray.mk #[])) 0)) - 48))) 0 5).bind fun r2 =>
            cond (!r2.1.1.1)
            (some ((((0, ()), ((5, ()), ())), ())))
            ((spec_l00In n ((IntKind.wrap .i64 ((IntKind.wrap .i64 (byteAt (b0.getD (Int.toNat v7) (ByteArray.mk #[])) 1)) - 48))) 0 9).bind fun r3 =>
              cond (!r3.1.1.1)
              (some ((((0, ()), ((5, ()), ())), ())))
              (g8 ((IntKind.wrap .i64 (v7 + 1))) ((IntKind.wrap .i64 ((IntKind.wrap .i64 ((IntKind.wrap .i64 (60 * v5)) + (IntKind.wrap .i64 (10 * (IntKind.wrap .i64 ((IntKind.wrap .i64 (byteAt (b0.getD (Int.toNat v7) (ByteArray.mk #[])) 0)) - 48)))))) + (IntKind.wrap .i64 ((IntKind.wrap .i64 (byteAt (b0.getD (Int.toNat v7) (ByteArray.mk #[])) 1)) - 48))))) b0)))
          (none))
        (none))
      (none))
    (none))
  (some ((((v5, ()), ((0, ()), ())), ())))

noncomputable def spec_ReadAngle_l8 (n : Nat) : Nat → Int → Int → (List (ByteArray)) → Option ((((Int) × (Unit)) × (((Int) × (Unit)) × (Unit))) × (Unit))
  | 0, _, _, _ => none
  | k + 1, v7, v5, b0 => spec_ReadAngle_t8 n (spec_ReadAngle_l8 n k) v7 v5 b0

noncomputable def spec_ReadAngle_t (n : Nat) (h8 : Nat → Int → Int → (List (ByteArray)) → Option ((((Int) × (Unit)) × (((Int) × (Unit)) × (Unit))) × (Unit))) (a0 : ByteArray) : Option ((((Int) × (Unit)) × (((Int) × (Unit)) × (Unit))) × (Unit)) :=
  (spec_l01Split n a0 58).bind fun r0 =>
  cond ((((r0.1.1.1.length : Nat) : Int) != 3))
  (some ((((0, ()), ((5, ()), ())), ())))
  (cond (decide (1 < ((r0.1.1.1.length : Nat) : Int)))
    (cond (((((ByteArray.size (r0.1.1.1.getD (Int.toNat 1) (ByteArray.mk #[]))) : Nat) : Int) != 2))
      (some ((((0, ()), ((5, ()), ())), ())))
      (cond (decide (2 < ((r0.1.1.1.length : Nat) : Int)))
        (cond (((((ByteArray.size (r0.1.1.1.getD (Int.toNat 2) (ByteArray.mk #[]))) : Nat) : Int) != 2))
          (some ((((0, ()), ((5, ()), ())), ())))
          (cond (decide (0 < ((r0.1.1.1.length : Nat) : Int)))
            ((spec_l01Number n ((r0.1.1.1.getD (Int.toNat 0) (ByteArray.mk #[])))).bind fun r1 =>
              cond (!r1.1.2.1.1)
              (some ((((0, ()), ((5, ()), ())), ())))
              (cond (decide (r1.1.1.1 > 359))
                (some ((((0, ()), ((5, ()), ())), ())))
                (h8 n 1 r1.1.1.1 r0.1.1.1)))
            (none)))
        (none)))
    (none))

noncomputable def spec_ReadAngle (n : Nat) (a0 : ByteArray) : Option ((((Int) × (Unit)) × (((Int) × (Unit)) × (Unit))) × (Unit)) := spec_ReadAngle_t n (spec_ReadAngle_l8 n) a0

noncomputable def spec_l01Reduced_t (n : Nat) (a0 : Int) (a1 : Int) : Option (((((Int) × (Int)) × (Unit)) × (((Int) × (Unit)) × (Unit))) × (Unit)) :=
  (spec_l01Abs n a0).bind fun r0 =>
  (spec_l01Abs n a1).bind fun r1 =>
  (spec_l01Gcd n r0.1.1.1 r1.1.1.1).bind fun r2 =>
  cond ((r2.1.1.1 != 0))
  (cond ((r2.1.1.1 != 0))
    (cond (decide ((IntKind.wrap .i64 (Int.tdiv a1 r2.1.1.1)) < 0))
      ((spec_l01Ok n (((IntKind.wrap .i64 (0 - (IntKind.wrap .i64 (Int.tdiv a0 r2.1.1.1)))), (IntKind.wrap .i64 (0 - (IntKind.wrap .i64 (Int.tdiv a1 r2.1.1.1))))))).bind fun r3 =>
        cond (!r3.1.1.1)
        (some (((((0, 0), ()), ((3, ()), ())), ())))
        (some ((((((IntKind.wrap .i64 (0 - (IntKind.wrap .i64 (Int.tdiv a0 r2.1.1.1)))), (IntKind.wrap .i64 (0 - (IntKind.wrap .i64 (Int.tdiv a1 r2.1.1.1))))), ()), ((0, ()), ())), ()))))
      ((spec_l01Ok n (((IntKind.wrap .i64 (Int.tdiv a0 r2.1.1.1)), (IntKind.wrap .i64 (Int.tdiv a1 r2.1.1.1))))).bind fun r4 =>
        cond (!r4.1.1.1)
        (some (((((0, 0), ()), ((3, ()), ())), ())))
        (some ((((((IntKind.wrap .i64 (Int.tdiv a0 r2.1.1.1)), (IntKind.wrap .i64 (Int.tdiv a1 r2.1.1.1))), ()), ((0, ()), ())), ())))))
    (none))
  (none)

noncomputable def spec_l01Reduced (n : Nat) (a0 : Int) (a1 : Int) : Option (((((Int) × (Int)) × (Unit)) × (((Int) × (Unit)) × (Unit))) × (Unit)) := spec_l01Reduced_t n a0 a1

noncomputable def spec_l03Wrap_t (n : Nat) (a0 : Int) : Option ((((Int) × (Unit)) × (Unit)) × (Unit)) :=
  cond (decide ((Int.tmod a0 1296000) < 0))
  (some (((((IntKind.wrap .i64 ((Int.tmod a0 1296000) + 1296000)), ()), ()), ())))
  (some (((((Int.tmod a0 1296000), ()), ()), ())))

noncomputable def spec_l03Wrap (n : Nat) (a0 : Int) : Option ((((Int) × (Unit)) × (Unit)) × (Unit)) := spec_l03Wrap_t n a0

noncomputable def spec_l03Turn_t (n : Nat) (a0 : Int) (a1 : Int) : Option ((((Int) × (Unit)) × (Unit)) × (Unit)) :=
  (spec_l03Wrap n ((IntKind.wrap .i64 (a1 - a0)))).bind fun r0 =>
  cond (decide (r0.1.1.1 > 648000))
  (some (((((IntKind.wrap .i64 (r0.1.1.1 - 1296000)), ()), ()), ())))
  (some ((((r0.1.1.1, ()), ()), ())))

noncomputable def spec_l03Turn (n : Nat) (a0 : Int) (a1 : Int) : Option ((((Int) × (Unit)) × (Unit)) × (Unit)) := spec_l03Turn_t n a0 a1

end Go.Abs
