import Derived.Test.YtpamckmeeamjjaaDoorLib
namespace Go.Abs
set_option linter.unusedVariables false

noncomputable def impl_gcd_t1 (n : Nat) (g1 : Int → Int → Option ((((Int) × (Unit)) × (Unit)) × (Unit))) (v1 : Int) (v0 : Int) : Option ((((Int) × (Unit)) × (Unit)) × (Unit)) :=
  cond ((v1 != 0))
  (cond ((v1 != 0))
    (g1 ((Int.tmod v0 v1)) v1)
    (none))
  (some (((((if v0 < (IntKind.wrap .i64 (0 - v0)) then (IntKind.wrap .i64 (0 - v0)) else v0), ()), ()), ())))

noncomputable def impl_gcd_l1 (n : Nat) : Nat → Int → Int → Option ((((Int) × (Unit)) × (Unit)) × (Unit))
  | 0, _, _ => none
  | k + 1, v1, v0 => impl_gcd_t1 n (impl_gcd_l1 n k) v1 v0

noncomputable def impl_gcd_t (n : Nat) (h1 : Nat → Int → Int → Option ((((Int) × (Unit)) × (Unit)) × (Unit))) (a0 : Int) (a1 : Int) : Option ((((Int) × (Unit)) × (Unit)) × (Unit)) :=
  h1 n a1 a0

noncomputable def impl_gcd (n : Nat) (a0 : Int) (a1 : Int) : Option ((((Int) × (Unit)) × (Unit)) × (Unit)) := impl_gcd_t n (impl_gcd_l1 n) a0 a1

noncomputable def impl_within_t (n : Nat) (a0 : Int) (a1 : Int) (a2 : Int) : Option ((((Bool) × (Unit)) × (Unit)) × (Unit)) :=
  cond (decide (a1 ≤ a0))
  (some ((((decide (a0 ≤ a2), ()), ()), ())))
  (some ((((false, ()), ()), ())))

noncomputable def impl_within (n : Nat) (a0 : Int) (a1 : Int) (a2 : Int) : Option ((((Bool) × (Unit)) × (Unit)) × (Unit)) := impl_within_t n a0 a1 a2

noncomputable def impl_ValidFrac_t (n : Nat) (a0 : (Int) × (Int)) : Option ((((Bool) × (Unit)) × (Unit)) × (Unit)) :=
  (impl_within n a0.2 1 1000000000).bind fun r0 =>
  cond r0.1.1.1
  ((impl_within n a0.1 (-1000000000) 1000000000).bind fun r1 =>
    cond r1.1.1.1
    ((impl_gcd n a0.1 a0.2).bind fun r2 =>
      some (((((r2.1.1.1 == 1), ()), ()), ())))
    (some ((((false, ()), ()), ()))))
  (some ((((false, ()), ()), ())))

noncomputable def impl_ValidFrac (n : Nat) (a0 : (Int) × (Int)) : Option ((((Bool) × (Unit)) × (Unit)) × (Unit)) := impl_ValidFrac_t n a0

noncomputable def strconv_FormatInt (n : Nat) (a0 : Int) (a1 : Int) : Option ((((ByteArray) × (Unit)) × (Unit)) × (Unit)) :=
  cond ((decide (-9223372036854775808 ≤ a0) && decide (a0 ≤ 9223372036854775807)) && (a1 == 10)) (some ((((ByteArray.mk (Go.Lib.itoa a0).toArray, ()), ()), ()))) none

noncomputable def impl_dec_t (n : Nat) (a0 : Int) : Option ((((ByteArray) × (Unit)) × (Unit)) × (Unit)) :=
  (strconv_FormatInt n a0 10).bind fun r0 =>
  some ((((r0.1.1.1, ()), ()), ()))

noncomputable def impl_dec (n : Nat) (a0 : Int) : Option ((((ByteArray) × (Unit)) × (Unit)) × (Unit)) := impl_dec_t n a0

noncomputable def impl_FracText_t (n : Nat) (a0 : (Int) × (Int)) : Option ((((ByteArray) × (Unit)) × (Unit)) × (Unit)) :=
  (impl_ValidFrac n ((a0.1, a0.2))).bind fun r0 =>
  cond (!r0.1.1.1)
  (some (((((ByteArray.mk #[]), ()), ()), ())))
  (cond ((a0.2 == 1))
    ((impl_dec n a0.1).bind fun r1 =>
      some ((((r1.1.1.1, ()), ()), ())))
    ((impl_dec n a0.1).bind fun r2 =>
      cond ((roomStr r2.1.1.1 (ByteArray.mk #[47])))
      ((impl_dec n a0.2).bind fun r3 =>
        cond ((roomStr (r2.1.1.1 ++ (ByteArray.mk #[47])) r3.1.1.1))
        (some ((((((r2.1.1.1 ++ (ByteArray.mk #[47])) ++ r3.1.1.1), ()), ()), ())))
        (none))
      (none)))

noncomputable def impl_FracText (n : Nat) (a0 : (Int) × (Int)) : Option ((((ByteArray) × (Unit)) × (Unit)) × (Unit)) := impl_FracText_t n a0

noncomputable def impl_number (n : Nat) (a0 : ByteArray) : Option ((((Int) × (Unit)) × (Unit)) × (Unit)) :=
  cond (decide (a0.size ≤ 281474976710656)) (match Go.Lib.parseIntB 64 a0.data.toList with
    | .ok v => some ((((v, ()), ()), ()))
    | _ => some ((((0, ()), ()), ()))) none

noncomputable def strings_Cut (n : Nat) (a0 : ByteArray) (a1 : ByteArray) : Option ((((ByteArray) × (Unit)) × (((ByteArray) × (Unit)) × (((Bool) × (Unit)) × (Unit)))) × (Unit)) :=
  cond (decide (a0.size < 4294967281)) (some (((ByteArray.mk (Go.Lib.cut a0.data.toList a1.data.toList).1.toArray, ()), ((ByteArray.mk (Go.Lib.cut a0.data.toList a1.data.toList).2.1.toArray, ()), (((Go.Lib.cut a0.data.toList a1.data.toList).2.2, ()), ()))), ())) none

noncomputable def impl_ReadFrac_t (n : Nat) (a0 : ByteArray) : Option (((((Int) × (Int)) × (Unit)) × (((Int) × (Unit)) × (Unit))) × (Unit)) :=
  (strings_Cut n a0 ((ByteArray.mk #[47]))).bind fun r0 =>
  (impl_number n r0.1.1.1).bind fun r1 =>
  cond r0.1.2.2.1.1
  ((impl_number n r0.1.2.1.1).bind fun r2 =>
    cond ((eqStr a0 (ByteArray.mk #[])))
    (some (((((0, 0), ()), ((5, ()), ())), ())))
    ((impl_FracText n ((r1.1.1.1, r2.1.1.1))).bind fun r3 =>
      cond ((!(eqStr r3.1.1.1 a0)))
      (some (((((0, 0), ()), ((5, ()), ())), ())))
      (some (((((r1.1.1.1, r2.1.1.1), ()), ((0, ()), ())), ())))))
  (cond ((eqStr a0 (ByteArray.mk #[])))
    (some (((((0, 0), ()), ((5, ()), ())), ())))
    ((impl_FracText n ((r1.1.1.1, 1))).bind fun r4 =>
      cond ((!(eqStr r4.1.1.1 a0)))
      (some (((((0, 0), ()), ((5, ()), ())), ())))
      (some (((((r1.1.1.1, 1), ()), ((0, ()), ())), ())))))

noncomputable def impl_ReadFrac (n : Nat) (a0 : ByteArray) : Option (((((Int) × (Int)) × (Unit)) × (((Int) × (Unit)) × (Unit))) × (Unit)) := impl_ReadFrac_t n a0

noncomputable def impl_ValidTable_t8 (n : Nat) (g4 : Int → (List (((Int) × ((Int) × ((Int) × ((Int) × ((Int) × (Int)))))) × (((Int) × (Int)) × (Int)))) → Int → Int → (List (((Int) × ((Int) × ((Int) × ((Int) × ((Int) × (Int)))))) × (((Int) × (Int)) × (Int)))) → Bool → Int → Int → Option ((((Bool) × (Unit)) × (Unit)) × (Unit))) (g8 : Int → Bool → Int → Int → Int → Int → Int → Int → (List (((Int) × ((Int) × ((Int) × ((Int) × ((Int) × (Int)))))) × (((Int) × (Int)) × (Int)))) → Int → Int → Int → (List (((Int) × ((Int) × ((Int) × ((Int) × ((Int) × (Int)))))) × (((Int) × (Int)) × (Int)))) → Bool → Int → Int → Int → Int → Int → Int → Int → Int → Int → Int → Int → Option ((((Bool) × (Unit)) × (Unit)) × (Unit))) (v44 : Int) (v5 : Bool) (v43_0 : Int) (v43_1 : Int) (v43_2 : Int) (v43_3 : Int) (v43_4 : Int) (v43_5 : Int) (v36 : List (((Int) × ((Int) × ((Int) × ((Int) × ((Int) × (Int)))))) × (((Int) × (Int)) × (Int)))) (v37 : Int) (v38 : Int) (b0_0 : Int) (b0_1 : List (((Int) × ((Int) × ((Int) × ((Int) × ((Int) × (Int)))))) × (((Int) × (Int)) × (Int)))) (b0_2 : Bool) (b0_3 : Int) (b0_4 : Int) (b1_0 : Int) (b1_1 : Int) (b1_2 : Int) (b1_3 : Int) (b1_4 : Int) (b1_5 : Int) (b1_6 : Int) (b1_7 : Int) (b1_8 : Int) : Option ((((Bool) × (Unit)) × (Unit)) × (Unit)) :=
  cond (decide (v44 < 6))
  (cond ((decide (0 ≤ v44) && decide (v44 < 6)))
    ((impl_within n ((IntKind.wrap .i64 (cond (Nat.beq (Int.toNat v44) 0) v43_0 (cond (Nat.beq ((Int.toNat v44) - 1) 0) v43_1 (cond (Nat.beq (((Int.toNat v44) - 1) - 1) 0) v43_2 (cond (Nat.beq ((((Int.toNat v44) - 1) - 1) - 1) 0) v43_3 (cond (Nat.beq (((((Int.toNat v44) - 1) - 1) - 1) - 1) 0) v43_4 (cond (Nat.beq ((((((Int.toNat v44) - 1) - 1) - 1) - 1) - 1) 0) v43_5 0)))))))) (-3) 3).bind fun r2 =>
      cond (!r2.1.1.1)
      (some ((((false, ()), ()), ())))
      (cond (((cond (Nat.beq (Int.toNat v44) 0) v43_0 (cond (Nat.beq ((Int.toNat v44) - 1) 0) v43_1 (cond (Nat.beq (((Int.toNat v44) - 1) - 1) 0) v43_2 (cond (Nat.beq ((((Int.toNat v44) - 1) - 1) - 1) 0) v43_3 (cond (Nat.beq (((((Int.toNat v44) - 1) - 1) - 1) - 1) 0) v43_4 (cond (Nat.beq ((((((Int.toNat v44) - 1) - 1) - 1) - 1) - 1) 0) v43_5 0)))))) != 0))
        (cond (decide (v44 ≥ b0_0))
          (some ((((false, ()), ()), ())))
          (cond v5
            (g8 ((IntKind.wrap .i64 (v44 + 1))) true v43_0 v43_1 v43_2 v43_3 v43_4 v43_5 v36 v37 v38 b0_0 b0_1 b0_2 b0_3 b0_4 b1_0 b1_1 b1_2 b1_3 b1_4 b1_5 b1_6 b1_7 b1_8)
            (g8 ((IntKind.wrap .i64 (v44 + 1))) (((cond (Nat.beq (Int.toNat v44) 0) v43_0 (cond (Nat.beq ((Int.toNat v44) - 1) 0) v43_1 (cond (Nat.beq (((Int.toNat v44) - 1) - 1) 0) v43_2 (cond (Nat.beq ((((Int.toNat v44) - 1) - 1) - 1) 0) v43_3 (cond (Nat.beq (((((Int.toNat v44) - 1) - 1) - 1) - 1) 0) v43_4 (cond (Nat.beq ((((((Int.toNat v44) - 1) - 1) - 1) - 1) - 1) 0) v43_5 0)))))) != 0)) v43_0 v43_1 v43_2 v43_3 v43_4 v43_5 v36 v37 v38 b0_0 b0_1 b0_2 b0_3 b0_4 b1_0 b1_1 b1_2 b1_3 b1_4 b1_5 b1_6 b1_7 b1_8)))
        (cond v5
          (g8 ((IntKind.wrap .i64 (v44 + 1))) true v43_0 v43_1 v43_2 v43_3 v43_4 v43_5 v36 v37 v38 b0_0 b0_1 b0_2 b0_3 b0_4 b1_0 b1_1 b1_2 b1_3 b1_4 b1_5 b1_6 b1_7 b1_8)
          (g8 ((IntKind.wrap .i64 (v44 + 1))) (((cond (Nat.beq (Int.toNat v44) 0) v43_0 (cond (Nat.beq ((Int.toNat v44) - 1) 0) v43_1 (cond (Nat.beq (((Int.toNat v44) - 1) - 1) 0) v43_2 (cond (Nat.beq ((((Int.toNat v44) - 1) - 1) - 1) 0) v43_3 (cond (Nat.beq (((((Int.toNat v44) - 1) - 1) - 1) - 1) 0) v43_4 (cond (Nat.beq ((((((Int.toNat v44) - 1) - 1) - 1) - 1) - 1) 0) v43_5 0)))))) != 0)) v43_0 v43_1 v43_2 v43_3 v43_4 v43_5 v36 v37 v38 b0_0 b0_1 b0_2 b0_3 b0_4 b1_0 b1_1 b1_2 b1_3 b1_4 b1_5 b1_6 b1_7 b1_8))))
    (none))
  (cond (!v5)
    (some ((((false, ()), ()), ())))
    ((impl_ValidFrac n ((b1_6, b1_7))).bind fun r3 =>
      cond (!r3.1.1.1)
      (some ((((false, ()), ()), ())))
      ((impl_within n b1_8 1 100).bind fun r4 =>
        cond (!r4.1.1.1)
        (some ((((false, ()), ()), ())))
        (g4 ((IntKind.wrap .i64 (v38 + 1))) v36 v37 b0_0 b0_1 b0_2 b0_3 b0_4))))

noncomputable def impl_ValidTable_l8 (n : Nat) (g4 : Int → (List (((Int) × ((Int) × ((Int) × ((Int) × ((Int) × (Int)))))) × (((Int) × (Int)) × (Int)))) → Int → Int → (List (((Int) × ((Int) × ((Int) × ((Int) × ((Int) × (Int)))))) × (((Int) × (Int)) × (Int)))) → Bool → Int → Int → Option ((((Bool) × (Unit)) × (Unit)) × (Unit))) : Nat → Int → Bool → Int → Int → Int → Int → Int → Int → (List (((Int) × ((Int) × ((Int) × ((Int) × ((Int) × (Int)))))) × (((Int) × (Int)) × (Int)))) → Int → Int → Int → (List (((Int) × ((Int) × ((Int) × ((Int) × ((Int) × (Int)))))) × (((Int) × (Int)) × (Int)))) → Bool → Int → Int → Int → Int → Int → Int → Int → Int → Int → Int → Int → Option ((((Bool) × (Unit)) × (Unit)) × (Unit))
  | 0, _, _, _, _, _, _, _, _, _, _, _, _, _, _, _, _, _, _, _, _, _, _, _, _, _ => none
  | k + 1, v44, v5, v43_0, v43_1, v43_2, v43_3, v43_4, v43_5, v36, v37, v38, b0_0, b0_1, b0_2, b0_3, b0_4, b1_0, b1_1, b1_2, b1_3, b1_4, b1_5, b1_6, b1_7, b1_8 => impl_ValidTable_t8 n g4 (impl_ValidTable_l8 n g4 k) v44 v5 v43_0 v43_1 v43_2 v43_3 v43_4 v43_5 v36 v37 v38 b0_0 b0_1 b0_2 b0_3 b0_4 b1_0 b1_1 b1_2 b1_3 b1_4 b1_5 b1_6 b1_7 b1_8

noncomputable def impl_ValidTable_t4 (n : Nat) (h8 : Nat → Int → Bool → Int → Int → Int → Int → Int → Int → (List (((Int) × ((Int) × ((Int) × ((Int) × ((Int) × (Int)))))) × (((Int) × (Int)) × (Int)))) → Int → Int → Int → (List (((Int) × ((Int) × ((Int) × ((Int) × ((Int) × (Int)))))) × (((Int) × (Int)) × (Int)))) → Bool → Int → Int → Int → Int → Int → Int → Int → Int → Int → Int → Int → Option ((((Bool) × (Unit)) × (Unit)) × (Unit))) (g4 : Int → (List (((Int) × ((Int) × ((Int) × ((Int) × ((Int) × (Int)))))) × (((Int) × (Int)) × (Int)))) → Int → Int → (List (((Int) × ((Int) × ((Int) × ((Int) × ((Int) × (Int)))))) × (((Int) × (Int)) × (Int)))) → Bool → Int → Int → Option ((((Bool) × (Unit)) × (Unit)) × (Unit))) (v38 : Int) (v36 : List (((Int) × ((Int) × ((Int) × ((Int) × ((Int) × (Int)))))) × (((Int) × (Int)) × (Int)))) (v37 : Int) (b0_0 : Int) (b0_1 : List (((Int) × ((Int) × ((Int) × ((Int) × ((Int) × (Int)))))) × (((Int) × (Int)) × (Int)))) (b0_2 : Bool) (b0_3 : Int) (b0_4 : Int) : Option ((((Bool) × (Unit)) × (Unit)) × (Unit)) :=
  cond (decide (v38 < v37))
  (cond ((decide (0 ≤ v38) && decide (v38 < ((v36.length : Nat) : Int))))
    (h8 n 0 false ((v36.getD (Int.toNat v38) ((0, (0, (0, (0, (0, 0))))), ((0, 0), 0))).1.1) ((v36.getD (Int.toNat v38) ((0, (0, (0, (0, (0, 0))))), ((0, 0), 0))).1.2.1) ((v36.getD (Int.toNat v38) ((0, (0, (0, (0, (0, 0))))), ((0, 0), 0))).1.2.2.1) ((v36.getD (Int.toNat v38) ((0, (0, (0, (0, (0, 0))))), ((0, 0), 0))).1.2.2.2.1) ((v36.getD (Int.toNat v38) ((0, (0, (0, (0, (0, 0))))), ((0, 0), 0))).1.2.2.2.2.1) ((v36.getD (Int.toNat v38) ((0, (0, (0, (0, (0, 0))))), ((0, 0), 0))).1.2.2.2.2.2) v36 v37 v38 b0_0 b0_1 b0_2 b0_3 b0_4 ((v36.getD (Int.toNat v38) ((0, (0, (0, (0, (0, 0))))), ((0, 0), 0))).1.1) ((v36.getD (Int.toNat v38) ((0, (0, (0, (0, (0, 0))))), ((0, 0), 0))).1.2.1) ((v36.getD (Int.toNat v38) ((0, (0, (0, (0, (0, 0))))), ((0, 0), 0))).1.2.2.1) ((v36.getD (Int.toNat v38) ((0, (0, (0, (0, (0, 0))))), ((0, 0), 0))).1.2.2.2.1) ((v36.getD (Int.toNat v38) ((0, (0, (0, (0, (0, 0))))), ((0, 0), 0))).1.2.2.2.2.1) ((v36.getD (Int.toNat v38) ((0, (0, (0, (0, (0, 0))))), ((0, 0), 0))).1.2.2.2.2.2) ((v36.getD (Int.toNat v38) ((0, (0, (0, (0, (0, 0))))), ((0, 0), 0))).2.1.1) ((v36.getD (Int.toNat v38) ((0, (0, (0, (0, (0, 0))))), ((0, 0), 0))).2.1.2) ((v36.getD (Int.toNat v38) ((0, (0, (0, (0, (0, 0))))), ((0, 0), 0))).2.2))
    (none))
  (some ((((true, ()), ()), ())))

noncomputable def impl_ValidTable_l4 (n : Nat) : Nat → Int → (List (((Int) × ((Int) × ((Int) × ((Int) × ((Int) × (Int)))))) × (((Int) × (Int)) × (Int)))) → Int → Int → (List (((Int) × ((Int) × ((Int) × ((Int) × ((Int) × (Int)))))) × (((Int) × (Int)) × (Int)))) → Bool → Int → Int → Option ((((Bool) × (Unit)) × (Unit)) × (Unit))
  | 0, _, _, _, _, _, _, _, _ => none
  | k + 1, v38, v36, v37, b0_0, b0_1, b0_2, b0_3, b0_4 => impl_ValidTable_t4 n (impl_ValidTable_l8 n (impl_ValidTable_l4 n k)) (impl_ValidTable_l4 n k) v38 v36 v37 b0_0 b0_1 b0_2 b0_3 b0_4

noncomputable def impl_ValidTable_t (n : Nat) (h4 : Nat → Int → (List (((Int) × ((Int) × ((Int) × ((Int) × ((Int) × (Int)))))) × (((Int) × (Int)) × (Int)))) → Int → Int → (List (((Int) × ((Int) × ((Int) × ((Int) × ((Int) × (Int)))))) × (((Int) × (Int)) × (Int)))) → Bool → Int → Int → Option ((((Bool) × (Unit)) × (Unit)) × (Unit))) (a0 : (Int) × ((List (((Int) × ((Int) × ((Int) × ((Int) × ((Int) × (Int)))))) × (((Int) × (Int)) × (Int)))) × ((Bool) × ((Int) × (Int))))) : Option ((((Bool) × (Unit)) × (Unit)) × (Unit)) :=
  (impl_within n a0.1 1 6).bind fun r0 =>
  cond (!r0.1.1.1)
  (some ((((false, ()), ()), ())))
  (cond (decide (((a0.2.1.length : Nat) : Int) > 24))
    (some ((((false, ()), ()), ())))
    ((impl_ValidFrac n ((a0.2.2.2.1, a0.2.2.2.2))).bind fun r1 =>
      cond (!r1.1.1.1)
      (some ((((false, ()), ()), ())))
      (cond (!a0.2.2.1)
        (cond ((a0.2.2.2.1 != 0))
          (some ((((false, ()), ()), ())))
          (h4 n 0 a0.2.1 (((a0.2.1.length : Nat) : Int)) a0.1 a0.2.1 a0.2.2.1 a0.2.2.2.1 a0.2.2.2.2))
        (h4 n 0 a0.2.1 (((a0.2.1.length : Nat) : Int)) a0.1 a0.2.1 a0.2.2.1 a0.2.2.2.1 a0.2.2.2.2))))

noncomputable def impl_ValidTable (n : Nat) (a0 : (Int) × ((List (((Int) × ((Int) × ((Int) × ((Int) × ((Int) × (Int)))))) × (((Int) × (Int)) × (Int)))) × ((Bool) × ((Int) × (Int))))) : Option ((((Bool) × (Unit)) × (Unit)) × (Unit)) := impl_ValidTable_t n (impl_ValidTable_l4 n) a0

noncomputable def impl_TableText_t11 (n : Nat) (g8 : ByteArray → Int → (List (((Int) × ((Int) × ((Int) × ((Int) × ((Int) × (Int)))))) × (((Int) × (Int)) × (Int)))) → Int → Int → (List (((Int) × ((Int) × ((Int) × ((Int) × ((Int) × (Int)))))) × (((Int) × (Int)) × (Int)))) → Bool → Int → Int → Option ((((ByteArray) × (Unit)) × (Unit)) × (Unit))) (g11 : Int → ByteArray → Nat → (List (((Int) × ((Int) × ((Int) × ((Int) × ((Int) × (Int)))))) × (((Int) × (Int)) × (Int)))) → Int → Int → Int → Int → Int → Int → Int → Int → Int → Int → Int → Int → Int → (List (((Int) × ((Int) × ((Int) × ((Int) × ((Int) × (Int)))))) × (((Int) × (Int)) × (Int)))) → Bool → Int → Int → Option ((((ByteArray) × (Unit)) × (Unit)) × (Unit))) (v36 : Int) (v3 : ByteArray) (v34a5 : Nat) (v25 : List (((Int) × ((Int) × ((Int) × ((Int) × ((Int) × (Int)))))) × (((Int) × (Int)) × (Int)))) (v26 : Int) (v27 : Int) (v35 : Int) (b0_0 : Int) (b0_1 : Int) (b0_2 : Int) (b0_3 : Int) (b0_4 : Int) (b0_5 : Int) (b0_6 : Int) (b0_7 : Int) (b0_8 : Int) (b1_0 : Int) (b1_1 : List (((Int) × ((Int) × ((Int) × ((Int) × ((Int) × (Int)))))) × (((Int) × (Int)) × (Int)))) (b1_2 : Bool) (b1_3 : Int) (b1_4 : Int) : Option ((((ByteArray) × (Unit)) × (Unit)) × (Unit)) :=
  cond (decide (v36 < v35))
  (cond ((decide (0 ≤ v36) && decide (v36 < ((v34a5 : Nat) : Int))))
    ((impl_dec n ((IntKind.wrap .i64 (cond (Nat.beq (Int.toNat v36) 0) b0_0 (cond (Nat.beq ((Int.toNat v36) - 1) 0) b0_1 (cond (Nat.beq (((Int.toNat v36) - 1) - 1) 0) b0_2 (cond (Nat.beq ((((Int.toNat v36) - 1) - 1) - 1) 0) b0_3 (cond (Nat.beq (((((Int.toNat v36) - 1) - 1) - 1) - 1) 0) b0_4 (cond (Nat.beq ((((((Int.toNat v36) - 1) - 1) - 1) - 1) - 1) 0) b0_5 0))))))))).bind fun r3 =>
      cond ((roomStr r3.1.1.1 (ByteArray.mk #[32])))
      (cond ((roomStr v3 (r3.1.1.1 ++ (ByteArray.mk #[32]))))
        (g11 ((IntKind.wrap .i64 (v36 + 1))) ((v3 ++ (r3.1.1.1 ++ (ByteArray.mk #[32])))) v34a5 v25 v26 v27 v35 b0_0 b0_1 b0_2 b0_3 b0_4 b0_5 b0_6 b0_7 b0_8 b1_0 b1_1 b1_2 b1_3 b1_4)
        (none))
      (none))
    (none))
  ((impl_FracText n ((b0_6, b0_7))).bind fun r4 =>
    cond ((roomStr r4.1.1.1 (ByteArray.mk #[32])))
    ((impl_dec n b0_8).bind fun r5 =>
      cond ((roomStr (r4.1.1.1 ++ (ByteArray.mk #[32])) r5.1.1.1))
      (cond ((roomStr ((r4.1.1.1 ++ (ByteArray.mk #[32])) ++ r5.1.1.1) (ByteArray.mk #[10])))
        (cond ((roomStr v3 (((r4.1.1.1 ++ (ByteArray.mk #[32])) ++ r5.1.1.1) ++ (ByteArray.mk #[10]))))
          (g8 ((v3 ++ (((r4.1.1.1 ++ (ByteArray.mk #[32])) ++ r5.1.1.1) ++ (ByteArray.mk #[10])))) ((IntKind.wrap .i64 (v27 + 1))) v25 v26 b1_0 b1_1 b1_2 b1_3 b1_4)
          (none))
        (none))
      (none))
    (none))

noncomputable def impl_TableText_l11 (n : Nat) (g8 : ByteArray → Int → (List (((Int) × ((Int) × ((Int) × ((Int) × ((Int) × (Int)))))) × (((Int) × (Int)) × (Int)))) → Int → Int → (List (((Int) × ((Int) × ((Int) × ((Int) × ((Int) × (Int)))))) × (((Int) × (Int)) × (Int)))) → Bool → Int → Int → Option ((((ByteArray) × (Unit)) × (Unit)) × (Unit))) : Nat → Int → ByteArray → Nat → (List (((Int) × ((Int) × ((Int) × ((Int) × ((Int) × (Int)))))) × (((Int) × (Int)) × (Int)))) → Int → Int → Int → Int → Int → Int → Int → Int → Int → Int → Int → Int → Int → (List (((Int) × ((Int) × ((Int) × ((Int) × ((Int) × (Int)))))) × (((Int) × (Int)) × (Int)))) → Bool → Int → Int → Option ((((ByteArray) × (Unit)) × (Unit)) × (Unit))
  | 0, _, _, _, _, _, _, _, _, _, _, _, _, _, _, _, _, _, _, _, _, _ => none
  | k + 1, v36, v3, v34a5, v25, v26, v27, v35, b0_0, b0_1, b0_2, b0_3, b0_4, b0_5, b0_6, b0_7, b0_8, b1_0, b1_1, b1_2, b1_3, b1_4 => impl_TableText_t11 n g8 (impl_TableText_l11 n g8 k) v36 v3 v34a5 v25 v26 v27 v35 b0_0 b0_1 b0_2 b0_3 b0_4 b0_5 b0_6 b0_7 b0_8 b1_0 b1_1 b1_2 b1_3 b1_4

noncomputable def impl_TableText_t8 (n : Nat) (h11 : Nat → Int → ByteArray → Nat → (List (((Int) × ((Int) × ((Int) × ((Int) × ((Int) × (Int)))))) × (((Int) × (Int)) × (Int)))) → Int → Int → Int → Int → Int → Int → Int → Int → Int → Int → Int → Int → Int → (List (((Int) × ((Int) × ((Int) × ((Int) × ((Int) × (Int)))))) × (((Int) × (Int)) × (Int)))) → Bool → Int → Int → Option ((((ByteArray) × (Unit)) × (Unit)) × (Unit))) (g8 : ByteArray → Int → (List (((Int) × ((Int) × ((Int) × ((Int) × ((Int) × (Int)))))) × (((Int) × (Int)) × (Int)))) → Int → Int → (List (((Int) × ((Int) × ((Int) × ((Int) × ((Int) × (Int)))))) × (((Int) × (Int)) × (Int)))) → Bool → Int → Int → Option ((((ByteArray) × (Unit)) × (Unit)) × (Unit))) (v3 : ByteArray) (v27 : Int) (v25 : List (((Int) × ((Int) × ((Int) × ((Int) × ((Int) × (Int)))))) × (((Int) × (Int)) × (Int)))) (v26 : Int) (b0_0 : Int) (b0_1 : List (((Int) × ((Int) × ((Int) × ((Int) × ((Int) × (Int)))))) × (((Int) × (Int)) × (Int)))) (b0_2 : Bool) (b0_3 : Int) (b0_4 : Int) : Option ((((ByteArray) × (Unit)) × (Unit)) × (Unit)) :=
  cond (decide (v27 < v26))
  (cond ((decide (0 ≤ v27) && decide (v27 < ((v25.length : Nat) : Int))))
    (cond ((decide (0 ≤ b0_0) && decide (b0_0 ≤ 6)))
      (h11 n 0 v3 ((Int.toNat b0_0)) v25 v26 v27 ((((Int.toNat b0_0) : Nat) : Int)) ((v25.getD (Int.toNat v27) ((0, (0, (0, (0, (0, 0))))), ((0, 0), 0))).1.1) ((v25.getD (Int.toNat v27) ((0, (0, (0, (0, (0, 0))))), ((0, 0), 0))).1.2.1) ((v25.getD (Int.toNat v27) ((0, (0, (0, (0, (0, 0))))), ((0, 0), 0))).1.2.2.1) ((v25.getD (Int.toNat v27) ((0, (0, (0, (0, (0, 0))))), ((0, 0), 0))).1.2.2.2.1) ((v25.getD (Int.toNat v27) ((0, (0, (0, (0, (0, 0))))), ((0, 0), 0))).1.2.2.2.2.1) ((v25.getD (Int.toNat v27) ((0, (0, (0, (0, (0, 0))))), ((0, 0), 0))).1.2.2.2.2.2) ((v25.getD (Int.toNat v27) ((0, (0, (0, (0, (0, 0))))), ((0, 0), 0))).2.1.1) ((v25.getD (Int.toNat v27) ((0, (0, (0, (0, (0, 0))))), ((0, 0), 0))).2.1.2) ((v25.getD (Int.toNat v27) ((0, (0, (0, (0, (0, 0))))), ((0, 0), 0))).2.2) b0_0 b0_1 b0_2 b0_3 b0_4)
      (none))
    (none))
  (some ((((v3, ()), ()), ())))

noncomputable def impl_TableText_l8 (n : Nat) : Nat → ByteArray → Int → (List (((Int) × ((Int) × ((Int) × ((Int) × ((Int) × (Int)))))) × (((Int) × (Int)) × (Int)))) → Int → Int → (List (((Int) × ((Int) × ((Int) × ((Int) × ((Int) × (Int)))))) × (((Int) × (Int)) × (Int)))) → Bool → Int → Int → Option ((((ByteArray) × (Unit)) × (Unit)) × (Unit))
  | 0, _, _, _, _, _, _, _, _, _ => none
  | k + 1, v3, v27, v25, v26, b0_0, b0_1, b0_2, b0_3, b0_4 => impl_TableText_t8 n (impl_TableText_l11 n (impl_TableText_l8 n k)) (impl_TableText_l8 n k) v3 v27 v25 v26 b0_0 b0_1 b0_2 b0_3 b0_4

noncomputable def impl_TableText_t (n : Nat) (h8 : Nat → ByteArray → Int → (List (((Int) × ((Int) × ((Int) × ((Int) × ((Int) × (Int)))))) × (((Int) × (Int)) × (Int)))) → Int → Int → (List (((Int) × ((Int) × ((Int) × ((Int) × ((Int) × (Int)))))) × (((Int) × (Int)) × (Int)))) → Bool → Int → Int → Option ((((ByteArray) × (Unit)) × (Unit)) × (Unit))) (a0 : (Int) × ((List (((Int) × ((Int) × ((Int) × ((Int) × ((Int) × (Int)))))) × (((Int) × (Int)) × (Int)))) × ((Bool) × ((Int) × (Int))))) : Option ((((ByteArray) × (Unit)) × (Unit)) × (Unit)) :=
  (impl_ValidTable n ((a0.1, (a0.2.1, (a0.2.2.1, (a0.2.2.2.1, a0.2.2.2.2)))))).bind fun r0 =>
  cond (!r0.1.1.1)
  (some (((((ByteArray.mk #[]), ()), ()), ())))
  ((impl_dec n a0.1).bind fun r1 =>
    cond a0.2.2.1
    ((impl_FracText n ((a0.2.2.2.1, a0.2.2.2.2))).bind fun r2 =>
      cond ((roomStr (ByteArray.mk #[32, 99, 108, 111, 115, 101, 100, 32]) r2.1.1.1))
      (cond ((roomStr r1.1.1.1 ((ByteArray.mk #[32, 99, 108, 111, 115, 101, 100, 32]) ++ r2.1.1.1)))
        (cond ((roomStr (r1.1.1.1 ++ ((ByteArray.mk #[32, 99, 108, 111, 115, 101, 100, 32]) ++ r2.1.1.1)) (ByteArray.mk #[10])))
          (h8 n (((r1.1.1.1 ++ ((ByteArray.mk #[32, 99, 108, 111, 115, 101, 100, 32]) ++ r2.1.1.1)) ++ (ByteArray.mk #[10]))) 0 a0.2.1 (((a0.2.1.length : Nat) : Int)) a0.1 a0.2.1 a0.2.2.1 a0.2.2.2.1 a0.2.2.2.2)
          (none))
        (none))
      (none))
    (cond ((roomStr r1.1.1.1 (ByteArray.mk #[10])))
      (h8 n ((r1.1.1.1 ++ (ByteArray.mk #[10]))) 0 a0.2.1 (((a0.2.1.length : Nat) : Int)) a0.1 a0.2.1 a0.2.2.1 a0.2.2.2.1 a0.2.2.2.2)
      (none)))

noncomputable def impl_TableText (n : Nat) (a0 : (Int) × ((List (((Int) × ((Int) × ((Int) × ((Int) × ((Int) × (Int)))))) × (((Int) × (Int)) × (Int)))) × ((Bool) × ((Int) × (Int))))) : Option ((((ByteArray) × (Unit)) × (Unit)) × (Unit)) := impl_TableText_t n (impl_TableText_l8 n) a0

noncomputable def strings_Split (n : Nat) (a0 : ByteArray) (a1 : ByteArray) : Option ((((List (ByteArray)) × (Unit)) × (Unit)) × (Unit)) :=
  cond (decide (a0.size < 4294967281) && decide (1 ≤ a1.size)) (some ((((Go.Lib.splitB a1 0 (Go.Lib.countB a0 a1) a0, ()), ()), ()))) none

noncomputable def impl_lines_t (n : Nat) (a0 : ByteArray) : Option ((((List (ByteArray)) × (Unit)) × (((Bool) × (Unit)) × (Unit))) × (Unit)) :=
  cond ((eqStr a0 (ByteArray.mk #[])))
  (some (((([], ()), ((true, ()), ())), ())))
  ((strings_Split n a0 ((ByteArray.mk #[10]))).bind fun r0 =>
    cond ((decide (0 ≤ (IntKind.wrap .i64 (((r0.1.1.1.length : Nat) : Int) - 1))) && decide ((IntKind.wrap .i64 (((r0.1.1.1.length : Nat) : Int) - 1)) ≤ ((r0.1.1.1.length : Nat) : Int))))
    (cond ((decide (0 ≤ (IntKind.wrap .i64 (((r0.1.1.1.length : Nat) : Int) - 1))) && decide ((IntKind.wrap .i64 (((r0.1.1.1.length : Nat) : Int) - 1)) < ((r0.1.1.1.length : Nat) : Int))))
      (some ((((((r0.1.1.1.drop (Int.toNat 0)).take ((Int.toNat (IntKind.wrap .i64 (((r0.1.1.1.length : Nat) : Int) - 1))) - (Int.toNat 0))), ()), (((eqStr (r0.1.1.1.getD (Int.toNat (IntKind.wrap .i64 (((r0.1.1.1.length : Nat) : Int) - 1))) (ByteArray.mk #[])) (ByteArray.mk #[])), ()), ())), ())))
      (none))
    (none))

noncomputable def impl_lines (n : Nat) (a0 : ByteArray) : Option ((((List (ByteArray)) × (Unit)) × (((Bool) × (Unit)) × (Unit))) × (Unit)) := impl_lines_t n a0

noncomputable def impl_zero_t (n : Nat) : Option (((((Int) × (Int)) × (Unit)) × (Unit)) × (Unit)) :=
  some (((((0, 1), ()), ()), ()))

noncomputable def impl_zero (n : Nat) : Option (((((Int) × (Int)) × (Unit)) × (Unit)) × (Unit)) := impl_zero_t n

noncomputable def impl_ReadTable_t18 (n : Nat) (g9 : Int → (List (ByteArray)) → ByteArray → Int → Int → Bool → Int → Int → Int → Bool → Int → Int → (List (((Int) × ((Int) × ((Int) × ((Int) × ((Int) × (Int)))))) × (((Int) × (Int)) × (Int)))) → Option ((((Int) × ((List (((Int) × ((Int) × ((Int) × ((Int) × ((Int) × (Int)))))) × (((Int) × (Int)) × (Int)))) × (((Bool) × ((Int) × (Int))) × (Unit)))) × (((Int) × (Unit)) × (Unit))) × (Unit))) (g18 : Int → Nat → Nat → (List (ByteArray)) → ByteArray → Int → Int → Int → Int → Bool → Int → Int → Int → Int → Int → Int → Int → Int → Int → Int → Int → (List (ByteArray)) → Int → Bool → Int → Int → (List (((Int) × ((Int) × ((Int) × ((Int) × ((Int) × (Int)))))) × (((Int) × (Int)) × (Int)))) → Option ((((Int) × ((List (((Int) × ((Int) × ((Int) × ((Int) × ((Int) × (Int)))))) × (((Int) × (Int)) × (Int)))) × (((Bool) × ((Int) × (Int))) × (Unit)))) × (((Int) × (Unit)) × (Unit))) × (Unit))) (v96 : Int) (v94o : Nat) (v94n : Nat) (v58 : List (ByteArray)) (v0 : ByteArray) (v59 : Int) (v60 : Int) (v95 : Int) (b0_0 : Int) (b0_2 : Bool) (b0_3 : Int) (b0_4 : Int) (b1_0 : Int) (b1_1 : Int) (b1_2 : Int) (b1_3 : Int) (b1_4 : Int) (b1_5 : Int) (b1_6 : Int) (b1_7 : Int) (b1_8 : Int) (b2 : List (ByteArray)) (b3_0 : Int) (b3_2 : Bool) (b3_3 : Int) (b3_4 : Int) (b4 : List (((Int) × ((Int) × ((Int) × ((Int) × ((Int) × (Int)))))) × (((Int) × (Int)) × (Int)))) : Option ((((Int) × ((List (((Int) × ((Int) × ((Int) × ((Int) × ((Int) × (Int)))))) × (((Int) × (Int)) × (Int)))) × (((Bool) × ((Int) × (Int))) × (Unit)))) × (((Int) × (Unit)) × (Unit))) × (Unit)) :=
  cond (decide (v96 < v95))
  (cond ((decide (0 ≤ v96) && decide (v96 < ((((b2.drop v94o).take v94n).length : Nat) : Int))))
    ((impl_number n ((b2.getD (v94o + (Int.toNat v96)) (ByteArray.mk #[])))).bind fun r8 =>
      (impl_within n r8.1.1.1 (-3) 3).bind fun r9 =>
      cond (!r9.1.1.1)
      (some ((((0, ([], ((false, (0, 0)), ()))), ((5, ()), ())), ())))
      (cond ((decide (0 ≤ v96) && decide (v96 < 6)))
        (g18 ((IntKind.wrap .i64 (v96 + 1))) v94o v94n v58 v0 v59 v60 v95 b0_0 b0_2 b0_3 b0_4 ((cond (Nat.beq (Int.toNat v96) 0) (IntKind.wrap .i8 r8.1.1.1) b1_0)) ((cond (Nat.beq (Int.toNat v96) 1) (IntKind.wrap .i8 r8.1.1.1) b1_1)) ((cond (Nat.beq (Int.toNat v96) 2) (IntKind.wrap .i8 r8.1.1.1) b1_2)) ((cond (Nat.beq (Int.toNat v96) 3) (IntKind.wrap .i8 r8.1.1.1) b1_3)) ((cond (Nat.beq (Int.toNat v96) 4) (IntKind.wrap .i8 r8.1.1.1) b1_4)) ((cond (Nat.beq (Int.toNat v96) 5) (IntKind.wrap .i8 r8.1.1.1) b1_5)) b1_6 b1_7 b1_8 b2 b3_0 b3_2 b3_3 b3_4 b4)
        (none)))
    (none))
  (cond (decide (((b4.length + (((b1_0, (b1_1, (b1_2, (b1_3, (b1_4, b1_5))))), ((b1_6, b1_7), b1_8)) :: []).length) * 33) ≤ 70368744177664))
    (g9 ((IntKind.wrap .i64 (v60 + 1))) v58 v0 v59 b0_0 b0_2 b0_3 b0_4 b3_0 b3_2 b3_3 b3_4 ((b4 ++ (((b1_0, (b1_1, (b1_2, (b1_3, (b1_4, b1_5))))), ((b1_6, b1_7), b1_8)) :: []))))
    (none))

noncomputable def impl_ReadTable_l18 (n : Nat) (g9 : Int → (List (ByteArray)) → ByteArray → Int → Int → Bool → Int → Int → Int → Bool → Int → Int → (List (((Int) × ((Int) × ((Int) × ((Int) × ((Int) × (Int)))))) × (((Int) × (Int)) × (Int)))) → Option ((((Int) × ((List (((Int) × ((Int) × ((Int) × ((Int) × ((Int) × (Int)))))) × (((Int) × (Int)) × (Int)))) × (((Bool) × ((Int) × (Int))) × (Unit)))) × (((Int) × (Unit)) × (Unit))) × (Unit))) : Nat → Int → Nat → Nat → (List (ByteArray)) → ByteArray → Int → Int → Int → Int → Bool → Int → Int → Int → Int → Int → Int → Int → Int → Int → Int → Int → (List (ByteArray)) → Int → Bool → Int → Int → (List (((Int) × ((Int) × ((Int) × ((Int) × ((Int) × (Int)))))) × (((Int) × (Int)) × (Int)))) → Option ((((Int) × ((List (((Int) × ((Int) × ((Int) × ((Int) × ((Int) × (Int)))))) × (((Int) × (Int)) × (Int)))) × (((Bool) × ((Int) × (Int))) × (Unit)))) × (((Int) × (Unit)) × (Unit))) × (Unit))
  | 0, _, _, _, _, _, _, _, _, _, _, _, _, _, _, _, _, _, _, _, _, _, _, _, _, _, _, _ => none
  | k + 1, v96, v94o, v94n, v58, v0, v59, v60, v95, b0_0, b0_2, b0_3, b0_4, b1_0, b1_1, b1_2, b1_3, b1_4, b1_5, b1_6, b1_7, b1_8, b2, b3_0, b3_2, b3_3, b3_4, b4 => impl_ReadTable_t18 n g9 (impl_ReadTable_l18 n g9 k) v96 v94o v94n v58 v0 v59 v60 v95 b0_0 b0_2 b0_3 b0_4 b1_0 b1_1 b1_2 b1_3 b1_4 b1_5 b1_6 b1_7 b1_8 b2 b3_0 b3_2 b3_3 b3_4 b4

noncomputable def impl_ReadTable_t9 (n : Nat) (h18 : Nat → Int → Nat → Nat → (List (ByteArray)) → ByteArray → Int → Int → Int → Int → Bool → Int → Int → Int → Int → Int → Int → Int → Int → Int → Int → Int → (List (ByteArray)) → Int → Bool → Int → Int → (List (((Int) × ((Int) × ((Int) × ((Int) × ((Int) × (Int)))))) × (((Int) × (Int)) × (Int)))) → Option ((((Int) × ((List (((Int) × ((Int) × ((Int) × ((Int) × ((Int) × (Int)))))) × (((Int) × (Int)) × (Int)))) × (((Bool) × ((Int) × (Int))) × (Unit)))) × (((Int) × (Unit)) × (Unit))) × (Unit))) (g9 : Int → (List (ByteArray)) → ByteArray → Int → Int → Bool → Int → Int → Int → Bool → Int → Int → (List (((Int) × ((Int) × ((Int) × ((Int) × ((Int) × (Int)))))) × (((Int) × (Int)) × (Int)))) → Option ((((Int) × ((List (((Int) × ((Int) × ((Int) × ((Int) × ((Int) × (Int)))))) × (((Int) × (Int)) × (Int)))) × (((Bool) × ((Int) × (Int))) × (Unit)))) × (((Int) × (Unit)) × (Unit))) × (Unit))) (v60 : Int) (v58 : List (ByteArray)) (v0 : ByteArray) (v59 : Int) (b0_0 : Int) (b0_2 : Bool) (b0_3 : Int) (b0_4 : Int) (b1_0 : Int) (b1_2 : Bool) (b1_3 : Int) (b1_4 : Int) (b2 : List (((Int) × ((Int) × ((Int) × ((Int) × ((Int) × (Int)))))) × (((Int) × (Int)) × (Int)))) : Option ((((Int) × ((List (((Int) × ((Int) × ((Int) × ((Int) × ((Int) × (Int)))))) × (((Int) × (Int)) × (Int)))) × (((Bool) × ((Int) × (Int))) × (Unit)))) × (((Int) × (Unit)) × (Unit))) × (Unit)) :=
  cond (decide (v60 < v59))
  (cond ((decide (0 ≤ v60) && decide (v60 < ((v58.length : Nat) : Int))))
    ((strings_Split n ((v58.getD (Int.toNat v60) (ByteArray.mk #[]))) ((ByteArray.mk #[32]))).bind fun r5 =>
      cond (decide ((IntKind.wrap .i64 (((r5.1.1.1.length : Nat) : Int) - 2)) < 1))
      (some ((((0, ([], ((false, (0, 0)), ()))), ((5, ()), ())), ())))
      (cond (decide ((IntKind.wrap .i64 (((r5.1.1.1.length : Nat) : Int) - 2)) > 6))
        (some ((((0, ([], ((false, (0, 0)), ()))), ((5, ()), ())), ())))
        (cond ((decide (0 ≤ (IntKind.wrap .i64 ((IntKind.wrap .i64 (((r5.1.1.1.length : Nat) : Int) - 2)) + 1))) && decide ((IntKind.wrap .i64 ((IntKind.wrap .i64 (((r5.1.1.1.length : Nat) : Int) - 2)) + 1)) < ((r5.1.1.1.length : Nat) : Int))))
          ((impl_number n ((r5.1.1.1.getD (Int.toNat (IntKind.wrap .i64 ((IntKind.wrap .i64 (((r5.1.1.1.length : Nat) : Int) - 2)) + 1))) (ByteArray.mk #[])))).bind fun r6 =>
            cond ((decide (0 ≤ (IntKind.wrap .i64 (((r5.1.1.1.length : Nat) : Int) - 2))) && decide ((IntKind.wrap .i64 (((r5.1.1.1.length : Nat) : Int) - 2)) < ((r5.1.1.1.length : Nat) : Int))))
            ((impl_ReadFrac n ((r5.1.1.1.getD (Int.toNat (IntKind.wrap .i64 (((r5.1.1.1.length : Nat) : Int) - 2))) (ByteArray.mk #[])))).bind fun r7 =>
              cond ((decide (0 ≤ (IntKind.wrap .i64 (((r5.1.1.1.length : Nat) : Int) - 2))) && decide ((IntKind.wrap .i64 (((r5.1.1.1.length : Nat) : Int) - 2)) ≤ ((r5.1.1.1.length : Nat) : Int))))
              (h18 n 0 ((Int.toNat 0)) (((Int.toNat (IntKind.wrap .i64 (((r5.1.1.1.length : Nat) : Int) - 2))) - (Int.toNat 0))) v58 v0 v59 v60 (((((r5.1.1.1.drop (Int.toNat 0)).take ((Int.toNat (IntKind.wrap .i64 (((r5.1.1.1.length : Nat) : Int) - 2))) - (Int.toNat 0))).length : Nat) : Int)) b0_0 b0_2 b0_3 b0_4 0 0 0 0 0 0 r7.1.1.1.1 r7.1.1.1.2 r6.1.1.1 r5.1.1.1 b1_0 b1_2 b1_3 b1_4 b2)
              (none))
            (none))
          (none))))
    (none))
  ((impl_ValidTable n ((b1_0, (b2, (b1_2, (b1_3, b1_4)))))).bind fun r10 =>
    cond (!r10.1.1.1)
    (some ((((0, ([], ((false, (0, 0)), ()))), ((5, ()), ())), ())))
    ((impl_TableText n ((b1_0, (b2, (b1_2, (b1_3, b1_4)))))).bind fun r11 =>
      cond ((!(eqStr r11.1.1.1 v0)))
      (some ((((0, ([], ((false, (0, 0)), ()))), ((5, ()), ())), ())))
      (some ((((b1_0, (b2, ((b1_2, (b1_3, b1_4)), ()))), ((0, ()), ())), ())))))

noncomputable def impl_ReadTable_l9 (n : Nat) : Nat → Int → (List (ByteArray)) → ByteArray → Int → Int → Bool → Int → Int → Int → Bool → Int → Int → (List (((Int) × ((Int) × ((Int) × ((Int) × ((Int) × (Int)))))) × (((Int) × (Int)) × (Int)))) → Option ((((Int) × ((List (((Int) × ((Int) × ((Int) × ((Int) × ((Int) × (Int)))))) × (((Int) × (Int)) × (Int)))) × (((Bool) × ((Int) × (Int))) × (Unit)))) × (((Int) × (Unit)) × (Unit))) × (Unit))
  | 0, _, _, _, _, _, _, _, _, _, _, _, _, _ => none
  | k + 1, v60, v58, v0, v59, b0_0, b0_2, b0_3, b0_4, b1_0, b1_2, b1_3, b1_4, b2 => impl_ReadTable_t9 n (impl_ReadTable_l18 n (impl_ReadTable_l9 n k)) (impl_ReadTable_l9 n k) v60 v58 v0 v59 b0_0 b0_2 b0_3 b0_4 b1_0 b1_2 b1_3 b1_4 b2

noncomputable def impl_ReadTable_t (n : Nat) (h9 : Nat → Int → (List (ByteArray)) → ByteArray → Int → Int → Bool → Int → Int → Int → Bool → Int → Int → (List (((Int) × ((Int) × ((Int) × ((Int) × ((Int) × (Int)))))) × (((Int) × (Int)) × (Int)))) → Option ((((Int) × ((List (((Int) × ((Int) × ((Int) × ((Int) × ((Int) × (Int)))))) × (((Int) × (Int)) × (Int)))) × (((Bool) × ((Int) × (Int))) × (Unit)))) × (((Int) × (Unit)) × (Unit))) × (Unit))) (a0 : ByteArray) : Option ((((Int) × ((List (((Int) × ((Int) × ((Int) × ((Int) × ((Int) × (Int)))))) × (((Int) × (Int)) × (Int)))) × (((Bool) × ((Int) × (Int))) × (Unit)))) × (((Int) × (Unit)) × (Unit))) × (Unit)) :=
  (impl_lines n a0).bind fun r0 =>
  cond (!r0.1.2.1.1)
  (some ((((0, ([], ((false, (0, 0)), ()))), ((5, ()), ())), ())))
  (cond ((((r0.1.1.1.length : Nat) : Int) == 0))
    (some ((((0, ([], ((false, (0, 0)), ()))), ((5, ()), ())), ())))
    (cond (decide (((r0.1.1.1.length : Nat) : Int) > 25))
      (some ((((0, ([], ((false, (0, 0)), ()))), ((5, ()), ())), ())))
      (cond (decide (0 < ((r0.1.1.1.length : Nat) : Int)))
        ((strings_Split n ((r0.1.1.1.getD (Int.toNat 0) (ByteArray.mk #[]))) ((ByteArray.mk #[32]))).bind fun r1 =>
          cond (decide (0 < ((r1.1.1.1.length : Nat) : Int)))
          ((impl_number n ((r1.1.1.1.getD (Int.toNat 0) (ByteArray.mk #[])))).bind fun r2 =>
            (impl_zero n).bind fun r3 =>
            cond ((((r1.1.1.1.length : Nat) : Int) == 3))
            (cond (decide (2 < ((r1.1.1.1.length : Nat) : Int)))
              ((impl_ReadFrac n ((r1.1.1.1.getD (Int.toNat 2) (ByteArray.mk #[])))).bind fun r4 =>
                cond ((decide (1 ≤ ((r0.1.1.1.length : Nat) : Int)) && decide (((r0.1.1.1.length : Nat) : Int) ≤ ((r0.1.1.1.length : Nat) : Int))))
                (h9 n 0 (((r0.1.1.1.drop (Int.toNat 1)).take ((Int.toNat ((r0.1.1.1.length : Nat) : Int)) - (Int.toNat 1)))) a0 (((((r0.1.1.1.drop (Int.toNat 1)).take ((Int.toNat ((r0.1.1.1.length : Nat) : Int)) - (Int.toNat 1))).length : Nat) : Int)) 0 false 0 0 r2.1.1.1 ((((r1.1.1.1.length : Nat) : Int) == 3)) r4.1.1.1.1 r4.1.1.1.2 [])
                (none))
              (none))
            (cond ((decide (1 ≤ ((r0.1.1.1.length : Nat) : Int)) && decide (((r0.1.1.1.length : Nat) : Int) ≤ ((r0.1.1.1.length : Nat) : Int))))
              (h9 n 0 (((r0.1.1.1.drop (Int.toNat 1)).take ((Int.toNat ((r0.1.1.1.length : Nat) : Int)) - (Int.toNat 1)))) a0 (((((r0.1.1.1.drop (Int.toNat 1)).take ((Int.toNat ((r0.1.1.1.length : Nat) : Int)) - (Int.toNat 1))).length : Nat) : Int)) 0 false 0 0 r2.1.1.1 ((((r1.1.1.1.length : Nat) : Int) == 3)) r3.1.1.1.1 r3.1.1.1.2 [])
              (none)))
          (none))
        (none))))

noncomputable def impl_ReadTable (n : Nat) (a0 : ByteArray) : Option ((((Int) × ((List (((Int) × ((Int) × ((Int) × ((Int) × ((Int) × (Int)))))) × (((Int) × (Int)) × (Int)))) × (((Bool) × ((Int) × (Int))) × (Unit)))) × (((Int) × (Unit)) × (Unit))) × (Unit)) := impl_ReadTable_t n (impl_ReadTable_l9 n) a0

noncomputable def laws_eqFrac_t (n : Nat) (a0 : (Int) × (Int)) (a1 : (Int) × (Int)) : Option ((((Bool) × (Unit)) × (Unit)) × (Unit)) :=
  cond ((a0.1 != a1.1))
  (some ((((false, ()), ()), ())))
  (cond ((a0.2 != a1.2))
    (some ((((false, ()), ()), ())))
    (some ((((true, ()), ()), ()))))

noncomputable def laws_eqFrac (n : Nat) (a0 : (Int) × (Int)) (a1 : (Int) × (Int)) : Option ((((Bool) × (Unit)) × (Unit)) × (Unit)) := laws_eqFrac_t n a0 a1

noncomputable def laws_eqInt8A6_t2 (n : Nat) (g2 : Int → Int → Int → Int → Int → Int → Int → Int → Int → Int → Int → Int → Int → Option ((((Bool) × (Unit)) × (Unit)) × (Unit))) (v5 : Int) (b0_0 : Int) (b0_1 : Int) (b0_2 : Int) (b0_3 : Int) (b0_4 : Int) (b0_5 : Int) (b1_0 : Int) (b1_1 : Int) (b1_2 : Int) (b1_3 : Int) (b1_4 : Int) (b1_5 : Int) : Option ((((Bool) × (Unit)) × (Unit)) × (Unit)) :=
  cond (decide (v5 < 6))
  (cond ((decide (0 ≤ v5) && decide (v5 < 6)))
    (cond ((decide (0 ≤ v5) && decide (v5 < 6)))
      (cond (((cond (Nat.beq (Int.toNat v5) 0) b1_0 (cond (Nat.beq ((Int.toNat v5) - 1) 0) b1_1 (cond (Nat.beq (((Int.toNat v5) - 1) - 1) 0) b1_2 (cond (Nat.beq ((((Int.toNat v5) - 1) - 1) - 1) 0) b1_3 (cond (Nat.beq (((((Int.toNat v5) - 1) - 1) - 1) - 1) 0) b1_4 (cond (Nat.beq ((((((Int.toNat v5) - 1) - 1) - 1) - 1) - 1) 0) b1_5 0)))))) != (cond (Nat.beq (Int.toNat v5) 0) b0_0 (cond (Nat.beq ((Int.toNat v5) - 1) 0) b0_1 (cond (Nat.beq (((Int.toNat v5) - 1) - 1) 0) b0_2 (cond (Nat.beq ((((Int.toNat v5) - 1) - 1) - 1) 0) b0_3 (cond (Nat.beq (((((Int.toNat v5) - 1) - 1) - 1) - 1) 0) b0_4 (cond (Nat.beq ((((((Int.toNat v5) - 1) - 1) - 1) - 1) - 1) 0) b0_5 0))))))))
        (some ((((false, ()), ()), ())))
        (g2 ((IntKind.wrap .i64 (v5 + 1))) b0_0 b0_1 b0_2 b0_3 b0_4 b0_5 b1_0 b1_1 b1_2 b1_3 b1_4 b1_5))
      (none))
    (none))
  (some ((((true, ()), ()), ())))

noncomputable def laws_eqInt8A6_l2 (n : Nat) : Nat → Int → Int → Int → Int → Int → Int → Int → Int → Int → Int → Int → Int → Int → Option ((((Bool) × (Unit)) × (Unit)) × (Unit))
  | 0, _, _, _, _, _, _, _, _, _, _, _, _, _ => none
  | k + 1, v5, b0_0, b0_1, b0_2, b0_3, b0_4, b0_5, b1_0, b1_1, b1_2, b1_3, b1_4, b1_5 => laws_eqInt8A6_t2 n (laws_eqInt8A6_l2 n k) v5 b0_0 b0_1 b0_2 b0_3 b0_4 b0_5 b1_0 b1_1 b1_2 b1_3 b1_4 b1_5

noncomputable def laws_eqInt8A6_t (n : Nat) (h2 : Nat → Int → Int → Int → Int → Int → Int → Int → Int → Int → Int → Int → Int → Int → Option ((((Bool) × (Unit)) × (Unit)) × (Unit))) (a0 : (Int) × ((Int) × ((Int) × ((Int) × ((Int) × (Int)))))) (a1 : (Int) × ((Int) × ((Int) × ((Int) × ((Int) × (Int)))))) : Option ((((Bool) × (Unit)) × (Unit)) × (Unit)) :=
  h2 n 0 a1.1 a1.2.1 a1.2.2.1 a1.2.2.2.1 a1.2.2.2.2.1 a1.2.2.2.2.2 a0.1 a0.2.1 a0.2.2.1 a0.2.2.2.1 a0.2.2.2.2.1 a0.2.2.2.2.2

noncomputable def laws_eqInt8A6 (n : Nat) (a0 : (Int) × ((Int) × ((Int) × ((Int) × ((Int) × (Int)))))) (a1 : (Int) × ((Int) × ((Int) × ((Int) × ((Int) × (Int)))))) : Option ((((Bool) × (Unit)) × (Unit)) × (Unit)) := laws_eqInt8A6_t n (laws_eqInt8A6_l2 n) a0 a1

noncomputable def laws_eqObs_t (n : Nat) (a0 : ((Int) × ((Int) × ((Int) × ((Int) × ((Int) × (Int)))))) × (((Int) × (Int)) × (Int))) (a1 : ((Int) × ((Int) × ((Int) × ((Int) × ((Int) × (Int)))))) × (((Int) × (Int)) × (Int))) : Option ((((Bool) × (Unit)) × (Unit)) × (Unit)) :=
  (laws_eqInt8A6 n ((a0.1.1, (a0.1.2.1, (a0.1.2.2.1, (a0.1.2.2.2.1, (a0.1.2.2.2.2.1, a0.1.2.2.2.2.2)))))) ((a1.1.1, (a1.1.2.1, (a1.1.2.2.1, (a1.1.2.2.2.1, (a1.1.2.2.2.2.1, a1.1.2.2.2.2.2))))))).bind fun r0 =>
  cond (!r0.1.1.1)
  (some ((((false, ()), ()), ())))
  ((laws_eqFrac n ((a0.2.1.1, a0.2.1.2)) ((a1.2.1.1, a1.2.1.2))).bind fun r1 =>
    cond (!r1.1.1.1)
    (some ((((false, ()), ()), ())))
    (cond ((a0.2.2 != a1.2.2))
      (some ((((false, ()), ()), ())))
      (some ((((true, ()), ()), ())))))

noncomputable def laws_eqObs (n : Nat) (a0 : ((Int) × ((Int) × ((Int) × ((Int) × ((Int) × (Int)))))) × (((Int) × (Int)) × (Int))) (a1 : ((Int) × ((Int) × ((Int) × ((Int) × ((Int) × (Int)))))) × (((Int) × (Int)) × (Int))) : Option ((((Bool) × (Unit)) × (Unit)) × (Unit)) := laws_eqObs_t n a0 a1

noncomputable def laws_eqObsS_t4 (n : Nat) (g4 : Int → (List (((Int) × ((Int) × ((Int) × ((Int) × ((Int) × (Int)))))) × (((Int) × (Int)) × (Int)))) → (List (((Int) × ((Int) × ((Int) × ((Int) × ((Int) × (Int)))))) × (((Int) × (Int)) × (Int)))) → Option ((((Bool) × (Unit)) × (Unit)) × (Unit))) (v5 : Int) (v1 : List (((Int) × ((Int) × ((Int) × ((Int) × ((Int) × (Int)))))) × (((Int) × (Int)) × (Int)))) (v0 : List (((Int) × ((Int) × ((Int) × ((Int) × ((Int) × (Int)))))) × (((Int) × (Int)) × (Int)))) : Option ((((Bool) × (Unit)) × (Unit)) × (Unit)) :=
  cond (decide (v5 < ((v0.length : Nat) : Int)))
  (cond ((decide (0 ≤ v5) && decide (v5 < ((v0.length : Nat) : Int))))
    (cond ((decide (0 ≤ v5) && decide (v5 < ((v1.length : Nat) : Int))))
      ((laws_eqObs n ((((v0.getD (Int.toNat v5) ((0, (0, (0, (0, (0, 0))))), ((0, 0), 0))).1.1, ((v0.getD (Int.toNat v5) ((0, (0, (0, (0, (0, 0))))), ((0, 0), 0))).1.2.1, ((v0.getD (Int.toNat v5) ((0, (0, (0, (0, (0, 0))))), ((0, 0), 0))).1.2.2.1, ((v0.getD (Int.toNat v5) ((0, (0, (0, (0, (0, 0))))), ((0, 0), 0))).1.2.2.2.1, ((v0.getD (Int.toNat v5) ((0, (0, (0, (0, (0, 0))))), ((0, 0), 0))).1.2.2.2.2.1, (v0.getD (Int.toNat v5) ((0, (0, (0, (0, (0, 0))))), ((0, 0), 0))).1.2.2.2.2.2))))), (((v0.getD (Int.toNat v5) ((0, (0, (0, (0, (0, 0))))), ((0, 0), 0))).2.1.1, (v0.getD (Int.toNat v5) ((0, (0, (0, (0, (0, 0))))), ((0, 0), 0))).2.1.2), (v0.getD (Int.toNat v5) ((0, (0, (0, (0, (0, 0))))), ((0, 0), 0))).2.2))) ((((v1.getD (Int.toNat v5) ((0, (0, (0, (0, (0, 0))))), ((0, 0), 0))).1.1, ((v1.getD (Int.toNat v5) ((0, (0, (0, (0, (0, 0))))), ((0, 0), 0))).1.2.1, ((v1.getD (Int.toNat v5) ((0, (0, (0, (0, (0, 0))))), ((0, 0), 0))).1.2.2.1, ((v1.getD (Int.toNat v5) ((0, (0, (0, (0, (0, 0))))), ((0, 0), 0))).1.2.2.2.1, ((v1.getD (Int.toNat v5) ((0, (0, (0, (0, (0, 0))))), ((0, 0), 0))).1.2.2.2.2.1, (v1.getD (Int.toNat v5) ((0, (0, (0, (0, (0, 0))))), ((0, 0), 0))).1.2.2.2.2.2))))), (((v1.getD (Int.toNat v5) ((0, (0, (0, (0, (0, 0))))), ((0, 0), 0))).2.1.1, (v1.getD (Int.toNat v5) ((0, (0, (0, (0, (0, 0))))), ((0, 0), 0))).2.1.2), (v1.getD (Int.toNat v5) ((0, (0, (0, (0, (0, 0))))), ((0, 0), 0))).2.2)))).bind fun r0 =>
        cond (!r0.1.1.1)
        (some ((((false, ()), ()), ())))
        (g4 ((IntKind.wrap .i64 (v5 + 1))) v1 v0))
      (none))
    (none))
  (some ((((true, ()), ()), ())))

noncomputable def laws_eqObsS_l4 (n : Nat) : Nat → Int → (List (((Int) × ((Int) × ((Int) × ((Int) × ((Int) × (Int)))))) × (((Int) × (Int)) × (Int)))) → (List (((Int) × ((Int) × ((Int) × ((Int) × ((Int) × (Int)))))) × (((Int) × (Int)) × (Int)))) → Option ((((Bool) × (Unit)) × (Unit)) × (Unit))
  | 0, _, _, _ => none
  | k + 1, v5, v1, v0 => laws_eqObsS_t4 n (laws_eqObsS_l4 n k) v5 v1 v0

noncomputable def laws_eqObsS_t (n : Nat) (h4 : Nat → Int → (List (((Int) × ((Int) × ((Int) × ((Int) × ((Int) × (Int)))))) × (((Int) × (Int)) × (Int)))) → (List (((Int) × ((Int) × ((Int) × ((Int) × ((Int) × (Int)))))) × (((Int) × (Int)) × (Int)))) → Option ((((Bool) × (Unit)) × (Unit)) × (Unit))) (a0 : List (((Int) × ((Int) × ((Int) × ((Int) × ((Int) × (Int)))))) × (((Int) × (Int)) × (Int)))) (a1 : List (((Int) × ((Int) × ((Int) × ((Int) × ((Int) × (Int)))))) × (((Int) × (Int)) × (Int)))) : Option ((((Bool) × (Unit)) × (Unit)) × (Unit)) :=
  cond ((((a0.length : Nat) : Int) != ((a1.length : Nat) : Int)))
  (some ((((false, ()), ()), ())))
  (h4 n 0 a1 a0)

noncomputable def laws_eqObsS (n : Nat) (a0 : List (((Int) × ((Int) × ((Int) × ((Int) × ((Int) × (Int)))))) × (((Int) × (Int)) × (Int)))) (a1 : List (((Int) × ((Int) × ((Int) × ((Int) × ((Int) × (Int)))))) × (((Int) × (Int)) × (Int)))) : Option ((((Bool) × (Unit)) × (Unit)) × (Unit)) := laws_eqObsS_t n (laws_eqObsS_l4 n) a0 a1

noncomputable def laws_eqTable_t (n : Nat) (a0 : (Int) × ((List (((Int) × ((Int) × ((Int) × ((Int) × ((Int) × (Int)))))) × (((Int) × (Int)) × (Int)))) × ((Bool) × ((Int) × (Int))))) (a1 : (Int) × ((List (((Int) × ((Int) × ((Int) × ((Int) × ((Int) × (Int)))))) × (((Int) × (Int)) × (Int)))) × ((Bool) × ((Int) × (Int))))) : Option ((((Bool) × (Unit)) × (Unit)) × (Unit)) :=
  cond ((a0.1 != a1.1))
  (some ((((false, ()), ()), ())))
  ((laws_eqObsS n a0.2.1 a1.2.1).bind fun r0 =>
    cond (!r0.1.1.1)
    (some ((((false, ()), ()), ())))
    (cond ((!(a0.2.2.1 == a1.2.2.1)))
      (some ((((false, ()), ()), ())))
      ((laws_eqFrac n ((a0.2.2.2.1, a0.2.2.2.2)) ((a1.2.2.2.1, a1.2.2.2.2))).bind fun r1 =>
        cond (!r1.1.1.1)
        (some ((((false, ()), ()), ())))
        (some ((((true, ()), ()), ()))))))

noncomputable def laws_eqTable (n : Nat) (a0 : (Int) × ((List (((Int) × ((Int) × ((Int) × ((Int) × ((Int) × (Int)))))) × (((Int) × (Int)) × (Int)))) × ((Bool) × ((Int) × (Int))))) (a1 : (Int) × ((List (((Int) × ((Int) × ((Int) × ((Int) × ((Int) × (Int)))))) × (((Int) × (Int)) × (Int)))) × ((Bool) × ((Int) × (Int))))) : Option ((((Bool) × (Unit)) × (Unit)) × (Unit)) := laws_eqTable_t n a0 a1

noncomputable def laws_heldObsS_t5 (n : Nat) (g2 : Int → Int → (List (((Int) × ((Int) × ((Int) × ((Int) × ((Int) × (Int)))))) × (((Int) × (Int)) × (Int)))) → Option ((((Int) × (Unit)) × (Unit)) × (Unit))) (g5 : Int → Int → Int → (List (((Int) × ((Int) × ((Int) × ((Int) × ((Int) × (Int)))))) × (((Int) × (Int)) × (Int)))) → Option ((((Int) × (Unit)) × (Unit)) × (Unit))) (v6 : Int) (v1 : Int) (v5 : Int) (v0 : List (((Int) × ((Int) × ((Int) × ((Int) × ((Int) × (Int)))))) × (((Int) × (Int)) × (Int)))) : Option ((((Int) × (Unit)) × (Unit)) × (Unit)) :=
  cond (decide (v6 < 6))
  (cond ((decide (0 ≤ v5) && decide (v5 < ((v0.length : Nat) : Int))))
    (cond ((decide (0 ≤ v6) && decide (v6 < 6)))
      (cond (((cond (Nat.beq (Int.toNat v6) 0) (v0.getD (Int.toNat v5) ((0, (0, (0, (0, (0, 0))))), ((0, 0), 0))).1.1 (cond (Nat.beq ((Int.toNat v6) - 1) 0) (v0.getD (Int.toNat v5) ((0, (0, (0, (0, (0, 0))))), ((0, 0), 0))).1.2.1 (cond (Nat.beq (((Int.toNat v6) - 1) - 1) 0) (v0.getD (Int.toNat v5) ((0, (0, (0, (0, (0, 0))))), ((0, 0), 0))).1.2.2.1 (cond (Nat.beq ((((Int.toNat v6) - 1) - 1) - 1) 0) (v0.getD (Int.toNat v5) ((0, (0, (0, (0, (0, 0))))), ((0, 0), 0))).1.2.2.2.1 (cond (Nat.beq (((((Int.toNat v6) - 1) - 1) - 1) - 1) 0) (v0.getD (Int.toNat v5) ((0, (0, (0, (0, (0, 0))))), ((0, 0), 0))).1.2.2.2.2.1 (cond (Nat.beq ((((((Int.toNat v6) - 1) - 1) - 1) - 1) - 1) 0) (v0.getD (Int.toNat v5) ((0, (0, (0, (0, (0, 0))))), ((0, 0), 0))).1.2.2.2.2.2 0)))))) != (IntKind.wrap .i8 v1)))
        (some (((((-1), ()), ()), ())))
        (g5 ((IntKind.wrap .i64 (v6 + 1))) ((IntKind.wrap .i64 (v1 + 1))) v5 v0))
      (none))
    (none))
  (cond ((decide (0 ≤ v5) && decide (v5 < ((v0.length : Nat) : Int))))
    (cond (((v0.getD (Int.toNat v5) ((0, (0, (0, (0, (0, 0))))), ((0, 0), 0))).2.1.1 != v1))
      (some (((((-1), ()), ()), ())))
      (cond ((decide (0 ≤ v5) && decide (v5 < ((v0.length : Nat) : Int))))
        (cond (((v0.getD (Int.toNat v5) ((0, (0, (0, (0, (0, 0))))), ((0, 0), 0))).2.1.2 != (IntKind.wrap .i64 (v1 + 1))))
          (some (((((-1), ()), ()), ())))
          (cond ((decide (0 ≤ v5) && decide (v5 < ((v0.length : Nat) : Int))))
            (cond (((v0.getD (Int.toNat v5) ((0, (0, (0, (0, (0, 0))))), ((0, 0), 0))).2.2 != (IntKind.wrap .i64 ((IntKind.wrap .i64 (v1 + 1)) + 1))))
              (some (((((-1), ()), ()), ())))
              (g2 ((IntKind.wrap .i64 ((IntKind.wrap .i64 ((IntKind.wrap .i64 (v1 + 1)) + 1)) + 1))) ((IntKind.wrap .i64 (v5 + 1))) v0))
            (none)))
        (none)))
    (none))

noncomputable def laws_heldObsS_l5 (n : Nat) (g2 : Int → Int → (List (((Int) × ((Int) × ((Int) × ((Int) × ((Int) × (Int)))))) × (((Int) × (Int)) × (Int)))) → Option ((((Int) × (Unit)) × (Unit)) × (Unit))) : Nat → Int → Int → Int → (List (((Int) × ((Int) × ((Int) × ((Int) × ((Int) × (Int)))))) × (((Int) × (Int)) × (Int)))) → Option ((((Int) × (Unit)) × (Unit)) × (Unit))
  | 0, _, _, _, _ => none
  | k + 1, v6, v1, v5, v0 => laws_heldObsS_t5 n g2 (laws_heldObsS_l5 n g2 k) v6 v1 v5 v0

noncomputable def laws_heldObsS_t2 (n : Nat) (h5 : Nat → Int → Int → Int → (List (((Int) × ((Int) × ((Int) × ((Int) × ((Int) × (Int)))))) × (((Int) × (Int)) × (Int)))) → Option ((((Int) × (Unit)) × (Unit)) × (Unit))) (g2 : Int → Int → (List (((Int) × ((Int) × ((Int) × ((Int) × ((Int) × (Int)))))) × (((Int) × (Int)) × (Int)))) → Option ((((Int) × (Unit)) × (Unit)) × (Unit))) (v1 : Int) (v5 : Int) (v0 : List (((Int) × ((Int) × ((Int) × ((Int) × ((Int) × (Int)))))) × (((Int) × (Int)) × (Int)))) : Option ((((Int) × (Unit)) × (Unit)) × (Unit)) :=
  cond (decide (v5 < ((v0.length : Nat) : Int)))
  (h5 n 0 v1 v5 v0)
  (some ((((v1, ()), ()), ())))

noncomputable def laws_heldObsS_l2 (n : Nat) : Nat → Int → Int → (List (((Int) × ((Int) × ((Int) × ((Int) × ((Int) × (Int)))))) × (((Int) × (Int)) × (Int)))) → Option ((((Int) × (Unit)) × (Unit)) × (Unit))
  | 0, _, _, _ => none
  | k + 1, v1, v5, v0 => laws_heldObsS_t2 n (laws_heldObsS_l5 n (laws_heldObsS_l2 n k)) (laws_heldObsS_l2 n k) v1 v5 v0

noncomputable def laws_heldObsS_t (n : Nat) (h2 : Nat → Int → Int → (List (((Int) × ((Int) × ((Int) × ((Int) × ((Int) × (Int)))))) × (((Int) × (Int)) × (Int)))) → Option ((((Int) × (Unit)) × (Unit)) × (Unit))) (a0 : List (((Int) × ((Int) × ((Int) × ((Int) × ((Int) × (Int)))))) × (((Int) × (Int)) × (Int)))) (a1 : Int) : Option ((((Int) × (Unit)) × (Unit)) × (Unit)) :=
  h2 n a1 0 a0

noncomputable def laws_heldObsS (n : Nat) (a0 : List (((Int) × ((Int) × ((Int) × ((Int) × ((Int) × (Int)))))) × (((Int) × (Int)) × (Int)))) (a1 : Int) : Option ((((Int) × (Unit)) × (Unit)) × (Unit)) := laws_heldObsS_t n (laws_heldObsS_l2 n) a0 a1

noncomputable def laws_heldTable_t (n : Nat) (a0 : (Int) × ((List (((Int) × ((Int) × ((Int) × ((Int) × ((Int) × (Int)))))) × (((Int) × (Int)) × (Int)))) × ((Bool) × ((Int) × (Int))))) (a1 : Int) : Option ((((Int) × (Unit)) × (Unit)) × (Unit)) :=
  (laws_heldObsS n a0.2.1 a1).bind fun r0 =>
  cond (decide (r0.1.1.1 < 0))
  (some (((((-1), ()), ()), ())))
  (some ((((r0.1.1.1, ()), ()), ())))

noncomputable def laws_heldTable (n : Nat) (a0 : (Int) × ((List (((Int) × ((Int) × ((Int) × ((Int) × ((Int) × (Int)))))) × (((Int) × (Int)) × (Int)))) × ((Bool) × ((Int) × (Int))))) (a1 : Int) : Option ((((Int) × (Unit)) × (Unit)) × (Unit)) := laws_heldTable_t n a0 a1

noncomputable def laws_markObsS_t5 (n : Nat) (g2 : Int → Int → (List (((Int) × ((Int) × ((Int) × ((Int) × ((Int) × (Int)))))) × (((Int) × (Int)) × (Int)))) → Option ((((Int) × (Unit)) × (Unit)) × ((List (((Int) × ((Int) × ((Int) × ((Int) × ((Int) × (Int)))))) × (((Int) × (Int)) × (Int)))) × (Unit)))) (g5 : Int → Int → Int → (List (((Int) × ((Int) × ((Int) × ((Int) × ((Int) × (Int)))))) × (((Int) × (Int)) × (Int)))) → Option ((((Int) × (Unit)) × (Unit)) × ((List (((Int) × ((Int) × ((Int) × ((Int) × ((Int) × (Int)))))) × (((Int) × (Int)) × (Int)))) × (Unit)))) (v6 : Int) (v1 : Int) (v5 : Int) (b0 : List (((Int) × ((Int) × ((Int) × ((Int) × ((Int) × (Int)))))) × (((Int) × (Int)) × (Int)))) : Option ((((Int) × (Unit)) × (Unit)) × ((List (((Int) × ((Int) × ((Int) × ((Int) × ((Int) × (Int)))))) × (((Int) × (Int)) × (Int)))) × (Unit))) :=
  cond (decide (v6 < 6))
  (cond ((decide (0 ≤ v5) && decide (v5 < ((b0.length : Nat) : Int))))
    (cond ((decide (0 ≤ v6) && decide (v6 < 6)))
      (letIn ((b0.set (Int.toNat v5) (((cond (Nat.beq (Int.toNat v6) 0) (IntKind.wrap .i8 v1) (b0.getD (Int.toNat v5) ((0, (0, (0, (0, (0, 0))))), ((0, 0), 0))).1.1), ((cond (Nat.beq (Int.toNat v6) 1) (IntKind.wrap .i8 v1) (b0.getD (Int.toNat v5) ((0, (0, (0, (0, (0, 0))))), ((0, 0), 0))).1.2.1), ((cond (Nat.beq (Int.toNat v6) 2) (IntKind.wrap .i8 v1) (b0.getD (Int.toNat v5) ((0, (0, (0, (0, (0, 0))))), ((0, 0), 0))).1.2.2.1), ((cond (Nat.beq (Int.toNat v6) 3) (IntKind.wrap .i8 v1) (b0.getD (Int.toNat v5) ((0, (0, (0, (0, (0, 0))))), ((0, 0), 0))).1.2.2.2.1), ((cond (Nat.beq (Int.toNat v6) 4) (IntKind.wrap .i8 v1) (b0.getD (Int.toNat v5) ((0, (0, (0, (0, (0, 0))))), ((0, 0), 0))).1.2.2.2.2.1), (cond (Nat.beq (Int.toNat v6) 5) (IntKind.wrap .i8 v1) (b0.getD (Int.toNat v5) ((0, (0, (0, (0, (0, 0))))), ((0, 0), 0))).1.2.2.2.2.2)))))), (((b0.getD (Int.toNat v5) ((0, (0, (0, (0, (0, 0))))), ((0, 0), 0))).2.1.1, (b0.getD (Int.toNat v5) ((0, (0, (0, (0, (0, 0))))), ((0, 0), 0))).2.1.2), (b0.getD (Int.toNat v5) ((0, (0, (0, (0, (0, 0))))), ((0, 0), 0))).2.2)))) fun r0 =>
        g5 ((IntKind.wrap .i64 (v6 + 1))) ((IntKind.wrap .i64 (v1 + 1))) v5 r0)
      (none))
    (none))
  (cond ((decide (0 ≤ v5) && decide (v5 < ((b0.length : Nat) : Int))))
    (letIn ((b0.set (Int.toNat v5) (((b0.getD (Int.toNat v5) ((0, (0, (0, (0, (0, 0))))), ((0, 0), 0))).1.1, ((b0.getD (Int.toNat v5) ((0, (0, (0, (0, (0, 0))))), ((0, 0), 0))).1.2.1, ((b0.getD (Int.toNat v5) ((0, (0, (0, (0, (0, 0))))), ((0, 0), 0))).1.2.2.1, ((b0.getD (Int.toNat v5) ((0, (0, (0, (0, (0, 0))))), ((0, 0), 0))).1.2.2.2.1, ((b0.getD (Int.toNat v5) ((0, (0, (0, (0, (0, 0))))), ((0, 0), 0))).1.2.2.2.2.1, (b0.getD (Int.toNat v5) ((0, (0, (0, (0, (0, 0))))), ((0, 0), 0))).1.2.2.2.2.2))))), ((v1, (b0.getD (Int.toNat v5) ((0, (0, (0, (0, (0, 0))))), ((0, 0), 0))).2.1.2), (b0.getD (Int.toNat v5) ((0, (0, (0, (0, (0, 0))))), ((0, 0), 0))).2.2)))) fun r1 =>
      cond ((decide (0 ≤ v5) && decide (v5 < ((r1.length : Nat) : Int))))
      (letIn ((r1.set (Int.toNat v5) (((r1.getD (Int.toNat v5) ((0, (0, (0, (0, (0, 0))))), ((0, 0), 0))).1.1, ((r1.getD (Int.toNat v5) ((0, (0, (0, (0, (0, 0))))), ((0, 0), 0))).1.2.1, ((r1.getD (Int.toNat v5) ((0, (0, (0, (0, (0, 0))))), ((0, 0), 0))).1.2.2.1, ((r1.getD (Int.toNat v5) ((0, (0, (0, (0, (0, 0))))), ((0, 0), 0))).1.2.2.2.1, ((r1.getD (Int.toNat v5) ((0, (0, (0, (0, (0, 0))))), ((0, 0), 0))).1.2.2.2.2.1, (r1.getD (Int.toNat v5) ((0, (0, (0, (0, (0, 0))))), ((0, 0), 0))).1.2.2.2.2.2))))), (((r1.getD (Int.toNat v5) ((0, (0, (0, (0, (0, 0))))), ((0, 0), 0))).2.1.1, (IntKind.wrap .i64 (v1 + 1))), (r1.getD (Int.toNat v5) ((0, (0, (0, (0, (0, 0))))), ((0, 0), 0))).2.2)))) fun r2 =>
        cond ((decide (0 ≤ v5) && decide (v5 < ((r2.length : Nat) : Int))))
        (letIn ((r2.set (Int.toNat v5) (((r2.getD (Int.toNat v5) ((0, (0, (0, (0, (0, 0))))), ((0, 0), 0))).1.1, ((r2.getD (Int.toNat v5) ((0, (0, (0, (0, (0, 0))))), ((0, 0), 0))).1.2.1, ((r2.getD (Int.toNat v5) ((0, (0, (0, (0, (0, 0))))), ((0, 0), 0))).1.2.2.1, ((r2.getD (Int.toNat v5) ((0, (0, (0, (0, (0, 0))))), ((0, 0), 0))).1.2.2.2.1, ((r2.getD (Int.toNat v5) ((0, (0, (0, (0, (0, 0))))), ((0, 0), 0))).1.2.2.2.2.1, (r2.getD (Int.toNat v5) ((0, (0, (0, (0, (0, 0))))), ((0, 0), 0))).1.2.2.2.2.2))))), (((r2.getD (Int.toNat v5) ((0, (0, (0, (0, (0, 0))))), ((0, 0), 0))).2.1.1, (r2.getD (Int.toNat v5) ((0, (0, (0, (0, (0, 0))))), ((0, 0), 0))).2.1.2), (IntKind.wrap .i64 ((IntKind.wrap .i64 (v1 + 1)) + 1)))))) fun r3 =>
          g2 ((IntKind.wrap .i64 ((IntKind.wrap .i64 ((IntKind.wrap .i64 (v1 + 1)) + 1)) + 1))) ((IntKind.wrap .i64 (v5 + 1))) r3)
        (none))
      (none))
    (none))

noncomputable def laws_markObsS_l5 (n : Nat) (g2 : Int → Int → (List (((Int) × ((Int) × ((Int) × ((Int) × ((Int) × (Int)))))) × (((Int) × (Int)) × (Int)))) → Option ((((Int) × (Unit)) × (Unit)) × ((List (((Int) × ((Int) × ((Int) × ((Int) × ((Int) × (Int)))))) × (((Int) × (Int)) × (Int)))) × (Unit)))) : Nat → Int → Int → Int → (List (((Int) × ((Int) × ((Int) × ((Int) × ((Int) × (Int)))))) × (((Int) × (Int)) × (Int)))) → Option ((((Int) × (Unit)) × (Unit)) × ((List (((Int) × ((Int) × ((Int) × ((Int) × ((Int) × (Int)))))) × (((Int) × (Int)) × (Int)))) × (Unit)))
  | 0, _, _, _, _ => none
  | k + 1, v6, v1, v5, b0 => laws_markObsS_t5 n g2 (laws_markObsS_l5 n g2 k) v6 v1 v5 b0

noncomputable def laws_markObsS_t2 (n : Nat) (h5 : Nat → Int → Int → Int → (List (((Int) × ((Int) × ((Int) × ((Int) × ((Int) × (Int)))))) × (((Int) × (Int)) × (Int)))) → Option ((((Int) × (Unit)) × (Unit)) × ((List (((Int) × ((Int) × ((Int) × ((Int) × ((Int) × (Int)))))) × (((Int) × (Int)) × (Int)))) × (Unit)))) (g2 : Int → Int → (List (((Int) × ((Int) × ((Int) × ((Int) × ((Int) × (Int)))))) × (((Int) × (Int)) × (Int)))) → Option ((((Int) × (Unit)) × (Unit)) × ((List (((Int) × ((Int) × ((Int) × ((Int) × ((Int) × (Int)))))) × (((Int) × (Int)) × (Int)))) × (Unit)))) (v1 : Int) (v5 : Int) (b0 : List (((Int) × ((Int) × ((Int) × ((Int) × ((Int) × (Int)))))) × (((Int) × (Int)) × (Int)))) : Option ((((Int) × (Unit)) × (Unit)) × ((List (((Int) × ((Int) × ((Int) × ((Int) × ((Int) × (Int)))))) × (((Int) × (Int)) × (Int)))) × (Unit))) :=
  cond (decide (v5 < ((b0.length : Nat) : Int)))
  (h5 n 0 v1 v5 b0)
  (some ((((v1, ()), ()), (b0, ()))))

noncomputable def laws_markObsS_l2 (n : Nat) : Nat → Int → Int → (List (((Int) × ((Int) × ((Int) × ((Int) × ((Int) × (Int)))))) × (((Int) × (Int)) × (Int)))) → Option ((((Int) × (Unit)) × (Unit)) × ((List (((Int) × ((Int) × ((Int) × ((Int) × ((Int) × (Int)))))) × (((Int) × (Int)) × (Int)))) × (Unit)))
  | 0, _, _, _ => none
  | k + 1, v1, v5, b0 => laws_markObsS_t2 n (laws_markObsS_l5 n (laws_markObsS_l2 n k)) (laws_markObsS_l2 n k) v1 v5 b0

noncomputable def laws_markObsS_t (n : Nat) (h2 : Nat → Int → Int → (List (((Int) × ((Int) × ((Int) × ((Int) × ((Int) × (Int)))))) × (((Int) × (Int)) × (Int)))) → Option ((((Int) × (Unit)) × (Unit)) × ((List (((Int) × ((Int) × ((Int) × ((Int) × ((Int) × (Int)))))) × (((Int) × (Int)) × (Int)))) × (Unit)))) (a1 : Int) (b0 : List (((Int) × ((Int) × ((Int) × ((Int) × ((Int) × (Int)))))) × (((Int) × (Int)) × (Int)))) : Option ((((Int) × (Unit)) × (Unit)) × ((List (((Int) × ((Int) × ((Int) × ((Int) × ((Int) × (Int)))))) × (((Int) × (Int)) × (Int)))) × (Unit))) :=
  h2 n a1 0 b0

noncomputable def laws_markObsS (n : Nat) (a1 : Int) (b0 : List (((Int) × ((Int) × ((Int) × ((Int) × ((Int) × (Int)))))) × (((Int) × (Int)) × (Int)))) : Option ((((Int) × (Unit)) × (Unit)) × ((List (((Int) × ((Int) × ((Int) × ((Int) × ((Int) × (Int)))))) × (((Int) × (Int)) × (Int)))) × (Unit))) := laws_markObsS_t n (laws_markObsS_l2 n) a1 b0

noncomputable def laws_markTable_t (n : Nat) (a0 : (Int) × (((Bool) × ((Int) × (Int))) × (Unit))) (a1 : Int) (b0 : List (((Int) × ((Int) × ((Int) × ((Int) × ((Int) × (Int)))))) × (((Int) × (Int)) × (Int)))) : Option ((((Int) × (Unit)) × (Unit)) × ((List (((Int) × ((Int) × ((Int) × ((Int) × ((Int) × (Int)))))) × (((Int) × (Int)) × (Int)))) × (Unit))) :=
  (laws_markObsS n a1 b0).bind fun r0 =>
  some ((((r0.1.1.1, ()), ()), (r0.2.1, ())))

noncomputable def laws_markTable (n : Nat) (a0 : (Int) × (((Bool) × ((Int) × (Int))) × (Unit))) (a1 : Int) (b0 : List (((Int) × ((Int) × ((Int) × ((Int) × ((Int) × (Int)))))) × (((Int) × (Int)) × (Int)))) : Option ((((Int) × (Unit)) × (Unit)) × ((List (((Int) × ((Int) × ((Int) × ((Int) × ((Int) × (Int)))))) × (((Int) × (Int)) × (Int)))) × (Unit))) := laws_markTable_t n a0 a1 b0

noncomputable def spec_l00In_t (n : Nat) (a0 : Int) (a1 : Int) (a2 : Int) : Option ((((Bool) × (Unit)) × (Unit)) × (Unit)) :=
  cond (decide (a0 ≥ a1))
  (some ((((decide (a0 ≤ a2), ()), ()), ())))
  (some ((((false, ()), ()), ())))

noncomputable def spec_l00In (n : Nat) (a0 : Int) (a1 : Int) (a2 : Int) : Option ((((Bool) × (Unit)) × (Unit)) × (Unit)) := spec_l00In_t n a0 a1 a2

noncomputable def spec_l01Number_t5 (n : Nat) (g5 : Int → ByteArray → Int → Option ((((Int) × (Unit)) × (((Bool) × (Unit)) × (Unit))) × (Unit))) (v5 : Int) (v0 : ByteArray) (v4 : Int) : Option ((((Int) × (Unit)) × (((Bool) × (Unit)) × (Unit))) × (Unit)) :=
  cond (decide (v5 < (((ByteArray.size v0) : Nat) : Int)))
  (cond ((decide (0 ≤ v5) && decide (v5 < (((ByteArray.size v0) : Nat) : Int))))
    (cond (decide ((byteAt v0 v5) < 48))
      (some ((((0, ()), ((false, ()), ())), ())))
      (cond ((decide (0 ≤ v5) && decide (v5 < (((ByteArray.size v0) : Nat) : Int))))
        (cond (decide ((byteAt v0 v5) > 57))
          (some ((((0, ()), ((false, ()), ())), ())))
          (cond ((decide (0 ≤ v5) && decide (v5 < (((ByteArray.size v0) : Nat) : Int))))
            (g5 ((IntKind.wrap .i64 (v5 + 1))) v0 ((IntKind.wrap .i64 ((IntKind.wrap .i64 (10 * v4)) + (IntKind.wrap .i64 (IntKind.wrap .u8 ((byteAt v0 v5) - 48)))))))
            (none)))
        (none)))
    (none))
  (some ((((v4, ()), ((true, ()), ())), ())))

noncomputable def spec_l01Number_l5 (n : Nat) : Nat → Int → ByteArray → Int → Option ((((Int) × (Unit)) × (((Bool) × (Unit)) × (Unit))) × (Unit))
  | 0, _, _, _ => none
  | k + 1, v5, v0, v4 => spec_l01Number_t5 n (spec_l01Number_l5 n k) v5 v0 v4

noncomputable def spec_l01Number_t (n : Nat) (h5 : Nat → Int → ByteArray → Int → Option ((((Int) × (Unit)) × (((Bool) × (Unit)) × (Unit))) × (Unit))) (a0 : ByteArray) : Option ((((Int) × (Unit)) × (((Bool) × (Unit)) × (Unit))) × (Unit)) :=
  cond ((eqStr a0 (ByteArray.mk #[])))
  (some ((((0, ()), ((false, ()), ())), ())))
  (cond (decide ((((ByteArray.size a0) : Nat) : Int) > 10))
    (some ((((0, ()), ((false, ()), ())), ())))
    (cond (decide (0 < (((ByteArray.size a0) : Nat) : Int)))
      (cond (((byteAt a0 0) == 48))
        (cond (decide ((((ByteArray.size a0) : Nat) : Int) > 1))
          (some ((((0, ()), ((false, ()), ())), ())))
          (h5 n 0 a0 0))
        (h5 n 0 a0 0))
      (none)))

noncomputable def spec_l01Number (n : Nat) (a0 : ByteArray) : Option ((((Int) × (Unit)) × (((Bool) × (Unit)) × (Unit))) × (Unit)) := spec_l01Number_t n (spec_l01Number_l5 n) a0

noncomputable def spec_l01Abs_t (n : Nat) (a0 : Int) : Option ((((Int) × (Unit)) × (Unit)) × (Unit)) :=
  cond (decide (a0 < 0))
  (some (((((IntKind.wrap .i64 (0 - a0)), ()), ()), ())))
  (some ((((a0, ()), ()), ())))

noncomputable def spec_l01Abs (n : Nat) (a0 : Int) : Option ((((Int) × (Unit)) × (Unit)) × (Unit)) := spec_l01Abs_t n a0

noncomputable def spec_l01Gcd_t1 (n : Nat) (g1 : Int → Int → Option ((((Int) × (Unit)) × (Unit)) × (Unit))) (v1 : Int) (v0 : Int) : Option ((((Int) × (Unit)) × (Unit)) × (Unit)) :=
  cond ((v1 != 0))
  (cond ((v1 != 0))
    (g1 ((Int.tmod v0 v1)) v1)
    (none))
  (some ((((v0, ()), ()), ())))

noncomputable def spec_l01Gcd_l1 (n : Nat) : Nat → Int → Int → Option ((((Int) × (Unit)) × (Unit)) × (Unit))
  | 0, _, _ => none
  | k + 1, v1, v0 => spec_l01Gcd_t1 n (spec_l01Gcd_l1 n k) v1 v0

noncomputable def spec_l01Gcd_t (n : Nat) (h1 : Nat → Int → Int → Option ((((Int) × (Unit)) × (Unit)) × (Unit))) (a0 : Int) (a1 : Int) : Option ((((Int) × (Unit)) × (Unit)) × (Unit)) :=
  h1 n a1 a0

noncomputable def spec_l01Gcd (n : Nat) (a0 : Int) (a1 : Int) : Option ((((Int) × (Unit)) × (Unit)) × (Unit)) := spec_l01Gcd_t n (spec_l01Gcd_l1 n) a0 a1

noncomputable def spec_l01Ok_t (n : Nat) (a0 : (Int) × (Int)) : Option ((((Bool) × (Unit)) × (Unit)) × (Unit)) :=
  (spec_l00In n a0.2 1 1000000000).bind fun r0 =>
  cond r0.1.1.1
  ((spec_l00In n a0.1 (-1000000000) 1000000000).bind fun r1 =>
    cond r1.1.1.1
    ((spec_l01Abs n a0.1).bind fun r2 =>
      (spec_l01Gcd n r2.1.1.1 a0.2).bind fun r3 =>
      some (((((r3.1.1.1 == 1), ()), ()), ())))
    (some ((((false, ()), ()), ()))))
  (some ((((false, ()), ()), ())))

noncomputable def spec_l01Ok (n : Nat) (a0 : (Int) × (Int)) : Option ((((Bool) × (Unit)) × (Unit)) × (Unit)) := spec_l01Ok_t n a0

noncomputable def spec_l01Signed_t (n : Nat) (a0 : ByteArray) : Option ((((Int) × (Unit)) × (((Bool) × (Unit)) × (Unit))) × (Unit)) :=
  cond ((!(eqStr a0 (ByteArray.mk #[]))))
  (cond (decide (0 < (((ByteArray.size a0) : Nat) : Int)))
    (cond (((byteAt a0 0) == 45))
      (cond ((decide (1 ≤ (((ByteArray.size a0) : Nat) : Int)) && decide ((((ByteArray.size a0) : Nat) : Int) ≤ (((ByteArray.size a0) : Nat) : Int))))
        ((spec_l01Number n ((ByteArray.extract a0 (Int.toNat 1) (Int.toNat (((ByteArray.size a0) : Nat) : Int))))).bind fun r0 =>
          cond r0.1.2.1.1
          (some (((((IntKind.wrap .i64 (0 - r0.1.1.1)), ()), ((decide (r0.1.1.1 > 0), ()), ())), ())))
          (some (((((IntKind.wrap .i64 (0 - r0.1.1.1)), ()), ((false, ()), ())), ()))))
        (none))
      ((spec_l01Number n a0).bind fun r1 =>
        some ((((r1.1.1.1, ()), ((r1.1.2.1.1, ()), ())), ()))))
    (none))
  ((spec_l01Number n a0).bind fun r2 =>
    some ((((r2.1.1.1, ()), ((r2.1.2.1.1, ()), ())), ())))

noncomputable def spec_l01Signed (n : Nat) (a0 : ByteArray) : Option ((((Int) × (Unit)) × (((Bool) × (Unit)) × (Unit))) × (Unit)) := spec_l01Signed_t n a0

noncomputable def spec_l01Split_t4 (n : Nat) (g4 : Int → Int → ByteArray → Int → (List (ByteArray)) → Option ((((List (ByteArray)) × (Unit)) × (Unit)) × (Unit))) (v7 : Int) (v6 : Int) (v0 : ByteArray) (v1 : Int) (b0 : List (ByteArray)) : Option ((((List (ByteArray)) × (Unit)) × (Unit)) × (Unit)) :=
  cond (decide (v7 < (((ByteArray.size v0) : Nat) : Int)))
  (cond ((decide (0 ≤ v7) && decide (v7 < (((ByteArray.size v0) : Nat) : Int))))
    (cond (((byteAt v0 v7) == v1))
      (cond (((decide (0 ≤ v6) && decide (v6 ≤ v7)) && decide (v7 ≤ (((ByteArray.size v0) : Nat) : Int))))
        (cond (decide (((b0.length + ((ByteArray.extract v0 (Int.toNat v6) (Int.toNat v7)) :: []).length) * 17) ≤ 70368744177664))
          (g4 ((IntKind.wrap .i64 (v7 + 1))) ((IntKind.wrap .i64 (v7 + 1))) v0 v1 ((b0 ++ ((ByteArray.extract v0 (Int.toNat v6) (Int.toNat v7)) :: []))))
          (none))
        (none))
      (g4 ((IntKind.wrap .i64 (v7 + 1))) v6 v0 v1 b0))
    (none))
  (cond (((decide (0 ≤ v6) && decide (v6 ≤ (((ByteArray.size v0) : Nat) : Int))) && decide ((((ByteArray.size v0) : Nat) : Int) ≤ (((ByteArray.size v0) : Nat) : Int))))
    (cond (decide (((b0.length + ((ByteArray.extract v0 (Int.toNat v6) (Int.toNat (((ByteArray.size v0) : Nat) : Int))) :: []).length) * 17) ≤ 70368744177664))
      (some (((((b0 ++ ((ByteArray.extract v0 (Int.toNat v6) (Int.toNat (((ByteArray.size v0) : Nat) : Int))) :: [])), ()), ()), ())))
      (none))
    (none))

noncomputable def spec_l01Split_l4 (n : Nat) : Nat → Int → Int → ByteArray → Int → (List (ByteArray)) → Option ((((List (ByteArray)) × (Unit)) × (Unit)) × (Unit))
  | 0, _, _, _, _, _ => none
  | k + 1, v7, v6, v0, v1, b0 => spec_l01Split_t4 n (spec_l01Split_l4 n k) v7 v6 v0 v1 b0

noncomputable def spec_l01Split_t (n : Nat) (h4 : Nat → Int → Int → ByteArray → Int → (List (ByteArray)) → Option ((((List (ByteArray)) × (Unit)) × (Unit)) × (Unit))) (a0 : ByteArray) (a1 : Int) : Option ((((List (ByteArray)) × (Unit)) × (Unit)) × (Unit)) :=
  h4 n 0 0 a0 a1 []

noncomputable def spec_l01Split (n : Nat) (a0 : ByteArray) (a1 : Int) : Option ((((List (ByteArray)) × (Unit)) × (Unit)) × (Unit)) := spec_l01Split_t n (spec_l01Split_l4 n) a0 a1

noncomputable def spec_l01Whole_t (n : Nat) (a0 : Int) : Option (((((Int) × (Int)) × (Unit)) × (Unit)) × (Unit)) :=
  some (((((a0, 1), ()), ()), ()))

noncomputable def spec_l01Whole (n : Nat) (a0 : Int) : Option (((((Int) × (Int)) × (Unit)) × (Unit)) × (Unit)) := spec_l01Whole_t n a0

noncomputable def spec_l01Read_t (n : Nat) (a0 : ByteArray) : Option (((((Int) × (Int)) × (Unit)) × (((Bool) × (Unit)) × (Unit))) × (Unit)) :=
  (spec_l01Split n a0 47).bind fun r0 =>
  cond (decide (((r0.1.1.1.length : Nat) : Int) > 2))
  (some (((((0, 0), ()), ((false, ()), ())), ())))
  (cond (decide (0 < ((r0.1.1.1.length : Nat) : Int)))
    ((spec_l01Signed n ((r0.1.1.1.getD (Int.toNat 0) (ByteArray.mk #[])))).bind fun r1 =>
      (spec_l01Whole n r1.1.1.1).bind fun r2 =>
      cond ((((r0.1.1.1.length : Nat) : Int) == 2))
      (cond (decide (1 < ((r0.1.1.1.length : Nat) : Int)))
        ((spec_l01Number n ((r0.1.1.1.getD (Int.toNat 1) (ByteArray.mk #[])))).bind fun r3 =>
          cond r1.1.2.1.1
          (cond r3.1.2.1.1
            (cond ((r3.1.1.1 != 1))
              ((spec_l01Ok n ((r2.1.1.1.1, r3.1.1.1))).bind fun r4 =>
                some (((((r2.1.1.1.1, r3.1.1.1), ()), ((r4.1.1.1, ()), ())), ())))
              (some (((((r2.1.1.1.1, r3.1.1.1), ()), ((false, ()), ())), ()))))
            (some (((((r2.1.1.1.1, r3.1.1.1), ()), ((false, ()), ())), ()))))
          (some (((((r2.1.1.1.1, r3.1.1.1), ()), ((false, ()), ())), ()))))
        (none))
      (cond r1.1.2.1.1
        ((spec_l01Ok n ((r2.1.1.1.1, r2.1.1.1.2))).bind fun r5 =>
          some (((((r2.1.1.1.1, r2.1.1.1.2), ()), ((r5.1.1.1, ()), ())), ())))
        (some (((((r2.1.1.1.1, r2.1.1.1.2), ()), ((false, ()), ())), ())))))
    (none))

noncomputable def spec_l01Read (n : Nat) (a0 : ByteArray) : Option (((((Int) × (Int)) × (Unit)) × (((Bool) × (Unit)) × (Unit))) × (Unit)) := spec_l01Read_t n a0

noncomputable def spec_l04Obs_e_t3 (n : Nat) (g3 : Int → Bool → Int → ((Int) × ((Int) × ((Int) × ((Int) × ((Int) × (Int)))))) × (((Int) × (Int)) × (Int)) → Option ((((Bool) × (Unit)) × (Unit)) × (Unit))) (v6 : Int) (v5 : Bool) (v1 : Int) (v0 : ((Int) × ((Int) × ((Int) × ((Int) × ((Int) × (Int)))))) × (((Int) × (Int)) × (Int))) : Option ((((Bool) × (Unit)) × (Unit)) × (Unit)) :=
  cond (decide (v6 < 6))
  (cond ((decide (0 ≤ v6) && decide (v6 < 6)))
    (cond (decide ((cond (Nat.beq (Int.toNat v6) 0) v0.1.1 (cond (Nat.beq ((Int.toNat v6) - 1) 0) v0.1.2.1 (cond (Nat.beq (((Int.toNat v6) - 1) - 1) 0) v0.1.2.2.1 (cond (Nat.beq ((((Int.toNat v6) - 1) - 1) - 1) 0) v0.1.2.2.2.1 (cond (Nat.beq (((((Int.toNat v6) - 1) - 1) - 1) - 1) 0) v0.1.2.2.2.2.1 (cond (Nat.beq ((((((Int.toNat v6) - 1) - 1) - 1) - 1) - 1) 0) v0.1.2.2.2.2.2 0)))))) < (-3)))
      (some ((((false, ()), ()), ())))
      (cond (decide ((cond (Nat.beq (Int.toNat v6) 0) v0.1.1 (cond (Nat.beq ((Int.toNat v6) - 1) 0) v0.1.2.1 (cond (Nat.beq (((Int.toNat v6) - 1) - 1) 0) v0.1.2.2.1 (cond (Nat.beq ((((Int.toNat v6) - 1) - 1) - 1) 0) v0.1.2.2.2.1 (cond (Nat.beq (((((Int.toNat v6) - 1) - 1) - 1) - 1) 0) v0.1.2.2.2.2.1 (cond (Nat.beq ((((((Int.toNat v6) - 1) - 1) - 1) - 1) - 1) 0) v0.1.2.2.2.2.2 0)))))) > 3))
        (some ((((false, ()), ()), ())))
        (cond (decide (v6 ≥ v1))
          (cond (((cond (Nat.beq (Int.toNat v6) 0) v0.1.1 (cond (Nat.beq ((Int.toNat v6) - 1) 0) v0.1.2.1 (cond (Nat.beq (((Int.toNat v6) - 1) - 1) 0) v0.1.2.2.1 (cond (Nat.beq ((((Int.toNat v6) - 1) - 1) - 1) 0) v0.1.2.2.2.1 (cond (Nat.beq (((((Int.toNat v6) - 1) - 1) - 1) - 1) 0) v0.1.2.2.2.2.1 (cond (Nat.beq ((((((Int.toNat v6) - 1) - 1) - 1) - 1) - 1) 0) v0.1.2.2.2.2.2 0)))))) != 0))
            (some ((((false, ()), ()), ())))
            (cond v5
              (g3 ((IntKind.wrap .i64 (v6 + 1))) true v1 v0)
              (g3 ((IntKind.wrap .i64 (v6 + 1))) (((cond (Nat.beq (Int.toNat v6) 0) v0.1.1 (cond (Nat.beq ((Int.toNat v6) - 1) 0) v0.1.2.1 (cond (Nat.beq (((Int.toNat v6) - 1) - 1) 0) v0.1.2.2.1 (cond (Nat.beq ((((Int.toNat v6) - 1) - 1) - 1) 0) v0.1.2.2.2.1 (cond (Nat.beq (((((Int.toNat v6) - 1) - 1) - 1) - 1) 0) v0.1.2.2.2.2.1 (cond (Nat.beq ((((((Int.toNat v6) - 1) - 1) - 1) - 1) - 1) 0) v0.1.2.2.2.2.2 0)))))) != 0)) v1 v0)))
          (cond v5
            (g3 ((IntKind.wrap .i64 (v6 + 1))) true v1 v0)
            (g3 ((IntKind.wrap .i64 (v6 + 1))) (((cond (Nat.beq (Int.toNat v6) 0) v0.1.1 (cond (Nat.beq ((Int.toNat v6) - 1) 0) v0.1.2.1 (cond (Nat.beq (((Int.toNat v6) - 1) - 1) 0) v0.1.2.2.1 (cond (Nat.beq ((((Int.toNat v6) - 1) - 1) - 1) 0) v0.1.2.2.2.1 (cond (Nat.beq (((((Int.toNat v6) - 1) - 1) - 1) - 1) 0) v0.1.2.2.2.2.1 (cond (Nat.beq ((((((Int.toNat v6) - 1) - 1) - 1) - 1) - 1) 0) v0.1.2.2.2.2.2 0)))))) != 0)) v1 v0)))))
    (none))
  (cond v5
    ((spec_l01Ok n ((v0.2.1.1, v0.2.1.2))).bind fun r0 =>
      cond r0.1.1.1
      ((spec_l00In n v0.2.2 1 100).bind fun r1 =>
        some ((((r1.1.1.1, ()), ()), ())))
      (some ((((false, ()), ()), ()))))
    (some ((((false, ()), ()), ()))))

noncomputable def spec_l04Obs_e_l3 (n : Nat) : Nat → Int → Bool → Int → ((Int) × ((Int) × ((Int) × ((Int) × ((Int) × (Int)))))) × (((Int) × (Int)) × (Int)) → Option ((((Bool) × (Unit)) × (Unit)) × (Unit))
  | 0, _, _, _, _ => none
  | k + 1, v6, v5, v1, v0 => spec_l04Obs_e_t3 n (spec_l04Obs_e_l3 n k) v6 v5 v1 v0

noncomputable def spec_l04Obs_e_t (n : Nat) (h3 : Nat → Int → Bool → Int → ((Int) × ((Int) × ((Int) × ((Int) × ((Int) × (Int)))))) × (((Int) × (Int)) × (Int)) → Option ((((Bool) × (Unit)) × (Unit)) × (Unit))) (a0 : ((Int) × ((Int) × ((Int) × ((Int) × ((Int) × (Int)))))) × (((Int) × (Int)) × (Int))) (a1 : Int) : Option ((((Bool) × (Unit)) × (Unit)) × (Unit)) :=
  h3 n 0 false a1 a0

noncomputable def spec_l04Obs_e (n : Nat) (a0 : ((Int) × ((Int) × ((Int) × ((Int) × ((Int) × (Int)))))) × (((Int) × (Int)) × (Int))) (a1 : Int) : Option ((((Bool) × (Unit)) × (Unit)) × (Unit)) := spec_l04Obs_e_t n (spec_l04Obs_e_l3 n) a0 a1

noncomputable def spec_l04Ok_e_t4 (n : Nat) (g4 : Int → (Int) × ((List (((Int) × ((Int) × ((Int) × ((Int) × ((Int) × (Int)))))) × (((Int) × (Int)) × (Int)))) × ((Bool) × ((Int) × (Int)))) → Option ((((Bool) × (Unit)) × (Unit)) × (Unit))) (v3 : Int) (v0 : (Int) × ((List (((Int) × ((Int) × ((Int) × ((Int) × ((Int) × (Int)))))) × (((Int) × (Int)) × (Int)))) × ((Bool) × ((Int) × (Int))))) : Option ((((Bool) × (Unit)) × (Unit)) × (Unit)) :=
  cond (decide (v3 < ((v0.2.1.length : Nat) : Int)))
  (cond ((decide (0 ≤ v3) && decide (v3 < ((v0.2.1.length : Nat) : Int))))
    ((spec_l04Obs_e n ((((v0.2.1.getD (Int.toNat v3) ((0, (0, (0, (0, (0, 0))))), ((0, 0), 0))).1.1, ((v0.2.1.getD (Int.toNat v3) ((0, (0, (0, (0, (0, 0))))), ((0, 0), 0))).1.2.1, ((v0.2.1.getD (Int.toNat v3) ((0, (0, (0, (0, (0, 0))))), ((0, 0), 0))).1.2.2.1, ((v0.2.1.getD (Int.toNat v3) ((0, (0, (0, (0, (0, 0))))), ((0, 0), 0))).1.2.2.2.1, ((v0.2.1.getD (Int.toNat v3) ((0, (0, (0, (0, (0, 0))))), ((0, 0), 0))).1.2.2.2.2.1, (v0.2.1.getD (Int.toNat v3) ((0, (0, (0, (0, (0, 0))))), ((0, 0), 0))).1.2.2.2.2.2))))), (((v0.2.1.getD (Int.toNat v3) ((0, (0, (0, (0, (0, 0))))), ((0, 0), 0))).2.1.1, (v0.2.1.getD (Int.toNat v3) ((0, (0, (0, (0, (0, 0))))), ((0, 0), 0))).2.1.2), (v0.2.1.getD (Int.toNat v3) ((0, (0, (0, (0, (0, 0))))), ((0, 0), 0))).2.2))) v0.1).bind fun r2 =>
      cond (!r2.1.1.1)
      (some ((((false, ()), ()), ())))
      (g4 ((IntKind.wrap .i64 (v3 + 1))) v0))
    (none))
  (some ((((true, ()), ()), ())))

noncomputable def spec_l04Ok_e_l4 (n : Nat) : Nat → Int → (Int) × ((List (((Int) × ((Int) × ((Int) × ((Int) × ((Int) × (Int)))))) × (((Int) × (Int)) × (Int)))) × ((Bool) × ((Int) × (Int)))) → Option ((((Bool) × (Unit)) × (Unit)) × (Unit))
  | 0, _, _ => none
  | k + 1, v3, v0 => spec_l04Ok_e_t4 n (spec_l04Ok_e_l4 n k) v3 v0

noncomputable def spec_l04Ok_e_t (n : Nat) (h4 : Nat → Int → (Int) × ((List (((Int) × ((Int) × ((Int) × ((Int) × ((Int) × (Int)))))) × (((Int) × (Int)) × (Int)))) × ((Bool) × ((Int) × (Int)))) → Option ((((Bool) × (Unit)) × (Unit)) × (Unit))) (a0 : (Int) × ((List (((Int) × ((Int) × ((Int) × ((Int) × ((Int) × (Int)))))) × (((Int) × (Int)) × (Int)))) × ((Bool) × ((Int) × (Int))))) : Option ((((Bool) × (Unit)) × (Unit)) × (Unit)) :=
  (spec_l00In n a0.1 1 6).bind fun r0 =>
  cond (!r0.1.1.1)
  (some ((((false, ()), ()), ())))
  (cond (decide (((a0.2.1.length : Nat) : Int) > 24))
    (some ((((false, ()), ()), ())))
    ((spec_l01Ok n ((a0.2.2.2.1, a0.2.2.2.2))).bind fun r1 =>
      cond (!r1.1.1.1)
      (some ((((false, ()), ()), ())))
      (cond (!a0.2.2.1)
        (cond ((a0.2.2.2.1 != 0))
          (some ((((false, ()), ()), ())))
          (h4 n 0 a0))
        (h4 n 0 a0))))

noncomputable def spec_l04Ok_e (n : Nat) (a0 : (Int) × ((List (((Int) × ((Int) × ((Int) × ((Int) × ((Int) × (Int)))))) × (((Int) × (Int)) × (Int)))) × ((Bool) × ((Int) × (Int))))) : Option ((((Bool) × (Unit)) × (Unit)) × (Unit)) := spec_l04Ok_e_t n (spec_l04Ok_e_l4 n) a0

noncomputable def spec_l04ReadObs_t5 (n : Nat) (g5 : Int → (List (ByteArray)) → Int → Int → Int → Int → Int → Int → Int → Int → Int → Int → Int → Int → Int → Int → Int → Int → Int → Int → Int → Option ((((((Int) × ((Int) × ((Int) × ((Int) × ((Int) × (Int)))))) × (((Int) × (Int)) × (Int))) × (Unit)) × (((Bool) × (Unit)) × (Unit))) × (Unit))) (v7 : Int) (v0 : List (ByteArray)) (v1 : Int) (b0_0 : Int) (b0_1 : Int) (b0_2 : Int) (b0_3 : Int) (b0_4 : Int) (b0_5 : Int) (b0_6 : Int) (b0_7 : Int) (b0_8 : Int) (b1_0 : Int) (b1_1 : Int) (b1_2 : Int) (b1_3 : Int) (b1_4 : Int) (b1_5 : Int) (b1_6 : Int) (b1_7 : Int) (b1_8 : Int) : Option ((((((Int) × ((Int) × ((Int) × ((Int) × ((Int) × (Int)))))) × (((Int) × (Int)) × (Int))) × (Unit)) × (((Bool) × (Unit)) × (Unit))) × (Unit)) :=
  cond (decide (v7 < v1))
  (cond ((decide (0 ≤ v7) && decide (v7 < ((v0.length : Nat) : Int))))
    ((spec_l01Signed n ((v0.getD (Int.toNat v7) (ByteArray.mk #[])))).bind fun r0 =>
      cond (!r0.1.2.1.1)
      (some ((((((b1_0, (b1_1, (b1_2, (b1_3, (b1_4, b1_5))))), ((b1_6, b1_7), b1_8)), ()), ((false, ()), ())), ())))
      ((spec_l00In n r0.1.1.1 (-3) 3).bind fun r1 =>
        cond (!r1.1.1.1)
        (some ((((((b1_0, (b1_1, (b1_2, (b1_3, (b1_4, b1_5))))), ((b1_6, b1_7), b1_8)), ()), ((false, ()), ())), ())))
        (cond ((decide (0 ≤ v7) && decide (v7 < 6)))
          (g5 ((IntKind.wrap .i64 (v7 + 1))) v0 v1 b0_0 b0_1 b0_2 b0_3 b0_4 b0_5 b0_6 b0_7 b0_8 ((cond (Nat.beq (Int.toNat v7) 0) (IntKind.wrap .i8 r0.1.1.1) b1_0)) ((cond (Nat.beq (Int.toNat v7) 1) (IntKind.wrap .i8 r0.1.1.1) b1_1)) ((cond (Nat.beq (Int.toNat v7) 2) (IntKind.wrap .i8 r0.1.1.1) b1_2)) ((cond (Nat.beq (Int.toNat v7) 3) (IntKind.wrap .i8 r0.1.1.1) b1_3)) ((cond (Nat.beq (Int.toNat v7) 4) (IntKind.wrap .i8 r0.1.1.1) b1_4)) ((cond (Nat.beq (Int.toNat v7) 5) (IntKind.wrap .i8 r0.1.1.1) b1_5)) b1_6 b1_7 b1_8)
          (none))))
    (none))
  (cond ((decide (0 ≤ v1) && decide (v1 < ((v0.length : Nat) : Int))))
    ((spec_l01Read n ((v0.getD (Int.toNat v1) (ByteArray.mk #[])))).bind fun r2 =>
      cond ((decide (0 ≤ (IntKind.wrap .i64 (v1 + 1))) && decide ((IntKind.wrap .i64 (v1 + 1)) < ((v0.length : Nat) : Int))))
      ((spec_l01Number n ((v0.getD (Int.toNat (IntKind.wrap .i64 (v1 + 1))) (ByteArray.mk #[])))).bind fun r3 =>
        cond r2.1.2.1.1
        (some ((((((b1_0, (b1_1, (b1_2, (b1_3, (b1_4, b1_5))))), ((r2.1.1.1.1, r2.1.1.1.2), r3.1.1.1)), ()), ((r3.1.2.1.1, ()), ())), ())))
        (some ((((((b1_0, (b1_1, (b1_2, (b1_3, (b1_4, b1_5))))), ((r2.1.1.1.1, r2.1.1.1.2), r3.1.1.1)), ()), ((false, ()), ())), ()))))
      (none))
    (none))

noncomputable def spec_l04ReadObs_l5 (n : Nat) : Nat → Int → (List (ByteArray)) → Int → Int → Int → Int → Int → Int → Int → Int → Int → Int → Int → Int → Int → Int → Int → Int → Int → Int → Int → Option ((((((Int) × ((Int) × ((Int) × ((Int) × ((Int) × (Int)))))) × (((Int) × (Int)) × (Int))) × (Unit)) × (((Bool) × (Unit)) × (Unit))) × (Unit))
  | 0, _, _, _, _, _, _, _, _, _, _, _, _, _, _, _, _, _, _, _, _, _ => none
  | k + 1, v7, v0, v1, b0_0, b0_1, b0_2, b0_3, b0_4, b0_5, b0_6, b0_7, b0_8, b1_0, b1_1, b1_2, b1_3, b1_4, b1_5, b1_6, b1_7, b1_8 => spec_l04ReadObs_t5 n (spec_l04ReadObs_l5 n k) v7 v0 v1 b0_0 b0_1 b0_2 b0_3 b0_4 b0_5 b0_6 b0_7 b0_8 b1_0 b1_1 b1_2 b1_3 b1_4 b1_5 b1_6 b1_7 b1_8

noncomputable def spec_l04ReadObs_t (n : Nat) (h5 : Nat → Int → (List (ByteArray)) → Int → Int → Int → Int → Int → Int → Int → Int → Int → Int → Int → Int → Int → Int → Int → Int → Int → Int → Int → Option ((((((Int) × ((Int) × ((Int) × ((Int) × ((Int) × (Int)))))) × (((Int) × (Int)) × (Int))) × (Unit)) × (((Bool) × (Unit)) × (Unit))) × (Unit))) (a0 : List (ByteArray)) (a1 : Int) : Option ((((((Int) × ((Int) × ((Int) × ((Int) × ((Int) × (Int)))))) × (((Int) × (Int)) × (Int))) × (Unit)) × (((Bool) × (Unit)) × (Unit))) × (Unit)) :=
  cond ((((a0.length : Nat) : Int) != (IntKind.wrap .i64 (a1 + 2))))
  (some ((((((0, (0, (0, (0, (0, 0))))), ((0, 0), 0)), ()), ((false, ()), ())), ())))
  (h5 n 0 a0 a1 0 0 0 0 0 0 0 0 0 0 0 0 0 0 0 0 0 0)

noncomputable def spec_l04ReadObs (n : Nat) (a0 : List (ByteArray)) (a1 : Int) : Option ((((((Int) × ((Int) × ((Int) × ((Int) × ((Int) × (Int)))))) × (((Int) × (Int)) × (Int))) × (Unit)) × (((Bool) × (Unit)) × (Unit))) × (Unit)) := spec_l04ReadObs_t n (spec_l04ReadObs_l5 n) a0 a1

noncomputable def spec_ReadTable_t16 (n : Nat) (g16 : Int → Int → Int → Int → Bool → Int → Int → Int → Bool → Int → Int → (List (ByteArray)) → (List (((Int) × ((Int) × ((Int) × ((Int) × ((Int) × (Int)))))) × (((Int) × (Int)) × (Int)))) → Option (((((Int) × ((List (((Int) × ((Int) × ((Int) × ((Int) × ((Int) × (Int)))))) × (((Int) × (Int)) × (Int)))) × ((Bool) × ((Int) × (Int))))) × (Unit)) × (((Int) × (Unit)) × (Unit))) × (Unit))) (v12 : Int) (v7 : Int) (v5 : Int) (b0_0 : Int) (b0_2 : Bool) (b0_3 : Int) (b0_4 : Int) (b1_0 : Int) (b1_2 : Bool) (b1_3 : Int) (b1_4 : Int) (b2 : List (ByteArray)) (b3 : List (((Int) × ((Int) × ((Int) × ((Int) × ((Int) × (Int)))))) × (((Int) × (Int)) × (Int)))) : Option (((((Int) × ((List (((Int) × ((Int) × ((Int) × ((Int) × ((Int) × (Int)))))) × (((Int) × (Int)) × (Int)))) × ((Bool) × ((Int) × (Int))))) × (Unit)) × (((Int) × (Unit)) × (Unit))) × (Unit)) :=
  cond (decide (v12 < (IntKind.wrap .i64 (v5 - 1))))
  (cond ((decide (0 ≤ v12) && decide (v12 < ((b2.length : Nat) : Int))))
    ((spec_l01Split n ((b2.getD (Int.toNat v12) (ByteArray.mk #[]))) 32).bind fun r6 =>
      (spec_l04ReadObs n r6.1.1.1 v7).bind fun r7 =>
      cond (!r7.1.2.1.1)
      (some (((((0, ([], (false, (0, 0)))), ()), ((5, ()), ())), ())))
      (cond (decide (((b3.length + (((r7.1.1.1.1.1, (r7.1.1.1.1.2.1, (r7.1.1.1.1.2.2.1, (r7.1.1.1.1.2.2.2.1, (r7.1.1.1.1.2.2.2.2.1, r7.1.1.1.1.2.2.2.2.2))))), ((r7.1.1.1.2.1.1, r7.1.1.1.2.1.2), r7.1.1.1.2.2)) :: []).length) * 33) ≤ 70368744177664))
        (g16 ((IntKind.wrap .i64 (v12 + 1))) v7 v5 b0_0 b0_2 b0_3 b0_4 b1_0 b1_2 b1_3 b1_4 b2 ((b3 ++ (((r7.1.1.1.1.1, (r7.1.1.1.1.2.1, (r7.1.1.1.1.2.2.1, (r7.1.1.1.1.2.2.2.1, (r7.1.1.1.1.2.2.2.2.1, r7.1.1.1.1.2.2.2.2.2))))), ((r7.1.1.1.2.1.1, r7.1.1.1.2.1.2), r7.1.1.1.2.2)) :: []))))
        (none)))
    (none))
  ((spec_l04Ok_e n ((b1_0, (b3, (b1_2, (b1_3, b1_4)))))).bind fun r8 =>
    cond (!r8.1.1.1)
    (some (((((0, ([], (false, (0, 0)))), ()), ((5, ()), ())), ())))
    (some (((((b1_0, (b3, (b1_2, (b1_3, b1_4)))), ()), ((0, ()), ())), ()))))

noncomputable def spec_ReadTable_l16 (n : Nat) : Nat → Int → Int → Int → Int → Bool → Int → Int → Int → Bool → Int → Int → (List (ByteArray)) → (List (((Int) × ((Int) × ((Int) × ((Int) × ((Int) × (Int)))))) × (((Int) × (Int)) × (Int)))) → Option (((((Int) × ((List (((Int) × ((Int) × ((Int) × ((Int) × ((Int) × (Int)))))) × (((Int) × (Int)) × (Int)))) × ((Bool) × ((Int) × (Int))))) × (Unit)) × (((Int) × (Unit)) × (Unit))) × (Unit))
  | 0, _, _, _, _, _, _, _, _, _, _, _, _, _ => none
  | k + 1, v12, v7, v5, b0_0, b0_2, b0_3, b0_4, b1_0, b1_2, b1_3, b1_4, b2, b3 => spec_ReadTable_t16 n (spec_ReadTable_l16 n k) v12 v7 v5 b0_0 b0_2 b0_3 b0_4 b1_0 b1_2 b1_3 b1_4 b2 b3

noncomputable def spec_ReadTable_t (n : Nat) (h16 : Nat → Int → Int → Int → Int → Bool → Int → Int → Int → Bool → Int → Int → (List (ByteArray)) → (List (((Int) × ((Int) × ((Int) × ((Int) × ((Int) × (Int)))))) × (((Int) × (Int)) × (Int)))) → Option (((((Int) × ((List (((Int) × ((Int) × ((Int) × ((Int) × ((Int) × (Int)))))) × (((Int) × (Int)) × (Int)))) × ((Bool) × ((Int) × (Int))))) × (Unit)) × (((Int) × (Unit)) × (Unit))) × (Unit))) (a0 : ByteArray) : Option (((((Int) × ((List (((Int) × ((Int) × ((Int) × ((Int) × ((Int) × (Int)))))) × (((Int) × (Int)) × (Int)))) × ((Bool) × ((Int) × (Int))))) × (Unit)) × (((Int) × (Unit)) × (Unit))) × (Unit)) :=
  (spec_l01Split n a0 10).bind fun r0 =>
  cond (decide (0 < ((r0.1.1.1.length : Nat) : Int)))
  ((spec_l01Split n ((r0.1.1.1.getD (Int.toNat 0) (ByteArray.mk #[]))) 32).bind fun r1 =>
    cond (decide (0 < ((r1.1.1.1.length : Nat) : Int)))
    ((spec_l01Number n ((r1.1.1.1.getD (Int.toNat 0) (ByteArray.mk #[])))).bind fun r2 =>
      (spec_l01Whole n 0).bind fun r3 =>
      cond ((((r1.1.1.1.length : Nat) : Int) == 3))
      (cond (decide (1 < ((r1.1.1.1.length : Nat) : Int)))
        (cond ((eqStr (r1.1.1.1.getD (Int.toNat 1) (ByteArray.mk #[])) (ByteArray.mk #[99, 108, 111, 115, 101, 100])))
          (cond (decide (2 < ((r1.1.1.1.length : Nat) : Int)))
            ((spec_l01Read n ((r1.1.1.1.getD (Int.toNat 2) (ByteArray.mk #[])))).bind fun r4 =>
              cond r2.1.2.1.1
              (cond (!r4.1.2.1.1)
                (some (((((0, ([], (false, (0, 0)))), ()), ((5, ()), ())), ())))
                ((spec_l00In n r2.1.1.1 1 6).bind fun r5 =>
                  cond (!r5.1.1.1)
                  (some (((((0, ([], (false, (0, 0)))), ()), ((5, ()), ())), ())))
                  (cond (decide (((r0.1.1.1.length : Nat) : Int) < 2))
                    (some (((((0, ([], (false, (0, 0)))), ()), ((5, ()), ())), ())))
                    (cond (decide (((r0.1.1.1.length : Nat) : Int) > 26))
                      (some (((((0, ([], (false, (0, 0)))), ()), ((5, ()), ())), ())))
                      (cond ((decide (0 ≤ (IntKind.wrap .i64 (((r0.1.1.1.length : Nat) : Int) - 1))) && decide ((IntKind.wrap .i64 (((r0.1.1.1.length : Nat) : Int) - 1)) < ((r0.1.1.1.length : Nat) : Int))))
                        (cond ((!(eqStr (r0.1.1.1.getD (Int.toNat (IntKind.wrap .i64 (((r0.1.1.1.length : Nat) : Int) - 1))) (ByteArray.mk #[])) (ByteArray.mk #[]))))
                          (some (((((0, ([], (false, (0, 0)))), ()), ((5, ()), ())), ())))
                          (h16 n 1 r2.1.1.1 (((r0.1.1.1.length : Nat) : Int)) 0 false 0 0 r2.1.1.1 true r4.1.1.1.1 r4.1.1.1.2 r0.1.1.1 []))
                        (none))))))
              (some (((((0, ([], (false, (0, 0)))), ()), ((5, ()), ())), ()))))
            (none))
          (cond ((((r1.1.1.1.length : Nat) : Int) != 1))
            (some (((((0, ([], (false, (0, 0)))), ()), ((5, ()), ())), ())))
            (cond (!r2.1.2.1.1)
              (some (((((0, ([], (false, (0, 0)))), ()), ((5, ()), ())), ())))
              ((spec_l00In n r2.1.1.1 1 6).bind fun r9 =>
                cond (!r9.1.1.1)
                (some (((((0, ([], (false, (0, 0)))), ()), ((5, ()), ())), ())))
                (cond (decide (((r0.1.1.1.length : Nat) : Int) < 2))
                  (some (((((0, ([], (false, (0, 0)))), ()), ((5, ()), ())), ())))
                  (cond (decide (((r0.1.1.1.length : Nat) : Int) > 26))
                    (some (((((0, ([], (false, (0, 0)))), ()), ((5, ()), ())), ())))
                    (cond ((decide (0 ≤ (IntKind.wrap .i64 (((r0.1.1.1.length : Nat) : Int) - 1))) && decide ((IntKind.wrap .i64 (((r0.1.1.1.length : Nat) : Int) - 1)) < ((r0.1.1.1.length : Nat) : Int))))
                      (cond ((!(eqStr (r0.1.1.1.getD (Int.toNat (IntKind.wrap .i64 (((r0.1.1.1.length : Nat) : Int) - 1))) (ByteArray.mk #[])) (ByteArray.mk #[]))))
                        (some (((((0, ([], (false, (0, 0)))), ()), ((5, ()), ())), ())))
                        (h16 n 1 r2.1.1.1 (((r0.1.1.1.length : Nat) : Int)) 0 false 0 0 r2.1.1.1 false r3.1.1.1.1 r3.1.1.1.2 r0.1.1.1 []))
                      (none))))))))
        (none))
      (cond ((((r1.1.1.1.length : Nat) : Int) != 1))
        (some (((((0, ([], (false, (0, 0)))), ()), ((5, ()), ())), ())))
        (cond (!r2.1.2.1.1)
          (some (((((0, ([], (false, (0, 0)))), ()), ((5, ()), ())), ())))
          ((spec_l00In n r2.1.1.1 1 6).bind fun r10 =>
            cond (!r10.1.1.1)
            (some (((((0, ([], (false, (0, 0)))), ()), ((5, ()), ())), ())))
            (cond (decide (((r0.1.1.1.length : Nat) : Int) < 2))
              (some (((((0, ([], (false, (0, 0)))), ()), ((5, ()), ())), ())))
              (cond (decide (((r0.1.1.1.length : Nat) : Int) > 26))
                (some (((((0, ([], (false, (0, 0)))), ()), ((5, ()), ())), ())))
                (cond ((decide (0 ≤ (IntKind.wrap .i64 (((r0.1.1.1.length : Nat) : Int) - 1))) && decide ((IntKind.wrap .i64 (((r0.1.1.1.length : Nat) : Int) - 1)) < ((r0.1.1.1.length : Nat) : Int))))
                  (cond ((!(eqStr (r0.1.1.1.getD (Int.toNat (IntKind.wrap .i64 (((r0.1.1.1.length : Nat) : Int) - 1))) (ByteArray.mk #[])) (ByteArray.mk #[]))))
                    (some (((((0, ([], (false, (0, 0)))), ()), ((5, ()), ())), ())))
                    (h16 n 1 r2.1.1.1 (((r0.1.1.1.length : Nat) : Int)) 0 false 0 0 r2.1.1.1 false r3.1.1.1.1 r3.1.1.1.2 r0.1.1.1 []))
                  (none))))))))
    (none))
  (none)

noncomputable def spec_ReadTable (n : Nat) (a0 : ByteArray) : Option (((((Int) × ((List (((Int) × ((Int) × ((Int) × ((Int) × ((Int) × (Int)))))) × (((Int) × (Int)) × (Int)))) × ((Bool) × ((Int) × (Int))))) × (Unit)) × (((Int) × (Unit)) × (Unit))) × (Unit)) := spec_ReadTable_t n (spec_ReadTable_l16 n) a0

noncomputable def laws_FnExactReadTable_t (n : Nat) (a0 : ByteArray) : Option ((((Bool) × (Unit)) × (Unit)) × (Unit)) :=
  cond (decide ((((ByteArray.size a0) : Nat) : Int) > 1048576))
  (some ((((true, ()), ()), ())))
  ((spec_ReadTable n a0).bind fun r0 =>
    (impl_ReadTable n a0).bind fun r1 =>
    (laws_eqTable n ((r1.1.1.1, (r1.1.1.2.1, (r1.1.1.2.2.1.1, (r1.1.1.2.2.1.2.1, r1.1.1.2.2.1.2.2))))) ((r0.1.1.1.1, (r0.1.1.1.2.1, (r0.1.1.1.2.2.1, (r0.1.1.1.2.2.2.1, r0.1.1.1.2.2.2.2)))))).bind fun r2 =>
    cond (!r2.1.1.1)
    (some ((((false, ()), ()), ())))
    (cond ((r1.1.2.1.1 != r0.1.2.1.1))
      (some ((((false, ()), ()), ())))
      ((laws_markTable n ((r1.1.1.1, ((r1.1.1.2.2.1.1, (r1.1.1.2.2.1.2.1, r1.1.1.2.2.1.2.2)), ()))) 1 r1.1.1.2.1).bind fun r3 =>
        (laws_heldTable n ((r1.1.1.1, (r3.2.1, (r1.1.1.2.2.1.1, (r1.1.1.2.2.1.2.1, r1.1.1.2.2.1.2.2))))) 1).bind fun r4 =>
        cond (decide (r4.1.1.1 < 0))
        (some ((((false, ()), ()), ())))
        (cond ((r4.1.1.1 != r3.1.1.1))
          (some ((((false, ()), ()), ())))
          ((impl_ReadTable n a0).bind fun r5 =>
            (laws_eqTable n ((r5.1.1.1, (r5.1.1.2.1, (r5.1.1.2.2.1.1, (r5.1.1.2.2.1.2.1, r5.1.1.2.2.1.2.2))))) ((r0.1.1.1.1, (r0.1.1.1.2.1, (r0.1.1.1.2.2.1, (r0.1.1.1.2.2.2.1, r0.1.1.1.2.2.2.2)))))).bind fun r6 =>
            cond (!r6.1.1.1)
            (some ((((false, ()), ()), ())))
            (cond ((r5.1.2.1.1 != r0.1.2.1.1))
              (some ((((false, ()), ()), ())))
              ((laws_heldTable n ((r1.1.1.1, (r3.2.1, (r1.1.1.2.2.1.1, (r1.1.1.2.2.1.2.1, r1.1.1.2.2.1.2.2))))) 1).bind fun r7 =>
                cond (decide (r7.1.1.1 < 0))
                (some ((((false, ()), ()), ())))
                (cond ((r7.1.1.1 != r3.1.1.1))
                  (some ((((false, ()), ()), ())))
                  (some ((((true, ()), ()), ())))))))))))

noncomputable def laws_FnExactReadTable (n : Nat) (a0 : ByteArray) : Option ((((Bool) × (Unit)) × (Unit)) × (Unit)) := laws_FnExactReadTable_t n a0

noncomputable def impl_isAngle_t (n : Nat) (a0 : Int) : Option ((((Bool) × (Unit)) × (Unit)) × (Unit)) :=
  (impl_within n a0 0 1295999).bind fun r0 =>
  some ((((r0.1.1.1, ()), ()), ()))

noncomputable def impl_isAngle (n : Nat) (a0 : Int) : Option ((((Bool) × (Unit)) × (Unit)) × (Unit)) := impl_isAngle_t n a0

noncomputable def impl_two_t (n : Nat) (a0 : Int) : Option ((((ByteArray) × (Unit)) × (Unit)) × (Unit)) :=
  cond (decide (a0 < 10))
  ((impl_dec n a0).bind fun r0 =>
    cond ((roomStr (ByteArray.mk #[48]) r0.1.1.1))
    (some ((((((ByteArray.mk #[48]) ++ r0.1.1.1), ()), ()), ())))
    (none))
  ((impl_dec n a0).bind fun r1 =>
    some ((((r1.1.1.1, ()), ()), ())))

noncomputable def impl_two (n : Nat) (a0 : Int) : Option ((((ByteArray) × (Unit)) × (Unit)) × (Unit)) := impl_two_t n a0

noncomputable def impl_AngleText_t (n : Nat) (a0 : Int) : Option ((((ByteArray) × (Unit)) × (Unit)) × (Unit)) :=
  (impl_isAngle n a0).bind fun r0 =>
  cond (!r0.1.1.1)
  (some (((((ByteArray.mk #[]), ()), ()), ())))
  ((impl_dec n ((IntKind.wrap .i64 (Int.tdiv a0 3600)))).bind fun r1 =>
    cond ((roomStr r1.1.1.1 (ByteArray.mk #[58])))
    ((impl_two n ((Int.tmod (IntKind.wrap .i64 (Int.tdiv a0 60)) 60))).bind fun r2 =>
      cond ((roomStr (r1.1.1.1 ++ (ByteArray.mk #[58])) r2.1.1.1))
      (cond ((roomStr ((r1.1.1.1 ++ (ByteArray.mk #[58])) ++ r2.1.1.1) (ByteArray.mk #[58])))
        ((impl_two n ((Int.tmod a0 60))).bind fun r3 =>
          cond ((roomStr (((r1.1.1.1 ++ (ByteArray.mk #[58])) ++ r2.1.1.1) ++ (ByteArray.mk #[58])) r3.1.1.1))
          (some ((((((((r1.1.1.1 ++ (ByteArray.mk #[58])) ++ r2.1.1.1) ++ (ByteArray.mk #[58])) ++ r3.1.1.1), ()), ()), ())))
          (none))
        (none))
      (none))
    (none))

noncomputable def impl_AngleText (n : Nat) (a0 : Int) : Option ((((ByteArray) × (Unit)) × (Unit)) × (Unit)) := impl_AngleText_t n a0

noncomputable def impl_ReadAngle_t5 (n : Nat) (g5 : Int → ByteArray → Int → (List (ByteArray)) → Option ((((Int) × (Unit)) × (((Int) × (Unit)) × (Unit))) × (Unit))) (v15 : Int) (v0 : ByteArray) (v14 : Int) (b0 : List (ByteArray)) : Option ((((Int) × (Unit)) × (((Int) × (Unit)) × (Unit))) × (Unit)) :=
  cond (decide (v15 < v14))
  (cond ((decide (0 ≤ v15) && decide (v15 < ((b0.length : Nat) : Int))))
    (cond (decide ((((ByteArray.size (b0.getD (Int.toNat v15) (ByteArray.mk #[]))) : Nat) : Int) > 4))
      (some ((((0, ()), ((5, ()), ())), ())))
      (g5 ((IntKind.wrap .i64 (v15 + 1))) v0 v14 b0))
    (none))
  (cond (decide (0 < ((b0.length : Nat) : Int)))
    ((impl_number n ((b0.getD (Int.toNat 0) (ByteArray.mk #[])))).bind fun r1 =>
      cond (decide (1 < ((b0.length : Nat) : Int)))
      ((impl_number n ((b0.getD (Int.toNat 1) (ByteArray.mk #[])))).bind fun r2 =>
        cond (decide (2 < ((b0.length : Nat) : Int)))
        ((impl_number n ((b0.getD (Int.toNat 2) (ByteArray.mk #[])))).bind fun r3 =>
          (impl_AngleText n ((IntKind.wrap .i64 ((IntKind.wrap .i64 ((IntKind.wrap .i64 (3600 * r1.1.1.1)) + (IntKind.wrap .i64 (60 * r2.1.1.1)))) + r3.1.1.1)))).bind fun r4 =>
          cond ((!(eqStr r4.1.1.1 v0)))
          (some ((((0, ()), ((5, ()), ())), ())))
          (some (((((IntKind.wrap .i64 ((IntKind.wrap .i64 ((IntKind.wrap .i64 (3600 * r1.1.1.1)) + (IntKind.wrap .i64 (60 * r2.1.1.1)))) + r3.1.1.1)), ()), ((0, ()), ())), ()))))
        (none))
      (none))
    (none))

noncomputable def impl_ReadAngle_l5 (n : Nat) : Nat → Int → ByteArray → Int → (List (ByteArray)) → Option ((((Int) × (Unit)) × (((Int) × (Unit)) × (Unit))) × (Unit))
  | 0, _, _, _, _ => none
  | k + 1, v15, v0, v14, b0 => impl_ReadAngle_t5 n (impl_ReadAngle_l5 n k) v15 v0 v14 b0

noncomputable def impl_ReadAngle_t (n : Nat) (h5 : Nat → Int → ByteArray → Int → (List (ByteArray)) → Option ((((Int) × (Unit)) × (((Int) × (Unit)) × (Unit))) × (Unit))) (a0 : ByteArray) : Option ((((Int) × (Unit)) × (((Int) × (Unit)) × (Unit))) × (Unit)) :=
  (strings_Split n a0 ((ByteArray.mk #[58]))).bind fun r0 =>
  cond ((((r0.1.1.1.length : Nat) : Int) != 3))
  (some ((((0, ()), ((5, ()), ())), ())))
  (h5 n 0 a0 (((r0.1.1.1.length : Nat) : Int)) r0.1.1.1)

noncomputable def impl_ReadAngle (n : Nat) (a0 : ByteArray) : Option ((((Int) × (Unit)) × (((Int) × (Unit)) × (Unit))) × (Unit)) := impl_ReadAngle_t n (impl_ReadAngle_l5 n) a0

noncomputable def impl_Standard_good_t (n : Nat) (a0 : (ByteArray) × ((Int) × ((((Int) × (Int)) × ((Int) × (Int))) × (((Int) × (Int)) × ((Int) × (Int)))))) (a1 : Int) : Option ((((Bool) × (Unit)) × (Unit)) × (Unit)) :=
  (impl_within n a1 a0.2.2.2.2.1 ((IntKind.wrap .i64 (a0.2.2.2.2.1 + a0.2.2.2.2.2)))).bind fun r0 =>
  some ((((r0.1.1.1, ()), ()), ()))

noncomputable def impl_Standard_good (n : Nat) (a0 : (ByteArray) × ((Int) × ((((Int) × (Int)) × ((Int) × (Int))) × (((Int) × (Int)) × ((Int) × (Int)))))) (a1 : Int) : Option ((((Bool) × (Unit)) × (Unit)) × (Unit)) := impl_Standard_good_t n a0 a1

noncomputable def impl_areValid_1_t (n : Nat) (a0 : (Int) × (Int)) : Option ((((Bool) × (Unit)) × (Unit)) × (Unit)) :=
  (impl_ValidFrac n ((a0.1, a0.2))).bind fun r0 =>
  some (((((!r0.1.1.1), ()), ()), ()))

noncomputable def impl_areValid_1 (n : Nat) (a0 : (Int) × (Int)) : Option ((((Bool) × (Unit)) × (Unit)) × (Unit)) := impl_areValid_1_t n a0

noncomputable def slices_IndexFunc_impl_Frac_impl_Frac_at_impl_areValid_1_t2 (n : Nat) (g2 : Int → (List ((Int) × (Int))) → Int → Option ((((Int) × (Unit)) × (Unit)) × (Unit))) (v8 : Int) (v0 : List ((Int) × (Int))) (v7 : Int) : Option ((((Int) × (Unit)) × (Unit)) × (Unit)) :=
  cond (decide (v8 < v7))
  (cond ((decide (0 ≤ v8) && decide (v8 < ((v0.length : Nat) : Int))))
    ((impl_areValid_1 n (((v0.getD (Int.toNat v8) (0, 0)).1, (v0.getD (Int.toNat v8) (0, 0)).2))).bind fun r0 =>
      cond r0.1.1.1
      (some ((((v8, ()), ()), ())))
      (g2 ((IntKind.wrap .i64 (v8 + 1))) v0 v7))
    (none))
  (some (((((-1), ()), ()), ())))

noncomputable def slices_IndexFunc_impl_Frac_impl_Frac_at_impl_areValid_1_l2 (n : Nat) : Nat → Int → (List ((Int) × (Int))) → Int → Option ((((Int) × (Unit)) × (Unit)) × (Unit))
  | 0, _, _, _ => none
  | k + 1, v8, v0, v7 => slices_IndexFunc_impl_Frac_impl_Frac_at_impl_areValid_1_t2 n (slices_IndexFunc_impl_Frac_impl_Frac_at_impl_areValid_1_l2 n k) v8 v0 v7

noncomputable def slices_IndexFunc_impl_Frac_impl_Frac_at_impl_areValid_1_t (n : Nat) (h2 : Nat → Int → (List ((Int) × (Int))) → Int → Option ((((Int) × (Unit)) × (Unit)) × (Unit))) (a0 : List ((Int) × (Int))) : Option ((((Int) × (Unit)) × (Unit)) × (Unit)) :=
  h2 n 0 a0 (((a0.length : Nat) : Int))

noncomputable def slices_IndexFunc_impl_Frac_impl_Frac_at_impl_areValid_1 (n : Nat) (a0 : List ((Int) × (Int))) : Option ((((Int) × (Unit)) × (Unit)) × (Unit)) := slices_IndexFunc_impl_Frac_impl_Frac_at_impl_areValid_1_t n (slices_IndexFunc_impl_Frac_impl_Frac_at_impl_areValid_1_l2 n) a0

noncomputable def slices_ContainsFunc_impl_Frac_impl_Frac_at_impl_areValid_1_t (n : Nat) (a0 : List ((Int) × (Int))) : Option ((((Bool) × (Unit)) × (Unit)) × (Unit)) :=
  (slices_IndexFunc_impl_Frac_impl_Frac_at_impl_areValid_1 n a0).bind fun r0 =>
  some ((((decide (r0.1.1.1 ≥ 0), ()), ()), ()))

noncomputable def slices_ContainsFunc_impl_Frac_impl_Frac_at_impl_areValid_1 (n : Nat) (a0 : List ((Int) × (Int))) : Option ((((Bool) × (Unit)) × (Unit)) × (Unit)) := slices_ContainsFunc_impl_Frac_impl_Frac_at_impl_areValid_1_t n a0

noncomputable def impl_areValid_t (n : Nat) (a0 : List ((Int) × (Int))) : Option ((((Bool) × (Unit)) × (Unit)) × (Unit)) :=
  (slices_ContainsFunc_impl_Frac_impl_Frac_at_impl_areValid_1 n a0).bind fun r0 =>
  some (((((!r0.1.1.1), ()), ()), ()))

noncomputable def impl_areValid (n : Nat) (a0 : List ((Int) × (Int))) : Option ((((Bool) × (Unit)) × (Unit)) × (Unit)) := impl_areValid_t n a0

noncomputable def impl_compare_t (n : Nat) (a0 : (Int) × (Int)) (a1 : (Int) × (Int)) : Option ((((Int) × (Unit)) × (Unit)) × (Unit)) :=
  cond (decide ((IntKind.wrap .i64 (a0.1 * a1.2)) < (IntKind.wrap .i64 (a1.1 * a0.2))))
  (some (((((-1), ()), ()), ())))
  (cond (decide ((IntKind.wrap .i64 (a0.1 * a1.2)) > (IntKind.wrap .i64 (a1.1 * a0.2))))
    (some ((((1, ()), ()), ())))
    (some ((((0, ()), ()), ()))))

noncomputable def impl_compare (n : Nat) (a0 : (Int) × (Int)) (a1 : (Int) × (Int)) : Option ((((Int) × (Unit)) × (Unit)) × (Unit)) := impl_compare_t n a0 a1

noncomputable def impl_ValidSpan_t (n : Nat) (a0 : ((Int) × (Int)) × ((Int) × (Int))) : Option ((((Bool) × (Unit)) × (Unit)) × (Unit)) :=
  (impl_areValid n (((a0.1.1, a0.1.2) :: ((a0.2.1, a0.2.2) :: [])))).bind fun r0 =>
  cond r0.1.1.1
  ((impl_compare n ((a0.1.1, a0.1.2)) ((a0.2.1, a0.2.2))).bind fun r1 =>
    some ((((decide (r1.1.1.1 ≤ 0), ()), ()), ())))
  (some ((((false, ()), ()), ())))

noncomputable def impl_ValidSpan (n : Nat) (a0 : ((Int) × (Int)) × ((Int) × (Int))) : Option ((((Bool) × (Unit)) × (Unit)) × (Unit)) := impl_ValidSpan_t n a0

noncomputable def impl_isWord_t2 (n : Nat) (g2 : Int → ByteArray → Int → Option ((((Bool) × (Unit)) × (Unit)) × (Unit))) (v6 : Int) (v0 : ByteArray) (v5 : Int) : Option ((((Bool) × (Unit)) × (Unit)) × (Unit)) :=
  cond (decide (v6 < v5))
  (cond ((decide (0 ≤ v6) && decide (v6 < (((ByteArray.size v0) : Nat) : Int))))
    (cond (decide ((byteAt v0 v6) < 97))
      (some ((((false, ()), ()), ())))
      (cond ((decide (0 ≤ v6) && decide (v6 < (((ByteArray.size v0) : Nat) : Int))))
        (cond (decide ((byteAt v0 v6) > 122))
          (some ((((false, ()), ()), ())))
          (g2 ((IntKind.wrap .i64 (v6 + 1))) v0 v5))
        (none)))
    (none))
  ((impl_within n ((((ByteArray.size v0) : Nat) : Int)) 1 12).bind fun r0 =>
    some ((((r0.1.1.1, ()), ()), ())))

noncomputable def impl_isWord_l2 (n : Nat) : Nat → Int → ByteArray → Int → Option ((((Bool) × (Unit)) × (Unit)) × (Unit))
  | 0, _, _, _ => none
  | k + 1, v6, v0, v5 => impl_isWord_t2 n (impl_isWord_l2 n k) v6 v0 v5

noncomputable def impl_isWord_t (n : Nat) (h2 : Nat → Int → ByteArray → Int → Option ((((Bool) × (Unit)) × (Unit)) × (Unit))) (a0 : ByteArray) : Option ((((Bool) × (Unit)) × (Unit)) × (Unit)) :=
  h2 n 0 a0 ((((ByteArray.size a0) : Nat) : Int))

noncomputable def impl_isWord (n : Nat) (a0 : ByteArray) : Option ((((Bool) × (Unit)) × (Unit)) × (Unit)) := impl_isWord_t n (impl_isWord_l2 n) a0

noncomputable def impl_ValidChain_1_t (n : Nat) (a0 : (ByteArray) × ((Int) × ((((Int) × (Int)) × ((Int) × (Int))) × (((Int) × (Int)) × ((Int) × (Int)))))) (b0 : (ByteArray) × ((Int) × ((((Int) × (Int)) × ((Int) × (Int))) × (((Int) × (Int)) × ((Int) × (Int)))))) : Option ((((Bool) × (Unit)) × (Unit)) × (((ByteArray) × ((Int) × ((((Int) × (Int)) × ((Int) × (Int))) × (((Int) × (Int)) × ((Int) × (Int)))))) × (Unit))) :=
  some (((((eqStr a0.1 b0.1), ()), ()), ((b0.1, (b0.2.1, (((b0.2.2.1.1.1, b0.2.2.1.1.2), (b0.2.2.1.2.1, b0.2.2.1.2.2)), ((b0.2.2.2.1.1, b0.2.2.2.1.2), (b0.2.2.2.2.1, b0.2.2.2.2.2))))), ())))

noncomputable def impl_ValidChain_1 (n : Nat) (a0 : (ByteArray) × ((Int) × ((((Int) × (Int)) × ((Int) × (Int))) × (((Int) × (Int)) × ((Int) × (Int)))))) (b0 : (ByteArray) × ((Int) × ((((Int) × (Int)) × ((Int) × (Int))) × (((Int) × (Int)) × ((Int) × (Int)))))) : Option ((((Bool) × (Unit)) × (Unit)) × (((ByteArray) × ((Int) × ((((Int) × (Int)) × ((Int) × (Int))) × (((Int) × (Int)) × ((Int) × (Int)))))) × (Unit))) := impl_ValidChain_1_t n a0 b0

noncomputable def slices_IndexFunc_impl_Standard_impl_Standard_at_impl_ValidChain_1_t2 (n : Nat) (g2 : Int → (List ((ByteArray) × ((Int) × ((((Int) × (Int)) × ((Int) × (Int))) × (((Int) × (Int)) × ((Int) × (Int))))))) → Int → ByteArray → Int → Int → Int → Int → Int → Int → Int → Int → Int → Option ((((Int) × (Unit)) × (Unit)) × (((ByteArray) × ((Int) × ((((Int) × (Int)) × ((Int) × (Int))) × (((Int) × (Int)) × ((Int) × (Int)))))) × (Unit)))) (v8 : Int) (v0 : List ((ByteArray) × ((Int) × ((((Int) × (Int)) × ((Int) × (Int))) × (((Int) × (Int)) × ((Int) × (Int))))))) (v7 : Int) (b0_0 : ByteArray) (b0_1 : Int) (b0_2 : Int) (b0_3 : Int) (b0_4 : Int) (b0_5 : Int) (b0_6 : Int) (b0_7 : Int) (b0_8 : Int) (b0_9 : Int) : Option ((((Int) × (Unit)) × (Unit)) × (((ByteArray) × ((Int) × ((((Int) × (Int)) × ((Int) × (Int))) × (((Int) × (Int)) × ((Int) × (Int)))))) × (Unit))) :=
  cond (decide (v8 < v7))
  (cond ((decide (0 ≤ v8) && decide (v8 < ((v0.length : Nat) : Int))))
    ((impl_ValidChain_1 n (((v0.getD (Int.toNat v8) ((ByteArray.mk #[]), (0, (((0, 0), (0, 0)), ((0, 0), (0, 0)))))).1, ((v0.getD (Int.toNat v8) ((ByteArray.mk #[]), (0, (((0, 0), (0, 0)), ((0, 0), (0, 0)))))).2.1, ((((v0.getD (Int.toNat v8) ((ByteArray.mk #[]), (0, (((0, 0), (0, 0)), ((0, 0), (0, 0)))))).2.2.1.1.1, (v0.getD (Int.toNat v8) ((ByteArray.mk #[]), (0, (((0, 0), (0, 0)), ((0, 0), (0, 0)))))).2.2.1.1.2), ((v0.getD (Int.toNat v8) ((ByteArray.mk #[]), (0, (((0, 0), (0, 0)), ((0, 0), (0, 0)))))).2.2.1.2.1, (v0.getD (Int.toNat v8) ((ByteArray.mk #[]), (0, (((0, 0), (0, 0)), ((0, 0), (0, 0)))))).2.2.1.2.2)), (((v0.getD (Int.toNat v8) ((ByteArray.mk #[]), (0, (((0, 0), (0, 0)), ((0, 0), (0, 0)))))).2.2.2.1.1, (v0.getD (Int.toNat v8) ((ByteArray.mk #[]), (0, (((0, 0), (0, 0)), ((0, 0), (0, 0)))))).2.2.2.1.2), ((v0.getD (Int.toNat v8) ((ByteArray.mk #[]), (0, (((0, 0), (0, 0)), ((0, 0), (0, 0)))))).2.2.2.2.1, (v0.getD (Int.toNat v8) ((ByteArray.mk #[]), (0, (((0, 0), (0, 0)), ((0, 0), (0, 0)))))).2.2.2.2.2)))))) ((b0_0, (b0_1, (((b0_2, b0_3), (b0_4, b0_5)), ((b0_6, b0_7), (b0_8, b0_9))))))).bind fun r0 =>
      cond r0.1.1.1
      (some ((((v8, ()), ()), ((r0.2.1.1, (r0.2.1.2.1, (((r0.2.1.2.2.1.1.1, r0.2.1.2.2.1.1.2), (r0.2.1.2.2.1.2.1, r0.2.1.2.2.1.2.2)), ((r0.2.1.2.2.2.1.1, r0.2.1.2.2.2.1.2), (r0.2.1.2.2.2.2.1, r0.2.1.2.2.2.2.2))))), ()))))
      (g2 ((IntKind.wrap .i64 (v8 + 1))) v0 v7 r0.2.1.1 r0.2.1.2.1 r0.2.1.2.2.1.1.1 r0.2.1.2.2.1.1.2 r0.2.1.2.2.1.2.1 r0.2.1.2.2.1.2.2 r0.2.1.2.2.2.1.1 r0.2.1.2.2.2.1.2 r0.2.1.2.2.2.2.1 r0.2.1.2.2.2.2.2))
    (none))
  (some (((((-1), ()), ()), ((b0_0, (b0_1, (((b0_2, b0_3), (b0_4, b0_5)), ((b0_6, b0_7), (b0_8, b0_9))))), ()))))

noncomputable def slices_IndexFunc_impl_Standard_impl_Standard_at_impl_ValidChain_1_l2 (n : Nat) : Nat → Int → (List ((ByteArray) × ((Int) × ((((Int) × (Int)) × ((Int) × (Int))) × (((Int) × (Int)) × ((Int) × (Int))))))) → Int → ByteArray → Int → Int → Int → Int → Int → Int → Int → Int → Int → Option ((((Int) × (Unit)) × (Unit)) × (((ByteArray) × ((Int) × ((((Int) × (Int)) × ((Int) × (Int))) × (((Int) × (Int)) × ((Int) × (Int)))))) × (Unit)))
  | 0, _, _, _, _, _, _, _, _, _, _, _, _, _ => none
  | k + 1, v8, v0, v7, b0_0, b0_1, b0_2, b0_3, b0_4, b0_5, b0_6, b0_7, b0_8, b0_9 => slices_IndexFunc_impl_Standard_impl_Standard_at_impl_ValidChain_1_t2 n (slices_IndexFunc_impl_Standard_impl_Standard_at_impl_ValidChain_1_l2 n k) v8 v0 v7 b0_0 b0_1 b0_2 b0_3 b0_4 b0_5 b0_6 b0_7 b0_8 b0_9

noncomputable def slices_IndexFunc_impl_Standard_impl_Standard_at_impl_ValidChain_1_t (n : Nat) (h2 : Nat → Int → (List ((ByteArray) × ((Int) × ((((Int) × (Int)) × ((Int) × (Int))) × (((Int) × (Int)) × ((Int) × (Int))))))) → Int → ByteArray → Int → Int → Int → Int → Int → Int → Int → Int → Int → Option ((((Int) × (Unit)) × (Unit)) × (((ByteArray) × ((Int) × ((((Int) × (Int)) × ((Int) × (Int))) × (((Int) × (Int)) × ((Int) × (Int)))))) × (Unit)))) (a0 : List ((ByteArray) × ((Int) × ((((Int) × (Int)) × ((Int) × (Int))) × (((Int) × (Int)) × ((Int) × (Int))))))) (b0 : (ByteArray) × ((Int) × ((((Int) × (Int)) × ((Int) × (Int))) × (((Int) × (Int)) × ((Int) × (Int)))))) : Option ((((Int) × (Unit)) × (Unit)) × (((ByteArray) × ((Int) × ((((Int) × (Int)) × ((Int) × (Int))) × (((Int) × (Int)) × ((Int) × (Int)))))) × (Unit))) :=
  h2 n 0 a0 (((a0.length : Nat) : Int)) b0.1 b0.2.1 b0.2.2.1.1.1 b0.2.2.1.1.2 b0.2.2.1.2.1 b0.2.2.1.2.2 b0.2.2.2.1.1 b0.2.2.2.1.2 b0.2.2.2.2.1 b0.2.2.2.2.2

noncomputable def slices_IndexFunc_impl_Standard_impl_Standard_at_impl_ValidChain_1 (n : Nat) (a0 : List ((ByteArray) × ((Int) × ((((Int) × (Int)) × ((Int) × (Int))) × (((Int) × (Int)) × ((Int) × (Int))))))) (b0 : (ByteArray) × ((Int) × ((((Int) × (Int)) × ((Int) × (Int))) × (((Int) × (Int)) × ((Int) × (Int)))))) : Option ((((Int) × (Unit)) × (Unit)) × (((ByteArray) × ((Int) × ((((Int) × (Int)) × ((Int) × (Int))) × (((Int) × (Int)) × ((Int) × (Int)))))) × (Unit))) := slices_IndexFunc_impl_Standard_impl_Standard_at_impl_ValidChain_1_t n (slices_IndexFunc_impl_Standard_impl_Standard_at_impl_ValidChain_1_l2 n) a0 b0

noncomputable def slices_ContainsFunc_impl_Standard_impl_Standard_at_impl_ValidChain_1_t (n : Nat) (a0 : List ((ByteArray) × ((Int) × ((((Int) × (Int)) × ((Int) × (Int))) × (((Int) × (Int)) × ((Int) × (Int))))))) (b0 : (ByteArray) × ((Int) × ((((Int) × (Int)) × ((Int) × (Int))) × (((Int) × (Int)) × ((Int) × (Int)))))) : Option ((((Bool) × (Unit)) × (Unit)) × (((ByteArray) × ((Int) × ((((Int) × (Int)) × ((Int) × (Int))) × (((Int) × (Int)) × ((Int) × (Int)))))) × (Unit))) :=
  (slices_IndexFunc_impl_Standard_impl_Standard_at_impl_ValidChain_1 n a0 ((b0.1, (b0.2.1, (((b0.2.2.1.1.1, b0.2.2.1.1.2), (b0.2.2.1.2.1, b0.2.2.1.2.2)), ((b0.2.2.2.1.1, b0.2.2.2.1.2), (b0.2.2.2.2.1, b0.2.2.2.2.2))))))).bind fun r0 =>
  some ((((decide (r0.1.1.1 ≥ 0), ()), ()), ((r0.2.1.1, (r0.2.1.2.1, (((r0.2.1.2.2.1.1.1, r0.2.1.2.2.1.1.2), (r0.2.1.2.2.1.2.1, r0.2.1.2.2.1.2.2)), ((r0.2.1.2.2.2.1.1, r0.2.1.2.2.2.1.2), (r0.2.1.2.2.2.2.1, r0.2.1.2.2.2.2.2))))), ())))

noncomputable def slices_ContainsFunc_impl_Standard_impl_Standard_at_impl_ValidChain_1 (n : Nat) (a0 : List ((ByteArray) × ((Int) × ((((Int) × (Int)) × ((Int) × (Int))) × (((Int) × (Int)) × ((Int) × (Int))))))) (b0 : (ByteArray) × ((Int) × ((((Int) × (Int)) × ((Int) × (Int))) × (((Int) × (Int)) × ((Int) × (Int)))))) : Option ((((Bool) × (Unit)) × (Unit)) × (((ByteArray) × ((Int) × ((((Int) × (Int)) × ((Int) × (Int))) × (((Int) × (Int)) × ((Int) × (Int)))))) × (Unit))) := slices_ContainsFunc_impl_Standard_impl_Standard_at_impl_ValidChain_1_t n a0 b0

noncomputable def impl_ValidChain_t2 (n : Nat) (g2 : Int → (List ((ByteArray) × ((Int) × ((((Int) × (Int)) × ((Int) × (Int))) × (((Int) × (Int)) × ((Int) × (Int))))))) → (List ((ByteArray) × ((Int) × ((((Int) × (Int)) × ((Int) × (Int))) × (((Int) × (Int)) × ((Int) × (Int))))))) → Int → Option ((((Bool) × (Unit)) × (Unit)) × (Unit))) (v7 : Int) (v0 : List ((ByteArray) × ((Int) × ((((Int) × (Int)) × ((Int) × (Int))) × (((Int) × (Int)) × ((Int) × (Int))))))) (v5 : List ((ByteArray) × ((Int) × ((((Int) × (Int)) × ((Int) × (Int))) × (((Int) × (Int)) × ((Int) × (Int))))))) (v6 : Int) : Option ((((Bool) × (Unit)) × (Unit)) × (Unit)) :=
  cond (decide (v7 < v6))
  (cond ((decide (0 ≤ v7) && decide (v7 < ((v5.length : Nat) : Int))))
    ((impl_isWord n ((v5.getD (Int.toNat v7) ((ByteArray.mk #[]), (0, (((0, 0), (0, 0)), ((0, 0), (0, 0)))))).1)).bind fun r0 =>
      cond (!r0.1.1.1)
      (some ((((false, ()), ()), ())))
      (cond ((decide (0 ≤ v7) && decide (v7 ≤ ((v0.length : Nat) : Int))))
        ((slices_ContainsFunc_impl_Standard_impl_Standard_at_impl_ValidChain_1 n (((v0.drop (Int.toNat 0)).take ((Int.toNat v7) - (Int.toNat 0)))) (((v5.getD (Int.toNat v7) ((ByteArray.mk #[]), (0, (((0, 0), (0, 0)), ((0, 0), (0, 0)))))).1, ((v5.getD (Int.toNat v7) ((ByteArray.mk #[]), (0, (((0, 0), (0, 0)), ((0, 0), (0, 0)))))).2.1, ((((v5.getD (Int.toNat v7) ((ByteArray.mk #[]), (0, (((0, 0), (0, 0)), ((0, 0), (0, 0)))))).2.2.1.1.1, (v5.getD (Int.toNat v7) ((ByteArray.mk #[]), (0, (((0, 0), (0, 0)), ((0, 0), (0, 0)))))).2.2.1.1.2), ((v5.getD (Int.toNat v7) ((ByteArray.mk #[]), (0, (((0, 0), (0, 0)), ((0, 0), (0, 0)))))).2.2.1.2.1, (v5.getD (Int.toNat v7) ((ByteArray.mk #[]), (0, (((0, 0), (0, 0)), ((0, 0), (0, 0)))))).2.2.1.2.2)), (((v5.getD (Int.toNat v7) ((ByteArray.mk #[]), (0, (((0, 0), (0, 0)), ((0, 0), (0, 0)))))).2.2.2.1.1, (v5.getD (Int.toNat v7) ((ByteArray.mk #[]), (0, (((0, 0), (0, 0)), ((0, 0), (0, 0)))))).2.2.2.1.2), ((v5.getD (Int.toNat v7) ((ByteArray.mk #[]), (0, (((0, 0), (0, 0)), ((0, 0), (0, 0)))))).2.2.2.2.1, (v5.getD (Int.toNat v7) ((ByteArray.mk #[]), (0, (((0, 0), (0, 0)), ((0, 0), (0, 0)))))).2.2.2.2.2))))))).bind fun r1 =>
          cond r1.1.1.1
          (some ((((false, ()), ()), ())))
          ((impl_within n r1.2.1.2.1 (-1) ((IntKind.wrap .i64 (v7 - 1)))).bind fun r2 =>
            cond (!r2.1.1.1)
            (some ((((false, ()), ()), ())))
            ((impl_ValidSpan n (((r1.2.1.2.2.1.1.1, r1.2.1.2.2.1.1.2), (r1.2.1.2.2.1.2.1, r1.2.1.2.2.1.2.2)))).bind fun r3 =>
              cond (!r3.1.1.1)
              (some ((((false, ()), ()), ())))
              ((impl_ValidFrac n ((r1.2.1.2.2.2.1.1, r1.2.1.2.2.2.1.2))).bind fun r4 =>
                cond (!r4.1.1.1)
                (some ((((false, ()), ()), ())))
                (cond (decide (r1.2.1.2.2.2.1.1 < 0))
                  (some ((((false, ()), ()), ())))
                  ((impl_within n r1.2.1.2.2.2.2.1 0 100000).bind fun r5 =>
                    cond (!r5.1.1.1)
                    (some ((((false, ()), ()), ())))
                    ((impl_within n r1.2.1.2.2.2.2.2 0 100000).bind fun r6 =>
                      cond (!r6.1.1.1)
                      (some ((((false, ()), ()), ())))
                      (cond (decide (r1.2.1.2.1 ≥ 0))
                        (cond ((decide (0 ≤ r1.2.1.2.1) && decide (r1.2.1.2.1 < ((v0.length : Nat) : Int))))
                          ((impl_Standard_good n (((v0.getD (Int.toNat r1.2.1.2.1) ((ByteArray.mk #[]), (0, (((0, 0), (0, 0)), ((0, 0), (0, 0)))))).1, ((v0.getD (Int.toNat r1.2.1.2.1) ((ByteArray.mk #[]), (0, (((0, 0), (0, 0)), ((0, 0), (0, 0)))))).2.1, ((((v0.getD (Int.toNat r1.2.1.2.1) ((ByteArray.mk #[]), (0, (((0, 0), (0, 0)), ((0, 0), (0, 0)))))).2.2.1.1.1, (v0.getD (Int.toNat r1.2.1.2.1) ((ByteArray.mk #[]), (0, (((0, 0), (0, 0)), ((0, 0), (0, 0)))))).2.2.1.1.2), ((v0.getD (Int.toNat r1.2.1.2.1) ((ByteArray.mk #[]), (0, (((0, 0), (0, 0)), ((0, 0), (0, 0)))))).2.2.1.2.1, (v0.getD (Int.toNat r1.2.1.2.1) ((ByteArray.mk #[]), (0, (((0, 0), (0, 0)), ((0, 0), (0, 0)))))).2.2.1.2.2)), (((v0.getD (Int.toNat r1.2.1.2.1) ((ByteArray.mk #[]), (0, (((0, 0), (0, 0)), ((0, 0), (0, 0)))))).2.2.2.1.1, (v0.getD (Int.toNat r1.2.1.2.1) ((ByteArray.mk #[]), (0, (((0, 0), (0, 0)), ((0, 0), (0, 0)))))).2.2.2.1.2), ((v0.getD (Int.toNat r1.2.1.2.1) ((ByteArray.mk #[]), (0, (((0, 0), (0, 0)), ((0, 0), (0, 0)))))).2.2.2.2.1, (v0.getD (Int.toNat r1.2.1.2.1) ((ByteArray.mk #[]), (0, (((0, 0), (0, 0)), ((0, 0), (0, 0)))))).2.2.2.2.2)))))) r1.2.1.2.2.2.2.1).bind fun r7 =>
                            cond (!r7.1.1.1)
                            (some ((((false, ()), ()), ())))
                            (g2 ((IntKind.wrap .i64 (v7 + 1))) v0 v5 v6))
                          (none))
                        (g2 ((IntKind.wrap .i64 (v7 + 1))) v0 v5 v6)))))))))
        (none)))
    (none))
  (some ((((decide (((v0.length : Nat) : Int) ≤ 30), ()), ()), ())))

noncomputable def impl_ValidChain_l2 (n : Nat) : Nat → Int → (List ((ByteArray) × ((Int) × ((((Int) × (Int)) × ((Int) × (Int))) × (((Int) × (Int)) × ((Int) × (Int))))))) → (List ((ByteArray) × ((Int) × ((((Int) × (Int)) × ((Int) × (Int))) × (((Int) × (Int)) × ((Int) × (Int))))))) → Int → Option ((((Bool) × (Unit)) × (Unit)) × (Unit))
  | 0, _, _, _, _ => none
  | k + 1, v7, v0, v5, v6 => impl_ValidChain_t2 n (impl_ValidChain_l2 n k) v7 v0 v5 v6

noncomputable def impl_ValidChain_t (n : Nat) (h2 : Nat → Int → (List ((ByteArray) × ((Int) × ((((Int) × (Int)) × ((Int) × (Int))) × (((Int) × (Int)) × ((Int) × (Int))))))) → (List ((ByteArray) × ((Int) × ((((Int) × (Int)) × ((Int) × (Int))) × (((Int) × (Int)) × ((Int) × (Int))))))) → Int → Option ((((Bool) × (Unit)) × (Unit)) × (Unit))) (a0 : List ((ByteArray) × ((Int) × ((((Int) × (Int)) × ((Int) × (Int))) × (((Int) × (Int)) × ((Int) × (Int))))))) : Option ((((Bool) × (Unit)) × (Unit)) × (Unit)) :=
  h2 n 0 a0 a0 (((a0.length : Nat) : Int))

noncomputable def impl_ValidChain (n : Nat) (a0 : List ((ByteArray) × ((Int) × ((((Int) × (Int)) × ((Int) × (Int))) × (((Int) × (Int)) × ((Int) × (Int))))))) : Option ((((Bool) × (Unit)) × (Unit)) × (Unit)) := impl_ValidChain_t n (impl_ValidChain_l2 n) a0

noncomputable def impl_calc_one_t (n : Nat) (a1 : (Int) × (Int)) (b0 : Bool) : Option (((((Int) × (Int)) × (Unit)) × (((Int) × (Unit)) × (Unit))) × ((Bool) × (Unit))) :=
  cond b0
  (some (((((0, 0), ()), ((3, ()), ())), (b0, ()))))
  (some (((((a1.1, a1.2), ()), ((0, ()), ())), (b0, ()))))

noncomputable def impl_calc_one (n : Nat) (a1 : (Int) × (Int)) (b0 : Bool) : Option (((((Int) × (Int)) × (Unit)) × (((Int) × (Unit)) × (Unit))) × ((Bool) × (Unit))) := impl_calc_one_t n a1 b0

noncomputable def impl_fracOf_t (n : Nat) (a0 : Int) (a1 : Int) : Option (((((Int) × (Int)) × (Unit)) × (((Bool) × (Unit)) × (Unit))) × (Unit)) :=
  cond (decide (a1 < 0))
  ((impl_gcd n ((IntKind.wrap .i64 (0 - a0))) ((IntKind.wrap .i64 (0 - a1)))).bind fun r0 =>
    cond ((r0.1.1.1 != 0))
    (cond ((r0.1.1.1 != 0))
      ((impl_ValidFrac n (((IntKind.wrap .i64 (Int.tdiv (IntKind.wrap .i64 (0 - a0)) r0.1.1.1)), (IntKind.wrap .i64 (Int.tdiv (IntKind.wrap .i64 (0 - a1)) r0.1.1.1))))).bind fun r1 =>
        cond (!r1.1.1.1)
        (some (((((0, 0), ()), ((false, ()), ())), ())))
        (some ((((((IntKind.wrap .i64 (Int.tdiv (IntKind.wrap .i64 (0 - a0)) r0.1.1.1)), (IntKind.wrap .i64 (Int.tdiv (IntKind.wrap .i64 (0 - a1)) r0.1.1.1))), ()), ((true, ()), ())), ()))))
      (none))
    (none))
  ((impl_gcd n a0 a1).bind fun r2 =>
    cond ((r2.1.1.1 != 0))
    (cond ((r2.1.1.1 != 0))
      ((impl_ValidFrac n (((IntKind.wrap .i64 (Int.tdiv a0 r2.1.1.1)), (IntKind.wrap .i64 (Int.tdiv a1 r2.1.1.1))))).bind fun r3 =>
        cond (!r3.1.1.1)
        (some (((((0, 0), ()), ((false, ()), ())), ())))
        (some ((((((IntKind.wrap .i64 (Int.tdiv a0 r2.1.1.1)), (IntKind.wrap .i64 (Int.tdiv a1 r2.1.1.1))), ()), ((true, ()), ())), ()))))
      (none))
    (none))

noncomputable def impl_fracOf (n : Nat) (a0 : Int) (a1 : Int) : Option (((((Int) × (Int)) × (Unit)) × (((Bool) × (Unit)) × (Unit))) × (Unit)) := impl_fracOf_t n a0 a1

noncomputable def impl_calc_told_t (n : Nat) (a1 : Int) (a2 : Int) (b0 : Bool) : Option (((((Int) × (Int)) × (Unit)) × (Unit)) × ((Bool) × (Unit))) :=
  (impl_fracOf n a1 a2).bind fun r0 =>
  cond (!r0.1.2.1.1)
  ((impl_zero n).bind fun r1 =>
    some (((((r1.1.1.1.1, r1.1.1.1.2), ()), ()), (true, ()))))
  (some (((((r0.1.1.1.1, r0.1.1.1.2), ()), ()), (b0, ()))))

noncomputable def impl_calc_told (n : Nat) (a1 : Int) (a2 : Int) (b0 : Bool) : Option (((((Int) × (Int)) × (Unit)) × (Unit)) × ((Bool) × (Unit))) := impl_calc_told_t n a1 a2 b0

noncomputable def impl_wrap_t (n : Nat) (a0 : Int) : Option ((((Int) × (Unit)) × (Unit)) × (Unit)) :=
  some (((((Int.tmod (IntKind.wrap .i64 ((Int.tmod a0 1296000) + 1296000)) 1296000), ()), ()), ()))

noncomputable def impl_wrap (n : Nat) (a0 : Int) : Option ((((Int) × (Unit)) × (Unit)) × (Unit)) := impl_wrap_t n a0

noncomputable def impl_turnFrom_t (n : Nat) (a0 : Int) (a1 : Int) : Option ((((Int) × (Unit)) × (Unit)) × (Unit)) :=
  (impl_wrap n ((IntKind.wrap .i64 (a1 - a0)))).bind fun r0 =>
  cond (decide (r0.1.1.1 > 648000))
  (some (((((IntKind.wrap .i64 (r0.1.1.1 - 1296000)), ()), ()), ())))
  (some ((((r0.1.1.1, ()), ()), ())))

noncomputable def impl_turnFrom (n : Nat) (a0 : Int) (a1 : Int) : Option ((((Int) × (Unit)) × (Unit)) × (Unit)) := impl_turnFrom_t n a0 a1

noncomputable def laws_eqInt64S_t4 (n : Nat) (g4 : Int → (List (Int)) → (List (Int)) → Option ((((Bool) × (Unit)) × (Unit)) × (Unit))) (v5 : Int) (v1 : List (Int)) (v0 : List (Int)) : Option ((((Bool) × (Unit)) × (Unit)) × (Unit)) :=
  cond (decide (v5 < ((v0.length : Nat) : Int)))
  (cond ((decide (0 ≤ v5) && decide (v5 < ((v0.length : Nat) : Int))))
    (cond ((decide (0 ≤ v5) && decide (v5 < ((v1.length : Nat) : Int))))
      (cond (((v0.getD (Int.toNat v5) 0) != (v1.getD (Int.toNat v5) 0)))
        (some ((((false, ()), ()), ())))
        (g4 ((IntKind.wrap .i64 (v5 + 1))) v1 v0))
      (none))
    (none))
  (some ((((true, ()), ()), ())))

noncomputable def laws_eqInt64S_l4 (n : Nat) : Nat → Int → (List (Int)) → (List (Int)) → Option ((((Bool) × (Unit)) × (Unit)) × (Unit))
  | 0, _, _, _ => none
  | k + 1, v5, v1, v0 => laws_eqInt64S_t4 n (laws_eqInt64S_l4 n k) v5 v1 v0

noncomputable def laws_eqInt64S_t (n : Nat) (h4 : Nat → Int → (List (Int)) → (List (Int)) → Option ((((Bool) × (Unit)) × (Unit)) × (Unit))) (a0 : List (Int)) (a1 : List (Int)) : Option ((((Bool) × (Unit)) × (Unit)) × (Unit)) :=
  cond ((((a0.length : Nat) : Int) != ((a1.length : Nat) : Int)))
  (some ((((false, ()), ()), ())))
  (h4 n 0 a1 a0)

noncomputable def laws_eqInt64S (n : Nat) (a0 : List (Int)) (a1 : List (Int)) : Option ((((Bool) × (Unit)) × (Unit)) × (Unit)) := laws_eqInt64S_t n (laws_eqInt64S_l4 n) a0 a1

noncomputable def laws_eqSpan_t (n : Nat) (a0 : ((Int) × (Int)) × ((Int) × (Int))) (a1 : ((Int) × (Int)) × ((Int) × (Int))) : Option ((((Bool) × (Unit)) × (Unit)) × (Unit)) :=
  (laws_eqFrac n ((a0.1.1, a0.1.2)) ((a1.1.1, a1.1.2))).bind fun r0 =>
  cond (!r0.1.1.1)
  (some ((((false, ()), ()), ())))
  ((laws_eqFrac n ((a0.2.1, a0.2.2)) ((a1.2.1, a1.2.2))).bind fun r1 =>
    cond (!r1.1.1.1)
    (some ((((false, ()), ()), ())))
    (some ((((true, ()), ()), ()))))

noncomputable def laws_eqSpan (n : Nat) (a0 : ((Int) × (Int)) × ((Int) × (Int))) (a1 : ((Int) × (Int)) × ((Int) × (Int))) : Option ((((Bool) × (Unit)) × (Unit)) × (Unit)) := laws_eqSpan_t n a0 a1

noncomputable def laws_eqStandard_t (n : Nat) (a0 : (ByteArray) × ((Int) × ((((Int) × (Int)) × ((Int) × (Int))) × (((Int) × (Int)) × ((Int) × (Int)))))) (a1 : (ByteArray) × ((Int) × ((((Int) × (Int)) × ((Int) × (Int))) × (((Int) × (Int)) × ((Int) × (Int)))))) : Option ((((Bool) × (Unit)) × (Unit)) × (Unit)) :=
  cond ((!(eqStr a0.1 a1.1)))
  (some ((((false, ()), ()), ())))
  (cond ((a0.2.1 != a1.2.1))
    (some ((((false, ()), ()), ())))
    ((laws_eqSpan n (((a0.2.2.1.1.1, a0.2.2.1.1.2), (a0.2.2.1.2.1, a0.2.2.1.2.2))) (((a1.2.2.1.1.1, a1.2.2.1.1.2), (a1.2.2.1.2.1, a1.2.2.1.2.2)))).bind fun r0 =>
      cond (!r0.1.1.1)
      (some ((((false, ()), ()), ())))
      ((laws_eqFrac n ((a0.2.2.2.1.1, a0.2.2.2.1.2)) ((a1.2.2.2.1.1, a1.2.2.2.1.2))).bind fun r1 =>
        cond (!r1.1.1.1)
        (some ((((false, ()), ()), ())))
        (cond ((a0.2.2.2.2.1 != a1.2.2.2.2.1))
          (some ((((false, ()), ()), ())))
          (cond ((a0.2.2.2.2.2 != a1.2.2.2.2.2))
            (some ((((false, ()), ()), ())))
            (some ((((true, ()), ()), ()))))))))

noncomputable def laws_eqStandard (n : Nat) (a0 : (ByteArray) × ((Int) × ((((Int) × (Int)) × ((Int) × (Int))) × (((Int) × (Int)) × ((Int) × (Int)))))) (a1 : (ByteArray) × ((Int) × ((((Int) × (Int)) × ((Int) × (Int))) × (((Int) × (Int)) × ((Int) × (Int)))))) : Option ((((Bool) × (Unit)) × (Unit)) × (Unit)) := laws_eqStandard_t n a0 a1

noncomputable def laws_eqStandardS_t4 (n : Nat) (g4 : Int → (List ((ByteArray) × ((Int) × ((((Int) × (Int)) × ((Int) × (Int))) × (((Int) × (Int)) × ((Int) × (Int))))))) → (List ((ByteArray) × ((Int) × ((((Int) × (Int)) × ((Int) × (Int))) × (((Int) × (Int)) × ((Int) × (Int))))))) → Option ((((Bool) × (Unit)) × (Unit)) × (Unit))) (v5 : Int) (v1 : List ((ByteArray) × ((Int) × ((((Int) × (Int)) × ((Int) × (Int))) × (((Int) × (Int)) × ((Int) × (Int))))))) (v0 : List ((ByteArray) × ((Int) × ((((Int) × (Int)) × ((Int) × (Int))) × (((Int) × (Int)) × ((Int) × (Int))))))) : Option ((((Bool) × (Unit)) × (Unit)) × (Unit)) :=
  cond (decide (v5 < ((v0.length : Nat) : Int)))
  (cond ((decide (0 ≤ v5) && decide (v5 < ((v0.length : Nat) : Int))))
    (cond ((decide (0 ≤ v5) && decide (v5 < ((v1.length : Nat) : Int))))
      ((laws_eqStandard n (((v0.getD (Int.toNat v5) ((ByteArray.mk #[]), (0, (((0, 0), (0, 0)), ((0, 0), (0, 0)))))).1, ((v0.getD (Int.toNat v5) ((ByteArray.mk #[]), (0, (((0, 0), (0, 0)), ((0, 0), (0, 0)))))).2.1, ((((v0.getD (Int.toNat v5) ((ByteArray.mk #[]), (0, (((0, 0), (0, 0)), ((0, 0), (0, 0)))))).2.2.1.1.1, (v0.getD (Int.toNat v5) ((ByteArray.mk #[]), (0, (((0, 0), (0, 0)), ((0, 0), (0, 0)))))).2.2.1.1.2), ((v0.getD (Int.toNat v5) ((ByteArray.mk #[]), (0, (((0, 0), (0, 0)), ((0, 0), (0, 0)))))).2.2.1.2.1, (v0.getD (Int.toNat v5) ((ByteArray.mk #[]), (0, (((0, 0), (0, 0)), ((0, 0), (0, 0)))))).2.2.1.2.2)), (((v0.getD (Int.toNat v5) ((ByteArray.mk #[]), (0, (((0, 0), (0, 0)), ((0, 0), (0, 0)))))).2.2.2.1.1, (v0.getD (Int.toNat v5) ((ByteArray.mk #[]), (0, (((0, 0), (0, 0)), ((0, 0), (0, 0)))))).2.2.2.1.2), ((v0.getD (Int.toNat v5) ((ByteArray.mk #[]), (0, (((0, 0), (0, 0)), ((0, 0), (0, 0)))))).2.2.2.2.1, (v0.getD (Int.toNat v5) ((ByteArray.mk #[]), (0, (((0, 0), (0, 0)), ((0, 0), (0, 0)))))).2.2.2.2.2)))))) (((v1.getD (Int.toNat v5) ((ByteArray.mk #[]), (0, (((0, 0), (0, 0)), ((0, 0), (0, 0)))))).1, ((v1.getD (Int.toNat v5) ((ByteArray.mk #[]), (0, (((0, 0), (0, 0)), ((0, 0), (0, 0)))))).2.1, ((((v1.getD (Int.toNat v5) ((ByteArray.mk #[]), (0, (((0, 0), (0, 0)), ((0, 0), (0, 0)))))).2.2.1.1.1, (v1.getD (Int.toNat v5) ((ByteArray.mk #[]), (0, (((0, 0), (0, 0)), ((0, 0), (0, 0)))))).2.2.1.1.2), ((v1.getD (Int.toNat v5) ((ByteArray.mk #[]), (0, (((0, 0), (0, 0)), ((0, 0), (0, 0)))))).2.2.1.2.1, (v1.getD (Int.toNat v5) ((ByteArray.mk #[]), (0, (((0, 0), (0, 0)), ((0, 0), (0, 0)))))).2.2.1.2.2)), (((v1.getD (Int.toNat v5) ((ByteArray.mk #[]), (0, (((0, 0), (0, 0)), ((0, 0), (0, 0)))))).2.2.2.1.1, (v1.getD (Int.toNat v5) ((ByteArray.mk #[]), (0, (((0, 0), (0, 0)), ((0, 0), (0, 0)))))).2.2.2.1.2), ((v1.getD (Int.toNat v5) ((ByteArray.mk #[]), (0, (((0, 0), (0, 0)), ((0, 0), (0, 0)))))).2.2.2.2.1, (v1.getD (Int.toNat v5) ((ByteArray.mk #[]), (0, (((0, 0), (0, 0)), ((0, 0), (0, 0)))))).2.2.2.2.2))))))).bind fun r0 =>
        cond (!r0.1.1.1)
        (some ((((false, ()), ()), ())))
        (g4 ((IntKind.wrap .i64 (v5 + 1))) v1 v0))
      (none))
    (none))
  (some ((((true, ()), ()), ())))

noncomputable def laws_eqStandardS_l4 (n : Nat) : Nat → Int → (List ((ByteArray) × ((Int) × ((((Int) × (Int)) × ((Int) × (Int))) × (((Int) × (Int)) × ((Int) × (Int))))))) → (List ((ByteArray) × ((Int) × ((((Int) × (Int)) × ((Int) × (Int))) × (((Int) × (Int)) × ((Int) × (Int))))))) → Option ((((Bool) × (Unit)) × (Unit)) × (Unit))
  | 0, _, _, _ => none
  | k + 1, v5, v1, v0 => laws_eqStandardS_t4 n (laws_eqStandardS_l4 n k) v5 v1 v0

noncomputable def laws_eqStandardS_t (n : Nat) (h4 : Nat → Int → (List ((ByteArray) × ((Int) × ((((Int) × (Int)) × ((Int) × (Int))) × (((Int) × (Int)) × ((Int) × (Int))))))) → (List ((ByteArray) × ((Int) × ((((Int) × (Int)) × ((Int) × (Int))) × (((Int) × (Int)) × ((Int) × (Int))))))) → Option ((((Bool) × (Unit)) × (Unit)) × (Unit))) (a0 : List ((ByteArray) × ((Int) × ((((Int) × (Int)) × ((Int) × (Int))) × (((Int) × (Int)) × ((Int) × (Int))))))) (a1 : List ((ByteArray) × ((Int) × ((((Int) × (Int)) × ((Int) × (Int))) × (((Int) × (Int)) × ((Int) × (Int))))))) : Option ((((Bool) × (Unit)) × (Unit)) × (Unit)) :=
  cond ((((a0.length : Nat) : Int) != ((a1.length : Nat) : Int)))
  (some ((((false, ()), ()), ())))
  (h4 n 0 a1 a0)

noncomputable def laws_eqStandardS (n : Nat) (a0 : List ((ByteArray) × ((Int) × ((((Int) × (Int)) × ((Int) × (Int))) × (((Int) × (Int)) × ((Int) × (Int))))))) (a1 : List ((ByteArray) × ((Int) × ((((Int) × (Int)) × ((Int) × (Int))) × (((Int) × (Int)) × ((Int) × (Int))))))) : Option ((((Bool) × (Unit)) × (Unit)) × (Unit)) := laws_eqStandardS_t n (laws_eqStandardS_l4 n) a0 a1

noncomputable def laws_heldInt64S_t2 (n : Nat) (g2 : Int → Int → (List (Int)) → Option ((((Int) × (Unit)) × (Unit)) × (Unit))) (v5 : Int) (v1 : Int) (v0 : List (Int)) : Option ((((Int) × (Unit)) × (Unit)) × (Unit)) :=
  cond (decide (v5 < ((v0.length : Nat) : Int)))
  (cond ((decide (0 ≤ v5) && decide (v5 < ((v0.length : Nat) : Int))))
    (cond (((v0.getD (Int.toNat v5) 0) != v1))
      (some (((((-1), ()), ()), ())))
      (g2 ((IntKind.wrap .i64 (v5 + 1))) ((IntKind.wrap .i64 (v1 + 1))) v0))
    (none))
  (some ((((v1, ()), ()), ())))

noncomputable def laws_heldInt64S_l2 (n : Nat) : Nat → Int → Int → (List (Int)) → Option ((((Int) × (Unit)) × (Unit)) × (Unit))
  | 0, _, _, _ => none
  | k + 1, v5, v1, v0 => laws_heldInt64S_t2 n (laws_heldInt64S_l2 n k) v5 v1 v0

noncomputable def laws_heldInt64S_t (n : Nat) (h2 : Nat → Int → Int → (List (Int)) → Option ((((Int) × (Unit)) × (Unit)) × (Unit))) (a0 : List (Int)) (a1 : Int) : Option ((((Int) × (Unit)) × (Unit)) × (Unit)) :=
  h2 n 0 a1 a0

noncomputable def laws_heldInt64S (n : Nat) (a0 : List (Int)) (a1 : Int) : Option ((((Int) × (Unit)) × (Unit)) × (Unit)) := laws_heldInt64S_t n (laws_heldInt64S_l2 n) a0 a1

noncomputable def laws_markText_t4 (n : Nat) (g4 : Int → ByteArray → Option ((((ByteArray) × (Unit)) × (Unit)) × (Unit))) (v0 : Int) (v3 : ByteArray) : Option ((((ByteArray) × (Unit)) × (Unit)) × (Unit)) :=
  cond (decide (v0 > 0))
  (cond ((roomStr (byteStr ((IntKind.wrap .u8 (IntKind.wrap .i64 (48 + (Int.tmod v0 10)))) :: [])) v3))
    (g4 ((IntKind.wrap .i64 (Int.tdiv v0 10))) (((byteStr ((IntKind.wrap .u8 (IntKind.wrap .i64 (48 + (Int.tmod v0 10)))) :: [])) ++ v3)))
    (none))
  (cond ((roomStr (ByteArray.mk #[109]) v3))
    (some ((((((ByteArray.mk #[109]) ++ v3), ()), ()), ())))
    (none))

noncomputable def laws_markText_l4 (n : Nat) : Nat → Int → ByteArray → Option ((((ByteArray) × (Unit)) × (Unit)) × (Unit))
  | 0, _, _ => none
  | k + 1, v0, v3 => laws_markText_t4 n (laws_markText_l4 n k) v0 v3

noncomputable def laws_markText_t (n : Nat) (h4 : Nat → Int → ByteArray → Option ((((ByteArray) × (Unit)) × (Unit)) × (Unit))) (a0 : Int) : Option ((((ByteArray) × (Unit)) × (Unit)) × (Unit)) :=
  cond (decide (a0 ≤ 0))
  (some (((((ByteArray.mk #[109, 48]), ()), ()), ())))
  (h4 n a0 ((ByteArray.mk #[])))

noncomputable def laws_markText (n : Nat) (a0 : Int) : Option ((((ByteArray) × (Unit)) × (Unit)) × (Unit)) := laws_markText_t n (laws_markText_l4 n) a0

noncomputable def laws_heldStandardS_t2 (n : Nat) (g2 : Int → (List ((ByteArray) × ((Int) × ((((Int) × (Int)) × ((Int) × (Int))) × (((Int) × (Int)) × ((Int) × (Int))))))) → Int → Option ((((Int) × (Unit)) × (Unit)) × (Unit))) (v5 : Int) (v0 : List ((ByteArray) × ((Int) × ((((Int) × (Int)) × ((Int) × (Int))) × (((Int) × (Int)) × ((Int) × (Int))))))) (v1 : Int) : Option ((((Int) × (Unit)) × (Unit)) × (Unit)) :=
  cond (decide (v5 < ((v0.length : Nat) : Int)))
  (cond ((decide (0 ≤ v5) && decide (v5 < ((v0.length : Nat) : Int))))
    ((laws_markText n v1).bind fun r0 =>
      cond ((!(eqStr (v0.getD (Int.toNat v5) ((ByteArray.mk #[]), (0, (((0, 0), (0, 0)), ((0, 0), (0, 0)))))).1 r0.1.1.1)))
      (some (((((-1), ()), ()), ())))
      (cond ((decide (0 ≤ v5) && decide (v5 < ((v0.length : Nat) : Int))))
        (cond (((v0.getD (Int.toNat v5) ((ByteArray.mk #[]), (0, (((0, 0), (0, 0)), ((0, 0), (0, 0)))))).2.1 != (IntKind.wrap .i64 (v1 + 1))))
          (some (((((-1), ()), ()), ())))
          (cond ((decide (0 ≤ v5) && decide (v5 < ((v0.length : Nat) : Int))))
            (cond (((v0.getD (Int.toNat v5) ((ByteArray.mk #[]), (0, (((0, 0), (0, 0)), ((0, 0), (0, 0)))))).2.2.1.1.1 != (IntKind.wrap .i64 ((IntKind.wrap .i64 (v1 + 1)) + 1))))
              (some (((((-1), ()), ()), ())))
              (cond ((decide (0 ≤ v5) && decide (v5 < ((v0.length : Nat) : Int))))
                (cond (((v0.getD (Int.toNat v5) ((ByteArray.mk #[]), (0, (((0, 0), (0, 0)), ((0, 0), (0, 0)))))).2.2.1.1.2 != (IntKind.wrap .i64 ((IntKind.wrap .i64 ((IntKind.wrap .i64 (v1 + 1)) + 1)) + 1))))
                  (some (((((-1), ()), ()), ())))
                  (cond ((decide (0 ≤ v5) && decide (v5 < ((v0.length : Nat) : Int))))
                    (cond (((v0.getD (Int.toNat v5) ((ByteArray.mk #[]), (0, (((0, 0), (0, 0)), ((0, 0), (0, 0)))))).2.2.1.2.1 != (IntKind.wrap .i64 ((IntKind.wrap .i64 ((IntKind.wrap .i64 ((IntKind.wrap .i64 (v1 + 1)) + 1)) + 1)) + 1))))
                      (some (((((-1), ()), ()), ())))
                      (cond ((decide (0 ≤ v5) && decide (v5 < ((v0.length : Nat) : Int))))
                        (cond (((v0.getD (Int.toNat v5) ((ByteArray.mk #[]), (0, (((0, 0), (0, 0)), ((0, 0), (0, 0)))))).2.2.1.2.2 != (IntKind.wrap .i64 ((IntKind.wrap .i64 ((IntKind.wrap .i64 ((IntKind.wrap .i64 ((IntKind.wrap .i64 (v1 + 1)) + 1)) + 1)) + 1)) + 1))))
                          (some (((((-1), ()), ()), ())))
                          (cond ((decide (0 ≤ v5) && decide (v5 < ((v0.length : Nat) : Int))))
                            (cond (((v0.getD (Int.toNat v5) ((ByteArray.mk #[]), (0, (((0, 0), (0, 0)), ((0, 0), (0, 0)))))).2.2.2.1.1 != (IntKind.wrap .i64 ((IntKind.wrap .i64 ((IntKind.wrap .i64 ((IntKind.wrap .i64 ((IntKind.wrap .i64 ((IntKind.wrap .i64 (v1 + 1)) + 1)) + 1)) + 1)) + 1)) + 1))))
                              (some (((((-1), ()), ()), ())))
                              (cond ((decide (0 ≤ v5) && decide (v5 < ((v0.length : Nat) : Int))))
                                (cond (((v0.getD (Int.toNat v5) ((ByteArray.mk #[]), (0, (((0, 0), (0, 0)), ((0, 0), (0, 0)))))).2.2.2.1.2 != (IntKind.wrap .i64 ((IntKind.wrap .i64 ((IntKind.wrap .i64 ((IntKind.wrap .i64 ((IntKind.wrap .i64 ((IntKind.wrap .i64 ((IntKind.wrap .i64 (v1 + 1)) + 1)) + 1)) + 1)) + 1)) + 1)) + 1))))
                                  (some (((((-1), ()), ()), ())))
                                  (cond ((decide (0 ≤ v5) && decide (v5 < ((v0.length : Nat) : Int))))
                                    (cond (((v0.getD (Int.toNat v5) ((ByteArray.mk #[]), (0, (((0, 0), (0, 0)), ((0, 0), (0, 0)))))).2.2.2.2.1 != (IntKind.wrap .i64 ((IntKind.wrap .i64 ((IntKind.wrap .i64 ((IntKind.wrap .i64 ((IntKind.wrap .i64 ((IntKind.wrap .i64 ((IntKind.wrap .i64 ((IntKind.wrap .i64 (v1 + 1)) + 1)) + 1)) + 1)) + 1)) + 1)) + 1)) + 1))))
                                      (some (((((-1), ()), ()), ())))
                                      (cond ((decide (0 ≤ v5) && decide (v5 < ((v0.length : Nat) : Int))))
                                        (cond (((v0.getD (Int.toNat v5) ((ByteArray.mk #[]), (0, (((0, 0), (0, 0)), ((0, 0), (0, 0)))))).2.2.2.2.2 != (IntKind.wrap .i64 ((IntKind.wrap .i64 ((IntKind.wrap .i64 ((IntKind.wrap .i64 ((IntKind.wrap .i64 ((IntKind.wrap .i64 ((IntKind.wrap .i64 ((IntKind.wrap .i64 ((IntKind.wrap .i64 (v1 + 1)) + 1)) + 1)) + 1)) + 1)) + 1)) + 1)) + 1)) + 1))))
                                          (some (((((-1), ()), ()), ())))
                                          (g2 ((IntKind.wrap .i64 (v5 + 1))) v0 ((IntKind.wrap .i64 ((IntKind.wrap .i64 ((IntKind.wrap .i64 ((IntKind.wrap .i64 ((IntKind.wrap .i64 ((IntKind.wrap .i64 ((IntKind.wrap .i64 ((IntKind.wrap .i64 ((IntKind.wrap .i64 ((IntKind.wrap .i64 (v1 + 1)) + 1)) + 1)) + 1)) + 1)) + 1)) + 1)) + 1)) + 1)) + 1)))))
                                        (none)))
                                    (none)))
                                (none)))
                            (none)))
                        (none)))
                    (none)))
                (none)))
            (none)))
        (none)))
    (none))
  (some ((((v1, ()), ()), ())))

noncomputable def laws_heldStandardS_l2 (n : Nat) : Nat → Int → (List ((ByteArray) × ((Int) × ((((Int) × (Int)) × ((Int) × (Int))) × (((Int) × (Int)) × ((Int) × (Int))))))) → Int → Option ((((Int) × (Unit)) × (Unit)) × (Unit))
  | 0, _, _, _ => none
  | k + 1, v5, v0, v1 => laws_heldStandardS_t2 n (laws_heldStandardS_l2 n k) v5 v0 v1

noncomputable def laws_heldStandardS_t (n : Nat) (h2 : Nat → Int → (List ((ByteArray) × ((Int) × ((((Int) × (Int)) × ((Int) × (Int))) × (((Int) × (Int)) × ((Int) × (Int))))))) → Int → Option ((((Int) × (Unit)) × (Unit)) × (Unit))) (a0 : List ((ByteArray) × ((Int) × ((((Int) × (Int)) × ((Int) × (Int))) × (((Int) × (Int)) × ((Int) × (Int))))))) (a1 : Int) : Option ((((Int) × (Unit)) × (Unit)) × (Unit)) :=
  h2 n 0 a0 a1

noncomputable def laws_heldStandardS (n : Nat) (a0 : List ((ByteArray) × ((Int) × ((((Int) × (Int)) × ((Int) × (Int))) × (((Int) × (Int)) × ((Int) × (Int))))))) (a1 : Int) : Option ((((Int) × (Unit)) × (Unit)) × (Unit)) := laws_heldStandardS_t n (laws_heldStandardS_l2 n) a0 a1

noncomputable def laws_markInt64S_t2 (n : Nat) (g2 : Int → Int → (List (Int)) → Option ((((Int) × (Unit)) × (Unit)) × ((List (Int)) × (Unit)))) (v5 : Int) (v1 : Int) (b0 : List (Int)) : Option ((((Int) × (Unit)) × (Unit)) × ((List (Int)) × (Unit))) :=
  cond (decide (v5 < ((b0.length : Nat) : Int)))
  (cond ((decide (0 ≤ v5) && decide (v5 < ((b0.length : Nat) : Int))))
    (g2 ((IntKind.wrap .i64 (v5 + 1))) ((IntKind.wrap .i64 (v1 + 1))) ((b0.set (Int.toNat v5) v1)))
    (none))
  (some ((((v1, ()), ()), (b0, ()))))

noncomputable def laws_markInt64S_l2 (n : Nat) : Nat → Int → Int → (List (Int)) → Option ((((Int) × (Unit)) × (Unit)) × ((List (Int)) × (Unit)))
  | 0, _, _, _ => none
  | k + 1, v5, v1, b0 => laws_markInt64S_t2 n (laws_markInt64S_l2 n k) v5 v1 b0

noncomputable def laws_markInt64S_t (n : Nat) (h2 : Nat → Int → Int → (List (Int)) → Option ((((Int) × (Unit)) × (Unit)) × ((List (Int)) × (Unit)))) (a1 : Int) (b0 : List (Int)) : Option ((((Int) × (Unit)) × (Unit)) × ((List (Int)) × (Unit))) :=
  h2 n 0 a1 b0

noncomputable def laws_markInt64S (n : Nat) (a1 : Int) (b0 : List (Int)) : Option ((((Int) × (Unit)) × (Unit)) × ((List (Int)) × (Unit))) := laws_markInt64S_t n (laws_markInt64S_l2 n) a1 b0

noncomputable def laws_markStandardS_t2 (n : Nat) (g2 : Int → Int → (List ((ByteArray) × ((Int) × ((((Int) × (Int)) × ((Int) × (Int))) × (((Int) × (Int)) × ((Int) × (Int))))))) → Option ((((Int) × (Unit)) × (Unit)) × ((List ((ByteArray) × ((Int) × ((((Int) × (Int)) × ((Int) × (Int))) × (((Int) × (Int)) × ((Int) × (Int))))))) × (Unit)))) (v5 : Int) (v1 : Int) (b0 : List ((ByteArray) × ((Int) × ((((Int) × (Int)) × ((Int) × (Int))) × (((Int) × (Int)) × ((Int) × (Int))))))) : Option ((((Int) × (Unit)) × (Unit)) × ((List ((ByteArray) × ((Int) × ((((Int) × (Int)) × ((Int) × (Int))) × (((Int) × (Int)) × ((Int) × (Int))))))) × (Unit))) :=
  cond (decide (v5 < ((b0.length : Nat) : Int)))
  ((laws_markText n v1).bind fun r0 =>
    cond ((decide (0 ≤ v5) && decide (v5 < ((b0.length : Nat) : Int))))
    (letIn ((b0.set (Int.toNat v5) (r0.1.1.1, ((b0.getD (Int.toNat v5) ((ByteArray.mk #[]), (0, (((0, 0), (0, 0)), ((0, 0), (0, 0)))))).2.1, ((((b0.getD (Int.toNat v5) ((ByteArray.mk #[]), (0, (((0, 0), (0, 0)), ((0, 0), (0, 0)))))).2.2.1.1.1, (b0.getD (Int.toNat v5) ((ByteArray.mk #[]), (0, (((0, 0), (0, 0)), ((0, 0), (0, 0)))))).2.2.1.1.2), ((b0.getD (Int.toNat v5) ((ByteArray.mk #[]), (0, (((0, 0), (0, 0)), ((0, 0), (0, 0)))))).2.2.1.2.1, (b0.getD (Int.toNat v5) ((ByteArray.mk #[]), (0, (((0, 0), (0, 0)), ((0, 0), (0, 0)))))).2.2.1.2.2)), (((b0.getD (Int.toNat v5) ((ByteArray.mk #[]), (0, (((0, 0), (0, 0)), ((0, 0), (0, 0)))))).2.2.2.1.1, (b0.getD (Int.toNat v5) ((ByteArray.mk #[]), (0, (((0, 0), (0, 0)), ((0, 0), (0, 0)))))).2.2.2.1.2), ((b0.getD (Int.toNat v5) ((ByteArray.mk #[]), (0, (((0, 0), (0, 0)), ((0, 0), (0, 0)))))).2.2.2.2.1, (b0.getD (Int.toNat v5) ((ByteArray.mk #[]), (0, (((0, 0), (0, 0)), ((0, 0), (0, 0)))))).2.2.2.2.2))))))) fun r1 =>
      cond ((decide (0 ≤ v5) && decide (v5 < ((r1.length : Nat) : Int))))
      (letIn ((r1.set (Int.toNat v5) ((r1.getD (Int.toNat v5) ((ByteArray.mk #[]), (0, (((0, 0), (0, 0)), ((0, 0), (0, 0)))))).1, ((IntKind.wrap .i64 (v1 + 1)), ((((r1.getD (Int.toNat v5) ((ByteArray.mk #[]), (0, (((0, 0), (0, 0)), ((0, 0), (0, 0)))))).2.2.1.1.1, (r1.getD (Int.toNat v5) ((ByteArray.mk #[]), (0, (((0, 0), (0, 0)), ((0, 0), (0, 0)))))).2.2.1.1.2), ((r1.getD (Int.toNat v5) ((ByteArray.mk #[]), (0, (((0, 0), (0, 0)), ((0, 0), (0, 0)))))).2.2.1.2.1, (r1.getD (Int.toNat v5) ((ByteArray.mk #[]), (0, (((0, 0), (0, 0)), ((0, 0), (0, 0)))))).2.2.1.2.2)), (((r1.getD (Int.toNat v5) ((ByteArray.mk #[]), (0, (((0, 0), (0, 0)), ((0, 0), (0, 0)))))).2.2.2.1.1, (r1.getD (Int.toNat v5) ((ByteArray.mk #[]), (0, (((0, 0), (0, 0)), ((0, 0), (0, 0)))))).2.2.2.1.2), ((r1.getD (Int.toNat v5) ((ByteArray.mk #[]), (0, (((0, 0), (0, 0)), ((0, 0), (0, 0)))))).2.2.2.2.1, (r1.getD (Int.toNat v5) ((ByteArray.mk #[]), (0, (((0, 0), (0, 0)), ((0, 0), (0, 0)))))).2.2.2.2.2))))))) fun r2 =>
        cond ((decide (0 ≤ v5) && decide (v5 < ((r2.length : Nat) : Int))))
        (letIn ((r2.set (Int.toNat v5) ((r2.getD (Int.toNat v5) ((ByteArray.mk #[]), (0, (((0, 0), (0, 0)), ((0, 0), (0, 0)))))).1, ((r2.getD (Int.toNat v5) ((ByteArray.mk #[]), (0, (((0, 0), (0, 0)), ((0, 0), (0, 0)))))).2.1, ((((IntKind.wrap .i64 ((IntKind.wrap .i64 (v1 + 1)) + 1)), (r2.getD (Int.toNat v5) ((ByteArray.mk #[]), (0, (((0, 0), (0, 0)), ((0, 0), (0, 0)))))).2.2.1.1.2), ((r2.getD (Int.toNat v5) ((ByteArray.mk #[]), (0, (((0, 0), (0, 0)), ((0, 0), (0, 0)))))).2.2.1.2.1, (r2.getD (Int.toNat v5) ((ByteArray.mk #[]), (0, (((0, 0), (0, 0)), ((0, 0), (0, 0)))))).2.2.1.2.2)), (((r2.getD (Int.toNat v5) ((ByteArray.mk #[]), (0, (((0, 0), (0, 0)), ((0, 0), (0, 0)))))).2.2.2.1.1, (r2.getD (Int.toNat v5) ((ByteArray.mk #[]), (0, (((0, 0), (0, 0)), ((0, 0), (0, 0)))))).2.2.2.1.2), ((r2.getD (Int.toNat v5) ((ByteArray.mk #[]), (0, (((0, 0), (0, 0)), ((0, 0), (0, 0)))))).2.2.2.2.1, (r2.getD (Int.toNat v5) ((ByteArray.mk #[]), (0, (((0, 0), (0, 0)), ((0, 0), (0, 0)))))).2.2.2.2.2))))))) fun r3 =>
          cond ((decide (0 ≤ v5) && decide (v5 < ((r3.length : Nat) : Int))))
          (letIn ((r3.set (Int.toNat v5) ((r3.getD (Int.toNat v5) ((ByteArray.mk #[]), (0, (((0, 0), (0, 0)), ((0, 0), (0, 0)))))).1, ((r3.getD (Int.toNat v5) ((ByteArray.mk #[]), (0, (((0, 0), (0, 0)), ((0, 0), (0, 0)))))).2.1, ((((r3.getD (Int.toNat v5) ((ByteArray.mk #[]), (0, (((0, 0), (0, 0)), ((0, 0), (0, 0)))))).2.2.1.1.1, (IntKind.wrap .i64 ((IntKind.wrap .i64 ((IntKind.wrap .i64 (v1 + 1)) + 1)) + 1))), ((r3.getD (Int.toNat v5) ((ByteArray.mk #[]), (0, (((0, 0), (0, 0)), ((0, 0), (0, 0)))))).2.2.1.2.1, (r3.getD (Int.toNat v5) ((ByteArray.mk #[]), (0, (((0, 0), (0, 0)), ((0, 0), (0, 0)))))).2.2.1.2.2)), (((r3.getD (Int.toNat v5) ((ByteArray.mk #[]), (0, (((0, 0), (0, 0)), ((0, 0), (0, 0)))))).2.2.2.1.1, (r3.getD (Int.toNat v5) ((ByteArray.mk #[]), (0, (((0, 0), (0, 0)), ((0, 0), (0, 0)))))).2.2.2.1.2), ((r3.getD (Int.toNat v5) ((ByteArray.mk #[]), (0, (((0, 0), (0, 0)), ((0, 0), (0, 0)))))).2.2.2.2.1, (r3.getD (Int.toNat v5) ((ByteArray.mk #[]), (0, (((0, 0), (0, 0)), ((0, 0), (0, 0)))))).2.2.2.2.2))))))) fun r4 =>
            cond ((decide (0 ≤ v5) && decide (v5 < ((r4.length : Nat) : Int))))
            (letIn ((r4.set (Int.toNat v5) ((r4.getD (Int.toNat v5) ((ByteArray.mk #[]), (0, (((0, 0), (0, 0)), ((0, 0), (0, 0)))))).1, ((r4.getD (Int.toNat v5) ((ByteArray.mk #[]), (0, (((0, 0), (0, 0)), ((0, 0), (0, 0)))))).2.1, ((((r4.getD (Int.toNat v5) ((ByteArray.mk #[]), (0, (((0, 0), (0, 0)), ((0, 0), (0, 0)))))).2.2.1.1.1, (r4.getD (Int.toNat v5) ((ByteArray.mk #[]), (0, (((0, 0), (0, 0)), ((0, 0), (0, 0)))))).2.2.1.1.2), ((IntKind.wrap .i64 ((IntKind.wrap .i64 ((IntKind.wrap .i64 ((IntKind.wrap .i64 (v1 + 1)) + 1)) + 1)) + 1)), (r4.getD (Int.toNat v5) ((ByteArray.mk #[]), (0, (((0, 0), (0, 0)), ((0, 0), (0, 0)))))).2.2.1.2.2)), (((r4.getD (Int.toNat v5) ((ByteArray.mk #[]), (0, (((0, 0), (0, 0)), ((0, 0), (0, 0)))))).2.2.2.1.1, (r4.getD (Int.toNat v5) ((ByteArray.mk #[]), (0, (((0, 0), (0, 0)), ((0, 0), (0, 0)))))).2.2.2.1.2), ((r4.getD (Int.toNat v5) ((ByteArray.mk #[]), (0, (((0, 0), (0, 0)), ((0, 0), (0, 0)))))).2.2.2.2.1, (r4.getD (Int.toNat v5) ((ByteArray.mk #[]), (0, (((0, 0), (0, 0)), ((0, 0), (0, 0)))))).2.2.2.2.2))))))) fun r5 =>
              cond ((decide (0 ≤ v5) && decide (v5 < ((r5.length : Nat) : Int))))
              (letIn ((r5.set (Int.toNat v5) ((r5.getD (Int.toNat v5) ((ByteArray.mk #[]), (0, (((0, 0), (0, 0)), ((0, 0), (0, 0)))))).1, ((r5.getD (Int.toNat v5) ((ByteArray.mk #[]), (0, (((0, 0), (0, 0)), ((0, 0), (0, 0)))))).2.1, ((((r5.getD (Int.toNat v5) ((ByteArray.mk #[]), (0, (((0, 0), (0, 0)), ((0, 0), (0, 0)))))).2.2.1.1.1, (r5.getD (Int.toNat v5) ((ByteArray.mk #[]), (0, (((0, 0), (0, 0)), ((0, 0), (0, 0)))))).2.2.1.1.2), ((r5.getD (Int.toNat v5) ((ByteArray.mk #[]), (0, (((0, 0), (0, 0)), ((0, 0), (0, 0)))))).2.2.1.2.1, (IntKind.wrap .i64 ((IntKind.wrap .i64 ((IntKind.wrap .i64 ((IntKind.wrap .i64 ((IntKind.wrap .i64 (v1 + 1)) + 1)) + 1)) + 1)) + 1)))), (((r5.getD (Int.toNat v5) ((ByteArray.mk #[]), (0, (((0, 0), (0, 0)), ((0, 0), (0, 0)))))).2.2.2.1.1, (r5.getD (Int.toNat v5) ((ByteArray.mk #[]), (0, (((0, 0), (0, 0)), ((0, 0), (0, 0)))))).2.2.2.1.2), ((r5.getD (Int.toNat v5) ((ByteArray.mk #[]), (0, (((0, 0), (0, 0)), ((0, 0), (0, 0)))))).2.2.2.2.1, (r5.getD (Int.toNat v5) ((ByteArray.mk #[]), (0, (((0, 0), (0, 0)), ((0, 0), (0, 0)))))).2.2.2.2.2))))))) fun r6 =>
                cond ((decide (0 ≤ v5) && decide (v5 < ((r6.length : Nat) : Int))))
                (letIn ((r6.set (Int.toNat v5) ((r6.getD (Int.toNat v5) ((ByteArray.mk #[]), (0, (((0, 0), (0, 0)), ((0, 0), (0, 0)))))).1, ((r6.getD (Int.toNat v5) ((ByteArray.mk #[]), (0, (((0, 0), (0, 0)), ((0, 0), (0, 0)))))).2.1, ((((r6.getD (Int.toNat v5) ((ByteArray.mk #[]), (0, (((0, 0), (0, 0)), ((0, 0), (0, 0)))))).2.2.1.1.1, (r6.getD (Int.toNat v5) ((ByteArray.mk #[]), (0, (((0, 0), (0, 0)), ((0, 0), (0, 0)))))).2.2.1.1.2), ((r6.getD (Int.toNat v5) ((ByteArray.mk #[]), (0, (((0, 0), (0, 0)), ((0, 0), (0, 0)))))).2.2.1.2.1, (r6.getD (Int.toNat v5) ((ByteArray.mk #[]), (0, (((0, 0), (0, 0)), ((0, 0), (0, 0)))))).2.2.1.2.2)), (((IntKind.wrap .i64 ((IntKind.wrap .i64 ((IntKind.wrap .i64 ((IntKind.wrap .i64 ((IntKind.wrap .i64 ((IntKind.wrap .i64 (v1 + 1)) + 1)) + 1)) + 1)) + 1)) + 1)), (r6.getD (Int.toNat v5) ((ByteArray.mk #[]), (0, (((0, 0), (0, 0)), ((0, 0), (0, 0)))))).2.2.2.1.2), ((r6.getD (Int.toNat v5) ((ByteArray.mk #[]), (0, (((0, 0), (0, 0)), ((0, 0), (0, 0)))))).2.2.2.2.1, (r6.getD (Int.toNat v5) ((ByteArray.mk #[]), (0, (((0, 0), (0, 0)), ((0, 0), (0, 0)))))).2.2.2.2.2))))))) fun r7 =>
                  cond ((decide (0 ≤ v5) && decide (v5 < ((r7.length : Nat) : Int))))
                  (letIn ((r7.set (Int.toNat v5) ((r7.getD (Int.toNat v5) ((ByteArray.mk #[]), (0, (((0, 0), (0, 0)), ((0, 0), (0, 0)))))).1, ((r7.getD (Int.toNat v5) ((ByteArray.mk #[]), (0, (((0, 0), (0, 0)), ((0, 0), (0, 0)))))).2.1, ((((r7.getD (Int.toNat v5) ((ByteArray.mk #[]), (0, (((0, 0), (0, 0)), ((0, 0), (0, 0)))))).2.2.1.1.1, (r7.getD (Int.toNat v5) ((ByteArray.mk #[]), (0, (((0, 0), (0, 0)), ((0, 0), (0, 0)))))).2.2.1.1.2), ((r7.getD (Int.toNat v5) ((ByteArray.mk #[]), (0, (((0, 0), (0, 0)), ((0, 0), (0, 0)))))).2.2.1.2.1, (r7.getD (Int.toNat v5) ((ByteArray.mk #[]), (0, (((0, 0), (0, 0)), ((0, 0), (0, 0)))))).2.2.1.2.2)), (((r7.getD (Int.toNat v5) ((ByteArray.mk #[]), (0, (((0, 0), (0, 0)), ((0, 0), (0, 0)))))).2.2.2.1.1, (IntKind.wrap .i64 ((IntKind.wrap .i64 ((IntKind.wrap .i64 ((IntKind.wrap .i64 ((IntKind.wrap .i64 ((IntKind.wrap .i64 ((IntKind.wrap .i64 (v1 + 1)) + 1)) + 1)) + 1)) + 1)) + 1)) + 1))), ((r7.getD (Int.toNat v5) ((ByteArray.mk #[]), (0, (((0, 0), (0, 0)), ((0, 0), (0, 0)))))).2.2.2.2.1, (r7.getD (Int.toNat v5) ((ByteArray.mk #[]), (0, (((0, 0), (0, 0)), ((0, 0), (0, 0)))))).2.2.2.2.2))))))) fun r8 =>
                    cond ((decide (0 ≤ v5) && decide (v5 < ((r8.length : Nat) : Int))))
                    (letIn ((r8.set (Int.toNat v5) ((r8.getD (Int.toNat v5) ((ByteArray.mk #[]), (0, (((0, 0), (0, 0)), ((0, 0), (0, 0)))))).1, ((r8.getD (Int.toNat v5) ((ByteArray.mk #[]), (0, (((0, 0), (0, 0)), ((0, 0), (0, 0)))))).2.1, ((((r8.getD (Int.toNat v5) ((ByteArray.mk #[]), (0, (((0, 0), (0, 0)), ((0, 0), (0, 0)))))).2.2.1.1.1, (r8.getD (Int.toNat v5) ((ByteArray.mk #[]), (0, (((0, 0), (0, 0)), ((0, 0), (0, 0)))))).2.2.1.1.2), ((r8.getD (Int.toNat v5) ((ByteArray.mk #[]), (0, (((0, 0), (0, 0)), ((0, 0), (0, 0)))))).2.2.1.2.1, (r8.getD (Int.toNat v5) ((ByteArray.mk #[]), (0, (((0, 0), (0, 0)), ((0, 0), (0, 0)))))).2.2.1.2.2)), (((r8.getD (Int.toNat v5) ((ByteArray.mk #[]), (0, (((0, 0), (0, 0)), ((0, 0), (0, 0)))))).2.2.2.1.1, (r8.getD (Int.toNat v5) ((ByteArray.mk #[]), (0, (((0, 0), (0, 0)), ((0, 0), (0, 0)))))).2.2.2.1.2), ((IntKind.wrap .i64 ((IntKind.wrap .i64 ((IntKind.wrap .i64 ((IntKind.wrap .i64 ((IntKind.wrap .i64 ((IntKind.wrap .i64 ((IntKind.wrap .i64 ((IntKind.wrap .i64 (v1 + 1)) + 1)) + 1)) + 1)) + 1)) + 1)) + 1)) + 1)), (r8.getD (Int.toNat v5) ((ByteArray.mk #[]), (0, (((0, 0), (0, 0)), ((0, 0), (0, 0)))))).2.2.2.2.2))))))) fun r9 =>
                      cond ((decide (0 ≤ v5) && decide (v5 < ((r9.length : Nat) : Int))))
                      (letIn ((r9.set (Int.toNat v5) ((r9.getD (Int.toNat v5) ((ByteArray.mk #[]), (0, (((0, 0), (0, 0)), ((0, 0), (0, 0)))))).1, ((r9.getD (Int.toNat v5) ((ByteArray.mk #[]), (0, (((0, 0), (0, 0)), ((0, 0), (0, 0)))))).2.1, ((((r9.getD (Int.toNat v5) ((ByteArray.mk #[]), (0, (((0, 0), (0, 0)), ((0, 0), (0, 0)))))).2.2.1.1.1, (r9.getD (Int.toNat v5) ((ByteArray.mk #[]), (0, (((0, 0), (0, 0)), ((0, 0), (0, 0)))))).2.2.1.1.2), ((r9.getD (Int.toNat v5) ((ByteArray.mk #[]), (0, (((0, 0), (0, 0)), ((0, 0), (0, 0)))))).2.2.1.2.1, (r9.getD (Int.toNat v5) ((ByteArray.mk #[]), (0, (((0, 0), (0, 0)), ((0, 0), (0, 0)))))).2.2.1.2.2)), (((r9.getD (Int.toNat v5) ((ByteArray.mk #[]), (0, (((0, 0), (0, 0)), ((0, 0), (0, 0)))))).2.2.2.1.1, (r9.getD (Int.toNat v5) ((ByteArray.mk #[]), (0, (((0, 0), (0, 0)), ((0, 0), (0, 0)))))).2.2.2.1.2), ((r9.getD (Int.toNat v5) ((ByteArray.mk #[]), (0, (((0, 0), (0, 0)), ((0, 0), (0, 0)))))).2.2.2.2.1, (IntKind.wrap .i64 ((IntKind.wrap .i64 ((IntKind.wrap .i64 ((IntKind.wrap .i64 ((IntKind.wrap .i64 ((IntKind.wrap .i64 ((IntKind.wrap .i64 ((IntKind.wrap .i64 ((IntKind.wrap .i64 (v1 + 1)) + 1)) + 1)) + 1)) + 1)) + 1)) + 1)) + 1)) + 1))))))))) fun r10 =>
                        g2 ((IntKind.wrap .i64 (v5 + 1))) ((IntKind.wrap .i64 ((IntKind.wrap .i64 ((IntKind.wrap .i64 ((IntKind.wrap .i64 ((IntKind.wrap .i64 ((IntKind.wrap .i64 ((IntKind.wrap .i64 ((IntKind.wrap .i64 ((IntKind.wrap .i64 ((IntKind.wrap .i64 (v1 + 1)) + 1)) + 1)) + 1)) + 1)) + 1)) + 1)) + 1)) + 1)) + 1))) r10)
                      (none))
                    (none))
                  (none))
                (none))
              (none))
            (none))
          (none))
        (none))
      (none))
    (none))
  (some ((((v1, ()), ()), (b0, ()))))

noncomputable def laws_markStandardS_l2 (n : Nat) : Nat → Int → Int → (List ((ByteArray) × ((Int) × ((((Int) × (Int)) × ((Int) × (Int))) × (((Int) × (Int)) × ((Int) × (Int))))))) → Option ((((Int) × (Unit)) × (Unit)) × ((List ((ByteArray) × ((Int) × ((((Int) × (Int)) × ((Int) × (Int))) × (((Int) × (Int)) × ((Int) × (Int))))))) × (Unit)))
  | 0, _, _, _ => none
  | k + 1, v5, v1, b0 => laws_markStandardS_t2 n (laws_markStandardS_l2 n k) v5 v1 b0

noncomputable def laws_markStandardS_t (n : Nat) (h2 : Nat → Int → Int → (List ((ByteArray) × ((Int) × ((((Int) × (Int)) × ((Int) × (Int))) × (((Int) × (Int)) × ((Int) × (Int))))))) → Option ((((Int) × (Unit)) × (Unit)) × ((List ((ByteArray) × ((Int) × ((((Int) × (Int)) × ((Int) × (Int))) × (((Int) × (Int)) × ((Int) × (Int))))))) × (Unit)))) (a1 : Int) (b0 : List ((ByteArray) × ((Int) × ((((Int) × (Int)) × ((Int) × (Int))) × (((Int) × (Int)) × ((Int) × (Int))))))) : Option ((((Int) × (Unit)) × (Unit)) × ((List ((ByteArray) × ((Int) × ((((Int) × (Int)) × ((Int) × (Int))) × (((Int) × (Int)) × ((Int) × (Int))))))) × (Unit))) :=
  h2 n 0 a1 b0

noncomputable def laws_markStandardS (n : Nat) (a1 : Int) (b0 : List ((ByteArray) × ((Int) × ((((Int) × (Int)) × ((Int) × (Int))) × (((Int) × (Int)) × ((Int) × (Int))))))) : Option ((((Int) × (Unit)) × (Unit)) × ((List ((ByteArray) × ((Int) × ((((Int) × (Int)) × ((Int) × (Int))) × (((Int) × (Int)) × ((Int) × (Int))))))) × (Unit))) := laws_markStandardS_t n (laws_markStandardS_l2 n) a1 b0

noncomputable def laws_szObsS_t (n : Nat) (a0 : List (((Int) × ((Int) × ((Int) × ((Int) × ((Int) × (Int)))))) × (((Int) × (Int)) × (Int)))) (a1 : Int) : Option ((((Int) × (Unit)) × (Unit)) × (Unit)) :=
  cond (decide ((IntKind.wrap .i64 (a1 - ((a0.length : Nat) : Int))) < 0))
  (some (((((-1), ()), ()), ())))
  (some (((((IntKind.wrap .i64 (a1 - ((a0.length : Nat) : Int))), ()), ()), ())))

noncomputable def laws_szObsS (n : Nat) (a0 : List (((Int) × ((Int) × ((Int) × ((Int) × ((Int) × (Int)))))) × (((Int) × (Int)) × (Int)))) (a1 : Int) : Option ((((Int) × (Unit)) × (Unit)) × (Unit)) := laws_szObsS_t n a0 a1

noncomputable def laws_szStandard_t (n : Nat) (a0 : (ByteArray) × ((Int) × ((((Int) × (Int)) × ((Int) × (Int))) × (((Int) × (Int)) × ((Int) × (Int)))))) (a1 : Int) : Option ((((Int) × (Unit)) × (Unit)) × (Unit)) :=
  cond (decide ((IntKind.wrap .i64 (a1 - (((ByteArray.size a0.1) : Nat) : Int))) < 0))
  (some (((((-1), ()), ()), ())))
  (some (((((IntKind.wrap .i64 (a1 - (((ByteArray.size a0.1) : Nat) : Int))), ()), ()), ())))

noncomputable def laws_szStandard (n : Nat) (a0 : (ByteArray) × ((Int) × ((((Int) × (Int)) × ((Int) × (Int))) × (((Int) × (Int)) × ((Int) × (Int)))))) (a1 : Int) : Option ((((Int) × (Unit)) × (Unit)) × (Unit)) := laws_szStandard_t n a0 a1

noncomputable def laws_szStandardS_t5 (n : Nat) (g5 : Int → Int → (List ((ByteArray) × ((Int) × ((((Int) × (Int)) × ((Int) × (Int))) × (((Int) × (Int)) × ((Int) × (Int))))))) → Option ((((Int) × (Unit)) × (Unit)) × (Unit))) (v5 : Int) (v1 : Int) (v0 : List ((ByteArray) × ((Int) × ((((Int) × (Int)) × ((Int) × (Int))) × (((Int) × (Int)) × ((Int) × (Int))))))) : Option ((((Int) × (Unit)) × (Unit)) × (Unit)) :=
  cond (decide (v5 < ((v0.length : Nat) : Int)))
  (cond ((decide (0 ≤ v5) && decide (v5 < ((v0.length : Nat) : Int))))
    ((laws_szStandard n (((v0.getD (Int.toNat v5) ((ByteArray.mk #[]), (0, (((0, 0), (0, 0)), ((0, 0), (0, 0)))))).1, ((v0.getD (Int.toNat v5) ((ByteArray.mk #[]), (0, (((0, 0), (0, 0)), ((0, 0), (0, 0)))))).2.1, ((((v0.getD (Int.toNat v5) ((ByteArray.mk #[]), (0, (((0, 0), (0, 0)), ((0, 0), (0, 0)))))).2.2.1.1.1, (v0.getD (Int.toNat v5) ((ByteArray.mk #[]), (0, (((0, 0), (0, 0)), ((0, 0), (0, 0)))))).2.2.1.1.2), ((v0.getD (Int.toNat v5) ((ByteArray.mk #[]), (0, (((0, 0), (0, 0)), ((0, 0), (0, 0)))))).2.2.1.2.1, (v0.getD (Int.toNat v5) ((ByteArray.mk #[]), (0, (((0, 0), (0, 0)), ((0, 0), (0, 0)))))).2.2.1.2.2)), (((v0.getD (Int.toNat v5) ((ByteArray.mk #[]), (0, (((0, 0), (0, 0)), ((0, 0), (0, 0)))))).2.2.2.1.1, (v0.getD (Int.toNat v5) ((ByteArray.mk #[]), (0, (((0, 0), (0, 0)), ((0, 0), (0, 0)))))).2.2.2.1.2), ((v0.getD (Int.toNat v5) ((ByteArray.mk #[]), (0, (((0, 0), (0, 0)), ((0, 0), (0, 0)))))).2.2.2.2.1, (v0.getD (Int.toNat v5) ((ByteArray.mk #[]), (0, (((0, 0), (0, 0)), ((0, 0), (0, 0)))))).2.2.2.2.2)))))) v1).bind fun r0 =>
      cond (decide (r0.1.1.1 < 0))
      (some (((((-1), ()), ()), ())))
      (g5 ((IntKind.wrap .i64 (v5 + 1))) r0.1.1.1 v0))
    (none))
  (some ((((v1, ()), ()), ())))

noncomputable def laws_szStandardS_l5 (n : Nat) : Nat → Int → Int → (List ((ByteArray) × ((Int) × ((((Int) × (Int)) × ((Int) × (Int))) × (((Int) × (Int)) × ((Int) × (Int))))))) → Option ((((Int) × (Unit)) × (Unit)) × (Unit))
  | 0, _, _, _ => none
  | k + 1, v5, v1, v0 => laws_szStandardS_t5 n (laws_szStandardS_l5 n k) v5 v1 v0

noncomputable def laws_szStandardS_t (n : Nat) (h5 : Nat → Int → Int → (List ((ByteArray) × ((Int) × ((((Int) × (Int)) × ((Int) × (Int))) × (((Int) × (Int)) × ((Int) × (Int))))))) → Option ((((Int) × (Unit)) × (Unit)) × (Unit))) (a0 : List ((ByteArray) × ((Int) × ((((Int) × (Int)) × ((Int) × (Int))) × (((Int) × (Int)) × ((Int) × (Int))))))) (a1 : Int) : Option ((((Int) × (Unit)) × (Unit)) × (Unit)) :=
  cond (decide ((IntKind.wrap .i64 (a1 - ((a0.length : Nat) : Int))) < 0))
  (some (((((-1), ()), ()), ())))
  (h5 n 0 ((IntKind.wrap .i64 (a1 - ((a0.length : Nat) : Int)))) a0)

noncomputable def laws_szStandardS (n : Nat) (a0 : List ((ByteArray) × ((Int) × ((((Int) × (Int)) × ((Int) × (Int))) × (((Int) × (Int)) × ((Int) × (Int))))))) (a1 : Int) : Option ((((Int) × (Unit)) × (Unit)) × (Unit)) := laws_szStandardS_t n (laws_szStandardS_l5 n) a0 a1

noncomputable def laws_szTable_t (n : Nat) (a0 : (Int) × ((List (((Int) × ((Int) × ((Int) × ((Int) × ((Int) × (Int)))))) × (((Int) × (Int)) × (Int)))) × ((Bool) × ((Int) × (Int))))) (a1 : Int) : Option ((((Int) × (Unit)) × (Unit)) × (Unit)) :=
  (laws_szObsS n a0.2.1 a1).bind fun r0 =>
  cond (decide (r0.1.1.1 < 0))
  (some (((((-1), ()), ()), ())))
  (some ((((r0.1.1.1, ()), ()), ())))

noncomputable def laws_szTable (n : Nat) (a0 : (Int) × ((List (((Int) × ((Int) × ((Int) × ((Int) × ((Int) × (Int)))))) × (((Int) × (Int)) × (Int)))) × ((Bool) × ((Int) × (Int))))) (a1 : Int) : Option ((((Int) × (Unit)) × (Unit)) × (Unit)) := laws_szTable_t n a0 a1

noncomputable def laws_toFrac_t (n : Nat) (a0 : (Int) × (Int)) : Option (((((Int) × (Int)) × (Unit)) × (Unit)) × (Unit)) :=
  some (((((a0.1, a0.2), ()), ()), ()))

noncomputable def laws_toFrac (n : Nat) (a0 : (Int) × (Int)) : Option (((((Int) × (Int)) × (Unit)) × (Unit)) × (Unit)) := laws_toFrac_t n a0

noncomputable def laws_toInt8A6_t3 (n : Nat) (g3 : Int → Int → Int → Int → Int → Int → Int → Int → Int → Int → Int → Int → Int → Int → Int → Int → Int → Int → Int → Option (((((Int) × ((Int) × ((Int) × ((Int) × ((Int) × (Int)))))) × (Unit)) × (Unit)) × (Unit))) (v4 : Int) (b0_0 : Int) (b0_1 : Int) (b0_2 : Int) (b0_3 : Int) (b0_4 : Int) (b0_5 : Int) (b1_0 : Int) (b1_1 : Int) (b1_2 : Int) (b1_3 : Int) (b1_4 : Int) (b1_5 : Int) (b2_0 : Int) (b2_1 : Int) (b2_2 : Int) (b2_3 : Int) (b2_4 : Int) (b2_5 : Int) : Option (((((Int) × ((Int) × ((Int) × ((Int) × ((Int) × (Int)))))) × (Unit)) × (Unit)) × (Unit)) :=
  cond (decide (v4 < 6))
  (cond ((decide (0 ≤ v4) && decide (v4 < 6)))
    (cond ((decide (0 ≤ v4) && decide (v4 < 6)))
      (g3 ((IntKind.wrap .i64 (v4 + 1))) ((cond (Nat.beq (Int.toNat v4) 0) (cond (Nat.beq (Int.toNat v4) 0) b1_0 (cond (Nat.beq ((Int.toNat v4) - 1) 0) b1_1 (cond (Nat.beq (((Int.toNat v4) - 1) - 1) 0) b1_2 (cond (Nat.beq ((((Int.toNat v4) - 1) - 1) - 1) 0) b1_3 (cond (Nat.beq (((((Int.toNat v4) - 1) - 1) - 1) - 1) 0) b1_4 (cond (Nat.beq ((((((Int.toNat v4) - 1) - 1) - 1) - 1) - 1) 0) b1_5 0)))))) b0_0)) ((cond (Nat.beq (Int.toNat v4) 1) (cond (Nat.beq (Int.toNat v4) 0) b1_0 (cond (Nat.beq ((Int.toNat v4) - 1) 0) b1_1 (cond (Nat.beq (((Int.toNat v4) - 1) - 1) 0) b1_2 (cond (Nat.beq ((((Int.toNat v4) - 1) - 1) - 1) 0) b1_3 (cond (Nat.beq (((((Int.toNat v4) - 1) - 1) - 1) - 1) 0) b1_4 (cond (Nat.beq ((((((Int.toNat v4) - 1) - 1) - 1) - 1) - 1) 0) b1_5 0)))))) b0_1)) ((cond (Nat.beq (Int.toNat v4) 2) (cond (Nat.beq (Int.toNat v4) 0) b1_0 (cond (Nat.beq ((Int.toNat v4) - 1) 0) b1_1 (cond (Nat.beq (((Int.toNat v4) - 1) - 1) 0) b1_2 (cond (Nat.beq ((((Int.toNat v4) - 1) - 1) - 1) 0) b1_3 (cond (Nat.beq (((((Int.toNat v4) - 1) - 1) - 1) - 1) 0) b1_4 (cond (Nat.beq ((((((Int.toNat v4) - 1) - 1) - 1) - 1) - 1) 0) b1_5 0)))))) b0_2)) ((cond (Nat.beq (Int.toNat v4) 3) (cond (Nat.beq (Int.toNat v4) 0) b1_0 (cond (Nat.beq ((Int.toNat v4) - 1) 0) b1_1 (cond (Nat.beq (((Int.toNat v4) - 1) - 1) 0) b1_2 (cond (Nat.beq ((((Int.toNat v4) - 1) - 1) - 1) 0) b1_3 (cond (Nat.beq (((((Int.toNat v4) - 1) - 1) - 1) - 1) 0) b1_4 (cond (Nat.beq ((((((Int.toNat v4) - 1) - 1) - 1) - 1) - 1) 0) b1_5 0)))))) b0_3)) ((cond (Nat.beq (Int.toNat v4) 4) (cond (Nat.beq (Int.toNat v4) 0) b1_0 (cond (Nat.beq ((Int.toNat v4) - 1) 0) b1_1 (cond (Nat.beq (((Int.toNat v4) - 1) - 1) 0) b1_2 (cond (Nat.beq ((((Int.toNat v4) - 1) - 1) - 1) 0) b1_3 (cond (Nat.beq (((((Int.toNat v4) - 1) - 1) - 1) - 1) 0) b1_4 (cond (Nat.beq ((((((Int.toNat v4) - 1) - 1) - 1) - 1) - 1) 0) b1_5 0)))))) b0_4)) ((cond (Nat.beq (Int.toNat v4) 5) (cond (Nat.beq (Int.toNat v4) 0) b1_0 (cond (Nat.beq ((Int.toNat v4) - 1) 0) b1_1 (cond (Nat.beq (((Int.toNat v4) - 1) - 1) 0) b1_2 (cond (Nat.beq ((((Int.toNat v4) - 1) - 1) - 1) 0) b1_3 (cond (Nat.beq (((((Int.toNat v4) - 1) - 1) - 1) - 1) 0) b1_4 (cond (Nat.beq ((((((Int.toNat v4) - 1) - 1) - 1) - 1) - 1) 0) b1_5 0)))))) b0_5)) b1_0 b1_1 b1_2 b1_3 b1_4 b1_5 b2_0 b2_1 b2_2 b2_3 b2_4 b2_5)
      (none))
    (none))
  (some (((((b0_0, (b0_1, (b0_2, (b0_3, (b0_4, b0_5))))), ()), ()), ())))

noncomputable def laws_toInt8A6_l3 (n : Nat) : Nat → Int → Int → Int → Int → Int → Int → Int → Int → Int → Int → Int → Int → Int → Int → Int → Int → Int → Int → Int → Option (((((Int) × ((Int) × ((Int) × ((Int) × ((Int) × (Int)))))) × (Unit)) × (Unit)) × (Unit))
  | 0, _, _, _, _, _, _, _, _, _, _, _, _, _, _, _, _, _, _, _ => none
  | k + 1, v4, b0_0, b0_1, b0_2, b0_3, b0_4, b0_5, b1_0, b1_1, b1_2, b1_3, b1_4, b1_5, b2_0, b2_1, b2_2, b2_3, b2_4, b2_5 => laws_toInt8A6_t3 n (laws_toInt8A6_l3 n k) v4 b0_0 b0_1 b0_2 b0_3 b0_4 b0_5 b1_0 b1_1 b1_2 b1_3 b1_4 b1_5 b2_0 b2_1 b2_2 b2_3 b2_4 b2_5

noncomputable def laws_toInt8A6_t (n : Nat) (h3 : Nat → Int → Int → Int → Int → Int → Int → Int → Int → Int → Int → Int → Int → Int → Int → Int → Int → Int → Int → Int → Option (((((Int) × ((Int) × ((Int) × ((Int) × ((Int) × (Int)))))) × (Unit)) × (Unit)) × (Unit))) (a0 : (Int) × ((Int) × ((Int) × ((Int) × ((Int) × (Int)))))) : Option (((((Int) × ((Int) × ((Int) × ((Int) × ((Int) × (Int)))))) × (Unit)) × (Unit)) × (Unit)) :=
  h3 n 0 0 0 0 0 0 0 a0.1 a0.2.1 a0.2.2.1 a0.2.2.2.1 a0.2.2.2.2.1 a0.2.2.2.2.2 0 0 0 0 0 0

noncomputable def laws_toInt8A6 (n : Nat) (a0 : (Int) × ((Int) × ((Int) × ((Int) × ((Int) × (Int)))))) : Option (((((Int) × ((Int) × ((Int) × ((Int) × ((Int) × (Int)))))) × (Unit)) × (Unit)) × (Unit)) := laws_toInt8A6_t n (laws_toInt8A6_l3 n) a0

noncomputable def laws_toObs_t (n : Nat) (a0 : ((Int) × ((Int) × ((Int) × ((Int) × ((Int) × (Int)))))) × (((Int) × (Int)) × (Int))) : Option ((((((Int) × ((Int) × ((Int) × ((Int) × ((Int) × (Int)))))) × (((Int) × (Int)) × (Int))) × (Unit)) × (Unit)) × (Unit)) :=
  (laws_toInt8A6 n ((a0.1.1, (a0.1.2.1, (a0.1.2.2.1, (a0.1.2.2.2.1, (a0.1.2.2.2.2.1, a0.1.2.2.2.2.2))))))).bind fun r0 =>
  (laws_toFrac n ((a0.2.1.1, a0.2.1.2))).bind fun r1 =>
  some ((((((r0.1.1.1.1, (r0.1.1.1.2.1, (r0.1.1.1.2.2.1, (r0.1.1.1.2.2.2.1, (r0.1.1.1.2.2.2.2.1, r0.1.1.1.2.2.2.2.2))))), ((r1.1.1.1.1, r1.1.1.1.2), a0.2.2)), ()), ()), ()))

noncomputable def laws_toObs (n : Nat) (a0 : ((Int) × ((Int) × ((Int) × ((Int) × ((Int) × (Int)))))) × (((Int) × (Int)) × (Int))) : Option ((((((Int) × ((Int) × ((Int) × ((Int) × ((Int) × (Int)))))) × (((Int) × (Int)) × (Int))) × (Unit)) × (Unit)) × (Unit)) := laws_toObs_t n a0

noncomputable def laws_toObsS_t3 (n : Nat) (g3 : Int → (List (((Int) × ((Int) × ((Int) × ((Int) × ((Int) × (Int)))))) × (((Int) × (Int)) × (Int)))) → (List (((Int) × ((Int) × ((Int) × ((Int) × ((Int) × (Int)))))) × (((Int) × (Int)) × (Int)))) → Option ((((List (((Int) × ((Int) × ((Int) × ((Int) × ((Int) × (Int)))))) × (((Int) × (Int)) × (Int)))) × (Unit)) × (Unit)) × (Unit))) (v4 : Int) (v0 : List (((Int) × ((Int) × ((Int) × ((Int) × ((Int) × (Int)))))) × (((Int) × (Int)) × (Int)))) (b0 : List (((Int) × ((Int) × ((Int) × ((Int) × ((Int) × (Int)))))) × (((Int) × (Int)) × (Int)))) : Option ((((List (((Int) × ((Int) × ((Int) × ((Int) × ((Int) × (Int)))))) × (((Int) × (Int)) × (Int)))) × (Unit)) × (Unit)) × (Unit)) :=
  cond (decide (v4 < ((v0.length : Nat) : Int)))
  (cond ((decide (0 ≤ v4) && decide (v4 < ((v0.length : Nat) : Int))))
    ((laws_toObs n ((((v0.getD (Int.toNat v4) ((0, (0, (0, (0, (0, 0))))), ((0, 0), 0))).1.1, ((v0.getD (Int.toNat v4) ((0, (0, (0, (0, (0, 0))))), ((0, 0), 0))).1.2.1, ((v0.getD (Int.toNat v4) ((0, (0, (0, (0, (0, 0))))), ((0, 0), 0))).1.2.2.1, ((v0.getD (Int.toNat v4) ((0, (0, (0, (0, (0, 0))))), ((0, 0), 0))).1.2.2.2.1, ((v0.getD (Int.toNat v4) ((0, (0, (0, (0, (0, 0))))), ((0, 0), 0))).1.2.2.2.2.1, (v0.getD (Int.toNat v4) ((0, (0, (0, (0, (0, 0))))), ((0, 0), 0))).1.2.2.2.2.2))))), (((v0.getD (Int.toNat v4) ((0, (0, (0, (0, (0, 0))))), ((0, 0), 0))).2.1.1, (v0.getD (Int.toNat v4) ((0, (0, (0, (0, (0, 0))))), ((0, 0), 0))).2.1.2), (v0.getD (Int.toNat v4) ((0, (0, (0, (0, (0, 0))))), ((0, 0), 0))).2.2)))).bind fun r0 =>
      cond ((decide (0 ≤ v4) && decide (v4 < ((b0.length : Nat) : Int))))
      (letIn ((b0.set (Int.toNat v4) ((r0.1.1.1.1.1, (r0.1.1.1.1.2.1, (r0.1.1.1.1.2.2.1, (r0.1.1.1.1.2.2.2.1, (r0.1.1.1.1.2.2.2.2.1, r0.1.1.1.1.2.2.2.2.2))))), ((r0.1.1.1.2.1.1, r0.1.1.1.2.1.2), r0.1.1.1.2.2)))) fun r1 =>
        g3 ((IntKind.wrap .i64 (v4 + 1))) v0 r1)
      (none))
    (none))
  (some ((((b0, ()), ()), ())))

noncomputable def laws_toObsS_l3 (n : Nat) : Nat → Int → (List (((Int) × ((Int) × ((Int) × ((Int) × ((Int) × (Int)))))) × (((Int) × (Int)) × (Int)))) → (List (((Int) × ((Int) × ((Int) × ((Int) × ((Int) × (Int)))))) × (((Int) × (Int)) × (Int)))) → Option ((((List (((Int) × ((Int) × ((Int) × ((Int) × ((Int) × (Int)))))) × (((Int) × (Int)) × (Int)))) × (Unit)) × (Unit)) × (Unit))
  | 0, _, _, _ => none
  | k + 1, v4, v0, b0 => laws_toObsS_t3 n (laws_toObsS_l3 n k) v4 v0 b0

noncomputable def laws_toObsS_t (n : Nat) (h3 : Nat → Int → (List (((Int) × ((Int) × ((Int) × ((Int) × ((Int) × (Int)))))) × (((Int) × (Int)) × (Int)))) → (List (((Int) × ((Int) × ((Int) × ((Int) × ((Int) × (Int)))))) × (((Int) × (Int)) × (Int)))) → Option ((((List (((Int) × ((Int) × ((Int) × ((Int) × ((Int) × (Int)))))) × (((Int) × (Int)) × (Int)))) × (Unit)) × (Unit)) × (Unit))) (a0 : List (((Int) × ((Int) × ((Int) × ((Int) × ((Int) × (Int)))))) × (((Int) × (Int)) × (Int)))) : Option ((((List (((Int) × ((Int) × ((Int) × ((Int) × ((Int) × (Int)))))) × (((Int) × (Int)) × (Int)))) × (Unit)) × (Unit)) × (Unit)) :=
  cond ((((((a0.length : Nat) : Int) == ((a0.length : Nat) : Int)) && decide (0 ≤ ((a0.length : Nat) : Int))) && decide (((Int.toNat ((a0.length : Nat) : Int)) * 33) ≤ 70368744177664)))
  (h3 n 0 a0 ((List.replicate (Int.toNat ((a0.length : Nat) : Int)) (((0, (0, (0, (0, (0, 0))))), ((0, 0), 0)) : ((Int) × ((Int) × ((Int) × ((Int) × ((Int) × (Int)))))) × (((Int) × (Int)) × (Int))))))
  (none)

noncomputable def laws_toObsS (n : Nat) (a0 : List (((Int) × ((Int) × ((Int) × ((Int) × ((Int) × (Int)))))) × (((Int) × (Int)) × (Int)))) : Option ((((List (((Int) × ((Int) × ((Int) × ((Int) × ((Int) × (Int)))))) × (((Int) × (Int)) × (Int)))) × (Unit)) × (Unit)) × (Unit)) := laws_toObsS_t n (laws_toObsS_l3 n) a0

noncomputable def laws_toSpan_t (n : Nat) (a0 : ((Int) × (Int)) × ((Int) × (Int))) : Option ((((((Int) × (Int)) × ((Int) × (Int))) × (Unit)) × (Unit)) × (Unit)) :=
  (laws_toFrac n ((a0.1.1, a0.1.2))).bind fun r0 =>
  (laws_toFrac n ((a0.2.1, a0.2.2))).bind fun r1 =>
  some ((((((r0.1.1.1.1, r0.1.1.1.2), (r1.1.1.1.1, r1.1.1.1.2)), ()), ()), ()))

noncomputable def laws_toSpan (n : Nat) (a0 : ((Int) × (Int)) × ((Int) × (Int))) : Option ((((((Int) × (Int)) × ((Int) × (Int))) × (Unit)) × (Unit)) × (Unit)) := laws_toSpan_t n a0

noncomputable def laws_toStandard_t (n : Nat) (a0 : (ByteArray) × ((Int) × ((((Int) × (Int)) × ((Int) × (Int))) × (((Int) × (Int)) × ((Int) × (Int)))))) : Option (((((ByteArray) × ((Int) × ((((Int) × (Int)) × ((Int) × (Int))) × (((Int) × (Int)) × ((Int) × (Int)))))) × (Unit)) × (Unit)) × (Unit)) :=
  (laws_toSpan n (((a0.2.2.1.1.1, a0.2.2.1.1.2), (a0.2.2.1.2.1, a0.2.2.1.2.2)))).bind fun r0 =>
  (laws_toFrac n ((a0.2.2.2.1.1, a0.2.2.2.1.2))).bind fun r1 =>
  some (((((a0.1, (a0.2.1, (((r0.1.1.1.1.1, r0.1.1.1.1.2), (r0.1.1.1.2.1, r0.1.1.1.2.2)), ((r1.1.1.1.1, r1.1.1.1.2), (a0.2.2.2.2.1, a0.2.2.2.2.2))))), ()), ()), ()))

noncomputable def laws_toStandard (n : Nat) (a0 : (ByteArray) × ((Int) × ((((Int) × (Int)) × ((Int) × (Int))) × (((Int) × (Int)) × ((Int) × (Int)))))) : Option (((((ByteArray) × ((Int) × ((((Int) × (Int)) × ((Int) × (Int))) × (((Int) × (Int)) × ((Int) × (Int)))))) × (Unit)) × (Unit)) × (Unit)) := laws_toStandard_t n a0

noncomputable def laws_toStandardS_t3 (n : Nat) (g3 : Int → (List ((ByteArray) × ((Int) × ((((Int) × (Int)) × ((Int) × (Int))) × (((Int) × (Int)) × ((Int) × (Int))))))) → (List ((ByteArray) × ((Int) × ((((Int) × (Int)) × ((Int) × (Int))) × (((Int) × (Int)) × ((Int) × (Int))))))) → Option ((((List ((ByteArray) × ((Int) × ((((Int) × (Int)) × ((Int) × (Int))) × (((Int) × (Int)) × ((Int) × (Int))))))) × (Unit)) × (Unit)) × (Unit))) (v4 : Int) (v0 : List ((ByteArray) × ((Int) × ((((Int) × (Int)) × ((Int) × (Int))) × (((Int) × (Int)) × ((Int) × (Int))))))) (b0 : List ((ByteArray) × ((Int) × ((((Int) × (Int)) × ((Int) × (Int))) × (((Int) × (Int)) × ((Int) × (Int))))))) : Option ((((List ((ByteArray) × ((Int) × ((((Int) × (Int)) × ((Int) × (Int))) × (((Int) × (Int)) × ((Int) × (Int))))))) × (Unit)) × (Unit)) × (Unit)) :=
  cond (decide (v4 < ((v0.length : Nat) : Int)))
  (cond ((decide (0 ≤ v4) && decide (v4 < ((v0.length : Nat) : Int))))
    ((laws_toStandard n (((v0.getD (Int.toNat v4) ((ByteArray.mk #[]), (0, (((0, 0), (0, 0)), ((0, 0), (0, 0)))))).1, ((v0.getD (Int.toNat v4) ((ByteArray.mk #[]), (0, (((0, 0), (0, 0)), ((0, 0), (0, 0)))))).2.1, ((((v0.getD (Int.toNat v4) ((ByteArray.mk #[]), (0, (((0, 0), (0, 0)), ((0, 0), (0, 0)))))).2.2.1.1.1, (v0.getD (Int.toNat v4) ((ByteArray.mk #[]), (0, (((0, 0), (0, 0)), ((0, 0), (0, 0)))))).2.2.1.1.2), ((v0.getD (Int.toNat v4) ((ByteArray.mk #[]), (0, (((0, 0), (0, 0)), ((0, 0), (0, 0)))))).2.2.1.2.1, (v0.getD (Int.toNat v4) ((ByteArray.mk #[]), (0, (((0, 0), (0, 0)), ((0, 0), (0, 0)))))).2.2.1.2.2)), (((v0.getD (Int.toNat v4) ((ByteArray.mk #[]), (0, (((0, 0), (0, 0)), ((0, 0), (0, 0)))))).2.2.2.1.1, (v0.getD (Int.toNat v4) ((ByteArray.mk #[]), (0, (((0, 0), (0, 0)), ((0, 0), (0, 0)))))).2.2.2.1.2), ((v0.getD (Int.toNat v4) ((ByteArray.mk #[]), (0, (((0, 0), (0, 0)), ((0, 0), (0, 0)))))).2.2.2.2.1, (v0.getD (Int.toNat v4) ((ByteArray.mk #[]), (0, (((0, 0), (0, 0)), ((0, 0), (0, 0)))))).2.2.2.2.2))))))).bind fun r0 =>
      cond ((decide (0 ≤ v4) && decide (v4 < ((b0.length : Nat) : Int))))
      (letIn ((b0.set (Int.toNat v4) (r0.1.1.1.1, (r0.1.1.1.2.1, (((r0.1.1.1.2.2.1.1.1, r0.1.1.1.2.2.1.1.2), (r0.1.1.1.2.2.1.2.1, r0.1.1.1.2.2.1.2.2)), ((r0.1.1.1.2.2.2.1.1, r0.1.1.1.2.2.2.1.2), (r0.1.1.1.2.2.2.2.1, r0.1.1.1.2.2.2.2.2))))))) fun r1 =>
        g3 ((IntKind.wrap .i64 (v4 + 1))) v0 r1)
      (none))
    (none))
  (some ((((b0, ()), ()), ())))

noncomputable def laws_toStandardS_l3 (n : Nat) : Nat → Int → (List ((ByteArray) × ((Int) × ((((Int) × (Int)) × ((Int) × (Int))) × (((Int) × (Int)) × ((Int) × (Int))))))) → (List ((ByteArray) × ((Int) × ((((Int) × (Int)) × ((Int) × (Int))) × (((Int) × (Int)) × ((Int) × (Int))))))) → Option ((((List ((ByteArray) × ((Int) × ((((Int) × (Int)) × ((Int) × (Int))) × (((Int) × (Int)) × ((Int) × (Int))))))) × (Unit)) × (Unit)) × (Unit))
  | 0, _, _, _ => none
  | k + 1, v4, v0, b0 => laws_toStandardS_t3 n (laws_toStandardS_l3 n k) v4 v0 b0

noncomputable def laws_toStandardS_t (n : Nat) (h3 : Nat → Int → (List ((ByteArray) × ((Int) × ((((Int) × (Int)) × ((Int) × (Int))) × (((Int) × (Int)) × ((Int) × (Int))))))) → (List ((ByteArray) × ((Int) × ((((Int) × (Int)) × ((Int) × (Int))) × (((Int) × (Int)) × ((Int) × (Int))))))) → Option ((((List ((ByteArray) × ((Int) × ((((Int) × (Int)) × ((Int) × (Int))) × (((Int) × (Int)) × ((Int) × (Int))))))) × (Unit)) × (Unit)) × (Unit))) (a0 : List ((ByteArray) × ((Int) × ((((Int) × (Int)) × ((Int) × (Int))) × (((Int) × (Int)) × ((Int) × (Int))))))) : Option ((((List ((ByteArray) × ((Int) × ((((Int) × (Int)) × ((Int) × (Int))) × (((Int) × (Int)) × ((Int) × (Int))))))) × (Unit)) × (Unit)) × (Unit)) :=
  cond ((((((a0.length : Nat) : Int) == ((a0.length : Nat) : Int)) && decide (0 ≤ ((a0.length : Nat) : Int))) && decide (((Int.toNat ((a0.length : Nat) : Int)) * 89) ≤ 70368744177664)))
  (h3 n 0 a0 ((List.replicate (Int.toNat ((a0.length : Nat) : Int)) (((ByteArray.mk #[]), (0, (((0, 0), (0, 0)), ((0, 0), (0, 0))))) : (ByteArray) × ((Int) × ((((Int) × (Int)) × ((Int) × (Int))) × (((Int) × (Int)) × ((Int) × (Int)))))))))
  (none)

noncomputable def laws_toStandardS (n : Nat) (a0 : List ((ByteArray) × ((Int) × ((((Int) × (Int)) × ((Int) × (Int))) × (((Int) × (Int)) × ((Int) × (Int))))))) : Option ((((List ((ByteArray) × ((Int) × ((((Int) × (Int)) × ((Int) × (Int))) × (((Int) × (Int)) × ((Int) × (Int))))))) × (Unit)) × (Unit)) × (Unit)) := laws_toStandardS_t n (laws_toStandardS_l3 n) a0

noncomputable def laws_toTable_t (n : Nat) (a0 : (Int) × ((List (((Int) × ((Int) × ((Int) × ((Int) × ((Int) × (Int)))))) × (((Int) × (Int)) × (Int)))) × ((Bool) × ((Int) × (Int))))) : Option ((((Int) × ((List (((Int) × ((Int) × ((Int) × ((Int) × ((Int) × (Int)))))) × (((Int) × (Int)) × (Int)))) × (((Bool) × ((Int) × (Int))) × (Unit)))) × (Unit)) × (Unit)) :=
  (laws_toObsS n a0.2.1).bind fun r0 =>
  (laws_toFrac n ((a0.2.2.2.1, a0.2.2.2.2))).bind fun r1 =>
  some ((((a0.1, (r0.1.1.1, ((a0.2.2.1, (r1.1.1.1.1, r1.1.1.1.2)), ()))), ()), ()))

noncomputable def laws_toTable (n : Nat) (a0 : (Int) × ((List (((Int) × ((Int) × ((Int) × ((Int) × ((Int) × (Int)))))) × (((Int) × (Int)) × (Int)))) × ((Bool) × ((Int) × (Int))))) : Option ((((Int) × ((List (((Int) × ((Int) × ((Int) × ((Int) × ((Int) × (Int)))))) × (((Int) × (Int)) × (Int)))) × (((Bool) × ((Int) × (Int))) × (Unit)))) × (Unit)) × (Unit)) := laws_toTable_t n a0

noncomputable def spec_Decimal_t (n : Nat) (rec : Int → Option ((((ByteArray) × (Unit)) × (Unit)) × (Unit))) (a0 : Int) : Option ((((ByteArray) × (Unit)) × (Unit)) × (Unit)) :=
  cond (decide (a0 < 10))
  (some (((((byteStr ((IntKind.wrap .u8 (IntKind.wrap .i64 (48 + (Int.tmod a0 10)))) :: [])), ()), ()), ())))
  ((rec ((IntKind.wrap .i64 (Int.tdiv a0 10)))).bind fun r0 =>
    cond ((roomStr r0.1.1.1 (byteStr ((IntKind.wrap .u8 (IntKind.wrap .i64 (48 + (Int.tmod a0 10)))) :: []))))
    (some (((((r0.1.1.1 ++ (byteStr ((IntKind.wrap .u8 (IntKind.wrap .i64 (48 + (Int.tmod a0 10)))) :: []))), ()), ()), ())))
    (none))

noncomputable def spec_Decimal_r (n : Nat) : Nat → Int → Option ((((ByteArray) × (Unit)) × (Unit)) × (Unit))
  | 0, _ => none
  | d + 1, a0 => spec_Decimal_t n (spec_Decimal_r n d) a0

noncomputable def spec_Decimal (n : Nat) (a0 : Int) : Option ((((ByteArray) × (Unit)) × (Unit)) × (Unit)) := spec_Decimal_r n n a0

noncomputable def spec_l03Angle_t (n : Nat) (a0 : Int) : Option ((((Bool) × (Unit)) × (Unit)) × (Unit)) :=
  (spec_l00In n a0 0 1295999).bind fun r0 =>
  some ((((r0.1.1.1, ()), ()), ()))

noncomputable def spec_l03Angle (n : Nat) (a0 : Int) : Option ((((Bool) × (Unit)) × (Unit)) × (Unit)) := spec_l03Angle_t n a0

noncomputable def spec_l03Two_t (n : Nat) (a0 : Int) : Option ((((ByteArray) × (Unit)) × (Unit)) × (Unit)) :=
  (spec_Decimal n ((IntKind.wrap .i64 (Int.tdiv a0 10)))).bind fun r0 =>
  (spec_Decimal n ((Int.tmod a0 10))).bind fun r1 =>
  cond ((roomStr r0.1.1.1 r1.1.1.1))
  (some (((((r0.1.1.1 ++ r1.1.1.1), ()), ()), ())))
  (none)

noncomputable def spec_l03Two (n : Nat) (a0 : Int) : Option ((((ByteArray) × (Unit)) × (Unit)) × (Unit)) := spec_l03Two_t n a0

noncomputable def spec_AngleText_t (n : Nat) (a0 : Int) : Option ((((ByteArray) × (Unit)) × (Unit)) × (Unit)) :=
  (spec_l03Angle n a0).bind fun r0 =>
  cond (!r0.1.1.1)
  (some (((((ByteArray.mk #[]), ()), ()), ())))
  ((spec_Decimal n ((IntKind.wrap .i64 (Int.tdiv a0 3600)))).bind fun r1 =>
    cond ((roomStr r1.1.1.1 (ByteArray.mk #[58])))
    ((spec_l03Two n ((Int.tmod (IntKind.wrap .i64 (Int.tdiv a0 60)) 60))).bind fun r2 =>
      cond ((roomStr (r1.1.1.1 ++ (ByteArray.mk #[58])) r2.1.1.1))
      (cond ((roomStr ((r1.1.1.1 ++ (ByteArray.mk #[58])) ++ r2.1.1.1) (ByteArray.mk #[58])))
        ((spec_l03Two n ((Int.tmod a0 60))).bind fun r3 =>
          cond ((roomStr (((r1.1.1.1 ++ (ByteArray.mk #[58])) ++ r2.1.1.1) ++ (ByteArray.mk #[58])) r3.1.1.1))
          (some ((((((((r1.1.1.1 ++ (ByteArray.mk #[58])) ++ r2.1.1.1) ++ (ByteArray.mk #[58])) ++ r3.1.1.1), ()), ()), ())))
          (none))
        (none))
      (none))
    (none))

noncomputable def spec_AngleText (n : Nat) (a0 : Int) : Option ((((ByteArray) × (Unit)) × (Unit)) × (Unit)) := spec_AngleText_t n a0

noncomputable def spec_ReadAngle_t8 (n : Nat) (g8 : Int → Int → (List (ByteArray)) → Option ((((Int) × (Unit)) × (((Int) × (Unit)) × (Unit))) × (Unit))) (v7 : Int) (v5 : Int) (b0 : List (ByteArray)) : Option ((((Int) × (Unit)) × (((Int) × (Unit)) × (Unit))) × (Unit)) :=
  cond (decide (v7 < 3))
  (cond ((decide (0 ≤ v7) && decide (v7 < ((b0.length : Nat) : Int))))
    (cond (decide (0 < (((ByteArray.size (b0.getD (Int.toNat v7) (ByteArray.mk #[]))) : Nat) : Int)))
      (cond ((decide (0 ≤ v7) && decide (v7 < ((b0.length : Nat) : Int))))
        (cond (decide (1 < (((ByteArray.size (b0.getD (Int.toNat v7) (ByteArray.mk #[]))) : Nat) : Int)))
          ((spec_l00In n ((IntKind.wrap .i64 ((IntKind.wrap .i64 (byteAt (b0.getD (Int.toNat v7) (ByteArray.mk #[])) 0)) - 48))) 0 5).bind fun r2 =>
            cond (!r2.1.1.1)
            (some ((((0, ()), ((5, ()), ())), ())))
            ((spec_l00In n ((IntKind.wrap .i64 ((IntKind.wrap .i64 (byteAt (b0.getD (Int.toNat v7) (ByteArray.mk #[])) 1)) - 48))) 0 9).bind fun r3 =>
              cond (!r3.1.1.1)
              (some ((((0, ()), ((5, ()), ())), ())))
              (g8 ((IntKind.wrap .i64 (v7 + 1))) ((IntKind.wrap .i64 ((IntKind.wrap .i64 ((IntKind.wrap .i64 (60 * v5)) + (IntKind.wrap .i64 (10 * (IntKind.wrap .i64 ((IntKind.wrap .i64 (byteAt (b0.getD (Int.toNat v7) (ByteArray.mk #[])) 0)) - 48)))))) + (IntKind.wrap .i64 ((IntKind.wrap .i64 (byteAt (b0.getD (Int.toNat v7) (ByteArray.mk #[])) 1)) - 48))))) b0)))
          (none))
        (none))
      (none))
    (none))
  (some ((((v5, ()), ((0, ()), ())), ())))

noncomputable def spec_ReadAngle_l8 (n : Nat) : Nat → Int → Int → (List (ByteArray)) → Option ((((Int) × (Unit)) × (((Int) × (Unit)) × (Unit))) × (Unit))
  | 0, _, _, _ => none
  | k + 1, v7, v5, b0 => spec_ReadAngle_t8 n (spec_ReadAngle_l8 n k) v7 v5 b0

noncomputable def spec_ReadAngle_t (n : Nat) (h8 : Nat → Int → Int → (List (ByteArray)) → Option ((((Int) × (Unit)) × (((Int) × (Unit)) × (Unit))) × (Unit))) (a0 : ByteArray) : Option ((((Int) × (Unit)) × (((Int) × (Unit)) × (Unit))) × (Unit)) :=
  (spec_l01Split n a0 58).bind fun r0 =>
  cond ((((r0.1.1.1.length : Nat) : Int) != 3))
  (some ((((0, ()), ((5, ()), ())), ())))
  (cond (decide (1 < ((r0.1.1.1.length : Nat) : Int)))
    (cond (((((ByteArray.size (r0.1.1.1.getD (Int.toNat 1) (ByteArray.mk #[]))) : Nat) : Int) != 2))
      (some ((((0, ()), ((5, ()), ())), ())))
      (cond (decide (2 < ((r0.1.1.1.length : Nat) : Int)))
        (cond (((((ByteArray.size (r0.1.1.1.getD (Int.toNat 2) (ByteArray.mk #[]))) : Nat) : Int) != 2))
          (some ((((0, ()), ((5, ()), ())), ())))
          (cond (decide (0 < ((r0.1.1.1.length : Nat) : Int)))
            ((spec_l01Number n ((r0.1.1.1.getD (Int.toNat 0) (ByteArray.mk #[])))).bind fun r1 =>
              cond (!r1.1.2.1.1)
              (some ((((0, ()), ((5, ()), ())), ())))
              (cond (decide (r1.1.1.1 > 359))
                (some ((((0, ()), ((5, ()), ())), ())))
                (h8 n 1 r1.1.1.1 r0.1.1.1)))
            (none)))
        (none)))
    (none))

noncomputable def spec_ReadAngle (n : Nat) (a0 : ByteArray) : Option ((((Int) × (Unit)) × (((Int) × (Unit)) × (Unit))) × (Unit)) := spec_ReadAngle_t n (spec_ReadAngle_l8 n) a0

noncomputable def spec_Signed_t (n : Nat) (a0 : Int) : Option ((((ByteArray) × (Unit)) × (Unit)) × (Unit)) :=
  cond (decide (a0 < 0))
  ((spec_Decimal n ((IntKind.wrap .i64 (0 - a0)))).bind fun r0 =>
    cond ((roomStr (ByteArray.mk #[45]) r0.1.1.1))
    (some ((((((ByteArray.mk #[45]) ++ r0.1.1.1), ()), ()), ())))
    (none))
  ((spec_Decimal n a0).bind fun r1 =>
    some ((((r1.1.1.1, ()), ()), ())))

noncomputable def spec_Signed (n : Nat) (a0 : Int) : Option ((((ByteArray) × (Unit)) × (Unit)) × (Unit)) := spec_Signed_t n a0

noncomputable def spec_l04Ok_t4 (n : Nat) (g4 : Int → Int → (List (((Int) × ((Int) × ((Int) × ((Int) × ((Int) × (Int)))))) × (((Int) × (Int)) × (Int)))) → Bool → Int → Int → Option ((((Bool) × (Unit)) × (Unit)) × (((Int) × ((List (((Int) × ((Int) × ((Int) × ((Int) × ((Int) × (Int)))))) × (((Int) × (Int)) × (Int)))) × ((Bool) × ((Int) × (Int))))) × (Unit)))) (v3 : Int) (b0_0 : Int) (b0_1 : List (((Int) × ((Int) × ((Int) × ((Int) × ((Int) × (Int)))))) × (((Int) × (Int)) × (Int)))) (b0_2 : Bool) (b0_3 : Int) (b0_4 : Int) : Option ((((Bool) × (Unit)) × (Unit)) × (((Int) × ((List (((Int) × ((Int) × ((Int) × ((Int) × ((Int) × (Int)))))) × (((Int) × (Int)) × (Int)))) × ((Bool) × ((Int) × (Int))))) × (Unit))) :=
  cond (decide (v3 < ((b0_1.length : Nat) : Int)))
  (cond ((decide (0 ≤ v3) && decide (v3 < ((b0_1.length : Nat) : Int))))
    ((spec_l04Obs_e n ((((b0_1.getD (Int.toNat v3) ((0, (0, (0, (0, (0, 0))))), ((0, 0), 0))).1.1, ((b0_1.getD (Int.toNat v3) ((0, (0, (0, (0, (0, 0))))), ((0, 0), 0))).1.2.1, ((b0_1.getD (Int.toNat v3) ((0, (0, (0, (0, (0, 0))))), ((0, 0), 0))).1.2.2.1, ((b0_1.getD (Int.toNat v3) ((0, (0, (0, (0, (0, 0))))), ((0, 0), 0))).1.2.2.2.1, ((b0_1.getD (Int.toNat v3) ((0, (0, (0, (0, (0, 0))))), ((0, 0), 0))).1.2.2.2.2.1, (b0_1.getD (Int.toNat v3) ((0, (0, (0, (0, (0, 0))))), ((0, 0), 0))).1.2.2.2.2.2))))), (((b0_1.getD (Int.toNat v3) ((0, (0, (0, (0, (0, 0))))), ((0, 0), 0))).2.1.1, (b0_1.getD (Int.toNat v3) ((0, (0, (0, (0, (0, 0))))), ((0, 0), 0))).2.1.2), (b0_1.getD (Int.toNat v3) ((0, (0, (0, (0, (0, 0))))), ((0, 0), 0))).2.2))) b0_0).bind fun r2 =>
      cond (!r2.1.1.1)
      (some ((((false, ()), ()), ((b0_0, (b0_1, (b0_2, (b0_3, b0_4)))), ()))))
      (g4 ((IntKind.wrap .i64 (v3 + 1))) b0_0 b0_1 b0_2 b0_3 b0_4))
    (none))
  (some ((((true, ()), ()), ((b0_0, (b0_1, (b0_2, (b0_3, b0_4)))), ()))))

noncomputable def spec_l04Ok_l4 (n : Nat) : Nat → Int → Int → (List (((Int) × ((Int) × ((Int) × ((Int) × ((Int) × (Int)))))) × (((Int) × (Int)) × (Int)))) → Bool → Int → Int → Option ((((Bool) × (Unit)) × (Unit)) × (((Int) × ((List (((Int) × ((Int) × ((Int) × ((Int) × ((Int) × (Int)))))) × (((Int) × (Int)) × (Int)))) × ((Bool) × ((Int) × (Int))))) × (Unit)))
  | 0, _, _, _, _, _, _ => none
  | k + 1, v3, b0_0, b0_1, b0_2, b0_3, b0_4 => spec_l04Ok_t4 n (spec_l04Ok_l4 n k) v3 b0_0 b0_1 b0_2 b0_3 b0_4

noncomputable def spec_l04Ok_t (n : Nat) (h4 : Nat → Int → Int → (List (((Int) × ((Int) × ((Int) × ((Int) × ((Int) × (Int)))))) × (((Int) × (Int)) × (Int)))) → Bool → Int → Int → Option ((((Bool) × (Unit)) × (Unit)) × (((Int) × ((List (((Int) × ((Int) × ((Int) × ((Int) × ((Int) × (Int)))))) × (((Int) × (Int)) × (Int)))) × ((Bool) × ((Int) × (Int))))) × (Unit)))) (b0 : (Int) × ((List (((Int) × ((Int) × ((Int) × ((Int) × ((Int) × (Int)))))) × (((Int) × (Int)) × (Int)))) × ((Bool) × ((Int) × (Int))))) : Option ((((Bool) × (Unit)) × (Unit)) × (((Int) × ((List (((Int) × ((Int) × ((Int) × ((Int) × ((Int) × (Int)))))) × (((Int) × (Int)) × (Int)))) × ((Bool) × ((Int) × (Int))))) × (Unit))) :=
  (spec_l00In n b0.1 1 6).bind fun r0 =>
  cond (!r0.1.1.1)
  (some ((((false, ()), ()), ((b0.1, (b0.2.1, (b0.2.2.1, (b0.2.2.2.1, b0.2.2.2.2)))), ()))))
  (cond (decide (((b0.2.1.length : Nat) : Int) > 24))
    (some ((((false, ()), ()), ((b0.1, (b0.2.1, (b0.2.2.1, (b0.2.2.2.1, b0.2.2.2.2)))), ()))))
    ((spec_l01Ok n ((b0.2.2.2.1, b0.2.2.2.2))).bind fun r1 =>
      cond (!r1.1.1.1)
      (some ((((false, ()), ()), ((b0.1, (b0.2.1, (b0.2.2.1, (b0.2.2.2.1, b0.2.2.2.2)))), ()))))
      (cond (!b0.2.2.1)
        (cond ((b0.2.2.2.1 != 0))
          (some ((((false, ()), ()), ((b0.1, (b0.2.1, (b0.2.2.1, (b0.2.2.2.1, b0.2.2.2.2)))), ()))))
          (h4 n 0 b0.1 b0.2.1 b0.2.2.1 b0.2.2.2.1 b0.2.2.2.2))
        (h4 n 0 b0.1 b0.2.1 b0.2.2.1 b0.2.2.2.1 b0.2.2.2.2))))

noncomputable def spec_l04Ok (n : Nat) (b0 : (Int) × ((List (((Int) × ((Int) × ((Int) × ((Int) × ((Int) × (Int)))))) × (((Int) × (Int)) × (Int)))) × ((Bool) × ((Int) × (Int))))) : Option ((((Bool) × (Unit)) × (Unit)) × (((Int) × ((List (((Int) × ((Int) × ((Int) × ((Int) × ((Int) × (Int)))))) × (((Int) × (Int)) × (Int)))) × ((Bool) × ((Int) × (Int))))) × (Unit))) := spec_l04Ok_t n (spec_l04Ok_l4 n) b0

noncomputable def spec_l01Text_t (n : Nat) (a0 : (Int) × (Int)) : Option ((((ByteArray) × (Unit)) × (Unit)) × (Unit)) :=
  cond ((a0.2 == 1))
  ((spec_Signed n a0.1).bind fun r0 =>
    some ((((r0.1.1.1, ()), ()), ())))
  ((spec_Signed n a0.1).bind fun r1 =>
    cond ((roomStr r1.1.1.1 (ByteArray.mk #[47])))
    ((spec_Decimal n a0.2).bind fun r2 =>
      cond ((roomStr (r1.1.1.1 ++ (ByteArray.mk #[47])) r2.1.1.1))
      (some ((((((r1.1.1.1 ++ (ByteArray.mk #[47])) ++ r2.1.1.1), ()), ()), ())))
      (none))
    (none))

noncomputable def spec_l01Text (n : Nat) (a0 : (Int) × (Int)) : Option ((((ByteArray) × (Unit)) × (Unit)) × (Unit)) := spec_l01Text_t n a0

noncomputable def spec_l04Text_t9 (n : Nat) (g6 : Int → ByteArray → Int → (List (((Int) × ((Int) × ((Int) × ((Int) × ((Int) × (Int)))))) × (((Int) × (Int)) × (Int)))) → Bool → Int → Int → Option ((((ByteArray) × (Unit)) × (Unit)) × (((Int) × ((List (((Int) × ((Int) × ((Int) × ((Int) × ((Int) × (Int)))))) × (((Int) × (Int)) × (Int)))) × ((Bool) × ((Int) × (Int))))) × (Unit)))) (g9 : Int → Int → ByteArray → Int → (List (((Int) × ((Int) × ((Int) × ((Int) × ((Int) × (Int)))))) × (((Int) × (Int)) × (Int)))) → Bool → Int → Int → Option ((((ByteArray) × (Unit)) × (Unit)) × (((Int) × ((List (((Int) × ((Int) × ((Int) × ((Int) × ((Int) × (Int)))))) × (((Int) × (Int)) × (Int)))) × ((Bool) × ((Int) × (Int))))) × (Unit)))) (v5 : Int) (v4 : Int) (v3 : ByteArray) (b0_0 : Int) (b0_1 : List (((Int) × ((Int) × ((Int) × ((Int) × ((Int) × (Int)))))) × (((Int) × (Int)) × (Int)))) (b0_2 : Bool) (b0_3 : Int) (b0_4 : Int) : Option ((((ByteArray) × (Unit)) × (Unit)) × (((Int) × ((List (((Int) × ((Int) × ((Int) × ((Int) × ((Int) × (Int)))))) × (((Int) × (Int)) × (Int)))) × ((Bool) × ((Int) × (Int))))) × (Unit))) :=
  cond (decide (v5 < b0_0))
  (cond ((decide (0 ≤ v4) && decide (v4 < ((b0_1.length : Nat) : Int))))
    (cond ((decide (0 ≤ v5) && decide (v5 < 6)))
      ((spec_Signed n ((IntKind.wrap .i64 (cond (Nat.beq (Int.toNat v5) 0) (b0_1.getD (Int.toNat v4) ((0, (0, (0, (0, (0, 0))))), ((0, 0), 0))).1.1 (cond (Nat.beq ((Int.toNat v5) - 1) 0) (b0_1.getD (Int.toNat v4) ((0, (0, (0, (0, (0, 0))))), ((0, 0), 0))).1.2.1 (cond (Nat.beq (((Int.toNat v5) - 1) - 1) 0) (b0_1.getD (Int.toNat v4) ((0, (0, (0, (0, (0, 0))))), ((0, 0), 0))).1.2.2.1 (cond (Nat.beq ((((Int.toNat v5) - 1) - 1) - 1) 0) (b0_1.getD (Int.toNat v4) ((0, (0, (0, (0, (0, 0))))), ((0, 0), 0))).1.2.2.2.1 (cond (Nat.beq (((((Int.toNat v5) - 1) - 1) - 1) - 1) 0) (b0_1.getD (Int.toNat v4) ((0, (0, (0, (0, (0, 0))))), ((0, 0), 0))).1.2.2.2.2.1 (cond (Nat.beq ((((((Int.toNat v5) - 1) - 1) - 1) - 1) - 1) 0) (b0_1.getD (Int.toNat v4) ((0, (0, (0, (0, (0, 0))))), ((0, 0), 0))).1.2.2.2.2.2 0))))))))).bind fun r2 =>
        cond ((roomStr r2.1.1.1 (ByteArray.mk #[32])))
        (cond ((roomStr v3 (r2.1.1.1 ++ (ByteArray.mk #[32]))))
          (g9 ((IntKind.wrap .i64 (v5 + 1))) v4 ((v3 ++ (r2.1.1.1 ++ (ByteArray.mk #[32])))) b0_0 b0_1 b0_2 b0_3 b0_4)
          (none))
        (none))
      (none))
    (none))
  (cond ((decide (0 ≤ v4) && decide (v4 < ((b0_1.length : Nat) : Int))))
    ((spec_l01Text n (((b0_1.getD (Int.toNat v4) ((0, (0, (0, (0, (0, 0))))), ((0, 0), 0))).2.1.1, (b0_1.getD (Int.toNat v4) ((0, (0, (0, (0, (0, 0))))), ((0, 0), 0))).2.1.2))).bind fun r3 =>
      cond ((roomStr r3.1.1.1 (ByteArray.mk #[32])))
      (cond ((decide (0 ≤ v4) && decide (v4 < ((b0_1.length : Nat) : Int))))
        ((spec_Decimal n ((b0_1.getD (Int.toNat v4) ((0, (0, (0, (0, (0, 0))))), ((0, 0), 0))).2.2)).bind fun r4 =>
          cond ((roomStr (r3.1.1.1 ++ (ByteArray.mk #[32])) r4.1.1.1))
          (cond ((roomStr ((r3.1.1.1 ++ (ByteArray.mk #[32])) ++ r4.1.1.1) (ByteArray.mk #[10])))
            (cond ((roomStr v3 (((r3.1.1.1 ++ (ByteArray.mk #[32])) ++ r4.1.1.1) ++ (ByteArray.mk #[10]))))
              (g6 ((IntKind.wrap .i64 (v4 + 1))) ((v3 ++ (((r3.1.1.1 ++ (ByteArray.mk #[32])) ++ r4.1.1.1) ++ (ByteArray.mk #[10])))) b0_0 b0_1 b0_2 b0_3 b0_4)
              (none))
            (none))
          (none))
        (none))
      (none))
    (none))

noncomputable def spec_l04Text_l9 (n : Nat) (g6 : Int → ByteArray → Int → (List (((Int) × ((Int) × ((Int) × ((Int) × ((Int) × (Int)))))) × (((Int) × (Int)) × (Int)))) → Bool → Int → Int → Option ((((ByteArray) × (Unit)) × (Unit)) × (((Int) × ((List (((Int) × ((Int) × ((Int) × ((Int) × ((Int) × (Int)))))) × (((Int) × (Int)) × (Int)))) × ((Bool) × ((Int) × (Int))))) × (Unit)))) : Nat → Int → Int → ByteArray → Int → (List (((Int) × ((Int) × ((Int) × ((Int) × ((Int) × (Int)))))) × (((Int) × (Int)) × (Int)))) → Bool → Int → Int → Option ((((ByteArray) × (Unit)) × (Unit)) × (((Int) × ((List (((Int) × ((Int) × ((Int) × ((Int) × ((Int) × (Int)))))) × (((Int) × (Int)) × (Int)))) × ((Bool) × ((Int) × (Int))))) × (Unit)))
  | 0, _, _, _, _, _, _, _, _ => none
  | k + 1, v5, v4, v3, b0_0, b0_1, b0_2, b0_3, b0_4 => spec_l04Text_t9 n g6 (spec_l04Text_l9 n g6 k) v5 v4 v3 b0_0 b0_1 b0_2 b0_3 b0_4

noncomputable def spec_l04Text_t6 (n : Nat) (h9 : Nat → Int → Int → ByteArray → Int → (List (((Int) × ((Int) × ((Int) × ((Int) × ((Int) × (Int)))))) × (((Int) × (Int)) × (Int)))) → Bool → Int → Int → Option ((((ByteArray) × (Unit)) × (Unit)) × (((Int) × ((List (((Int) × ((Int) × ((Int) × ((Int) × ((Int) × (Int)))))) × (((Int) × (Int)) × (Int)))) × ((Bool) × ((Int) × (Int))))) × (Unit)))) (g6 : Int → ByteArray → Int → (List (((Int) × ((Int) × ((Int) × ((Int) × ((Int) × (Int)))))) × (((Int) × (Int)) × (Int)))) → Bool → Int → Int → Option ((((ByteArray) × (Unit)) × (Unit)) × (((Int) × ((List (((Int) × ((Int) × ((Int) × ((Int) × ((Int) × (Int)))))) × (((Int) × (Int)) × (Int)))) × ((Bool) × ((Int) × (Int))))) × (Unit)))) (v4 : Int) (v3 : ByteArray) (b0_0 : Int) (b0_1 : List (((Int) × ((Int) × ((Int) × ((Int) × ((Int) × (Int)))))) × (((Int) × (Int)) × (Int)))) (b0_2 : Bool) (b0_3 : Int) (b0_4 : Int) : Option ((((ByteArray) × (Unit)) × (Unit)) × (((Int) × ((List (((Int) × ((Int) × ((Int) × ((Int) × ((Int) × (Int)))))) × (((Int) × (Int)) × (Int)))) × ((Bool) × ((Int) × (Int))))) × (Unit))) :=
  cond (decide (v4 < ((b0_1.length : Nat) : Int)))
  (h9 n 0 v4 v3 b0_0 b0_1 b0_2 b0_3 b0_4)
  (some ((((v3, ()), ()), ((b0_0, (b0_1, (b0_2, (b0_3, b0_4)))), ()))))

noncomputable def spec_l04Text_l6 (n : Nat) : Nat → Int → ByteArray → Int → (List (((Int) × ((Int) × ((Int) × ((Int) × ((Int) × (Int)))))) × (((Int) × (Int)) × (Int)))) → Bool → Int → Int → Option ((((ByteArray) × (Unit)) × (Unit)) × (((Int) × ((List (((Int) × ((Int) × ((Int) × ((Int) × ((Int) × (Int)))))) × (((Int) × (Int)) × (Int)))) × ((Bool) × ((Int) × (Int))))) × (Unit)))
  | 0, _, _, _, _, _, _, _ => none
  | k + 1, v4, v3, b0_0, b0_1, b0_2, b0_3, b0_4 => spec_l04Text_t6 n (spec_l04Text_l9 n (spec_l04Text_l6 n k)) (spec_l04Text_l6 n k) v4 v3 b0_0 b0_1 b0_2 b0_3 b0_4

noncomputable def spec_l04Text_t (n : Nat) (h6 : Nat → Int → ByteArray → Int → (List (((Int) × ((Int) × ((Int) × ((Int) × ((Int) × (Int)))))) × (((Int) × (Int)) × (Int)))) → Bool → Int → Int → Option ((((ByteArray) × (Unit)) × (Unit)) × (((Int) × ((List (((Int) × ((Int) × ((Int) × ((Int) × ((Int) × (Int)))))) × (((Int) × (Int)) × (Int)))) × ((Bool) × ((Int) × (Int))))) × (Unit)))) (b0 : (Int) × ((List (((Int) × ((Int) × ((Int) × ((Int) × ((Int) × (Int)))))) × (((Int) × (Int)) × (Int)))) × ((Bool) × ((Int) × (Int))))) : Option ((((ByteArray) × (Unit)) × (Unit)) × (((Int) × ((List (((Int) × ((Int) × ((Int) × ((Int) × ((Int) × (Int)))))) × (((Int) × (Int)) × (Int)))) × ((Bool) × ((Int) × (Int))))) × (Unit))) :=
  (spec_Decimal n b0.1).bind fun r0 =>
  cond b0.2.2.1
  ((spec_l01Text n ((b0.2.2.2.1, b0.2.2.2.2))).bind fun r1 =>
    cond ((roomStr (ByteArray.mk #[32, 99, 108, 111, 115, 101, 100, 32]) r1.1.1.1))
    (cond ((roomStr r0.1.1.1 ((ByteArray.mk #[32, 99, 108, 111, 115, 101, 100, 32]) ++ r1.1.1.1)))
      (cond ((roomStr (r0.1.1.1 ++ ((ByteArray.mk #[32, 99, 108, 111, 115, 101, 100, 32]) ++ r1.1.1.1)) (ByteArray.mk #[10])))
        (h6 n 0 (((r0.1.1.1 ++ ((ByteArray.mk #[32, 99, 108, 111, 115, 101, 100, 32]) ++ r1.1.1.1)) ++ (ByteArray.mk #[10]))) b0.1 b0.2.1 b0.2.2.1 b0.2.2.2.1 b0.2.2.2.2)
        (none))
      (none))
    (none))
  (cond ((roomStr r0.1.1.1 (ByteArray.mk #[10])))
    (h6 n 0 ((r0.1.1.1 ++ (ByteArray.mk #[10]))) b0.1 b0.2.1 b0.2.2.1 b0.2.2.2.1 b0.2.2.2.2)
    (none))

noncomputable def spec_l04Text (n : Nat) (b0 : (Int) × ((List (((Int) × ((Int) × ((Int) × ((Int) × ((Int) × (Int)))))) × (((Int) × (Int)) × (Int)))) × ((Bool) × ((Int) × (Int))))) : Option ((((ByteArray) × (Unit)) × (Unit)) × (((Int) × ((List (((Int) × ((Int) × ((Int) × ((Int) × ((Int) × (Int)))))) × (((Int) × (Int)) × (Int)))) × ((Bool) × ((Int) × (Int))))) × (Unit))) := spec_l04Text_t n (spec_l04Text_l6 n) b0

noncomputable def spec_TableText_t (n : Nat) (a0 : (Int) × ((List (((Int) × ((Int) × ((Int) × ((Int) × ((Int) × (Int)))))) × (((Int) × (Int)) × (Int)))) × ((Bool) × ((Int) × (Int))))) : Option ((((ByteArray) × (Unit)) × (Unit)) × (Unit)) :=
  (spec_l04Ok n ((a0.1, (a0.2.1, (a0.2.2.1, (a0.2.2.2.1, a0.2.2.2.2)))))).bind fun r0 =>
  cond (!r0.1.1.1)
  (some (((((ByteArray.mk #[]), ()), ()), ())))
  ((spec_l04Text n ((r0.2.1.1, (r0.2.1.2.1, (r0.2.1.2.2.1, (r0.2.1.2.2.2.1, r0.2.1.2.2.2.2)))))).bind fun r1 =>
    some ((((r1.1.1.1, ()), ()), ())))

noncomputable def spec_TableText (n : Nat) (a0 : (Int) × ((List (((Int) × ((Int) × ((Int) × ((Int) × ((Int) × (Int)))))) × (((Int) × (Int)) × (Int)))) × ((Bool) × ((Int) × (Int))))) : Option ((((ByteArray) × (Unit)) × (Unit)) × (Unit)) := spec_TableText_t n a0

noncomputable def spec_l01Cmp_t (n : Nat) (a0 : (Int) × (Int)) (a1 : (Int) × (Int)) : Option ((((Int) × (Unit)) × (Unit)) × (Unit)) :=
  cond (decide ((IntKind.wrap .i64 (a0.1 * a1.2)) < (IntKind.wrap .i64 (a1.1 * a0.2))))
  (some (((((-1), ()), ()), ())))
  (cond (decide ((IntKind.wrap .i64 (a0.1 * a1.2)) > (IntKind.wrap .i64 (a1.1 * a0.2))))
    (some ((((1, ()), ()), ())))
    (some ((((0, ()), ()), ()))))

noncomputable def spec_l01Cmp (n : Nat) (a0 : (Int) × (Int)) (a1 : (Int) × (Int)) : Option ((((Int) × (Unit)) × (Unit)) × (Unit)) := spec_l01Cmp_t n a0 a1

noncomputable def spec_l01Reduced_t (n : Nat) (a0 : Int) (a1 : Int) : Option (((((Int) × (Int)) × (Unit)) × (((Int) × (Unit)) × (Unit))) × (Unit)) :=
  (spec_l01Abs n a0).bind fun r0 =>
  (spec_l01Abs n a1).bind fun r1 =>
  (spec_l01Gcd n r0.1.1.1 r1.1.1.1).bind fun r2 =>
  cond ((r2.1.1.1 != 0))
  (cond ((r2.1.1.1 != 0))
    (cond (decide ((IntKind.wrap .i64 (Int.tdiv a1 r2.1.1.1)) < 0))
      ((spec_l01Ok n (((IntKind.wrap .i64 (0 - (IntKind.wrap .i64 (Int.tdiv a0 r2.1.1.1)))), (IntKind.wrap .i64 (0 - (IntKind.wrap .i64 (Int.tdiv a1 r2.1.1.1))))))).bind fun r3 =>
        cond (!r3.1.1.1)
        (some (((((0, 0), ()), ((3, ()), ())), ())))
        (some ((((((IntKind.wrap .i64 (0 - (IntKind.wrap .i64 (Int.tdiv a0 r2.1.1.1)))), (IntKind.wrap .i64 (0 - (IntKind.wrap .i64 (Int.tdiv a1 r2.1.1.1))))), ()), ((0, ()), ())), ()))))
      ((spec_l01Ok n (((IntKind.wrap .i64 (Int.tdiv a0 r2.1.1.1)), (IntKind.wrap .i64 (Int.tdiv a1 r2.1.1.1))))).bind fun r4 =>
        cond (!r4.1.1.1)
        (some (((((0, 0), ()), ((3, ()), ())), ())))
        (some ((((((IntKind.wrap .i64 (Int.tdiv a0 r2.1.1.1)), (IntKind.wrap .i64 (Int.tdiv a1 r2.1.1.1))), ()), ((0, ()), ())), ())))))
    (none))
  (none)

noncomputable def spec_l01Reduced (n : Nat) (a0 : Int) (a1 : Int) : Option (((((Int) × (Int)) × (Unit)) × (((Int) × (Unit)) × (Unit))) × (Unit)) := spec_l01Reduced_t n a0 a1

noncomputable def spec_l01Span_e_t (n : Nat) (a0 : ((Int) × (Int)) × ((Int) × (Int))) : Option ((((Bool) × (Unit)) × (Unit)) × (Unit)) :=
  (spec_l01Ok n ((a0.1.1, a0.1.2))).bind fun r0 =>
  cond r0.1.1.1
  ((spec_l01Ok n ((a0.2.1, a0.2.2))).bind fun r1 =>
    cond r1.1.1.1
    ((spec_l01Cmp n ((a0.1.1, a0.1.2)) ((a0.2.1, a0.2.2))).bind fun r2 =>
      some ((((decide (r2.1.1.1 ≤ 0), ()), ()), ())))
    (some ((((false, ()), ()), ()))))
  (some ((((false, ()), ()), ())))

noncomputable def spec_l01Span_e (n : Nat) (a0 : ((Int) × (Int)) × ((Int) × (Int))) : Option ((((Bool) × (Unit)) × (Unit)) × (Unit)) := spec_l01Span_e_t n a0

noncomputable def spec_l03Wrap_t (n : Nat) (a0 : Int) : Option ((((Int) × (Unit)) × (Unit)) × (Unit)) :=
  cond (decide ((Int.tmod a0 1296000) < 0))
  (some (((((IntKind.wrap .i64 ((Int.tmod a0 1296000) + 1296000)), ()), ()), ())))
  (some (((((Int.tmod a0 1296000), ()), ()), ())))

noncomputable def spec_l03Wrap (n : Nat) (a0 : Int) : Option ((((Int) × (Unit)) × (Unit)) × (Unit)) := spec_l03Wrap_t n a0

noncomputable def spec_l03Turn_t (n : Nat) (a0 : Int) (a1 : Int) : Option ((((Int) × (Unit)) × (Unit)) × (Unit)) :=
  (spec_l03Wrap n ((IntKind.wrap .i64 (a1 - a0)))).bind fun r0 =>
  cond (decide (r0.1.1.1 > 648000))
  (some (((((IntKind.wrap .i64 (r0.1.1.1 - 1296000)), ()), ()), ())))
  (some ((((r0.1.1.1, ()), ()), ())))

noncomputable def spec_l03Turn (n : Nat) (a0 : Int) (a1 : Int) : Option ((((Int) × (Unit)) × (Unit)) × (Unit)) := spec_l03Turn_t n a0 a1

noncomputable def spec_l05Day_t (n : Nat) (a0 : Int) : Option ((((Bool) × (Unit)) × (Unit)) × (Unit)) :=
  (spec_l00In n a0 0 100000).bind fun r0 =>
  some ((((r0.1.1.1, ()), ()), ()))

noncomputable def spec_l05Day (n : Nat) (a0 : Int) : Option ((((Bool) × (Unit)) × (Unit)) × (Unit)) := spec_l05Day_t n a0

noncomputable def spec_l05Good_e_t (n : Nat) (a0 : (ByteArray) × ((Int) × ((((Int) × (Int)) × ((Int) × (Int))) × (((Int) × (Int)) × ((Int) × (Int)))))) (a1 : Int) : Option ((((Bool) × (Unit)) × (Unit)) × (Unit)) :=
  cond (decide (a1 ≥ a0.2.2.2.2.1))
  (some ((((decide (a1 ≤ (IntKind.wrap .i64 (a0.2.2.2.2.1 + a0.2.2.2.2.2))), ()), ()), ())))
  (some ((((false, ()), ()), ())))

noncomputable def spec_l05Good_e (n : Nat) (a0 : (ByteArray) × ((Int) × ((((Int) × (Int)) × ((Int) × (Int))) × (((Int) × (Int)) × ((Int) × (Int)))))) (a1 : Int) : Option ((((Bool) × (Unit)) × (Unit)) × (Unit)) := spec_l05Good_e_t n a0 a1

noncomputable def spec_l05Name_t4 (n : Nat) (g4 : Int → ByteArray → Option ((((Bool) × (Unit)) × (Unit)) × (Unit))) (v3 : Int) (v0 : ByteArray) : Option ((((Bool) × (Unit)) × (Unit)) × (Unit)) :=
  cond (decide (v3 < (((ByteArray.size v0) : Nat) : Int)))
  (cond ((decide (0 ≤ v3) && decide (v3 < (((ByteArray.size v0) : Nat) : Int))))
    (cond (decide ((byteAt v0 v3) < 97))
      (some ((((false, ()), ()), ())))
      (cond ((decide (0 ≤ v3) && decide (v3 < (((ByteArray.size v0) : Nat) : Int))))
        (cond (decide ((byteAt v0 v3) > 122))
          (some ((((false, ()), ()), ())))
          (g4 ((IntKind.wrap .i64 (v3 + 1))) v0))
        (none)))
    (none))
  (some ((((true, ()), ()), ())))

noncomputable def spec_l05Name_l4 (n : Nat) : Nat → Int → ByteArray → Option ((((Bool) × (Unit)) × (Unit)) × (Unit))
  | 0, _, _ => none
  | k + 1, v3, v0 => spec_l05Name_t4 n (spec_l05Name_l4 n k) v3 v0

noncomputable def spec_l05Name_t (n : Nat) (h4 : Nat → Int → ByteArray → Option ((((Bool) × (Unit)) × (Unit)) × (Unit))) (a0 : ByteArray) : Option ((((Bool) × (Unit)) × (Unit)) × (Unit)) :=
  cond (decide ((((ByteArray.size a0) : Nat) : Int) < 1))
  (some ((((false, ()), ()), ())))
  (cond (decide ((((ByteArray.size a0) : Nat) : Int) > 12))
    (some ((((false, ()), ()), ())))
    (h4 n 0 a0))

noncomputable def spec_l05Name (n : Nat) (a0 : ByteArray) : Option ((((Bool) × (Unit)) × (Unit)) × (Unit)) := spec_l05Name_t n (spec_l05Name_l4 n) a0

noncomputable def spec_l05Standard_e_t (n : Nat) (a0 : List ((ByteArray) × ((Int) × ((((Int) × (Int)) × ((Int) × (Int))) × (((Int) × (Int)) × ((Int) × (Int))))))) (a1 : (ByteArray) × ((Int) × ((((Int) × (Int)) × ((Int) × (Int))) × (((Int) × (Int)) × ((Int) × (Int)))))) : Option ((((Bool) × (Unit)) × (Unit)) × (Unit)) :=
  (spec_l01Span_e n (((a1.2.2.1.1.1, a1.2.2.1.1.2), (a1.2.2.1.2.1, a1.2.2.1.2.2)))).bind fun r0 =>
  cond (!r0.1.1.1)
  (some ((((false, ()), ()), ())))
  ((spec_l01Ok n ((a1.2.2.2.1.1, a1.2.2.2.1.2))).bind fun r1 =>
    cond (!r1.1.1.1)
    (some ((((false, ()), ()), ())))
    (cond (decide (a1.2.2.2.1.1 < 0))
      (some ((((false, ()), ()), ())))
      ((spec_l05Day n a1.2.2.2.2.1).bind fun r2 =>
        cond (!r2.1.1.1)
        (some ((((false, ()), ()), ())))
        ((spec_l05Day n a1.2.2.2.2.2).bind fun r3 =>
          cond (!r3.1.1.1)
          (some ((((false, ()), ()), ())))
          (cond ((a1.2.1 == (-1)))
            (some ((((true, ()), ()), ())))
            ((spec_l00In n a1.2.1 0 ((IntKind.wrap .i64 (((a0.length : Nat) : Int) - 1)))).bind fun r4 =>
              cond r4.1.1.1
              (cond ((decide (0 ≤ a1.2.1) && decide (a1.2.1 < ((a0.length : Nat) : Int))))
                ((spec_l05Good_e n (((a0.getD (Int.toNat a1.2.1) ((ByteArray.mk #[]), (0, (((0, 0), (0, 0)), ((0, 0), (0, 0)))))).1, ((a0.getD (Int.toNat a1.2.1) ((ByteArray.mk #[]), (0, (((0, 0), (0, 0)), ((0, 0), (0, 0)))))).2.1, ((((a0.getD (Int.toNat a1.2.1) ((ByteArray.mk #[]), (0, (((0, 0), (0, 0)), ((0, 0), (0, 0)))))).2.2.1.1.1, (a0.getD (Int.toNat a1.2.1) ((ByteArray.mk #[]), (0, (((0, 0), (0, 0)), ((0, 0), (0, 0)))))).2.2.1.1.2), ((a0.getD (Int.toNat a1.2.1) ((ByteArray.mk #[]), (0, (((0, 0), (0, 0)), ((0, 0), (0, 0)))))).2.2.1.2.1, (a0.getD (Int.toNat a1.2.1) ((ByteArray.mk #[]), (0, (((0, 0), (0, 0)), ((0, 0), (0, 0)))))).2.2.1.2.2)), (((a0.getD (Int.toNat a1.2.1) ((ByteArray.mk #[]), (0, (((0, 0), (0, 0)), ((0, 0), (0, 0)))))).2.2.2.1.1, (a0.getD (Int.toNat a1.2.1) ((ByteArray.mk #[]), (0, (((0, 0), (0, 0)), ((0, 0), (0, 0)))))).2.2.2.1.2), ((a0.getD (Int.toNat a1.2.1) ((ByteArray.mk #[]), (0, (((0, 0), (0, 0)), ((0, 0), (0, 0)))))).2.2.2.2.1, (a0.getD (Int.toNat a1.2.1) ((ByteArray.mk #[]), (0, (((0, 0), (0, 0)), ((0, 0), (0, 0)))))).2.2.2.2.2)))))) a1.2.2.2.2.1).bind fun r5 =>
                  some ((((r5.1.1.1, ()), ()), ())))
                (none))
              (some ((((false, ()), ()), ())))))))))

noncomputable def spec_l05Standard_e (n : Nat) (a0 : List ((ByteArray) × ((Int) × ((((Int) × (Int)) × ((Int) × (Int))) × (((Int) × (Int)) × ((Int) × (Int))))))) (a1 : (ByteArray) × ((Int) × ((((Int) × (Int)) × ((Int) × (Int))) × (((Int) × (Int)) × ((Int) × (Int)))))) : Option ((((Bool) × (Unit)) × (Unit)) × (Unit)) := spec_l05Standard_e_t n a0 a1

noncomputable def spec_l05Ok_t9 (n : Nat) (g4 : Int → (List ((ByteArray) × ((Int) × ((((Int) × (Int)) × ((Int) × (Int))) × (((Int) × (Int)) × ((Int) × (Int))))))) → Option ((((Bool) × (Unit)) × (Unit)) × (Unit))) (g9 : Int → Int → (List ((ByteArray) × ((Int) × ((((Int) × (Int)) × ((Int) × (Int))) × (((Int) × (Int)) × ((Int) × (Int))))))) → Option ((((Bool) × (Unit)) × (Unit)) × (Unit))) (v4 : Int) (v3 : Int) (v0 : List ((ByteArray) × ((Int) × ((((Int) × (Int)) × ((Int) × (Int))) × (((Int) × (Int)) × ((Int) × (Int))))))) : Option ((((Bool) × (Unit)) × (Unit)) × (Unit)) :=
  cond (decide (v4 < v3))
  (cond ((decide (0 ≤ v4) && decide (v4 < ((v0.length : Nat) : Int))))
    (cond ((decide (0 ≤ v3) && decide (v3 < ((v0.length : Nat) : Int))))
      (cond ((eqStr (v0.getD (Int.toNat v4) ((ByteArray.mk #[]), (0, (((0, 0), (0, 0)), ((0, 0), (0, 0)))))).1 (v0.getD (Int.toNat v3) ((ByteArray.mk #[]), (0, (((0, 0), (0, 0)), ((0, 0), (0, 0)))))).1))
        (some ((((false, ()), ()), ())))
        (g9 ((IntKind.wrap .i64 (v4 + 1))) v3 v0))
      (none))
    (none))
  (g4 ((IntKind.wrap .i64 (v3 + 1))) v0)

noncomputable def spec_l05Ok_l9 (n : Nat) (g4 : Int → (List ((ByteArray) × ((Int) × ((((Int) × (Int)) × ((Int) × (Int))) × (((Int) × (Int)) × ((Int) × (Int))))))) → Option ((((Bool) × (Unit)) × (Unit)) × (Unit))) : Nat → Int → Int → (List ((ByteArray) × ((Int) × ((((Int) × (Int)) × ((Int) × (Int))) × (((Int) × (Int)) × ((Int) × (Int))))))) → Option ((((Bool) × (Unit)) × (Unit)) × (Unit))
  | 0, _, _, _ => none
  | k + 1, v4, v3, v0 => spec_l05Ok_t9 n g4 (spec_l05Ok_l9 n g4 k) v4 v3 v0

noncomputable def spec_l05Ok_t4 (n : Nat) (h9 : Nat → Int → Int → (List ((ByteArray) × ((Int) × ((((Int) × (Int)) × ((Int) × (Int))) × (((Int) × (Int)) × ((Int) × (Int))))))) → Option ((((Bool) × (Unit)) × (Unit)) × (Unit))) (g4 : Int → (List ((ByteArray) × ((Int) × ((((Int) × (Int)) × ((Int) × (Int))) × (((Int) × (Int)) × ((Int) × (Int))))))) → Option ((((Bool) × (Unit)) × (Unit)) × (Unit))) (v3 : Int) (v0 : List ((ByteArray) × ((Int) × ((((Int) × (Int)) × ((Int) × (Int))) × (((Int) × (Int)) × ((Int) × (Int))))))) : Option ((((Bool) × (Unit)) × (Unit)) × (Unit)) :=
  cond (decide (v3 < ((v0.length : Nat) : Int)))
  (cond ((decide (0 ≤ v3) && decide (v3 < ((v0.length : Nat) : Int))))
    ((spec_l05Name n ((v0.getD (Int.toNat v3) ((ByteArray.mk #[]), (0, (((0, 0), (0, 0)), ((0, 0), (0, 0)))))).1)).bind fun r0 =>
      cond (!r0.1.1.1)
      (some ((((false, ()), ()), ())))
      (cond ((decide (0 ≤ v3) && decide (v3 ≤ ((v0.length : Nat) : Int))))
        (cond ((decide (0 ≤ v3) && decide (v3 < ((v0.length : Nat) : Int))))
          ((spec_l05Standard_e n (((v0.drop (Int.toNat 0)).take ((Int.toNat v3) - (Int.toNat 0)))) (((v0.getD (Int.toNat v3) ((ByteArray.mk #[]), (0, (((0, 0), (0, 0)), ((0, 0), (0, 0)))))).1, ((v0.getD (Int.toNat v3) ((ByteArray.mk #[]), (0, (((0, 0), (0, 0)), ((0, 0), (0, 0)))))).2.1, ((((v0.getD (Int.toNat v3) ((ByteArray.mk #[]), (0, (((0, 0), (0, 0)), ((0, 0), (0, 0)))))).2.2.1.1.1, (v0.getD (Int.toNat v3) ((ByteArray.mk #[]), (0, (((0, 0), (0, 0)), ((0, 0), (0, 0)))))).2.2.1.1.2), ((v0.getD (Int.toNat v3) ((ByteArray.mk #[]), (0, (((0, 0), (0, 0)), ((0, 0), (0, 0)))))).2.2.1.2.1, (v0.getD (Int.toNat v3) ((ByteArray.mk #[]), (0, (((0, 0), (0, 0)), ((0, 0), (0, 0)))))).2.2.1.2.2)), (((v0.getD (Int.toNat v3) ((ByteArray.mk #[]), (0, (((0, 0), (0, 0)), ((0, 0), (0, 0)))))).2.2.2.1.1, (v0.getD (Int.toNat v3) ((ByteArray.mk #[]), (0, (((0, 0), (0, 0)), ((0, 0), (0, 0)))))).2.2.2.1.2), ((v0.getD (Int.toNat v3) ((ByteArray.mk #[]), (0, (((0, 0), (0, 0)), ((0, 0), (0, 0)))))).2.2.2.2.1, (v0.getD (Int.toNat v3) ((ByteArray.mk #[]), (0, (((0, 0), (0, 0)), ((0, 0), (0, 0)))))).2.2.2.2.2))))))).bind fun r1 =>
            cond (!r1.1.1.1)
            (some ((((false, ()), ()), ())))
            (h9 n 0 v3 v0))
          (none))
        (none)))
    (none))
  (some ((((true, ()), ()), ())))

noncomputable def spec_l05Ok_l4 (n : Nat) : Nat → Int → (List ((ByteArray) × ((Int) × ((((Int) × (Int)) × ((Int) × (Int))) × (((Int) × (Int)) × ((Int) × (Int))))))) → Option ((((Bool) × (Unit)) × (Unit)) × (Unit))
  | 0, _, _ => none
  | k + 1, v3, v0 => spec_l05Ok_t4 n (spec_l05Ok_l9 n (spec_l05Ok_l4 n k)) (spec_l05Ok_l4 n k) v3 v0

noncomputable def spec_l05Ok_t (n : Nat) (h4 : Nat → Int → (List ((ByteArray) × ((Int) × ((((Int) × (Int)) × ((Int) × (Int))) × (((Int) × (Int)) × ((Int) × (Int))))))) → Option ((((Bool) × (Unit)) × (Unit)) × (Unit))) (a0 : List ((ByteArray) × ((Int) × ((((Int) × (Int)) × ((Int) × (Int))) × (((Int) × (Int)) × ((Int) × (Int))))))) : Option ((((Bool) × (Unit)) × (Unit)) × (Unit)) :=
  cond (decide (((a0.length : Nat) : Int) > 30))
  (some ((((false, ()), ()), ())))
  (h4 n 0 a0)

noncomputable def spec_l05Ok (n : Nat) (a0 : List ((ByteArray) × ((Int) × ((((Int) × (Int)) × ((Int) × (Int))) × (((Int) × (Int)) × ((Int) × (Int))))))) : Option ((((Bool) × (Unit)) × (Unit)) × (Unit)) := spec_l05Ok_t n (spec_l05Ok_l4 n) a0

end Go.Abs
