import Derived.Test.YtpamckmeeamjjaaDoorLib
namespace Go.Abs
set_option linter.unusedVariables false

noncomputable def strconv_FormatInt (n : Nat) (a0 : Int) (a1 : Int) : Option ((((ByteArray) × (Unit)) × (Unit)) × (Unit)) :=
  cond ((decide (-9223372036854775808 ≤ a0) && decide (a0 ≤ 9223372036854775807)) && (a1 == 10)) (some ((((ByteArray.mk (Go.Lib.itoa a0).toArray, ()), ()), ()))) none

noncomputable def impl_dec_t (n : Nat) (a0 : Int) : Option ((((ByteArray) × (Unit)) × (Unit)) × (Unit)) :=
  (strconv_FormatInt n a0 10).bind fun r0 =>
  some ((((r0.1.1.1, ()), ()), ()))

noncomputable def impl_dec (n : Nat) (a0 : Int) : Option ((((ByteArray) × (Unit)) × (Unit)) × (Unit)) := impl_dec_t n a0

noncomputable def impl_within_t (n : Nat) (a0 : Int) (a1 : Int) (a2 : Int) : Option ((((Bool) × (Unit)) × (Unit)) × (Unit)) :=
  cond (decide (a1 ≤ a0))
  (some ((((decide (a0 ≤ a2), ()), ()), ())))
  (some ((((false, ()), ()), ())))

noncomputable def impl_within (n : Nat) (a0 : Int) (a1 : Int) (a2 : Int) : Option ((((Bool) × (Unit)) × (Unit)) × (Unit)) := impl_within_t n a0 a1 a2

noncomputable def impl_isAngle_t (n : Nat) (a0 : Int) : Option ((((Bool) × (Unit)) × (Unit)) × (Unit)) :=
  (impl_within n a0 0 1295999).bind fun r0 =>
  some ((((r0.1.1.1, ()), ()), ()))

noncomputable def impl_isAngle (n : Nat) (a0 : Int) : Option ((((Bool) × (Unit)) × (Unit)) × (Unit)) := impl_isAngle_t n a0

noncomputable def impl_two_t (n : Nat) (a0 : Int) : Option ((((ByteArray) × (Unit)) × (Unit)) × (Unit)) :=
  cond (decide (a0 < 10))
  ((impl_dec n a0).bind fun r0 =>
    cond ((roomStr (ByteArray.mk #[48]) r0.1.1.1))
    (some ((((((ByteArray.mk #[48]) ++ r0.1.1.1), ()), ()), ())))
    (none))
  ((impl_dec n a0).bind fun r1 =>
    some ((((r1.1.1.1, ()), ()), ())))

noncomputable def impl_two (n : Nat) (a0 : Int) : Option ((((ByteArray) × (Unit)) × (Unit)) × (Unit)) := impl_two_t n a0

noncomputable def impl_AngleText_t (n : Nat) (a0 : Int) : Option ((((ByteArray) × (Unit)) × (Unit)) × (Unit)) :=
  (impl_isAngle n a0).bind fun r0 =>
  cond (!r0.1.1.1)
  (some (((((ByteArray.mk #[]), ()), ()), ())))
  ((impl_dec n ((IntKind.wrap .i64 (Int.tdiv a0 3600)))).bind fun r1 =>
    cond ((roomStr r1.1.1.1 (ByteArray.mk #[58])))
    ((impl_two n ((Int.tmod (IntKind.wrap .i64 (Int.tdiv a0 60)) 60))).bind fun r2 =>
      cond ((roomStr (r1.1.1.1 ++ (ByteArray.mk #[58])) r2.1.1.1))
      (cond ((roomStr ((r1.1.1.1 ++ (ByteArray.mk #[58])) ++ r2.1.1.1) (ByteArray.mk #[58])))
        ((impl_two n ((Int.tmod a0 60))).bind fun r3 =>
          cond ((roomStr (((r1.1.1.1 ++ (ByteArray.mk #[58])) ++ r2.1.1.1) ++ (ByteArray.mk #[58])) r3.1.1.1))
          (some ((((((((r1.1.1.1 ++ (ByteArray.mk #[58])) ++ r2.1.1.1) ++ (ByteArray.mk #[58])) ++ r3.1.1.1), ()), ()), ())))
          (none))
        (none))
      (none))
    (none))

noncomputable def impl_AngleText (n : Nat) (a0 : Int) : Option ((((ByteArray) × (Unit)) × (Unit)) × (Unit)) := impl_AngleText_t n a0

noncomputable def impl_number (n : Nat) (a0 : ByteArray) : Option ((((Int) × (Unit)) × (Unit)) × (Unit)) :=
  cond (decide (a0.size ≤ 281474976710656)) (match Go.Lib.parseIntB 64 a0.data.toList with
    | .ok v => some ((((v, ()), ()), ()))
    | _ => some ((((0, ()), ()), ()))) none

noncomputable def strings_Split (n : Nat) (a0 : ByteArray) (a1 : ByteArray) : Option ((((List (ByteArray)) × (Unit)) × (Unit)) × (Unit)) :=
  cond (decide (a0.size < 4294967281) && decide (1 ≤ a1.size)) (some ((((Go.Lib.splitB a1 0 (Go.Lib.countB a0 a1) a0, ()), ()), ()))) none

noncomputable def impl_ReadAngle_t5 (n : Nat) (g5 : Int → ByteArray → Int → (List (ByteArray)) → Option ((((Int) × (Unit)) × (((Int) × (Unit)) × (Unit))) × (Unit))) (v15 : Int) (v0 : ByteArray) (v14 : Int) (b0 : List (ByteArray)) : Option ((((Int) × (Unit)) × (((Int) × (Unit)) × (Unit))) × (Unit)) :=
  cond (decide (v15 < v14))
  (cond ((decide (0 ≤ v15) && decide (v15 < ((b0.length : Nat) : Int))))
    (cond (decide ((((ByteArray.size (b0.getD (Int.toNat v15) (ByteArray.mk #[]))) : Nat) : Int) > 4))
      (some ((((0, ()), ((5, ()), ())), ())))
      (g5 ((IntKind.wrap .i64 (v15 + 1))) v0 v14 b0))
    (none))
  (cond (decide (0 < ((b0.length : Nat) : Int)))
    ((impl_number n ((b0.getD (Int.toNat 0) (ByteArray.mk #[])))).bind fun r1 =>
      cond (decide (1 < ((b0.length : Nat) : Int)))
      ((impl_number n ((b0.getD (Int.toNat 1) (ByteArray.mk #[])))).bind fun r2 =>
        cond (decide (2 < ((b0.length : Nat) : Int)))
        ((impl_number n ((b0.getD (Int.toNat 2) (ByteArray.mk #[])))).bind fun r3 =>
          (impl_AngleText n ((IntKind.wrap .i64 ((IntKind.wrap .i64 ((IntKind.wrap .i64 (3600 * r1.1.1.1)) + (IntKind.wrap .i64 (60 * r2.1.1.1)))) + r3.1.1.1)))).bind fun r4 =>
          cond ((!(eqStr r4.1.1.1 v0)))
          (some ((((0, ()), ((5, ()), ())), ())))
          (some (((((IntKind.wrap .i64 ((IntKind.wrap .i64 ((IntKind.wrap .i64 (3600 * r1.1.1.1)) + (IntKind.wrap .i64 (60 * r2.1.1.1)))) + r3.1.1.1)), ()), ((0, ()), ())), ()))))
        (none))
      (none))
    (none))

noncomputable def impl_ReadAngle_l5 (n : Nat) : Nat → Int → ByteArray → Int → (List (ByteArray)) → Option ((((Int) × (Unit)) × (((Int) × (Unit)) × (Unit))) × (Unit))
  | 0, _, _, _, _ => none
  | k + 1, v15, v0, v14, b0 => impl_ReadAngle_t5 n (impl_ReadAngle_l5 n k) v15 v0 v14 b0

noncomputable def impl_ReadAngle_t (n : Nat) (h5 : Nat → Int → ByteArray → Int → (List (ByteArray)) → Option ((((Int) × (Unit)) × (((Int) × (Unit)) × (Unit))) × (Unit))) (a0 : ByteArray) : Option ((((Int) × (Unit)) × (((Int) × (Unit)) × (Unit))) × (Unit)) :=
  (strings_Split n a0 ((ByteArray.mk #[58]))).bind fun r0 =>
  cond ((((r0.1.1.1.length : Nat) : Int) != 3))
  (some ((((0, ()), ((5, ()), ())), ())))
  (h5 n 0 a0 (((r0.1.1.1.length : Nat) : Int)) r0.1.1.1)

noncomputable def impl_ReadAngle (n : Nat) (a0 : ByteArray) : Option ((((Int) × (Unit)) × (((Int) × (Unit)) × (Unit))) × (Unit)) := impl_ReadAngle_t n (impl_ReadAngle_l5 n) a0

noncomputable def spec_l00In_t (n : Nat) (a0 : Int) (a1 : Int) (a2 : Int) : Option ((((Bool) × (Unit)) × (Unit)) × (Unit)) :=
  cond (decide (a0 ≥ a1))
  (some ((((decide (a0 ≤ a2), ()), ()), ())))
  (some ((((false, ()), ()), ())))

noncomputable def spec_l00In (n : Nat) (a0 : Int) (a1 : Int) (a2 : Int) : Option ((((Bool) × (Unit)) × (Unit)) × (Unit)) := spec_l00In_t n a0 a1 a2

noncomputable def spec_l01Number_t5 (n : Nat) (g5 : Int → ByteArray → Int → Option ((((Int) × (Unit)) × (((Bool) × (Unit)) × (Unit))) × (Unit))) (v5 : Int) (v0 : ByteArray) (v4 : Int) : Option ((((Int) × (Unit)) × (((Bool) × (Unit)) × (Unit))) × (Unit)) :=
  cond (decide (v5 < (((ByteArray.size v0) : Nat) : Int)))
  (cond ((decide (0 ≤ v5) && decide (v5 < (((ByteArray.size v0) : Nat) : Int))))
    (cond (decide ((byteAt v0 v5) < 48))
      (some ((((0, ()), ((false, ()), ())), ())))
      (cond ((decide (0 ≤ v5) && decide (v5 < (((ByteArray.size v0) : Nat) : Int))))
        (cond (decide ((byteAt v0 v5) > 57))
          (some ((((0, ()), ((false, ()), ())), ())))
          (cond ((decide (0 ≤ v5) && decide (v5 < (((ByteArray.size v0) : Nat) : Int))))
            (g5 ((IntKind.wrap .i64 (v5 + 1))) v0 ((IntKind.wrap .i64 ((IntKind.wrap .i64 (10 * v4)) + (IntKind.wrap .i64 (IntKind.wrap .u8 ((byteAt v0 v5) - 48)))))))
            (none)))
        (none)))
    (none))
  (some ((((v4, ()), ((true, ()), ())), ())))

noncomputable def spec_l01Number_l5 (n : Nat) : Nat → Int → ByteArray → Int → Option ((((Int) × (Unit)) × (((Bool) × (Unit)) × (Unit))) × (Unit))
  | 0, _, _, _ => none
  | k + 1, v5, v0, v4 => spec_l01Number_t5 n (spec_l01Number_l5 n k) v5 v0 v4

noncomputable def spec_l01Number_t (n : Nat) (h5 : Nat → Int → ByteArray → Int → Option ((((Int) × (Unit)) × (((Bool) × (Unit)) × (Unit))) × (Unit))) (a0 : ByteArray) : Option ((((Int) × (Unit)) × (((Bool) × (Unit)) × (Unit))) × (Unit)) :=
  cond ((eqStr a0 (ByteArray.mk #[])))
  (some ((((0, ()), ((false, ()), ())), ())))
  (cond (decide ((((ByteArray.size a0) : Nat) : Int) > 10))
    (some ((((0, ()), ((false, ()), ())), ())))
    (cond (decide (0 < (((ByteArray.size a0) : Nat) : Int)))
      (cond (((byteAt a0 0) == 48))
        (cond (decide ((((ByteArray.size a0) : Nat) : Int) > 1))
          (some ((((0, ()), ((false, ()), ())), ())))
          (h5 n 0 a0 0))
        (h5 n 0 a0 0))
      (none)))

noncomputable def spec_l01Number (n : Nat) (a0 : ByteArray) : Option ((((Int) × (Unit)) × (((Bool) × (Unit)) × (Unit))) × (Unit)) := spec_l01Number_t n (spec_l01Number_l5 n) a0

noncomputable def spec_l01Split_t4 (n : Nat) (g4 : Int → Int → ByteArray → Int → (List (ByteArray)) → Option ((((List (ByteArray)) × (Unit)) × (Unit)) × (Unit))) (v7 : Int) (v6 : Int) (v0 : ByteArray) (v1 : Int) (b0 : List (ByteArray)) : Option ((((List (ByteArray)) × (Unit)) × (Unit)) × (Unit)) :=
  cond (decide (v7 < (((ByteArray.size v0) : Nat) : Int)))
  (cond ((decide (0 ≤ v7) && decide (v7 < (((ByteArray.size v0) : Nat) : Int))))
    (cond (((byteAt v0 v7) == v1))
      (cond (((decide (0 ≤ v6) && decide (v6 ≤ v7)) && decide (v7 ≤ (((ByteArray.size v0) : Nat) : Int))))
        (cond (decide (((b0.length + ((ByteArray.extract v0 (Int.toNat v6) (Int.toNat v7)) :: []).length) * 17) ≤ 70368744177664))
          (g4 ((IntKind.wrap .i64 (v7 + 1))) ((IntKind.wrap .i64 (v7 + 1))) v0 v1 ((b0 ++ ((ByteArray.extract v0 (Int.toNat v6) (Int.toNat v7)) :: []))))
          (none))
        (none))
      (g4 ((IntKind.wrap .i64 (v7 + 1))) v6 v0 v1 b0))
    (none))
  (cond (((decide (0 ≤ v6) && decide (v6 ≤ (((ByteArray.size v0) : Nat) : Int))) && decide ((((ByteArray.size v0) : Nat) : Int) ≤ (((ByteArray.size v0) : Nat) : Int))))
    (cond (decide (((b0.length + ((ByteArray.extract v0 (Int.toNat v6) (Int.toNat (((ByteArray.size v0) : Nat) : Int))) :: []).length) * 17) ≤ 70368744177664))
      (some (((((b0 ++ ((ByteArray.extract v0 (Int.toNat v6) (Int.toNat (((ByteArray.size v0) : Nat) : Int))) :: [])), ()), ()), ())))
      (none))
    (none))

noncomputable def spec_l01Split_l4 (n : Nat) : Nat → Int → Int → ByteArray → Int → (List (ByteArray)) → Option ((((List (ByteArray)) × (Unit)) × (Unit)) × (Unit))
  | 0, _, _, _, _, _ => none
  | k + 1, v7, v6, v0, v1, b0 => spec_l01Split_t4 n (spec_l01Split_l4 n k) v7 v6 v0 v1 b0

noncomputable def spec_l01Split_t (n : Nat) (h4 : Nat → Int → Int → ByteArray → Int → (List (ByteArray)) → Option ((((List (ByteArray)) × (Unit)) × (Unit)) × (Unit))) (a0 : ByteArray) (a1 : Int) : Option ((((List (ByteArray)) × (Unit)) × (Unit)) × (Unit)) :=
  h4 n 0 0 a0 a1 []

noncomputable def spec_l01Split (n : Nat) (a0 : ByteArray) (a1 : Int) : Option ((((List (ByteArray)) × (Unit)) × (Unit)) × (Unit)) := spec_l01Split_t n (spec_l01Split_l4 n) a0 a1

noncomputable def spec_ReadAngle_t8 (n : Nat) (g8 : Int → Int → (List (ByteArray)) → Option ((((Int) × (Unit)) × (((Int) × (Unit)) × (Unit))) × (Unit))) (v7 : Int) (v5 : Int) (b0 : List (ByteArray)) : Option ((((Int) × (Unit)) × (((Int) × (Unit)) × (Unit))) × (Unit)) :=
  cond (decide (v7 < 3))
  (cond ((decide (0 ≤ v7) && decide (v7 < ((b0.length : Nat) : Int))))
    (cond (decide (0 < (((ByteArray.size (b0.getD (Int.toNat v7) (ByteArray.mk #[]))) : Nat) : Int)))
      (cond ((decide (0 ≤ v7) && decide (v7 < ((b0.length : Nat) : Int))))
        (cond (decide (1 < (((ByteArray.size (b0.getD (Int.toNat v7) (ByteArray.mk #[]))) : Nat) : Int)))
          ((spec_l00In n ((IntKind.wrap .i64 ((IntKind.wrap .i64 (byteAt (b0.getD (Int.toNat v7) (ByteArray.mk #[])) 0)) - 48))) 0 5).bind fun r2 =>
            cond (!r2.1.1.1)
            (some ((((0, ()), ((5, ()), ())), ())))
            ((spec_l00In n ((IntKind.wrap .i64 ((IntKind.wrap .i64 (byteAt (b0.getD (Int.toNat v7) (ByteArray.mk #[])) 1)) - 48))) 0 9).bind fun r3 =>
              cond (!r3.1.1.1)
              (some ((((0, ()), ((5, ()), ())), ())))
              (g8 ((IntKind.wrap .i64 (v7 + 1))) ((IntKind.wrap .i64 ((IntKind.wrap .i64 ((IntKind.wrap .i64 (60 * v5)) + (IntKind.wrap .i64 (10 * (IntKind.wrap .i64 ((IntKind.wrap .i64 (byteAt (b0.getD (Int.toNat v7) (ByteArray.mk #[])) 0)) - 48)))))) + (IntKind.wrap .i64 ((IntKind.wrap .i64 (byteAt (b0.getD (Int.toNat v7) (ByteArray.mk #[])) 1)) - 48))))) b0)))
          (none))
        (none))
      (none))
    (none))
  (some ((((v5, ()), ((0, ()), ())), ())))

noncomputable def spec_ReadAngle_l8 (n : Nat) : Nat → Int → Int → (List (ByteArray)) → Option ((((Int) × (Unit)) × (((Int) × (Unit)) × (Unit))) × (Unit))
  | 0, _, _, _ => none
  | k + 1, v7, v5, b0 => spec_ReadAngle_t8 n (spec_ReadAngle_l8 n k) v7 v5 b0

noncomputable def spec_ReadAngle_t (n : Nat) (h8 : Nat → Int → Int → (List (ByteArray)) → Option ((((Int) × (Unit)) × (((Int) × (Unit)) × (Unit))) × (Unit))) (a0 : ByteArray) : Option ((((Int) × (Unit)) × (((Int) × (Unit)) × (Unit))) × (Unit)) :=
  (spec_l01Split n a0 58).bind fun r0 =>
  cond ((((r0.1.1.1.length : Nat) : Int) != 3))
  (some ((((0, ()), ((5, ()), ())), ())))
  (cond (decide (1 < ((r0.1.1.1.length : Nat) : Int)))
    (cond (((((ByteArray.size (r0.1.1.1.getD (Int.toNat 1) (ByteArray.mk #[]))) : Nat) : Int) != 2))
      (some ((((0, ()), ((5, ()), ())), ())))
      (cond (decide (2 < ((r0.1.1.1.length : Nat) : Int)))
        (cond (((((ByteArray.size (r0.1.1.1.getD (Int.toNat 2) (ByteArray.mk #[]))) : Nat) : Int) != 2))
          (some ((((0, ()), ((5, ()), ())), ())))
          (cond (decide (0 < ((r0.1.1.1.length : Nat) : Int)))
            ((spec_l01Number n ((r0.1.1.1.getD (Int.toNat 0) (ByteArray.mk #[])))).bind fun r1 =>
              cond (!r1.1.2.1.1)
              (some ((((0, ()), ((5, ()), ())), ())))
              (cond (decide (r1.1.1.1 > 359))
                (some ((((0, ()), ((5, ()), ())), ())))
                (h8 n 1 r1.1.1.1 r0.1.1.1)))
            (none)))
        (none)))
    (none))

noncomputable def spec_ReadAngle (n : Nat) (a0 : ByteArray) : Option ((((Int) × (Unit)) × (((Int) × (Unit)) × (Unit))) × (Unit)) := spec_ReadAngle_t n (spec_ReadAngle_l8 n) a0

noncomputable def laws_FnExactReadAngle_t (n : Nat) (a0 : ByteArray) : Option ((((Bool) × (Unit)) × (Unit)) × (Unit)) :=
  cond (decide ((((ByteArray.size a0) : Nat) : Int) > 1048576))
  (some ((((true, ()), ()), ())))
  ((spec_ReadAngle n a0).bind fun r0 =>
    (impl_ReadAngle n a0).bind fun r1 =>
    cond ((r1.1.1.1 != r0.1.1.1))
    (some ((((false, ()), ()), ())))
    (cond ((r1.1.2.1.1 != r0.1.2.1.1))
      (some ((((false, ()), ()), ())))
      (some ((((true, ()), ()), ())))))

noncomputable def laws_FnExactReadAngle (n : Nat) (a0 : ByteArray) : Option ((((Bool) × (Unit)) × (Unit)) × (Unit)) := laws_FnExactReadAngle_t n a0

noncomputable def impl_gcd_t1 (n : Nat) (g1 : Int → Int → Option ((((Int) × (Unit)) × (Unit)) × (Unit))) (v1 : Int) (v0 : Int) : Option ((((Int) × (Unit)) × (Unit)) × (Unit)) :=
  cond ((v1 != 0))
  (cond ((v1 != 0))
    (g1 ((Int.tmod v0 v1)) v1)
    (none))
  (some (((((if v0 < (IntKind.wrap .i64 (0 - v0)) then (IntKind.wrap .i64 (0 - v0)) else v0), ()), ()), ())))

noncomputable def impl_gcd_l1 (n : Nat) : Nat → Int → Int → Option ((((Int) × (Unit)) × (Unit)) × (Unit))
  | 0, _, _ => none
  | k + 1, v1, v0 => impl_gcd_t1 n (impl_gcd_l1 n k) v1 v0

noncomputable def impl_gcd_t (n : Nat) (h1 : Nat → Int → Int → Option ((((Int) × (Unit)) × (Unit)) × (Unit))) (a0 : Int) (a1 : Int) : Option ((((Int) × (Unit)) × (Unit)) × (Unit)) :=
  h1 n a1 a0

noncomputable def impl_gcd (n : Nat) (a0 : Int) (a1 : Int) : Option ((((Int) × (Unit)) × (Unit)) × (Unit)) := impl_gcd_t n (impl_gcd_l1 n) a0 a1

noncomputable def impl_ValidFrac_t (n : Nat) (a0 : (Int) × (Int)) : Option ((((Bool) × (Unit)) × (Unit)) × (Unit)) :=
  (impl_within n a0.2 1 1000000000).bind fun r0 =>
  cond r0.1.1.1
  ((impl_within n a0.1 (-1000000000) 1000000000).bind fun r1 =>
    cond r1.1.1.1
    ((impl_gcd n a0.1 a0.2).bind fun r2 =>
      some (((((r2.1.1.1 == 1), ()), ()), ())))
    (some ((((false, ()), ()), ()))))
  (some ((((false, ()), ()), ())))

noncomputable def impl_ValidFrac (n : Nat) (a0 : (Int) × (Int)) : Option ((((Bool) × (Unit)) × (Unit)) × (Unit)) := impl_ValidFrac_t n a0

noncomputable def impl_calc_one_t (n : Nat) (a1 : (Int) × (Int)) (b0 : Bool) : Option (((((Int) × (Int)) × (Unit)) × (((Int) × (Unit)) × (Unit))) × ((Bool) × (Unit))) :=
  cond b0
  (some (((((0, 0), ()), ((3, ()), ())), (b0, ()))))
  (some (((((a1.1, a1.2), ()), ((0, ()), ())), (b0, ()))))

noncomputable def impl_calc_one (n : Nat) (a1 : (Int) × (Int)) (b0 : Bool) : Option (((((Int) × (Int)) × (Unit)) × (((Int) × (Unit)) × (Unit))) × ((Bool) × (Unit))) := impl_calc_one_t n a1 b0

noncomputable def impl_fracOf_t (n : Nat) (a0 : Int) (a1 : Int) : Option (((((Int) × (Int)) × (Unit)) × (((Bool) × (Unit)) × (Unit))) × (Unit)) :=
  cond (decide (a1 < 0))
  ((impl_gcd n ((IntKind.wrap .i64 (0 - a0))) ((IntKind.wrap .i64 (0 - a1)))).bind fun r0 =>
    cond ((r0.1.1.1 != 0))
    (cond ((r0.1.1.1 != 0))
      ((impl_ValidFrac n (((IntKind.wrap .i64 (Int.tdiv (IntKind.wrap .i64 (0 - a0)) r0.1.1.1)), (IntKind.wrap .i64 (Int.tdiv (IntKind.wrap .i64 (0 - a1)) r0.1.1.1))))).bind fun r1 =>
        cond (!r1.1.1.1)
        (some (((((0, 0), ()), ((false, ()), ())), ())))
        (some ((((((IntKind.wrap .i64 (Int.tdiv (IntKind.wrap .i64 (0 - a0)) r0.1.1.1)), (IntKind.wrap .i64 (Int.tdiv (IntKind.wrap .i64 (0 - a1)) r0.1.1.1))), ()), ((true, ()), ())), ()))))
      (none))
    (none))
  ((impl_gcd n a0 a1).bind fun r2 =>
    cond ((r2.1.1.1 != 0))
    (cond ((r2.1.1.1 != 0))
      ((impl_ValidFrac n (((IntKind.wrap .i64 (Int.tdiv a0 r2.1.1.1)), (IntKind.wrap .i64 (Int.tdiv a1 r2.1.1.1))))).bind fun r3 =>
        cond (!r3.1.1.1)
        (some (((((0, 0), ()), ((false, ()), ())), ())))
        (some ((((((IntKind.wrap .i64 (Int.tdiv a0 r2.1.1.1)), (IntKind.wrap .i64 (Int.tdiv a1 r2.1.1.1))), ()), ((true, ()), ())), ()))))
      (none))
    (none))

noncomputable def impl_fracOf (n : Nat) (a0 : Int) (a1 : Int) : Option (((((Int) × (Int)) × (Unit)) × (((Bool) × (Unit)) × (Unit))) × (Unit)) := impl_fracOf_t n a0 a1

noncomputable def impl_zero_t (n : Nat) : Option (((((Int) × (Int)) × (Unit)) × (Unit)) × (Unit)) :=
  some (((((0, 1), ()), ()), ()))

noncomputable def impl_zero (n : Nat) : Option (((((Int) × (Int)) × (Unit)) × (Unit)) × (Unit)) := impl_zero_t n

noncomputable def impl_calc_told_t (n : Nat) (a1 : Int) (a2 : Int) (b0 : Bool) : Option (((((Int) × (Int)) × (Unit)) × (Unit)) × ((Bool) × (Unit))) :=
  (impl_fracOf n a1 a2).bind fun r0 =>
  cond (!r0.1.2.1.1)
  ((impl_zero n).bind fun r1 =>
    some (((((r1.1.1.1.1, r1.1.1.1.2), ()), ()), (true, ()))))
  (some (((((r0.1.1.1.1, r0.1.1.1.2), ()), ()), (b0, ()))))

noncomputable def impl_calc_told (n : Nat) (a1 : Int) (a2 : Int) (b0 : Bool) : Option (((((Int) × (Int)) × (Unit)) × (Unit)) × ((Bool) × (Unit))) := impl_calc_told_t n a1 a2 b0

noncomputable def impl_wrap_t (n : Nat) (a0 : Int) : Option ((((Int) × (Unit)) × (Unit)) × (Unit)) :=
  some (((((Int.tmod (IntKind.wrap .i64 ((Int.tmod a0 1296000) + 1296000)) 1296000), ()), ()), ()))

noncomputable def impl_wrap (n : Nat) (a0 : Int) : Option ((((Int) × (Unit)) × (Unit)) × (Unit)) := impl_wrap_t n a0

noncomputable def impl_turnFrom_t (n : Nat) (a0 : Int) (a1 : Int) : Option ((((Int) × (Unit)) × (Unit)) × (Unit)) :=
  (impl_wrap n ((IntKind.wrap .i64 (a1 - a0)))).bind fun r0 =>
  cond (decide (r0.1.1.1 > 648000))
  (some (((((IntKind.wrap .i64 (r0.1.1.1 - 1296000)), ()), ()), ())))
  (some ((((r0.1.1.1, ()), ()), ())))

noncomputable def impl_turnFrom (n : Nat) (a0 : Int) (a1 : Int) : Option ((((Int) × (Unit)) × (Unit)) × (Unit)) := impl_turnFrom_t n a0 a1

noncomputable def laws_eqFrac_t (n : Nat) (a0 : (Int) × (Int)) (a1 : (Int) × (Int)) : Option ((((Bool) × (Unit)) × (Unit)) × (Unit)) :=
  cond ((a0.1 != a1.1))
  (some ((((false, ()), ()), ())))
  (cond ((a0.2 != a1.2))
    (some ((((false, ()), ()), ())))
    (some ((((true, ()), ()), ()))))

noncomputable def laws_eqFrac (n : Nat) (a0 : (Int) × (Int)) (a1 : (Int) × (Int)) : Option ((((Bool) × (Unit)) × (Unit)) × (Unit)) := laws_eqFrac_t n a0 a1

noncomputable def spec_Decimal_t (n : Nat) (rec : Int → Option ((((ByteArray) × (Unit)) × (Unit)) × (Unit))) (a0 : Int) : Option ((((ByteArray) × (Unit)) × (Unit)) × (Unit)) :=
  cond (decide (a0 < 10))
  (some (((((byteStr ((IntKind.wrap .u8 (IntKind.wrap .i64 (48 + (Int.tmod a0 10)))) :: [])), ()), ()), ())))
  ((rec ((IntKind.wrap .i64 (Int.tdiv a0 10)))).bind fun r0 =>
    cond ((roomStr r0.1.1.1 (byteStr ((IntKind.wrap .u8 (IntKind.wrap .i64 (48 + (Int.tmod a0 10)))) :: []))))
    (some (((((r0.1.1.1 ++ (byteStr ((IntKind.wrap .u8 (IntKind.wrap .i64 (48 + (Int.tmod a0 10)))) :: []))), ()), ()), ())))
    (none))

noncomputable def spec_Decimal_r (n : Nat) : Nat → Int → Option ((((ByteArray) × (Unit)) × (Unit)) × (Unit))
  | 0, _ => none
  | d + 1, a0 => spec_Decimal_t n (spec_Decimal_r n d) a0

noncomputable def spec_Decimal (n : Nat) (a0 : Int) : Option ((((ByteArray) × (Unit)) × (Unit)) × (Unit)) := spec_Decimal_r n n a0

noncomputable def spec_l03Angle_t (n : Nat) (a0 : Int) : Option ((((Bool) × (Unit)) × (Unit)) × (Unit)) :=
  (spec_l00In n a0 0 1295999).bind fun r0 =>
  some ((((r0.1.1.1, ()), ()), ()))

noncomputable def spec_l03Angle (n : Nat) (a0 : Int) : Option ((((Bool) × (Unit)) × (Unit)) × (Unit)) := spec_l03Angle_t n a0

noncomputable def spec_l03Two_t (n : Nat) (a0 : Int) : Option ((((ByteArray) × (Unit)) × (Unit)) × (Unit)) :=
  (spec_Decimal n ((IntKind.wrap .i64 (Int.tdiv a0 10)))).bind fun r0 =>
  (spec_Decimal n ((Int.tmod a0 10))).bind fun r1 =>
  cond ((roomStr r0.1.1.1 r1.1.1.1))
  (some (((((r0.1.1.1 ++ r1.1.1.1), ()), ()), ())))
  (none)

noncomputable def spec_l03Two (n : Nat) (a0 : Int) : Option ((((ByteArray) × (Unit)) × (Unit)) × (Unit)) := spec_l03Two_t n a0

noncomputable def spec_AngleText_t (n : Nat) (a0 : Int) : Option ((((ByteArray) × (Unit)) × (Unit)) × (Unit)) :=
  (spec_l03Angle n a0).bind fun r0 =>
  cond (!r0.1.1.1)
  (some (((((ByteArray.mk #[]), ()), ()), ())))
  ((spec_Decimal n ((IntKind.wrap .i64 (Int.tdiv a0 3600)))).bind fun r1 =>
    cond ((roomStr r1.1.1.1 (ByteArray.mk #[58])))
    ((spec_l03Two n ((Int.tmod (IntKind.wrap .i64 (Int.tdiv a0 60)) 60))).bind fun r2 =>
      cond ((roomStr (r1.1.1.1 ++ (ByteArray.mk #[58])) r2.1.1.1))
      (cond ((roomStr ((r1.1.1.1 ++ (ByteArray.mk #[58])) ++ r2.1.1.1) (ByteArray.mk #[58])))
        ((spec_l03Two n ((Int.tmod a0 60))).bind fun r3 =>
          cond ((roomStr (((r1.1.1.1 ++ (ByteArray.mk #[58])) ++ r2.1.1.1) ++ (ByteArray.mk #[58])) r3.1.1.1))
          (some ((((((((r1.1.1.1 ++ (ByteArray.mk #[58])) ++ r2.1.1.1) ++ (ByteArray.mk #[58])) ++ r3.1.1.1), ()), ()), ())))
          (none))
        (none))
      (none))
    (none))

noncomputable def spec_AngleText (n : Nat) (a0 : Int) : Option ((((ByteArray) × (Unit)) × (Unit)) × (Unit)) := spec_AngleText_t n a0

noncomputable def spec_l01Abs_t (n : Nat) (a0 : Int) : Option ((((Int) × (Unit)) × (Unit)) × (Unit)) :=
  cond (decide (a0 < 0))
  (some (((((IntKind.wrap .i64 (0 - a0)), ()), ()), ())))
  (some ((((a0, ()), ()), ())))

noncomputable def spec_l01Abs (n : Nat) (a0 : Int) : Option ((((Int) × (Unit)) × (Unit)) × (Unit)) := spec_l01Abs_t n a0

noncomputable def spec_l01Gcd_t1 (n : Nat) (g1 : Int → Int → Option ((((Int) × (Unit)) × (Unit)) × (Unit))) (v1 : Int) (v0 : Int) : Option ((((Int) × (Unit)) × (Unit)) × (Unit)) :=
  cond ((v1 != 0))
  (cond ((v1 != 0))
    (g1 ((Int.tmod v0 v1)) v1)
    (none))
  (some ((((v0, ()), ()), ())))

noncomputable def spec_l01Gcd_l1 (n : Nat) : Nat → Int → Int → Option ((((Int) × (Unit)) × (Unit)) × (Unit))
  | 0, _, _ => none
  | k + 1, v1, v0 => spec_l01Gcd_t1 n (spec_l01Gcd_l1 n k) v1 v0

noncomputable def spec_l01Gcd_t (n : Nat) (h1 : Nat → Int → Int → Option ((((Int) × (Unit)) × (Unit)) × (Unit))) (a0 : Int) (a1 : Int) : Option ((((Int) × (Unit)) × (Unit)) × (Unit)) :=
  h1 n a1 a0

noncomputable def spec_l01Gcd (n : Nat) (a0 : Int) (a1 : Int) : Option ((((Int) × (Unit)) × (Unit)) × (Unit)) := spec_l01Gcd_t n (spec_l01Gcd_l1 n) a0 a1

noncomputable def spec_l01Ok_t (n : Nat) (a0 : (Int) × (Int)) : Option ((((Bool) × (Unit)) × (Unit)) × (Unit)) :=
  (spec_l00In n a0.2 1 1000000000).bind fun r0 =>
  cond r0.1.1.1
  ((spec_l00In n a0.1 (-1000000000) 1000000000).bind fun r1 =>
    cond r1.1.1.1
    ((spec_l01Abs n a0.1).bind fun r2 =>
      (spec_l01Gcd n r2.1.1.1 a0.2).bind fun r3 =>
      some (((((r3.1.1.1 == 1), ()), ()), ())))
    (some ((((false, ()), ()), ()))))
  (some ((((false, ()), ()), ())))

noncomputable def spec_l01Ok (n : Nat) (a0 : (Int) × (Int)) : Option ((((Bool) × (Unit)) × (Unit)) × (Unit)) := spec_l01Ok_t n a0

noncomputable def spec_l01Reduced_t (n : Nat) (a0 : Int) (a1 : Int) : Option (((((Int) × (Int)) × (Unit)) × (((Int) × (Unit)) × (Unit))) × (Unit)) :=
  (spec_l01Abs n a0).bind fun r0 =>
  (spec_l01Abs n a1).bind fun r1 =>
  (spec_l01Gcd n r0.1.1.1 r1.1.1.1).bind fun r2 =>
  cond ((r2.1.1.1 != 0))
  (cond ((r2.1.1.1 != 0))
    (cond (decide ((IntKind.wrap .i64 (Int.tdiv a1 r2.1.1.1)) < 0))
      ((spec_l01Ok n (((IntKind.wrap .i64 (0 - (IntKind.wrap .i64 (Int.tdiv a0 r2.1.1.1)))), (IntKind.wrap .i64 (0 - (IntKind.wrap .i64 (Int.tdiv a1 r2.1.1.1))))))).bind fun r3 =>
        cond (!r3.1.1.1)
        (some (((((0, 0), ()), ((3, ()), ())), ())))
        (some ((((((IntKind.wrap .i64 (0 - (IntKind.wrap .i64 (Int.tdiv a0 r2.1.1.1)))), (IntKind.wrap .i64 (0 - (IntKind.wrap .i64 (Int.tdiv a1 r2.1.1.1))))), ()), ((0, ()), ())), ()))))
      ((spec_l01Ok n (((IntKind.wrap .i64 (Int.tdiv a0 r2.1.1.1)), (IntKind.wrap .i64 (Int.tdiv a1 r2.1.1.1))))).bind fun r4 =>
        cond (!r4.1.1.1)
        (some (((((0, 0), ()), ((3, ()), ())), ())))
        (some ((((((IntKind.wrap .i64 (Int.tdiv a0 r2.1.1.1)), (IntKind.wrap .i64 (Int.tdiv a1 r2.1.1.1))), ()), ((0, ()), ())), ())))))
    (none))
  (none)

noncomputable def spec_l01Reduced (n : Nat) (a0 : Int) (a1 : Int) : Option (((((Int) × (Int)) × (Unit)) × (((Int) × (Unit)) × (Unit))) × (Unit)) := spec_l01Reduced_t n a0 a1

noncomputable def spec_l03Wrap_t (n : Nat) (a0 : Int) : Option ((((Int) × (Unit)) × (Unit)) × (Unit)) :=
  cond (decide ((Int.tmod a0 1296000) < 0))
  (some (((((IntKind.wrap .i64 ((Int.tmod a0 1296000) + 1296000)), ()), ()), ())))
  (some (((((Int.tmod a0 1296000), ()), ()), ())))

noncomputable def spec_l03Wrap (n : Nat) (a0 : Int) : Option ((((Int) × (Unit)) × (Unit)) × (Unit)) := spec_l03Wrap_t n a0

noncomputable def spec_l03Turn_t (n : Nat) (a0 : Int) (a1 : Int) : Option ((((Int) × (Unit)) × (Unit)) × (Unit)) :=
  (spec_l03Wrap n ((IntKind.wrap .i64 (a1 - a0)))).bind fun r0 =>
  cond (decide (r0.1.1.1 > 648000))
  (some (((((IntKind.wrap .i64 (r0.1.1.1 - 1296000)), ()), ()), ())))
  (some ((((r0.1.1.1, ()), ()), ())))

noncomputable def spec_l03Turn (n : Nat) (a0 : Int) (a1 : Int) : Option ((((Int) × (Unit)) × (Unit)) × (Unit)) := spec_l03Turn_t n a0 a1

end Go.Abs
