import Derived.Test.YtpamckmeeamjjaaDoorLib
namespace Go.Abs
set_option linter.unusedVariables false

noncomputable def strconv_FormatInt (n : Nat) (a0 : Int) (a1 : Int) : Option ((((ByteArray) × (Unit)) × (Unit)) × (Unit)) :=
  cond ((decide (-9223372036854775808 ≤ a0) && decide (a0 ≤ 9223372036854775807)) && (a1 == 10)) (some ((((ByteArray.mk (Go.Lib.itoa a0).toArray, ()), ()), ()))) none

noncomputable def impl_dec_t (n : Nat) (a0 : Int) : Option ((((ByteArray) × (Unit)) × (Unit)) × (Unit)) :=
  (strconv_FormatInt n a0 10).bind fun r0 =>
  some ((((r0.1.1.1, ()), ()), ()))

noncomputable def impl_dec (n : Nat) (a0 : Int) : Option ((((ByteArray) × (Unit)) × (Unit)) × (Unit)) := impl_dec_t n a0

noncomputable def impl_within_t (n : Nat) (a0 : Int) (a1 : Int) (a2 : Int) : Option ((((Bool) × (Unit)) × (Unit)) × (Unit)) :=
  cond (decide (a1 ≤ a0))
  (some ((((decide (a0 ≤ a2), ()), ()), ())))
  (some ((((false, ()), ()), ())))

noncomputable def impl_within (n : Nat) (a0 : Int) (a1 : Int) (a2 : Int) : Option ((((Bool) × (Unit)) × (Unit)) × (Unit)) := impl_within_t n a0 a1 a2

noncomputable def impl_isAngle_t (n : Nat) (a0 : Int) : Option ((((Bool) × (Unit)) × (Unit)) × (Unit)) :=
  (impl_within n a0 0 1295999).bind fun r0 =>
  some ((((r0.1.1.1, ()), ()), ()))

noncomputable def impl_isAngle (n : Nat) (a0 : Int) : Option ((((Bool) × (Unit)) × (Unit)) × (Unit)) := impl_isAngle_t n a0

noncomputable def impl_two_t (n : Nat) (a0 : Int) : Option ((((ByteArray) × (Unit)) × (Unit)) × (Unit)) :=
  cond (decide (a0 < 10))
  ((impl_dec n a0).bind fun r0 =>
    cond ((roomStr (ByteArray.mk #[48]) r0.1.1.1))
    (some ((((((ByteArray.mk #[48]) ++ r0.1.1.1), ()), ()), ())))
    (none))
  ((impl_dec n a0).bind fun r1 =>
    some ((((r1.1.1.1, ()), ()), ())))

noncomputable def impl_two (n : Nat) (a0 : Int) : Option ((((ByteArray) × (Unit)) × (Unit)) × (Unit)) := impl_two_t n a0

noncomputable def impl_AngleText_t (n : Nat) (a0 : Int) : Option ((((ByteArray) × (Unit)) × (Unit)) × (Unit)) :=
  (impl_isAngle n a0).bind fun r0 =>
  cond (!r0.1.1.1)
  (some (((((ByteArray.mk #[]), ()), ()), ())))
  ((impl_dec n ((IntKind.wrap .i64 (Int.tdiv a0 3600)))).bind fun r1 =>
    cond ((roomStr r1.1.1.1 (ByteArray.mk #[58])))
    ((impl_two n ((Int.tmod (IntKind.wrap .i64 (Int.tdiv a0 60)) 60))).bind fun r2 =>
      cond ((roomStr (r1.1.1.1 ++ (ByteArray.mk #[58])) r2.1.1.1))
      (cond ((roomStr ((r1.1.1.1 ++ (ByteArray.mk #[58])) ++ r2.1.1.1) (ByteArray.mk #[58])))
        ((impl_two n ((Int.tmod a0 60))).bind fun r3 =>
          cond ((roomStr (((r1.1.1.1 ++ (ByteArray.mk #[58])) ++ r2.1.1.1) ++ (ByteArray.mk #[58])) r3.1.1.1))
          (some ((((((((r1.1.1.1 ++ (ByteArray.mk #[58])) ++ r2.1.1.1) ++ (ByteArray.mk #[58])) ++ r3.1.1.1), ()), ()), ())))
          (none))
        (none))
      (none))
    (none))

noncomputable def impl_AngleText (n : Nat) (a0 : Int) : Option ((((ByteArray) × (Unit)) × (Unit)) × (Unit)) := impl_AngleText_t n a0

noncomputable def spec_Decimal_t (n : Nat) (rec : Int → Option ((((ByteArray) × (Unit)) × (Unit)) × (Unit))) (a0 : Int) : Option ((((ByteArray) × (Unit)) × (Unit)) × (Unit)) :=
  cond (decide (a0 < 10))
  (some (((((byteStr ((IntKind.wrap .u8 (IntKind.wrap .i64 (48 + (Int.tmod a0 10)))) :: [])), ()), ()), ())))
  ((rec ((IntKind.wrap .i64 (Int.tdiv a0 10)))).bind fun r0 =>
    cond ((roomStr r0.1.1.1 (byteStr ((IntKind.wrap .u8 (IntKind.wrap .i64 (48 + (Int.tmod a0 10)))) :: []))))
    (some (((((r0.1.1.1 ++ (byteStr ((IntKind.wrap .u8 (IntKind.wrap .i64 (48 + (Int.tmod a0 10)))) :: []))), ()), ()), ())))
    (none))

noncomputable def spec_Decimal_r (n : Nat) : Nat → Int → Option ((((ByteArray) × (Unit)) × (Unit)) × (Unit))
  | 0, _ => none
  | d + 1, a0 => spec_Decimal_t n (spec_Decimal_r n d) a0

noncomputable def spec_Decimal (n : Nat) (a0 : Int) : Option ((((ByteArray) × (Unit)) × (Unit)) × (Unit)) := spec_Decimal_r n n a0

noncomputable def spec_l00In_t (n : Nat) (a0 : Int) (a1 : Int) (a2 : Int) : Option ((((Bool) × (Unit)) × (Unit)) × (Unit)) :=
  cond (decide (a0 ≥ a1))
  (some ((((decide (a0 ≤ a2), ()), ()), ())))
  (some ((((false, ()), ()), ())))

noncomputable def spec_l00In (n : Nat) (a0 : Int) (a1 : Int) (a2 : Int) : Option ((((Bool) × (Unit)) × (Unit)) × (Unit)) := spec_l00In_t n a0 a1 a2

noncomputable def spec_l03Angle_t (n : Nat) (a0 : Int) : Option ((((Bool) × (Unit)) × (Unit)) × (Unit)) :=
  (spec_l00In n a0 0 1295999).bind fun r0 =>
  some ((((r0.1.1.1, ()), ()), ()))

noncomputable def spec_l03Angle (n : Nat) (a0 : Int) : Option ((((Bool) × (Unit)) × (Unit)) × (Unit)) := spec_l03Angle_t n a0

noncomputable def spec_l03Two_t (n : Nat) (a0 : Int) : Option ((((ByteArray) × (Unit)) × (Unit)) × (Unit)) :=
  (spec_Decimal n ((IntKind.wrap .i64 (Int.tdiv a0 10)))).bind fun r0 =>
  (spec_Decimal n ((Int.tmod a0 10))).bind fun r1 =>
  cond ((roomStr r0.1.1.1 r1.1.1.1))
  (some (((((r0.1.1.1 ++ r1.1.1.1), ()), ()), ())))
  (none)

noncomputable def spec_l03Two (n : Nat) (a0 : Int) : Option ((((ByteArray) × (Unit)) × (Unit)) × (Unit)) := spec_l03Two_t n a0

noncomputable def spec_AngleText_t (n : Nat) (a0 : Int) : Option ((((ByteArray) × (Unit)) × (Unit)) × (Unit)) :=
  (spec_l03Angle n a0).bind fun r0 =>
  cond (!r0.1.1.1)
  (some (((((ByteArray.mk #[]), ()), ()), ())))
  ((spec_Decimal n ((IntKind.wrap .i64 (Int.tdiv a0 3600)))).bind fun r1 =>
    cond ((roomStr r1.1.1.1 (ByteArray.mk #[58])))
    ((spec_l03Two n ((Int.tmod (IntKind.wrap .i64 (Int.tdiv a0 60)) 60))).bind fun r2 =>
      cond ((roomStr (r1.1.1.1 ++ (ByteArray.mk #[58])) r2.1.1.1))
      (cond ((roomStr ((r1.1.1.1 ++ (ByteArray.mk #[58])) ++ r2.1.1.1) (ByteArray.mk #[58])))
        ((spec_l03Two n ((Int.tmod a0 60))).bind fun r3 =>
          cond ((roomStr (((r1.1.1.1 ++ (ByteArray.mk #[58])) ++ r2.1.1.1) ++ (ByteArray.mk #[58])) r3.1.1.1))
          (some ((((((((r1.1.1.1 ++ (ByteArray.mk #[58])) ++ r2.1.1.1) ++ (ByteArray.mk #[58])) ++ r3.1.1.1), ()), ()), ())))
          (none))
        (none))
      (none))
    (none))

noncomputable def spec_AngleText (n : Nat) (a0 : Int) : Option ((((ByteArray) × (Unit)) × (Unit)) × (Unit)) := spec_AngleText_t n a0

noncomputable def laws_FnExactAngleText_t (n : Nat) (a0 : Int) : Option ((((Bool) × (Unit)) × (Unit)) × (Unit)) :=
  (spec_AngleText n a0).bind fun r0 =>
  (impl_AngleText n a0).bind fun r1 =>
  cond ((!(eqStr r1.1.1.1 r0.1.1.1)))
  (some ((((false, ()), ()), ())))
  (some ((((true, ()), ()), ())))

noncomputable def laws_FnExactAngleText (n : Nat) (a0 : Int) : Option ((((Bool) × (Unit)) × (Unit)) × (Unit)) := laws_FnExactAngleText_t n a0

noncomputable def impl_gcd_t1 (n : Nat) (g1 : Int → Int → Option ((((Int) × (Unit)) × (Unit)) × (Unit))) (v1 : Int) (v0 : Int) : Option ((((Int) × (Unit)) × (Unit)) × (Unit)) :=
  cond ((v1 != 0))
  (cond ((v1 != 0))
    (g1 ((Int.tmod v0 v1)) v1)
    (none))
  (some (((((if v0 < (IntKind.wrap .i64 (0 - v0)) then (IntKind.wrap .i64 (0 - v0)) else v0), ()), ()), ())))

noncomputable def impl_gcd_l1 (n : Nat) : Nat → Int → Int → Option ((((Int) × (Unit)) × (Unit)) × (Unit))
  | 0, _, _ => none
  | k + 1, v1, v0 => impl_gcd_t1 n (impl_gcd_l1 n k) v1 v0

noncomputable def impl_gcd_t (n : Nat) (h1 : Nat → Int → Int → Option ((((Int) × (Unit)) × (Unit)) × (Unit))) (a0 : Int) (a1 : Int) : Option ((((Int) × (Unit)) × (Unit)) × (Unit)) :=
  h1 n a1 a0

noncomputable def impl_gcd (n : Nat) (a0 : Int) (a1 : Int) : Option ((((Int) × (Unit)) × (Unit)) × (Unit)) := impl_gcd_t n (impl_gcd_l1 n) a0 a1

noncomputable def impl_ValidFrac_t (n : Nat) (a0 : (Int) × (Int)) : Option ((((Bool) × (Unit)) × (Unit)) × (Unit)) :=
  (impl_within n a0.2 1 1000000000).bind fun r0 =>
  cond r0.1.1.1
  ((impl_within n a0.1 (-1000000000) 1000000000).bind fun r1 =>
    cond r1.1.1.1
    ((impl_gcd n a0.1 a0.2).bind fun r2 =>
      some (((((r2.1.1.1 == 1), ()), ()), ())))
    (some ((((false, ()), ()), ()))))
  (some ((((false, ()), ()), ())))

noncomputable def impl_ValidFrac (n : Nat) (a0 : (Int) × (Int)) : Option ((((Bool) × (Unit)) × (Unit)) × (Unit)) := impl_ValidFrac_t n a0

noncomputable def impl_calc_one_t (n : Nat) (a1 : (Int) × (Int)) (b0 : Bool) : Option (((((Int) × (Int)) × (Unit)) × (((Int) × (Unit)) × (Unit))) × ((Bool) × (Unit))) :=
  cond b0
  (some (((((0, 0), ()), ((3, ()), ())), (b0, ()))))
  (some (((((a1.1, a1.2), ()), ((0, ()), ())), (b0, ()))))

noncomputable def impl_calc_one (n : Nat) (a1 : (Int) × (Int)) (b0 : Bool) : Option (((((Int) × (Int)) × (Unit)) × (((Int) × (Unit)) × (Unit))) × ((Bool) × (Unit))) := impl_calc_one_t n a1 b0

noncomputable def impl_fracOf_t (n : Nat) (a0 : Int) (a1 : Int) : Option (((((Int) × (Int)) × (Unit)) × (((Bool) × (Unit)) × (Unit))) × (Unit)) :=
  cond (decide (a1 < 0))
  ((impl_gcd n ((IntKind.wrap .i64 (0 - a0))) ((IntKind.wrap .i64 (0 - a1)))).bind fun r0 =>
    cond ((r0.1.1.1 != 0))
    (cond ((r0.1.1.1 != 0))
      ((impl_ValidFrac n (((IntKind.wrap .i64 (Int.tdiv (IntKind.wrap .i64 (0 - a0)) r0.1.1.1)), (IntKind.wrap .i64 (Int.tdiv (IntKind.wrap .i64 (0 - a1)) r0.1.1.1))))).bind fun r1 =>
        cond (!r1.1.1.1)
        (some (((((0, 0), ()), ((false, ()), ())), ())))
        (some ((((((IntKind.wrap .i64 (Int.tdiv (IntKind.wrap .i64 (0 - a0)) r0.1.1.1)), (IntKind.wrap .i64 (Int.tdiv (IntKind.wrap .i64 (0 - a1)) r0.1.1.1))), ()), ((true, ()), ())), ()))))
      (none))
    (none))
  ((impl_gcd n a0 a1).bind fun r2 =>
    cond ((r2.1.1.1 != 0))
    (cond ((r2.1.1.1 != 0))
      ((impl_ValidFrac n (((IntKind.wrap .i64 (Int.tdiv a0 r2.1.1.1)), (IntKind.wrap .i64 (Int.tdiv a1 r2.1.1.1))))).bind fun r3 =>
        cond (!r3.1.1.1)
        (some (((((0, 0), ()), ((false, ()), ())), ())))
        (some ((((((IntKind.wrap .i64 (Int.tdiv a0 r2.1.1.1)), (IntKind.wrap .i64 (Int.tdiv a1 r2.1.1.1))), ()), ((true, ()), ())), ()))))
      (none))
    (none))

noncomputable def impl_fracOf (n : Nat) (a0 : Int) (a1 : Int) : Option (((((Int) × (Int)) × (Unit)) × (((Bool) × (Unit)) × (Unit))) × (Unit)) := impl_fracOf_t n a0 a1

noncomputable def impl_zero_t (n : Nat) : Option (((((Int) × (Int)) × (Unit)) × (Unit)) × (Unit)) :=
  some (((((0, 1), ()), ()), ()))

noncomputable def impl_zero (n : Nat) : Option (((((Int) × (Int)) × (Unit)) × (Unit)) × (Unit)) := impl_zero_t n

noncomputable def impl_calc_told_t (n : Nat) (a1 : Int) (a2 : Int) (b0 : Bool) : Option (((((Int) × (Int)) × (Unit)) × (Unit)) × ((Bool) × (Unit))) :=
  (impl_fracOf n a1 a2).bind fun r0 =>
  cond (!r0.1.2.1.1)
  ((impl_zero n).bind fun r1 =>
    some (((((r1.1.1.1.1, r1.1.1.1.2), ()), ()), (true, ()))))
  (some (((((r0.1.1.1.1, r0.1.1.1.2), ()), ()), (b0, ()))))

noncomputable def impl_calc_told (n : Nat) (a1 : Int) (a2 : Int) (b0 : Bool) : Option (((((Int) × (Int)) × (Unit)) × (Unit)) × ((Bool) × (Unit))) := impl_calc_told_t n a1 a2 b0

noncomputable def impl_wrap_t (n : Nat) (a0 : Int) : Option ((((Int) × (Unit)) × (Unit)) × (Unit)) :=
  some (((((Int.tmod (IntKind.wrap .i64 ((Int.tmod a0 1296000) + 1296000)) 1296000), ()), ()), ()))

noncomputable def impl_wrap (n : Nat) (a0 : Int) : Option ((((Int) × (Unit)) × (Unit)) × (Unit)) := impl_wrap_t n a0

noncomputable def impl_turnFrom_t (n : Nat) (a0 : Int) (a1 : Int) : Option ((((Int) × (Unit)) × (Unit)) × (Unit)) :=
  (impl_wrap n ((IntKind.wrap .i64 (a1 - a0)))).bind fun r0 =>
  cond (decide (r0.1.1.1 > 648000))
  (some (((((IntKind.wrap .i64 (r0.1.1.1 - 1296000)), ()), ()), ())))
  (some ((((r0.1.1.1, ()), ()), ())))

noncomputable def impl_turnFrom (n : Nat) (a0 : Int) (a1 : Int) : Option ((((Int) × (Unit)) × (Unit)) × (Unit)) := impl_turnFrom_t n a0 a1

noncomputable def laws_eqFrac_t (n : Nat) (a0 : (Int) × (Int)) (a1 : (Int) × (Int)) : Option ((((Bool) × (Unit)) × (Unit)) × (Unit)) :=
  cond ((a0.1 != a1.1))
  (some ((((false, ()), ()), ())))
  (cond ((a0.2 != a1.2))
    (some ((((false, ()), ()), ())))
    (some ((((true, ()), ()), ()))))

noncomputable def laws_eqFrac (n : Nat) (a0 : (Int) × (Int)) (a1 : (Int) × (Int)) : Option ((((Bool) × (Unit)) × (Unit)) × (Unit)) := laws_eqFrac_t n a0 a1

noncomputable def spec_l01Abs_t (n : Nat) (a0 : Int) : Option ((((Int) × (Unit)) × (Unit)) × (Unit)) :=
  cond (decide (a0 < 0))
  (some (((((IntKind.wrap .i64 (0 - a0)), ()), ()), ())))
  (some ((((a0, ()), ()), ())))

noncomputable def spec_l01Abs (n : Nat) (a0 : Int) : Option ((((Int) × (Unit)) × (Unit)) × (Unit)) := spec_l01Abs_t n a0

noncomputable def spec_l01Gcd_t1 (n : Nat) (g1 : Int → Int → Option ((((Int) × (Unit)) × (Unit)) × (Unit))) (v1 : Int) (v0 : Int) : Option ((((Int) × (Unit)) × (Unit)) × (Unit)) :=
  cond ((v1 != 0))
  (cond ((v1 != 0))
    (g1 ((Int.tmod v0 v1)) v1)
    (none))
  (some ((((v0, ()), ()), ())))

noncomputable def spec_l01Gcd_l1 (n : Nat) : Nat → Int → Int → Option ((((Int) × (Unit)) × (Unit)) × (Unit))
  | 0, _, _ => none
  | k + 1, v1, v0 => spec_l01Gcd_t1 n (spec_l01Gcd_l1 n k) v1 v0

noncomputable def spec_l01Gcd_t (n : Nat) (h1 : Nat → Int → Int → Option ((((Int) × (Unit)) × (Unit)) × (Unit))) (a0 : Int) (a1 : Int) : Option ((((Int) × (Unit)) × (Unit)) × (Unit)) :=
  h1 n a1 a0

noncomputable def spec_l01Gcd (n : Nat) (a0 : Int) (a1 : Int) : Option ((((Int) × (Unit)) × (Unit)) × (Unit)) := spec_l01Gcd_t n (spec_l01Gcd_l1 n) a0 a1

noncomputable def spec_l01Ok_t (n : Nat) (a0 : (Int) × (Int)) : Option ((((Bool) × (Unit)) × (Unit)) × (Unit)) :=
  (spec_l00In n a0.2 1 1000000000).bind fun r0 =>
  cond r0.1.1.1
  ((spec_l00In n a0.1 (-1000000000) 1000000000).bind fun r1 =>
    cond r1.1.1.1
    ((spec_l01Abs n a0.1).bind fun r2 =>
      (spec_l01Gcd n r2.1.1.1 a0.2).bind fun r3 =>
      some (((((r3.1.1.1 == 1), ()), ()), ())))
    (some ((((false, ()), ()), ()))))
  (some ((((false, ()), ()), ())))

noncomputable def spec_l01Ok (n : Nat) (a0 : (Int) × (Int)) : Option ((((Bool) × (Unit)) × (Unit)) × (Unit)) := spec_l01Ok_t n a0

noncomputable def spec_l01Reduced_t (n : Nat) (a0 : Int) (a1 : Int) : Option (((((Int) × (Int)) × (Unit)) × (((Int) × (Unit)) × (Unit))) × (Unit)) :=
  (spec_l01Abs n a0).bind fun r0 =>
  (spec_l01Abs n a1).bind fun r1 =>
  (spec_l01Gcd n r0.1.1.1 r1.1.1.1).bind fun r2 =>
  cond ((r2.1.1.1 != 0))
  (cond ((r2.1.1.1 != 0))
    (cond (decide ((IntKind.wrap .i64 (Int.tdiv a1 r2.1.1.1)) < 0))
      ((spec_l01Ok n (((IntKind.wrap .i64 (0 - (IntKind.wrap .i64 (Int.tdiv a0 r2.1.1.1)))), (IntKind.wrap .i64 (0 - (IntKind.wrap .i64 (Int.tdiv a1 r2.1.1.1))))))).bind fun r3 =>
        cond (!r3.1.1.1)
        (some (((((0, 0), ()), ((3, ()), ())), ())))
        (some ((((((IntKind.wrap .i64 (0 - (IntKind.wrap .i64 (Int.tdiv a0 r2.1.1.1)))), (IntKind.wrap .i64 (0 - (IntKind.wrap .i64 (Int.tdiv a1 r2.1.1.1))))), ()), ((0, ()), ())), ()))))
      ((spec_l01Ok n (((IntKind.wrap .i64 (Int.tdiv a0 r2.1.1.1)), (IntKind.wrap .i64 (Int.tdiv a1 r2.1.1.1))))).bind fun r4 =>
        cond (!r4.1.1.1)
        (some (((((0, 0), ()), ((3, ()), ())), ())))
        (some ((((((IntKind.wrap .i64 (Int.tdiv a0 r2.1.1.1)), (IntKind.wrap .i64 (Int.tdiv a1 r2.1.1.1))), ()), ((0, ()), ())), ())))))
    (none))
  (none)

noncomputable def spec_l01Reduced (n : Nat) (a0 : Int) (a1 : Int) : Option (((((Int) × (Int)) × (Unit)) × (((Int) × (Unit)) × (Unit))) × (Unit)) := spec_l01Reduced_t n a0 a1

noncomputable def spec_l03Wrap_t (n : Nat) (a0 : Int) : Option ((((Int) × (Unit)) × (Unit)) × (Unit)) :=
  cond (decide ((Int.tmod a0 1296000) < 0))
  (some (((((IntKind.wrap .i64 ((Int.tmod a0 1296000) + 1296000)), ()), ()), ())))
  (some (((((Int.tmod a0 1296000), ()), ()), ())))

noncomputable def spec_l03Wrap (n : Nat) (a0 : Int) : Option ((((Int) × (Unit)) × (Unit)) × (Unit)) := spec_l03Wrap_t n a0

noncomputable def spec_l03Turn_t (n : Nat) (a0 : Int) (a1 : Int) : Option ((((Int) × (Unit)) × (Unit)) × (Unit)) :=
  (spec_l03Wrap n ((IntKind.wrap .i64 (a1 - a0)))).bind fun r0 =>
  cond (decide (r0.1.1.1 > 648000))
  (some (((((IntKind.wrap .i64 (r0.1.1.1 - 1296000)), ()), ()), ())))
  (some ((((r0.1.1.1, ()), ()), ())))

noncomputable def spec_l03Turn (n : Nat) (a0 : Int) (a1 : Int) : Option ((((Int) × (Unit)) × (Unit)) × (Unit)) := spec_l03Turn_t n a0 a1

end Go.Abs
