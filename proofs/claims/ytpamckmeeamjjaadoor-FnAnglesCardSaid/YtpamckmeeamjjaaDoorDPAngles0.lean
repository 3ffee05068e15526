import Derived.Test.YtpamckmeeamjjaaDoorLib
namespace Go.Abs
set_option linter.unusedVariables false

noncomputable def strconv_FormatInt (n : Nat) (a0 : Int) (a1 : Int) : Option ((((ByteArray) × (Unit)) × (Unit)) × (Unit)) :=
  cond ((decide (-9223372036854775808 ≤ a0) && decide (a0 ≤ 9223372036854775807)) && (a1 == 10)) (some ((((ByteArray.mk (Go.Lib.itoa a0).toArray, ()), ()), ()))) none

noncomputable def impl_dec_t (n : Nat) (a0 : Int) : Option ((((ByteArray) × (Unit)) × (Unit)) × (Unit)) :=
  (strconv_FormatInt n a0 10).bind fun r0 =>
  some ((((r0.1.1.1, ()), ()), ()))

noncomputable def impl_dec (n : Nat) (a0 : Int) : Option ((((ByteArray) × (Unit)) × (Unit)) × (Unit)) := impl_dec_t n a0

noncomputable def impl_within_t (n : Nat) (a0 : Int) (a1 : Int) (a2 : Int) : Option ((((Bool) × (Unit)) × (Unit)) × (Unit)) :=
  cond (decide (a1 ≤ a0))
  (some ((((decide (a0 ≤ a2), ()), ()), ())))
  (some ((((false, ()), ()), ())))

noncomputable def impl_within (n : Nat) (a0 : Int) (a1 : Int) (a2 : Int) : Option ((((Bool) × (Unit)) × (Unit)) × (Unit)) := impl_within_t n a0 a1 a2

noncomputable def impl_isAngle_t (n : Nat) (a0 : Int) : Option ((((Bool) × (Unit)) × (Unit)) × (Unit)) :=
  (impl_within n a0 0 1295999).bind fun r0 =>
  some ((((r0.1.1.1, ()), ()), ()))

noncomputable def impl_isAngle (n : Nat) (a0 : Int) : Option ((((Bool) × (Unit)) × (Unit)) × (Unit)) := impl_isAngle_t n a0

noncomputable def impl_two_t (n : Nat) (a0 : Int) : Option ((((ByteArray) × (Unit)) × (Unit)) × (Unit)) :=
  cond (decide (a0 < 10))
  ((impl_dec n a0).bind fun r0 =>
    cond ((roomStr (ByteArray.mk #[48]) r0.1.1.1))
    (some ((((((ByteArray.mk #[48]) ++ r0.1.1.1), ()), ()), ())))
    (none))
  ((impl_dec n a0).bind fun r1 =>
    some ((((r1.1.1.1, ()), ()), ())))

noncomputable def impl_two (n : Nat) (a0 : Int) : Option ((((ByteArray) × (Unit)) × (Unit)) × (Unit)) := impl_two_t n a0

noncomputable def impl_AngleText_t (n : Nat) (a0 : Int) : Option ((((ByteArray) × (Unit)) × (Unit)) × (Unit)) :=
  (impl_isAngle n a0).bind fun r0 =>
  cond (!r0.1.1.1)
  (some (((((ByteArray.mk #[]), ()), ()), ())))
  ((impl_dec n ((IntKind.wrap .i64 (Int.tdiv a0 3600)))).bind fun r1 =>
    cond ((roomStr r1.1.1.1 (ByteArray.mk #[58])))
    ((impl_two n ((Int.tmod (IntKind.wrap .i64 (Int.tdiv a0 60)) 60))).bind fun r2 =>
      cond ((roomStr (r1.1.1.1 ++ (ByteArray.mk #[58])) r2.1.1.1))
      (cond ((roomStr ((r1.1.1.1 ++ (ByteArray.mk #[58])) ++ r2.1.1.1) (ByteArray.mk #[58])))
        ((impl_two n ((Int.tmod a0 60))).bind fun r3 =>
          cond ((roomStr (((r1.1.1.1 ++ (ByteArray.mk #[58])) ++ r2.1.1.1) ++ (ByteArray.mk #[58])) r3.1.1.1))
          (some ((((((((r1.1.1.1 ++ (ByteArray.mk #[58])) ++ r2.1.1.1) ++ (ByteArray.mk #[58])) ++ r3.1.1.1), ()), ()), ())))
          (none))
        (none))
      (none))
    (none))

noncomputable def impl_AngleText (n : Nat) (a0 : Int) : Option ((((ByteArray) × (Unit)) × (Unit)) × (Unit)) := impl_AngleText_t n a0

noncomputable def impl_number (n : Nat) (a0 : ByteArray) : Option ((((Int) × (Unit)) × (Unit)) × (Unit)) :=
  cond (decide (a0.size ≤ 281474976710656)) (match Go.Lib.parseIntB 64 a0.data.toList with
    | .ok v => some ((((v, ()), ()), ()))
    | _ => some ((((0, ()), ()), ()))) none

noncomputable def strings_Split (n : Nat) (a0 : ByteArray) (a1 : ByteArray) : Option ((((List (ByteArray)) × (Unit)) × (Unit)) × (Unit)) :=
  cond (decide (a0.size < 4294967281) && decide (1 ≤ a1.size)) (some ((((Go.Lib.splitB a1 0 (Go.Lib.countB a0 a1) a0, ()), ()), ()))) none

noncomputable def impl_ReadAngle_t5 (n : Nat) (g5 : Int → ByteArray → Int → (List (ByteArray)) → Option ((((Int) × (Unit)) × (((Int) × (Unit)) × (Unit))) × (Unit))) (v15 : Int) (v0 : ByteArray) (v14 : Int) (b0 : List (ByteArray)) : Option ((((Int) × (Unit)) × (((Int) × (Unit)) × (Unit))) × (Unit)) :=
  cond (decide (v15 < v14))
  (cond ((decide (0 ≤ v15) && decide (v15 < ((b0.length : Nat) : Int))))
    (cond (decide ((((ByteArray.size (b0.getD (Int.toNat v15) (ByteArray.mk #[]))) : Nat) : Int) > 4))
      (some ((((0, ()), ((5, ()), ())), ())))
      (g5 ((IntKind.wrap .i64 (v15 + 1))) v0 v14 b0))
    (none))
  (cond (decide (0 < ((b0.length : Nat) : Int)))
    ((impl_number n ((b0.getD (Int.toNat 0) (ByteArray.mk #[])))).bind fun r1 =>
      cond (decide (1 < ((b0.length : Nat) : Int)))
      ((impl_number n ((b0.getD (Int.toNat 1) (ByteArray.mk #[])))).bind fun r2 =>
        cond (decide (2 < ((b0.length : Nat) : Int)))
        ((impl_number n ((b0.getD (Int.toNat 2) (ByteArray.mk #[])))).bind fun r3 =>
          (impl_AngleText n ((IntKind.wrap .i64 ((IntKind.wrap .i64 ((IntKind.wrap .i64 (3600 * r1.1.1.1)) + (IntKind.wrap .i64 (60 * r2.1.1.1)))) + r3.1.1.1)))).bind fun r4 =>
          cond ((!(eqStr r4.1.1.1 v0)))
          (some ((((0, ()), ((5, ()), ())), ())))
          (some (((((IntKind.wrap .i64 ((IntKind.wrap .i64 ((IntKind.wrap .i64 (3600 * r1.1.1.1)) + (IntKind.wrap .i64 (60 * r2.1.1.1)))) + r3.1.1.1)), ()), ((0, ()), ())), ()))))
        (none))
      (none))
    (none))

noncomputable def impl_ReadAngle_l5 (n : Nat) : Nat → Int → ByteArray → Int → (List (ByteArray)) → Option ((((Int) × (Unit)) × (((Int) × (Unit)) × (Unit))) × (Unit))
  | 0, _, _, _, _ => none
  | k + 1, v15, v0, v14, b0 => impl_ReadAngle_t5 n (impl_ReadAngle_l5 n k) v15 v0 v14 b0

noncomputable def impl_ReadAngle_t (n : Nat) (h5 : Nat → Int → ByteArray → Int → (List (ByteArray)) → Option ((((Int) × (Unit)) × (((Int) × (Unit)) × (Unit))) × (Unit))) (a0 : ByteArray) : Option ((((Int) × (Unit)) × (((Int) × (Unit)) × (Unit))) × (Unit)) :=
  (strings_Split n a0 ((ByteArray.mk #[58]))).bind fun r0 =>
  cond ((((r0.1.1.1.length : Nat) : Int) != 3))
  (some ((((0, ()), ((5, ()), ())), ())))
  (h5 n 0 a0 (((r0.1.1.1.length : Nat) : Int)) r0.1.1.1)

noncomputable def impl_ReadAngle (n : Nat) (a0 : ByteArray) : Option ((((Int) × (Unit)) × (((Int) × (Unit)) × (Unit))) × (Unit)) := impl_ReadAngle_t n (impl_ReadAngle_l5 n) a0

noncomputable def impl_wrap_t (n : Nat) (a0 : Int) : Option ((((Int) × (Unit)) × (Unit)) × (Unit)) :=
  some (((((Int.tmod (IntKind.wrap .i64 ((Int.tmod a0 1296000) + 1296000)) 1296000), ()), ()), ()))

noncomputable def impl_wrap (n : Nat) (a0 : Int) : Option ((((Int) × (Unit)) × (Unit)) × (Unit)) := impl_wrap_t n a0

noncomputable def impl_turnFrom_t (n : Nat) (a0 : Int) (a1 : Int) : Option ((((Int) × (Unit)) × (Unit)) × (Unit)) :=
  (impl_wrap n ((IntKind.wrap .i64 (a1 - a0)))).bind fun r0 =>
  cond (decide (r0.1.1.1 > 648000))
  (some (((((IntKind.wrap .i64 (r0.1.1.1 - 1296000)), ()), ()), ())))
  (some ((((r0.1.1.1, ()), ()), ())))

noncomputable def impl_turnFrom (n : Nat) (a0 : Int) (a1 : Int) : Option ((((Int) × (Unit)) × (Unit)) × (Unit)) := impl_turnFrom_t n a0 a1

noncomputable def impl_TurnFrom_t (n : Nat) (a0 : Int) (a1 : Int) : Option ((((Int) × (Unit)) × (((Int) × (Unit)) × (Unit))) × (Unit)) :=
  (impl_isAngle n a0).bind fun r0 =>
  cond (!r0.1.1.1)
  (some ((((0, ()), ((1, ()), ())), ())))
  ((impl_isAngle n a1).bind fun r1 =>
    cond (!r1.1.1.1)
    (some ((((0, ()), ((1, ()), ())), ())))
    ((impl_turnFrom n a0 a1).bind fun r2 =>
      some ((((r2.1.1.1, ()), ((0, ()), ())), ()))))

noncomputable def impl_TurnFrom (n : Nat) (a0 : Int) (a1 : Int) : Option ((((Int) × (Unit)) × (((Int) × (Unit)) × (Unit))) × (Unit)) := impl_TurnFrom_t n a0 a1

noncomputable def impl_WrapAngle_t (n : Nat) (a0 : Int) : Option ((((Int) × (Unit)) × (((Int) × (Unit)) × (Unit))) × (Unit)) :=
  (impl_within n a0 (-1000000000000) 1000000000000).bind fun r0 =>
  cond (!r0.1.1.1)
  (some ((((0, ()), ((2, ()), ())), ())))
  ((impl_wrap n a0).bind fun r1 =>
    some ((((r1.1.1.1, ()), ((0, ()), ())), ())))

noncomputable def impl_WrapAngle (n : Nat) (a0 : Int) : Option ((((Int) × (Unit)) × (((Int) × (Unit)) × (Unit))) × (Unit)) := impl_WrapAngle_t n a0

noncomputable def laws_a2At_t (n : Nat) (a0 : List (Int)) (a1 : Int) (a2 : Int) : Option ((((Int) × (Unit)) × (Unit)) × (Unit)) :=
  cond (decide (a1 ≥ ((a0.length : Nat) : Int)))
  (some ((((0, ()), ()), ())))
  (cond (decide (a2 < 1))
    (some ((((0, ()), ()), ())))
    (cond ((decide (0 ≤ a1) && decide (a1 < ((a0.length : Nat) : Int))))
      (cond ((a2 != 0))
        (some (((((Int.tmod (IntKind.wrap .i64 (a0.getD (Int.toNat a1) 0)) a2), ()), ()), ())))
        (none))
      (none)))

noncomputable def laws_a2At (n : Nat) (a0 : List (Int)) (a1 : Int) (a2 : Int) : Option ((((Int) × (Unit)) × (Unit)) × (Unit)) := laws_a2At_t n a0 a1 a2

noncomputable def laws_a2Long_t (n : Nat) (a0 : List (Int)) (a1 : List (Int)) : Option ((((Bool) × (Unit)) × (Unit)) × (Unit)) :=
  cond (decide (((a0.length : Nat) : Int) > 3000))
  (some ((((true, ()), ()), ())))
  (some ((((decide (((a1.length : Nat) : Int) > 3000), ()), ()), ())))

noncomputable def laws_a2Long (n : Nat) (a0 : List (Int)) (a1 : List (Int)) : Option ((((Bool) × (Unit)) × (Unit)) × (Unit)) := laws_a2Long_t n a0 a1

noncomputable def spec_l00From_t (n : Nat) (a0 : List (Int)) : Option (((((List (Int)) × ((Int) × (Int))) × (Unit)) × (Unit)) × (Unit)) :=
  some (((((a0, (0, 0)), ()), ()), ()))

noncomputable def spec_l00From (n : Nat) (a0 : List (Int)) : Option (((((List (Int)) × ((Int) × (Int))) × (Unit)) × (Unit)) × (Unit)) := spec_l00From_t n a0

noncomputable def spec_l00Src_next_t (n : Nat) (b0 : (List (Int)) × ((Int) × (Int))) : Option ((((Int) × (Unit)) × (Unit)) × (((List (Int)) × ((Int) × (Int))) × (Unit))) :=
  cond (decide (b0.2.1 < ((b0.1.length : Nat) : Int)))
  (cond ((decide (0 ≤ b0.2.1) && decide (b0.2.1 < ((b0.1.length : Nat) : Int))))
    (cond (decide ((IntKind.wrap .i64 (b0.2.1 + 1)) ≤ ((b0.1.length : Nat) : Int)))
      (some (((((IntKind.wrap .i64 (b0.1.getD (Int.toNat b0.2.1) 0)), ()), ()), ((b0.1, ((IntKind.wrap .i64 (b0.2.1 + 1)), (IntKind.wrap .u64 ((IntKind.wrap .u64 ((IntKind.wrap .u64 (b0.2.2 * 6364136223846793005)) + (IntKind.wrap .u64 (IntKind.wrap .i64 (b0.1.getD (Int.toNat b0.2.1) 0))))) + 1442695040888963407)))), ()))))
      (some (((((IntKind.wrap .i64 (andInt .u64 (shrInt .u64 (IntKind.wrap .u64 ((IntKind.wrap .u64 ((IntKind.wrap .u64 (b0.2.2 * 6364136223846793005)) + (IntKind.wrap .u64 (IntKind.wrap .i64 (b0.1.getD (Int.toNat b0.2.1) 0))))) + 1442695040888963407)) 40) 255)), ()), ()), ((b0.1, ((IntKind.wrap .i64 (b0.2.1 + 1)), (IntKind.wrap .u64 ((IntKind.wrap .u64 ((IntKind.wrap .u64 (b0.2.2 * 6364136223846793005)) + (IntKind.wrap .u64 (IntKind.wrap .i64 (b0.1.getD (Int.toNat b0.2.1) 0))))) + 1442695040888963407)))), ())))))
    (none))
  (cond (decide ((IntKind.wrap .i64 (b0.2.1 + 1)) ≤ ((b0.1.length : Nat) : Int)))
    (some ((((0, ()), ()), ((b0.1, ((IntKind.wrap .i64 (b0.2.1 + 1)), (IntKind.wrap .u64 ((IntKind.wrap .u64 ((IntKind.wrap .u64 (b0.2.2 * 6364136223846793005)) + (IntKind.wrap .u64 0))) + 1442695040888963407)))), ()))))
    (some (((((IntKind.wrap .i64 (andInt .u64 (shrInt .u64 (IntKind.wrap .u64 ((IntKind.wrap .u64 ((IntKind.wrap .u64 (b0.2.2 * 6364136223846793005)) + (IntKind.wrap .u64 0))) + 1442695040888963407)) 40) 255)), ()), ()), ((b0.1, ((IntKind.wrap .i64 (b0.2.1 + 1)), (IntKind.wrap .u64 ((IntKind.wrap .u64 ((IntKind.wrap .u64 (b0.2.2 * 6364136223846793005)) + (IntKind.wrap .u64 0))) + 1442695040888963407)))), ())))))

noncomputable def spec_l00Src_next (n : Nat) (b0 : (List (Int)) × ((Int) × (Int))) : Option ((((Int) × (Unit)) × (Unit)) × (((List (Int)) × ((Int) × (Int))) × (Unit))) := spec_l00Src_next_t n b0

noncomputable def spec_l00Src_pick_t (n : Nat) (a1 : Int) (b0 : (List (Int)) × ((Int) × (Int))) : Option ((((Int) × (Unit)) × (Unit)) × (((List (Int)) × ((Int) × (Int))) × (Unit))) :=
  cond (decide (a1 ≤ 1))
  (some ((((0, ()), ()), ((b0.1, (b0.2.1, b0.2.2)), ()))))
  ((spec_l00Src_next n ((b0.1, (b0.2.1, b0.2.2)))).bind fun r0 =>
    cond (decide (a1 > 200))
    ((spec_l00Src_next n ((r0.2.1.1, (r0.2.1.2.1, r0.2.1.2.2)))).bind fun r1 =>
      cond ((a1 != 0))
      (some (((((Int.tmod (IntKind.wrap .i64 ((IntKind.wrap .i64 (r0.1.1.1 * 256)) + r1.1.1.1)) a1), ()), ()), ((r1.2.1.1, (r1.2.1.2.1, r1.2.1.2.2)), ()))))
      (none))
    (cond ((a1 != 0))
      (some (((((Int.tmod r0.1.1.1 a1), ()), ()), ((r0.2.1.1, (r0.2.1.2.1, r0.2.1.2.2)), ()))))
      (none)))

noncomputable def spec_l00Src_pick (n : Nat) (a1 : Int) (b0 : (List (Int)) × ((Int) × (Int))) : Option ((((Int) × (Unit)) × (Unit)) × (((List (Int)) × ((Int) × (Int))) × (Unit))) := spec_l00Src_pick_t n a1 b0

noncomputable def spec_l00Src_among_t (n : Nat) (b0 : (List (Int)) × ((Int) × (Int))) (b1 : List (Int)) : Option ((((Int) × (Unit)) × (Unit)) × (((List (Int)) × ((Int) × (Int))) × ((List (Int)) × (Unit)))) :=
  (spec_l00Src_pick n (((b1.length : Nat) : Int)) ((b0.1, (b0.2.1, b0.2.2)))).bind fun r0 =>
  cond ((decide (0 ≤ r0.1.1.1) && decide (r0.1.1.1 < ((b1.length : Nat) : Int))))
  (some (((((b1.getD (Int.toNat r0.1.1.1) 0), ()), ()), ((r0.2.1.1, (r0.2.1.2.1, r0.2.1.2.2)), (b1, ())))))
  (none)

noncomputable def spec_l00Src_among (n : Nat) (b0 : (List (Int)) × ((Int) × (Int))) (b1 : List (Int)) : Option ((((Int) × (Unit)) × (Unit)) × (((List (Int)) × ((Int) × (Int))) × ((List (Int)) × (Unit)))) := spec_l00Src_among_t n b0 b1

noncomputable def spec_l03Drawing_t (n : Nat) (b0 : (List (Int)) × ((Int) × (Int))) : Option ((((Int) × (Unit)) × (Unit)) × (((List (Int)) × ((Int) × (Int))) × (Unit))) :=
  (spec_l00Src_pick n 12 ((b0.1, (b0.2.1, b0.2.2)))).bind fun r0 =>
  cond ((r0.1.1.1 == 0))
  ((spec_l00Src_among n ((r0.2.1.1, (r0.2.1.2.1, r0.2.1.2.2))) ((0 :: (324000 :: (648000 :: (972000 :: (1295999 :: ((-1) :: (1296000 :: []))))))))).bind fun r1 =>
    some ((((r1.1.1.1, ()), ()), ((r1.2.1.1, (r1.2.1.2.1, r1.2.1.2.2)), ()))))
  (cond ((r0.1.1.1 == 1))
    ((spec_l00Src_pick n 60 ((r0.2.1.1, (r0.2.1.2.1, r0.2.1.2.2)))).bind fun r2 =>
      some ((((r2.1.1.1, ()), ()), ((r2.2.1.1, (r2.2.1.2.1, r2.2.1.2.2)), ()))))
    ((spec_l00Src_pick n 1296 ((r0.2.1.1, (r0.2.1.2.1, r0.2.1.2.2)))).bind fun r3 =>
      some (((((IntKind.wrap .i64 (r3.1.1.1 * 1000)), ()), ()), ((r3.2.1.1, (r3.2.1.2.1, r3.2.1.2.2)), ())))))

noncomputable def spec_l03Drawing (n : Nat) (b0 : (List (Int)) × ((Int) × (Int))) : Option ((((Int) × (Unit)) × (Unit)) × (((List (Int)) × ((Int) × (Int))) × (Unit))) := spec_l03Drawing_t n b0

noncomputable def spec_l03Wrap_t (n : Nat) (a0 : Int) : Option ((((Int) × (Unit)) × (Unit)) × (Unit)) :=
  cond (decide ((Int.tmod a0 1296000) < 0))
  (some (((((IntKind.wrap .i64 ((Int.tmod a0 1296000) + 1296000)), ()), ()), ())))
  (some (((((Int.tmod a0 1296000), ()), ()), ())))

noncomputable def spec_l03Wrap (n : Nat) (a0 : Int) : Option ((((Int) × (Unit)) × (Unit)) × (Unit)) := spec_l03Wrap_t n a0

noncomputable def spec_A2Angle_t (n : Nat) (a0 : List (Int)) : Option ((((Int) × (Unit)) × (Unit)) × (Unit)) :=
  (spec_l00From n a0).bind fun r0 =>
  (spec_l03Drawing n ((r0.1.1.1.1, (r0.1.1.1.2.1, r0.1.1.1.2.2)))).bind fun r1 =>
  (spec_l03Wrap n r1.1.1.1).bind fun r2 =>
  some ((((r2.1.1.1, ()), ()), ()))

noncomputable def spec_A2Angle (n : Nat) (a0 : List (Int)) : Option ((((Int) × (Unit)) × (Unit)) × (Unit)) := spec_A2Angle_t n a0

noncomputable def spec_l00In_t (n : Nat) (a0 : Int) (a1 : Int) (a2 : Int) : Option ((((Bool) × (Unit)) × (Unit)) × (Unit)) :=
  cond (decide (a0 ≥ a1))
  (some ((((decide (a0 ≤ a2), ()), ()), ())))
  (some ((((false, ()), ()), ())))

noncomputable def spec_l00In (n : Nat) (a0 : Int) (a1 : Int) (a2 : Int) : Option ((((Bool) × (Unit)) × (Unit)) × (Unit)) := spec_l00In_t n a0 a1 a2

noncomputable def spec_l03Angle_t (n : Nat) (a0 : Int) : Option ((((Bool) × (Unit)) × (Unit)) × (Unit)) :=
  (spec_l00In n a0 0 1295999).bind fun r0 =>
  some ((((r0.1.1.1, ()), ()), ()))

noncomputable def spec_l03Angle (n : Nat) (a0 : Int) : Option ((((Bool) × (Unit)) × (Unit)) × (Unit)) := spec_l03Angle_t n a0

noncomputable def spec_l03Turn_t (n : Nat) (a0 : Int) (a1 : Int) : Option ((((Int) × (Unit)) × (Unit)) × (Unit)) :=
  (spec_l03Wrap n ((IntKind.wrap .i64 (a1 - a0)))).bind fun r0 =>
  cond (decide (r0.1.1.1 > 648000))
  (some (((((IntKind.wrap .i64 (r0.1.1.1 - 1296000)), ()), ()), ())))
  (some ((((r0.1.1.1, ()), ()), ())))

noncomputable def spec_l03Turn (n : Nat) (a0 : Int) (a1 : Int) : Option ((((Int) × (Unit)) × (Unit)) × (Unit)) := spec_l03Turn_t n a0 a1

noncomputable def spec_TurnFrom_t (n : Nat) (a0 : Int) (a1 : Int) : Option ((((Int) × (Unit)) × (((Int) × (Unit)) × (Unit))) × (Unit)) :=
  (spec_l03Angle n a0).bind fun r0 =>
  cond (!r0.1.1.1)
  (some ((((0, ()), ((1, ()), ())), ())))
  ((spec_l03Angle n a1).bind fun r1 =>
    cond (!r1.1.1.1)
    (some ((((0, ()), ((1, ()), ())), ())))
    ((spec_l03Turn n a0 a1).bind fun r2 =>
      some ((((r2.1.1.1, ()), ((0, ()), ())), ()))))

noncomputable def spec_TurnFrom (n : Nat) (a0 : Int) (a1 : Int) : Option ((((Int) × (Unit)) × (((Int) × (Unit)) × (Unit))) × (Unit)) := spec_TurnFrom_t n a0 a1

noncomputable def laws_FnAngles_t (n : Nat) (a0 : List (Int)) (a1 : List (Int)) : Option ((((Bool) × (Unit)) × (Unit)) × (Unit)) :=
  (laws_a2Long n a0 a1).bind fun r0 =>
  cond r0.1.1.1
  (some ((((true, ()), ()), ())))
  ((spec_A2Angle n a0).bind fun r1 =>
    (spec_A2Angle n a1).bind fun r2 =>
    (impl_TurnFrom n r1.1.1.1 r2.1.1.1).bind fun r3 =>
    (spec_TurnFrom n r1.1.1.1 r2.1.1.1).bind fun r4 =>
    (impl_TurnFrom n r2.1.1.1 r1.1.1.1).bind fun r5 =>
    (impl_WrapAngle n ((IntKind.wrap .i64 (r1.1.1.1 + r4.1.1.1)))).bind fun r6 =>
    (impl_AngleText n r1.1.1.1).bind fun r7 =>
    (impl_ReadAngle n r7.1.1.1).bind fun r8 =>
    cond ((r3.1.2.1.1 != r4.1.2.1.1))
    (some ((((false, ()), ()), ())))
    (cond ((r3.1.2.1.1 != 0))
      (some ((((false, ()), ()), ())))
      (cond ((r3.1.1.1 != r4.1.1.1))
        (some ((((false, ()), ()), ())))
        (cond (decide (r4.1.1.1 ≤ (-648000)))
          (some ((((false, ()), ()), ())))
          (cond (decide (r4.1.1.1 > 648000))
            (some ((((false, ()), ()), ())))
            (cond ((r5.1.2.1.1 != 0))
              (some ((((false, ()), ()), ())))
              (cond ((r6.1.2.1.1 != 0))
                (some ((((false, ()), ()), ())))
                (cond ((r6.1.1.1 != r2.1.1.1))
                  (some ((((false, ()), ()), ())))
                  (cond ((r8.1.2.1.1 != 0))
                    (some ((((false, ()), ()), ())))
                    (cond ((r8.1.1.1 != r1.1.1.1))
                      (some ((((false, ()), ()), ())))
                      ((laws_a2At n a1 0 200).bind fun r9 =>
                        (impl_WrapAngle n ((IntKind.wrap .i64 (r1.1.1.1 + (IntKind.wrap .i64 ((IntKind.wrap .i64 (r9.1.1.1 - 100)) * 1296000)))))).bind fun r10 =>
                        cond ((r10.1.2.1.1 == 0))
                        (cond ((r10.1.1.1 == r1.1.1.1))
                          (cond ((r5.1.1.1 == (IntKind.wrap .i64 (0 - r4.1.1.1))))
                            (some ((((true, ()), ()), ())))
                            (cond ((r4.1.1.1 == 648000))
                              (some (((((r5.1.1.1 == r4.1.1.1), ()), ()), ())))
                              (some ((((false, ()), ()), ())))))
                          (some ((((false, ()), ()), ()))))
                        (some ((((false, ()), ()), ()))))))))))))))

noncomputable def laws_FnAngles (n : Nat) (a0 : List (Int)) (a1 : List (Int)) : Option ((((Bool) × (Unit)) × (Unit)) × (Unit)) := laws_FnAngles_t n a0 a1

noncomputable def impl_ValidDisk_1_t (n : Nat) (a0 : Int) : Option ((((Bool) × (Unit)) × (Unit)) × (Unit)) :=
  (impl_within n ((IntKind.wrap .i64 a0)) (-600) 600).bind fun r0 =>
  some (((((!r0.1.1.1), ()), ()), ()))

noncomputable def impl_ValidDisk_1 (n : Nat) (a0 : Int) : Option ((((Bool) × (Unit)) × (Unit)) × (Unit)) := impl_ValidDisk_1_t n a0

noncomputable def slices_IndexFunc_int16_int16_at_impl_ValidDisk_1_t2 (n : Nat) (g2 : Int → (List (Int)) → Int → Option ((((Int) × (Unit)) × (Unit)) × (Unit))) (v8 : Int) (v0 : List (Int)) (v7 : Int) : Option ((((Int) × (Unit)) × (Unit)) × (Unit)) :=
  cond (decide (v8 < v7))
  (cond ((decide (0 ≤ v8) && decide (v8 < ((v0.length : Nat) : Int))))
    ((impl_ValidDisk_1 n ((v0.getD (Int.toNat v8) 0))).bind fun r0 =>
      cond r0.1.1.1
      (some ((((v8, ()), ()), ())))
      (g2 ((IntKind.wrap .i64 (v8 + 1))) v0 v7))
    (none))
  (some (((((-1), ()), ()), ())))

noncomputable def slices_IndexFunc_int16_int16_at_impl_ValidDisk_1_l2 (n : Nat) : Nat → Int → (List (Int)) → Int → Option ((((Int) × (Unit)) × (Unit)) × (Unit))
  | 0, _, _, _ => none
  | k + 1, v8, v0, v7 => slices_IndexFunc_int16_int16_at_impl_ValidDisk_1_t2 n (slices_IndexFunc_int16_int16_at_impl_ValidDisk_1_l2 n k) v8 v0 v7

noncomputable def slices_IndexFunc_int16_int16_at_impl_ValidDisk_1_t (n : Nat) (h2 : Nat → Int → (List (Int)) → Int → Option ((((Int) × (Unit)) × (Unit)) × (Unit))) (a0 : List (Int)) : Option ((((Int) × (Unit)) × (Unit)) × (Unit)) :=
  h2 n 0 a0 (((a0.length : Nat) : Int))

noncomputable def slices_IndexFunc_int16_int16_at_impl_ValidDisk_1 (n : Nat) (a0 : List (Int)) : Option ((((Int) × (Unit)) × (Unit)) × (Unit)) := slices_IndexFunc_int16_int16_at_impl_ValidDisk_1_t n (slices_IndexFunc_int16_int16_at_impl_ValidDisk_1_l2 n) a0

noncomputable def slices_ContainsFunc_int16_int16_at_impl_ValidDisk_1_t (n : Nat) (a0 : List (Int)) : Option ((((Bool) × (Unit)) × (Unit)) × (Unit)) :=
  (slices_IndexFunc_int16_int16_at_impl_ValidDisk_1 n a0).bind fun r0 =>
  some ((((decide (r0.1.1.1 ≥ 0), ()), ()), ()))

noncomputable def slices_ContainsFunc_int16_int16_at_impl_ValidDisk_1 (n : Nat) (a0 : List (Int)) : Option ((((Bool) × (Unit)) × (Unit)) × (Unit)) := slices_ContainsFunc_int16_int16_at_impl_ValidDisk_1_t n a0

noncomputable def impl_ValidDisk_t (n : Nat) (a0 : (List (Int)) × ((Int) × (Int))) : Option ((((Bool) × (Unit)) × (Unit)) × (Unit)) :=
  (impl_within n (((a0.1.length : Nat) : Int)) 1 72).bind fun r0 =>
  cond r0.1.1.1
  (cond ((((a0.1.length : Nat) : Int) != 0))
    (cond (((Int.tmod 1296000 ((a0.1.length : Nat) : Int)) == 0))
      ((impl_within n a0.2.1 (-600) 600).bind fun r1 =>
        cond r1.1.1.1
        ((impl_within n a0.2.2 (-600) 600).bind fun r2 =>
          cond r2.1.1.1
          ((slices_ContainsFunc_int16_int16_at_impl_ValidDisk_1 n a0.1).bind fun r3 =>
            some (((((!r3.1.1.1), ()), ()), ())))
          (some ((((false, ()), ()), ()))))
        (some ((((false, ()), ()), ()))))
      (some ((((false, ()), ()), ()))))
    (none))
  (some ((((false, ()), ()), ())))

noncomputable def impl_ValidDisk (n : Nat) (a0 : (List (Int)) × ((Int) × (Int))) : Option ((((Bool) × (Unit)) × (Unit)) × (Unit)) := impl_ValidDisk_t n a0

noncomputable def impl_gcd_t1 (n : Nat) (g1 : Int → Int → Option ((((Int) × (Unit)) × (Unit)) × (Unit))) (v1 : Int) (v0 : Int) : Option ((((Int) × (Unit)) × (Unit)) × (Unit)) :=
  cond ((v1 != 0))
  (cond ((v1 != 0))
    (g1 ((Int.tmod v0 v1)) v1)
    (none))
  (some (((((if v0 < (IntKind.wrap .i64 (0 - v0)) then (IntKind.wrap .i64 (0 - v0)) else v0), ()), ()), ())))

noncomputable def impl_gcd_l1 (n : Nat) : Nat → Int → Int → Option ((((Int) × (Unit)) × (Unit)) × (Unit))
  | 0, _, _ => none
  | k + 1, v1, v0 => impl_gcd_t1 n (impl_gcd_l1 n k) v1 v0

noncomputable def impl_gcd_t (n : Nat) (h1 : Nat → Int → Int → Option ((((Int) × (Unit)) × (Unit)) × (Unit))) (a0 : Int) (a1 : Int) : Option ((((Int) × (Unit)) × (Unit)) × (Unit)) :=
  h1 n a1 a0

noncomputable def impl_gcd (n : Nat) (a0 : Int) (a1 : Int) : Option ((((Int) × (Unit)) × (Unit)) × (Unit)) := impl_gcd_t n (impl_gcd_l1 n) a0 a1

noncomputable def impl_ValidFrac_t (n : Nat) (a0 : (Int) × (Int)) : Option ((((Bool) × (Unit)) × (Unit)) × (Unit)) :=
  (impl_within n a0.2 1 1000000000).bind fun r0 =>
  cond r0.1.1.1
  ((impl_within n a0.1 (-1000000000) 1000000000).bind fun r1 =>
    cond r1.1.1.1
    ((impl_gcd n a0.1 a0.2).bind fun r2 =>
      some (((((r2.1.1.1 == 1), ()), ()), ())))
    (some ((((false, ()), ()), ()))))
  (some ((((false, ()), ()), ())))

noncomputable def impl_ValidFrac (n : Nat) (a0 : (Int) × (Int)) : Option ((((Bool) × (Unit)) × (Unit)) × (Unit)) := impl_ValidFrac_t n a0

noncomputable def impl_calc_one_t (n : Nat) (a1 : (Int) × (Int)) (b0 : Bool) : Option (((((Int) × (Int)) × (Unit)) × (((Int) × (Unit)) × (Unit))) × ((Bool) × (Unit))) :=
  cond b0
  (some (((((0, 0), ()), ((3, ()), ())), (b0, ()))))
  (some (((((a1.1, a1.2), ()), ((0, ()), ())), (b0, ()))))

noncomputable def impl_calc_one (n : Nat) (a1 : (Int) × (Int)) (b0 : Bool) : Option (((((Int) × (Int)) × (Unit)) × (((Int) × (Unit)) × (Unit))) × ((Bool) × (Unit))) := impl_calc_one_t n a1 b0

noncomputable def impl_fracOf_t (n : Nat) (a0 : Int) (a1 : Int) : Option (((((Int) × (Int)) × (Unit)) × (((Bool) × (Unit)) × (Unit))) × (Unit)) :=
  cond (decide (a1 < 0))
  ((impl_gcd n ((IntKind.wrap .i64 (0 - a0))) ((IntKind.wrap .i64 (0 - a1)))).bind fun r0 =>
    cond ((r0.1.1.1 != 0))
    (cond ((r0.1.1.1 != 0))
      ((impl_ValidFrac n (((IntKind.wrap .i64 (Int.tdiv (IntKind.wrap .i64 (0 - a0)) r0.1.1.1)), (IntKind.wrap .i64 (Int.tdiv (IntKind.wrap .i64 (0 - a1)) r0.1.1.1))))).bind fun r1 =>
        cond (!r1.1.1.1)
        (some (((((0, 0), ()), ((false, ()), ())), ())))
        (some ((((((IntKind.wrap .i64 (Int.tdiv (IntKind.wrap .i64 (0 - a0)) r0.1.1.1)), (IntKind.wrap .i64 (Int.tdiv (IntKind.wrap .i64 (0 - a1)) r0.1.1.1))), ()), ((true, ()), ())), ()))))
      (none))
    (none))
  ((impl_gcd n a0 a1).bind fun r2 =>
    cond ((r2.1.1.1 != 0))
    (cond ((r2.1.1.1 != 0))
      ((impl_ValidFrac n (((IntKind.wrap .i64 (Int.tdiv a0 r2.1.1.1)), (IntKind.wrap .i64 (Int.tdiv a1 r2.1.1.1))))).bind fun r3 =>
        cond (!r3.1.1.1)
        (some (((((0, 0), ()), ((false, ()), ())), ())))
        (some ((((((IntKind.wrap .i64 (Int.tdiv a0 r2.1.1.1)), (IntKind.wrap .i64 (Int.tdiv a1 r2.1.1.1))), ()), ((true, ()), ())), ()))))
      (none))
    (none))

noncomputable def impl_fracOf (n : Nat) (a0 : Int) (a1 : Int) : Option (((((Int) × (Int)) × (Unit)) × (((Bool) × (Unit)) × (Unit))) × (Unit)) := impl_fracOf_t n a0 a1

noncomputable def impl_zero_t (n : Nat) : Option (((((Int) × (Int)) × (Unit)) × (Unit)) × (Unit)) :=
  some (((((0, 1), ()), ()), ()))

noncomputable def impl_zero (n : Nat) : Option (((((Int) × (Int)) × (Unit)) × (Unit)) × (Unit)) := impl_zero_t n

noncomputable def impl_calc_told_t (n : Nat) (a1 : Int) (a2 : Int) (b0 : Bool) : Option (((((Int) × (Int)) × (Unit)) × (Unit)) × ((Bool) × (Unit))) :=
  (impl_fracOf n a1 a2).bind fun r0 =>
  cond (!r0.1.2.1.1)
  ((impl_zero n).bind fun r1 =>
    some (((((r1.1.1.1.1, r1.1.1.1.2), ()), ()), (true, ()))))
  (some (((((r0.1.1.1.1, r0.1.1.1.2), ()), ()), (b0, ()))))

noncomputable def impl_calc_told (n : Nat) (a1 : Int) (a2 : Int) (b0 : Bool) : Option (((((Int) × (Int)) × (Unit)) × (Unit)) × ((Bool) × (Unit))) := impl_calc_told_t n a1 a2 b0

noncomputable def impl_faultAt_t (n : Nat) (a0 : (List (Int)) × ((Int) × (Int))) (a1 : Int) : Option ((((Int) × (Unit)) × (((Int) × (Unit)) × (Unit))) × (Unit)) :=
  cond ((((a0.1.length : Nat) : Int) != 0))
  (cond (((IntKind.wrap .i64 (Int.tdiv 1296000 ((a0.1.length : Nat) : Int))) != 0))
    (cond ((decide (0 ≤ (IntKind.wrap .i64 (Int.tdiv a1 (IntKind.wrap .i64 (Int.tdiv 1296000 ((a0.1.length : Nat) : Int)))))) && decide ((IntKind.wrap .i64 (Int.tdiv a1 (IntKind.wrap .i64 (Int.tdiv 1296000 ((a0.1.length : Nat) : Int))))) < ((a0.1.length : Nat) : Int))))
      (cond ((((a0.1.length : Nat) : Int) != 0))
        (cond ((decide (0 ≤ (Int.tmod (IntKind.wrap .i64 ((IntKind.wrap .i64 (Int.tdiv a1 (IntKind.wrap .i64 (Int.tdiv 1296000 ((a0.1.length : Nat) : Int))))) + 1)) ((a0.1.length : Nat) : Int))) && decide ((Int.tmod (IntKind.wrap .i64 ((IntKind.wrap .i64 (Int.tdiv a1 (IntKind.wrap .i64 (Int.tdiv 1296000 ((a0.1.length : Nat) : Int))))) + 1)) ((a0.1.length : Nat) : Int)) < ((a0.1.length : Nat) : Int))))
          (cond (((IntKind.wrap .i64 (Int.tdiv 1296000 ((a0.1.length : Nat) : Int))) != 0))
            (some (((((IntKind.wrap .i64 ((IntKind.wrap .i64 ((IntKind.wrap .i64 (a0.1.getD (Int.toNat (IntKind.wrap .i64 (Int.tdiv a1 (IntKind.wrap .i64 (Int.tdiv 1296000 ((a0.1.length : Nat) : Int)))))) 0)) * (IntKind.wrap .i64 (Int.tdiv 1296000 ((a0.1.length : Nat) : Int))))) + (IntKind.wrap .i64 ((IntKind.wrap .i64 ((IntKind.wrap .i64 (a0.1.getD (Int.toNat (Int.tmod (IntKind.wrap .i64 ((IntKind.wrap .i64 (Int.tdiv a1 (IntKind.wrap .i64 (Int.tdiv 1296000 ((a0.1.length : Nat) : Int))))) + 1)) ((a0.1.length : Nat) : Int))) 0)) - (IntKind.wrap .i64 (a0.1.getD (Int.toNat (IntKind.wrap .i64 (Int.tdiv a1 (IntKind.wrap .i64 (Int.tdiv 1296000 ((a0.1.length : Nat) : Int)))))) 0)))) * (Int.tmod a1 (IntKind.wrap .i64 (Int.tdiv 1296000 ((a0.1.length : Nat) : Int)))))))), ()), (((IntKind.wrap .i64 (Int.tdiv 1296000 ((a0.1.length : Nat) : Int))), ()), ())), ())))
            (none))
          (none))
        (none))
      (none))
    (none))
  (none)

noncomputable def impl_faultAt (n : Nat) (a0 : (List (Int)) × ((Int) × (Int))) (a1 : Int) : Option ((((Int) × (Unit)) × (((Int) × (Unit)) × (Unit))) × (Unit)) := impl_faultAt_t n a0 a1

noncomputable def impl_floorDiv_t (n : Nat) (a0 : Int) (a1 : Int) : Option ((((Int) × (Unit)) × (Unit)) × (Unit)) :=
  cond ((a1 != 0))
  (cond ((a1 != 0))
    (cond (((Int.tmod a0 a1) != 0))
      (cond ((!(decide (a0 < 0) == decide (a1 < 0))))
        (some (((((IntKind.wrap .i64 ((IntKind.wrap .i64 (Int.tdiv a0 a1)) - 1)), ()), ()), ())))
        (some (((((IntKind.wrap .i64 (Int.tdiv a0 a1)), ()), ()), ()))))
      (some (((((IntKind.wrap .i64 (Int.tdiv a0 a1)), ()), ()), ()))))
    (none))
  (none)

noncomputable def impl_floorDiv (n : Nat) (a0 : Int) (a1 : Int) : Option ((((Int) × (Unit)) × (Unit)) × (Unit)) := impl_floorDiv_t n a0 a1

noncomputable def impl_nearest_t (n : Nat) (a0 : Int) (a1 : Int) : Option ((((Int) × (Unit)) × (((Bool) × (Unit)) × (Unit))) × (Unit)) :=
  (impl_floorDiv n ((IntKind.wrap .i64 ((IntKind.wrap .i64 (2 * a0)) + a1))) ((IntKind.wrap .i64 (2 * a1)))).bind fun r0 =>
  (impl_within n r0.1.1.1 (-1000000000) 1000000000).bind fun r1 =>
  some ((((r0.1.1.1, ()), ((r1.1.1.1, ()), ())), ()))

noncomputable def impl_nearest (n : Nat) (a0 : Int) (a1 : Int) : Option ((((Int) × (Unit)) × (((Bool) × (Unit)) × (Unit))) × (Unit)) := impl_nearest_t n a0 a1

noncomputable def impl_swing_t (n : Nat) (a0 : Int) : Option ((((Int) × (Unit)) × (Unit)) × (Unit)) :=
  cond (decide (a0 ≤ 324000))
  (some ((((a0, ()), ()), ())))
  (cond (decide (a0 ≤ 972000))
    (some (((((IntKind.wrap .i64 (648000 - a0)), ()), ()), ())))
    (some (((((IntKind.wrap .i64 (a0 - 1296000)), ()), ()), ()))))

noncomputable def impl_swing (n : Nat) (a0 : Int) : Option ((((Int) × (Unit)) × (Unit)) × (Unit)) := impl_swing_t n a0

noncomputable def impl_swingAt_t (n : Nat) (a0 : (List (Int)) × ((Int) × (Int))) (a1 : Int) : Option ((((Int) × (Unit)) × (((Int) × (Unit)) × (Unit))) × (Unit)) :=
  (impl_swing n a1).bind fun r0 =>
  (impl_wrap n ((IntKind.wrap .i64 (a1 + 324000)))).bind fun r1 =>
  (impl_swing n r1.1.1.1).bind fun r2 =>
  some (((((IntKind.wrap .i64 ((IntKind.wrap .i64 (a0.2.1 * r0.1.1.1)) + (IntKind.wrap .i64 (a0.2.2 * r2.1.1.1)))), ()), ((324000, ()), ())), ()))

noncomputable def impl_swingAt (n : Nat) (a0 : (List (Int)) × ((Int) × (Int))) (a1 : Int) : Option ((((Int) × (Unit)) × (((Int) × (Unit)) × (Unit))) × (Unit)) := impl_swingAt_t n a0 a1

noncomputable def impl_head_t (n : Nat) (a0 : (List (Int)) × ((Int) × (Int))) (a1 : Int) (a2 : Int) : Option ((((Int) × (Unit)) × (Unit)) × (Unit)) :=
  (impl_faultAt n ((a0.1, (a0.2.1, a0.2.2))) a1).bind fun r0 =>
  (impl_swingAt n ((a0.1, (a0.2.1, a0.2.2))) a1).bind fun r1 =>
  (impl_nearest n ((IntKind.wrap .i64 ((IntKind.wrap .i64 ((IntKind.wrap .i64 ((IntKind.wrap .i64 (a1 * r0.1.2.1.1)) * r1.1.2.1.1)) + (IntKind.wrap .i64 (r0.1.1.1 * r1.1.2.1.1)))) + (IntKind.wrap .i64 (r1.1.1.1 * r0.1.2.1.1))))) ((IntKind.wrap .i64 ((IntKind.wrap .i64 (r0.1.2.1.1 * r1.1.2.1.1)) * a2)))).bind fun r2 =>
  (impl_wrap n ((IntKind.wrap .i64 (r2.1.1.1 * a2)))).bind fun r3 =>
  some ((((r3.1.1.1, ()), ()), ()))

noncomputable def impl_head (n : Nat) (a0 : (List (Int)) × ((Int) × (Int))) (a1 : Int) (a2 : Int) : Option ((((Int) × (Unit)) × (Unit)) × (Unit)) := impl_head_t n a0 a1 a2

noncomputable def impl_headCode_1_t (n : Nat) (a0 : Int) : Option ((((Bool) × (Unit)) × (Unit)) × (Unit)) :=
  (impl_isAngle n a0).bind fun r0 =>
  some (((((!r0.1.1.1), ()), ()), ()))

noncomputable def impl_headCode_1 (n : Nat) (a0 : Int) : Option ((((Bool) × (Unit)) × (Unit)) × (Unit)) := impl_headCode_1_t n a0

noncomputable def slices_IndexFunc_int64_int64_at_impl_headCode_1_t2 (n : Nat) (g2 : Int → (List (Int)) → Int → Option ((((Int) × (Unit)) × (Unit)) × (Unit))) (v8 : Int) (v0 : List (Int)) (v7 : Int) : Option ((((Int) × (Unit)) × (Unit)) × (Unit)) :=
  cond (decide (v8 < v7))
  (cond ((decide (0 ≤ v8) && decide (v8 < ((v0.length : Nat) : Int))))
    ((impl_headCode_1 n ((v0.getD (Int.toNat v8) 0))).bind fun r0 =>
      cond r0.1.1.1
      (some ((((v8, ()), ()), ())))
      (g2 ((IntKind.wrap .i64 (v8 + 1))) v0 v7))
    (none))
  (some (((((-1), ()), ()), ())))

noncomputable def slices_IndexFunc_int64_int64_at_impl_headCode_1_l2 (n : Nat) : Nat → Int → (List (Int)) → Int → Option ((((Int) × (Unit)) × (Unit)) × (Unit))
  | 0, _, _, _ => none
  | k + 1, v8, v0, v7 => slices_IndexFunc_int64_int64_at_impl_headCode_1_t2 n (slices_IndexFunc_int64_int64_at_impl_headCode_1_l2 n k) v8 v0 v7

noncomputable def slices_IndexFunc_int64_int64_at_impl_headCode_1_t (n : Nat) (h2 : Nat → Int → (List (Int)) → Int → Option ((((Int) × (Unit)) × (Unit)) × (Unit))) (a0 : List (Int)) : Option ((((Int) × (Unit)) × (Unit)) × (Unit)) :=
  h2 n 0 a0 (((a0.length : Nat) : Int))

noncomputable def slices_IndexFunc_int64_int64_at_impl_headCode_1 (n : Nat) (a0 : List (Int)) : Option ((((Int) × (Unit)) × (Unit)) × (Unit)) := slices_IndexFunc_int64_int64_at_impl_headCode_1_t n (slices_IndexFunc_int64_int64_at_impl_headCode_1_l2 n) a0

noncomputable def slices_ContainsFunc_int64_int64_at_impl_headCode_1_t (n : Nat) (a0 : List (Int)) : Option ((((Bool) × (Unit)) × (Unit)) × (Unit)) :=
  (slices_IndexFunc_int64_int64_at_impl_headCode_1 n a0).bind fun r0 =>
  some ((((decide (r0.1.1.1 ≥ 0), ()), ()), ()))

noncomputable def slices_ContainsFunc_int64_int64_at_impl_headCode_1 (n : Nat) (a0 : List (Int)) : Option ((((Bool) × (Unit)) × (Unit)) × (Unit)) := slices_ContainsFunc_int64_int64_at_impl_headCode_1_t n a0

noncomputable def impl_headCode_t (n : Nat) (a0 : (List (Int)) × ((Int) × (Int))) (a1 : Int) (a2 : List (Int)) : Option ((((Int) × (Unit)) × (Unit)) × (Unit)) :=
  (impl_ValidDisk n ((a0.1, (a0.2.1, a0.2.2)))).bind fun r0 =>
  cond (!r0.1.1.1)
  (some ((((1, ()), ()), ())))
  ((slices_ContainsFunc_int64_int64_at_impl_headCode_1 n a2).bind fun r1 =>
    cond r1.1.1.1
    (some ((((1, ()), ()), ())))
    ((impl_within n a1 1 3600).bind fun r2 =>
      cond (!r2.1.1.1)
      (some ((((2, ()), ()), ())))
      (some ((((0, ()), ()), ())))))

noncomputable def impl_headCode (n : Nat) (a0 : (List (Int)) × ((Int) × (Int))) (a1 : Int) (a2 : List (Int)) : Option ((((Int) × (Unit)) × (Unit)) × (Unit)) := impl_headCode_t n a0 a1 a2

noncomputable def laws_eqInt16S_t4 (n : Nat) (g4 : Int → (List (Int)) → (List (Int)) → Option ((((Bool) × (Unit)) × (Unit)) × (Unit))) (v5 : Int) (v1 : List (Int)) (v0 : List (Int)) : Option ((((Bool) × (Unit)) × (Unit)) × (Unit)) :=
  cond (decide (v5 < ((v0.length : Nat) : Int)))
  (cond ((decide (0 ≤ v5) && decide (v5 < ((v0.length : Nat) : Int))))
    (cond ((decide (0 ≤ v5) && decide (v5 < ((v1.length : Nat) : Int))))
      (cond (((v0.getD (Int.toNat v5) 0) != (v1.getD (Int.toNat v5) 0)))
        (some ((((false, ()), ()), ())))
        (g4 ((IntKind.wrap .i64 (v5 + 1))) v1 v0))
      (none))
    (none))
  (some ((((true, ()), ()), ())))

noncomputable def laws_eqInt16S_l4 (n : Nat) : Nat → Int → (List (Int)) → (List (Int)) → Option ((((Bool) × (Unit)) × (Unit)) × (Unit))
  | 0, _, _, _ => none
  | k + 1, v5, v1, v0 => laws_eqInt16S_t4 n (laws_eqInt16S_l4 n k) v5 v1 v0

noncomputable def laws_eqInt16S_t (n : Nat) (h4 : Nat → Int → (List (Int)) → (List (Int)) → Option ((((Bool) × (Unit)) × (Unit)) × (Unit))) (a0 : List (Int)) (a1 : List (Int)) : Option ((((Bool) × (Unit)) × (Unit)) × (Unit)) :=
  cond ((((a0.length : Nat) : Int) != ((a1.length : Nat) : Int)))
  (some ((((false, ()), ()), ())))
  (h4 n 0 a1 a0)

noncomputable def laws_eqInt16S (n : Nat) (a0 : List (Int)) (a1 : List (Int)) : Option ((((Bool) × (Unit)) × (Unit)) × (Unit)) := laws_eqInt16S_t n (laws_eqInt16S_l4 n) a0 a1

noncomputable def laws_eqDisk_t (n : Nat) (a0 : (List (Int)) × ((Int) × (Int))) (a1 : (List (Int)) × ((Int) × (Int))) : Option ((((Bool) × (Unit)) × (Unit)) × (Unit)) :=
  (laws_eqInt16S n a0.1 a1.1).bind fun r0 =>
  cond (!r0.1.1.1)
  (some ((((false, ()), ()), ())))
  (cond ((a0.2.1 != a1.2.1))
    (some ((((false, ()), ()), ())))
    (cond ((a0.2.2 != a1.2.2))
      (some ((((false, ()), ()), ())))
      (some ((((true, ()), ()), ())))))

noncomputable def laws_eqDisk (n : Nat) (a0 : (List (Int)) × ((Int) × (Int))) (a1 : (List (Int)) × ((Int) × (Int))) : Option ((((Bool) × (Unit)) × (Unit)) × (Unit)) := laws_eqDisk_t n a0 a1

noncomputable def laws_eqFrac_t (n : Nat) (a0 : (Int) × (Int)) (a1 : (Int) × (Int)) : Option ((((Bool) × (Unit)) × (Unit)) × (Unit)) :=
  cond ((a0.1 != a1.1))
  (some ((((false, ()), ()), ())))
  (cond ((a0.2 != a1.2))
    (some ((((false, ()), ()), ())))
    (some ((((true, ()), ()), ()))))

noncomputable def laws_eqFrac (n : Nat) (a0 : (Int) × (Int)) (a1 : (Int) × (Int)) : Option ((((Bool) × (Unit)) × (Unit)) × (Unit)) := laws_eqFrac_t n a0 a1

noncomputable def laws_eqInt64S_t4 (n : Nat) (g4 : Int → (List (Int)) → (List (Int)) → Option ((((Bool) × (Unit)) × (Unit)) × (Unit))) (v5 : Int) (v1 : List (Int)) (v0 : List (Int)) : Option ((((Bool) × (Unit)) × (Unit)) × (Unit)) :=
  cond (decide (v5 < ((v0.length : Nat) : Int)))
  (cond ((decide (0 ≤ v5) && decide (v5 < ((v0.length : Nat) : Int))))
    (cond ((decide (0 ≤ v5) && decide (v5 < ((v1.length : Nat) : Int))))
      (cond (((v0.getD (Int.toNat v5) 0) != (v1.getD (Int.toNat v5) 0)))
        (some ((((false, ()), ()), ())))
        (g4 ((IntKind.wrap .i64 (v5 + 1))) v1 v0))
      (none))
    (none))
  (some ((((true, ()), ()), ())))

noncomputable def laws_eqInt64S_l4 (n : Nat) : Nat → Int → (List (Int)) → (List (Int)) → Option ((((Bool) × (Unit)) × (Unit)) × (Unit))
  | 0, _, _, _ => none
  | k + 1, v5, v1, v0 => laws_eqInt64S_t4 n (laws_eqInt64S_l4 n k) v5 v1 v0

noncomputable def laws_eqInt64S_t (n : Nat) (h4 : Nat → Int → (List (Int)) → (List (Int)) → Option ((((Bool) × (Unit)) × (Unit)) × (Unit))) (a0 : List (Int)) (a1 : List (Int)) : Option ((((Bool) × (Unit)) × (Unit)) × (Unit)) :=
  cond ((((a0.length : Nat) : Int) != ((a1.length : Nat) : Int)))
  (some ((((false, ()), ()), ())))
  (h4 n 0 a1 a0)

noncomputable def laws_eqInt64S (n : Nat) (a0 : List (Int)) (a1 : List (Int)) : Option ((((Bool) × (Unit)) × (Unit)) × (Unit)) := laws_eqInt64S_t n (laws_eqInt64S_l4 n) a0 a1

noncomputable def laws_heldInt64S_t2 (n : Nat) (g2 : Int → Int → (List (Int)) → Option ((((Int) × (Unit)) × (Unit)) × (Unit))) (v5 : Int) (v1 : Int) (v0 : List (Int)) : Option ((((Int) × (Unit)) × (Unit)) × (Unit)) :=
  cond (decide (v5 < ((v0.length : Nat) : Int)))
  (cond ((decide (0 ≤ v5) && decide (v5 < ((v0.length : Nat) : Int))))
    (cond (((v0.getD (Int.toNat v5) 0) != v1))
      (some (((((-1), ()), ()), ())))
      (g2 ((IntKind.wrap .i64 (v5 + 1))) ((IntKind.wrap .i64 (v1 + 1))) v0))
    (none))
  (some ((((v1, ()), ()), ())))

noncomputable def laws_heldInt64S_l2 (n : Nat) : Nat → Int → Int → (List (Int)) → Option ((((Int) × (Unit)) × (Unit)) × (Unit))
  | 0, _, _, _ => none
  | k + 1, v5, v1, v0 => laws_heldInt64S_t2 n (laws_heldInt64S_l2 n k) v5 v1 v0

noncomputable def laws_heldInt64S_t (n : Nat) (h2 : Nat → Int → Int → (List (Int)) → Option ((((Int) × (Unit)) × (Unit)) × (Unit))) (a0 : List (Int)) (a1 : Int) : Option ((((Int) × (Unit)) × (Unit)) × (Unit)) :=
  h2 n 0 a1 a0

noncomputable def laws_heldInt64S (n : Nat) (a0 : List (Int)) (a1 : Int) : Option ((((Int) × (Unit)) × (Unit)) × (Unit)) := laws_heldInt64S_t n (laws_heldInt64S_l2 n) a0 a1

noncomputable def laws_markInt64S_t2 (n : Nat) (g2 : Int → Int → (List (Int)) → Option ((((Int) × (Unit)) × (Unit)) × ((List (Int)) × (Unit)))) (v5 : Int) (v1 : Int) (b0 : List (Int)) : Option ((((Int) × (Unit)) × (Unit)) × ((List (Int)) × (Unit))) :=
  cond (decide (v5 < ((b0.length : Nat) : Int)))
  (cond ((decide (0 ≤ v5) && decide (v5 < ((b0.length : Nat) : Int))))
    (g2 ((IntKind.wrap .i64 (v5 + 1))) ((IntKind.wrap .i64 (v1 + 1))) ((b0.set (Int.toNat v5) v1)))
    (none))
  (some ((((v1, ()), ()), (b0, ()))))

noncomputable def laws_markInt64S_l2 (n : Nat) : Nat → Int → Int → (List (Int)) → Option ((((Int) × (Unit)) × (Unit)) × ((List (Int)) × (Unit)))
  | 0, _, _, _ => none
  | k + 1, v5, v1, b0 => laws_markInt64S_t2 n (laws_markInt64S_l2 n k) v5 v1 b0

noncomputable def laws_markInt64S_t (n : Nat) (h2 : Nat → Int → Int → (List (Int)) → Option ((((Int) × (Unit)) × (Unit)) × ((List (Int)) × (Unit)))) (a1 : Int) (b0 : List (Int)) : Option ((((Int) × (Unit)) × (Unit)) × ((List (Int)) × (Unit))) :=
  h2 n 0 a1 b0

noncomputable def laws_markInt64S (n : Nat) (a1 : Int) (b0 : List (Int)) : Option ((((Int) × (Unit)) × (Unit)) × ((List (Int)) × (Unit))) := laws_markInt64S_t n (laws_markInt64S_l2 n) a1 b0

noncomputable def laws_szInt16S_t (n : Nat) (a0 : List (Int)) (a1 : Int) : Option ((((Int) × (Unit)) × (Unit)) × (Unit)) :=
  cond (decide ((IntKind.wrap .i64 (a1 - ((a0.length : Nat) : Int))) < 0))
  (some (((((-1), ()), ()), ())))
  (some (((((IntKind.wrap .i64 (a1 - ((a0.length : Nat) : Int))), ()), ()), ())))

noncomputable def laws_szInt16S (n : Nat) (a0 : List (Int)) (a1 : Int) : Option ((((Int) × (Unit)) × (Unit)) × (Unit)) := laws_szInt16S_t n a0 a1

noncomputable def laws_szDisk_t (n : Nat) (a0 : (List (Int)) × ((Int) × (Int))) (a1 : Int) : Option ((((Int) × (Unit)) × (Unit)) × (Unit)) :=
  (laws_szInt16S n a0.1 a1).bind fun r0 =>
  cond (decide (r0.1.1.1 < 0))
  (some (((((-1), ()), ()), ())))
  (some ((((r0.1.1.1, ()), ()), ())))

noncomputable def laws_szDisk (n : Nat) (a0 : (List (Int)) × ((Int) × (Int))) (a1 : Int) : Option ((((Int) × (Unit)) × (Unit)) × (Unit)) := laws_szDisk_t n a0 a1

noncomputable def laws_toInt16S_t3 (n : Nat) (g3 : Int → (List (Int)) → (List (Int)) → Option ((((List (Int)) × (Unit)) × (Unit)) × (Unit))) (v4 : Int) (v0 : List (Int)) (b0 : List (Int)) : Option ((((List (Int)) × (Unit)) × (Unit)) × (Unit)) :=
  cond (decide (v4 < ((v0.length : Nat) : Int)))
  (cond ((decide (0 ≤ v4) && decide (v4 < ((v0.length : Nat) : Int))))
    (cond ((decide (0 ≤ v4) && decide (v4 < ((b0.length : Nat) : Int))))
      (g3 ((IntKind.wrap .i64 (v4 + 1))) v0 ((b0.set (Int.toNat v4) (v0.getD (Int.toNat v4) 0))))
      (none))
    (none))
  (some ((((b0, ()), ()), ())))

noncomputable def laws_toInt16S_l3 (n : Nat) : Nat → Int → (List (Int)) → (List (Int)) → Option ((((List (Int)) × (Unit)) × (Unit)) × (Unit))
  | 0, _, _, _ => none
  | k + 1, v4, v0, b0 => laws_toInt16S_t3 n (laws_toInt16S_l3 n k) v4 v0 b0

noncomputable def laws_toInt16S_t (n : Nat) (h3 : Nat → Int → (List (Int)) → (List (Int)) → Option ((((List (Int)) × (Unit)) × (Unit)) × (Unit))) (a0 : List (Int)) : Option ((((List (Int)) × (Unit)) × (Unit)) × (Unit)) :=
  cond ((((((a0.length : Nat) : Int) == ((a0.length : Nat) : Int)) && decide (0 ≤ ((a0.length : Nat) : Int))) && decide (((Int.toNat ((a0.length : Nat) : Int)) * 3) ≤ 70368744177664)))
  (h3 n 0 a0 ((List.replicate (Int.toNat ((a0.length : Nat) : Int)) 0)))
  (none)

noncomputable def laws_toInt16S (n : Nat) (a0 : List (Int)) : Option ((((List (Int)) × (Unit)) × (Unit)) × (Unit)) := laws_toInt16S_t n (laws_toInt16S_l3 n) a0

noncomputable def laws_toDisk_t (n : Nat) (a0 : (List (Int)) × ((Int) × (Int))) : Option ((((List (Int)) × (((Int) × (Int)) × (Unit))) × (Unit)) × (Unit)) :=
  (laws_toInt16S n a0.1).bind fun r0 =>
  some ((((r0.1.1.1, ((a0.2.1, a0.2.2), ())), ()), ()))

noncomputable def laws_toDisk (n : Nat) (a0 : (List (Int)) × ((Int) × (Int))) : Option ((((List (Int)) × (((Int) × (Int)) × (Unit))) × (Unit)) × (Unit)) := laws_toDisk_t n a0

noncomputable def spec_l00Src_one_t (n : Nat) (a1 : Int) (b0 : (List (Int)) × ((Int) × (Int))) : Option ((((Bool) × (Unit)) × (Unit)) × (((List (Int)) × ((Int) × (Int))) × (Unit))) :=
  (spec_l00Src_pick n a1 ((b0.1, (b0.2.1, b0.2.2)))).bind fun r0 =>
  some (((((r0.1.1.1 == 0), ()), ()), ((r0.2.1.1, (r0.2.1.2.1, r0.2.1.2.2)), ())))

noncomputable def spec_l00Src_one (n : Nat) (a1 : Int) (b0 : (List (Int)) × ((Int) × (Int))) : Option ((((Bool) × (Unit)) × (Unit)) × (((List (Int)) × ((Int) × (Int))) × (Unit))) := spec_l00Src_one_t n a1 b0

noncomputable def spec_l03Drawn_t12 (n : Nat) (b0_0 : List (Int)) (b0_1 : Int) (b0_2 : Int) (b1_1 : Int) (b1_2 : Int) (b2_1 : Int) (b2_2 : Int) (b3 : List (Int)) : Option (((((List (Int)) × ((Int) × (Int))) × (Unit)) × (Unit)) × (((List (Int)) × ((Int) × (Int))) × (Unit))) :=
  some (((((b3, (b2_1, b2_2)), ()), ()), ((b0_0, (b0_1, b0_2)), ())))

noncomputable def spec_l03Drawn_j12 (n : Nat) (b0_0 : List (Int)) (b0_1 : Int) (b0_2 : Int) (b1_1 : Int) (b1_2 : Int) (b2_1 : Int) (b2_2 : Int) (b3 : List (Int)) : Option (((((List (Int)) × ((Int) × (Int))) × (Unit)) × (Unit)) × (((List (Int)) × ((Int) × (Int))) × (Unit))) := spec_l03Drawn_t12 n b0_0 b0_1 b0_2 b1_1 b1_2 b2_1 b2_2 b3

noncomputable def spec_l03Drawn_t8 (n : Nat) (g3 : Int → (List (Int)) → Int → Int → Int → Int → Int → Int → (List (Int)) → Option (((((List (Int)) × ((Int) × (Int))) × (Unit)) × (Unit)) × (((List (Int)) × ((Int) × (Int))) × (Unit)))) (v4 : Int) (v5 : Int) (b0_0 : List (Int)) (b0_1 : Int) (b0_2 : Int) (b1_1 : Int) (b1_2 : Int) (b2_1 : Int) (b2_2 : Int) (b3 : List (Int)) : Option (((((List (Int)) × ((Int) × (Int))) × (Unit)) × (Unit)) × (((List (Int)) × ((Int) × (Int))) × (Unit))) :=
  cond (decide (((b3.length + (v5 :: []).length) * 3) ≤ 70368744177664))
  (g3 ((IntKind.wrap .i64 (v4 - 1))) b0_0 b0_1 b0_2 b1_1 b1_2 b2_1 b2_2 ((b3 ++ (v5 :: []))))
  (none)

noncomputable def spec_l03Drawn_j8 (n : Nat) (g3 : Int → (List (Int)) → Int → Int → Int → Int → Int → Int → (List (Int)) → Option (((((List (Int)) × ((Int) × (Int))) × (Unit)) × (Unit)) × (((List (Int)) × ((Int) × (Int))) × (Unit)))) (v4 : Int) (v5 : Int) (b0_0 : List (Int)) (b0_1 : Int) (b0_2 : Int) (b1_1 : Int) (b1_2 : Int) (b2_1 : Int) (b2_2 : Int) (b3 : List (Int)) : Option (((((List (Int)) × ((Int) × (Int))) × (Unit)) × (Unit)) × (((List (Int)) × ((Int) × (Int))) × (Unit))) := spec_l03Drawn_t8 n g3 v4 v5 b0_0 b0_1 b0_2 b1_1 b1_2 b2_1 b2_2 b3

/- join 12 at { env := [(2, .one (.ref 1 0 0 0 0 0)), (3, .one (.ref 2 0 0 0 0 0))], bx := [(0, .var 226 [.list true (.int .u8) b0_0, .sc (.int .i64 b0_1), .sc (.int .u64 b0_2)]), (1, .var 62 [.sc (.slice none 0 0), .sc (.int .i64 b1_1), .sc (.int .i64 b1_2)]), (2, .var 62 [.slice 3 0 none, .sc (.int .i64 b2_1), .sc (.int .i64 b2_2)]), (3, .row 0 (.int .i16) b3)], nx := 4 } -/
noncomputable def spec_l03Drawn_t3 (n : Nat) (h8 : Int → Int → (List (Int)) → Int → Int → Int → Int → Int → Int → (List (Int)) → Option (((((List (Int)) × ((Int) × (Int))) × (Unit)) × (Unit)) × (((List (Int)) × ((Int) × (Int))) × (Unit)))) (h12 : (List (Int)) → Int → Int → Int → Int → Int → Int → (List (Int)) → Option (((((List (Int)) × ((Int) × (Int))) × (Unit)) × (Unit)) × (((List (Int)) × ((Int) × (Int))) × (Unit)))) (g3 : Int → (List (Int)) → Int → Int → Int → Int → Int → Int → (List (Int)) → Option (((((List (Int)) × ((Int) × (Int))) × (Unit)) × (Unit)) × (((List (Int)) × ((Int) × (Int))) × (Unit)))) (v4 : Int) (b0_0 : List (Int)) (b0_1 : Int) (b0_2 : Int) (b1_1 : Int) (b1_2 : Int) (b2_1 : Int) (b2_2 : Int) (b3 : List (Int)) : Option (((((List (Int)) × ((Int) × (Int))) × (Unit)) × (Unit)) × (((List (Int)) × ((Int) × (Int))) × (Unit))) :=
  cond (decide (v4 > 0))
  ((spec_l00Src_one n 4 ((b0_0, (b0_1, b0_2)))).bind fun r1 =>
    cond (!r1.1.1.1)
    ((spec_l00Src_pick n 121 ((r1.2.1.1, (r1.2.1.2.1, r1.2.1.2.2)))).bind fun r2 =>
      h8 v4 ((IntKind.wrap .i16 (IntKind.wrap .i64 (r2.1.1.1 - 60)))) r2.2.1.1 r2.2.1.2.1 r2.2.1.2.2 b1_1 b1_2 b2_1 b2_2 b3)
    (h8 v4 0 r1.2.1.1 r1.2.1.2.1 r1.2.1.2.2 b1_1 b1_2 b2_1 b2_2 b3))
  ((spec_l00Src_one n 2 ((b0_0, (b0_1, b0_2)))).bind fun r3 =>
    cond r3.1.1.1
    ((spec_l00Src_pick n 121 ((r3.2.1.1, (r3.2.1.2.1, r3.2.1.2.2)))).bind fun r4 =>
      (spec_l00Src_pick n 121 ((r4.2.1.1, (r4.2.1.2.1, r4.2.1.2.2)))).bind fun r5 =>
      h12 r5.2.1.1 r5.2.1.2.1 r5.2.1.2.2 b2_1 b2_2 ((IntKind.wrap .i64 (r4.1.1.1 - 60))) ((IntKind.wrap .i64 (r5.1.1.1 - 60))) b3)
    (h12 r3.2.1.1 r3.2.1.2.1 r3.2.1.2.2 b2_1 b2_2 b1_1 b1_2 b3))

noncomputable def spec_l03Drawn_l3 (n : Nat) : Nat → Int → (List (Int)) → Int → Int → Int → Int → Int → Int → (List (Int)) → Option (((((List (Int)) × ((Int) × (Int))) × (Unit)) × (Unit)) × (((List (Int)) × ((Int) × (Int))) × (Unit)))
  | 0, _, _, _, _, _, _, _, _, _ => none
  | k + 1, v4, b0_0, b0_1, b0_2, b1_1, b1_2, b2_1, b2_2, b3 => spec_l03Drawn_t3 n (spec_l03Drawn_j8 n (spec_l03Drawn_l3 n k)) (spec_l03Drawn_j12 n) (spec_l03Drawn_l3 n k) v4 b0_0 b0_1 b0_2 b1_1 b1_2 b2_1 b2_2 b3

noncomputable def spec_l03Drawn_t (n : Nat) (h3 : Nat → Int → (List (Int)) → Int → Int → Int → Int → Int → Int → (List (Int)) → Option (((((List (Int)) × ((Int) × (Int))) × (Unit)) × (Unit)) × (((List (Int)) × ((Int) × (Int))) × (Unit)))) (b0 : (List (Int)) × ((Int) × (Int))) : Option (((((List (Int)) × ((Int) × (Int))) × (Unit)) × (Unit)) × (((List (Int)) × ((Int) × (Int))) × (Unit))) :=
  (spec_l00Src_among n ((b0.1, (b0.2.1, b0.2.2))) ((1 :: (2 :: (4 :: (6 :: (8 :: (12 :: (36 :: []))))))))).bind fun r0 =>
  h3 n r0.1.1.1 r0.2.1.1 r0.2.1.2.1 r0.2.1.2.2 0 0 0 0 []

noncomputable def spec_l03Drawn (n : Nat) (b0 : (List (Int)) × ((Int) × (Int))) : Option (((((List (Int)) × ((Int) × (Int))) × (Unit)) × (Unit)) × (((List (Int)) × ((Int) × (Int))) × (Unit))) := spec_l03Drawn_t n (spec_l03Drawn_l3 n) b0

noncomputable def spec_A2Disk_t (n : Nat) (a0 : List (Int)) : Option (((((List (Int)) × ((Int) × (Int))) × (Unit)) × (Unit)) × (Unit)) :=
  (spec_l00From n a0).bind fun r0 =>
  (spec_l03Drawn n ((r0.1.1.1.1, (r0.1.1.1.2.1, r0.1.1.1.2.2)))).bind fun r1 =>
  some (((((r1.1.1.1.1, (r1.1.1.1.2.1, r1.1.1.1.2.2)), ()), ()), ()))

noncomputable def spec_A2Disk (n : Nat) (a0 : List (Int)) : Option (((((List (Int)) × ((Int) × (Int))) × (Unit)) × (Unit)) × (Unit)) := spec_A2Disk_t n a0

noncomputable def spec_Decimal_t (n : Nat) (rec : Int → Option ((((ByteArray) × (Unit)) × (Unit)) × (Unit))) (a0 : Int) : Option ((((ByteArray) × (Unit)) × (Unit)) × (Unit)) :=
  cond (decide (a0 < 10))
  (some (((((byteStr ((IntKind.wrap .u8 (IntKind.wrap .i64 (48 + (Int.tmod a0 10)))) :: [])), ()), ()), ())))
  ((rec ((IntKind.wrap .i64 (Int.tdiv a0 10)))).bind fun r0 =>
    cond ((roomStr r0.1.1.1 (byteStr ((IntKind.wrap .u8 (IntKind.wrap .i64 (48 + (Int.tmod a0 10)))) :: []))))
    (some (((((r0.1.1.1 ++ (byteStr ((IntKind.wrap .u8 (IntKind.wrap .i64 (48 + (Int.tmod a0 10)))) :: []))), ()), ()), ())))
    (none))

noncomputable def spec_Decimal_r (n : Nat) : Nat → Int → Option ((((ByteArray) × (Unit)) × (Unit)) × (Unit))
  | 0, _ => none
  | d + 1, a0 => spec_Decimal_t n (spec_Decimal_r n d) a0

noncomputable def spec_Decimal (n : Nat) (a0 : Int) : Option ((((ByteArray) × (Unit)) × (Unit)) × (Unit)) := spec_Decimal_r n n a0

noncomputable def spec_l03Two_t (n : Nat) (a0 : Int) : Option ((((ByteArray) × (Unit)) × (Unit)) × (Unit)) :=
  (spec_Decimal n ((IntKind.wrap .i64 (Int.tdiv a0 10)))).bind fun r0 =>
  (spec_Decimal n ((Int.tmod a0 10))).bind fun r1 =>
  cond ((roomStr r0.1.1.1 r1.1.1.1))
  (some (((((r0.1.1.1 ++ r1.1.1.1), ()), ()), ())))
  (none)

noncomputable def spec_l03Two (n : Nat) (a0 : Int) : Option ((((ByteArray) × (Unit)) × (Unit)) × (Unit)) := spec_l03Two_t n a0

noncomputable def spec_AngleText_t (n : Nat) (a0 : Int) : Option ((((ByteArray) × (Unit)) × (Unit)) × (Unit)) :=
  (spec_l03Angle n a0).bind fun r0 =>
  cond (!r0.1.1.1)
  (some (((((ByteArray.mk #[]), ()), ()), ())))
  ((spec_Decimal n ((IntKind.wrap .i64 (Int.tdiv a0 3600)))).bind fun r1 =>
    cond ((roomStr r1.1.1.1 (ByteArray.mk #[58])))
    ((spec_l03Two n ((Int.tmod (IntKind.wrap .i64 (Int.tdiv a0 60)) 60))).bind fun r2 =>
      cond ((roomStr (r1.1.1.1 ++ (ByteArray.mk #[58])) r2.1.1.1))
      (cond ((roomStr ((r1.1.1.1 ++ (ByteArray.mk #[58])) ++ r2.1.1.1) (ByteArray.mk #[58])))
        ((spec_l03Two n ((Int.tmod a0 60))).bind fun r3 =>
          cond ((roomStr (((r1.1.1.1 ++ (ByteArray.mk #[58])) ++ r2.1.1.1) ++ (ByteArray.mk #[58])) r3.1.1.1))
          (some ((((((((r1.1.1.1 ++ (ByteArray.mk #[58])) ++ r2.1.1.1) ++ (ByteArray.mk #[58])) ++ r3.1.1.1), ()), ()), ())))
          (none))
        (none))
      (none))
    (none))

noncomputable def spec_AngleText (n : Nat) (a0 : Int) : Option ((((ByteArray) × (Unit)) × (Unit)) × (Unit)) := spec_AngleText_t n a0

noncomputable def spec_l01Number_t5 (n : Nat) (g5 : Int → ByteArray → Int → Option ((((Int) × (Unit)) × (((Bool) × (Unit)) × (Unit))) × (Unit))) (v5 : Int) (v0 : ByteArray) (v4 : Int) : Option ((((Int) × (Unit)) × (((Bool) × (Unit)) × (Unit))) × (Unit)) :=
  cond (decide (v5 < (((ByteArray.size v0) : Nat) : Int)))
  (cond ((decide (0 ≤ v5) && decide (v5 < (((ByteArray.size v0) : Nat) : Int))))
    (cond (decide ((byteAt v0 v5) < 48))
      (some ((((0, ()), ((false, ()), ())), ())))
      (cond ((decide (0 ≤ v5) && decide (v5 < (((ByteArray.size v0) : Nat) : Int))))
        (cond (decide ((byteAt v0 v5) > 57))
          (some ((((0, ()), ((false, ()), ())), ())))
          (cond ((decide (0 ≤ v5) && decide (v5 < (((ByteArray.size v0) : Nat) : Int))))
            (g5 ((IntKind.wrap .i64 (v5 + 1))) v0 ((IntKind.wrap .i64 ((IntKind.wrap .i64 (10 * v4)) + (IntKind.wrap .i64 (IntKind.wrap .u8 ((byteAt v0 v5) - 48)))))))
            (none)))
        (none)))
    (none))
  (some ((((v4, ()), ((true, ()), ())), ())))

noncomputable def spec_l01Number_l5 (n : Nat) : Nat → Int → ByteArray → Int → Option ((((Int) × (Unit)) × (((Bool) × (Unit)) × (Unit))) × (Unit))
  | 0, _, _, _ => none
  | k + 1, v5, v0, v4 => spec_l01Number_t5 n (spec_l01Number_l5 n k) v5 v0 v4

noncomputable def spec_l01Number_t (n : Nat) (h5 : Nat → Int → ByteArray → Int → Option ((((Int) × (Unit)) × (((Bool) × (Unit)) × (Unit))) × (Unit))) (a0 : ByteArray) : Option ((((Int) × (Unit)) × (((Bool) × (Unit)) × (Unit))) × (Unit)) :=
  cond ((eqStr a0 (ByteArray.mk #[])))
  (some ((((0, ()), ((false, ()), ())), ())))
  (cond (decide ((((ByteArray.size a0) : Nat) : Int) > 10))
    (some ((((0, ()), ((false, ()), ())), ())))
    (cond (decide (0 < (((ByteArray.size a0) : Nat) : Int)))
      (cond (((byteAt a0 0) == 48))
        (cond (decide ((((ByteArray.size a0) : Nat) : Int) > 1))
          (some ((((0, ()), ((false, ()), ())), ())))
          (h5 n 0 a0 0))
        (h5 n 0 a0 0))
      (none)))

noncomputable def spec_l01Number (n : Nat) (a0 : ByteArray) : Option ((((Int) × (Unit)) × (((Bool) × (Unit)) × (Unit))) × (Unit)) := spec_l01Number_t n (spec_l01Number_l5 n) a0

noncomputable def spec_l01Split_t4 (n : Nat) (g4 : Int → Int → ByteArray → Int → (List (ByteArray)) → Option ((((List (ByteArray)) × (Unit)) × (Unit)) × (Unit))) (v7 : Int) (v6 : Int) (v0 : ByteArray) (v1 : Int) (b0 : List (ByteArray)) : Option ((((List (ByteArray)) × (Unit)) × (Unit)) × (Unit)) :=
  cond (decide (v7 < (((ByteArray.size v0) : Nat) : Int)))
  (cond ((decide (0 ≤ v7) && decide (v7 < (((ByteArray.size v0) : Nat) : Int))))
    (cond (((byteAt v0 v7) == v1))
      (cond (((decide (0 ≤ v6) && decide (v6 ≤ v7)) && decide (v7 ≤ (((ByteArray.size v0) : Nat) : Int))))
        (cond (decide (((b0.length + ((ByteArray.extract v0 (Int.toNat v6) (Int.toNat v7)) :: []).length) * 17) ≤ 70368744177664))
          (g4 ((IntKind.wrap .i64 (v7 + 1))) ((IntKind.wrap .i64 (v7 + 1))) v0 v1 ((b0 ++ ((ByteArray.extract v0 (Int.toNat v6) (Int.toNat v7)) :: []))))
          (none))
        (none))
      (g4 ((IntKind.wrap .i64 (v7 + 1))) v6 v0 v1 b0))
    (none))
  (cond (((decide (0 ≤ v6) && decide (v6 ≤ (((ByteArray.size v0) : Nat) : Int))) && decide ((((ByteArray.size v0) : Nat) : Int) ≤ (((ByteArray.size v0) : Nat) : Int))))
    (cond (decide (((b0.length + ((ByteArray.extract v0 (Int.toNat v6) (Int.toNat (((ByteArray.size v0) : Nat) : Int))) :: []).length) * 17) ≤ 70368744177664))
      (some (((((b0 ++ ((ByteArray.extract v0 (Int.toNat v6) (Int.toNat (((ByteArray.size v0) : Nat) : Int))) :: [])), ()), ()), ())))
      (none))
    (none))

noncomputable def spec_l01Split_l4 (n : Nat) : Nat → Int → Int → ByteArray → Int → (List (ByteArray)) → Option ((((List (ByteArray)) × (Unit)) × (Unit)) × (Unit))
  | 0, _, _, _, _, _ => none
  | k + 1, v7, v6, v0, v1, b0 => spec_l01Split_t4 n (spec_l01Split_l4 n k) v7 v6 v0 v1 b0

noncomputable def spec_l01Split_t (n : Nat) (h4 : Nat → Int → Int → ByteArray → Int → (List (ByteArray)) → Option ((((List (ByteArray)) × (Unit)) × (Unit)) × (Unit))) (a0 : ByteArray) (a1 : Int) : Option ((((List (ByteArray)) × (Unit)) × (Unit)) × (Unit)) :=
  h4 n 0 0 a0 a1 []

noncomputable def spec_l01Split (n : Nat) (a0 : ByteArray) (a1 : Int) : Option ((((List (ByteArray)) × (Unit)) × (Unit)) × (Unit)) := spec_l01Split_t n (spec_l01Split_l4 n) a0 a1

noncomputable def spec_ReadAngle_t8 (n : Nat) (g8 : Int → Int → (List (ByteArray)) → Option ((((Int) × (Unit)) × (((Int) × (Unit)) × (Unit))) × (Unit))) (v7 : Int) (v5 : Int) (b0 : List (ByteArray)) : Option ((((Int) × (Unit)) × (((Int) × (Unit)) × (Unit))) × (Unit)) :=
  cond (decide (v7 < 3))
  (cond ((decide (0 ≤ v7) && decide (v7 < ((b0.length : Nat) : Int))))
    (cond (decide (0 < (((ByteArray.size (b0.getD (Int.toNat v7) (ByteArray.mk #[]))) : Nat) : Int)))
      (cond ((decide (0 ≤ v7) && decide (v7 < ((b0.length : Nat) : Int))))
        (cond (decide (1 < (((ByteArray.size (b0.getD (Int.toNat v7) (ByteArray.mk #[]))) : Nat) : Int)))
          ((spec_l00In n ((IntKind.wrap .i64 ((IntKind.wrap .i64 (byteAt (b0.getD (Int.toNat v7) (ByteArray.mk #[])) 0)) - 48))) 0 5).bind fun r2 =>
            cond (!r2.1.1.1)
            (some ((((0, ()), ((5, ()), ())), ())))
            ((spec_l00In n ((IntKind.wrap .i64 ((IntKind.wrap .i64 (byteAt (b0.getD (Int.toNat v7) (ByteArray.mk #[])) 1)) - 48))) 0 9).bind fun r3 =>
              cond (!r3.1.1.1)
              (some ((((0, ()), ((5, ()), ())), ())))
              (g8 ((IntKind.wrap .i64 (v7 + 1))) ((IntKind.wrap .i64 ((IntKind.wrap .i64 ((IntKind.wrap .i64 (60 * v5)) + (IntKind.wrap .i64 (10 * (IntKind.wrap .i64 ((IntKind.wrap .i64 (byteAt (b0.getD (Int.toNat v7) (ByteArray.mk #[])) 0)) - 48)))))) + (IntKind.wrap .i64 ((IntKind.wrap .i64 (byteAt (b0.getD (Int.toNat v7) (ByteArray.mk #[])) 1)) - 48))))) b0)))
          (none))
        (none))
      (none))
    (none))
  (some ((((v5, ()), ((0, ()), ())), ())))

noncomputable def spec_ReadAngle_l8 (n : Nat) : Nat → Int → Int → (List (ByteArray)) → Option ((((Int) × (Unit)) × (((Int) × (Unit)) × (Unit))) × (Unit))
  | 0, _, _, _ => none
  | k + 1, v7, v5, b0 => spec_ReadAngle_t8 n (spec_ReadAngle_l8 n k) v7 v5 b0

noncomputable def spec_ReadAngle_t (n : Nat) (h8 : Nat → Int → Int → (List (ByteArray)) → Option ((((Int) × (Unit)) × (((Int) × (Unit)) × (Unit))) × (Unit))) (a0 : ByteArray) : Option ((((Int) × (Unit)) × (((Int) × (Unit)) × (Unit))) × (Unit)) :=
  (spec_l01Split n a0 58).bind fun r0 =>
  cond ((((r0.1.1.1.length : Nat) : Int) != 3))
  (some ((((0, ()), ((5, ()), ())), ())))
  (cond (decide (1 < ((r0.1.1.1.length : Nat) : Int)))
    (cond (((((ByteArray.size (r0.1.1.1.getD (Int.toNat 1) (ByteArray.mk #[]))) : Nat) : Int) != 2))
      (some ((((0, ()), ((5, ()), ())), ())))
      (cond (decide (2 < ((r0.1.1.1.length : Nat) : Int)))
        (cond (((((ByteArray.size (r0.1.1.1.getD (Int.toNat 2) (ByteArray.mk #[]))) : Nat) : Int) != 2))
          (some ((((0, ()), ((5, ()), ())), ())))
          (cond (decide (0 < ((r0.1.1.1.length : Nat) : Int)))
            ((spec_l01Number n ((r0.1.1.1.getD (Int.toNat 0) (ByteArray.mk #[])))).bind fun r1 =>
              cond (!r1.1.2.1.1)
              (some ((((0, ()), ((5, ()), ())), ())))
              (cond (decide (r1.1.1.1 > 359))
                (some ((((0, ()), ((5, ()), ())), ())))
                (h8 n 1 r1.1.1.1 r0.1.1.1)))
            (none)))
        (none)))
    (none))

noncomputable def spec_ReadAngle (n : Nat) (a0 : ByteArray) : Option ((((Int) × (Unit)) × (((Int) × (Unit)) × (Unit))) × (Unit)) := spec_ReadAngle_t n (spec_ReadAngle_l8 n) a0

noncomputable def spec_l01Abs_t (n : Nat) (a0 : Int) : Option ((((Int) × (Unit)) × (Unit)) × (Unit)) :=
  cond (decide (a0 < 0))
  (some (((((IntKind.wrap .i64 (0 - a0)), ()), ()), ())))
  (some ((((a0, ()), ()), ())))

noncomputable def spec_l01Abs (n : Nat) (a0 : Int) : Option ((((Int) × (Unit)) × (Unit)) × (Unit)) := spec_l01Abs_t n a0

noncomputable def spec_l01Down_t (n : Nat) (a0 : Int) (a1 : Int) : Option ((((Int) × (Unit)) × (Unit)) × (Unit)) :=
  cond ((a1 != 0))
  (cond ((a1 != 0))
    (cond (decide ((Int.tmod a0 a1) < 0))
      (some (((((IntKind.wrap .i64 ((IntKind.wrap .i64 (Int.tdiv a0 a1)) - 1)), ()), ()), ())))
      (some (((((IntKind.wrap .i64 (Int.tdiv a0 a1)), ()), ()), ()))))
    (none))
  (none)

noncomputable def spec_l01Down (n : Nat) (a0 : Int) (a1 : Int) : Option ((((Int) × (Unit)) × (Unit)) × (Unit)) := spec_l01Down_t n a0 a1

noncomputable def spec_l01Gcd_t1 (n : Nat) (g1 : Int → Int → Option ((((Int) × (Unit)) × (Unit)) × (Unit))) (v1 : Int) (v0 : Int) : Option ((((Int) × (Unit)) × (Unit)) × (Unit)) :=
  cond ((v1 != 0))
  (cond ((v1 != 0))
    (g1 ((Int.tmod v0 v1)) v1)
    (none))
  (some ((((v0, ()), ()), ())))

noncomputable def spec_l01Gcd_l1 (n : Nat) : Nat → Int → Int → Option ((((Int) × (Unit)) × (Unit)) × (Unit))
  | 0, _, _ => none
  | k + 1, v1, v0 => spec_l01Gcd_t1 n (spec_l01Gcd_l1 n k) v1 v0

noncomputable def spec_l01Gcd_t (n : Nat) (h1 : Nat → Int → Int → Option ((((Int) × (Unit)) × (Unit)) × (Unit))) (a0 : Int) (a1 : Int) : Option ((((Int) × (Unit)) × (Unit)) × (Unit)) :=
  h1 n a1 a0

noncomputable def spec_l01Gcd (n : Nat) (a0 : Int) (a1 : Int) : Option ((((Int) × (Unit)) × (Unit)) × (Unit)) := spec_l01Gcd_t n (spec_l01Gcd_l1 n) a0 a1

noncomputable def spec_l01Ok_t (n : Nat) (a0 : (Int) × (Int)) : Option ((((Bool) × (Unit)) × (Unit)) × (Unit)) :=
  (spec_l00In n a0.2 1 1000000000).bind fun r0 =>
  cond r0.1.1.1
  ((spec_l00In n a0.1 (-1000000000) 1000000000).bind fun r1 =>
    cond r1.1.1.1
    ((spec_l01Abs n a0.1).bind fun r2 =>
      (spec_l01Gcd n r2.1.1.1 a0.2).bind fun r3 =>
      some (((((r3.1.1.1 == 1), ()), ()), ())))
    (some ((((false, ()), ()), ()))))
  (some ((((false, ()), ()), ())))

noncomputable def spec_l01Ok (n : Nat) (a0 : (Int) × (Int)) : Option ((((Bool) × (Unit)) × (Unit)) × (Unit)) := spec_l01Ok_t n a0

noncomputable def spec_l01Reduced_t (n : Nat) (a0 : Int) (a1 : Int) : Option (((((Int) × (Int)) × (Unit)) × (((Int) × (Unit)) × (Unit))) × (Unit)) :=
  (spec_l01Abs n a0).bind fun r0 =>
  (spec_l01Abs n a1).bind fun r1 =>
  (spec_l01Gcd n r0.1.1.1 r1.1.1.1).bind fun r2 =>
  cond ((r2.1.1.1 != 0))
  (cond ((r2.1.1.1 != 0))
    (cond (decide ((IntKind.wrap .i64 (Int.tdiv a1 r2.1.1.1)) < 0))
      ((spec_l01Ok n (((IntKind.wrap .i64 (0 - (IntKind.wrap .i64 (Int.tdiv a0 r2.1.1.1)))), (IntKind.wrap .i64 (0 - (IntKind.wrap .i64 (Int.tdiv a1 r2.1.1.1))))))).bind fun r3 =>
        cond (!r3.1.1.1)
        (some (((((0, 0), ()), ((3, ()), ())), ())))
        (some ((((((IntKind.wrap .i64 (0 - (IntKind.wrap .i64 (Int.tdiv a0 r2.1.1.1)))), (IntKind.wrap .i64 (0 - (IntKind.wrap .i64 (Int.tdiv a1 r2.1.1.1))))), ()), ((0, ()), ())), ()))))
      ((spec_l01Ok n (((IntKind.wrap .i64 (Int.tdiv a0 r2.1.1.1)), (IntKind.wrap .i64 (Int.tdiv a1 r2.1.1.1))))).bind fun r4 =>
        cond (!r4.1.1.1)
        (some (((((0, 0), ()), ((3, ()), ())), ())))
        (some ((((((IntKind.wrap .i64 (Int.tdiv a0 r2.1.1.1)), (IntKind.wrap .i64 (Int.tdiv a1 r2.1.1.1))), ()), ((0, ()), ())), ())))))
    (none))
  (none)

noncomputable def spec_l01Reduced (n : Nat) (a0 : Int) (a1 : Int) : Option (((((Int) × (Int)) × (Unit)) × (((Int) × (Unit)) × (Unit))) × (Unit)) := spec_l01Reduced_t n a0 a1

noncomputable def spec_l03Ok_t5 (n : Nat) (g5 : Int → (List (Int)) → Int → Int → Option ((((Bool) × (Unit)) × (Unit)) × (((List (Int)) × ((Int) × (Int))) × (Unit)))) (v4 : Int) (b0_0 : List (Int)) (b0_1 : Int) (b0_2 : Int) : Option ((((Bool) × (Unit)) × (Unit)) × (((List (Int)) × ((Int) × (Int))) × (Unit))) :=
  cond (decide (v4 < ((b0_0.length : Nat) : Int)))
  (cond ((decide (0 ≤ v4) && decide (v4 < ((b0_0.length : Nat) : Int))))
    ((spec_l00In n ((IntKind.wrap .i64 (b0_0.getD (Int.toNat v4) 0))) (-600) 600).bind fun r1 =>
      cond (!r1.1.1.1)
      (some ((((false, ()), ()), ((b0_0, (b0_1, b0_2)), ()))))
      (g5 ((IntKind.wrap .i64 (v4 + 1))) b0_0 b0_1 b0_2))
    (none))
  ((spec_l00In n b0_1 (-600) 600).bind fun r2 =>
    cond r2.1.1.1
    ((spec_l00In n b0_2 (-600) 600).bind fun r3 =>
      some ((((r3.1.1.1, ()), ()), ((b0_0, (b0_1, b0_2)), ()))))
    (some ((((false, ()), ()), ((b0_0, (b0_1, b0_2)), ())))))

noncomputable def spec_l03Ok_l5 (n : Nat) : Nat → Int → (List (Int)) → Int → Int → Option ((((Bool) × (Unit)) × (Unit)) × (((List (Int)) × ((Int) × (Int))) × (Unit)))
  | 0, _, _, _, _ => none
  | k + 1, v4, b0_0, b0_1, b0_2 => spec_l03Ok_t5 n (spec_l03Ok_l5 n k) v4 b0_0 b0_1 b0_2

noncomputable def spec_l03Ok_t (n : Nat) (h5 : Nat → Int → (List (Int)) → Int → Int → Option ((((Bool) × (Unit)) × (Unit)) × (((List (Int)) × ((Int) × (Int))) × (Unit)))) (b0 : (List (Int)) × ((Int) × (Int))) : Option ((((Bool) × (Unit)) × (Unit)) × (((List (Int)) × ((Int) × (Int))) × (Unit))) :=
  (spec_l00In n (((b0.1.length : Nat) : Int)) 1 72).bind fun r0 =>
  cond (!r0.1.1.1)
  (some ((((false, ()), ()), ((b0.1, (b0.2.1, b0.2.2)), ()))))
  (cond ((((b0.1.length : Nat) : Int) != 0))
    (cond (((Int.tmod 1296000 ((b0.1.length : Nat) : Int)) != 0))
      (some ((((false, ()), ()), ((b0.1, (b0.2.1, b0.2.2)), ()))))
      (h5 n 0 b0.1 b0.2.1 b0.2.2))
    (none))

noncomputable def spec_l03Ok (n : Nat) (b0 : (List (Int)) × ((Int) × (Int))) : Option ((((Bool) × (Unit)) × (Unit)) × (((List (Int)) × ((Int) × (Int))) × (Unit))) := spec_l03Ok_t n (spec_l03Ok_l5 n) b0

noncomputable def spec_l03Asked_t (n : Nat) (a1 : Int) (b0 : (List (Int)) × ((Int) × (Int))) : Option ((((Int) × (Unit)) × (Unit)) × (((List (Int)) × ((Int) × (Int))) × (Unit))) :=
  (spec_l03Ok n ((b0.1, (b0.2.1, b0.2.2)))).bind fun r0 =>
  cond (!r0.1.1.1)
  (some ((((1, ()), ()), ((r0.2.1.1, (r0.2.1.2.1, r0.2.1.2.2)), ()))))
  ((spec_l03Angle n a1).bind fun r1 =>
    cond (!r1.1.1.1)
    (some ((((1, ()), ()), ((r0.2.1.1, (r0.2.1.2.1, r0.2.1.2.2)), ()))))
    (some ((((0, ()), ()), ((r0.2.1.1, (r0.2.1.2.1, r0.2.1.2.2)), ())))))

noncomputable def spec_l03Asked (n : Nat) (a1 : Int) (b0 : (List (Int)) × ((Int) × (Int))) : Option ((((Int) × (Unit)) × (Unit)) × (((List (Int)) × ((Int) × (Int))) × (Unit))) := spec_l03Asked_t n a1 b0

noncomputable def spec_l03Fault_t (n : Nat) (a1 : Int) (b0 : (List (Int)) × ((Int) × (Int))) : Option ((((Int) × (Unit)) × (((Int) × (Unit)) × (Unit))) × (((List (Int)) × ((Int) × (Int))) × (Unit))) :=
  cond ((((b0.1.length : Nat) : Int) != 0))
  (cond (((IntKind.wrap .i64 (Int.tdiv 1296000 ((b0.1.length : Nat) : Int))) != 0))
    (cond ((decide (0 ≤ (IntKind.wrap .i64 (Int.tdiv a1 (IntKind.wrap .i64 (Int.tdiv 1296000 ((b0.1.length : Nat) : Int)))))) && decide ((IntKind.wrap .i64 (Int.tdiv a1 (IntKind.wrap .i64 (Int.tdiv 1296000 ((b0.1.length : Nat) : Int))))) < ((b0.1.length : Nat) : Int))))
      (cond ((((b0.1.length : Nat) : Int) != 0))
        (cond ((decide (0 ≤ (Int.tmod (IntKind.wrap .i64 ((IntKind.wrap .i64 (Int.tdiv a1 (IntKind.wrap .i64 (Int.tdiv 1296000 ((b0.1.length : Nat) : Int))))) + 1)) ((b0.1.length : Nat) : Int))) && decide ((Int.tmod (IntKind.wrap .i64 ((IntKind.wrap .i64 (Int.tdiv a1 (IntKind.wrap .i64 (Int.tdiv 1296000 ((b0.1.length : Nat) : Int))))) + 1)) ((b0.1.length : Nat) : Int)) < ((b0.1.length : Nat) : Int))))
          (some (((((IntKind.wrap .i64 ((IntKind.wrap .i64 ((IntKind.wrap .i64 (b0.1.getD (Int.toNat (IntKind.wrap .i64 (Int.tdiv a1 (IntKind.wrap .i64 (Int.tdiv 1296000 ((b0.1.length : Nat) : Int)))))) 0)) * (IntKind.wrap .i64 (Int.tdiv 1296000 ((b0.1.length : Nat) : Int))))) + (IntKind.wrap .i64 ((IntKind.wrap .i64 ((IntKind.wrap .i64 (b0.1.getD (Int.toNat (Int.tmod (IntKind.wrap .i64 ((IntKind.wrap .i64 (Int.tdiv a1 (IntKind.wrap .i64 (Int.tdiv 1296000 ((b0.1.length : Nat) : Int))))) + 1)) ((b0.1.length : Nat) : Int))) 0)) - (IntKind.wrap .i64 (b0.1.getD (Int.toNat (IntKind.wrap .i64 (Int.tdiv a1 (IntKind.wrap .i64 (Int.tdiv 1296000 ((b0.1.length : Nat) : Int)))))) 0)))) * (IntKind.wrap .i64 (a1 - (IntKind.wrap .i64 ((IntKind.wrap .i64 (Int.tdiv a1 (IntKind.wrap .i64 (Int.tdiv 1296000 ((b0.1.length : Nat) : Int))))) * (IntKind.wrap .i64 (Int.tdiv 1296000 ((b0.1.length : Nat) : Int))))))))))), ()), (((IntKind.wrap .i64 (Int.tdiv 1296000 ((b0.1.length : Nat) : Int))), ()), ())), ((b0.1, (b0.2.1, b0.2.2)), ()))))
          (none))
        (none))
      (none))
    (none))
  (none)

noncomputable def spec_l03Fault (n : Nat) (a1 : Int) (b0 : (List (Int)) × ((Int) × (Int))) : Option ((((Int) × (Unit)) × (((Int) × (Unit)) × (Unit))) × (((List (Int)) × ((Int) × (Int))) × (Unit))) := spec_l03Fault_t n a1 b0

noncomputable def spec_l03Swing_t (n : Nat) (a0 : Int) : Option ((((Int) × (Unit)) × (Unit)) × (Unit)) :=
  cond (decide (a0 ≤ 324000))
  (some ((((a0, ()), ()), ())))
  (cond (decide (a0 ≤ 972000))
    (some (((((IntKind.wrap .i64 (648000 - a0)), ()), ()), ())))
    (some (((((IntKind.wrap .i64 (a0 - 1296000)), ()), ()), ()))))

noncomputable def spec_l03Swing (n : Nat) (a0 : Int) : Option ((((Int) × (Unit)) × (Unit)) × (Unit)) := spec_l03Swing_t n a0

noncomputable def spec_l03Off_t (n : Nat) (a1 : Int) (b0 : (List (Int)) × ((Int) × (Int))) : Option ((((Int) × (Unit)) × (Unit)) × (((List (Int)) × ((Int) × (Int))) × (Unit))) :=
  (spec_l03Swing n a1).bind fun r0 =>
  (spec_l03Wrap n ((IntKind.wrap .i64 (a1 + 324000)))).bind fun r1 =>
  (spec_l03Swing n r1.1.1.1).bind fun r2 =>
  some (((((IntKind.wrap .i64 ((IntKind.wrap .i64 (b0.2.1 * r0.1.1.1)) + (IntKind.wrap .i64 (b0.2.2 * r2.1.1.1)))), ()), ()), ((b0.1, (b0.2.1, b0.2.2)), ())))

noncomputable def spec_l03Off (n : Nat) (a1 : Int) (b0 : (List (Int)) × ((Int) × (Int))) : Option ((((Int) × (Unit)) × (Unit)) × (((List (Int)) × ((Int) × (Int))) × (Unit))) := spec_l03Off_t n a1 b0

noncomputable def spec_l03Head_t (n : Nat) (a1 : Int) (a2 : Int) (b0 : (List (Int)) × ((Int) × (Int))) : Option ((((Int) × (Unit)) × (Unit)) × (((List (Int)) × ((Int) × (Int))) × (Unit))) :=
  (spec_l03Fault n a1 ((b0.1, (b0.2.1, b0.2.2)))).bind fun r0 =>
  (spec_l03Off n a1 ((r0.2.1.1, (r0.2.1.2.1, r0.2.1.2.2)))).bind fun r1 =>
  (spec_l01Down n ((IntKind.wrap .i64 ((IntKind.wrap .i64 (2 * (IntKind.wrap .i64 ((IntKind.wrap .i64 ((IntKind.wrap .i64 ((IntKind.wrap .i64 (a1 * r0.1.2.1.1)) * 324000)) + (IntKind.wrap .i64 (r0.1.1.1 * 324000)))) + (IntKind.wrap .i64 (r1.1.1.1 * r0.1.2.1.1)))))) + (IntKind.wrap .i64 ((IntKind.wrap .i64 (r0.1.2.1.1 * 324000)) * a2))))) ((IntKind.wrap .i64 (2 * (IntKind.wrap .i64 ((IntKind.wrap .i64 (r0.1.2.1.1 * 324000)) * a2)))))).bind fun r2 =>
  (spec_l03Wrap n ((IntKind.wrap .i64 (a2 * r2.1.1.1)))).bind fun r3 =>
  some ((((r3.1.1.1, ()), ()), ((r1.2.1.1, (r1.2.1.2.1, r1.2.1.2.2)), ())))

noncomputable def spec_l03Head (n : Nat) (a1 : Int) (a2 : Int) (b0 : (List (Int)) × ((Int) × (Int))) : Option ((((Int) × (Unit)) × (Unit)) × (((List (Int)) × ((Int) × (Int))) × (Unit))) := spec_l03Head_t n a1 a2 b0

noncomputable def spec_l03Least_t (n : Nat) (a1 : Int) (a2 : Int) (b0 : (List (Int)) × ((Int) × (Int))) : Option ((((Int) × (Unit)) × (Unit)) × (((List (Int)) × ((Int) × (Int))) × (Unit))) :=
  (spec_l03Asked n a1 ((b0.1, (b0.2.1, b0.2.2)))).bind fun r0 =>
  cond ((r0.1.1.1 == 0))
  ((spec_l00In n a2 1 3600).bind fun r1 =>
    cond (!r1.1.1.1)
    (some ((((2, ()), ()), ((r0.2.1.1, (r0.2.1.2.1, r0.2.1.2.2)), ()))))
    (some ((((r0.1.1.1, ()), ()), ((r0.2.1.1, (r0.2.1.2.1, r0.2.1.2.2)), ())))))
  (some ((((r0.1.1.1, ()), ()), ((r0.2.1.1, (r0.2.1.2.1, r0.2.1.2.2)), ()))))

noncomputable def spec_l03Least (n : Nat) (a1 : Int) (a2 : Int) (b0 : (List (Int)) × ((Int) × (Int))) : Option ((((Int) × (Unit)) × (Unit)) × (((List (Int)) × ((Int) × (Int))) × (Unit))) := spec_l03Least_t n a1 a2 b0

end Go.Abs
