import Derived.Test.YtipjecagbndhbaaLib
namespace Go.Abs
set_option linter.unusedVariables false

noncomputable def laws_a2Long_t (n : Nat) (a0 : List (Int)) (a1 : List (Int)) : Option ((((Bool) × (Unit)) × (Unit)) × (Unit)) :=
  cond (decide (((a0.length : Nat) : Int) > 3000))
  (some ((((true, ()), ()), ())))
  (some ((((decide (((a1.length : Nat) : Int) > 3000), ()), ()), ())))

noncomputable def laws_a2Long (n : Nat) (a0 : List (Int)) (a1 : List (Int)) : Option ((((Bool) × (Unit)) × (Unit)) × (Unit)) := laws_a2Long_t n a0 a1

noncomputable def spec_l00From_t (n : Nat) (a0 : List (Int)) : Option (((((List (Int)) × ((Int) × (Int))) × (Unit)) × (Unit)) × (Unit)) :=
  some (((((a0, (0, 0)), ()), ()), ()))

noncomputable def spec_l00From (n : Nat) (a0 : List (Int)) : Option (((((List (Int)) × ((Int) × (Int))) × (Unit)) × (Unit)) × (Unit)) := spec_l00From_t n a0

noncomputable def spec_l00Src_next_t (n : Nat) (b0 : (List (Int)) × ((Int) × (Int))) : Option ((((Int) × (Unit)) × (Unit)) × (((List (Int)) × ((Int) × (Int))) × (Unit))) :=
  cond (decide (b0.2.1 < ((b0.1.length : Nat) : Int)))
  (cond ((decide (0 ≤ b0.2.1) && decide (b0.2.1 < ((b0.1.length : Nat) : Int))))
    (cond (decide ((IntKind.wrap .i64 (b0.2.1 + 1)) ≤ ((b0.1.length : Nat) : Int)))
      (some (((((IntKind.wrap .i64 (b0.1.getD (Int.toNat b0.2.1) 0)), ()), ()), ((b0.1, ((IntKind.wrap .i64 (b0.2.1 + 1)), (IntKind.wrap .u64 ((IntKind.wrap .u64 ((IntKind.wrap .u64 (b0.2.2 * 6364136223846793005)) + (IntKind.wrap .u64 (IntKind.wrap .i64 (b0.1.getD (Int.toNat b0.2.1) 0))))) + 1442695040888963407)))), ()))))
      (some (((((IntKind.wrap .i64 (andInt .u64 (shrInt .u64 (IntKind.wrap .u64 ((IntKind.wrap .u64 ((IntKind.wrap .u64 (b0.2.2 * 6364136223846793005)) + (IntKind.wrap .u64 (IntKind.wrap .i64 (b0.1.getD (Int.toNat b0.2.1) 0))))) + 1442695040888963407)) 40) 255)), ()), ()), ((b0.1, ((IntKind.wrap .i64 (b0.2.1 + 1)), (IntKind.wrap .u64 ((IntKind.wrap .u64 ((IntKind.wrap .u64 (b0.2.2 * 6364136223846793005)) + (IntKind.wrap .u64 (IntKind.wrap .i64 (b0.1.getD (Int.toNat b0.2.1) 0))))) + 1442695040888963407)))), ())))))
    (none))
  (cond (decide ((IntKind.wrap .i64 (b0.2.1 + 1)) ≤ ((b0.1.length : Nat) : Int)))
    (some ((((0, ()), ()), ((b0.1, ((IntKind.wrap .i64 (b0.2.1 + 1)), (IntKind.wrap .u64 ((IntKind.wrap .u64 ((IntKind.wrap .u64 (b0.2.2 * 6364136223846793005)) + (IntKind.wrap .u64 0))) + 1442695040888963407)))), ()))))
    (some (((((IntKind.wrap .i64 (andInt .u64 (shrInt .u64 (IntKind.wrap .u64 ((IntKind.wrap .u64 ((IntKind.wrap .u64 (b0.2.2 * 6364136223846793005)) + (IntKind.wrap .u64 0))) + 1442695040888963407)) 40) 255)), ()), ()), ((b0.1, ((IntKind.wrap .i64 (b0.2.1 + 1)), (IntKind.wrap .u64 ((IntKind.wrap .u64 ((IntKind.wrap .u64 (b0.2.2 * 6364136223846793005)) + (IntKind.wrap .u64 0))) + 1442695040888963407)))), ())))))

noncomputable def spec_l00Src_next (n : Nat) (b0 : (List (Int)) × ((Int) × (Int))) : Option ((((Int) × (Unit)) × (Unit)) × (((List (Int)) × ((Int) × (Int))) × (Unit))) := spec_l00Src_next_t n b0

noncomputable def spec_l00Src_pick_t (n : Nat) (a1 : Int) (b0 : (List (Int)) × ((Int) × (Int))) : Option ((((Int) × (Unit)) × (Unit)) × (((List (Int)) × ((Int) × (Int))) × (Unit))) :=
  cond (decide (a1 ≤ 1))
  (some ((((0, ()), ()), ((b0.1, (b0.2.1, b0.2.2)), ()))))
  ((spec_l00Src_next n ((b0.1, (b0.2.1, b0.2.2)))).bind fun r0 =>
    cond (decide (a1 > 200))
    ((spec_l00Src_next n ((r0.2.1.1, (r0.2.1.2.1, r0.2.1.2.2)))).bind fun r1 =>
      cond ((a1 != 0))
      (some (((((Int.tmod (IntKind.wrap .i64 ((IntKind.wrap .i64 (r0.1.1.1 * 256)) + r1.1.1.1)) a1), ()), ()), ((r1.2.1.1, (r1.2.1.2.1, r1.2.1.2.2)), ()))))
      (none))
    (cond ((a1 != 0))
      (some (((((Int.tmod r0.1.1.1 a1), ()), ()), ((r0.2.1.1, (r0.2.1.2.1, r0.2.1.2.2)), ()))))
      (none)))

noncomputable def spec_l00Src_pick (n : Nat) (a1 : Int) (b0 : (List (Int)) × ((Int) × (Int))) : Option ((((Int) × (Unit)) × (Unit)) × (((List (Int)) × ((Int) × (Int))) × (Unit))) := spec_l00Src_pick_t n a1 b0

noncomputable def spec_l00Src_among_t (n : Nat) (b0 : (List (Int)) × ((Int) × (Int))) (b1 : List (Int)) : Option ((((Int) × (Unit)) × (Unit)) × (((List (Int)) × ((Int) × (Int))) × ((List (Int)) × (Unit)))) :=
  (spec_l00Src_pick n (((b1.length : Nat) : Int)) ((b0.1, (b0.2.1, b0.2.2)))).bind fun r0 =>
  cond ((decide (0 ≤ r0.1.1.1) && decide (r0.1.1.1 < ((b1.length : Nat) : Int))))
  (some (((((b1.getD (Int.toNat r0.1.1.1) 0), ()), ()), ((r0.2.1.1, (r0.2.1.2.1, r0.2.1.2.2)), (b1, ())))))
  (none)

noncomputable def spec_l00Src_among (n : Nat) (b0 : (List (Int)) × ((Int) × (Int))) (b1 : List (Int)) : Option ((((Int) × (Unit)) × (Unit)) × (((List (Int)) × ((Int) × (Int))) × ((List (Int)) × (Unit)))) := spec_l00Src_among_t n b0 b1

noncomputable def spec_l00Src_one_t (n : Nat) (a1 : Int) (b0 : (List (Int)) × ((Int) × (Int))) : Option ((((Bool) × (Unit)) × (Unit)) × (((List (Int)) × ((Int) × (Int))) × (Unit))) :=
  (spec_l00Src_pick n a1 ((b0.1, (b0.2.1, b0.2.2)))).bind fun r0 =>
  some (((((r0.1.1.1 == 0), ()), ()), ((r0.2.1.1, (r0.2.1.2.1, r0.2.1.2.2)), ())))

noncomputable def spec_l00Src_one (n : Nat) (a1 : Int) (b0 : (List (Int)) × ((Int) × (Int))) : Option ((((Bool) × (Unit)) × (Unit)) × (((List (Int)) × ((Int) × (Int))) × (Unit))) := spec_l00Src_one_t n a1 b0

/- join 8 at { env := [(3, .one (.ref 1 0 0 0 0 0)), (0, .one (.ref 0 0 0 0 0 0)), (2, .one (.ref 2 0 0 0 0 0)), (4, .one (.sc (.int .i64 v4))), (5, .one (.sc (.int .i16 v5)))], bx := [(0, .var 226 [.list true (.int .u8) b0_0, .sc (.int .i64 b0_1), .sc (.int .u64 b0_2)]), (1, .var 62 [.slice 3 0 none, .sc (.int .i64 b1_1), .sc (.int .i64 b1_2)]), (2, .var 62 [.sc (.slice none 0 0), .sc (.int .i64 b2_1), .sc (.int .i64 b2_2)]), (3, .row 0 (.int .i16) b3)], nx := 4 } -/
noncomputable def spec_l03Drawn_t8 (n : Nat) (g3 : Int → (List (Int)) → Int → Int → Int → Int → Int → Int → (List (Int)) → Option (((((List (Int)) × ((Int) × (Int))) × (Unit)) × (Unit)) × (((List (Int)) × ((Int) × (Int))) × (Unit)))) (v4 : Int) (v5 : Int) (b0_0 : List (Int)) (b0_1 : Int) (b0_2 : Int) (b1_1 : Int) (b1_2 : Int) (b2_1 : Int) (b2_2 : Int) (b3 : List (Int)) : Option (((((List (Int)) × ((Int) × (Int))) × (Unit)) × (Unit)) × (((List (Int)) × ((Int) × (Int))) × (Unit))) :=
  cond (decide (((b3.length + (v5 :: []).length) * 3) ≤ 70368744177664))
  (g3 ((IntKind.wrap .i64 (v4 - 1))) b0_0 b0_1 b0_2 b1_1 b1_2 b2_1 b2_2 ((b3 ++ (v5 :: []))))
  (none)

noncomputable def spec_l03Drawn_j8 (n : Nat) (g3 : Int → (List (Int)) → Int → Int → Int → Int → Int → Int → (List (Int)) → Option (((((List (Int)) × ((Int) × (Int))) × (Unit)) × (Unit)) × (((List (Int)) × ((Int) × (Int))) × (Unit)))) (v4 : Int) (v5 : Int) (b0_0 : List (Int)) (b0_1 : Int) (b0_2 : Int) (b1_1 : Int) (b1_2 : Int) (b2_1 : Int) (b2_2 : Int) (b3 : List (Int)) : Option (((((List (Int)) × ((Int) × (Int))) × (Unit)) × (Unit)) × (((List (Int)) × ((Int) × (Int))) × (Unit))) := spec_l03Drawn_t8 n g3 v4 v5 b0_0 b0_1 b0_2 b1_1 b1_2 b2_1 b2_2 b3

/- join 12 at { env := [(2, .one (.ref 1 0 0 0 0 0)), (3, .one (.ref 2 0 0 0 0 0))], bx := [(0, .var 226 [.list true (.int .u8) b0_0, .sc (.int .i64 b0_1), .sc (.int .u64 b0_2)]), (1, .var 62 [.sc (.slice none 0 0), .sc (.int .i64 b1_1), .sc (.int .i64 b1_2)]), (2, .var 62 [.slice 3 0 none, .sc (.int .i64 b2_1), .sc (.int .i64 b2_2)]), (3, .row 0 (.int .i16) b3)], nx := 4 } -/
noncomputable def spec_l03Drawn_t12 (n : Nat) (b0_0 : List (Int)) (b0_1 : Int) (b0_2 : Int) (b1_1 : Int) (b1_2 : Int) (b2_1 : Int) (b2_2 : Int) (b3 : List (Int)) : Option (((((List (Int)) × ((Int) × (Int))) × (Unit)) × (Unit)) × (((List (Int)) × ((Int) × (Int))) × (Unit))) :=
  some (((((b3, (b2_1, b2_2)), ()), ()), ((b0_0, (b0_1, b0_2)), ())))

noncomputable def spec_l03Drawn_j12 (n : Nat) (b0_0 : List (Int)) (b0_1 : Int) (b0_2 : Int) (b1_1 : Int) (b1_2 : Int) (b2_1 : Int) (b2_2 : Int) (b3 : List (Int)) : Option (((((List (Int)) × ((Int) × (Int))) × (Unit)) × (Unit)) × (((List (Int)) × ((Int) × (Int))) × (Unit))) := spec_l03Drawn_t12 n b0_0 b0_1 b0_2 b1_1 b1_2 b2_1 b2_2 b3

noncomputable def spec_l03Drawn_t3 (n : Nat) (h8 : Int → Int → (List (Int)) → Int → Int → Int → Int → Int → Int → (List (Int)) → Option (((((List (Int)) × ((Int) × (Int))) × (Unit)) × (Unit)) × (((List (Int)) × ((Int) × (Int))) × (Unit)))) (h12 : (List (Int)) → Int → Int → Int → Int → Int → Int → (List (Int)) → Option (((((List (Int)) × ((Int) × (Int))) × (Unit)) × (Unit)) × (((List (Int)) × ((Int) × (Int))) × (Unit)))) (g3 : Int → (List (Int)) → Int → Int → Int → Int → Int → Int → (List (Int)) → Option (((((List (Int)) × ((Int) × (Int))) × (Unit)) × (Unit)) × (((List (Int)) × ((Int) × (Int))) × (Unit)))) (v4 : Int) (b0_0 : List (Int)) (b0_1 : Int) (b0_2 : Int) (b1_1 : Int) (b1_2 : Int) (b2_1 : Int) (b2_2 : Int) (b3 : List (Int)) : Option (((((List (Int)) × ((Int) × (Int))) × (Unit)) × (Unit)) × (((List (Int)) × ((Int) × (Int))) × (Unit))) :=
  cond (decide (v4 > 0))
  ((spec_l00Src_one n 4 ((b0_0, (b0_1, b0_2)))).bind fun r1 =>
    cond (!r1.1.1.1)
    ((spec_l00Src_pick n 121 ((r1.2.1.1, (r1.2.1.2.1, r1.2.1.2.2)))).bind fun r2 =>
      h8 v4 ((IntKind.wrap .i16 (IntKind.wrap .i64 (r2.1.1.1 - 60)))) r2.2.1.1 r2.2.1.2.1 r2.2.1.2.2 b1_1 b1_2 b2_1 b2_2 b3)
    (h8 v4 0 r1.2.1.1 r1.2.1.2.1 r1.2.1.2.2 b1_1 b1_2 b2_1 b2_2 b3))
  ((spec_l00Src_one n 2 ((b0_0, (b0_1, b0_2)))).bind fun r3 =>
    cond r3.1.1.1
    ((spec_l00Src_pick n 121 ((r3.2.1.1, (r3.2.1.2.1, r3.2.1.2.2)))).bind fun r4 =>
      (spec_l00Src_pick n 121 ((r4.2.1.1, (r4.2.1.2.1, r4.2.1.2.2)))).bind fun r5 =>
      h12 r5.2.1.1 r5.2.1.2.1 r5.2.1.2.2 b2_1 b2_2 ((IntKind.wrap .i64 (r4.1.1.1 - 60))) ((IntKind.wrap .i64 (r5.1.1.1 - 60))) b3)
    (h12 r3.2.1.1 r3.2.1.2.1 r3.2.1.2.2 b2_1 b2_2 b1_1 b1_2 b3))

noncomputable def spec_l03Drawn_l3 (n : Nat) : Nat → Int → (List (Int)) → Int → Int → Int → Int → Int → Int → (List (Int)) → Option (((((List (Int)) × ((Int) × (Int))) × (Unit)) × (Unit)) × (((List (Int)) × ((Int) × (Int))) × (Unit)))
  | 0, _, _, _, _, _, _, _, _, _ => none
  | k + 1, v4, b0_0, b0_1, b0_2, b1_1, b1_2, b2_1, b2_2, b3 => spec_l03Drawn_t3 n (spec_l03Drawn_j8 n (spec_l03Drawn_l3 n k)) (spec_l03Drawn_j12 n) (spec_l03Drawn_l3 n k) v4 b0_0 b0_1 b0_2 b1_1 b1_2 b2_1 b2_2 b3

noncomputable def spec_l03Drawn_t (n : Nat) (h3 : Nat → Int → (List (Int)) → Int → Int → Int → Int → Int → Int → (List (Int)) → Option (((((List (Int)) × ((Int) × (Int))) × (Unit)) × (Unit)) × (((List (Int)) × ((Int) × (Int))) × (Unit)))) (b0 : (List (Int)) × ((Int) × (Int))) : Option (((((List (Int)) × ((Int) × (Int))) × (Unit)) × (Unit)) × (((List (Int)) × ((Int) × (Int))) × (Unit))) :=
  (spec_l00Src_among n ((b0.1, (b0.2.1, b0.2.2))) ((1 :: (2 :: (4 :: (6 :: (8 :: (12 :: (36 :: []))))))))).bind fun r0 =>
  h3 n r0.1.1.1 r0.2.1.1 r0.2.1.2.1 r0.2.1.2.2 0 0 0 0 []

noncomputable def spec_l03Drawn (n : Nat) (b0 : (List (Int)) × ((Int) × (Int))) : Option (((((List (Int)) × ((Int) × (Int))) × (Unit)) × (Unit)) × (((List (Int)) × ((Int) × (Int))) × (Unit))) := spec_l03Drawn_t n (spec_l03Drawn_l3 n) b0

noncomputable def spec_A2Disk_t (n : Nat) (a0 : List (Int)) : Option (((((List (Int)) × ((Int) × (Int))) × (Unit)) × (Unit)) × (Unit)) :=
  (spec_l00From n a0).bind fun r0 =>
  (spec_l03Drawn n ((r0.1.1.1.1, (r0.1.1.1.2.1, r0.1.1.1.2.2)))).bind fun r1 =>
  some (((((r1.1.1.1.1, (r1.1.1.1.2.1, r1.1.1.1.2.2)), ()), ()), ()))

noncomputable def spec_A2Disk (n : Nat) (a0 : List (Int)) : Option (((((List (Int)) × ((Int) × (Int))) × (Unit)) × (Unit)) × (Unit)) := spec_A2Disk_t n a0

noncomputable def impl_within_t (n : Nat) (a0 : Int) (a1 : Int) (a2 : Int) : Option ((((Bool) × (Unit)) × (Unit)) × (Unit)) :=
  cond (decide (a1 ≤ a0))
  (some ((((decide (a0 ≤ a2), ()), ()), ())))
  (some ((((false, ()), ()), ())))

noncomputable def impl_within (n : Nat) (a0 : Int) (a1 : Int) (a2 : Int) : Option ((((Bool) × (Unit)) × (Unit)) × (Unit)) := impl_within_t n a0 a1 a2

noncomputable def impl_ValidDisk_1_t (n : Nat) (a0 : Int) : Option ((((Bool) × (Unit)) × (Unit)) × (Unit)) :=
  (impl_within n ((IntKind.wrap .i64 a0)) (-600) 600).bind fun r0 =>
  some (((((!r0.1.1.1), ()), ()), ()))

noncomputable def impl_ValidDisk_1 (n : Nat) (a0 : Int) : Option ((((Bool) × (Unit)) × (Unit)) × (Unit)) := impl_ValidDisk_1_t n a0

noncomputable def slices_IndexFunc_int16_int16_at_impl_ValidDisk_1_t2 (n : Nat) (g2 : Int → (List (Int)) → Int → Option ((((Int) × (Unit)) × (Unit)) × (Unit))) (v8 : Int) (v0 : List (Int)) (v7 : Int) : Option ((((Int) × (Unit)) × (Unit)) × (Unit)) :=
  cond (decide (v8 < v7))
  (cond ((decide (0 ≤ v8) && decide (v8 < ((v0.length : Nat) : Int))))
    ((impl_ValidDisk_1 n ((v0.getD (Int.toNat v8) 0))).bind fun r0 =>
      cond r0.1.1.1
      (some ((((v8, ()), ()), ())))
      (g2 ((IntKind.wrap .i64 (v8 + 1))) v0 v7))
    (none))
  (some (((((-1), ()), ()), ())))

noncomputable def slices_IndexFunc_int16_int16_at_impl_ValidDisk_1_l2 (n : Nat) : Nat → Int → (List (Int)) → Int → Option ((((Int) × (Unit)) × (Unit)) × (Unit))
  | 0, _, _, _ => none
  | k + 1, v8, v0, v7 => slices_IndexFunc_int16_int16_at_impl_ValidDisk_1_t2 n (slices_IndexFunc_int16_int16_at_impl_ValidDisk_1_l2 n k) v8 v0 v7

noncomputable def slices_IndexFunc_int16_int16_at_impl_ValidDisk_1_t (n : Nat) (h2 : Nat → Int → (List (Int)) → Int → Option ((((Int) × (Unit)) × (Unit)) × (Unit))) (a0 : List (Int)) : Option ((((Int) × (Unit)) × (Unit)) × (Unit)) :=
  h2 n 0 a0 (((a0.length : Nat) : Int))

noncomputable def slices_IndexFunc_int16_int16_at_impl_ValidDisk_1 (n : Nat) (a0 : List (Int)) : Option ((((Int) × (Unit)) × (Unit)) × (Unit)) := slices_IndexFunc_int16_int16_at_impl_ValidDisk_1_t n (slices_IndexFunc_int16_int16_at_impl_ValidDisk_1_l2 n) a0

noncomputable def slices_ContainsFunc_int16_int16_at_impl_ValidDisk_1_t (n : Nat) (a0 : List (Int)) : Option ((((Bool) × (Unit)) × (Unit)) × (Unit)) :=
  (slices_IndexFunc_int16_int16_at_impl_ValidDisk_1 n a0).bind fun r0 =>
  some ((((decide (r0.1.1.1 ≥ 0), ()), ()), ()))

noncomputable def slices_ContainsFunc_int16_int16_at_impl_ValidDisk_1 (n : Nat) (a0 : List (Int)) : Option ((((Bool) × (Unit)) × (Unit)) × (Unit)) := slices_ContainsFunc_int16_int16_at_impl_ValidDisk_1_t n a0

noncomputable def impl_ValidDisk_t (n : Nat) (a0 : (List (Int)) × ((Int) × (Int))) : Option ((((Bool) × (Unit)) × (Unit)) × (Unit)) :=
  (impl_within n (((a0.1.length : Nat) : Int)) 1 72).bind fun r0 =>
  cond r0.1.1.1
  (cond ((((a0.1.length : Nat) : Int) != 0))
    (cond (((Int.tmod 1296000 ((a0.1.length : Nat) : Int)) == 0))
      ((impl_within n a0.2.1 (-600) 600).bind fun r1 =>
        cond r1.1.1.1
        ((impl_within n a0.2.2 (-600) 600).bind fun r2 =>
          cond r2.1.1.1
          ((slices_ContainsFunc_int16_int16_at_impl_ValidDisk_1 n a0.1).bind fun r3 =>
            some (((((!r3.1.1.1), ()), ()), ())))
          (some ((((false, ()), ()), ()))))
        (some ((((false, ()), ()), ()))))
      (some ((((false, ()), ()), ()))))
    (none))
  (some ((((false, ()), ()), ())))

noncomputable def impl_ValidDisk (n : Nat) (a0 : (List (Int)) × ((Int) × (Int))) : Option ((((Bool) × (Unit)) × (Unit)) × (Unit)) := impl_ValidDisk_t n a0

noncomputable def impl_isAngle_t (n : Nat) (a0 : Int) : Option ((((Bool) × (Unit)) × (Unit)) × (Unit)) :=
  (impl_within n a0 0 1295999).bind fun r0 =>
  some ((((r0.1.1.1, ()), ()), ()))

noncomputable def impl_isAngle (n : Nat) (a0 : Int) : Option ((((Bool) × (Unit)) × (Unit)) × (Unit)) := impl_isAngle_t n a0

noncomputable def impl_headCode_1_t (n : Nat) (a0 : Int) : Option ((((Bool) × (Unit)) × (Unit)) × (Unit)) :=
  (impl_isAngle n a0).bind fun r0 =>
  some (((((!r0.1.1.1), ()), ()), ()))

noncomputable def impl_headCode_1 (n : Nat) (a0 : Int) : Option ((((Bool) × (Unit)) × (Unit)) × (Unit)) := impl_headCode_1_t n a0

noncomputable def slices_IndexFunc_int64_int64_at_impl_headCode_1_t2 (n : Nat) (g2 : Int → (List (Int)) → Int → Option ((((Int) × (Unit)) × (Unit)) × (Unit))) (v8 : Int) (v0 : List (Int)) (v7 : Int) : Option ((((Int) × (Unit)) × (Unit)) × (Unit)) :=
  cond (decide (v8 < v7))
  (cond ((decide (0 ≤ v8) && decide (v8 < ((v0.length : Nat) : Int))))
    ((impl_headCode_1 n ((v0.getD (Int.toNat v8) 0))).bind fun r0 =>
      cond r0.1.1.1
      (some ((((v8, ()), ()), ())))
      (g2 ((IntKind.wrap .i64 (v8 + 1))) v0 v7))
    (none))
  (some (((((-1), ()), ()), ())))

noncomputable def slices_IndexFunc_int64_int64_at_impl_headCode_1_l2 (n : Nat) : Nat → Int → (List (Int)) → Int → Option ((((Int) × (Unit)) × (Unit)) × (Unit))
  | 0, _, _, _ => none
  | k + 1, v8, v0, v7 => slices_IndexFunc_int64_int64_at_impl_headCode_1_t2 n (slices_IndexFunc_int64_int64_at_impl_headCode_1_l2 n k) v8 v0 v7

noncomputable def slices_IndexFunc_int64_int64_at_impl_headCode_1_t (n : Nat) (h2 : Nat → Int → (List (Int)) → Int → Option ((((Int) × (Unit)) × (Unit)) × (Unit))) (a0 : List (Int)) : Option ((((Int) × (Unit)) × (Unit)) × (Unit)) :=
  h2 n 0 a0 (((a0.length : Nat) : Int))

noncomputable def slices_IndexFunc_int64_int64_at_impl_headCode_1 (n : Nat) (a0 : List (Int)) : Option ((((Int) × (Unit)) × (Unit)) × (Unit)) := slices_IndexFunc_int64_int64_at_impl_headCode_1_t n (slices_IndexFunc_int64_int64_at_impl_headCode_1_l2 n) a0

noncomputable def slices_ContainsFunc_int64_int64_at_impl_headCode_1_t (n : Nat) (a0 : List (Int)) : Option ((((Bool) × (Unit)) × (Unit)) × (Unit)) :=
  (slices_IndexFunc_int64_int64_at_impl_headCode_1 n a0).bind fun r0 =>
  some ((((decide (r0.1.1.1 ≥ 0), ()), ()), ()))

noncomputable def slices_ContainsFunc_int64_int64_at_impl_headCode_1 (n : Nat) (a0 : List (Int)) : Option ((((Bool) × (Unit)) × (Unit)) × (Unit)) := slices_ContainsFunc_int64_int64_at_impl_headCode_1_t n a0

noncomputable def impl_headCode_t (n : Nat) (a0 : (List (Int)) × ((Int) × (Int))) (a1 : Int) (a2 : List (Int)) : Option ((((Int) × (Unit)) × (Unit)) × (Unit)) :=
  (impl_ValidDisk n ((a0.1, (a0.2.1, a0.2.2)))).bind fun r0 =>
  cond (!r0.1.1.1)
  (some ((((1, ()), ()), ())))
  ((slices_ContainsFunc_int64_int64_at_impl_headCode_1 n a2).bind fun r1 =>
    cond r1.1.1.1
    (some ((((1, ()), ()), ())))
    ((impl_within n a1 1 3600).bind fun r2 =>
      cond (!r2.1.1.1)
      (some ((((2, ()), ()), ())))
      (some ((((0, ()), ()), ())))))

noncomputable def impl_headCode (n : Nat) (a0 : (List (Int)) × ((Int) × (Int))) (a1 : Int) (a2 : List (Int)) : Option ((((Int) × (Unit)) × (Unit)) × (Unit)) := impl_headCode_t n a0 a1 a2

noncomputable def impl_faultAt_t (n : Nat) (a0 : (List (Int)) × ((Int) × (Int))) (a1 : Int) : Option ((((Int) × (Unit)) × (((Int) × (Unit)) × (Unit))) × (Unit)) :=
  cond ((((a0.1.length : Nat) : Int) != 0))
  (cond (((IntKind.wrap .i64 (Int.tdiv 1296000 ((a0.1.length : Nat) : Int))) != 0))
    (cond ((decide (0 ≤ (IntKind.wrap .i64 (Int.tdiv a1 (IntKind.wrap .i64 (Int.tdiv 1296000 ((a0.1.length : Nat) : Int)))))) && decide ((IntKind.wrap .i64 (Int.tdiv a1 (IntKind.wrap .i64 (Int.tdiv 1296000 ((a0.1.length : Nat) : Int))))) < ((a0.1.length : Nat) : Int))))
      (cond ((((a0.1.length : Nat) : Int) != 0))
        (cond ((decide (0 ≤ (Int.tmod (IntKind.wrap .i64 ((IntKind.wrap .i64 (Int.tdiv a1 (IntKind.wrap .i64 (Int.tdiv 1296000 ((a0.1.length : Nat) : Int))))) + 1)) ((a0.1.length : Nat) : Int))) && decide ((Int.tmod (IntKind.wrap .i64 ((IntKind.wrap .i64 (Int.tdiv a1 (IntKind.wrap .i64 (Int.tdiv 1296000 ((a0.1.length : Nat) : Int))))) + 1)) ((a0.1.length : Nat) : Int)) < ((a0.1.length : Nat) : Int))))
          (cond (((IntKind.wrap .i64 (Int.tdiv 1296000 ((a0.1.length : Nat) : Int))) != 0))
            (some (((((IntKind.wrap .i64 ((IntKind.wrap .i64 ((IntKind.wrap .i64 (a0.1.getD (Int.toNat (IntKind.wrap .i64 (Int.tdiv a1 (IntKind.wrap .i64 (Int.tdiv 1296000 ((a0.1.length : Nat) : Int)))))) 0)) * (IntKind.wrap .i64 (Int.tdiv 1296000 ((a0.1.length : Nat) : Int))))) + (IntKind.wrap .i64 ((IntKind.wrap .i64 ((IntKind.wrap .i64 (a0.1.getD (Int.toNat (Int.tmod (IntKind.wrap .i64 ((IntKind.wrap .i64 (Int.tdiv a1 (IntKind.wrap .i64 (Int.tdiv 1296000 ((a0.1.length : Nat) : Int))))) + 1)) ((a0.1.length : Nat) : Int))) 0)) - (IntKind.wrap .i64 (a0.1.getD (Int.toNat (IntKind.wrap .i64 (Int.tdiv a1 (IntKind.wrap .i64 (Int.tdiv 1296000 ((a0.1.length : Nat) : Int)))))) 0)))) * (Int.tmod a1 (IntKind.wrap .i64 (Int.tdiv 1296000 ((a0.1.length : Nat) : Int)))))))), ()), (((IntKind.wrap .i64 (Int.tdiv 1296000 ((a0.1.length : Nat) : Int))), ()), ())), ())))
            (none))
          (none))
        (none))
      (none))
    (none))
  (none)

noncomputable def impl_faultAt (n : Nat) (a0 : (List (Int)) × ((Int) × (Int))) (a1 : Int) : Option ((((Int) × (Unit)) × (((Int) × (Unit)) × (Unit))) × (Unit)) := impl_faultAt_t n a0 a1

noncomputable def impl_swing_t (n : Nat) (a0 : Int) : Option ((((Int) × (Unit)) × (Unit)) × (Unit)) :=
  cond (decide (a0 ≤ 324000))
  (some ((((a0, ()), ()), ())))
  (cond (decide (a0 ≤ 972000))
    (some (((((IntKind.wrap .i64 (648000 - a0)), ()), ()), ())))
    (some (((((IntKind.wrap .i64 (a0 - 1296000)), ()), ()), ()))))

noncomputable def impl_swing (n : Nat) (a0 : Int) : Option ((((Int) × (Unit)) × (Unit)) × (Unit)) := impl_swing_t n a0

noncomputable def impl_wrap_t (n : Nat) (a0 : Int) : Option ((((Int) × (Unit)) × (Unit)) × (Unit)) :=
  some (((((Int.tmod (IntKind.wrap .i64 ((Int.tmod a0 1296000) + 1296000)) 1296000), ()), ()), ()))

noncomputable def impl_wrap (n : Nat) (a0 : Int) : Option ((((Int) × (Unit)) × (Unit)) × (Unit)) := impl_wrap_t n a0

noncomputable def impl_swingAt_t (n : Nat) (a0 : (List (Int)) × ((Int) × (Int))) (a1 : Int) : Option ((((Int) × (Unit)) × (((Int) × (Unit)) × (Unit))) × (Unit)) :=
  (impl_swing n a1).bind fun r0 =>
  (impl_wrap n ((IntKind.wrap .i64 (a1 + 324000)))).bind fun r1 =>
  (impl_swing n r1.1.1.1).bind fun r2 =>
  some (((((IntKind.wrap .i64 ((IntKind.wrap .i64 (a0.2.1 * r0.1.1.1)) + (IntKind.wrap .i64 (a0.2.2 * r2.1.1.1)))), ()), ((324000, ()), ())), ()))

noncomputable def impl_swingAt (n : Nat) (a0 : (List (Int)) × ((Int) × (Int))) (a1 : Int) : Option ((((Int) × (Unit)) × (((Int) × (Unit)) × (Unit))) × (Unit)) := impl_swingAt_t n a0 a1

noncomputable def impl_floorDiv_t (n : Nat) (a0 : Int) (a1 : Int) : Option ((((Int) × (Unit)) × (Unit)) × (Unit)) :=
  cond ((a1 != 0))
  (cond ((a1 != 0))
    (cond (((Int.tmod a0 a1) != 0))
      (cond ((!(decide (a0 < 0) == decide (a1 < 0))))
        (some (((((IntKind.wrap .i64 ((IntKind.wrap .i64 (Int.tdiv a0 a1)) - 1)), ()), ()), ())))
        (some (((((IntKind.wrap .i64 (Int.tdiv a0 a1)), ()), ()), ()))))
      (some (((((IntKind.wrap .i64 (Int.tdiv a0 a1)), ()), ()), ()))))
    (none))
  (none)

noncomputable def impl_floorDiv (n : Nat) (a0 : Int) (a1 : Int) : Option ((((Int) × (Unit)) × (Unit)) × (Unit)) := impl_floorDiv_t n a0 a1

noncomputable def impl_nearest_t (n : Nat) (a0 : Int) (a1 : Int) : Option ((((Int) × (Unit)) × (((Bool) × (Unit)) × (Unit))) × (Unit)) :=
  (impl_floorDiv n ((IntKind.wrap .i64 ((IntKind.wrap .i64 (2 * a0)) + a1))) ((IntKind.wrap .i64 (2 * a1)))).bind fun r0 =>
  (impl_within n r0.1.1.1 (-1000000000) 1000000000).bind fun r1 =>
  some ((((r0.1.1.1, ()), ((r1.1.1.1, ()), ())), ()))

noncomputable def impl_nearest (n : Nat) (a0 : Int) (a1 : Int) : Option ((((Int) × (Unit)) × (((Bool) × (Unit)) × (Unit))) × (Unit)) := impl_nearest_t n a0 a1

noncomputable def impl_head_t (n : Nat) (a0 : (List (Int)) × ((Int) × (Int))) (a1 : Int) (a2 : Int) : Option ((((Int) × (Unit)) × (Unit)) × (Unit)) :=
  (impl_faultAt n ((a0.1, (a0.2.1, a0.2.2))) a1).bind fun r0 =>
  (impl_swingAt n ((a0.1, (a0.2.1, a0.2.2))) a1).bind fun r1 =>
  (impl_nearest n ((IntKind.wrap .i64 ((IntKind.wrap .i64 ((IntKind.wrap .i64 ((IntKind.wrap .i64 (a1 * r0.1.2.1.1)) * r1.1.2.1.1)) + (IntKind.wrap .i64 (r0.1.1.1 * r1.1.2.1.1)))) + (IntKind.wrap .i64 (r1.1.1.1 * r0.1.2.1.1))))) ((IntKind.wrap .i64 ((IntKind.wrap .i64 (r0.1.2.1.1 * r1.1.2.1.1)) * a2)))).bind fun r2 =>
  (impl_wrap n ((IntKind.wrap .i64 (r2.1.1.1 * a2)))).bind fun r3 =>
  some ((((r3.1.1.1, ()), ()), ()))

noncomputable def impl_head (n : Nat) (a0 : (List (Int)) × ((Int) × (Int))) (a1 : Int) (a2 : Int) : Option ((((Int) × (Unit)) × (Unit)) × (Unit)) := impl_head_t n a0 a1 a2

noncomputable def impl_turnFrom_t (n : Nat) (a0 : Int) (a1 : Int) : Option ((((Int) × (Unit)) × (Unit)) × (Unit)) :=
  (impl_wrap n ((IntKind.wrap .i64 (a1 - a0)))).bind fun r0 =>
  cond (decide (r0.1.1.1 > 648000))
  (some (((((IntKind.wrap .i64 (r0.1.1.1 - 1296000)), ()), ()), ())))
  (some ((((r0.1.1.1, ()), ()), ())))

noncomputable def impl_turnFrom (n : Nat) (a0 : Int) (a1 : Int) : Option ((((Int) × (Unit)) × (Unit)) × (Unit)) := impl_turnFrom_t n a0 a1

noncomputable def impl_SectorsOf_t8 (n : Nat) (g8 : Int → Int → Int → Int → (List (Int)) → (List (Int)) → Int → Int → Option ((((List (Int)) × (Unit)) × (((Int) × (Unit)) × (Unit))) × (Unit))) (v32 : Int) (v2 : Int) (v1 : Int) (v31 : Int) (b0 : List (Int)) (b1_0 : List (Int)) (b1_1 : Int) (b1_2 : Int) : Option ((((List (Int)) × (Unit)) × (((Int) × (Unit)) × (Unit))) × (Unit)) :=
  cond (decide (v32 < v31))
  (cond ((v1 != 0))
    ((impl_head n ((b1_0, (b1_1, b1_2))) ((IntKind.wrap .i64 (v32 * (IntKind.wrap .i64 (Int.tdiv 1296000 v1))))) v2).bind fun r2 =>
      cond ((v1 != 0))
      ((impl_wrap n ((IntKind.wrap .i64 ((IntKind.wrap .i64 (v32 + 1)) * (IntKind.wrap .i64 (Int.tdiv 1296000 v1)))))).bind fun r3 =>
        (impl_head n ((b1_0, (b1_1, b1_2))) r3.1.1.1 v2).bind fun r4 =>
        (impl_turnFrom n r2.1.1.1 r4.1.1.1).bind fun r5 =>
        cond (decide (r5.1.1.1 ≤ 0))
        (cond (decide (((b0.length + ((IntKind.wrap .i64 (r5.1.1.1 + 1296000)) :: []).length) * 9) ≤ 70368744177664))
          (g8 ((IntKind.wrap .i64 (v32 + 1))) v2 v1 v31 ((b0 ++ ((IntKind.wrap .i64 (r5.1.1.1 + 1296000)) :: []))) b1_0 b1_1 b1_2)
          (none))
        (cond (decide (((b0.length + (r5.1.1.1 :: []).length) * 9) ≤ 70368744177664))
          (g8 ((IntKind.wrap .i64 (v32 + 1))) v2 v1 v31 ((b0 ++ (r5.1.1.1 :: []))) b1_0 b1_1 b1_2)
          (none)))
      (none))
    (none))
  (some ((((b0, ()), ((0, ()), ())), ())))

noncomputable def impl_SectorsOf_l8 (n : Nat) : Nat → Int → Int → Int → Int → (List (Int)) → (List (Int)) → Int → Int → Option ((((List (Int)) × (Unit)) × (((Int) × (Unit)) × (Unit))) × (Unit))
  | 0, _, _, _, _, _, _, _, _ => none
  | k + 1, v32, v2, v1, v31, b0, b1_0, b1_1, b1_2 => impl_SectorsOf_t8 n (impl_SectorsOf_l8 n k) v32 v2 v1 v31 b0 b1_0 b1_1 b1_2

noncomputable def impl_SectorsOf_t (n : Nat) (h8 : Nat → Int → Int → Int → Int → (List (Int)) → (List (Int)) → Int → Int → Option ((((List (Int)) × (Unit)) × (((Int) × (Unit)) × (Unit))) × (Unit))) (a0 : (List (Int)) × ((Int) × (Int))) (a1 : Int) (a2 : Int) : Option ((((List (Int)) × (Unit)) × (((Int) × (Unit)) × (Unit))) × (Unit)) :=
  (impl_headCode n ((a0.1, (a0.2.1, a0.2.2))) a2 []).bind fun r0 =>
  cond ((r0.1.1.1 == 0))
  ((impl_within n a1 2 72).bind fun r1 =>
    cond (!r1.1.1.1)
    (some (((([], ()), ((2, ()), ())), ())))
    (cond ((a1 != 0))
      (cond (((Int.tmod 1296000 a1) != 0))
        (some (((([], ()), ((2, ()), ())), ())))
        (cond ((r0.1.1.1 != 0))
          (some (((([], ()), ((r0.1.1.1, ()), ())), ())))
          (h8 n 0 a2 a1 a1 [] a0.1 a0.2.1 a0.2.2)))
      (none)))
  (cond ((r0.1.1.1 != 0))
    (some (((([], ()), ((r0.1.1.1, ()), ())), ())))
    (h8 n 0 a2 a1 a1 [] a0.1 a0.2.1 a0.2.2))

noncomputable def impl_SectorsOf (n : Nat) (a0 : (List (Int)) × ((Int) × (Int))) (a1 : Int) (a2 : Int) : Option ((((List (Int)) × (Unit)) × (((Int) × (Unit)) × (Unit))) × (Unit)) := impl_SectorsOf_t n (impl_SectorsOf_l8 n) a0 a1 a2

noncomputable def spec_l00In_t (n : Nat) (a0 : Int) (a1 : Int) (a2 : Int) : Option ((((Bool) × (Unit)) × (Unit)) × (Unit)) :=
  cond (decide (a0 ≥ a1))
  (some ((((decide (a0 ≤ a2), ()), ()), ())))
  (some ((((false, ()), ()), ())))

noncomputable def spec_l00In (n : Nat) (a0 : Int) (a1 : Int) (a2 : Int) : Option ((((Bool) × (Unit)) × (Unit)) × (Unit)) := spec_l00In_t n a0 a1 a2

noncomputable def spec_l03Ok_t5 (n : Nat) (g5 : Int → (List (Int)) → Int → Int → Option ((((Bool) × (Unit)) × (Unit)) × (((List (Int)) × ((Int) × (Int))) × (Unit)))) (v4 : Int) (b0_0 : List (Int)) (b0_1 : Int) (b0_2 : Int) : Option ((((Bool) × (Unit)) × (Unit)) × (((List (Int)) × ((Int) × (Int))) × (Unit))) :=
  cond (decide (v4 < ((b0_0.length : Nat) : Int)))
  (cond ((decide (0 ≤ v4) && decide (v4 < ((b0_0.length : Nat) : Int))))
    ((spec_l00In n ((IntKind.wrap .i64 (b0_0.getD (Int.toNat v4) 0))) (-600) 600).bind fun r1 =>
      cond (!r1.1.1.1)
      (some ((((false, ()), ()), ((b0_0, (b0_1, b0_2)), ()))))
      (g5 ((IntKind.wrap .i64 (v4 + 1))) b0_0 b0_1 b0_2))
    (none))
  ((spec_l00In n b0_1 (-600) 600).bind fun r2 =>
    cond r2.1.1.1
    ((spec_l00In n b0_2 (-600) 600).bind fun r3 =>
      some ((((r3.1.1.1, ()), ()), ((b0_0, (b0_1, b0_2)), ()))))
    (some ((((false, ()), ()), ((b0_0, (b0_1, b0_2)), ())))))

noncomputable def spec_l03Ok_l5 (n : Nat) : Nat → Int → (List (Int)) → Int → Int → Option ((((Bool) × (Unit)) × (Unit)) × (((List (Int)) × ((Int) × (Int))) × (Unit)))
  | 0, _, _, _, _ => none
  | k + 1, v4, b0_0, b0_1, b0_2 => spec_l03Ok_t5 n (spec_l03Ok_l5 n k) v4 b0_0 b0_1 b0_2

noncomputable def spec_l03Ok_t (n : Nat) (h5 : Nat → Int → (List (Int)) → Int → Int → Option ((((Bool) × (Unit)) × (Unit)) × (((List (Int)) × ((Int) × (Int))) × (Unit)))) (b0 : (List (Int)) × ((Int) × (Int))) : Option ((((Bool) × (Unit)) × (Unit)) × (((List (Int)) × ((Int) × (Int))) × (Unit))) :=
  (spec_l00In n (((b0.1.length : Nat) : Int)) 1 72).bind fun r0 =>
  cond (!r0.1.1.1)
  (some ((((false, ()), ()), ((b0.1, (b0.2.1, b0.2.2)), ()))))
  (cond ((((b0.1.length : Nat) : Int) != 0))
    (cond (((Int.tmod 1296000 ((b0.1.length : Nat) : Int)) != 0))
      (some ((((false, ()), ()), ((b0.1, (b0.2.1, b0.2.2)), ()))))
      (h5 n 0 b0.1 b0.2.1 b0.2.2))
    (none))

noncomputable def spec_l03Ok (n : Nat) (b0 : (List (Int)) × ((Int) × (Int))) : Option ((((Bool) × (Unit)) × (Unit)) × (((List (Int)) × ((Int) × (Int))) × (Unit))) := spec_l03Ok_t n (spec_l03Ok_l5 n) b0

noncomputable def spec_l03Fault_t (n : Nat) (a1 : Int) (b0 : (List (Int)) × ((Int) × (Int))) : Option ((((Int) × (Unit)) × (((Int) × (Unit)) × (Unit))) × (((List (Int)) × ((Int) × (Int))) × (Unit))) :=
  cond ((((b0.1.length : Nat) : Int) != 0))
  (cond (((IntKind.wrap .i64 (Int.tdiv 1296000 ((b0.1.length : Nat) : Int))) != 0))
    (cond ((decide (0 ≤ (IntKind.wrap .i64 (Int.tdiv a1 (IntKind.wrap .i64 (Int.tdiv 1296000 ((b0.1.length : Nat) : Int)))))) && decide ((IntKind.wrap .i64 (Int.tdiv a1 (IntKind.wrap .i64 (Int.tdiv 1296000 ((b0.1.length : Nat) : Int))))) < ((b0.1.length : Nat) : Int))))
      (cond ((((b0.1.length : Nat) : Int) != 0))
        (cond ((decide (0 ≤ (Int.tmod (IntKind.wrap .i64 ((IntKind.wrap .i64 (Int.tdiv a1 (IntKind.wrap .i64 (Int.tdiv 1296000 ((b0.1.length : Nat) : Int))))) + 1)) ((b0.1.length : Nat) : Int))) && decide ((Int.tmod (IntKind.wrap .i64 ((IntKind.wrap .i64 (Int.tdiv a1 (IntKind.wrap .i64 (Int.tdiv 1296000 ((b0.1.length : Nat) : Int))))) + 1)) ((b0.1.length : Nat) : Int)) < ((b0.1.length : Nat) : Int))))
          (some (((((IntKind.wrap .i64 ((IntKind.wrap .i64 ((IntKind.wrap .i64 (b0.1.getD (Int.toNat (IntKind.wrap .i64 (Int.tdiv a1 (IntKind.wrap .i64 (Int.tdiv 1296000 ((b0.1.length : Nat) : Int)))))) 0)) * (IntKind.wrap .i64 (Int.tdiv 1296000 ((b0.1.length : Nat) : Int))))) + (IntKind.wrap .i64 ((IntKind.wrap .i64 ((IntKind.wrap .i64 (b0.1.getD (Int.toNat (Int.tmod (IntKind.wrap .i64 ((IntKind.wrap .i64 (Int.tdiv a1 (IntKind.wrap .i64 (Int.tdiv 1296000 ((b0.1.length : Nat) : Int))))) + 1)) ((b0.1.length : Nat) : Int))) 0)) - (IntKind.wrap .i64 (b0.1.getD (Int.toNat (IntKind.wrap .i64 (Int.tdiv a1 (IntKind.wrap .i64 (Int.tdiv 1296000 ((b0.1.length : Nat) : Int)))))) 0)))) * (IntKind.wrap .i64 (a1 - (IntKind.wrap .i64 ((IntKind.wrap .i64 (Int.tdiv a1 (IntKind.wrap .i64 (Int.tdiv 1296000 ((b0.1.length : Nat) : Int))))) * (IntKind.wrap .i64 (Int.tdiv 1296000 ((b0.1.length : Nat) : Int))))))))))), ()), (((IntKind.wrap .i64 (Int.tdiv 1296000 ((b0.1.length : Nat) : Int))), ()), ())), ((b0.1, (b0.2.1, b0.2.2)), ()))))
          (none))
        (none))
      (none))
    (none))
  (none)

noncomputable def spec_l03Fault (n : Nat) (a1 : Int) (b0 : (List (Int)) × ((Int) × (Int))) : Option ((((Int) × (Unit)) × (((Int) × (Unit)) × (Unit))) × (((List (Int)) × ((Int) × (Int))) × (Unit))) := spec_l03Fault_t n a1 b0

noncomputable def spec_l03Swing_t (n : Nat) (a0 : Int) : Option ((((Int) × (Unit)) × (Unit)) × (Unit)) :=
  cond (decide (a0 ≤ 324000))
  (some ((((a0, ()), ()), ())))
  (cond (decide (a0 ≤ 972000))
    (some (((((IntKind.wrap .i64 (648000 - a0)), ()), ()), ())))
    (some (((((IntKind.wrap .i64 (a0 - 1296000)), ()), ()), ()))))

noncomputable def spec_l03Swing (n : Nat) (a0 : Int) : Option ((((Int) × (Unit)) × (Unit)) × (Unit)) := spec_l03Swing_t n a0

noncomputable def spec_l03Wrap_t (n : Nat) (a0 : Int) : Option ((((Int) × (Unit)) × (Unit)) × (Unit)) :=
  cond (decide ((Int.tmod a0 1296000) < 0))
  (some (((((IntKind.wrap .i64 ((Int.tmod a0 1296000) + 1296000)), ()), ()), ())))
  (some (((((Int.tmod a0 1296000), ()), ()), ())))

noncomputable def spec_l03Wrap (n : Nat) (a0 : Int) : Option ((((Int) × (Unit)) × (Unit)) × (Unit)) := spec_l03Wrap_t n a0

noncomputable def spec_l03Off_t (n : Nat) (a1 : Int) (b0 : (List (Int)) × ((Int) × (Int))) : Option ((((Int) × (Unit)) × (Unit)) × (((List (Int)) × ((Int) × (Int))) × (Unit))) :=
  (spec_l03Swing n a1).bind fun r0 =>
  (spec_l03Wrap n ((IntKind.wrap .i64 (a1 + 324000)))).bind fun r1 =>
  (spec_l03Swing n r1.1.1.1).bind fun r2 =>
  some (((((IntKind.wrap .i64 ((IntKind.wrap .i64 (b0.2.1 * r0.1.1.1)) + (IntKind.wrap .i64 (b0.2.2 * r2.1.1.1)))), ()), ()), ((b0.1, (b0.2.1, b0.2.2)), ())))

noncomputable def spec_l03Off (n : Nat) (a1 : Int) (b0 : (List (Int)) × ((Int) × (Int))) : Option ((((Int) × (Unit)) × (Unit)) × (((List (Int)) × ((Int) × (Int))) × (Unit))) := spec_l03Off_t n a1 b0

noncomputable def spec_l01Down_t (n : Nat) (a0 : Int) (a1 : Int) : Option ((((Int) × (Unit)) × (Unit)) × (Unit)) :=
  cond ((a1 != 0))
  (cond ((a1 != 0))
    (cond (decide ((Int.tmod a0 a1) < 0))
      (some (((((IntKind.wrap .i64 ((IntKind.wrap .i64 (Int.tdiv a0 a1)) - 1)), ()), ()), ())))
      (some (((((IntKind.wrap .i64 (Int.tdiv a0 a1)), ()), ()), ()))))
    (none))
  (none)

noncomputable def spec_l01Down (n : Nat) (a0 : Int) (a1 : Int) : Option ((((Int) × (Unit)) × (Unit)) × (Unit)) := spec_l01Down_t n a0 a1

noncomputable def spec_l03Head_t (n : Nat) (a1 : Int) (a2 : Int) (b0 : (List (Int)) × ((Int) × (Int))) : Option ((((Int) × (Unit)) × (Unit)) × (((List (Int)) × ((Int) × (Int))) × (Unit))) :=
  (spec_l03Fault n a1 ((b0.1, (b0.2.1, b0.2.2)))).bind fun r0 =>
  (spec_l03Off n a1 ((r0.2.1.1, (r0.2.1.2.1, r0.2.1.2.2)))).bind fun r1 =>
  (spec_l01Down n ((IntKind.wrap .i64 ((IntKind.wrap .i64 (2 * (IntKind.wrap .i64 ((IntKind.wrap .i64 ((IntKind.wrap .i64 ((IntKind.wrap .i64 (a1 * r0.1.2.1.1)) * 324000)) + (IntKind.wrap .i64 (r0.1.1.1 * 324000)))) + (IntKind.wrap .i64 (r1.1.1.1 * r0.1.2.1.1)))))) + (IntKind.wrap .i64 ((IntKind.wrap .i64 (r0.1.2.1.1 * 324000)) * a2))))) ((IntKind.wrap .i64 (2 * (IntKind.wrap .i64 ((IntKind.wrap .i64 (r0.1.2.1.1 * 324000)) * a2)))))).bind fun r2 =>
  (spec_l03Wrap n ((IntKind.wrap .i64 (a2 * r2.1.1.1)))).bind fun r3 =>
  some ((((r3.1.1.1, ()), ()), ((r1.2.1.1, (r1.2.1.2.1, r1.2.1.2.2)), ())))

noncomputable def spec_l03Head (n : Nat) (a1 : Int) (a2 : Int) (b0 : (List (Int)) × ((Int) × (Int))) : Option ((((Int) × (Unit)) × (Unit)) × (((List (Int)) × ((Int) × (Int))) × (Unit))) := spec_l03Head_t n a1 a2 b0

noncomputable def spec_l03Turn_t (n : Nat) (a0 : Int) (a1 : Int) : Option ((((Int) × (Unit)) × (Unit)) × (Unit)) :=
  (spec_l03Wrap n ((IntKind.wrap .i64 (a1 - a0)))).bind fun r0 =>
  cond (decide (r0.1.1.1 > 648000))
  (some (((((IntKind.wrap .i64 (r0.1.1.1 - 1296000)), ()), ()), ())))
  (some ((((r0.1.1.1, ()), ()), ())))

noncomputable def spec_l03Turn (n : Nat) (a0 : Int) (a1 : Int) : Option ((((Int) × (Unit)) × (Unit)) × (Unit)) := spec_l03Turn_t n a0 a1

noncomputable def spec_SectorsOf_t7 (n : Nat) (g7 : Int → Int → Int → (List (Int)) → (List (Int)) → Int → Int → Option ((((List (Int)) × (Unit)) × (((Int) × (Unit)) × (Unit))) × (Unit))) (v9 : Int) (v2 : Int) (v1 : Int) (b0 : List (Int)) (b1_0 : List (Int)) (b1_1 : Int) (b1_2 : Int) : Option ((((List (Int)) × (Unit)) × (((Int) × (Unit)) × (Unit))) × (Unit)) :=
  cond (decide (v9 < v1))
  (cond ((v1 != 0))
    ((spec_l03Head n ((IntKind.wrap .i64 (v9 * (IntKind.wrap .i64 (Int.tdiv 1296000 v1))))) v2 ((b1_0, (b1_1, b1_2)))).bind fun r3 =>
      cond ((v1 != 0))
      ((spec_l03Wrap n ((IntKind.wrap .i64 ((IntKind.wrap .i64 (v9 + 1)) * (IntKind.wrap .i64 (Int.tdiv 1296000 v1)))))).bind fun r4 =>
        (spec_l03Head n r4.1.1.1 v2 ((r3.2.1.1, (r3.2.1.2.1, r3.2.1.2.2)))).bind fun r5 =>
        (spec_l03Turn n r3.1.1.1 r5.1.1.1).bind fun r6 =>
        cond (decide (r6.1.1.1 ≤ 0))
        (cond (decide (((b0.length + ((IntKind.wrap .i64 (r6.1.1.1 + 1296000)) :: []).length) * 9) ≤ 70368744177664))
          (g7 ((IntKind.wrap .i64 (v9 + 1))) v2 v1 ((b0 ++ ((IntKind.wrap .i64 (r6.1.1.1 + 1296000)) :: []))) r5.2.1.1 r5.2.1.2.1 r5.2.1.2.2)
          (none))
        (cond (decide (((b0.length + (r6.1.1.1 :: []).length) * 9) ≤ 70368744177664))
          (g7 ((IntKind.wrap .i64 (v9 + 1))) v2 v1 ((b0 ++ (r6.1.1.1 :: []))) r5.2.1.1 r5.2.1.2.1 r5.2.1.2.2)
          (none)))
      (none))
    (none))
  (some ((((b0, ()), ((0, ()), ())), ())))

noncomputable def spec_SectorsOf_l7 (n : Nat) : Nat → Int → Int → Int → (List (Int)) → (List (Int)) → Int → Int → Option ((((List (Int)) × (Unit)) × (((Int) × (Unit)) × (Unit))) × (Unit))
  | 0, _, _, _, _, _, _, _ => none
  | k + 1, v9, v2, v1, b0, b1_0, b1_1, b1_2 => spec_SectorsOf_t7 n (spec_SectorsOf_l7 n k) v9 v2 v1 b0 b1_0 b1_1 b1_2

noncomputable def spec_SectorsOf_t (n : Nat) (h7 : Nat → Int → Int → Int → (List (Int)) → (List (Int)) → Int → Int → Option ((((List (Int)) × (Unit)) × (((Int) × (Unit)) × (Unit))) × (Unit))) (a0 : (List (Int)) × ((Int) × (Int))) (a1 : Int) (a2 : Int) : Option ((((List (Int)) × (Unit)) × (((Int) × (Unit)) × (Unit))) × (Unit)) :=
  (spec_l03Ok n ((a0.1, (a0.2.1, a0.2.2)))).bind fun r0 =>
  cond (!r0.1.1.1)
  (some (((([], ()), ((1, ()), ())), ())))
  ((spec_l00In n a2 1 3600).bind fun r1 =>
    cond (!r1.1.1.1)
    (some (((([], ()), ((2, ()), ())), ())))
    ((spec_l00In n a1 2 72).bind fun r2 =>
      cond (!r2.1.1.1)
      (some (((([], ()), ((2, ()), ())), ())))
      (cond ((a1 != 0))
        (cond (((Int.tmod 1296000 a1) != 0))
          (some (((([], ()), ((2, ()), ())), ())))
          (h7 n 0 a2 a1 [] r0.2.1.1 r0.2.1.2.1 r0.2.1.2.2))
        (none))))

noncomputable def spec_SectorsOf (n : Nat) (a0 : (List (Int)) × ((Int) × (Int))) (a1 : Int) (a2 : Int) : Option ((((List (Int)) × (Unit)) × (((Int) × (Unit)) × (Unit))) × (Unit)) := spec_SectorsOf_t n (spec_SectorsOf_l7 n) a0 a1 a2

noncomputable def spec_l00Same_t4 (n : Nat) (g4 : Int → (List (Int)) → (List (Int)) → Option ((((Bool) × (Unit)) × (Unit)) × (Unit))) (v5 : Int) (v1 : List (Int)) (v0 : List (Int)) : Option ((((Bool) × (Unit)) × (Unit)) × (Unit)) :=
  cond (decide (v5 < ((v0.length : Nat) : Int)))
  (cond ((decide (0 ≤ v5) && decide (v5 < ((v0.length : Nat) : Int))))
    (cond ((decide (0 ≤ v5) && decide (v5 < ((v1.length : Nat) : Int))))
      (cond (((v0.getD (Int.toNat v5) 0) != (v1.getD (Int.toNat v5) 0)))
        (some ((((false, ()), ()), ())))
        (g4 ((IntKind.wrap .i64 (v5 + 1))) v1 v0))
      (none))
    (none))
  (some ((((true, ()), ()), ())))

noncomputable def spec_l00Same_l4 (n : Nat) : Nat → Int → (List (Int)) → (List (Int)) → Option ((((Bool) × (Unit)) × (Unit)) × (Unit))
  | 0, _, _, _ => none
  | k + 1, v5, v1, v0 => spec_l00Same_t4 n (spec_l00Same_l4 n k) v5 v1 v0

noncomputable def spec_l00Same_t (n : Nat) (h4 : Nat → Int → (List (Int)) → (List (Int)) → Option ((((Bool) × (Unit)) × (Unit)) × (Unit))) (a0 : List (Int)) (a1 : List (Int)) : Option ((((Bool) × (Unit)) × (Unit)) × (Unit)) :=
  cond ((((a0.length : Nat) : Int) != ((a1.length : Nat) : Int)))
  (some ((((false, ()), ()), ())))
  (h4 n 0 a1 a0)

noncomputable def spec_l00Same (n : Nat) (a0 : List (Int)) (a1 : List (Int)) : Option ((((Bool) × (Unit)) × (Unit)) × (Unit)) := spec_l00Same_t n (spec_l00Same_l4 n) a0 a1

noncomputable def spec_A2Same_t (n : Nat) (a0 : List (Int)) (a1 : List (Int)) : Option ((((Bool) × (Unit)) × (Unit)) × (Unit)) :=
  (spec_l00Same n a0 a1).bind fun r0 =>
  some ((((r0.1.1.1, ()), ()), ()))

noncomputable def spec_A2Same (n : Nat) (a0 : List (Int)) (a1 : List (Int)) : Option ((((Bool) × (Unit)) × (Unit)) × (Unit)) := spec_A2Same_t n a0 a1

noncomputable def impl_areSectors_1_t (n : Nat) (a0 : Int) : Option ((((Bool) × (Unit)) × (Unit)) × (Unit)) :=
  (impl_within n a0 1 1296000).bind fun r0 =>
  some (((((!r0.1.1.1), ()), ()), ()))

noncomputable def impl_areSectors_1 (n : Nat) (a0 : Int) : Option ((((Bool) × (Unit)) × (Unit)) × (Unit)) := impl_areSectors_1_t n a0

noncomputable def slices_IndexFunc_int64_int64_at_impl_areSectors_1_t2 (n : Nat) (g2 : Int → (List (Int)) → Int → Option ((((Int) × (Unit)) × (Unit)) × (Unit))) (v8 : Int) (v0 : List (Int)) (v7 : Int) : Option ((((Int) × (Unit)) × (Unit)) × (Unit)) :=
  cond (decide (v8 < v7))
  (cond ((decide (0 ≤ v8) && decide (v8 < ((v0.length : Nat) : Int))))
    ((impl_areSectors_1 n ((v0.getD (Int.toNat v8) 0))).bind fun r0 =>
      cond r0.1.1.1
      (some ((((v8, ()), ()), ())))
      (g2 ((IntKind.wrap .i64 (v8 + 1))) v0 v7))
    (none))
  (some (((((-1), ()), ()), ())))

noncomputable def slices_IndexFunc_int64_int64_at_impl_areSectors_1_l2 (n : Nat) : Nat → Int → (List (Int)) → Int → Option ((((Int) × (Unit)) × (Unit)) × (Unit))
  | 0, _, _, _ => none
  | k + 1, v8, v0, v7 => slices_IndexFunc_int64_int64_at_impl_areSectors_1_t2 n (slices_IndexFunc_int64_int64_at_impl_areSectors_1_l2 n k) v8 v0 v7

noncomputable def slices_IndexFunc_int64_int64_at_impl_areSectors_1_t (n : Nat) (h2 : Nat → Int → (List (Int)) → Int → Option ((((Int) × (Unit)) × (Unit)) × (Unit))) (a0 : List (Int)) : Option ((((Int) × (Unit)) × (Unit)) × (Unit)) :=
  h2 n 0 a0 (((a0.length : Nat) : Int))

noncomputable def slices_IndexFunc_int64_int64_at_impl_areSectors_1 (n : Nat) (a0 : List (Int)) : Option ((((Int) × (Unit)) × (Unit)) × (Unit)) := slices_IndexFunc_int64_int64_at_impl_areSectors_1_t n (slices_IndexFunc_int64_int64_at_impl_areSectors_1_l2 n) a0

noncomputable def slices_ContainsFunc_int64_int64_at_impl_areSectors_1_t (n : Nat) (a0 : List (Int)) : Option ((((Bool) × (Unit)) × (Unit)) × (Unit)) :=
  (slices_IndexFunc_int64_int64_at_impl_areSectors_1 n a0).bind fun r0 =>
  some ((((decide (r0.1.1.1 ≥ 0), ()), ()), ()))

noncomputable def slices_ContainsFunc_int64_int64_at_impl_areSectors_1 (n : Nat) (a0 : List (Int)) : Option ((((Bool) × (Unit)) × (Unit)) × (Unit)) := slices_ContainsFunc_int64_int64_at_impl_areSectors_1_t n a0

noncomputable def impl_areSectors_t (n : Nat) (a0 : List (Int)) : Option ((((Bool) × (Unit)) × (Unit)) × (Unit)) :=
  (impl_within n (((a0.length : Nat) : Int)) 1 72).bind fun r0 =>
  cond r0.1.1.1
  ((slices_ContainsFunc_int64_int64_at_impl_areSectors_1 n a0).bind fun r1 =>
    some (((((!r1.1.1.1), ()), ()), ())))
  (some ((((false, ()), ()), ())))

noncomputable def impl_areSectors (n : Nat) (a0 : List (Int)) : Option ((((Bool) × (Unit)) × (Unit)) × (Unit)) := impl_areSectors_t n a0

noncomputable def impl_ClosingOf_t5 (n : Nat) (g5 : Int → Int → (List (Int)) → Int → Option ((((Int) × (Unit)) × (((Int) × (Unit)) × (Unit))) × (Unit))) (v12 : Int) (v4 : Int) (v10 : List (Int)) (v11 : Int) : Option ((((Int) × (Unit)) × (((Int) × (Unit)) × (Unit))) × (Unit)) :=
  cond (decide (v12 < v11))
  (cond ((decide (0 ≤ v12) && decide (v12 < ((v10.length : Nat) : Int))))
    (g5 ((IntKind.wrap .i64 (v12 + 1))) ((IntKind.wrap .i64 (v4 + (v10.getD (Int.toNat v12) 0)))) v10 v11)
    (none))
  (some ((((v4, ()), ((0, ()), ())), ())))

noncomputable def impl_ClosingOf_l5 (n : Nat) : Nat → Int → Int → (List (Int)) → Int → Option ((((Int) × (Unit)) × (((Int) × (Unit)) × (Unit))) × (Unit))
  | 0, _, _, _, _ => none
  | k + 1, v12, v4, v10, v11 => impl_ClosingOf_t5 n (impl_ClosingOf_l5 n k) v12 v4 v10 v11

noncomputable def impl_ClosingOf_t (n : Nat) (h5 : Nat → Int → Int → (List (Int)) → Int → Option ((((Int) × (Unit)) × (((Int) × (Unit)) × (Unit))) × (Unit))) (a0 : List (Int)) : Option ((((Int) × (Unit)) × (((Int) × (Unit)) × (Unit))) × (Unit)) :=
  (impl_areSectors n a0).bind fun r0 =>
  cond (!r0.1.1.1)
  (some ((((0, ()), ((2, ()), ())), ())))
  (h5 n 0 (-1296000) a0 (((a0.length : Nat) : Int)))

noncomputable def impl_ClosingOf (n : Nat) (a0 : List (Int)) : Option ((((Int) × (Unit)) × (((Int) × (Unit)) × (Unit))) × (Unit)) := impl_ClosingOf_t n (impl_ClosingOf_l5 n) a0

noncomputable def impl_ShareClosing_t6 (n : Nat) (g6 : Int → Int → Int → (List (Int)) → Int → (List (Int)) → Option ((((List (Int)) × (Unit)) × (((Int) × (Unit)) × (Unit))) × (Unit))) (v24 : Int) (v7 : Int) (v4 : Int) (v22 : List (Int)) (v23 : Int) (b0 : List (Int)) : Option ((((List (Int)) × (Unit)) × (((Int) × (Unit)) × (Unit))) × (Unit)) :=
  cond (decide (v24 < v23))
  (cond ((decide (0 ≤ v24) && decide (v24 < ((v22.length : Nat) : Int))))
    ((impl_floorDiv n ((IntKind.wrap .i64 ((IntKind.wrap .i64 (v24 + 1)) * v4))) v7).bind fun r1 =>
      (impl_floorDiv n ((IntKind.wrap .i64 (v24 * v4))) v7).bind fun r2 =>
      cond (decide (((b0.length + ((IntKind.wrap .i64 ((v22.getD (Int.toNat v24) 0) - (IntKind.wrap .i64 (r1.1.1.1 - r2.1.1.1)))) :: []).length) * 9) ≤ 70368744177664))
      (g6 ((IntKind.wrap .i64 (v24 + 1))) v7 v4 v22 v23 ((b0 ++ ((IntKind.wrap .i64 ((v22.getD (Int.toNat v24) 0) - (IntKind.wrap .i64 (r1.1.1.1 - r2.1.1.1)))) :: []))))
      (none))
    (none))
  (some ((((b0, ()), ((0, ()), ())), ())))

noncomputable def impl_ShareClosing_l6 (n : Nat) : Nat → Int → Int → Int → (List (Int)) → Int → (List (Int)) → Option ((((List (Int)) × (Unit)) × (((Int) × (Unit)) × (Unit))) × (Unit))
  | 0, _, _, _, _, _, _ => none
  | k + 1, v24, v7, v4, v22, v23, b0 => impl_ShareClosing_t6 n (impl_ShareClosing_l6 n k) v24 v7 v4 v22 v23 b0

noncomputable def impl_ShareClosing_t (n : Nat) (h6 : Nat → Int → Int → Int → (List (Int)) → Int → (List (Int)) → Option ((((List (Int)) × (Unit)) × (((Int) × (Unit)) × (Unit))) × (Unit))) (a0 : List (Int)) : Option ((((List (Int)) × (Unit)) × (((Int) × (Unit)) × (Unit))) × (Unit)) :=
  (impl_ClosingOf n a0).bind fun r0 =>
  cond ((r0.1.2.1.1 != 0))
  (some (((([], ()), ((r0.1.2.1.1, ()), ())), ())))
  (h6 n 0 (((a0.length : Nat) : Int)) r0.1.1.1 a0 (((a0.length : Nat) : Int)) [])

noncomputable def impl_ShareClosing (n : Nat) (a0 : List (Int)) : Option ((((List (Int)) × (Unit)) × (((Int) × (Unit)) × (Unit))) × (Unit)) := impl_ShareClosing_t n (impl_ShareClosing_l6 n) a0

noncomputable def impl_FaultsFrom_t9 (n : Nat) (g9 : Int → Int → Int → (List (Int)) → (List (Int)) → Option ((((List (Int)) × (Unit)) × (((Int) × (Unit)) × (Unit))) × (Unit))) (v30 : Int) (v6 : Int) (v29 : Int) (b0 : List (Int)) (b1 : List (Int)) : Option ((((List (Int)) × (Unit)) × (((Int) × (Unit)) × (Unit))) × (Unit)) :=
  cond (decide (v30 < v29))
  (cond ((decide (0 ≤ v30) && decide (v30 < ((b1.length : Nat) : Int))))
    (cond ((decide (0 ≤ v30) && decide (v30 < ((b0.length : Nat) : Int))))
      (cond ((v6 != 0))
        (cond (decide (((b1.length + ((IntKind.wrap .i64 ((IntKind.wrap .i64 ((b1.getD (Int.toNat v30) 0) + (b0.getD (Int.toNat v30) 0))) - (IntKind.wrap .i64 (Int.tdiv 1296000 v6)))) :: []).length) * 9) ≤ 70368744177664))
          (g9 ((IntKind.wrap .i64 (v30 + 1))) v6 v29 b0 ((b1 ++ ((IntKind.wrap .i64 ((IntKind.wrap .i64 ((b1.getD (Int.toNat v30) 0) + (b0.getD (Int.toNat v30) 0))) - (IntKind.wrap .i64 (Int.tdiv 1296000 v6)))) :: []))))
          (none))
        (none))
      (none))
    (none))
  (some ((((b1, ()), ((0, ()), ())), ())))

noncomputable def impl_FaultsFrom_l9 (n : Nat) : Nat → Int → Int → Int → (List (Int)) → (List (Int)) → Option ((((List (Int)) × (Unit)) × (((Int) × (Unit)) × (Unit))) × (Unit))
  | 0, _, _, _, _, _ => none
  | k + 1, v30, v6, v29, b0, b1 => impl_FaultsFrom_t9 n (impl_FaultsFrom_l9 n k) v30 v6 v29 b0 b1

noncomputable def impl_FaultsFrom_t (n : Nat) (h9 : Nat → Int → Int → Int → (List (Int)) → (List (Int)) → Option ((((List (Int)) × (Unit)) × (((Int) × (Unit)) × (Unit))) × (Unit))) (a0 : List (Int)) : Option ((((List (Int)) × (Unit)) × (((Int) × (Unit)) × (Unit))) × (Unit)) :=
  (impl_ShareClosing n a0).bind fun r0 =>
  cond ((r0.1.2.1.1 == 0))
  (cond ((((a0.length : Nat) : Int) != 0))
    (cond (((Int.tmod 1296000 ((a0.length : Nat) : Int)) != 0))
      (some (((([], ()), ((4, ()), ())), ())))
      (cond ((r0.1.2.1.1 != 0))
        (some (((([], ()), ((r0.1.2.1.1, ()), ())), ())))
        (cond ((decide (1 ≤ ((r0.1.1.1.length : Nat) : Int)) && decide (((r0.1.1.1.length : Nat) : Int) ≤ ((r0.1.1.1.length : Nat) : Int))))
          (h9 n 0 (((a0.length : Nat) : Int)) (((((r0.1.1.1.drop (Int.toNat 1)).take ((Int.toNat ((r0.1.1.1.length : Nat) : Int)) - (Int.toNat 1))).length : Nat) : Int)) r0.1.1.1 ((0 :: [])))
          (none))))
    (none))
  (cond ((r0.1.2.1.1 != 0))
    (some (((([], ()), ((r0.1.2.1.1, ()), ())), ())))
    (cond ((decide (1 ≤ ((r0.1.1.1.length : Nat) : Int)) && decide (((r0.1.1.1.length : Nat) : Int) ≤ ((r0.1.1.1.length : Nat) : Int))))
      (h9 n 0 (((a0.length : Nat) : Int)) (((((r0.1.1.1.drop (Int.toNat 1)).take ((Int.toNat ((r0.1.1.1.length : Nat) : Int)) - (Int.toNat 1))).length : Nat) : Int)) r0.1.1.1 ((0 :: [])))
      (none)))

noncomputable def impl_FaultsFrom (n : Nat) (a0 : List (Int)) : Option ((((List (Int)) × (Unit)) × (((Int) × (Unit)) × (Unit))) × (Unit)) := impl_FaultsFrom_t n (impl_FaultsFrom_l9 n) a0

noncomputable def laws_FnMarks_t19 (n : Nat) (g19 : Int → Int → (List (Int)) → Int → Int → (List (Int)) → Option ((((Bool) × (Unit)) × (Unit)) × (Unit))) (v15 : Int) (v4 : Int) (b0_0 : List (Int)) (b0_1 : Int) (b0_2 : Int) (b1 : List (Int)) : Option ((((Bool) × (Unit)) × (Unit)) × (Unit)) :=
  cond (decide (v15 < v4))
  (cond ((decide (0 ≤ v15) && decide (v15 < ((b1.length : Nat) : Int))))
    (cond ((decide (0 ≤ v15) && decide (v15 < ((b0_0.length : Nat) : Int))))
      (cond (decide (0 < ((b0_0.length : Nat) : Int)))
        (cond (((b1.getD (Int.toNat v15) 0) != (IntKind.wrap .i64 ((IntKind.wrap .i64 (b0_0.getD (Int.toNat v15) 0)) - (IntKind.wrap .i64 (b0_0.getD (Int.toNat 0) 0))))))
          (some ((((false, ()), ()), ())))
          (g19 ((IntKind.wrap .i64 (v15 + 1))) v4 b0_0 b0_1 b0_2 b1))
        (none))
      (none))
    (none))
  (some ((((true, ()), ()), ())))

noncomputable def laws_FnMarks_l19 (n : Nat) : Nat → Int → Int → (List (Int)) → Int → Int → (List (Int)) → Option ((((Bool) × (Unit)) × (Unit)) × (Unit))
  | 0, _, _, _, _, _, _ => none
  | k + 1, v15, v4, b0_0, b0_1, b0_2, b1 => laws_FnMarks_t19 n (laws_FnMarks_l19 n k) v15 v4 b0_0 b0_1 b0_2 b1

noncomputable def laws_FnMarks_t (n : Nat) (h19 : Nat → Int → Int → (List (Int)) → Int → Int → (List (Int)) → Option ((((Bool) × (Unit)) × (Unit)) × (Unit))) (a0 : List (Int)) : Option ((((Bool) × (Unit)) × (Unit)) × (Unit)) :=
  (laws_a2Long n a0 a0).bind fun r0 =>
  cond r0.1.1.1
  (some ((((true, ()), ()), ())))
  ((spec_A2Disk n a0).bind fun r1 =>
    cond (decide (((r1.1.1.1.1.length : Nat) : Int) < 2))
    ((impl_SectorsOf n ((r1.1.1.1.1, (0, 0))) (((r1.1.1.1.1.length : Nat) : Int)) 1).bind fun r2 =>
      some (((((r2.1.2.1.1 == 2), ()), ()), ())))
    ((impl_SectorsOf n ((r1.1.1.1.1, (0, 0))) (((r1.1.1.1.1.length : Nat) : Int)) 1).bind fun r3 =>
      (spec_SectorsOf n ((r1.1.1.1.1, (0, 0))) (((r1.1.1.1.1.length : Nat) : Int)) 1).bind fun r4 =>
      cond ((r3.1.2.1.1 != r4.1.2.1.1))
      (some ((((false, ()), ()), ())))
      (cond ((r3.1.2.1.1 != 0))
        (some ((((false, ()), ()), ())))
        ((spec_A2Same n r3.1.1.1 r4.1.1.1).bind fun r5 =>
          cond (!r5.1.1.1)
          (some ((((false, ()), ()), ())))
          ((impl_ClosingOf n r4.1.1.1).bind fun r6 =>
            (impl_FaultsFrom n r4.1.1.1).bind fun r7 =>
            cond ((r6.1.2.1.1 != 0))
            (some ((((false, ()), ()), ())))
            (cond ((r6.1.1.1 != 0))
              (some ((((false, ()), ()), ())))
              (cond ((r7.1.2.1.1 != 0))
                (some ((((false, ()), ()), ())))
                (cond ((((r7.1.1.1.length : Nat) : Int) != ((r1.1.1.1.1.length : Nat) : Int)))
                  (some ((((false, ()), ()), ())))
                  (h19 n 0 (((r1.1.1.1.1.length : Nat) : Int)) r1.1.1.1.1 0 0 r7.1.1.1)))))))))

noncomputable def laws_FnMarks (n : Nat) (a0 : List (Int)) : Option ((((Bool) × (Unit)) × (Unit)) × (Unit)) := laws_FnMarks_t n (laws_FnMarks_l19 n) a0

noncomputable def impl_gcd_t1 (n : Nat) (g1 : Int → Int → Option ((((Int) × (Unit)) × (Unit)) × (Unit))) (v1 : Int) (v0 : Int) : Option ((((Int) × (Unit)) × (Unit)) × (Unit)) :=
  cond ((v1 != 0))
  (cond ((v1 != 0))
    (g1 ((Int.tmod v0 v1)) v1)
    (none))
  (some (((((if v0 < (IntKind.wrap .i64 (0 - v0)) then (IntKind.wrap .i64 (0 - v0)) else v0), ()), ()), ())))

noncomputable def impl_gcd_l1 (n : Nat) : Nat → Int → Int → Option ((((Int) × (Unit)) × (Unit)) × (Unit))
  | 0, _, _ => none
  | k + 1, v1, v0 => impl_gcd_t1 n (impl_gcd_l1 n k) v1 v0

noncomputable def impl_gcd_t (n : Nat) (h1 : Nat → Int → Int → Option ((((Int) × (Unit)) × (Unit)) × (Unit))) (a0 : Int) (a1 : Int) : Option ((((Int) × (Unit)) × (Unit)) × (Unit)) :=
  h1 n a1 a0

noncomputable def impl_gcd (n : Nat) (a0 : Int) (a1 : Int) : Option ((((Int) × (Unit)) × (Unit)) × (Unit)) := impl_gcd_t n (impl_gcd_l1 n) a0 a1

noncomputable def impl_ValidFrac_t (n : Nat) (a0 : (Int) × (Int)) : Option ((((Bool) × (Unit)) × (Unit)) × (Unit)) :=
  (impl_within n a0.2 1 1000000000).bind fun r0 =>
  cond r0.1.1.1
  ((impl_within n a0.1 (-1000000000) 1000000000).bind fun r1 =>
    cond r1.1.1.1
    ((impl_gcd n a0.1 a0.2).bind fun r2 =>
      some (((((r2.1.1.1 == 1), ()), ()), ())))
    (some ((((false, ()), ()), ()))))
  (some ((((false, ()), ()), ())))

noncomputable def impl_ValidFrac (n : Nat) (a0 : (Int) × (Int)) : Option ((((Bool) × (Unit)) × (Unit)) × (Unit)) := impl_ValidFrac_t n a0

noncomputable def impl_calc_one_t (n : Nat) (a1 : (Int) × (Int)) (b0 : Bool) : Option (((((Int) × (Int)) × (Unit)) × (((Int) × (Unit)) × (Unit))) × ((Bool) × (Unit))) :=
  cond b0
  (some (((((0, 0), ()), ((3, ()), ())), (b0, ()))))
  (some (((((a1.1, a1.2), ()), ((0, ()), ())), (b0, ()))))

noncomputable def impl_calc_one (n : Nat) (a1 : (Int) × (Int)) (b0 : Bool) : Option (((((Int) × (Int)) × (Unit)) × (((Int) × (Unit)) × (Unit))) × ((Bool) × (Unit))) := impl_calc_one_t n a1 b0

noncomputable def impl_fracOf_t (n : Nat) (a0 : Int) (a1 : Int) : Option (((((Int) × (Int)) × (Unit)) × (((Bool) × (Unit)) × (Unit))) × (Unit)) :=
  cond (decide (a1 < 0))
  ((impl_gcd n ((IntKind.wrap .i64 (0 - a0))) ((IntKind.wrap .i64 (0 - a1)))).bind fun r0 =>
    cond ((r0.1.1.1 != 0))
    (cond ((r0.1.1.1 != 0))
      ((impl_ValidFrac n (((IntKind.wrap .i64 (Int.tdiv (IntKind.wrap .i64 (0 - a0)) r0.1.1.1)), (IntKind.wrap .i64 (Int.tdiv (IntKind.wrap .i64 (0 - a1)) r0.1.1.1))))).bind fun r1 =>
        cond (!r1.1.1.1)
        (some (((((0, 0), ()), ((false, ()), ())), ())))
        (some ((((((IntKind.wrap .i64 (Int.tdiv (IntKind.wrap .i64 (0 - a0)) r0.1.1.1)), (IntKind.wrap .i64 (Int.tdiv (IntKind.wrap .i64 (0 - a1)) r0.1.1.1))), ()), ((true, ()), ())), ()))))
      (none))
    (none))
  ((impl_gcd n a0 a1).bind fun r2 =>
    cond ((r2.1.1.1 != 0))
    (cond ((r2.1.1.1 != 0))
      ((impl_ValidFrac n (((IntKind.wrap .i64 (Int.tdiv a0 r2.1.1.1)), (IntKind.wrap .i64 (Int.tdiv a1 r2.1.1.1))))).bind fun r3 =>
        cond (!r3.1.1.1)
        (some (((((0, 0), ()), ((false, ()), ())), ())))
        (some ((((((IntKind.wrap .i64 (Int.tdiv a0 r2.1.1.1)), (IntKind.wrap .i64 (Int.tdiv a1 r2.1.1.1))), ()), ((true, ()), ())), ()))))
      (none))
    (none))

noncomputable def impl_fracOf (n : Nat) (a0 : Int) (a1 : Int) : Option (((((Int) × (Int)) × (Unit)) × (((Bool) × (Unit)) × (Unit))) × (Unit)) := impl_fracOf_t n a0 a1

noncomputable def impl_zero_t (n : Nat) : Option (((((Int) × (Int)) × (Unit)) × (Unit)) × (Unit)) :=
  some (((((0, 1), ()), ()), ()))

noncomputable def impl_zero (n : Nat) : Option (((((Int) × (Int)) × (Unit)) × (Unit)) × (Unit)) := impl_zero_t n

noncomputable def impl_calc_told_t (n : Nat) (a1 : Int) (a2 : Int) (b0 : Bool) : Option (((((Int) × (Int)) × (Unit)) × (Unit)) × ((Bool) × (Unit))) :=
  (impl_fracOf n a1 a2).bind fun r0 =>
  cond (!r0.1.2.1.1)
  ((impl_zero n).bind fun r1 =>
    some (((((r1.1.1.1.1, r1.1.1.1.2), ()), ()), (true, ()))))
  (some (((((r0.1.1.1.1, r0.1.1.1.2), ()), ()), (b0, ()))))

noncomputable def impl_calc_told (n : Nat) (a1 : Int) (a2 : Int) (b0 : Bool) : Option (((((Int) × (Int)) × (Unit)) × (Unit)) × ((Bool) × (Unit))) := impl_calc_told_t n a1 a2 b0

noncomputable def laws_eqInt16S_t4 (n : Nat) (g4 : Int → (List (Int)) → (List (Int)) → Option ((((Bool) × (Unit)) × (Unit)) × (Unit))) (v5 : Int) (v1 : List (Int)) (v0 : List (Int)) : Option ((((Bool) × (Unit)) × (Unit)) × (Unit)) :=
  cond (decide (v5 < ((v0.length : Nat) : Int)))
  (cond ((decide (0 ≤ v5) && decide (v5 < ((v0.length : Nat) : Int))))
    (cond ((decide (0 ≤ v5) && decide (v5 < ((v1.length : Nat) : Int))))
      (cond (((v0.getD (Int.toNat v5) 0) != (v1.getD (Int.toNat v5) 0)))
        (some ((((false, ()), ()), ())))
        (g4 ((IntKind.wrap .i64 (v5 + 1))) v1 v0))
      (none))
    (none))
  (some ((((true, ()), ()), ())))

noncomputable def laws_eqInt16S_l4 (n : Nat) : Nat → Int → (List (Int)) → (List (Int)) → Option ((((Bool) × (Unit)) × (Unit)) × (Unit))
  | 0, _, _, _ => none
  | k + 1, v5, v1, v0 => laws_eqInt16S_t4 n (laws_eqInt16S_l4 n k) v5 v1 v0

noncomputable def laws_eqInt16S_t (n : Nat) (h4 : Nat → Int → (List (Int)) → (List (Int)) → Option ((((Bool) × (Unit)) × (Unit)) × (Unit))) (a0 : List (Int)) (a1 : List (Int)) : Option ((((Bool) × (Unit)) × (Unit)) × (Unit)) :=
  cond ((((a0.length : Nat) : Int) != ((a1.length : Nat) : Int)))
  (some ((((false, ()), ()), ())))
  (h4 n 0 a1 a0)

noncomputable def laws_eqInt16S (n : Nat) (a0 : List (Int)) (a1 : List (Int)) : Option ((((Bool) × (Unit)) × (Unit)) × (Unit)) := laws_eqInt16S_t n (laws_eqInt16S_l4 n) a0 a1

noncomputable def laws_eqDisk_t (n : Nat) (a0 : (List (Int)) × ((Int) × (Int))) (a1 : (List (Int)) × ((Int) × (Int))) : Option ((((Bool) × (Unit)) × (Unit)) × (Unit)) :=
  (laws_eqInt16S n a0.1 a1.1).bind fun r0 =>
  cond (!r0.1.1.1)
  (some ((((false, ()), ()), ())))
  (cond ((a0.2.1 != a1.2.1))
    (some ((((false, ()), ()), ())))
    (cond ((a0.2.2 != a1.2.2))
      (some ((((false, ()), ()), ())))
      (some ((((true, ()), ()), ())))))

noncomputable def laws_eqDisk (n : Nat) (a0 : (List (Int)) × ((Int) × (Int))) (a1 : (List (Int)) × ((Int) × (Int))) : Option ((((Bool) × (Unit)) × (Unit)) × (Unit)) := laws_eqDisk_t n a0 a1

noncomputable def laws_eqFrac_t (n : Nat) (a0 : (Int) × (Int)) (a1 : (Int) × (Int)) : Option ((((Bool) × (Unit)) × (Unit)) × (Unit)) :=
  cond ((a0.1 != a1.1))
  (some ((((false, ()), ()), ())))
  (cond ((a0.2 != a1.2))
    (some ((((false, ()), ()), ())))
    (some ((((true, ()), ()), ()))))

noncomputable def laws_eqFrac (n : Nat) (a0 : (Int) × (Int)) (a1 : (Int) × (Int)) : Option ((((Bool) × (Unit)) × (Unit)) × (Unit)) := laws_eqFrac_t n a0 a1

noncomputable def laws_eqInt64S_t4 (n : Nat) (g4 : Int → (List (Int)) → (List (Int)) → Option ((((Bool) × (Unit)) × (Unit)) × (Unit))) (v5 : Int) (v1 : List (Int)) (v0 : List (Int)) : Option ((((Bool) × (Unit)) × (Unit)) × (Unit)) :=
  cond (decide (v5 < ((v0.length : Nat) : Int)))
  (cond ((decide (0 ≤ v5) && decide (v5 < ((v0.length : Nat) : Int))))
    (cond ((decide (0 ≤ v5) && decide (v5 < ((v1.length : Nat) : Int))))
      (cond (((v0.getD (Int.toNat v5) 0) != (v1.getD (Int.toNat v5) 0)))
        (some ((((false, ()), ()), ())))
        (g4 ((IntKind.wrap .i64 (v5 + 1))) v1 v0))
      (none))
    (none))
  (some ((((true, ()), ()), ())))

noncomputable def laws_eqInt64S_l4 (n : Nat) : Nat → Int → (List (Int)) → (List (Int)) → Option ((((Bool) × (Unit)) × (Unit)) × (Unit))
  | 0, _, _, _ => none
  | k + 1, v5, v1, v0 => laws_eqInt64S_t4 n (laws_eqInt64S_l4 n k) v5 v1 v0

noncomputable def laws_eqInt64S_t (n : Nat) (h4 : Nat → Int → (List (Int)) → (List (Int)) → Option ((((Bool) × (Unit)) × (Unit)) × (Unit))) (a0 : List (Int)) (a1 : List (Int)) : Option ((((Bool) × (Unit)) × (Unit)) × (Unit)) :=
  cond ((((a0.length : Nat) : Int) != ((a1.length : Nat) : Int)))
  (some ((((false, ()), ()), ())))
  (h4 n 0 a1 a0)

noncomputable def laws_eqInt64S (n : Nat) (a0 : List (Int)) (a1 : List (Int)) : Option ((((Bool) × (Unit)) × (Unit)) × (Unit)) := laws_eqInt64S_t n (laws_eqInt64S_l4 n) a0 a1

noncomputable def laws_heldInt64S_t2 (n : Nat) (g2 : Int → Int → (List (Int)) → Option ((((Int) × (Unit)) × (Unit)) × (Unit))) (v5 : Int) (v1 : Int) (v0 : List (Int)) : Option ((((Int) × (Unit)) × (Unit)) × (Unit)) :=
  cond (decide (v5 < ((v0.length : Nat) : Int)))
  (cond ((decide (0 ≤ v5) && decide (v5 < ((v0.length : Nat) : Int))))
    (cond (((v0.getD (Int.toNat v5) 0) != v1))
      (some (((((-1), ()), ()), ())))
      (g2 ((IntKind.wrap .i64 (v5 + 1))) ((IntKind.wrap .i64 (v1 + 1))) v0))
    (none))
  (some ((((v1, ()), ()), ())))

noncomputable def laws_heldInt64S_l2 (n : Nat) : Nat → Int → Int → (List (Int)) → Option ((((Int) × (Unit)) × (Unit)) × (Unit))
  | 0, _, _, _ => none
  | k + 1, v5, v1, v0 => laws_heldInt64S_t2 n (laws_heldInt64S_l2 n k) v5 v1 v0

noncomputable def laws_heldInt64S_t (n : Nat) (h2 : Nat → Int → Int → (List (Int)) → Option ((((Int) × (Unit)) × (Unit)) × (Unit))) (a0 : List (Int)) (a1 : Int) : Option ((((Int) × (Unit)) × (Unit)) × (Unit)) :=
  h2 n 0 a1 a0

noncomputable def laws_heldInt64S (n : Nat) (a0 : List (Int)) (a1 : Int) : Option ((((Int) × (Unit)) × (Unit)) × (Unit)) := laws_heldInt64S_t n (laws_heldInt64S_l2 n) a0 a1

noncomputable def laws_markInt16S_t2 (n : Nat) (g2 : Int → Int → (List (Int)) → Option ((((Int) × (Unit)) × (Unit)) × ((List (Int)) × (Unit)))) (v5 : Int) (v1 : Int) (b0 : List (Int)) : Option ((((Int) × (Unit)) × (Unit)) × ((List (Int)) × (Unit))) :=
  cond (decide (v5 < ((b0.length : Nat) : Int)))
  (cond ((decide (0 ≤ v5) && decide (v5 < ((b0.length : Nat) : Int))))
    (g2 ((IntKind.wrap .i64 (v5 + 1))) ((IntKind.wrap .i64 (v1 + 1))) ((b0.set (Int.toNat v5) (IntKind.wrap .i16 v1))))
    (none))
  (some ((((v1, ()), ()), (b0, ()))))

noncomputable def laws_markInt16S_l2 (n : Nat) : Nat → Int → Int → (List (Int)) → Option ((((Int) × (Unit)) × (Unit)) × ((List (Int)) × (Unit)))
  | 0, _, _, _ => none
  | k + 1, v5, v1, b0 => laws_markInt16S_t2 n (laws_markInt16S_l2 n k) v5 v1 b0

noncomputable def laws_markInt16S_t (n : Nat) (h2 : Nat → Int → Int → (List (Int)) → Option ((((Int) × (Unit)) × (Unit)) × ((List (Int)) × (Unit)))) (a1 : Int) (b0 : List (Int)) : Option ((((Int) × (Unit)) × (Unit)) × ((List (Int)) × (Unit))) :=
  h2 n 0 a1 b0

noncomputable def laws_markInt16S (n : Nat) (a1 : Int) (b0 : List (Int)) : Option ((((Int) × (Unit)) × (Unit)) × ((List (Int)) × (Unit))) := laws_markInt16S_t n (laws_markInt16S_l2 n) a1 b0

noncomputable def laws_markDisk_t (n : Nat) (a0 : ((Int) × (Int)) × (Unit)) (a1 : Int) (b0 : List (Int)) : Option ((((Int) × (Unit)) × (Unit)) × ((List (Int)) × (Unit))) :=
  (laws_markInt16S n a1 b0).bind fun r0 =>
  some ((((r0.1.1.1, ()), ()), (r0.2.1, ())))

noncomputable def laws_markDisk (n : Nat) (a0 : ((Int) × (Int)) × (Unit)) (a1 : Int) (b0 : List (Int)) : Option ((((Int) × (Unit)) × (Unit)) × ((List (Int)) × (Unit))) := laws_markDisk_t n a0 a1 b0

noncomputable def laws_markInt64S_t2 (n : Nat) (g2 : Int → Int → (List (Int)) → Option ((((Int) × (Unit)) × (Unit)) × ((List (Int)) × (Unit)))) (v5 : Int) (v1 : Int) (b0 : List (Int)) : Option ((((Int) × (Unit)) × (Unit)) × ((List (Int)) × (Unit))) :=
  cond (decide (v5 < ((b0.length : Nat) : Int)))
  (cond ((decide (0 ≤ v5) && decide (v5 < ((b0.length : Nat) : Int))))
    (g2 ((IntKind.wrap .i64 (v5 + 1))) ((IntKind.wrap .i64 (v1 + 1))) ((b0.set (Int.toNat v5) v1)))
    (none))
  (some ((((v1, ()), ()), (b0, ()))))

noncomputable def laws_markInt64S_l2 (n : Nat) : Nat → Int → Int → (List (Int)) → Option ((((Int) × (Unit)) × (Unit)) × ((List (Int)) × (Unit)))
  | 0, _, _, _ => none
  | k + 1, v5, v1, b0 => laws_markInt64S_t2 n (laws_markInt64S_l2 n k) v5 v1 b0

noncomputable def laws_markInt64S_t (n : Nat) (h2 : Nat → Int → Int → (List (Int)) → Option ((((Int) × (Unit)) × (Unit)) × ((List (Int)) × (Unit)))) (a1 : Int) (b0 : List (Int)) : Option ((((Int) × (Unit)) × (Unit)) × ((List (Int)) × (Unit))) :=
  h2 n 0 a1 b0

noncomputable def laws_markInt64S (n : Nat) (a1 : Int) (b0 : List (Int)) : Option ((((Int) × (Unit)) × (Unit)) × ((List (Int)) × (Unit))) := laws_markInt64S_t n (laws_markInt64S_l2 n) a1 b0

noncomputable def laws_szInt16S_t (n : Nat) (a0 : List (Int)) (a1 : Int) : Option ((((Int) × (Unit)) × (Unit)) × (Unit)) :=
  cond (decide ((IntKind.wrap .i64 (a1 - ((a0.length : Nat) : Int))) < 0))
  (some (((((-1), ()), ()), ())))
  (some (((((IntKind.wrap .i64 (a1 - ((a0.length : Nat) : Int))), ()), ()), ())))

noncomputable def laws_szInt16S (n : Nat) (a0 : List (Int)) (a1 : Int) : Option ((((Int) × (Unit)) × (Unit)) × (Unit)) := laws_szInt16S_t n a0 a1

noncomputable def laws_szDisk_t (n : Nat) (a0 : (List (Int)) × ((Int) × (Int))) (a1 : Int) : Option ((((Int) × (Unit)) × (Unit)) × (Unit)) :=
  (laws_szInt16S n a0.1 a1).bind fun r0 =>
  cond (decide (r0.1.1.1 < 0))
  (some (((((-1), ()), ()), ())))
  (some ((((r0.1.1.1, ()), ()), ())))

noncomputable def laws_szDisk (n : Nat) (a0 : (List (Int)) × ((Int) × (Int))) (a1 : Int) : Option ((((Int) × (Unit)) × (Unit)) × (Unit)) := laws_szDisk_t n a0 a1

noncomputable def laws_toInt16S_t3 (n : Nat) (g3 : Int → (List (Int)) → (List (Int)) → Option ((((List (Int)) × (Unit)) × (Unit)) × (Unit))) (v4 : Int) (v0 : List (Int)) (b0 : List (Int)) : Option ((((List (Int)) × (Unit)) × (Unit)) × (Unit)) :=
  cond (decide (v4 < ((v0.length : Nat) : Int)))
  (cond ((decide (0 ≤ v4) && decide (v4 < ((v0.length : Nat) : Int))))
    (cond ((decide (0 ≤ v4) && decide (v4 < ((b0.length : Nat) : Int))))
      (g3 ((IntKind.wrap .i64 (v4 + 1))) v0 ((b0.set (Int.toNat v4) (v0.getD (Int.toNat v4) 0))))
      (none))
    (none))
  (some ((((b0, ()), ()), ())))

noncomputable def laws_toInt16S_l3 (n : Nat) : Nat → Int → (List (Int)) → (List (Int)) → Option ((((List (Int)) × (Unit)) × (Unit)) × (Unit))
  | 0, _, _, _ => none
  | k + 1, v4, v0, b0 => laws_toInt16S_t3 n (laws_toInt16S_l3 n k) v4 v0 b0

noncomputable def laws_toInt16S_t (n : Nat) (h3 : Nat → Int → (List (Int)) → (List (Int)) → Option ((((List (Int)) × (Unit)) × (Unit)) × (Unit))) (a0 : List (Int)) : Option ((((List (Int)) × (Unit)) × (Unit)) × (Unit)) :=
  cond ((((((a0.length : Nat) : Int) == ((a0.length : Nat) : Int)) && decide (0 ≤ ((a0.length : Nat) : Int))) && decide (((Int.toNat ((a0.length : Nat) : Int)) * 3) ≤ 70368744177664)))
  (h3 n 0 a0 ((List.replicate (Int.toNat ((a0.length : Nat) : Int)) 0)))
  (none)

noncomputable def laws_toInt16S (n : Nat) (a0 : List (Int)) : Option ((((List (Int)) × (Unit)) × (Unit)) × (Unit)) := laws_toInt16S_t n (laws_toInt16S_l3 n) a0

noncomputable def laws_toDisk_t (n : Nat) (a0 : (List (Int)) × ((Int) × (Int))) : Option ((((List (Int)) × (((Int) × (Int)) × (Unit))) × (Unit)) × (Unit)) :=
  (laws_toInt16S n a0.1).bind fun r0 =>
  some ((((r0.1.1.1, ((a0.2.1, a0.2.2), ())), ()), ()))

noncomputable def laws_toDisk (n : Nat) (a0 : (List (Int)) × ((Int) × (Int))) : Option ((((List (Int)) × (((Int) × (Int)) × (Unit))) × (Unit)) × (Unit)) := laws_toDisk_t n a0

noncomputable def spec_l03Drawing_t (n : Nat) (b0 : (List (Int)) × ((Int) × (Int))) : Option ((((Int) × (Unit)) × (Unit)) × (((List (Int)) × ((Int) × (Int))) × (Unit))) :=
  (spec_l00Src_pick n 12 ((b0.1, (b0.2.1, b0.2.2)))).bind fun r0 =>
  cond ((r0.1.1.1 == 0))
  ((spec_l00Src_among n ((r0.2.1.1, (r0.2.1.2.1, r0.2.1.2.2))) ((0 :: (324000 :: (648000 :: (972000 :: (1295999 :: ((-1) :: (1296000 :: []))))))))).bind fun r1 =>
    some ((((r1.1.1.1, ()), ()), ((r1.2.1.1, (r1.2.1.2.1, r1.2.1.2.2)), ()))))
  (cond ((r0.1.1.1 == 1))
    ((spec_l00Src_pick n 60 ((r0.2.1.1, (r0.2.1.2.1, r0.2.1.2.2)))).bind fun r2 =>
      some ((((r2.1.1.1, ()), ()), ((r2.2.1.1, (r2.2.1.2.1, r2.2.1.2.2)), ()))))
    ((spec_l00Src_pick n 1296 ((r0.2.1.1, (r0.2.1.2.1, r0.2.1.2.2)))).bind fun r3 =>
      some (((((IntKind.wrap .i64 (r3.1.1.1 * 1000)), ()), ()), ((r3.2.1.1, (r3.2.1.2.1, r3.2.1.2.2)), ())))))

noncomputable def spec_l03Drawing (n : Nat) (b0 : (List (Int)) × ((Int) × (Int))) : Option ((((Int) × (Unit)) × (Unit)) × (((List (Int)) × ((Int) × (Int))) × (Unit))) := spec_l03Drawing_t n b0

noncomputable def spec_A2Angle_t (n : Nat) (a0 : List (Int)) : Option ((((Int) × (Unit)) × (Unit)) × (Unit)) :=
  (spec_l00From n a0).bind fun r0 =>
  (spec_l03Drawing n ((r0.1.1.1.1, (r0.1.1.1.2.1, r0.1.1.1.2.2)))).bind fun r1 =>
  (spec_l03Wrap n r1.1.1.1).bind fun r2 =>
  some ((((r2.1.1.1, ()), ()), ()))

noncomputable def spec_A2Angle (n : Nat) (a0 : List (Int)) : Option ((((Int) × (Unit)) × (Unit)) × (Unit)) := spec_A2Angle_t n a0

noncomputable def spec_l03Sectors_t4 (n : Nat) (g4 : Int → (List (Int)) → Option ((((Int) × (Unit)) × (Unit)) × (Unit))) (v3 : Int) (v0 : List (Int)) : Option ((((Int) × (Unit)) × (Unit)) × (Unit)) :=
  cond (decide (v3 < ((v0.length : Nat) : Int)))
  (cond ((decide (0 ≤ v3) && decide (v3 < ((v0.length : Nat) : Int))))
    ((spec_l00In n ((v0.getD (Int.toNat v3) 0)) 1 1296000).bind fun r1 =>
      cond (!r1.1.1.1)
      (some ((((2, ()), ()), ())))
      (g4 ((IntKind.wrap .i64 (v3 + 1))) v0))
    (none))
  (some ((((0, ()), ()), ())))

noncomputable def spec_l03Sectors_l4 (n : Nat) : Nat → Int → (List (Int)) → Option ((((Int) × (Unit)) × (Unit)) × (Unit))
  | 0, _, _ => none
  | k + 1, v3, v0 => spec_l03Sectors_t4 n (spec_l03Sectors_l4 n k) v3 v0

noncomputable def spec_l03Sectors_t (n : Nat) (h4 : Nat → Int → (List (Int)) → Option ((((Int) × (Unit)) × (Unit)) × (Unit))) (a0 : List (Int)) : Option ((((Int) × (Unit)) × (Unit)) × (Unit)) :=
  (spec_l00In n (((a0.length : Nat) : Int)) 1 72).bind fun r0 =>
  cond (!r0.1.1.1)
  (some ((((2, ()), ()), ())))
  (h4 n 0 a0)

noncomputable def spec_l03Sectors (n : Nat) (a0 : List (Int)) : Option ((((Int) × (Unit)) × (Unit)) × (Unit)) := spec_l03Sectors_t n (spec_l03Sectors_l4 n) a0

noncomputable def spec_l03Closing_t3 (n : Nat) (g3 : Int → (List (Int)) → Int → Option ((((Int) × (Unit)) × (Unit)) × (Unit))) (v4 : Int) (v0 : List (Int)) (v3 : Int) : Option ((((Int) × (Unit)) × (Unit)) × (Unit)) :=
  cond (decide (v4 < ((v0.length : Nat) : Int)))
  (cond ((decide (0 ≤ v4) && decide (v4 < ((v0.length : Nat) : Int))))
    (g3 ((IntKind.wrap .i64 (v4 + 1))) v0 ((IntKind.wrap .i64 (v3 + (v0.getD (Int.toNat v4) 0)))))
    (none))
  (some ((((v3, ()), ()), ())))

noncomputable def spec_l03Closing_l3 (n : Nat) : Nat → Int → (List (Int)) → Int → Option ((((Int) × (Unit)) × (Unit)) × (Unit))
  | 0, _, _, _ => none
  | k + 1, v4, v0, v3 => spec_l03Closing_t3 n (spec_l03Closing_l3 n k) v4 v0 v3

noncomputable def spec_l03Closing_t (n : Nat) (h3 : Nat → Int → (List (Int)) → Int → Option ((((Int) × (Unit)) × (Unit)) × (Unit))) (a0 : List (Int)) : Option ((((Int) × (Unit)) × (Unit)) × (Unit)) :=
  h3 n 0 a0 (-1296000)

noncomputable def spec_l03Closing (n : Nat) (a0 : List (Int)) : Option ((((Int) × (Unit)) × (Unit)) × (Unit)) := spec_l03Closing_t n (spec_l03Closing_l3 n) a0

noncomputable def spec_l03Shared_t5 (n : Nat) (g5 : Int → Int → Int → (List (Int)) → (List (Int)) → Option ((((List (Int)) × (Unit)) × (Unit)) × (Unit))) (v6 : Int) (v3 : Int) (v4 : Int) (v0 : List (Int)) (b0 : List (Int)) : Option ((((List (Int)) × (Unit)) × (Unit)) × (Unit)) :=
  cond (decide (v6 < v3))
  (cond ((decide (0 ≤ v6) && decide (v6 < ((v0.length : Nat) : Int))))
    ((spec_l01Down n ((IntKind.wrap .i64 ((IntKind.wrap .i64 (v6 + 1)) * v4))) v3).bind fun r1 =>
      (spec_l01Down n ((IntKind.wrap .i64 (v6 * v4))) v3).bind fun r2 =>
      cond (decide (((b0.length + ((IntKind.wrap .i64 ((v0.getD (Int.toNat v6) 0) - (IntKind.wrap .i64 (r1.1.1.1 - r2.1.1.1)))) :: []).length) * 9) ≤ 70368744177664))
      (g5 ((IntKind.wrap .i64 (v6 + 1))) v3 v4 v0 ((b0 ++ ((IntKind.wrap .i64 ((v0.getD (Int.toNat v6) 0) - (IntKind.wrap .i64 (r1.1.1.1 - r2.1.1.1)))) :: []))))
      (none))
    (none))
  (some ((((b0, ()), ()), ())))

noncomputable def spec_l03Shared_l5 (n : Nat) : Nat → Int → Int → Int → (List (Int)) → (List (Int)) → Option ((((List (Int)) × (Unit)) × (Unit)) × (Unit))
  | 0, _, _, _, _, _ => none
  | k + 1, v6, v3, v4, v0, b0 => spec_l03Shared_t5 n (spec_l03Shared_l5 n k) v6 v3 v4 v0 b0

noncomputable def spec_l03Shared_t (n : Nat) (h5 : Nat → Int → Int → Int → (List (Int)) → (List (Int)) → Option ((((List (Int)) × (Unit)) × (Unit)) × (Unit))) (a0 : List (Int)) : Option ((((List (Int)) × (Unit)) × (Unit)) × (Unit)) :=
  (spec_l03Closing n a0).bind fun r0 =>
  h5 n 0 (((a0.length : Nat) : Int)) r0.1.1.1 a0 []

noncomputable def spec_l03Shared (n : Nat) (a0 : List (Int)) : Option ((((List (Int)) × (Unit)) × (Unit)) × (Unit)) := spec_l03Shared_t n (spec_l03Shared_l5 n) a0

noncomputable def spec_FaultsFrom_t10 (n : Nat) (g10 : Int → Int → (List (Int)) → (List (Int)) → Option ((((List (Int)) × (Unit)) × (((Int) × (Unit)) × (Unit))) × (Unit))) (v8 : Int) (v5 : Int) (b0 : List (Int)) (b1 : List (Int)) : Option ((((List (Int)) × (Unit)) × (((Int) × (Unit)) × (Unit))) × (Unit)) :=
  cond (decide (v8 < v5))
  (cond ((decide (0 ≤ (IntKind.wrap .i64 (v8 - 1))) && decide ((IntKind.wrap .i64 (v8 - 1)) < ((b1.length : Nat) : Int))))
    (cond ((decide (0 ≤ (IntKind.wrap .i64 (v8 - 1))) && decide ((IntKind.wrap .i64 (v8 - 1)) < ((b0.length : Nat) : Int))))
      (cond ((v5 != 0))
        (cond (decide (((b1.length + ((IntKind.wrap .i64 ((IntKind.wrap .i64 ((b1.getD (Int.toNat (IntKind.wrap .i64 (v8 - 1))) 0) + (b0.getD (Int.toNat (IntKind.wrap .i64 (v8 - 1))) 0))) - (IntKind.wrap .i64 (Int.tdiv 1296000 v5)))) :: []).length) * 9) ≤ 70368744177664))
          (g10 ((IntKind.wrap .i64 (v8 + 1))) v5 b0 ((b1 ++ ((IntKind.wrap .i64 ((IntKind.wrap .i64 ((b1.getD (Int.toNat (IntKind.wrap .i64 (v8 - 1))) 0) + (b0.getD (Int.toNat (IntKind.wrap .i64 (v8 - 1))) 0))) - (IntKind.wrap .i64 (Int.tdiv 1296000 v5)))) :: []))))
          (none))
        (none))
      (none))
    (none))
  (some ((((b1, ()), ((0, ()), ())), ())))

noncomputable def spec_FaultsFrom_l10 (n : Nat) : Nat → Int → Int → (List (Int)) → (List (Int)) → Option ((((List (Int)) × (Unit)) × (((Int) × (Unit)) × (Unit))) × (Unit))
  | 0, _, _, _, _ => none
  | k + 1, v8, v5, b0, b1 => spec_FaultsFrom_t10 n (spec_FaultsFrom_l10 n k) v8 v5 b0 b1

noncomputable def spec_FaultsFrom_t (n : Nat) (h10 : Nat → Int → Int → (List (Int)) → (List (Int)) → Option ((((List (Int)) × (Unit)) × (((Int) × (Unit)) × (Unit))) × (Unit))) (a0 : List (Int)) : Option ((((List (Int)) × (Unit)) × (((Int) × (Unit)) × (Unit))) × (Unit)) :=
  (spec_l03Sectors n a0).bind fun r0 =>
  cond ((r0.1.1.1 != 0))
  (some (((([], ()), ((r0.1.1.1, ()), ())), ())))
  (cond ((((a0.length : Nat) : Int) != 0))
    (cond (((Int.tmod 1296000 ((a0.length : Nat) : Int)) != 0))
      (some (((([], ()), ((4, ()), ())), ())))
      ((spec_l03Shared n a0).bind fun r1 =>
        h10 n 1 (((a0.length : Nat) : Int)) r1.1.1.1 ((0 :: []))))
    (none))

noncomputable def spec_FaultsFrom (n : Nat) (a0 : List (Int)) : Option ((((List (Int)) × (Unit)) × (((Int) × (Unit)) × (Unit))) × (Unit)) := spec_FaultsFrom_t n (spec_FaultsFrom_l10 n) a0

noncomputable def spec_ShareClosing_t (n : Nat) (a0 : List (Int)) : Option ((((List (Int)) × (Unit)) × (((Int) × (Unit)) × (Unit))) × (Unit)) :=
  (spec_l03Sectors n a0).bind fun r0 =>
  cond ((r0.1.1.1 != 0))
  (some (((([], ()), ((r0.1.1.1, ()), ())), ())))
  ((spec_l03Shared n a0).bind fun r1 =>
    some ((((r1.1.1.1, ()), ((0, ()), ())), ())))

noncomputable def spec_ShareClosing (n : Nat) (a0 : List (Int)) : Option ((((List (Int)) × (Unit)) × (((Int) × (Unit)) × (Unit))) × (Unit)) := spec_ShareClosing_t n a0

noncomputable def spec_l01Abs_t (n : Nat) (a0 : Int) : Option ((((Int) × (Unit)) × (Unit)) × (Unit)) :=
  cond (decide (a0 < 0))
  (some (((((IntKind.wrap .i64 (0 - a0)), ()), ()), ())))
  (some ((((a0, ()), ()), ())))

noncomputable def spec_l01Abs (n : Nat) (a0 : Int) : Option ((((Int) × (Unit)) × (Unit)) × (Unit)) := spec_l01Abs_t n a0

noncomputable def spec_l01Gcd_t1 (n : Nat) (g1 : Int → Int → Option ((((Int) × (Unit)) × (Unit)) × (Unit))) (v1 : Int) (v0 : Int) : Option ((((Int) × (Unit)) × (Unit)) × (Unit)) :=
  cond ((v1 != 0))
  (cond ((v1 != 0))
    (g1 ((Int.tmod v0 v1)) v1)
    (none))
  (some ((((v0, ()), ()), ())))

noncomputable def spec_l01Gcd_l1 (n : Nat) : Nat → Int → Int → Option ((((Int) × (Unit)) × (Unit)) × (Unit))
  | 0, _, _ => none
  | k + 1, v1, v0 => spec_l01Gcd_t1 n (spec_l01Gcd_l1 n k) v1 v0

noncomputable def spec_l01Gcd_t (n : Nat) (h1 : Nat → Int → Int → Option ((((Int) × (Unit)) × (Unit)) × (Unit))) (a0 : Int) (a1 : Int) : Option ((((Int) × (Unit)) × (Unit)) × (Unit)) :=
  h1 n a1 a0

noncomputable def spec_l01Gcd (n : Nat) (a0 : Int) (a1 : Int) : Option ((((Int) × (Unit)) × (Unit)) × (Unit)) := spec_l01Gcd_t n (spec_l01Gcd_l1 n) a0 a1

noncomputable def spec_l01Ok_t (n : Nat) (a0 : (Int) × (Int)) : Option ((((Bool) × (Unit)) × (Unit)) × (Unit)) :=
  (spec_l00In n a0.2 1 1000000000).bind fun r0 =>
  cond r0.1.1.1
  ((spec_l00In n a0.1 (-1000000000) 1000000000).bind fun r1 =>
    cond r1.1.1.1
    ((spec_l01Abs n a0.1).bind fun r2 =>
      (spec_l01Gcd n r2.1.1.1 a0.2).bind fun r3 =>
      some (((((r3.1.1.1 == 1), ()), ()), ())))
    (some ((((false, ()), ()), ()))))
  (some ((((false, ()), ()), ())))

noncomputable def spec_l01Ok (n : Nat) (a0 : (Int) × (Int)) : Option ((((Bool) × (Unit)) × (Unit)) × (Unit)) := spec_l01Ok_t n a0

noncomputable def spec_l01Reduced_t (n : Nat) (a0 : Int) (a1 : Int) : Option (((((Int) × (Int)) × (Unit)) × (((Int) × (Unit)) × (Unit))) × (Unit)) :=
  (spec_l01Abs n a0).bind fun r0 =>
  (spec_l01Abs n a1).bind fun r1 =>
  (spec_l01Gcd n r0.1.1.1 r1.1.1.1).bind fun r2 =>
  cond ((r2.1.1.1 != 0))
  (cond ((r2.1.1.1 != 0))
    (cond (decide ((IntKind.wrap .i64 (Int.tdiv a1 r2.1.1.1)) < 0))
      ((spec_l01Ok n (((IntKind.wrap .i64 (0 - (IntKind.wrap .i64 (Int.tdiv a0 r2.1.1.1)))), (IntKind.wrap .i64 (0 - (IntKind.wrap .i64 (Int.tdiv a1 r2.1.1.1))))))).bind fun r3 =>
        cond (!r3.1.1.1)
        (some (((((0, 0), ()), ((3, ()), ())), ())))
        (some ((((((IntKind.wrap .i64 (0 - (IntKind.wrap .i64 (Int.tdiv a0 r2.1.1.1)))), (IntKind.wrap .i64 (0 - (IntKind.wrap .i64 (Int.tdiv a1 r2.1.1.1))))), ()), ((0, ()), ())), ()))))
      ((spec_l01Ok n (((IntKind.wrap .i64 (Int.tdiv a0 r2.1.1.1)), (IntKind.wrap .i64 (Int.tdiv a1 r2.1.1.1))))).bind fun r4 =>
        cond (!r4.1.1.1)
        (some (((((0, 0), ()), ((3, ()), ())), ())))
        (some ((((((IntKind.wrap .i64 (Int.tdiv a0 r2.1.1.1)), (IntKind.wrap .i64 (Int.tdiv a1 r2.1.1.1))), ()), ((0, ()), ())), ())))))
    (none))
  (none)

noncomputable def spec_l01Reduced (n : Nat) (a0 : Int) (a1 : Int) : Option (((((Int) × (Int)) × (Unit)) × (((Int) × (Unit)) × (Unit))) × (Unit)) := spec_l01Reduced_t n a0 a1

noncomputable def spec_l03Angle_t (n : Nat) (a0 : Int) : Option ((((Bool) × (Unit)) × (Unit)) × (Unit)) :=
  (spec_l00In n a0 0 1295999).bind fun r0 =>
  some ((((r0.1.1.1, ()), ()), ()))

noncomputable def spec_l03Angle (n : Nat) (a0 : Int) : Option ((((Bool) × (Unit)) × (Unit)) × (Unit)) := spec_l03Angle_t n a0

noncomputable def spec_l03Asked_t (n : Nat) (a1 : Int) (b0 : (List (Int)) × ((Int) × (Int))) : Option ((((Int) × (Unit)) × (Unit)) × (((List (Int)) × ((Int) × (Int))) × (Unit))) :=
  (spec_l03Ok n ((b0.1, (b0.2.1, b0.2.2)))).bind fun r0 =>
  cond (!r0.1.1.1)
  (some ((((1, ()), ()), ((r0.2.1.1, (r0.2.1.2.1, r0.2.1.2.2)), ()))))
  ((spec_l03Angle n a1).bind fun r1 =>
    cond (!r1.1.1.1)
    (some ((((1, ()), ()), ((r0.2.1.1, (r0.2.1.2.1, r0.2.1.2.2)), ()))))
    (some ((((0, ()), ()), ((r0.2.1.1, (r0.2.1.2.1, r0.2.1.2.2)), ())))))

noncomputable def spec_l03Asked (n : Nat) (a1 : Int) (b0 : (List (Int)) × ((Int) × (Int))) : Option ((((Int) × (Unit)) × (Unit)) × (((List (Int)) × ((Int) × (Int))) × (Unit))) := spec_l03Asked_t n a1 b0

noncomputable def spec_l03Least_t (n : Nat) (a1 : Int) (a2 : Int) (b0 : (List (Int)) × ((Int) × (Int))) : Option ((((Int) × (Unit)) × (Unit)) × (((List (Int)) × ((Int) × (Int))) × (Unit))) :=
  (spec_l03Asked n a1 ((b0.1, (b0.2.1, b0.2.2)))).bind fun r0 =>
  cond ((r0.1.1.1 == 0))
  ((spec_l00In n a2 1 3600).bind fun r1 =>
    cond (!r1.1.1.1)
    (some ((((2, ()), ()), ((r0.2.1.1, (r0.2.1.2.1, r0.2.1.2.2)), ()))))
    (some ((((r0.1.1.1, ()), ()), ((r0.2.1.1, (r0.2.1.2.1, r0.2.1.2.2)), ())))))
  (some ((((r0.1.1.1, ()), ()), ((r0.2.1.1, (r0.2.1.2.1, r0.2.1.2.2)), ()))))

noncomputable def spec_l03Least (n : Nat) (a1 : Int) (a2 : Int) (b0 : (List (Int)) × ((Int) × (Int))) : Option ((((Int) × (Unit)) × (Unit)) × (((List (Int)) × ((Int) × (Int))) × (Unit))) := spec_l03Least_t n a1 a2 b0

end Go.Abs
