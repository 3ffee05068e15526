import Derived.Test.YtipjecagbndhbaaLib
namespace Go.Abs
set_option linter.unusedVariables false

noncomputable def laws_a2Long_t (n : Nat) (a0 : List (Int)) (a1 : List (Int)) : Option ((((Bool) × (Unit)) × (Unit)) × (Unit)) :=
  cond (decide (((a0.length : Nat) : Int) > 3000))
  (some ((((true, ()), ()), ())))
  (some ((((decide (((a1.length : Nat) : Int) > 3000), ()), ()), ())))

noncomputable def laws_a2Long (n : Nat) (a0 : List (Int)) (a1 : List (Int)) : Option ((((Bool) × (Unit)) × (Unit)) × (Unit)) := laws_a2Long_t n a0 a1

noncomputable def spec_l00From_t (n : Nat) (a0 : List (Int)) : Option (((((List (Int)) × ((Int) × (Int))) × (Unit)) × (Unit)) × (Unit)) :=
  some (((((a0, (0, 0)), ()), ()), ()))

noncomputable def spec_l00From (n : Nat) (a0 : List (Int)) : Option (((((List (Int)) × ((Int) × (Int))) × (Unit)) × (Unit)) × (Unit)) := spec_l00From_t n a0

noncomputable def spec_l00Src_next_t (n : Nat) (b0 : (List (Int)) × ((Int) × (Int))) : Option ((((Int) × (Unit)) × (Unit)) × (((List (Int)) × ((Int) × (Int))) × (Unit))) :=
  cond (decide (b0.2.1 < ((b0.1.length : Nat) : Int)))
  (cond ((decide (0 ≤ b0.2.1) && decide (b0.2.1 < ((b0.1.length : Nat) : Int))))
    (cond (decide ((IntKind.wrap .i64 (b0.2.1 + 1)) ≤ ((b0.1.length : Nat) : Int)))
      (some (((((IntKind.wrap .i64 (b0.1.getD (Int.toNat b0.2.1) 0)), ()), ()), ((b0.1, ((IntKind.wrap .i64 (b0.2.1 + 1)), (IntKind.wrap .u64 ((IntKind.wrap .u64 ((IntKind.wrap .u64 (b0.2.2 * 6364136223846793005)) + (IntKind.wrap .u64 (IntKind.wrap .i64 (b0.1.getD (Int.toNat b0.2.1) 0))))) + 1442695040888963407)))), ()))))
      (some (((((IntKind.wrap .i64 (andInt .u64 (shrInt .u64 (IntKind.wrap .u64 ((IntKind.wrap .u64 ((IntKind.wrap .u64 (b0.2.2 * 6364136223846793005)) + (IntKind.wrap .u64 (IntKind.wrap .i64 (b0.1.getD (Int.toNat b0.2.1) 0))))) + 1442695040888963407)) 40) 255)), ()), ()), ((b0.1, ((IntKind.wrap .i64 (b0.2.1 + 1)), (IntKind.wrap .u64 ((IntKind.wrap .u64 ((IntKind.wrap .u64 (b0.2.2 * 6364136223846793005)) + (IntKind.wrap .u64 (IntKind.wrap .i64 (b0.1.getD (Int.toNat b0.2.1) 0))))) + 1442695040888963407)))), ())))))
    (none))
  (cond (decide ((IntKind.wrap .i64 (b0.2.1 + 1)) ≤ ((b0.1.length : Nat) : Int)))
    (some ((((0, ()), ()), ((b0.1, ((IntKind.wrap .i64 (b0.2.1 + 1)), (IntKind.wrap .u64 ((IntKind.wrap .u64 ((IntKind.wrap .u64 (b0.2.2 * 6364136223846793005)) + (IntKind.wrap .u64 0))) + 1442695040888963407)))), ()))))
    (some (((((IntKind.wrap .i64 (andInt .u64 (shrInt .u64 (IntKind.wrap .u64 ((IntKind.wrap .u64 ((IntKind.wrap .u64 (b0.2.2 * 6364136223846793005)) + (IntKind.wrap .u64 0))) + 1442695040888963407)) 40) 255)), ()), ()), ((b0.1, ((IntKind.wrap .i64 (b0.2.1 + 1)), (IntKind.wrap .u64 ((IntKind.wrap .u64 ((IntKind.wrap .u64 (b0.2.2 * 6364136223846793005)) + (IntKind.wrap .u64 0))) + 1442695040888963407)))), ())))))

noncomputable def spec_l00Src_next (n : Nat) (b0 : (List (Int)) × ((Int) × (Int))) : Option ((((Int) × (Unit)) × (Unit)) × (((List (Int)) × ((Int) × (Int))) × (Unit))) := spec_l00Src_next_t n b0

noncomputable def spec_l00Src_pick_t (n : Nat) (a1 : Int) (b0 : (List (Int)) × ((Int) × (Int))) : Option ((((Int) × (Unit)) × (Unit)) × (((List (Int)) × ((Int) × (Int))) × (Unit))) :=
  cond (decide (a1 ≤ 1))
  (some ((((0, ()), ()), ((b0.1, (b0.2.1, b0.2.2)), ()))))
  ((spec_l00Src_next n ((b0.1, (b0.2.1, b0.2.2)))).bind fun r0 =>
    cond (decide (a1 > 200))
    ((spec_l00Src_next n ((r0.2.1.1, (r0.2.1.2.1, r0.2.1.2.2)))).bind fun r1 =>
      cond ((a1 != 0))
      (some (((((Int.tmod (IntKind.wrap .i64 ((IntKind.wrap .i64 (r0.1.1.1 * 256)) + r1.1.1.1)) a1), ()), ()), ((r1.2.1.1, (r1.2.1.2.1, r1.2.1.2.2)), ()))))
      (none))
    (cond ((a1 != 0))
      (some (((((Int.tmod r0.1.1.1 a1), ()), ()), ((r0.2.1.1, (r0.2.1.2.1, r0.2.1.2.2)), ()))))
      (none)))

noncomputable def spec_l00Src_pick (n : Nat) (a1 : Int) (b0 : (List (Int)) × ((Int) × (Int))) : Option ((((Int) × (Unit)) × (Unit)) × (((List (Int)) × ((Int) × (Int))) × (Unit))) := spec_l00Src_pick_t n a1 b0

noncomputable def spec_l00Src_among_t (n : Nat) (b0 : (List (Int)) × ((Int) × (Int))) (b1 : List (Int)) : Option ((((Int) × (Unit)) × (Unit)) × (((List (Int)) × ((Int) × (Int))) × ((List (Int)) × (Unit)))) :=
  (spec_l00Src_pick n (((b1.length : Nat) : Int)) ((b0.1, (b0.2.1, b0.2.2)))).bind fun r0 =>
  cond ((decide (0 ≤ r0.1.1.1) && decide (r0.1.1.1 < ((b1.length : Nat) : Int))))
  (some (((((b1.getD (Int.toNat r0.1.1.1) 0), ()), ()), ((r0.2.1.1, (r0.2.1.2.1, r0.2.1.2.2)), (b1, ())))))
  (none)

noncomputable def spec_l00Src_among (n : Nat) (b0 : (List (Int)) × ((Int) × (Int))) (b1 : List (Int)) : Option ((((Int) × (Unit)) × (Unit)) × (((List (Int)) × ((Int) × (Int))) × ((List (Int)) × (Unit)))) := spec_l00Src_among_t n b0 b1

noncomputable def spec_l00Src_one_t (n : Nat) (a1 : Int) (b0 : (List (Int)) × ((Int) × (Int))) : Option ((((Bool) × (Unit)) × (Unit)) × (((List (Int)) × ((Int) × (Int))) × (Unit))) :=
  (spec_l00Src_pick n a1 ((b0.1, (b0.2.1, b0.2.2)))).bind fun r0 =>
  some (((((r0.1.1.1 == 0), ()), ()), ((r0.2.1.1, (r0.2.1.2.1, r0.2.1.2.2)), ())))

noncomputable def spec_l00Src_one (n : Nat) (a1 : Int) (b0 : (List (Int)) × ((Int) × (Int))) : Option ((((Bool) × (Unit)) × (Unit)) × (((List (Int)) × ((Int) × (Int))) × (Unit))) := spec_l00Src_one_t n a1 b0

/- join 8 at { env := [(3, .one (.ref 1 0 0 0 0 0)), (0, .one (.ref 0 0 0 0 0 0)), (2, .one (.ref 2 0 0 0 0 0)), (4, .one (.sc (.int .i64 v4))), (5, .one (.sc (.int .i16 v5)))], bx := [(0, .var 226 [.list true (.int .u8) b0_0, .sc (.int .i64 b0_1), .sc (.int .u64 b0_2)]), (1, .var 62 [.slice 3 0 none, .sc (.int .i64 b1_1), .sc (.int .i64 b1_2)]), (2, .var 62 [.sc (.slice none 0 0), .sc (.int .i64 b2_1), .sc (.int .i64 b2_2)]), (3, .row 0 (.int .i16) b3)], nx := 4 } -/
noncomputable def spec_l03Drawn_t8 (n : Nat) (g3 : Int → (List (Int)) → Int → Int → Int → Int → Int → Int → (List (Int)) → Option (((((List (Int)) × ((Int) × (Int))) × (Unit)) × (Unit)) × (((List (Int)) × ((Int) × (Int))) × (Unit)))) (v4 : Int) (v5 : Int) (b0_0 : List (Int)) (b0_1 : Int) (b0_2 : Int) (b1_1 : Int) (b1_2 : Int) (b2_1 : Int) (b2_2 : Int) (b3 : List (Int)) : Option (((((List (Int)) × ((Int) × (Int))) × (Unit)) × (Unit)) × (((List (Int)) × ((Int) × (Int))) × (Unit))) :=
  cond (decide (((b3.length + (v5 :: []).length) * 3) ≤ 70368744177664))
  (g3 ((IntKind.wrap .i64 (v4 - 1))) b0_0 b0_1 b0_2 b1_1 b1_2 b2_1 b2_2 ((b3 ++ (v5 :: []))))
  (none)

noncomputable def spec_l03Drawn_j8 (n : Nat) (g3 : Int → (List (Int)) → Int → Int → Int → Int → Int → Int → (List (Int)) → Option (((((List (Int)) × ((Int) × (Int))) × (Unit)) × (Unit)) × (((List (Int)) × ((Int) × (Int))) × (Unit)))) (v4 : Int) (v5 : Int) (b0_0 : List (Int)) (b0_1 : Int) (b0_2 : Int) (b1_1 : Int) (b1_2 : Int) (b2_1 : Int) (b2_2 : Int) (b3 : List (Int)) : Option (((((List (Int)) × ((Int) × (Int))) × (Unit)) × (Unit)) × (((List (Int)) × ((Int) × (Int))) × (Unit))) := spec_l03Drawn_t8 n g3 v4 v5 b0_0 b0_1 b0_2 b1_1 b1_2 b2_1 b2_2 b3

/- join 12 at { env := [(2, .one (.ref 1 0 0 0 0 0)), (3, .one (.ref 2 0 0 0 0 0))], bx := [(0, .var 226 [.list true (.int .u8) b0_0, .sc (.int .i64 b0_1), .sc (.int .u64 b0_2)]), (1, .var 62 [.sc (.slice none 0 0), .sc (.int .i64 b1_1), .sc (.int .i64 b1_2)]), (2, .var 62 [.slice 3 0 none, .sc (.int .i64 b2_1), .sc (.int .i64 b2_2)]), (3, .row 0 (.int .i16) b3)], nx := 4 } -/
noncomputable def spec_l03Drawn_t12 (n : Nat) (b0_0 : List (Int)) (b0_1 : Int) (b0_2 : Int) (b1_1 : Int) (b1_2 : Int) (b2_1 : Int) (b2_2 : Int) (b3 : List (Int)) : Option (((((List (Int)) × ((Int) × (Int))) × (Unit)) × (Unit)) × (((List (Int)) × ((Int) × (Int))) × (Unit))) :=
  some (((((b3, (b2_1, b2_2)), ()), ()), ((b0_0, (b0_1, b0_2)), ())))

noncomputable def spec_l03Drawn_j12 (n : Nat) (b0_0 : List (Int)) (b0_1 : Int) (b0_2 : Int) (b1_1 : Int) (b1_2 : Int) (b2_1 : Int) (b2_2 : Int) (b3 : List (Int)) : Option (((((List (Int)) × ((Int) × (Int))) × (Unit)) × (Unit)) × (((List (Int)) × ((Int) × (Int))) × (Unit))) := spec_l03Drawn_t12 n b0_0 b0_1 b0_2 b1_1 b1_2 b2_1 b2_2 b3

noncomputable def spec_l03Drawn_t3 (n : Nat) (h8 : Int → Int → (List (Int)) → Int → Int → Int → Int → Int → Int → (List (Int)) → Option (((((List (Int)) × ((Int) × (Int))) × (Unit)) × (Unit)) × (((List (Int)) × ((Int) × (Int))) × (Unit)))) (h12 : (List (Int)) → Int → Int → Int → Int → Int → Int → (List (Int)) → Option (((((List (Int)) × ((Int) × (Int))) × (Unit)) × (Unit)) × (((List (Int)) × ((Int) × (Int))) × (Unit)))) (g3 : Int → (List (Int)) → Int → Int → Int → Int → Int → Int → (List (Int)) → Option (((((List (Int)) × ((Int) × (Int))) × (Unit)) × (Unit)) × (((List (Int)) × ((Int) × (Int))) × (Unit)))) (v4 : Int) (b0_0 : List (Int)) (b0_1 : Int) (b0_2 : Int) (b1_1 : Int) (b1_2 : Int) (b2_1 : Int) (b2_2 : Int) (b3 : List (Int)) : Option (((((List (Int)) × ((Int) × (Int))) × (Unit)) × (Unit)) × (((List (Int)) × ((Int) × (Int))) × (Unit))) :=
  cond (decide (v4 > 0))
  ((spec_l00Src_one n 4 ((b0_0, (b0_1, b0_2)))).bind fun r1 =>
    cond (!r1.1.1.1)
    ((spec_l00Src_pick n 121 ((r1.2.1.1, (r1.2.1.2.1, r1.2.1.2.2)))).bind fun r2 =>
      h8 v4 ((IntKind.wrap .i16 (IntKind.wrap .i64 (r2.1.1.1 - 60)))) r2.2.1.1 r2.2.1.2.1 r2.2.1.2.2 b1_1 b1_2 b2_1 b2_2 b3)
    (h8 v4 0 r1.2.1.1 r1.2.1.2.1 r1.2.1.2.2 b1_1 b1_2 b2_1 b2_2 b3))
  ((spec_l00Src_one n 2 ((b0_0, (b0_1, b0_2)))).bind fun r3 =>
    cond r3.1.1.1
    ((spec_l00Src_pick n 121 ((r3.2.1.1, (r3.2.1.2.1, r3.2.1.2.2)))).bind fun r4 =>
      (spec_l00Src_pick n 121 ((r4.2.1.1, (r4.2.1.2.1, r4.2.1.2.2)))).bind fun r5 =>
      h12 r5.2.1.1 r5.2.1.2.1 r5.2.1.2.2 b2_1 b2_2 ((IntKind.wrap .i64 (r4.1.1.1 - 60))) ((IntKind.wrap .i64 (r5.1.1.1 - 60))) b3)
    (h12 r3.2.1.1 r3.2.1.2.1 r3.2.1.2.2 b2_1 b2_2 b1_1 b1_2 b3))

noncomputable def spec_l03Drawn_l3 (n : Nat) : Nat → Int → (List (Int)) → Int → Int → Int → Int → Int → Int → (List (Int)) → Option (((((List (Int)) × ((Int) × (Int))) × (Unit)) × (Unit)) × (((List (Int)) × ((Int) × (Int))) × (Unit)))
  | 0, _, _, _, _, _, _, _, _, _ => none
  | k + 1, v4, b0_0, b0_1, b0_2, b1_1, b1_2, b2_1, b2_2, b3 => spec_l03Drawn_t3 n (spec_l03Drawn_j8 n (spec_l03Drawn_l3 n k)) (spec_l03Drawn_j12 n) (spec_l03Drawn_l3 n k) v4 b0_0 b0_1 b0_2 b1_1 b1_2 b2_1 b2_2 b3

noncomputable def spec_l03Drawn_t (n : Nat) (h3 : Nat → Int → (List (Int)) → Int → Int → Int → Int → Int → Int → (List (Int)) → Option (((((List (Int)) × ((Int) × (Int))) × (Unit)) × (Unit)) × (((List (Int)) × ((Int) × (Int))) × (Unit)))) (b0 : (List (Int)) × ((Int) × (Int))) : Option (((((List (Int)) × ((Int) × (Int))) × (Unit)) × (Unit)) × (((List (Int)) × ((Int) × (Int))) × (Unit))) :=
  (spec_l00Src_among n ((b0.1, (b0.2.1, b0.2.2))) ((1 :: (2 :: (4 :: (6 :: (8 :: (12 :: (36 :: []))))))))).bind fun r0 =>
  h3 n r0.1.1.1 r0.2.1.1 r0.2.1.2.1 r0.2.1.2.2 0 0 0 0 []

noncomputable def spec_l03Drawn (n : Nat) (b0 : (List (Int)) × ((Int) × (Int))) : Option (((((List (Int)) × ((Int) × (Int))) × (Unit)) × (Unit)) × (((List (Int)) × ((Int) × (Int))) × (Unit))) := spec_l03Drawn_t n (spec_l03Drawn_l3 n) b0

noncomputable def spec_A2Disk_t (n : Nat) (a0 : List (Int)) : Option (((((List (Int)) × ((Int) × (Int))) × (Unit)) × (Unit)) × (Unit)) :=
  (spec_l00From n a0).bind fun r0 =>
  (spec_l03Drawn n ((r0.1.1.1.1, (r0.1.1.1.2.1, r0.1.1.1.2.2)))).bind fun r1 =>
  some (((((r1.1.1.1.1, (r1.1.1.1.2.1, r1.1.1.1.2.2)), ()), ()), ()))

noncomputable def spec_A2Disk (n : Nat) (a0 : List (Int)) : Option (((((List (Int)) × ((Int) × (Int))) × (Unit)) × (Unit)) × (Unit)) := spec_A2Disk_t n a0

noncomputable def spec_l03Drawing_t (n : Nat) (b0 : (List (Int)) × ((Int) × (Int))) : Option ((((Int) × (Unit)) × (Unit)) × (((List (Int)) × ((Int) × (Int))) × (Unit))) :=
  (spec_l00Src_pick n 12 ((b0.1, (b0.2.1, b0.2.2)))).bind fun r0 =>
  cond ((r0.1.1.1 == 0))
  ((spec_l00Src_among n ((r0.2.1.1, (r0.2.1.2.1, r0.2.1.2.2))) ((0 :: (324000 :: (648000 :: (972000 :: (1295999 :: ((-1) :: (1296000 :: []))))))))).bind fun r1 =>
    some ((((r1.1.1.1, ()), ()), ((r1.2.1.1, (r1.2.1.2.1, r1.2.1.2.2)), ()))))
  (cond ((r0.1.1.1 == 1))
    ((spec_l00Src_pick n 60 ((r0.2.1.1, (r0.2.1.2.1, r0.2.1.2.2)))).bind fun r2 =>
      some ((((r2.1.1.1, ()), ()), ((r2.2.1.1, (r2.2.1.2.1, r2.2.1.2.2)), ()))))
    ((spec_l00Src_pick n 1296 ((r0.2.1.1, (r0.2.1.2.1, r0.2.1.2.2)))).bind fun r3 =>
      some (((((IntKind.wrap .i64 (r3.1.1.1 * 1000)), ()), ()), ((r3.2.1.1, (r3.2.1.2.1, r3.2.1.2.2)), ())))))

noncomputable def spec_l03Drawing (n : Nat) (b0 : (List (Int)) × ((Int) × (Int))) : Option ((((Int) × (Unit)) × (Unit)) × (((List (Int)) × ((Int) × (Int))) × (Unit))) := spec_l03Drawing_t n b0

noncomputable def spec_l03Wrap_t (n : Nat) (a0 : Int) : Option ((((Int) × (Unit)) × (Unit)) × (Unit)) :=
  cond (decide ((Int.tmod a0 1296000) < 0))
  (some (((((IntKind.wrap .i64 ((Int.tmod a0 1296000) + 1296000)), ()), ()), ())))
  (some (((((Int.tmod a0 1296000), ()), ()), ())))

noncomputable def spec_l03Wrap (n : Nat) (a0 : Int) : Option ((((Int) × (Unit)) × (Unit)) × (Unit)) := spec_l03Wrap_t n a0

noncomputable def spec_A2Angle_t (n : Nat) (a0 : List (Int)) : Option ((((Int) × (Unit)) × (Unit)) × (Unit)) :=
  (spec_l00From n a0).bind fun r0 =>
  (spec_l03Drawing n ((r0.1.1.1.1, (r0.1.1.1.2.1, r0.1.1.1.2.2)))).bind fun r1 =>
  (spec_l03Wrap n r1.1.1.1).bind fun r2 =>
  some ((((r2.1.1.1, ()), ()), ()))

noncomputable def spec_A2Angle (n : Nat) (a0 : List (Int)) : Option ((((Int) × (Unit)) × (Unit)) × (Unit)) := spec_A2Angle_t n a0

noncomputable def laws_a2At_t (n : Nat) (a0 : List (Int)) (a1 : Int) (a2 : Int) : Option ((((Int) × (Unit)) × (Unit)) × (Unit)) :=
  cond (decide (a1 ≥ ((a0.length : Nat) : Int)))
  (some ((((0, ()), ()), ())))
  (cond (decide (a2 < 1))
    (some ((((0, ()), ()), ())))
    (cond ((decide (0 ≤ a1) && decide (a1 < ((a0.length : Nat) : Int))))
      (cond ((a2 != 0))
        (some (((((Int.tmod (IntKind.wrap .i64 (a0.getD (Int.toNat a1) 0)) a2), ()), ()), ())))
        (none))
      (none)))

noncomputable def laws_a2At (n : Nat) (a0 : List (Int)) (a1 : Int) (a2 : Int) : Option ((((Int) × (Unit)) × (Unit)) × (Unit)) := laws_a2At_t n a0 a1 a2

noncomputable def impl_within_t (n : Nat) (a0 : Int) (a1 : Int) (a2 : Int) : Option ((((Bool) × (Unit)) × (Unit)) × (Unit)) :=
  cond (decide (a1 ≤ a0))
  (some ((((decide (a0 ≤ a2), ()), ()), ())))
  (some ((((false, ()), ()), ())))

noncomputable def impl_within (n : Nat) (a0 : Int) (a1 : Int) (a2 : Int) : Option ((((Bool) × (Unit)) × (Unit)) × (Unit)) := impl_within_t n a0 a1 a2

noncomputable def impl_ValidDisk_1_t (n : Nat) (a0 : Int) : Option ((((Bool) × (Unit)) × (Unit)) × (Unit)) :=
  (impl_within n ((IntKind.wrap .i64 a0)) (-600) 600).bind fun r0 =>
  some (((((!r0.1.1.1), ()), ()), ()))

noncomputable def impl_ValidDisk_1 (n : Nat) (a0 : Int) : Option ((((Bool) × (Unit)) × (Unit)) × (Unit)) := impl_ValidDisk_1_t n a0

noncomputable def slices_IndexFunc_int16_int16_at_impl_ValidDisk_1_t2 (n : Nat) (g2 : Int → (List (Int)) → Int → Option ((((Int) × (Unit)) × (Unit)) × (Unit))) (v8 : Int) (v0 : List (Int)) (v7 : Int) : Option ((((Int) × (Unit)) × (Unit)) × (Unit)) :=
  cond (decide (v8 < v7))
  (cond ((decide (0 ≤ v8) && decide (v8 < ((v0.length : Nat) : Int))))
    ((impl_ValidDisk_1 n ((v0.getD (Int.toNat v8) 0))).bind fun r0 =>
      cond r0.1.1.1
      (some ((((v8, ()), ()), ())))
      (g2 ((IntKind.wrap .i64 (v8 + 1))) v0 v7))
    (none))
  (some (((((-1), ()), ()), ())))

noncomputable def slices_IndexFunc_int16_int16_at_impl_ValidDisk_1_l2 (n : Nat) : Nat → Int → (List (Int)) → Int → Option ((((Int) × (Unit)) × (Unit)) × (Unit))
  | 0, _, _, _ => none
  | k + 1, v8, v0, v7 => slices_IndexFunc_int16_int16_at_impl_ValidDisk_1_t2 n (slices_IndexFunc_int16_int16_at_impl_ValidDisk_1_l2 n k) v8 v0 v7

noncomputable def slices_IndexFunc_int16_int16_at_impl_ValidDisk_1_t (n : Nat) (h2 : Nat → Int → (List (Int)) → Int → Option ((((Int) × (Unit)) × (Unit)) × (Unit))) (a0 : List (Int)) : Option ((((Int) × (Unit)) × (Unit)) × (Unit)) :=
  h2 n 0 a0 (((a0.length : Nat) : Int))

noncomputable def slices_IndexFunc_int16_int16_at_impl_ValidDisk_1 (n : Nat) (a0 : List (Int)) : Option ((((Int) × (Unit)) × (Unit)) × (Unit)) := slices_IndexFunc_int16_int16_at_impl_ValidDisk_1_t n (slices_IndexFunc_int16_int16_at_impl_ValidDisk_1_l2 n) a0

noncomputable def slices_ContainsFunc_int16_int16_at_impl_ValidDisk_1_t (n : Nat) (a0 : List (Int)) : Option ((((Bool) × (Unit)) × (Unit)) × (Unit)) :=
  (slices_IndexFunc_int16_int16_at_impl_ValidDisk_1 n a0).bind fun r0 =>
  some ((((decide (r0.1.1.1 ≥ 0), ()), ()), ()))

noncomputable def slices_ContainsFunc_int16_int16_at_impl_ValidDisk_1 (n : Nat) (a0 : List (Int)) : Option ((((Bool) × (Unit)) × (Unit)) × (Unit)) := slices_ContainsFunc_int16_int16_at_impl_ValidDisk_1_t n a0

noncomputable def impl_ValidDisk_t (n : Nat) (a0 : (List (Int)) × ((Int) × (Int))) : Option ((((Bool) × (Unit)) × (Unit)) × (Unit)) :=
  (impl_within n (((a0.1.length : Nat) : Int)) 1 72).bind fun r0 =>
  cond r0.1.1.1
  (cond ((((a0.1.length : Nat) : Int) != 0))
    (cond (((Int.tmod 1296000 ((a0.1.length : Nat) : Int)) == 0))
      ((impl_within n a0.2.1 (-600) 600).bind fun r1 =>
        cond r1.1.1.1
        ((impl_within n a0.2.2 (-600) 600).bind fun r2 =>
          cond r2.1.1.1
          ((slices_ContainsFunc_int16_int16_at_impl_ValidDisk_1 n a0.1).bind fun r3 =>
            some (((((!r3.1.1.1), ()), ()), ())))
          (some ((((false, ()), ()), ()))))
        (some ((((false, ()), ()), ()))))
      (some ((((false, ()), ()), ()))))
    (none))
  (some ((((false, ()), ()), ())))

noncomputable def impl_ValidDisk (n : Nat) (a0 : (List (Int)) × ((Int) × (Int))) : Option ((((Bool) × (Unit)) × (Unit)) × (Unit)) := impl_ValidDisk_t n a0

noncomputable def impl_isAngle_t (n : Nat) (a0 : Int) : Option ((((Bool) × (Unit)) × (Unit)) × (Unit)) :=
  (impl_within n a0 0 1295999).bind fun r0 =>
  some ((((r0.1.1.1, ()), ()), ()))

noncomputable def impl_isAngle (n : Nat) (a0 : Int) : Option ((((Bool) × (Unit)) × (Unit)) × (Unit)) := impl_isAngle_t n a0

noncomputable def impl_headCode_1_t (n : Nat) (a0 : Int) : Option ((((Bool) × (Unit)) × (Unit)) × (Unit)) :=
  (impl_isAngle n a0).bind fun r0 =>
  some (((((!r0.1.1.1), ()), ()), ()))

noncomputable def impl_headCode_1 (n : Nat) (a0 : Int) : Option ((((Bool) × (Unit)) × (Unit)) × (Unit)) := impl_headCode_1_t n a0

noncomputable def slices_IndexFunc_int64_int64_at_impl_headCode_1_t2 (n : Nat) (g2 : Int → (List (Int)) → Int → Option ((((Int) × (Unit)) × (Unit)) × (Unit))) (v8 : Int) (v0 : List (Int)) (v7 : Int) : Option ((((Int) × (Unit)) × (Unit)) × (Unit)) :=
  cond (decide (v8 < v7))
  (cond ((decide (0 ≤ v8) && decide (v8 < ((v0.length : Nat) : Int))))
    ((impl_headCode_1 n ((v0.getD (Int.toNat v8) 0))).bind fun r0 =>
      cond r0.1.1.1
      (some ((((v8, ()), ()), ())))
      (g2 ((IntKind.wrap .i64 (v8 + 1))) v0 v7))
    (none))
  (some (((((-1), ()), ()), ())))

noncomputable def slices_IndexFunc_int64_int64_at_impl_headCode_1_l2 (n : Nat) : Nat → Int → (List (Int)) → Int → Option ((((Int) × (Unit)) × (Unit)) × (Unit))
  | 0, _, _, _ => none
  | k + 1, v8, v0, v7 => slices_IndexFunc_int64_int64_at_impl_headCode_1_t2 n (slices_IndexFunc_int64_int64_at_impl_headCode_1_l2 n k) v8 v0 v7

noncomputable def slices_IndexFunc_int64_int64_at_impl_headCode_1_t (n : Nat) (h2 : Nat → Int → (List (Int)) → Int → Option ((((Int) × (Unit)) × (Unit)) × (Unit))) (a0 : List (Int)) : Option ((((Int) × (Unit)) × (Unit)) × (Unit)) :=
  h2 n 0 a0 (((a0.length : Nat) : Int))

noncomputable def slices_IndexFunc_int64_int64_at_impl_headCode_1 (n : Nat) (a0 : List (Int)) : Option ((((Int) × (Unit)) × (Unit)) × (Unit)) := slices_IndexFunc_int64_int64_at_impl_headCode_1_t n (slices_IndexFunc_int64_int64_at_impl_headCode_1_l2 n) a0

noncomputable def slices_ContainsFunc_int64_int64_at_impl_headCode_1_t (n : Nat) (a0 : List (Int)) : Option ((((Bool) × (Unit)) × (Unit)) × (Unit)) :=
  (slices_IndexFunc_int64_int64_at_impl_headCode_1 n a0).bind fun r0 =>
  some ((((decide (r0.1.1.1 ≥ 0), ()), ()), ()))

noncomputable def slices_ContainsFunc_int64_int64_at_impl_headCode_1 (n : Nat) (a0 : List (Int)) : Option ((((Bool) × (Unit)) × (Unit)) × (Unit)) := slices_ContainsFunc_int64_int64_at_impl_headCode_1_t n a0

noncomputable def impl_headCode_t (n : Nat) (a0 : (List (Int)) × ((Int) × (Int))) (a1 : Int) (a2 : List (Int)) : Option ((((Int) × (Unit)) × (Unit)) × (Unit)) :=
  (impl_ValidDisk n ((a0.1, (a0.2.1, a0.2.2)))).bind fun r0 =>
  cond (!r0.1.1.1)
  (some ((((1, ()), ()), ())))
  ((slices_ContainsFunc_int64_int64_at_impl_headCode_1 n a2).bind fun r1 =>
    cond r1.1.1.1
    (some ((((1, ()), ()), ())))
    ((impl_within n a1 1 3600).bind fun r2 =>
      cond (!r2.1.1.1)
      (some ((((2, ()), ()), ())))
      (some ((((0, ()), ()), ())))))

noncomputable def impl_headCode (n : Nat) (a0 : (List (Int)) × ((Int) × (Int))) (a1 : Int) (a2 : List (Int)) : Option ((((Int) × (Unit)) × (Unit)) × (Unit)) := impl_headCode_t n a0 a1 a2

noncomputable def impl_faultAt_t (n : Nat) (a0 : (List (Int)) × ((Int) × (Int))) (a1 : Int) : Option ((((Int) × (Unit)) × (((Int) × (Unit)) × (Unit))) × (Unit)) :=
  cond ((((a0.1.length : Nat) : Int) != 0))
  (cond (((IntKind.wrap .i64 (Int.tdiv 1296000 ((a0.1.length : Nat) : Int))) != 0))
    (cond ((decide (0 ≤ (IntKind.wrap .i64 (Int.tdiv a1 (IntKind.wrap .i64 (Int.tdiv 1296000 ((a0.1.length : Nat) : Int)))))) && decide ((IntKind.wrap .i64 (Int.tdiv a1 (IntKind.wrap .i64 (Int.tdiv 1296000 ((a0.1.length : Nat) : Int))))) < ((a0.1.length : Nat) : Int))))
      (cond ((((a0.1.length : Nat) : Int) != 0))
        (cond ((decide (0 ≤ (Int.tmod (IntKind.wrap .i64 ((IntKind.wrap .i64 (Int.tdiv a1 (IntKind.wrap .i64 (Int.tdiv 1296000 ((a0.1.length : Nat) : Int))))) + 1)) ((a0.1.length : Nat) : Int))) && decide ((Int.tmod (IntKind.wrap .i64 ((IntKind.wrap .i64 (Int.tdiv a1 (IntKind.wrap .i64 (Int.tdiv 1296000 ((a0.1.length : Nat) : Int))))) + 1)) ((a0.1.length : Nat) : Int)) < ((a0.1.length : Nat) : Int))))
          (cond (((IntKind.wrap .i64 (Int.tdiv 1296000 ((a0.1.length : Nat) : Int))) != 0))
            (some (((((IntKind.wrap .i64 ((IntKind.wrap .i64 ((IntKind.wrap .i64 (a0.1.getD (Int.toNat (IntKind.wrap .i64 (Int.tdiv a1 (IntKind.wrap .i64 (Int.tdiv 1296000 ((a0.1.length : Nat) : Int)))))) 0)) * (IntKind.wrap .i64 (Int.tdiv 1296000 ((a0.1.length : Nat) : Int))))) + (IntKind.wrap .i64 ((IntKind.wrap .i64 ((IntKind.wrap .i64 (a0.1.getD (Int.toNat (Int.tmod (IntKind.wrap .i64 ((IntKind.wrap .i64 (Int.tdiv a1 (IntKind.wrap .i64 (Int.tdiv 1296000 ((a0.1.length : Nat) : Int))))) + 1)) ((a0.1.length : Nat) : Int))) 0)) - (IntKind.wrap .i64 (a0.1.getD (Int.toNat (IntKind.wrap .i64 (Int.tdiv a1 (IntKind.wrap .i64 (Int.tdiv 1296000 ((a0.1.length : Nat) : Int)))))) 0)))) * (Int.tmod a1 (IntKind.wrap .i64 (Int.tdiv 1296000 ((a0.1.length : Nat) : Int)))))))), ()), (((IntKind.wrap .i64 (Int.tdiv 1296000 ((a0.1.length : Nat) : Int))), ()), ())), ())))
            (none))
          (none))
        (none))
      (none))
    (none))
  (none)

noncomputable def impl_faultAt (n : Nat) (a0 : (List (Int)) × ((Int) × (Int))) (a1 : Int) : Option ((((Int) × (Unit)) × (((Int) × (Unit)) × (Unit))) × (Unit)) := impl_faultAt_t n a0 a1

noncomputable def impl_swing_t (n : Nat) (a0 : Int) : Option ((((Int) × (Unit)) × (Unit)) × (Unit)) :=
  cond (decide (a0 ≤ 324000))
  (some ((((a0, ()), ()), ())))
  (cond (decide (a0 ≤ 972000))
    (some (((((IntKind.wrap .i64 (648000 - a0)), ()), ()), ())))
    (some (((((IntKind.wrap .i64 (a0 - 1296000)), ()), ()), ()))))

noncomputable def impl_swing (n : Nat) (a0 : Int) : Option ((((Int) × (Unit)) × (Unit)) × (Unit)) := impl_swing_t n a0

noncomputable def impl_wrap_t (n : Nat) (a0 : Int) : Option ((((Int) × (Unit)) × (Unit)) × (Unit)) :=
  some (((((Int.tmod (IntKind.wrap .i64 ((Int.tmod a0 1296000) + 1296000)) 1296000), ()), ()), ()))

noncomputable def impl_wrap (n : Nat) (a0 : Int) : Option ((((Int) × (Unit)) × (Unit)) × (Unit)) := impl_wrap_t n a0

noncomputable def impl_swingAt_t (n : Nat) (a0 : (List (Int)) × ((Int) × (Int))) (a1 : Int) : Option ((((Int) × (Unit)) × (((Int) × (Unit)) × (Unit))) × (Unit)) :=
  (impl_swing n a1).bind fun r0 =>
  (impl_wrap n ((IntKind.wrap .i64 (a1 + 324000)))).bind fun r1 =>
  (impl_swing n r1.1.1.1).bind fun r2 =>
  some (((((IntKind.wrap .i64 ((IntKind.wrap .i64 (a0.2.1 * r0.1.1.1)) + (IntKind.wrap .i64 (a0.2.2 * r2.1.1.1)))), ()), ((324000, ()), ())), ()))

noncomputable def impl_swingAt (n : Nat) (a0 : (List (Int)) × ((Int) × (Int))) (a1 : Int) : Option ((((Int) × (Unit)) × (((Int) × (Unit)) × (Unit))) × (Unit)) := impl_swingAt_t n a0 a1

noncomputable def impl_floorDiv_t (n : Nat) (a0 : Int) (a1 : Int) : Option ((((Int) × (Unit)) × (Unit)) × (Unit)) :=
  cond ((a1 != 0))
  (cond ((a1 != 0))
    (cond (((Int.tmod a0 a1) != 0))
      (cond ((!(decide (a0 < 0) == decide (a1 < 0))))
        (some (((((IntKind.wrap .i64 ((IntKind.wrap .i64 (Int.tdiv a0 a1)) - 1)), ()), ()), ())))
        (some (((((IntKind.wrap .i64 (Int.tdiv a0 a1)), ()), ()), ()))))
      (some (((((IntKind.wrap .i64 (Int.tdiv a0 a1)), ()), ()), ()))))
    (none))
  (none)

noncomputable def impl_floorDiv (n : Nat) (a0 : Int) (a1 : Int) : Option ((((Int) × (Unit)) × (Unit)) × (Unit)) := impl_floorDiv_t n a0 a1

noncomputable def impl_nearest_t (n : Nat) (a0 : Int) (a1 : Int) : Option ((((Int) × (Unit)) × (((Bool) × (Unit)) × (Unit))) × (Unit)) :=
  (impl_floorDiv n ((IntKind.wrap .i64 ((IntKind.wrap .i64 (2 * a0)) + a1))) ((IntKind.wrap .i64 (2 * a1)))).bind fun r0 =>
  (impl_within n r0.1.1.1 (-1000000000) 1000000000).bind fun r1 =>
  some ((((r0.1.1.1, ()), ((r1.1.1.1, ()), ())), ()))

noncomputable def impl_nearest (n : Nat) (a0 : Int) (a1 : Int) : Option ((((Int) × (Unit)) × (((Bool) × (Unit)) × (Unit))) × (Unit)) := impl_nearest_t n a0 a1

noncomputable def impl_head_t (n : Nat) (a0 : (List (Int)) × ((Int) × (Int))) (a1 : Int) (a2 : Int) : Option ((((Int) × (Unit)) × (Unit)) × (Unit)) :=
  (impl_faultAt n ((a0.1, (a0.2.1, a0.2.2))) a1).bind fun r0 =>
  (impl_swingAt n ((a0.1, (a0.2.1, a0.2.2))) a1).bind fun r1 =>
  (impl_nearest n ((IntKind.wrap .i64 ((IntKind.wrap .i64 ((IntKind.wrap .i64 ((IntKind.wrap .i64 (a1 * r0.1.2.1.1)) * r1.1.2.1.1)) + (IntKind.wrap .i64 (r0.1.1.1 * r1.1.2.1.1)))) + (IntKind.wrap .i64 (r1.1.1.1 * r0.1.2.1.1))))) ((IntKind.wrap .i64 ((IntKind.wrap .i64 (r0.1.2.1.1 * r1.1.2.1.1)) * a2)))).bind fun r2 =>
  (impl_wrap n ((IntKind.wrap .i64 (r2.1.1.1 * a2)))).bind fun r3 =>
  some ((((r3.1.1.1, ()), ()), ()))

noncomputable def impl_head (n : Nat) (a0 : (List (Int)) × ((Int) × (Int))) (a1 : Int) (a2 : Int) : Option ((((Int) × (Unit)) × (Unit)) × (Unit)) := impl_head_t n a0 a1 a2

noncomputable def impl_ReadHead_t (n : Nat) (a0 : (List (Int)) × ((Int) × (Int))) (a1 : Int) (a2 : Int) : Option ((((Int) × (Unit)) × (((Int) × (Unit)) × (Unit))) × (Unit)) :=
  (impl_headCode n ((a0.1, (a0.2.1, a0.2.2))) a2 ((a1 :: []))).bind fun r0 =>
  cond ((r0.1.1.1 != 0))
  (some ((((0, ()), ((r0.1.1.1, ()), ())), ())))
  ((impl_head n ((a0.1, (a0.2.1, a0.2.2))) a1 a2).bind fun r1 =>
    some ((((r1.1.1.1, ()), ((0, ()), ())), ())))

noncomputable def impl_ReadHead (n : Nat) (a0 : (List (Int)) × ((Int) × (Int))) (a1 : Int) (a2 : Int) : Option ((((Int) × (Unit)) × (((Int) × (Unit)) × (Unit))) × (Unit)) := impl_ReadHead_t n a0 a1 a2

noncomputable def spec_l00In_t (n : Nat) (a0 : Int) (a1 : Int) (a2 : Int) : Option ((((Bool) × (Unit)) × (Unit)) × (Unit)) :=
  cond (decide (a0 ≥ a1))
  (some ((((decide (a0 ≤ a2), ()), ()), ())))
  (some ((((false, ()), ()), ())))

noncomputable def spec_l00In (n : Nat) (a0 : Int) (a1 : Int) (a2 : Int) : Option ((((Bool) × (Unit)) × (Unit)) × (Unit)) := spec_l00In_t n a0 a1 a2

noncomputable def spec_l03Ok_t5 (n : Nat) (g5 : Int → (List (Int)) → Int → Int → Option ((((Bool) × (Unit)) × (Unit)) × (((List (Int)) × ((Int) × (Int))) × (Unit)))) (v4 : Int) (b0_0 : List (Int)) (b0_1 : Int) (b0_2 : Int) : Option ((((Bool) × (Unit)) × (Unit)) × (((List (Int)) × ((Int) × (Int))) × (Unit))) :=
  cond (decide (v4 < ((b0_0.length : Nat) : Int)))
  (cond ((decide (0 ≤ v4) && decide (v4 < ((b0_0.length : Nat) : Int))))
    ((spec_l00In n ((IntKind.wrap .i64 (b0_0.getD (Int.toNat v4) 0))) (-600) 600).bind fun r1 =>
      cond (!r1.1.1.1)
      (some ((((false, ()), ()), ((b0_0, (b0_1, b0_2)), ()))))
      (g5 ((IntKind.wrap .i64 (v4 + 1))) b0_0 b0_1 b0_2))
    (none))
  ((spec_l00In n b0_1 (-600) 600).bind fun r2 =>
    cond r2.1.1.1
    ((spec_l00In n b0_2 (-600) 600).bind fun r3 =>
      some ((((r3.1.1.1, ()), ()), ((b0_0, (b0_1, b0_2)), ()))))
    (some ((((false, ()), ()), ((b0_0, (b0_1, b0_2)), ())))))

noncomputable def spec_l03Ok_l5 (n : Nat) : Nat → Int → (List (Int)) → Int → Int → Option ((((Bool) × (Unit)) × (Unit)) × (((List (Int)) × ((Int) × (Int))) × (Unit)))
  | 0, _, _, _, _ => none
  | k + 1, v4, b0_0, b0_1, b0_2 => spec_l03Ok_t5 n (spec_l03Ok_l5 n k) v4 b0_0 b0_1 b0_2

noncomputable def spec_l03Ok_t (n : Nat) (h5 : Nat → Int → (List (Int)) → Int → Int → Option ((((Bool) × (Unit)) × (Unit)) × (((List (Int)) × ((Int) × (Int))) × (Unit)))) (b0 : (List (Int)) × ((Int) × (Int))) : Option ((((Bool) × (Unit)) × (Unit)) × (((List (Int)) × ((Int) × (Int))) × (Unit))) :=
  (spec_l00In n (((b0.1.length : Nat) : Int)) 1 72).bind fun r0 =>
  cond (!r0.1.1.1)
  (some ((((false, ()), ()), ((b0.1, (b0.2.1, b0.2.2)), ()))))
  (cond ((((b0.1.length : Nat) : Int) != 0))
    (cond (((Int.tmod 1296000 ((b0.1.length : Nat) : Int)) != 0))
      (some ((((false, ()), ()), ((b0.1, (b0.2.1, b0.2.2)), ()))))
      (h5 n 0 b0.1 b0.2.1 b0.2.2))
    (none))

noncomputable def spec_l03Ok (n : Nat) (b0 : (List (Int)) × ((Int) × (Int))) : Option ((((Bool) × (Unit)) × (Unit)) × (((List (Int)) × ((Int) × (Int))) × (Unit))) := spec_l03Ok_t n (spec_l03Ok_l5 n) b0

noncomputable def spec_l03Angle_t (n : Nat) (a0 : Int) : Option ((((Bool) × (Unit)) × (Unit)) × (Unit)) :=
  (spec_l00In n a0 0 1295999).bind fun r0 =>
  some ((((r0.1.1.1, ()), ()), ()))

noncomputable def spec_l03Angle (n : Nat) (a0 : Int) : Option ((((Bool) × (Unit)) × (Unit)) × (Unit)) := spec_l03Angle_t n a0

noncomputable def spec_l03Asked_t (n : Nat) (a1 : Int) (b0 : (List (Int)) × ((Int) × (Int))) : Option ((((Int) × (Unit)) × (Unit)) × (((List (Int)) × ((Int) × (Int))) × (Unit))) :=
  (spec_l03Ok n ((b0.1, (b0.2.1, b0.2.2)))).bind fun r0 =>
  cond (!r0.1.1.1)
  (some ((((1, ()), ()), ((r0.2.1.1, (r0.2.1.2.1, r0.2.1.2.2)), ()))))
  ((spec_l03Angle n a1).bind fun r1 =>
    cond (!r1.1.1.1)
    (some ((((1, ()), ()), ((r0.2.1.1, (r0.2.1.2.1, r0.2.1.2.2)), ()))))
    (some ((((0, ()), ()), ((r0.2.1.1, (r0.2.1.2.1, r0.2.1.2.2)), ())))))

noncomputable def spec_l03Asked (n : Nat) (a1 : Int) (b0 : (List (Int)) × ((Int) × (Int))) : Option ((((Int) × (Unit)) × (Unit)) × (((List (Int)) × ((Int) × (Int))) × (Unit))) := spec_l03Asked_t n a1 b0

noncomputable def spec_l03Least_t (n : Nat) (a1 : Int) (a2 : Int) (b0 : (List (Int)) × ((Int) × (Int))) : Option ((((Int) × (Unit)) × (Unit)) × (((List (Int)) × ((Int) × (Int))) × (Unit))) :=
  (spec_l03Asked n a1 ((b0.1, (b0.2.1, b0.2.2)))).bind fun r0 =>
  cond ((r0.1.1.1 == 0))
  ((spec_l00In n a2 1 3600).bind fun r1 =>
    cond (!r1.1.1.1)
    (some ((((2, ()), ()), ((r0.2.1.1, (r0.2.1.2.1, r0.2.1.2.2)), ()))))
    (some ((((r0.1.1.1, ()), ()), ((r0.2.1.1, (r0.2.1.2.1, r0.2.1.2.2)), ())))))
  (some ((((r0.1.1.1, ()), ()), ((r0.2.1.1, (r0.2.1.2.1, r0.2.1.2.2)), ()))))

noncomputable def spec_l03Least (n : Nat) (a1 : Int) (a2 : Int) (b0 : (List (Int)) × ((Int) × (Int))) : Option ((((Int) × (Unit)) × (Unit)) × (((List (Int)) × ((Int) × (Int))) × (Unit))) := spec_l03Least_t n a1 a2 b0

noncomputable def spec_l03Fault_t (n : Nat) (a1 : Int) (b0 : (List (Int)) × ((Int) × (Int))) : Option ((((Int) × (Unit)) × (((Int) × (Unit)) × (Unit))) × (((List (Int)) × ((Int) × (Int))) × (Unit))) :=
  cond ((((b0.1.length : Nat) : Int) != 0))
  (cond (((IntKind.wrap .i64 (Int.tdiv 1296000 ((b0.1.length : Nat) : Int))) != 0))
    (cond ((decide (0 ≤ (IntKind.wrap .i64 (Int.tdiv a1 (IntKind.wrap .i64 (Int.tdiv 1296000 ((b0.1.length : Nat) : Int)))))) && decide ((IntKind.wrap .i64 (Int.tdiv a1 (IntKind.wrap .i64 (Int.tdiv 1296000 ((b0.1.length : Nat) : Int))))) < ((b0.1.length : Nat) : Int))))
      (cond ((((b0.1.length : Nat) : Int) != 0))
        (cond ((decide (0 ≤ (Int.tmod (IntKind.wrap .i64 ((IntKind.wrap .i64 (Int.tdiv a1 (IntKind.wrap .i64 (Int.tdiv 1296000 ((b0.1.length : Nat) : Int))))) + 1)) ((b0.1.length : Nat) : Int))) && decide ((Int.tmod (IntKind.wrap .i64 ((IntKind.wrap .i64 (Int.tdiv a1 (IntKind.wrap .i64 (Int.tdiv 1296000 ((b0.1.length : Nat) : Int))))) + 1)) ((b0.1.length : Nat) : Int)) < ((b0.1.length : Nat) : Int))))
          (some (((((IntKind.wrap .i64 ((IntKind.wrap .i64 ((IntKind.wrap .i64 (b0.1.getD (Int.toNat (IntKind.wrap .i64 (Int.tdiv a1 (IntKind.wrap .i64 (Int.tdiv 1296000 ((b0.1.length : Nat) : Int)))))) 0)) * (IntKind.wrap .i64 (Int.tdiv 1296000 ((b0.1.length : Nat) : Int))))) + (IntKind.wrap .i64 ((IntKind.wrap .i64 ((IntKind.wrap .i64 (b0.1.getD (Int.toNat (Int.tmod (IntKind.wrap .i64 ((IntKind.wrap .i64 (Int.tdiv a1 (IntKind.wrap .i64 (Int.tdiv 1296000 ((b0.1.length : Nat) : Int))))) + 1)) ((b0.1.length : Nat) : Int))) 0)) - (IntKind.wrap .i64 (b0.1.getD (Int.toNat (IntKind.wrap .i64 (Int.tdiv a1 (IntKind.wrap .i64 (Int.tdiv 1296000 ((b0.1.length : Nat) : Int)))))) 0)))) * (IntKind.wrap .i64 (a1 - (IntKind.wrap .i64 ((IntKind.wrap .i64 (Int.tdiv a1 (IntKind.wrap .i64 (Int.tdiv 1296000 ((b0.1.length : Nat) : Int))))) * (IntKind.wrap .i64 (Int.tdiv 1296000 ((b0.1.length : Nat) : Int))))))))))), ()), (((IntKind.wrap .i64 (Int.tdiv 1296000 ((b0.1.length : Nat) : Int))), ()), ())), ((b0.1, (b0.2.1, b0.2.2)), ()))))
          (none))
        (none))
      (none))
    (none))
  (none)

noncomputable def spec_l03Fault (n : Nat) (a1 : Int) (b0 : (List (Int)) × ((Int) × (Int))) : Option ((((Int) × (Unit)) × (((Int) × (Unit)) × (Unit))) × (((List (Int)) × ((Int) × (Int))) × (Unit))) := spec_l03Fault_t n a1 b0

noncomputable def spec_l03Swing_t (n : Nat) (a0 : Int) : Option ((((Int) × (Unit)) × (Unit)) × (Unit)) :=
  cond (decide (a0 ≤ 324000))
  (some ((((a0, ()), ()), ())))
  (cond (decide (a0 ≤ 972000))
    (some (((((IntKind.wrap .i64 (648000 - a0)), ()), ()), ())))
    (some (((((IntKind.wrap .i64 (a0 - 1296000)), ()), ()), ()))))

noncomputable def spec_l03Swing (n : Nat) (a0 : Int) : Option ((((Int) × (Unit)) × (Unit)) × (Unit)) := spec_l03Swing_t n a0

noncomputable def spec_l03Off_t (n : Nat) (a1 : Int) (b0 : (List (Int)) × ((Int) × (Int))) : Option ((((Int) × (Unit)) × (Unit)) × (((List (Int)) × ((Int) × (Int))) × (Unit))) :=
  (spec_l03Swing n a1).bind fun r0 =>
  (spec_l03Wrap n ((IntKind.wrap .i64 (a1 + 324000)))).bind fun r1 =>
  (spec_l03Swing n r1.1.1.1).bind fun r2 =>
  some (((((IntKind.wrap .i64 ((IntKind.wrap .i64 (b0.2.1 * r0.1.1.1)) + (IntKind.wrap .i64 (b0.2.2 * r2.1.1.1)))), ()), ()), ((b0.1, (b0.2.1, b0.2.2)), ())))

noncomputable def spec_l03Off (n : Nat) (a1 : Int) (b0 : (List (Int)) × ((Int) × (Int))) : Option ((((Int) × (Unit)) × (Unit)) × (((List (Int)) × ((Int) × (Int))) × (Unit))) := spec_l03Off_t n a1 b0

noncomputable def spec_l01Down_t (n : Nat) (a0 : Int) (a1 : Int) : Option ((((Int) × (Unit)) × (Unit)) × (Unit)) :=
  cond ((a1 != 0))
  (cond ((a1 != 0))
    (cond (decide ((Int.tmod a0 a1) < 0))
      (some (((((IntKind.wrap .i64 ((IntKind.wrap .i64 (Int.tdiv a0 a1)) - 1)), ()), ()), ())))
      (some (((((IntKind.wrap .i64 (Int.tdiv a0 a1)), ()), ()), ()))))
    (none))
  (none)

noncomputable def spec_l01Down (n : Nat) (a0 : Int) (a1 : Int) : Option ((((Int) × (Unit)) × (Unit)) × (Unit)) := spec_l01Down_t n a0 a1

noncomputable def spec_l03Head_t (n : Nat) (a1 : Int) (a2 : Int) (b0 : (List (Int)) × ((Int) × (Int))) : Option ((((Int) × (Unit)) × (Unit)) × (((List (Int)) × ((Int) × (Int))) × (Unit))) :=
  (spec_l03Fault n a1 ((b0.1, (b0.2.1, b0.2.2)))).bind fun r0 =>
  (spec_l03Off n a1 ((r0.2.1.1, (r0.2.1.2.1, r0.2.1.2.2)))).bind fun r1 =>
  (spec_l01Down n ((IntKind.wrap .i64 ((IntKind.wrap .i64 (2 * (IntKind.wrap .i64 ((IntKind.wrap .i64 ((IntKind.wrap .i64 ((IntKind.wrap .i64 (a1 * r0.1.2.1.1)) * 324000)) + (IntKind.wrap .i64 (r0.1.1.1 * 324000)))) + (IntKind.wrap .i64 (r1.1.1.1 * r0.1.2.1.1)))))) + (IntKind.wrap .i64 ((IntKind.wrap .i64 (r0.1.2.1.1 * 324000)) * a2))))) ((IntKind.wrap .i64 (2 * (IntKind.wrap .i64 ((IntKind.wrap .i64 (r0.1.2.1.1 * 324000)) * a2)))))).bind fun r2 =>
  (spec_l03Wrap n ((IntKind.wrap .i64 (a2 * r2.1.1.1)))).bind fun r3 =>
  some ((((r3.1.1.1, ()), ()), ((r1.2.1.1, (r1.2.1.2.1, r1.2.1.2.2)), ())))

noncomputable def spec_l03Head (n : Nat) (a1 : Int) (a2 : Int) (b0 : (List (Int)) × ((Int) × (Int))) : Option ((((Int) × (Unit)) × (Unit)) × (((List (Int)) × ((Int) × (Int))) × (Unit))) := spec_l03Head_t n a1 a2 b0

noncomputable def spec_ReadHead_t (n : Nat) (a0 : (List (Int)) × ((Int) × (Int))) (a1 : Int) (a2 : Int) : Option ((((Int) × (Unit)) × (((Int) × (Unit)) × (Unit))) × (Unit)) :=
  (spec_l03Least n a1 a2 ((a0.1, (a0.2.1, a0.2.2)))).bind fun r0 =>
  cond ((r0.1.1.1 != 0))
  (some ((((0, ()), ((r0.1.1.1, ()), ())), ())))
  ((spec_l03Head n a1 a2 ((r0.2.1.1, (r0.2.1.2.1, r0.2.1.2.2)))).bind fun r1 =>
    some ((((r1.1.1.1, ()), ((0, ()), ())), ())))

noncomputable def spec_ReadHead (n : Nat) (a0 : (List (Int)) × ((Int) × (Int))) (a1 : Int) (a2 : Int) : Option ((((Int) × (Unit)) × (((Int) × (Unit)) × (Unit))) × (Unit)) := spec_ReadHead_t n a0 a1 a2

noncomputable def spec_l01Abs_t (n : Nat) (a0 : Int) : Option ((((Int) × (Unit)) × (Unit)) × (Unit)) :=
  cond (decide (a0 < 0))
  (some (((((IntKind.wrap .i64 (0 - a0)), ()), ()), ())))
  (some ((((a0, ()), ()), ())))

noncomputable def spec_l01Abs (n : Nat) (a0 : Int) : Option ((((Int) × (Unit)) × (Unit)) × (Unit)) := spec_l01Abs_t n a0

noncomputable def spec_l01Gcd_t1 (n : Nat) (g1 : Int → Int → Option ((((Int) × (Unit)) × (Unit)) × (Unit))) (v1 : Int) (v0 : Int) : Option ((((Int) × (Unit)) × (Unit)) × (Unit)) :=
  cond ((v1 != 0))
  (cond ((v1 != 0))
    (g1 ((Int.tmod v0 v1)) v1)
    (none))
  (some ((((v0, ()), ()), ())))

noncomputable def spec_l01Gcd_l1 (n : Nat) : Nat → Int → Int → Option ((((Int) × (Unit)) × (Unit)) × (Unit))
  | 0, _, _ => none
  | k + 1, v1, v0 => spec_l01Gcd_t1 n (spec_l01Gcd_l1 n k) v1 v0

noncomputable def spec_l01Gcd_t (n : Nat) (h1 : Nat → Int → Int → Option ((((Int) × (Unit)) × (Unit)) × (Unit))) (a0 : Int) (a1 : Int) : Option ((((Int) × (Unit)) × (Unit)) × (Unit)) :=
  h1 n a1 a0

noncomputable def spec_l01Gcd (n : Nat) (a0 : Int) (a1 : Int) : Option ((((Int) × (Unit)) × (Unit)) × (Unit)) := spec_l01Gcd_t n (spec_l01Gcd_l1 n) a0 a1

noncomputable def spec_l01Ok_t (n : Nat) (a0 : (Int) × (Int)) : Option ((((Bool) × (Unit)) × (Unit)) × (Unit)) :=
  (spec_l00In n a0.2 1 1000000000).bind fun r0 =>
  cond r0.1.1.1
  ((spec_l00In n a0.1 (-1000000000) 1000000000).bind fun r1 =>
    cond r1.1.1.1
    ((spec_l01Abs n a0.1).bind fun r2 =>
      (spec_l01Gcd n r2.1.1.1 a0.2).bind fun r3 =>
      some (((((r3.1.1.1 == 1), ()), ()), ())))
    (some ((((false, ()), ()), ()))))
  (some ((((false, ()), ()), ())))

noncomputable def spec_l01Ok (n : Nat) (a0 : (Int) × (Int)) : Option ((((Bool) × (Unit)) × (Unit)) × (Unit)) := spec_l01Ok_t n a0

noncomputable def spec_l01Reduced_t (n : Nat) (a0 : Int) (a1 : Int) : Option (((((Int) × (Int)) × (Unit)) × (((Int) × (Unit)) × (Unit))) × (Unit)) :=
  (spec_l01Abs n a0).bind fun r0 =>
  (spec_l01Abs n a1).bind fun r1 =>
  (spec_l01Gcd n r0.1.1.1 r1.1.1.1).bind fun r2 =>
  cond ((r2.1.1.1 != 0))
  (cond ((r2.1.1.1 != 0))
    (cond (decide ((IntKind.wrap .i64 (Int.tdiv a1 r2.1.1.1)) < 0))
      ((spec_l01Ok n (((IntKind.wrap .i64 (0 - (IntKind.wrap .i64 (Int.tdiv a0 r2.1.1.1)))), (IntKind.wrap .i64 (0 - (IntKind.wrap .i64 (Int.tdiv a1 r2.1.1.1))))))).bind fun r3 =>
        cond (!r3.1.1.1)
        (some (((((0, 0), ()), ((3, ()), ())), ())))
        (some ((((((IntKind.wrap .i64 (0 - (IntKind.wrap .i64 (Int.tdiv a0 r2.1.1.1)))), (IntKind.wrap .i64 (0 - (IntKind.wrap .i64 (Int.tdiv a1 r2.1.1.1))))), ()), ((0, ()), ())), ()))))
      ((spec_l01Ok n (((IntKind.wrap .i64 (Int.tdiv a0 r2.1.1.1)), (IntKind.wrap .i64 (Int.tdiv a1 r2.1.1.1))))).bind fun r4 =>
        cond (!r4.1.1.1)
        (some (((((0, 0), ()), ((3, ()), ())), ())))
        (some ((((((IntKind.wrap .i64 (Int.tdiv a0 r2.1.1.1)), (IntKind.wrap .i64 (Int.tdiv a1 r2.1.1.1))), ()), ((0, ()), ())), ())))))
    (none))
  (none)

noncomputable def spec_l01Reduced (n : Nat) (a0 : Int) (a1 : Int) : Option (((((Int) × (Int)) × (Unit)) × (((Int) × (Unit)) × (Unit))) × (Unit)) := spec_l01Reduced_t n a0 a1

noncomputable def spec_FaultAt_t (n : Nat) (a0 : (List (Int)) × ((Int) × (Int))) (a1 : Int) : Option (((((Int) × (Int)) × (Unit)) × (((Int) × (Unit)) × (Unit))) × (Unit)) :=
  (spec_l03Asked n a1 ((a0.1, (a0.2.1, a0.2.2)))).bind fun r0 =>
  cond ((r0.1.1.1 != 0))
  (some (((((0, 0), ()), ((r0.1.1.1, ()), ())), ())))
  ((spec_l03Fault n a1 ((r0.2.1.1, (r0.2.1.2.1, r0.2.1.2.2)))).bind fun r1 =>
    (spec_l01Reduced n r1.1.1.1 r1.1.2.1.1).bind fun r2 =>
    some (((((r2.1.1.1.1, r2.1.1.1.2), ()), ((r2.1.2.1.1, ()), ())), ())))

noncomputable def spec_FaultAt (n : Nat) (a0 : (List (Int)) × ((Int) × (Int))) (a1 : Int) : Option (((((Int) × (Int)) × (Unit)) × (((Int) × (Unit)) × (Unit))) × (Unit)) := spec_FaultAt_t n a0 a1

noncomputable def spec_SwingAt_t (n : Nat) (a0 : (List (Int)) × ((Int) × (Int))) (a1 : Int) : Option (((((Int) × (Int)) × (Unit)) × (((Int) × (Unit)) × (Unit))) × (Unit)) :=
  (spec_l03Asked n a1 ((a0.1, (a0.2.1, a0.2.2)))).bind fun r0 =>
  cond ((r0.1.1.1 != 0))
  (some (((((0, 0), ()), ((r0.1.1.1, ()), ())), ())))
  ((spec_l03Off n a1 ((r0.2.1.1, (r0.2.1.2.1, r0.2.1.2.2)))).bind fun r1 =>
    (spec_l01Reduced n r1.1.1.1 324000).bind fun r2 =>
    some (((((r2.1.1.1.1, r2.1.1.1.2), ()), ((r2.1.2.1.1, ()), ())), ())))

noncomputable def spec_SwingAt (n : Nat) (a0 : (List (Int)) × ((Int) × (Int))) (a1 : Int) : Option (((((Int) × (Int)) × (Unit)) × (((Int) × (Unit)) × (Unit))) × (Unit)) := spec_SwingAt_t n a0 a1

noncomputable def spec_l03Turn_t (n : Nat) (a0 : Int) (a1 : Int) : Option ((((Int) × (Unit)) × (Unit)) × (Unit)) :=
  (spec_l03Wrap n ((IntKind.wrap .i64 (a1 - a0)))).bind fun r0 =>
  cond (decide (r0.1.1.1 > 648000))
  (some (((((IntKind.wrap .i64 (r0.1.1.1 - 1296000)), ()), ()), ())))
  (some ((((r0.1.1.1, ()), ()), ())))

noncomputable def spec_l03Turn (n : Nat) (a0 : Int) (a1 : Int) : Option ((((Int) × (Unit)) × (Unit)) × (Unit)) := spec_l03Turn_t n a0 a1

noncomputable def spec_TurnFrom_t (n : Nat) (a0 : Int) (a1 : Int) : Option ((((Int) × (Unit)) × (((Int) × (Unit)) × (Unit))) × (Unit)) :=
  (spec_l03Angle n a0).bind fun r0 =>
  cond (!r0.1.1.1)
  (some ((((0, ()), ((1, ()), ())), ())))
  ((spec_l03Angle n a1).bind fun r1 =>
    cond (!r1.1.1.1)
    (some ((((0, ()), ((1, ()), ())), ())))
    ((spec_l03Turn n a0 a1).bind fun r2 =>
      some ((((r2.1.1.1, ()), ((0, ()), ())), ()))))

noncomputable def spec_TurnFrom (n : Nat) (a0 : Int) (a1 : Int) : Option ((((Int) × (Unit)) × (((Int) × (Unit)) × (Unit))) × (Unit)) := spec_TurnFrom_t n a0 a1

noncomputable def spec_l01Two_t (n : Nat) (a0 : (Int) × (Int)) (a1 : (Int) × (Int)) : Option ((((Int) × (Unit)) × (Unit)) × (Unit)) :=
  (spec_l01Ok n ((a0.1, a0.2))).bind fun r0 =>
  cond (!r0.1.1.1)
  (some ((((1, ()), ()), ())))
  ((spec_l01Ok n ((a1.1, a1.2))).bind fun r1 =>
    cond (!r1.1.1.1)
    (some ((((1, ()), ()), ())))
    (some ((((0, ()), ()), ()))))

noncomputable def spec_l01Two (n : Nat) (a0 : (Int) × (Int)) (a1 : (Int) × (Int)) : Option ((((Int) × (Unit)) × (Unit)) × (Unit)) := spec_l01Two_t n a0 a1

noncomputable def spec_l01Add_t (n : Nat) (a0 : (Int) × (Int)) (a1 : (Int) × (Int)) : Option (((((Int) × (Int)) × (Unit)) × (((Int) × (Unit)) × (Unit))) × (Unit)) :=
  (spec_l01Reduced n ((IntKind.wrap .i64 ((IntKind.wrap .i64 (a0.1 * a1.2)) + (IntKind.wrap .i64 (a1.1 * a0.2))))) ((IntKind.wrap .i64 (a0.2 * a1.2)))).bind fun r0 =>
  some (((((r0.1.1.1.1, r0.1.1.1.2), ()), ((r0.1.2.1.1, ()), ())), ()))

noncomputable def spec_l01Add (n : Nat) (a0 : (Int) × (Int)) (a1 : (Int) × (Int)) : Option (((((Int) × (Int)) × (Unit)) × (((Int) × (Unit)) × (Unit))) × (Unit)) := spec_l01Add_t n a0 a1

noncomputable def spec_AddFracs_t (n : Nat) (a0 : (Int) × (Int)) (a1 : (Int) × (Int)) : Option (((((Int) × (Int)) × (Unit)) × (((Int) × (Unit)) × (Unit))) × (Unit)) :=
  (spec_l01Two n ((a0.1, a0.2)) ((a1.1, a1.2))).bind fun r0 =>
  cond ((r0.1.1.1 != 0))
  (some (((((0, 0), ()), ((r0.1.1.1, ()), ())), ())))
  ((spec_l01Add n ((a0.1, a0.2)) ((a1.1, a1.2))).bind fun r1 =>
    some (((((r1.1.1.1.1, r1.1.1.1.2), ()), ((r1.1.2.1.1, ()), ())), ())))

noncomputable def spec_AddFracs (n : Nat) (a0 : (Int) × (Int)) (a1 : (Int) × (Int)) : Option (((((Int) × (Int)) × (Unit)) × (((Int) × (Unit)) × (Unit))) × (Unit)) := spec_AddFracs_t n a0 a1

noncomputable def spec_l01Neg_t (n : Nat) (a0 : (Int) × (Int)) : Option (((((Int) × (Int)) × (Unit)) × (Unit)) × (Unit)) :=
  some ((((((IntKind.wrap .i64 (0 - a0.1)), a0.2), ()), ()), ()))

noncomputable def spec_l01Neg (n : Nat) (a0 : (Int) × (Int)) : Option (((((Int) × (Int)) × (Unit)) × (Unit)) × (Unit)) := spec_l01Neg_t n a0

noncomputable def spec_l01Sub_t (n : Nat) (a0 : (Int) × (Int)) (a1 : (Int) × (Int)) : Option (((((Int) × (Int)) × (Unit)) × (((Int) × (Unit)) × (Unit))) × (Unit)) :=
  (spec_l01Neg n ((a1.1, a1.2))).bind fun r0 =>
  (spec_l01Add n ((a0.1, a0.2)) ((r0.1.1.1.1, r0.1.1.1.2))).bind fun r1 =>
  some (((((r1.1.1.1.1, r1.1.1.1.2), ()), ((r1.1.2.1.1, ()), ())), ()))

noncomputable def spec_l01Sub (n : Nat) (a0 : (Int) × (Int)) (a1 : (Int) × (Int)) : Option (((((Int) × (Int)) × (Unit)) × (((Int) × (Unit)) × (Unit))) × (Unit)) := spec_l01Sub_t n a0 a1

noncomputable def spec_SubFracs_t (n : Nat) (a0 : (Int) × (Int)) (a1 : (Int) × (Int)) : Option (((((Int) × (Int)) × (Unit)) × (((Int) × (Unit)) × (Unit))) × (Unit)) :=
  (spec_l01Two n ((a0.1, a0.2)) ((a1.1, a1.2))).bind fun r0 =>
  cond ((r0.1.1.1 != 0))
  (some (((((0, 0), ()), ((r0.1.1.1, ()), ())), ())))
  ((spec_l01Sub n ((a0.1, a0.2)) ((a1.1, a1.2))).bind fun r1 =>
    some (((((r1.1.1.1.1, r1.1.1.1.2), ()), ((r1.1.2.1.1, ()), ())), ())))

noncomputable def spec_SubFracs (n : Nat) (a0 : (Int) × (Int)) (a1 : (Int) × (Int)) : Option (((((Int) × (Int)) × (Unit)) × (((Int) × (Unit)) × (Unit))) × (Unit)) := spec_SubFracs_t n a0 a1

noncomputable def impl_gcd_t1 (n : Nat) (g1 : Int → Int → Option ((((Int) × (Unit)) × (Unit)) × (Unit))) (v1 : Int) (v0 : Int) : Option ((((Int) × (Unit)) × (Unit)) × (Unit)) :=
  cond ((v1 != 0))
  (cond ((v1 != 0))
    (g1 ((Int.tmod v0 v1)) v1)
    (none))
  (some (((((if v0 < (IntKind.wrap .i64 (0 - v0)) then (IntKind.wrap .i64 (0 - v0)) else v0), ()), ()), ())))

noncomputable def impl_gcd_l1 (n : Nat) : Nat → Int → Int → Option ((((Int) × (Unit)) × (Unit)) × (Unit))
  | 0, _, _ => none
  | k + 1, v1, v0 => impl_gcd_t1 n (impl_gcd_l1 n k) v1 v0

noncomputable def impl_gcd_t (n : Nat) (h1 : Nat → Int → Int → Option ((((Int) × (Unit)) × (Unit)) × (Unit))) (a0 : Int) (a1 : Int) : Option ((((Int) × (Unit)) × (Unit)) × (Unit)) :=
  h1 n a1 a0

noncomputable def impl_gcd (n : Nat) (a0 : Int) (a1 : Int) : Option ((((Int) × (Unit)) × (Unit)) × (Unit)) := impl_gcd_t n (impl_gcd_l1 n) a0 a1

noncomputable def impl_ValidFrac_t (n : Nat) (a0 : (Int) × (Int)) : Option ((((Bool) × (Unit)) × (Unit)) × (Unit)) :=
  (impl_within n a0.2 1 1000000000).bind fun r0 =>
  cond r0.1.1.1
  ((impl_within n a0.1 (-1000000000) 1000000000).bind fun r1 =>
    cond r1.1.1.1
    ((impl_gcd n a0.1 a0.2).bind fun r2 =>
      some (((((r2.1.1.1 == 1), ()), ()), ())))
    (some ((((false, ()), ()), ()))))
  (some ((((false, ()), ()), ())))

noncomputable def impl_ValidFrac (n : Nat) (a0 : (Int) × (Int)) : Option ((((Bool) × (Unit)) × (Unit)) × (Unit)) := impl_ValidFrac_t n a0

noncomputable def impl_areValid_1_t (n : Nat) (a0 : (Int) × (Int)) : Option ((((Bool) × (Unit)) × (Unit)) × (Unit)) :=
  (impl_ValidFrac n ((a0.1, a0.2))).bind fun r0 =>
  some (((((!r0.1.1.1), ()), ()), ()))

noncomputable def impl_areValid_1 (n : Nat) (a0 : (Int) × (Int)) : Option ((((Bool) × (Unit)) × (Unit)) × (Unit)) := impl_areValid_1_t n a0

noncomputable def slices_IndexFunc_impl_Frac_impl_Frac_at_impl_areValid_1_t2 (n : Nat) (g2 : Int → (List ((Int) × (Int))) → Int → Option ((((Int) × (Unit)) × (Unit)) × (Unit))) (v8 : Int) (v0 : List ((Int) × (Int))) (v7 : Int) : Option ((((Int) × (Unit)) × (Unit)) × (Unit)) :=
  cond (decide (v8 < v7))
  (cond ((decide (0 ≤ v8) && decide (v8 < ((v0.length : Nat) : Int))))
    ((impl_areValid_1 n (((v0.getD (Int.toNat v8) (0, 0)).1, (v0.getD (Int.toNat v8) (0, 0)).2))).bind fun r0 =>
      cond r0.1.1.1
      (some ((((v8, ()), ()), ())))
      (g2 ((IntKind.wrap .i64 (v8 + 1))) v0 v7))
    (none))
  (some (((((-1), ()), ()), ())))

noncomputable def slices_IndexFunc_impl_Frac_impl_Frac_at_impl_areValid_1_l2 (n : Nat) : Nat → Int → (List ((Int) × (Int))) → Int → Option ((((Int) × (Unit)) × (Unit)) × (Unit))
  | 0, _, _, _ => none
  | k + 1, v8, v0, v7 => slices_IndexFunc_impl_Frac_impl_Frac_at_impl_areValid_1_t2 n (slices_IndexFunc_impl_Frac_impl_Frac_at_impl_areValid_1_l2 n k) v8 v0 v7

noncomputable def slices_IndexFunc_impl_Frac_impl_Frac_at_impl_areValid_1_t (n : Nat) (h2 : Nat → Int → (List ((Int) × (Int))) → Int → Option ((((Int) × (Unit)) × (Unit)) × (Unit))) (a0 : List ((Int) × (Int))) : Option ((((Int) × (Unit)) × (Unit)) × (Unit)) :=
  h2 n 0 a0 (((a0.length : Nat) : Int))

noncomputable def slices_IndexFunc_impl_Frac_impl_Frac_at_impl_areValid_1 (n : Nat) (a0 : List ((Int) × (Int))) : Option ((((Int) × (Unit)) × (Unit)) × (Unit)) := slices_IndexFunc_impl_Frac_impl_Frac_at_impl_areValid_1_t n (slices_IndexFunc_impl_Frac_impl_Frac_at_impl_areValid_1_l2 n) a0

noncomputable def slices_ContainsFunc_impl_Frac_impl_Frac_at_impl_areValid_1_t (n : Nat) (a0 : List ((Int) × (Int))) : Option ((((Bool) × (Unit)) × (Unit)) × (Unit)) :=
  (slices_IndexFunc_impl_Frac_impl_Frac_at_impl_areValid_1 n a0).bind fun r0 =>
  some ((((decide (r0.1.1.1 ≥ 0), ()), ()), ()))

noncomputable def slices_ContainsFunc_impl_Frac_impl_Frac_at_impl_areValid_1 (n : Nat) (a0 : List ((Int) × (Int))) : Option ((((Bool) × (Unit)) × (Unit)) × (Unit)) := slices_ContainsFunc_impl_Frac_impl_Frac_at_impl_areValid_1_t n a0

noncomputable def impl_areValid_t (n : Nat) (a0 : List ((Int) × (Int))) : Option ((((Bool) × (Unit)) × (Unit)) × (Unit)) :=
  (slices_ContainsFunc_impl_Frac_impl_Frac_at_impl_areValid_1 n a0).bind fun r0 =>
  some (((((!r0.1.1.1), ()), ()), ()))

noncomputable def impl_areValid (n : Nat) (a0 : List ((Int) × (Int))) : Option ((((Bool) × (Unit)) × (Unit)) × (Unit)) := impl_areValid_t n a0

noncomputable def impl_compare_t (n : Nat) (a0 : (Int) × (Int)) (a1 : (Int) × (Int)) : Option ((((Int) × (Unit)) × (Unit)) × (Unit)) :=
  cond (decide ((IntKind.wrap .i64 (a0.1 * a1.2)) < (IntKind.wrap .i64 (a1.1 * a0.2))))
  (some (((((-1), ()), ()), ())))
  (cond (decide ((IntKind.wrap .i64 (a0.1 * a1.2)) > (IntKind.wrap .i64 (a1.1 * a0.2))))
    (some ((((1, ()), ()), ())))
    (some ((((0, ()), ()), ()))))

noncomputable def impl_compare (n : Nat) (a0 : (Int) × (Int)) (a1 : (Int) × (Int)) : Option ((((Int) × (Unit)) × (Unit)) × (Unit)) := impl_compare_t n a0 a1

noncomputable def impl_CompareFracs_t (n : Nat) (a0 : (Int) × (Int)) (a1 : (Int) × (Int)) : Option ((((Int) × (Unit)) × (((Int) × (Unit)) × (Unit))) × (Unit)) :=
  (impl_areValid n (((a0.1, a0.2) :: ((a1.1, a1.2) :: [])))).bind fun r0 =>
  cond (!r0.1.1.1)
  (some ((((0, ()), ((1, ()), ())), ())))
  ((impl_compare n ((a0.1, a0.2)) ((a1.1, a1.2))).bind fun r1 =>
    some ((((r1.1.1.1, ()), ((0, ()), ())), ())))

noncomputable def impl_CompareFracs (n : Nat) (a0 : (Int) × (Int)) (a1 : (Int) × (Int)) : Option ((((Int) × (Unit)) × (((Int) × (Unit)) × (Unit))) × (Unit)) := impl_CompareFracs_t n a0 a1

noncomputable def impl_ReadTwo_t (n : Nat) (a0 : (List (Int)) × ((Int) × (Int))) (a1 : Int) (a2 : Int) : Option ((((Int) × (Unit)) × (((Int) × (Unit)) × (((Int) × (Unit)) × (Unit)))) × (Unit)) :=
  (impl_headCode n ((a0.1, (a0.2.1, a0.2.2))) a2 ((a1 :: []))).bind fun r0 =>
  cond ((r0.1.1.1 != 0))
  (some ((((0, ()), ((0, ()), ((r0.1.1.1, ()), ()))), ())))
  ((impl_head n ((a0.1, (a0.2.1, a0.2.2))) a1 a2).bind fun r1 =>
    (impl_wrap n ((IntKind.wrap .i64 (a1 + 648000)))).bind fun r2 =>
    (impl_head n ((a0.1, (a0.2.1, a0.2.2))) r2.1.1.1 a2).bind fun r3 =>
    some ((((r1.1.1.1, ()), ((r3.1.1.1, ()), ((0, ()), ()))), ())))

noncomputable def impl_ReadTwo (n : Nat) (a0 : (List (Int)) × ((Int) × (Int))) (a1 : Int) (a2 : Int) : Option ((((Int) × (Unit)) × (((Int) × (Unit)) × (((Int) × (Unit)) × (Unit)))) × (Unit)) := impl_ReadTwo_t n a0 a1 a2

noncomputable def spec_ReadTwo_t (n : Nat) (a0 : (List (Int)) × ((Int) × (Int))) (a1 : Int) (a2 : Int) : Option ((((Int) × (Unit)) × (((Int) × (Unit)) × (((Int) × (Unit)) × (Unit)))) × (Unit)) :=
  (spec_l03Least n a1 a2 ((a0.1, (a0.2.1, a0.2.2)))).bind fun r0 =>
  cond ((r0.1.1.1 != 0))
  (some ((((0, ()), ((0, ()), ((r0.1.1.1, ()), ()))), ())))
  ((spec_l03Head n a1 a2 ((r0.2.1.1, (r0.2.1.2.1, r0.2.1.2.2)))).bind fun r1 =>
    (spec_l03Wrap n ((IntKind.wrap .i64 (a1 + 648000)))).bind fun r2 =>
    (spec_l03Head n r2.1.1.1 a2 ((r1.2.1.1, (r1.2.1.2.1, r1.2.1.2.2)))).bind fun r3 =>
    some ((((r1.1.1.1, ()), ((r3.1.1.1, ()), ((0, ()), ()))), ())))

noncomputable def spec_ReadTwo (n : Nat) (a0 : (List (Int)) × ((Int) × (Int))) (a1 : Int) (a2 : Int) : Option ((((Int) × (Unit)) × (((Int) × (Unit)) × (((Int) × (Unit)) × (Unit)))) × (Unit)) := spec_ReadTwo_t n a0 a1 a2

noncomputable def impl_turnFrom_t (n : Nat) (a0 : Int) (a1 : Int) : Option ((((Int) × (Unit)) × (Unit)) × (Unit)) :=
  (impl_wrap n ((IntKind.wrap .i64 (a1 - a0)))).bind fun r0 =>
  cond (decide (r0.1.1.1 > 648000))
  (some (((((IntKind.wrap .i64 (r0.1.1.1 - 1296000)), ()), ()), ())))
  (some ((((r0.1.1.1, ()), ()), ())))

noncomputable def impl_turnFrom (n : Nat) (a0 : Int) (a1 : Int) : Option ((((Int) × (Unit)) × (Unit)) × (Unit)) := impl_turnFrom_t n a0 a1

noncomputable def impl_fracOf_t (n : Nat) (a0 : Int) (a1 : Int) : Option (((((Int) × (Int)) × (Unit)) × (((Bool) × (Unit)) × (Unit))) × (Unit)) :=
  cond (decide (a1 < 0))
  ((impl_gcd n ((IntKind.wrap .i64 (0 - a0))) ((IntKind.wrap .i64 (0 - a1)))).bind fun r0 =>
    cond ((r0.1.1.1 != 0))
    (cond ((r0.1.1.1 != 0))
      ((impl_ValidFrac n (((IntKind.wrap .i64 (Int.tdiv (IntKind.wrap .i64 (0 - a0)) r0.1.1.1)), (IntKind.wrap .i64 (Int.tdiv (IntKind.wrap .i64 (0 - a1)) r0.1.1.1))))).bind fun r1 =>
        cond (!r1.1.1.1)
        (some (((((0, 0), ()), ((false, ()), ())), ())))
        (some ((((((IntKind.wrap .i64 (Int.tdiv (IntKind.wrap .i64 (0 - a0)) r0.1.1.1)), (IntKind.wrap .i64 (Int.tdiv (IntKind.wrap .i64 (0 - a1)) r0.1.1.1))), ()), ((true, ()), ())), ()))))
      (none))
    (none))
  ((impl_gcd n a0 a1).bind fun r2 =>
    cond ((r2.1.1.1 != 0))
    (cond ((r2.1.1.1 != 0))
      ((impl_ValidFrac n (((IntKind.wrap .i64 (Int.tdiv a0 r2.1.1.1)), (IntKind.wrap .i64 (Int.tdiv a1 r2.1.1.1))))).bind fun r3 =>
        cond (!r3.1.1.1)
        (some (((((0, 0), ()), ((false, ()), ())), ())))
        (some ((((((IntKind.wrap .i64 (Int.tdiv a0 r2.1.1.1)), (IntKind.wrap .i64 (Int.tdiv a1 r2.1.1.1))), ()), ((true, ()), ())), ()))))
      (none))
    (none))

noncomputable def impl_fracOf (n : Nat) (a0 : Int) (a1 : Int) : Option (((((Int) × (Int)) × (Unit)) × (((Bool) × (Unit)) × (Unit))) × (Unit)) := impl_fracOf_t n a0 a1

noncomputable def impl_zero_t (n : Nat) : Option (((((Int) × (Int)) × (Unit)) × (Unit)) × (Unit)) :=
  some (((((0, 1), ()), ()), ()))

noncomputable def impl_zero (n : Nat) : Option (((((Int) × (Int)) × (Unit)) × (Unit)) × (Unit)) := impl_zero_t n

noncomputable def impl_calc_told_t (n : Nat) (a1 : Int) (a2 : Int) (b0 : Bool) : Option (((((Int) × (Int)) × (Unit)) × (Unit)) × ((Bool) × (Unit))) :=
  (impl_fracOf n a1 a2).bind fun r0 =>
  cond (!r0.1.2.1.1)
  ((impl_zero n).bind fun r1 =>
    some (((((r1.1.1.1.1, r1.1.1.1.2), ()), ()), (true, ()))))
  (some (((((r0.1.1.1.1, r0.1.1.1.2), ()), ()), (b0, ()))))

noncomputable def impl_calc_told (n : Nat) (a1 : Int) (a2 : Int) (b0 : Bool) : Option (((((Int) × (Int)) × (Unit)) × (Unit)) × ((Bool) × (Unit))) := impl_calc_told_t n a1 a2 b0

noncomputable def impl_calc_one_t (n : Nat) (a1 : (Int) × (Int)) (b0 : Bool) : Option (((((Int) × (Int)) × (Unit)) × (((Int) × (Unit)) × (Unit))) × ((Bool) × (Unit))) :=
  cond b0
  (some (((((0, 0), ()), ((3, ()), ())), (b0, ()))))
  (some (((((a1.1, a1.2), ()), ((0, ()), ())), (b0, ()))))

noncomputable def impl_calc_one (n : Nat) (a1 : (Int) × (Int)) (b0 : Bool) : Option (((((Int) × (Int)) × (Unit)) × (((Int) × (Unit)) × (Unit))) × ((Bool) × (Unit))) := impl_calc_one_t n a1 b0

noncomputable def impl_MeanOfTwo_t (n : Nat) (a0 : Int) (a1 : Int) : Option (((((Int) × (Int)) × (Unit)) × (((Int) × (Unit)) × (Unit))) × (Unit)) :=
  (impl_isAngle n a0).bind fun r0 =>
  cond (!r0.1.1.1)
  (some (((((0, 0), ()), ((1, ()), ())), ())))
  ((impl_isAngle n a1).bind fun r1 =>
    cond (!r1.1.1.1)
    (some (((((0, 0), ()), ((1, ()), ())), ())))
    ((impl_wrap n ((IntKind.wrap .i64 (a1 - 648000)))).bind fun r2 =>
      (impl_turnFrom n a0 r2.1.1.1).bind fun r3 =>
      (impl_calc_told n ((IntKind.wrap .i64 ((IntKind.wrap .i64 (2 * a0)) + r3.1.1.1))) 2 false).bind fun r4 =>
      (impl_calc_one n ((r4.1.1.1.1, r4.1.1.1.2)) r4.2.1).bind fun r5 =>
      some (((((r5.1.1.1.1, r5.1.1.1.2), ()), ((r5.1.2.1.1, ()), ())), ()))))

noncomputable def impl_MeanOfTwo (n : Nat) (a0 : Int) (a1 : Int) : Option (((((Int) × (Int)) × (Unit)) × (((Int) × (Unit)) × (Unit))) × (Unit)) := impl_MeanOfTwo_t n a0 a1

noncomputable def impl_WorstHead_t8 (n : Nat) (g8 : Int → Int → Int → (List (Int)) → Int → Int → (List (Int)) → Int → Int → Option ((((Int) × (Unit)) × (((Int) × (Unit)) × (((Int) × (Unit)) × (Unit)))) × (Unit))) (v36 : Int) (v10 : Int) (v2 : Int) (v34 : List (Int)) (v11 : Int) (v35 : Int) (b0_0 : List (Int)) (b0_1 : Int) (b0_2 : Int) : Option ((((Int) × (Unit)) × (((Int) × (Unit)) × (((Int) × (Unit)) × (Unit)))) × (Unit)) :=
  cond (decide (v36 < v35))
  (cond ((decide (0 ≤ v36) && decide (v36 < ((v34.length : Nat) : Int))))
    ((impl_head n ((b0_0, (b0_1, b0_2))) ((v34.getD (Int.toNat v36) 0)) v2).bind fun r1 =>
      (impl_turnFrom n ((v34.getD (Int.toNat v36) 0)) r1.1.1.1).bind fun r2 =>
      cond (decide ((if r2.1.1.1 < (IntKind.wrap .i64 (0 - r2.1.1.1)) then (IntKind.wrap .i64 (0 - r2.1.1.1)) else r2.1.1.1) > v10))
      (g8 ((IntKind.wrap .i64 (v36 + 1))) ((if r2.1.1.1 < (IntKind.wrap .i64 (0 - r2.1.1.1)) then (IntKind.wrap .i64 (0 - r2.1.1.1)) else r2.1.1.1)) v2 v34 ((v34.getD (Int.toNat v36) 0)) v35 b0_0 b0_1 b0_2)
      (g8 ((IntKind.wrap .i64 (v36 + 1))) v10 v2 v34 v11 v35 b0_0 b0_1 b0_2))
    (none))
  (some ((((v10, ()), ((v11, ()), ((0, ()), ()))), ())))

noncomputable def impl_WorstHead_l8 (n : Nat) : Nat → Int → Int → Int → (List (Int)) → Int → Int → (List (Int)) → Int → Int → Option ((((Int) × (Unit)) × (((Int) × (Unit)) × (((Int) × (Unit)) × (Unit)))) × (Unit))
  | 0, _, _, _, _, _, _, _, _, _ => none
  | k + 1, v36, v10, v2, v34, v11, v35, b0_0, b0_1, b0_2 => impl_WorstHead_t8 n (impl_WorstHead_l8 n k) v36 v10 v2 v34 v11 v35 b0_0 b0_1 b0_2

noncomputable def impl_WorstHead_t (n : Nat) (h8 : Nat → Int → Int → Int → (List (Int)) → Int → Int → (List (Int)) → Int → Int → Option ((((Int) × (Unit)) × (((Int) × (Unit)) × (((Int) × (Unit)) × (Unit)))) × (Unit))) (a0 : (List (Int)) × ((Int) × (Int))) (a1 : List (Int)) (a2 : Int) : Option ((((Int) × (Unit)) × (((Int) × (Unit)) × (((Int) × (Unit)) × (Unit)))) × (Unit)) :=
  (impl_headCode n ((a0.1, (a0.2.1, a0.2.2))) a2 a1).bind fun r0 =>
  cond ((r0.1.1.1 == 0))
  (cond ((((a1.length : Nat) : Int) == 0))
    (some ((((0, ()), ((0, ()), ((2, ()), ()))), ())))
    (cond (decide (((a1.length : Nat) : Int) > 72))
      (some ((((0, ()), ((0, ()), ((2, ()), ()))), ())))
      (cond ((r0.1.1.1 != 0))
        (some ((((0, ()), ((0, ()), ((r0.1.1.1, ()), ()))), ())))
        (h8 n 0 (-1) a2 a1 0 (((a1.length : Nat) : Int)) a0.1 a0.2.1 a0.2.2))))
  (cond ((r0.1.1.1 != 0))
    (some ((((0, ()), ((0, ()), ((r0.1.1.1, ()), ()))), ())))
    (h8 n 0 (-1) a2 a1 0 (((a1.length : Nat) : Int)) a0.1 a0.2.1 a0.2.2))

noncomputable def impl_WorstHead (n : Nat) (a0 : (List (Int)) × ((Int) × (Int))) (a1 : List (Int)) (a2 : Int) : Option ((((Int) × (Unit)) × (((Int) × (Unit)) × (((Int) × (Unit)) × (Unit)))) × (Unit)) := impl_WorstHead_t n (impl_WorstHead_l8 n) a0 a1 a2

noncomputable def spec_WorstHead_t13 (n : Nat) (g13 : Int → (List (Int)) → Int → Int → Int → (List (Int)) → Int → Int → Option ((((Int) × (Unit)) × (((Int) × (Unit)) × (((Int) × (Unit)) × (Unit)))) × (Unit))) (v13 : Int) (v1 : List (Int)) (v11 : Int) (v2 : Int) (v12 : Int) (b0_0 : List (Int)) (b0_1 : Int) (b0_2 : Int) : Option ((((Int) × (Unit)) × (((Int) × (Unit)) × (((Int) × (Unit)) × (Unit)))) × (Unit)) :=
  cond (decide (v13 < ((v1.length : Nat) : Int)))
  (cond ((decide (0 ≤ v13) && decide (v13 < ((v1.length : Nat) : Int))))
    (cond ((decide (0 ≤ v13) && decide (v13 < ((v1.length : Nat) : Int))))
      ((spec_l03Head n ((v1.getD (Int.toNat v13) 0)) v2 ((b0_0, (b0_1, b0_2)))).bind fun r4 =>
        (spec_l03Turn n ((v1.getD (Int.toNat v13) 0)) r4.1.1.1).bind fun r5 =>
        (spec_l01Abs n r5.1.1.1).bind fun r6 =>
        cond (decide (r6.1.1.1 > v11))
        (cond ((decide (0 ≤ v13) && decide (v13 < ((v1.length : Nat) : Int))))
          (g13 ((IntKind.wrap .i64 (v13 + 1))) v1 r6.1.1.1 v2 ((v1.getD (Int.toNat v13) 0)) r4.2.1.1 r4.2.1.2.1 r4.2.1.2.2)
          (none))
        (g13 ((IntKind.wrap .i64 (v13 + 1))) v1 v11 v2 v12 r4.2.1.1 r4.2.1.2.1 r4.2.1.2.2))
      (none))
    (none))
  (some ((((v11, ()), ((v12, ()), ((0, ()), ()))), ())))

noncomputable def spec_WorstHead_l13 (n : Nat) : Nat → Int → (List (Int)) → Int → Int → Int → (List (Int)) → Int → Int → Option ((((Int) × (Unit)) × (((Int) × (Unit)) × (((Int) × (Unit)) × (Unit)))) × (Unit))
  | 0, _, _, _, _, _, _, _, _ => none
  | k + 1, v13, v1, v11, v2, v12, b0_0, b0_1, b0_2 => spec_WorstHead_t13 n (spec_WorstHead_l13 n k) v13 v1 v11 v2 v12 b0_0 b0_1 b0_2

noncomputable def spec_WorstHead_t3 (n : Nat) (h13 : Nat → Int → (List (Int)) → Int → Int → Int → (List (Int)) → Int → Int → Option ((((Int) × (Unit)) × (((Int) × (Unit)) × (((Int) × (Unit)) × (Unit)))) × (Unit))) (g3 : Int → (List (Int)) → Int → Bool → (List (Int)) → Int → Int → Option ((((Int) × (Unit)) × (((Int) × (Unit)) × (((Int) × (Unit)) × (Unit)))) × (Unit))) (v10 : Int) (v1 : List (Int)) (v2 : Int) (v9 : Bool) (b0_0 : List (Int)) (b0_1 : Int) (b0_2 : Int) : Option ((((Int) × (Unit)) × (((Int) × (Unit)) × (((Int) × (Unit)) × (Unit)))) × (Unit)) :=
  cond (decide (v10 < ((v1.length : Nat) : Int)))
  (cond v9
    (cond ((decide (0 ≤ v10) && decide (v10 < ((v1.length : Nat) : Int))))
      ((spec_l03Angle n ((v1.getD (Int.toNat v10) 0))).bind fun r1 =>
        g3 ((IntKind.wrap .i64 (v10 + 1))) v1 v2 r1.1.1.1 b0_0 b0_1 b0_2)
      (none))
    (cond (!v9)
      (some ((((0, ()), ((0, ()), ((1, ()), ()))), ())))
      ((spec_l00In n v2 1 3600).bind fun r2 =>
        cond (!r2.1.1.1)
        (some ((((0, ()), ((0, ()), ((2, ()), ()))), ())))
        ((spec_l00In n (((v1.length : Nat) : Int)) 1 72).bind fun r3 =>
          cond (!r3.1.1.1)
          (some ((((0, ()), ((0, ()), ((2, ()), ()))), ())))
          (h13 n 0 v1 (-1) v2 0 b0_0 b0_1 b0_2)))))
  (cond (!v9)
    (some ((((0, ()), ((0, ()), ((1, ()), ()))), ())))
    ((spec_l00In n v2 1 3600).bind fun r7 =>
      cond (!r7.1.1.1)
      (some ((((0, ()), ((0, ()), ((2, ()), ()))), ())))
      ((spec_l00In n (((v1.length : Nat) : Int)) 1 72).bind fun r8 =>
        cond (!r8.1.1.1)
        (some ((((0, ()), ((0, ()), ((2, ()), ()))), ())))
        (h13 n 0 v1 (-1) v2 0 b0_0 b0_1 b0_2))))

noncomputable def spec_WorstHead_l3 (n : Nat) : Nat → Int → (List (Int)) → Int → Bool → (List (Int)) → Int → Int → Option ((((Int) × (Unit)) × (((Int) × (Unit)) × (((Int) × (Unit)) × (Unit)))) × (Unit))
  | 0, _, _, _, _, _, _, _ => none
  | k + 1, v10, v1, v2, v9, b0_0, b0_1, b0_2 => spec_WorstHead_t3 n (spec_WorstHead_l13 n) (spec_WorstHead_l3 n k) v10 v1 v2 v9 b0_0 b0_1 b0_2

noncomputable def spec_WorstHead_t (n : Nat) (h3 : Nat → Int → (List (Int)) → Int → Bool → (List (Int)) → Int → Int → Option ((((Int) × (Unit)) × (((Int) × (Unit)) × (((Int) × (Unit)) × (Unit)))) × (Unit))) (a0 : (List (Int)) × ((Int) × (Int))) (a1 : List (Int)) (a2 : Int) : Option ((((Int) × (Unit)) × (((Int) × (Unit)) × (((Int) × (Unit)) × (Unit)))) × (Unit)) :=
  (spec_l03Ok n ((a0.1, (a0.2.1, a0.2.2)))).bind fun r0 =>
  h3 n 0 a1 a2 r0.1.1.1 r0.2.1.1 r0.2.1.2.1 r0.2.1.2.2

noncomputable def spec_WorstHead (n : Nat) (a0 : (List (Int)) × ((Int) × (Int))) (a1 : List (Int)) (a2 : Int) : Option ((((Int) × (Unit)) × (((Int) × (Unit)) × (((Int) × (Unit)) × (Unit)))) × (Unit)) := spec_WorstHead_t n (spec_WorstHead_l3 n) a0 a1 a2

noncomputable def spec_A2Has_t2 (n : Nat) (g2 : Int → Int → (List (Int)) → Option ((((Bool) × (Unit)) × (Unit)) × (Unit))) (v5 : Int) (v1 : Int) (v0 : List (Int)) : Option ((((Bool) × (Unit)) × (Unit)) × (Unit)) :=
  cond (decide (v5 < ((v0.length : Nat) : Int)))
  (cond ((decide (0 ≤ v5) && decide (v5 < ((v0.length : Nat) : Int))))
    (cond (((v0.getD (Int.toNat v5) 0) == v1))
      (some ((((true, ()), ()), ())))
      (g2 ((IntKind.wrap .i64 (v5 + 1))) v1 v0))
    (none))
  (some ((((false, ()), ()), ())))

noncomputable def spec_A2Has_l2 (n : Nat) : Nat → Int → Int → (List (Int)) → Option ((((Bool) × (Unit)) × (Unit)) × (Unit))
  | 0, _, _, _ => none
  | k + 1, v5, v1, v0 => spec_A2Has_t2 n (spec_A2Has_l2 n k) v5 v1 v0

noncomputable def spec_A2Has_t (n : Nat) (h2 : Nat → Int → Int → (List (Int)) → Option ((((Bool) × (Unit)) × (Unit)) × (Unit))) (a0 : List (Int)) (a1 : Int) : Option ((((Bool) × (Unit)) × (Unit)) × (Unit)) :=
  h2 n 0 a1 a0

noncomputable def spec_A2Has (n : Nat) (a0 : List (Int)) (a1 : Int) : Option ((((Bool) × (Unit)) × (Unit)) × (Unit)) := spec_A2Has_t n (spec_A2Has_l2 n) a0 a1

noncomputable def laws_FnHeads_t (n : Nat) (a0 : List (Int)) (a1 : List (Int)) : Option ((((Bool) × (Unit)) × (Unit)) × (Unit)) :=
  (laws_a2Long n a0 a1).bind fun r0 =>
  cond r0.1.1.1
  (some ((((true, ()), ()), ())))
  ((spec_A2Disk n a0).bind fun r1 =>
    (spec_A2Angle n a1).bind fun r2 =>
    (laws_a2At n a1 1 5).bind fun r3 =>
    cond ((decide (0 ≤ r3.1.1.1) && decide (r3.1.1.1 < (((1 :: (2 :: (5 :: (10 :: ((60 : Int) :: []))))).length : Nat) : Int))))
    ((impl_ReadHead n ((r1.1.1.1.1, (r1.1.1.1.2.1, r1.1.1.1.2.2))) r2.1.1.1 (((1 :: (2 :: (5 :: (10 :: ((60 : Int) :: []))))).getD (Int.toNat r3.1.1.1) 0))).bind fun r4 =>
      (spec_ReadHead n ((r1.1.1.1.1, (r1.1.1.1.2.1, r1.1.1.1.2.2))) r2.1.1.1 (((1 :: (2 :: (5 :: (10 :: ((60 : Int) :: []))))).getD (Int.toNat r3.1.1.1) 0))).bind fun r5 =>
      (spec_FaultAt n ((r1.1.1.1.1, (r1.1.1.1.2.1, r1.1.1.1.2.2))) r2.1.1.1).bind fun r6 =>
      (spec_SwingAt n ((r1.1.1.1.1, (r1.1.1.1.2.1, r1.1.1.1.2.2))) r2.1.1.1).bind fun r7 =>
      cond ((r4.1.2.1.1 != r5.1.2.1.1))
      (some ((((false, ()), ()), ())))
      (cond ((r4.1.2.1.1 != 0))
        (some ((((false, ()), ()), ())))
        (cond ((r4.1.1.1 != r5.1.1.1))
          (some ((((false, ()), ()), ())))
          (cond ((((1 :: (2 :: (5 :: (10 :: ((60 : Int) :: []))))).getD (Int.toNat r3.1.1.1) 0) != 0))
            (cond (((Int.tmod r5.1.1.1 ((1 :: (2 :: (5 :: (10 :: ((60 : Int) :: []))))).getD (Int.toNat r3.1.1.1) 0)) != 0))
              (some ((((false, ()), ()), ())))
              (cond ((r6.1.2.1.1 != 0))
                (some ((((false, ()), ()), ())))
                (cond ((r7.1.2.1.1 != 0))
                  (some ((((false, ()), ()), ())))
                  ((spec_TurnFrom n r2.1.1.1 r5.1.1.1).bind fun r8 =>
                    (spec_AddFracs n ((r6.1.1.1.1, r6.1.1.1.2)) ((r7.1.1.1.1, r7.1.1.1.2))).bind fun r9 =>
                    cond ((r8.1.2.1.1 != 0))
                    (some ((((false, ()), ()), ())))
                    (cond ((r9.1.2.1.1 == 0))
                      ((spec_SubFracs n ((r9.1.1.1.1, r9.1.1.1.2)) ((r8.1.1.1, 1))).bind fun r10 =>
                        (impl_CompareFracs n ((r10.1.1.1.1, r10.1.1.1.2)) (((-3601), 2))).bind fun r11 =>
                        cond ((r10.1.2.1.1 == 0))
                        (cond ((r11.1.2.1.1 != 0))
                          (some ((((false, ()), ()), ())))
                          (cond (decide (r11.1.1.1 < 0))
                            (some ((((false, ()), ()), ())))
                            (cond ((r10.1.2.1.1 == 0))
                              (cond (decide ((IntKind.wrap .i64 (2 * r10.1.1.1.1)) > (IntKind.wrap .i64 (((1 :: (2 :: (5 :: (10 :: ((60 : Int) :: []))))).getD (Int.toNat r3.1.1.1) 0) * r10.1.1.1.2))))
                                (some ((((false, ()), ()), ())))
                                (cond (decide ((IntKind.wrap .i64 (2 * r10.1.1.1.1)) < (IntKind.wrap .i64 ((IntKind.wrap .i64 (0 - ((1 :: (2 :: (5 :: (10 :: ((60 : Int) :: []))))).getD (Int.toNat r3.1.1.1) 0))) * r10.1.1.1.2))))
                                  (some ((((false, ()), ()), ())))
                                  ((impl_ReadTwo n (((0 :: []), (r1.1.1.1.2.1, r1.1.1.1.2.2))) r2.1.1.1 (((1 :: (2 :: (5 :: (10 :: ((60 : Int) :: []))))).getD (Int.toNat r3.1.1.1) 0))).bind fun r12 =>
                                    (spec_ReadTwo n (((0 :: []), (r1.1.1.1.2.1, r1.1.1.1.2.2))) r2.1.1.1 (((1 :: (2 :: (5 :: (10 :: ((60 : Int) :: []))))).getD (Int.toNat r3.1.1.1) 0))).bind fun r13 =>
                                    (impl_MeanOfTwo n r12.1.1.1 r12.1.2.1.1).bind fun r14 =>
                                    cond ((r12.1.2.2.1.1 != r13.1.2.2.1.1))
                                    (some ((((false, ()), ()), ())))
                                    (cond ((r12.1.2.2.1.1 != 0))
                                      (some ((((false, ()), ()), ())))
                                      (cond ((r12.1.1.1 != r13.1.1.1))
                                        (some ((((false, ()), ()), ())))
                                        (cond ((r12.1.2.1.1 != r13.1.2.1.1))
                                          (some ((((false, ()), ()), ())))
                                          (cond ((r14.1.2.1.1 != 0))
                                            (some ((((false, ()), ()), ())))
                                            (cond (decide ((IntKind.wrap .i64 (r14.1.1.1.1 - (IntKind.wrap .i64 (r2.1.1.1 * r14.1.1.1.2)))) > (IntKind.wrap .i64 (600000 * r14.1.1.1.2))))
                                              (cond (decide ((IntKind.wrap .i64 ((IntKind.wrap .i64 (r14.1.1.1.1 - (IntKind.wrap .i64 (r2.1.1.1 * r14.1.1.1.2)))) - (IntKind.wrap .i64 (1296000 * r14.1.1.1.2)))) < (IntKind.wrap .i64 ((-600000) * r14.1.1.1.2))))
                                                (cond (decide ((IntKind.wrap .i64 ((IntKind.wrap .i64 ((IntKind.wrap .i64 (r14.1.1.1.1 - (IntKind.wrap .i64 (r2.1.1.1 * r14.1.1.1.2)))) - (IntKind.wrap .i64 (1296000 * r14.1.1.1.2)))) + (IntKind.wrap .i64 (1296000 * r14.1.1.1.2)))) > (IntKind.wrap .i64 (((1 :: (2 :: (5 :: (10 :: ((60 : Int) :: []))))).getD (Int.toNat r3.1.1.1) 0) * r14.1.1.1.2))))
                                                  (some ((((false, ()), ()), ())))
                                                  (cond (decide ((IntKind.wrap .i64 ((IntKind.wrap .i64 ((IntKind.wrap .i64 (r14.1.1.1.1 - (IntKind.wrap .i64 (r2.1.1.1 * r14.1.1.1.2)))) - (IntKind.wrap .i64 (1296000 * r14.1.1.1.2)))) + (IntKind.wrap .i64 (1296000 * r14.1.1.1.2)))) < (IntKind.wrap .i64 ((IntKind.wrap .i64 (0 - ((1 :: (2 :: (5 :: (10 :: ((60 : Int) :: []))))).getD (Int.toNat r3.1.1.1) 0))) * r14.1.1.1.2))))
                                                    (some ((((false, ()), ()), ())))
                                                    ((impl_WorstHead n ((r1.1.1.1.1, (r1.1.1.1.2.1, r1.1.1.1.2.2))) ((r2.1.1.1 :: (0 :: (324000 :: (r2.1.1.1 :: []))))) (((1 :: (2 :: (5 :: (10 :: ((60 : Int) :: []))))).getD (Int.toNat r3.1.1.1) 0))).bind fun r15 =>
                                                      (spec_WorstHead n ((r1.1.1.1.1, (r1.1.1.1.2.1, r1.1.1.1.2.2))) ((r2.1.1.1 :: (0 :: (324000 :: (r2.1.1.1 :: []))))) (((1 :: (2 :: (5 :: (10 :: ((60 : Int) :: []))))).getD (Int.toNat r3.1.1.1) 0))).bind fun r16 =>
                                                      cond ((r15.1.2.2.1.1 == r16.1.2.2.1.1))
                                                      (cond ((r15.1.2.2.1.1 == 0))
                                                        (cond ((r15.1.1.1 == r16.1.1.1))
                                                          (cond ((r15.1.2.1.1 == r16.1.2.1.1))
                                                            ((spec_A2Has n ((r2.1.1.1 :: (0 :: (324000 :: (r2.1.1.1 :: []))))) r16.1.2.1.1).bind fun r17 =>
                                                              some ((((r17.1.1.1, ()), ()), ())))
                                                            (some ((((false, ()), ()), ()))))
                                                          (some ((((false, ()), ()), ()))))
                                                        (some ((((false, ()), ()), ()))))
                                                      (some ((((false, ()), ()), ()))))))
                                                (cond (decide ((IntKind.wrap .i64 ((IntKind.wrap .i64 (r14.1.1.1.1 - (IntKind.wrap .i64 (r2.1.1.1 * r14.1.1.1.2)))) - (IntKind.wrap .i64 (1296000 * r14.1.1.1.2)))) > (IntKind.wrap .i64 (((1 :: (2 :: (5 :: (10 :: ((60 : Int) :: []))))).getD (Int.toNat r3.1.1.1) 0) * r14.1.1.1.2))))
                                                  (some ((((false, ()), ()), ())))
                                                  (cond (decide ((IntKind.wrap .i64 ((IntKind.wrap .i64 (r14.1.1.1.1 - (IntKind.wrap .i64 (r2.1.1.1 * r14.1.1.1.2)))) - (IntKind.wrap .i64 (1296000 * r14.1.1.1.2)))) < (IntKind.wrap .i64 ((IntKind.wrap .i64 (0 - ((1 :: (2 :: (5 :: (10 :: ((60 : Int) :: []))))).getD (Int.toNat r3.1.1.1) 0))) * r14.1.1.1.2))))
                                                    (some ((((false, ()), ()), ())))
                                                    ((impl_WorstHead n ((r1.1.1.1.1, (r1.1.1.1.2.1, r1.1.1.1.2.2))) ((r2.1.1.1 :: (0 :: (324000 :: (r2.1.1.1 :: []))))) (((1 :: (2 :: (5 :: (10 :: ((60 : Int) :: []))))).getD (Int.toNat r3.1.1.1) 0))).bind fun r18 =>
                                                      (spec_WorstHead n ((r1.1.1.1.1, (r1.1.1.1.2.1, r1.1.1.1.2.2))) ((r2.1.1.1 :: (0 :: (324000 :: (r2.1.1.1 :: []))))) (((1 :: (2 :: (5 :: (10 :: ((60 : Int) :: []))))).getD (Int.toNat r3.1.1.1) 0))).bind fun r19 =>
                                                      cond ((r18.1.2.2.1.1 == r19.1.2.2.1.1))
                                                      (cond ((r18.1.2.2.1.1 == 0))
                                                        (cond ((r18.1.1.1 == r19.1.1.1))
                                                          (cond ((r18.1.2.1.1 == r19.1.2.1.1))
                                                            ((spec_A2Has n ((r2.1.1.1 :: (0 :: (324000 :: (r2.1.1.1 :: []))))) r19.1.2.1.1).bind fun r20 =>
                                                              some ((((r20.1.1.1, ()), ()), ())))
                                                            (some ((((false, ()), ()), ()))))
                                                          (some ((((false, ()), ()), ()))))
                                                        (some ((((false, ()), ()), ()))))
                                                      (some ((((false, ()), ()), ())))))))
                                              (cond (decide ((IntKind.wrap .i64 (r14.1.1.1.1 - (IntKind.wrap .i64 (r2.1.1.1 * r14.1.1.1.2)))) < (IntKind.wrap .i64 ((-600000) * r14.1.1.1.2))))
                                                (cond (decide ((IntKind.wrap .i64 ((IntKind.wrap .i64 (r14.1.1.1.1 - (IntKind.wrap .i64 (r2.1.1.1 * r14.1.1.1.2)))) + (IntKind.wrap .i64 (1296000 * r14.1.1.1.2)))) > (IntKind.wrap .i64 (((1 :: (2 :: (5 :: (10 :: ((60 : Int) :: []))))).getD (Int.toNat r3.1.1.1) 0) * r14.1.1.1.2))))
                                                  (some ((((false, ()), ()), ())))
                                                  (cond (decide ((IntKind.wrap .i64 ((IntKind.wrap .i64 (r14.1.1.1.1 - (IntKind.wrap .i64 (r2.1.1.1 * r14.1.1.1.2)))) + (IntKind.wrap .i64 (1296000 * r14.1.1.1.2)))) < (IntKind.wrap .i64 ((IntKind.wrap .i64 (0 - ((1 :: (2 :: (5 :: (10 :: ((60 : Int) :: []))))).getD (Int.toNat r3.1.1.1) 0))) * r14.1.1.1.2))))
                                                    (some ((((false, ()), ()), ())))
                                                    ((impl_WorstHead n ((r1.1.1.1.1, (r1.1.1.1.2.1, r1.1.1.1.2.2))) ((r2.1.1.1 :: (0 :: (324000 :: (r2.1.1.1 :: []))))) (((1 :: (2 :: (5 :: (10 :: ((60 : Int) :: []))))).getD (Int.toNat r3.1.1.1) 0))).bind fun r21 =>
                                                      (spec_WorstHead n ((r1.1.1.1.1, (r1.1.1.1.2.1, r1.1.1.1.2.2))) ((r2.1.1.1 :: (0 :: (324000 :: (r2.1.1.1 :: []))))) (((1 :: (2 :: (5 :: (10 :: ((60 : Int) :: []))))).getD (Int.toNat r3.1.1.1) 0))).bind fun r22 =>
                                                      cond ((r21.1.2.2.1.1 == r22.1.2.2.1.1))
                                                      (cond ((r21.1.2.2.1.1 == 0))
                                                        (cond ((r21.1.1.1 == r22.1.1.1))
                                                          (cond ((r21.1.2.1.1 == r22.1.2.1.1))
                                                            ((spec_A2Has n ((r2.1.1.1 :: (0 :: (324000 :: (r2.1.1.1 :: []))))) r22.1.2.1.1).bind fun r23 =>
                                                              some ((((r23.1.1.1, ()), ()), ())))
                                                            (some ((((false, ()), ()), ()))))
                                                          (some ((((false, ()), ()), ()))))
                                                        (some ((((false, ()), ()), ()))))
                                                      (some ((((false, ()), ()), ()))))))
                                                (cond (decide ((IntKind.wrap .i64 (r14.1.1.1.1 - (IntKind.wrap .i64 (r2.1.1.1 * r14.1.1.1.2)))) > (IntKind.wrap .i64 (((1 :: (2 :: (5 :: (10 :: ((60 : Int) :: []))))).getD (Int.toNat r3.1.1.1) 0) * r14.1.1.1.2))))
                                                  (some ((((false, ()), ()), ())))
                                                  (cond (decide ((IntKind.wrap .i64 (r14.1.1.1.1 - (IntKind.wrap .i64 (r2.1.1.1 * r14.1.1.1.2)))) < (IntKind.wrap .i64 ((IntKind.wrap .i64 (0 - ((1 :: (2 :: (5 :: (10 :: ((60 : Int) :: []))))).getD (Int.toNat r3.1.1.1) 0))) * r14.1.1.1.2))))
                                                    (some ((((false, ()), ()), ())))
                                                    ((impl_WorstHead n ((r1.1.1.1.1, (r1.1.1.1.2.1, r1.1.1.1.2.2))) ((r2.1.1.1 :: (0 :: (324000 :: (r2.1.1.1 :: []))))) (((1 :: (2 :: (5 :: (10 :: ((60 : Int) :: []))))).getD (Int.toNat r3.1.1.1) 0))).bind fun r24 =>
                                                      (spec_WorstHead n ((r1.1.1.1.1, (r1.1.1.1.2.1, r1.1.1.1.2.2))) ((r2.1.1.1 :: (0 :: (324000 :: (r2.1.1.1 :: []))))) (((1 :: (2 :: (5 :: (10 :: ((60 : Int) :: []))))).getD (Int.toNat r3.1.1.1) 0))).bind fun r25 =>
                                                      cond ((r24.1.2.2.1.1 == r25.1.2.2.1.1))
                                                      (cond ((r24.1.2.2.1.1 == 0))
                                                        (cond ((r24.1.1.1 == r25.1.1.1))
                                                          (cond ((r24.1.2.1.1 == r25.1.2.1.1))
                                                            ((spec_A2Has n ((r2.1.1.1 :: (0 :: (324000 :: (r2.1.1.1 :: []))))) r25.1.2.1.1).bind fun r26 =>
                                                              some ((((r26.1.1.1, ()), ()), ())))
                                                            (some ((((false, ()), ()), ()))))
                                                          (some ((((false, ()), ()), ()))))
                                                        (some ((((false, ()), ()), ()))))
                                                      (some ((((false, ()), ()), ())))))))))))))))
                              ((impl_ReadTwo n (((0 :: []), (r1.1.1.1.2.1, r1.1.1.1.2.2))) r2.1.1.1 (((1 :: (2 :: (5 :: (10 :: ((60 : Int) :: []))))).getD (Int.toNat r3.1.1.1) 0))).bind fun r27 =>
                                (spec_ReadTwo n (((0 :: []), (r1.1.1.1.2.1, r1.1.1.1.2.2))) r2.1.1.1 (((1 :: (2 :: (5 :: (10 :: ((60 : Int) :: []))))).getD (Int.toNat r3.1.1.1) 0))).bind fun r28 =>
                                (impl_MeanOfTwo n r27.1.1.1 r27.1.2.1.1).bind fun r29 =>
                                cond ((r27.1.2.2.1.1 != r28.1.2.2.1.1))
                                (some ((((false, ()), ()), ())))
                                (cond ((r27.1.2.2.1.1 != 0))
                                  (some ((((false, ()), ()), ())))
                                  (cond ((r27.1.1.1 != r28.1.1.1))
                                    (some ((((false, ()), ()), ())))
                                    (cond ((r27.1.2.1.1 != r28.1.2.1.1))
                                      (some ((((false, ()), ()), ())))
                                      (cond ((r29.1.2.1.1 != 0))
                                        (some ((((false, ()), ()), ())))
                                        (cond (decide ((IntKind.wrap .i64 (r29.1.1.1.1 - (IntKind.wrap .i64 (r2.1.1.1 * r29.1.1.1.2)))) > (IntKind.wrap .i64 (600000 * r29.1.1.1.2))))
                                          (cond (decide ((IntKind.wrap .i64 ((IntKind.wrap .i64 (r29.1.1.1.1 - (IntKind.wrap .i64 (r2.1.1.1 * r29.1.1.1.2)))) - (IntKind.wrap .i64 (1296000 * r29.1.1.1.2)))) < (IntKind.wrap .i64 ((-600000) * r29.1.1.1.2))))
                                            (cond (decide ((IntKind.wrap .i64 ((IntKind.wrap .i64 ((IntKind.wrap .i64 (r29.1.1.1.1 - (IntKind.wrap .i64 (r2.1.1.1 * r29.1.1.1.2)))) - (IntKind.wrap .i64 (1296000 * r29.1.1.1.2)))) + (IntKind.wrap .i64 (1296000 * r29.1.1.1.2)))) > (IntKind.wrap .i64 (((1 :: (2 :: (5 :: (10 :: ((60 : Int) :: []))))).getD (Int.toNat r3.1.1.1) 0) * r29.1.1.1.2))))
                                              (some ((((false, ()), ()), ())))
                                              (cond (decide ((IntKind.wrap .i64 ((IntKind.wrap .i64 ((IntKind.wrap .i64 (r29.1.1.1.1 - (IntKind.wrap .i64 (r2.1.1.1 * r29.1.1.1.2)))) - (IntKind.wrap .i64 (1296000 * r29.1.1.1.2)))) + (IntKind.wrap .i64 (1296000 * r29.1.1.1.2)))) < (IntKind.wrap .i64 ((IntKind.wrap .i64 (0 - ((1 :: (2 :: (5 :: (10 :: ((60 : Int) :: []))))).getD (Int.toNat r3.1.1.1) 0))) * r29.1.1.1.2))))
                                                (some ((((false, ()), ()), ())))
                                                ((impl_WorstHead n ((r1.1.1.1.1, (r1.1.1.1.2.1, r1.1.1.1.2.2))) ((r2.1.1.1 :: (0 :: (324000 :: (r2.1.1.1 :: []))))) (((1 :: (2 :: (5 :: (10 :: ((60 : Int) :: []))))).getD (Int.toNat r3.1.1.1) 0))).bind fun r30 =>
                                                  (spec_WorstHead n ((r1.1.1.1.1, (r1.1.1.1.2.1, r1.1.1.1.2.2))) ((r2.1.1.1 :: (0 :: (324000 :: (r2.1.1.1 :: []))))) (((1 :: (2 :: (5 :: (10 :: ((60 : Int) :: []))))).getD (Int.toNat r3.1.1.1) 0))).bind fun r31 =>
                                                  cond ((r30.1.2.2.1.1 == r31.1.2.2.1.1))
                                                  (cond ((r30.1.2.2.1.1 == 0))
                                                    (cond ((r30.1.1.1 == r31.1.1.1))
                                                      (cond ((r30.1.2.1.1 == r31.1.2.1.1))
                                                        ((spec_A2Has n ((r2.1.1.1 :: (0 :: (324000 :: (r2.1.1.1 :: []))))) r31.1.2.1.1).bind fun r32 =>
                                                          some ((((r32.1.1.1, ()), ()), ())))
                                                        (some ((((false, ()), ()), ()))))
                                                      (some ((((false, ()), ()), ()))))
                                                    (some ((((false, ()), ()), ()))))
                                                  (some ((((false, ()), ()), ()))))))
                                            (cond (decide ((IntKind.wrap .i64 ((IntKind.wrap .i64 (r29.1.1.1.1 - (IntKind.wrap .i64 (r2.1.1.1 * r29.1.1.1.2)))) - (IntKind.wrap .i64 (1296000 * r29.1.1.1.2)))) > (IntKind.wrap .i64 (((1 :: (2 :: (5 :: (10 :: ((60 : Int) :: []))))).getD (Int.toNat r3.1.1.1) 0) * r29.1.1.1.2))))
                                              (some ((((false, ()), ()), ())))
                                              (cond (decide ((IntKind.wrap .i64 ((IntKind.wrap .i64 (r29.1.1.1.1 - (IntKind.wrap .i64 (r2.1.1.1 * r29.1.1.1.2)))) - (IntKind.wrap .i64 (1296000 * r29.1.1.1.2)))) < (IntKind.wrap .i64 ((IntKind.wrap .i64 (0 - ((1 :: (2 :: (5 :: (10 :: ((60 : Int) :: []))))).getD (Int.toNat r3.1.1.1) 0))) * r29.1.1.1.2))))
                                                (some ((((false, ()), ()), ())))
                                                ((impl_WorstHead n ((r1.1.1.1.1, (r1.1.1.1.2.1, r1.1.1.1.2.2))) ((r2.1.1.1 :: (0 :: (324000 :: (r2.1.1.1 :: []))))) (((1 :: (2 :: (5 :: (10 :: ((60 : Int) :: []))))).getD (Int.toNat r3.1.1.1) 0))).bind fun r33 =>
                                                  (spec_WorstHead n ((r1.1.1.1.1, (r1.1.1.1.2.1, r1.1.1.1.2.2))) ((r2.1.1.1 :: (0 :: (324000 :: (r2.1.1.1 :: []))))) (((1 :: (2 :: (5 :: (10 :: ((60 : Int) :: []))))).getD (Int.toNat r3.1.1.1) 0))).bind fun r34 =>
                                                  cond ((r33.1.2.2.1.1 == r34.1.2.2.1.1))
                                                  (cond ((r33.1.2.2.1.1 == 0))
                                                    (cond ((r33.1.1.1 == r34.1.1.1))
                                                      (cond ((r33.1.2.1.1 == r34.1.2.1.1))
                                                        ((spec_A2Has n ((r2.1.1.1 :: (0 :: (324000 :: (r2.1.1.1 :: []))))) r34.1.2.1.1).bind fun r35 =>
                                                          some ((((r35.1.1.1, ()), ()), ())))
                                                        (some ((((false, ()), ()), ()))))
                                                      (some ((((false, ()), ()), ()))))
                                                    (some ((((false, ()), ()), ()))))
                                                  (some ((((false, ()), ()), ())))))))
                                          (cond (decide ((IntKind.wrap .i64 (r29.1.1.1.1 - (IntKind.wrap .i64 (r2.1.1.1 * r29.1.1.1.2)))) < (IntKind.wrap .i64 ((-600000) * r29.1.1.1.2))))
                                            (cond (decide ((IntKind.wrap .i64 ((IntKind.wrap .i64 (r29.1.1.1.1 - (IntKind.wrap .i64 (r2.1.1.1 * r29.1.1.1.2)))) + (IntKind.wrap .i64 (1296000 * r29.1.1.1.2)))) > (IntKind.wrap .i64 (((1 :: (2 :: (5 :: (10 :: ((60 : Int) :: []))))).getD (Int.toNat r3.1.1.1) 0) * r29.1.1.1.2))))
                                              (some ((((false, ()), ()), ())))
                                              (cond (decide ((IntKind.wrap .i64 ((IntKind.wrap .i64 (r29.1.1.1.1 - (IntKind.wrap .i64 (r2.1.1.1 * r29.1.1.1.2)))) + (IntKind.wrap .i64 (1296000 * r29.1.1.1.2)))) < (IntKind.wrap .i64 ((IntKind.wrap .i64 (0 - ((1 :: (2 :: (5 :: (10 :: ((60 : Int) :: []))))).getD (Int.toNat r3.1.1.1) 0))) * r29.1.1.1.2))))
                                                (some ((((false, ()), ()), ())))
                                                ((impl_WorstHead n ((r1.1.1.1.1, (r1.1.1.1.2.1, r1.1.1.1.2.2))) ((r2.1.1.1 :: (0 :: (324000 :: (r2.1.1.1 :: []))))) (((1 :: (2 :: (5 :: (10 :: ((60 : Int) :: []))))).getD (Int.toNat r3.1.1.1) 0))).bind fun r36 =>
                                                  (spec_WorstHead n ((r1.1.1.1.1, (r1.1.1.1.2.1, r1.1.1.1.2.2))) ((r2.1.1.1 :: (0 :: (324000 :: (r2.1.1.1 :: []))))) (((1 :: (2 :: (5 :: (10 :: ((60 : Int) :: []))))).getD (Int.toNat r3.1.1.1) 0))).bind fun r37 =>
                                                  cond ((r36.1.2.2.1.1 == r37.1.2.2.1.1))
                                                  (cond ((r36.1.2.2.1.1 == 0))
                                                    (cond ((r36.1.1.1 == r37.1.1.1))
                                                      (cond ((r36.1.2.1.1 == r37.1.2.1.1))
                                                        ((spec_A2Has n ((r2.1.1.1 :: (0 :: (324000 :: (r2.1.1.1 :: []))))) r37.1.2.1.1).bind fun r38 =>
                                                          some ((((r38.1.1.1, ()), ()), ())))
                                                        (some ((((false, ()), ()), ()))))
                                                      (some ((((false, ()), ()), ()))))
                                                    (some ((((false, ()), ()), ()))))
                                                  (some ((((false, ()), ()), ()))))))
                                            (cond (decide ((IntKind.wrap .i64 (r29.1.1.1.1 - (IntKind.wrap .i64 (r2.1.1.1 * r29.1.1.1.2)))) > (IntKind.wrap .i64 (((1 :: (2 :: (5 :: (10 :: ((60 : Int) :: []))))).getD (Int.toNat r3.1.1.1) 0) * r29.1.1.1.2))))
                                              (some ((((false, ()), ()), ())))
                                              (cond (decide ((IntKind.wrap .i64 (r29.1.1.1.1 - (IntKind.wrap .i64 (r2.1.1.1 * r29.1.1.1.2)))) < (IntKind.wrap .i64 ((IntKind.wrap .i64 (0 - ((1 :: (2 :: (5 :: (10 :: ((60 : Int) :: []))))).getD (Int.toNat r3.1.1.1) 0))) * r29.1.1.1.2))))
                                                (some ((((false, ()), ()), ())))
                                                ((impl_WorstHead n ((r1.1.1.1.1, (r1.1.1.1.2.1, r1.1.1.1.2.2))) ((r2.1.1.1 :: (0 :: (324000 :: (r2.1.1.1 :: []))))) (((1 :: (2 :: (5 :: (10 :: ((60 : Int) :: []))))).getD (Int.toNat r3.1.1.1) 0))).bind fun r39 =>
                                                  (spec_WorstHead n ((r1.1.1.1.1, (r1.1.1.1.2.1, r1.1.1.1.2.2))) ((r2.1.1.1 :: (0 :: (324000 :: (r2.1.1.1 :: []))))) (((1 :: (2 :: (5 :: (10 :: ((60 : Int) :: []))))).getD (Int.toNat r3.1.1.1) 0))).bind fun r40 =>
                                                  cond ((r39.1.2.2.1.1 == r40.1.2.2.1.1))
                                                  (cond ((r39.1.2.2.1.1 == 0))
                                                    (cond ((r39.1.1.1 == r40.1.1.1))
                                                      (cond ((r39.1.2.1.1 == r40.1.2.1.1))
                                                        ((spec_A2Has n ((r2.1.1.1 :: (0 :: (324000 :: (r2.1.1.1 :: []))))) r40.1.2.1.1).bind fun r41 =>
                                                          some ((((r41.1.1.1, ()), ()), ())))
                                                        (some ((((false, ()), ()), ()))))
                                                      (some ((((false, ()), ()), ()))))
                                                    (some ((((false, ()), ()), ()))))
                                                  (some ((((false, ()), ()), ()))))))))))))))))
                        (cond ((r10.1.2.1.1 == 0))
                          (cond (decide ((IntKind.wrap .i64 (2 * r10.1.1.1.1)) > (IntKind.wrap .i64 (((1 :: (2 :: (5 :: (10 :: ((60 : Int) :: []))))).getD (Int.toNat r3.1.1.1) 0) * r10.1.1.1.2))))
                            (some ((((false, ()), ()), ())))
                            (cond (decide ((IntKind.wrap .i64 (2 * r10.1.1.1.1)) < (IntKind.wrap .i64 ((IntKind.wrap .i64 (0 - ((1 :: (2 :: (5 :: (10 :: ((60 : Int) :: []))))).getD (Int.toNat r3.1.1.1) 0))) * r10.1.1.1.2))))
                              (some ((((false, ()), ()), ())))
                              ((impl_ReadTwo n (((0 :: []), (r1.1.1.1.2.1, r1.1.1.1.2.2))) r2.1.1.1 (((1 :: (2 :: (5 :: (10 :: ((60 : Int) :: []))))).getD (Int.toNat r3.1.1.1) 0))).bind fun r42 =>
                                (spec_ReadTwo n (((0 :: []), (r1.1.1.1.2.1, r1.1.1.1.2.2))) r2.1.1.1 (((1 :: (2 :: (5 :: (10 :: ((60 : Int) :: []))))).getD (Int.toNat r3.1.1.1) 0))).bind fun r43 =>
                                (impl_MeanOfTwo n r42.1.1.1 r42.1.2.1.1).bind fun r44 =>
                                cond ((r42.1.2.2.1.1 != r43.1.2.2.1.1))
                                (some ((((false, ()), ()), ())))
                                (cond ((r42.1.2.2.1.1 != 0))
                                  (some ((((false, ()), ()), ())))
                                  (cond ((r42.1.1.1 != r43.1.1.1))
                                    (some ((((false, ()), ()), ())))
                                    (cond ((r42.1.2.1.1 != r43.1.2.1.1))
                                      (some ((((false, ()), ()), ())))
                                      (cond ((r44.1.2.1.1 != 0))
                                        (some ((((false, ()), ()), ())))
                                        (cond (decide ((IntKind.wrap .i64 (r44.1.1.1.1 - (IntKind.wrap .i64 (r2.1.1.1 * r44.1.1.1.2)))) > (IntKind.wrap .i64 (600000 * r44.1.1.1.2))))
                                          (cond (decide ((IntKind.wrap .i64 ((IntKind.wrap .i64 (r44.1.1.1.1 - (IntKind.wrap .i64 (r2.1.1.1 * r44.1.1.1.2)))) - (IntKind.wrap .i64 (1296000 * r44.1.1.1.2)))) < (IntKind.wrap .i64 ((-600000) * r44.1.1.1.2))))
                                            (cond (decide ((IntKind.wrap .i64 ((IntKind.wrap .i64 ((IntKind.wrap .i64 (r44.1.1.1.1 - (IntKind.wrap .i64 (r2.1.1.1 * r44.1.1.1.2)))) - (IntKind.wrap .i64 (1296000 * r44.1.1.1.2)))) + (IntKind.wrap .i64 (1296000 * r44.1.1.1.2)))) > (IntKind.wrap .i64 (((1 :: (2 :: (5 :: (10 :: ((60 : Int) :: []))))).getD (Int.toNat r3.1.1.1) 0) * r44.1.1.1.2))))
                                              (some ((((false, ()), ()), ())))
                                              (cond (decide ((IntKind.wrap .i64 ((IntKind.wrap .i64 ((IntKind.wrap .i64 (r44.1.1.1.1 - (IntKind.wrap .i64 (r2.1.1.1 * r44.1.1.1.2)))) - (IntKind.wrap .i64 (1296000 * r44.1.1.1.2)))) + (IntKind.wrap .i64 (1296000 * r44.1.1.1.2)))) < (IntKind.wrap .i64 ((IntKind.wrap .i64 (0 - ((1 :: (2 :: (5 :: (10 :: ((60 : Int) :: []))))).getD (Int.toNat r3.1.1.1) 0))) * r44.1.1.1.2))))
                                                (some ((((false, ()), ()), ())))
                                                ((impl_WorstHead n ((r1.1.1.1.1, (r1.1.1.1.2.1, r1.1.1.1.2.2))) ((r2.1.1.1 :: (0 :: (324000 :: (r2.1.1.1 :: []))))) (((1 :: (2 :: (5 :: (10 :: ((60 : Int) :: []))))).getD (Int.toNat r3.1.1.1) 0))).bind fun r45 =>
                                                  (spec_WorstHead n ((r1.1.1.1.1, (r1.1.1.1.2.1, r1.1.1.1.2.2))) ((r2.1.1.1 :: (0 :: (324000 :: (r2.1.1.1 :: []))))) (((1 :: (2 :: (5 :: (10 :: ((60 : Int) :: []))))).getD (Int.toNat r3.1.1.1) 0))).bind fun r46 =>
                                                  cond ((r45.1.2.2.1.1 == r46.1.2.2.1.1))
                                                  (cond ((r45.1.2.2.1.1 == 0))
                                                    (cond ((r45.1.1.1 == r46.1.1.1))
                                                      (cond ((r45.1.2.1.1 == r46.1.2.1.1))
                                                        ((spec_A2Has n ((r2.1.1.1 :: (0 :: (324000 :: (r2.1.1.1 :: []))))) r46.1.2.1.1).bind fun r47 =>
                                                          some ((((r47.1.1.1, ()), ()), ())))
                                                        (some ((((false, ()), ()), ()))))
                                                      (some ((((false, ()), ()), ()))))
                                                    (some ((((false, ()), ()), ()))))
                                                  (some ((((false, ()), ()), ()))))))
                                            (cond (decide ((IntKind.wrap .i64 ((IntKind.wrap .i64 (r44.1.1.1.1 - (IntKind.wrap .i64 (r2.1.1.1 * r44.1.1.1.2)))) - (IntKind.wrap .i64 (1296000 * r44.1.1.1.2)))) > (IntKind.wrap .i64 (((1 :: (2 :: (5 :: (10 :: ((60 : Int) :: []))))).getD (Int.toNat r3.1.1.1) 0) * r44.1.1.1.2))))
                                              (some ((((false, ()), ()), ())))
                                              (cond (decide ((IntKind.wrap .i64 ((IntKind.wrap .i64 (r44.1.1.1.1 - (IntKind.wrap .i64 (r2.1.1.1 * r44.1.1.1.2)))) - (IntKind.wrap .i64 (1296000 * r44.1.1.1.2)))) < (IntKind.wrap .i64 ((IntKind.wrap .i64 (0 - ((1 :: (2 :: (5 :: (10 :: ((60 : Int) :: []))))).getD (Int.toNat r3.1.1.1) 0))) * r44.1.1.1.2))))
                                                (some ((((false, ()), ()), ())))
                                                ((impl_WorstHead n ((r1.1.1.1.1, (r1.1.1.1.2.1, r1.1.1.1.2.2))) ((r2.1.1.1 :: (0 :: (324000 :: (r2.1.1.1 :: []))))) (((1 :: (2 :: (5 :: (10 :: ((60 : Int) :: []))))).getD (Int.toNat r3.1.1.1) 0))).bind fun r48 =>
                                                  (spec_WorstHead n ((r1.1.1.1.1, (r1.1.1.1.2.1, r1.1.1.1.2.2))) ((r2.1.1.1 :: (0 :: (324000 :: (r2.1.1.1 :: []))))) (((1 :: (2 :: (5 :: (10 :: ((60 : Int) :: []))))).getD (Int.toNat r3.1.1.1) 0))).bind fun r49 =>
                                                  cond ((r48.1.2.2.1.1 == r49.1.2.2.1.1))
                                                  (cond ((r48.1.2.2.1.1 == 0))
                                                    (cond ((r48.1.1.1 == r49.1.1.1))
                                                      (cond ((r48.1.2.1.1 == r49.1.2.1.1))
                                                        ((spec_A2Has n ((r2.1.1.1 :: (0 :: (324000 :: (r2.1.1.1 :: []))))) r49.1.2.1.1).bind fun r50 =>
                                                          some ((((r50.1.1.1, ()), ()), ())))
                                                        (some ((((false, ()), ()), ()))))
                                                      (some ((((false, ()), ()), ()))))
                                                    (some ((((false, ()), ()), ()))))
                                                  (some ((((false, ()), ()), ())))))))
                                          (cond (decide ((IntKind.wrap .i64 (r44.1.1.1.1 - (IntKind.wrap .i64 (r2.1.1.1 * r44.1.1.1.2)))) < (IntKind.wrap .i64 ((-600000) * r44.1.1.1.2))))
                                            (cond (decide ((IntKind.wrap .i64 ((IntKind.wrap .i64 (r44.1.1.1.1 - (IntKind.wrap .i64 (r2.1.1.1 * r44.1.1.1.2)))) + (IntKind.wrap .i64 (1296000 * r44.1.1.1.2)))) > (IntKind.wrap .i64 (((1 :: (2 :: (5 :: (10 :: ((60 : Int) :: []))))).getD (Int.toNat r3.1.1.1) 0) * r44.1.1.1.2))))
                                              (some ((((false, ()), ()), ())))
                                              (cond (decide ((IntKind.wrap .i64 ((IntKind.wrap .i64 (r44.1.1.1.1 - (IntKind.wrap .i64 (r2.1.1.1 * r44.1.1.1.2)))) + (IntKind.wrap .i64 (1296000 * r44.1.1.1.2)))) < (IntKind.wrap .i64 ((IntKind.wrap .i64 (0 - ((1 :: (2 :: (5 :: (10 :: ((60 : Int) :: []))))).getD (Int.toNat r3.1.1.1) 0))) * r44.1.1.1.2))))
                                                (some ((((false, ()), ()), ())))
                                                ((impl_WorstHead n ((r1.1.1.1.1, (r1.1.1.1.2.1, r1.1.1.1.2.2))) ((r2.1.1.1 :: (0 :: (324000 :: (r2.1.1.1 :: []))))) (((1 :: (2 :: (5 :: (10 :: ((60 : Int) :: []))))).getD (Int.toNat r3.1.1.1) 0))).bind fun r51 =>
                                                  (spec_WorstHead n ((r1.1.1.1.1, (r1.1.1.1.2.1, r1.1.1.1.2.2))) ((r2.1.1.1 :: (0 :: (324000 :: (r2.1.1.1 :: []))))) (((1 :: (2 :: (5 :: (10 :: ((60 : Int) :: []))))).getD (Int.toNat r3.1.1.1) 0))).bind fun r52 =>
                                                  cond ((r51.1.2.2.1.1 == r52.1.2.2.1.1))
                                                  (cond ((r51.1.2.2.1.1 == 0))
                                                    (cond ((r51.1.1.1 == r52.1.1.1))
                                                      (cond ((r51.1.2.1.1 == r52.1.2.1.1))
                                                        ((spec_A2Has n ((r2.1.1.1 :: (0 :: (324000 :: (r2.1.1.1 :: []))))) r52.1.2.1.1).bind fun r53 =>
                                                          some ((((r53.1.1.1, ()), ()), ())))
                                                        (some ((((false, ()), ()), ()))))
                                                      (some ((((false, ()), ()), ()))))
                                                    (some ((((false, ()), ()), ()))))
                                                  (some ((((false, ()), ()), ()))))))
                                            (cond (decide ((IntKind.wrap .i64 (r44.1.1.1.1 - (IntKind.wrap .i64 (r2.1.1.1 * r44.1.1.1.2)))) > (IntKind.wrap .i64 (((1 :: (2 :: (5 :: (10 :: ((60 : Int) :: []))))).getD (Int.toNat r3.1.1.1) 0) * r44.1.1.1.2))))
                                              (some ((((false, ()), ()), ())))
                                              (cond (decide ((IntKind.wrap .i64 (r44.1.1.1.1 - (IntKind.wrap .i64 (r2.1.1.1 * r44.1.1.1.2)))) < (IntKind.wrap .i64 ((IntKind.wrap .i64 (0 - ((1 :: (2 :: (5 :: (10 :: ((60 : Int) :: []))))).getD (Int.toNat r3.1.1.1) 0))) * r44.1.1.1.2))))
                                                (some ((((false, ()), ()), ())))
                                                ((impl_WorstHead n ((r1.1.1.1.1, (r1.1.1.1.2.1, r1.1.1.1.2.2))) ((r2.1.1.1 :: (0 :: (324000 :: (r2.1.1.1 :: []))))) (((1 :: (2 :: (5 :: (10 :: ((60 : Int) :: []))))).getD (Int.toNat r3.1.1.1) 0))).bind fun r54 =>
                                                  (spec_WorstHead n ((r1.1.1.1.1, (r1.1.1.1.2.1, r1.1.1.1.2.2))) ((r2.1.1.1 :: (0 :: (324000 :: (r2.1.1.1 :: []))))) (((1 :: (2 :: (5 :: (10 :: ((60 : Int) :: []))))).getD (Int.toNat r3.1.1.1) 0))).bind fun r55 =>
                                                  cond ((r54.1.2.2.1.1 == r55.1.2.2.1.1))
                                                  (cond ((r54.1.2.2.1.1 == 0))
                                                    (cond ((r54.1.1.1 == r55.1.1.1))
                                                      (cond ((r54.1.2.1.1 == r55.1.2.1.1))
                                                        ((spec_A2Has n ((r2.1.1.1 :: (0 :: (324000 :: (r2.1.1.1 :: []))))) r55.1.2.1.1).bind fun r56 =>
                                                          some ((((r56.1.1.1, ()), ()), ())))
                                                        (some ((((false, ()), ()), ()))))
                                                      (some ((((false, ()), ()), ()))))
                                                    (some ((((false, ()), ()), ()))))
                                                  (some ((((false, ()), ()), ())))))))))))))))
                          ((impl_ReadTwo n (((0 :: []), (r1.1.1.1.2.1, r1.1.1.1.2.2))) r2.1.1.1 (((1 :: (2 :: (5 :: (10 :: ((60 : Int) :: []))))).getD (Int.toNat r3.1.1.1) 0))).bind fun r57 =>
                            (spec_ReadTwo n (((0 :: []), (r1.1.1.1.2.1, r1.1.1.1.2.2))) r2.1.1.1 (((1 :: (2 :: (5 :: (10 :: ((60 : Int) :: []))))).getD (Int.toNat r3.1.1.1) 0))).bind fun r58 =>
                            (impl_MeanOfTwo n r57.1.1.1 r57.1.2.1.1).bind fun r59 =>
                            cond ((r57.1.2.2.1.1 != r58.1.2.2.1.1))
                            (some ((((false, ()), ()), ())))
                            (cond ((r57.1.2.2.1.1 != 0))
                              (some ((((false, ()), ()), ())))
                              (cond ((r57.1.1.1 != r58.1.1.1))
                                (some ((((false, ()), ()), ())))
                                (cond ((r57.1.2.1.1 != r58.1.2.1.1))
                                  (some ((((false, ()), ()), ())))
                                  (cond ((r59.1.2.1.1 != 0))
                                    (some ((((false, ()), ()), ())))
                                    (cond (decide ((IntKind.wrap .i64 (r59.1.1.1.1 - (IntKind.wrap .i64 (r2.1.1.1 * r59.1.1.1.2)))) > (IntKind.wrap .i64 (600000 * r59.1.1.1.2))))
                                      (cond (decide ((IntKind.wrap .i64 ((IntKind.wrap .i64 (r59.1.1.1.1 - (IntKind.wrap .i64 (r2.1.1.1 * r59.1.1.1.2)))) - (IntKind.wrap .i64 (1296000 * r59.1.1.1.2)))) < (IntKind.wrap .i64 ((-600000) * r59.1.1.1.2))))
                                        (cond (decide ((IntKind.wrap .i64 ((IntKind.wrap .i64 ((IntKind.wrap .i64 (r59.1.1.1.1 - (IntKind.wrap .i64 (r2.1.1.1 * r59.1.1.1.2)))) - (IntKind.wrap .i64 (1296000 * r59.1.1.1.2)))) + (IntKind.wrap .i64 (1296000 * r59.1.1.1.2)))) > (IntKind.wrap .i64 (((1 :: (2 :: (5 :: (10 :: ((60 : Int) :: []))))).getD (Int.toNat r3.1.1.1) 0) * r59.1.1.1.2))))
                                          (some ((((false, ()), ()), ())))
                                          (cond (decide ((IntKind.wrap .i64 ((IntKind.wrap .i64 ((IntKind.wrap .i64 (r59.1.1.1.1 - (IntKind.wrap .i64 (r2.1.1.1 * r59.1.1.1.2)))) - (IntKind.wrap .i64 (1296000 * r59.1.1.1.2)))) + (IntKind.wrap .i64 (1296000 * r59.1.1.1.2)))) < (IntKind.wrap .i64 ((IntKind.wrap .i64 (0 - ((1 :: (2 :: (5 :: (10 :: ((60 : Int) :: []))))).getD (Int.toNat r3.1.1.1) 0))) * r59.1.1.1.2))))
                                            (some ((((false, ()), ()), ())))
                                            ((impl_WorstHead n ((r1.1.1.1.1, (r1.1.1.1.2.1, r1.1.1.1.2.2))) ((r2.1.1.1 :: (0 :: (324000 :: (r2.1.1.1 :: []))))) (((1 :: (2 :: (5 :: (10 :: ((60 : Int) :: []))))).getD (Int.toNat r3.1.1.1) 0))).bind fun r60 =>
                                              (spec_WorstHead n ((r1.1.1.1.1, (r1.1.1.1.2.1, r1.1.1.1.2.2))) ((r2.1.1.1 :: (0 :: (324000 :: (r2.1.1.1 :: []))))) (((1 :: (2 :: (5 :: (10 :: ((60 : Int) :: []))))).getD (Int.toNat r3.1.1.1) 0))).bind fun r61 =>
                                              cond ((r60.1.2.2.1.1 == r61.1.2.2.1.1))
                                              (cond ((r60.1.2.2.1.1 == 0))
                                                (cond ((r60.1.1.1 == r61.1.1.1))
                                                  (cond ((r60.1.2.1.1 == r61.1.2.1.1))
                                                    ((spec_A2Has n ((r2.1.1.1 :: (0 :: (324000 :: (r2.1.1.1 :: []))))) r61.1.2.1.1).bind fun r62 =>
                                                      some ((((r62.1.1.1, ()), ()), ())))
                                                    (some ((((false, ()), ()), ()))))
                                                  (some ((((false, ()), ()), ()))))
                                                (some ((((false, ()), ()), ()))))
                                              (some ((((false, ()), ()), ()))))))
                                        (cond (decide ((IntKind.wrap .i64 ((IntKind.wrap .i64 (r59.1.1.1.1 - (IntKind.wrap .i64 (r2.1.1.1 * r59.1.1.1.2)))) - (IntKind.wrap .i64 (1296000 * r59.1.1.1.2)))) > (IntKind.wrap .i64 (((1 :: (2 :: (5 :: (10 :: ((60 : Int) :: []))))).getD (Int.toNat r3.1.1.1) 0) * r59.1.1.1.2))))
                                          (some ((((false, ()), ()), ())))
                                          (cond (decide ((IntKind.wrap .i64 ((IntKind.wrap .i64 (r59.1.1.1.1 - (IntKind.wrap .i64 (r2.1.1.1 * r59.1.1.1.2)))) - (IntKind.wrap .i64 (1296000 * r59.1.1.1.2)))) < (IntKind.wrap .i64 ((IntKind.wrap .i64 (0 - ((1 :: (2 :: (5 :: (10 :: ((60 : Int) :: []))))).getD (Int.toNat r3.1.1.1) 0))) * r59.1.1.1.2))))
                                            (some ((((false, ()), ()), ())))
                                            ((impl_WorstHead n ((r1.1.1.1.1, (r1.1.1.1.2.1, r1.1.1.1.2.2))) ((r2.1.1.1 :: (0 :: (324000 :: (r2.1.1.1 :: []))))) (((1 :: (2 :: (5 :: (10 :: ((60 : Int) :: []))))).getD (Int.toNat r3.1.1.1) 0))).bind fun r63 =>
                                              (spec_WorstHead n ((r1.1.1.1.1, (r1.1.1.1.2.1, r1.1.1.1.2.2))) ((r2.1.1.1 :: (0 :: (324000 :: (r2.1.1.1 :: []))))) (((1 :: (2 :: (5 :: (10 :: ((60 : Int) :: []))))).getD (Int.toNat r3.1.1.1) 0))).bind fun r64 =>
                                              cond ((r63.1.2.2.1.1 == r64.1.2.2.1.1))
                                              (cond ((r63.1.2.2.1.1 == 0))
                                                (cond ((r63.1.1.1 == r64.1.1.1))
                                                  (cond ((r63.1.2.1.1 == r64.1.2.1.1))
                                                    ((spec_A2Has n ((r2.1.1.1 :: (0 :: (324000 :: (r2.1.1.1 :: []))))) r64.1.2.1.1).bind fun r65 =>
                                                      some ((((r65.1.1.1, ()), ()), ())))
                                                    (some ((((false, ()), ()), ()))))
                                                  (some ((((false, ()), ()), ()))))
                                                (some ((((false, ()), ()), ()))))
                                              (some ((((false, ()), ()), ())))))))
                                      (cond (decide ((IntKind.wrap .i64 (r59.1.1.1.1 - (IntKind.wrap .i64 (r2.1.1.1 * r59.1.1.1.2)))) < (IntKind.wrap .i64 ((-600000) * r59.1.1.1.2))))
                                        (cond (decide ((IntKind.wrap .i64 ((IntKind.wrap .i64 (r59.1.1.1.1 - (IntKind.wrap .i64 (r2.1.1.1 * r59.1.1.1.2)))) + (IntKind.wrap .i64 (1296000 * r59.1.1.1.2)))) > (IntKind.wrap .i64 (((1 :: (2 :: (5 :: (10 :: ((60 : Int) :: []))))).getD (Int.toNat r3.1.1.1) 0) * r59.1.1.1.2))))
                                          (some ((((false, ()), ()), ())))
                                          (cond (decide ((IntKind.wrap .i64 ((IntKind.wrap .i64 (r59.1.1.1.1 - (IntKind.wrap .i64 (r2.1.1.1 * r59.1.1.1.2)))) + (IntKind.wrap .i64 (1296000 * r59.1.1.1.2)))) < (IntKind.wrap .i64 ((IntKind.wrap .i64 (0 - ((1 :: (2 :: (5 :: (10 :: ((60 : Int) :: []))))).getD (Int.toNat r3.1.1.1) 0))) * r59.1.1.1.2))))
                                            (some ((((false, ()), ()), ())))
                                            ((impl_WorstHead n ((r1.1.1.1.1, (r1.1.1.1.2.1, r1.1.1.1.2.2))) ((r2.1.1.1 :: (0 :: (324000 :: (r2.1.1.1 :: []))))) (((1 :: (2 :: (5 :: (10 :: ((60 : Int) :: []))))).getD (Int.toNat r3.1.1.1) 0))).bind fun r66 =>
                                              (spec_WorstHead n ((r1.1.1.1.1, (r1.1.1.1.2.1, r1.1.1.1.2.2))) ((r2.1.1.1 :: (0 :: (324000 :: (r2.1.1.1 :: []))))) (((1 :: (2 :: (5 :: (10 :: ((60 : Int) :: []))))).getD (Int.toNat r3.1.1.1) 0))).bind fun r67 =>
                                              cond ((r66.1.2.2.1.1 == r67.1.2.2.1.1))
                                              (cond ((r66.1.2.2.1.1 == 0))
                                                (cond ((r66.1.1.1 == r67.1.1.1))
                                                  (cond ((r66.1.2.1.1 == r67.1.2.1.1))
                                                    ((spec_A2Has n ((r2.1.1.1 :: (0 :: (324000 :: (r2.1.1.1 :: []))))) r67.1.2.1.1).bind fun r68 =>
                                                      some ((((r68.1.1.1, ()), ()), ())))
                                                    (some ((((false, ()), ()), ()))))
                                                  (some ((((false, ()), ()), ()))))
                                                (some ((((false, ()), ()), ()))))
                                              (some ((((false, ()), ()), ()))))))
                                        (cond (decide ((IntKind.wrap .i64 (r59.1.1.1.1 - (IntKind.wrap .i64 (r2.1.1.1 * r59.1.1.1.2)))) > (IntKind.wrap .i64 (((1 :: (2 :: (5 :: (10 :: ((60 : Int) :: []))))).getD (Int.toNat r3.1.1.1) 0) * r59.1.1.1.2))))
                                          (some ((((false, ()), ()), ())))
                                          (cond (decide ((IntKind.wrap .i64 (r59.1.1.1.1 - (IntKind.wrap .i64 (r2.1.1.1 * r59.1.1.1.2)))) < (IntKind.wrap .i64 ((IntKind.wrap .i64 (0 - ((1 :: (2 :: (5 :: (10 :: ((60 : Int) :: []))))).getD (Int.toNat r3.1.1.1) 0))) * r59.1.1.1.2))))
                                            (some ((((false, ()), ()), ())))
                                            ((impl_WorstHead n ((r1.1.1.1.1, (r1.1.1.1.2.1, r1.1.1.1.2.2))) ((r2.1.1.1 :: (0 :: (324000 :: (r2.1.1.1 :: []))))) (((1 :: (2 :: (5 :: (10 :: ((60 : Int) :: []))))).getD (Int.toNat r3.1.1.1) 0))).bind fun r69 =>
                                              (spec_WorstHead n ((r1.1.1.1.1, (r1.1.1.1.2.1, r1.1.1.1.2.2))) ((r2.1.1.1 :: (0 :: (324000 :: (r2.1.1.1 :: []))))) (((1 :: (2 :: (5 :: (10 :: ((60 : Int) :: []))))).getD (Int.toNat r3.1.1.1) 0))).bind fun r70 =>
                                              cond ((r69.1.2.2.1.1 == r70.1.2.2.1.1))
                                              (cond ((r69.1.2.2.1.1 == 0))
                                                (cond ((r69.1.1.1 == r70.1.1.1))
                                                  (cond ((r69.1.2.1.1 == r70.1.2.1.1))
                                                    ((spec_A2Has n ((r2.1.1.1 :: (0 :: (324000 :: (r2.1.1.1 :: []))))) r70.1.2.1.1).bind fun r71 =>
                                                      some ((((r71.1.1.1, ()), ()), ())))
                                                    (some ((((false, ()), ()), ()))))
                                                  (some ((((false, ()), ()), ()))))
                                                (some ((((false, ()), ()), ()))))
                                              (some ((((false, ()), ()), ())))))))))))))))
                      ((impl_ReadTwo n (((0 :: []), (r1.1.1.1.2.1, r1.1.1.1.2.2))) r2.1.1.1 (((1 :: (2 :: (5 :: (10 :: ((60 : Int) :: []))))).getD (Int.toNat r3.1.1.1) 0))).bind fun r72 =>
                        (spec_ReadTwo n (((0 :: []), (r1.1.1.1.2.1, r1.1.1.1.2.2))) r2.1.1.1 (((1 :: (2 :: (5 :: (10 :: ((60 : Int) :: []))))).getD (Int.toNat r3.1.1.1) 0))).bind fun r73 =>
                        (impl_MeanOfTwo n r72.1.1.1 r72.1.2.1.1).bind fun r74 =>
                        cond ((r72.1.2.2.1.1 != r73.1.2.2.1.1))
                        (some ((((false, ()), ()), ())))
                        (cond ((r72.1.2.2.1.1 != 0))
                          (some ((((false, ()), ()), ())))
                          (cond ((r72.1.1.1 != r73.1.1.1))
                            (some ((((false, ()), ()), ())))
                            (cond ((r72.1.2.1.1 != r73.1.2.1.1))
                              (some ((((false, ()), ()), ())))
                              (cond ((r74.1.2.1.1 != 0))
                                (some ((((false, ()), ()), ())))
                                (cond (decide ((IntKind.wrap .i64 (r74.1.1.1.1 - (IntKind.wrap .i64 (r2.1.1.1 * r74.1.1.1.2)))) > (IntKind.wrap .i64 (600000 * r74.1.1.1.2))))
                                  (cond (decide ((IntKind.wrap .i64 ((IntKind.wrap .i64 (r74.1.1.1.1 - (IntKind.wrap .i64 (r2.1.1.1 * r74.1.1.1.2)))) - (IntKind.wrap .i64 (1296000 * r74.1.1.1.2)))) < (IntKind.wrap .i64 ((-600000) * r74.1.1.1.2))))
                                    (cond (decide ((IntKind.wrap .i64 ((IntKind.wrap .i64 ((IntKind.wrap .i64 (r74.1.1.1.1 - (IntKind.wrap .i64 (r2.1.1.1 * r74.1.1.1.2)))) - (IntKind.wrap .i64 (1296000 * r74.1.1.1.2)))) + (IntKind.wrap .i64 (1296000 * r74.1.1.1.2)))) > (IntKind.wrap .i64 (((1 :: (2 :: (5 :: (10 :: ((60 : Int) :: []))))).getD (Int.toNat r3.1.1.1) 0) * r74.1.1.1.2))))
                                      (some ((((false, ()), ()), ())))
                                      (cond (decide ((IntKind.wrap .i64 ((IntKind.wrap .i64 ((IntKind.wrap .i64 (r74.1.1.1.1 - (IntKind.wrap .i64 (r2.1.1.1 * r74.1.1.1.2)))) - (IntKind.wrap .i64 (1296000 * r74.1.1.1.2)))) + (IntKind.wrap .i64 (1296000 * r74.1.1.1.2)))) < (IntKind.wrap .i64 ((IntKind.wrap .i64 (0 - ((1 :: (2 :: (5 :: (10 :: ((60 : Int) :: []))))).getD (Int.toNat r3.1.1.1) 0))) * r74.1.1.1.2))))
                                        (some ((((false, ()), ()), ())))
                                        ((impl_WorstHead n ((r1.1.1.1.1, (r1.1.1.1.2.1, r1.1.1.1.2.2))) ((r2.1.1.1 :: (0 :: (324000 :: (r2.1.1.1 :: []))))) (((1 :: (2 :: (5 :: (10 :: ((60 : Int) :: []))))).getD (Int.toNat r3.1.1.1) 0))).bind fun r75 =>
                                          (spec_WorstHead n ((r1.1.1.1.1, (r1.1.1.1.2.1, r1.1.1.1.2.2))) ((r2.1.1.1 :: (0 :: (324000 :: (r2.1.1.1 :: []))))) (((1 :: (2 :: (5 :: (10 :: ((60 : Int) :: []))))).getD (Int.toNat r3.1.1.1) 0))).bind fun r76 =>
                                          cond ((r75.1.2.2.1.1 == r76.1.2.2.1.1))
                                          (cond ((r75.1.2.2.1.1 == 0))
                                            (cond ((r75.1.1.1 == r76.1.1.1))
                                              (cond ((r75.1.2.1.1 == r76.1.2.1.1))
                                                ((spec_A2Has n ((r2.1.1.1 :: (0 :: (324000 :: (r2.1.1.1 :: []))))) r76.1.2.1.1).bind fun r77 =>
                                                  some ((((r77.1.1.1, ()), ()), ())))
                                                (some ((((false, ()), ()), ()))))
                                              (some ((((false, ()), ()), ()))))
                                            (some ((((false, ()), ()), ()))))
                                          (some ((((false, ()), ()), ()))))))
                                    (cond (decide ((IntKind.wrap .i64 ((IntKind.wrap .i64 (r74.1.1.1.1 - (IntKind.wrap .i64 (r2.1.1.1 * r74.1.1.1.2)))) - (IntKind.wrap .i64 (1296000 * r74.1.1.1.2)))) > (IntKind.wrap .i64 (((1 :: (2 :: (5 :: (10 :: ((60 : Int) :: []))))).getD (Int.toNat r3.1.1.1) 0) * r74.1.1.1.2))))
                                      (some ((((false, ()), ()), ())))
                                      (cond (decide ((IntKind.wrap .i64 ((IntKind.wrap .i64 (r74.1.1.1.1 - (IntKind.wrap .i64 (r2.1.1.1 * r74.1.1.1.2)))) - (IntKind.wrap .i64 (1296000 * r74.1.1.1.2)))) < (IntKind.wrap .i64 ((IntKind.wrap .i64 (0 - ((1 :: (2 :: (5 :: (10 :: ((60 : Int) :: []))))).getD (Int.toNat r3.1.1.1) 0))) * r74.1.1.1.2))))
                                        (some ((((false, ()), ()), ())))
                                        ((impl_WorstHead n ((r1.1.1.1.1, (r1.1.1.1.2.1, r1.1.1.1.2.2))) ((r2.1.1.1 :: (0 :: (324000 :: (r2.1.1.1 :: []))))) (((1 :: (2 :: (5 :: (10 :: ((60 : Int) :: []))))).getD (Int.toNat r3.1.1.1) 0))).bind fun r78 =>
                                          (spec_WorstHead n ((r1.1.1.1.1, (r1.1.1.1.2.1, r1.1.1.1.2.2))) ((r2.1.1.1 :: (0 :: (324000 :: (r2.1.1.1 :: []))))) (((1 :: (2 :: (5 :: (10 :: ((60 : Int) :: []))))).getD (Int.toNat r3.1.1.1) 0))).bind fun r79 =>
                                          cond ((r78.1.2.2.1.1 == r79.1.2.2.1.1))
                                          (cond ((r78.1.2.2.1.1 == 0))
                                            (cond ((r78.1.1.1 == r79.1.1.1))
                                              (cond ((r78.1.2.1.1 == r79.1.2.1.1))
                                                ((spec_A2Has n ((r2.1.1.1 :: (0 :: (324000 :: (r2.1.1.1 :: []))))) r79.1.2.1.1).bind fun r80 =>
                                                  some ((((r80.1.1.1, ()), ()), ())))
                                                (some ((((false, ()), ()), ()))))
                                              (some ((((false, ()), ()), ()))))
                                            (some ((((false, ()), ()), ()))))
                                          (some ((((false, ()), ()), ())))))))
                                  (cond (decide ((IntKind.wrap .i64 (r74.1.1.1.1 - (IntKind.wrap .i64 (r2.1.1.1 * r74.1.1.1.2)))) < (IntKind.wrap .i64 ((-600000) * r74.1.1.1.2))))
                                    (cond (decide ((IntKind.wrap .i64 ((IntKind.wrap .i64 (r74.1.1.1.1 - (IntKind.wrap .i64 (r2.1.1.1 * r74.1.1.1.2)))) + (IntKind.wrap .i64 (1296000 * r74.1.1.1.2)))) > (IntKind.wrap .i64 (((1 :: (2 :: (5 :: (10 :: ((60 : Int) :: []))))).getD (Int.toNat r3.1.1.1) 0) * r74.1.1.1.2))))
                                      (some ((((false, ()), ()), ())))
                                      (cond (decide ((IntKind.wrap .i64 ((IntKind.wrap .i64 (r74.1.1.1.1 - (IntKind.wrap .i64 (r2.1.1.1 * r74.1.1.1.2)))) + (IntKind.wrap .i64 (1296000 * r74.1.1.1.2)))) < (IntKind.wrap .i64 ((IntKind.wrap .i64 (0 - ((1 :: (2 :: (5 :: (10 :: ((60 : Int) :: []))))).getD (Int.toNat r3.1.1.1) 0))) * r74.1.1.1.2))))
                                        (some ((((false, ()), ()), ())))
                                        ((impl_WorstHead n ((r1.1.1.1.1, (r1.1.1.1.2.1, r1.1.1.1.2.2))) ((r2.1.1.1 :: (0 :: (324000 :: (r2.1.1.1 :: []))))) (((1 :: (2 :: (5 :: (10 :: ((60 : Int) :: []))))).getD (Int.toNat r3.1.1.1) 0))).bind fun r81 =>
                                          (spec_WorstHead n ((r1.1.1.1.1, (r1.1.1.1.2.1, r1.1.1.1.2.2))) ((r2.1.1.1 :: (0 :: (324000 :: (r2.1.1.1 :: []))))) (((1 :: (2 :: (5 :: (10 :: ((60 : Int) :: []))))).getD (Int.toNat r3.1.1.1) 0))).bind fun r82 =>
                                          cond ((r81.1.2.2.1.1 == r82.1.2.2.1.1))
                                          (cond ((r81.1.2.2.1.1 == 0))
                                            (cond ((r81.1.1.1 == r82.1.1.1))
                                              (cond ((r81.1.2.1.1 == r82.1.2.1.1))
                                                ((spec_A2Has n ((r2.1.1.1 :: (0 :: (324000 :: (r2.1.1.1 :: []))))) r82.1.2.1.1).bind fun r83 =>
                                                  some ((((r83.1.1.1, ()), ()), ())))
                                                (some ((((false, ()), ()), ()))))
                                              (some ((((false, ()), ()), ()))))
                                            (some ((((false, ()), ()), ()))))
                                          (some ((((false, ()), ()), ()))))))
                                    (cond (decide ((IntKind.wrap .i64 (r74.1.1.1.1 - (IntKind.wrap .i64 (r2.1.1.1 * r74.1.1.1.2)))) > (IntKind.wrap .i64 (((1 :: (2 :: (5 :: (10 :: ((60 : Int) :: []))))).getD (Int.toNat r3.1.1.1) 0) * r74.1.1.1.2))))
                                      (some ((((false, ()), ()), ())))
                                      (cond (decide ((IntKind.wrap .i64 (r74.1.1.1.1 - (IntKind.wrap .i64 (r2.1.1.1 * r74.1.1.1.2)))) < (IntKind.wrap .i64 ((IntKind.wrap .i64 (0 - ((1 :: (2 :: (5 :: (10 :: ((60 : Int) :: []))))).getD (Int.toNat r3.1.1.1) 0))) * r74.1.1.1.2))))
                                        (some ((((false, ()), ()), ())))
                                        ((impl_WorstHead n ((r1.1.1.1.1, (r1.1.1.1.2.1, r1.1.1.1.2.2))) ((r2.1.1.1 :: (0 :: (324000 :: (r2.1.1.1 :: []))))) (((1 :: (2 :: (5 :: (10 :: ((60 : Int) :: []))))).getD (Int.toNat r3.1.1.1) 0))).bind fun r84 =>
                                          (spec_WorstHead n ((r1.1.1.1.1, (r1.1.1.1.2.1, r1.1.1.1.2.2))) ((r2.1.1.1 :: (0 :: (324000 :: (r2.1.1.1 :: []))))) (((1 :: (2 :: (5 :: (10 :: ((60 : Int) :: []))))).getD (Int.toNat r3.1.1.1) 0))).bind fun r85 =>
                                          cond ((r84.1.2.2.1.1 == r85.1.2.2.1.1))
                                          (cond ((r84.1.2.2.1.1 == 0))
                                            (cond ((r84.1.1.1 == r85.1.1.1))
                                              (cond ((r84.1.2.1.1 == r85.1.2.1.1))
                                                ((spec_A2Has n ((r2.1.1.1 :: (0 :: (324000 :: (r2.1.1.1 :: []))))) r85.1.2.1.1).bind fun r86 =>
                                                  some ((((r86.1.1.1, ()), ()), ())))
                                                (some ((((false, ()), ()), ()))))
                                              (some ((((false, ()), ()), ()))))
                                            (some ((((false, ()), ()), ()))))
                                          (some ((((false, ()), ()), ()))))))))))))))))))
            (none)))))
    (none))

noncomputable def laws_FnHeads (n : Nat) (a0 : List (Int)) (a1 : List (Int)) : Option ((((Bool) × (Unit)) × (Unit)) × (Unit)) := laws_FnHeads_t n a0 a1

noncomputable def impl_calc_add_t (n : Nat) (a1 : (Int) × (Int)) (a2 : (Int) × (Int)) (b0 : Bool) : Option (((((Int) × (Int)) × (Unit)) × (Unit)) × ((Bool) × (Unit))) :=
  (impl_calc_told n ((IntKind.wrap .i64 ((IntKind.wrap .i64 (a1.1 * a2.2)) + (IntKind.wrap .i64 (a2.1 * a1.2))))) ((IntKind.wrap .i64 (a1.2 * a2.2))) b0).bind fun r0 =>
  some (((((r0.1.1.1.1, r0.1.1.1.2), ()), ()), (r0.2.1, ())))

noncomputable def impl_calc_add (n : Nat) (a1 : (Int) × (Int)) (a2 : (Int) × (Int)) (b0 : Bool) : Option (((((Int) × (Int)) × (Unit)) × (Unit)) × ((Bool) × (Unit))) := impl_calc_add_t n a1 a2 b0

noncomputable def impl_AddFracs_t (n : Nat) (a0 : (Int) × (Int)) (a1 : (Int) × (Int)) : Option (((((Int) × (Int)) × (Unit)) × (((Int) × (Unit)) × (Unit))) × (Unit)) :=
  (impl_areValid n (((a0.1, a0.2) :: ((a1.1, a1.2) :: [])))).bind fun r0 =>
  cond (!r0.1.1.1)
  (some (((((0, 0), ()), ((1, ()), ())), ())))
  ((impl_calc_add n ((a0.1, a0.2)) ((a1.1, a1.2)) false).bind fun r1 =>
    (impl_calc_one n ((r1.1.1.1.1, r1.1.1.1.2)) r1.2.1).bind fun r2 =>
    some (((((r2.1.1.1.1, r2.1.1.1.2), ()), ((r2.1.2.1.1, ()), ())), ())))

noncomputable def impl_AddFracs (n : Nat) (a0 : (Int) × (Int)) (a1 : (Int) × (Int)) : Option (((((Int) × (Int)) × (Unit)) × (((Int) × (Unit)) × (Unit))) × (Unit)) := impl_AddFracs_t n a0 a1

noncomputable def impl_FaultAt_t (n : Nat) (a0 : (List (Int)) × ((Int) × (Int))) (a1 : Int) : Option (((((Int) × (Int)) × (Unit)) × (((Int) × (Unit)) × (Unit))) × (Unit)) :=
  (impl_ValidDisk n ((a0.1, (a0.2.1, a0.2.2)))).bind fun r0 =>
  cond (!r0.1.1.1)
  (some (((((0, 0), ()), ((1, ()), ())), ())))
  ((impl_isAngle n a1).bind fun r1 =>
    cond (!r1.1.1.1)
    (some (((((0, 0), ()), ((1, ()), ())), ())))
    ((impl_faultAt n ((a0.1, (a0.2.1, a0.2.2))) a1).bind fun r2 =>
      (impl_calc_told n r2.1.1.1 r2.1.2.1.1 false).bind fun r3 =>
      (impl_calc_one n ((r3.1.1.1.1, r3.1.1.1.2)) r3.2.1).bind fun r4 =>
      some (((((r4.1.1.1.1, r4.1.1.1.2), ()), ((r4.1.2.1.1, ()), ())), ()))))

noncomputable def impl_FaultAt (n : Nat) (a0 : (List (Int)) × ((Int) × (Int))) (a1 : Int) : Option (((((Int) × (Int)) × (Unit)) × (((Int) × (Unit)) × (Unit))) × (Unit)) := impl_FaultAt_t n a0 a1

noncomputable def impl_Standard_good_t (n : Nat) (a0 : (ByteArray) × ((Int) × ((((Int) × (Int)) × ((Int) × (Int))) × (((Int) × (Int)) × ((Int) × (Int)))))) (a1 : Int) : Option ((((Bool) × (Unit)) × (Unit)) × (Unit)) :=
  (impl_within n a1 a0.2.2.2.2.1 ((IntKind.wrap .i64 (a0.2.2.2.2.1 + a0.2.2.2.2.2)))).bind fun r0 =>
  some ((((r0.1.1.1, ()), ()), ()))

noncomputable def impl_Standard_good (n : Nat) (a0 : (ByteArray) × ((Int) × ((((Int) × (Int)) × ((Int) × (Int))) × (((Int) × (Int)) × ((Int) × (Int)))))) (a1 : Int) : Option ((((Bool) × (Unit)) × (Unit)) × (Unit)) := impl_Standard_good_t n a0 a1

noncomputable def impl_SwingAt_t (n : Nat) (a0 : (List (Int)) × ((Int) × (Int))) (a1 : Int) : Option (((((Int) × (Int)) × (Unit)) × (((Int) × (Unit)) × (Unit))) × (Unit)) :=
  (impl_ValidDisk n ((a0.1, (a0.2.1, a0.2.2)))).bind fun r0 =>
  cond (!r0.1.1.1)
  (some (((((0, 0), ()), ((1, ()), ())), ())))
  ((impl_isAngle n a1).bind fun r1 =>
    cond (!r1.1.1.1)
    (some (((((0, 0), ()), ((1, ()), ())), ())))
    ((impl_swingAt n ((a0.1, (a0.2.1, a0.2.2))) a1).bind fun r2 =>
      (impl_calc_told n r2.1.1.1 r2.1.2.1.1 false).bind fun r3 =>
      (impl_calc_one n ((r3.1.1.1.1, r3.1.1.1.2)) r3.2.1).bind fun r4 =>
      some (((((r4.1.1.1.1, r4.1.1.1.2), ()), ((r4.1.2.1.1, ()), ())), ()))))

noncomputable def impl_SwingAt (n : Nat) (a0 : (List (Int)) × ((Int) × (Int))) (a1 : Int) : Option (((((Int) × (Int)) × (Unit)) × (((Int) × (Unit)) × (Unit))) × (Unit)) := impl_SwingAt_t n a0 a1

noncomputable def impl_isWord_t2 (n : Nat) (g2 : Int → ByteArray → Int → Option ((((Bool) × (Unit)) × (Unit)) × (Unit))) (v6 : Int) (v0 : ByteArray) (v5 : Int) : Option ((((Bool) × (Unit)) × (Unit)) × (Unit)) :=
  cond (decide (v6 < v5))
  (cond ((decide (0 ≤ v6) && decide (v6 < (((ByteArray.size v0) : Nat) : Int))))
    (cond (decide ((byteAt v0 v6) < 97))
      (some ((((false, ()), ()), ())))
      (cond ((decide (0 ≤ v6) && decide (v6 < (((ByteArray.size v0) : Nat) : Int))))
        (cond (decide ((byteAt v0 v6) > 122))
          (some ((((false, ()), ()), ())))
          (g2 ((IntKind.wrap .i64 (v6 + 1))) v0 v5))
        (none)))
    (none))
  ((impl_within n ((((ByteArray.size v0) : Nat) : Int)) 1 12).bind fun r0 =>
    some ((((r0.1.1.1, ()), ()), ())))

noncomputable def impl_isWord_l2 (n : Nat) : Nat → Int → ByteArray → Int → Option ((((Bool) × (Unit)) × (Unit)) × (Unit))
  | 0, _, _, _ => none
  | k + 1, v6, v0, v5 => impl_isWord_t2 n (impl_isWord_l2 n k) v6 v0 v5

noncomputable def impl_isWord_t (n : Nat) (h2 : Nat → Int → ByteArray → Int → Option ((((Bool) × (Unit)) × (Unit)) × (Unit))) (a0 : ByteArray) : Option ((((Bool) × (Unit)) × (Unit)) × (Unit)) :=
  h2 n 0 a0 ((((ByteArray.size a0) : Nat) : Int))

noncomputable def impl_isWord (n : Nat) (a0 : ByteArray) : Option ((((Bool) × (Unit)) × (Unit)) × (Unit)) := impl_isWord_t n (impl_isWord_l2 n) a0

noncomputable def impl_ValidChain_1_t (n : Nat) (a0 : (ByteArray) × ((Int) × ((((Int) × (Int)) × ((Int) × (Int))) × (((Int) × (Int)) × ((Int) × (Int)))))) (b0 : (ByteArray) × ((Int) × ((((Int) × (Int)) × ((Int) × (Int))) × (((Int) × (Int)) × ((Int) × (Int)))))) : Option ((((Bool) × (Unit)) × (Unit)) × (((ByteArray) × ((Int) × ((((Int) × (Int)) × ((Int) × (Int))) × (((Int) × (Int)) × ((Int) × (Int)))))) × (Unit))) :=
  some (((((eqStr a0.1 b0.1), ()), ()), ((b0.1, (b0.2.1, (((b0.2.2.1.1.1, b0.2.2.1.1.2), (b0.2.2.1.2.1, b0.2.2.1.2.2)), ((b0.2.2.2.1.1, b0.2.2.2.1.2), (b0.2.2.2.2.1, b0.2.2.2.2.2))))), ())))

noncomputable def impl_ValidChain_1 (n : Nat) (a0 : (ByteArray) × ((Int) × ((((Int) × (Int)) × ((Int) × (Int))) × (((Int) × (Int)) × ((Int) × (Int)))))) (b0 : (ByteArray) × ((Int) × ((((Int) × (Int)) × ((Int) × (Int))) × (((Int) × (Int)) × ((Int) × (Int)))))) : Option ((((Bool) × (Unit)) × (Unit)) × (((ByteArray) × ((Int) × ((((Int) × (Int)) × ((Int) × (Int))) × (((Int) × (Int)) × ((Int) × (Int)))))) × (Unit))) := impl_ValidChain_1_t n a0 b0

noncomputable def slices_IndexFunc_impl_Standard_impl_Standard_at_impl_ValidChain_1_t2 (n : Nat) (g2 : Int → (List ((ByteArray) × ((Int) × ((((Int) × (Int)) × ((Int) × (Int))) × (((Int) × (Int)) × ((Int) × (Int))))))) → Int → ByteArray → Int → Int → Int → Int → Int → Int → Int → Int → Int → Option ((((Int) × (Unit)) × (Unit)) × (((ByteArray) × ((Int) × ((((Int) × (Int)) × ((Int) × (Int))) × (((Int) × (Int)) × ((Int) × (Int)))))) × (Unit)))) (v8 : Int) (v0 : List ((ByteArray) × ((Int) × ((((Int) × (Int)) × ((Int) × (Int))) × (((Int) × (Int)) × ((Int) × (Int))))))) (v7 : Int) (b0_0 : ByteArray) (b0_1 : Int) (b0_2 : Int) (b0_3 : Int) (b0_4 : Int) (b0_5 : Int) (b0_6 : Int) (b0_7 : Int) (b0_8 : Int) (b0_9 : Int) : Option ((((Int) × (Unit)) × (Unit)) × (((ByteArray) × ((Int) × ((((Int) × (Int)) × ((Int) × (Int))) × (((Int) × (Int)) × ((Int) × (Int)))))) × (Unit))) :=
  cond (decide (v8 < v7))
  (cond ((decide (0 ≤ v8) && decide (v8 < ((v0.length : Nat) : Int))))
    ((impl_ValidChain_1 n (((v0.getD (Int.toNat v8) ((ByteArray.mk #[]), (0, (((0, 0), (0, 0)), ((0, 0), (0, 0)))))).1, ((v0.getD (Int.toNat v8) ((ByteArray.mk #[]), (0, (((0, 0), (0, 0)), ((0, 0), (0, 0)))))).2.1, ((((v0.getD (Int.toNat v8) ((ByteArray.mk #[]), (0, (((0, 0), (0, 0)), ((0, 0), (0, 0)))))).2.2.1.1.1, (v0.getD (Int.toNat v8) ((ByteArray.mk #[]), (0, (((0, 0), (0, 0)), ((0, 0), (0, 0)))))).2.2.1.1.2), ((v0.getD (Int.toNat v8) ((ByteArray.mk #[]), (0, (((0, 0), (0, 0)), ((0, 0), (0, 0)))))).2.2.1.2.1, (v0.getD (Int.toNat v8) ((ByteArray.mk #[]), (0, (((0, 0), (0, 0)), ((0, 0), (0, 0)))))).2.2.1.2.2)), (((v0.getD (Int.toNat v8) ((ByteArray.mk #[]), (0, (((0, 0), (0, 0)), ((0, 0), (0, 0)))))).2.2.2.1.1, (v0.getD (Int.toNat v8) ((ByteArray.mk #[]), (0, (((0, 0), (0, 0)), ((0, 0), (0, 0)))))).2.2.2.1.2), ((v0.getD (Int.toNat v8) ((ByteArray.mk #[]), (0, (((0, 0), (0, 0)), ((0, 0), (0, 0)))))).2.2.2.2.1, (v0.getD (Int.toNat v8) ((ByteArray.mk #[]), (0, (((0, 0), (0, 0)), ((0, 0), (0, 0)))))).2.2.2.2.2)))))) ((b0_0, (b0_1, (((b0_2, b0_3), (b0_4, b0_5)), ((b0_6, b0_7), (b0_8, b0_9))))))).bind fun r0 =>
      cond r0.1.1.1
      (some ((((v8, ()), ()), ((r0.2.1.1, (r0.2.1.2.1, (((r0.2.1.2.2.1.1.1, r0.2.1.2.2.1.1.2), (r0.2.1.2.2.1.2.1, r0.2.1.2.2.1.2.2)), ((r0.2.1.2.2.2.1.1, r0.2.1.2.2.2.1.2), (r0.2.1.2.2.2.2.1, r0.2.1.2.2.2.2.2))))), ()))))
      (g2 ((IntKind.wrap .i64 (v8 + 1))) v0 v7 r0.2.1.1 r0.2.1.2.1 r0.2.1.2.2.1.1.1 r0.2.1.2.2.1.1.2 r0.2.1.2.2.1.2.1 r0.2.1.2.2.1.2.2 r0.2.1.2.2.2.1.1 r0.2.1.2.2.2.1.2 r0.2.1.2.2.2.2.1 r0.2.1.2.2.2.2.2))
    (none))
  (some (((((-1), ()), ()), ((b0_0, (b0_1, (((b0_2, b0_3), (b0_4, b0_5)), ((b0_6, b0_7), (b0_8, b0_9))))), ()))))

noncomputable def slices_IndexFunc_impl_Standard_impl_Standard_at_impl_ValidChain_1_l2 (n : Nat) : Nat → Int → (List ((ByteArray) × ((Int) × ((((Int) × (Int)) × ((Int) × (Int))) × (((Int) × (Int)) × ((Int) × (Int))))))) → Int → ByteArray → Int → Int → Int → Int → Int → Int → Int → Int → Int → Option ((((Int) × (Unit)) × (Unit)) × (((ByteArray) × ((Int) × ((((Int) × (Int)) × ((Int) × (Int))) × (((Int) × (Int)) × ((Int) × (Int)))))) × (Unit)))
  | 0, _, _, _, _, _, _, _, _, _, _, _, _, _ => none
  | k + 1, v8, v0, v7, b0_0, b0_1, b0_2, b0_3, b0_4, b0_5, b0_6, b0_7, b0_8, b0_9 => slices_IndexFunc_impl_Standard_impl_Standard_at_impl_ValidChain_1_t2 n (slices_IndexFunc_impl_Standard_impl_Standard_at_impl_ValidChain_1_l2 n k) v8 v0 v7 b0_0 b0_1 b0_2 b0_3 b0_4 b0_5 b0_6 b0_7 b0_8 b0_9

noncomputable def slices_IndexFunc_impl_Standard_impl_Standard_at_impl_ValidChain_1_t (n : Nat) (h2 : Nat → Int → (List ((ByteArray) × ((Int) × ((((Int) × (Int)) × ((Int) × (Int))) × (((Int) × (Int)) × ((Int) × (Int))))))) → Int → ByteArray → Int → Int → Int → Int → Int → Int → Int → Int → Int → Option ((((Int) × (Unit)) × (Unit)) × (((ByteArray) × ((Int) × ((((Int) × (Int)) × ((Int) × (Int))) × (((Int) × (Int)) × ((Int) × (Int)))))) × (Unit)))) (a0 : List ((ByteArray) × ((Int) × ((((Int) × (Int)) × ((Int) × (Int))) × (((Int) × (Int)) × ((Int) × (Int))))))) (b0 : (ByteArray) × ((Int) × ((((Int) × (Int)) × ((Int) × (Int))) × (((Int) × (Int)) × ((Int) × (Int)))))) : Option ((((Int) × (Unit)) × (Unit)) × (((ByteArray) × ((Int) × ((((Int) × (Int)) × ((Int) × (Int))) × (((Int) × (Int)) × ((Int) × (Int)))))) × (Unit))) :=
  h2 n 0 a0 (((a0.length : Nat) : Int)) b0.1 b0.2.1 b0.2.2.1.1.1 b0.2.2.1.1.2 b0.2.2.1.2.1 b0.2.2.1.2.2 b0.2.2.2.1.1 b0.2.2.2.1.2 b0.2.2.2.2.1 b0.2.2.2.2.2

noncomputable def slices_IndexFunc_impl_Standard_impl_Standard_at_impl_ValidChain_1 (n : Nat) (a0 : List ((ByteArray) × ((Int) × ((((Int) × (Int)) × ((Int) × (Int))) × (((Int) × (Int)) × ((Int) × (Int))))))) (b0 : (ByteArray) × ((Int) × ((((Int) × (Int)) × ((Int) × (Int))) × (((Int) × (Int)) × ((Int) × (Int)))))) : Option ((((Int) × (Unit)) × (Unit)) × (((ByteArray) × ((Int) × ((((Int) × (Int)) × ((Int) × (Int))) × (((Int) × (Int)) × ((Int) × (Int)))))) × (Unit))) := slices_IndexFunc_impl_Standard_impl_Standard_at_impl_ValidChain_1_t n (slices_IndexFunc_impl_Standard_impl_Standard_at_impl_ValidChain_1_l2 n) a0 b0

noncomputable def slices_ContainsFunc_impl_Standard_impl_Standard_at_impl_ValidChain_1_t (n : Nat) (a0 : List ((ByteArray) × ((Int) × ((((Int) × (Int)) × ((Int) × (Int))) × (((Int) × (Int)) × ((Int) × (Int))))))) (b0 : (ByteArray) × ((Int) × ((((Int) × (Int)) × ((Int) × (Int))) × (((Int) × (Int)) × ((Int) × (Int)))))) : Option ((((Bool) × (Unit)) × (Unit)) × (((ByteArray) × ((Int) × ((((Int) × (Int)) × ((Int) × (Int))) × (((Int) × (Int)) × ((Int) × (Int)))))) × (Unit))) :=
  (slices_IndexFunc_impl_Standard_impl_Standard_at_impl_ValidChain_1 n a0 ((b0.1, (b0.2.1, (((b0.2.2.1.1.1, b0.2.2.1.1.2), (b0.2.2.1.2.1, b0.2.2.1.2.2)), ((b0.2.2.2.1.1, b0.2.2.2.1.2), (b0.2.2.2.2.1, b0.2.2.2.2.2))))))).bind fun r0 =>
  some ((((decide (r0.1.1.1 ≥ 0), ()), ()), ((r0.2.1.1, (r0.2.1.2.1, (((r0.2.1.2.2.1.1.1, r0.2.1.2.2.1.1.2), (r0.2.1.2.2.1.2.1, r0.2.1.2.2.1.2.2)), ((r0.2.1.2.2.2.1.1, r0.2.1.2.2.2.1.2), (r0.2.1.2.2.2.2.1, r0.2.1.2.2.2.2.2))))), ())))

noncomputable def slices_ContainsFunc_impl_Standard_impl_Standard_at_impl_ValidChain_1 (n : Nat) (a0 : List ((ByteArray) × ((Int) × ((((Int) × (Int)) × ((Int) × (Int))) × (((Int) × (Int)) × ((Int) × (Int))))))) (b0 : (ByteArray) × ((Int) × ((((Int) × (Int)) × ((Int) × (Int))) × (((Int) × (Int)) × ((Int) × (Int)))))) : Option ((((Bool) × (Unit)) × (Unit)) × (((ByteArray) × ((Int) × ((((Int) × (Int)) × ((Int) × (Int))) × (((Int) × (Int)) × ((Int) × (Int)))))) × (Unit))) := slices_ContainsFunc_impl_Standard_impl_Standard_at_impl_ValidChain_1_t n a0 b0

noncomputable def impl_ValidSpan_t (n : Nat) (a0 : ((Int) × (Int)) × ((Int) × (Int))) : Option ((((Bool) × (Unit)) × (Unit)) × (Unit)) :=
  (impl_areValid n (((a0.1.1, a0.1.2) :: ((a0.2.1, a0.2.2) :: [])))).bind fun r0 =>
  cond r0.1.1.1
  ((impl_compare n ((a0.1.1, a0.1.2)) ((a0.2.1, a0.2.2))).bind fun r1 =>
    some ((((decide (r1.1.1.1 ≤ 0), ()), ()), ())))
  (some ((((false, ()), ()), ())))

noncomputable def impl_ValidSpan (n : Nat) (a0 : ((Int) × (Int)) × ((Int) × (Int))) : Option ((((Bool) × (Unit)) × (Unit)) × (Unit)) := impl_ValidSpan_t n a0

noncomputable def impl_ValidChain_t2 (n : Nat) (g2 : Int → (List ((ByteArray) × ((Int) × ((((Int) × (Int)) × ((Int) × (Int))) × (((Int) × (Int)) × ((Int) × (Int))))))) → (List ((ByteArray) × ((Int) × ((((Int) × (Int)) × ((Int) × (Int))) × (((Int) × (Int)) × ((Int) × (Int))))))) → Int → Option ((((Bool) × (Unit)) × (Unit)) × (Unit))) (v7 : Int) (v0 : List ((ByteArray) × ((Int) × ((((Int) × (Int)) × ((Int) × (Int))) × (((Int) × (Int)) × ((Int) × (Int))))))) (v5 : List ((ByteArray) × ((Int) × ((((Int) × (Int)) × ((Int) × (Int))) × (((Int) × (Int)) × ((Int) × (Int))))))) (v6 : Int) : Option ((((Bool) × (Unit)) × (Unit)) × (Unit)) :=
  cond (decide (v7 < v6))
  (cond ((decide (0 ≤ v7) && decide (v7 < ((v5.length : Nat) : Int))))
    ((impl_isWord n ((v5.getD (Int.toNat v7) ((ByteArray.mk #[]), (0, (((0, 0), (0, 0)), ((0, 0), (0, 0)))))).1)).bind fun r0 =>
      cond (!r0.1.1.1)
      (some ((((false, ()), ()), ())))
      (cond ((decide (0 ≤ v7) && decide (v7 ≤ ((v0.length : Nat) : Int))))
        ((slices_ContainsFunc_impl_Standard_impl_Standard_at_impl_ValidChain_1 n (((v0.drop (Int.toNat 0)).take ((Int.toNat v7) - (Int.toNat 0)))) (((v5.getD (Int.toNat v7) ((ByteArray.mk #[]), (0, (((0, 0), (0, 0)), ((0, 0), (0, 0)))))).1, ((v5.getD (Int.toNat v7) ((ByteArray.mk #[]), (0, (((0, 0), (0, 0)), ((0, 0), (0, 0)))))).2.1, ((((v5.getD (Int.toNat v7) ((ByteArray.mk #[]), (0, (((0, 0), (0, 0)), ((0, 0), (0, 0)))))).2.2.1.1.1, (v5.getD (Int.toNat v7) ((ByteArray.mk #[]), (0, (((0, 0), (0, 0)), ((0, 0), (0, 0)))))).2.2.1.1.2), ((v5.getD (Int.toNat v7) ((ByteArray.mk #[]), (0, (((0, 0), (0, 0)), ((0, 0), (0, 0)))))).2.2.1.2.1, (v5.getD (Int.toNat v7) ((ByteArray.mk #[]), (0, (((0, 0), (0, 0)), ((0, 0), (0, 0)))))).2.2.1.2.2)), (((v5.getD (Int.toNat v7) ((ByteArray.mk #[]), (0, (((0, 0), (0, 0)), ((0, 0), (0, 0)))))).2.2.2.1.1, (v5.getD (Int.toNat v7) ((ByteArray.mk #[]), (0, (((0, 0), (0, 0)), ((0, 0), (0, 0)))))).2.2.2.1.2), ((v5.getD (Int.toNat v7) ((ByteArray.mk #[]), (0, (((0, 0), (0, 0)), ((0, 0), (0, 0)))))).2.2.2.2.1, (v5.getD (Int.toNat v7) ((ByteArray.mk #[]), (0, (((0, 0), (0, 0)), ((0, 0), (0, 0)))))).2.2.2.2.2))))))).bind fun r1 =>
          cond r1.1.1.1
          (some ((((false, ()), ()), ())))
          ((impl_within n r1.2.1.2.1 (-1) ((IntKind.wrap .i64 (v7 - 1)))).bind fun r2 =>
            cond (!r2.1.1.1)
            (some ((((false, ()), ()), ())))
            ((impl_ValidSpan n (((r1.2.1.2.2.1.1.1, r1.2.1.2.2.1.1.2), (r1.2.1.2.2.1.2.1, r1.2.1.2.2.1.2.2)))).bind fun r3 =>
              cond (!r3.1.1.1)
              (some ((((false, ()), ()), ())))
              ((impl_ValidFrac n ((r1.2.1.2.2.2.1.1, r1.2.1.2.2.2.1.2))).bind fun r4 =>
                cond (!r4.1.1.1)
                (some ((((false, ()), ()), ())))
                (cond (decide (r1.2.1.2.2.2.1.1 < 0))
                  (some ((((false, ()), ()), ())))
                  ((impl_within n r1.2.1.2.2.2.2.1 0 100000).bind fun r5 =>
                    cond (!r5.1.1.1)
                    (some ((((false, ()), ()), ())))
                    ((impl_within n r1.2.1.2.2.2.2.2 0 100000).bind fun r6 =>
                      cond (!r6.1.1.1)
                      (some ((((false, ()), ()), ())))
                      (cond (decide (r1.2.1.2.1 ≥ 0))
                        (cond ((decide (0 ≤ r1.2.1.2.1) && decide (r1.2.1.2.1 < ((v0.length : Nat) : Int))))
                          ((impl_Standard_good n (((v0.getD (Int.toNat r1.2.1.2.1) ((ByteArray.mk #[]), (0, (((0, 0), (0, 0)), ((0, 0), (0, 0)))))).1, ((v0.getD (Int.toNat r1.2.1.2.1) ((ByteArray.mk #[]), (0, (((0, 0), (0, 0)), ((0, 0), (0, 0)))))).2.1, ((((v0.getD (Int.toNat r1.2.1.2.1) ((ByteArray.mk #[]), (0, (((0, 0), (0, 0)), ((0, 0), (0, 0)))))).2.2.1.1.1, (v0.getD (Int.toNat r1.2.1.2.1) ((ByteArray.mk #[]), (0, (((0, 0), (0, 0)), ((0, 0), (0, 0)))))).2.2.1.1.2), ((v0.getD (Int.toNat r1.2.1.2.1) ((ByteArray.mk #[]), (0, (((0, 0), (0, 0)), ((0, 0), (0, 0)))))).2.2.1.2.1, (v0.getD (Int.toNat r1.2.1.2.1) ((ByteArray.mk #[]), (0, (((0, 0), (0, 0)), ((0, 0), (0, 0)))))).2.2.1.2.2)), (((v0.getD (Int.toNat r1.2.1.2.1) ((ByteArray.mk #[]), (0, (((0, 0), (0, 0)), ((0, 0), (0, 0)))))).2.2.2.1.1, (v0.getD (Int.toNat r1.2.1.2.1) ((ByteArray.mk #[]), (0, (((0, 0), (0, 0)), ((0, 0), (0, 0)))))).2.2.2.1.2), ((v0.getD (Int.toNat r1.2.1.2.1) ((ByteArray.mk #[]), (0, (((0, 0), (0, 0)), ((0, 0), (0, 0)))))).2.2.2.2.1, (v0.getD (Int.toNat r1.2.1.2.1) ((ByteArray.mk #[]), (0, (((0, 0), (0, 0)), ((0, 0), (0, 0)))))).2.2.2.2.2)))))) r1.2.1.2.2.2.2.1).bind fun r7 =>
                            cond (!r7.1.1.1)
                            (some ((((false, ()), ()), ())))
                            (g2 ((IntKind.wrap .i64 (v7 + 1))) v0 v5 v6))
                          (none))
                        (g2 ((IntKind.wrap .i64 (v7 + 1))) v0 v5 v6)))))))))
        (none)))
    (none))
  (some ((((decide (((v0.length : Nat) : Int) ≤ 30), ()), ()), ())))

noncomputable def impl_ValidChain_l2 (n : Nat) : Nat → Int → (List ((ByteArray) × ((Int) × ((((Int) × (Int)) × ((Int) × (Int))) × (((Int) × (Int)) × ((Int) × (Int))))))) → (List ((ByteArray) × ((Int) × ((((Int) × (Int)) × ((Int) × (Int))) × (((Int) × (Int)) × ((Int) × (Int))))))) → Int → Option ((((Bool) × (Unit)) × (Unit)) × (Unit))
  | 0, _, _, _, _ => none
  | k + 1, v7, v0, v5, v6 => impl_ValidChain_t2 n (impl_ValidChain_l2 n k) v7 v0 v5 v6

noncomputable def impl_ValidChain_t (n : Nat) (h2 : Nat → Int → (List ((ByteArray) × ((Int) × ((((Int) × (Int)) × ((Int) × (Int))) × (((Int) × (Int)) × ((Int) × (Int))))))) → (List ((ByteArray) × ((Int) × ((((Int) × (Int)) × ((Int) × (Int))) × (((Int) × (Int)) × ((Int) × (Int))))))) → Int → Option ((((Bool) × (Unit)) × (Unit)) × (Unit))) (a0 : List ((ByteArray) × ((Int) × ((((Int) × (Int)) × ((Int) × (Int))) × (((Int) × (Int)) × ((Int) × (Int))))))) : Option ((((Bool) × (Unit)) × (Unit)) × (Unit)) :=
  h2 n 0 a0 a0 (((a0.length : Nat) : Int))

noncomputable def impl_ValidChain (n : Nat) (a0 : List ((ByteArray) × ((Int) × ((((Int) × (Int)) × ((Int) × (Int))) × (((Int) × (Int)) × ((Int) × (Int))))))) : Option ((((Bool) × (Unit)) × (Unit)) × (Unit)) := impl_ValidChain_t n (impl_ValidChain_l2 n) a0

noncomputable def impl_calc_div_t (n : Nat) (a1 : (Int) × (Int)) (a2 : (Int) × (Int)) (b0 : Bool) : Option (((((Int) × (Int)) × (Unit)) × (Unit)) × ((Bool) × (Unit))) :=
  cond ((a2.1 == 0))
  ((impl_zero n).bind fun r0 =>
    some (((((r0.1.1.1.1, r0.1.1.1.2), ()), ()), (true, ()))))
  ((impl_calc_told n ((IntKind.wrap .i64 (a1.1 * a2.2))) ((IntKind.wrap .i64 (a1.2 * a2.1))) b0).bind fun r1 =>
    some (((((r1.1.1.1.1, r1.1.1.1.2), ()), ()), (r1.2.1, ()))))

noncomputable def impl_calc_div (n : Nat) (a1 : (Int) × (Int)) (a2 : (Int) × (Int)) (b0 : Bool) : Option (((((Int) × (Int)) × (Unit)) × (Unit)) × ((Bool) × (Unit))) := impl_calc_div_t n a1 a2 b0

noncomputable def impl_calc_sub_t (n : Nat) (a1 : (Int) × (Int)) (a2 : (Int) × (Int)) (b0 : Bool) : Option (((((Int) × (Int)) × (Unit)) × (Unit)) × ((Bool) × (Unit))) :=
  (impl_calc_told n ((IntKind.wrap .i64 ((IntKind.wrap .i64 (a1.1 * a2.2)) - (IntKind.wrap .i64 (a2.1 * a1.2))))) ((IntKind.wrap .i64 (a1.2 * a2.2))) b0).bind fun r0 =>
  some (((((r0.1.1.1.1, r0.1.1.1.2), ()), ()), (r0.2.1, ())))

noncomputable def impl_calc_sub (n : Nat) (a1 : (Int) × (Int)) (a2 : (Int) × (Int)) (b0 : Bool) : Option (((((Int) × (Int)) × (Unit)) × (Unit)) × ((Bool) × (Unit))) := impl_calc_sub_t n a1 a2 b0

noncomputable def impl_calc_sum_t3 (n : Nat) (g3 : Int → (List ((Int) × (Int))) → Int → Bool → Int → Int → Int → Int → Option (((((Int) × (Int)) × (Unit)) × (Unit)) × ((Bool) × (Unit)))) (v11 : Int) (v9 : List ((Int) × (Int))) (v10 : Int) (b0 : Bool) (b1_0 : Int) (b1_1 : Int) (b2_0 : Int) (b2_1 : Int) : Option (((((Int) × (Int)) × (Unit)) × (Unit)) × ((Bool) × (Unit))) :=
  cond (decide (v11 < v10))
  (cond ((decide (0 ≤ v11) && decide (v11 < ((v9.length : Nat) : Int))))
    ((impl_calc_add n ((b1_0, b1_1)) (((v9.getD (Int.toNat v11) (0, 0)).1, (v9.getD (Int.toNat v11) (0, 0)).2)) b0).bind fun r1 =>
      g3 ((IntKind.wrap .i64 (v11 + 1))) v9 v10 r1.2.1 r1.1.1.1.1 r1.1.1.1.2 b2_0 b2_1)
    (none))
  (some (((((b1_0, b1_1), ()), ()), (b0, ()))))

noncomputable def impl_calc_sum_l3 (n : Nat) : Nat → Int → (List ((Int) × (Int))) → Int → Bool → Int → Int → Int → Int → Option (((((Int) × (Int)) × (Unit)) × (Unit)) × ((Bool) × (Unit)))
  | 0, _, _, _, _, _, _, _, _ => none
  | k + 1, v11, v9, v10, b0, b1_0, b1_1, b2_0, b2_1 => impl_calc_sum_t3 n (impl_calc_sum_l3 n k) v11 v9 v10 b0 b1_0 b1_1 b2_0 b2_1

noncomputable def impl_calc_sum_t (n : Nat) (h3 : Nat → Int → (List ((Int) × (Int))) → Int → Bool → Int → Int → Int → Int → Option (((((Int) × (Int)) × (Unit)) × (Unit)) × ((Bool) × (Unit)))) (a1 : List ((Int) × (Int))) (b0 : Bool) : Option (((((Int) × (Int)) × (Unit)) × (Unit)) × ((Bool) × (Unit))) :=
  (impl_zero n).bind fun r0 =>
  h3 n 0 a1 (((a1.length : Nat) : Int)) b0 r0.1.1.1.1 r0.1.1.1.2 0 0

noncomputable def impl_calc_sum (n : Nat) (a1 : List ((Int) × (Int))) (b0 : Bool) : Option (((((Int) × (Int)) × (Unit)) × (Unit)) × ((Bool) × (Unit))) := impl_calc_sum_t n (impl_calc_sum_l3 n) a1 b0

noncomputable def impl_num_t (n : Nat) (a0 : Int) : Option (((((Int) × (Int)) × (Unit)) × (Unit)) × (Unit)) :=
  some (((((a0, 1), ()), ()), ()))

noncomputable def impl_num (n : Nat) (a0 : Int) : Option (((((Int) × (Int)) × (Unit)) × (Unit)) × (Unit)) := impl_num_t n a0

noncomputable def laws_eqInt16S_t4 (n : Nat) (g4 : Int → (List (Int)) → (List (Int)) → Option ((((Bool) × (Unit)) × (Unit)) × (Unit))) (v5 : Int) (v1 : List (Int)) (v0 : List (Int)) : Option ((((Bool) × (Unit)) × (Unit)) × (Unit)) :=
  cond (decide (v5 < ((v0.length : Nat) : Int)))
  (cond ((decide (0 ≤ v5) && decide (v5 < ((v0.length : Nat) : Int))))
    (cond ((decide (0 ≤ v5) && decide (v5 < ((v1.length : Nat) : Int))))
      (cond (((v0.getD (Int.toNat v5) 0) != (v1.getD (Int.toNat v5) 0)))
        (some ((((false, ()), ()), ())))
        (g4 ((IntKind.wrap .i64 (v5 + 1))) v1 v0))
      (none))
    (none))
  (some ((((true, ()), ()), ())))

noncomputable def laws_eqInt16S_l4 (n : Nat) : Nat → Int → (List (Int)) → (List (Int)) → Option ((((Bool) × (Unit)) × (Unit)) × (Unit))
  | 0, _, _, _ => none
  | k + 1, v5, v1, v0 => laws_eqInt16S_t4 n (laws_eqInt16S_l4 n k) v5 v1 v0

noncomputable def laws_eqInt16S_t (n : Nat) (h4 : Nat → Int → (List (Int)) → (List (Int)) → Option ((((Bool) × (Unit)) × (Unit)) × (Unit))) (a0 : List (Int)) (a1 : List (Int)) : Option ((((Bool) × (Unit)) × (Unit)) × (Unit)) :=
  cond ((((a0.length : Nat) : Int) != ((a1.length : Nat) : Int)))
  (some ((((false, ()), ()), ())))
  (h4 n 0 a1 a0)

noncomputable def laws_eqInt16S (n : Nat) (a0 : List (Int)) (a1 : List (Int)) : Option ((((Bool) × (Unit)) × (Unit)) × (Unit)) := laws_eqInt16S_t n (laws_eqInt16S_l4 n) a0 a1

noncomputable def laws_eqDisk_t (n : Nat) (a0 : (List (Int)) × ((Int) × (Int))) (a1 : (List (Int)) × ((Int) × (Int))) : Option ((((Bool) × (Unit)) × (Unit)) × (Unit)) :=
  (laws_eqInt16S n a0.1 a1.1).bind fun r0 =>
  cond (!r0.1.1.1)
  (some ((((false, ()), ()), ())))
  (cond ((a0.2.1 != a1.2.1))
    (some ((((false, ()), ()), ())))
    (cond ((a0.2.2 != a1.2.2))
      (some ((((false, ()), ()), ())))
      (some ((((true, ()), ()), ())))))

noncomputable def laws_eqDisk (n : Nat) (a0 : (List (Int)) × ((Int) × (Int))) (a1 : (List (Int)) × ((Int) × (Int))) : Option ((((Bool) × (Unit)) × (Unit)) × (Unit)) := laws_eqDisk_t n a0 a1

noncomputable def laws_eqFrac_t (n : Nat) (a0 : (Int) × (Int)) (a1 : (Int) × (Int)) : Option ((((Bool) × (Unit)) × (Unit)) × (Unit)) :=
  cond ((a0.1 != a1.1))
  (some ((((false, ()), ()), ())))
  (cond ((a0.2 != a1.2))
    (some ((((false, ()), ()), ())))
    (some ((((true, ()), ()), ()))))

noncomputable def laws_eqFrac (n : Nat) (a0 : (Int) × (Int)) (a1 : (Int) × (Int)) : Option ((((Bool) × (Unit)) × (Unit)) × (Unit)) := laws_eqFrac_t n a0 a1

noncomputable def laws_eqInt64S_t4 (n : Nat) (g4 : Int → (List (Int)) → (List (Int)) → Option ((((Bool) × (Unit)) × (Unit)) × (Unit))) (v5 : Int) (v1 : List (Int)) (v0 : List (Int)) : Option ((((Bool) × (Unit)) × (Unit)) × (Unit)) :=
  cond (decide (v5 < ((v0.length : Nat) : Int)))
  (cond ((decide (0 ≤ v5) && decide (v5 < ((v0.length : Nat) : Int))))
    (cond ((decide (0 ≤ v5) && decide (v5 < ((v1.length : Nat) : Int))))
      (cond (((v0.getD (Int.toNat v5) 0) != (v1.getD (Int.toNat v5) 0)))
        (some ((((false, ()), ()), ())))
        (g4 ((IntKind.wrap .i64 (v5 + 1))) v1 v0))
      (none))
    (none))
  (some ((((true, ()), ()), ())))

noncomputable def laws_eqInt64S_l4 (n : Nat) : Nat → Int → (List (Int)) → (List (Int)) → Option ((((Bool) × (Unit)) × (Unit)) × (Unit))
  | 0, _, _, _ => none
  | k + 1, v5, v1, v0 => laws_eqInt64S_t4 n (laws_eqInt64S_l4 n k) v5 v1 v0

noncomputable def laws_eqInt64S_t (n : Nat) (h4 : Nat → Int → (List (Int)) → (List (Int)) → Option ((((Bool) × (Unit)) × (Unit)) × (Unit))) (a0 : List (Int)) (a1 : List (Int)) : Option ((((Bool) × (Unit)) × (Unit)) × (Unit)) :=
  cond ((((a0.length : Nat) : Int) != ((a1.length : Nat) : Int)))
  (some ((((false, ()), ()), ())))
  (h4 n 0 a1 a0)

noncomputable def laws_eqInt64S (n : Nat) (a0 : List (Int)) (a1 : List (Int)) : Option ((((Bool) × (Unit)) × (Unit)) × (Unit)) := laws_eqInt64S_t n (laws_eqInt64S_l4 n) a0 a1

noncomputable def laws_heldInt64S_t2 (n : Nat) (g2 : Int → Int → (List (Int)) → Option ((((Int) × (Unit)) × (Unit)) × (Unit))) (v5 : Int) (v1 : Int) (v0 : List (Int)) : Option ((((Int) × (Unit)) × (Unit)) × (Unit)) :=
  cond (decide (v5 < ((v0.length : Nat) : Int)))
  (cond ((decide (0 ≤ v5) && decide (v5 < ((v0.length : Nat) : Int))))
    (cond (((v0.getD (Int.toNat v5) 0) != v1))
      (some (((((-1), ()), ()), ())))
      (g2 ((IntKind.wrap .i64 (v5 + 1))) ((IntKind.wrap .i64 (v1 + 1))) v0))
    (none))
  (some ((((v1, ()), ()), ())))

noncomputable def laws_heldInt64S_l2 (n : Nat) : Nat → Int → Int → (List (Int)) → Option ((((Int) × (Unit)) × (Unit)) × (Unit))
  | 0, _, _, _ => none
  | k + 1, v5, v1, v0 => laws_heldInt64S_t2 n (laws_heldInt64S_l2 n k) v5 v1 v0

noncomputable def laws_heldInt64S_t (n : Nat) (h2 : Nat → Int → Int → (List (Int)) → Option ((((Int) × (Unit)) × (Unit)) × (Unit))) (a0 : List (Int)) (a1 : Int) : Option ((((Int) × (Unit)) × (Unit)) × (Unit)) :=
  h2 n 0 a1 a0

noncomputable def laws_heldInt64S (n : Nat) (a0 : List (Int)) (a1 : Int) : Option ((((Int) × (Unit)) × (Unit)) × (Unit)) := laws_heldInt64S_t n (laws_heldInt64S_l2 n) a0 a1

noncomputable def laws_markInt64S_t2 (n : Nat) (g2 : Int → Int → (List (Int)) → Option ((((Int) × (Unit)) × (Unit)) × ((List (Int)) × (Unit)))) (v5 : Int) (v1 : Int) (b0 : List (Int)) : Option ((((Int) × (Unit)) × (Unit)) × ((List (Int)) × (Unit))) :=
  cond (decide (v5 < ((b0.length : Nat) : Int)))
  (cond ((decide (0 ≤ v5) && decide (v5 < ((b0.length : Nat) : Int))))
    (g2 ((IntKind.wrap .i64 (v5 + 1))) ((IntKind.wrap .i64 (v1 + 1))) ((b0.set (Int.toNat v5) v1)))
    (none))
  (some ((((v1, ()), ()), (b0, ()))))

noncomputable def laws_markInt64S_l2 (n : Nat) : Nat → Int → Int → (List (Int)) → Option ((((Int) × (Unit)) × (Unit)) × ((List (Int)) × (Unit)))
  | 0, _, _, _ => none
  | k + 1, v5, v1, b0 => laws_markInt64S_t2 n (laws_markInt64S_l2 n k) v5 v1 b0

noncomputable def laws_markInt64S_t (n : Nat) (h2 : Nat → Int → Int → (List (Int)) → Option ((((Int) × (Unit)) × (Unit)) × ((List (Int)) × (Unit)))) (a1 : Int) (b0 : List (Int)) : Option ((((Int) × (Unit)) × (Unit)) × ((List (Int)) × (Unit))) :=
  h2 n 0 a1 b0

noncomputable def laws_markInt64S (n : Nat) (a1 : Int) (b0 : List (Int)) : Option ((((Int) × (Unit)) × (Unit)) × ((List (Int)) × (Unit))) := laws_markInt64S_t n (laws_markInt64S_l2 n) a1 b0

noncomputable def laws_szInt16S_t (n : Nat) (a0 : List (Int)) (a1 : Int) : Option ((((Int) × (Unit)) × (Unit)) × (Unit)) :=
  cond (decide ((IntKind.wrap .i64 (a1 - ((a0.length : Nat) : Int))) < 0))
  (some (((((-1), ()), ()), ())))
  (some (((((IntKind.wrap .i64 (a1 - ((a0.length : Nat) : Int))), ()), ()), ())))

noncomputable def laws_szInt16S (n : Nat) (a0 : List (Int)) (a1 : Int) : Option ((((Int) × (Unit)) × (Unit)) × (Unit)) := laws_szInt16S_t n a0 a1

noncomputable def laws_szDisk_t (n : Nat) (a0 : (List (Int)) × ((Int) × (Int))) (a1 : Int) : Option ((((Int) × (Unit)) × (Unit)) × (Unit)) :=
  (laws_szInt16S n a0.1 a1).bind fun r0 =>
  cond (decide (r0.1.1.1 < 0))
  (some (((((-1), ()), ()), ())))
  (some ((((r0.1.1.1, ()), ()), ())))

noncomputable def laws_szDisk (n : Nat) (a0 : (List (Int)) × ((Int) × (Int))) (a1 : Int) : Option ((((Int) × (Unit)) × (Unit)) × (Unit)) := laws_szDisk_t n a0 a1

noncomputable def laws_toInt16S_t3 (n : Nat) (g3 : Int → (List (Int)) → (List (Int)) → Option ((((List (Int)) × (Unit)) × (Unit)) × (Unit))) (v4 : Int) (v0 : List (Int)) (b0 : List (Int)) : Option ((((List (Int)) × (Unit)) × (Unit)) × (Unit)) :=
  cond (decide (v4 < ((v0.length : Nat) : Int)))
  (cond ((decide (0 ≤ v4) && decide (v4 < ((v0.length : Nat) : Int))))
    (cond ((decide (0 ≤ v4) && decide (v4 < ((b0.length : Nat) : Int))))
      (g3 ((IntKind.wrap .i64 (v4 + 1))) v0 ((b0.set (Int.toNat v4) (v0.getD (Int.toNat v4) 0))))
      (none))
    (none))
  (some ((((b0, ()), ()), ())))

noncomputable def laws_toInt16S_l3 (n : Nat) : Nat → Int → (List (Int)) → (List (Int)) → Option ((((List (Int)) × (Unit)) × (Unit)) × (Unit))
  | 0, _, _, _ => none
  | k + 1, v4, v0, b0 => laws_toInt16S_t3 n (laws_toInt16S_l3 n k) v4 v0 b0

noncomputable def laws_toInt16S_t (n : Nat) (h3 : Nat → Int → (List (Int)) → (List (Int)) → Option ((((List (Int)) × (Unit)) × (Unit)) × (Unit))) (a0 : List (Int)) : Option ((((List (Int)) × (Unit)) × (Unit)) × (Unit)) :=
  cond ((((((a0.length : Nat) : Int) == ((a0.length : Nat) : Int)) && decide (0 ≤ ((a0.length : Nat) : Int))) && decide (((Int.toNat ((a0.length : Nat) : Int)) * 3) ≤ 70368744177664)))
  (h3 n 0 a0 ((List.replicate (Int.toNat ((a0.length : Nat) : Int)) 0)))
  (none)

noncomputable def laws_toInt16S (n : Nat) (a0 : List (Int)) : Option ((((List (Int)) × (Unit)) × (Unit)) × (Unit)) := laws_toInt16S_t n (laws_toInt16S_l3 n) a0

noncomputable def laws_toDisk_t (n : Nat) (a0 : (List (Int)) × ((Int) × (Int))) : Option ((((List (Int)) × (((Int) × (Int)) × (Unit))) × (Unit)) × (Unit)) :=
  (laws_toInt16S n a0.1).bind fun r0 =>
  some ((((r0.1.1.1, ((a0.2.1, a0.2.2), ())), ()), ()))

noncomputable def laws_toDisk (n : Nat) (a0 : (List (Int)) × ((Int) × (Int))) : Option ((((List (Int)) × (((Int) × (Int)) × (Unit))) × (Unit)) × (Unit)) := laws_toDisk_t n a0

noncomputable def spec_l01Cmp_t (n : Nat) (a0 : (Int) × (Int)) (a1 : (Int) × (Int)) : Option ((((Int) × (Unit)) × (Unit)) × (Unit)) :=
  cond (decide ((IntKind.wrap .i64 (a0.1 * a1.2)) < (IntKind.wrap .i64 (a1.1 * a0.2))))
  (some (((((-1), ()), ()), ())))
  (cond (decide ((IntKind.wrap .i64 (a0.1 * a1.2)) > (IntKind.wrap .i64 (a1.1 * a0.2))))
    (some ((((1, ()), ()), ())))
    (some ((((0, ()), ()), ()))))

noncomputable def spec_l01Cmp (n : Nat) (a0 : (Int) × (Int)) (a1 : (Int) × (Int)) : Option ((((Int) × (Unit)) × (Unit)) × (Unit)) := spec_l01Cmp_t n a0 a1

noncomputable def spec_l01Div_t (n : Nat) (a0 : (Int) × (Int)) (a1 : (Int) × (Int)) : Option (((((Int) × (Int)) × (Unit)) × (((Int) × (Unit)) × (Unit))) × (Unit)) :=
  (spec_l01Reduced n ((IntKind.wrap .i64 (a0.1 * a1.2))) ((IntKind.wrap .i64 (a0.2 * a1.1)))).bind fun r0 =>
  some (((((r0.1.1.1.1, r0.1.1.1.2), ()), ((r0.1.2.1.1, ()), ())), ()))

noncomputable def spec_l01Div (n : Nat) (a0 : (Int) × (Int)) (a1 : (Int) × (Int)) : Option (((((Int) × (Int)) × (Unit)) × (((Int) × (Unit)) × (Unit))) × (Unit)) := spec_l01Div_t n a0 a1

noncomputable def spec_l01Span_e_t (n : Nat) (a0 : ((Int) × (Int)) × ((Int) × (Int))) : Option ((((Bool) × (Unit)) × (Unit)) × (Unit)) :=
  (spec_l01Ok n ((a0.1.1, a0.1.2))).bind fun r0 =>
  cond r0.1.1.1
  ((spec_l01Ok n ((a0.2.1, a0.2.2))).bind fun r1 =>
    cond r1.1.1.1
    ((spec_l01Cmp n ((a0.1.1, a0.1.2)) ((a0.2.1, a0.2.2))).bind fun r2 =>
      some ((((decide (r2.1.1.1 ≤ 0), ()), ()), ())))
    (some ((((false, ()), ()), ()))))
  (some ((((false, ()), ()), ())))

noncomputable def spec_l01Span_e (n : Nat) (a0 : ((Int) × (Int)) × ((Int) × (Int))) : Option ((((Bool) × (Unit)) × (Unit)) × (Unit)) := spec_l01Span_e_t n a0

noncomputable def spec_l01Whole_t (n : Nat) (a0 : Int) : Option (((((Int) × (Int)) × (Unit)) × (Unit)) × (Unit)) :=
  some (((((a0, 1), ()), ()), ()))

noncomputable def spec_l01Whole (n : Nat) (a0 : Int) : Option (((((Int) × (Int)) × (Unit)) × (Unit)) × (Unit)) := spec_l01Whole_t n a0

noncomputable def spec_l01Sum_t3 (n : Nat) (g3 : Int → (List ((Int) × (Int))) → Int → Int → Int → Int → Option (((((Int) × (Int)) × (Unit)) × (((Int) × (Unit)) × (Unit))) × (Unit))) (v5 : Int) (v0 : List ((Int) × (Int))) (b0_0 : Int) (b0_1 : Int) (b1_0 : Int) (b1_1 : Int) : Option (((((Int) × (Int)) × (Unit)) × (((Int) × (Unit)) × (Unit))) × (Unit)) :=
  cond (decide (v5 < ((v0.length : Nat) : Int)))
  (cond ((decide (0 ≤ v5) && decide (v5 < ((v0.length : Nat) : Int))))
    ((spec_l01Add n ((b1_0, b1_1)) (((v0.getD (Int.toNat v5) (0, 0)).1, (v0.getD (Int.toNat v5) (0, 0)).2))).bind fun r1 =>
      cond ((r1.1.2.1.1 != 0))
      (some (((((0, 0), ()), ((r1.1.2.1.1, ()), ())), ())))
      (g3 ((IntKind.wrap .i64 (v5 + 1))) v0 b0_0 b0_1 r1.1.1.1.1 r1.1.1.1.2))
    (none))
  (some (((((b1_0, b1_1), ()), ((0, ()), ())), ())))

noncomputable def spec_l01Sum_l3 (n : Nat) : Nat → Int → (List ((Int) × (Int))) → Int → Int → Int → Int → Option (((((Int) × (Int)) × (Unit)) × (((Int) × (Unit)) × (Unit))) × (Unit))
  | 0, _, _, _, _, _, _ => none
  | k + 1, v5, v0, b0_0, b0_1, b1_0, b1_1 => spec_l01Sum_t3 n (spec_l01Sum_l3 n k) v5 v0 b0_0 b0_1 b1_0 b1_1

noncomputable def spec_l01Sum_t (n : Nat) (h3 : Nat → Int → (List ((Int) × (Int))) → Int → Int → Int → Int → Option (((((Int) × (Int)) × (Unit)) × (((Int) × (Unit)) × (Unit))) × (Unit))) (a0 : List ((Int) × (Int))) : Option (((((Int) × (Int)) × (Unit)) × (((Int) × (Unit)) × (Unit))) × (Unit)) :=
  (spec_l01Whole n 0).bind fun r0 =>
  h3 n 0 a0 0 0 r0.1.1.1.1 r0.1.1.1.2

noncomputable def spec_l01Sum (n : Nat) (a0 : List ((Int) × (Int))) : Option (((((Int) × (Int)) × (Unit)) × (((Int) × (Unit)) × (Unit))) × (Unit)) := spec_l01Sum_t n (spec_l01Sum_l3 n) a0

noncomputable def spec_l05Day_t (n : Nat) (a0 : Int) : Option ((((Bool) × (Unit)) × (Unit)) × (Unit)) :=
  (spec_l00In n a0 0 100000).bind fun r0 =>
  some ((((r0.1.1.1, ()), ()), ()))

noncomputable def spec_l05Day (n : Nat) (a0 : Int) : Option ((((Bool) × (Unit)) × (Unit)) × (Unit)) := spec_l05Day_t n a0

noncomputable def spec_l05Good_e_t (n : Nat) (a0 : (ByteArray) × ((Int) × ((((Int) × (Int)) × ((Int) × (Int))) × (((Int) × (Int)) × ((Int) × (Int)))))) (a1 : Int) : Option ((((Bool) × (Unit)) × (Unit)) × (Unit)) :=
  cond (decide (a1 ≥ a0.2.2.2.2.1))
  (some ((((decide (a1 ≤ (IntKind.wrap .i64 (a0.2.2.2.2.1 + a0.2.2.2.2.2))), ()), ()), ())))
  (some ((((false, ()), ()), ())))

noncomputable def spec_l05Good_e (n : Nat) (a0 : (ByteArray) × ((Int) × ((((Int) × (Int)) × ((Int) × (Int))) × (((Int) × (Int)) × ((Int) × (Int)))))) (a1 : Int) : Option ((((Bool) × (Unit)) × (Unit)) × (Unit)) := spec_l05Good_e_t n a0 a1

noncomputable def spec_l05Name_t4 (n : Nat) (g4 : Int → ByteArray → Option ((((Bool) × (Unit)) × (Unit)) × (Unit))) (v3 : Int) (v0 : ByteArray) : Option ((((Bool) × (Unit)) × (Unit)) × (Unit)) :=
  cond (decide (v3 < (((ByteArray.size v0) : Nat) : Int)))
  (cond ((decide (0 ≤ v3) && decide (v3 < (((ByteArray.size v0) : Nat) : Int))))
    (cond (decide ((byteAt v0 v3) < 97))
      (some ((((false, ()), ()), ())))
      (cond ((decide (0 ≤ v3) && decide (v3 < (((ByteArray.size v0) : Nat) : Int))))
        (cond (decide ((byteAt v0 v3) > 122))
          (some ((((false, ()), ()), ())))
          (g4 ((IntKind.wrap .i64 (v3 + 1))) v0))
        (none)))
    (none))
  (some ((((true, ()), ()), ())))

noncomputable def spec_l05Name_l4 (n : Nat) : Nat → Int → ByteArray → Option ((((Bool) × (Unit)) × (Unit)) × (Unit))
  | 0, _, _ => none
  | k + 1, v3, v0 => spec_l05Name_t4 n (spec_l05Name_l4 n k) v3 v0

noncomputable def spec_l05Name_t (n : Nat) (h4 : Nat → Int → ByteArray → Option ((((Bool) × (Unit)) × (Unit)) × (Unit))) (a0 : ByteArray) : Option ((((Bool) × (Unit)) × (Unit)) × (Unit)) :=
  cond (decide ((((ByteArray.size a0) : Nat) : Int) < 1))
  (some ((((false, ()), ()), ())))
  (cond (decide ((((ByteArray.size a0) : Nat) : Int) > 12))
    (some ((((false, ()), ()), ())))
    (h4 n 0 a0))

noncomputable def spec_l05Name (n : Nat) (a0 : ByteArray) : Option ((((Bool) × (Unit)) × (Unit)) × (Unit)) := spec_l05Name_t n (spec_l05Name_l4 n) a0

noncomputable def spec_l05Standard_e_t (n : Nat) (a0 : List ((ByteArray) × ((Int) × ((((Int) × (Int)) × ((Int) × (Int))) × (((Int) × (Int)) × ((Int) × (Int))))))) (a1 : (ByteArray) × ((Int) × ((((Int) × (Int)) × ((Int) × (Int))) × (((Int) × (Int)) × ((Int) × (Int)))))) : Option ((((Bool) × (Unit)) × (Unit)) × (Unit)) :=
  (spec_l01Span_e n (((a1.2.2.1.1.1, a1.2.2.1.1.2), (a1.2.2.1.2.1, a1.2.2.1.2.2)))).bind fun r0 =>
  cond (!r0.1.1.1)
  (some ((((false, ()), ()), ())))
  ((spec_l01Ok n ((a1.2.2.2.1.1, a1.2.2.2.1.2))).bind fun r1 =>
    cond (!r1.1.1.1)
    (some ((((false, ()), ()), ())))
    (cond (decide (a1.2.2.2.1.1 < 0))
      (some ((((false, ()), ()), ())))
      ((spec_l05Day n a1.2.2.2.2.1).bind fun r2 =>
        cond (!r2.1.1.1)
        (some ((((false, ()), ()), ())))
        ((spec_l05Day n a1.2.2.2.2.2).bind fun r3 =>
          cond (!r3.1.1.1)
          (some ((((false, ()), ()), ())))
          (cond ((a1.2.1 == (-1)))
            (some ((((true, ()), ()), ())))
            ((spec_l00In n a1.2.1 0 ((IntKind.wrap .i64 (((a0.length : Nat) : Int) - 1)))).bind fun r4 =>
              cond r4.1.1.1
              (cond ((decide (0 ≤ a1.2.1) && decide (a1.2.1 < ((a0.length : Nat) : Int))))
                ((spec_l05Good_e n (((a0.getD (Int.toNat a1.2.1) ((ByteArray.mk #[]), (0, (((0, 0), (0, 0)), ((0, 0), (0, 0)))))).1, ((a0.getD (Int.toNat a1.2.1) ((ByteArray.mk #[]), (0, (((0, 0), (0, 0)), ((0, 0), (0, 0)))))).2.1, ((((a0.getD (Int.toNat a1.2.1) ((ByteArray.mk #[]), (0, (((0, 0), (0, 0)), ((0, 0), (0, 0)))))).2.2.1.1.1, (a0.getD (Int.toNat a1.2.1) ((ByteArray.mk #[]), (0, (((0, 0), (0, 0)), ((0, 0), (0, 0)))))).2.2.1.1.2), ((a0.getD (Int.toNat a1.2.1) ((ByteArray.mk #[]), (0, (((0, 0), (0, 0)), ((0, 0), (0, 0)))))).2.2.1.2.1, (a0.getD (Int.toNat a1.2.1) ((ByteArray.mk #[]), (0, (((0, 0), (0, 0)), ((0, 0), (0, 0)))))).2.2.1.2.2)), (((a0.getD (Int.toNat a1.2.1) ((ByteArray.mk #[]), (0, (((0, 0), (0, 0)), ((0, 0), (0, 0)))))).2.2.2.1.1, (a0.getD (Int.toNat a1.2.1) ((ByteArray.mk #[]), (0, (((0, 0), (0, 0)), ((0, 0), (0, 0)))))).2.2.2.1.2), ((a0.getD (Int.toNat a1.2.1) ((ByteArray.mk #[]), (0, (((0, 0), (0, 0)), ((0, 0), (0, 0)))))).2.2.2.2.1, (a0.getD (Int.toNat a1.2.1) ((ByteArray.mk #[]), (0, (((0, 0), (0, 0)), ((0, 0), (0, 0)))))).2.2.2.2.2)))))) a1.2.2.2.2.1).bind fun r5 =>
                  some ((((r5.1.1.1, ()), ()), ())))
                (none))
              (some ((((false, ()), ()), ())))))))))

noncomputable def spec_l05Standard_e (n : Nat) (a0 : List ((ByteArray) × ((Int) × ((((Int) × (Int)) × ((Int) × (Int))) × (((Int) × (Int)) × ((Int) × (Int))))))) (a1 : (ByteArray) × ((Int) × ((((Int) × (Int)) × ((Int) × (Int))) × (((Int) × (Int)) × ((Int) × (Int)))))) : Option ((((Bool) × (Unit)) × (Unit)) × (Unit)) := spec_l05Standard_e_t n a0 a1

noncomputable def spec_l05Ok_t9 (n : Nat) (g4 : Int → (List ((ByteArray) × ((Int) × ((((Int) × (Int)) × ((Int) × (Int))) × (((Int) × (Int)) × ((Int) × (Int))))))) → Option ((((Bool) × (Unit)) × (Unit)) × (Unit))) (g9 : Int → Int → (List ((ByteArray) × ((Int) × ((((Int) × (Int)) × ((Int) × (Int))) × (((Int) × (Int)) × ((Int) × (Int))))))) → Option ((((Bool) × (Unit)) × (Unit)) × (Unit))) (v4 : Int) (v3 : Int) (v0 : List ((ByteArray) × ((Int) × ((((Int) × (Int)) × ((Int) × (Int))) × (((Int) × (Int)) × ((Int) × (Int))))))) : Option ((((Bool) × (Unit)) × (Unit)) × (Unit)) :=
  cond (decide (v4 < v3))
  (cond ((decide (0 ≤ v4) && decide (v4 < ((v0.length : Nat) : Int))))
    (cond ((decide (0 ≤ v3) && decide (v3 < ((v0.length : Nat) : Int))))
      (cond ((eqStr (v0.getD (Int.toNat v4) ((ByteArray.mk #[]), (0, (((0, 0), (0, 0)), ((0, 0), (0, 0)))))).1 (v0.getD (Int.toNat v3) ((ByteArray.mk #[]), (0, (((0, 0), (0, 0)), ((0, 0), (0, 0)))))).1))
        (some ((((false, ()), ()), ())))
        (g9 ((IntKind.wrap .i64 (v4 + 1))) v3 v0))
      (none))
    (none))
  (g4 ((IntKind.wrap .i64 (v3 + 1))) v0)

noncomputable def spec_l05Ok_l9 (n : Nat) (g4 : Int → (List ((ByteArray) × ((Int) × ((((Int) × (Int)) × ((Int) × (Int))) × (((Int) × (Int)) × ((Int) × (Int))))))) → Option ((((Bool) × (Unit)) × (Unit)) × (Unit))) : Nat → Int → Int → (List ((ByteArray) × ((Int) × ((((Int) × (Int)) × ((Int) × (Int))) × (((Int) × (Int)) × ((Int) × (Int))))))) → Option ((((Bool) × (Unit)) × (Unit)) × (Unit))
  | 0, _, _, _ => none
  | k + 1, v4, v3, v0 => spec_l05Ok_t9 n g4 (spec_l05Ok_l9 n g4 k) v4 v3 v0

noncomputable def spec_l05Ok_t4 (n : Nat) (h9 : Nat → Int → Int → (List ((ByteArray) × ((Int) × ((((Int) × (Int)) × ((Int) × (Int))) × (((Int) × (Int)) × ((Int) × (Int))))))) → Option ((((Bool) × (Unit)) × (Unit)) × (Unit))) (g4 : Int → (List ((ByteArray) × ((Int) × ((((Int) × (Int)) × ((Int) × (Int))) × (((Int) × (Int)) × ((Int) × (Int))))))) → Option ((((Bool) × (Unit)) × (Unit)) × (Unit))) (v3 : Int) (v0 : List ((ByteArray) × ((Int) × ((((Int) × (Int)) × ((Int) × (Int))) × (((Int) × (Int)) × ((Int) × (Int))))))) : Option ((((Bool) × (Unit)) × (Unit)) × (Unit)) :=
  cond (decide (v3 < ((v0.length : Nat) : Int)))
  (cond ((decide (0 ≤ v3) && decide (v3 < ((v0.length : Nat) : Int))))
    ((spec_l05Name n ((v0.getD (Int.toNat v3) ((ByteArray.mk #[]), (0, (((0, 0), (0, 0)), ((0, 0), (0, 0)))))).1)).bind fun r0 =>
      cond (!r0.1.1.1)
      (some ((((false, ()), ()), ())))
      (cond ((decide (0 ≤ v3) && decide (v3 ≤ ((v0.length : Nat) : Int))))
        (cond ((decide (0 ≤ v3) && decide (v3 < ((v0.length : Nat) : Int))))
          ((spec_l05Standard_e n (((v0.drop (Int.toNat 0)).take ((Int.toNat v3) - (Int.toNat 0)))) (((v0.getD (Int.toNat v3) ((ByteArray.mk #[]), (0, (((0, 0), (0, 0)), ((0, 0), (0, 0)))))).1, ((v0.getD (Int.toNat v3) ((ByteArray.mk #[]), (0, (((0, 0), (0, 0)), ((0, 0), (0, 0)))))).2.1, ((((v0.getD (Int.toNat v3) ((ByteArray.mk #[]), (0, (((0, 0), (0, 0)), ((0, 0), (0, 0)))))).2.2.1.1.1, (v0.getD (Int.toNat v3) ((ByteArray.mk #[]), (0, (((0, 0), (0, 0)), ((0, 0), (0, 0)))))).2.2.1.1.2), ((v0.getD (Int.toNat v3) ((ByteArray.mk #[]), (0, (((0, 0), (0, 0)), ((0, 0), (0, 0)))))).2.2.1.2.1, (v0.getD (Int.toNat v3) ((ByteArray.mk #[]), (0, (((0, 0), (0, 0)), ((0, 0), (0, 0)))))).2.2.1.2.2)), (((v0.getD (Int.toNat v3) ((ByteArray.mk #[]), (0, (((0, 0), (0, 0)), ((0, 0), (0, 0)))))).2.2.2.1.1, (v0.getD (Int.toNat v3) ((ByteArray.mk #[]), (0, (((0, 0), (0, 0)), ((0, 0), (0, 0)))))).2.2.2.1.2), ((v0.getD (Int.toNat v3) ((ByteArray.mk #[]), (0, (((0, 0), (0, 0)), ((0, 0), (0, 0)))))).2.2.2.2.1, (v0.getD (Int.toNat v3) ((ByteArray.mk #[]), (0, (((0, 0), (0, 0)), ((0, 0), (0, 0)))))).2.2.2.2.2))))))).bind fun r1 =>
            cond (!r1.1.1.1)
            (some ((((false, ()), ()), ())))
            (h9 n 0 v3 v0))
          (none))
        (none)))
    (none))
  (some ((((true, ()), ()), ())))

noncomputable def spec_l05Ok_l4 (n : Nat) : Nat → Int → (List ((ByteArray) × ((Int) × ((((Int) × (Int)) × ((Int) × (Int))) × (((Int) × (Int)) × ((Int) × (Int))))))) → Option ((((Bool) × (Unit)) × (Unit)) × (Unit))
  | 0, _, _ => none
  | k + 1, v3, v0 => spec_l05Ok_t4 n (spec_l05Ok_l9 n (spec_l05Ok_l4 n k)) (spec_l05Ok_l4 n k) v3 v0

noncomputable def spec_l05Ok_t (n : Nat) (h4 : Nat → Int → (List ((ByteArray) × ((Int) × ((((Int) × (Int)) × ((Int) × (Int))) × (((Int) × (Int)) × ((Int) × (Int))))))) → Option ((((Bool) × (Unit)) × (Unit)) × (Unit))) (a0 : List ((ByteArray) × ((Int) × ((((Int) × (Int)) × ((Int) × (Int))) × (((Int) × (Int)) × ((Int) × (Int))))))) : Option ((((Bool) × (Unit)) × (Unit)) × (Unit)) :=
  cond (decide (((a0.length : Nat) : Int) > 30))
  (some ((((false, ()), ()), ())))
  (h4 n 0 a0)

noncomputable def spec_l05Ok (n : Nat) (a0 : List ((ByteArray) × ((Int) × ((((Int) × (Int)) × ((Int) × (Int))) × (((Int) × (Int)) × ((Int) × (Int))))))) : Option ((((Bool) × (Unit)) × (Unit)) × (Unit)) := spec_l05Ok_t n (spec_l05Ok_l4 n) a0

end Go.Abs
