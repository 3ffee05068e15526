import Derived.Test.YtipjecagbndhbaaLib
namespace Go.Abs
set_option linter.unusedVariables false

noncomputable def laws_f6big_t (n : Nat) (a0 : List (Int)) : Option ((((Bool) × (Unit)) × (Unit)) × (Unit)) :=
  some ((((decide (((a0.length : Nat) : Int) > 4096), ()), ()), ()))

noncomputable def laws_f6big (n : Nat) (a0 : List (Int)) : Option ((((Bool) × (Unit)) × (Unit)) × (Unit)) := laws_f6big_t n a0

noncomputable def spec_l00From_t (n : Nat) (a0 : List (Int)) : Option (((((List (Int)) × ((Int) × (Int))) × (Unit)) × (Unit)) × (Unit)) :=
  some (((((a0, (0, 0)), ()), ()), ()))

noncomputable def spec_l00From (n : Nat) (a0 : List (Int)) : Option (((((List (Int)) × ((Int) × (Int))) × (Unit)) × (Unit)) × (Unit)) := spec_l00From_t n a0

noncomputable def spec_l00Src_next_t (n : Nat) (b0 : (List (Int)) × ((Int) × (Int))) : Option ((((Int) × (Unit)) × (Unit)) × (((List (Int)) × ((Int) × (Int))) × (Unit))) :=
  cond (decide (b0.2.1 < ((b0.1.length : Nat) : Int)))
  (cond ((decide (0 ≤ b0.2.1) && decide (b0.2.1 < ((b0.1.length : Nat) : Int))))
    (cond (decide ((IntKind.wrap .i64 (b0.2.1 + 1)) ≤ ((b0.1.length : Nat) : Int)))
      (some (((((IntKind.wrap .i64 (b0.1.getD (Int.toNat b0.2.1) 0)), ()), ()), ((b0.1, ((IntKind.wrap .i64 (b0.2.1 + 1)), (IntKind.wrap .u64 ((IntKind.wrap .u64 ((IntKind.wrap .u64 (b0.2.2 * 6364136223846793005)) + (IntKind.wrap .u64 (IntKind.wrap .i64 (b0.1.getD (Int.toNat b0.2.1) 0))))) + 1442695040888963407)))), ()))))
      (some (((((IntKind.wrap .i64 (andInt .u64 (shrInt .u64 (IntKind.wrap .u64 ((IntKind.wrap .u64 ((IntKind.wrap .u64 (b0.2.2 * 6364136223846793005)) + (IntKind.wrap .u64 (IntKind.wrap .i64 (b0.1.getD (Int.toNat b0.2.1) 0))))) + 1442695040888963407)) 40) 255)), ()), ()), ((b0.1, ((IntKind.wrap .i64 (b0.2.1 + 1)), (IntKind.wrap .u64 ((IntKind.wrap .u64 ((IntKind.wrap .u64 (b0.2.2 * 6364136223846793005)) + (IntKind.wrap .u64 (IntKind.wrap .i64 (b0.1.getD (Int.toNat b0.2.1) 0))))) + 1442695040888963407)))), ())))))
    (none))
  (cond (decide ((IntKind.wrap .i64 (b0.2.1 + 1)) ≤ ((b0.1.length : Nat) : Int)))
    (some ((((0, ()), ()), ((b0.1, ((IntKind.wrap .i64 (b0.2.1 + 1)), (IntKind.wrap .u64 ((IntKind.wrap .u64 ((IntKind.wrap .u64 (b0.2.2 * 6364136223846793005)) + (IntKind.wrap .u64 0))) + 1442695040888963407)))), ()))))
    (some (((((IntKind.wrap .i64 (andInt .u64 (shrInt .u64 (IntKind.wrap .u64 ((IntKind.wrap .u64 ((IntKind.wrap .u64 (b0.2.2 * 6364136223846793005)) + (IntKind.wrap .u64 0))) + 1442695040888963407)) 40) 255)), ()), ()), ((b0.1, ((IntKind.wrap .i64 (b0.2.1 + 1)), (IntKind.wrap .u64 ((IntKind.wrap .u64 ((IntKind.wrap .u64 (b0.2.2 * 6364136223846793005)) + (IntKind.wrap .u64 0))) + 1442695040888963407)))), ())))))

noncomputable def spec_l00Src_next (n : Nat) (b0 : (List (Int)) × ((Int) × (Int))) : Option ((((Int) × (Unit)) × (Unit)) × (((List (Int)) × ((Int) × (Int))) × (Unit))) := spec_l00Src_next_t n b0

noncomputable def spec_l00Src_pick_t (n : Nat) (a1 : Int) (b0 : (List (Int)) × ((Int) × (Int))) : Option ((((Int) × (Unit)) × (Unit)) × (((List (Int)) × ((Int) × (Int))) × (Unit))) :=
  cond (decide (a1 ≤ 1))
  (some ((((0, ()), ()), ((b0.1, (b0.2.1, b0.2.2)), ()))))
  ((spec_l00Src_next n ((b0.1, (b0.2.1, b0.2.2)))).bind fun r0 =>
    cond (decide (a1 > 200))
    ((spec_l00Src_next n ((r0.2.1.1, (r0.2.1.2.1, r0.2.1.2.2)))).bind fun r1 =>
      cond ((a1 != 0))
      (some (((((Int.tmod (IntKind.wrap .i64 ((IntKind.wrap .i64 (r0.1.1.1 * 256)) + r1.1.1.1)) a1), ()), ()), ((r1.2.1.1, (r1.2.1.2.1, r1.2.1.2.2)), ()))))
      (none))
    (cond ((a1 != 0))
      (some (((((Int.tmod r0.1.1.1 a1), ()), ()), ((r0.2.1.1, (r0.2.1.2.1, r0.2.1.2.2)), ()))))
      (none)))

noncomputable def spec_l00Src_pick (n : Nat) (a1 : Int) (b0 : (List (Int)) × ((Int) × (Int))) : Option ((((Int) × (Unit)) × (Unit)) × (((List (Int)) × ((Int) × (Int))) × (Unit))) := spec_l00Src_pick_t n a1 b0

noncomputable def spec_l01Abs_t (n : Nat) (a0 : Int) : Option ((((Int) × (Unit)) × (Unit)) × (Unit)) :=
  cond (decide (a0 < 0))
  (some (((((IntKind.wrap .i64 (0 - a0)), ()), ()), ())))
  (some ((((a0, ()), ()), ())))

noncomputable def spec_l01Abs (n : Nat) (a0 : Int) : Option ((((Int) × (Unit)) × (Unit)) × (Unit)) := spec_l01Abs_t n a0

noncomputable def spec_l01Gcd_t1 (n : Nat) (g1 : Int → Int → Option ((((Int) × (Unit)) × (Unit)) × (Unit))) (v1 : Int) (v0 : Int) : Option ((((Int) × (Unit)) × (Unit)) × (Unit)) :=
  cond ((v1 != 0))
  (cond ((v1 != 0))
    (g1 ((Int.tmod v0 v1)) v1)
    (none))
  (some ((((v0, ()), ()), ())))

noncomputable def spec_l01Gcd_l1 (n : Nat) : Nat → Int → Int → Option ((((Int) × (Unit)) × (Unit)) × (Unit))
  | 0, _, _ => none
  | k + 1, v1, v0 => spec_l01Gcd_t1 n (spec_l01Gcd_l1 n k) v1 v0

noncomputable def spec_l01Gcd_t (n : Nat) (h1 : Nat → Int → Int → Option ((((Int) × (Unit)) × (Unit)) × (Unit))) (a0 : Int) (a1 : Int) : Option ((((Int) × (Unit)) × (Unit)) × (Unit)) :=
  h1 n a1 a0

noncomputable def spec_l01Gcd (n : Nat) (a0 : Int) (a1 : Int) : Option ((((Int) × (Unit)) × (Unit)) × (Unit)) := spec_l01Gcd_t n (spec_l01Gcd_l1 n) a0 a1

noncomputable def spec_l00In_t (n : Nat) (a0 : Int) (a1 : Int) (a2 : Int) : Option ((((Bool) × (Unit)) × (Unit)) × (Unit)) :=
  cond (decide (a0 ≥ a1))
  (some ((((decide (a0 ≤ a2), ()), ()), ())))
  (some ((((false, ()), ()), ())))

noncomputable def spec_l00In (n : Nat) (a0 : Int) (a1 : Int) (a2 : Int) : Option ((((Bool) × (Unit)) × (Unit)) × (Unit)) := spec_l00In_t n a0 a1 a2

noncomputable def spec_l01Ok_t (n : Nat) (a0 : (Int) × (Int)) : Option ((((Bool) × (Unit)) × (Unit)) × (Unit)) :=
  (spec_l00In n a0.2 1 1000000000).bind fun r0 =>
  cond r0.1.1.1
  ((spec_l00In n a0.1 (-1000000000) 1000000000).bind fun r1 =>
    cond r1.1.1.1
    ((spec_l01Abs n a0.1).bind fun r2 =>
      (spec_l01Gcd n r2.1.1.1 a0.2).bind fun r3 =>
      some (((((r3.1.1.1 == 1), ()), ()), ())))
    (some ((((false, ()), ()), ()))))
  (some ((((false, ()), ()), ())))

noncomputable def spec_l01Ok (n : Nat) (a0 : (Int) × (Int)) : Option ((((Bool) × (Unit)) × (Unit)) × (Unit)) := spec_l01Ok_t n a0

noncomputable def spec_l01Reduced_t (n : Nat) (a0 : Int) (a1 : Int) : Option (((((Int) × (Int)) × (Unit)) × (((Int) × (Unit)) × (Unit))) × (Unit)) :=
  (spec_l01Abs n a0).bind fun r0 =>
  (spec_l01Abs n a1).bind fun r1 =>
  (spec_l01Gcd n r0.1.1.1 r1.1.1.1).bind fun r2 =>
  cond ((r2.1.1.1 != 0))
  (cond ((r2.1.1.1 != 0))
    (cond (decide ((IntKind.wrap .i64 (Int.tdiv a1 r2.1.1.1)) < 0))
      ((spec_l01Ok n (((IntKind.wrap .i64 (0 - (IntKind.wrap .i64 (Int.tdiv a0 r2.1.1.1)))), (IntKind.wrap .i64 (0 - (IntKind.wrap .i64 (Int.tdiv a1 r2.1.1.1))))))).bind fun r3 =>
        cond (!r3.1.1.1)
        (some (((((0, 0), ()), ((3, ()), ())), ())))
        (some ((((((IntKind.wrap .i64 (0 - (IntKind.wrap .i64 (Int.tdiv a0 r2.1.1.1)))), (IntKind.wrap .i64 (0 - (IntKind.wrap .i64 (Int.tdiv a1 r2.1.1.1))))), ()), ((0, ()), ())), ()))))
      ((spec_l01Ok n (((IntKind.wrap .i64 (Int.tdiv a0 r2.1.1.1)), (IntKind.wrap .i64 (Int.tdiv a1 r2.1.1.1))))).bind fun r4 =>
        cond (!r4.1.1.1)
        (some (((((0, 0), ()), ((3, ()), ())), ())))
        (some ((((((IntKind.wrap .i64 (Int.tdiv a0 r2.1.1.1)), (IntKind.wrap .i64 (Int.tdiv a1 r2.1.1.1))), ()), ((0, ()), ())), ())))))
    (none))
  (none)

noncomputable def spec_l01Reduced (n : Nat) (a0 : Int) (a1 : Int) : Option (((((Int) × (Int)) × (Unit)) × (((Int) × (Unit)) × (Unit))) × (Unit)) := spec_l01Reduced_t n a0 a1

noncomputable def spec_l00Src_one_t (n : Nat) (a1 : Int) (b0 : (List (Int)) × ((Int) × (Int))) : Option ((((Bool) × (Unit)) × (Unit)) × (((List (Int)) × ((Int) × (Int))) × (Unit))) :=
  (spec_l00Src_pick n a1 ((b0.1, (b0.2.1, b0.2.2)))).bind fun r0 =>
  some (((((r0.1.1.1 == 0), ()), ()), ((r0.2.1.1, (r0.2.1.2.1, r0.2.1.2.2)), ())))

noncomputable def spec_l00Src_one (n : Nat) (a1 : Int) (b0 : (List (Int)) × ((Int) × (Int))) : Option ((((Bool) × (Unit)) × (Unit)) × (((List (Int)) × ((Int) × (Int))) × (Unit))) := spec_l00Src_one_t n a1 b0

noncomputable def spec_l01Whole_t (n : Nat) (a0 : Int) : Option (((((Int) × (Int)) × (Unit)) × (Unit)) × (Unit)) :=
  some (((((a0, 1), ()), ()), ()))

noncomputable def spec_l01Whole (n : Nat) (a0 : Int) : Option (((((Int) × (Int)) × (Unit)) × (Unit)) × (Unit)) := spec_l01Whole_t n a0

/- join 10 at { env := [(7, .one (.ref 1 0 0 0 0 0)), (5, .one (.ref 2 0 0 0 0 0)), (0, .one (.ref 0 0 0 0 0 0)), (8, .one (.sc (.bool v8))), (4, .one (.ref 3 0 0 0 0 0)), (9, .one (.sc (.int .i64 v9))), (10, .one (.ref 4 0 0 0 0 0))], bx := [(0, .var 226 [.list true (.int .u8) b0_0, .sc (.int .i64 b0_1), .sc (.int .u64 b0_2)]), (1, .var 91 [.sc (.int .i64 b1_0), .sc (.int .i64 b1_1), .slice 5 0 none]), (2, .var 26 [.sc (.int .i64 b2_0), .sc (.int .i64 b2_1)]), (3, .var 91 [.sc (.int .i64 b3_0), .sc (.int .i64 b3_1), .sc (.slice none 0 0)]), (4, .var 26 [.sc (.int .i64 b4_0), .sc (.int .i64 b4_1)]), (5, .row 0 (.pair (.int .i64) (.int .i64)) b5)], nx := 6 } -/
noncomputable def spec_l02Drawn_t10 (n : Nat) (g5 : Int → Bool → (List (Int)) → Int → Int → Int → Int → Int → Int → Int → Int → (List ((Int) × (Int))) → Option ((((((Int) × (Int)) × (List ((Int) × (Int)))) × (Unit)) × (Unit)) × (((List (Int)) × ((Int) × (Int))) × (Unit)))) (v8 : Bool) (v9 : Int) (b0_0 : List (Int)) (b0_1 : Int) (b0_2 : Int) (b1_0 : Int) (b1_1 : Int) (b2_0 : Int) (b2_1 : Int) (b3_0 : Int) (b3_1 : Int) (b4_0 : Int) (b4_1 : Int) (b5 : List ((Int) × (Int))) : Option ((((((Int) × (Int)) × (List ((Int) × (Int)))) × (Unit)) × (Unit)) × (((List (Int)) × ((Int) × (Int))) × (Unit))) :=
  cond (decide (((b5.length + ((b4_0, b4_1) :: []).length) * 17) ≤ 70368744177664))
  (g5 ((IntKind.wrap .i64 (v9 - 1))) v8 b0_0 b0_1 b0_2 b1_0 b1_1 b2_0 b2_1 b3_0 b3_1 ((b5 ++ ((b4_0, b4_1) :: []))))
  (none)

noncomputable def spec_l02Drawn_j10 (n : Nat) (g5 : Int → Bool → (List (Int)) → Int → Int → Int → Int → Int → Int → Int → Int → (List ((Int) × (Int))) → Option ((((((Int) × (Int)) × (List ((Int) × (Int)))) × (Unit)) × (Unit)) × (((List (Int)) × ((Int) × (Int))) × (Unit)))) (v8 : Bool) (v9 : Int) (b0_0 : List (Int)) (b0_1 : Int) (b0_2 : Int) (b1_0 : Int) (b1_1 : Int) (b2_0 : Int) (b2_1 : Int) (b3_0 : Int) (b3_1 : Int) (b4_0 : Int) (b4_1 : Int) (b5 : List ((Int) × (Int))) : Option ((((((Int) × (Int)) × (List ((Int) × (Int)))) × (Unit)) × (Unit)) × (((List (Int)) × ((Int) × (Int))) × (Unit))) := spec_l02Drawn_t10 n g5 v8 v9 b0_0 b0_1 b0_2 b1_0 b1_1 b2_0 b2_1 b3_0 b3_1 b4_0 b4_1 b5

noncomputable def spec_l02Drawn_t5 (n : Nat) (h10 : Bool → Int → (List (Int)) → Int → Int → Int → Int → Int → Int → Int → Int → Int → Int → (List ((Int) × (Int))) → Option ((((((Int) × (Int)) × (List ((Int) × (Int)))) × (Unit)) × (Unit)) × (((List (Int)) × ((Int) × (Int))) × (Unit)))) (g5 : Int → Bool → (List (Int)) → Int → Int → Int → Int → Int → Int → Int → Int → (List ((Int) × (Int))) → Option ((((((Int) × (Int)) × (List ((Int) × (Int)))) × (Unit)) × (Unit)) × (((List (Int)) × ((Int) × (Int))) × (Unit)))) (v9 : Int) (v8 : Bool) (b0_0 : List (Int)) (b0_1 : Int) (b0_2 : Int) (b1_0 : Int) (b1_1 : Int) (b2_0 : Int) (b2_1 : Int) (b3_0 : Int) (b3_1 : Int) (b4 : List ((Int) × (Int))) : Option ((((((Int) × (Int)) × (List ((Int) × (Int)))) × (Unit)) × (Unit)) × (((List (Int)) × ((Int) × (Int))) × (Unit))) :=
  cond (decide (v9 > 0))
  ((spec_l01Whole n 0).bind fun r5 =>
    cond (!v8)
    ((spec_l00Src_pick n 9 ((b0_0, (b0_1, b0_2)))).bind fun r6 =>
      (spec_l01Reduced n ((IntKind.wrap .i64 ((IntKind.wrap .i64 (r6.1.1.1 - 4)) * b2_0))) ((IntKind.wrap .i64 (16 * b2_1)))).bind fun r7 =>
      h10 v8 v9 r6.2.1.1 r6.2.1.2.1 r6.2.1.2.2 b1_0 b1_1 b2_0 b2_1 b3_0 b3_1 r7.1.1.1.1 r7.1.1.1.2 b4)
    (h10 v8 v9 b0_0 b0_1 b0_2 b1_0 b1_1 b2_0 b2_1 b3_0 b3_1 r5.1.1.1.1 r5.1.1.1.2 b4))
  (some ((((((b1_0, b1_1), b4), ()), ()), ((b0_0, (b0_1, b0_2)), ()))))

noncomputable def spec_l02Drawn_l5 (n : Nat) : Nat → Int → Bool → (List (Int)) → Int → Int → Int → Int → Int → Int → Int → Int → (List ((Int) × (Int))) → Option ((((((Int) × (Int)) × (List ((Int) × (Int)))) × (Unit)) × (Unit)) × (((List (Int)) × ((Int) × (Int))) × (Unit)))
  | 0, _, _, _, _, _, _, _, _, _, _, _, _ => none
  | k + 1, v9, v8, b0_0, b0_1, b0_2, b1_0, b1_1, b2_0, b2_1, b3_0, b3_1, b4 => spec_l02Drawn_t5 n (spec_l02Drawn_j10 n (spec_l02Drawn_l5 n k)) (spec_l02Drawn_l5 n k) v9 v8 b0_0 b0_1 b0_2 b1_0 b1_1 b2_0 b2_1 b3_0 b3_1 b4

noncomputable def spec_l02Drawn_t (n : Nat) (h5 : Nat → Int → Bool → (List (Int)) → Int → Int → Int → Int → Int → Int → Int → Int → (List ((Int) × (Int))) → Option ((((((Int) × (Int)) × (List ((Int) × (Int)))) × (Unit)) × (Unit)) × (((List (Int)) × ((Int) × (Int))) × (Unit)))) (a1 : Int) (b0 : (List (Int)) × ((Int) × (Int))) : Option ((((((Int) × (Int)) × (List ((Int) × (Int)))) × (Unit)) × (Unit)) × (((List (Int)) × ((Int) × (Int))) × (Unit))) :=
  (spec_l00Src_pick n 6 ((b0.1, (b0.2.1, b0.2.2)))).bind fun r0 =>
  (spec_l00Src_pick n 4 ((r0.2.1.1, (r0.2.1.2.1, r0.2.1.2.2)))).bind fun r1 =>
  (spec_l01Reduced n ((IntKind.wrap .i64 (1 + r0.1.1.1))) ((IntKind.wrap .i64 (1 + r1.1.1.1)))).bind fun r2 =>
  (spec_l00Src_one n 3 ((r1.2.1.1, (r1.2.1.2.1, r1.2.1.2.2)))).bind fun r3 =>
  (spec_l00Src_pick n 10 ((r3.2.1.1, (r3.2.1.2.1, r3.2.1.2.2)))).bind fun r4 =>
  h5 n ((IntKind.wrap .i64 (a1 + r4.1.1.1))) r3.1.1.1 r4.2.1.1 r4.2.1.2.1 r4.2.1.2.2 r2.1.1.1.1 r2.1.1.1.2 r2.1.1.1.1 r2.1.1.1.2 0 0 []

noncomputable def spec_l02Drawn (n : Nat) (a1 : Int) (b0 : (List (Int)) × ((Int) × (Int))) : Option ((((((Int) × (Int)) × (List ((Int) × (Int)))) × (Unit)) × (Unit)) × (((List (Int)) × ((Int) × (Int))) × (Unit))) := spec_l02Drawn_t n (spec_l02Drawn_l5 n) a1 b0

noncomputable def spec_P6Scale_t (n : Nat) (a0 : List (Int)) (a1 : Int) : Option ((((((Int) × (Int)) × (List ((Int) × (Int)))) × (Unit)) × (Unit)) × (Unit)) :=
  (spec_l00From n a0).bind fun r0 =>
  (spec_l02Drawn n a1 ((r0.1.1.1.1, (r0.1.1.1.2.1, r0.1.1.1.2.2)))).bind fun r1 =>
  some ((((((r1.1.1.1.1.1, r1.1.1.1.1.2), r1.1.1.1.2), ()), ()), ()))

noncomputable def spec_P6Scale (n : Nat) (a0 : List (Int)) (a1 : Int) : Option ((((((Int) × (Int)) × (List ((Int) × (Int)))) × (Unit)) × (Unit)) × (Unit)) := spec_P6Scale_t n a0 a1

noncomputable def spec_P6Vernier_t (n : Nat) (a0 : List (Int)) : Option (((((Int) × (Bool)) × (Unit)) × (Unit)) × (Unit)) :=
  (spec_l00From n a0).bind fun r0 =>
  (spec_l00Src_pick n 11 ((r0.1.1.1.1, (r0.1.1.1.2.1, r0.1.1.1.2.2)))).bind fun r1 =>
  (spec_l00Src_one n 2 ((r1.2.1.1, (r1.2.1.2.1, r1.2.1.2.2)))).bind fun r2 =>
  some ((((((IntKind.wrap .i64 (2 + r1.1.1.1)), r2.1.1.1), ()), ()), ()))

noncomputable def spec_P6Vernier (n : Nat) (a0 : List (Int)) : Option (((((Int) × (Bool)) × (Unit)) × (Unit)) × (Unit)) := spec_P6Vernier_t n a0

noncomputable def spec_P6Place_t (n : Nat) (a0 : List (Int)) (a1 : ((Int) × (Int)) × (List ((Int) × (Int)))) : Option (((((Int) × (Int)) × (Unit)) × (Unit)) × (Unit)) :=
  (spec_l00From n a0).bind fun r0 =>
  (spec_l00Src_pick n 120 ((r0.1.1.1.1, (r0.1.1.1.2.1, r0.1.1.1.2.2)))).bind fun r1 =>
  (spec_l01Reduced n ((IntKind.wrap .i64 ((IntKind.wrap .i64 (12 + r1.1.1.1)) * a1.1.1))) ((IntKind.wrap .i64 (12 * a1.1.2)))).bind fun r2 =>
  cond ((r2.1.2.1.1 != 0))
  (some (((((a1.1.1, a1.1.2), ()), ()), ())))
  (some (((((r2.1.1.1.1, r2.1.1.1.2), ()), ()), ())))

noncomputable def spec_P6Place (n : Nat) (a0 : List (Int)) (a1 : ((Int) × (Int)) × (List ((Int) × (Int)))) : Option (((((Int) × (Int)) × (Unit)) × (Unit)) × (Unit)) := spec_P6Place_t n a0 a1

noncomputable def impl_within_t (n : Nat) (a0 : Int) (a1 : Int) (a2 : Int) : Option ((((Bool) × (Unit)) × (Unit)) × (Unit)) :=
  cond (decide (a1 ≤ a0))
  (some ((((decide (a0 ≤ a2), ()), ()), ())))
  (some ((((false, ()), ()), ())))

noncomputable def impl_within (n : Nat) (a0 : Int) (a1 : Int) (a2 : Int) : Option ((((Bool) × (Unit)) × (Unit)) × (Unit)) := impl_within_t n a0 a1 a2

noncomputable def impl_gcd_t1 (n : Nat) (g1 : Int → Int → Option ((((Int) × (Unit)) × (Unit)) × (Unit))) (v1 : Int) (v0 : Int) : Option ((((Int) × (Unit)) × (Unit)) × (Unit)) :=
  cond ((v1 != 0))
  (cond ((v1 != 0))
    (g1 ((Int.tmod v0 v1)) v1)
    (none))
  (some (((((if v0 < (IntKind.wrap .i64 (0 - v0)) then (IntKind.wrap .i64 (0 - v0)) else v0), ()), ()), ())))

noncomputable def impl_gcd_l1 (n : Nat) : Nat → Int → Int → Option ((((Int) × (Unit)) × (Unit)) × (Unit))
  | 0, _, _ => none
  | k + 1, v1, v0 => impl_gcd_t1 n (impl_gcd_l1 n k) v1 v0

noncomputable def impl_gcd_t (n : Nat) (h1 : Nat → Int → Int → Option ((((Int) × (Unit)) × (Unit)) × (Unit))) (a0 : Int) (a1 : Int) : Option ((((Int) × (Unit)) × (Unit)) × (Unit)) :=
  h1 n a1 a0

noncomputable def impl_gcd (n : Nat) (a0 : Int) (a1 : Int) : Option ((((Int) × (Unit)) × (Unit)) × (Unit)) := impl_gcd_t n (impl_gcd_l1 n) a0 a1

noncomputable def impl_ValidFrac_t (n : Nat) (a0 : (Int) × (Int)) : Option ((((Bool) × (Unit)) × (Unit)) × (Unit)) :=
  (impl_within n a0.2 1 1000000000).bind fun r0 =>
  cond r0.1.1.1
  ((impl_within n a0.1 (-1000000000) 1000000000).bind fun r1 =>
    cond r1.1.1.1
    ((impl_gcd n a0.1 a0.2).bind fun r2 =>
      some (((((r2.1.1.1 == 1), ()), ()), ())))
    (some ((((false, ()), ()), ()))))
  (some ((((false, ()), ()), ())))

noncomputable def impl_ValidFrac (n : Nat) (a0 : (Int) × (Int)) : Option ((((Bool) × (Unit)) × (Unit)) × (Unit)) := impl_ValidFrac_t n a0

noncomputable def impl_num_t (n : Nat) (a0 : Int) : Option (((((Int) × (Int)) × (Unit)) × (Unit)) × (Unit)) :=
  some (((((a0, 1), ()), ()), ()))

noncomputable def impl_num (n : Nat) (a0 : Int) : Option (((((Int) × (Int)) × (Unit)) × (Unit)) × (Unit)) := impl_num_t n a0

noncomputable def impl_compare_t (n : Nat) (a0 : (Int) × (Int)) (a1 : (Int) × (Int)) : Option ((((Int) × (Unit)) × (Unit)) × (Unit)) :=
  cond (decide ((IntKind.wrap .i64 (a0.1 * a1.2)) < (IntKind.wrap .i64 (a1.1 * a0.2))))
  (some (((((-1), ()), ()), ())))
  (cond (decide ((IntKind.wrap .i64 (a0.1 * a1.2)) > (IntKind.wrap .i64 (a1.1 * a0.2))))
    (some ((((1, ()), ()), ())))
    (some ((((0, ()), ()), ()))))

noncomputable def impl_compare (n : Nat) (a0 : (Int) × (Int)) (a1 : (Int) × (Int)) : Option ((((Int) × (Unit)) × (Unit)) × (Unit)) := impl_compare_t n a0 a1

noncomputable def impl_isUnit_t (n : Nat) (a0 : (Int) × (Int)) : Option ((((Bool) × (Unit)) × (Unit)) × (Unit)) :=
  cond (decide (a0.1 > 0))
  ((impl_num n 1000).bind fun r0 =>
    (impl_compare n ((a0.1, a0.2)) ((r0.1.1.1.1, r0.1.1.1.2))).bind fun r1 =>
    some ((((decide (r1.1.1.1 ≤ 0), ()), ()), ())))
  (some ((((false, ()), ()), ())))

noncomputable def impl_isUnit (n : Nat) (a0 : (Int) × (Int)) : Option ((((Bool) × (Unit)) × (Unit)) × (Unit)) := impl_isUnit_t n a0

noncomputable def impl_areValid_1_t (n : Nat) (a0 : (Int) × (Int)) : Option ((((Bool) × (Unit)) × (Unit)) × (Unit)) :=
  (impl_ValidFrac n ((a0.1, a0.2))).bind fun r0 =>
  some (((((!r0.1.1.1), ()), ()), ()))

noncomputable def impl_areValid_1 (n : Nat) (a0 : (Int) × (Int)) : Option ((((Bool) × (Unit)) × (Unit)) × (Unit)) := impl_areValid_1_t n a0

noncomputable def slices_IndexFunc_impl_Frac_impl_Frac_at_impl_areValid_1_t2 (n : Nat) (g2 : Int → (List ((Int) × (Int))) → Int → Option ((((Int) × (Unit)) × (Unit)) × (Unit))) (v8 : Int) (v0 : List ((Int) × (Int))) (v7 : Int) : Option ((((Int) × (Unit)) × (Unit)) × (Unit)) :=
  cond (decide (v8 < v7))
  (cond ((decide (0 ≤ v8) && decide (v8 < ((v0.length : Nat) : Int))))
    ((impl_areValid_1 n (((v0.getD (Int.toNat v8) (0, 0)).1, (v0.getD (Int.toNat v8) (0, 0)).2))).bind fun r0 =>
      cond r0.1.1.1
      (some ((((v8, ()), ()), ())))
      (g2 ((IntKind.wrap .i64 (v8 + 1))) v0 v7))
    (none))
  (some (((((-1), ()), ()), ())))

noncomputable def slices_IndexFunc_impl_Frac_impl_Frac_at_impl_areValid_1_l2 (n : Nat) : Nat → Int → (List ((Int) × (Int))) → Int → Option ((((Int) × (Unit)) × (Unit)) × (Unit))
  | 0, _, _, _ => none
  | k + 1, v8, v0, v7 => slices_IndexFunc_impl_Frac_impl_Frac_at_impl_areValid_1_t2 n (slices_IndexFunc_impl_Frac_impl_Frac_at_impl_areValid_1_l2 n k) v8 v0 v7

noncomputable def slices_IndexFunc_impl_Frac_impl_Frac_at_impl_areValid_1_t (n : Nat) (h2 : Nat → Int → (List ((Int) × (Int))) → Int → Option ((((Int) × (Unit)) × (Unit)) × (Unit))) (a0 : List ((Int) × (Int))) : Option ((((Int) × (Unit)) × (Unit)) × (Unit)) :=
  h2 n 0 a0 (((a0.length : Nat) : Int))

noncomputable def slices_IndexFunc_impl_Frac_impl_Frac_at_impl_areValid_1 (n : Nat) (a0 : List ((Int) × (Int))) : Option ((((Int) × (Unit)) × (Unit)) × (Unit)) := slices_IndexFunc_impl_Frac_impl_Frac_at_impl_areValid_1_t n (slices_IndexFunc_impl_Frac_impl_Frac_at_impl_areValid_1_l2 n) a0

noncomputable def slices_ContainsFunc_impl_Frac_impl_Frac_at_impl_areValid_1_t (n : Nat) (a0 : List ((Int) × (Int))) : Option ((((Bool) × (Unit)) × (Unit)) × (Unit)) :=
  (slices_IndexFunc_impl_Frac_impl_Frac_at_impl_areValid_1 n a0).bind fun r0 =>
  some ((((decide (r0.1.1.1 ≥ 0), ()), ()), ()))

noncomputable def slices_ContainsFunc_impl_Frac_impl_Frac_at_impl_areValid_1 (n : Nat) (a0 : List ((Int) × (Int))) : Option ((((Bool) × (Unit)) × (Unit)) × (Unit)) := slices_ContainsFunc_impl_Frac_impl_Frac_at_impl_areValid_1_t n a0

noncomputable def impl_areValid_t (n : Nat) (a0 : List ((Int) × (Int))) : Option ((((Bool) × (Unit)) × (Unit)) × (Unit)) :=
  (slices_ContainsFunc_impl_Frac_impl_Frac_at_impl_areValid_1 n a0).bind fun r0 =>
  some (((((!r0.1.1.1), ()), ()), ()))

noncomputable def impl_areValid (n : Nat) (a0 : List ((Int) × (Int))) : Option ((((Bool) × (Unit)) × (Unit)) × (Unit)) := impl_areValid_t n a0

noncomputable def impl_size_t (n : Nat) (a0 : (Int) × (Int)) : Option (((((Int) × (Int)) × (Unit)) × (Unit)) × (Unit)) :=
  some ((((((if a0.1 < (IntKind.wrap .i64 (0 - a0.1)) then (IntKind.wrap .i64 (0 - a0.1)) else a0.1), a0.2), ()), ()), ()))

noncomputable def impl_size (n : Nat) (a0 : (Int) × (Int)) : Option (((((Int) × (Int)) × (Unit)) × (Unit)) × (Unit)) := impl_size_t n a0

noncomputable def impl_fracOf_t (n : Nat) (a0 : Int) (a1 : Int) : Option (((((Int) × (Int)) × (Unit)) × (((Bool) × (Unit)) × (Unit))) × (Unit)) :=
  cond (decide (a1 < 0))
  ((impl_gcd n ((IntKind.wrap .i64 (0 - a0))) ((IntKind.wrap .i64 (0 - a1)))).bind fun r0 =>
    cond ((r0.1.1.1 != 0))
    (cond ((r0.1.1.1 != 0))
      ((impl_ValidFrac n (((IntKind.wrap .i64 (Int.tdiv (IntKind.wrap .i64 (0 - a0)) r0.1.1.1)), (IntKind.wrap .i64 (Int.tdiv (IntKind.wrap .i64 (0 - a1)) r0.1.1.1))))).bind fun r1 =>
        cond (!r1.1.1.1)
        (some (((((0, 0), ()), ((false, ()), ())), ())))
        (some ((((((IntKind.wrap .i64 (Int.tdiv (IntKind.wrap .i64 (0 - a0)) r0.1.1.1)), (IntKind.wrap .i64 (Int.tdiv (IntKind.wrap .i64 (0 - a1)) r0.1.1.1))), ()), ((true, ()), ())), ()))))
      (none))
    (none))
  ((impl_gcd n a0 a1).bind fun r2 =>
    cond ((r2.1.1.1 != 0))
    (cond ((r2.1.1.1 != 0))
      ((impl_ValidFrac n (((IntKind.wrap .i64 (Int.tdiv a0 r2.1.1.1)), (IntKind.wrap .i64 (Int.tdiv a1 r2.1.1.1))))).bind fun r3 =>
        cond (!r3.1.1.1)
        (some (((((0, 0), ()), ((false, ()), ())), ())))
        (some ((((((IntKind.wrap .i64 (Int.tdiv a0 r2.1.1.1)), (IntKind.wrap .i64 (Int.tdiv a1 r2.1.1.1))), ()), ((true, ()), ())), ()))))
      (none))
    (none))

noncomputable def impl_fracOf (n : Nat) (a0 : Int) (a1 : Int) : Option (((((Int) × (Int)) × (Unit)) × (((Bool) × (Unit)) × (Unit))) × (Unit)) := impl_fracOf_t n a0 a1

noncomputable def impl_zero_t (n : Nat) : Option (((((Int) × (Int)) × (Unit)) × (Unit)) × (Unit)) :=
  some (((((0, 1), ()), ()), ()))

noncomputable def impl_zero (n : Nat) : Option (((((Int) × (Int)) × (Unit)) × (Unit)) × (Unit)) := impl_zero_t n

noncomputable def impl_calc_told_t (n : Nat) (a1 : Int) (a2 : Int) (b0 : Bool) : Option (((((Int) × (Int)) × (Unit)) × (Unit)) × ((Bool) × (Unit))) :=
  (impl_fracOf n a1 a2).bind fun r0 =>
  cond (!r0.1.2.1.1)
  ((impl_zero n).bind fun r1 =>
    some (((((r1.1.1.1.1, r1.1.1.1.2), ()), ()), (true, ()))))
  (some (((((r0.1.1.1.1, r0.1.1.1.2), ()), ()), (b0, ()))))

noncomputable def impl_calc_told (n : Nat) (a1 : Int) (a2 : Int) (b0 : Bool) : Option (((((Int) × (Int)) × (Unit)) × (Unit)) × ((Bool) × (Unit))) := impl_calc_told_t n a1 a2 b0

noncomputable def impl_calc_mul_t (n : Nat) (a1 : (Int) × (Int)) (a2 : (Int) × (Int)) (b0 : Bool) : Option (((((Int) × (Int)) × (Unit)) × (Unit)) × ((Bool) × (Unit))) :=
  (impl_calc_told n ((IntKind.wrap .i64 (a1.1 * a2.1))) ((IntKind.wrap .i64 (a1.2 * a2.2))) b0).bind fun r0 =>
  some (((((r0.1.1.1.1, r0.1.1.1.2), ()), ()), (r0.2.1, ())))

noncomputable def impl_calc_mul (n : Nat) (a1 : (Int) × (Int)) (a2 : (Int) × (Int)) (b0 : Bool) : Option (((((Int) × (Int)) × (Unit)) × (Unit)) × ((Bool) × (Unit))) := impl_calc_mul_t n a1 a2 b0

noncomputable def impl_calc_add_t (n : Nat) (a1 : (Int) × (Int)) (a2 : (Int) × (Int)) (b0 : Bool) : Option (((((Int) × (Int)) × (Unit)) × (Unit)) × ((Bool) × (Unit))) :=
  (impl_calc_told n ((IntKind.wrap .i64 ((IntKind.wrap .i64 (a1.1 * a2.2)) + (IntKind.wrap .i64 (a2.1 * a1.2))))) ((IntKind.wrap .i64 (a1.2 * a2.2))) b0).bind fun r0 =>
  some (((((r0.1.1.1.1, r0.1.1.1.2), ()), ()), (r0.2.1, ())))

noncomputable def impl_calc_add (n : Nat) (a1 : (Int) × (Int)) (a2 : (Int) × (Int)) (b0 : Bool) : Option (((((Int) × (Int)) × (Unit)) × (Unit)) × ((Bool) × (Unit))) := impl_calc_add_t n a1 a2 b0

noncomputable def impl_ValidScale_t5 (n : Nat) (g5 : Int → (List ((Int) × (Int))) → Int → Int → Int → (List ((Int) × (Int))) → Bool → Option ((((Bool) × (Unit)) × (Unit)) × (Unit))) (v34 : Int) (v32 : List ((Int) × (Int))) (v33 : Int) (b0_0 : Int) (b0_1 : Int) (b0_2 : List ((Int) × (Int))) (b1 : Bool) : Option ((((Bool) × (Unit)) × (Unit)) × (Unit)) :=
  cond (decide (v34 < v33))
  (cond ((decide (0 ≤ v34) && decide (v34 < ((v32.length : Nat) : Int))))
    ((impl_size n (((v32.getD (Int.toNat v34) (0, 0)).1, (v32.getD (Int.toNat v34) (0, 0)).2))).bind fun r4 =>
      cond (decide ((IntKind.wrap .i64 ((IntKind.wrap .i64 (4 * r4.1.1.1.1)) * b0_1)) > (IntKind.wrap .i64 (b0_0 * (v32.getD (Int.toNat v34) (0, 0)).2))))
      (some ((((false, ()), ()), ())))
      ((impl_num n v34).bind fun r5 =>
        (impl_calc_mul n ((r5.1.1.1.1, r5.1.1.1.2)) ((b0_0, b0_1)) b1).bind fun r6 =>
        (impl_calc_add n ((r6.1.1.1.1, r6.1.1.1.2)) (((v32.getD (Int.toNat v34) (0, 0)).1, (v32.getD (Int.toNat v34) (0, 0)).2)) r6.2.1).bind fun r7 =>
        g5 ((IntKind.wrap .i64 (v34 + 1))) v32 v33 b0_0 b0_1 b0_2 r7.2.1))
    (none))
  (some (((((!b1), ()), ()), ())))

noncomputable def impl_ValidScale_l5 (n : Nat) : Nat → Int → (List ((Int) × (Int))) → Int → Int → Int → (List ((Int) × (Int))) → Bool → Option ((((Bool) × (Unit)) × (Unit)) × (Unit))
  | 0, _, _, _, _, _, _, _ => none
  | k + 1, v34, v32, v33, b0_0, b0_1, b0_2, b1 => impl_ValidScale_t5 n (impl_ValidScale_l5 n k) v34 v32 v33 b0_0 b0_1 b0_2 b1

noncomputable def impl_ValidScale_t (n : Nat) (h5 : Nat → Int → (List ((Int) × (Int))) → Int → Int → Int → (List ((Int) × (Int))) → Bool → Option ((((Bool) × (Unit)) × (Unit)) × (Unit))) (a0 : ((Int) × (Int)) × (List ((Int) × (Int)))) : Option ((((Bool) × (Unit)) × (Unit)) × (Unit)) :=
  (impl_ValidFrac n ((a0.1.1, a0.1.2))).bind fun r0 =>
  cond (!r0.1.1.1)
  (some ((((false, ()), ()), ())))
  ((impl_isUnit n ((a0.1.1, a0.1.2))).bind fun r1 =>
    cond (!r1.1.1.1)
    (some ((((false, ()), ()), ())))
    ((impl_within n (((a0.2.length : Nat) : Int)) 2 60).bind fun r2 =>
      cond (!r2.1.1.1)
      (some ((((false, ()), ()), ())))
      ((impl_areValid n a0.2).bind fun r3 =>
        cond (!r3.1.1.1)
        (some ((((false, ()), ()), ())))
        (h5 n 0 a0.2 (((a0.2.length : Nat) : Int)) a0.1.1 a0.1.2 a0.2 false))))

noncomputable def impl_ValidScale (n : Nat) (a0 : ((Int) × (Int)) × (List ((Int) × (Int)))) : Option ((((Bool) × (Unit)) × (Unit)) × (Unit)) := impl_ValidScale_t n (impl_ValidScale_l5 n) a0

noncomputable def impl_ValidVernier_t (n : Nat) (a0 : (Int) × (Bool)) : Option ((((Bool) × (Unit)) × (Unit)) × (Unit)) :=
  (impl_within n a0.1 2 40).bind fun r0 =>
  some ((((r0.1.1.1, ()), ()), ()))

noncomputable def impl_ValidVernier (n : Nat) (a0 : (Int) × (Bool)) : Option ((((Bool) × (Unit)) × (Unit)) × (Unit)) := impl_ValidVernier_t n a0

noncomputable def impl_lineCode_t (n : Nat) (a0 : ((Int) × (Int)) × (List ((Int) × (Int)))) (a1 : (Int) × (Bool)) (a2 : (Int) × (Int)) (a3 : Int) : Option ((((Int) × (Unit)) × (Unit)) × (Unit)) :=
  (impl_ValidScale n (((a0.1.1, a0.1.2), a0.2))).bind fun r0 =>
  cond (!r0.1.1.1)
  (some ((((1, ()), ()), ())))
  ((impl_ValidVernier n ((a1.1, a1.2))).bind fun r1 =>
    cond (!r1.1.1.1)
    (some ((((1, ()), ()), ())))
    ((impl_ValidFrac n ((a2.1, a2.2))).bind fun r2 =>
      cond (!r2.1.1.1)
      (some ((((1, ()), ()), ())))
      ((impl_within n a3 0 ((IntKind.wrap .i64 (a1.1 - 1)))).bind fun r3 =>
        cond (!r3.1.1.1)
        (some ((((2, ()), ()), ())))
        (some ((((0, ()), ()), ()))))))

noncomputable def impl_lineCode (n : Nat) (a0 : ((Int) × (Int)) × (List ((Int) × (Int)))) (a1 : (Int) × (Bool)) (a2 : (Int) × (Int)) (a3 : Int) : Option ((((Int) × (Unit)) × (Unit)) × (Unit)) := impl_lineCode_t n a0 a1 a2 a3

noncomputable def impl_mark_t (n : Nat) (a0 : ((Int) × (Int)) × (List ((Int) × (Int)))) (a1 : Int) : Option (((((Int) × (Int)) × (Unit)) × (Unit)) × (Unit)) :=
  (impl_num n a1).bind fun r0 =>
  (impl_calc_mul n ((r0.1.1.1.1, r0.1.1.1.2)) ((a0.1.1, a0.1.2)) false).bind fun r1 =>
  cond ((decide (0 ≤ a1) && decide (a1 < ((a0.2.length : Nat) : Int))))
  ((impl_calc_add n ((r1.1.1.1.1, r1.1.1.1.2)) (((a0.2.getD (Int.toNat a1) (0, 0)).1, (a0.2.getD (Int.toNat a1) (0, 0)).2)) r1.2.1).bind fun r2 =>
    some (((((r2.1.1.1.1, r2.1.1.1.2), ()), ()), ())))
  (none)

noncomputable def impl_mark (n : Nat) (a0 : ((Int) × (Int)) × (List ((Int) × (Int)))) (a1 : Int) : Option (((((Int) × (Int)) × (Unit)) × (Unit)) × (Unit)) := impl_mark_t n a0 a1

noncomputable def impl_calc_div_t (n : Nat) (a1 : (Int) × (Int)) (a2 : (Int) × (Int)) (b0 : Bool) : Option (((((Int) × (Int)) × (Unit)) × (Unit)) × ((Bool) × (Unit))) :=
  cond ((a2.1 == 0))
  ((impl_zero n).bind fun r0 =>
    some (((((r0.1.1.1.1, r0.1.1.1.2), ()), ()), (true, ()))))
  ((impl_calc_told n ((IntKind.wrap .i64 (a1.1 * a2.2))) ((IntKind.wrap .i64 (a1.2 * a2.1))) b0).bind fun r1 =>
    some (((((r1.1.1.1.1, r1.1.1.1.2), ()), ()), (r1.2.1, ()))))

noncomputable def impl_calc_div (n : Nat) (a1 : (Int) × (Int)) (a2 : (Int) × (Int)) (b0 : Bool) : Option (((((Int) × (Int)) × (Unit)) × (Unit)) × ((Bool) × (Unit))) := impl_calc_div_t n a1 a2 b0

noncomputable def impl_calc_line_t (n : Nat) (a1 : ((Int) × (Int)) × (List ((Int) × (Int)))) (a2 : (Int) × (Bool)) (a3 : (Int) × (Int)) (a4 : Int) (b0 : Bool) : Option (((((Int) × (Int)) × (Unit)) × (Unit)) × ((Bool) × (Unit))) :=
  cond a2.2
  ((impl_num n ((IntKind.wrap .i64 (a4 * (IntKind.wrap .i64 (a2.1 + 1)))))).bind fun r0 =>
    (impl_calc_mul n ((r0.1.1.1.1, r0.1.1.1.2)) ((a1.1.1, a1.1.2)) b0).bind fun r1 =>
    (impl_num n a2.1).bind fun r2 =>
    (impl_calc_div n ((r1.1.1.1.1, r1.1.1.1.2)) ((r2.1.1.1.1, r2.1.1.1.2)) r1.2.1).bind fun r3 =>
    (impl_calc_add n ((a3.1, a3.2)) ((r3.1.1.1.1, r3.1.1.1.2)) r3.2.1).bind fun r4 =>
    some (((((r4.1.1.1.1, r4.1.1.1.2), ()), ()), (r4.2.1, ()))))
  ((impl_num n ((IntKind.wrap .i64 (a4 * (IntKind.wrap .i64 (a2.1 - 1)))))).bind fun r5 =>
    (impl_calc_mul n ((r5.1.1.1.1, r5.1.1.1.2)) ((a1.1.1, a1.1.2)) b0).bind fun r6 =>
    (impl_num n a2.1).bind fun r7 =>
    (impl_calc_div n ((r6.1.1.1.1, r6.1.1.1.2)) ((r7.1.1.1.1, r7.1.1.1.2)) r6.2.1).bind fun r8 =>
    (impl_calc_add n ((a3.1, a3.2)) ((r8.1.1.1.1, r8.1.1.1.2)) r8.2.1).bind fun r9 =>
    some (((((r9.1.1.1.1, r9.1.1.1.2), ()), ()), (r9.2.1, ()))))

noncomputable def impl_calc_line (n : Nat) (a1 : ((Int) × (Int)) × (List ((Int) × (Int)))) (a2 : (Int) × (Bool)) (a3 : (Int) × (Int)) (a4 : Int) (b0 : Bool) : Option (((((Int) × (Int)) × (Unit)) × (Unit)) × ((Bool) × (Unit))) := impl_calc_line_t n a1 a2 a3 a4 b0

noncomputable def impl_calc_sub_t (n : Nat) (a1 : (Int) × (Int)) (a2 : (Int) × (Int)) (b0 : Bool) : Option (((((Int) × (Int)) × (Unit)) × (Unit)) × ((Bool) × (Unit))) :=
  (impl_calc_told n ((IntKind.wrap .i64 ((IntKind.wrap .i64 (a1.1 * a2.2)) - (IntKind.wrap .i64 (a2.1 * a1.2))))) ((IntKind.wrap .i64 (a1.2 * a2.2))) b0).bind fun r0 =>
  some (((((r0.1.1.1.1, r0.1.1.1.2), ()), ()), (r0.2.1, ())))

noncomputable def impl_calc_sub (n : Nat) (a1 : (Int) × (Int)) (a2 : (Int) × (Int)) (b0 : Bool) : Option (((((Int) × (Int)) × (Unit)) × (Unit)) × ((Bool) × (Unit))) := impl_calc_sub_t n a1 a2 b0

noncomputable def impl_calc_near_t3 (n : Nat) (g3 : Int → Int → Int → Bool → Int → Int → Int → Int → (List ((Int) × (Int))) → Int → Int → Int → Int → Option ((((Int) × (Unit)) × ((((Int) × (Int)) × (Unit)) × (Unit))) × ((Bool) × (Unit)))) (v16 : Int) (v8 : Int) (v15 : Int) (b0 : Bool) (b1_0 : Int) (b1_1 : Int) (b2_0 : Int) (b2_1 : Int) (b2_2 : List ((Int) × (Int))) (b3_0 : Int) (b3_1 : Int) (b4_0 : Int) (b4_1 : Int) : Option ((((Int) × (Unit)) × ((((Int) × (Int)) × (Unit)) × (Unit))) × ((Bool) × (Unit))) :=
  cond (decide (v16 < v15))
  ((impl_mark n (((b2_0, b2_1), b2_2)) v16).bind fun r1 =>
    (impl_calc_sub n ((b3_0, b3_1)) ((r1.1.1.1.1, r1.1.1.1.2)) b0).bind fun r2 =>
    (impl_size n ((r2.1.1.1.1, r2.1.1.1.2))).bind fun r3 =>
    cond (decide (v8 < 0))
    (g3 ((IntKind.wrap .i64 (v16 + 1))) v16 v15 r2.2.1 r3.1.1.1.1 r3.1.1.1.2 b2_0 b2_1 b2_2 b3_0 b3_1 b4_0 b4_1)
    ((impl_compare n ((r3.1.1.1.1, r3.1.1.1.2)) ((b1_0, b1_1))).bind fun r4 =>
      cond (decide (r4.1.1.1 < 0))
      (g3 ((IntKind.wrap .i64 (v16 + 1))) v16 v15 r2.2.1 r3.1.1.1.1 r3.1.1.1.2 b2_0 b2_1 b2_2 b3_0 b3_1 b4_0 b4_1)
      (g3 ((IntKind.wrap .i64 (v16 + 1))) v8 v15 r2.2.1 b1_0 b1_1 b2_0 b2_1 b2_2 b3_0 b3_1 b4_0 b4_1)))
  (some ((((v8, ()), (((b1_0, b1_1), ()), ())), (b0, ()))))

noncomputable def impl_calc_near_l3 (n : Nat) : Nat → Int → Int → Int → Bool → Int → Int → Int → Int → (List ((Int) × (Int))) → Int → Int → Int → Int → Option ((((Int) × (Unit)) × ((((Int) × (Int)) × (Unit)) × (Unit))) × ((Bool) × (Unit)))
  | 0, _, _, _, _, _, _, _, _, _, _, _, _, _ => none
  | k + 1, v16, v8, v15, b0, b1_0, b1_1, b2_0, b2_1, b2_2, b3_0, b3_1, b4_0, b4_1 => impl_calc_near_t3 n (impl_calc_near_l3 n k) v16 v8 v15 b0 b1_0 b1_1 b2_0 b2_1 b2_2 b3_0 b3_1 b4_0 b4_1

noncomputable def impl_calc_near_t (n : Nat) (h3 : Nat → Int → Int → Int → Bool → Int → Int → Int → Int → (List ((Int) × (Int))) → Int → Int → Int → Int → Option ((((Int) × (Unit)) × ((((Int) × (Int)) × (Unit)) × (Unit))) × ((Bool) × (Unit)))) (a1 : ((Int) × (Int)) × (List ((Int) × (Int)))) (a2 : (Int) × (Int)) (b0 : Bool) : Option ((((Int) × (Unit)) × ((((Int) × (Int)) × (Unit)) × (Unit))) × ((Bool) × (Unit))) :=
  (impl_zero n).bind fun r0 =>
  h3 n 0 (-1) (((a1.2.length : Nat) : Int)) b0 r0.1.1.1.1 r0.1.1.1.2 a1.1.1 a1.1.2 a1.2 a2.1 a2.2 0 0

noncomputable def impl_calc_near (n : Nat) (a1 : ((Int) × (Int)) × (List ((Int) × (Int)))) (a2 : (Int) × (Int)) (b0 : Bool) : Option ((((Int) × (Unit)) × ((((Int) × (Int)) × (Unit)) × (Unit))) × ((Bool) × (Unit))) := impl_calc_near_t n (impl_calc_near_l3 n) a1 a2 b0

noncomputable def impl_LineThatFits_t14 (n : Nat) (g14 : Int → Int → Int → Int → Int → Int → Int → Int → Bool → Int → Int → (List ((Int) × (Int))) → Bool → Option ((((Int) × (Unit)) × (((Int) × (Unit)) × (Unit))) × (Unit))) (v54 : Int) (v11 : Int) (v53 : Int) (b0_0 : Int) (b0_1 : Int) (b1_0 : Int) (b1_1 : Int) (b2_0 : Int) (b2_1 : Bool) (b3_0 : Int) (b3_1 : Int) (b3_2 : List ((Int) × (Int))) (b4 : Bool) : Option ((((Int) × (Unit)) × (((Int) × (Unit)) × (Unit))) × (Unit)) :=
  cond (decide (v54 < v53))
  ((impl_calc_line n (((b3_0, b3_1), b3_2)) ((b2_0, b2_1)) ((b1_0, b1_1)) v54 b4).bind fun r7 =>
    (impl_calc_near n (((b3_0, b3_1), b3_2)) ((r7.1.1.1.1, r7.1.1.1.2)) r7.2.1).bind fun r8 =>
    cond (decide (v11 < 0))
    (g14 ((IntKind.wrap .i64 (v54 + 1))) v54 v53 r8.1.2.1.1.1 r8.1.2.1.1.2 b1_0 b1_1 b2_0 b2_1 b3_0 b3_1 b3_2 r8.2.1)
    ((impl_compare n ((r8.1.2.1.1.1, r8.1.2.1.1.2)) ((b0_0, b0_1))).bind fun r9 =>
      cond (decide (r9.1.1.1 < 0))
      (g14 ((IntKind.wrap .i64 (v54 + 1))) v54 v53 r8.1.2.1.1.1 r8.1.2.1.1.2 b1_0 b1_1 b2_0 b2_1 b3_0 b3_1 b3_2 r8.2.1)
      (g14 ((IntKind.wrap .i64 (v54 + 1))) v11 v53 b0_0 b0_1 b1_0 b1_1 b2_0 b2_1 b3_0 b3_1 b3_2 r8.2.1)))
  (cond b4
    (some ((((0, ()), ((3, ()), ())), ())))
    (some ((((v11, ()), ((0, ()), ())), ()))))

noncomputable def impl_LineThatFits_l14 (n : Nat) : Nat → Int → Int → Int → Int → Int → Int → Int → Int → Bool → Int → Int → (List ((Int) × (Int))) → Bool → Option ((((Int) × (Unit)) × (((Int) × (Unit)) × (Unit))) × (Unit))
  | 0, _, _, _, _, _, _, _, _, _, _, _, _, _ => none
  | k + 1, v54, v11, v53, b0_0, b0_1, b1_0, b1_1, b2_0, b2_1, b3_0, b3_1, b3_2, b4 => impl_LineThatFits_t14 n (impl_LineThatFits_l14 n k) v54 v11 v53 b0_0 b0_1 b1_0 b1_1 b2_0 b2_1 b3_0 b3_1 b3_2 b4

noncomputable def impl_LineThatFits_t (n : Nat) (h14 : Nat → Int → Int → Int → Int → Int → Int → Int → Int → Bool → Int → Int → (List ((Int) × (Int))) → Bool → Option ((((Int) × (Unit)) × (((Int) × (Unit)) × (Unit))) × (Unit))) (a0 : ((Int) × (Int)) × (List ((Int) × (Int)))) (a1 : (Int) × (Bool)) (a2 : (Int) × (Int)) : Option ((((Int) × (Unit)) × (((Int) × (Unit)) × (Unit))) × (Unit)) :=
  (impl_lineCode n (((a0.1.1, a0.1.2), a0.2)) ((a1.1, a1.2)) ((a2.1, a2.2)) 0).bind fun r0 =>
  cond ((r0.1.1.1 != 0))
  (some ((((0, ()), ((r0.1.1.1, ()), ())), ())))
  ((impl_mark n (((a0.1.1, a0.1.2), a0.2)) 0).bind fun r1 =>
    (impl_compare n ((a2.1, a2.2)) ((r1.1.1.1.1, r1.1.1.1.2))).bind fun r2 =>
    cond (decide (r2.1.1.1 < 0))
    (some ((((0, ()), ((2, ()), ())), ())))
    ((impl_calc_line n (((a0.1.1, a0.1.2), a0.2)) ((a1.1, a1.2)) ((a2.1, a2.2)) ((IntKind.wrap .i64 (a1.1 - 1))) false).bind fun r3 =>
      cond r3.2.1
      (some ((((0, ()), ((3, ()), ())), ())))
      ((impl_mark n (((a0.1.1, a0.1.2), a0.2)) ((IntKind.wrap .i64 (((a0.2.length : Nat) : Int) - 1)))).bind fun r4 =>
        (impl_compare n ((r3.1.1.1.1, r3.1.1.1.2)) ((r4.1.1.1.1, r4.1.1.1.2))).bind fun r5 =>
        cond (decide (r5.1.1.1 > 0))
        (some ((((0, ()), ((2, ()), ())), ())))
        ((impl_zero n).bind fun r6 =>
          h14 n 0 (-1) a1.1 r6.1.1.1.1 r6.1.1.1.2 a2.1 a2.2 a1.1 a1.2 a0.1.1 a0.1.2 a0.2 r3.2.1))))

noncomputable def impl_LineThatFits (n : Nat) (a0 : ((Int) × (Int)) × (List ((Int) × (Int)))) (a1 : (Int) × (Bool)) (a2 : (Int) × (Int)) : Option ((((Int) × (Unit)) × (((Int) × (Unit)) × (Unit))) × (Unit)) := impl_LineThatFits_t n (impl_LineThatFits_l14 n) a0 a1 a2

noncomputable def spec_l01Cmp_t (n : Nat) (a0 : (Int) × (Int)) (a1 : (Int) × (Int)) : Option ((((Int) × (Unit)) × (Unit)) × (Unit)) :=
  cond (decide ((IntKind.wrap .i64 (a0.1 * a1.2)) < (IntKind.wrap .i64 (a1.1 * a0.2))))
  (some (((((-1), ()), ()), ())))
  (cond (decide ((IntKind.wrap .i64 (a0.1 * a1.2)) > (IntKind.wrap .i64 (a1.1 * a0.2))))
    (some ((((1, ()), ()), ())))
    (some ((((0, ()), ()), ()))))

noncomputable def spec_l01Cmp (n : Nat) (a0 : (Int) × (Int)) (a1 : (Int) × (Int)) : Option ((((Int) × (Unit)) × (Unit)) × (Unit)) := spec_l01Cmp_t n a0 a1

noncomputable def spec_l02Within_t (n : Nat) (a0 : (Int) × (Int)) (a1 : Int) : Option ((((Bool) × (Unit)) × (Unit)) × (Unit)) :=
  (spec_l01Ok n ((a0.1, a0.2))).bind fun r0 =>
  cond r0.1.1.1
  (cond (decide (a0.1 > 0))
    ((spec_l01Whole n a1).bind fun r1 =>
      (spec_l01Cmp n ((a0.1, a0.2)) ((r1.1.1.1.1, r1.1.1.1.2))).bind fun r2 =>
      some ((((decide (r2.1.1.1 ≤ 0), ()), ()), ())))
    (some ((((false, ()), ()), ()))))
  (some ((((false, ()), ()), ())))

noncomputable def spec_l02Within (n : Nat) (a0 : (Int) × (Int)) (a1 : Int) : Option ((((Bool) × (Unit)) × (Unit)) × (Unit)) := spec_l02Within_t n a0 a1

noncomputable def spec_l01Mul_t (n : Nat) (a0 : (Int) × (Int)) (a1 : (Int) × (Int)) : Option (((((Int) × (Int)) × (Unit)) × (((Int) × (Unit)) × (Unit))) × (Unit)) :=
  (spec_l01Reduced n ((IntKind.wrap .i64 (a0.1 * a1.1))) ((IntKind.wrap .i64 (a0.2 * a1.2)))).bind fun r0 =>
  some (((((r0.1.1.1.1, r0.1.1.1.2), ()), ((r0.1.2.1.1, ()), ())), ()))

noncomputable def spec_l01Mul (n : Nat) (a0 : (Int) × (Int)) (a1 : (Int) × (Int)) : Option (((((Int) × (Int)) × (Unit)) × (((Int) × (Unit)) × (Unit))) × (Unit)) := spec_l01Mul_t n a0 a1

noncomputable def spec_l01Add_t (n : Nat) (a0 : (Int) × (Int)) (a1 : (Int) × (Int)) : Option (((((Int) × (Int)) × (Unit)) × (((Int) × (Unit)) × (Unit))) × (Unit)) :=
  (spec_l01Reduced n ((IntKind.wrap .i64 ((IntKind.wrap .i64 (a0.1 * a1.2)) + (IntKind.wrap .i64 (a1.1 * a0.2))))) ((IntKind.wrap .i64 (a0.2 * a1.2)))).bind fun r0 =>
  some (((((r0.1.1.1.1, r0.1.1.1.2), ()), ((r0.1.2.1.1, ()), ())), ()))

noncomputable def spec_l01Add (n : Nat) (a0 : (Int) × (Int)) (a1 : (Int) × (Int)) : Option (((((Int) × (Int)) × (Unit)) × (((Int) × (Unit)) × (Unit))) × (Unit)) := spec_l01Add_t n a0 a1

noncomputable def spec_l02Mark_t (n : Nat) (a1 : Int) (b0 : ((Int) × (Int)) × (List ((Int) × (Int)))) : Option (((((Int) × (Int)) × (Unit)) × (((Int) × (Unit)) × (Unit))) × ((((Int) × (Int)) × (List ((Int) × (Int)))) × (Unit))) :=
  (spec_l01Whole n a1).bind fun r0 =>
  (spec_l01Mul n ((r0.1.1.1.1, r0.1.1.1.2)) ((b0.1.1, b0.1.2))).bind fun r1 =>
  cond ((r1.1.2.1.1 != 0))
  (some (((((0, 0), ()), ((r1.1.2.1.1, ()), ())), (((b0.1.1, b0.1.2), b0.2), ()))))
  (cond ((decide (0 ≤ a1) && decide (a1 < ((b0.2.length : Nat) : Int))))
    ((spec_l01Add n ((r1.1.1.1.1, r1.1.1.1.2)) (((b0.2.getD (Int.toNat a1) (0, 0)).1, (b0.2.getD (Int.toNat a1) (0, 0)).2))).bind fun r2 =>
      some (((((r2.1.1.1.1, r2.1.1.1.2), ()), ((r2.1.2.1.1, ()), ())), (((b0.1.1, b0.1.2), b0.2), ()))))
    (none))

noncomputable def spec_l02Mark (n : Nat) (a1 : Int) (b0 : ((Int) × (Int)) × (List ((Int) × (Int)))) : Option (((((Int) × (Int)) × (Unit)) × (((Int) × (Unit)) × (Unit))) × ((((Int) × (Int)) × (List ((Int) × (Int)))) × (Unit))) := spec_l02Mark_t n a1 b0

noncomputable def spec_l02Ok_t4 (n : Nat) (g4 : Int → Int → Int → (List ((Int) × (Int))) → Option ((((Bool) × (Unit)) × (Unit)) × ((((Int) × (Int)) × (List ((Int) × (Int)))) × (Unit)))) (v3 : Int) (b0_0 : Int) (b0_1 : Int) (b0_2 : List ((Int) × (Int))) : Option ((((Bool) × (Unit)) × (Unit)) × ((((Int) × (Int)) × (List ((Int) × (Int)))) × (Unit))) :=
  cond (decide (v3 < ((b0_2.length : Nat) : Int)))
  (cond ((decide (0 ≤ v3) && decide (v3 < ((b0_2.length : Nat) : Int))))
    ((spec_l01Ok n (((b0_2.getD (Int.toNat v3) (0, 0)).1, (b0_2.getD (Int.toNat v3) (0, 0)).2))).bind fun r2 =>
      cond (!r2.1.1.1)
      (some ((((false, ()), ()), (((b0_0, b0_1), b0_2), ()))))
      ((spec_l01Abs n ((b0_2.getD (Int.toNat v3) (0, 0)).1)).bind fun r3 =>
        cond (decide ((IntKind.wrap .i64 ((IntKind.wrap .i64 (4 * r3.1.1.1)) * b0_1)) > (IntKind.wrap .i64 (b0_0 * (b0_2.getD (Int.toNat v3) (0, 0)).2))))
        (some ((((false, ()), ()), (((b0_0, b0_1), b0_2), ()))))
        ((spec_l02Mark n v3 (((b0_0, b0_1), b0_2))).bind fun r4 =>
          cond ((r4.1.2.1.1 != 0))
          (some ((((false, ()), ()), (((r4.2.1.1.1, r4.2.1.1.2), r4.2.1.2), ()))))
          (g4 ((IntKind.wrap .i64 (v3 + 1))) r4.2.1.1.1 r4.2.1.1.2 r4.2.1.2))))
    (none))
  (some ((((true, ()), ()), (((b0_0, b0_1), b0_2), ()))))

noncomputable def spec_l02Ok_l4 (n : Nat) : Nat → Int → Int → Int → (List ((Int) × (Int))) → Option ((((Bool) × (Unit)) × (Unit)) × ((((Int) × (Int)) × (List ((Int) × (Int)))) × (Unit)))
  | 0, _, _, _, _ => none
  | k + 1, v3, b0_0, b0_1, b0_2 => spec_l02Ok_t4 n (spec_l02Ok_l4 n k) v3 b0_0 b0_1 b0_2

noncomputable def spec_l02Ok_t (n : Nat) (h4 : Nat → Int → Int → Int → (List ((Int) × (Int))) → Option ((((Bool) × (Unit)) × (Unit)) × ((((Int) × (Int)) × (List ((Int) × (Int)))) × (Unit)))) (b0 : ((Int) × (Int)) × (List ((Int) × (Int)))) : Option ((((Bool) × (Unit)) × (Unit)) × ((((Int) × (Int)) × (List ((Int) × (Int)))) × (Unit))) :=
  (spec_l02Within n ((b0.1.1, b0.1.2)) 1000).bind fun r0 =>
  cond (!r0.1.1.1)
  (some ((((false, ()), ()), (((b0.1.1, b0.1.2), b0.2), ()))))
  ((spec_l00In n (((b0.2.length : Nat) : Int)) 2 60).bind fun r1 =>
    cond (!r1.1.1.1)
    (some ((((false, ()), ()), (((b0.1.1, b0.1.2), b0.2), ()))))
    (h4 n 0 b0.1.1 b0.1.2 b0.2))

noncomputable def spec_l02Ok (n : Nat) (b0 : ((Int) × (Int)) × (List ((Int) × (Int)))) : Option ((((Bool) × (Unit)) × (Unit)) × ((((Int) × (Int)) × (List ((Int) × (Int)))) × (Unit))) := spec_l02Ok_t n (spec_l02Ok_l4 n) b0

noncomputable def spec_l02Vernier_t (n : Nat) (b0 : (Int) × (Bool)) : Option ((((Bool) × (Unit)) × (Unit)) × (((Int) × (Bool)) × (Unit))) :=
  (spec_l00In n b0.1 2 40).bind fun r0 =>
  some ((((r0.1.1.1, ()), ()), ((b0.1, b0.2), ())))

noncomputable def spec_l02Vernier (n : Nat) (b0 : (Int) × (Bool)) : Option ((((Bool) × (Unit)) × (Unit)) × (((Int) × (Bool)) × (Unit))) := spec_l02Vernier_t n b0

noncomputable def spec_l02Asked_t (n : Nat) (a2 : (Int) × (Int)) (b0 : ((Int) × (Int)) × (List ((Int) × (Int)))) (b1 : (Int) × (Bool)) : Option ((((Int) × (Unit)) × (Unit)) × ((((Int) × (Int)) × (List ((Int) × (Int)))) × (((Int) × (Bool)) × (Unit)))) :=
  (spec_l02Ok n (((b0.1.1, b0.1.2), b0.2))).bind fun r0 =>
  cond (!r0.1.1.1)
  (some ((((1, ()), ()), (((r0.2.1.1.1, r0.2.1.1.2), r0.2.1.2), ((b1.1, b1.2), ())))))
  ((spec_l02Vernier n ((b1.1, b1.2))).bind fun r1 =>
    cond (!r1.1.1.1)
    (some ((((1, ()), ()), (((r0.2.1.1.1, r0.2.1.1.2), r0.2.1.2), ((r1.2.1.1, r1.2.1.2), ())))))
    ((spec_l01Ok n ((a2.1, a2.2))).bind fun r2 =>
      cond (!r2.1.1.1)
      (some ((((1, ()), ()), (((r0.2.1.1.1, r0.2.1.1.2), r0.2.1.2), ((r1.2.1.1, r1.2.1.2), ())))))
      (some ((((0, ()), ()), (((r0.2.1.1.1, r0.2.1.1.2), r0.2.1.2), ((r1.2.1.1, r1.2.1.2), ())))))))

noncomputable def spec_l02Asked (n : Nat) (a2 : (Int) × (Int)) (b0 : ((Int) × (Int)) × (List ((Int) × (Int)))) (b1 : (Int) × (Bool)) : Option ((((Int) × (Unit)) × (Unit)) × ((((Int) × (Int)) × (List ((Int) × (Int)))) × (((Int) × (Bool)) × (Unit)))) := spec_l02Asked_t n a2 b0 b1

noncomputable def spec_l01Div_t (n : Nat) (a0 : (Int) × (Int)) (a1 : (Int) × (Int)) : Option (((((Int) × (Int)) × (Unit)) × (((Int) × (Unit)) × (Unit))) × (Unit)) :=
  (spec_l01Reduced n ((IntKind.wrap .i64 (a0.1 * a1.2))) ((IntKind.wrap .i64 (a0.2 * a1.1)))).bind fun r0 =>
  some (((((r0.1.1.1.1, r0.1.1.1.2), ()), ((r0.1.2.1.1, ()), ())), ()))

noncomputable def spec_l01Div (n : Nat) (a0 : (Int) × (Int)) (a1 : (Int) × (Int)) : Option (((((Int) × (Int)) × (Unit)) × (((Int) × (Unit)) × (Unit))) × (Unit)) := spec_l01Div_t n a0 a1

noncomputable def spec_l02Line_t (n : Nat) (a2 : (Int) × (Int)) (a3 : Int) (b0 : ((Int) × (Int)) × (List ((Int) × (Int)))) (b1 : (Int) × (Bool)) : Option (((((Int) × (Int)) × (Unit)) × (((Int) × (Unit)) × (Unit))) × ((((Int) × (Int)) × (List ((Int) × (Int)))) × (((Int) × (Bool)) × (Unit)))) :=
  cond b1.2
  ((spec_l01Whole n ((IntKind.wrap .i64 (a3 * (IntKind.wrap .i64 (b1.1 + 1)))))).bind fun r0 =>
    (spec_l01Mul n ((r0.1.1.1.1, r0.1.1.1.2)) ((b0.1.1, b0.1.2))).bind fun r1 =>
    cond ((r1.1.2.1.1 != 0))
    (some (((((0, 0), ()), ((r1.1.2.1.1, ()), ())), (((b0.1.1, b0.1.2), b0.2), ((b1.1, b1.2), ())))))
    ((spec_l01Whole n b1.1).bind fun r2 =>
      (spec_l01Div n ((r1.1.1.1.1, r1.1.1.1.2)) ((r2.1.1.1.1, r2.1.1.1.2))).bind fun r3 =>
      cond ((r3.1.2.1.1 != 0))
      (some (((((0, 0), ()), ((r3.1.2.1.1, ()), ())), (((b0.1.1, b0.1.2), b0.2), ((b1.1, b1.2), ())))))
      ((spec_l01Add n ((a2.1, a2.2)) ((r3.1.1.1.1, r3.1.1.1.2))).bind fun r4 =>
        some (((((r4.1.1.1.1, r4.1.1.1.2), ()), ((r4.1.2.1.1, ()), ())), (((b0.1.1, b0.1.2), b0.2), ((b1.1, b1.2), ())))))))
  ((spec_l01Whole n ((IntKind.wrap .i64 (a3 * (IntKind.wrap .i64 (b1.1 - 1)))))).bind fun r5 =>
    (spec_l01Mul n ((r5.1.1.1.1, r5.1.1.1.2)) ((b0.1.1, b0.1.2))).bind fun r6 =>
    cond ((r6.1.2.1.1 != 0))
    (some (((((0, 0), ()), ((r6.1.2.1.1, ()), ())), (((b0.1.1, b0.1.2), b0.2), ((b1.1, b1.2), ())))))
    ((spec_l01Whole n b1.1).bind fun r7 =>
      (spec_l01Div n ((r6.1.1.1.1, r6.1.1.1.2)) ((r7.1.1.1.1, r7.1.1.1.2))).bind fun r8 =>
      cond ((r8.1.2.1.1 != 0))
      (some (((((0, 0), ()), ((r8.1.2.1.1, ()), ())), (((b0.1.1, b0.1.2), b0.2), ((b1.1, b1.2), ())))))
      ((spec_l01Add n ((a2.1, a2.2)) ((r8.1.1.1.1, r8.1.1.1.2))).bind fun r9 =>
        some (((((r9.1.1.1.1, r9.1.1.1.2), ()), ((r9.1.2.1.1, ()), ())), (((b0.1.1, b0.1.2), b0.2), ((b1.1, b1.2), ())))))))

noncomputable def spec_l02Line (n : Nat) (a2 : (Int) × (Int)) (a3 : Int) (b0 : ((Int) × (Int)) × (List ((Int) × (Int)))) (b1 : (Int) × (Bool)) : Option (((((Int) × (Int)) × (Unit)) × (((Int) × (Unit)) × (Unit))) × ((((Int) × (Int)) × (List ((Int) × (Int)))) × (((Int) × (Bool)) × (Unit)))) := spec_l02Line_t n a2 a3 b0 b1

noncomputable def spec_l01Neg_t (n : Nat) (a0 : (Int) × (Int)) : Option (((((Int) × (Int)) × (Unit)) × (Unit)) × (Unit)) :=
  some ((((((IntKind.wrap .i64 (0 - a0.1)), a0.2), ()), ()), ()))

noncomputable def spec_l01Neg (n : Nat) (a0 : (Int) × (Int)) : Option (((((Int) × (Int)) × (Unit)) × (Unit)) × (Unit)) := spec_l01Neg_t n a0

noncomputable def spec_l01Sub_t (n : Nat) (a0 : (Int) × (Int)) (a1 : (Int) × (Int)) : Option (((((Int) × (Int)) × (Unit)) × (((Int) × (Unit)) × (Unit))) × (Unit)) :=
  (spec_l01Neg n ((a1.1, a1.2))).bind fun r0 =>
  (spec_l01Add n ((a0.1, a0.2)) ((r0.1.1.1.1, r0.1.1.1.2))).bind fun r1 =>
  some (((((r1.1.1.1.1, r1.1.1.1.2), ()), ((r1.1.2.1.1, ()), ())), ()))

noncomputable def spec_l01Sub (n : Nat) (a0 : (Int) × (Int)) (a1 : (Int) × (Int)) : Option (((((Int) × (Int)) × (Unit)) × (((Int) × (Unit)) × (Unit))) × (Unit)) := spec_l01Sub_t n a0 a1

noncomputable def spec_l02Size_t (n : Nat) (a0 : (Int) × (Int)) : Option (((((Int) × (Int)) × (Unit)) × (Unit)) × (Unit)) :=
  cond (decide (a0.1 < 0))
  ((spec_l01Neg n ((a0.1, a0.2))).bind fun r0 =>
    some (((((r0.1.1.1.1, r0.1.1.1.2), ()), ()), ())))
  (some (((((a0.1, a0.2), ()), ()), ())))

noncomputable def spec_l02Size (n : Nat) (a0 : (Int) × (Int)) : Option (((((Int) × (Int)) × (Unit)) × (Unit)) × (Unit)) := spec_l02Size_t n a0

noncomputable def spec_l02Nearest_t4 (n : Nat) (g4 : Int → Int → Int → Int → (List ((Int) × (Int))) → Int → Int → Int → Int → Int → Int → Option ((((Int) × (Unit)) × ((((Int) × (Int)) × (Unit)) × (((Int) × (Unit)) × (Unit)))) × ((((Int) × (Int)) × (List ((Int) × (Int)))) × (Unit)))) (v9 : Int) (v7 : Int) (b0_0 : Int) (b0_1 : Int) (b0_2 : List ((Int) × (Int))) (b1_0 : Int) (b1_1 : Int) (b2_0 : Int) (b2_1 : Int) (b3_0 : Int) (b3_1 : Int) : Option ((((Int) × (Unit)) × ((((Int) × (Int)) × (Unit)) × (((Int) × (Unit)) × (Unit)))) × ((((Int) × (Int)) × (List ((Int) × (Int)))) × (Unit))) :=
  cond (decide (v9 < ((b0_2.length : Nat) : Int)))
  ((spec_l02Mark n v9 (((b0_0, b0_1), b0_2))).bind fun r0 =>
    (spec_l01Sub n ((b3_0, b3_1)) ((r0.1.1.1.1, r0.1.1.1.2))).bind fun r1 =>
    cond ((r1.1.2.1.1 != 0))
    (some ((((0, ()), (((0, 0), ()), ((r1.1.2.1.1, ()), ()))), (((r0.2.1.1.1, r0.2.1.1.2), r0.2.1.2), ()))))
    ((spec_l02Size n ((r1.1.1.1.1, r1.1.1.1.2))).bind fun r2 =>
      cond ((v9 == 0))
      (g4 ((IntKind.wrap .i64 (v9 + 1))) v9 r0.2.1.1.1 r0.2.1.1.2 r0.2.1.2 b1_0 b1_1 r2.1.1.1.1 r2.1.1.1.2 b3_0 b3_1)
      ((spec_l01Cmp n ((r2.1.1.1.1, r2.1.1.1.2)) ((b2_0, b2_1))).bind fun r3 =>
        cond (decide (r3.1.1.1 < 0))
        (g4 ((IntKind.wrap .i64 (v9 + 1))) v9 r0.2.1.1.1 r0.2.1.1.2 r0.2.1.2 b1_0 b1_1 r2.1.1.1.1 r2.1.1.1.2 b3_0 b3_1)
        (g4 ((IntKind.wrap .i64 (v9 + 1))) v7 r0.2.1.1.1 r0.2.1.1.2 r0.2.1.2 b1_0 b1_1 b2_0 b2_1 b3_0 b3_1))))
  (some ((((v7, ()), (((b2_0, b2_1), ()), ((0, ()), ()))), (((b0_0, b0_1), b0_2), ()))))

noncomputable def spec_l02Nearest_l4 (n : Nat) : Nat → Int → Int → Int → Int → (List ((Int) × (Int))) → Int → Int → Int → Int → Int → Int → Option ((((Int) × (Unit)) × ((((Int) × (Int)) × (Unit)) × (((Int) × (Unit)) × (Unit)))) × ((((Int) × (Int)) × (List ((Int) × (Int)))) × (Unit)))
  | 0, _, _, _, _, _, _, _, _, _, _, _ => none
  | k + 1, v9, v7, b0_0, b0_1, b0_2, b1_0, b1_1, b2_0, b2_1, b3_0, b3_1 => spec_l02Nearest_t4 n (spec_l02Nearest_l4 n k) v9 v7 b0_0 b0_1 b0_2 b1_0 b1_1 b2_0 b2_1 b3_0 b3_1

noncomputable def spec_l02Nearest_t (n : Nat) (h4 : Nat → Int → Int → Int → Int → (List ((Int) × (Int))) → Int → Int → Int → Int → Int → Int → Option ((((Int) × (Unit)) × ((((Int) × (Int)) × (Unit)) × (((Int) × (Unit)) × (Unit)))) × ((((Int) × (Int)) × (List ((Int) × (Int)))) × (Unit)))) (a1 : (Int) × (Int)) (b0 : ((Int) × (Int)) × (List ((Int) × (Int)))) : Option ((((Int) × (Unit)) × ((((Int) × (Int)) × (Unit)) × (((Int) × (Unit)) × (Unit)))) × ((((Int) × (Int)) × (List ((Int) × (Int)))) × (Unit))) :=
  h4 n 0 0 b0.1.1 b0.1.2 b0.2 0 0 0 0 a1.1 a1.2

noncomputable def spec_l02Nearest (n : Nat) (a1 : (Int) × (Int)) (b0 : ((Int) × (Int)) × (List ((Int) × (Int)))) : Option ((((Int) × (Unit)) × ((((Int) × (Int)) × (Unit)) × (((Int) × (Unit)) × (Unit)))) × ((((Int) × (Int)) × (List ((Int) × (Int)))) × (Unit))) := spec_l02Nearest_t n (spec_l02Nearest_l4 n) a1 b0

noncomputable def spec_l02Misfit_t (n : Nat) (a2 : (Int) × (Int)) (a3 : Int) (b0 : ((Int) × (Int)) × (List ((Int) × (Int)))) (b1 : (Int) × (Bool)) : Option (((((Int) × (Int)) × (Unit)) × (((Int) × (Unit)) × (Unit))) × ((((Int) × (Int)) × (List ((Int) × (Int)))) × (((Int) × (Bool)) × (Unit)))) :=
  (spec_l02Line n ((a2.1, a2.2)) a3 (((b0.1.1, b0.1.2), b0.2)) ((b1.1, b1.2))).bind fun r0 =>
  cond ((r0.1.2.1.1 != 0))
  (some (((((0, 0), ()), ((r0.1.2.1.1, ()), ())), (((r0.2.1.1.1, r0.2.1.1.2), r0.2.1.2), ((r0.2.2.1.1, r0.2.2.1.2), ())))))
  ((spec_l02Nearest n ((r0.1.1.1.1, r0.1.1.1.2)) (((r0.2.1.1.1, r0.2.1.1.2), r0.2.1.2))).bind fun r1 =>
    some (((((r1.1.2.1.1.1, r1.1.2.1.1.2), ()), ((r1.1.2.2.1.1, ()), ())), (((r1.2.1.1.1, r1.2.1.1.2), r1.2.1.2), ((r0.2.2.1.1, r0.2.2.1.2), ())))))

noncomputable def spec_l02Misfit (n : Nat) (a2 : (Int) × (Int)) (a3 : Int) (b0 : ((Int) × (Int)) × (List ((Int) × (Int)))) (b1 : (Int) × (Bool)) : Option (((((Int) × (Int)) × (Unit)) × (((Int) × (Unit)) × (Unit))) × ((((Int) × (Int)) × (List ((Int) × (Int)))) × (((Int) × (Bool)) × (Unit)))) := spec_l02Misfit_t n a2 a3 b0 b1

noncomputable def spec_l02Fits_t13 (n : Nat) (g13 : Int → Int → Int → Int → (List ((Int) × (Int))) → Int → Bool → Int → Int → Int → Int → Option ((((Int) × (Unit)) × (((Int) × (Unit)) × (Unit))) × ((((Int) × (Int)) × (List ((Int) × (Int)))) × (((Int) × (Bool)) × (Unit))))) (v16 : Int) (v14 : Int) (b0_0 : Int) (b0_1 : Int) (b0_2 : List ((Int) × (Int))) (b1_0 : Int) (b1_1 : Bool) (b2_0 : Int) (b2_1 : Int) (b3_0 : Int) (b3_1 : Int) : Option ((((Int) × (Unit)) × (((Int) × (Unit)) × (Unit))) × ((((Int) × (Int)) × (List ((Int) × (Int)))) × (((Int) × (Bool)) × (Unit)))) :=
  cond (decide (v16 < b1_0))
  ((spec_l02Misfit n ((b3_0, b3_1)) v16 (((b0_0, b0_1), b0_2)) ((b1_0, b1_1))).bind fun r5 =>
    cond ((r5.1.2.1.1 != 0))
    (some ((((0, ()), ((r5.1.2.1.1, ()), ())), (((r5.2.1.1.1, r5.2.1.1.2), r5.2.1.2), ((r5.2.2.1.1, r5.2.2.1.2), ())))))
    (cond ((v16 == 0))
      (g13 ((IntKind.wrap .i64 (v16 + 1))) v16 r5.2.1.1.1 r5.2.1.1.2 r5.2.1.2 r5.2.2.1.1 r5.2.2.1.2 r5.1.1.1.1 r5.1.1.1.2 b3_0 b3_1)
      ((spec_l01Cmp n ((r5.1.1.1.1, r5.1.1.1.2)) ((b2_0, b2_1))).bind fun r6 =>
        cond (decide (r6.1.1.1 < 0))
        (g13 ((IntKind.wrap .i64 (v16 + 1))) v16 r5.2.1.1.1 r5.2.1.1.2 r5.2.1.2 r5.2.2.1.1 r5.2.2.1.2 r5.1.1.1.1 r5.1.1.1.2 b3_0 b3_1)
        (g13 ((IntKind.wrap .i64 (v16 + 1))) v14 r5.2.1.1.1 r5.2.1.1.2 r5.2.1.2 r5.2.2.1.1 r5.2.2.1.2 b2_0 b2_1 b3_0 b3_1))))
  (some ((((v14, ()), ((0, ()), ())), (((b0_0, b0_1), b0_2), ((b1_0, b1_1), ())))))

noncomputable def spec_l02Fits_l13 (n : Nat) : Nat → Int → Int → Int → Int → (List ((Int) × (Int))) → Int → Bool → Int → Int → Int → Int → Option ((((Int) × (Unit)) × (((Int) × (Unit)) × (Unit))) × ((((Int) × (Int)) × (List ((Int) × (Int)))) × (((Int) × (Bool)) × (Unit))))
  | 0, _, _, _, _, _, _, _, _, _, _, _ => none
  | k + 1, v16, v14, b0_0, b0_1, b0_2, b1_0, b1_1, b2_0, b2_1, b3_0, b3_1 => spec_l02Fits_t13 n (spec_l02Fits_l13 n k) v16 v14 b0_0 b0_1 b0_2 b1_0 b1_1 b2_0 b2_1 b3_0 b3_1

noncomputable def spec_l02Fits_t (n : Nat) (h13 : Nat → Int → Int → Int → Int → (List ((Int) × (Int))) → Int → Bool → Int → Int → Int → Int → Option ((((Int) × (Unit)) × (((Int) × (Unit)) × (Unit))) × ((((Int) × (Int)) × (List ((Int) × (Int)))) × (((Int) × (Bool)) × (Unit))))) (a2 : (Int) × (Int)) (b0 : ((Int) × (Int)) × (List ((Int) × (Int)))) (b1 : (Int) × (Bool)) : Option ((((Int) × (Unit)) × (((Int) × (Unit)) × (Unit))) × ((((Int) × (Int)) × (List ((Int) × (Int)))) × (((Int) × (Bool)) × (Unit)))) :=
  (spec_l02Mark n 0 (((b0.1.1, b0.1.2), b0.2))).bind fun r0 =>
  (spec_l02Mark n ((IntKind.wrap .i64 (((r0.2.1.2.length : Nat) : Int) - 1))) (((r0.2.1.1.1, r0.2.1.1.2), r0.2.1.2))).bind fun r1 =>
  (spec_l01Cmp n ((a2.1, a2.2)) ((r0.1.1.1.1, r0.1.1.1.2))).bind fun r2 =>
  cond (decide (r2.1.1.1 < 0))
  (some ((((0, ()), ((2, ()), ())), (((r1.2.1.1.1, r1.2.1.1.2), r1.2.1.2), ((b1.1, b1.2), ())))))
  ((spec_l02Line n ((a2.1, a2.2)) ((IntKind.wrap .i64 (b1.1 - 1))) (((r1.2.1.1.1, r1.2.1.1.2), r1.2.1.2)) ((b1.1, b1.2))).bind fun r3 =>
    cond ((r3.1.2.1.1 != 0))
    (some ((((0, ()), ((r3.1.2.1.1, ()), ())), (((r3.2.1.1.1, r3.2.1.1.2), r3.2.1.2), ((r3.2.2.1.1, r3.2.2.1.2), ())))))
    ((spec_l01Cmp n ((r3.1.1.1.1, r3.1.1.1.2)) ((r1.1.1.1.1, r1.1.1.1.2))).bind fun r4 =>
      cond (decide (r4.1.1.1 > 0))
      (some ((((0, ()), ((2, ()), ())), (((r3.2.1.1.1, r3.2.1.1.2), r3.2.1.2), ((r3.2.2.1.1, r3.2.2.1.2), ())))))
      (h13 n 0 0 r3.2.1.1.1 r3.2.1.1.2 r3.2.1.2 r3.2.2.1.1 r3.2.2.1.2 0 0 a2.1 a2.2)))

noncomputable def spec_l02Fits (n : Nat) (a2 : (Int) × (Int)) (b0 : ((Int) × (Int)) × (List ((Int) × (Int)))) (b1 : (Int) × (Bool)) : Option ((((Int) × (Unit)) × (((Int) × (Unit)) × (Unit))) × ((((Int) × (Int)) × (List ((Int) × (Int)))) × (((Int) × (Bool)) × (Unit)))) := spec_l02Fits_t n (spec_l02Fits_l13 n) a2 b0 b1

noncomputable def spec_LineThatFits_t (n : Nat) (a0 : ((Int) × (Int)) × (List ((Int) × (Int)))) (a1 : (Int) × (Bool)) (a2 : (Int) × (Int)) : Option ((((Int) × (Unit)) × (((Int) × (Unit)) × (Unit))) × (Unit)) :=
  (spec_l02Asked n ((a2.1, a2.2)) (((a0.1.1, a0.1.2), a0.2)) ((a1.1, a1.2))).bind fun r0 =>
  cond ((r0.1.1.1 != 0))
  (some ((((0, ()), ((r0.1.1.1, ()), ())), ())))
  ((spec_l02Fits n ((a2.1, a2.2)) (((r0.2.1.1.1, r0.2.1.1.2), r0.2.1.2)) ((r0.2.2.1.1, r0.2.2.1.2))).bind fun r1 =>
    some ((((r1.1.1.1, ()), ((r1.1.2.1.1, ()), ())), ())))

noncomputable def spec_LineThatFits (n : Nat) (a0 : ((Int) × (Int)) × (List ((Int) × (Int)))) (a1 : (Int) × (Bool)) (a2 : (Int) × (Int)) : Option ((((Int) × (Unit)) × (((Int) × (Unit)) × (Unit))) × (Unit)) := spec_LineThatFits_t n a0 a1 a2

noncomputable def impl_floorDiv_t (n : Nat) (a0 : Int) (a1 : Int) : Option ((((Int) × (Unit)) × (Unit)) × (Unit)) :=
  cond ((a1 != 0))
  (cond ((a1 != 0))
    (cond (((Int.tmod a0 a1) != 0))
      (cond ((!(decide (a0 < 0) == decide (a1 < 0))))
        (some (((((IntKind.wrap .i64 ((IntKind.wrap .i64 (Int.tdiv a0 a1)) - 1)), ()), ()), ())))
        (some (((((IntKind.wrap .i64 (Int.tdiv a0 a1)), ()), ()), ()))))
      (some (((((IntKind.wrap .i64 (Int.tdiv a0 a1)), ()), ()), ()))))
    (none))
  (none)

noncomputable def impl_floorDiv (n : Nat) (a0 : Int) (a1 : Int) : Option ((((Int) × (Unit)) × (Unit)) × (Unit)) := impl_floorDiv_t n a0 a1

noncomputable def impl_nearest_t (n : Nat) (a0 : Int) (a1 : Int) : Option ((((Int) × (Unit)) × (((Bool) × (Unit)) × (Unit))) × (Unit)) :=
  (impl_floorDiv n ((IntKind.wrap .i64 ((IntKind.wrap .i64 (2 * a0)) + a1))) ((IntKind.wrap .i64 (2 * a1)))).bind fun r0 =>
  (impl_within n r0.1.1.1 (-1000000000) 1000000000).bind fun r1 =>
  some ((((r0.1.1.1, ()), ((r1.1.1.1, ()), ())), ()))

noncomputable def impl_nearest (n : Nat) (a0 : Int) (a1 : Int) : Option ((((Int) × (Unit)) × (((Bool) × (Unit)) × (Unit))) × (Unit)) := impl_nearest_t n a0 a1

noncomputable def impl_calc_one_t (n : Nat) (a1 : (Int) × (Int)) (b0 : Bool) : Option (((((Int) × (Int)) × (Unit)) × (((Int) × (Unit)) × (Unit))) × ((Bool) × (Unit))) :=
  cond b0
  (some (((((0, 0), ()), ((3, ()), ())), (b0, ()))))
  (some (((((a1.1, a1.2), ()), ((0, ()), ())), (b0, ()))))

noncomputable def impl_calc_one (n : Nat) (a1 : (Int) × (Int)) (b0 : Bool) : Option (((((Int) × (Int)) × (Unit)) × (((Int) × (Unit)) × (Unit))) × ((Bool) × (Unit))) := impl_calc_one_t n a1 b0

noncomputable def impl_ReadVernier_t (n : Nat) (a0 : ((Int) × (Int)) × (List ((Int) × (Int)))) (a1 : (Int) × (Bool)) (a2 : (Int) × (Int)) : Option (((((Int) × (Int)) × (Unit)) × (((Int) × (Unit)) × (Unit))) × (Unit)) :=
  (impl_LineThatFits n (((a0.1.1, a0.1.2), a0.2)) ((a1.1, a1.2)) ((a2.1, a2.2))).bind fun r0 =>
  cond ((r0.1.2.1.1 != 0))
  (some (((((0, 0), ()), ((r0.1.2.1.1, ()), ())), ())))
  (cond a1.2
    (cond ((r0.1.1.1 != 0))
      ((impl_num n ((IntKind.wrap .i64 (a1.1 - r0.1.1.1)))).bind fun r1 =>
        (impl_num n a1.1).bind fun r2 =>
        (impl_calc_div n ((r1.1.1.1.1, r1.1.1.1.2)) ((r2.1.1.1.1, r2.1.1.1.2)) false).bind fun r3 =>
        (impl_calc_mul n ((r3.1.1.1.1, r3.1.1.1.2)) ((a0.1.1, a0.1.2)) r3.2.1).bind fun r4 =>
        (impl_calc_sub n ((a2.1, a2.2)) ((r4.1.1.1.1, r4.1.1.1.2)) r4.2.1).bind fun r5 =>
        (impl_nearest n ((IntKind.wrap .i64 (r5.1.1.1.1 * a0.1.2))) ((IntKind.wrap .i64 (r5.1.1.1.2 * a0.1.1)))).bind fun r6 =>
        cond (!r6.1.2.1.1)
        (some (((((0, 0), ()), ((3, ()), ())), ())))
        ((impl_num n r6.1.1.1).bind fun r7 =>
          (impl_calc_mul n ((r7.1.1.1.1, r7.1.1.1.2)) ((a0.1.1, a0.1.2)) r5.2.1).bind fun r8 =>
          (impl_calc_add n ((r4.1.1.1.1, r4.1.1.1.2)) ((r8.1.1.1.1, r8.1.1.1.2)) r8.2.1).bind fun r9 =>
          (impl_calc_one n ((r9.1.1.1.1, r9.1.1.1.2)) r9.2.1).bind fun r10 =>
          some (((((r10.1.1.1.1, r10.1.1.1.2), ()), ((r10.1.2.1.1, ()), ())), ()))))
      ((impl_num n r0.1.1.1).bind fun r11 =>
        (impl_num n a1.1).bind fun r12 =>
        (impl_calc_div n ((r11.1.1.1.1, r11.1.1.1.2)) ((r12.1.1.1.1, r12.1.1.1.2)) false).bind fun r13 =>
        (impl_calc_mul n ((r13.1.1.1.1, r13.1.1.1.2)) ((a0.1.1, a0.1.2)) r13.2.1).bind fun r14 =>
        (impl_calc_sub n ((a2.1, a2.2)) ((r14.1.1.1.1, r14.1.1.1.2)) r14.2.1).bind fun r15 =>
        (impl_nearest n ((IntKind.wrap .i64 (r15.1.1.1.1 * a0.1.2))) ((IntKind.wrap .i64 (r15.1.1.1.2 * a0.1.1)))).bind fun r16 =>
        cond (!r16.1.2.1.1)
        (some (((((0, 0), ()), ((3, ()), ())), ())))
        ((impl_num n r16.1.1.1).bind fun r17 =>
          (impl_calc_mul n ((r17.1.1.1.1, r17.1.1.1.2)) ((a0.1.1, a0.1.2)) r15.2.1).bind fun r18 =>
          (impl_calc_add n ((r14.1.1.1.1, r14.1.1.1.2)) ((r18.1.1.1.1, r18.1.1.1.2)) r18.2.1).bind fun r19 =>
          (impl_calc_one n ((r19.1.1.1.1, r19.1.1.1.2)) r19.2.1).bind fun r20 =>
          some (((((r20.1.1.1.1, r20.1.1.1.2), ()), ((r20.1.2.1.1, ()), ())), ())))))
    ((impl_num n r0.1.1.1).bind fun r21 =>
      (impl_num n a1.1).bind fun r22 =>
      (impl_calc_div n ((r21.1.1.1.1, r21.1.1.1.2)) ((r22.1.1.1.1, r22.1.1.1.2)) false).bind fun r23 =>
      (impl_calc_mul n ((r23.1.1.1.1, r23.1.1.1.2)) ((a0.1.1, a0.1.2)) r23.2.1).bind fun r24 =>
      (impl_calc_sub n ((a2.1, a2.2)) ((r24.1.1.1.1, r24.1.1.1.2)) r24.2.1).bind fun r25 =>
      (impl_nearest n ((IntKind.wrap .i64 (r25.1.1.1.1 * a0.1.2))) ((IntKind.wrap .i64 (r25.1.1.1.2 * a0.1.1)))).bind fun r26 =>
      cond (!r26.1.2.1.1)
      (some (((((0, 0), ()), ((3, ()), ())), ())))
      ((impl_num n r26.1.1.1).bind fun r27 =>
        (impl_calc_mul n ((r27.1.1.1.1, r27.1.1.1.2)) ((a0.1.1, a0.1.2)) r25.2.1).bind fun r28 =>
        (impl_calc_add n ((r24.1.1.1.1, r24.1.1.1.2)) ((r28.1.1.1.1, r28.1.1.1.2)) r28.2.1).bind fun r29 =>
        (impl_calc_one n ((r29.1.1.1.1, r29.1.1.1.2)) r29.2.1).bind fun r30 =>
        some (((((r30.1.1.1.1, r30.1.1.1.2), ()), ((r30.1.2.1.1, ()), ())), ())))))

noncomputable def impl_ReadVernier (n : Nat) (a0 : ((Int) × (Int)) × (List ((Int) × (Int)))) (a1 : (Int) × (Bool)) (a2 : (Int) × (Int)) : Option (((((Int) × (Int)) × (Unit)) × (((Int) × (Unit)) × (Unit))) × (Unit)) := impl_ReadVernier_t n a0 a1 a2

noncomputable def spec_l01Down_t (n : Nat) (a0 : Int) (a1 : Int) : Option ((((Int) × (Unit)) × (Unit)) × (Unit)) :=
  cond ((a1 != 0))
  (cond ((a1 != 0))
    (cond (decide ((Int.tmod a0 a1) < 0))
      (some (((((IntKind.wrap .i64 ((IntKind.wrap .i64 (Int.tdiv a0 a1)) - 1)), ()), ()), ())))
      (some (((((IntKind.wrap .i64 (Int.tdiv a0 a1)), ()), ()), ()))))
    (none))
  (none)

noncomputable def spec_l01Down (n : Nat) (a0 : Int) (a1 : Int) : Option ((((Int) × (Unit)) × (Unit)) × (Unit)) := spec_l01Down_t n a0 a1

noncomputable def spec_l01Near_t (n : Nat) (a0 : (Int) × (Int)) (a1 : (Int) × (Int)) : Option ((((Int) × (Unit)) × (Unit)) × (Unit)) :=
  (spec_l01Down n ((IntKind.wrap .i64 ((IntKind.wrap .i64 (2 * (IntKind.wrap .i64 (a0.1 * a1.2)))) + (IntKind.wrap .i64 (a0.2 * a1.1))))) ((IntKind.wrap .i64 (2 * (IntKind.wrap .i64 (a0.2 * a1.1)))))).bind fun r0 =>
  some ((((r0.1.1.1, ()), ()), ()))

noncomputable def spec_l01Near (n : Nat) (a0 : (Int) × (Int)) (a1 : (Int) × (Int)) : Option ((((Int) × (Unit)) × (Unit)) × (Unit)) := spec_l01Near_t n a0 a1

noncomputable def spec_l01Integer_t (n : Nat) (a0 : Int) : Option ((((Int) × (Unit)) × (((Int) × (Unit)) × (Unit))) × (Unit)) :=
  (spec_l00In n a0 (-1000000000) 1000000000).bind fun r0 =>
  cond (!r0.1.1.1)
  (some ((((0, ()), ((3, ()), ())), ())))
  (some ((((a0, ()), ((0, ()), ())), ())))

noncomputable def spec_l01Integer (n : Nat) (a0 : Int) : Option ((((Int) × (Unit)) × (((Int) × (Unit)) × (Unit))) × (Unit)) := spec_l01Integer_t n a0

noncomputable def spec_l02Read_t (n : Nat) (a2 : (Int) × (Int)) (b0 : ((Int) × (Int)) × (List ((Int) × (Int)))) (b1 : (Int) × (Bool)) : Option (((((Int) × (Int)) × (Unit)) × (((Int) × (Unit)) × (Unit))) × ((((Int) × (Int)) × (List ((Int) × (Int)))) × (((Int) × (Bool)) × (Unit)))) :=
  (spec_l02Fits n ((a2.1, a2.2)) (((b0.1.1, b0.1.2), b0.2)) ((b1.1, b1.2))).bind fun r0 =>
  cond ((r0.1.2.1.1 != 0))
  (some (((((0, 0), ()), ((r0.1.2.1.1, ()), ())), (((r0.2.1.1.1, r0.2.1.1.2), r0.2.1.2), ((r0.2.2.1.1, r0.2.2.1.2), ())))))
  (cond r0.2.2.1.2
    (cond ((r0.1.1.1 != 0))
      ((spec_l01Whole n ((IntKind.wrap .i64 (r0.2.2.1.1 - r0.1.1.1)))).bind fun r1 =>
        (spec_l01Whole n r0.2.2.1.1).bind fun r2 =>
        (spec_l01Div n ((r1.1.1.1.1, r1.1.1.1.2)) ((r2.1.1.1.1, r2.1.1.1.2))).bind fun r3 =>
        (spec_l01Mul n ((r3.1.1.1.1, r3.1.1.1.2)) ((r0.2.1.1.1, r0.2.1.1.2))).bind fun r4 =>
        cond ((r4.1.2.1.1 != 0))
        (some (((((0, 0), ()), ((r4.1.2.1.1, ()), ())), (((r0.2.1.1.1, r0.2.1.1.2), r0.2.1.2), ((r0.2.2.1.1, r0.2.2.1.2), ())))))
        ((spec_l01Sub n ((a2.1, a2.2)) ((r4.1.1.1.1, r4.1.1.1.2))).bind fun r5 =>
          cond ((r5.1.2.1.1 != 0))
          (some (((((0, 0), ()), ((r5.1.2.1.1, ()), ())), (((r0.2.1.1.1, r0.2.1.1.2), r0.2.1.2), ((r0.2.2.1.1, r0.2.2.1.2), ())))))
          ((spec_l01Near n ((r5.1.1.1.1, r5.1.1.1.2)) ((r0.2.1.1.1, r0.2.1.1.2))).bind fun r6 =>
            (spec_l01Integer n r6.1.1.1).bind fun r7 =>
            cond ((r7.1.2.1.1 != 0))
            (some (((((0, 0), ()), ((r7.1.2.1.1, ()), ())), (((r0.2.1.1.1, r0.2.1.1.2), r0.2.1.2), ((r0.2.2.1.1, r0.2.2.1.2), ())))))
            ((spec_l01Whole n r7.1.1.1).bind fun r8 =>
              (spec_l01Mul n ((r8.1.1.1.1, r8.1.1.1.2)) ((r0.2.1.1.1, r0.2.1.1.2))).bind fun r9 =>
              cond ((r9.1.2.1.1 != 0))
              (some (((((0, 0), ()), ((r9.1.2.1.1, ()), ())), (((r0.2.1.1.1, r0.2.1.1.2), r0.2.1.2), ((r0.2.2.1.1, r0.2.2.1.2), ())))))
              ((spec_l01Add n ((r4.1.1.1.1, r4.1.1.1.2)) ((r9.1.1.1.1, r9.1.1.1.2))).bind fun r10 =>
                some (((((r10.1.1.1.1, r10.1.1.1.2), ()), ((r10.1.2.1.1, ()), ())), (((r0.2.1.1.1, r0.2.1.1.2), r0.2.1.2), ((r0.2.2.1.1, r0.2.2.1.2), ())))))))))
      ((spec_l01Whole n r0.1.1.1).bind fun r11 =>
        (spec_l01Whole n r0.2.2.1.1).bind fun r12 =>
        (spec_l01Div n ((r11.1.1.1.1, r11.1.1.1.2)) ((r12.1.1.1.1, r12.1.1.1.2))).bind fun r13 =>
        (spec_l01Mul n ((r13.1.1.1.1, r13.1.1.1.2)) ((r0.2.1.1.1, r0.2.1.1.2))).bind fun r14 =>
        cond ((r14.1.2.1.1 != 0))
        (some (((((0, 0), ()), ((r14.1.2.1.1, ()), ())), (((r0.2.1.1.1, r0.2.1.1.2), r0.2.1.2), ((r0.2.2.1.1, r0.2.2.1.2), ())))))
        ((spec_l01Sub n ((a2.1, a2.2)) ((r14.1.1.1.1, r14.1.1.1.2))).bind fun r15 =>
          cond ((r15.1.2.1.1 != 0))
          (some (((((0, 0), ()), ((r15.1.2.1.1, ()), ())), (((r0.2.1.1.1, r0.2.1.1.2), r0.2.1.2), ((r0.2.2.1.1, r0.2.2.1.2), ())))))
          ((spec_l01Near n ((r15.1.1.1.1, r15.1.1.1.2)) ((r0.2.1.1.1, r0.2.1.1.2))).bind fun r16 =>
            (spec_l01Integer n r16.1.1.1).bind fun r17 =>
            cond ((r17.1.2.1.1 != 0))
            (some (((((0, 0), ()), ((r17.1.2.1.1, ()), ())), (((r0.2.1.1.1, r0.2.1.1.2), r0.2.1.2), ((r0.2.2.1.1, r0.2.2.1.2), ())))))
            ((spec_l01Whole n r17.1.1.1).bind fun r18 =>
              (spec_l01Mul n ((r18.1.1.1.1, r18.1.1.1.2)) ((r0.2.1.1.1, r0.2.1.1.2))).bind fun r19 =>
              cond ((r19.1.2.1.1 != 0))
              (some (((((0, 0), ()), ((r19.1.2.1.1, ()), ())), (((r0.2.1.1.1, r0.2.1.1.2), r0.2.1.2), ((r0.2.2.1.1, r0.2.2.1.2), ())))))
              ((spec_l01Add n ((r14.1.1.1.1, r14.1.1.1.2)) ((r19.1.1.1.1, r19.1.1.1.2))).bind fun r20 =>
                some (((((r20.1.1.1.1, r20.1.1.1.2), ()), ((r20.1.2.1.1, ()), ())), (((r0.2.1.1.1, r0.2.1.1.2), r0.2.1.2), ((r0.2.2.1.1, r0.2.2.1.2), ()))))))))))
    ((spec_l01Whole n r0.1.1.1).bind fun r21 =>
      (spec_l01Whole n r0.2.2.1.1).bind fun r22 =>
      (spec_l01Div n ((r21.1.1.1.1, r21.1.1.1.2)) ((r22.1.1.1.1, r22.1.1.1.2))).bind fun r23 =>
      (spec_l01Mul n ((r23.1.1.1.1, r23.1.1.1.2)) ((r0.2.1.1.1, r0.2.1.1.2))).bind fun r24 =>
      cond ((r24.1.2.1.1 != 0))
      (some (((((0, 0), ()), ((r24.1.2.1.1, ()), ())), (((r0.2.1.1.1, r0.2.1.1.2), r0.2.1.2), ((r0.2.2.1.1, r0.2.2.1.2), ())))))
      ((spec_l01Sub n ((a2.1, a2.2)) ((r24.1.1.1.1, r24.1.1.1.2))).bind fun r25 =>
        cond ((r25.1.2.1.1 != 0))
        (some (((((0, 0), ()), ((r25.1.2.1.1, ()), ())), (((r0.2.1.1.1, r0.2.1.1.2), r0.2.1.2), ((r0.2.2.1.1, r0.2.2.1.2), ())))))
        ((spec_l01Near n ((r25.1.1.1.1, r25.1.1.1.2)) ((r0.2.1.1.1, r0.2.1.1.2))).bind fun r26 =>
          (spec_l01Integer n r26.1.1.1).bind fun r27 =>
          cond ((r27.1.2.1.1 != 0))
          (some (((((0, 0), ()), ((r27.1.2.1.1, ()), ())), (((r0.2.1.1.1, r0.2.1.1.2), r0.2.1.2), ((r0.2.2.1.1, r0.2.2.1.2), ())))))
          ((spec_l01Whole n r27.1.1.1).bind fun r28 =>
            (spec_l01Mul n ((r28.1.1.1.1, r28.1.1.1.2)) ((r0.2.1.1.1, r0.2.1.1.2))).bind fun r29 =>
            cond ((r29.1.2.1.1 != 0))
            (some (((((0, 0), ()), ((r29.1.2.1.1, ()), ())), (((r0.2.1.1.1, r0.2.1.1.2), r0.2.1.2), ((r0.2.2.1.1, r0.2.2.1.2), ())))))
            ((spec_l01Add n ((r24.1.1.1.1, r24.1.1.1.2)) ((r29.1.1.1.1, r29.1.1.1.2))).bind fun r30 =>
              some (((((r30.1.1.1.1, r30.1.1.1.2), ()), ((r30.1.2.1.1, ()), ())), (((r0.2.1.1.1, r0.2.1.1.2), r0.2.1.2), ((r0.2.2.1.1, r0.2.2.1.2), ()))))))))))

noncomputable def spec_l02Read (n : Nat) (a2 : (Int) × (Int)) (b0 : ((Int) × (Int)) × (List ((Int) × (Int)))) (b1 : (Int) × (Bool)) : Option (((((Int) × (Int)) × (Unit)) × (((Int) × (Unit)) × (Unit))) × ((((Int) × (Int)) × (List ((Int) × (Int)))) × (((Int) × (Bool)) × (Unit)))) := spec_l02Read_t n a2 b0 b1

noncomputable def spec_ReadVernier_t (n : Nat) (a0 : ((Int) × (Int)) × (List ((Int) × (Int)))) (a1 : (Int) × (Bool)) (a2 : (Int) × (Int)) : Option (((((Int) × (Int)) × (Unit)) × (((Int) × (Unit)) × (Unit))) × (Unit)) :=
  (spec_l02Asked n ((a2.1, a2.2)) (((a0.1.1, a0.1.2), a0.2)) ((a1.1, a1.2))).bind fun r0 =>
  cond ((r0.1.1.1 != 0))
  (some (((((0, 0), ()), ((r0.1.1.1, ()), ())), ())))
  ((spec_l02Read n ((a2.1, a2.2)) (((r0.2.1.1.1, r0.2.1.1.2), r0.2.1.2)) ((r0.2.2.1.1, r0.2.2.1.2))).bind fun r1 =>
    some (((((r1.1.1.1.1, r1.1.1.1.2), ()), ((r1.1.2.1.1, ()), ())), ())))

noncomputable def spec_ReadVernier (n : Nat) (a0 : ((Int) × (Int)) × (List ((Int) × (Int)))) (a1 : (Int) × (Bool)) (a2 : (Int) × (Int)) : Option (((((Int) × (Int)) × (Unit)) × (((Int) × (Unit)) × (Unit))) × (Unit)) := spec_ReadVernier_t n a0 a1 a2

noncomputable def impl_greater_t (n : Nat) (a0 : (Int) × (Int)) (a1 : (Int) × (Int)) : Option (((((Int) × (Int)) × (Unit)) × (Unit)) × (Unit)) :=
  (impl_compare n ((a0.1, a0.2)) ((a1.1, a1.2))).bind fun r0 =>
  cond (decide (r0.1.1.1 ≥ 0))
  (some (((((a0.1, a0.2), ()), ()), ())))
  (some (((((a1.1, a1.2), ()), ()), ())))

noncomputable def impl_greater (n : Nat) (a0 : (Int) × (Int)) (a1 : (Int) × (Int)) : Option (((((Int) × (Int)) × (Unit)) × (Unit)) × (Unit)) := impl_greater_t n a0 a1

noncomputable def impl_worst_t3 (n : Nat) (g3 : Int → (List ((Int) × (Int))) → Int → Int → Int → Int → Int → Option (((((Int) × (Int)) × (Unit)) × (Unit)) × (Unit))) (v10 : Int) (v8 : List ((Int) × (Int))) (v9 : Int) (b0_0 : Int) (b0_1 : Int) (b1_0 : Int) (b1_1 : Int) : Option (((((Int) × (Int)) × (Unit)) × (Unit)) × (Unit)) :=
  cond (decide (v10 < v9))
  (cond ((decide (0 ≤ v10) && decide (v10 < ((v8.length : Nat) : Int))))
    ((impl_size n (((v8.getD (Int.toNat v10) (0, 0)).1, (v8.getD (Int.toNat v10) (0, 0)).2))).bind fun r1 =>
      (impl_greater n ((b0_0, b0_1)) ((r1.1.1.1.1, r1.1.1.1.2))).bind fun r2 =>
      g3 ((IntKind.wrap .i64 (v10 + 1))) v8 v9 r2.1.1.1.1 r2.1.1.1.2 b1_0 b1_1)
    (none))
  (some (((((b0_0, b0_1), ()), ()), ())))

noncomputable def impl_worst_l3 (n : Nat) : Nat → Int → (List ((Int) × (Int))) → Int → Int → Int → Int → Int → Option (((((Int) × (Int)) × (Unit)) × (Unit)) × (Unit))
  | 0, _, _, _, _, _, _, _ => none
  | k + 1, v10, v8, v9, b0_0, b0_1, b1_0, b1_1 => impl_worst_t3 n (impl_worst_l3 n k) v10 v8 v9 b0_0 b0_1 b1_0 b1_1

noncomputable def impl_worst_t (n : Nat) (h3 : Nat → Int → (List ((Int) × (Int))) → Int → Int → Int → Int → Int → Option (((((Int) × (Int)) × (Unit)) × (Unit)) × (Unit))) (a0 : ((Int) × (Int)) × (List ((Int) × (Int)))) : Option (((((Int) × (Int)) × (Unit)) × (Unit)) × (Unit)) :=
  (impl_zero n).bind fun r0 =>
  h3 n 0 a0.2 (((a0.2.length : Nat) : Int)) r0.1.1.1.1 r0.1.1.1.2 0 0

noncomputable def impl_worst (n : Nat) (a0 : ((Int) × (Int)) × (List ((Int) × (Int)))) : Option (((((Int) × (Int)) × (Unit)) × (Unit)) × (Unit)) := impl_worst_t n (impl_worst_l3 n) a0

noncomputable def impl_calc_doubt_t (n : Nat) (a1 : ((Int) × (Int)) × (List ((Int) × (Int)))) (a2 : (Int) × (Bool)) (b0 : Bool) : Option (((((Int) × (Int)) × (Unit)) × (Unit)) × ((Bool) × (Unit))) :=
  (impl_num n ((IntKind.wrap .i64 (2 * a2.1)))).bind fun r0 =>
  (impl_calc_div n ((a1.1.1, a1.1.2)) ((r0.1.1.1.1, r0.1.1.1.2)) b0).bind fun r1 =>
  (impl_num n 2).bind fun r2 =>
  (impl_worst n (((a1.1.1, a1.1.2), a1.2))).bind fun r3 =>
  (impl_calc_mul n ((r2.1.1.1.1, r2.1.1.1.2)) ((r3.1.1.1.1, r3.1.1.1.2)) r1.2.1).bind fun r4 =>
  (impl_calc_add n ((r1.1.1.1.1, r1.1.1.1.2)) ((r4.1.1.1.1, r4.1.1.1.2)) r4.2.1).bind fun r5 =>
  some (((((r5.1.1.1.1, r5.1.1.1.2), ()), ()), (r5.2.1, ())))

noncomputable def impl_calc_doubt (n : Nat) (a1 : ((Int) × (Int)) × (List ((Int) × (Int)))) (a2 : (Int) × (Bool)) (b0 : Bool) : Option (((((Int) × (Int)) × (Unit)) × (Unit)) × ((Bool) × (Unit))) := impl_calc_doubt_t n a1 a2 b0

noncomputable def impl_calc_span_t (n : Nat) (a1 : ((Int) × (Int)) × ((Int) × (Int))) (b0 : Bool) : Option ((((((Int) × (Int)) × ((Int) × (Int))) × (Unit)) × (((Int) × (Unit)) × (Unit))) × ((Bool) × (Unit))) :=
  cond b0
  (some ((((((0, 0), (0, 0)), ()), ((3, ()), ())), (b0, ()))))
  (some ((((((a1.1.1, a1.1.2), (a1.2.1, a1.2.2)), ()), ((0, ()), ())), (b0, ()))))

noncomputable def impl_calc_span (n : Nat) (a1 : ((Int) × (Int)) × ((Int) × (Int))) (b0 : Bool) : Option ((((((Int) × (Int)) × ((Int) × (Int))) × (Unit)) × (((Int) × (Unit)) × (Unit))) × ((Bool) × (Unit))) := impl_calc_span_t n a1 b0

noncomputable def impl_ReadingSpan_t (n : Nat) (a0 : ((Int) × (Int)) × (List ((Int) × (Int)))) (a1 : (Int) × (Bool)) (a2 : (Int) × (Int)) : Option ((((((Int) × (Int)) × ((Int) × (Int))) × (Unit)) × (((Int) × (Unit)) × (Unit))) × (Unit)) :=
  (impl_lineCode n (((a0.1.1, a0.1.2), a0.2)) ((a1.1, a1.2)) ((a2.1, a2.2)) 0).bind fun r0 =>
  cond ((r0.1.1.1 != 0))
  (some ((((((0, 0), (0, 0)), ()), ((r0.1.1.1, ()), ())), ())))
  ((impl_calc_doubt n (((a0.1.1, a0.1.2), a0.2)) ((a1.1, a1.2)) false).bind fun r1 =>
    (impl_calc_sub n ((a2.1, a2.2)) ((r1.1.1.1.1, r1.1.1.1.2)) r1.2.1).bind fun r2 =>
    (impl_calc_add n ((a2.1, a2.2)) ((r1.1.1.1.1, r1.1.1.1.2)) r2.2.1).bind fun r3 =>
    (impl_calc_span n (((r2.1.1.1.1, r2.1.1.1.2), (r3.1.1.1.1, r3.1.1.1.2))) r3.2.1).bind fun r4 =>
    some ((((((r4.1.1.1.1.1, r4.1.1.1.1.2), (r4.1.1.1.2.1, r4.1.1.1.2.2)), ()), ((r4.1.2.1.1, ()), ())), ())))

noncomputable def impl_ReadingSpan (n : Nat) (a0 : ((Int) × (Int)) × (List ((Int) × (Int)))) (a1 : (Int) × (Bool)) (a2 : (Int) × (Int)) : Option ((((((Int) × (Int)) × ((Int) × (Int))) × (Unit)) × (((Int) × (Unit)) × (Unit))) × (Unit)) := impl_ReadingSpan_t n a0 a1 a2

noncomputable def impl_ValidSpan_t (n : Nat) (a0 : ((Int) × (Int)) × ((Int) × (Int))) : Option ((((Bool) × (Unit)) × (Unit)) × (Unit)) :=
  (impl_areValid n (((a0.1.1, a0.1.2) :: ((a0.2.1, a0.2.2) :: [])))).bind fun r0 =>
  cond r0.1.1.1
  ((impl_compare n ((a0.1.1, a0.1.2)) ((a0.2.1, a0.2.2))).bind fun r1 =>
    some ((((decide (r1.1.1.1 ≤ 0), ()), ()), ())))
  (some ((((false, ()), ()), ())))

noncomputable def impl_ValidSpan (n : Nat) (a0 : ((Int) × (Int)) × ((Int) × (Int))) : Option ((((Bool) × (Unit)) × (Unit)) × (Unit)) := impl_ValidSpan_t n a0

noncomputable def impl_InSpan_t (n : Nat) (a0 : ((Int) × (Int)) × ((Int) × (Int))) (a1 : (Int) × (Int)) : Option ((((Bool) × (Unit)) × (((Int) × (Unit)) × (Unit))) × (Unit)) :=
  (impl_ValidSpan n (((a0.1.1, a0.1.2), (a0.2.1, a0.2.2)))).bind fun r0 =>
  cond (!r0.1.1.1)
  (some ((((false, ()), ((1, ()), ())), ())))
  ((impl_ValidFrac n ((a1.1, a1.2))).bind fun r1 =>
    cond (!r1.1.1.1)
    (some ((((false, ()), ((1, ()), ())), ())))
    ((impl_compare n ((a0.1.1, a0.1.2)) ((a1.1, a1.2))).bind fun r2 =>
      cond (decide (r2.1.1.1 ≤ 0))
      ((impl_compare n ((a1.1, a1.2)) ((a0.2.1, a0.2.2))).bind fun r3 =>
        some ((((decide (r3.1.1.1 ≤ 0), ()), ((0, ()), ())), ())))
      (some ((((false, ()), ((0, ()), ())), ())))))

noncomputable def impl_InSpan (n : Nat) (a0 : ((Int) × (Int)) × ((Int) × (Int))) (a1 : (Int) × (Int)) : Option ((((Bool) × (Unit)) × (((Int) × (Unit)) × (Unit))) × (Unit)) := impl_InSpan_t n a0 a1

noncomputable def impl_MisfitOf_t (n : Nat) (a0 : ((Int) × (Int)) × (List ((Int) × (Int)))) (a1 : (Int) × (Bool)) (a2 : (Int) × (Int)) (a3 : Int) : Option (((((Int) × (Int)) × (Unit)) × (((Int) × (Unit)) × (Unit))) × (Unit)) :=
  (impl_lineCode n (((a0.1.1, a0.1.2), a0.2)) ((a1.1, a1.2)) ((a2.1, a2.2)) a3).bind fun r0 =>
  cond ((r0.1.1.1 != 0))
  (some (((((0, 0), ()), ((r0.1.1.1, ()), ())), ())))
  ((impl_calc_line n (((a0.1.1, a0.1.2), a0.2)) ((a1.1, a1.2)) ((a2.1, a2.2)) a3 false).bind fun r1 =>
    (impl_calc_near n (((a0.1.1, a0.1.2), a0.2)) ((r1.1.1.1.1, r1.1.1.1.2)) r1.2.1).bind fun r2 =>
    (impl_calc_one n ((r2.1.2.1.1.1, r2.1.2.1.1.2)) r2.2.1).bind fun r3 =>
    some (((((r3.1.1.1.1, r3.1.1.1.2), ()), ((r3.1.2.1.1, ()), ())), ())))

noncomputable def impl_MisfitOf (n : Nat) (a0 : ((Int) × (Int)) × (List ((Int) × (Int)))) (a1 : (Int) × (Bool)) (a2 : (Int) × (Int)) (a3 : Int) : Option (((((Int) × (Int)) × (Unit)) × (((Int) × (Unit)) × (Unit))) × (Unit)) := impl_MisfitOf_t n a0 a1 a2 a3

noncomputable def impl_LineAt_t (n : Nat) (a0 : ((Int) × (Int)) × (List ((Int) × (Int)))) (a1 : (Int) × (Bool)) (a2 : (Int) × (Int)) (a3 : Int) : Option (((((Int) × (Int)) × (Unit)) × (((Int) × (Unit)) × (Unit))) × (Unit)) :=
  (impl_lineCode n (((a0.1.1, a0.1.2), a0.2)) ((a1.1, a1.2)) ((a2.1, a2.2)) a3).bind fun r0 =>
  cond ((r0.1.1.1 != 0))
  (some (((((0, 0), ()), ((r0.1.1.1, ()), ())), ())))
  ((impl_calc_line n (((a0.1.1, a0.1.2), a0.2)) ((a1.1, a1.2)) ((a2.1, a2.2)) a3 false).bind fun r1 =>
    (impl_calc_one n ((r1.1.1.1.1, r1.1.1.1.2)) r1.2.1).bind fun r2 =>
    some (((((r2.1.1.1.1, r2.1.1.1.2), ()), ((r2.1.2.1.1, ()), ())), ())))

noncomputable def impl_LineAt (n : Nat) (a0 : ((Int) × (Int)) × (List ((Int) × (Int)))) (a1 : (Int) × (Bool)) (a2 : (Int) × (Int)) (a3 : Int) : Option (((((Int) × (Int)) × (Unit)) × (((Int) × (Unit)) × (Unit))) × (Unit)) := impl_LineAt_t n a0 a1 a2 a3

noncomputable def spec_l01Two_t (n : Nat) (a0 : (Int) × (Int)) (a1 : (Int) × (Int)) : Option ((((Int) × (Unit)) × (Unit)) × (Unit)) :=
  (spec_l01Ok n ((a0.1, a0.2))).bind fun r0 =>
  cond (!r0.1.1.1)
  (some ((((1, ()), ()), ())))
  ((spec_l01Ok n ((a1.1, a1.2))).bind fun r1 =>
    cond (!r1.1.1.1)
    (some ((((1, ()), ()), ())))
    (some ((((0, ()), ()), ()))))

noncomputable def spec_l01Two (n : Nat) (a0 : (Int) × (Int)) (a1 : (Int) × (Int)) : Option ((((Int) × (Unit)) × (Unit)) × (Unit)) := spec_l01Two_t n a0 a1

noncomputable def spec_CompareFracs_t (n : Nat) (a0 : (Int) × (Int)) (a1 : (Int) × (Int)) : Option ((((Int) × (Unit)) × (((Int) × (Unit)) × (Unit))) × (Unit)) :=
  (spec_l01Two n ((a0.1, a0.2)) ((a1.1, a1.2))).bind fun r0 =>
  cond ((r0.1.1.1 != 0))
  (some ((((0, ()), ((r0.1.1.1, ()), ())), ())))
  ((spec_l01Cmp n ((a0.1, a0.2)) ((a1.1, a1.2))).bind fun r1 =>
    some ((((r1.1.1.1, ()), ((0, ()), ())), ())))

noncomputable def spec_CompareFracs (n : Nat) (a0 : (Int) × (Int)) (a1 : (Int) × (Int)) : Option ((((Int) × (Unit)) × (((Int) × (Unit)) × (Unit))) × (Unit)) := spec_CompareFracs_t n a0 a1

noncomputable def laws_f6less_t (n : Nat) (a0 : (Int) × (Int)) (a1 : (Int) × (Int)) : Option ((((Bool) × (Unit)) × (Unit)) × (Unit)) :=
  (spec_CompareFracs n ((a0.1, a0.2)) ((a1.1, a1.2))).bind fun r0 =>
  cond ((r0.1.2.1.1 == 0))
  (some ((((decide (r0.1.1.1 < 0), ()), ()), ())))
  (some ((((false, ()), ()), ())))

noncomputable def laws_f6less (n : Nat) (a0 : (Int) × (Int)) (a1 : (Int) × (Int)) : Option ((((Bool) × (Unit)) × (Unit)) × (Unit)) := laws_f6less_t n a0 a1

noncomputable def impl_NearestMark_t (n : Nat) (a0 : ((Int) × (Int)) × (List ((Int) × (Int)))) (a1 : (Int) × (Int)) : Option ((((Int) × (Unit)) × (((Int) × (Unit)) × (Unit))) × (Unit)) :=
  (impl_ValidScale n (((a0.1.1, a0.1.2), a0.2))).bind fun r0 =>
  cond (!r0.1.1.1)
  (some ((((0, ()), ((1, ()), ())), ())))
  ((impl_ValidFrac n ((a1.1, a1.2))).bind fun r1 =>
    cond (!r1.1.1.1)
    (some ((((0, ()), ((1, ()), ())), ())))
    ((impl_calc_near n (((a0.1.1, a0.1.2), a0.2)) ((a1.1, a1.2)) false).bind fun r2 =>
      cond r2.2.1
      (some ((((0, ()), ((3, ()), ())), ())))
      (some ((((r2.1.1.1, ()), ((0, ()), ())), ())))))

noncomputable def impl_NearestMark (n : Nat) (a0 : ((Int) × (Int)) × (List ((Int) × (Int)))) (a1 : (Int) × (Int)) : Option ((((Int) × (Unit)) × (((Int) × (Unit)) × (Unit))) × (Unit)) := impl_NearestMark_t n a0 a1

noncomputable def impl_MarkAt_t (n : Nat) (a0 : ((Int) × (Int)) × (List ((Int) × (Int)))) (a1 : Int) : Option (((((Int) × (Int)) × (Unit)) × (((Int) × (Unit)) × (Unit))) × (Unit)) :=
  (impl_ValidScale n (((a0.1.1, a0.1.2), a0.2))).bind fun r0 =>
  cond (!r0.1.1.1)
  (some (((((0, 0), ()), ((1, ()), ())), ())))
  ((impl_within n a1 0 ((IntKind.wrap .i64 (((a0.2.length : Nat) : Int) - 1)))).bind fun r1 =>
    cond (!r1.1.1.1)
    (some (((((0, 0), ()), ((2, ()), ())), ())))
    ((impl_mark n (((a0.1.1, a0.1.2), a0.2)) a1).bind fun r2 =>
      some (((((r2.1.1.1.1, r2.1.1.1.2), ()), ((0, ()), ())), ()))))

noncomputable def impl_MarkAt (n : Nat) (a0 : ((Int) × (Int)) × (List ((Int) × (Int)))) (a1 : Int) : Option (((((Int) × (Int)) × (Unit)) × (((Int) × (Unit)) × (Unit))) × (Unit)) := impl_MarkAt_t n a0 a1

noncomputable def spec_SubFracs_t (n : Nat) (a0 : (Int) × (Int)) (a1 : (Int) × (Int)) : Option (((((Int) × (Int)) × (Unit)) × (((Int) × (Unit)) × (Unit))) × (Unit)) :=
  (spec_l01Two n ((a0.1, a0.2)) ((a1.1, a1.2))).bind fun r0 =>
  cond ((r0.1.1.1 != 0))
  (some (((((0, 0), ()), ((r0.1.1.1, ()), ())), ())))
  ((spec_l01Sub n ((a0.1, a0.2)) ((a1.1, a1.2))).bind fun r1 =>
    some (((((r1.1.1.1.1, r1.1.1.1.2), ()), ((r1.1.2.1.1, ()), ())), ())))

noncomputable def spec_SubFracs (n : Nat) (a0 : (Int) × (Int)) (a1 : (Int) × (Int)) : Option (((((Int) × (Int)) × (Unit)) × (((Int) × (Unit)) × (Unit))) × (Unit)) := spec_SubFracs_t n a0 a1

noncomputable def math_bits_Mul64_t (n : Nat) (a0 : Int) (a1 : Int) : Option ((((Int) × (Unit)) × (((Int) × (Unit)) × (Unit))) × (Unit)) :=
  some (((((IntKind.wrap .u64 ((IntKind.wrap .u64 ((IntKind.wrap .u64 ((shrInt .u64 a0 32) * (shrInt .u64 a1 32))) + (shrInt .u64 (IntKind.wrap .u64 ((IntKind.wrap .u64 ((shrInt .u64 a0 32) * (andInt .u64 a1 4294967295))) + (shrInt .u64 (IntKind.wrap .u64 ((andInt .u64 a0 4294967295) * (andInt .u64 a1 4294967295))) 32))) 32))) + (shrInt .u64 (IntKind.wrap .u64 ((andInt .u64 (IntKind.wrap .u64 ((IntKind.wrap .u64 ((shrInt .u64 a0 32) * (andInt .u64 a1 4294967295))) + (shrInt .u64 (IntKind.wrap .u64 ((andInt .u64 a0 4294967295) * (andInt .u64 a1 4294967295))) 32))) 4294967295) + (IntKind.wrap .u64 ((andInt .u64 a0 4294967295) * (shrInt .u64 a1 32))))) 32))), ()), (((IntKind.wrap .u64 (a0 * a1)), ()), ())), ()))

noncomputable def math_bits_Mul64 (n : Nat) (a0 : Int) (a1 : Int) : Option ((((Int) × (Unit)) × (((Int) × (Unit)) × (Unit))) × (Unit)) := math_bits_Mul64_t n a0 a1

noncomputable def math_bits_Mul_t (n : Nat) (a0 : Int) (a1 : Int) : Option ((((Int) × (Unit)) × (((Int) × (Unit)) × (Unit))) × (Unit)) :=
  (math_bits_Mul64 n a0 a1).bind fun r0 =>
  some ((((r0.1.1.1, ()), ((r0.1.2.1.1, ()), ())), ()))

noncomputable def math_bits_Mul (n : Nat) (a0 : Int) (a1 : Int) : Option ((((Int) × (Unit)) × (((Int) × (Unit)) × (Unit))) × (Unit)) := math_bits_Mul_t n a0 a1

noncomputable def slices_Repeat_impl_Frac_impl_Frac_t8 (n : Nat) (g8 : Int → (List ((Int) × (Int))) → Option ((((List ((Int) × (Int))) × (Unit)) × (Unit)) × (Unit))) (v8 : Int) (b0 : List ((Int) × (Int))) : Option ((((List ((Int) × (Int))) × (Unit)) × (Unit)) × (Unit)) :=
  cond (decide (v8 < ((b0.length : Nat) : Int)))
  (cond (((decide (0 ≤ v8) && decide (v8 ≤ ((b0.length : Nat) : Int))) && decide (((b0.length : Nat) : Int) ≤ ((b0.length : Nat) : Int))))
    (cond ((decide (0 ≤ v8) && decide (v8 ≤ ((b0.length : Nat) : Int))))
      (g8 ((IntKind.wrap .i64 (v8 + (((copyN ((b0.drop (Int.toNat v8)).take ((Int.toNat ((b0.length : Nat) : Int)) - (Int.toNat v8))).length ((b0.drop (Int.toNat 0)).take ((Int.toNat v8) - (Int.toNat 0)))) : Nat) : Int)))) ((copyL b0 (Int.toNat v8) ((b0.drop (Int.toNat v8)).take ((Int.toNat ((b0.length : Nat) : Int)) - (Int.toNat v8))).length ((b0.drop (Int.toNat 0)).take ((Int.toNat v8) - (Int.toNat 0))))))
      (none))
    (none))
  (some ((((b0, ()), ()), ())))

noncomputable def slices_Repeat_impl_Frac_impl_Frac_l8 (n : Nat) : Nat → Int → (List ((Int) × (Int))) → Option ((((List ((Int) × (Int))) × (Unit)) × (Unit)) × (Unit))
  | 0, _, _ => none
  | k + 1, v8, b0 => slices_Repeat_impl_Frac_impl_Frac_t8 n (slices_Repeat_impl_Frac_impl_Frac_l8 n k) v8 b0

noncomputable def slices_Repeat_impl_Frac_impl_Frac_t (n : Nat) (h8 : Nat → Int → (List ((Int) × (Int))) → Option ((((List ((Int) × (Int))) × (Unit)) × (Unit)) × (Unit))) (a0 : List ((Int) × (Int))) (a1 : Int) : Option ((((List ((Int) × (Int))) × (Unit)) × (Unit)) × (Unit)) :=
  cond (decide (a1 < 0))
  (none)
  ((math_bits_Mul n ((IntKind.wrap .u64 ((a0.length : Nat) : Int))) ((IntKind.wrap .u64 a1))).bind fun r0 =>
    cond (decide (r0.1.1.1 > 0))
    (none)
    (cond (decide (r0.1.2.1.1 > 9223372036854775807))
      (none)
      (cond (((((IntKind.wrap .i64 r0.1.2.1.1) == (IntKind.wrap .i64 r0.1.2.1.1)) && decide (0 ≤ (IntKind.wrap .i64 r0.1.2.1.1))) && decide (((Int.toNat (IntKind.wrap .i64 r0.1.2.1.1)) * 17) ≤ 70368744177664)))
        (h8 n ((((copyN (List.replicate (Int.toNat (IntKind.wrap .i64 r0.1.2.1.1)) ((0 : Int), (0 : Int))).length a0) : Nat) : Int)) ((copyL (List.replicate (Int.toNat (IntKind.wrap .i64 r0.1.2.1.1)) (0, 0)) 0 (List.replicate (Int.toNat (IntKind.wrap .i64 r0.1.2.1.1)) ((0 : Int), (0 : Int))).length a0)))
        (none))))

noncomputable def slices_Repeat_impl_Frac_impl_Frac (n : Nat) (a0 : List ((Int) × (Int))) (a1 : Int) : Option ((((List ((Int) × (Int))) × (Unit)) × (Unit)) × (Unit)) := slices_Repeat_impl_Frac_impl_Frac_t n (slices_Repeat_impl_Frac_impl_Frac_l8 n) a0 a1

noncomputable def impl_EvenScale_t (n : Nat) (a0 : (Int) × (Int)) (a1 : Int) : Option ((((((Int) × (Int)) × (List ((Int) × (Int)))) × (Unit)) × (((Int) × (Unit)) × (Unit))) × (Unit)) :=
  (impl_ValidFrac n ((a0.1, a0.2))).bind fun r0 =>
  cond (!r0.1.1.1)
  (some ((((((0, 0), []), ()), ((1, ()), ())), ())))
  ((impl_isUnit n ((a0.1, a0.2))).bind fun r1 =>
    cond (!r1.1.1.1)
    (some ((((((0, 0), []), ()), ((2, ()), ())), ())))
    ((impl_within n a1 2 60).bind fun r2 =>
      cond (!r2.1.1.1)
      (some ((((((0, 0), []), ()), ((2, ()), ())), ())))
      ((impl_zero n).bind fun r3 =>
        (slices_Repeat_impl_Frac_impl_Frac n (((r3.1.1.1.1, r3.1.1.1.2) :: [])) a1).bind fun r4 =>
        (impl_ValidScale n (((a0.1, a0.2), r4.1.1.1))).bind fun r5 =>
        cond (!r5.1.1.1)
        (some ((((((0, 0), []), ()), ((3, ()), ())), ())))
        (some ((((((a0.1, a0.2), r4.1.1.1), ()), ((0, ()), ())), ()))))))

noncomputable def impl_EvenScale (n : Nat) (a0 : (Int) × (Int)) (a1 : Int) : Option ((((((Int) × (Int)) × (List ((Int) × (Int)))) × (Unit)) × (((Int) × (Unit)) × (Unit))) × (Unit)) := impl_EvenScale_t n a0 a1

noncomputable def impl_LeastCount_t (n : Nat) (a0 : ((Int) × (Int)) × (List ((Int) × (Int)))) (a1 : (Int) × (Bool)) : Option (((((Int) × (Int)) × (Unit)) × (((Int) × (Unit)) × (Unit))) × (Unit)) :=
  (impl_ValidScale n (((a0.1.1, a0.1.2), a0.2))).bind fun r0 =>
  cond (!r0.1.1.1)
  (some (((((0, 0), ()), ((1, ()), ())), ())))
  ((impl_ValidVernier n ((a1.1, a1.2))).bind fun r1 =>
    cond (!r1.1.1.1)
    (some (((((0, 0), ()), ((1, ()), ())), ())))
    ((impl_num n a1.1).bind fun r2 =>
      (impl_calc_div n ((a0.1.1, a0.1.2)) ((r2.1.1.1.1, r2.1.1.1.2)) false).bind fun r3 =>
      (impl_calc_one n ((r3.1.1.1.1, r3.1.1.1.2)) r3.2.1).bind fun r4 =>
      some (((((r4.1.1.1.1, r4.1.1.1.2), ()), ((r4.1.2.1.1, ()), ())), ()))))

noncomputable def impl_LeastCount (n : Nat) (a0 : ((Int) × (Int)) × (List ((Int) × (Int)))) (a1 : (Int) × (Bool)) : Option (((((Int) × (Int)) × (Unit)) × (((Int) × (Unit)) × (Unit))) × (Unit)) := impl_LeastCount_t n a0 a1

noncomputable def spec_AddFracs_t (n : Nat) (a0 : (Int) × (Int)) (a1 : (Int) × (Int)) : Option (((((Int) × (Int)) × (Unit)) × (((Int) × (Unit)) × (Unit))) × (Unit)) :=
  (spec_l01Two n ((a0.1, a0.2)) ((a1.1, a1.2))).bind fun r0 =>
  cond ((r0.1.1.1 != 0))
  (some (((((0, 0), ()), ((r0.1.1.1, ()), ())), ())))
  ((spec_l01Add n ((a0.1, a0.2)) ((a1.1, a1.2))).bind fun r1 =>
    some (((((r1.1.1.1.1, r1.1.1.1.2), ()), ((r1.1.2.1.1, ()), ())), ())))

noncomputable def spec_AddFracs (n : Nat) (a0 : (Int) × (Int)) (a1 : (Int) × (Int)) : Option (((((Int) × (Int)) × (Unit)) × (((Int) × (Unit)) × (Unit))) × (Unit)) := spec_AddFracs_t n a0 a1

noncomputable def laws_FnVerniers_t25 (n : Nat) (g25 : Int → Int → Int → Int → (List ((Int) × (Int))) → Int → Int → Int → Int → Int → Bool → Option ((((Bool) × (Unit)) × (Unit)) × (Unit))) (v22 : Int) (v10 : Int) (b0_0 : Int) (b0_1 : Int) (b0_2 : List ((Int) × (Int))) (b1_0 : Int) (b1_1 : Int) (b2_0 : Int) (b2_1 : Int) (b3_0 : Int) (b3_1 : Bool) : Option ((((Bool) × (Unit)) × (Unit)) × (Unit)) :=
  cond (decide (v22 < b3_0))
  ((impl_MisfitOf n (((b0_0, b0_1), b0_2)) ((b3_0, b3_1)) ((b2_0, b2_1)) v22).bind fun r14 =>
    (impl_LineAt n (((b0_0, b0_1), b0_2)) ((b3_0, b3_1)) ((b2_0, b2_1)) v22).bind fun r15 =>
    cond ((r14.1.2.1.1 != 0))
    (some ((((false, ()), ()), ())))
    ((laws_f6less n ((r14.1.1.1.1, r14.1.1.1.2)) ((b1_0, b1_1))).bind fun r16 =>
      cond r16.1.1.1
      (some ((((false, ()), ()), ())))
      (cond (decide (v22 < v10))
        (cond (((r14.1.1.1.1 == b1_0) && ((r14.1.1.1.2 == b1_1) && true)))
          (some ((((false, ()), ()), ())))
          (cond ((r15.1.2.1.1 != 0))
            (some ((((false, ()), ()), ())))
            ((impl_NearestMark n (((b0_0, b0_1), b0_2)) ((r15.1.1.1.1, r15.1.1.1.2))).bind fun r17 =>
              cond ((r17.1.2.1.1 != 0))
              (some ((((false, ()), ()), ())))
              (cond (decide (r17.1.1.1 < 0))
                (some ((((false, ()), ()), ())))
                (cond (decide (r17.1.1.1 ≥ ((b0_2.length : Nat) : Int)))
                  (some ((((false, ()), ()), ())))
                  ((impl_MarkAt n (((b0_0, b0_1), b0_2)) r17.1.1.1).bind fun r18 =>
                    (spec_SubFracs n ((r15.1.1.1.1, r15.1.1.1.2)) ((r18.1.1.1.1, r18.1.1.1.2))).bind fun r19 =>
                    cond (decide (r19.1.1.1.1 < 0))
                    (cond ((r18.1.2.1.1 != 0))
                      (some ((((false, ()), ()), ())))
                      (cond ((r19.1.2.1.1 != 0))
                        (some ((((false, ()), ()), ())))
                        (cond ((!(((IntKind.wrap .i64 (0 - r19.1.1.1.1)) == r14.1.1.1.1) && ((r19.1.1.1.2 == r14.1.1.1.2) && true))))
                          (some ((((false, ()), ()), ())))
                          (g25 ((IntKind.wrap .i64 (v22 + 1))) v10 b0_0 b0_1 b0_2 b1_0 b1_1 b2_0 b2_1 b3_0 b3_1))))
                    (cond ((r18.1.2.1.1 != 0))
                      (some ((((false, ()), ()), ())))
                      (cond ((r19.1.2.1.1 != 0))
                        (some ((((false, ()), ()), ())))
                        (cond ((!((r19.1.1.1.1 == r14.1.1.1.1) && ((r19.1.1.1.2 == r14.1.1.1.2) && true))))
                          (some ((((false, ()), ()), ())))
                          (g25 ((IntKind.wrap .i64 (v22 + 1))) v10 b0_0 b0_1 b0_2 b1_0 b1_1 b2_0 b2_1 b3_0 b3_1))))))))))
        (cond ((r15.1.2.1.1 != 0))
          (some ((((false, ()), ()), ())))
          ((impl_NearestMark n (((b0_0, b0_1), b0_2)) ((r15.1.1.1.1, r15.1.1.1.2))).bind fun r20 =>
            cond ((r20.1.2.1.1 != 0))
            (some ((((false, ()), ()), ())))
            (cond (decide (r20.1.1.1 < 0))
              (some ((((false, ()), ()), ())))
              (cond (decide (r20.1.1.1 ≥ ((b0_2.length : Nat) : Int)))
                (some ((((false, ()), ()), ())))
                ((impl_MarkAt n (((b0_0, b0_1), b0_2)) r20.1.1.1).bind fun r21 =>
                  (spec_SubFracs n ((r15.1.1.1.1, r15.1.1.1.2)) ((r21.1.1.1.1, r21.1.1.1.2))).bind fun r22 =>
                  cond (decide (r22.1.1.1.1 < 0))
                  (cond ((r21.1.2.1.1 != 0))
                    (some ((((false, ()), ()), ())))
                    (cond ((r22.1.2.1.1 != 0))
                      (some ((((false, ()), ()), ())))
                      (cond ((!(((IntKind.wrap .i64 (0 - r22.1.1.1.1)) == r14.1.1.1.1) && ((r22.1.1.1.2 == r14.1.1.1.2) && true))))
                        (some ((((false, ()), ()), ())))
                        (g25 ((IntKind.wrap .i64 (v22 + 1))) v10 b0_0 b0_1 b0_2 b1_0 b1_1 b2_0 b2_1 b3_0 b3_1))))
                  (cond ((r21.1.2.1.1 != 0))
                    (some ((((false, ()), ()), ())))
                    (cond ((r22.1.2.1.1 != 0))
                      (some ((((false, ()), ()), ())))
                      (cond ((!((r22.1.1.1.1 == r14.1.1.1.1) && ((r22.1.1.1.2 == r14.1.1.1.2) && true))))
                        (some ((((false, ()), ()), ())))
                        (g25 ((IntKind.wrap .i64 (v22 + 1))) v10 b0_0 b0_1 b0_2 b1_0 b1_1 b2_0 b2_1 b3_0 b3_1))))))))))))
  ((impl_EvenScale n ((b0_0, b0_1)) (((b0_2.length : Nat) : Int))).bind fun r23 =>
    (impl_ReadVernier n (((r23.1.1.1.1.1, r23.1.1.1.1.2), r23.1.1.1.2)) ((b3_0, b3_1)) ((b2_0, b2_1))).bind fun r24 =>
    cond ((r23.1.2.1.1 != 0))
    (cond ((r23.1.2.1.1 == 0))
      (cond ((r24.1.2.1.1 == 0))
        (some ((((true, ()), ()), ())))
        (cond ((r24.1.2.1.1 == 2))
          (some ((((true, ()), ()), ())))
          (some (((((r24.1.2.1.1 == 3), ()), ()), ())))))
      (cond ((r23.1.2.1.1 == 3))
        (cond ((r24.1.2.1.1 == 0))
          (some ((((true, ()), ()), ())))
          (cond ((r24.1.2.1.1 == 2))
            (some ((((true, ()), ()), ())))
            (some (((((r24.1.2.1.1 == 3), ()), ()), ())))))
        (some ((((false, ()), ()), ())))))
    (cond ((r24.1.2.1.1 != 0))
      (cond ((r23.1.2.1.1 == 0))
        (cond ((r24.1.2.1.1 == 0))
          (some ((((true, ()), ()), ())))
          (cond ((r24.1.2.1.1 == 2))
            (some ((((true, ()), ()), ())))
            (some (((((r24.1.2.1.1 == 3), ()), ()), ())))))
        (cond ((r23.1.2.1.1 == 3))
          (cond ((r24.1.2.1.1 == 0))
            (some ((((true, ()), ()), ())))
            (cond ((r24.1.2.1.1 == 2))
              (some ((((true, ()), ()), ())))
              (some (((((r24.1.2.1.1 == 3), ()), ()), ())))))
          (some ((((false, ()), ()), ())))))
      ((impl_LeastCount n (((r23.1.1.1.1.1, r23.1.1.1.1.2), r23.1.1.1.2)) ((b3_0, b3_1))).bind fun r25 =>
        (spec_SubFracs n ((r24.1.1.1.1, r24.1.1.1.2)) ((b2_0, b2_1))).bind fun r26 =>
        (spec_AddFracs n (((if r26.1.1.1.1 < (IntKind.wrap .i64 (0 - r26.1.1.1.1)) then (IntKind.wrap .i64 (0 - r26.1.1.1.1)) else r26.1.1.1.1), r26.1.1.1.2)) (((if r26.1.1.1.1 < (IntKind.wrap .i64 (0 - r26.1.1.1.1)) then (IntKind.wrap .i64 (0 - r26.1.1.1.1)) else r26.1.1.1.1), r26.1.1.1.2))).bind fun r27 =>
        cond ((r25.1.2.1.1 == 0))
        (cond ((r26.1.2.1.1 == 0))
          (cond ((r27.1.2.1.1 == 0))
            ((laws_f6less n ((r25.1.1.1.1, r25.1.1.1.2)) ((r27.1.1.1.1, r27.1.1.1.2))).bind fun r28 =>
              some (((((!r28.1.1.1), ()), ()), ())))
            (some ((((false, ()), ()), ()))))
          (some ((((false, ()), ()), ()))))
        (some ((((false, ()), ()), ()))))))

noncomputable def laws_FnVerniers_l25 (n : Nat) : Nat → Int → Int → Int → Int → (List ((Int) × (Int))) → Int → Int → Int → Int → Int → Bool → Option ((((Bool) × (Unit)) × (Unit)) × (Unit))
  | 0, _, _, _, _, _, _, _, _, _, _, _ => none
  | k + 1, v22, v10, b0_0, b0_1, b0_2, b1_0, b1_1, b2_0, b2_1, b3_0, b3_1 => laws_FnVerniers_t25 n (laws_FnVerniers_l25 n k) v22 v10 b0_0 b0_1 b0_2 b1_0 b1_1 b2_0 b2_1 b3_0 b3_1

noncomputable def laws_FnVerniers_t (n : Nat) (h25 : Nat → Int → Int → Int → Int → (List ((Int) × (Int))) → Int → Int → Int → Int → Int → Bool → Option ((((Bool) × (Unit)) × (Unit)) × (Unit))) (a0 : List (Int)) (a1 : List (Int)) : Option ((((Bool) × (Unit)) × (Unit)) × (Unit)) :=
  (laws_f6big n a0).bind fun r0 =>
  cond r0.1.1.1
  (some ((((true, ()), ()), ())))
  ((laws_f6big n a1).bind fun r1 =>
    cond r1.1.1.1
    (some ((((true, ()), ()), ())))
    ((spec_P6Scale n a0 28).bind fun r2 =>
      (spec_P6Vernier n a1).bind fun r3 =>
      (spec_P6Place n a1 (((r2.1.1.1.1.1, r2.1.1.1.1.2), r2.1.1.1.2))).bind fun r4 =>
      (impl_LineThatFits n (((r2.1.1.1.1.1, r2.1.1.1.1.2), r2.1.1.1.2)) ((r3.1.1.1.1, r3.1.1.1.2)) ((r4.1.1.1.1, r4.1.1.1.2))).bind fun r5 =>
      (spec_LineThatFits n (((r2.1.1.1.1.1, r2.1.1.1.1.2), r2.1.1.1.2)) ((r3.1.1.1.1, r3.1.1.1.2)) ((r4.1.1.1.1, r4.1.1.1.2))).bind fun r6 =>
      (impl_ReadVernier n (((r2.1.1.1.1.1, r2.1.1.1.1.2), r2.1.1.1.2)) ((r3.1.1.1.1, r3.1.1.1.2)) ((r4.1.1.1.1, r4.1.1.1.2))).bind fun r7 =>
      (spec_ReadVernier n (((r2.1.1.1.1.1, r2.1.1.1.1.2), r2.1.1.1.2)) ((r3.1.1.1.1, r3.1.1.1.2)) ((r4.1.1.1.1, r4.1.1.1.2))).bind fun r8 =>
      cond ((r5.1.2.1.1 != r6.1.2.1.1))
      (some ((((false, ()), ()), ())))
      (cond ((r5.1.1.1 != r6.1.1.1))
        (some ((((false, ()), ()), ())))
        (cond ((r7.1.2.1.1 != r8.1.2.1.1))
          (some ((((false, ()), ()), ())))
          (cond ((!((r7.1.1.1.1 == r8.1.1.1.1) && ((r7.1.1.1.2 == r8.1.1.1.2) && true))))
            (some ((((false, ()), ()), ())))
            ((impl_ValidScale n (((r2.1.1.1.1.1, r2.1.1.1.1.2), r2.1.1.1.2))).bind fun r9 =>
              cond (!r9.1.1.1)
              (some ((((false, ()), ()), ())))
              ((impl_ValidVernier n ((r3.1.1.1.1, r3.1.1.1.2))).bind fun r10 =>
                cond (!r10.1.1.1)
                (some ((((false, ()), ()), ())))
                (cond ((r7.1.2.1.1 != 0))
                  (cond ((r7.1.2.1.1 == 2))
                    (some ((((true, ()), ()), ())))
                    (some (((((r7.1.2.1.1 == 3), ()), ()), ()))))
                  ((impl_ReadingSpan n (((r2.1.1.1.1.1, r2.1.1.1.1.2), r2.1.1.1.2)) ((r3.1.1.1.1, r3.1.1.1.2)) ((r8.1.1.1.1, r8.1.1.1.2))).bind fun r11 =>
                    cond ((r11.1.2.1.1 == 0))
                    ((impl_InSpan n (((r11.1.1.1.1.1, r11.1.1.1.1.2), (r11.1.1.1.2.1, r11.1.1.1.2.2))) ((r4.1.1.1.1, r4.1.1.1.2))).bind fun r12 =>
                      cond ((r12.1.2.1.1 != 0))
                      (some ((((false, ()), ()), ())))
                      (cond (!r12.1.1.1)
                        (some ((((false, ()), ()), ())))
                        ((impl_MisfitOf n (((r2.1.1.1.1.1, r2.1.1.1.1.2), r2.1.1.1.2)) ((r3.1.1.1.1, r3.1.1.1.2)) ((r4.1.1.1.1, r4.1.1.1.2)) r6.1.1.1).bind fun r13 =>
                          cond ((r13.1.2.1.1 != 0))
                          (some ((((false, ()), ()), ())))
                          (h25 n 0 r6.1.1.1 r2.1.1.1.1.1 r2.1.1.1.1.2 r2.1.1.1.2 r13.1.1.1.1 r13.1.1.1.2 r4.1.1.1.1 r4.1.1.1.2 r3.1.1.1.1 r3.1.1.1.2))))
                    (cond ((r11.1.2.1.1 != 3))
                      (some ((((false, ()), ()), ())))
                      ((impl_MisfitOf n (((r2.1.1.1.1.1, r2.1.1.1.1.2), r2.1.1.1.2)) ((r3.1.1.1.1, r3.1.1.1.2)) ((r4.1.1.1.1, r4.1.1.1.2)) r6.1.1.1).bind fun r29 =>
                        cond ((r29.1.2.1.1 != 0))
                        (some ((((false, ()), ()), ())))
                        (h25 n 0 r6.1.1.1 r2.1.1.1.1.1 r2.1.1.1.1.2 r2.1.1.1.2 r29.1.1.1.1 r29.1.1.1.2 r4.1.1.1.1 r4.1.1.1.2 r3.1.1.1.1 r3.1.1.1.2))))))))))))

noncomputable def laws_FnVerniers (n : Nat) (a0 : List (Int)) (a1 : List (Int)) : Option ((((Bool) × (Unit)) × (Unit)) × (Unit)) := laws_FnVerniers_t n (laws_FnVerniers_l25 n) a0 a1

noncomputable def impl_AddFracs_t (n : Nat) (a0 : (Int) × (Int)) (a1 : (Int) × (Int)) : Option (((((Int) × (Int)) × (Unit)) × (((Int) × (Unit)) × (Unit))) × (Unit)) :=
  (impl_areValid n (((a0.1, a0.2) :: ((a1.1, a1.2) :: [])))).bind fun r0 =>
  cond (!r0.1.1.1)
  (some (((((0, 0), ()), ((1, ()), ())), ())))
  ((impl_calc_add n ((a0.1, a0.2)) ((a1.1, a1.2)) false).bind fun r1 =>
    (impl_calc_one n ((r1.1.1.1.1, r1.1.1.1.2)) r1.2.1).bind fun r2 =>
    some (((((r2.1.1.1.1, r2.1.1.1.2), ()), ((r2.1.2.1.1, ()), ())), ())))

noncomputable def impl_AddFracs (n : Nat) (a0 : (Int) × (Int)) (a1 : (Int) × (Int)) : Option (((((Int) × (Int)) × (Unit)) × (((Int) × (Unit)) × (Unit))) × (Unit)) := impl_AddFracs_t n a0 a1

noncomputable def impl_CompareFracs_t (n : Nat) (a0 : (Int) × (Int)) (a1 : (Int) × (Int)) : Option ((((Int) × (Unit)) × (((Int) × (Unit)) × (Unit))) × (Unit)) :=
  (impl_areValid n (((a0.1, a0.2) :: ((a1.1, a1.2) :: [])))).bind fun r0 =>
  cond (!r0.1.1.1)
  (some ((((0, ()), ((1, ()), ())), ())))
  ((impl_compare n ((a0.1, a0.2)) ((a1.1, a1.2))).bind fun r1 =>
    some ((((r1.1.1.1, ()), ((0, ()), ())), ())))

noncomputable def impl_CompareFracs (n : Nat) (a0 : (Int) × (Int)) (a1 : (Int) × (Int)) : Option ((((Int) × (Unit)) × (((Int) × (Unit)) × (Unit))) × (Unit)) := impl_CompareFracs_t n a0 a1

noncomputable def impl_Standard_good_t (n : Nat) (a0 : (ByteArray) × ((Int) × ((((Int) × (Int)) × ((Int) × (Int))) × (((Int) × (Int)) × ((Int) × (Int)))))) (a1 : Int) : Option ((((Bool) × (Unit)) × (Unit)) × (Unit)) :=
  (impl_within n a1 a0.2.2.2.2.1 ((IntKind.wrap .i64 (a0.2.2.2.2.1 + a0.2.2.2.2.2)))).bind fun r0 =>
  some ((((r0.1.1.1, ()), ()), ()))

noncomputable def impl_Standard_good (n : Nat) (a0 : (ByteArray) × ((Int) × ((((Int) × (Int)) × ((Int) × (Int))) × (((Int) × (Int)) × ((Int) × (Int)))))) (a1 : Int) : Option ((((Bool) × (Unit)) × (Unit)) × (Unit)) := impl_Standard_good_t n a0 a1

noncomputable def impl_isWord_t2 (n : Nat) (g2 : Int → ByteArray → Int → Option ((((Bool) × (Unit)) × (Unit)) × (Unit))) (v6 : Int) (v0 : ByteArray) (v5 : Int) : Option ((((Bool) × (Unit)) × (Unit)) × (Unit)) :=
  cond (decide (v6 < v5))
  (cond ((decide (0 ≤ v6) && decide (v6 < (((ByteArray.size v0) : Nat) : Int))))
    (cond (decide ((byteAt v0 v6) < 97))
      (some ((((false, ()), ()), ())))
      (cond ((decide (0 ≤ v6) && decide (v6 < (((ByteArray.size v0) : Nat) : Int))))
        (cond (decide ((byteAt v0 v6) > 122))
          (some ((((false, ()), ()), ())))
          (g2 ((IntKind.wrap .i64 (v6 + 1))) v0 v5))
        (none)))
    (none))
  ((impl_within n ((((ByteArray.size v0) : Nat) : Int)) 1 12).bind fun r0 =>
    some ((((r0.1.1.1, ()), ()), ())))

noncomputable def impl_isWord_l2 (n : Nat) : Nat → Int → ByteArray → Int → Option ((((Bool) × (Unit)) × (Unit)) × (Unit))
  | 0, _, _, _ => none
  | k + 1, v6, v0, v5 => impl_isWord_t2 n (impl_isWord_l2 n k) v6 v0 v5

noncomputable def impl_isWord_t (n : Nat) (h2 : Nat → Int → ByteArray → Int → Option ((((Bool) × (Unit)) × (Unit)) × (Unit))) (a0 : ByteArray) : Option ((((Bool) × (Unit)) × (Unit)) × (Unit)) :=
  h2 n 0 a0 ((((ByteArray.size a0) : Nat) : Int))

noncomputable def impl_isWord (n : Nat) (a0 : ByteArray) : Option ((((Bool) × (Unit)) × (Unit)) × (Unit)) := impl_isWord_t n (impl_isWord_l2 n) a0

noncomputable def impl_ValidChain_1_t (n : Nat) (a0 : (ByteArray) × ((Int) × ((((Int) × (Int)) × ((Int) × (Int))) × (((Int) × (Int)) × ((Int) × (Int)))))) (b0 : (ByteArray) × ((Int) × ((((Int) × (Int)) × ((Int) × (Int))) × (((Int) × (Int)) × ((Int) × (Int)))))) : Option ((((Bool) × (Unit)) × (Unit)) × (((ByteArray) × ((Int) × ((((Int) × (Int)) × ((Int) × (Int))) × (((Int) × (Int)) × ((Int) × (Int)))))) × (Unit))) :=
  some (((((eqStr a0.1 b0.1), ()), ()), ((b0.1, (b0.2.1, (((b0.2.2.1.1.1, b0.2.2.1.1.2), (b0.2.2.1.2.1, b0.2.2.1.2.2)), ((b0.2.2.2.1.1, b0.2.2.2.1.2), (b0.2.2.2.2.1, b0.2.2.2.2.2))))), ())))

noncomputable def impl_ValidChain_1 (n : Nat) (a0 : (ByteArray) × ((Int) × ((((Int) × (Int)) × ((Int) × (Int))) × (((Int) × (Int)) × ((Int) × (Int)))))) (b0 : (ByteArray) × ((Int) × ((((Int) × (Int)) × ((Int) × (Int))) × (((Int) × (Int)) × ((Int) × (Int)))))) : Option ((((Bool) × (Unit)) × (Unit)) × (((ByteArray) × ((Int) × ((((Int) × (Int)) × ((Int) × (Int))) × (((Int) × (Int)) × ((Int) × (Int)))))) × (Unit))) := impl_ValidChain_1_t n a0 b0

noncomputable def slices_IndexFunc_impl_Standard_impl_Standard_at_impl_ValidChain_1_t2 (n : Nat) (g2 : Int → (List ((ByteArray) × ((Int) × ((((Int) × (Int)) × ((Int) × (Int))) × (((Int) × (Int)) × ((Int) × (Int))))))) → Int → ByteArray → Int → Int → Int → Int → Int → Int → Int → Int → Int → Option ((((Int) × (Unit)) × (Unit)) × (((ByteArray) × ((Int) × ((((Int) × (Int)) × ((Int) × (Int))) × (((Int) × (Int)) × ((Int) × (Int)))))) × (Unit)))) (v8 : Int) (v0 : List ((ByteArray) × ((Int) × ((((Int) × (Int)) × ((Int) × (Int))) × (((Int) × (Int)) × ((Int) × (Int))))))) (v7 : Int) (b0_0 : ByteArray) (b0_1 : Int) (b0_2 : Int) (b0_3 : Int) (b0_4 : Int) (b0_5 : Int) (b0_6 : Int) (b0_7 : Int) (b0_8 : Int) (b0_9 : Int) : Option ((((Int) × (Unit)) × (Unit)) × (((ByteArray) × ((Int) × ((((Int) × (Int)) × ((Int) × (Int))) × (((Int) × (Int)) × ((Int) × (Int)))))) × (Unit))) :=
  cond (decide (v8 < v7))
  (cond ((decide (0 ≤ v8) && decide (v8 < ((v0.length : Nat) : Int))))
    ((impl_ValidChain_1 n (((v0.getD (Int.toNat v8) ((ByteArray.mk #[]), (0, (((0, 0), (0, 0)), ((0, 0), (0, 0)))))).1, ((v0.getD (Int.toNat v8) ((ByteArray.mk #[]), (0, (((0, 0), (0, 0)), ((0, 0), (0, 0)))))).2.1, ((((v0.getD (Int.toNat v8) ((ByteArray.mk #[]), (0, (((0, 0), (0, 0)), ((0, 0), (0, 0)))))).2.2.1.1.1, (v0.getD (Int.toNat v8) ((ByteArray.mk #[]), (0, (((0, 0), (0, 0)), ((0, 0), (0, 0)))))).2.2.1.1.2), ((v0.getD (Int.toNat v8) ((ByteArray.mk #[]), (0, (((0, 0), (0, 0)), ((0, 0), (0, 0)))))).2.2.1.2.1, (v0.getD (Int.toNat v8) ((ByteArray.mk #[]), (0, (((0, 0), (0, 0)), ((0, 0), (0, 0)))))).2.2.1.2.2)), (((v0.getD (Int.toNat v8) ((ByteArray.mk #[]), (0, (((0, 0), (0, 0)), ((0, 0), (0, 0)))))).2.2.2.1.1, (v0.getD (Int.toNat v8) ((ByteArray.mk #[]), (0, (((0, 0), (0, 0)), ((0, 0), (0, 0)))))).2.2.2.1.2), ((v0.getD (Int.toNat v8) ((ByteArray.mk #[]), (0, (((0, 0), (0, 0)), ((0, 0), (0, 0)))))).2.2.2.2.1, (v0.getD (Int.toNat v8) ((ByteArray.mk #[]), (0, (((0, 0), (0, 0)), ((0, 0), (0, 0)))))).2.2.2.2.2)))))) ((b0_0, (b0_1, (((b0_2, b0_3), (b0_4, b0_5)), ((b0_6, b0_7), (b0_8, b0_9))))))).bind fun r0 =>
      cond r0.1.1.1
      (some ((((v8, ()), ()), ((r0.2.1.1, (r0.2.1.2.1, (((r0.2.1.2.2.1.1.1, r0.2.1.2.2.1.1.2), (r0.2.1.2.2.1.2.1, r0.2.1.2.2.1.2.2)), ((r0.2.1.2.2.2.1.1, r0.2.1.2.2.2.1.2), (r0.2.1.2.2.2.2.1, r0.2.1.2.2.2.2.2))))), ()))))
      (g2 ((IntKind.wrap .i64 (v8 + 1))) v0 v7 r0.2.1.1 r0.2.1.2.1 r0.2.1.2.2.1.1.1 r0.2.1.2.2.1.1.2 r0.2.1.2.2.1.2.1 r0.2.1.2.2.1.2.2 r0.2.1.2.2.2.1.1 r0.2.1.2.2.2.1.2 r0.2.1.2.2.2.2.1 r0.2.1.2.2.2.2.2))
    (none))
  (some (((((-1), ()), ()), ((b0_0, (b0_1, (((b0_2, b0_3), (b0_4, b0_5)), ((b0_6, b0_7), (b0_8, b0_9))))), ()))))

noncomputable def slices_IndexFunc_impl_Standard_impl_Standard_at_impl_ValidChain_1_l2 (n : Nat) : Nat → Int → (List ((ByteArray) × ((Int) × ((((Int) × (Int)) × ((Int) × (Int))) × (((Int) × (Int)) × ((Int) × (Int))))))) → Int → ByteArray → Int → Int → Int → Int → Int → Int → Int → Int → Int → Option ((((Int) × (Unit)) × (Unit)) × (((ByteArray) × ((Int) × ((((Int) × (Int)) × ((Int) × (Int))) × (((Int) × (Int)) × ((Int) × (Int)))))) × (Unit)))
  | 0, _, _, _, _, _, _, _, _, _, _, _, _, _ => none
  | k + 1, v8, v0, v7, b0_0, b0_1, b0_2, b0_3, b0_4, b0_5, b0_6, b0_7, b0_8, b0_9 => slices_IndexFunc_impl_Standard_impl_Standard_at_impl_ValidChain_1_t2 n (slices_IndexFunc_impl_Standard_impl_Standard_at_impl_ValidChain_1_l2 n k) v8 v0 v7 b0_0 b0_1 b0_2 b0_3 b0_4 b0_5 b0_6 b0_7 b0_8 b0_9

noncomputable def slices_IndexFunc_impl_Standard_impl_Standard_at_impl_ValidChain_1_t (n : Nat) (h2 : Nat → Int → (List ((ByteArray) × ((Int) × ((((Int) × (Int)) × ((Int) × (Int))) × (((Int) × (Int)) × ((Int) × (Int))))))) → Int → ByteArray → Int → Int → Int → Int → Int → Int → Int → Int → Int → Option ((((Int) × (Unit)) × (Unit)) × (((ByteArray) × ((Int) × ((((Int) × (Int)) × ((Int) × (Int))) × (((Int) × (Int)) × ((Int) × (Int)))))) × (Unit)))) (a0 : List ((ByteArray) × ((Int) × ((((Int) × (Int)) × ((Int) × (Int))) × (((Int) × (Int)) × ((Int) × (Int))))))) (b0 : (ByteArray) × ((Int) × ((((Int) × (Int)) × ((Int) × (Int))) × (((Int) × (Int)) × ((Int) × (Int)))))) : Option ((((Int) × (Unit)) × (Unit)) × (((ByteArray) × ((Int) × ((((Int) × (Int)) × ((Int) × (Int))) × (((Int) × (Int)) × ((Int) × (Int)))))) × (Unit))) :=
  h2 n 0 a0 (((a0.length : Nat) : Int)) b0.1 b0.2.1 b0.2.2.1.1.1 b0.2.2.1.1.2 b0.2.2.1.2.1 b0.2.2.1.2.2 b0.2.2.2.1.1 b0.2.2.2.1.2 b0.2.2.2.2.1 b0.2.2.2.2.2

noncomputable def slices_IndexFunc_impl_Standard_impl_Standard_at_impl_ValidChain_1 (n : Nat) (a0 : List ((ByteArray) × ((Int) × ((((Int) × (Int)) × ((Int) × (Int))) × (((Int) × (Int)) × ((Int) × (Int))))))) (b0 : (ByteArray) × ((Int) × ((((Int) × (Int)) × ((Int) × (Int))) × (((Int) × (Int)) × ((Int) × (Int)))))) : Option ((((Int) × (Unit)) × (Unit)) × (((ByteArray) × ((Int) × ((((Int) × (Int)) × ((Int) × (Int))) × (((Int) × (Int)) × ((Int) × (Int)))))) × (Unit))) := slices_IndexFunc_impl_Standard_impl_Standard_at_impl_ValidChain_1_t n (slices_IndexFunc_impl_Standard_impl_Standard_at_impl_ValidChain_1_l2 n) a0 b0

noncomputable def slices_ContainsFunc_impl_Standard_impl_Standard_at_impl_ValidChain_1_t (n : Nat) (a0 : List ((ByteArray) × ((Int) × ((((Int) × (Int)) × ((Int) × (Int))) × (((Int) × (Int)) × ((Int) × (Int))))))) (b0 : (ByteArray) × ((Int) × ((((Int) × (Int)) × ((Int) × (Int))) × (((Int) × (Int)) × ((Int) × (Int)))))) : Option ((((Bool) × (Unit)) × (Unit)) × (((ByteArray) × ((Int) × ((((Int) × (Int)) × ((Int) × (Int))) × (((Int) × (Int)) × ((Int) × (Int)))))) × (Unit))) :=
  (slices_IndexFunc_impl_Standard_impl_Standard_at_impl_ValidChain_1 n a0 ((b0.1, (b0.2.1, (((b0.2.2.1.1.1, b0.2.2.1.1.2), (b0.2.2.1.2.1, b0.2.2.1.2.2)), ((b0.2.2.2.1.1, b0.2.2.2.1.2), (b0.2.2.2.2.1, b0.2.2.2.2.2))))))).bind fun r0 =>
  some ((((decide (r0.1.1.1 ≥ 0), ()), ()), ((r0.2.1.1, (r0.2.1.2.1, (((r0.2.1.2.2.1.1.1, r0.2.1.2.2.1.1.2), (r0.2.1.2.2.1.2.1, r0.2.1.2.2.1.2.2)), ((r0.2.1.2.2.2.1.1, r0.2.1.2.2.2.1.2), (r0.2.1.2.2.2.2.1, r0.2.1.2.2.2.2.2))))), ())))

noncomputable def slices_ContainsFunc_impl_Standard_impl_Standard_at_impl_ValidChain_1 (n : Nat) (a0 : List ((ByteArray) × ((Int) × ((((Int) × (Int)) × ((Int) × (Int))) × (((Int) × (Int)) × ((Int) × (Int))))))) (b0 : (ByteArray) × ((Int) × ((((Int) × (Int)) × ((Int) × (Int))) × (((Int) × (Int)) × ((Int) × (Int)))))) : Option ((((Bool) × (Unit)) × (Unit)) × (((ByteArray) × ((Int) × ((((Int) × (Int)) × ((Int) × (Int))) × (((Int) × (Int)) × ((Int) × (Int)))))) × (Unit))) := slices_ContainsFunc_impl_Standard_impl_Standard_at_impl_ValidChain_1_t n a0 b0

noncomputable def impl_ValidChain_t2 (n : Nat) (g2 : Int → (List ((ByteArray) × ((Int) × ((((Int) × (Int)) × ((Int) × (Int))) × (((Int) × (Int)) × ((Int) × (Int))))))) → (List ((ByteArray) × ((Int) × ((((Int) × (Int)) × ((Int) × (Int))) × (((Int) × (Int)) × ((Int) × (Int))))))) → Int → Option ((((Bool) × (Unit)) × (Unit)) × (Unit))) (v7 : Int) (v0 : List ((ByteArray) × ((Int) × ((((Int) × (Int)) × ((Int) × (Int))) × (((Int) × (Int)) × ((Int) × (Int))))))) (v5 : List ((ByteArray) × ((Int) × ((((Int) × (Int)) × ((Int) × (Int))) × (((Int) × (Int)) × ((Int) × (Int))))))) (v6 : Int) : Option ((((Bool) × (Unit)) × (Unit)) × (Unit)) :=
  cond (decide (v7 < v6))
  (cond ((decide (0 ≤ v7) && decide (v7 < ((v5.length : Nat) : Int))))
    ((impl_isWord n ((v5.getD (Int.toNat v7) ((ByteArray.mk #[]), (0, (((0, 0), (0, 0)), ((0, 0), (0, 0)))))).1)).bind fun r0 =>
      cond (!r0.1.1.1)
      (some ((((false, ()), ()), ())))
      (cond ((decide (0 ≤ v7) && decide (v7 ≤ ((v0.length : Nat) : Int))))
        ((slices_ContainsFunc_impl_Standard_impl_Standard_at_impl_ValidChain_1 n (((v0.drop (Int.toNat 0)).take ((Int.toNat v7) - (Int.toNat 0)))) (((v5.getD (Int.toNat v7) ((ByteArray.mk #[]), (0, (((0, 0), (0, 0)), ((0, 0), (0, 0)))))).1, ((v5.getD (Int.toNat v7) ((ByteArray.mk #[]), (0, (((0, 0), (0, 0)), ((0, 0), (0, 0)))))).2.1, ((((v5.getD (Int.toNat v7) ((ByteArray.mk #[]), (0, (((0, 0), (0, 0)), ((0, 0), (0, 0)))))).2.2.1.1.1, (v5.getD (Int.toNat v7) ((ByteArray.mk #[]), (0, (((0, 0), (0, 0)), ((0, 0), (0, 0)))))).2.2.1.1.2), ((v5.getD (Int.toNat v7) ((ByteArray.mk #[]), (0, (((0, 0), (0, 0)), ((0, 0), (0, 0)))))).2.2.1.2.1, (v5.getD (Int.toNat v7) ((ByteArray.mk #[]), (0, (((0, 0), (0, 0)), ((0, 0), (0, 0)))))).2.2.1.2.2)), (((v5.getD (Int.toNat v7) ((ByteArray.mk #[]), (0, (((0, 0), (0, 0)), ((0, 0), (0, 0)))))).2.2.2.1.1, (v5.getD (Int.toNat v7) ((ByteArray.mk #[]), (0, (((0, 0), (0, 0)), ((0, 0), (0, 0)))))).2.2.2.1.2), ((v5.getD (Int.toNat v7) ((ByteArray.mk #[]), (0, (((0, 0), (0, 0)), ((0, 0), (0, 0)))))).2.2.2.2.1, (v5.getD (Int.toNat v7) ((ByteArray.mk #[]), (0, (((0, 0), (0, 0)), ((0, 0), (0, 0)))))).2.2.2.2.2))))))).bind fun r1 =>
          cond r1.1.1.1
          (some ((((false, ()), ()), ())))
          ((impl_within n r1.2.1.2.1 (-1) ((IntKind.wrap .i64 (v7 - 1)))).bind fun r2 =>
            cond (!r2.1.1.1)
            (some ((((false, ()), ()), ())))
            ((impl_ValidSpan n (((r1.2.1.2.2.1.1.1, r1.2.1.2.2.1.1.2), (r1.2.1.2.2.1.2.1, r1.2.1.2.2.1.2.2)))).bind fun r3 =>
              cond (!r3.1.1.1)
              (some ((((false, ()), ()), ())))
              ((impl_ValidFrac n ((r1.2.1.2.2.2.1.1, r1.2.1.2.2.2.1.2))).bind fun r4 =>
                cond (!r4.1.1.1)
                (some ((((false, ()), ()), ())))
                (cond (decide (r1.2.1.2.2.2.1.1 < 0))
                  (some ((((false, ()), ()), ())))
                  ((impl_within n r1.2.1.2.2.2.2.1 0 100000).bind fun r5 =>
                    cond (!r5.1.1.1)
                    (some ((((false, ()), ()), ())))
                    ((impl_within n r1.2.1.2.2.2.2.2 0 100000).bind fun r6 =>
                      cond (!r6.1.1.1)
                      (some ((((false, ()), ()), ())))
                      (cond (decide (r1.2.1.2.1 ≥ 0))
                        (cond ((decide (0 ≤ r1.2.1.2.1) && decide (r1.2.1.2.1 < ((v0.length : Nat) : Int))))
                          ((impl_Standard_good n (((v0.getD (Int.toNat r1.2.1.2.1) ((ByteArray.mk #[]), (0, (((0, 0), (0, 0)), ((0, 0), (0, 0)))))).1, ((v0.getD (Int.toNat r1.2.1.2.1) ((ByteArray.mk #[]), (0, (((0, 0), (0, 0)), ((0, 0), (0, 0)))))).2.1, ((((v0.getD (Int.toNat r1.2.1.2.1) ((ByteArray.mk #[]), (0, (((0, 0), (0, 0)), ((0, 0), (0, 0)))))).2.2.1.1.1, (v0.getD (Int.toNat r1.2.1.2.1) ((ByteArray.mk #[]), (0, (((0, 0), (0, 0)), ((0, 0), (0, 0)))))).2.2.1.1.2), ((v0.getD (Int.toNat r1.2.1.2.1) ((ByteArray.mk #[]), (0, (((0, 0), (0, 0)), ((0, 0), (0, 0)))))).2.2.1.2.1, (v0.getD (Int.toNat r1.2.1.2.1) ((ByteArray.mk #[]), (0, (((0, 0), (0, 0)), ((0, 0), (0, 0)))))).2.2.1.2.2)), (((v0.getD (Int.toNat r1.2.1.2.1) ((ByteArray.mk #[]), (0, (((0, 0), (0, 0)), ((0, 0), (0, 0)))))).2.2.2.1.1, (v0.getD (Int.toNat r1.2.1.2.1) ((ByteArray.mk #[]), (0, (((0, 0), (0, 0)), ((0, 0), (0, 0)))))).2.2.2.1.2), ((v0.getD (Int.toNat r1.2.1.2.1) ((ByteArray.mk #[]), (0, (((0, 0), (0, 0)), ((0, 0), (0, 0)))))).2.2.2.2.1, (v0.getD (Int.toNat r1.2.1.2.1) ((ByteArray.mk #[]), (0, (((0, 0), (0, 0)), ((0, 0), (0, 0)))))).2.2.2.2.2)))))) r1.2.1.2.2.2.2.1).bind fun r7 =>
                            cond (!r7.1.1.1)
                            (some ((((false, ()), ()), ())))
                            (g2 ((IntKind.wrap .i64 (v7 + 1))) v0 v5 v6))
                          (none))
                        (g2 ((IntKind.wrap .i64 (v7 + 1))) v0 v5 v6)))))))))
        (none)))
    (none))
  (some ((((decide (((v0.length : Nat) : Int) ≤ 30), ()), ()), ())))

noncomputable def impl_ValidChain_l2 (n : Nat) : Nat → Int → (List ((ByteArray) × ((Int) × ((((Int) × (Int)) × ((Int) × (Int))) × (((Int) × (Int)) × ((Int) × (Int))))))) → (List ((ByteArray) × ((Int) × ((((Int) × (Int)) × ((Int) × (Int))) × (((Int) × (Int)) × ((Int) × (Int))))))) → Int → Option ((((Bool) × (Unit)) × (Unit)) × (Unit))
  | 0, _, _, _, _ => none
  | k + 1, v7, v0, v5, v6 => impl_ValidChain_t2 n (impl_ValidChain_l2 n k) v7 v0 v5 v6

noncomputable def impl_ValidChain_t (n : Nat) (h2 : Nat → Int → (List ((ByteArray) × ((Int) × ((((Int) × (Int)) × ((Int) × (Int))) × (((Int) × (Int)) × ((Int) × (Int))))))) → (List ((ByteArray) × ((Int) × ((((Int) × (Int)) × ((Int) × (Int))) × (((Int) × (Int)) × ((Int) × (Int))))))) → Int → Option ((((Bool) × (Unit)) × (Unit)) × (Unit))) (a0 : List ((ByteArray) × ((Int) × ((((Int) × (Int)) × ((Int) × (Int))) × (((Int) × (Int)) × ((Int) × (Int))))))) : Option ((((Bool) × (Unit)) × (Unit)) × (Unit)) :=
  h2 n 0 a0 a0 (((a0.length : Nat) : Int))

noncomputable def impl_ValidChain (n : Nat) (a0 : List ((ByteArray) × ((Int) × ((((Int) × (Int)) × ((Int) × (Int))) × (((Int) × (Int)) × ((Int) × (Int))))))) : Option ((((Bool) × (Unit)) × (Unit)) × (Unit)) := impl_ValidChain_t n (impl_ValidChain_l2 n) a0

noncomputable def impl_calc_sum_t3 (n : Nat) (g3 : Int → (List ((Int) × (Int))) → Int → Bool → Int → Int → Int → Int → Option (((((Int) × (Int)) × (Unit)) × (Unit)) × ((Bool) × (Unit)))) (v11 : Int) (v9 : List ((Int) × (Int))) (v10 : Int) (b0 : Bool) (b1_0 : Int) (b1_1 : Int) (b2_0 : Int) (b2_1 : Int) : Option (((((Int) × (Int)) × (Unit)) × (Unit)) × ((Bool) × (Unit))) :=
  cond (decide (v11 < v10))
  (cond ((decide (0 ≤ v11) && decide (v11 < ((v9.length : Nat) : Int))))
    ((impl_calc_add n ((b1_0, b1_1)) (((v9.getD (Int.toNat v11) (0, 0)).1, (v9.getD (Int.toNat v11) (0, 0)).2)) b0).bind fun r1 =>
      g3 ((IntKind.wrap .i64 (v11 + 1))) v9 v10 r1.2.1 r1.1.1.1.1 r1.1.1.1.2 b2_0 b2_1)
    (none))
  (some (((((b1_0, b1_1), ()), ()), (b0, ()))))

noncomputable def impl_calc_sum_l3 (n : Nat) : Nat → Int → (List ((Int) × (Int))) → Int → Bool → Int → Int → Int → Int → Option (((((Int) × (Int)) × (Unit)) × (Unit)) × ((Bool) × (Unit)))
  | 0, _, _, _, _, _, _, _, _ => none
  | k + 1, v11, v9, v10, b0, b1_0, b1_1, b2_0, b2_1 => impl_calc_sum_t3 n (impl_calc_sum_l3 n k) v11 v9 v10 b0 b1_0 b1_1 b2_0 b2_1

noncomputable def impl_calc_sum_t (n : Nat) (h3 : Nat → Int → (List ((Int) × (Int))) → Int → Bool → Int → Int → Int → Int → Option (((((Int) × (Int)) × (Unit)) × (Unit)) × ((Bool) × (Unit)))) (a1 : List ((Int) × (Int))) (b0 : Bool) : Option (((((Int) × (Int)) × (Unit)) × (Unit)) × ((Bool) × (Unit))) :=
  (impl_zero n).bind fun r0 =>
  h3 n 0 a1 (((a1.length : Nat) : Int)) b0 r0.1.1.1.1 r0.1.1.1.2 0 0

noncomputable def impl_calc_sum (n : Nat) (a1 : List ((Int) × (Int))) (b0 : Bool) : Option (((((Int) × (Int)) × (Unit)) × (Unit)) × ((Bool) × (Unit))) := impl_calc_sum_t n (impl_calc_sum_l3 n) a1 b0

noncomputable def impl_chainCode_1_t (n : Nat) (a0 : Int) (b0 : List ((ByteArray) × ((Int) × ((((Int) × (Int)) × ((Int) × (Int))) × (((Int) × (Int)) × ((Int) × (Int))))))) : Option ((((Bool) × (Unit)) × (Unit)) × ((List ((ByteArray) × ((Int) × ((((Int) × (Int)) × ((Int) × (Int))) × (((Int) × (Int)) × ((Int) × (Int))))))) × (Unit))) :=
  (impl_within n a0 0 ((IntKind.wrap .i64 (((b0.length : Nat) : Int) - 1)))).bind fun r0 =>
  some (((((!r0.1.1.1), ()), ()), (b0, ())))

noncomputable def impl_chainCode_1 (n : Nat) (a0 : Int) (b0 : List ((ByteArray) × ((Int) × ((((Int) × (Int)) × ((Int) × (Int))) × (((Int) × (Int)) × ((Int) × (Int))))))) : Option ((((Bool) × (Unit)) × (Unit)) × ((List ((ByteArray) × ((Int) × ((((Int) × (Int)) × ((Int) × (Int))) × (((Int) × (Int)) × ((Int) × (Int))))))) × (Unit))) := impl_chainCode_1_t n a0 b0

noncomputable def slices_IndexFunc_int64_int64_at_impl_chainCode_1_t2 (n : Nat) (g2 : Int → (List (Int)) → Int → (List ((ByteArray) × ((Int) × ((((Int) × (Int)) × ((Int) × (Int))) × (((Int) × (Int)) × ((Int) × (Int))))))) → Option ((((Int) × (Unit)) × (Unit)) × ((List ((ByteArray) × ((Int) × ((((Int) × (Int)) × ((Int) × (Int))) × (((Int) × (Int)) × ((Int) × (Int))))))) × (Unit)))) (v8 : Int) (v0 : List (Int)) (v7 : Int) (b0 : List ((ByteArray) × ((Int) × ((((Int) × (Int)) × ((Int) × (Int))) × (((Int) × (Int)) × ((Int) × (Int))))))) : Option ((((Int) × (Unit)) × (Unit)) × ((List ((ByteArray) × ((Int) × ((((Int) × (Int)) × ((Int) × (Int))) × (((Int) × (Int)) × ((Int) × (Int))))))) × (Unit))) :=
  cond (decide (v8 < v7))
  (cond ((decide (0 ≤ v8) && decide (v8 < ((v0.length : Nat) : Int))))
    ((impl_chainCode_1 n ((v0.getD (Int.toNat v8) 0)) b0).bind fun r0 =>
      cond r0.1.1.1
      (some ((((v8, ()), ()), (r0.2.1, ()))))
      (g2 ((IntKind.wrap .i64 (v8 + 1))) v0 v7 r0.2.1))
    (none))
  (some (((((-1), ()), ()), (b0, ()))))

noncomputable def slices_IndexFunc_int64_int64_at_impl_chainCode_1_l2 (n : Nat) : Nat → Int → (List (Int)) → Int → (List ((ByteArray) × ((Int) × ((((Int) × (Int)) × ((Int) × (Int))) × (((Int) × (Int)) × ((Int) × (Int))))))) → Option ((((Int) × (Unit)) × (Unit)) × ((List ((ByteArray) × ((Int) × ((((Int) × (Int)) × ((Int) × (Int))) × (((Int) × (Int)) × ((Int) × (Int))))))) × (Unit)))
  | 0, _, _, _, _ => none
  | k + 1, v8, v0, v7, b0 => slices_IndexFunc_int64_int64_at_impl_chainCode_1_t2 n (slices_IndexFunc_int64_int64_at_impl_chainCode_1_l2 n k) v8 v0 v7 b0

noncomputable def slices_IndexFunc_int64_int64_at_impl_chainCode_1_t (n : Nat) (h2 : Nat → Int → (List (Int)) → Int → (List ((ByteArray) × ((Int) × ((((Int) × (Int)) × ((Int) × (Int))) × (((Int) × (Int)) × ((Int) × (Int))))))) → Option ((((Int) × (Unit)) × (Unit)) × ((List ((ByteArray) × ((Int) × ((((Int) × (Int)) × ((Int) × (Int))) × (((Int) × (Int)) × ((Int) × (Int))))))) × (Unit)))) (a0 : List (Int)) (b0 : List ((ByteArray) × ((Int) × ((((Int) × (Int)) × ((Int) × (Int))) × (((Int) × (Int)) × ((Int) × (Int))))))) : Option ((((Int) × (Unit)) × (Unit)) × ((List ((ByteArray) × ((Int) × ((((Int) × (Int)) × ((Int) × (Int))) × (((Int) × (Int)) × ((Int) × (Int))))))) × (Unit))) :=
  h2 n 0 a0 (((a0.length : Nat) : Int)) b0

noncomputable def slices_IndexFunc_int64_int64_at_impl_chainCode_1 (n : Nat) (a0 : List (Int)) (b0 : List ((ByteArray) × ((Int) × ((((Int) × (Int)) × ((Int) × (Int))) × (((Int) × (Int)) × ((Int) × (Int))))))) : Option ((((Int) × (Unit)) × (Unit)) × ((List ((ByteArray) × ((Int) × ((((Int) × (Int)) × ((Int) × (Int))) × (((Int) × (Int)) × ((Int) × (Int))))))) × (Unit))) := slices_IndexFunc_int64_int64_at_impl_chainCode_1_t n (slices_IndexFunc_int64_int64_at_impl_chainCode_1_l2 n) a0 b0

noncomputable def slices_ContainsFunc_int64_int64_at_impl_chainCode_1_t (n : Nat) (a0 : List (Int)) (b0 : List ((ByteArray) × ((Int) × ((((Int) × (Int)) × ((Int) × (Int))) × (((Int) × (Int)) × ((Int) × (Int))))))) : Option ((((Bool) × (Unit)) × (Unit)) × ((List ((ByteArray) × ((Int) × ((((Int) × (Int)) × ((Int) × (Int))) × (((Int) × (Int)) × ((Int) × (Int))))))) × (Unit))) :=
  (slices_IndexFunc_int64_int64_at_impl_chainCode_1 n a0 b0).bind fun r0 =>
  some ((((decide (r0.1.1.1 ≥ 0), ()), ()), (r0.2.1, ())))

noncomputable def slices_ContainsFunc_int64_int64_at_impl_chainCode_1 (n : Nat) (a0 : List (Int)) (b0 : List ((ByteArray) × ((Int) × ((((Int) × (Int)) × ((Int) × (Int))) × (((Int) × (Int)) × ((Int) × (Int))))))) : Option ((((Bool) × (Unit)) × (Unit)) × ((List ((ByteArray) × ((Int) × ((((Int) × (Int)) × ((Int) × (Int))) × (((Int) × (Int)) × ((Int) × (Int))))))) × (Unit))) := slices_ContainsFunc_int64_int64_at_impl_chainCode_1_t n a0 b0

noncomputable def impl_chainCode_2_t (n : Nat) (a0 : Int) : Option ((((Bool) × (Unit)) × (Unit)) × (Unit)) :=
  (impl_within n a0 0 100000).bind fun r0 =>
  some (((((!r0.1.1.1), ()), ()), ()))

noncomputable def impl_chainCode_2 (n : Nat) (a0 : Int) : Option ((((Bool) × (Unit)) × (Unit)) × (Unit)) := impl_chainCode_2_t n a0

noncomputable def slices_IndexFunc_int64_int64_at_impl_chainCode_2_t2 (n : Nat) (g2 : Int → (List (Int)) → Int → Option ((((Int) × (Unit)) × (Unit)) × (Unit))) (v8 : Int) (v0 : List (Int)) (v7 : Int) : Option ((((Int) × (Unit)) × (Unit)) × (Unit)) :=
  cond (decide (v8 < v7))
  (cond ((decide (0 ≤ v8) && decide (v8 < ((v0.length : Nat) : Int))))
    ((impl_chainCode_2 n ((v0.getD (Int.toNat v8) 0))).bind fun r0 =>
      cond r0.1.1.1
      (some ((((v8, ()), ()), ())))
      (g2 ((IntKind.wrap .i64 (v8 + 1))) v0 v7))
    (none))
  (some (((((-1), ()), ()), ())))

noncomputable def slices_IndexFunc_int64_int64_at_impl_chainCode_2_l2 (n : Nat) : Nat → Int → (List (Int)) → Int → Option ((((Int) × (Unit)) × (Unit)) × (Unit))
  | 0, _, _, _ => none
  | k + 1, v8, v0, v7 => slices_IndexFunc_int64_int64_at_impl_chainCode_2_t2 n (slices_IndexFunc_int64_int64_at_impl_chainCode_2_l2 n k) v8 v0 v7

noncomputable def slices_IndexFunc_int64_int64_at_impl_chainCode_2_t (n : Nat) (h2 : Nat → Int → (List (Int)) → Int → Option ((((Int) × (Unit)) × (Unit)) × (Unit))) (a0 : List (Int)) : Option ((((Int) × (Unit)) × (Unit)) × (Unit)) :=
  h2 n 0 a0 (((a0.length : Nat) : Int))

noncomputable def slices_IndexFunc_int64_int64_at_impl_chainCode_2 (n : Nat) (a0 : List (Int)) : Option ((((Int) × (Unit)) × (Unit)) × (Unit)) := slices_IndexFunc_int64_int64_at_impl_chainCode_2_t n (slices_IndexFunc_int64_int64_at_impl_chainCode_2_l2 n) a0

noncomputable def slices_ContainsFunc_int64_int64_at_impl_chainCode_2_t (n : Nat) (a0 : List (Int)) : Option ((((Bool) × (Unit)) × (Unit)) × (Unit)) :=
  (slices_IndexFunc_int64_int64_at_impl_chainCode_2 n a0).bind fun r0 =>
  some ((((decide (r0.1.1.1 ≥ 0), ()), ()), ()))

noncomputable def slices_ContainsFunc_int64_int64_at_impl_chainCode_2 (n : Nat) (a0 : List (Int)) : Option ((((Bool) × (Unit)) × (Unit)) × (Unit)) := slices_ContainsFunc_int64_int64_at_impl_chainCode_2_t n a0

noncomputable def impl_chainCode_t (n : Nat) (a0 : List ((ByteArray) × ((Int) × ((((Int) × (Int)) × ((Int) × (Int))) × (((Int) × (Int)) × ((Int) × (Int))))))) (a1 : List (Int)) (a2 : List (Int)) : Option ((((Int) × (Unit)) × (Unit)) × (Unit)) :=
  (impl_ValidChain n a0).bind fun r0 =>
  cond (!r0.1.1.1)
  (some ((((1, ()), ()), ())))
  ((slices_ContainsFunc_int64_int64_at_impl_chainCode_1 n a1 a0).bind fun r1 =>
    cond r1.1.1.1
    (some ((((2, ()), ()), ())))
    ((slices_ContainsFunc_int64_int64_at_impl_chainCode_2 n a2).bind fun r2 =>
      cond r2.1.1.1
      (some ((((2, ()), ()), ())))
      (some ((((0, ()), ()), ())))))

noncomputable def impl_chainCode (n : Nat) (a0 : List ((ByteArray) × ((Int) × ((((Int) × (Int)) × ((Int) × (Int))) × (((Int) × (Int)) × ((Int) × (Int))))))) (a1 : List (Int)) (a2 : List (Int)) : Option ((((Int) × (Unit)) × (Unit)) × (Unit)) := impl_chainCode_t n a0 a1 a2

noncomputable def impl_isAngle_t (n : Nat) (a0 : Int) : Option ((((Bool) × (Unit)) × (Unit)) × (Unit)) :=
  (impl_within n a0 0 1295999).bind fun r0 =>
  some ((((r0.1.1.1, ()), ()), ()))

noncomputable def impl_isAngle (n : Nat) (a0 : Int) : Option ((((Bool) × (Unit)) × (Unit)) × (Unit)) := impl_isAngle_t n a0

noncomputable def impl_path_t2 (n : Nat) (g2 : Int → (List ((ByteArray) × ((Int) × ((((Int) × (Int)) × ((Int) × (Int))) × (((Int) × (Int)) × ((Int) × (Int))))))) → (List (Int)) → Option ((((List (Int)) × (Unit)) × (Unit)) × (Unit))) (v1 : Int) (v0 : List ((ByteArray) × ((Int) × ((((Int) × (Int)) × ((Int) × (Int))) × (((Int) × (Int)) × ((Int) × (Int))))))) (b0 : List (Int)) : Option ((((List (Int)) × (Unit)) × (Unit)) × (Unit)) :=
  cond (decide (v1 ≥ 0))
  (cond (decide ((((v1 :: []).length + b0.length) * 9) ≤ 70368744177664))
    (cond ((decide (0 ≤ v1) && decide (v1 < ((v0.length : Nat) : Int))))
      (g2 ((v0.getD (Int.toNat v1) ((ByteArray.mk #[]), (0, (((0, 0), (0, 0)), ((0, 0), (0, 0)))))).2.1) v0 (((v1 :: []) ++ b0)))
      (none))
    (none))
  (some ((((b0, ()), ()), ())))

noncomputable def impl_path_l2 (n : Nat) : Nat → Int → (List ((ByteArray) × ((Int) × ((((Int) × (Int)) × ((Int) × (Int))) × (((Int) × (Int)) × ((Int) × (Int))))))) → (List (Int)) → Option ((((List (Int)) × (Unit)) × (Unit)) × (Unit))
  | 0, _, _, _ => none
  | k + 1, v1, v0, b0 => impl_path_t2 n (impl_path_l2 n k) v1 v0 b0

noncomputable def impl_path_t (n : Nat) (h2 : Nat → Int → (List ((ByteArray) × ((Int) × ((((Int) × (Int)) × ((Int) × (Int))) × (((Int) × (Int)) × ((Int) × (Int))))))) → (List (Int)) → Option ((((List (Int)) × (Unit)) × (Unit)) × (Unit))) (a0 : List ((ByteArray) × ((Int) × ((((Int) × (Int)) × ((Int) × (Int))) × (((Int) × (Int)) × ((Int) × (Int))))))) (a1 : Int) : Option ((((List (Int)) × (Unit)) × (Unit)) × (Unit)) :=
  h2 n a1 a0 []

noncomputable def impl_path (n : Nat) (a0 : List ((ByteArray) × ((Int) × ((((Int) × (Int)) × ((Int) × (Int))) × (((Int) × (Int)) × ((Int) × (Int))))))) (a1 : Int) : Option ((((List (Int)) × (Unit)) × (Unit)) × (Unit)) := impl_path_t n (impl_path_l2 n) a0 a1

noncomputable def impl_wrap_t (n : Nat) (a0 : Int) : Option ((((Int) × (Unit)) × (Unit)) × (Unit)) :=
  some (((((Int.tmod (IntKind.wrap .i64 ((Int.tmod a0 1296000) + 1296000)) 1296000), ()), ()), ()))

noncomputable def impl_wrap (n : Nat) (a0 : Int) : Option ((((Int) × (Unit)) × (Unit)) × (Unit)) := impl_wrap_t n a0

noncomputable def impl_turnFrom_t (n : Nat) (a0 : Int) (a1 : Int) : Option ((((Int) × (Unit)) × (Unit)) × (Unit)) :=
  (impl_wrap n ((IntKind.wrap .i64 (a1 - a0)))).bind fun r0 =>
  cond (decide (r0.1.1.1 > 648000))
  (some (((((IntKind.wrap .i64 (r0.1.1.1 - 1296000)), ()), ()), ())))
  (some ((((r0.1.1.1, ()), ()), ())))

noncomputable def impl_turnFrom (n : Nat) (a0 : Int) (a1 : Int) : Option ((((Int) × (Unit)) × (Unit)) × (Unit)) := impl_turnFrom_t n a0 a1

noncomputable def laws_a2Long_t (n : Nat) (a0 : List (Int)) (a1 : List (Int)) : Option ((((Bool) × (Unit)) × (Unit)) × (Unit)) :=
  cond (decide (((a0.length : Nat) : Int) > 3000))
  (some ((((true, ()), ()), ())))
  (some ((((decide (((a1.length : Nat) : Int) > 3000), ()), ()), ())))

noncomputable def laws_a2Long (n : Nat) (a0 : List (Int)) (a1 : List (Int)) : Option ((((Bool) × (Unit)) × (Unit)) × (Unit)) := laws_a2Long_t n a0 a1

noncomputable def laws_eqFrac_t (n : Nat) (a0 : (Int) × (Int)) (a1 : (Int) × (Int)) : Option ((((Bool) × (Unit)) × (Unit)) × (Unit)) :=
  cond ((a0.1 != a1.1))
  (some ((((false, ()), ()), ())))
  (cond ((a0.2 != a1.2))
    (some ((((false, ()), ()), ())))
    (some ((((true, ()), ()), ()))))

noncomputable def laws_eqFrac (n : Nat) (a0 : (Int) × (Int)) (a1 : (Int) × (Int)) : Option ((((Bool) × (Unit)) × (Unit)) × (Unit)) := laws_eqFrac_t n a0 a1

noncomputable def laws_eqFracS_t4 (n : Nat) (g4 : Int → (List ((Int) × (Int))) → (List ((Int) × (Int))) → Option ((((Bool) × (Unit)) × (Unit)) × (Unit))) (v5 : Int) (v1 : List ((Int) × (Int))) (v0 : List ((Int) × (Int))) : Option ((((Bool) × (Unit)) × (Unit)) × (Unit)) :=
  cond (decide (v5 < ((v0.length : Nat) : Int)))
  (cond ((decide (0 ≤ v5) && decide (v5 < ((v0.length : Nat) : Int))))
    (cond ((decide (0 ≤ v5) && decide (v5 < ((v1.length : Nat) : Int))))
      ((laws_eqFrac n (((v0.getD (Int.toNat v5) (0, 0)).1, (v0.getD (Int.toNat v5) (0, 0)).2)) (((v1.getD (Int.toNat v5) (0, 0)).1, (v1.getD (Int.toNat v5) (0, 0)).2))).bind fun r0 =>
        cond (!r0.1.1.1)
        (some ((((false, ()), ()), ())))
        (g4 ((IntKind.wrap .i64 (v5 + 1))) v1 v0))
      (none))
    (none))
  (some ((((true, ()), ()), ())))

noncomputable def laws_eqFracS_l4 (n : Nat) : Nat → Int → (List ((Int) × (Int))) → (List ((Int) × (Int))) → Option ((((Bool) × (Unit)) × (Unit)) × (Unit))
  | 0, _, _, _ => none
  | k + 1, v5, v1, v0 => laws_eqFracS_t4 n (laws_eqFracS_l4 n k) v5 v1 v0

noncomputable def laws_eqFracS_t (n : Nat) (h4 : Nat → Int → (List ((Int) × (Int))) → (List ((Int) × (Int))) → Option ((((Bool) × (Unit)) × (Unit)) × (Unit))) (a0 : List ((Int) × (Int))) (a1 : List ((Int) × (Int))) : Option ((((Bool) × (Unit)) × (Unit)) × (Unit)) :=
  cond ((((a0.length : Nat) : Int) != ((a1.length : Nat) : Int)))
  (some ((((false, ()), ()), ())))
  (h4 n 0 a1 a0)

noncomputable def laws_eqFracS (n : Nat) (a0 : List ((Int) × (Int))) (a1 : List ((Int) × (Int))) : Option ((((Bool) × (Unit)) × (Unit)) × (Unit)) := laws_eqFracS_t n (laws_eqFracS_l4 n) a0 a1

noncomputable def laws_eqInt64S_t4 (n : Nat) (g4 : Int → (List (Int)) → (List (Int)) → Option ((((Bool) × (Unit)) × (Unit)) × (Unit))) (v5 : Int) (v1 : List (Int)) (v0 : List (Int)) : Option ((((Bool) × (Unit)) × (Unit)) × (Unit)) :=
  cond (decide (v5 < ((v0.length : Nat) : Int)))
  (cond ((decide (0 ≤ v5) && decide (v5 < ((v0.length : Nat) : Int))))
    (cond ((decide (0 ≤ v5) && decide (v5 < ((v1.length : Nat) : Int))))
      (cond (((v0.getD (Int.toNat v5) 0) != (v1.getD (Int.toNat v5) 0)))
        (some ((((false, ()), ()), ())))
        (g4 ((IntKind.wrap .i64 (v5 + 1))) v1 v0))
      (none))
    (none))
  (some ((((true, ()), ()), ())))

noncomputable def laws_eqInt64S_l4 (n : Nat) : Nat → Int → (List (Int)) → (List (Int)) → Option ((((Bool) × (Unit)) × (Unit)) × (Unit))
  | 0, _, _, _ => none
  | k + 1, v5, v1, v0 => laws_eqInt64S_t4 n (laws_eqInt64S_l4 n k) v5 v1 v0

noncomputable def laws_eqInt64S_t (n : Nat) (h4 : Nat → Int → (List (Int)) → (List (Int)) → Option ((((Bool) × (Unit)) × (Unit)) × (Unit))) (a0 : List (Int)) (a1 : List (Int)) : Option ((((Bool) × (Unit)) × (Unit)) × (Unit)) :=
  cond ((((a0.length : Nat) : Int) != ((a1.length : Nat) : Int)))
  (some ((((false, ()), ()), ())))
  (h4 n 0 a1 a0)

noncomputable def laws_eqInt64S (n : Nat) (a0 : List (Int)) (a1 : List (Int)) : Option ((((Bool) × (Unit)) × (Unit)) × (Unit)) := laws_eqInt64S_t n (laws_eqInt64S_l4 n) a0 a1

noncomputable def laws_heldFracS_t2 (n : Nat) (g2 : Int → (List ((Int) × (Int))) → Int → Option ((((Int) × (Unit)) × (Unit)) × (Unit))) (v5 : Int) (v0 : List ((Int) × (Int))) (v1 : Int) : Option ((((Int) × (Unit)) × (Unit)) × (Unit)) :=
  cond (decide (v5 < ((v0.length : Nat) : Int)))
  (cond ((decide (0 ≤ v5) && decide (v5 < ((v0.length : Nat) : Int))))
    (cond (((v0.getD (Int.toNat v5) (0, 0)).1 != v1))
      (some (((((-1), ()), ()), ())))
      (cond ((decide (0 ≤ v5) && decide (v5 < ((v0.length : Nat) : Int))))
        (cond (((v0.getD (Int.toNat v5) (0, 0)).2 != (IntKind.wrap .i64 (v1 + 1))))
          (some (((((-1), ()), ()), ())))
          (g2 ((IntKind.wrap .i64 (v5 + 1))) v0 ((IntKind.wrap .i64 ((IntKind.wrap .i64 (v1 + 1)) + 1)))))
        (none)))
    (none))
  (some ((((v1, ()), ()), ())))

noncomputable def laws_heldFracS_l2 (n : Nat) : Nat → Int → (List ((Int) × (Int))) → Int → Option ((((Int) × (Unit)) × (Unit)) × (Unit))
  | 0, _, _, _ => none
  | k + 1, v5, v0, v1 => laws_heldFracS_t2 n (laws_heldFracS_l2 n k) v5 v0 v1

noncomputable def laws_heldFracS_t (n : Nat) (h2 : Nat → Int → (List ((Int) × (Int))) → Int → Option ((((Int) × (Unit)) × (Unit)) × (Unit))) (a0 : List ((Int) × (Int))) (a1 : Int) : Option ((((Int) × (Unit)) × (Unit)) × (Unit)) :=
  h2 n 0 a0 a1

noncomputable def laws_heldFracS (n : Nat) (a0 : List ((Int) × (Int))) (a1 : Int) : Option ((((Int) × (Unit)) × (Unit)) × (Unit)) := laws_heldFracS_t n (laws_heldFracS_l2 n) a0 a1

noncomputable def laws_heldInt64S_t2 (n : Nat) (g2 : Int → Int → (List (Int)) → Option ((((Int) × (Unit)) × (Unit)) × (Unit))) (v5 : Int) (v1 : Int) (v0 : List (Int)) : Option ((((Int) × (Unit)) × (Unit)) × (Unit)) :=
  cond (decide (v5 < ((v0.length : Nat) : Int)))
  (cond ((decide (0 ≤ v5) && decide (v5 < ((v0.length : Nat) : Int))))
    (cond (((v0.getD (Int.toNat v5) 0) != v1))
      (some (((((-1), ()), ()), ())))
      (g2 ((IntKind.wrap .i64 (v5 + 1))) ((IntKind.wrap .i64 (v1 + 1))) v0))
    (none))
  (some ((((v1, ()), ()), ())))

noncomputable def laws_heldInt64S_l2 (n : Nat) : Nat → Int → Int → (List (Int)) → Option ((((Int) × (Unit)) × (Unit)) × (Unit))
  | 0, _, _, _ => none
  | k + 1, v5, v1, v0 => laws_heldInt64S_t2 n (laws_heldInt64S_l2 n k) v5 v1 v0

noncomputable def laws_heldInt64S_t (n : Nat) (h2 : Nat → Int → Int → (List (Int)) → Option ((((Int) × (Unit)) × (Unit)) × (Unit))) (a0 : List (Int)) (a1 : Int) : Option ((((Int) × (Unit)) × (Unit)) × (Unit)) :=
  h2 n 0 a1 a0

noncomputable def laws_heldInt64S (n : Nat) (a0 : List (Int)) (a1 : Int) : Option ((((Int) × (Unit)) × (Unit)) × (Unit)) := laws_heldInt64S_t n (laws_heldInt64S_l2 n) a0 a1

noncomputable def laws_markFracS_t2 (n : Nat) (g2 : Int → Int → (List ((Int) × (Int))) → Option ((((Int) × (Unit)) × (Unit)) × ((List ((Int) × (Int))) × (Unit)))) (v5 : Int) (v1 : Int) (b0 : List ((Int) × (Int))) : Option ((((Int) × (Unit)) × (Unit)) × ((List ((Int) × (Int))) × (Unit))) :=
  cond (decide (v5 < ((b0.length : Nat) : Int)))
  (cond ((decide (0 ≤ v5) && decide (v5 < ((b0.length : Nat) : Int))))
    (cond ((decide (0 ≤ v5) && decide (v5 < (((b0.set (Int.toNat v5) (v1, (b0.getD (Int.toNat v5) (0, 0)).2)).length : Nat) : Int))))
      (g2 ((IntKind.wrap .i64 (v5 + 1))) ((IntKind.wrap .i64 ((IntKind.wrap .i64 (v1 + 1)) + 1))) (((b0.set (Int.toNat v5) (v1, (b0.getD (Int.toNat v5) (0, 0)).2)).set (Int.toNat v5) (((b0.set (Int.toNat v5) (v1, (b0.getD (Int.toNat v5) (0, 0)).2)).getD (Int.toNat v5) (0, 0)).1, (IntKind.wrap .i64 (v1 + 1))))))
      (none))
    (none))
  (some ((((v1, ()), ()), (b0, ()))))

noncomputable def laws_markFracS_l2 (n : Nat) : Nat → Int → Int → (List ((Int) × (Int))) → Option ((((Int) × (Unit)) × (Unit)) × ((List ((Int) × (Int))) × (Unit)))
  | 0, _, _, _ => none
  | k + 1, v5, v1, b0 => laws_markFracS_t2 n (laws_markFracS_l2 n k) v5 v1 b0

noncomputable def laws_markFracS_t (n : Nat) (h2 : Nat → Int → Int → (List ((Int) × (Int))) → Option ((((Int) × (Unit)) × (Unit)) × ((List ((Int) × (Int))) × (Unit)))) (a1 : Int) (b0 : List ((Int) × (Int))) : Option ((((Int) × (Unit)) × (Unit)) × ((List ((Int) × (Int))) × (Unit))) :=
  h2 n 0 a1 b0

noncomputable def laws_markFracS (n : Nat) (a1 : Int) (b0 : List ((Int) × (Int))) : Option ((((Int) × (Unit)) × (Unit)) × ((List ((Int) × (Int))) × (Unit))) := laws_markFracS_t n (laws_markFracS_l2 n) a1 b0

noncomputable def laws_markInt64S_t2 (n : Nat) (g2 : Int → Int → (List (Int)) → Option ((((Int) × (Unit)) × (Unit)) × ((List (Int)) × (Unit)))) (v5 : Int) (v1 : Int) (b0 : List (Int)) : Option ((((Int) × (Unit)) × (Unit)) × ((List (Int)) × (Unit))) :=
  cond (decide (v5 < ((b0.length : Nat) : Int)))
  (cond ((decide (0 ≤ v5) && decide (v5 < ((b0.length : Nat) : Int))))
    (g2 ((IntKind.wrap .i64 (v5 + 1))) ((IntKind.wrap .i64 (v1 + 1))) ((b0.set (Int.toNat v5) v1)))
    (none))
  (some ((((v1, ()), ()), (b0, ()))))

noncomputable def laws_markInt64S_l2 (n : Nat) : Nat → Int → Int → (List (Int)) → Option ((((Int) × (Unit)) × (Unit)) × ((List (Int)) × (Unit)))
  | 0, _, _, _ => none
  | k + 1, v5, v1, b0 => laws_markInt64S_t2 n (laws_markInt64S_l2 n k) v5 v1 b0

noncomputable def laws_markInt64S_t (n : Nat) (h2 : Nat → Int → Int → (List (Int)) → Option ((((Int) × (Unit)) × (Unit)) × ((List (Int)) × (Unit)))) (a1 : Int) (b0 : List (Int)) : Option ((((Int) × (Unit)) × (Unit)) × ((List (Int)) × (Unit))) :=
  h2 n 0 a1 b0

noncomputable def laws_markInt64S (n : Nat) (a1 : Int) (b0 : List (Int)) : Option ((((Int) × (Unit)) × (Unit)) × ((List (Int)) × (Unit))) := laws_markInt64S_t n (laws_markInt64S_l2 n) a1 b0

noncomputable def laws_szFracS_t (n : Nat) (a0 : List ((Int) × (Int))) (a1 : Int) : Option ((((Int) × (Unit)) × (Unit)) × (Unit)) :=
  cond (decide ((IntKind.wrap .i64 (a1 - ((a0.length : Nat) : Int))) < 0))
  (some (((((-1), ()), ()), ())))
  (some (((((IntKind.wrap .i64 (a1 - ((a0.length : Nat) : Int))), ()), ()), ())))

noncomputable def laws_szFracS (n : Nat) (a0 : List ((Int) × (Int))) (a1 : Int) : Option ((((Int) × (Unit)) × (Unit)) × (Unit)) := laws_szFracS_t n a0 a1

noncomputable def laws_toFrac_t (n : Nat) (a0 : (Int) × (Int)) : Option (((((Int) × (Int)) × (Unit)) × (Unit)) × (Unit)) :=
  some (((((a0.1, a0.2), ()), ()), ()))

noncomputable def laws_toFrac (n : Nat) (a0 : (Int) × (Int)) : Option (((((Int) × (Int)) × (Unit)) × (Unit)) × (Unit)) := laws_toFrac_t n a0

noncomputable def laws_toFracS_t3 (n : Nat) (g3 : Int → (List ((Int) × (Int))) → (List ((Int) × (Int))) → Option ((((List ((Int) × (Int))) × (Unit)) × (Unit)) × (Unit))) (v4 : Int) (v0 : List ((Int) × (Int))) (b0 : List ((Int) × (Int))) : Option ((((List ((Int) × (Int))) × (Unit)) × (Unit)) × (Unit)) :=
  cond (decide (v4 < ((v0.length : Nat) : Int)))
  (cond ((decide (0 ≤ v4) && decide (v4 < ((v0.length : Nat) : Int))))
    ((laws_toFrac n (((v0.getD (Int.toNat v4) (0, 0)).1, (v0.getD (Int.toNat v4) (0, 0)).2))).bind fun r0 =>
      cond ((decide (0 ≤ v4) && decide (v4 < ((b0.length : Nat) : Int))))
      (g3 ((IntKind.wrap .i64 (v4 + 1))) v0 ((b0.set (Int.toNat v4) (r0.1.1.1.1, r0.1.1.1.2))))
      (none))
    (none))
  (some ((((b0, ()), ()), ())))

noncomputable def laws_toFracS_l3 (n : Nat) : Nat → Int → (List ((Int) × (Int))) → (List ((Int) × (Int))) → Option ((((List ((Int) × (Int))) × (Unit)) × (Unit)) × (Unit))
  | 0, _, _, _ => none
  | k + 1, v4, v0, b0 => laws_toFracS_t3 n (laws_toFracS_l3 n k) v4 v0 b0

noncomputable def laws_toFracS_t (n : Nat) (h3 : Nat → Int → (List ((Int) × (Int))) → (List ((Int) × (Int))) → Option ((((List ((Int) × (Int))) × (Unit)) × (Unit)) × (Unit))) (a0 : List ((Int) × (Int))) : Option ((((List ((Int) × (Int))) × (Unit)) × (Unit)) × (Unit)) :=
  cond ((((((a0.length : Nat) : Int) == ((a0.length : Nat) : Int)) && decide (0 ≤ ((a0.length : Nat) : Int))) && decide (((Int.toNat ((a0.length : Nat) : Int)) * 17) ≤ 70368744177664)))
  (h3 n 0 a0 ((List.replicate (Int.toNat ((a0.length : Nat) : Int)) (0, 0))))
  (none)

noncomputable def laws_toFracS (n : Nat) (a0 : List ((Int) × (Int))) : Option ((((List ((Int) × (Int))) × (Unit)) × (Unit)) × (Unit)) := laws_toFracS_t n (laws_toFracS_l3 n) a0

noncomputable def spec_l00Src_among_t (n : Nat) (b0 : (List (Int)) × ((Int) × (Int))) (b1 : List (Int)) : Option ((((Int) × (Unit)) × (Unit)) × (((List (Int)) × ((Int) × (Int))) × ((List (Int)) × (Unit)))) :=
  (spec_l00Src_pick n (((b1.length : Nat) : Int)) ((b0.1, (b0.2.1, b0.2.2)))).bind fun r0 =>
  cond ((decide (0 ≤ r0.1.1.1) && decide (r0.1.1.1 < ((b1.length : Nat) : Int))))
  (some (((((b1.getD (Int.toNat r0.1.1.1) 0), ()), ()), ((r0.2.1.1, (r0.2.1.2.1, r0.2.1.2.2)), (b1, ())))))
  (none)

noncomputable def spec_l00Src_among (n : Nat) (b0 : (List (Int)) × ((Int) × (Int))) (b1 : List (Int)) : Option ((((Int) × (Unit)) × (Unit)) × (((List (Int)) × ((Int) × (Int))) × ((List (Int)) × (Unit)))) := spec_l00Src_among_t n b0 b1

noncomputable def spec_l01Span_e_t (n : Nat) (a0 : ((Int) × (Int)) × ((Int) × (Int))) : Option ((((Bool) × (Unit)) × (Unit)) × (Unit)) :=
  (spec_l01Ok n ((a0.1.1, a0.1.2))).bind fun r0 =>
  cond r0.1.1.1
  ((spec_l01Ok n ((a0.2.1, a0.2.2))).bind fun r1 =>
    cond r1.1.1.1
    ((spec_l01Cmp n ((a0.1.1, a0.1.2)) ((a0.2.1, a0.2.2))).bind fun r2 =>
      some ((((decide (r2.1.1.1 ≤ 0), ()), ()), ())))
    (some ((((false, ()), ()), ()))))
  (some ((((false, ()), ()), ())))

noncomputable def spec_l01Span_e (n : Nat) (a0 : ((Int) × (Int)) × ((Int) × (Int))) : Option ((((Bool) × (Unit)) × (Unit)) × (Unit)) := spec_l01Span_e_t n a0

noncomputable def spec_l01Sum_t3 (n : Nat) (g3 : Int → (List ((Int) × (Int))) → Int → Int → Int → Int → Option (((((Int) × (Int)) × (Unit)) × (((Int) × (Unit)) × (Unit))) × (Unit))) (v5 : Int) (v0 : List ((Int) × (Int))) (b0_0 : Int) (b0_1 : Int) (b1_0 : Int) (b1_1 : Int) : Option (((((Int) × (Int)) × (Unit)) × (((Int) × (Unit)) × (Unit))) × (Unit)) :=
  cond (decide (v5 < ((v0.length : Nat) : Int)))
  (cond ((decide (0 ≤ v5) && decide (v5 < ((v0.length : Nat) : Int))))
    ((spec_l01Add n ((b1_0, b1_1)) (((v0.getD (Int.toNat v5) (0, 0)).1, (v0.getD (Int.toNat v5) (0, 0)).2))).bind fun r1 =>
      cond ((r1.1.2.1.1 != 0))
      (some (((((0, 0), ()), ((r1.1.2.1.1, ()), ())), ())))
      (g3 ((IntKind.wrap .i64 (v5 + 1))) v0 b0_0 b0_1 r1.1.1.1.1 r1.1.1.1.2))
    (none))
  (some (((((b1_0, b1_1), ()), ((0, ()), ())), ())))

noncomputable def spec_l01Sum_l3 (n : Nat) : Nat → Int → (List ((Int) × (Int))) → Int → Int → Int → Int → Option (((((Int) × (Int)) × (Unit)) × (((Int) × (Unit)) × (Unit))) × (Unit))
  | 0, _, _, _, _, _, _ => none
  | k + 1, v5, v0, b0_0, b0_1, b1_0, b1_1 => spec_l01Sum_t3 n (spec_l01Sum_l3 n k) v5 v0 b0_0 b0_1 b1_0 b1_1

noncomputable def spec_l01Sum_t (n : Nat) (h3 : Nat → Int → (List ((Int) × (Int))) → Int → Int → Int → Int → Option (((((Int) × (Int)) × (Unit)) × (((Int) × (Unit)) × (Unit))) × (Unit))) (a0 : List ((Int) × (Int))) : Option (((((Int) × (Int)) × (Unit)) × (((Int) × (Unit)) × (Unit))) × (Unit)) :=
  (spec_l01Whole n 0).bind fun r0 =>
  h3 n 0 a0 0 0 r0.1.1.1.1 r0.1.1.1.2

noncomputable def spec_l01Sum (n : Nat) (a0 : List ((Int) × (Int))) : Option (((((Int) × (Int)) × (Unit)) × (((Int) × (Unit)) × (Unit))) × (Unit)) := spec_l01Sum_t n (spec_l01Sum_l3 n) a0

noncomputable def spec_l03Angle_t (n : Nat) (a0 : Int) : Option ((((Bool) × (Unit)) × (Unit)) × (Unit)) :=
  (spec_l00In n a0 0 1295999).bind fun r0 =>
  some ((((r0.1.1.1, ()), ()), ()))

noncomputable def spec_l03Angle (n : Nat) (a0 : Int) : Option ((((Bool) × (Unit)) × (Unit)) × (Unit)) := spec_l03Angle_t n a0

noncomputable def spec_l03Wrap_t (n : Nat) (a0 : Int) : Option ((((Int) × (Unit)) × (Unit)) × (Unit)) :=
  cond (decide ((Int.tmod a0 1296000) < 0))
  (some (((((IntKind.wrap .i64 ((Int.tmod a0 1296000) + 1296000)), ()), ()), ())))
  (some (((((Int.tmod a0 1296000), ()), ()), ())))

noncomputable def spec_l03Wrap (n : Nat) (a0 : Int) : Option ((((Int) × (Unit)) × (Unit)) × (Unit)) := spec_l03Wrap_t n a0

noncomputable def spec_l03Turn_t (n : Nat) (a0 : Int) (a1 : Int) : Option ((((Int) × (Unit)) × (Unit)) × (Unit)) :=
  (spec_l03Wrap n ((IntKind.wrap .i64 (a1 - a0)))).bind fun r0 =>
  cond (decide (r0.1.1.1 > 648000))
  (some (((((IntKind.wrap .i64 (r0.1.1.1 - 1296000)), ()), ()), ())))
  (some ((((r0.1.1.1, ()), ()), ())))

noncomputable def spec_l03Turn (n : Nat) (a0 : Int) (a1 : Int) : Option ((((Int) × (Unit)) × (Unit)) × (Unit)) := spec_l03Turn_t n a0 a1

noncomputable def spec_l05Name_t4 (n : Nat) (g4 : Int → ByteArray → Option ((((Bool) × (Unit)) × (Unit)) × (Unit))) (v3 : Int) (v0 : ByteArray) : Option ((((Bool) × (Unit)) × (Unit)) × (Unit)) :=
  cond (decide (v3 < (((ByteArray.size v0) : Nat) : Int)))
  (cond ((decide (0 ≤ v3) && decide (v3 < (((ByteArray.size v0) : Nat) : Int))))
    (cond (decide ((byteAt v0 v3) < 97))
      (some ((((false, ()), ()), ())))
      (cond ((decide (0 ≤ v3) && decide (v3 < (((ByteArray.size v0) : Nat) : Int))))
        (cond (decide ((byteAt v0 v3) > 122))
          (some ((((false, ()), ()), ())))
          (g4 ((IntKind.wrap .i64 (v3 + 1))) v0))
        (none)))
    (none))
  (some ((((true, ()), ()), ())))

noncomputable def spec_l05Name_l4 (n : Nat) : Nat → Int → ByteArray → Option ((((Bool) × (Unit)) × (Unit)) × (Unit))
  | 0, _, _ => none
  | k + 1, v3, v0 => spec_l05Name_t4 n (spec_l05Name_l4 n k) v3 v0

noncomputable def spec_l05Name_t (n : Nat) (h4 : Nat → Int → ByteArray → Option ((((Bool) × (Unit)) × (Unit)) × (Unit))) (a0 : ByteArray) : Option ((((Bool) × (Unit)) × (Unit)) × (Unit)) :=
  cond (decide ((((ByteArray.size a0) : Nat) : Int) < 1))
  (some ((((false, ()), ()), ())))
  (cond (decide ((((ByteArray.size a0) : Nat) : Int) > 12))
    (some ((((false, ()), ()), ())))
    (h4 n 0 a0))

noncomputable def spec_l05Name (n : Nat) (a0 : ByteArray) : Option ((((Bool) × (Unit)) × (Unit)) × (Unit)) := spec_l05Name_t n (spec_l05Name_l4 n) a0

noncomputable def spec_l05Day_t (n : Nat) (a0 : Int) : Option ((((Bool) × (Unit)) × (Unit)) × (Unit)) :=
  (spec_l00In n a0 0 100000).bind fun r0 =>
  some ((((r0.1.1.1, ()), ()), ()))

noncomputable def spec_l05Day (n : Nat) (a0 : Int) : Option ((((Bool) × (Unit)) × (Unit)) × (Unit)) := spec_l05Day_t n a0

noncomputable def spec_l05Good_e_t (n : Nat) (a0 : (ByteArray) × ((Int) × ((((Int) × (Int)) × ((Int) × (Int))) × (((Int) × (Int)) × ((Int) × (Int)))))) (a1 : Int) : Option ((((Bool) × (Unit)) × (Unit)) × (Unit)) :=
  cond (decide (a1 ≥ a0.2.2.2.2.1))
  (some ((((decide (a1 ≤ (IntKind.wrap .i64 (a0.2.2.2.2.1 + a0.2.2.2.2.2))), ()), ()), ())))
  (some ((((false, ()), ()), ())))

noncomputable def spec_l05Good_e (n : Nat) (a0 : (ByteArray) × ((Int) × ((((Int) × (Int)) × ((Int) × (Int))) × (((Int) × (Int)) × ((Int) × (Int)))))) (a1 : Int) : Option ((((Bool) × (Unit)) × (Unit)) × (Unit)) := spec_l05Good_e_t n a0 a1

noncomputable def spec_l05Standard_e_t (n : Nat) (a0 : List ((ByteArray) × ((Int) × ((((Int) × (Int)) × ((Int) × (Int))) × (((Int) × (Int)) × ((Int) × (Int))))))) (a1 : (ByteArray) × ((Int) × ((((Int) × (Int)) × ((Int) × (Int))) × (((Int) × (Int)) × ((Int) × (Int)))))) : Option ((((Bool) × (Unit)) × (Unit)) × (Unit)) :=
  (spec_l01Span_e n (((a1.2.2.1.1.1, a1.2.2.1.1.2), (a1.2.2.1.2.1, a1.2.2.1.2.2)))).bind fun r0 =>
  cond (!r0.1.1.1)
  (some ((((false, ()), ()), ())))
  ((spec_l01Ok n ((a1.2.2.2.1.1, a1.2.2.2.1.2))).bind fun r1 =>
    cond (!r1.1.1.1)
    (some ((((false, ()), ()), ())))
    (cond (decide (a1.2.2.2.1.1 < 0))
      (some ((((false, ()), ()), ())))
      ((spec_l05Day n a1.2.2.2.2.1).bind fun r2 =>
        cond (!r2.1.1.1)
        (some ((((false, ()), ()), ())))
        ((spec_l05Day n a1.2.2.2.2.2).bind fun r3 =>
          cond (!r3.1.1.1)
          (some ((((false, ()), ()), ())))
          (cond ((a1.2.1 == (-1)))
            (some ((((true, ()), ()), ())))
            ((spec_l00In n a1.2.1 0 ((IntKind.wrap .i64 (((a0.length : Nat) : Int) - 1)))).bind fun r4 =>
              cond r4.1.1.1
              (cond ((decide (0 ≤ a1.2.1) && decide (a1.2.1 < ((a0.length : Nat) : Int))))
                ((spec_l05Good_e n (((a0.getD (Int.toNat a1.2.1) ((ByteArray.mk #[]), (0, (((0, 0), (0, 0)), ((0, 0), (0, 0)))))).1, ((a0.getD (Int.toNat a1.2.1) ((ByteArray.mk #[]), (0, (((0, 0), (0, 0)), ((0, 0), (0, 0)))))).2.1, ((((a0.getD (Int.toNat a1.2.1) ((ByteArray.mk #[]), (0, (((0, 0), (0, 0)), ((0, 0), (0, 0)))))).2.2.1.1.1, (a0.getD (Int.toNat a1.2.1) ((ByteArray.mk #[]), (0, (((0, 0), (0, 0)), ((0, 0), (0, 0)))))).2.2.1.1.2), ((a0.getD (Int.toNat a1.2.1) ((ByteArray.mk #[]), (0, (((0, 0), (0, 0)), ((0, 0), (0, 0)))))).2.2.1.2.1, (a0.getD (Int.toNat a1.2.1) ((ByteArray.mk #[]), (0, (((0, 0), (0, 0)), ((0, 0), (0, 0)))))).2.2.1.2.2)), (((a0.getD (Int.toNat a1.2.1) ((ByteArray.mk #[]), (0, (((0, 0), (0, 0)), ((0, 0), (0, 0)))))).2.2.2.1.1, (a0.getD (Int.toNat a1.2.1) ((ByteArray.mk #[]), (0, (((0, 0), (0, 0)), ((0, 0), (0, 0)))))).2.2.2.1.2), ((a0.getD (Int.toNat a1.2.1) ((ByteArray.mk #[]), (0, (((0, 0), (0, 0)), ((0, 0), (0, 0)))))).2.2.2.2.1, (a0.getD (Int.toNat a1.2.1) ((ByteArray.mk #[]), (0, (((0, 0), (0, 0)), ((0, 0), (0, 0)))))).2.2.2.2.2)))))) a1.2.2.2.2.1).bind fun r5 =>
                  some ((((r5.1.1.1, ()), ()), ())))
                (none))
              (some ((((false, ()), ()), ())))))))))

noncomputable def spec_l05Standard_e (n : Nat) (a0 : List ((ByteArray) × ((Int) × ((((Int) × (Int)) × ((Int) × (Int))) × (((Int) × (Int)) × ((Int) × (Int))))))) (a1 : (ByteArray) × ((Int) × ((((Int) × (Int)) × ((Int) × (Int))) × (((Int) × (Int)) × ((Int) × (Int)))))) : Option ((((Bool) × (Unit)) × (Unit)) × (Unit)) := spec_l05Standard_e_t n a0 a1

noncomputable def spec_l05Ok_t9 (n : Nat) (g4 : Int → (List ((ByteArray) × ((Int) × ((((Int) × (Int)) × ((Int) × (Int))) × (((Int) × (Int)) × ((Int) × (Int))))))) → Option ((((Bool) × (Unit)) × (Unit)) × (Unit))) (g9 : Int → Int → (List ((ByteArray) × ((Int) × ((((Int) × (Int)) × ((Int) × (Int))) × (((Int) × (Int)) × ((Int) × (Int))))))) → Option ((((Bool) × (Unit)) × (Unit)) × (Unit))) (v4 : Int) (v3 : Int) (v0 : List ((ByteArray) × ((Int) × ((((Int) × (Int)) × ((Int) × (Int))) × (((Int) × (Int)) × ((Int) × (Int))))))) : Option ((((Bool) × (Unit)) × (Unit)) × (Unit)) :=
  cond (decide (v4 < v3))
  (cond ((decide (0 ≤ v4) && decide (v4 < ((v0.length : Nat) : Int))))
    (cond ((decide (0 ≤ v3) && decide (v3 < ((v0.length : Nat) : Int))))
      (cond ((eqStr (v0.getD (Int.toNat v4) ((ByteArray.mk #[]), (0, (((0, 0), (0, 0)), ((0, 0), (0, 0)))))).1 (v0.getD (Int.toNat v3) ((ByteArray.mk #[]), (0, (((0, 0), (0, 0)), ((0, 0), (0, 0)))))).1))
        (some ((((false, ()), ()), ())))
        (g9 ((IntKind.wrap .i64 (v4 + 1))) v3 v0))
      (none))
    (none))
  (g4 ((IntKind.wrap .i64 (v3 + 1))) v0)

noncomputable def spec_l05Ok_l9 (n : Nat) (g4 : Int → (List ((ByteArray) × ((Int) × ((((Int) × (Int)) × ((Int) × (Int))) × (((Int) × (Int)) × ((Int) × (Int))))))) → Option ((((Bool) × (Unit)) × (Unit)) × (Unit))) : Nat → Int → Int → (List ((ByteArray) × ((Int) × ((((Int) × (Int)) × ((Int) × (Int))) × (((Int) × (Int)) × ((Int) × (Int))))))) → Option ((((Bool) × (Unit)) × (Unit)) × (Unit))
  | 0, _, _, _ => none
  | k + 1, v4, v3, v0 => spec_l05Ok_t9 n g4 (spec_l05Ok_l9 n g4 k) v4 v3 v0

noncomputable def spec_l05Ok_t4 (n : Nat) (h9 : Nat → Int → Int → (List ((ByteArray) × ((Int) × ((((Int) × (Int)) × ((Int) × (Int))) × (((Int) × (Int)) × ((Int) × (Int))))))) → Option ((((Bool) × (Unit)) × (Unit)) × (Unit))) (g4 : Int → (List ((ByteArray) × ((Int) × ((((Int) × (Int)) × ((Int) × (Int))) × (((Int) × (Int)) × ((Int) × (Int))))))) → Option ((((Bool) × (Unit)) × (Unit)) × (Unit))) (v3 : Int) (v0 : List ((ByteArray) × ((Int) × ((((Int) × (Int)) × ((Int) × (Int))) × (((Int) × (Int)) × ((Int) × (Int))))))) : Option ((((Bool) × (Unit)) × (Unit)) × (Unit)) :=
  cond (decide (v3 < ((v0.length : Nat) : Int)))
  (cond ((decide (0 ≤ v3) && decide (v3 < ((v0.length : Nat) : Int))))
    ((spec_l05Name n ((v0.getD (Int.toNat v3) ((ByteArray.mk #[]), (0, (((0, 0), (0, 0)), ((0, 0), (0, 0)))))).1)).bind fun r0 =>
      cond (!r0.1.1.1)
      (some ((((false, ()), ()), ())))
      (cond ((decide (0 ≤ v3) && decide (v3 ≤ ((v0.length : Nat) : Int))))
        (cond ((decide (0 ≤ v3) && decide (v3 < ((v0.length : Nat) : Int))))
          ((spec_l05Standard_e n (((v0.drop (Int.toNat 0)).take ((Int.toNat v3) - (Int.toNat 0)))) (((v0.getD (Int.toNat v3) ((ByteArray.mk #[]), (0, (((0, 0), (0, 0)), ((0, 0), (0, 0)))))).1, ((v0.getD (Int.toNat v3) ((ByteArray.mk #[]), (0, (((0, 0), (0, 0)), ((0, 0), (0, 0)))))).2.1, ((((v0.getD (Int.toNat v3) ((ByteArray.mk #[]), (0, (((0, 0), (0, 0)), ((0, 0), (0, 0)))))).2.2.1.1.1, (v0.getD (Int.toNat v3) ((ByteArray.mk #[]), (0, (((0, 0), (0, 0)), ((0, 0), (0, 0)))))).2.2.1.1.2), ((v0.getD (Int.toNat v3) ((ByteArray.mk #[]), (0, (((0, 0), (0, 0)), ((0, 0), (0, 0)))))).2.2.1.2.1, (v0.getD (Int.toNat v3) ((ByteArray.mk #[]), (0, (((0, 0), (0, 0)), ((0, 0), (0, 0)))))).2.2.1.2.2)), (((v0.getD (Int.toNat v3) ((ByteArray.mk #[]), (0, (((0, 0), (0, 0)), ((0, 0), (0, 0)))))).2.2.2.1.1, (v0.getD (Int.toNat v3) ((ByteArray.mk #[]), (0, (((0, 0), (0, 0)), ((0, 0), (0, 0)))))).2.2.2.1.2), ((v0.getD (Int.toNat v3) ((ByteArray.mk #[]), (0, (((0, 0), (0, 0)), ((0, 0), (0, 0)))))).2.2.2.2.1, (v0.getD (Int.toNat v3) ((ByteArray.mk #[]), (0, (((0, 0), (0, 0)), ((0, 0), (0, 0)))))).2.2.2.2.2))))))).bind fun r1 =>
            cond (!r1.1.1.1)
            (some ((((false, ()), ()), ())))
            (h9 n 0 v3 v0))
          (none))
        (none)))
    (none))
  (some ((((true, ()), ()), ())))

noncomputable def spec_l05Ok_l4 (n : Nat) : Nat → Int → (List ((ByteArray) × ((Int) × ((((Int) × (Int)) × ((Int) × (Int))) × (((Int) × (Int)) × ((Int) × (Int))))))) → Option ((((Bool) × (Unit)) × (Unit)) × (Unit))
  | 0, _, _ => none
  | k + 1, v3, v0 => spec_l05Ok_t4 n (spec_l05Ok_l9 n (spec_l05Ok_l4 n k)) (spec_l05Ok_l4 n k) v3 v0

noncomputable def spec_l05Ok_t (n : Nat) (h4 : Nat → Int → (List ((ByteArray) × ((Int) × ((((Int) × (Int)) × ((Int) × (Int))) × (((Int) × (Int)) × ((Int) × (Int))))))) → Option ((((Bool) × (Unit)) × (Unit)) × (Unit))) (a0 : List ((ByteArray) × ((Int) × ((((Int) × (Int)) × ((Int) × (Int))) × (((Int) × (Int)) × ((Int) × (Int))))))) : Option ((((Bool) × (Unit)) × (Unit)) × (Unit)) :=
  cond (decide (((a0.length : Nat) : Int) > 30))
  (some ((((false, ()), ()), ())))
  (h4 n 0 a0)

noncomputable def spec_l05Ok (n : Nat) (a0 : List ((ByteArray) × ((Int) × ((((Int) × (Int)) × ((Int) × (Int))) × (((Int) × (Int)) × ((Int) × (Int))))))) : Option ((((Bool) × (Unit)) × (Unit)) × (Unit)) := spec_l05Ok_t n (spec_l05Ok_l4 n) a0

noncomputable def spec_l05At_t (n : Nat) (a0 : List ((ByteArray) × ((Int) × ((((Int) × (Int)) × ((Int) × (Int))) × (((Int) × (Int)) × ((Int) × (Int))))))) (a1 : Int) (a2 : Int) : Option ((((Int) × (Unit)) × (Unit)) × (Unit)) :=
  (spec_l05Ok n a0).bind fun r0 =>
  cond (!r0.1.1.1)
  (some ((((1, ()), ()), ())))
  ((spec_l00In n a1 0 ((IntKind.wrap .i64 (((a0.length : Nat) : Int) - 1)))).bind fun r1 =>
    cond (!r1.1.1.1)
    (some ((((2, ()), ()), ())))
    ((spec_l05Day n a2).bind fun r2 =>
      cond (!r2.1.1.1)
      (some ((((2, ()), ()), ())))
      (some ((((0, ()), ()), ())))))

noncomputable def spec_l05At (n : Nat) (a0 : List ((ByteArray) × ((Int) × ((((Int) × (Int)) × ((Int) × (Int))) × (((Int) × (Int)) × ((Int) × (Int))))))) (a1 : Int) (a2 : Int) : Option ((((Int) × (Unit)) × (Unit)) × (Unit)) := spec_l05At_t n a0 a1 a2

noncomputable def spec_l05Path_t (n : Nat) (rec : (List ((ByteArray) × ((Int) × ((((Int) × (Int)) × ((Int) × (Int))) × (((Int) × (Int)) × ((Int) × (Int))))))) → Int → Option ((((List (Int)) × (Unit)) × (Unit)) × (Unit))) (a0 : List ((ByteArray) × ((Int) × ((((Int) × (Int)) × ((Int) × (Int))) × (((Int) × (Int)) × ((Int) × (Int))))))) (a1 : Int) : Option ((((List (Int)) × (Unit)) × (Unit)) × (Unit)) :=
  cond (decide (a1 < 0))
  (some (((([], ()), ()), ())))
  (cond ((decide (0 ≤ a1) && decide (a1 < ((a0.length : Nat) : Int))))
    ((rec a0 ((a0.getD (Int.toNat a1) ((ByteArray.mk #[]), (0, (((0, 0), (0, 0)), ((0, 0), (0, 0)))))).2.1)).bind fun r0 =>
      cond (decide (((r0.1.1.1.length + (a1 :: []).length) * 9) ≤ 70368744177664))
      (some (((((r0.1.1.1 ++ (a1 :: [])), ()), ()), ())))
      (none))
    (none))

noncomputable def spec_l05Path_r (n : Nat) : Nat → (List ((ByteArray) × ((Int) × ((((Int) × (Int)) × ((Int) × (Int))) × (((Int) × (Int)) × ((Int) × (Int))))))) → Int → Option ((((List (Int)) × (Unit)) × (Unit)) × (Unit))
  | 0, _, _ => none
  | d + 1, a0, a1 => spec_l05Path_t n (spec_l05Path_r n d) a0 a1

noncomputable def spec_l05Path (n : Nat) (a0 : List ((ByteArray) × ((Int) × ((((Int) × (Int)) × ((Int) × (Int))) × (((Int) × (Int)) × ((Int) × (Int))))))) (a1 : Int) : Option ((((List (Int)) × (Unit)) × (Unit)) × (Unit)) := spec_l05Path_r n n a0 a1

end Go.Abs
