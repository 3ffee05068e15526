import Derived.Test.YtpegljncdjkhgaaLib
namespace Go.Abs
set_option linter.unusedVariables false

noncomputable def impl_gcd_t1 (n : Nat) (g1 : Int → Int → Option ((((Int) × (Unit)) × (Unit)) × (Unit))) (v1 : Int) (v0 : Int) : Option ((((Int) × (Unit)) × (Unit)) × (Unit)) :=
  cond ((v1 != 0))
  (cond ((v1 != 0))
    (g1 ((Int.tmod v0 v1)) v1)
    (none))
  (some (((((if v0 < (IntKind.wrap .i64 (0 - v0)) then (IntKind.wrap .i64 (0 - v0)) else v0), ()), ()), ())))

noncomputable def impl_gcd_l1 (n : Nat) : Nat → Int → Int → Option ((((Int) × (Unit)) × (Unit)) × (Unit))
  | 0, _, _ => none
  | k + 1, v1, v0 => impl_gcd_t1 n (impl_gcd_l1 n k) v1 v0

noncomputable def impl_gcd_t (n : Nat) (h1 : Nat → Int → Int → Option ((((Int) × (Unit)) × (Unit)) × (Unit))) (a0 : Int) (a1 : Int) : Option ((((Int) × (Unit)) × (Unit)) × (Unit)) :=
  h1 n a1 a0

noncomputable def impl_gcd (n : Nat) (a0 : Int) (a1 : Int) : Option ((((Int) × (Unit)) × (Unit)) × (Unit)) := impl_gcd_t n (impl_gcd_l1 n) a0 a1

noncomputable def impl_within_t (n : Nat) (a0 : Int) (a1 : Int) (a2 : Int) : Option ((((Bool) × (Unit)) × (Unit)) × (Unit)) :=
  cond (decide (a1 ≤ a0))
  (some ((((decide (a0 ≤ a2), ()), ()), ())))
  (some ((((false, ()), ()), ())))

noncomputable def impl_within (n : Nat) (a0 : Int) (a1 : Int) (a2 : Int) : Option ((((Bool) × (Unit)) × (Unit)) × (Unit)) := impl_within_t n a0 a1 a2

noncomputable def impl_ValidFrac_t (n : Nat) (a0 : (Int) × (Int)) : Option ((((Bool) × (Unit)) × (Unit)) × (Unit)) :=
  (impl_within n a0.2 1 1000000000).bind fun r0 =>
  cond r0.1.1.1
  ((impl_within n a0.1 (-1000000000) 1000000000).bind fun r1 =>
    cond r1.1.1.1
    ((impl_gcd n a0.1 a0.2).bind fun r2 =>
      some (((((r2.1.1.1 == 1), ()), ()), ())))
    (some ((((false, ()), ()), ()))))
  (some ((((false, ()), ()), ())))

noncomputable def impl_ValidFrac (n : Nat) (a0 : (Int) × (Int)) : Option ((((Bool) × (Unit)) × (Unit)) × (Unit)) := impl_ValidFrac_t n a0

noncomputable def impl_fracOf_t (n : Nat) (a0 : Int) (a1 : Int) : Option (((((Int) × (Int)) × (Unit)) × (((Bool) × (Unit)) × (Unit))) × (Unit)) :=
  cond (decide (a1 < 0))
  ((impl_gcd n ((IntKind.wrap .i64 (0 - a0))) ((IntKind.wrap .i64 (0 - a1)))).bind fun r0 =>
    cond ((r0.1.1.1 != 0))
    (cond ((r0.1.1.1 != 0))
      ((impl_ValidFrac n (((IntKind.wrap .i64 (Int.tdiv (IntKind.wrap .i64 (0 - a0)) r0.1.1.1)), (IntKind.wrap .i64 (Int.tdiv (IntKind.wrap .i64 (0 - a1)) r0.1.1.1))))).bind fun r1 =>
        cond (!r1.1.1.1)
        (some (((((0, 0), ()), ((false, ()), ())), ())))
        (some ((((((IntKind.wrap .i64 (Int.tdiv (IntKind.wrap .i64 (0 - a0)) r0.1.1.1)), (IntKind.wrap .i64 (Int.tdiv (IntKind.wrap .i64 (0 - a1)) r0.1.1.1))), ()), ((true, ()), ())), ()))))
      (none))
    (none))
  ((impl_gcd n a0 a1).bind fun r2 =>
    cond ((r2.1.1.1 != 0))
    (cond ((r2.1.1.1 != 0))
      ((impl_ValidFrac n (((IntKind.wrap .i64 (Int.tdiv a0 r2.1.1.1)), (IntKind.wrap .i64 (Int.tdiv a1 r2.1.1.1))))).bind fun r3 =>
        cond (!r3.1.1.1)
        (some (((((0, 0), ()), ((false, ()), ())), ())))
        (some ((((((IntKind.wrap .i64 (Int.tdiv a0 r2.1.1.1)), (IntKind.wrap .i64 (Int.tdiv a1 r2.1.1.1))), ()), ((true, ()), ())), ()))))
      (none))
    (none))

noncomputable def impl_fracOf (n : Nat) (a0 : Int) (a1 : Int) : Option (((((Int) × (Int)) × (Unit)) × (((Bool) × (Unit)) × (Unit))) × (Unit)) := impl_fracOf_t n a0 a1

noncomputable def impl_zero_t (n : Nat) : Option (((((Int) × (Int)) × (Unit)) × (Unit)) × (Unit)) :=
  some (((((0, 1), ()), ()), ()))

noncomputable def impl_zero (n : Nat) : Option (((((Int) × (Int)) × (Unit)) × (Unit)) × (Unit)) := impl_zero_t n

noncomputable def impl_calc_told_t (n : Nat) (a1 : Int) (a2 : Int) (b0 : Bool) : Option (((((Int) × (Int)) × (Unit)) × (Unit)) × ((Bool) × (Unit))) :=
  (impl_fracOf n a1 a2).bind fun r0 =>
  cond (!r0.1.2.1.1)
  ((impl_zero n).bind fun r1 =>
    some (((((r1.1.1.1.1, r1.1.1.1.2), ()), ()), (true, ()))))
  (some (((((r0.1.1.1.1, r0.1.1.1.2), ()), ()), (b0, ()))))

noncomputable def impl_calc_told (n : Nat) (a1 : Int) (a2 : Int) (b0 : Bool) : Option (((((Int) × (Int)) × (Unit)) × (Unit)) × ((Bool) × (Unit))) := impl_calc_told_t n a1 a2 b0

noncomputable def impl_calc_mul_t (n : Nat) (a1 : (Int) × (Int)) (a2 : (Int) × (Int)) (b0 : Bool) : Option (((((Int) × (Int)) × (Unit)) × (Unit)) × ((Bool) × (Unit))) :=
  (impl_calc_told n ((IntKind.wrap .i64 (a1.1 * a2.1))) ((IntKind.wrap .i64 (a1.2 * a2.2))) b0).bind fun r0 =>
  some (((((r0.1.1.1.1, r0.1.1.1.2), ()), ()), (r0.2.1, ())))

noncomputable def impl_calc_mul (n : Nat) (a1 : (Int) × (Int)) (a2 : (Int) × (Int)) (b0 : Bool) : Option (((((Int) × (Int)) × (Unit)) × (Unit)) × ((Bool) × (Unit))) := impl_calc_mul_t n a1 a2 b0

noncomputable def impl_calc_add_t (n : Nat) (a1 : (Int) × (Int)) (a2 : (Int) × (Int)) (b0 : Bool) : Option (((((Int) × (Int)) × (Unit)) × (Unit)) × ((Bool) × (Unit))) :=
  (impl_calc_told n ((IntKind.wrap .i64 ((IntKind.wrap .i64 (a1.1 * a2.2)) + (IntKind.wrap .i64 (a2.1 * a1.2))))) ((IntKind.wrap .i64 (a1.2 * a2.2))) b0).bind fun r0 =>
  some (((((r0.1.1.1.1, r0.1.1.1.2), ()), ()), (r0.2.1, ())))

noncomputable def impl_calc_add (n : Nat) (a1 : (Int) × (Int)) (a2 : (Int) × (Int)) (b0 : Bool) : Option (((((Int) × (Int)) × (Unit)) × (Unit)) × ((Bool) × (Unit))) := impl_calc_add_t n a1 a2 b0

noncomputable def impl_calc_plus_t (n : Nat) (a1 : ((Int) × (Int)) × ((Int) × (Int))) (a2 : ((Int) × (Int)) × ((Int) × (Int))) (b0 : Bool) : Option ((((((Int) × (Int)) × ((Int) × (Int))) × (Unit)) × (Unit)) × ((Bool) × (Unit))) :=
  (impl_calc_add n ((a1.1.1, a1.1.2)) ((a2.1.1, a2.1.2)) b0).bind fun r0 =>
  (impl_calc_add n ((a1.2.1, a1.2.2)) ((a2.2.1, a2.2.2)) r0.2.1).bind fun r1 =>
  some ((((((r0.1.1.1.1, r0.1.1.1.2), (r1.1.1.1.1, r1.1.1.1.2)), ()), ()), (r1.2.1, ())))

noncomputable def impl_calc_plus (n : Nat) (a1 : ((Int) × (Int)) × ((Int) × (Int))) (a2 : ((Int) × (Int)) × ((Int) × (Int))) (b0 : Bool) : Option ((((((Int) × (Int)) × ((Int) × (Int))) × (Unit)) × (Unit)) × ((Bool) × (Unit))) := impl_calc_plus_t n a1 a2 b0

noncomputable def impl_calc_sub_t (n : Nat) (a1 : (Int) × (Int)) (a2 : (Int) × (Int)) (b0 : Bool) : Option (((((Int) × (Int)) × (Unit)) × (Unit)) × ((Bool) × (Unit))) :=
  (impl_calc_told n ((IntKind.wrap .i64 ((IntKind.wrap .i64 (a1.1 * a2.2)) - (IntKind.wrap .i64 (a2.1 * a1.2))))) ((IntKind.wrap .i64 (a1.2 * a2.2))) b0).bind fun r0 =>
  some (((((r0.1.1.1.1, r0.1.1.1.2), ()), ()), (r0.2.1, ())))

noncomputable def impl_calc_sub (n : Nat) (a1 : (Int) × (Int)) (a2 : (Int) × (Int)) (b0 : Bool) : Option (((((Int) × (Int)) × (Unit)) × (Unit)) × ((Bool) × (Unit))) := impl_calc_sub_t n a1 a2 b0

noncomputable def impl_calc_widen_t (n : Nat) (a1 : ((Int) × (Int)) × ((Int) × (Int))) (a2 : (Int) × (Int)) (b0 : Bool) : Option ((((((Int) × (Int)) × ((Int) × (Int))) × (Unit)) × (Unit)) × ((Bool) × (Unit))) :=
  (impl_calc_sub n ((a1.1.1, a1.1.2)) ((a2.1, a2.2)) b0).bind fun r0 =>
  (impl_calc_add n ((a1.2.1, a1.2.2)) ((a2.1, a2.2)) r0.2.1).bind fun r1 =>
  some ((((((r0.1.1.1.1, r0.1.1.1.2), (r1.1.1.1.1, r1.1.1.1.2)), ()), ()), (r1.2.1, ())))

noncomputable def impl_calc_widen (n : Nat) (a1 : ((Int) × (Int)) × ((Int) × (Int))) (a2 : (Int) × (Int)) (b0 : Bool) : Option ((((((Int) × (Int)) × ((Int) × (Int))) × (Unit)) × (Unit)) × ((Bool) × (Unit))) := impl_calc_widen_t n a1 a2 b0

noncomputable def impl_num_t (n : Nat) (a0 : Int) : Option (((((Int) × (Int)) × (Unit)) × (Unit)) × (Unit)) :=
  some (((((a0, 1), ()), ()), ()))

noncomputable def impl_num (n : Nat) (a0 : Int) : Option (((((Int) × (Int)) × (Unit)) × (Unit)) × (Unit)) := impl_num_t n a0

noncomputable def impl_calc_along_t2 (n : Nat) (g2 : Int → (List (Int)) → (List ((ByteArray) × ((Int) × ((((Int) × (Int)) × ((Int) × (Int))) × (((Int) × (Int)) × ((Int) × (Int))))))) → Int → (List (Int)) → Int → Bool → Int → Int → Int → Int → Int → Int → Int → Int → Option ((((((Int) × (Int)) × ((Int) × (Int))) × (Unit)) × (Unit)) × ((Bool) × (Unit)))) (v17 : Int) (v2 : List (Int)) (v1 : List ((ByteArray) × ((Int) × ((((Int) × (Int)) × ((Int) × (Int))) × (((Int) × (Int)) × ((Int) × (Int))))))) (v3 : Int) (v15 : List (Int)) (v16 : Int) (b0 : Bool) (b1_0 : Int) (b1_1 : Int) (b1_2 : Int) (b1_3 : Int) (b2_0 : Int) (b2_1 : Int) (b2_2 : Int) (b2_3 : Int) : Option ((((((Int) × (Int)) × ((Int) × (Int))) × (Unit)) × (Unit)) × ((Bool) × (Unit))) :=
  cond (decide (v17 < v16))
  (cond ((decide (0 ≤ v17) && decide (v17 < ((v15.length : Nat) : Int))))
    (cond ((decide (0 ≤ (v15.getD (Int.toNat v17) 0)) && decide ((v15.getD (Int.toNat v17) 0) < ((v1.length : Nat) : Int))))
      (cond (decide ((IntKind.wrap .i64 (v17 + 1)) < ((v2.length : Nat) : Int)))
        (cond ((decide (0 ≤ (IntKind.wrap .i64 (v17 + 1))) && decide ((IntKind.wrap .i64 (v17 + 1)) < ((v2.length : Nat) : Int))))
          (cond ((decide (0 ≤ (v2.getD (Int.toNat (IntKind.wrap .i64 (v17 + 1))) 0)) && decide ((v2.getD (Int.toNat (IntKind.wrap .i64 (v17 + 1))) 0) < ((v1.length : Nat) : Int))))
            ((impl_calc_plus n (((b1_0, b1_1), (b1_2, b1_3))) ((((v1.getD (Int.toNat (v15.getD (Int.toNat v17) 0)) ((ByteArray.mk #[]), (0, (((0, 0), (0, 0)), ((0, 0), (0, 0)))))).2.2.1.1.1, (v1.getD (Int.toNat (v15.getD (Int.toNat v17) 0)) ((ByteArray.mk #[]), (0, (((0, 0), (0, 0)), ((0, 0), (0, 0)))))).2.2.1.1.2), ((v1.getD (Int.toNat (v15.getD (Int.toNat v17) 0)) ((ByteArray.mk #[]), (0, (((0, 0), (0, 0)), ((0, 0), (0, 0)))))).2.2.1.2.1, (v1.getD (Int.toNat (v15.getD (Int.toNat v17) 0)) ((ByteArray.mk #[]), (0, (((0, 0), (0, 0)), ((0, 0), (0, 0)))))).2.2.1.2.2))) b0).bind fun r0 =>
              (impl_num n ((IntKind.wrap .i64 ((v1.getD (Int.toNat (v2.getD (Int.toNat (IntKind.wrap .i64 (v17 + 1))) 0)) ((ByteArray.mk #[]), (0, (((0, 0), (0, 0)), ((0, 0), (0, 0)))))).2.2.2.2.1 - (v1.getD (Int.toNat (v15.getD (Int.toNat v17) 0)) ((ByteArray.mk #[]), (0, (((0, 0), (0, 0)), ((0, 0), (0, 0)))))).2.2.2.2.1)))).bind fun r1 =>
              (impl_calc_mul n (((v1.getD (Int.toNat (v15.getD (Int.toNat v17) 0)) ((ByteArray.mk #[]), (0, (((0, 0), (0, 0)), ((0, 0), (0, 0)))))).2.2.2.1.1, (v1.getD (Int.toNat (v15.getD (Int.toNat v17) 0)) ((ByteArray.mk #[]), (0, (((0, 0), (0, 0)), ((0, 0), (0, 0)))))).2.2.2.1.2)) ((r1.1.1.1.1, r1.1.1.1.2)) r0.2.1).bind fun r2 =>
              (impl_calc_widen n (((r0.1.1.1.1.1, r0.1.1.1.1.2), (r0.1.1.1.2.1, r0.1.1.1.2.2))) ((r2.1.1.1.1, r2.1.1.1.2)) r2.2.1).bind fun r3 =>
              g2 ((IntKind.wrap .i64 (v17 + 1))) v2 v1 v3 v15 v16 r3.2.1 r3.1.1.1.1.1 r3.1.1.1.1.2 r3.1.1.1.2.1 r3.1.1.1.2.2 b2_0 b2_1 b2_2 b2_3)
            (none))
          (none))
        ((impl_calc_plus n (((b1_0, b1_1), (b1_2, b1_3))) ((((v1.getD (Int.toNat (v15.getD (Int.toNat v17) 0)) ((ByteArray.mk #[]), (0, (((0, 0), (0, 0)), ((0, 0), (0, 0)))))).2.2.1.1.1, (v1.getD (Int.toNat (v15.getD (Int.toNat v17) 0)) ((ByteArray.mk #[]), (0, (((0, 0), (0, 0)), ((0, 0), (0, 0)))))).2.2.1.1.2), ((v1.getD (Int.toNat (v15.getD (Int.toNat v17) 0)) ((ByteArray.mk #[]), (0, (((0, 0), (0, 0)), ((0, 0), (0, 0)))))).2.2.1.2.1, (v1.getD (Int.toNat (v15.getD (Int.toNat v17) 0)) ((ByteArray.mk #[]), (0, (((0, 0), (0, 0)), ((0, 0), (0, 0)))))).2.2.1.2.2))) b0).bind fun r4 =>
          (impl_num n ((IntKind.wrap .i64 (v3 - (v1.getD (Int.toNat (v15.getD (Int.toNat v17) 0)) ((ByteArray.mk #[]), (0, (((0, 0), (0, 0)), ((0, 0), (0, 0)))))).2.2.2.2.1)))).bind fun r5 =>
          (impl_calc_mul n (((v1.getD (Int.toNat (v15.getD (Int.toNat v17) 0)) ((ByteArray.mk #[]), (0, (((0, 0), (0, 0)), ((0, 0), (0, 0)))))).2.2.2.1.1, (v1.getD (Int.toNat (v15.getD (Int.toNat v17) 0)) ((ByteArray.mk #[]), (0, (((0, 0), (0, 0)), ((0, 0), (0, 0)))))).2.2.2.1.2)) ((r5.1.1.1.1, r5.1.1.1.2)) r4.2.1).bind fun r6 =>
          (impl_calc_widen n (((r4.1.1.1.1.1, r4.1.1.1.1.2), (r4.1.1.1.2.1, r4.1.1.1.2.2))) ((r6.1.1.1.1, r6.1.1.1.2)) r6.2.1).bind fun r7 =>
          g2 ((IntKind.wrap .i64 (v17 + 1))) v2 v1 v3 v15 v16 r7.2.1 r7.1.1.1.1.1 r7.1.1.1.1.2 r7.1.1.1.2.1 r7.1.1.1.2.2 b2_0 b2_1 b2_2 b2_3))
      (none))
    (none))
  (some ((((((b1_0, b1_1), (b1_2, b1_3)), ()), ()), (b0, ()))))

noncomputable def impl_calc_along_l2 (n : Nat) : Nat → Int → (List (Int)) → (List ((ByteArray) × ((Int) × ((((Int) × (Int)) × ((Int) × (Int))) × (((Int) × (Int)) × ((Int) × (Int))))))) → Int → (List (Int)) → Int → Bool → Int → Int → Int → Int → Int → Int → Int → Int → Option ((((((Int) × (Int)) × ((Int) × (Int))) × (Unit)) × (Unit)) × ((Bool) × (Unit)))
  | 0, _, _, _, _, _, _, _, _, _, _, _, _, _, _, _ => none
  | k + 1, v17, v2, v1, v3, v15, v16, b0, b1_0, b1_1, b1_2, b1_3, b2_0, b2_1, b2_2, b2_3 => impl_calc_along_t2 n (impl_calc_along_l2 n k) v17 v2 v1 v3 v15 v16 b0 b1_0 b1_1 b1_2 b1_3 b2_0 b2_1 b2_2 b2_3

noncomputable def impl_calc_along_t (n : Nat) (h2 : Nat → Int → (List (Int)) → (List ((ByteArray) × ((Int) × ((((Int) × (Int)) × ((Int) × (Int))) × (((Int) × (Int)) × ((Int) × (Int))))))) → Int → (List (Int)) → Int → Bool → Int → Int → Int → Int → Int → Int → Int → Int → Option ((((((Int) × (Int)) × ((Int) × (Int))) × (Unit)) × (Unit)) × ((Bool) × (Unit)))) (a1 : List ((ByteArray) × ((Int) × ((((Int) × (Int)) × ((Int) × (Int))) × (((Int) × (Int)) × ((Int) × (Int))))))) (a2 : List (Int)) (a3 : Int) (a4 : ((Int) × (Int)) × ((Int) × (Int))) (b0 : Bool) : Option ((((((Int) × (Int)) × ((Int) × (Int))) × (Unit)) × (Unit)) × ((Bool) × (Unit))) :=
  h2 n 0 a2 a1 a3 a2 (((a2.length : Nat) : Int)) b0 a4.1.1 a4.1.2 a4.2.1 a4.2.2 0 0 0 0

noncomputable def impl_calc_along (n : Nat) (a1 : List ((ByteArray) × ((Int) × ((((Int) × (Int)) × ((Int) × (Int))) × (((Int) × (Int)) × ((Int) × (Int))))))) (a2 : List (Int)) (a3 : Int) (a4 : ((Int) × (Int)) × ((Int) × (Int))) (b0 : Bool) : Option ((((((Int) × (Int)) × ((Int) × (Int))) × (Unit)) × (Unit)) × ((Bool) × (Unit))) := impl_calc_along_t n (impl_calc_along_l2 n) a1 a2 a3 a4 b0

noncomputable def impl_none_t (n : Nat) : Option ((((((Int) × (Int)) × ((Int) × (Int))) × (Unit)) × (Unit)) × (Unit)) :=
  (impl_zero n).bind fun r0 =>
  (impl_zero n).bind fun r1 =>
  some ((((((r0.1.1.1.1, r0.1.1.1.2), (r1.1.1.1.1, r1.1.1.1.2)), ()), ()), ()))

noncomputable def impl_none (n : Nat) : Option ((((((Int) × (Int)) × ((Int) × (Int))) × (Unit)) × (Unit)) × (Unit)) := impl_none_t n

noncomputable def impl_DifferenceOn_1_t (n : Nat) (b0 : List (Int)) (b1 : Int) (b2 : Int) (b4 : List ((ByteArray) × ((Int) × ((((Int) × (Int)) × ((Int) × (Int))) × (((Int) × (Int)) × ((Int) × (Int))))))) (b5 : Bool) : Option ((((((Int) × (Int)) × ((Int) × (Int))) × (Unit)) × (((Int) × (Unit)) × (Unit))) × ((List (Int)) × ((Int) × ((Int) × ((Unit) × ((List ((ByteArray) × ((Int) × ((((Int) × (Int)) × ((Int) × (Int))) × (((Int) × (Int)) × ((Int) × (Int))))))) × ((Bool) × (Unit)))))))) :=
  cond ((((b0.length : Nat) : Int) == b1))
  ((impl_none n).bind fun r0 =>
    some ((((((r0.1.1.1.1.1, r0.1.1.1.1.2), (r0.1.1.1.2.1, r0.1.1.1.2.2)), ()), ((b2, ()), ())), (b0, (b1, (b2, ((), (b4, (b5, ())))))))))
  (cond (((decide (0 ≤ b1) && decide (b1 ≤ ((b0.length : Nat) : Int))) && decide (((b0.length : Nat) : Int) ≤ ((b0.length : Nat) : Int))))
    ((impl_none n).bind fun r1 =>
      (impl_calc_along n b4 (((b0.drop (Int.toNat b1)).take ((Int.toNat ((b0.length : Nat) : Int)) - (Int.toNat b1)))) b2 (((r1.1.1.1.1.1, r1.1.1.1.1.2), (r1.1.1.1.2.1, r1.1.1.1.2.2))) b5).bind fun r2 =>
      cond ((decide (0 ≤ b1) && decide (b1 < ((b0.length : Nat) : Int))))
      (cond ((decide (0 ≤ (b0.getD (Int.toNat b1) 0)) && decide ((b0.getD (Int.toNat b1) 0) < ((b4.length : Nat) : Int))))
        (some ((((((r2.1.1.1.1.1, r2.1.1.1.1.2), (r2.1.1.1.2.1, r2.1.1.1.2.2)), ()), (((b4.getD (Int.toNat (b0.getD (Int.toNat b1) 0)) ((ByteArray.mk #[]), (0, (((0, 0), (0, 0)), ((0, 0), (0, 0)))))).2.2.2.2.1, ()), ())), (b0, (b1, (b2, ((), (b4, (r2.2.1, ())))))))))
        (none))
      (none))
    (none))

noncomputable def impl_DifferenceOn_1 (n : Nat) (b0 : List (Int)) (b1 : Int) (b2 : Int) (b4 : List ((ByteArray) × ((Int) × ((((Int) × (Int)) × ((Int) × (Int))) × (((Int) × (Int)) × ((Int) × (Int))))))) (b5 : Bool) : Option ((((((Int) × (Int)) × ((Int) × (Int))) × (Unit)) × (((Int) × (Unit)) × (Unit))) × ((List (Int)) × ((Int) × ((Int) × ((Unit) × ((List ((ByteArray) × ((Int) × ((((Int) × (Int)) × ((Int) × (Int))) × (((Int) × (Int)) × ((Int) × (Int))))))) × ((Bool) × (Unit)))))))) := impl_DifferenceOn_1_t n b0 b1 b2 b4 b5

noncomputable def impl_Standard_good_t (n : Nat) (a0 : (ByteArray) × ((Int) × ((((Int) × (Int)) × ((Int) × (Int))) × (((Int) × (Int)) × ((Int) × (Int)))))) (a1 : Int) : Option ((((Bool) × (Unit)) × (Unit)) × (Unit)) :=
  (impl_within n a1 a0.2.2.2.2.1 ((IntKind.wrap .i64 (a0.2.2.2.2.1 + a0.2.2.2.2.2)))).bind fun r0 =>
  some ((((r0.1.1.1, ()), ()), ()))

noncomputable def impl_Standard_good (n : Nat) (a0 : (ByteArray) × ((Int) × ((((Int) × (Int)) × ((Int) × (Int))) × (((Int) × (Int)) × ((Int) × (Int)))))) (a1 : Int) : Option ((((Bool) × (Unit)) × (Unit)) × (Unit)) := impl_Standard_good_t n a0 a1

noncomputable def impl_calc_minus_t (n : Nat) (a1 : ((Int) × (Int)) × ((Int) × (Int))) (a2 : ((Int) × (Int)) × ((Int) × (Int))) (b0 : Bool) : Option ((((((Int) × (Int)) × ((Int) × (Int))) × (Unit)) × (Unit)) × ((Bool) × (Unit))) :=
  (impl_calc_sub n ((a1.1.1, a1.1.2)) ((a2.2.1, a2.2.2)) b0).bind fun r0 =>
  (impl_calc_sub n ((a1.2.1, a1.2.2)) ((a2.1.1, a2.1.2)) r0.2.1).bind fun r1 =>
  some ((((((r0.1.1.1.1, r0.1.1.1.2), (r1.1.1.1.1, r1.1.1.1.2)), ()), ()), (r1.2.1, ())))

noncomputable def impl_calc_minus (n : Nat) (a1 : ((Int) × (Int)) × ((Int) × (Int))) (a2 : ((Int) × (Int)) × ((Int) × (Int))) (b0 : Bool) : Option ((((((Int) × (Int)) × ((Int) × (Int))) × (Unit)) × (Unit)) × ((Bool) × (Unit))) := impl_calc_minus_t n a1 a2 b0

noncomputable def impl_calc_span_t (n : Nat) (a1 : ((Int) × (Int)) × ((Int) × (Int))) (b0 : Bool) : Option ((((((Int) × (Int)) × ((Int) × (Int))) × (Unit)) × (((Int) × (Unit)) × (Unit))) × ((Bool) × (Unit))) :=
  cond b0
  (some ((((((0, 0), (0, 0)), ()), ((3, ()), ())), (b0, ()))))
  (some ((((((a1.1.1, a1.1.2), (a1.2.1, a1.2.2)), ()), ((0, ()), ())), (b0, ()))))

noncomputable def impl_calc_span (n : Nat) (a1 : ((Int) × (Int)) × ((Int) × (Int))) (b0 : Bool) : Option ((((((Int) × (Int)) × ((Int) × (Int))) × (Unit)) × (((Int) × (Unit)) × (Unit))) × ((Bool) × (Unit))) := impl_calc_span_t n a1 b0

noncomputable def impl_path_t2 (n : Nat) (g2 : Int → (List ((ByteArray) × ((Int) × ((((Int) × (Int)) × ((Int) × (Int))) × (((Int) × (Int)) × ((Int) × (Int))))))) → (List (Int)) → Option ((((List (Int)) × (Unit)) × (Unit)) × (Unit))) (v1 : Int) (v0 : List ((ByteArray) × ((Int) × ((((Int) × (Int)) × ((Int) × (Int))) × (((Int) × (Int)) × ((Int) × (Int))))))) (b0 : List (Int)) : Option ((((List (Int)) × (Unit)) × (Unit)) × (Unit)) :=
  cond (decide (v1 ≥ 0))
  (cond (decide ((((v1 :: []).length + b0.length) * 9) ≤ 70368744177664))
    (cond ((decide (0 ≤ v1) && decide (v1 < ((v0.length : Nat) : Int))))
      (g2 ((v0.getD (Int.toNat v1) ((ByteArray.mk #[]), (0, (((0, 0), (0, 0)), ((0, 0), (0, 0)))))).2.1) v0 (((v1 :: []) ++ b0)))
      (none))
    (none))
  (some ((((b0, ()), ()), ())))

noncomputable def impl_path_l2 (n : Nat) : Nat → Int → (List ((ByteArray) × ((Int) × ((((Int) × (Int)) × ((Int) × (Int))) × (((Int) × (Int)) × ((Int) × (Int))))))) → (List (Int)) → Option ((((List (Int)) × (Unit)) × (Unit)) × (Unit))
  | 0, _, _, _ => none
  | k + 1, v1, v0, b0 => impl_path_t2 n (impl_path_l2 n k) v1 v0 b0

noncomputable def impl_path_t (n : Nat) (h2 : Nat → Int → (List ((ByteArray) × ((Int) × ((((Int) × (Int)) × ((Int) × (Int))) × (((Int) × (Int)) × ((Int) × (Int))))))) → (List (Int)) → Option ((((List (Int)) × (Unit)) × (Unit)) × (Unit))) (a0 : List ((ByteArray) × ((Int) × ((((Int) × (Int)) × ((Int) × (Int))) × (((Int) × (Int)) × ((Int) × (Int))))))) (a1 : Int) : Option ((((List (Int)) × (Unit)) × (Unit)) × (Unit)) :=
  h2 n a1 a0 []

noncomputable def impl_path (n : Nat) (a0 : List ((ByteArray) × ((Int) × ((((Int) × (Int)) × ((Int) × (Int))) × (((Int) × (Int)) × ((Int) × (Int))))))) (a1 : Int) : Option ((((List (Int)) × (Unit)) × (Unit)) × (Unit)) := impl_path_t n (impl_path_l2 n) a0 a1

noncomputable def impl_calc_spanOn_t (n : Nat) (a1 : List ((ByteArray) × ((Int) × ((((Int) × (Int)) × ((Int) × (Int))) × (((Int) × (Int)) × ((Int) × (Int))))))) (a2 : Int) (a3 : Int) (b0 : Bool) : Option ((((((Int) × (Int)) × ((Int) × (Int))) × (Unit)) × (Unit)) × ((Bool) × (Unit))) :=
  (impl_path n a1 a2).bind fun r0 =>
  (impl_none n).bind fun r1 =>
  (impl_calc_along n a1 r0.1.1.1 a3 (((r1.1.1.1.1.1, r1.1.1.1.1.2), (r1.1.1.1.2.1, r1.1.1.1.2.2))) b0).bind fun r2 =>
  some ((((((r2.1.1.1.1.1, r2.1.1.1.1.2), (r2.1.1.1.2.1, r2.1.1.1.2.2)), ()), ()), (r2.2.1, ())))

noncomputable def impl_calc_spanOn (n : Nat) (a1 : List ((ByteArray) × ((Int) × ((((Int) × (Int)) × ((Int) × (Int))) × (((Int) × (Int)) × ((Int) × (Int))))))) (a2 : Int) (a3 : Int) (b0 : Bool) : Option ((((((Int) × (Int)) × ((Int) × (Int))) × (Unit)) × (Unit)) × ((Bool) × (Unit))) := impl_calc_spanOn_t n a1 a2 a3 b0

noncomputable def impl_areValid_1_t (n : Nat) (a0 : (Int) × (Int)) : Option ((((Bool) × (Unit)) × (Unit)) × (Unit)) :=
  (impl_ValidFrac n ((a0.1, a0.2))).bind fun r0 =>
  some (((((!r0.1.1.1), ()), ()), ()))

noncomputable def impl_areValid_1 (n : Nat) (a0 : (Int) × (Int)) : Option ((((Bool) × (Unit)) × (Unit)) × (Unit)) := impl_areValid_1_t n a0

noncomputable def slices_IndexFunc_impl_Frac_impl_Frac_at_impl_areValid_1_t2 (n : Nat) (g2 : Int → (List ((Int) × (Int))) → Int → Option ((((Int) × (Unit)) × (Unit)) × (Unit))) (v8 : Int) (v0 : List ((Int) × (Int))) (v7 : Int) : Option ((((Int) × (Unit)) × (Unit)) × (Unit)) :=
  cond (decide (v8 < v7))
  (cond ((decide (0 ≤ v8) && decide (v8 < ((v0.length : Nat) : Int))))
    ((impl_areValid_1 n (((v0.getD (Int.toNat v8) (0, 0)).1, (v0.getD (Int.toNat v8) (0, 0)).2))).bind fun r0 =>
      cond r0.1.1.1
      (some ((((v8, ()), ()), ())))
      (g2 ((IntKind.wrap .i64 (v8 + 1))) v0 v7))
    (none))
  (some (((((-1), ()), ()), ())))

noncomputable def slices_IndexFunc_impl_Frac_impl_Frac_at_impl_areValid_1_l2 (n : Nat) : Nat → Int → (List ((Int) × (Int))) → Int → Option ((((Int) × (Unit)) × (Unit)) × (Unit))
  | 0, _, _, _ => none
  | k + 1, v8, v0, v7 => slices_IndexFunc_impl_Frac_impl_Frac_at_impl_areValid_1_t2 n (slices_IndexFunc_impl_Frac_impl_Frac_at_impl_areValid_1_l2 n k) v8 v0 v7

noncomputable def slices_IndexFunc_impl_Frac_impl_Frac_at_impl_areValid_1_t (n : Nat) (h2 : Nat → Int → (List ((Int) × (Int))) → Int → Option ((((Int) × (Unit)) × (Unit)) × (Unit))) (a0 : List ((Int) × (Int))) : Option ((((Int) × (Unit)) × (Unit)) × (Unit)) :=
  h2 n 0 a0 (((a0.length : Nat) : Int))

noncomputable def slices_IndexFunc_impl_Frac_impl_Frac_at_impl_areValid_1 (n : Nat) (a0 : List ((Int) × (Int))) : Option ((((Int) × (Unit)) × (Unit)) × (Unit)) := slices_IndexFunc_impl_Frac_impl_Frac_at_impl_areValid_1_t n (slices_IndexFunc_impl_Frac_impl_Frac_at_impl_areValid_1_l2 n) a0

noncomputable def slices_ContainsFunc_impl_Frac_impl_Frac_at_impl_areValid_1_t (n : Nat) (a0 : List ((Int) × (Int))) : Option ((((Bool) × (Unit)) × (Unit)) × (Unit)) :=
  (slices_IndexFunc_impl_Frac_impl_Frac_at_impl_areValid_1 n a0).bind fun r0 =>
  some ((((decide (r0.1.1.1 ≥ 0), ()), ()), ()))

noncomputable def slices_ContainsFunc_impl_Frac_impl_Frac_at_impl_areValid_1 (n : Nat) (a0 : List ((Int) × (Int))) : Option ((((Bool) × (Unit)) × (Unit)) × (Unit)) := slices_ContainsFunc_impl_Frac_impl_Frac_at_impl_areValid_1_t n a0

noncomputable def impl_areValid_t (n : Nat) (a0 : List ((Int) × (Int))) : Option ((((Bool) × (Unit)) × (Unit)) × (Unit)) :=
  (slices_ContainsFunc_impl_Frac_impl_Frac_at_impl_areValid_1 n a0).bind fun r0 =>
  some (((((!r0.1.1.1), ()), ()), ()))

noncomputable def impl_areValid (n : Nat) (a0 : List ((Int) × (Int))) : Option ((((Bool) × (Unit)) × (Unit)) × (Unit)) := impl_areValid_t n a0

noncomputable def impl_compare_t (n : Nat) (a0 : (Int) × (Int)) (a1 : (Int) × (Int)) : Option ((((Int) × (Unit)) × (Unit)) × (Unit)) :=
  cond (decide ((IntKind.wrap .i64 (a0.1 * a1.2)) < (IntKind.wrap .i64 (a1.1 * a0.2))))
  (some (((((-1), ()), ()), ())))
  (cond (decide ((IntKind.wrap .i64 (a0.1 * a1.2)) > (IntKind.wrap .i64 (a1.1 * a0.2))))
    (some ((((1, ()), ()), ())))
    (some ((((0, ()), ()), ()))))

noncomputable def impl_compare (n : Nat) (a0 : (Int) × (Int)) (a1 : (Int) × (Int)) : Option ((((Int) × (Unit)) × (Unit)) × (Unit)) := impl_compare_t n a0 a1

noncomputable def impl_ValidSpan_t (n : Nat) (a0 : ((Int) × (Int)) × ((Int) × (Int))) : Option ((((Bool) × (Unit)) × (Unit)) × (Unit)) :=
  (impl_areValid n (((a0.1.1, a0.1.2) :: ((a0.2.1, a0.2.2) :: [])))).bind fun r0 =>
  cond r0.1.1.1
  ((impl_compare n ((a0.1.1, a0.1.2)) ((a0.2.1, a0.2.2))).bind fun r1 =>
    some ((((decide (r1.1.1.1 ≤ 0), ()), ()), ())))
  (some ((((false, ()), ()), ())))

noncomputable def impl_ValidSpan (n : Nat) (a0 : ((Int) × (Int)) × ((Int) × (Int))) : Option ((((Bool) × (Unit)) × (Unit)) × (Unit)) := impl_ValidSpan_t n a0

noncomputable def impl_isWord_t2 (n : Nat) (g2 : Int → ByteArray → Int → Option ((((Bool) × (Unit)) × (Unit)) × (Unit))) (v6 : Int) (v0 : ByteArray) (v5 : Int) : Option ((((Bool) × (Unit)) × (Unit)) × (Unit)) :=
  cond (decide (v6 < v5))
  (cond ((decide (0 ≤ v6) && decide (v6 < (((ByteArray.size v0) : Nat) : Int))))
    (cond (decide ((byteAt v0 v6) < 97))
      (some ((((false, ()), ()), ())))
      (cond ((decide (0 ≤ v6) && decide (v6 < (((ByteArray.size v0) : Nat) : Int))))
        (cond (decide ((byteAt v0 v6) > 122))
          (some ((((false, ()), ()), ())))
          (g2 ((IntKind.wrap .i64 (v6 + 1))) v0 v5))
        (none)))
    (none))
  ((impl_within n ((((ByteArray.size v0) : Nat) : Int)) 1 12).bind fun r0 =>
    some ((((r0.1.1.1, ()), ()), ())))

noncomputable def impl_isWord_l2 (n : Nat) : Nat → Int → ByteArray → Int → Option ((((Bool) × (Unit)) × (Unit)) × (Unit))
  | 0, _, _, _ => none
  | k + 1, v6, v0, v5 => impl_isWord_t2 n (impl_isWord_l2 n k) v6 v0 v5

noncomputable def impl_isWord_t (n : Nat) (h2 : Nat → Int → ByteArray → Int → Option ((((Bool) × (Unit)) × (Unit)) × (Unit))) (a0 : ByteArray) : Option ((((Bool) × (Unit)) × (Unit)) × (Unit)) :=
  h2 n 0 a0 ((((ByteArray.size a0) : Nat) : Int))

noncomputable def impl_isWord (n : Nat) (a0 : ByteArray) : Option ((((Bool) × (Unit)) × (Unit)) × (Unit)) := impl_isWord_t n (impl_isWord_l2 n) a0

noncomputable def impl_ValidChain_1_t (n : Nat) (a0 : (ByteArray) × ((Int) × ((((Int) × (Int)) × ((Int) × (Int))) × (((Int) × (Int)) × ((Int) × (Int)))))) (b0 : (ByteArray) × ((Int) × ((((Int) × (Int)) × ((Int) × (Int))) × (((Int) × (Int)) × ((Int) × (Int)))))) : Option ((((Bool) × (Unit)) × (Unit)) × (((ByteArray) × ((Int) × ((((Int) × (Int)) × ((Int) × (Int))) × (((Int) × (Int)) × ((Int) × (Int)))))) × (Unit))) :=
  some (((((eqStr a0.1 b0.1), ()), ()), ((b0.1, (b0.2.1, (((b0.2.2.1.1.1, b0.2.2.1.1.2), (b0.2.2.1.2.1, b0.2.2.1.2.2)), ((b0.2.2.2.1.1, b0.2.2.2.1.2), (b0.2.2.2.2.1, b0.2.2.2.2.2))))), ())))

noncomputable def impl_ValidChain_1 (n : Nat) (a0 : (ByteArray) × ((Int) × ((((Int) × (Int)) × ((Int) × (Int))) × (((Int) × (Int)) × ((Int) × (Int)))))) (b0 : (ByteArray) × ((Int) × ((((Int) × (Int)) × ((Int) × (Int))) × (((Int) × (Int)) × ((Int) × (Int)))))) : Option ((((Bool) × (Unit)) × (Unit)) × (((ByteArray) × ((Int) × ((((Int) × (Int)) × ((Int) × (Int))) × (((Int) × (Int)) × ((Int) × (Int)))))) × (Unit))) := impl_ValidChain_1_t n a0 b0

noncomputable def slices_IndexFunc_impl_Standard_impl_Standard_at_impl_ValidChain_1_t2 (n : Nat) (g2 : Int → (List ((ByteArray) × ((Int) × ((((Int) × (Int)) × ((Int) × (Int))) × (((Int) × (Int)) × ((Int) × (Int))))))) → Int → ByteArray → Int → Int → Int → Int → Int → Int → Int → Int → Int → Option ((((Int) × (Unit)) × (Unit)) × (((ByteArray) × ((Int) × ((((Int) × (Int)) × ((Int) × (Int))) × (((Int) × (Int)) × ((Int) × (Int)))))) × (Unit)))) (v8 : Int) (v0 : List ((ByteArray) × ((Int) × ((((Int) × (Int)) × ((Int) × (Int))) × (((Int) × (Int)) × ((Int) × (Int))))))) (v7 : Int) (b0_0 : ByteArray) (b0_1 : Int) (b0_2 : Int) (b0_3 : Int) (b0_4 : Int) (b0_5 : Int) (b0_6 : Int) (b0_7 : Int) (b0_8 : Int) (b0_9 : Int) : Option ((((Int) × (Unit)) × (Unit)) × (((ByteArray) × ((Int) × ((((Int) × (Int)) × ((Int) × (Int))) × (((Int) × (Int)) × ((Int) × (Int)))))) × (Unit))) :=
  cond (decide (v8 < v7))
  (cond ((decide (0 ≤ v8) && decide (v8 < ((v0.length : Nat) : Int))))
    ((impl_ValidChain_1 n (((v0.getD (Int.toNat v8) ((ByteArray.mk #[]), (0, (((0, 0), (0, 0)), ((0, 0), (0, 0)))))).1, ((v0.getD (Int.toNat v8) ((ByteArray.mk #[]), (0, (((0, 0), (0, 0)), ((0, 0), (0, 0)))))).2.1, ((((v0.getD (Int.toNat v8) ((ByteArray.mk #[]), (0, (((0, 0), (0, 0)), ((0, 0), (0, 0)))))).2.2.1.1.1, (v0.getD (Int.toNat v8) ((ByteArray.mk #[]), (0, (((0, 0), (0, 0)), ((0, 0), (0, 0)))))).2.2.1.1.2), ((v0.getD (Int.toNat v8) ((ByteArray.mk #[]), (0, (((0, 0), (0, 0)), ((0, 0), (0, 0)))))).2.2.1.2.1, (v0.getD (Int.toNat v8) ((ByteArray.mk #[]), (0, (((0, 0), (0, 0)), ((0, 0), (0, 0)))))).2.2.1.2.2)), (((v0.getD (Int.toNat v8) ((ByteArray.mk #[]), (0, (((0, 0), (0, 0)), ((0, 0), (0, 0)))))).2.2.2.1.1, (v0.getD (Int.toNat v8) ((ByteArray.mk #[]), (0, (((0, 0), (0, 0)), ((0, 0), (0, 0)))))).2.2.2.1.2), ((v0.getD (Int.toNat v8) ((ByteArray.mk #[]), (0, (((0, 0), (0, 0)), ((0, 0), (0, 0)))))).2.2.2.2.1, (v0.getD (Int.toNat v8) ((ByteArray.mk #[]), (0, (((0, 0), (0, 0)), ((0, 0), (0, 0)))))).2.2.2.2.2)))))) ((b0_0, (b0_1, (((b0_2, b0_3), (b0_4, b0_5)), ((b0_6, b0_7), (b0_8, b0_9))))))).bind fun r0 =>
      cond r0.1.1.1
      (some ((((v8, ()), ()), ((r0.2.1.1, (r0.2.1.2.1, (((r0.2.1.2.2.1.1.1, r0.2.1.2.2.1.1.2), (r0.2.1.2.2.1.2.1, r0.2.1.2.2.1.2.2)), ((r0.2.1.2.2.2.1.1, r0.2.1.2.2.2.1.2), (r0.2.1.2.2.2.2.1, r0.2.1.2.2.2.2.2))))), ()))))
      (g2 ((IntKind.wrap .i64 (v8 + 1))) v0 v7 r0.2.1.1 r0.2.1.2.1 r0.2.1.2.2.1.1.1 r0.2.1.2.2.1.1.2 r0.2.1.2.2.1.2.1 r0.2.1.2.2.1.2.2 r0.2.1.2.2.2.1.1 r0.2.1.2.2.2.1.2 r0.2.1.2.2.2.2.1 r0.2.1.2.2.2.2.2))
    (none))
  (some (((((-1), ()), ()), ((b0_0, (b0_1, (((b0_2, b0_3), (b0_4, b0_5)), ((b0_6, b0_7), (b0_8, b0_9))))), ()))))

noncomputable def slices_IndexFunc_impl_Standard_impl_Standard_at_impl_ValidChain_1_l2 (n : Nat) : Nat → Int → (List ((ByteArray) × ((Int) × ((((Int) × (Int)) × ((Int) × (Int))) × (((Int) × (Int)) × ((Int) × (Int))))))) → Int → ByteArray → Int → Int → Int → Int → Int → Int → Int → Int → Int → Option ((((Int) × (Unit)) × (Unit)) × (((ByteArray) × ((Int) × ((((Int) × (Int)) × ((Int) × (Int))) × (((Int) × (Int)) × ((Int) × (Int)))))) × (Unit)))
  | 0, _, _, _, _, _, _, _, _, _, _, _, _, _ => none
  | k + 1, v8, v0, v7, b0_0, b0_1, b0_2, b0_3, b0_4, b0_5, b0_6, b0_7, b0_8, b0_9 => slices_IndexFunc_impl_Standard_impl_Standard_at_impl_ValidChain_1_t2 n (slices_IndexFunc_impl_Standard_impl_Standard_at_impl_ValidChain_1_l2 n k) v8 v0 v7 b0_0 b0_1 b0_2 b0_3 b0_4 b0_5 b0_6 b0_7 b0_8 b0_9

noncomputable def slices_IndexFunc_impl_Standard_impl_Standard_at_impl_ValidChain_1_t (n : Nat) (h2 : Nat → Int → (List ((ByteArray) × ((Int) × ((((Int) × (Int)) × ((Int) × (Int))) × (((Int) × (Int)) × ((Int) × (Int))))))) → Int → ByteArray → Int → Int → Int → Int → Int → Int → Int → Int → Int → Option ((((Int) × (Unit)) × (Unit)) × (((ByteArray) × ((Int) × ((((Int) × (Int)) × ((Int) × (Int))) × (((Int) × (Int)) × ((Int) × (Int)))))) × (Unit)))) (a0 : List ((ByteArray) × ((Int) × ((((Int) × (Int)) × ((Int) × (Int))) × (((Int) × (Int)) × ((Int) × (Int))))))) (b0 : (ByteArray) × ((Int) × ((((Int) × (Int)) × ((Int) × (Int))) × (((Int) × (Int)) × ((Int) × (Int)))))) : Option ((((Int) × (Unit)) × (Unit)) × (((ByteArray) × ((Int) × ((((Int) × (Int)) × ((Int) × (Int))) × (((Int) × (Int)) × ((Int) × (Int)))))) × (Unit))) :=
  h2 n 0 a0 (((a0.length : Nat) : Int)) b0.1 b0.2.1 b0.2.2.1.1.1 b0.2.2.1.1.2 b0.2.2.1.2.1 b0.2.2.1.2.2 b0.2.2.2.1.1 b0.2.2.2.1.2 b0.2.2.2.2.1 b0.2.2.2.2.2

noncomputable def slices_IndexFunc_impl_Standard_impl_Standard_at_impl_ValidChain_1 (n : Nat) (a0 : List ((ByteArray) × ((Int) × ((((Int) × (Int)) × ((Int) × (Int))) × (((Int) × (Int)) × ((Int) × (Int))))))) (b0 : (ByteArray) × ((Int) × ((((Int) × (Int)) × ((Int) × (Int))) × (((Int) × (Int)) × ((Int) × (Int)))))) : Option ((((Int) × (Unit)) × (Unit)) × (((ByteArray) × ((Int) × ((((Int) × (Int)) × ((Int) × (Int))) × (((Int) × (Int)) × ((Int) × (Int)))))) × (Unit))) := slices_IndexFunc_impl_Standard_impl_Standard_at_impl_ValidChain_1_t n (slices_IndexFunc_impl_Standard_impl_Standard_at_impl_ValidChain_1_l2 n) a0 b0

noncomputable def slices_ContainsFunc_impl_Standard_impl_Standard_at_impl_ValidChain_1_t (n : Nat) (a0 : List ((ByteArray) × ((Int) × ((((Int) × (Int)) × ((Int) × (Int))) × (((Int) × (Int)) × ((Int) × (Int))))))) (b0 : (ByteArray) × ((Int) × ((((Int) × (Int)) × ((Int) × (Int))) × (((Int) × (Int)) × ((Int) × (Int)))))) : Option ((((Bool) × (Unit)) × (Unit)) × (((ByteArray) × ((Int) × ((((Int) × (Int)) × ((Int) × (Int))) × (((Int) × (Int)) × ((Int) × (Int)))))) × (Unit))) :=
  (slices_IndexFunc_impl_Standard_impl_Standard_at_impl_ValidChain_1 n a0 ((b0.1, (b0.2.1, (((b0.2.2.1.1.1, b0.2.2.1.1.2), (b0.2.2.1.2.1, b0.2.2.1.2.2)), ((b0.2.2.2.1.1, b0.2.2.2.1.2), (b0.2.2.2.2.1, b0.2.2.2.2.2))))))).bind fun r0 =>
  some ((((decide (r0.1.1.1 ≥ 0), ()), ()), ((r0.2.1.1, (r0.2.1.2.1, (((r0.2.1.2.2.1.1.1, r0.2.1.2.2.1.1.2), (r0.2.1.2.2.1.2.1, r0.2.1.2.2.1.2.2)), ((r0.2.1.2.2.2.1.1, r0.2.1.2.2.2.1.2), (r0.2.1.2.2.2.2.1, r0.2.1.2.2.2.2.2))))), ())))

noncomputable def slices_ContainsFunc_impl_Standard_impl_Standard_at_impl_ValidChain_1 (n : Nat) (a0 : List ((ByteArray) × ((Int) × ((((Int) × (Int)) × ((Int) × (Int))) × (((Int) × (Int)) × ((Int) × (Int))))))) (b0 : (ByteArray) × ((Int) × ((((Int) × (Int)) × ((Int) × (Int))) × (((Int) × (Int)) × ((Int) × (Int)))))) : Option ((((Bool) × (Unit)) × (Unit)) × (((ByteArray) × ((Int) × ((((Int) × (Int)) × ((Int) × (Int))) × (((Int) × (Int)) × ((Int) × (Int)))))) × (Unit))) := slices_ContainsFunc_impl_Standard_impl_Standard_at_impl_ValidChain_1_t n a0 b0

noncomputable def impl_ValidChain_t2 (n : Nat) (g2 : Int → (List ((ByteArray) × ((Int) × ((((Int) × (Int)) × ((Int) × (Int))) × (((Int) × (Int)) × ((Int) × (Int))))))) → (List ((ByteArray) × ((Int) × ((((Int) × (Int)) × ((Int) × (Int))) × (((Int) × (Int)) × ((Int) × (Int))))))) → Int → Option ((((Bool) × (Unit)) × (Unit)) × (Unit))) (v7 : Int) (v0 : List ((ByteArray) × ((Int) × ((((Int) × (Int)) × ((Int) × (Int))) × (((Int) × (Int)) × ((Int) × (Int))))))) (v5 : List ((ByteArray) × ((Int) × ((((Int) × (Int)) × ((Int) × (Int))) × (((Int) × (Int)) × ((Int) × (Int))))))) (v6 : Int) : Option ((((Bool) × (Unit)) × (Unit)) × (Unit)) :=
  cond (decide (v7 < v6))
  (cond ((decide (0 ≤ v7) && decide (v7 < ((v5.length : Nat) : Int))))
    ((impl_isWord n ((v5.getD (Int.toNat v7) ((ByteArray.mk #[]), (0, (((0, 0), (0, 0)), ((0, 0), (0, 0)))))).1)).bind fun r0 =>
      cond (!r0.1.1.1)
      (some ((((false, ()), ()), ())))
      (cond ((decide (0 ≤ v7) && decide (v7 ≤ ((v0.length : Nat) : Int))))
        ((slices_ContainsFunc_impl_Standard_impl_Standard_at_impl_ValidChain_1 n (((v0.drop (Int.toNat 0)).take ((Int.toNat v7) - (Int.toNat 0)))) (((v5.getD (Int.toNat v7) ((ByteArray.mk #[]), (0, (((0, 0), (0, 0)), ((0, 0), (0, 0)))))).1, ((v5.getD (Int.toNat v7) ((ByteArray.mk #[]), (0, (((0, 0), (0, 0)), ((0, 0), (0, 0)))))).2.1, ((((v5.getD (Int.toNat v7) ((ByteArray.mk #[]), (0, (((0, 0), (0, 0)), ((0, 0), (0, 0)))))).2.2.1.1.1, (v5.getD (Int.toNat v7) ((ByteArray.mk #[]), (0, (((0, 0), (0, 0)), ((0, 0), (0, 0)))))).2.2.1.1.2), ((v5.getD (Int.toNat v7) ((ByteArray.mk #[]), (0, (((0, 0), (0, 0)), ((0, 0), (0, 0)))))).2.2.1.2.1, (v5.getD (Int.toNat v7) ((ByteArray.mk #[]), (0, (((0, 0), (0, 0)), ((0, 0), (0, 0)))))).2.2.1.2.2)), (((v5.getD (Int.toNat v7) ((ByteArray.mk #[]), (0, (((0, 0), (0, 0)), ((0, 0), (0, 0)))))).2.2.2.1.1, (v5.getD (Int.toNat v7) ((ByteArray.mk #[]), (0, (((0, 0), (0, 0)), ((0, 0), (0, 0)))))).2.2.2.1.2), ((v5.getD (Int.toNat v7) ((ByteArray.mk #[]), (0, (((0, 0), (0, 0)), ((0, 0), (0, 0)))))).2.2.2.2.1, (v5.getD (Int.toNat v7) ((ByteArray.mk #[]), (0, (((0, 0), (0, 0)), ((0, 0), (0, 0)))))).2.2.2.2.2))))))).bind fun r1 =>
          cond r1.1.1.1
          (some ((((false, ()), ()), ())))
          ((impl_within n r1.2.1.2.1 (-1) ((IntKind.wrap .i64 (v7 - 1)))).bind fun r2 =>
            cond (!r2.1.1.1)
            (some ((((false, ()), ()), ())))
            ((impl_ValidSpan n (((r1.2.1.2.2.1.1.1, r1.2.1.2.2.1.1.2), (r1.2.1.2.2.1.2.1, r1.2.1.2.2.1.2.2)))).bind fun r3 =>
              cond (!r3.1.1.1)
              (some ((((false, ()), ()), ())))
              ((impl_ValidFrac n ((r1.2.1.2.2.2.1.1, r1.2.1.2.2.2.1.2))).bind fun r4 =>
                cond (!r4.1.1.1)
                (some ((((false, ()), ()), ())))
                (cond (decide (r1.2.1.2.2.2.1.1 < 0))
                  (some ((((false, ()), ()), ())))
                  ((impl_within n r1.2.1.2.2.2.2.1 0 100000).bind fun r5 =>
                    cond (!r5.1.1.1)
                    (some ((((false, ()), ()), ())))
                    ((impl_within n r1.2.1.2.2.2.2.2 0 100000).bind fun r6 =>
                      cond (!r6.1.1.1)
                      (some ((((false, ()), ()), ())))
                      (cond (decide (r1.2.1.2.1 ≥ 0))
                        (cond ((decide (0 ≤ r1.2.1.2.1) && decide (r1.2.1.2.1 < ((v0.length : Nat) : Int))))
                          ((impl_Standard_good n (((v0.getD (Int.toNat r1.2.1.2.1) ((ByteArray.mk #[]), (0, (((0, 0), (0, 0)), ((0, 0), (0, 0)))))).1, ((v0.getD (Int.toNat r1.2.1.2.1) ((ByteArray.mk #[]), (0, (((0, 0), (0, 0)), ((0, 0), (0, 0)))))).2.1, ((((v0.getD (Int.toNat r1.2.1.2.1) ((ByteArray.mk #[]), (0, (((0, 0), (0, 0)), ((0, 0), (0, 0)))))).2.2.1.1.1, (v0.getD (Int.toNat r1.2.1.2.1) ((ByteArray.mk #[]), (0, (((0, 0), (0, 0)), ((0, 0), (0, 0)))))).2.2.1.1.2), ((v0.getD (Int.toNat r1.2.1.2.1) ((ByteArray.mk #[]), (0, (((0, 0), (0, 0)), ((0, 0), (0, 0)))))).2.2.1.2.1, (v0.getD (Int.toNat r1.2.1.2.1) ((ByteArray.mk #[]), (0, (((0, 0), (0, 0)), ((0, 0), (0, 0)))))).2.2.1.2.2)), (((v0.getD (Int.toNat r1.2.1.2.1) ((ByteArray.mk #[]), (0, (((0, 0), (0, 0)), ((0, 0), (0, 0)))))).2.2.2.1.1, (v0.getD (Int.toNat r1.2.1.2.1) ((ByteArray.mk #[]), (0, (((0, 0), (0, 0)), ((0, 0), (0, 0)))))).2.2.2.1.2), ((v0.getD (Int.toNat r1.2.1.2.1) ((ByteArray.mk #[]), (0, (((0, 0), (0, 0)), ((0, 0), (0, 0)))))).2.2.2.2.1, (v0.getD (Int.toNat r1.2.1.2.1) ((ByteArray.mk #[]), (0, (((0, 0), (0, 0)), ((0, 0), (0, 0)))))).2.2.2.2.2)))))) r1.2.1.2.2.2.2.1).bind fun r7 =>
                            cond (!r7.1.1.1)
                            (some ((((false, ()), ()), ())))
                            (g2 ((IntKind.wrap .i64 (v7 + 1))) v0 v5 v6))
                          (none))
                        (g2 ((IntKind.wrap .i64 (v7 + 1))) v0 v5 v6)))))))))
        (none)))
    (none))
  (some ((((decide (((v0.length : Nat) : Int) ≤ 30), ()), ()), ())))

noncomputable def impl_ValidChain_l2 (n : Nat) : Nat → Int → (List ((ByteArray) × ((Int) × ((((Int) × (Int)) × ((Int) × (Int))) × (((Int) × (Int)) × ((Int) × (Int))))))) → (List ((ByteArray) × ((Int) × ((((Int) × (Int)) × ((Int) × (Int))) × (((Int) × (Int)) × ((Int) × (Int))))))) → Int → Option ((((Bool) × (Unit)) × (Unit)) × (Unit))
  | 0, _, _, _, _ => none
  | k + 1, v7, v0, v5, v6 => impl_ValidChain_t2 n (impl_ValidChain_l2 n k) v7 v0 v5 v6

noncomputable def impl_ValidChain_t (n : Nat) (h2 : Nat → Int → (List ((ByteArray) × ((Int) × ((((Int) × (Int)) × ((Int) × (Int))) × (((Int) × (Int)) × ((Int) × (Int))))))) → (List ((ByteArray) × ((Int) × ((((Int) × (Int)) × ((Int) × (Int))) × (((Int) × (Int)) × ((Int) × (Int))))))) → Int → Option ((((Bool) × (Unit)) × (Unit)) × (Unit))) (a0 : List ((ByteArray) × ((Int) × ((((Int) × (Int)) × ((Int) × (Int))) × (((Int) × (Int)) × ((Int) × (Int))))))) : Option ((((Bool) × (Unit)) × (Unit)) × (Unit)) :=
  h2 n 0 a0 a0 (((a0.length : Nat) : Int))

noncomputable def impl_ValidChain (n : Nat) (a0 : List ((ByteArray) × ((Int) × ((((Int) × (Int)) × ((Int) × (Int))) × (((Int) × (Int)) × ((Int) × (Int))))))) : Option ((((Bool) × (Unit)) × (Unit)) × (Unit)) := impl_ValidChain_t n (impl_ValidChain_l2 n) a0

noncomputable def impl_chainCode_1_t (n : Nat) (a0 : Int) (b0 : List ((ByteArray) × ((Int) × ((((Int) × (Int)) × ((Int) × (Int))) × (((Int) × (Int)) × ((Int) × (Int))))))) : Option ((((Bool) × (Unit)) × (Unit)) × ((List ((ByteArray) × ((Int) × ((((Int) × (Int)) × ((Int) × (Int))) × (((Int) × (Int)) × ((Int) × (Int))))))) × (Unit))) :=
  (impl_within n a0 0 ((IntKind.wrap .i64 (((b0.length : Nat) : Int) - 1)))).bind fun r0 =>
  some (((((!r0.1.1.1), ()), ()), (b0, ())))

noncomputable def impl_chainCode_1 (n : Nat) (a0 : Int) (b0 : List ((ByteArray) × ((Int) × ((((Int) × (Int)) × ((Int) × (Int))) × (((Int) × (Int)) × ((Int) × (Int))))))) : Option ((((Bool) × (Unit)) × (Unit)) × ((List ((ByteArray) × ((Int) × ((((Int) × (Int)) × ((Int) × (Int))) × (((Int) × (Int)) × ((Int) × (Int))))))) × (Unit))) := impl_chainCode_1_t n a0 b0

noncomputable def slices_IndexFunc_int64_int64_at_impl_chainCode_1_t2 (n : Nat) (g2 : Int → (List (Int)) → Int → (List ((ByteArray) × ((Int) × ((((Int) × (Int)) × ((Int) × (Int))) × (((Int) × (Int)) × ((Int) × (Int))))))) → Option ((((Int) × (Unit)) × (Unit)) × ((List ((ByteArray) × ((Int) × ((((Int) × (Int)) × ((Int) × (Int))) × (((Int) × (Int)) × ((Int) × (Int))))))) × (Unit)))) (v8 : Int) (v0 : List (Int)) (v7 : Int) (b0 : List ((ByteArray) × ((Int) × ((((Int) × (Int)) × ((Int) × (Int))) × (((Int) × (Int)) × ((Int) × (Int))))))) : Option ((((Int) × (Unit)) × (Unit)) × ((List ((ByteArray) × ((Int) × ((((Int) × (Int)) × ((Int) × (Int))) × (((Int) × (Int)) × ((Int) × (Int))))))) × (Unit))) :=
  cond (decide (v8 < v7))
  (cond ((decide (0 ≤ v8) && decide (v8 < ((v0.length : Nat) : Int))))
    ((impl_chainCode_1 n ((v0.getD (Int.toNat v8) 0)) b0).bind fun r0 =>
      cond r0.1.1.1
      (some ((((v8, ()), ()), (r0.2.1, ()))))
      (g2 ((IntKind.wrap .i64 (v8 + 1))) v0 v7 r0.2.1))
    (none))
  (some (((((-1), ()), ()), (b0, ()))))

noncomputable def slices_IndexFunc_int64_int64_at_impl_chainCode_1_l2 (n : Nat) : Nat → Int → (List (Int)) → Int → (List ((ByteArray) × ((Int) × ((((Int) × (Int)) × ((Int) × (Int))) × (((Int) × (Int)) × ((Int) × (Int))))))) → Option ((((Int) × (Unit)) × (Unit)) × ((List ((ByteArray) × ((Int) × ((((Int) × (Int)) × ((Int) × (Int))) × (((Int) × (Int)) × ((Int) × (Int))))))) × (Unit)))
  | 0, _, _, _, _ => none
  | k + 1, v8, v0, v7, b0 => slices_IndexFunc_int64_int64_at_impl_chainCode_1_t2 n (slices_IndexFunc_int64_int64_at_impl_chainCode_1_l2 n k) v8 v0 v7 b0

noncomputable def slices_IndexFunc_int64_int64_at_impl_chainCode_1_t (n : Nat) (h2 : Nat → Int → (List (Int)) → Int → (List ((ByteArray) × ((Int) × ((((Int) × (Int)) × ((Int) × (Int))) × (((Int) × (Int)) × ((Int) × (Int))))))) → Option ((((Int) × (Unit)) × (Unit)) × ((List ((ByteArray) × ((Int) × ((((Int) × (Int)) × ((Int) × (Int))) × (((Int) × (Int)) × ((Int) × (Int))))))) × (Unit)))) (a0 : List (Int)) (b0 : List ((ByteArray) × ((Int) × ((((Int) × (Int)) × ((Int) × (Int))) × (((Int) × (Int)) × ((Int) × (Int))))))) : Option ((((Int) × (Unit)) × (Unit)) × ((List ((ByteArray) × ((Int) × ((((Int) × (Int)) × ((Int) × (Int))) × (((Int) × (Int)) × ((Int) × (Int))))))) × (Unit))) :=
  h2 n 0 a0 (((a0.length : Nat) : Int)) b0

noncomputable def slices_IndexFunc_int64_int64_at_impl_chainCode_1 (n : Nat) (a0 : List (Int)) (b0 : List ((ByteArray) × ((Int) × ((((Int) × (Int)) × ((Int) × (Int))) × (((Int) × (Int)) × ((Int) × (Int))))))) : Option ((((Int) × (Unit)) × (Unit)) × ((List ((ByteArray) × ((Int) × ((((Int) × (Int)) × ((Int) × (Int))) × (((Int) × (Int)) × ((Int) × (Int))))))) × (Unit))) := slices_IndexFunc_int64_int64_at_impl_chainCode_1_t n (slices_IndexFunc_int64_int64_at_impl_chainCode_1_l2 n) a0 b0

noncomputable def slices_ContainsFunc_int64_int64_at_impl_chainCode_1_t (n : Nat) (a0 : List (Int)) (b0 : List ((ByteArray) × ((Int) × ((((Int) × (Int)) × ((Int) × (Int))) × (((Int) × (Int)) × ((Int) × (Int))))))) : Option ((((Bool) × (Unit)) × (Unit)) × ((List ((ByteArray) × ((Int) × ((((Int) × (Int)) × ((Int) × (Int))) × (((Int) × (Int)) × ((Int) × (Int))))))) × (Unit))) :=
  (slices_IndexFunc_int64_int64_at_impl_chainCode_1 n a0 b0).bind fun r0 =>
  some ((((decide (r0.1.1.1 ≥ 0), ()), ()), (r0.2.1, ())))

noncomputable def slices_ContainsFunc_int64_int64_at_impl_chainCode_1 (n : Nat) (a0 : List (Int)) (b0 : List ((ByteArray) × ((Int) × ((((Int) × (Int)) × ((Int) × (Int))) × (((Int) × (Int)) × ((Int) × (Int))))))) : Option ((((Bool) × (Unit)) × (Unit)) × ((List ((ByteArray) × ((Int) × ((((Int) × (Int)) × ((Int) × (Int))) × (((Int) × (Int)) × ((Int) × (Int))))))) × (Unit))) := slices_ContainsFunc_int64_int64_at_impl_chainCode_1_t n a0 b0

noncomputable def impl_chainCode_2_t (n : Nat) (a0 : Int) : Option ((((Bool) × (Unit)) × (Unit)) × (Unit)) :=
  (impl_within n a0 0 100000).bind fun r0 =>
  some (((((!r0.1.1.1), ()), ()), ()))

noncomputable def impl_chainCode_2 (n : Nat) (a0 : Int) : Option ((((Bool) × (Unit)) × (Unit)) × (Unit)) := impl_chainCode_2_t n a0

noncomputable def slices_IndexFunc_int64_int64_at_impl_chainCode_2_t2 (n : Nat) (g2 : Int → (List (Int)) → Int → Option ((((Int) × (Unit)) × (Unit)) × (Unit))) (v8 : Int) (v0 : List (Int)) (v7 : Int) : Option ((((Int) × (Unit)) × (Unit)) × (Unit)) :=
  cond (decide (v8 < v7))
  (cond ((decide (0 ≤ v8) && decide (v8 < ((v0.length : Nat) : Int))))
    ((impl_chainCode_2 n ((v0.getD (Int.toNat v8) 0))).bind fun r0 =>
      cond r0.1.1.1
      (some ((((v8, ()), ()), ())))
      (g2 ((IntKind.wrap .i64 (v8 + 1))) v0 v7))
    (none))
  (some (((((-1), ()), ()), ())))

noncomputable def slices_IndexFunc_int64_int64_at_impl_chainCode_2_l2 (n : Nat) : Nat → Int → (List (Int)) → Int → Option ((((Int) × (Unit)) × (Unit)) × (Unit))
  | 0, _, _, _ => none
  | k + 1, v8, v0, v7 => slices_IndexFunc_int64_int64_at_impl_chainCode_2_t2 n (slices_IndexFunc_int64_int64_at_impl_chainCode_2_l2 n k) v8 v0 v7

noncomputable def slices_IndexFunc_int64_int64_at_impl_chainCode_2_t (n : Nat) (h2 : Nat → Int → (List (Int)) → Int → Option ((((Int) × (Unit)) × (Unit)) × (Unit))) (a0 : List (Int)) : Option ((((Int) × (Unit)) × (Unit)) × (Unit)) :=
  h2 n 0 a0 (((a0.length : Nat) : Int))

noncomputable def slices_IndexFunc_int64_int64_at_impl_chainCode_2 (n : Nat) (a0 : List (Int)) : Option ((((Int) × (Unit)) × (Unit)) × (Unit)) := slices_IndexFunc_int64_int64_at_impl_chainCode_2_t n (slices_IndexFunc_int64_int64_at_impl_chainCode_2_l2 n) a0

noncomputable def slices_ContainsFunc_int64_int64_at_impl_chainCode_2_t (n : Nat) (a0 : List (Int)) : Option ((((Bool) × (Unit)) × (Unit)) × (Unit)) :=
  (slices_IndexFunc_int64_int64_at_impl_chainCode_2 n a0).bind fun r0 =>
  some ((((decide (r0.1.1.1 ≥ 0), ()), ()), ()))

noncomputable def slices_ContainsFunc_int64_int64_at_impl_chainCode_2 (n : Nat) (a0 : List (Int)) : Option ((((Bool) × (Unit)) × (Unit)) × (Unit)) := slices_ContainsFunc_int64_int64_at_impl_chainCode_2_t n a0

noncomputable def impl_chainCode_t (n : Nat) (a0 : List ((ByteArray) × ((Int) × ((((Int) × (Int)) × ((Int) × (Int))) × (((Int) × (Int)) × ((Int) × (Int))))))) (a1 : List (Int)) (a2 : List (Int)) : Option ((((Int) × (Unit)) × (Unit)) × (Unit)) :=
  (impl_ValidChain n a0).bind fun r0 =>
  cond (!r0.1.1.1)
  (some ((((1, ()), ()), ())))
  ((slices_ContainsFunc_int64_int64_at_impl_chainCode_1 n a1 a0).bind fun r1 =>
    cond r1.1.1.1
    (some ((((2, ()), ()), ())))
    ((slices_ContainsFunc_int64_int64_at_impl_chainCode_2 n a2).bind fun r2 =>
      cond r2.1.1.1
      (some ((((2, ()), ()), ())))
      (some ((((0, ()), ()), ())))))

noncomputable def impl_chainCode (n : Nat) (a0 : List ((ByteArray) × ((Int) × ((((Int) × (Int)) × ((Int) × (Int))) × (((Int) × (Int)) × ((Int) × (Int))))))) (a1 : List (Int)) (a2 : List (Int)) : Option ((((Int) × (Unit)) × (Unit)) × (Unit)) := impl_chainCode_t n a0 a1 a2

noncomputable def impl_DifferenceOn_t7 (n : Nat) (g7 : Int → Int → Int → Int → Int → Int → Int → Int → (List ((ByteArray) × ((Int) × ((((Int) × (Int)) × ((Int) × (Int))) × (((Int) × (Int)) × ((Int) × (Int))))))) → (List (Int)) → (List (Int)) → Bool → Option ((((((Int) × (Int)) × ((Int) × (Int))) × (Unit)) × (((Int) × (Unit)) × (Unit))) × (Unit))) (v2 : Int) (v1 : Int) (b0 : Int) (b1_0 : Int) (b1_1 : Int) (b1_2 : Int) (b1_3 : Int) (b2 : Int) (b3 : List ((ByteArray) × ((Int) × ((((Int) × (Int)) × ((Int) × (Int))) × (((Int) × (Int)) × ((Int) × (Int))))))) (b5 : List (Int)) (b6 : List (Int)) (b7 : Bool) : Option ((((((Int) × (Int)) × ((Int) × (Int))) × (Unit)) × (((Int) × (Unit)) × (Unit))) × (Unit)) :=
  cond (decide (b0 < ((b5.length : Nat) : Int)))
  (cond (decide (b0 < ((b6.length : Nat) : Int)))
    (cond ((decide (0 ≤ b0) && decide (b0 < ((b5.length : Nat) : Int))))
      (cond ((decide (0 ≤ b0) && decide (b0 < ((b6.length : Nat) : Int))))
        (cond (((b5.getD (Int.toNat b0) 0) == (b6.getD (Int.toNat b0) 0)))
          (g7 v2 v1 ((IntKind.wrap .i64 (b0 + 1))) b1_0 b1_1 b1_2 b1_3 b2 b3 b5 b6 b7)
          (cond ((v1 == v2))
            ((impl_none n).bind fun r5 =>
              some ((((((r5.1.1.1.1.1, r5.1.1.1.1.2), (r5.1.1.1.2.1, r5.1.1.1.2.2)), ()), ((0, ()), ())), ())))
            (cond ((b0 == 0))
              ((impl_calc_spanOn n b3 v1 b2 b7).bind fun r6 =>
                (impl_calc_spanOn n b3 v2 b2 r6.2.1).bind fun r7 =>
                (impl_calc_minus n (((r6.1.1.1.1.1, r6.1.1.1.1.2), (r6.1.1.1.2.1, r6.1.1.1.2.2))) (((r7.1.1.1.1.1, r7.1.1.1.1.2), (r7.1.1.1.2.1, r7.1.1.1.2.2))) r7.2.1).bind fun r8 =>
                (impl_calc_span n (((r8.1.1.1.1.1, r8.1.1.1.1.2), (r8.1.1.1.2.1, r8.1.1.1.2.2))) r8.2.1).bind fun r9 =>
                some ((((((r9.1.1.1.1.1, r9.1.1.1.1.2), (r9.1.1.1.2.1, r9.1.1.1.2.2)), ()), ((r9.1.2.1.1, ()), ())), ())))
              ((impl_DifferenceOn_1 n b5 b0 b2 b3 b7).bind fun r10 =>
                (impl_DifferenceOn_1 n b6 r10.2.2.1 r10.2.2.2.1 r10.2.2.2.2.2.1 r10.2.2.2.2.2.2.1).bind fun r11 =>
                (impl_calc_minus n (((r10.1.1.1.1.1, r10.1.1.1.1.2), (r10.1.1.1.2.1, r10.1.1.1.2.2))) (((r11.1.1.1.1.1, r11.1.1.1.1.2), (r11.1.1.1.2.1, r11.1.1.1.2.2))) r11.2.2.2.2.2.2.1).bind fun r12 =>
                cond ((decide (0 ≤ (IntKind.wrap .i64 (r11.2.2.1 - 1))) && decide ((IntKind.wrap .i64 (r11.2.2.1 - 1)) < ((r10.2.1.length : Nat) : Int))))
                (cond ((decide (0 ≤ (r10.2.1.getD (Int.toNat (IntKind.wrap .i64 (r11.2.2.1 - 1))) 0)) && decide ((r10.2.1.getD (Int.toNat (IntKind.wrap .i64 (r11.2.2.1 - 1))) 0) < ((r11.2.2.2.2.2.1.length : Nat) : Int))))
                  ((impl_num n ((if (IntKind.wrap .i64 (r10.1.2.1.1 - r11.1.2.1.1)) < (IntKind.wrap .i64 (r11.1.2.1.1 - r10.1.2.1.1)) then (IntKind.wrap .i64 (r11.1.2.1.1 - r10.1.2.1.1)) else (IntKind.wrap .i64 (r10.1.2.1.1 - r11.1.2.1.1))))).bind fun r13 =>
                    (impl_calc_mul n (((r11.2.2.2.2.2.1.getD (Int.toNat (r10.2.1.getD (Int.toNat (IntKind.wrap .i64 (r11.2.2.1 - 1))) 0)) ((ByteArray.mk #[]), (0, (((0, 0), (0, 0)), ((0, 0), (0, 0)))))).2.2.2.1.1, (r11.2.2.2.2.2.1.getD (Int.toNat (r10.2.1.getD (Int.toNat (IntKind.wrap .i64 (r11.2.2.1 - 1))) 0)) ((ByteArray.mk #[]), (0, (((0, 0), (0, 0)), ((0, 0), (0, 0)))))).2.2.2.1.2)) ((r13.1.1.1.1, r13.1.1.1.2)) r12.2.1).bind fun r14 =>
                    (impl_calc_widen n (((r12.1.1.1.1.1, r12.1.1.1.1.2), (r12.1.1.1.2.1, r12.1.1.1.2.2))) ((r14.1.1.1.1, r14.1.1.1.2)) r14.2.1).bind fun r15 =>
                    (impl_calc_span n (((r15.1.1.1.1.1, r15.1.1.1.1.2), (r15.1.1.1.2.1, r15.1.1.1.2.2))) r15.2.1).bind fun r16 =>
                    some ((((((r16.1.1.1.1.1, r16.1.1.1.1.2), (r16.1.1.1.2.1, r16.1.1.1.2.2)), ()), ((r16.1.2.1.1, ()), ())), ())))
                  (none))
                (none)))))
        (none))
      (none))
    (cond ((v1 == v2))
      ((impl_none n).bind fun r17 =>
        some ((((((r17.1.1.1.1.1, r17.1.1.1.1.2), (r17.1.1.1.2.1, r17.1.1.1.2.2)), ()), ((0, ()), ())), ())))
      (cond ((b0 == 0))
        ((impl_calc_spanOn n b3 v1 b2 b7).bind fun r18 =>
          (impl_calc_spanOn n b3 v2 b2 r18.2.1).bind fun r19 =>
          (impl_calc_minus n (((r18.1.1.1.1.1, r18.1.1.1.1.2), (r18.1.1.1.2.1, r18.1.1.1.2.2))) (((r19.1.1.1.1.1, r19.1.1.1.1.2), (r19.1.1.1.2.1, r19.1.1.1.2.2))) r19.2.1).bind fun r20 =>
          (impl_calc_span n (((r20.1.1.1.1.1, r20.1.1.1.1.2), (r20.1.1.1.2.1, r20.1.1.1.2.2))) r20.2.1).bind fun r21 =>
          some ((((((r21.1.1.1.1.1, r21.1.1.1.1.2), (r21.1.1.1.2.1, r21.1.1.1.2.2)), ()), ((r21.1.2.1.1, ()), ())), ())))
        ((impl_DifferenceOn_1 n b5 b0 b2 b3 b7).bind fun r22 =>
          (impl_DifferenceOn_1 n b6 r22.2.2.1 r22.2.2.2.1 r22.2.2.2.2.2.1 r22.2.2.2.2.2.2.1).bind fun r23 =>
          (impl_calc_minus n (((r22.1.1.1.1.1, r22.1.1.1.1.2), (r22.1.1.1.2.1, r22.1.1.1.2.2))) (((r23.1.1.1.1.1, r23.1.1.1.1.2), (r23.1.1.1.2.1, r23.1.1.1.2.2))) r23.2.2.2.2.2.2.1).bind fun r24 =>
          cond ((decide (0 ≤ (IntKind.wrap .i64 (r23.2.2.1 - 1))) && decide ((IntKind.wrap .i64 (r23.2.2.1 - 1)) < ((r22.2.1.length : Nat) : Int))))
          (cond ((decide (0 ≤ (r22.2.1.getD (Int.toNat (IntKind.wrap .i64 (r23.2.2.1 - 1))) 0)) && decide ((r22.2.1.getD (Int.toNat (IntKind.wrap .i64 (r23.2.2.1 - 1))) 0) < ((r23.2.2.2.2.2.1.length : Nat) : Int))))
            ((impl_num n ((if (IntKind.wrap .i64 (r22.1.2.1.1 - r23.1.2.1.1)) < (IntKind.wrap .i64 (r23.1.2.1.1 - r22.1.2.1.1)) then (IntKind.wrap .i64 (r23.1.2.1.1 - r22.1.2.1.1)) else (IntKind.wrap .i64 (r22.1.2.1.1 - r23.1.2.1.1))))).bind fun r25 =>
              (impl_calc_mul n (((r23.2.2.2.2.2.1.getD (Int.toNat (r22.2.1.getD (Int.toNat (IntKind.wrap .i64 (r23.2.2.1 - 1))) 0)) ((ByteArray.mk #[]), (0, (((0, 0), (0, 0)), ((0, 0), (0, 0)))))).2.2.2.1.1, (r23.2.2.2.2.2.1.getD (Int.toNat (r22.2.1.getD (Int.toNat (IntKind.wrap .i64 (r23.2.2.1 - 1))) 0)) ((ByteArray.mk #[]), (0, (((0, 0), (0, 0)), ((0, 0), (0, 0)))))).2.2.2.1.2)) ((r25.1.1.1.1, r25.1.1.1.2)) r24.2.1).bind fun r26 =>
              (impl_calc_widen n (((r24.1.1.1.1.1, r24.1.1.1.1.2), (r24.1.1.1.2.1, r24.1.1.1.2.2))) ((r26.1.1.1.1, r26.1.1.1.2)) r26.2.1).bind fun r27 =>
              (impl_calc_span n (((r27.1.1.1.1.1, r27.1.1.1.1.2), (r27.1.1.1.2.1, r27.1.1.1.2.2))) r27.2.1).bind fun r28 =>
              some ((((((r28.1.1.1.1.1, r28.1.1.1.1.2), (r28.1.1.1.2.1, r28.1.1.1.2.2)), ()), ((r28.1.2.1.1, ()), ())), ())))
            (none))
          (none)))))
  (cond ((v1 == v2))
    ((impl_none n).bind fun r29 =>
      some ((((((r29.1.1.1.1.1, r29.1.1.1.1.2), (r29.1.1.1.2.1, r29.1.1.1.2.2)), ()), ((0, ()), ())), ())))
    (cond ((b0 == 0))
      ((impl_calc_spanOn n b3 v1 b2 b7).bind fun r30 =>
        (impl_calc_spanOn n b3 v2 b2 r30.2.1).bind fun r31 =>
        (impl_calc_minus n (((r30.1.1.1.1.1, r30.1.1.1.1.2), (r30.1.1.1.2.1, r30.1.1.1.2.2))) (((r31.1.1.1.1.1, r31.1.1.1.1.2), (r31.1.1.1.2.1, r31.1.1.1.2.2))) r31.2.1).bind fun r32 =>
        (impl_calc_span n (((r32.1.1.1.1.1, r32.1.1.1.1.2), (r32.1.1.1.2.1, r32.1.1.1.2.2))) r32.2.1).bind fun r33 =>
        some ((((((r33.1.1.1.1.1, r33.1.1.1.1.2), (r33.1.1.1.2.1, r33.1.1.1.2.2)), ()), ((r33.1.2.1.1, ()), ())), ())))
      ((impl_DifferenceOn_1 n b5 b0 b2 b3 b7).bind fun r34 =>
        (impl_DifferenceOn_1 n b6 r34.2.2.1 r34.2.2.2.1 r34.2.2.2.2.2.1 r34.2.2.2.2.2.2.1).bind fun r35 =>
        (impl_calc_minus n (((r34.1.1.1.1.1, r34.1.1.1.1.2), (r34.1.1.1.2.1, r34.1.1.1.2.2))) (((r35.1.1.1.1.1, r35.1.1.1.1.2), (r35.1.1.1.2.1, r35.1.1.1.2.2))) r35.2.2.2.2.2.2.1).bind fun r36 =>
        cond ((decide (0 ≤ (IntKind.wrap .i64 (r35.2.2.1 - 1))) && decide ((IntKind.wrap .i64 (r35.2.2.1 - 1)) < ((r34.2.1.length : Nat) : Int))))
        (cond ((decide (0 ≤ (r34.2.1.getD (Int.toNat (IntKind.wrap .i64 (r35.2.2.1 - 1))) 0)) && decide ((r34.2.1.getD (Int.toNat (IntKind.wrap .i64 (r35.2.2.1 - 1))) 0) < ((r35.2.2.2.2.2.1.length : Nat) : Int))))
          ((impl_num n ((if (IntKind.wrap .i64 (r34.1.2.1.1 - r35.1.2.1.1)) < (IntKind.wrap .i64 (r35.1.2.1.1 - r34.1.2.1.1)) then (IntKind.wrap .i64 (r35.1.2.1.1 - r34.1.2.1.1)) else (IntKind.wrap .i64 (r34.1.2.1.1 - r35.1.2.1.1))))).bind fun r37 =>
            (impl_calc_mul n (((r35.2.2.2.2.2.1.getD (Int.toNat (r34.2.1.getD (Int.toNat (IntKind.wrap .i64 (r35.2.2.1 - 1))) 0)) ((ByteArray.mk #[]), (0, (((0, 0), (0, 0)), ((0, 0), (0, 0)))))).2.2.2.1.1, (r35.2.2.2.2.2.1.getD (Int.toNat (r34.2.1.getD (Int.toNat (IntKind.wrap .i64 (r35.2.2.1 - 1))) 0)) ((ByteArray.mk #[]), (0, (((0, 0), (0, 0)), ((0, 0), (0, 0)))))).2.2.2.1.2)) ((r37.1.1.1.1, r37.1.1.1.2)) r36.2.1).bind fun r38 =>
            (impl_calc_widen n (((r36.1.1.1.1.1, r36.1.1.1.1.2), (r36.1.1.1.2.1, r36.1.1.1.2.2))) ((r38.1.1.1.1, r38.1.1.1.2)) r38.2.1).bind fun r39 =>
            (impl_calc_span n (((r39.1.1.1.1.1, r39.1.1.1.1.2), (r39.1.1.1.2.1, r39.1.1.1.2.2))) r39.2.1).bind fun r40 =>
            some ((((((r40.1.1.1.1.1, r40.1.1.1.1.2), (r40.1.1.1.2.1, r40.1.1.1.2.2)), ()), ((r40.1.2.1.1, ()), ())), ())))
          (none))
        (none))))

noncomputable def impl_DifferenceOn_l7 (n : Nat) : Nat → Int → Int → Int → Int → Int → Int → Int → Int → (List ((ByteArray) × ((Int) × ((((Int) × (Int)) × ((Int) × (Int))) × (((Int) × (Int)) × ((Int) × (Int))))))) → (List (Int)) → (List (Int)) → Bool → Option ((((((Int) × (Int)) × ((Int) × (Int))) × (Unit)) × (((Int) × (Unit)) × (Unit))) × (Unit))
  | 0, _, _, _, _, _, _, _, _, _, _, _, _ => none
  | k + 1, v2, v1, b0, b1_0, b1_1, b1_2, b1_3, b2, b3, b5, b6, b7 => impl_DifferenceOn_t7 n (impl_DifferenceOn_l7 n k) v2 v1 b0 b1_0 b1_1 b1_2 b1_3 b2 b3 b5 b6 b7

noncomputable def impl_DifferenceOn_t (n : Nat) (h7 : Nat → Int → Int → Int → Int → Int → Int → Int → Int → (List ((ByteArray) × ((Int) × ((((Int) × (Int)) × ((Int) × (Int))) × (((Int) × (Int)) × ((Int) × (Int))))))) → (List (Int)) → (List (Int)) → Bool → Option ((((((Int) × (Int)) × ((Int) × (Int))) × (Unit)) × (((Int) × (Unit)) × (Unit))) × (Unit))) (a0 : List ((ByteArray) × ((Int) × ((((Int) × (Int)) × ((Int) × (Int))) × (((Int) × (Int)) × ((Int) × (Int))))))) (a1 : Int) (a2 : Int) (a3 : Int) : Option ((((((Int) × (Int)) × ((Int) × (Int))) × (Unit)) × (((Int) × (Unit)) × (Unit))) × (Unit)) :=
  (impl_chainCode n a0 ((a1 :: (a2 :: []))) ((a3 :: []))).bind fun r0 =>
  cond ((r0.1.1.1 != 0))
  (some ((((((0, 0), (0, 0)), ()), ((r0.1.1.1, ()), ())), ())))
  (cond ((decide (0 ≤ a1) && decide (a1 < ((a0.length : Nat) : Int))))
    ((impl_Standard_good n (((a0.getD (Int.toNat a1) ((ByteArray.mk #[]), (0, (((0, 0), (0, 0)), ((0, 0), (0, 0)))))).1, ((a0.getD (Int.toNat a1) ((ByteArray.mk #[]), (0, (((0, 0), (0, 0)), ((0, 0), (0, 0)))))).2.1, ((((a0.getD (Int.toNat a1) ((ByteArray.mk #[]), (0, (((0, 0), (0, 0)), ((0, 0), (0, 0)))))).2.2.1.1.1, (a0.getD (Int.toNat a1) ((ByteArray.mk #[]), (0, (((0, 0), (0, 0)), ((0, 0), (0, 0)))))).2.2.1.1.2), ((a0.getD (Int.toNat a1) ((ByteArray.mk #[]), (0, (((0, 0), (0, 0)), ((0, 0), (0, 0)))))).2.2.1.2.1, (a0.getD (Int.toNat a1) ((ByteArray.mk #[]), (0, (((0, 0), (0, 0)), ((0, 0), (0, 0)))))).2.2.1.2.2)), (((a0.getD (Int.toNat a1) ((ByteArray.mk #[]), (0, (((0, 0), (0, 0)), ((0, 0), (0, 0)))))).2.2.2.1.1, (a0.getD (Int.toNat a1) ((ByteArray.mk #[]), (0, (((0, 0), (0, 0)), ((0, 0), (0, 0)))))).2.2.2.1.2), ((a0.getD (Int.toNat a1) ((ByteArray.mk #[]), (0, (((0, 0), (0, 0)), ((0, 0), (0, 0)))))).2.2.2.2.1, (a0.getD (Int.toNat a1) ((ByteArray.mk #[]), (0, (((0, 0), (0, 0)), ((0, 0), (0, 0)))))).2.2.2.2.2)))))) a3).bind fun r1 =>
      cond (!r1.1.1.1)
      (some ((((((0, 0), (0, 0)), ()), ((4, ()), ())), ())))
      (cond ((decide (0 ≤ a2) && decide (a2 < ((a0.length : Nat) : Int))))
        ((impl_Standard_good n (((a0.getD (Int.toNat a2) ((ByteArray.mk #[]), (0, (((0, 0), (0, 0)), ((0, 0), (0, 0)))))).1, ((a0.getD (Int.toNat a2) ((ByteArray.mk #[]), (0, (((0, 0), (0, 0)), ((0, 0), (0, 0)))))).2.1, ((((a0.getD (Int.toNat a2) ((ByteArray.mk #[]), (0, (((0, 0), (0, 0)), ((0, 0), (0, 0)))))).2.2.1.1.1, (a0.getD (Int.toNat a2) ((ByteArray.mk #[]), (0, (((0, 0), (0, 0)), ((0, 0), (0, 0)))))).2.2.1.1.2), ((a0.getD (Int.toNat a2) ((ByteArray.mk #[]), (0, (((0, 0), (0, 0)), ((0, 0), (0, 0)))))).2.2.1.2.1, (a0.getD (Int.toNat a2) ((ByteArray.mk #[]), (0, (((0, 0), (0, 0)), ((0, 0), (0, 0)))))).2.2.1.2.2)), (((a0.getD (Int.toNat a2) ((ByteArray.mk #[]), (0, (((0, 0), (0, 0)), ((0, 0), (0, 0)))))).2.2.2.1.1, (a0.getD (Int.toNat a2) ((ByteArray.mk #[]), (0, (((0, 0), (0, 0)), ((0, 0), (0, 0)))))).2.2.2.1.2), ((a0.getD (Int.toNat a2) ((ByteArray.mk #[]), (0, (((0, 0), (0, 0)), ((0, 0), (0, 0)))))).2.2.2.2.1, (a0.getD (Int.toNat a2) ((ByteArray.mk #[]), (0, (((0, 0), (0, 0)), ((0, 0), (0, 0)))))).2.2.2.2.2)))))) a3).bind fun r2 =>
          cond (!r2.1.1.1)
          (some ((((((0, 0), (0, 0)), ()), ((4, ()), ())), ())))
          ((impl_path n a0 a1).bind fun r3 =>
            (impl_path n a0 a2).bind fun r4 =>
            h7 n a2 a1 0 0 0 0 0 a3 a0 r3.1.1.1 r4.1.1.1 false))
        (none)))
    (none))

noncomputable def impl_DifferenceOn (n : Nat) (a0 : List ((ByteArray) × ((Int) × ((((Int) × (Int)) × ((Int) × (Int))) × (((Int) × (Int)) × ((Int) × (Int))))))) (a1 : Int) (a2 : Int) (a3 : Int) : Option ((((((Int) × (Int)) × ((Int) × (Int))) × (Unit)) × (((Int) × (Unit)) × (Unit))) × (Unit)) := impl_DifferenceOn_t n (impl_DifferenceOn_l7 n) a0 a1 a2 a3

noncomputable def laws_eqFrac_t (n : Nat) (a0 : (Int) × (Int)) (a1 : (Int) × (Int)) : Option ((((Bool) × (Unit)) × (Unit)) × (Unit)) :=
  cond ((a0.1 != a1.1))
  (some ((((false, ()), ()), ())))
  (cond ((a0.2 != a1.2))
    (some ((((false, ()), ()), ())))
    (some ((((true, ()), ()), ()))))

noncomputable def laws_eqFrac (n : Nat) (a0 : (Int) × (Int)) (a1 : (Int) × (Int)) : Option ((((Bool) × (Unit)) × (Unit)) × (Unit)) := laws_eqFrac_t n a0 a1

noncomputable def laws_eqSpan_t (n : Nat) (a0 : ((Int) × (Int)) × ((Int) × (Int))) (a1 : ((Int) × (Int)) × ((Int) × (Int))) : Option ((((Bool) × (Unit)) × (Unit)) × (Unit)) :=
  (laws_eqFrac n ((a0.1.1, a0.1.2)) ((a1.1.1, a1.1.2))).bind fun r0 =>
  cond (!r0.1.1.1)
  (some ((((false, ()), ()), ())))
  ((laws_eqFrac n ((a0.2.1, a0.2.2)) ((a1.2.1, a1.2.2))).bind fun r1 =>
    cond (!r1.1.1.1)
    (some ((((false, ()), ()), ())))
    (some ((((true, ()), ()), ()))))

noncomputable def laws_eqSpan (n : Nat) (a0 : ((Int) × (Int)) × ((Int) × (Int))) (a1 : ((Int) × (Int)) × ((Int) × (Int))) : Option ((((Bool) × (Unit)) × (Unit)) × (Unit)) := laws_eqSpan_t n a0 a1

noncomputable def laws_eqStandard_t (n : Nat) (a0 : (ByteArray) × ((Int) × ((((Int) × (Int)) × ((Int) × (Int))) × (((Int) × (Int)) × ((Int) × (Int)))))) (a1 : (ByteArray) × ((Int) × ((((Int) × (Int)) × ((Int) × (Int))) × (((Int) × (Int)) × ((Int) × (Int)))))) : Option ((((Bool) × (Unit)) × (Unit)) × (Unit)) :=
  cond ((!(eqStr a0.1 a1.1)))
  (some ((((false, ()), ()), ())))
  (cond ((a0.2.1 != a1.2.1))
    (some ((((false, ()), ()), ())))
    ((laws_eqSpan n (((a0.2.2.1.1.1, a0.2.2.1.1.2), (a0.2.2.1.2.1, a0.2.2.1.2.2))) (((a1.2.2.1.1.1, a1.2.2.1.1.2), (a1.2.2.1.2.1, a1.2.2.1.2.2)))).bind fun r0 =>
      cond (!r0.1.1.1)
      (some ((((false, ()), ()), ())))
      ((laws_eqFrac n ((a0.2.2.2.1.1, a0.2.2.2.1.2)) ((a1.2.2.2.1.1, a1.2.2.2.1.2))).bind fun r1 =>
        cond (!r1.1.1.1)
        (some ((((false, ()), ()), ())))
        (cond ((a0.2.2.2.2.1 != a1.2.2.2.2.1))
          (some ((((false, ()), ()), ())))
          (cond ((a0.2.2.2.2.2 != a1.2.2.2.2.2))
            (some ((((false, ()), ()), ())))
            (some ((((true, ()), ()), ()))))))))

noncomputable def laws_eqStandard (n : Nat) (a0 : (ByteArray) × ((Int) × ((((Int) × (Int)) × ((Int) × (Int))) × (((Int) × (Int)) × ((Int) × (Int)))))) (a1 : (ByteArray) × ((Int) × ((((Int) × (Int)) × ((Int) × (Int))) × (((Int) × (Int)) × ((Int) × (Int)))))) : Option ((((Bool) × (Unit)) × (Unit)) × (Unit)) := laws_eqStandard_t n a0 a1

noncomputable def laws_eqStandardS_t4 (n : Nat) (g4 : Int → (List ((ByteArray) × ((Int) × ((((Int) × (Int)) × ((Int) × (Int))) × (((Int) × (Int)) × ((Int) × (Int))))))) → (List ((ByteArray) × ((Int) × ((((Int) × (Int)) × ((Int) × (Int))) × (((Int) × (Int)) × ((Int) × (Int))))))) → Option ((((Bool) × (Unit)) × (Unit)) × (Unit))) (v5 : Int) (v1 : List ((ByteArray) × ((Int) × ((((Int) × (Int)) × ((Int) × (Int))) × (((Int) × (Int)) × ((Int) × (Int))))))) (v0 : List ((ByteArray) × ((Int) × ((((Int) × (Int)) × ((Int) × (Int))) × (((Int) × (Int)) × ((Int) × (Int))))))) : Option ((((Bool) × (Unit)) × (Unit)) × (Unit)) :=
  cond (decide (v5 < ((v0.length : Nat) : Int)))
  (cond ((decide (0 ≤ v5) && decide (v5 < ((v0.length : Nat) : Int))))
    (cond ((decide (0 ≤ v5) && decide (v5 < ((v1.length : Nat) : Int))))
      ((laws_eqStandard n (((v0.getD (Int.toNat v5) ((ByteArray.mk #[]), (0, (((0, 0), (0, 0)), ((0, 0), (0, 0)))))).1, ((v0.getD (Int.toNat v5) ((ByteArray.mk #[]), (0, (((0, 0), (0, 0)), ((0, 0), (0, 0)))))).2.1, ((((v0.getD (Int.toNat v5) ((ByteArray.mk #[]), (0, (((0, 0), (0, 0)), ((0, 0), (0, 0)))))).2.2.1.1.1, (v0.getD (Int.toNat v5) ((ByteArray.mk #[]), (0, (((0, 0), (0, 0)), ((0, 0), (0, 0)))))).2.2.1.1.2), ((v0.getD (Int.toNat v5) ((ByteArray.mk #[]), (0, (((0, 0), (0, 0)), ((0, 0), (0, 0)))))).2.2.1.2.1, (v0.getD (Int.toNat v5) ((ByteArray.mk #[]), (0, (((0, 0), (0, 0)), ((0, 0), (0, 0)))))).2.2.1.2.2)), (((v0.getD (Int.toNat v5) ((ByteArray.mk #[]), (0, (((0, 0), (0, 0)), ((0, 0), (0, 0)))))).2.2.2.1.1, (v0.getD (Int.toNat v5) ((ByteArray.mk #[]), (0, (((0, 0), (0, 0)), ((0, 0), (0, 0)))))).2.2.2.1.2), ((v0.getD (Int.toNat v5) ((ByteArray.mk #[]), (0, (((0, 0), (0, 0)), ((0, 0), (0, 0)))))).2.2.2.2.1, (v0.getD (Int.toNat v5) ((ByteArray.mk #[]), (0, (((0, 0), (0, 0)), ((0, 0), (0, 0)))))).2.2.2.2.2)))))) (((v1.getD (Int.toNat v5) ((ByteArray.mk #[]), (0, (((0, 0), (0, 0)), ((0, 0), (0, 0)))))).1, ((v1.getD (Int.toNat v5) ((ByteArray.mk #[]), (0, (((0, 0), (0, 0)), ((0, 0), (0, 0)))))).2.1, ((((v1.getD (Int.toNat v5) ((ByteArray.mk #[]), (0, (((0, 0), (0, 0)), ((0, 0), (0, 0)))))).2.2.1.1.1, (v1.getD (Int.toNat v5) ((ByteArray.mk #[]), (0, (((0, 0), (0, 0)), ((0, 0), (0, 0)))))).2.2.1.1.2), ((v1.getD (Int.toNat v5) ((ByteArray.mk #[]), (0, (((0, 0), (0, 0)), ((0, 0), (0, 0)))))).2.2.1.2.1, (v1.getD (Int.toNat v5) ((ByteArray.mk #[]), (0, (((0, 0), (0, 0)), ((0, 0), (0, 0)))))).2.2.1.2.2)), (((v1.getD (Int.toNat v5) ((ByteArray.mk #[]), (0, (((0, 0), (0, 0)), ((0, 0), (0, 0)))))).2.2.2.1.1, (v1.getD (Int.toNat v5) ((ByteArray.mk #[]), (0, (((0, 0), (0, 0)), ((0, 0), (0, 0)))))).2.2.2.1.2), ((v1.getD (Int.toNat v5) ((ByteArray.mk #[]), (0, (((0, 0), (0, 0)), ((0, 0), (0, 0)))))).2.2.2.2.1, (v1.getD (Int.toNat v5) ((ByteArray.mk #[]), (0, (((0, 0), (0, 0)), ((0, 0), (0, 0)))))).2.2.2.2.2))))))).bind fun r0 =>
        cond (!r0.1.1.1)
        (some ((((false, ()), ()), ())))
        (g4 ((IntKind.wrap .i64 (v5 + 1))) v1 v0))
      (none))
    (none))
  (some ((((true, ()), ()), ())))

noncomputable def laws_eqStandardS_l4 (n : Nat) : Nat → Int → (List ((ByteArray) × ((Int) × ((((Int) × (Int)) × ((Int) × (Int))) × (((Int) × (Int)) × ((Int) × (Int))))))) → (List ((ByteArray) × ((Int) × ((((Int) × (Int)) × ((Int) × (Int))) × (((Int) × (Int)) × ((Int) × (Int))))))) → Option ((((Bool) × (Unit)) × (Unit)) × (Unit))
  | 0, _, _, _ => none
  | k + 1, v5, v1, v0 => laws_eqStandardS_t4 n (laws_eqStandardS_l4 n k) v5 v1 v0

noncomputable def laws_eqStandardS_t (n : Nat) (h4 : Nat → Int → (List ((ByteArray) × ((Int) × ((((Int) × (Int)) × ((Int) × (Int))) × (((Int) × (Int)) × ((Int) × (Int))))))) → (List ((ByteArray) × ((Int) × ((((Int) × (Int)) × ((Int) × (Int))) × (((Int) × (Int)) × ((Int) × (Int))))))) → Option ((((Bool) × (Unit)) × (Unit)) × (Unit))) (a0 : List ((ByteArray) × ((Int) × ((((Int) × (Int)) × ((Int) × (Int))) × (((Int) × (Int)) × ((Int) × (Int))))))) (a1 : List ((ByteArray) × ((Int) × ((((Int) × (Int)) × ((Int) × (Int))) × (((Int) × (Int)) × ((Int) × (Int))))))) : Option ((((Bool) × (Unit)) × (Unit)) × (Unit)) :=
  cond ((((a0.length : Nat) : Int) != ((a1.length : Nat) : Int)))
  (some ((((false, ()), ()), ())))
  (h4 n 0 a1 a0)

noncomputable def laws_eqStandardS (n : Nat) (a0 : List ((ByteArray) × ((Int) × ((((Int) × (Int)) × ((Int) × (Int))) × (((Int) × (Int)) × ((Int) × (Int))))))) (a1 : List ((ByteArray) × ((Int) × ((((Int) × (Int)) × ((Int) × (Int))) × (((Int) × (Int)) × ((Int) × (Int))))))) : Option ((((Bool) × (Unit)) × (Unit)) × (Unit)) := laws_eqStandardS_t n (laws_eqStandardS_l4 n) a0 a1

noncomputable def laws_szStandard_t (n : Nat) (a0 : (ByteArray) × ((Int) × ((((Int) × (Int)) × ((Int) × (Int))) × (((Int) × (Int)) × ((Int) × (Int)))))) (a1 : Int) : Option ((((Int) × (Unit)) × (Unit)) × (Unit)) :=
  cond (decide ((IntKind.wrap .i64 (a1 - (((ByteArray.size a0.1) : Nat) : Int))) < 0))
  (some (((((-1), ()), ()), ())))
  (some (((((IntKind.wrap .i64 (a1 - (((ByteArray.size a0.1) : Nat) : Int))), ()), ()), ())))

noncomputable def laws_szStandard (n : Nat) (a0 : (ByteArray) × ((Int) × ((((Int) × (Int)) × ((Int) × (Int))) × (((Int) × (Int)) × ((Int) × (Int)))))) (a1 : Int) : Option ((((Int) × (Unit)) × (Unit)) × (Unit)) := laws_szStandard_t n a0 a1

noncomputable def laws_szStandardS_t5 (n : Nat) (g5 : Int → Int → (List ((ByteArray) × ((Int) × ((((Int) × (Int)) × ((Int) × (Int))) × (((Int) × (Int)) × ((Int) × (Int))))))) → Option ((((Int) × (Unit)) × (Unit)) × (Unit))) (v5 : Int) (v1 : Int) (v0 : List ((ByteArray) × ((Int) × ((((Int) × (Int)) × ((Int) × (Int))) × (((Int) × (Int)) × ((Int) × (Int))))))) : Option ((((Int) × (Unit)) × (Unit)) × (Unit)) :=
  cond (decide (v5 < ((v0.length : Nat) : Int)))
  (cond ((decide (0 ≤ v5) && decide (v5 < ((v0.length : Nat) : Int))))
    ((laws_szStandard n (((v0.getD (Int.toNat v5) ((ByteArray.mk #[]), (0, (((0, 0), (0, 0)), ((0, 0), (0, 0)))))).1, ((v0.getD (Int.toNat v5) ((ByteArray.mk #[]), (0, (((0, 0), (0, 0)), ((0, 0), (0, 0)))))).2.1, ((((v0.getD (Int.toNat v5) ((ByteArray.mk #[]), (0, (((0, 0), (0, 0)), ((0, 0), (0, 0)))))).2.2.1.1.1, (v0.getD (Int.toNat v5) ((ByteArray.mk #[]), (0, (((0, 0), (0, 0)), ((0, 0), (0, 0)))))).2.2.1.1.2), ((v0.getD (Int.toNat v5) ((ByteArray.mk #[]), (0, (((0, 0), (0, 0)), ((0, 0), (0, 0)))))).2.2.1.2.1, (v0.getD (Int.toNat v5) ((ByteArray.mk #[]), (0, (((0, 0), (0, 0)), ((0, 0), (0, 0)))))).2.2.1.2.2)), (((v0.getD (Int.toNat v5) ((ByteArray.mk #[]), (0, (((0, 0), (0, 0)), ((0, 0), (0, 0)))))).2.2.2.1.1, (v0.getD (Int.toNat v5) ((ByteArray.mk #[]), (0, (((0, 0), (0, 0)), ((0, 0), (0, 0)))))).2.2.2.1.2), ((v0.getD (Int.toNat v5) ((ByteArray.mk #[]), (0, (((0, 0), (0, 0)), ((0, 0), (0, 0)))))).2.2.2.2.1, (v0.getD (Int.toNat v5) ((ByteArray.mk #[]), (0, (((0, 0), (0, 0)), ((0, 0), (0, 0)))))).2.2.2.2.2)))))) v1).bind fun r0 =>
      cond (decide (r0.1.1.1 < 0))
      (some (((((-1), ()), ()), ())))
      (g5 ((IntKind.wrap .i64 (v5 + 1))) r0.1.1.1 v0))
    (none))
  (some ((((v1, ()), ()), ())))

noncomputable def laws_szStandardS_l5 (n : Nat) : Nat → Int → Int → (List ((ByteArray) × ((Int) × ((((Int) × (Int)) × ((Int) × (Int))) × (((Int) × (Int)) × ((Int) × (Int))))))) → Option ((((Int) × (Unit)) × (Unit)) × (Unit))
  | 0, _, _, _ => none
  | k + 1, v5, v1, v0 => laws_szStandardS_t5 n (laws_szStandardS_l5 n k) v5 v1 v0

noncomputable def laws_szStandardS_t (n : Nat) (h5 : Nat → Int → Int → (List ((ByteArray) × ((Int) × ((((Int) × (Int)) × ((Int) × (Int))) × (((Int) × (Int)) × ((Int) × (Int))))))) → Option ((((Int) × (Unit)) × (Unit)) × (Unit))) (a0 : List ((ByteArray) × ((Int) × ((((Int) × (Int)) × ((Int) × (Int))) × (((Int) × (Int)) × ((Int) × (Int))))))) (a1 : Int) : Option ((((Int) × (Unit)) × (Unit)) × (Unit)) :=
  cond (decide ((IntKind.wrap .i64 (a1 - ((a0.length : Nat) : Int))) < 0))
  (some (((((-1), ()), ()), ())))
  (h5 n 0 ((IntKind.wrap .i64 (a1 - ((a0.length : Nat) : Int)))) a0)

noncomputable def laws_szStandardS (n : Nat) (a0 : List ((ByteArray) × ((Int) × ((((Int) × (Int)) × ((Int) × (Int))) × (((Int) × (Int)) × ((Int) × (Int))))))) (a1 : Int) : Option ((((Int) × (Unit)) × (Unit)) × (Unit)) := laws_szStandardS_t n (laws_szStandardS_l5 n) a0 a1

noncomputable def laws_toFrac_t (n : Nat) (a0 : (Int) × (Int)) : Option (((((Int) × (Int)) × (Unit)) × (Unit)) × (Unit)) :=
  some (((((a0.1, a0.2), ()), ()), ()))

noncomputable def laws_toFrac (n : Nat) (a0 : (Int) × (Int)) : Option (((((Int) × (Int)) × (Unit)) × (Unit)) × (Unit)) := laws_toFrac_t n a0

noncomputable def laws_toSpan_t (n : Nat) (a0 : ((Int) × (Int)) × ((Int) × (Int))) : Option ((((((Int) × (Int)) × ((Int) × (Int))) × (Unit)) × (Unit)) × (Unit)) :=
  (laws_toFrac n ((a0.1.1, a0.1.2))).bind fun r0 =>
  (laws_toFrac n ((a0.2.1, a0.2.2))).bind fun r1 =>
  some ((((((r0.1.1.1.1, r0.1.1.1.2), (r1.1.1.1.1, r1.1.1.1.2)), ()), ()), ()))

noncomputable def laws_toSpan (n : Nat) (a0 : ((Int) × (Int)) × ((Int) × (Int))) : Option ((((((Int) × (Int)) × ((Int) × (Int))) × (Unit)) × (Unit)) × (Unit)) := laws_toSpan_t n a0

noncomputable def laws_toStandard_t (n : Nat) (a0 : (ByteArray) × ((Int) × ((((Int) × (Int)) × ((Int) × (Int))) × (((Int) × (Int)) × ((Int) × (Int)))))) : Option (((((ByteArray) × ((Int) × ((((Int) × (Int)) × ((Int) × (Int))) × (((Int) × (Int)) × ((Int) × (Int)))))) × (Unit)) × (Unit)) × (Unit)) :=
  (laws_toSpan n (((a0.2.2.1.1.1, a0.2.2.1.1.2), (a0.2.2.1.2.1, a0.2.2.1.2.2)))).bind fun r0 =>
  (laws_toFrac n ((a0.2.2.2.1.1, a0.2.2.2.1.2))).bind fun r1 =>
  some (((((a0.1, (a0.2.1, (((r0.1.1.1.1.1, r0.1.1.1.1.2), (r0.1.1.1.2.1, r0.1.1.1.2.2)), ((r1.1.1.1.1, r1.1.1.1.2), (a0.2.2.2.2.1, a0.2.2.2.2.2))))), ()), ()), ()))

noncomputable def laws_toStandard (n : Nat) (a0 : (ByteArray) × ((Int) × ((((Int) × (Int)) × ((Int) × (Int))) × (((Int) × (Int)) × ((Int) × (Int)))))) : Option (((((ByteArray) × ((Int) × ((((Int) × (Int)) × ((Int) × (Int))) × (((Int) × (Int)) × ((Int) × (Int)))))) × (Unit)) × (Unit)) × (Unit)) := laws_toStandard_t n a0

noncomputable def laws_toStandardS_t3 (n : Nat) (g3 : Int → (List ((ByteArray) × ((Int) × ((((Int) × (Int)) × ((Int) × (Int))) × (((Int) × (Int)) × ((Int) × (Int))))))) → (List ((ByteArray) × ((Int) × ((((Int) × (Int)) × ((Int) × (Int))) × (((Int) × (Int)) × ((Int) × (Int))))))) → Option ((((List ((ByteArray) × ((Int) × ((((Int) × (Int)) × ((Int) × (Int))) × (((Int) × (Int)) × ((Int) × (Int))))))) × (Unit)) × (Unit)) × (Unit))) (v4 : Int) (v0 : List ((ByteArray) × ((Int) × ((((Int) × (Int)) × ((Int) × (Int))) × (((Int) × (Int)) × ((Int) × (Int))))))) (b0 : List ((ByteArray) × ((Int) × ((((Int) × (Int)) × ((Int) × (Int))) × (((Int) × (Int)) × ((Int) × (Int))))))) : Option ((((List ((ByteArray) × ((Int) × ((((Int) × (Int)) × ((Int) × (Int))) × (((Int) × (Int)) × ((Int) × (Int))))))) × (Unit)) × (Unit)) × (Unit)) :=
  cond (decide (v4 < ((v0.length : Nat) : Int)))
  (cond ((decide (0 ≤ v4) && decide (v4 < ((v0.length : Nat) : Int))))
    ((laws_toStandard n (((v0.getD (Int.toNat v4) ((ByteArray.mk #[]), (0, (((0, 0), (0, 0)), ((0, 0), (0, 0)))))).1, ((v0.getD (Int.toNat v4) ((ByteArray.mk #[]), (0, (((0, 0), (0, 0)), ((0, 0), (0, 0)))))).2.1, ((((v0.getD (Int.toNat v4) ((ByteArray.mk #[]), (0, (((0, 0), (0, 0)), ((0, 0), (0, 0)))))).2.2.1.1.1, (v0.getD (Int.toNat v4) ((ByteArray.mk #[]), (0, (((0, 0), (0, 0)), ((0, 0), (0, 0)))))).2.2.1.1.2), ((v0.getD (Int.toNat v4) ((ByteArray.mk #[]), (0, (((0, 0), (0, 0)), ((0, 0), (0, 0)))))).2.2.1.2.1, (v0.getD (Int.toNat v4) ((ByteArray.mk #[]), (0, (((0, 0), (0, 0)), ((0, 0), (0, 0)))))).2.2.1.2.2)), (((v0.getD (Int.toNat v4) ((ByteArray.mk #[]), (0, (((0, 0), (0, 0)), ((0, 0), (0, 0)))))).2.2.2.1.1, (v0.getD (Int.toNat v4) ((ByteArray.mk #[]), (0, (((0, 0), (0, 0)), ((0, 0), (0, 0)))))).2.2.2.1.2), ((v0.getD (Int.toNat v4) ((ByteArray.mk #[]), (0, (((0, 0), (0, 0)), ((0, 0), (0, 0)))))).2.2.2.2.1, (v0.getD (Int.toNat v4) ((ByteArray.mk #[]), (0, (((0, 0), (0, 0)), ((0, 0), (0, 0)))))).2.2.2.2.2))))))).bind fun r0 =>
      cond ((decide (0 ≤ v4) && decide (v4 < ((b0.length : Nat) : Int))))
      (letIn ((b0.set (Int.toNat v4) (r0.1.1.1.1, (r0.1.1.1.2.1, (((r0.1.1.1.2.2.1.1.1, r0.1.1.1.2.2.1.1.2), (r0.1.1.1.2.2.1.2.1, r0.1.1.1.2.2.1.2.2)), ((r0.1.1.1.2.2.2.1.1, r0.1.1.1.2.2.2.1.2), (r0.1.1.1.2.2.2.2.1, r0.1.1.1.2.2.2.2.2))))))) fun r1 =>
        g3 ((IntKind.wrap .i64 (v4 + 1))) v0 r1)
      (none))
    (none))
  (some ((((b0, ()), ()), ())))

noncomputable def laws_toStandardS_l3 (n : Nat) : Nat → Int → (List ((ByteArray) × ((Int) × ((((Int) × (Int)) × ((Int) × (Int))) × (((Int) × (Int)) × ((Int) × (Int))))))) → (List ((ByteArray) × ((Int) × ((((Int) × (Int)) × ((Int) × (Int))) × (((Int) × (Int)) × ((Int) × (Int))))))) → Option ((((List ((ByteArray) × ((Int) × ((((Int) × (Int)) × ((Int) × (Int))) × (((Int) × (Int)) × ((Int) × (Int))))))) × (Unit)) × (Unit)) × (Unit))
  | 0, _, _, _ => none
  | k + 1, v4, v0, b0 => laws_toStandardS_t3 n (laws_toStandardS_l3 n k) v4 v0 b0

noncomputable def laws_toStandardS_t (n : Nat) (h3 : Nat → Int → (List ((ByteArray) × ((Int) × ((((Int) × (Int)) × ((Int) × (Int))) × (((Int) × (Int)) × ((Int) × (Int))))))) → (List ((ByteArray) × ((Int) × ((((Int) × (Int)) × ((Int) × (Int))) × (((Int) × (Int)) × ((Int) × (Int))))))) → Option ((((List ((ByteArray) × ((Int) × ((((Int) × (Int)) × ((Int) × (Int))) × (((Int) × (Int)) × ((Int) × (Int))))))) × (Unit)) × (Unit)) × (Unit))) (a0 : List ((ByteArray) × ((Int) × ((((Int) × (Int)) × ((Int) × (Int))) × (((Int) × (Int)) × ((Int) × (Int))))))) : Option ((((List ((ByteArray) × ((Int) × ((((Int) × (Int)) × ((Int) × (Int))) × (((Int) × (Int)) × ((Int) × (Int))))))) × (Unit)) × (Unit)) × (Unit)) :=
  cond ((((((a0.length : Nat) : Int) == ((a0.length : Nat) : Int)) && decide (0 ≤ ((a0.length : Nat) : Int))) && decide (((Int.toNat ((a0.length : Nat) : Int)) * 89) ≤ 70368744177664)))
  (h3 n 0 a0 ((List.replicate (Int.toNat ((a0.length : Nat) : Int)) (((ByteArray.mk #[]), (0, (((0, 0), (0, 0)), ((0, 0), (0, 0))))) : (ByteArray) × ((Int) × ((((Int) × (Int)) × ((Int) × (Int))) × (((Int) × (Int)) × ((Int) × (Int)))))))))
  (none)

noncomputable def laws_toStandardS (n : Nat) (a0 : List ((ByteArray) × ((Int) × ((((Int) × (Int)) × ((Int) × (Int))) × (((Int) × (Int)) × ((Int) × (Int))))))) : Option ((((List ((ByteArray) × ((Int) × ((((Int) × (Int)) × ((Int) × (Int))) × (((Int) × (Int)) × ((Int) × (Int))))))) × (Unit)) × (Unit)) × (Unit)) := laws_toStandardS_t n (laws_toStandardS_l3 n) a0

noncomputable def spec_l01Abs_t (n : Nat) (a0 : Int) : Option ((((Int) × (Unit)) × (Unit)) × (Unit)) :=
  cond (decide (a0 < 0))
  (some (((((IntKind.wrap .i64 (0 - a0)), ()), ()), ())))
  (some ((((a0, ()), ()), ())))

noncomputable def spec_l01Abs (n : Nat) (a0 : Int) : Option ((((Int) × (Unit)) × (Unit)) × (Unit)) := spec_l01Abs_t n a0

noncomputable def spec_l01Neg_t (n : Nat) (a0 : (Int) × (Int)) : Option (((((Int) × (Int)) × (Unit)) × (Unit)) × (Unit)) :=
  some ((((((IntKind.wrap .i64 (0 - a0.1)), a0.2), ()), ()), ()))

noncomputable def spec_l01Neg (n : Nat) (a0 : (Int) × (Int)) : Option (((((Int) × (Int)) × (Unit)) × (Unit)) × (Unit)) := spec_l01Neg_t n a0

noncomputable def spec_l01Gcd_t1 (n : Nat) (g1 : Int → Int → Option ((((Int) × (Unit)) × (Unit)) × (Unit))) (v1 : Int) (v0 : Int) : Option ((((Int) × (Unit)) × (Unit)) × (Unit)) :=
  cond ((v1 != 0))
  (cond ((v1 != 0))
    (g1 ((Int.tmod v0 v1)) v1)
    (none))
  (some ((((v0, ()), ()), ())))

noncomputable def spec_l01Gcd_l1 (n : Nat) : Nat → Int → Int → Option ((((Int) × (Unit)) × (Unit)) × (Unit))
  | 0, _, _ => none
  | k + 1, v1, v0 => spec_l01Gcd_t1 n (spec_l01Gcd_l1 n k) v1 v0

noncomputable def spec_l01Gcd_t (n : Nat) (h1 : Nat → Int → Int → Option ((((Int) × (Unit)) × (Unit)) × (Unit))) (a0 : Int) (a1 : Int) : Option ((((Int) × (Unit)) × (Unit)) × (Unit)) :=
  h1 n a1 a0

noncomputable def spec_l01Gcd (n : Nat) (a0 : Int) (a1 : Int) : Option ((((Int) × (Unit)) × (Unit)) × (Unit)) := spec_l01Gcd_t n (spec_l01Gcd_l1 n) a0 a1

noncomputable def spec_l00In_t (n : Nat) (a0 : Int) (a1 : Int) (a2 : Int) : Option ((((Bool) × (Unit)) × (Unit)) × (Unit)) :=
  cond (decide (a0 ≥ a1))
  (some ((((decide (a0 ≤ a2), ()), ()), ())))
  (some ((((false, ()), ()), ())))

noncomputable def spec_l00In (n : Nat) (a0 : Int) (a1 : Int) (a2 : Int) : Option ((((Bool) × (Unit)) × (Unit)) × (Unit)) := spec_l00In_t n a0 a1 a2

noncomputable def spec_l01Ok_t (n : Nat) (a0 : (Int) × (Int)) : Option ((((Bool) × (Unit)) × (Unit)) × (Unit)) :=
  (spec_l00In n a0.2 1 1000000000).bind fun r0 =>
  cond r0.1.1.1
  ((spec_l00In n a0.1 (-1000000000) 1000000000).bind fun r1 =>
    cond r1.1.1.1
    ((spec_l01Abs n a0.1).bind fun r2 =>
      (spec_l01Gcd n r2.1.1.1 a0.2).bind fun r3 =>
      some (((((r3.1.1.1 == 1), ()), ()), ())))
    (some ((((false, ()), ()), ()))))
  (some ((((false, ()), ()), ())))

noncomputable def spec_l01Ok (n : Nat) (a0 : (Int) × (Int)) : Option ((((Bool) × (Unit)) × (Unit)) × (Unit)) := spec_l01Ok_t n a0

noncomputable def spec_l01Reduced_t (n : Nat) (a0 : Int) (a1 : Int) : Option (((((Int) × (Int)) × (Unit)) × (((Int) × (Unit)) × (Unit))) × (Unit)) :=
  (spec_l01Abs n a0).bind fun r0 =>
  (spec_l01Abs n a1).bind fun r1 =>
  (spec_l01Gcd n r0.1.1.1 r1.1.1.1).bind fun r2 =>
  cond ((r2.1.1.1 != 0))
  (cond ((r2.1.1.1 != 0))
    (cond (decide ((IntKind.wrap .i64 (Int.tdiv a1 r2.1.1.1)) < 0))
      ((spec_l01Ok n (((IntKind.wrap .i64 (0 - (IntKind.wrap .i64 (Int.tdiv a0 r2.1.1.1)))), (IntKind.wrap .i64 (0 - (IntKind.wrap .i64 (Int.tdiv a1 r2.1.1.1))))))).bind fun r3 =>
        cond (!r3.1.1.1)
        (some (((((0, 0), ()), ((3, ()), ())), ())))
        (some ((((((IntKind.wrap .i64 (0 - (IntKind.wrap .i64 (Int.tdiv a0 r2.1.1.1)))), (IntKind.wrap .i64 (0 - (IntKind.wrap .i64 (Int.tdiv a1 r2.1.1.1))))), ()), ((0, ()), ())), ()))))
      ((spec_l01Ok n (((IntKind.wrap .i64 (Int.tdiv a0 r2.1.1.1)), (IntKind.wrap .i64 (Int.tdiv a1 r2.1.1.1))))).bind fun r4 =>
        cond (!r4.1.1.1)
        (some (((((0, 0), ()), ((3, ()), ())), ())))
        (some ((((((IntKind.wrap .i64 (Int.tdiv a0 r2.1.1.1)), (IntKind.wrap .i64 (Int.tdiv a1 r2.1.1.1))), ()), ((0, ()), ())), ())))))
    (none))
  (none)

noncomputable def spec_l01Reduced (n : Nat) (a0 : Int) (a1 : Int) : Option (((((Int) × (Int)) × (Unit)) × (((Int) × (Unit)) × (Unit))) × (Unit)) := spec_l01Reduced_t n a0 a1

noncomputable def spec_l01Add_t (n : Nat) (a0 : (Int) × (Int)) (a1 : (Int) × (Int)) : Option (((((Int) × (Int)) × (Unit)) × (((Int) × (Unit)) × (Unit))) × (Unit)) :=
  (spec_l01Reduced n ((IntKind.wrap .i64 ((IntKind.wrap .i64 (a0.1 * a1.2)) + (IntKind.wrap .i64 (a1.1 * a0.2))))) ((IntKind.wrap .i64 (a0.2 * a1.2)))).bind fun r0 =>
  some (((((r0.1.1.1.1, r0.1.1.1.2), ()), ((r0.1.2.1.1, ()), ())), ()))

noncomputable def spec_l01Add (n : Nat) (a0 : (Int) × (Int)) (a1 : (Int) × (Int)) : Option (((((Int) × (Int)) × (Unit)) × (((Int) × (Unit)) × (Unit))) × (Unit)) := spec_l01Add_t n a0 a1

noncomputable def spec_l01Both_t (n : Nat) (a0 : (Int) × (Int)) (a1 : Int) (a2 : (Int) × (Int)) (a3 : Int) : Option ((((((Int) × (Int)) × ((Int) × (Int))) × (Unit)) × (((Int) × (Unit)) × (Unit))) × (Unit)) :=
  cond ((a1 != 0))
  (some ((((((0, 0), (0, 0)), ()), ((a1, ()), ())), ())))
  (cond ((a3 != 0))
    (some ((((((0, 0), (0, 0)), ()), ((a3, ()), ())), ())))
    (some ((((((a0.1, a0.2), (a2.1, a2.2)), ()), ((0, ()), ())), ()))))

noncomputable def spec_l01Both (n : Nat) (a0 : (Int) × (Int)) (a1 : Int) (a2 : (Int) × (Int)) (a3 : Int) : Option ((((((Int) × (Int)) × ((Int) × (Int))) × (Unit)) × (((Int) × (Unit)) × (Unit))) × (Unit)) := spec_l01Both_t n a0 a1 a2 a3

noncomputable def spec_l01Sums_t (n : Nat) (a0 : ((Int) × (Int)) × ((Int) × (Int))) (a1 : ((Int) × (Int)) × ((Int) × (Int))) : Option ((((((Int) × (Int)) × ((Int) × (Int))) × (Unit)) × (((Int) × (Unit)) × (Unit))) × (Unit)) :=
  (spec_l01Add n ((a0.1.1, a0.1.2)) ((a1.1.1, a1.1.2))).bind fun r0 =>
  (spec_l01Add n ((a0.2.1, a0.2.2)) ((a1.2.1, a1.2.2))).bind fun r1 =>
  (spec_l01Both n ((r0.1.1.1.1, r0.1.1.1.2)) r0.1.2.1.1 ((r1.1.1.1.1, r1.1.1.1.2)) r1.1.2.1.1).bind fun r2 =>
  some ((((((r2.1.1.1.1.1, r2.1.1.1.1.2), (r2.1.1.1.2.1, r2.1.1.1.2.2)), ()), ((r2.1.2.1.1, ()), ())), ()))

noncomputable def spec_l01Sums (n : Nat) (a0 : ((Int) × (Int)) × ((Int) × (Int))) (a1 : ((Int) × (Int)) × ((Int) × (Int))) : Option ((((((Int) × (Int)) × ((Int) × (Int))) × (Unit)) × (((Int) × (Unit)) × (Unit))) × (Unit)) := spec_l01Sums_t n a0 a1

noncomputable def spec_l01Against_t (n : Nat) (a0 : ((Int) × (Int)) × ((Int) × (Int))) (a1 : ((Int) × (Int)) × ((Int) × (Int))) : Option ((((((Int) × (Int)) × ((Int) × (Int))) × (Unit)) × (((Int) × (Unit)) × (Unit))) × (Unit)) :=
  (spec_l01Neg n ((a1.2.1, a1.2.2))).bind fun r0 =>
  (spec_l01Neg n ((a1.1.1, a1.1.2))).bind fun r1 =>
  (spec_l01Sums n (((a0.1.1, a0.1.2), (a0.2.1, a0.2.2))) (((r0.1.1.1.1, r0.1.1.1.2), (r1.1.1.1.1, r1.1.1.1.2)))).bind fun r2 =>
  some ((((((r2.1.1.1.1.1, r2.1.1.1.1.2), (r2.1.1.1.2.1, r2.1.1.1.2.2)), ()), ((r2.1.2.1.1, ()), ())), ()))

noncomputable def spec_l01Against (n : Nat) (a0 : ((Int) × (Int)) × ((Int) × (Int))) (a1 : ((Int) × (Int)) × ((Int) × (Int))) : Option ((((((Int) × (Int)) × ((Int) × (Int))) × (Unit)) × (((Int) × (Unit)) × (Unit))) × (Unit)) := spec_l01Against_t n a0 a1

noncomputable def spec_l01Mul_t (n : Nat) (a0 : (Int) × (Int)) (a1 : (Int) × (Int)) : Option (((((Int) × (Int)) × (Unit)) × (((Int) × (Unit)) × (Unit))) × (Unit)) :=
  (spec_l01Reduced n ((IntKind.wrap .i64 (a0.1 * a1.1))) ((IntKind.wrap .i64 (a0.2 * a1.2)))).bind fun r0 =>
  some (((((r0.1.1.1.1, r0.1.1.1.2), ()), ((r0.1.2.1.1, ()), ())), ()))

noncomputable def spec_l01Mul (n : Nat) (a0 : (Int) × (Int)) (a1 : (Int) × (Int)) : Option (((((Int) × (Int)) × (Unit)) × (((Int) × (Unit)) × (Unit))) × (Unit)) := spec_l01Mul_t n a0 a1

noncomputable def spec_l01Sub_t (n : Nat) (a0 : (Int) × (Int)) (a1 : (Int) × (Int)) : Option (((((Int) × (Int)) × (Unit)) × (((Int) × (Unit)) × (Unit))) × (Unit)) :=
  (spec_l01Neg n ((a1.1, a1.2))).bind fun r0 =>
  (spec_l01Add n ((a0.1, a0.2)) ((r0.1.1.1.1, r0.1.1.1.2))).bind fun r1 =>
  some (((((r1.1.1.1.1, r1.1.1.1.2), ()), ((r1.1.2.1.1, ()), ())), ()))

noncomputable def spec_l01Sub (n : Nat) (a0 : (Int) × (Int)) (a1 : (Int) × (Int)) : Option (((((Int) × (Int)) × (Unit)) × (((Int) × (Unit)) × (Unit))) × (Unit)) := spec_l01Sub_t n a0 a1

noncomputable def spec_l01Whole_t (n : Nat) (a0 : Int) : Option (((((Int) × (Int)) × (Unit)) × (Unit)) × (Unit)) :=
  some (((((a0, 1), ()), ()), ()))

noncomputable def spec_l01Whole (n : Nat) (a0 : Int) : Option (((((Int) × (Int)) × (Unit)) × (Unit)) × (Unit)) := spec_l01Whole_t n a0

noncomputable def spec_l05Wider_t (n : Nat) (a0 : ((Int) × (Int)) × ((Int) × (Int))) (a1 : (Int) × (Int)) (a2 : Int) : Option ((((((Int) × (Int)) × ((Int) × (Int))) × (Unit)) × (((Int) × (Unit)) × (Unit))) × (Unit)) :=
  (spec_l01Whole n a2).bind fun r0 =>
  (spec_l01Mul n ((a1.1, a1.2)) ((r0.1.1.1.1, r0.1.1.1.2))).bind fun r1 =>
  cond ((r1.1.2.1.1 != 0))
  (some ((((((0, 0), (0, 0)), ()), ((r1.1.2.1.1, ()), ())), ())))
  ((spec_l01Sub n ((a0.1.1, a0.1.2)) ((r1.1.1.1.1, r1.1.1.1.2))).bind fun r2 =>
    (spec_l01Add n ((a0.2.1, a0.2.2)) ((r1.1.1.1.1, r1.1.1.1.2))).bind fun r3 =>
    cond ((r2.1.2.1.1 != 0))
    (some ((((((0, 0), (0, 0)), ()), ((3, ()), ())), ())))
    (cond ((r3.1.2.1.1 != 0))
      (some ((((((0, 0), (0, 0)), ()), ((3, ()), ())), ())))
      (some ((((((r2.1.1.1.1, r2.1.1.1.2), (r3.1.1.1.1, r3.1.1.1.2)), ()), ((0, ()), ())), ())))))

noncomputable def spec_l05Wider (n : Nat) (a0 : ((Int) × (Int)) × ((Int) × (Int))) (a1 : (Int) × (Int)) (a2 : Int) : Option ((((((Int) × (Int)) × ((Int) × (Int))) × (Unit)) × (((Int) × (Unit)) × (Unit))) × (Unit)) := spec_l05Wider_t n a0 a1 a2

noncomputable def spec_l05Along_t2 (n : Nat) (g2 : Int → (List (Int)) → (List ((ByteArray) × ((Int) × ((((Int) × (Int)) × ((Int) × (Int))) × (((Int) × (Int)) × ((Int) × (Int))))))) → Int → Int → Int → Int → Int → Int → Int → Int → Int → Option ((((((Int) × (Int)) × ((Int) × (Int))) × (Unit)) × (((Int) × (Unit)) × (Unit))) × (Unit))) (v10 : Int) (v1 : List (Int)) (v0 : List ((ByteArray) × ((Int) × ((((Int) × (Int)) × ((Int) × (Int))) × (((Int) × (Int)) × ((Int) × (Int))))))) (v3 : Int) (b0_0 : Int) (b0_1 : Int) (b0_2 : Int) (b0_3 : Int) (b1_0 : Int) (b1_1 : Int) (b1_2 : Int) (b1_3 : Int) : Option ((((((Int) × (Int)) × ((Int) × (Int))) × (Unit)) × (((Int) × (Unit)) × (Unit))) × (Unit)) :=
  cond (decide (v10 < ((v1.length : Nat) : Int)))
  (cond ((decide (0 ≤ v10) && decide (v10 < ((v1.length : Nat) : Int))))
    (cond ((decide (0 ≤ (v1.getD (Int.toNat v10) 0)) && decide ((v1.getD (Int.toNat v10) 0) < ((v0.length : Nat) : Int))))
      ((spec_l01Sums n (((b1_0, b1_1), (b1_2, b1_3))) ((((v0.getD (Int.toNat (v1.getD (Int.toNat v10) 0)) ((ByteArray.mk #[]), (0, (((0, 0), (0, 0)), ((0, 0), (0, 0)))))).2.2.1.1.1, (v0.getD (Int.toNat (v1.getD (Int.toNat v10) 0)) ((ByteArray.mk #[]), (0, (((0, 0), (0, 0)), ((0, 0), (0, 0)))))).2.2.1.1.2), ((v0.getD (Int.toNat (v1.getD (Int.toNat v10) 0)) ((ByteArray.mk #[]), (0, (((0, 0), (0, 0)), ((0, 0), (0, 0)))))).2.2.1.2.1, (v0.getD (Int.toNat (v1.getD (Int.toNat v10) 0)) ((ByteArray.mk #[]), (0, (((0, 0), (0, 0)), ((0, 0), (0, 0)))))).2.2.1.2.2)))).bind fun r0 =>
        cond ((r0.1.2.1.1 != 0))
        (some ((((((0, 0), (0, 0)), ()), ((r0.1.2.1.1, ()), ())), ())))
        (cond (decide ((IntKind.wrap .i64 (v10 + 1)) < ((v1.length : Nat) : Int)))
          (cond ((decide (0 ≤ (IntKind.wrap .i64 (v10 + 1))) && decide ((IntKind.wrap .i64 (v10 + 1)) < ((v1.length : Nat) : Int))))
            (cond ((decide (0 ≤ (v1.getD (Int.toNat (IntKind.wrap .i64 (v10 + 1))) 0)) && decide ((v1.getD (Int.toNat (IntKind.wrap .i64 (v10 + 1))) 0) < ((v0.length : Nat) : Int))))
              ((spec_l05Wider n (((r0.1.1.1.1.1, r0.1.1.1.1.2), (r0.1.1.1.2.1, r0.1.1.1.2.2))) (((v0.getD (Int.toNat (v1.getD (Int.toNat v10) 0)) ((ByteArray.mk #[]), (0, (((0, 0), (0, 0)), ((0, 0), (0, 0)))))).2.2.2.1.1, (v0.getD (Int.toNat (v1.getD (Int.toNat v10) 0)) ((ByteArray.mk #[]), (0, (((0, 0), (0, 0)), ((0, 0), (0, 0)))))).2.2.2.1.2)) ((IntKind.wrap .i64 ((v0.getD (Int.toNat (v1.getD (Int.toNat (IntKind.wrap .i64 (v10 + 1))) 0)) ((ByteArray.mk #[]), (0, (((0, 0), (0, 0)), ((0, 0), (0, 0)))))).2.2.2.2.1 - (v0.getD (Int.toNat (v1.getD (Int.toNat v10) 0)) ((ByteArray.mk #[]), (0, (((0, 0), (0, 0)), ((0, 0), (0, 0)))))).2.2.2.2.1)))).bind fun r1 =>
                cond ((r1.1.2.1.1 != 0))
                (some ((((((0, 0), (0, 0)), ()), ((r1.1.2.1.1, ()), ())), ())))
                (g2 ((IntKind.wrap .i64 (v10 + 1))) v1 v0 v3 b0_0 b0_1 b0_2 b0_3 r1.1.1.1.1.1 r1.1.1.1.1.2 r1.1.1.1.2.1 r1.1.1.1.2.2))
              (none))
            (none))
          ((spec_l05Wider n (((r0.1.1.1.1.1, r0.1.1.1.1.2), (r0.1.1.1.2.1, r0.1.1.1.2.2))) (((v0.getD (Int.toNat (v1.getD (Int.toNat v10) 0)) ((ByteArray.mk #[]), (0, (((0, 0), (0, 0)), ((0, 0), (0, 0)))))).2.2.2.1.1, (v0.getD (Int.toNat (v1.getD (Int.toNat v10) 0)) ((ByteArray.mk #[]), (0, (((0, 0), (0, 0)), ((0, 0), (0, 0)))))).2.2.2.1.2)) ((IntKind.wrap .i64 (v3 - (v0.getD (Int.toNat (v1.getD (Int.toNat v10) 0)) ((ByteArray.mk #[]), (0, (((0, 0), (0, 0)), ((0, 0), (0, 0)))))).2.2.2.2.1)))).bind fun r2 =>
            cond ((r2.1.2.1.1 != 0))
            (some ((((((0, 0), (0, 0)), ()), ((r2.1.2.1.1, ()), ())), ())))
            (g2 ((IntKind.wrap .i64 (v10 + 1))) v1 v0 v3 b0_0 b0_1 b0_2 b0_3 r2.1.1.1.1.1 r2.1.1.1.1.2 r2.1.1.1.2.1 r2.1.1.1.2.2))))
      (none))
    (none))
  (some ((((((b1_0, b1_1), (b1_2, b1_3)), ()), ((0, ()), ())), ())))

noncomputable def spec_l05Along_l2 (n : Nat) : Nat → Int → (List (Int)) → (List ((ByteArray) × ((Int) × ((((Int) × (Int)) × ((Int) × (Int))) × (((Int) × (Int)) × ((Int) × (Int))))))) → Int → Int → Int → Int → Int → Int → Int → Int → Int → Option ((((((Int) × (Int)) × ((Int) × (Int))) × (Unit)) × (((Int) × (Unit)) × (Unit))) × (Unit))
  | 0, _, _, _, _, _, _, _, _, _, _, _, _ => none
  | k + 1, v10, v1, v0, v3, b0_0, b0_1, b0_2, b0_3, b1_0, b1_1, b1_2, b1_3 => spec_l05Along_t2 n (spec_l05Along_l2 n k) v10 v1 v0 v3 b0_0 b0_1 b0_2 b0_3 b1_0 b1_1 b1_2 b1_3

noncomputable def spec_l05Along_t (n : Nat) (h2 : Nat → Int → (List (Int)) → (List ((ByteArray) × ((Int) × ((((Int) × (Int)) × ((Int) × (Int))) × (((Int) × (Int)) × ((Int) × (Int))))))) → Int → Int → Int → Int → Int → Int → Int → Int → Int → Option ((((((Int) × (Int)) × ((Int) × (Int))) × (Unit)) × (((Int) × (Unit)) × (Unit))) × (Unit))) (a0 : List ((ByteArray) × ((Int) × ((((Int) × (Int)) × ((Int) × (Int))) × (((Int) × (Int)) × ((Int) × (Int))))))) (a1 : List (Int)) (a2 : ((Int) × (Int)) × ((Int) × (Int))) (a3 : Int) : Option ((((((Int) × (Int)) × ((Int) × (Int))) × (Unit)) × (((Int) × (Unit)) × (Unit))) × (Unit)) :=
  h2 n 0 a1 a0 a3 0 0 0 0 a2.1.1 a2.1.2 a2.2.1 a2.2.2

noncomputable def spec_l05Along (n : Nat) (a0 : List ((ByteArray) × ((Int) × ((((Int) × (Int)) × ((Int) × (Int))) × (((Int) × (Int)) × ((Int) × (Int))))))) (a1 : List (Int)) (a2 : ((Int) × (Int)) × ((Int) × (Int))) (a3 : Int) : Option ((((((Int) × (Int)) × ((Int) × (Int))) × (Unit)) × (((Int) × (Unit)) × (Unit))) × (Unit)) := spec_l05Along_t n (spec_l05Along_l2 n) a0 a1 a2 a3

noncomputable def spec_l05Begin_t (n : Nat) (a0 : List ((ByteArray) × ((Int) × ((((Int) × (Int)) × ((Int) × (Int))) × (((Int) × (Int)) × ((Int) × (Int))))))) (a1 : List (Int)) (a2 : Int) : Option ((((Int) × (Unit)) × (Unit)) × (Unit)) :=
  cond ((((a1.length : Nat) : Int) == 0))
  (some ((((a2, ()), ()), ())))
  (cond (decide (0 < ((a1.length : Nat) : Int)))
    (cond ((decide (0 ≤ (a1.getD (Int.toNat 0) 0)) && decide ((a1.getD (Int.toNat 0) 0) < ((a0.length : Nat) : Int))))
      (some (((((a0.getD (Int.toNat (a1.getD (Int.toNat 0) 0)) ((ByteArray.mk #[]), (0, (((0, 0), (0, 0)), ((0, 0), (0, 0)))))).2.2.2.2.1, ()), ()), ())))
      (none))
    (none))

noncomputable def spec_l05Begin (n : Nat) (a0 : List ((ByteArray) × ((Int) × ((((Int) × (Int)) × ((Int) × (Int))) × (((Int) × (Int)) × ((Int) × (Int))))))) (a1 : List (Int)) (a2 : Int) : Option ((((Int) × (Unit)) × (Unit)) × (Unit)) := spec_l05Begin_t n a0 a1 a2

noncomputable def spec_l05Good_e_t (n : Nat) (a0 : (ByteArray) × ((Int) × ((((Int) × (Int)) × ((Int) × (Int))) × (((Int) × (Int)) × ((Int) × (Int)))))) (a1 : Int) : Option ((((Bool) × (Unit)) × (Unit)) × (Unit)) :=
  cond (decide (a1 ≥ a0.2.2.2.2.1))
  (some ((((decide (a1 ≤ (IntKind.wrap .i64 (a0.2.2.2.2.1 + a0.2.2.2.2.2))), ()), ()), ())))
  (some ((((false, ()), ()), ())))

noncomputable def spec_l05Good_e (n : Nat) (a0 : (ByteArray) × ((Int) × ((((Int) × (Int)) × ((Int) × (Int))) × (((Int) × (Int)) × ((Int) × (Int)))))) (a1 : Int) : Option ((((Bool) × (Unit)) × (Unit)) × (Unit)) := spec_l05Good_e_t n a0 a1

noncomputable def spec_l05Nothing_t (n : Nat) : Option ((((((Int) × (Int)) × ((Int) × (Int))) × (Unit)) × (Unit)) × (Unit)) :=
  (spec_l01Whole n 0).bind fun r0 =>
  (spec_l01Whole n 0).bind fun r1 =>
  some ((((((r0.1.1.1.1, r0.1.1.1.2), (r1.1.1.1.1, r1.1.1.1.2)), ()), ()), ()))

noncomputable def spec_l05Nothing (n : Nat) : Option ((((((Int) × (Int)) × ((Int) × (Int))) × (Unit)) × (Unit)) × (Unit)) := spec_l05Nothing_t n

noncomputable def spec_l05Path_t (n : Nat) (rec : (List ((ByteArray) × ((Int) × ((((Int) × (Int)) × ((Int) × (Int))) × (((Int) × (Int)) × ((Int) × (Int))))))) → Int → Option ((((List (Int)) × (Unit)) × (Unit)) × (Unit))) (a0 : List ((ByteArray) × ((Int) × ((((Int) × (Int)) × ((Int) × (Int))) × (((Int) × (Int)) × ((Int) × (Int))))))) (a1 : Int) : Option ((((List (Int)) × (Unit)) × (Unit)) × (Unit)) :=
  cond (decide (a1 < 0))
  (some (((([], ()), ()), ())))
  (cond ((decide (0 ≤ a1) && decide (a1 < ((a0.length : Nat) : Int))))
    ((rec a0 ((a0.getD (Int.toNat a1) ((ByteArray.mk #[]), (0, (((0, 0), (0, 0)), ((0, 0), (0, 0)))))).2.1)).bind fun r0 =>
      cond (decide (((r0.1.1.1.length + (a1 :: []).length) * 9) ≤ 70368744177664))
      (some (((((r0.1.1.1 ++ (a1 :: [])), ()), ()), ())))
      (none))
    (none))

noncomputable def spec_l05Path_r (n : Nat) : Nat → (List ((ByteArray) × ((Int) × ((((Int) × (Int)) × ((Int) × (Int))) × (((Int) × (Int)) × ((Int) × (Int))))))) → Int → Option ((((List (Int)) × (Unit)) × (Unit)) × (Unit))
  | 0, _, _ => none
  | d + 1, a0, a1 => spec_l05Path_t n (spec_l05Path_r n d) a0 a1

noncomputable def spec_l05Path (n : Nat) (a0 : List ((ByteArray) × ((Int) × ((((Int) × (Int)) × ((Int) × (Int))) × (((Int) × (Int)) × ((Int) × (Int))))))) (a1 : Int) : Option ((((List (Int)) × (Unit)) × (Unit)) × (Unit)) := spec_l05Path_r n n a0 a1

noncomputable def spec_l05Difference_t6 (n : Nat) (g6 : Int → (List ((ByteArray) × ((Int) × ((((Int) × (Int)) × ((Int) × (Int))) × (((Int) × (Int)) × ((Int) × (Int))))))) → Int → Int → Int → Int → Int → (List (Int)) → (List (Int)) → Option ((((((Int) × (Int)) × ((Int) × (Int))) × (Unit)) × (((Int) × (Unit)) × (Unit))) × (Unit))) (v12 : Int) (v0 : List ((ByteArray) × ((Int) × ((((Int) × (Int)) × ((Int) × (Int))) × (((Int) × (Int)) × ((Int) × (Int))))))) (v3 : Int) (b0_0 : Int) (b0_1 : Int) (b0_2 : Int) (b0_3 : Int) (b1 : List (Int)) (b2 : List (Int)) : Option ((((((Int) × (Int)) × ((Int) × (Int))) × (Unit)) × (((Int) × (Unit)) × (Unit))) × (Unit)) :=
  cond (decide (v12 < ((b1.length : Nat) : Int)))
  (cond (decide (v12 < ((b2.length : Nat) : Int)))
    (cond ((decide (0 ≤ v12) && decide (v12 < ((b1.length : Nat) : Int))))
      (cond ((decide (0 ≤ v12) && decide (v12 < ((b2.length : Nat) : Int))))
        (cond (((b1.getD (Int.toNat v12) 0) == (b2.getD (Int.toNat v12) 0)))
          (g6 ((IntKind.wrap .i64 (v12 + 1))) v0 v3 b0_0 b0_1 b0_2 b0_3 b1 b2)
          (cond (((decide (0 ≤ v12) && decide (v12 ≤ ((b1.length : Nat) : Int))) && decide (((b1.length : Nat) : Int) ≤ ((b1.length : Nat) : Int))))
            ((spec_l05Nothing n).bind fun r4 =>
              (spec_l05Along n v0 (((b1.drop (Int.toNat v12)).take ((Int.toNat ((b1.length : Nat) : Int)) - (Int.toNat v12)))) (((r4.1.1.1.1.1, r4.1.1.1.1.2), (r4.1.1.1.2.1, r4.1.1.1.2.2))) v3).bind fun r5 =>
              cond ((r5.1.2.1.1 != 0))
              (some ((((((0, 0), (0, 0)), ()), ((r5.1.2.1.1, ()), ())), ())))
              (cond (((decide (0 ≤ v12) && decide (v12 ≤ ((b2.length : Nat) : Int))) && decide (((b2.length : Nat) : Int) ≤ ((b2.length : Nat) : Int))))
                ((spec_l05Nothing n).bind fun r6 =>
                  (spec_l05Along n v0 (((b2.drop (Int.toNat v12)).take ((Int.toNat ((b2.length : Nat) : Int)) - (Int.toNat v12)))) (((r6.1.1.1.1.1, r6.1.1.1.1.2), (r6.1.1.1.2.1, r6.1.1.1.2.2))) v3).bind fun r7 =>
                  cond ((r7.1.2.1.1 != 0))
                  (some ((((((0, 0), (0, 0)), ()), ((r7.1.2.1.1, ()), ())), ())))
                  ((spec_l01Against n (((r5.1.1.1.1.1, r5.1.1.1.1.2), (r5.1.1.1.2.1, r5.1.1.1.2.2))) (((r7.1.1.1.1.1, r7.1.1.1.1.2), (r7.1.1.1.2.1, r7.1.1.1.2.2)))).bind fun r8 =>
                    cond ((r8.1.2.1.1 != 0))
                    (some ((((((r8.1.1.1.1.1, r8.1.1.1.1.2), (r8.1.1.1.2.1, r8.1.1.1.2.2)), ()), ((r8.1.2.1.1, ()), ())), ())))
                    (cond ((v12 == 0))
                      (some ((((((r8.1.1.1.1.1, r8.1.1.1.1.2), (r8.1.1.1.2.1, r8.1.1.1.2.2)), ()), ((r8.1.2.1.1, ()), ())), ())))
                      (cond (((decide (0 ≤ v12) && decide (v12 ≤ ((b1.length : Nat) : Int))) && decide (((b1.length : Nat) : Int) ≤ ((b1.length : Nat) : Int))))
                        ((spec_l05Begin n v0 (((b1.drop (Int.toNat v12)).take ((Int.toNat ((b1.length : Nat) : Int)) - (Int.toNat v12)))) v3).bind fun r9 =>
                          cond (((decide (0 ≤ v12) && decide (v12 ≤ ((b2.length : Nat) : Int))) && decide (((b2.length : Nat) : Int) ≤ ((b2.length : Nat) : Int))))
                          ((spec_l05Begin n v0 (((b2.drop (Int.toNat v12)).take ((Int.toNat ((b2.length : Nat) : Int)) - (Int.toNat v12)))) v3).bind fun r10 =>
                            (spec_l01Abs n ((IntKind.wrap .i64 (r9.1.1.1 - r10.1.1.1)))).bind fun r11 =>
                            cond ((decide (0 ≤ (IntKind.wrap .i64 (v12 - 1))) && decide ((IntKind.wrap .i64 (v12 - 1)) < ((b1.length : Nat) : Int))))
                            (cond ((decide (0 ≤ (b1.getD (Int.toNat (IntKind.wrap .i64 (v12 - 1))) 0)) && decide ((b1.getD (Int.toNat (IntKind.wrap .i64 (v12 - 1))) 0) < ((v0.length : Nat) : Int))))
                              ((spec_l05Wider n (((r8.1.1.1.1.1, r8.1.1.1.1.2), (r8.1.1.1.2.1, r8.1.1.1.2.2))) (((v0.getD (Int.toNat (b1.getD (Int.toNat (IntKind.wrap .i64 (v12 - 1))) 0)) ((ByteArray.mk #[]), (0, (((0, 0), (0, 0)), ((0, 0), (0, 0)))))).2.2.2.1.1, (v0.getD (Int.toNat (b1.getD (Int.toNat (IntKind.wrap .i64 (v12 - 1))) 0)) ((ByteArray.mk #[]), (0, (((0, 0), (0, 0)), ((0, 0), (0, 0)))))).2.2.2.1.2)) r11.1.1.1).bind fun r12 =>
                                some ((((((r12.1.1.1.1.1, r12.1.1.1.1.2), (r12.1.1.1.2.1, r12.1.1.1.2.2)), ()), ((r12.1.2.1.1, ()), ())), ())))
                              (none))
                            (none))
                          (none))
                        (none)))))
                (none)))
            (none)))
        (none))
      (none))
    (cond (((decide (0 ≤ v12) && decide (v12 ≤ ((b1.length : Nat) : Int))) && decide (((b1.length : Nat) : Int) ≤ ((b1.length : Nat) : Int))))
      ((spec_l05Nothing n).bind fun r13 =>
        (spec_l05Along n v0 (((b1.drop (Int.toNat v12)).take ((Int.toNat ((b1.length : Nat) : Int)) - (Int.toNat v12)))) (((r13.1.1.1.1.1, r13.1.1.1.1.2), (r13.1.1.1.2.1, r13.1.1.1.2.2))) v3).bind fun r14 =>
        cond ((r14.1.2.1.1 != 0))
        (some ((((((0, 0), (0, 0)), ()), ((r14.1.2.1.1, ()), ())), ())))
        (cond (((decide (0 ≤ v12) && decide (v12 ≤ ((b2.length : Nat) : Int))) && decide (((b2.length : Nat) : Int) ≤ ((b2.length : Nat) : Int))))
          ((spec_l05Nothing n).bind fun r15 =>
            (spec_l05Along n v0 (((b2.drop (Int.toNat v12)).take ((Int.toNat ((b2.length : Nat) : Int)) - (Int.toNat v12)))) (((r15.1.1.1.1.1, r15.1.1.1.1.2), (r15.1.1.1.2.1, r15.1.1.1.2.2))) v3).bind fun r16 =>
            cond ((r16.1.2.1.1 != 0))
            (some ((((((0, 0), (0, 0)), ()), ((r16.1.2.1.1, ()), ())), ())))
            ((spec_l01Against n (((r14.1.1.1.1.1, r14.1.1.1.1.2), (r14.1.1.1.2.1, r14.1.1.1.2.2))) (((r16.1.1.1.1.1, r16.1.1.1.1.2), (r16.1.1.1.2.1, r16.1.1.1.2.2)))).bind fun r17 =>
              cond ((r17.1.2.1.1 != 0))
              (some ((((((r17.1.1.1.1.1, r17.1.1.1.1.2), (r17.1.1.1.2.1, r17.1.1.1.2.2)), ()), ((r17.1.2.1.1, ()), ())), ())))
              (cond ((v12 == 0))
                (some ((((((r17.1.1.1.1.1, r17.1.1.1.1.2), (r17.1.1.1.2.1, r17.1.1.1.2.2)), ()), ((r17.1.2.1.1, ()), ())), ())))
                (cond (((decide (0 ≤ v12) && decide (v12 ≤ ((b1.length : Nat) : Int))) && decide (((b1.length : Nat) : Int) ≤ ((b1.length : Nat) : Int))))
                  ((spec_l05Begin n v0 (((b1.drop (Int.toNat v12)).take ((Int.toNat ((b1.length : Nat) : Int)) - (Int.toNat v12)))) v3).bind fun r18 =>
                    cond (((decide (0 ≤ v12) && decide (v12 ≤ ((b2.length : Nat) : Int))) && decide (((b2.length : Nat) : Int) ≤ ((b2.length : Nat) : Int))))
                    ((spec_l05Begin n v0 (((b2.drop (Int.toNat v12)).take ((Int.toNat ((b2.length : Nat) : Int)) - (Int.toNat v12)))) v3).bind fun r19 =>
                      (spec_l01Abs n ((IntKind.wrap .i64 (r18.1.1.1 - r19.1.1.1)))).bind fun r20 =>
                      cond ((decide (0 ≤ (IntKind.wrap .i64 (v12 - 1))) && decide ((IntKind.wrap .i64 (v12 - 1)) < ((b1.length : Nat) : Int))))
                      (cond ((decide (0 ≤ (b1.getD (Int.toNat (IntKind.wrap .i64 (v12 - 1))) 0)) && decide ((b1.getD (Int.toNat (IntKind.wrap .i64 (v12 - 1))) 0) < ((v0.length : Nat) : Int))))
                        ((spec_l05Wider n (((r17.1.1.1.1.1, r17.1.1.1.1.2), (r17.1.1.1.2.1, r17.1.1.1.2.2))) (((v0.getD (Int.toNat (b1.getD (Int.toNat (IntKind.wrap .i64 (v12 - 1))) 0)) ((ByteArray.mk #[]), (0, (((0, 0), (0, 0)), ((0, 0), (0, 0)))))).2.2.2.1.1, (v0.getD (Int.toNat (b1.getD (Int.toNat (IntKind.wrap .i64 (v12 - 1))) 0)) ((ByteArray.mk #[]), (0, (((0, 0), (0, 0)), ((0, 0), (0, 0)))))).2.2.2.1.2)) r20.1.1.1).bind fun r21 =>
                          some ((((((r21.1.1.1.1.1, r21.1.1.1.1.2), (r21.1.1.1.2.1, r21.1.1.1.2.2)), ()), ((r21.1.2.1.1, ()), ())), ())))
                        (none))
                      (none))
                    (none))
                  (none)))))
          (none)))
      (none)))
  (cond (((decide (0 ≤ v12) && decide (v12 ≤ ((b1.length : Nat) : Int))) && decide (((b1.length : Nat) : Int) ≤ ((b1.length : Nat) : Int))))
    ((spec_l05Nothing n).bind fun r22 =>
      (spec_l05Along n v0 (((b1.drop (Int.toNat v12)).take ((Int.toNat ((b1.length : Nat) : Int)) - (Int.toNat v12)))) (((r22.1.1.1.1.1, r22.1.1.1.1.2), (r22.1.1.1.2.1, r22.1.1.1.2.2))) v3).bind fun r23 =>
      cond ((r23.1.2.1.1 != 0))
      (some ((((((0, 0), (0, 0)), ()), ((r23.1.2.1.1, ()), ())), ())))
      (cond (((decide (0 ≤ v12) && decide (v12 ≤ ((b2.length : Nat) : Int))) && decide (((b2.length : Nat) : Int) ≤ ((b2.length : Nat) : Int))))
        ((spec_l05Nothing n).bind fun r24 =>
          (spec_l05Along n v0 (((b2.drop (Int.toNat v12)).take ((Int.toNat ((b2.length : Nat) : Int)) - (Int.toNat v12)))) (((r24.1.1.1.1.1, r24.1.1.1.1.2), (r24.1.1.1.2.1, r24.1.1.1.2.2))) v3).bind fun r25 =>
          cond ((r25.1.2.1.1 != 0))
          (some ((((((0, 0), (0, 0)), ()), ((r25.1.2.1.1, ()), ())), ())))
          ((spec_l01Against n (((r23.1.1.1.1.1, r23.1.1.1.1.2), (r23.1.1.1.2.1, r23.1.1.1.2.2))) (((r25.1.1.1.1.1, r25.1.1.1.1.2), (r25.1.1.1.2.1, r25.1.1.1.2.2)))).bind fun r26 =>
            cond ((r26.1.2.1.1 != 0))
            (some ((((((r26.1.1.1.1.1, r26.1.1.1.1.2), (r26.1.1.1.2.1, r26.1.1.1.2.2)), ()), ((r26.1.2.1.1, ()), ())), ())))
            (cond ((v12 == 0))
              (some ((((((r26.1.1.1.1.1, r26.1.1.1.1.2), (r26.1.1.1.2.1, r26.1.1.1.2.2)), ()), ((r26.1.2.1.1, ()), ())), ())))
              (cond (((decide (0 ≤ v12) && decide (v12 ≤ ((b1.length : Nat) : Int))) && decide (((b1.length : Nat) : Int) ≤ ((b1.length : Nat) : Int))))
                ((spec_l05Begin n v0 (((b1.drop (Int.toNat v12)).take ((Int.toNat ((b1.length : Nat) : Int)) - (Int.toNat v12)))) v3).bind fun r27 =>
                  cond (((decide (0 ≤ v12) && decide (v12 ≤ ((b2.length : Nat) : Int))) && decide (((b2.length : Nat) : Int) ≤ ((b2.length : Nat) : Int))))
                  ((spec_l05Begin n v0 (((b2.drop (Int.toNat v12)).take ((Int.toNat ((b2.length : Nat) : Int)) - (Int.toNat v12)))) v3).bind fun r28 =>
                    (spec_l01Abs n ((IntKind.wrap .i64 (r27.1.1.1 - r28.1.1.1)))).bind fun r29 =>
                    cond ((decide (0 ≤ (IntKind.wrap .i64 (v12 - 1))) && decide ((IntKind.wrap .i64 (v12 - 1)) < ((b1.length : Nat) : Int))))
                    (cond ((decide (0 ≤ (b1.getD (Int.toNat (IntKind.wrap .i64 (v12 - 1))) 0)) && decide ((b1.getD (Int.toNat (IntKind.wrap .i64 (v12 - 1))) 0) < ((v0.length : Nat) : Int))))
                      ((spec_l05Wider n (((r26.1.1.1.1.1, r26.1.1.1.1.2), (r26.1.1.1.2.1, r26.1.1.1.2.2))) (((v0.getD (Int.toNat (b1.getD (Int.toNat (IntKind.wrap .i64 (v12 - 1))) 0)) ((ByteArray.mk #[]), (0, (((0, 0), (0, 0)), ((0, 0), (0, 0)))))).2.2.2.1.1, (v0.getD (Int.toNat (b1.getD (Int.toNat (IntKind.wrap .i64 (v12 - 1))) 0)) ((ByteArray.mk #[]), (0, (((0, 0), (0, 0)), ((0, 0), (0, 0)))))).2.2.2.1.2)) r29.1.1.1).bind fun r30 =>
                        some ((((((r30.1.1.1.1.1, r30.1.1.1.1.2), (r30.1.1.1.2.1, r30.1.1.1.2.2)), ()), ((r30.1.2.1.1, ()), ())), ())))
                      (none))
                    (none))
                  (none))
                (none)))))
        (none)))
    (none))

noncomputable def spec_l05Difference_l6 (n : Nat) : Nat → Int → (List ((ByteArray) × ((Int) × ((((Int) × (Int)) × ((Int) × (Int))) × (((Int) × (Int)) × ((Int) × (Int))))))) → Int → Int → Int → Int → Int → (List (Int)) → (List (Int)) → Option ((((((Int) × (Int)) × ((Int) × (Int))) × (Unit)) × (((Int) × (Unit)) × (Unit))) × (Unit))
  | 0, _, _, _, _, _, _, _, _, _ => none
  | k + 1, v12, v0, v3, b0_0, b0_1, b0_2, b0_3, b1, b2 => spec_l05Difference_t6 n (spec_l05Difference_l6 n k) v12 v0 v3 b0_0 b0_1 b0_2 b0_3 b1 b2

noncomputable def spec_l05Difference_t (n : Nat) (h6 : Nat → Int → (List ((ByteArray) × ((Int) × ((((Int) × (Int)) × ((Int) × (Int))) × (((Int) × (Int)) × ((Int) × (Int))))))) → Int → Int → Int → Int → Int → (List (Int)) → (List (Int)) → Option ((((((Int) × (Int)) × ((Int) × (Int))) × (Unit)) × (((Int) × (Unit)) × (Unit))) × (Unit))) (a0 : List ((ByteArray) × ((Int) × ((((Int) × (Int)) × ((Int) × (Int))) × (((Int) × (Int)) × ((Int) × (Int))))))) (a1 : Int) (a2 : Int) (a3 : Int) : Option ((((((Int) × (Int)) × ((Int) × (Int))) × (Unit)) × (((Int) × (Unit)) × (Unit))) × (Unit)) :=
  cond ((decide (0 ≤ a1) && decide (a1 < ((a0.length : Nat) : Int))))
  ((spec_l05Good_e n (((a0.getD (Int.toNat a1) ((ByteArray.mk #[]), (0, (((0, 0), (0, 0)), ((0, 0), (0, 0)))))).1, ((a0.getD (Int.toNat a1) ((ByteArray.mk #[]), (0, (((0, 0), (0, 0)), ((0, 0), (0, 0)))))).2.1, ((((a0.getD (Int.toNat a1) ((ByteArray.mk #[]), (0, (((0, 0), (0, 0)), ((0, 0), (0, 0)))))).2.2.1.1.1, (a0.getD (Int.toNat a1) ((ByteArray.mk #[]), (0, (((0, 0), (0, 0)), ((0, 0), (0, 0)))))).2.2.1.1.2), ((a0.getD (Int.toNat a1) ((ByteArray.mk #[]), (0, (((0, 0), (0, 0)), ((0, 0), (0, 0)))))).2.2.1.2.1, (a0.getD (Int.toNat a1) ((ByteArray.mk #[]), (0, (((0, 0), (0, 0)), ((0, 0), (0, 0)))))).2.2.1.2.2)), (((a0.getD (Int.toNat a1) ((ByteArray.mk #[]), (0, (((0, 0), (0, 0)), ((0, 0), (0, 0)))))).2.2.2.1.1, (a0.getD (Int.toNat a1) ((ByteArray.mk #[]), (0, (((0, 0), (0, 0)), ((0, 0), (0, 0)))))).2.2.2.1.2), ((a0.getD (Int.toNat a1) ((ByteArray.mk #[]), (0, (((0, 0), (0, 0)), ((0, 0), (0, 0)))))).2.2.2.2.1, (a0.getD (Int.toNat a1) ((ByteArray.mk #[]), (0, (((0, 0), (0, 0)), ((0, 0), (0, 0)))))).2.2.2.2.2)))))) a3).bind fun r0 =>
    cond (!r0.1.1.1)
    (some ((((((0, 0), (0, 0)), ()), ((4, ()), ())), ())))
    (cond ((decide (0 ≤ a2) && decide (a2 < ((a0.length : Nat) : Int))))
      ((spec_l05Good_e n (((a0.getD (Int.toNat a2) ((ByteArray.mk #[]), (0, (((0, 0), (0, 0)), ((0, 0), (0, 0)))))).1, ((a0.getD (Int.toNat a2) ((ByteArray.mk #[]), (0, (((0, 0), (0, 0)), ((0, 0), (0, 0)))))).2.1, ((((a0.getD (Int.toNat a2) ((ByteArray.mk #[]), (0, (((0, 0), (0, 0)), ((0, 0), (0, 0)))))).2.2.1.1.1, (a0.getD (Int.toNat a2) ((ByteArray.mk #[]), (0, (((0, 0), (0, 0)), ((0, 0), (0, 0)))))).2.2.1.1.2), ((a0.getD (Int.toNat a2) ((ByteArray.mk #[]), (0, (((0, 0), (0, 0)), ((0, 0), (0, 0)))))).2.2.1.2.1, (a0.getD (Int.toNat a2) ((ByteArray.mk #[]), (0, (((0, 0), (0, 0)), ((0, 0), (0, 0)))))).2.2.1.2.2)), (((a0.getD (Int.toNat a2) ((ByteArray.mk #[]), (0, (((0, 0), (0, 0)), ((0, 0), (0, 0)))))).2.2.2.1.1, (a0.getD (Int.toNat a2) ((ByteArray.mk #[]), (0, (((0, 0), (0, 0)), ((0, 0), (0, 0)))))).2.2.2.1.2), ((a0.getD (Int.toNat a2) ((ByteArray.mk #[]), (0, (((0, 0), (0, 0)), ((0, 0), (0, 0)))))).2.2.2.2.1, (a0.getD (Int.toNat a2) ((ByteArray.mk #[]), (0, (((0, 0), (0, 0)), ((0, 0), (0, 0)))))).2.2.2.2.2)))))) a3).bind fun r1 =>
        cond (!r1.1.1.1)
        (some ((((((0, 0), (0, 0)), ()), ((4, ()), ())), ())))
        ((spec_l05Path n a0 a1).bind fun r2 =>
          (spec_l05Path n a0 a2).bind fun r3 =>
          h6 n 0 a0 a3 0 0 0 0 r2.1.1.1 r3.1.1.1))
      (none)))
  (none)

noncomputable def spec_l05Difference (n : Nat) (a0 : List ((ByteArray) × ((Int) × ((((Int) × (Int)) × ((Int) × (Int))) × (((Int) × (Int)) × ((Int) × (Int))))))) (a1 : Int) (a2 : Int) (a3 : Int) : Option ((((((Int) × (Int)) × ((Int) × (Int))) × (Unit)) × (((Int) × (Unit)) × (Unit))) × (Unit)) := spec_l05Difference_t n (spec_l05Difference_l6 n) a0 a1 a2 a3

noncomputable def spec_l05Day_t (n : Nat) (a0 : Int) : Option ((((Bool) × (Unit)) × (Unit)) × (Unit)) :=
  (spec_l00In n a0 0 100000).bind fun r0 =>
  some ((((r0.1.1.1, ()), ()), ()))

noncomputable def spec_l05Day (n : Nat) (a0 : Int) : Option ((((Bool) × (Unit)) × (Unit)) × (Unit)) := spec_l05Day_t n a0

noncomputable def spec_l05Name_t4 (n : Nat) (g4 : Int → ByteArray → Option ((((Bool) × (Unit)) × (Unit)) × (Unit))) (v3 : Int) (v0 : ByteArray) : Option ((((Bool) × (Unit)) × (Unit)) × (Unit)) :=
  cond (decide (v3 < (((ByteArray.size v0) : Nat) : Int)))
  (cond ((decide (0 ≤ v3) && decide (v3 < (((ByteArray.size v0) : Nat) : Int))))
    (cond (decide ((byteAt v0 v3) < 97))
      (some ((((false, ()), ()), ())))
      (cond ((decide (0 ≤ v3) && decide (v3 < (((ByteArray.size v0) : Nat) : Int))))
        (cond (decide ((byteAt v0 v3) > 122))
          (some ((((false, ()), ()), ())))
          (g4 ((IntKind.wrap .i64 (v3 + 1))) v0))
        (none)))
    (none))
  (some ((((true, ()), ()), ())))

noncomputable def spec_l05Name_l4 (n : Nat) : Nat → Int → ByteArray → Option ((((Bool) × (Unit)) × (Unit)) × (Unit))
  | 0, _, _ => none
  | k + 1, v3, v0 => spec_l05Name_t4 n (spec_l05Name_l4 n k) v3 v0

noncomputable def spec_l05Name_t (n : Nat) (h4 : Nat → Int → ByteArray → Option ((((Bool) × (Unit)) × (Unit)) × (Unit))) (a0 : ByteArray) : Option ((((Bool) × (Unit)) × (Unit)) × (Unit)) :=
  cond (decide ((((ByteArray.size a0) : Nat) : Int) < 1))
  (some ((((false, ()), ()), ())))
  (cond (decide ((((ByteArray.size a0) : Nat) : Int) > 12))
    (some ((((false, ()), ()), ())))
    (h4 n 0 a0))

noncomputable def spec_l05Name (n : Nat) (a0 : ByteArray) : Option ((((Bool) × (Unit)) × (Unit)) × (Unit)) := spec_l05Name_t n (spec_l05Name_l4 n) a0

noncomputable def spec_l01Cmp_t (n : Nat) (a0 : (Int) × (Int)) (a1 : (Int) × (Int)) : Option ((((Int) × (Unit)) × (Unit)) × (Unit)) :=
  cond (decide ((IntKind.wrap .i64 (a0.1 * a1.2)) < (IntKind.wrap .i64 (a1.1 * a0.2))))
  (some (((((-1), ()), ()), ())))
  (cond (decide ((IntKind.wrap .i64 (a0.1 * a1.2)) > (IntKind.wrap .i64 (a1.1 * a0.2))))
    (some ((((1, ()), ()), ())))
    (some ((((0, ()), ()), ()))))

noncomputable def spec_l01Cmp (n : Nat) (a0 : (Int) × (Int)) (a1 : (Int) × (Int)) : Option ((((Int) × (Unit)) × (Unit)) × (Unit)) := spec_l01Cmp_t n a0 a1

noncomputable def spec_l01Span_e_t (n : Nat) (a0 : ((Int) × (Int)) × ((Int) × (Int))) : Option ((((Bool) × (Unit)) × (Unit)) × (Unit)) :=
  (spec_l01Ok n ((a0.1.1, a0.1.2))).bind fun r0 =>
  cond r0.1.1.1
  ((spec_l01Ok n ((a0.2.1, a0.2.2))).bind fun r1 =>
    cond r1.1.1.1
    ((spec_l01Cmp n ((a0.1.1, a0.1.2)) ((a0.2.1, a0.2.2))).bind fun r2 =>
      some ((((decide (r2.1.1.1 ≤ 0), ()), ()), ())))
    (some ((((false, ()), ()), ()))))
  (some ((((false, ()), ()), ())))

noncomputable def spec_l01Span_e (n : Nat) (a0 : ((Int) × (Int)) × ((Int) × (Int))) : Option ((((Bool) × (Unit)) × (Unit)) × (Unit)) := spec_l01Span_e_t n a0

noncomputable def spec_l05Standard_e_t (n : Nat) (a0 : List ((ByteArray) × ((Int) × ((((Int) × (Int)) × ((Int) × (Int))) × (((Int) × (Int)) × ((Int) × (Int))))))) (a1 : (ByteArray) × ((Int) × ((((Int) × (Int)) × ((Int) × (Int))) × (((Int) × (Int)) × ((Int) × (Int)))))) : Option ((((Bool) × (Unit)) × (Unit)) × (Unit)) :=
  (spec_l01Span_e n (((a1.2.2.1.1.1, a1.2.2.1.1.2), (a1.2.2.1.2.1, a1.2.2.1.2.2)))).bind fun r0 =>
  cond (!r0.1.1.1)
  (some ((((false, ()), ()), ())))
  ((spec_l01Ok n ((a1.2.2.2.1.1, a1.2.2.2.1.2))).bind fun r1 =>
    cond (!r1.1.1.1)
    (some ((((false, ()), ()), ())))
    (cond (decide (a1.2.2.2.1.1 < 0))
      (some ((((false, ()), ()), ())))
      ((spec_l05Day n a1.2.2.2.2.1).bind fun r2 =>
        cond (!r2.1.1.1)
        (some ((((false, ()), ()), ())))
        ((spec_l05Day n a1.2.2.2.2.2).bind fun r3 =>
          cond (!r3.1.1.1)
          (some ((((false, ()), ()), ())))
          (cond ((a1.2.1 == (-1)))
            (some ((((true, ()), ()), ())))
            ((spec_l00In n a1.2.1 0 ((IntKind.wrap .i64 (((a0.length : Nat) : Int) - 1)))).bind fun r4 =>
              cond r4.1.1.1
              (cond ((decide (0 ≤ a1.2.1) && decide (a1.2.1 < ((a0.length : Nat) : Int))))
                ((spec_l05Good_e n (((a0.getD (Int.toNat a1.2.1) ((ByteArray.mk #[]), (0, (((0, 0), (0, 0)), ((0, 0), (0, 0)))))).1, ((a0.getD (Int.toNat a1.2.1) ((ByteArray.mk #[]), (0, (((0, 0), (0, 0)), ((0, 0), (0, 0)))))).2.1, ((((a0.getD (Int.toNat a1.2.1) ((ByteArray.mk #[]), (0, (((0, 0), (0, 0)), ((0, 0), (0, 0)))))).2.2.1.1.1, (a0.getD (Int.toNat a1.2.1) ((ByteArray.mk #[]), (0, (((0, 0), (0, 0)), ((0, 0), (0, 0)))))).2.2.1.1.2), ((a0.getD (Int.toNat a1.2.1) ((ByteArray.mk #[]), (0, (((0, 0), (0, 0)), ((0, 0), (0, 0)))))).2.2.1.2.1, (a0.getD (Int.toNat a1.2.1) ((ByteArray.mk #[]), (0, (((0, 0), (0, 0)), ((0, 0), (0, 0)))))).2.2.1.2.2)), (((a0.getD (Int.toNat a1.2.1) ((ByteArray.mk #[]), (0, (((0, 0), (0, 0)), ((0, 0), (0, 0)))))).2.2.2.1.1, (a0.getD (Int.toNat a1.2.1) ((ByteArray.mk #[]), (0, (((0, 0), (0, 0)), ((0, 0), (0, 0)))))).2.2.2.1.2), ((a0.getD (Int.toNat a1.2.1) ((ByteArray.mk #[]), (0, (((0, 0), (0, 0)), ((0, 0), (0, 0)))))).2.2.2.2.1, (a0.getD (Int.toNat a1.2.1) ((ByteArray.mk #[]), (0, (((0, 0), (0, 0)), ((0, 0), (0, 0)))))).2.2.2.2.2)))))) a1.2.2.2.2.1).bind fun r5 =>
                  some ((((r5.1.1.1, ()), ()), ())))
                (none))
              (some ((((false, ()), ()), ())))))))))

noncomputable def spec_l05Standard_e (n : Nat) (a0 : List ((ByteArray) × ((Int) × ((((Int) × (Int)) × ((Int) × (Int))) × (((Int) × (Int)) × ((Int) × (Int))))))) (a1 : (ByteArray) × ((Int) × ((((Int) × (Int)) × ((Int) × (Int))) × (((Int) × (Int)) × ((Int) × (Int)))))) : Option ((((Bool) × (Unit)) × (Unit)) × (Unit)) := spec_l05Standard_e_t n a0 a1

noncomputable def spec_l05Ok_t9 (n : Nat) (g4 : Int → (List ((ByteArray) × ((Int) × ((((Int) × (Int)) × ((Int) × (Int))) × (((Int) × (Int)) × ((Int) × (Int))))))) → Option ((((Bool) × (Unit)) × (Unit)) × (Unit))) (g9 : Int → Int → (List ((ByteArray) × ((Int) × ((((Int) × (Int)) × ((Int) × (Int))) × (((Int) × (Int)) × ((Int) × (Int))))))) → Option ((((Bool) × (Unit)) × (Unit)) × (Unit))) (v4 : Int) (v3 : Int) (v0 : List ((ByteArray) × ((Int) × ((((Int) × (Int)) × ((Int) × (Int))) × (((Int) × (Int)) × ((Int) × (Int))))))) : Option ((((Bool) × (Unit)) × (Unit)) × (Unit)) :=
  cond (decide (v4 < v3))
  (cond ((decide (0 ≤ v4) && decide (v4 < ((v0.length : Nat) : Int))))
    (cond ((decide (0 ≤ v3) && decide (v3 < ((v0.length : Nat) : Int))))
      (cond ((eqStr (v0.getD (Int.toNat v4) ((ByteArray.mk #[]), (0, (((0, 0), (0, 0)), ((0, 0), (0, 0)))))).1 (v0.getD (Int.toNat v3) ((ByteArray.mk #[]), (0, (((0, 0), (0, 0)), ((0, 0), (0, 0)))))).1))
        (some ((((false, ()), ()), ())))
        (g9 ((IntKind.wrap .i64 (v4 + 1))) v3 v0))
      (none))
    (none))
  (g4 ((IntKind.wrap .i64 (v3 + 1))) v0)

noncomputable def spec_l05Ok_l9 (n : Nat) (g4 : Int → (List ((ByteArray) × ((Int) × ((((Int) × (Int)) × ((Int) × (Int))) × (((Int) × (Int)) × ((Int) × (Int))))))) → Option ((((Bool) × (Unit)) × (Unit)) × (Unit))) : Nat → Int → Int → (List ((ByteArray) × ((Int) × ((((Int) × (Int)) × ((Int) × (Int))) × (((Int) × (Int)) × ((Int) × (Int))))))) → Option ((((Bool) × (Unit)) × (Unit)) × (Unit))
  | 0, _, _, _ => none
  | k + 1, v4, v3, v0 => spec_l05Ok_t9 n g4 (spec_l05Ok_l9 n g4 k) v4 v3 v0

noncomputable def spec_l05Ok_t4 (n : Nat) (h9 : Nat → Int → Int → (List ((ByteArray) × ((Int) × ((((Int) × (Int)) × ((Int) × (Int))) × (((Int) × (Int)) × ((Int) × (Int))))))) → Option ((((Bool) × (Unit)) × (Unit)) × (Unit))) (g4 : Int → (List ((ByteArray) × ((Int) × ((((Int) × (Int)) × ((Int) × (Int))) × (((Int) × (Int)) × ((Int) × (Int))))))) → Option ((((Bool) × (Unit)) × (Unit)) × (Unit))) (v3 : Int) (v0 : List ((ByteArray) × ((Int) × ((((Int) × (Int)) × ((Int) × (Int))) × (((Int) × (Int)) × ((Int) × (Int))))))) : Option ((((Bool) × (Unit)) × (Unit)) × (Unit)) :=
  cond (decide (v3 < ((v0.length : Nat) : Int)))
  (cond ((decide (0 ≤ v3) && decide (v3 < ((v0.length : Nat) : Int))))
    ((spec_l05Name n ((v0.getD (Int.toNat v3) ((ByteArray.mk #[]), (0, (((0, 0), (0, 0)), ((0, 0), (0, 0)))))).1)).bind fun r0 =>
      cond (!r0.1.1.1)
      (some ((((false, ()), ()), ())))
      (cond ((decide (0 ≤ v3) && decide (v3 ≤ ((v0.length : Nat) : Int))))
        (cond ((decide (0 ≤ v3) && decide (v3 < ((v0.length : Nat) : Int))))
          ((spec_l05Standard_e n (((v0.drop (Int.toNat 0)).take ((Int.toNat v3) - (Int.toNat 0)))) (((v0.getD (Int.toNat v3) ((ByteArray.mk #[]), (0, (((0, 0), (0, 0)), ((0, 0), (0, 0)))))).1, ((v0.getD (Int.toNat v3) ((ByteArray.mk #[]), (0, (((0, 0), (0, 0)), ((0, 0), (0, 0)))))).2.1, ((((v0.getD (Int.toNat v3) ((ByteArray.mk #[]), (0, (((0, 0), (0, 0)), ((0, 0), (0, 0)))))).2.2.1.1.1, (v0.getD (Int.toNat v3) ((ByteArray.mk #[]), (0, (((0, 0), (0, 0)), ((0, 0), (0, 0)))))).2.2.1.1.2), ((v0.getD (Int.toNat v3) ((ByteArray.mk #[]), (0, (((0, 0), (0, 0)), ((0, 0), (0, 0)))))).2.2.1.2.1, (v0.getD (Int.toNat v3) ((ByteArray.mk #[]), (0, (((0, 0), (0, 0)), ((0, 0), (0, 0)))))).2.2.1.2.2)), (((v0.getD (Int.toNat v3) ((ByteArray.mk #[]), (0, (((0, 0), (0, 0)), ((0, 0), (0, 0)))))).2.2.2.1.1, (v0.getD (Int.toNat v3) ((ByteArray.mk #[]), (0, (((0, 0), (0, 0)), ((0, 0), (0, 0)))))).2.2.2.1.2), ((v0.getD (Int.toNat v3) ((ByteArray.mk #[]), (0, (((0, 0), (0, 0)), ((0, 0), (0, 0)))))).2.2.2.2.1, (v0.getD (Int.toNat v3) ((ByteArray.mk #[]), (0, (((0, 0), (0, 0)), ((0, 0), (0, 0)))))).2.2.2.2.2))))))).bind fun r1 =>
            cond (!r1.1.1.1)
            (some ((((false, ()), ()), ())))
            (h9 n 0 v3 v0))
          (none))
        (none)))
    (none))
  (some ((((true, ()), ()), ())))

noncomputable def spec_l05Ok_l4 (n : Nat) : Nat → Int → (List ((ByteArray) × ((Int) × ((((Int) × (Int)) × ((Int) × (Int))) × (((Int) × (Int)) × ((Int) × (Int))))))) → Option ((((Bool) × (Unit)) × (Unit)) × (Unit))
  | 0, _, _ => none
  | k + 1, v3, v0 => spec_l05Ok_t4 n (spec_l05Ok_l9 n (spec_l05Ok_l4 n k)) (spec_l05Ok_l4 n k) v3 v0

noncomputable def spec_l05Ok_t (n : Nat) (h4 : Nat → Int → (List ((ByteArray) × ((Int) × ((((Int) × (Int)) × ((Int) × (Int))) × (((Int) × (Int)) × ((Int) × (Int))))))) → Option ((((Bool) × (Unit)) × (Unit)) × (Unit))) (a0 : List ((ByteArray) × ((Int) × ((((Int) × (Int)) × ((Int) × (Int))) × (((Int) × (Int)) × ((Int) × (Int))))))) : Option ((((Bool) × (Unit)) × (Unit)) × (Unit)) :=
  cond (decide (((a0.length : Nat) : Int) > 30))
  (some ((((false, ()), ()), ())))
  (h4 n 0 a0)

noncomputable def spec_l05Ok (n : Nat) (a0 : List ((ByteArray) × ((Int) × ((((Int) × (Int)) × ((Int) × (Int))) × (((Int) × (Int)) × ((Int) × (Int))))))) : Option ((((Bool) × (Unit)) × (Unit)) × (Unit)) := spec_l05Ok_t n (spec_l05Ok_l4 n) a0

noncomputable def spec_l05At_t (n : Nat) (a0 : List ((ByteArray) × ((Int) × ((((Int) × (Int)) × ((Int) × (Int))) × (((Int) × (Int)) × ((Int) × (Int))))))) (a1 : Int) (a2 : Int) : Option ((((Int) × (Unit)) × (Unit)) × (Unit)) :=
  (spec_l05Ok n a0).bind fun r0 =>
  cond (!r0.1.1.1)
  (some ((((1, ()), ()), ())))
  ((spec_l00In n a1 0 ((IntKind.wrap .i64 (((a0.length : Nat) : Int) - 1)))).bind fun r1 =>
    cond (!r1.1.1.1)
    (some ((((2, ()), ()), ())))
    ((spec_l05Day n a2).bind fun r2 =>
      cond (!r2.1.1.1)
      (some ((((2, ()), ()), ())))
      (some ((((0, ()), ()), ())))))

noncomputable def spec_l05At (n : Nat) (a0 : List ((ByteArray) × ((Int) × ((((Int) × (Int)) × ((Int) × (Int))) × (((Int) × (Int)) × ((Int) × (Int))))))) (a1 : Int) (a2 : Int) : Option ((((Int) × (Unit)) × (Unit)) × (Unit)) := spec_l05At_t n a0 a1 a2

noncomputable def spec_l05Two_t (n : Nat) (a0 : List ((ByteArray) × ((Int) × ((((Int) × (Int)) × ((Int) × (Int))) × (((Int) × (Int)) × ((Int) × (Int))))))) (a1 : Int) (a2 : Int) (a3 : Int) : Option ((((Int) × (Unit)) × (Unit)) × (Unit)) :=
  (spec_l05At n a0 a1 a3).bind fun r0 =>
  cond ((r0.1.1.1 != 0))
  (some ((((r0.1.1.1, ()), ()), ())))
  ((spec_l05At n a0 a2 a3).bind fun r1 =>
    some ((((r1.1.1.1, ()), ()), ())))

noncomputable def spec_l05Two (n : Nat) (a0 : List ((ByteArray) × ((Int) × ((((Int) × (Int)) × ((Int) × (Int))) × (((Int) × (Int)) × ((Int) × (Int))))))) (a1 : Int) (a2 : Int) (a3 : Int) : Option ((((Int) × (Unit)) × (Unit)) × (Unit)) := spec_l05Two_t n a0 a1 a2 a3

noncomputable def spec_DifferenceOn_t (n : Nat) (a0 : List ((ByteArray) × ((Int) × ((((Int) × (Int)) × ((Int) × (Int))) × (((Int) × (Int)) × ((Int) × (Int))))))) (a1 : Int) (a2 : Int) (a3 : Int) : Option ((((((Int) × (Int)) × ((Int) × (Int))) × (Unit)) × (((Int) × (Unit)) × (Unit))) × (Unit)) :=
  (spec_l05Two n a0 a1 a2 a3).bind fun r0 =>
  cond ((r0.1.1.1 != 0))
  (some ((((((0, 0), (0, 0)), ()), ((r0.1.1.1, ()), ())), ())))
  ((spec_l05Difference n a0 a1 a2 a3).bind fun r1 =>
    some ((((((r1.1.1.1.1.1, r1.1.1.1.1.2), (r1.1.1.1.2.1, r1.1.1.1.2.2)), ()), ((r1.1.2.1.1, ()), ())), ())))

noncomputable def spec_DifferenceOn (n : Nat) (a0 : List ((ByteArray) × ((Int) × ((((Int) × (Int)) × ((Int) × (Int))) × (((Int) × (Int)) × ((Int) × (Int))))))) (a1 : Int) (a2 : Int) (a3 : Int) : Option ((((((Int) × (Int)) × ((Int) × (Int))) × (Unit)) × (((Int) × (Unit)) × (Unit))) × (Unit)) := spec_DifferenceOn_t n a0 a1 a2 a3

noncomputable def laws_FnExactDifferenceOn_t (n : Nat) (a0 : List ((ByteArray) × ((Int) × ((((Int) × (Int)) × ((Int) × (Int))) × (((Int) × (Int)) × ((Int) × (Int))))))) (a1 : Int) (a2 : Int) (a3 : Int) : Option ((((Bool) × (Unit)) × (Unit)) × (Unit)) :=
  (laws_szStandardS n a0 1048576).bind fun r0 =>
  cond (decide (r0.1.1.1 < 0))
  (some ((((true, ()), ()), ())))
  ((laws_toStandardS n a0).bind fun r1 =>
    (spec_DifferenceOn n r1.1.1.1 a1 a2 a3).bind fun r2 =>
    (laws_toStandardS n a0).bind fun r3 =>
    (impl_DifferenceOn n r3.1.1.1 a1 a2 a3).bind fun r4 =>
    (laws_eqSpan n (((r4.1.1.1.1.1, r4.1.1.1.1.2), (r4.1.1.1.2.1, r4.1.1.1.2.2))) (((r2.1.1.1.1.1, r2.1.1.1.1.2), (r2.1.1.1.2.1, r2.1.1.1.2.2)))).bind fun r5 =>
    cond (!r5.1.1.1)
    (some ((((false, ()), ()), ())))
    (cond ((r4.1.2.1.1 != r2.1.2.1.1))
      (some ((((false, ()), ()), ())))
      ((laws_toStandardS n a0).bind fun r6 =>
        (laws_eqStandardS n r3.1.1.1 r6.1.1.1).bind fun r7 =>
        cond (!r7.1.1.1)
        (some ((((false, ()), ()), ())))
        (some ((((true, ()), ()), ()))))))

noncomputable def laws_FnExactDifferenceOn (n : Nat) (a0 : List ((ByteArray) × ((Int) × ((((Int) × (Int)) × ((Int) × (Int))) × (((Int) × (Int)) × ((Int) × (Int))))))) (a1 : Int) (a2 : Int) (a3 : Int) : Option ((((Bool) × (Unit)) × (Unit)) × (Unit)) := laws_FnExactDifferenceOn_t n a0 a1 a2 a3

noncomputable def impl_calc_one_t (n : Nat) (a1 : (Int) × (Int)) (b0 : Bool) : Option (((((Int) × (Int)) × (Unit)) × (((Int) × (Unit)) × (Unit))) × ((Bool) × (Unit))) :=
  cond b0
  (some (((((0, 0), ()), ((3, ()), ())), (b0, ()))))
  (some (((((a1.1, a1.2), ()), ((0, ()), ())), (b0, ()))))

noncomputable def impl_calc_one (n : Nat) (a1 : (Int) × (Int)) (b0 : Bool) : Option (((((Int) × (Int)) × (Unit)) × (((Int) × (Unit)) × (Unit))) × ((Bool) × (Unit))) := impl_calc_one_t n a1 b0

noncomputable def impl_AddFracs_t (n : Nat) (a0 : (Int) × (Int)) (a1 : (Int) × (Int)) : Option (((((Int) × (Int)) × (Unit)) × (((Int) × (Unit)) × (Unit))) × (Unit)) :=
  (impl_areValid n (((a0.1, a0.2) :: ((a1.1, a1.2) :: [])))).bind fun r0 =>
  cond (!r0.1.1.1)
  (some (((((0, 0), ()), ((1, ()), ())), ())))
  ((impl_calc_add n ((a0.1, a0.2)) ((a1.1, a1.2)) false).bind fun r1 =>
    (impl_calc_one n ((r1.1.1.1.1, r1.1.1.1.2)) r1.2.1).bind fun r2 =>
    some (((((r2.1.1.1.1, r2.1.1.1.2), ()), ((r2.1.2.1.1, ()), ())), ())))

noncomputable def impl_AddFracs (n : Nat) (a0 : (Int) × (Int)) (a1 : (Int) × (Int)) : Option (((((Int) × (Int)) × (Unit)) × (((Int) × (Unit)) × (Unit))) × (Unit)) := impl_AddFracs_t n a0 a1

noncomputable def impl_CompareFracs_t (n : Nat) (a0 : (Int) × (Int)) (a1 : (Int) × (Int)) : Option ((((Int) × (Unit)) × (((Int) × (Unit)) × (Unit))) × (Unit)) :=
  (impl_areValid n (((a0.1, a0.2) :: ((a1.1, a1.2) :: [])))).bind fun r0 =>
  cond (!r0.1.1.1)
  (some ((((0, ()), ((1, ()), ())), ())))
  ((impl_compare n ((a0.1, a0.2)) ((a1.1, a1.2))).bind fun r1 =>
    some ((((r1.1.1.1, ()), ((0, ()), ())), ())))

noncomputable def impl_CompareFracs (n : Nat) (a0 : (Int) × (Int)) (a1 : (Int) × (Int)) : Option ((((Int) × (Unit)) × (((Int) × (Unit)) × (Unit))) × (Unit)) := impl_CompareFracs_t n a0 a1

noncomputable def impl_calc_div_t (n : Nat) (a1 : (Int) × (Int)) (a2 : (Int) × (Int)) (b0 : Bool) : Option (((((Int) × (Int)) × (Unit)) × (Unit)) × ((Bool) × (Unit))) :=
  cond ((a2.1 == 0))
  ((impl_zero n).bind fun r0 =>
    some (((((r0.1.1.1.1, r0.1.1.1.2), ()), ()), (true, ()))))
  ((impl_calc_told n ((IntKind.wrap .i64 (a1.1 * a2.2))) ((IntKind.wrap .i64 (a1.2 * a2.1))) b0).bind fun r1 =>
    some (((((r1.1.1.1.1, r1.1.1.1.2), ()), ()), (r1.2.1, ()))))

noncomputable def impl_calc_div (n : Nat) (a1 : (Int) × (Int)) (a2 : (Int) × (Int)) (b0 : Bool) : Option (((((Int) × (Int)) × (Unit)) × (Unit)) × ((Bool) × (Unit))) := impl_calc_div_t n a1 a2 b0

noncomputable def impl_calc_sum_t3 (n : Nat) (g3 : Int → (List ((Int) × (Int))) → Int → Bool → Int → Int → Int → Int → Option (((((Int) × (Int)) × (Unit)) × (Unit)) × ((Bool) × (Unit)))) (v11 : Int) (v9 : List ((Int) × (Int))) (v10 : Int) (b0 : Bool) (b1_0 : Int) (b1_1 : Int) (b2_0 : Int) (b2_1 : Int) : Option (((((Int) × (Int)) × (Unit)) × (Unit)) × ((Bool) × (Unit))) :=
  cond (decide (v11 < v10))
  (cond ((decide (0 ≤ v11) && decide (v11 < ((v9.length : Nat) : Int))))
    ((impl_calc_add n ((b1_0, b1_1)) (((v9.getD (Int.toNat v11) (0, 0)).1, (v9.getD (Int.toNat v11) (0, 0)).2)) b0).bind fun r1 =>
      g3 ((IntKind.wrap .i64 (v11 + 1))) v9 v10 r1.2.1 r1.1.1.1.1 r1.1.1.1.2 b2_0 b2_1)
    (none))
  (some (((((b1_0, b1_1), ()), ()), (b0, ()))))

noncomputable def impl_calc_sum_l3 (n : Nat) : Nat → Int → (List ((Int) × (Int))) → Int → Bool → Int → Int → Int → Int → Option (((((Int) × (Int)) × (Unit)) × (Unit)) × ((Bool) × (Unit)))
  | 0, _, _, _, _, _, _, _, _ => none
  | k + 1, v11, v9, v10, b0, b1_0, b1_1, b2_0, b2_1 => impl_calc_sum_t3 n (impl_calc_sum_l3 n k) v11 v9 v10 b0 b1_0 b1_1 b2_0 b2_1

noncomputable def impl_calc_sum_t (n : Nat) (h3 : Nat → Int → (List ((Int) × (Int))) → Int → Bool → Int → Int → Int → Int → Option (((((Int) × (Int)) × (Unit)) × (Unit)) × ((Bool) × (Unit)))) (a1 : List ((Int) × (Int))) (b0 : Bool) : Option (((((Int) × (Int)) × (Unit)) × (Unit)) × ((Bool) × (Unit))) :=
  (impl_zero n).bind fun r0 =>
  h3 n 0 a1 (((a1.length : Nat) : Int)) b0 r0.1.1.1.1 r0.1.1.1.2 0 0

noncomputable def impl_calc_sum (n : Nat) (a1 : List ((Int) × (Int))) (b0 : Bool) : Option (((((Int) × (Int)) × (Unit)) × (Unit)) × ((Bool) × (Unit))) := impl_calc_sum_t n (impl_calc_sum_l3 n) a1 b0

noncomputable def impl_isAngle_t (n : Nat) (a0 : Int) : Option ((((Bool) × (Unit)) × (Unit)) × (Unit)) :=
  (impl_within n a0 0 1295999).bind fun r0 =>
  some ((((r0.1.1.1, ()), ()), ()))

noncomputable def impl_isAngle (n : Nat) (a0 : Int) : Option ((((Bool) × (Unit)) × (Unit)) × (Unit)) := impl_isAngle_t n a0

noncomputable def impl_wrap_t (n : Nat) (a0 : Int) : Option ((((Int) × (Unit)) × (Unit)) × (Unit)) :=
  some (((((Int.tmod (IntKind.wrap .i64 ((Int.tmod a0 1296000) + 1296000)) 1296000), ()), ()), ()))

noncomputable def impl_wrap (n : Nat) (a0 : Int) : Option ((((Int) × (Unit)) × (Unit)) × (Unit)) := impl_wrap_t n a0

noncomputable def impl_turnFrom_t (n : Nat) (a0 : Int) (a1 : Int) : Option ((((Int) × (Unit)) × (Unit)) × (Unit)) :=
  (impl_wrap n ((IntKind.wrap .i64 (a1 - a0)))).bind fun r0 =>
  cond (decide (r0.1.1.1 > 648000))
  (some (((((IntKind.wrap .i64 (r0.1.1.1 - 1296000)), ()), ()), ())))
  (some ((((r0.1.1.1, ()), ()), ())))

noncomputable def impl_turnFrom (n : Nat) (a0 : Int) (a1 : Int) : Option ((((Int) × (Unit)) × (Unit)) × (Unit)) := impl_turnFrom_t n a0 a1

noncomputable def spec_l01Div_t (n : Nat) (a0 : (Int) × (Int)) (a1 : (Int) × (Int)) : Option (((((Int) × (Int)) × (Unit)) × (((Int) × (Unit)) × (Unit))) × (Unit)) :=
  (spec_l01Reduced n ((IntKind.wrap .i64 (a0.1 * a1.2))) ((IntKind.wrap .i64 (a0.2 * a1.1)))).bind fun r0 =>
  some (((((r0.1.1.1.1, r0.1.1.1.2), ()), ((r0.1.2.1.1, ()), ())), ()))

noncomputable def spec_l01Div (n : Nat) (a0 : (Int) × (Int)) (a1 : (Int) × (Int)) : Option (((((Int) × (Int)) × (Unit)) × (((Int) × (Unit)) × (Unit))) × (Unit)) := spec_l01Div_t n a0 a1

noncomputable def spec_l01Sum_t3 (n : Nat) (g3 : Int → (List ((Int) × (Int))) → Int → Int → Int → Int → Option (((((Int) × (Int)) × (Unit)) × (((Int) × (Unit)) × (Unit))) × (Unit))) (v5 : Int) (v0 : List ((Int) × (Int))) (b0_0 : Int) (b0_1 : Int) (b1_0 : Int) (b1_1 : Int) : Option (((((Int) × (Int)) × (Unit)) × (((Int) × (Unit)) × (Unit))) × (Unit)) :=
  cond (decide (v5 < ((v0.length : Nat) : Int)))
  (cond ((decide (0 ≤ v5) && decide (v5 < ((v0.length : Nat) : Int))))
    ((spec_l01Add n ((b1_0, b1_1)) (((v0.getD (Int.toNat v5) (0, 0)).1, (v0.getD (Int.toNat v5) (0, 0)).2))).bind fun r1 =>
      cond ((r1.1.2.1.1 != 0))
      (some (((((0, 0), ()), ((r1.1.2.1.1, ()), ())), ())))
      (g3 ((IntKind.wrap .i64 (v5 + 1))) v0 b0_0 b0_1 r1.1.1.1.1 r1.1.1.1.2))
    (none))
  (some (((((b1_0, b1_1), ()), ((0, ()), ())), ())))

noncomputable def spec_l01Sum_l3 (n : Nat) : Nat → Int → (List ((Int) × (Int))) → Int → Int → Int → Int → Option (((((Int) × (Int)) × (Unit)) × (((Int) × (Unit)) × (Unit))) × (Unit))
  | 0, _, _, _, _, _, _ => none
  | k + 1, v5, v0, b0_0, b0_1, b1_0, b1_1 => spec_l01Sum_t3 n (spec_l01Sum_l3 n k) v5 v0 b0_0 b0_1 b1_0 b1_1

noncomputable def spec_l01Sum_t (n : Nat) (h3 : Nat → Int → (List ((Int) × (Int))) → Int → Int → Int → Int → Option (((((Int) × (Int)) × (Unit)) × (((Int) × (Unit)) × (Unit))) × (Unit))) (a0 : List ((Int) × (Int))) : Option (((((Int) × (Int)) × (Unit)) × (((Int) × (Unit)) × (Unit))) × (Unit)) :=
  (spec_l01Whole n 0).bind fun r0 =>
  h3 n 0 a0 0 0 r0.1.1.1.1 r0.1.1.1.2

noncomputable def spec_l01Sum (n : Nat) (a0 : List ((Int) × (Int))) : Option (((((Int) × (Int)) × (Unit)) × (((Int) × (Unit)) × (Unit))) × (Unit)) := spec_l01Sum_t n (spec_l01Sum_l3 n) a0

noncomputable def spec_l03Angle_t (n : Nat) (a0 : Int) : Option ((((Bool) × (Unit)) × (Unit)) × (Unit)) :=
  (spec_l00In n a0 0 1295999).bind fun r0 =>
  some ((((r0.1.1.1, ()), ()), ()))

noncomputable def spec_l03Angle (n : Nat) (a0 : Int) : Option ((((Bool) × (Unit)) × (Unit)) × (Unit)) := spec_l03Angle_t n a0

noncomputable def spec_l03Wrap_t (n : Nat) (a0 : Int) : Option ((((Int) × (Unit)) × (Unit)) × (Unit)) :=
  cond (decide ((Int.tmod a0 1296000) < 0))
  (some (((((IntKind.wrap .i64 ((Int.tmod a0 1296000) + 1296000)), ()), ()), ())))
  (some (((((Int.tmod a0 1296000), ()), ()), ())))

noncomputable def spec_l03Wrap (n : Nat) (a0 : Int) : Option ((((Int) × (Unit)) × (Unit)) × (Unit)) := spec_l03Wrap_t n a0

noncomputable def spec_l03Turn_t (n : Nat) (a0 : Int) (a1 : Int) : Option ((((Int) × (Unit)) × (Unit)) × (Unit)) :=
  (spec_l03Wrap n ((IntKind.wrap .i64 (a1 - a0)))).bind fun r0 =>
  cond (decide (r0.1.1.1 > 648000))
  (some (((((IntKind.wrap .i64 (r0.1.1.1 - 1296000)), ()), ()), ())))
  (some ((((r0.1.1.1, ()), ()), ())))

noncomputable def spec_l03Turn (n : Nat) (a0 : Int) (a1 : Int) : Option ((((Int) × (Unit)) × (Unit)) × (Unit)) := spec_l03Turn_t n a0 a1

end Go.Abs
