import Derived.Test.YtpamckmeeamjjaaGreatDoorLib
namespace Go.Abs
set_option linter.unusedVariables false

noncomputable def impl_gcd_t1 (n : Nat) (g1 : Int → Int → Option ((((Int) × (Unit)) × (Unit)) × (Unit))) (v1 : Int) (v0 : Int) : Option ((((Int) × (Unit)) × (Unit)) × (Unit)) :=
  cond ((v1 != 0))
  (cond ((v1 != 0))
    (g1 ((Int.tmod v0 v1)) v1)
    (none))
  (some (((((if v0 < (IntKind.wrap .i64 (0 - v0)) then (IntKind.wrap .i64 (0 - v0)) else v0), ()), ()), ())))

noncomputable def impl_gcd_l1 (n : Nat) : Nat → Int → Int → Option ((((Int) × (Unit)) × (Unit)) × (Unit))
  | 0, _, _ => none
  | k + 1, v1, v0 => impl_gcd_t1 n (impl_gcd_l1 n k) v1 v0

noncomputable def impl_gcd_t (n : Nat) (h1 : Nat → Int → Int → Option ((((Int) × (Unit)) × (Unit)) × (Unit))) (a0 : Int) (a1 : Int) : Option ((((Int) × (Unit)) × (Unit)) × (Unit)) :=
  h1 n a1 a0

noncomputable def impl_gcd (n : Nat) (a0 : Int) (a1 : Int) : Option ((((Int) × (Unit)) × (Unit)) × (Unit)) := impl_gcd_t n (impl_gcd_l1 n) a0 a1

noncomputable def impl_within_t (n : Nat) (a0 : Int) (a1 : Int) (a2 : Int) : Option ((((Bool) × (Unit)) × (Unit)) × (Unit)) :=
  cond (decide (a1 ≤ a0))
  (some ((((decide (a0 ≤ a2), ()), ()), ())))
  (some ((((false, ()), ()), ())))

noncomputable def impl_within (n : Nat) (a0 : Int) (a1 : Int) (a2 : Int) : Option ((((Bool) × (Unit)) × (Unit)) × (Unit)) := impl_within_t n a0 a1 a2

noncomputable def impl_ValidFrac_t (n : Nat) (a0 : (Int) × (Int)) : Option ((((Bool) × (Unit)) × (Unit)) × (Unit)) :=
  (impl_within n a0.2 1 1000000000).bind fun r0 =>
  cond r0.1.1.1
  ((impl_within n a0.1 (-1000000000) 1000000000).bind fun r1 =>
    cond r1.1.1.1
    ((impl_gcd n a0.1 a0.2).bind fun r2 =>
      some (((((r2.1.1.1 == 1), ()), ()), ())))
    (some ((((false, ()), ()), ()))))
  (some ((((false, ()), ()), ())))

noncomputable def impl_ValidFrac (n : Nat) (a0 : (Int) × (Int)) : Option ((((Bool) × (Unit)) × (Unit)) × (Unit)) := impl_ValidFrac_t n a0

noncomputable def impl_areValid_1_t (n : Nat) (a0 : (Int) × (Int)) : Option ((((Bool) × (Unit)) × (Unit)) × (Unit)) :=
  (impl_ValidFrac n ((a0.1, a0.2))).bind fun r0 =>
  some (((((!r0.1.1.1), ()), ()), ()))

noncomputable def impl_areValid_1 (n : Nat) (a0 : (Int) × (Int)) : Option ((((Bool) × (Unit)) × (Unit)) × (Unit)) := impl_areValid_1_t n a0

noncomputable def slices_IndexFunc_impl_Frac_impl_Frac_at_impl_areValid_1_t2 (n : Nat) (g2 : Int → (List ((Int) × (Int))) → Int → Option ((((Int) × (Unit)) × (Unit)) × (Unit))) (v8 : Int) (v0 : List ((Int) × (Int))) (v7 : Int) : Option ((((Int) × (Unit)) × (Unit)) × (Unit)) :=
  cond (decide (v8 < v7))
  (cond ((decide (0 ≤ v8) && decide (v8 < ((v0.length : Nat) : Int))))
    ((impl_areValid_1 n (((v0.getD (Int.toNat v8) (0, 0)).1, (v0.getD (Int.toNat v8) (0, 0)).2))).bind fun r0 =>
      cond r0.1.1.1
      (some ((((v8, ()), ()), ())))
      (g2 ((IntKind.wrap .i64 (v8 + 1))) v0 v7))
    (none))
  (some (((((-1), ()), ()), ())))

noncomputable def slices_IndexFunc_impl_Frac_impl_Frac_at_impl_areValid_1_l2 (n : Nat) : Nat → Int → (List ((Int) × (Int))) → Int → Option ((((Int) × (Unit)) × (Unit)) × (Unit))
  | 0, _, _, _ => none
  | k + 1, v8, v0, v7 => slices_IndexFunc_impl_Frac_impl_Frac_at_impl_areValid_1_t2 n (slices_IndexFunc_impl_Frac_impl_Frac_at_impl_areValid_1_l2 n k) v8 v0 v7

noncomputable def slices_IndexFunc_impl_Frac_impl_Frac_at_impl_areValid_1_t (n : Nat) (h2 : Nat → Int → (List ((Int) × (Int))) → Int → Option ((((Int) × (Unit)) × (Unit)) × (Unit))) (a0 : List ((Int) × (Int))) : Option ((((Int) × (Unit)) × (Unit)) × (Unit)) :=
  h2 n 0 a0 (((a0.length : Nat) : Int))

noncomputable def slices_IndexFunc_impl_Frac_impl_Frac_at_impl_areValid_1 (n : Nat) (a0 : List ((Int) × (Int))) : Option ((((Int) × (Unit)) × (Unit)) × (Unit)) := slices_IndexFunc_impl_Frac_impl_Frac_at_impl_areValid_1_t n (slices_IndexFunc_impl_Frac_impl_Frac_at_impl_areValid_1_l2 n) a0

noncomputable def slices_ContainsFunc_impl_Frac_impl_Frac_at_impl_areValid_1_t (n : Nat) (a0 : List ((Int) × (Int))) : Option ((((Bool) × (Unit)) × (Unit)) × (Unit)) :=
  (slices_IndexFunc_impl_Frac_impl_Frac_at_impl_areValid_1 n a0).bind fun r0 =>
  some ((((decide (r0.1.1.1 ≥ 0), ()), ()), ()))

noncomputable def slices_ContainsFunc_impl_Frac_impl_Frac_at_impl_areValid_1 (n : Nat) (a0 : List ((Int) × (Int))) : Option ((((Bool) × (Unit)) × (Unit)) × (Unit)) := slices_ContainsFunc_impl_Frac_impl_Frac_at_impl_areValid_1_t n a0

noncomputable def impl_areValid_t (n : Nat) (a0 : List ((Int) × (Int))) : Option ((((Bool) × (Unit)) × (Unit)) × (Unit)) :=
  (slices_ContainsFunc_impl_Frac_impl_Frac_at_impl_areValid_1 n a0).bind fun r0 =>
  some (((((!r0.1.1.1), ()), ()), ()))

noncomputable def impl_areValid (n : Nat) (a0 : List ((Int) × (Int))) : Option ((((Bool) × (Unit)) × (Unit)) × (Unit)) := impl_areValid_t n a0

noncomputable def impl_fracOf_t (n : Nat) (a0 : Int) (a1 : Int) : Option (((((Int) × (Int)) × (Unit)) × (((Bool) × (Unit)) × (Unit))) × (Unit)) :=
  cond (decide (a1 < 0))
  ((impl_gcd n ((IntKind.wrap .i64 (0 - a0))) ((IntKind.wrap .i64 (0 - a1)))).bind fun r0 =>
    cond ((r0.1.1.1 != 0))
    (cond ((r0.1.1.1 != 0))
      ((impl_ValidFrac n (((IntKind.wrap .i64 (Int.tdiv (IntKind.wrap .i64 (0 - a0)) r0.1.1.1)), (IntKind.wrap .i64 (Int.tdiv (IntKind.wrap .i64 (0 - a1)) r0.1.1.1))))).bind fun r1 =>
        cond (!r1.1.1.1)
        (some (((((0, 0), ()), ((false, ()), ())), ())))
        (some ((((((IntKind.wrap .i64 (Int.tdiv (IntKind.wrap .i64 (0 - a0)) r0.1.1.1)), (IntKind.wrap .i64 (Int.tdiv (IntKind.wrap .i64 (0 - a1)) r0.1.1.1))), ()), ((true, ()), ())), ()))))
      (none))
    (none))
  ((impl_gcd n a0 a1).bind fun r2 =>
    cond ((r2.1.1.1 != 0))
    (cond ((r2.1.1.1 != 0))
      ((impl_ValidFrac n (((IntKind.wrap .i64 (Int.tdiv a0 r2.1.1.1)), (IntKind.wrap .i64 (Int.tdiv a1 r2.1.1.1))))).bind fun r3 =>
        cond (!r3.1.1.1)
        (some (((((0, 0), ()), ((false, ()), ())), ())))
        (some ((((((IntKind.wrap .i64 (Int.tdiv a0 r2.1.1.1)), (IntKind.wrap .i64 (Int.tdiv a1 r2.1.1.1))), ()), ((true, ()), ())), ()))))
      (none))
    (none))

noncomputable def impl_fracOf (n : Nat) (a0 : Int) (a1 : Int) : Option (((((Int) × (Int)) × (Unit)) × (((Bool) × (Unit)) × (Unit))) × (Unit)) := impl_fracOf_t n a0 a1

noncomputable def impl_zero_t (n : Nat) : Option (((((Int) × (Int)) × (Unit)) × (Unit)) × (Unit)) :=
  some (((((0, 1), ()), ()), ()))

noncomputable def impl_zero (n : Nat) : Option (((((Int) × (Int)) × (Unit)) × (Unit)) × (Unit)) := impl_zero_t n

noncomputable def impl_calc_told_t (n : Nat) (a1 : Int) (a2 : Int) (b0 : Bool) : Option (((((Int) × (Int)) × (Unit)) × (Unit)) × ((Bool) × (Unit))) :=
  (impl_fracOf n a1 a2).bind fun r0 =>
  cond (!r0.1.2.1.1)
  ((impl_zero n).bind fun r1 =>
    some (((((r1.1.1.1.1, r1.1.1.1.2), ()), ()), (true, ()))))
  (some (((((r0.1.1.1.1, r0.1.1.1.2), ()), ()), (b0, ()))))

noncomputable def impl_calc_told (n : Nat) (a1 : Int) (a2 : Int) (b0 : Bool) : Option (((((Int) × (Int)) × (Unit)) × (Unit)) × ((Bool) × (Unit))) := impl_calc_told_t n a1 a2 b0

noncomputable def impl_calc_add_t (n : Nat) (a1 : (Int) × (Int)) (a2 : (Int) × (Int)) (b0 : Bool) : Option (((((Int) × (Int)) × (Unit)) × (Unit)) × ((Bool) × (Unit))) :=
  (impl_calc_told n ((IntKind.wrap .i64 ((IntKind.wrap .i64 (a1.1 * a2.2)) + (IntKind.wrap .i64 (a2.1 * a1.2))))) ((IntKind.wrap .i64 (a1.2 * a2.2))) b0).bind fun r0 =>
  some (((((r0.1.1.1.1, r0.1.1.1.2), ()), ()), (r0.2.1, ())))

noncomputable def impl_calc_add (n : Nat) (a1 : (Int) × (Int)) (a2 : (Int) × (Int)) (b0 : Bool) : Option (((((Int) × (Int)) × (Unit)) × (Unit)) × ((Bool) × (Unit))) := impl_calc_add_t n a1 a2 b0

noncomputable def impl_calc_one_t (n : Nat) (a1 : (Int) × (Int)) (b0 : Bool) : Option (((((Int) × (Int)) × (Unit)) × (((Int) × (Unit)) × (Unit))) × ((Bool) × (Unit))) :=
  cond b0
  (some (((((0, 0), ()), ((3, ()), ())), (b0, ()))))
  (some (((((a1.1, a1.2), ()), ((0, ()), ())), (b0, ()))))

noncomputable def impl_calc_one (n : Nat) (a1 : (Int) × (Int)) (b0 : Bool) : Option (((((Int) × (Int)) × (Unit)) × (((Int) × (Unit)) × (Unit))) × ((Bool) × (Unit))) := impl_calc_one_t n a1 b0

noncomputable def impl_AddFracs_t (n : Nat) (a0 : (Int) × (Int)) (a1 : (Int) × (Int)) : Option (((((Int) × (Int)) × (Unit)) × (((Int) × (Unit)) × (Unit))) × (Unit)) :=
  (impl_areValid n (((a0.1, a0.2) :: ((a1.1, a1.2) :: [])))).bind fun r0 =>
  cond (!r0.1.1.1)
  (some (((((0, 0), ()), ((1, ()), ())), ())))
  ((impl_calc_add n ((a0.1, a0.2)) ((a1.1, a1.2)) false).bind fun r1 =>
    (impl_calc_one n ((r1.1.1.1.1, r1.1.1.1.2)) r1.2.1).bind fun r2 =>
    some (((((r2.1.1.1.1, r2.1.1.1.2), ()), ((r2.1.2.1.1, ()), ())), ())))

noncomputable def impl_AddFracs (n : Nat) (a0 : (Int) × (Int)) (a1 : (Int) × (Int)) : Option (((((Int) × (Int)) × (Unit)) × (((Int) × (Unit)) × (Unit))) × (Unit)) := impl_AddFracs_t n a0 a1

noncomputable def impl_compare_t (n : Nat) (a0 : (Int) × (Int)) (a1 : (Int) × (Int)) : Option ((((Int) × (Unit)) × (Unit)) × (Unit)) :=
  cond (decide ((IntKind.wrap .i64 (a0.1 * a1.2)) < (IntKind.wrap .i64 (a1.1 * a0.2))))
  (some (((((-1), ()), ()), ())))
  (cond (decide ((IntKind.wrap .i64 (a0.1 * a1.2)) > (IntKind.wrap .i64 (a1.1 * a0.2))))
    (some ((((1, ()), ()), ())))
    (some ((((0, ()), ()), ()))))

noncomputable def impl_compare (n : Nat) (a0 : (Int) × (Int)) (a1 : (Int) × (Int)) : Option ((((Int) × (Unit)) × (Unit)) × (Unit)) := impl_compare_t n a0 a1

noncomputable def impl_CompareFracs_t (n : Nat) (a0 : (Int) × (Int)) (a1 : (Int) × (Int)) : Option ((((Int) × (Unit)) × (((Int) × (Unit)) × (Unit))) × (Unit)) :=
  (impl_areValid n (((a0.1, a0.2) :: ((a1.1, a1.2) :: [])))).bind fun r0 =>
  cond (!r0.1.1.1)
  (some ((((0, ()), ((1, ()), ())), ())))
  ((impl_compare n ((a0.1, a0.2)) ((a1.1, a1.2))).bind fun r1 =>
    some ((((r1.1.1.1, ()), ((0, ()), ())), ())))

noncomputable def impl_CompareFracs (n : Nat) (a0 : (Int) × (Int)) (a1 : (Int) × (Int)) : Option ((((Int) × (Unit)) × (((Int) × (Unit)) × (Unit))) × (Unit)) := impl_CompareFracs_t n a0 a1

noncomputable def impl_calc_div_t (n : Nat) (a1 : (Int) × (Int)) (a2 : (Int) × (Int)) (b0 : Bool) : Option (((((Int) × (Int)) × (Unit)) × (Unit)) × ((Bool) × (Unit))) :=
  cond ((a2.1 == 0))
  ((impl_zero n).bind fun r0 =>
    some (((((r0.1.1.1.1, r0.1.1.1.2), ()), ()), (true, ()))))
  ((impl_calc_told n ((IntKind.wrap .i64 (a1.1 * a2.2))) ((IntKind.wrap .i64 (a1.2 * a2.1))) b0).bind fun r1 =>
    some (((((r1.1.1.1.1, r1.1.1.1.2), ()), ()), (r1.2.1, ()))))

noncomputable def impl_calc_div (n : Nat) (a1 : (Int) × (Int)) (a2 : (Int) × (Int)) (b0 : Bool) : Option (((((Int) × (Int)) × (Unit)) × (Unit)) × ((Bool) × (Unit))) := impl_calc_div_t n a1 a2 b0

noncomputable def impl_DivFracs_t (n : Nat) (a0 : (Int) × (Int)) (a1 : (Int) × (Int)) : Option (((((Int) × (Int)) × (Unit)) × (((Int) × (Unit)) × (Unit))) × (Unit)) :=
  (impl_areValid n (((a0.1, a0.2) :: ((a1.1, a1.2) :: [])))).bind fun r0 =>
  cond (!r0.1.1.1)
  (some (((((0, 0), ()), ((1, ()), ())), ())))
  (cond ((a1.1 == 0))
    (some (((((0, 0), ()), ((4, ()), ())), ())))
    ((impl_calc_div n ((a0.1, a0.2)) ((a1.1, a1.2)) false).bind fun r1 =>
      (impl_calc_one n ((r1.1.1.1.1, r1.1.1.1.2)) r1.2.1).bind fun r2 =>
      some (((((r2.1.1.1.1, r2.1.1.1.2), ()), ((r2.1.2.1.1, ()), ())), ()))))

noncomputable def impl_DivFracs (n : Nat) (a0 : (Int) × (Int)) (a1 : (Int) × (Int)) : Option (((((Int) × (Int)) × (Unit)) × (((Int) × (Unit)) × (Unit))) × (Unit)) := impl_DivFracs_t n a0 a1

noncomputable def impl_floorDiv_t (n : Nat) (a0 : Int) (a1 : Int) : Option ((((Int) × (Unit)) × (Unit)) × (Unit)) :=
  cond ((a1 != 0))
  (cond ((a1 != 0))
    (cond (((Int.tmod a0 a1) != 0))
      (cond ((!(decide (a0 < 0) == decide (a1 < 0))))
        (some (((((IntKind.wrap .i64 ((IntKind.wrap .i64 (Int.tdiv a0 a1)) - 1)), ()), ()), ())))
        (some (((((IntKind.wrap .i64 (Int.tdiv a0 a1)), ()), ()), ()))))
      (some (((((IntKind.wrap .i64 (Int.tdiv a0 a1)), ()), ()), ()))))
    (none))
  (none)

noncomputable def impl_floorDiv (n : Nat) (a0 : Int) (a1 : Int) : Option ((((Int) × (Unit)) × (Unit)) × (Unit)) := impl_floorDiv_t n a0 a1

noncomputable def impl_FloorOf_t (n : Nat) (a0 : (Int) × (Int)) : Option ((((Int) × (Unit)) × (((Int) × (Unit)) × (Unit))) × (Unit)) :=
  (impl_ValidFrac n ((a0.1, a0.2))).bind fun r0 =>
  cond (!r0.1.1.1)
  (some ((((0, ()), ((1, ()), ())), ())))
  ((impl_floorDiv n a0.1 a0.2).bind fun r1 =>
    some ((((r1.1.1.1, ()), ((0, ()), ())), ())))

noncomputable def impl_FloorOf (n : Nat) (a0 : (Int) × (Int)) : Option ((((Int) × (Unit)) × (((Int) × (Unit)) × (Unit))) × (Unit)) := impl_FloorOf_t n a0

noncomputable def strconv_FormatInt (n : Nat) (a0 : Int) (a1 : Int) : Option ((((ByteArray) × (Unit)) × (Unit)) × (Unit)) :=
  cond ((decide (-9223372036854775808 ≤ a0) && decide (a0 ≤ 9223372036854775807)) && (a1 == 10)) (some ((((ByteArray.mk (Go.Lib.itoa a0).toArray, ()), ()), ()))) none

noncomputable def impl_dec_t (n : Nat) (a0 : Int) : Option ((((ByteArray) × (Unit)) × (Unit)) × (Unit)) :=
  (strconv_FormatInt n a0 10).bind fun r0 =>
  some ((((r0.1.1.1, ()), ()), ()))

noncomputable def impl_dec (n : Nat) (a0 : Int) : Option ((((ByteArray) × (Unit)) × (Unit)) × (Unit)) := impl_dec_t n a0

noncomputable def impl_FracText_t (n : Nat) (a0 : (Int) × (Int)) : Option ((((ByteArray) × (Unit)) × (Unit)) × (Unit)) :=
  (impl_ValidFrac n ((a0.1, a0.2))).bind fun r0 =>
  cond (!r0.1.1.1)
  (some (((((ByteArray.mk #[]), ()), ()), ())))
  (cond ((a0.2 == 1))
    ((impl_dec n a0.1).bind fun r1 =>
      some ((((r1.1.1.1, ()), ()), ())))
    ((impl_dec n a0.1).bind fun r2 =>
      cond ((roomStr r2.1.1.1 (ByteArray.mk #[47])))
      ((impl_dec n a0.2).bind fun r3 =>
        cond ((roomStr (r2.1.1.1 ++ (ByteArray.mk #[47])) r3.1.1.1))
        (some ((((((r2.1.1.1 ++ (ByteArray.mk #[47])) ++ r3.1.1.1), ()), ()), ())))
        (none))
      (none)))

noncomputable def impl_FracText (n : Nat) (a0 : (Int) × (Int)) : Option ((((ByteArray) × (Unit)) × (Unit)) × (Unit)) := impl_FracText_t n a0

noncomputable def impl_MakeFrac_t (n : Nat) (a0 : Int) (a1 : Int) : Option (((((Int) × (Int)) × (Unit)) × (((Int) × (Unit)) × (Unit))) × (Unit)) :=
  (impl_within n a0 (-1000000000000000000) 1000000000000000000).bind fun r0 =>
  cond (!r0.1.1.1)
  (some (((((0, 0), ()), ((2, ()), ())), ())))
  ((impl_within n a1 (-1000000000000000000) 1000000000000000000).bind fun r1 =>
    cond (!r1.1.1.1)
    (some (((((0, 0), ()), ((2, ()), ())), ())))
    (cond ((a1 == 0))
      (some (((((0, 0), ()), ((4, ()), ())), ())))
      ((impl_calc_told n a0 a1 false).bind fun r2 =>
        (impl_calc_one n ((r2.1.1.1.1, r2.1.1.1.2)) r2.2.1).bind fun r3 =>
        some (((((r3.1.1.1.1, r3.1.1.1.2), ()), ((r3.1.2.1.1, ()), ())), ())))))

noncomputable def impl_MakeFrac (n : Nat) (a0 : Int) (a1 : Int) : Option (((((Int) × (Int)) × (Unit)) × (((Int) × (Unit)) × (Unit))) × (Unit)) := impl_MakeFrac_t n a0 a1

noncomputable def impl_calc_sum_t3 (n : Nat) (g3 : Int → (List ((Int) × (Int))) → Int → Bool → Int → Int → Int → Int → Option (((((Int) × (Int)) × (Unit)) × (Unit)) × ((Bool) × (Unit)))) (v11 : Int) (v9 : List ((Int) × (Int))) (v10 : Int) (b0 : Bool) (b1_0 : Int) (b1_1 : Int) (b2_0 : Int) (b2_1 : Int) : Option (((((Int) × (Int)) × (Unit)) × (Unit)) × ((Bool) × (Unit))) :=
  cond (decide (v11 < v10))
  (cond ((decide (0 ≤ v11) && decide (v11 < ((v9.length : Nat) : Int))))
    ((impl_calc_add n ((b1_0, b1_1)) (((v9.getD (Int.toNat v11) (0, 0)).1, (v9.getD (Int.toNat v11) (0, 0)).2)) b0).bind fun r1 =>
      g3 ((IntKind.wrap .i64 (v11 + 1))) v9 v10 r1.2.1 r1.1.1.1.1 r1.1.1.1.2 b2_0 b2_1)
    (none))
  (some (((((b1_0, b1_1), ()), ()), (b0, ()))))

noncomputable def impl_calc_sum_l3 (n : Nat) : Nat → Int → (List ((Int) × (Int))) → Int → Bool → Int → Int → Int → Int → Option (((((Int) × (Int)) × (Unit)) × (Unit)) × ((Bool) × (Unit)))
  | 0, _, _, _, _, _, _, _, _ => none
  | k + 1, v11, v9, v10, b0, b1_0, b1_1, b2_0, b2_1 => impl_calc_sum_t3 n (impl_calc_sum_l3 n k) v11 v9 v10 b0 b1_0 b1_1 b2_0 b2_1

noncomputable def impl_calc_sum_t (n : Nat) (h3 : Nat → Int → (List ((Int) × (Int))) → Int → Bool → Int → Int → Int → Int → Option (((((Int) × (Int)) × (Unit)) × (Unit)) × ((Bool) × (Unit)))) (a1 : List ((Int) × (Int))) (b0 : Bool) : Option (((((Int) × (Int)) × (Unit)) × (Unit)) × ((Bool) × (Unit))) :=
  (impl_zero n).bind fun r0 =>
  h3 n 0 a1 (((a1.length : Nat) : Int)) b0 r0.1.1.1.1 r0.1.1.1.2 0 0

noncomputable def impl_calc_sum (n : Nat) (a1 : List ((Int) × (Int))) (b0 : Bool) : Option (((((Int) × (Int)) × (Unit)) × (Unit)) × ((Bool) × (Unit))) := impl_calc_sum_t n (impl_calc_sum_l3 n) a1 b0

noncomputable def impl_isSome_t (n : Nat) (a0 : List ((Int) × (Int))) : Option ((((Int) × (Unit)) × (Unit)) × (Unit)) :=
  (impl_areValid n a0).bind fun r0 =>
  cond (!r0.1.1.1)
  (some ((((1, ()), ()), ())))
  (cond ((((a0.length : Nat) : Int) == 0))
    (some ((((2, ()), ()), ())))
    (cond (decide (((a0.length : Nat) : Int) > 64))
      (some ((((2, ()), ()), ())))
      (some ((((0, ()), ()), ())))))

noncomputable def impl_isSome (n : Nat) (a0 : List ((Int) × (Int))) : Option ((((Int) × (Unit)) × (Unit)) × (Unit)) := impl_isSome_t n a0

noncomputable def impl_num_t (n : Nat) (a0 : Int) : Option (((((Int) × (Int)) × (Unit)) × (Unit)) × (Unit)) :=
  some (((((a0, 1), ()), ()), ()))

noncomputable def impl_num (n : Nat) (a0 : Int) : Option (((((Int) × (Int)) × (Unit)) × (Unit)) × (Unit)) := impl_num_t n a0

noncomputable def impl_MeanOf_t (n : Nat) (a0 : List ((Int) × (Int))) : Option (((((Int) × (Int)) × (Unit)) × (((Int) × (Unit)) × (Unit))) × (Unit)) :=
  (impl_isSome n a0).bind fun r0 =>
  cond ((r0.1.1.1 != 0))
  (some (((((0, 0), ()), ((r0.1.1.1, ()), ())), ())))
  ((impl_calc_sum n a0 false).bind fun r1 =>
    (impl_num n (((a0.length : Nat) : Int))).bind fun r2 =>
    (impl_calc_div n ((r1.1.1.1.1, r1.1.1.1.2)) ((r2.1.1.1.1, r2.1.1.1.2)) r1.2.1).bind fun r3 =>
    (impl_calc_one n ((r3.1.1.1.1, r3.1.1.1.2)) r3.2.1).bind fun r4 =>
    some (((((r4.1.1.1.1, r4.1.1.1.2), ()), ((r4.1.2.1.1, ()), ())), ())))

noncomputable def impl_MeanOf (n : Nat) (a0 : List ((Int) × (Int))) : Option (((((Int) × (Int)) × (Unit)) × (((Int) × (Unit)) × (Unit))) × (Unit)) := impl_MeanOf_t n a0

noncomputable def slices_Clone_impl_Frac_impl_Frac_t (n : Nat) (a0 : List ((Int) × (Int))) : Option ((((List ((Int) × (Int))) × (Unit)) × (Unit)) × (Unit)) :=
  cond ((emptyL a0))
  (eith
    (some (((([], ()), ()), ())))
    (cond (decide (((0 + a0.length) * 17) ≤ 70368744177664))
      (some ((((([] ++ a0), ()), ()), ())))
      (none)))
  (cond (decide (((0 + a0.length) * 17) ≤ 70368744177664))
    (some ((((([] ++ a0), ()), ()), ())))
    (none))

noncomputable def slices_Clone_impl_Frac_impl_Frac (n : Nat) (a0 : List ((Int) × (Int))) : Option ((((List ((Int) × (Int))) × (Unit)) × (Unit)) × (Unit)) := slices_Clone_impl_Frac_impl_Frac_t n a0

noncomputable def math_bits_Len64_t (n : Nat) (a0 : Int) : Option ((((Int) × (Unit)) × (Unit)) × (Unit)) :=
  cond (decide (a0 ≥ 4294967296))
  (cond (decide ((shrInt .u64 a0 32) ≥ 65536))
    (cond (decide ((shrInt .u64 (shrInt .u64 a0 32) 16) ≥ 256))
      (cond ((decide (0 ≤ (IntKind.wrap .u8 (shrInt .u64 (shrInt .u64 (shrInt .u64 a0 32) 16) 8))) && decide ((IntKind.wrap .u8 (shrInt .u64 (shrInt .u64 (shrInt .u64 a0 32) 16) 8)) < (((ByteArray.size (ByteArray.mk #[0, 1, 2, 2, 3, 3, 3, 3, 4, 4, 4, 4, 4, 4, 4, 4, 5, 5, 5, 5, 5, 5, 5, 5, 5, 5, 5, 5, 5, 5, 5, 5, 6, 6, 6, 6, 6, 6, 6, 6, 6, 6, 6, 6, 6, 6, 6, 6, 6, 6, 6, 6, 6, 6, 6, 6, 6, 6, 6, 6, 6, 6, 6, 6, 7, 7, 7, 7, 7, 7, 7, 7, 7, 7, 7, 7, 7, 7, 7, 7, 7, 7, 7, 7, 7, 7, 7, 7, 7, 7, 7, 7, 7, 7, 7, 7, 7, 7, 7, 7, 7, 7, 7, 7, 7, 7, 7, 7, 7, 7, 7, 7, 7, 7, 7, 7, 7, 7, 7, 7, 7, 7, 7, 7, 7, 7, 7, 7, 8, 8, 8, 8, 8, 8, 8, 8, 8, 8, 8, 8, 8, 8, 8, 8, 8, 8, 8, 8, 8, 8, 8, 8, 8, 8, 8, 8, 8, 8, 8, 8, 8, 8, 8, 8, 8, 8, 8, 8, 8, 8, 8, 8, 8, 8, 8, 8, 8, 8, 8, 8, 8, 8, 8, 8, 8, 8, 8, 8, 8, 8, 8, 8, 8, 8, 8, 8, 8, 8, 8, 8, 8, 8, 8, 8, 8, 8, 8, 8, 8, 8, 8, 8, 8, 8, 8, 8, 8, 8, 8, 8, 8, 8, 8, 8, 8, 8, 8, 8, 8, 8, 8, 8, 8, 8, 8, 8, 8, 8, 8, 8, 8, 8, 8, 8, 8, 8, 8, 8, 8, 8, 8, 8, 8, 8, 8, 8])) : Nat) : Int))))
        (some (((((IntKind.wrap .i64 ((IntKind.wrap .i64 ((IntKind.wrap .i64 (32 + 16)) + 8)) + (IntKind.wrap .i64 (byteAt (ByteArray.mk #[0, 1, 2, 2, 3, 3, 3, 3, 4, 4, 4, 4, 4, 4, 4, 4, 5, 5, 5, 5, 5, 5, 5, 5, 5, 5, 5, 5, 5, 5, 5, 5, 6, 6, 6, 6, 6, 6, 6, 6, 6, 6, 6, 6, 6, 6, 6, 6, 6, 6, 6, 6, 6, 6, 6, 6, 6, 6, 6, 6, 6, 6, 6, 6, 7, 7, 7, 7, 7, 7, 7, 7, 7, 7, 7, 7, 7, 7, 7, 7, 7, 7, 7, 7, 7, 7, 7, 7, 7, 7, 7, 7, 7, 7, 7, 7, 7, 7, 7, 7, 7, 7, 7, 7, 7, 7, 7, 7, 7, 7, 7, 7, 7, 7, 7, 7, 7, 7, 7, 7, 7, 7, 7, 7, 7, 7, 7, 7, 8, 8, 8, 8, 8, 8, 8, 8, 8, 8, 8, 8, 8, 8, 8, 8, 8, 8, 8, 8, 8, 8, 8, 8, 8, 8, 8, 8, 8, 8, 8, 8, 8, 8, 8, 8, 8, 8, 8, 8, 8, 8, 8, 8, 8, 8, 8, 8, 8, 8, 8, 8, 8, 8, 8, 8, 8, 8, 8, 8, 8, 8, 8, 8, 8, 8, 8, 8, 8, 8, 8, 8, 8, 8, 8, 8, 8, 8, 8, 8, 8, 8, 8, 8, 8, 8, 8, 8, 8, 8, 8, 8, 8, 8, 8, 8, 8, 8, 8, 8, 8, 8, 8, 8, 8, 8, 8, 8, 8, 8, 8, 8, 8, 8, 8, 8, 8, 8, 8, 8, 8, 8, 8, 8, 8, 8, 8, 8]) (IntKind.wrap .u8 (shrInt .u64 (shrInt .u64 (shrInt .u64 a0 32) 16) 8)))))), ()), ()), ())))
        (none))
      (cond ((decide (0 ≤ (IntKind.wrap .u8 (shrInt .u64 (shrInt .u64 a0 32) 16))) && decide ((IntKind.wrap .u8 (shrInt .u64 (shrInt .u64 a0 32) 16)) < (((ByteArray.size (ByteArray.mk #[0, 1, 2, 2, 3, 3, 3, 3, 4, 4, 4, 4, 4, 4, 4, 4, 5, 5, 5, 5, 5, 5, 5, 5, 5, 5, 5, 5, 5, 5, 5, 5, 6, 6, 6, 6, 6, 6, 6, 6, 6, 6, 6, 6, 6, 6, 6, 6, 6, 6, 6, 6, 6, 6, 6, 6, 6, 6, 6, 6, 6, 6, 6, 6, 7, 7, 7, 7, 7, 7, 7, 7, 7, 7, 7, 7, 7, 7, 7, 7, 7, 7, 7, 7, 7, 7, 7, 7, 7, 7, 7, 7, 7, 7, 7, 7, 7, 7, 7, 7, 7, 7, 7, 7, 7, 7, 7, 7, 7, 7, 7, 7, 7, 7, 7, 7, 7, 7, 7, 7, 7, 7, 7, 7, 7, 7, 7, 7, 8, 8, 8, 8, 8, 8, 8, 8, 8, 8, 8, 8, 8, 8, 8, 8, 8, 8, 8, 8, 8, 8, 8, 8, 8, 8, 8, 8, 8, 8, 8, 8, 8, 8, 8, 8, 8, 8, 8, 8, 8, 8, 8, 8, 8, 8, 8, 8, 8, 8, 8, 8, 8, 8, 8, 8, 8, 8, 8, 8, 8, 8, 8, 8, 8, 8, 8, 8, 8, 8, 8, 8, 8, 8, 8, 8, 8, 8, 8, 8, 8, 8, 8, 8, 8, 8, 8, 8, 8, 8, 8, 8, 8, 8, 8, 8, 8, 8, 8, 8, 8, 8, 8, 8, 8, 8, 8, 8, 8, 8, 8, 8, 8, 8, 8, 8, 8, 8, 8, 8, 8, 8, 8, 8, 8, 8, 8, 8])) : Nat) : Int))))
        (some (((((IntKind.wrap .i64 ((IntKind.wrap .i64 (32 + 16)) + (IntKind.wrap .i64 (byteAt (ByteArray.mk #[0, 1, 2, 2, 3, 3, 3, 3, 4, 4, 4, 4, 4, 4, 4, 4, 5, 5, 5, 5, 5, 5, 5, 5, 5, 5, 5, 5, 5, 5, 5, 5, 6, 6, 6, 6, 6, 6, 6, 6, 6, 6, 6, 6, 6, 6, 6, 6, 6, 6, 6, 6, 6, 6, 6, 6, 6, 6, 6, 6, 6, 6, 6, 6, 7, 7, 7, 7, 7, 7, 7, 7, 7, 7, 7, 7, 7, 7, 7, 7, 7, 7, 7, 7, 7, 7, 7, 7, 7, 7, 7, 7, 7, 7, 7, 7, 7, 7, 7, 7, 7, 7, 7, 7, 7, 7, 7, 7, 7, 7, 7, 7, 7, 7, 7, 7, 7, 7, 7, 7, 7, 7, 7, 7, 7, 7, 7, 7, 8, 8, 8, 8, 8, 8, 8, 8, 8, 8, 8, 8, 8, 8, 8, 8, 8, 8, 8, 8, 8, 8, 8, 8, 8, 8, 8, 8, 8, 8, 8, 8, 8, 8, 8, 8, 8, 8, 8, 8, 8, 8, 8, 8, 8, 8, 8, 8, 8, 8, 8, 8, 8, 8, 8, 8, 8, 8, 8, 8, 8, 8, 8, 8, 8, 8, 8, 8, 8, 8, 8, 8, 8, 8, 8, 8, 8, 8, 8, 8, 8, 8, 8, 8, 8, 8, 8, 8, 8, 8, 8, 8, 8, 8, 8, 8, 8, 8, 8, 8, 8, 8, 8, 8, 8, 8, 8, 8, 8, 8, 8, 8, 8, 8, 8, 8, 8, 8, 8, 8, 8, 8, 8, 8, 8, 8, 8, 8]) (IntKind.wrap .u8 (shrInt .u64 (shrInt .u64 a0 32) 16)))))), ()), ()), ())))
        (none)))
    (cond (decide ((shrInt .u64 a0 32) ≥ 256))
      (cond ((decide (0 ≤ (IntKind.wrap .u8 (shrInt .u64 (shrInt .u64 a0 32) 8))) && decide ((IntKind.wrap .u8 (shrInt .u64 (shrInt .u64 a0 32) 8)) < (((ByteArray.size (ByteArray.mk #[0, 1, 2, 2, 3, 3, 3, 3, 4, 4, 4, 4, 4, 4, 4, 4, 5, 5, 5, 5, 5, 5, 5, 5, 5, 5, 5, 5, 5, 5, 5, 5, 6, 6, 6, 6, 6, 6, 6, 6, 6, 6, 6, 6, 6, 6, 6, 6, 6, 6, 6, 6, 6, 6, 6, 6, 6, 6, 6, 6, 6, 6, 6, 6, 7, 7, 7, 7, 7, 7, 7, 7, 7, 7, 7, 7, 7, 7, 7, 7, 7, 7, 7, 7, 7, 7, 7, 7, 7, 7, 7, 7, 7, 7, 7, 7, 7, 7, 7, 7, 7, 7, 7, 7, 7, 7, 7, 7, 7, 7, 7, 7, 7, 7, 7, 7, 7, 7, 7, 7, 7, 7, 7, 7, 7, 7, 7, 7, 8, 8, 8, 8, 8, 8, 8, 8, 8, 8, 8, 8, 8, 8, 8, 8, 8, 8, 8, 8, 8, 8, 8, 8, 8, 8, 8, 8, 8, 8, 8, 8, 8, 8, 8, 8, 8, 8, 8, 8, 8, 8, 8, 8, 8, 8, 8, 8, 8, 8, 8, 8, 8, 8, 8, 8, 8, 8, 8, 8, 8, 8, 8, 8, 8, 8, 8, 8, 8, 8, 8, 8, 8, 8, 8, 8, 8, 8, 8, 8, 8, 8, 8, 8, 8, 8, 8, 8, 8, 8, 8, 8, 8, 8, 8, 8, 8, 8, 8, 8, 8, 8, 8, 8, 8, 8, 8, 8, 8, 8, 8, 8, 8, 8, 8, 8, 8, 8, 8, 8, 8, 8, 8, 8, 8, 8, 8, 8])) : Nat) : Int))))
        (some (((((IntKind.wrap .i64 ((IntKind.wrap .i64 (32 + 8)) + (IntKind.wrap .i64 (byteAt (ByteArray.mk #[0, 1, 2, 2, 3, 3, 3, 3, 4, 4, 4, 4, 4, 4, 4, 4, 5, 5, 5, 5, 5, 5, 5, 5, 5, 5, 5, 5, 5, 5, 5, 5, 6, 6, 6, 6, 6, 6, 6, 6, 6, 6, 6, 6, 6, 6, 6, 6, 6, 6, 6, 6, 6, 6, 6, 6, 6, 6, 6, 6, 6, 6, 6, 6, 7, 7, 7, 7, 7, 7, 7, 7, 7, 7, 7, 7, 7, 7, 7, 7, 7, 7, 7, 7, 7, 7, 7, 7, 7, 7, 7, 7, 7, 7, 7, 7, 7, 7, 7, 7, 7, 7, 7, 7, 7, 7, 7, 7, 7, 7, 7, 7, 7, 7, 7, 7, 7, 7, 7, 7, 7, 7, 7, 7, 7, 7, 7, 7, 8, 8, 8, 8, 8, 8, 8, 8, 8, 8, 8, 8, 8, 8, 8, 8, 8, 8, 8, 8, 8, 8, 8, 8, 8, 8, 8, 8, 8, 8, 8, 8, 8, 8, 8, 8, 8, 8, 8, 8, 8, 8, 8, 8, 8, 8, 8, 8, 8, 8, 8, 8, 8, 8, 8, 8, 8, 8, 8, 8, 8, 8, 8, 8, 8, 8, 8, 8, 8, 8, 8, 8, 8, 8, 8, 8, 8, 8, 8, 8, 8, 8, 8, 8, 8, 8, 8, 8, 8, 8, 8, 8, 8, 8, 8, 8, 8, 8, 8, 8, 8, 8, 8, 8, 8, 8, 8, 8, 8, 8, 8, 8, 8, 8, 8, 8, 8, 8, 8, 8, 8, 8, 8, 8, 8, 8, 8, 8]) (IntKind.wrap .u8 (shrInt .u64 (shrInt .u64 a0 32) 8)))))), ()), ()), ())))
        (none))
      (cond ((decide (0 ≤ (IntKind.wrap .u8 (shrInt .u64 a0 32))) && decide ((IntKind.wrap .u8 (shrInt .u64 a0 32)) < (((ByteArray.size (ByteArray.mk #[0, 1, 2, 2, 3, 3, 3, 3, 4, 4, 4, 4, 4, 4, 4, 4, 5, 5, 5, 5, 5, 5, 5, 5, 5, 5, 5, 5, 5, 5, 5, 5, 6, 6, 6, 6, 6, 6, 6, 6, 6, 6, 6, 6, 6, 6, 6, 6, 6, 6, 6, 6, 6, 6, 6, 6, 6, 6, 6, 6, 6, 6, 6, 6, 7, 7, 7, 7, 7, 7, 7, 7, 7, 7, 7, 7, 7, 7, 7, 7, 7, 7, 7, 7, 7, 7, 7, 7, 7, 7, 7, 7, 7, 7, 7, 7, 7, 7, 7, 7, 7, 7, 7, 7, 7, 7, 7, 7, 7, 7, 7, 7, 7, 7, 7, 7, 7, 7, 7, 7, 7, 7, 7, 7, 7, 7, 7, 7, 8, 8, 8, 8, 8, 8, 8, 8, 8, 8, 8, 8, 8, 8, 8, 8, 8, 8, 8, 8, 8, 8, 8, 8, 8, 8, 8, 8, 8, 8, 8, 8, 8, 8, 8, 8, 8, 8, 8, 8, 8, 8, 8, 8, 8, 8, 8, 8, 8, 8, 8, 8, 8, 8, 8, 8, 8, 8, 8, 8, 8, 8, 8, 8, 8, 8, 8, 8, 8, 8, 8, 8, 8, 8, 8, 8, 8, 8, 8, 8, 8, 8, 8, 8, 8, 8, 8, 8, 8, 8, 8, 8, 8, 8, 8, 8, 8, 8, 8, 8, 8, 8, 8, 8, 8, 8, 8, 8, 8, 8, 8, 8, 8, 8, 8, 8, 8, 8, 8, 8, 8, 8, 8, 8, 8, 8, 8, 8])) : Nat) : Int))))
        (some (((((IntKind.wrap .i64 (32 + (IntKind.wrap .i64 (byteAt (ByteArray.mk #[0, 1, 2, 2, 3, 3, 3, 3, 4, 4, 4, 4, 4, 4, 4, 4, 5, 5, 5, 5, 5, 5, 5, 5, 5, 5, 5, 5, 5, 5, 5, 5, 6, 6, 6, 6, 6, 6, 6, 6, 6, 6, 6, 6, 6, 6, 6, 6, 6, 6, 6, 6, 6, 6, 6, 6, 6, 6, 6, 6, 6, 6, 6, 6, 7, 7, 7, 7, 7, 7, 7, 7, 7, 7, 7, 7, 7, 7, 7, 7, 7, 7, 7, 7, 7, 7, 7, 7, 7, 7, 7, 7, 7, 7, 7, 7, 7, 7, 7, 7, 7, 7, 7, 7, 7, 7, 7, 7, 7, 7, 7, 7, 7, 7, 7, 7, 7, 7, 7, 7, 7, 7, 7, 7, 7, 7, 7, 7, 8, 8, 8, 8, 8, 8, 8, 8, 8, 8, 8, 8, 8, 8, 8, 8, 8, 8, 8, 8, 8, 8, 8, 8, 8, 8, 8, 8, 8, 8, 8, 8, 8, 8, 8, 8, 8, 8, 8, 8, 8, 8, 8, 8, 8, 8, 8, 8, 8, 8, 8, 8, 8, 8, 8, 8, 8, 8, 8, 8, 8, 8, 8, 8, 8, 8, 8, 8, 8, 8, 8, 8, 8, 8, 8, 8, 8, 8, 8, 8, 8, 8, 8, 8, 8, 8, 8, 8, 8, 8, 8, 8, 8, 8, 8, 8, 8, 8, 8, 8, 8, 8, 8, 8, 8, 8, 8, 8, 8, 8, 8, 8, 8, 8, 8, 8, 8, 8, 8, 8, 8, 8, 8, 8, 8, 8, 8, 8]) (IntKind.wrap .u8 (shrInt .u64 a0 32)))))), ()), ()), ())))
        (none))))
  (cond (decide (a0 ≥ 65536))
    (cond (decide ((shrInt .u64 a0 16) ≥ 256))
      (cond ((decide (0 ≤ (IntKind.wrap .u8 (shrInt .u64 (shrInt .u64 a0 16) 8))) && decide ((IntKind.wrap .u8 (shrInt .u64 (shrInt .u64 a0 16) 8)) < (((ByteArray.size (ByteArray.mk #[0, 1, 2, 2, 3, 3, 3, 3, 4, 4, 4, 4, 4, 4, 4, 4, 5, 5, 5, 5, 5, 5, 5, 5, 5, 5, 5, 5, 5, 5, 5, 5, 6, 6, 6, 6, 6, 6, 6, 6, 6, 6, 6, 6, 6, 6, 6, 6, 6, 6, 6, 6, 6, 6, 6, 6, 6, 6, 6, 6, 6, 6, 6, 6, 7, 7, 7, 7, 7, 7, 7, 7, 7, 7, 7, 7, 7, 7, 7, 7, 7, 7, 7, 7, 7, 7, 7, 7, 7, 7, 7, 7, 7, 7, 7, 7, 7, 7, 7, 7, 7, 7, 7, 7, 7, 7, 7, 7, 7, 7, 7, 7, 7, 7, 7, 7, 7, 7, 7, 7, 7, 7, 7, 7, 7, 7, 7, 7, 8, 8, 8, 8, 8, 8, 8, 8, 8, 8, 8, 8, 8, 8, 8, 8, 8, 8, 8, 8, 8, 8, 8, 8, 8, 8, 8, 8, 8, 8, 8, 8, 8, 8, 8, 8, 8, 8, 8, 8, 8, 8, 8, 8, 8, 8, 8, 8, 8, 8, 8, 8, 8, 8, 8, 8, 8, 8, 8, 8, 8, 8, 8, 8, 8, 8, 8, 8, 8, 8, 8, 8, 8, 8, 8, 8, 8, 8, 8, 8, 8, 8, 8, 8, 8, 8, 8, 8, 8, 8, 8, 8, 8, 8, 8, 8, 8, 8, 8, 8, 8, 8, 8, 8, 8, 8, 8, 8, 8, 8, 8, 8, 8, 8, 8, 8, 8, 8, 8, 8, 8, 8, 8, 8, 8, 8, 8, 8])) : Nat) : Int))))
        (some (((((IntKind.wrap .i64 ((IntKind.wrap .i64 ((IntKind.wrap .i64 (0 + 16)) + 8)) + (IntKind.wrap .i64 (byteAt (ByteArray.mk #[0, 1, 2, 2, 3, 3, 3, 3, 4, 4, 4, 4, 4, 4, 4, 4, 5, 5, 5, 5, 5, 5, 5, 5, 5, 5, 5, 5, 5, 5, 5, 5, 6, 6, 6, 6, 6, 6, 6, 6, 6, 6, 6, 6, 6, 6, 6, 6, 6, 6, 6, 6, 6, 6, 6, 6, 6, 6, 6, 6, 6, 6, 6, 6, 7, 7, 7, 7, 7, 7, 7, 7, 7, 7, 7, 7, 7, 7, 7, 7, 7, 7, 7, 7, 7, 7, 7, 7, 7, 7, 7, 7, 7, 7, 7, 7, 7, 7, 7, 7, 7, 7, 7, 7, 7, 7, 7, 7, 7, 7, 7, 7, 7, 7, 7, 7, 7, 7, 7, 7, 7, 7, 7, 7, 7, 7, 7, 7, 8, 8, 8, 8, 8, 8, 8, 8, 8, 8, 8, 8, 8, 8, 8, 8, 8, 8, 8, 8, 8, 8, 8, 8, 8, 8, 8, 8, 8, 8, 8, 8, 8, 8, 8, 8, 8, 8, 8, 8, 8, 8, 8, 8, 8, 8, 8, 8, 8, 8, 8, 8, 8, 8, 8, 8, 8, 8, 8, 8, 8, 8, 8, 8, 8, 8, 8, 8, 8, 8, 8, 8, 8, 8, 8, 8, 8, 8, 8, 8, 8, 8, 8, 8, 8, 8, 8, 8, 8, 8, 8, 8, 8, 8, 8, 8, 8, 8, 8, 8, 8, 8, 8, 8, 8, 8, 8, 8, 8, 8, 8, 8, 8, 8, 8, 8, 8, 8, 8, 8, 8, 8, 8, 8, 8, 8, 8, 8]) (IntKind.wrap .u8 (shrInt .u64 (shrInt .u64 a0 16) 8)))))), ()), ()), ())))
        (none))
      (cond ((decide (0 ≤ (IntKind.wrap .u8 (shrInt .u64 a0 16))) && decide ((IntKind.wrap .u8 (shrInt .u64 a0 16)) < (((ByteArray.size (ByteArray.mk #[0, 1, 2, 2, 3, 3, 3, 3, 4, 4, 4, 4, 4, 4, 4, 4, 5, 5, 5, 5, 5, 5, 5, 5, 5, 5, 5, 5, 5, 5, 5, 5, 6, 6, 6, 6, 6, 6, 6, 6, 6, 6, 6, 6, 6, 6, 6, 6, 6, 6, 6, 6, 6, 6, 6, 6, 6, 6, 6, 6, 6, 6, 6, 6, 7, 7, 7, 7, 7, 7, 7, 7, 7, 7, 7, 7, 7, 7, 7, 7, 7, 7, 7, 7, 7, 7, 7, 7, 7, 7, 7, 7, 7, 7, 7, 7, 7, 7, 7, 7, 7, 7, 7, 7, 7, 7, 7, 7, 7, 7, 7, 7, 7, 7, 7, 7, 7, 7, 7, 7, 7, 7, 7, 7, 7, 7, 7, 7, 8, 8, 8, 8, 8, 8, 8, 8, 8, 8, 8, 8, 8, 8, 8, 8, 8, 8, 8, 8, 8, 8, 8, 8, 8, 8, 8, 8, 8, 8, 8, 8, 8, 8, 8, 8, 8, 8, 8, 8, 8, 8, 8, 8, 8, 8, 8, 8, 8, 8, 8, 8, 8, 8, 8, 8, 8, 8, 8, 8, 8, 8, 8, 8, 8, 8, 8, 8, 8, 8, 8, 8, 8, 8, 8, 8, 8, 8, 8, 8, 8, 8, 8, 8, 8, 8, 8, 8, 8, 8, 8, 8, 8, 8, 8, 8, 8, 8, 8, 8, 8, 8, 8, 8, 8, 8, 8, 8, 8, 8, 8, 8, 8, 8, 8, 8, 8, 8, 8, 8, 8, 8, 8, 8, 8, 8, 8, 8])) : Nat) : Int))))
        (some (((((IntKind.wrap .i64 ((IntKind.wrap .i64 (0 + 16)) + (IntKind.wrap .i64 (byteAt (ByteArray.mk #[0, 1, 2, 2, 3, 3, 3, 3, 4, 4, 4, 4, 4, 4, 4, 4, 5, 5, 5, 5, 5, 5, 5, 5, 5, 5, 5, 5, 5, 5, 5, 5, 6, 6, 6, 6, 6, 6, 6, 6, 6, 6, 6, 6, 6, 6, 6, 6, 6, 6, 6, 6, 6, 6, 6, 6, 6, 6, 6, 6, 6, 6, 6, 6, 7, 7, 7, 7, 7, 7, 7, 7, 7, 7, 7, 7, 7, 7, 7, 7, 7, 7, 7, 7, 7, 7, 7, 7, 7, 7, 7, 7, 7, 7, 7, 7, 7, 7, 7, 7, 7, 7, 7, 7, 7, 7, 7, 7, 7, 7, 7, 7, 7, 7, 7, 7, 7, 7, 7, 7, 7, 7, 7, 7, 7, 7, 7, 7, 8, 8, 8, 8, 8, 8, 8, 8, 8, 8, 8, 8, 8, 8, 8, 8, 8, 8, 8, 8, 8, 8, 8, 8, 8, 8, 8, 8, 8, 8, 8, 8, 8, 8, 8, 8, 8, 8, 8, 8, 8, 8, 8, 8, 8, 8, 8, 8, 8, 8, 8, 8, 8, 8, 8, 8, 8, 8, 8, 8, 8, 8, 8, 8, 8, 8, 8, 8, 8, 8, 8, 8, 8, 8, 8, 8, 8, 8, 8, 8, 8, 8, 8, 8, 8, 8, 8, 8, 8, 8, 8, 8, 8, 8, 8, 8, 8, 8, 8, 8, 8, 8, 8, 8, 8, 8, 8, 8, 8, 8, 8, 8, 8, 8, 8, 8, 8, 8, 8, 8, 8, 8, 8, 8, 8, 8, 8, 8]) (IntKind.wrap .u8 (shrInt .u64 a0 16)))))), ()), ()), ())))
        (none)))
    (cond (decide (a0 ≥ 256))
      (cond ((decide (0 ≤ (IntKind.wrap .u8 (shrInt .u64 a0 8))) && decide ((IntKind.wrap .u8 (shrInt .u64 a0 8)) < (((ByteArray.size (ByteArray.mk #[0, 1, 2, 2, 3, 3, 3, 3, 4, 4, 4, 4, 4, 4, 4, 4, 5, 5, 5, 5, 5, 5, 5, 5, 5, 5, 5, 5, 5, 5, 5, 5, 6, 6, 6, 6, 6, 6, 6, 6, 6, 6, 6, 6, 6, 6, 6, 6, 6, 6, 6, 6, 6, 6, 6, 6, 6, 6, 6, 6, 6, 6, 6, 6, 7, 7, 7, 7, 7, 7, 7, 7, 7, 7, 7, 7, 7, 7, 7, 7, 7, 7, 7, 7, 7, 7, 7, 7, 7, 7, 7, 7, 7, 7, 7, 7, 7, 7, 7, 7, 7, 7, 7, 7, 7, 7, 7, 7, 7, 7, 7, 7, 7, 7, 7, 7, 7, 7, 7, 7, 7, 7, 7, 7, 7, 7, 7, 7, 8, 8, 8, 8, 8, 8, 8, 8, 8, 8, 8, 8, 8, 8, 8, 8, 8, 8, 8, 8, 8, 8, 8, 8, 8, 8, 8, 8, 8, 8, 8, 8, 8, 8, 8, 8, 8, 8, 8, 8, 8, 8, 8, 8, 8, 8, 8, 8, 8, 8, 8, 8, 8, 8, 8, 8, 8, 8, 8, 8, 8, 8, 8, 8, 8, 8, 8, 8, 8, 8, 8, 8, 8, 8, 8, 8, 8, 8, 8, 8, 8, 8, 8, 8, 8, 8, 8, 8, 8, 8, 8, 8, 8, 8, 8, 8, 8, 8, 8, 8, 8, 8, 8, 8, 8, 8, 8, 8, 8, 8, 8, 8, 8, 8, 8, 8, 8, 8, 8, 8, 8, 8, 8, 8, 8, 8, 8, 8])) : Nat) : Int))))
        (some (((((IntKind.wrap .i64 ((IntKind.wrap .i64 (0 + 8)) + (IntKind.wrap .i64 (byteAt (ByteArray.mk #[0, 1, 2, 2, 3, 3, 3, 3, 4, 4, 4, 4, 4, 4, 4, 4, 5, 5, 5, 5, 5, 5, 5, 5, 5, 5, 5, 5, 5, 5, 5, 5, 6, 6, 6, 6, 6, 6, 6, 6, 6, 6, 6, 6, 6, 6, 6, 6, 6, 6, 6, 6, 6, 6, 6, 6, 6, 6, 6, 6, 6, 6, 6, 6, 7, 7, 7, 7, 7, 7, 7, 7, 7, 7, 7, 7, 7, 7, 7, 7, 7, 7, 7, 7, 7, 7, 7, 7, 7, 7, 7, 7, 7, 7, 7, 7, 7, 7, 7, 7, 7, 7, 7, 7, 7, 7, 7, 7, 7, 7, 7, 7, 7, 7, 7, 7, 7, 7, 7, 7, 7, 7, 7, 7, 7, 7, 7, 7, 8, 8, 8, 8, 8, 8, 8, 8, 8, 8, 8, 8, 8, 8, 8, 8, 8, 8, 8, 8, 8, 8, 8, 8, 8, 8, 8, 8, 8, 8, 8, 8, 8, 8, 8, 8, 8, 8, 8, 8, 8, 8, 8, 8, 8, 8, 8, 8, 8, 8, 8, 8, 8, 8, 8, 8, 8, 8, 8, 8, 8, 8, 8, 8, 8, 8, 8, 8, 8, 8, 8, 8, 8, 8, 8, 8, 8, 8, 8, 8, 8, 8, 8, 8, 8, 8, 8, 8, 8, 8, 8, 8, 8, 8, 8, 8, 8, 8, 8, 8, 8, 8, 8, 8, 8, 8, 8, 8, 8, 8, 8, 8, 8, 8, 8, 8, 8, 8, 8, 8, 8, 8, 8, 8, 8, 8, 8, 8]) (IntKind.wrap .u8 (shrInt .u64 a0 8)))))), ()), ()), ())))
        (none))
      (cond ((decide (0 ≤ (IntKind.wrap .u8 a0)) && decide ((IntKind.wrap .u8 a0) < (((ByteArray.size (ByteArray.mk #[0, 1, 2, 2, 3, 3, 3, 3, 4, 4, 4, 4, 4, 4, 4, 4, 5, 5, 5, 5, 5, 5, 5, 5, 5, 5, 5, 5, 5, 5, 5, 5, 6, 6, 6, 6, 6, 6, 6, 6, 6, 6, 6, 6, 6, 6, 6, 6, 6, 6, 6, 6, 6, 6, 6, 6, 6, 6, 6, 6, 6, 6, 6, 6, 7, 7, 7, 7, 7, 7, 7, 7, 7, 7, 7, 7, 7, 7, 7, 7, 7, 7, 7, 7, 7, 7, 7, 7, 7, 7, 7, 7, 7, 7, 7, 7, 7, 7, 7, 7, 7, 7, 7, 7, 7, 7, 7, 7, 7, 7, 7, 7, 7, 7, 7, 7, 7, 7, 7, 7, 7, 7, 7, 7, 7, 7, 7, 7, 8, 8, 8, 8, 8, 8, 8, 8, 8, 8, 8, 8, 8, 8, 8, 8, 8, 8, 8, 8, 8, 8, 8, 8, 8, 8, 8, 8, 8, 8, 8, 8, 8, 8, 8, 8, 8, 8, 8, 8, 8, 8, 8, 8, 8, 8, 8, 8, 8, 8, 8, 8, 8, 8, 8, 8, 8, 8, 8, 8, 8, 8, 8, 8, 8, 8, 8, 8, 8, 8, 8, 8, 8, 8, 8, 8, 8, 8, 8, 8, 8, 8, 8, 8, 8, 8, 8, 8, 8, 8, 8, 8, 8, 8, 8, 8, 8, 8, 8, 8, 8, 8, 8, 8, 8, 8, 8, 8, 8, 8, 8, 8, 8, 8, 8, 8, 8, 8, 8, 8, 8, 8, 8, 8, 8, 8, 8, 8])) : Nat) : Int))))
        (some (((((IntKind.wrap .i64 (0 + (IntKind.wrap .i64 (byteAt (ByteArray.mk #[0, 1, 2, 2, 3, 3, 3, 3, 4, 4, 4, 4, 4, 4, 4, 4, 5, 5, 5, 5, 5, 5, 5, 5, 5, 5, 5, 5, 5, 5, 5, 5, 6, 6, 6, 6, 6, 6, 6, 6, 6, 6, 6, 6, 6, 6, 6, 6, 6, 6, 6, 6, 6, 6, 6, 6, 6, 6, 6, 6, 6, 6, 6, 6, 7, 7, 7, 7, 7, 7, 7, 7, 7, 7, 7, 7, 7, 7, 7, 7, 7, 7, 7, 7, 7, 7, 7, 7, 7, 7, 7, 7, 7, 7, 7, 7, 7, 7, 7, 7, 7, 7, 7, 7, 7, 7, 7, 7, 7, 7, 7, 7, 7, 7, 7, 7, 7, 7, 7, 7, 7, 7, 7, 7, 7, 7, 7, 7, 8, 8, 8, 8, 8, 8, 8, 8, 8, 8, 8, 8, 8, 8, 8, 8, 8, 8, 8, 8, 8, 8, 8, 8, 8, 8, 8, 8, 8, 8, 8, 8, 8, 8, 8, 8, 8, 8, 8, 8, 8, 8, 8, 8, 8, 8, 8, 8, 8, 8, 8, 8, 8, 8, 8, 8, 8, 8, 8, 8, 8, 8, 8, 8, 8, 8, 8, 8, 8, 8, 8, 8, 8, 8, 8, 8, 8, 8, 8, 8, 8, 8, 8, 8, 8, 8, 8, 8, 8, 8, 8, 8, 8, 8, 8, 8, 8, 8, 8, 8, 8, 8, 8, 8, 8, 8, 8, 8, 8, 8, 8, 8, 8, 8, 8, 8, 8, 8, 8, 8, 8, 8, 8, 8, 8, 8, 8, 8]) (IntKind.wrap .u8 a0))))), ()), ()), ())))
        (none))))

noncomputable def math_bits_Len64 (n : Nat) (a0 : Int) : Option ((((Int) × (Unit)) × (Unit)) × (Unit)) := math_bits_Len64_t n a0

noncomputable def math_bits_Len_t (n : Nat) (a0 : Int) : Option ((((Int) × (Unit)) × (Unit)) × (Unit)) :=
  (math_bits_Len64 n a0).bind fun r0 =>
  some ((((r0.1.1.1, ()), ()), ()))

noncomputable def math_bits_Len (n : Nat) (a0 : Int) : Option ((((Int) × (Unit)) × (Unit)) × (Unit)) := math_bits_Len_t n a0

noncomputable def impl_ascending_1_t (n : Nat) (a0 : (Int) × (Int)) (a1 : (Int) × (Int)) : Option ((((Int) × (Unit)) × (Unit)) × (Unit)) :=
  (impl_compare n ((a0.1, a0.2)) ((a1.1, a1.2))).bind fun r0 =>
  some ((((r0.1.1.1, ()), ()), ()))

noncomputable def impl_ascending_1 (n : Nat) (a0 : (Int) × (Int)) (a1 : (Int) × (Int)) : Option ((((Int) × (Unit)) × (Unit)) × (Unit)) := impl_ascending_1_t n a0 a1

noncomputable def slices_insertionSortCmpFunc_impl_Frac_at_impl_ascending_1_t4 (n : Nat) (g1 : Int → Int → Int → (List ((Int) × (Int))) → Option ((Unit) × ((List ((Int) × (Int))) × (Unit)))) (g4 : Int → Int → Int → Int → (List ((Int) × (Int))) → Option ((Unit) × ((List ((Int) × (Int))) × (Unit)))) (v9 : Int) (v1 : Int) (v2 : Int) (v8 : Int) (b0 : List ((Int) × (Int))) : Option ((Unit) × ((List ((Int) × (Int))) × (Unit))) :=
  cond (decide (v9 > v1))
  (cond ((decide (0 ≤ v9) && decide (v9 < ((b0.length : Nat) : Int))))
    (cond ((decide (0 ≤ (IntKind.wrap .i64 (v9 - 1))) && decide ((IntKind.wrap .i64 (v9 - 1)) < ((b0.length : Nat) : Int))))
      ((impl_ascending_1 n (((b0.getD (Int.toNat v9) (0, 0)).1, (b0.getD (Int.toNat v9) (0, 0)).2)) (((b0.getD (Int.toNat (IntKind.wrap .i64 (v9 - 1))) (0, 0)).1, (b0.getD (Int.toNat (IntKind.wrap .i64 (v9 - 1))) (0, 0)).2))).bind fun r0 =>
        cond (decide (r0.1.1.1 < 0))
        (cond ((decide (0 ≤ (IntKind.wrap .i64 (v9 - 1))) && decide ((IntKind.wrap .i64 (v9 - 1)) < ((b0.length : Nat) : Int))))
          (cond ((decide (0 ≤ v9) && decide (v9 < ((b0.length : Nat) : Int))))
            (cond ((decide (0 ≤ v9) && decide (v9 < ((b0.length : Nat) : Int))))
              (cond ((decide (0 ≤ (IntKind.wrap .i64 (v9 - 1))) && decide ((IntKind.wrap .i64 (v9 - 1)) < (((b0.set (Int.toNat v9) ((b0.getD (Int.toNat (IntKind.wrap .i64 (v9 - 1))) (0, 0)).1, (b0.getD (Int.toNat (IntKind.wrap .i64 (v9 - 1))) (0, 0)).2)).length : Nat) : Int))))
                (g4 ((IntKind.wrap .i64 (v9 - 1))) v1 v2 v8 (((b0.set (Int.toNat v9) ((b0.getD (Int.toNat (IntKind.wrap .i64 (v9 - 1))) (0, 0)).1, (b0.getD (Int.toNat (IntKind.wrap .i64 (v9 - 1))) (0, 0)).2)).set (Int.toNat (IntKind.wrap .i64 (v9 - 1))) ((b0.getD (Int.toNat v9) (0, 0)).1, (b0.getD (Int.toNat v9) (0, 0)).2))))
                (none))
              (none))
            (none))
          (none))
        (g1 ((IntKind.wrap .i64 (v8 + 1))) v1 v2 b0))
      (none))
    (none))
  (g1 ((IntKind.wrap .i64 (v8 + 1))) v1 v2 b0)

noncomputable def slices_insertionSortCmpFunc_impl_Frac_at_impl_ascending_1_l4 (n : Nat) (g1 : Int → Int → Int → (List ((Int) × (Int))) → Option ((Unit) × ((List ((Int) × (Int))) × (Unit)))) : Nat → Int → Int → Int → Int → (List ((Int) × (Int))) → Option ((Unit) × ((List ((Int) × (Int))) × (Unit)))
  | 0, _, _, _, _, _ => none
  | k + 1, v9, v1, v2, v8, b0 => slices_insertionSortCmpFunc_impl_Frac_at_impl_ascending_1_t4 n g1 (slices_insertionSortCmpFunc_impl_Frac_at_impl_ascending_1_l4 n g1 k) v9 v1 v2 v8 b0

noncomputable def slices_insertionSortCmpFunc_impl_Frac_at_impl_ascending_1_t1 (n : Nat) (h4 : Nat → Int → Int → Int → Int → (List ((Int) × (Int))) → Option ((Unit) × ((List ((Int) × (Int))) × (Unit)))) (g1 : Int → Int → Int → (List ((Int) × (Int))) → Option ((Unit) × ((List ((Int) × (Int))) × (Unit)))) (v8 : Int) (v1 : Int) (v2 : Int) (b0 : List ((Int) × (Int))) : Option ((Unit) × ((List ((Int) × (Int))) × (Unit))) :=
  cond (decide (v8 < v2))
  (h4 n v8 v1 v2 v8 b0)
  (some (((), (b0, ()))))

noncomputable def slices_insertionSortCmpFunc_impl_Frac_at_impl_ascending_1_l1 (n : Nat) : Nat → Int → Int → Int → (List ((Int) × (Int))) → Option ((Unit) × ((List ((Int) × (Int))) × (Unit)))
  | 0, _, _, _, _ => none
  | k + 1, v8, v1, v2, b0 => slices_insertionSortCmpFunc_impl_Frac_at_impl_ascending_1_t1 n (slices_insertionSortCmpFunc_impl_Frac_at_impl_ascending_1_l4 n (slices_insertionSortCmpFunc_impl_Frac_at_impl_ascending_1_l1 n k)) (slices_insertionSortCmpFunc_impl_Frac_at_impl_ascending_1_l1 n k) v8 v1 v2 b0

noncomputable def slices_insertionSortCmpFunc_impl_Frac_at_impl_ascending_1_t (n : Nat) (h1 : Nat → Int → Int → Int → (List ((Int) × (Int))) → Option ((Unit) × ((List ((Int) × (Int))) × (Unit)))) (a1 : Int) (a2 : Int) (b0 : List ((Int) × (Int))) : Option ((Unit) × ((List ((Int) × (Int))) × (Unit))) :=
  h1 n ((IntKind.wrap .i64 (a1 + 1))) a1 a2 b0

noncomputable def slices_insertionSortCmpFunc_impl_Frac_at_impl_ascending_1 (n : Nat) (a1 : Int) (a2 : Int) (b0 : List ((Int) × (Int))) : Option ((Unit) × ((List ((Int) × (Int))) × (Unit))) := slices_insertionSortCmpFunc_impl_Frac_at_impl_ascending_1_t n (slices_insertionSortCmpFunc_impl_Frac_at_impl_ascending_1_l1 n) a1 a2 b0

noncomputable def slices_pdqsortCmpFunc_impl_Frac_at_impl_ascending_1_t2 (n : Nat) (g2 : Int → Int → Bool → Bool → Int → (List ((Int) × (Int))) → Option ((Unit) × ((List ((Int) × (Int))) × (Unit)))) (v2 : Int) (v1 : Int) (v11 : Bool) (v10 : Bool) (v3 : Int) (b0 : List ((Int) × (Int))) : Option ((Unit) × ((List ((Int) × (Int))) × (Unit))) :=
  cond (decide ((IntKind.wrap .i64 (v2 - v1)) ≤ 12))
  ((slices_insertionSortCmpFunc_impl_Frac_at_impl_ascending_1 n v1 v2 b0).bind fun r0 =>
    some (((), (r0.2.1, ()))))
  (cond ((v3 == 0))
    (none)
    (cond (!v10)
      (none)
      (none)))

noncomputable def slices_pdqsortCmpFunc_impl_Frac_at_impl_ascending_1_l2 (n : Nat) : Nat → Int → Int → Bool → Bool → Int → (List ((Int) × (Int))) → Option ((Unit) × ((List ((Int) × (Int))) × (Unit)))
  | 0, _, _, _, _, _, _ => none
  | k + 1, v2, v1, v11, v10, v3, b0 => slices_pdqsortCmpFunc_impl_Frac_at_impl_ascending_1_t2 n (slices_pdqsortCmpFunc_impl_Frac_at_impl_ascending_1_l2 n k) v2 v1 v11 v10 v3 b0

noncomputable def slices_pdqsortCmpFunc_impl_Frac_at_impl_ascending_1_t (n : Nat) (h2 : Nat → Int → Int → Bool → Bool → Int → (List ((Int) × (Int))) → Option ((Unit) × ((List ((Int) × (Int))) × (Unit)))) (a1 : Int) (a2 : Int) (a3 : Int) (b0 : List ((Int) × (Int))) : Option ((Unit) × ((List ((Int) × (Int))) × (Unit))) :=
  h2 n a2 a1 true true a3 b0

noncomputable def slices_pdqsortCmpFunc_impl_Frac_at_impl_ascending_1 (n : Nat) (a1 : Int) (a2 : Int) (a3 : Int) (b0 : List ((Int) × (Int))) : Option ((Unit) × ((List ((Int) × (Int))) × (Unit))) := slices_pdqsortCmpFunc_impl_Frac_at_impl_ascending_1_t n (slices_pdqsortCmpFunc_impl_Frac_at_impl_ascending_1_l2 n) a1 a2 a3 b0

noncomputable def slices_SortFunc_impl_Frac_impl_Frac_at_impl_ascending_1_t (n : Nat) (b0 : List ((Int) × (Int))) : Option ((Unit) × ((List ((Int) × (Int))) × (Unit))) :=
  (math_bits_Len n ((IntKind.wrap .u64 ((b0.length : Nat) : Int)))).bind fun r0 =>
  (slices_pdqsortCmpFunc_impl_Frac_at_impl_ascending_1 n 0 (((b0.length : Nat) : Int)) r0.1.1.1 b0).bind fun r1 =>
  some (((), (r1.2.1, ())))

noncomputable def slices_SortFunc_impl_Frac_impl_Frac_at_impl_ascending_1 (n : Nat) (b0 : List ((Int) × (Int))) : Option ((Unit) × ((List ((Int) × (Int))) × (Unit))) := slices_SortFunc_impl_Frac_impl_Frac_at_impl_ascending_1_t n b0

noncomputable def impl_ascending_t (n : Nat) (a0 : List ((Int) × (Int))) : Option ((((List ((Int) × (Int))) × (Unit)) × (Unit)) × (Unit)) :=
  (slices_Clone_impl_Frac_impl_Frac n a0).bind fun r0 =>
  (slices_SortFunc_impl_Frac_impl_Frac_at_impl_ascending_1 n r0.1.1.1).bind fun r1 =>
  some ((((r1.2.1, ()), ()), ()))

noncomputable def impl_ascending (n : Nat) (a0 : List ((Int) × (Int))) : Option ((((List ((Int) × (Int))) × (Unit)) × (Unit)) × (Unit)) := impl_ascending_t n a0

noncomputable def impl_MiddleOf_t (n : Nat) (a0 : List ((Int) × (Int))) : Option (((((Int) × (Int)) × (Unit)) × (((Int) × (Unit)) × (Unit))) × (Unit)) :=
  (impl_isSome n a0).bind fun r0 =>
  cond ((r0.1.1.1 != 0))
  (some (((((0, 0), ()), ((r0.1.1.1, ()), ())), ())))
  ((impl_ascending n a0).bind fun r1 =>
    cond (((Int.tmod ((a0.length : Nat) : Int) 2) == 1))
    (cond ((decide (0 ≤ (IntKind.wrap .i64 (Int.tdiv ((a0.length : Nat) : Int) 2))) && decide ((IntKind.wrap .i64 (Int.tdiv ((a0.length : Nat) : Int) 2)) < ((r1.1.1.1.length : Nat) : Int))))
      (some ((((((r1.1.1.1.getD (Int.toNat (IntKind.wrap .i64 (Int.tdiv ((a0.length : Nat) : Int) 2))) (0, 0)).1, (r1.1.1.1.getD (Int.toNat (IntKind.wrap .i64 (Int.tdiv ((a0.length : Nat) : Int) 2))) (0, 0)).2), ()), ((0, ()), ())), ())))
      (none))
    (cond (((decide (0 ≤ (IntKind.wrap .i64 ((IntKind.wrap .i64 (Int.tdiv ((a0.length : Nat) : Int) 2)) - 1))) && decide ((IntKind.wrap .i64 ((IntKind.wrap .i64 (Int.tdiv ((a0.length : Nat) : Int) 2)) - 1)) ≤ (IntKind.wrap .i64 ((IntKind.wrap .i64 (Int.tdiv ((a0.length : Nat) : Int) 2)) + 1)))) && decide ((IntKind.wrap .i64 ((IntKind.wrap .i64 (Int.tdiv ((a0.length : Nat) : Int) 2)) + 1)) ≤ ((r1.1.1.1.length : Nat) : Int))))
      ((impl_MeanOf n (((r1.1.1.1.drop (Int.toNat (IntKind.wrap .i64 ((IntKind.wrap .i64 (Int.tdiv ((a0.length : Nat) : Int) 2)) - 1)))).take ((Int.toNat (IntKind.wrap .i64 ((IntKind.wrap .i64 (Int.tdiv ((a0.length : Nat) : Int) 2)) + 1))) - (Int.toNat (IntKind.wrap .i64 ((IntKind.wrap .i64 (Int.tdiv ((a0.length : Nat) : Int) 2)) - 1))))))).bind fun r2 =>
        some (((((r2.1.1.1.1, r2.1.1.1.2), ()), ((r2.1.2.1.1, ()), ())), ())))
      (none)))

noncomputable def impl_MiddleOf (n : Nat) (a0 : List ((Int) × (Int))) : Option (((((Int) × (Int)) × (Unit)) × (((Int) × (Unit)) × (Unit))) × (Unit)) := impl_MiddleOf_t n a0

noncomputable def impl_calc_mul_t (n : Nat) (a1 : (Int) × (Int)) (a2 : (Int) × (Int)) (b0 : Bool) : Option (((((Int) × (Int)) × (Unit)) × (Unit)) × ((Bool) × (Unit))) :=
  (impl_calc_told n ((IntKind.wrap .i64 (a1.1 * a2.1))) ((IntKind.wrap .i64 (a1.2 * a2.2))) b0).bind fun r0 =>
  some (((((r0.1.1.1.1, r0.1.1.1.2), ()), ()), (r0.2.1, ())))

noncomputable def impl_calc_mul (n : Nat) (a1 : (Int) × (Int)) (a2 : (Int) × (Int)) (b0 : Bool) : Option (((((Int) × (Int)) × (Unit)) × (Unit)) × ((Bool) × (Unit))) := impl_calc_mul_t n a1 a2 b0

noncomputable def impl_MulFracs_t (n : Nat) (a0 : (Int) × (Int)) (a1 : (Int) × (Int)) : Option (((((Int) × (Int)) × (Unit)) × (((Int) × (Unit)) × (Unit))) × (Unit)) :=
  (impl_areValid n (((a0.1, a0.2) :: ((a1.1, a1.2) :: [])))).bind fun r0 =>
  cond (!r0.1.1.1)
  (some (((((0, 0), ()), ((1, ()), ())), ())))
  ((impl_calc_mul n ((a0.1, a0.2)) ((a1.1, a1.2)) false).bind fun r1 =>
    (impl_calc_one n ((r1.1.1.1.1, r1.1.1.1.2)) r1.2.1).bind fun r2 =>
    some (((((r2.1.1.1.1, r2.1.1.1.2), ()), ((r2.1.2.1.1, ()), ())), ())))

noncomputable def impl_MulFracs (n : Nat) (a0 : (Int) × (Int)) (a1 : (Int) × (Int)) : Option (((((Int) × (Int)) × (Unit)) × (((Int) × (Unit)) × (Unit))) × (Unit)) := impl_MulFracs_t n a0 a1

noncomputable def impl_nearest_t (n : Nat) (a0 : Int) (a1 : Int) : Option ((((Int) × (Unit)) × (((Bool) × (Unit)) × (Unit))) × (Unit)) :=
  (impl_floorDiv n ((IntKind.wrap .i64 ((IntKind.wrap .i64 (2 * a0)) + a1))) ((IntKind.wrap .i64 (2 * a1)))).bind fun r0 =>
  (impl_within n r0.1.1.1 (-1000000000) 1000000000).bind fun r1 =>
  some ((((r0.1.1.1, ()), ((r1.1.1.1, ()), ())), ()))

noncomputable def impl_nearest (n : Nat) (a0 : Int) (a1 : Int) : Option ((((Int) × (Unit)) × (((Bool) × (Unit)) × (Unit))) × (Unit)) := impl_nearest_t n a0 a1

noncomputable def impl_NearestTo_t (n : Nat) (a0 : (Int) × (Int)) (a1 : (Int) × (Int)) : Option ((((Int) × (Unit)) × (((Int) × (Unit)) × (Unit))) × (Unit)) :=
  (impl_areValid n (((a0.1, a0.2) :: ((a1.1, a1.2) :: [])))).bind fun r0 =>
  cond (!r0.1.1.1)
  (some ((((0, ()), ((1, ()), ())), ())))
  (cond (decide (a1.1 ≤ 0))
    (some ((((0, ()), ((2, ()), ())), ())))
    ((impl_nearest n ((IntKind.wrap .i64 (a0.1 * a1.2))) ((IntKind.wrap .i64 (a0.2 * a1.1)))).bind fun r1 =>
      cond (!r1.1.2.1.1)
      (some ((((0, ()), ((3, ()), ())), ())))
      (some ((((r1.1.1.1, ()), ((0, ()), ())), ())))))

noncomputable def impl_NearestTo (n : Nat) (a0 : (Int) × (Int)) (a1 : (Int) × (Int)) : Option ((((Int) × (Unit)) × (((Int) × (Unit)) × (Unit))) × (Unit)) := impl_NearestTo_t n a0 a1

noncomputable def impl_number (n : Nat) (a0 : ByteArray) : Option ((((Int) × (Unit)) × (Unit)) × (Unit)) :=
  cond (decide (a0.size ≤ 281474976710656)) (match Go.Lib.parseIntB 64 a0.data.toList with
    | .ok v => some ((((v, ()), ()), ()))
    | _ => some ((((0, ()), ()), ()))) none

noncomputable def strings_Cut (n : Nat) (a0 : ByteArray) (a1 : ByteArray) : Option ((((ByteArray) × (Unit)) × (((ByteArray) × (Unit)) × (((Bool) × (Unit)) × (Unit)))) × (Unit)) :=
  cond (decide (a0.size < 4294967281)) (some (((ByteArray.mk (Go.Lib.cut a0.data.toList a1.data.toList).1.toArray, ()), ((ByteArray.mk (Go.Lib.cut a0.data.toList a1.data.toList).2.1.toArray, ()), (((Go.Lib.cut a0.data.toList a1.data.toList).2.2, ()), ()))), ())) none

noncomputable def impl_ReadFrac_t (n : Nat) (a0 : ByteArray) : Option (((((Int) × (Int)) × (Unit)) × (((Int) × (Unit)) × (Unit))) × (Unit)) :=
  (strings_Cut n a0 ((ByteArray.mk #[47]))).bind fun r0 =>
  (impl_number n r0.1.1.1).bind fun r1 =>
  cond r0.1.2.2.1.1
  ((impl_number n r0.1.2.1.1).bind fun r2 =>
    cond ((eqStr a0 (ByteArray.mk #[])))
    (some (((((0, 0), ()), ((5, ()), ())), ())))
    ((impl_FracText n ((r1.1.1.1, r2.1.1.1))).bind fun r3 =>
      cond ((!(eqStr r3.1.1.1 a0)))
      (some (((((0, 0), ()), ((5, ()), ())), ())))
      (some (((((r1.1.1.1, r2.1.1.1), ()), ((0, ()), ())), ())))))
  (cond ((eqStr a0 (ByteArray.mk #[])))
    (some (((((0, 0), ()), ((5, ()), ())), ())))
    ((impl_FracText n ((r1.1.1.1, 1))).bind fun r4 =>
      cond ((!(eqStr r4.1.1.1 a0)))
      (some (((((0, 0), ()), ((5, ()), ())), ())))
      (some (((((r1.1.1.1, 1), ()), ((0, ()), ())), ())))))

noncomputable def impl_ReadFrac (n : Nat) (a0 : ByteArray) : Option (((((Int) × (Int)) × (Unit)) × (((Int) × (Unit)) × (Unit))) × (Unit)) := impl_ReadFrac_t n a0

noncomputable def impl_calc_sub_t (n : Nat) (a1 : (Int) × (Int)) (a2 : (Int) × (Int)) (b0 : Bool) : Option (((((Int) × (Int)) × (Unit)) × (Unit)) × ((Bool) × (Unit))) :=
  (impl_calc_told n ((IntKind.wrap .i64 ((IntKind.wrap .i64 (a1.1 * a2.2)) - (IntKind.wrap .i64 (a2.1 * a1.2))))) ((IntKind.wrap .i64 (a1.2 * a2.2))) b0).bind fun r0 =>
  some (((((r0.1.1.1.1, r0.1.1.1.2), ()), ()), (r0.2.1, ())))

noncomputable def impl_calc_sub (n : Nat) (a1 : (Int) × (Int)) (a2 : (Int) × (Int)) (b0 : Bool) : Option (((((Int) × (Int)) × (Unit)) × (Unit)) × ((Bool) × (Unit))) := impl_calc_sub_t n a1 a2 b0

noncomputable def impl_SubFracs_t (n : Nat) (a0 : (Int) × (Int)) (a1 : (Int) × (Int)) : Option (((((Int) × (Int)) × (Unit)) × (((Int) × (Unit)) × (Unit))) × (Unit)) :=
  (impl_areValid n (((a0.1, a0.2) :: ((a1.1, a1.2) :: [])))).bind fun r0 =>
  cond (!r0.1.1.1)
  (some (((((0, 0), ()), ((1, ()), ())), ())))
  ((impl_calc_sub n ((a0.1, a0.2)) ((a1.1, a1.2)) false).bind fun r1 =>
    (impl_calc_one n ((r1.1.1.1.1, r1.1.1.1.2)) r1.2.1).bind fun r2 =>
    some (((((r2.1.1.1.1, r2.1.1.1.2), ()), ((r2.1.2.1.1, ()), ())), ())))

noncomputable def impl_SubFracs (n : Nat) (a0 : (Int) × (Int)) (a1 : (Int) × (Int)) : Option (((((Int) × (Int)) × (Unit)) × (((Int) × (Unit)) × (Unit))) × (Unit)) := impl_SubFracs_t n a0 a1

noncomputable def impl_SumOf_t (n : Nat) (a0 : List ((Int) × (Int))) : Option (((((Int) × (Int)) × (Unit)) × (((Int) × (Unit)) × (Unit))) × (Unit)) :=
  (impl_areValid n a0).bind fun r0 =>
  cond (!r0.1.1.1)
  (some (((((0, 0), ()), ((1, ()), ())), ())))
  (cond (decide (((a0.length : Nat) : Int) > 64))
    (some (((((0, 0), ()), ((2, ()), ())), ())))
    ((impl_calc_sum n a0 false).bind fun r1 =>
      (impl_calc_one n ((r1.1.1.1.1, r1.1.1.1.2)) r1.2.1).bind fun r2 =>
      some (((((r2.1.1.1.1, r2.1.1.1.2), ()), ((r2.1.2.1.1, ()), ())), ()))))

noncomputable def impl_SumOf (n : Nat) (a0 : List ((Int) × (Int))) : Option (((((Int) × (Int)) × (Unit)) × (((Int) × (Unit)) × (Unit))) × (Unit)) := impl_SumOf_t n a0

noncomputable def laws_f6big_t (n : Nat) (a0 : List (Int)) : Option ((((Bool) × (Unit)) × (Unit)) × (Unit)) :=
  some ((((decide (((a0.length : Nat) : Int) > 4096), ()), ()), ()))

noncomputable def laws_f6big (n : Nat) (a0 : List (Int)) : Option ((((Bool) × (Unit)) × (Unit)) × (Unit)) := laws_f6big_t n a0

noncomputable def spec_l01Cmp_t (n : Nat) (a0 : (Int) × (Int)) (a1 : (Int) × (Int)) : Option ((((Int) × (Unit)) × (Unit)) × (Unit)) :=
  cond (decide ((IntKind.wrap .i64 (a0.1 * a1.2)) < (IntKind.wrap .i64 (a1.1 * a0.2))))
  (some (((((-1), ()), ()), ())))
  (cond (decide ((IntKind.wrap .i64 (a0.1 * a1.2)) > (IntKind.wrap .i64 (a1.1 * a0.2))))
    (some ((((1, ()), ()), ())))
    (some ((((0, ()), ()), ()))))

noncomputable def spec_l01Cmp (n : Nat) (a0 : (Int) × (Int)) (a1 : (Int) × (Int)) : Option ((((Int) × (Unit)) × (Unit)) × (Unit)) := spec_l01Cmp_t n a0 a1

noncomputable def spec_l00In_t (n : Nat) (a0 : Int) (a1 : Int) (a2 : Int) : Option ((((Bool) × (Unit)) × (Unit)) × (Unit)) :=
  cond (decide (a0 ≥ a1))
  (some ((((decide (a0 ≤ a2), ()), ()), ())))
  (some ((((false, ()), ()), ())))

noncomputable def spec_l00In (n : Nat) (a0 : Int) (a1 : Int) (a2 : Int) : Option ((((Bool) × (Unit)) × (Unit)) × (Unit)) := spec_l00In_t n a0 a1 a2

noncomputable def spec_l01Abs_t (n : Nat) (a0 : Int) : Option ((((Int) × (Unit)) × (Unit)) × (Unit)) :=
  cond (decide (a0 < 0))
  (some (((((IntKind.wrap .i64 (0 - a0)), ()), ()), ())))
  (some ((((a0, ()), ()), ())))

noncomputable def spec_l01Abs (n : Nat) (a0 : Int) : Option ((((Int) × (Unit)) × (Unit)) × (Unit)) := spec_l01Abs_t n a0

noncomputable def spec_l01Gcd_t1 (n : Nat) (g1 : Int → Int → Option ((((Int) × (Unit)) × (Unit)) × (Unit))) (v1 : Int) (v0 : Int) : Option ((((Int) × (Unit)) × (Unit)) × (Unit)) :=
  cond ((v1 != 0))
  (cond ((v1 != 0))
    (g1 ((Int.tmod v0 v1)) v1)
    (none))
  (some ((((v0, ()), ()), ())))

noncomputable def spec_l01Gcd_l1 (n : Nat) : Nat → Int → Int → Option ((((Int) × (Unit)) × (Unit)) × (Unit))
  | 0, _, _ => none
  | k + 1, v1, v0 => spec_l01Gcd_t1 n (spec_l01Gcd_l1 n k) v1 v0

noncomputable def spec_l01Gcd_t (n : Nat) (h1 : Nat → Int → Int → Option ((((Int) × (Unit)) × (Unit)) × (Unit))) (a0 : Int) (a1 : Int) : Option ((((Int) × (Unit)) × (Unit)) × (Unit)) :=
  h1 n a1 a0

noncomputable def spec_l01Gcd (n : Nat) (a0 : Int) (a1 : Int) : Option ((((Int) × (Unit)) × (Unit)) × (Unit)) := spec_l01Gcd_t n (spec_l01Gcd_l1 n) a0 a1

noncomputable def spec_l01Ok_t (n : Nat) (a0 : (Int) × (Int)) : Option ((((Bool) × (Unit)) × (Unit)) × (Unit)) :=
  (spec_l00In n a0.2 1 1000000000).bind fun r0 =>
  cond r0.1.1.1
  ((spec_l00In n a0.1 (-1000000000) 1000000000).bind fun r1 =>
    cond r1.1.1.1
    ((spec_l01Abs n a0.1).bind fun r2 =>
      (spec_l01Gcd n r2.1.1.1 a0.2).bind fun r3 =>
      some (((((r3.1.1.1 == 1), ()), ()), ())))
    (some ((((false, ()), ()), ()))))
  (some ((((false, ()), ()), ())))

noncomputable def spec_l01Ok (n : Nat) (a0 : (Int) × (Int)) : Option ((((Bool) × (Unit)) × (Unit)) × (Unit)) := spec_l01Ok_t n a0

noncomputable def spec_l01Two_t (n : Nat) (a0 : (Int) × (Int)) (a1 : (Int) × (Int)) : Option ((((Int) × (Unit)) × (Unit)) × (Unit)) :=
  (spec_l01Ok n ((a0.1, a0.2))).bind fun r0 =>
  cond (!r0.1.1.1)
  (some ((((1, ()), ()), ())))
  ((spec_l01Ok n ((a1.1, a1.2))).bind fun r1 =>
    cond (!r1.1.1.1)
    (some ((((1, ()), ()), ())))
    (some ((((0, ()), ()), ()))))

noncomputable def spec_l01Two (n : Nat) (a0 : (Int) × (Int)) (a1 : (Int) × (Int)) : Option ((((Int) × (Unit)) × (Unit)) × (Unit)) := spec_l01Two_t n a0 a1

noncomputable def spec_CompareFracs_t (n : Nat) (a0 : (Int) × (Int)) (a1 : (Int) × (Int)) : Option ((((Int) × (Unit)) × (((Int) × (Unit)) × (Unit))) × (Unit)) :=
  (spec_l01Two n ((a0.1, a0.2)) ((a1.1, a1.2))).bind fun r0 =>
  cond ((r0.1.1.1 != 0))
  (some ((((0, ()), ((r0.1.1.1, ()), ())), ())))
  ((spec_l01Cmp n ((a0.1, a0.2)) ((a1.1, a1.2))).bind fun r1 =>
    some ((((r1.1.1.1, ()), ((0, ()), ())), ())))

noncomputable def spec_CompareFracs (n : Nat) (a0 : (Int) × (Int)) (a1 : (Int) × (Int)) : Option ((((Int) × (Unit)) × (((Int) × (Unit)) × (Unit))) × (Unit)) := spec_CompareFracs_t n a0 a1

noncomputable def laws_f6less_t (n : Nat) (a0 : (Int) × (Int)) (a1 : (Int) × (Int)) : Option ((((Bool) × (Unit)) × (Unit)) × (Unit)) :=
  (spec_CompareFracs n ((a0.1, a0.2)) ((a1.1, a1.2))).bind fun r0 =>
  cond ((r0.1.2.1.1 == 0))
  (some ((((decide (r0.1.1.1 < 0), ()), ()), ())))
  (some ((((false, ()), ()), ())))

noncomputable def laws_f6less (n : Nat) (a0 : (Int) × (Int)) (a1 : (Int) × (Int)) : Option ((((Bool) × (Unit)) × (Unit)) × (Unit)) := laws_f6less_t n a0 a1

noncomputable def spec_l01Reduced_t (n : Nat) (a0 : Int) (a1 : Int) : Option (((((Int) × (Int)) × (Unit)) × (((Int) × (Unit)) × (Unit))) × (Unit)) :=
  (spec_l01Abs n a0).bind fun r0 =>
  (spec_l01Abs n a1).bind fun r1 =>
  (spec_l01Gcd n r0.1.1.1 r1.1.1.1).bind fun r2 =>
  cond ((r2.1.1.1 != 0))
  (cond ((r2.1.1.1 != 0))
    (cond (decide ((IntKind.wrap .i64 (Int.tdiv a1 r2.1.1.1)) < 0))
      ((spec_l01Ok n (((IntKind.wrap .i64 (0 - (IntKind.wrap .i64 (Int.tdiv a0 r2.1.1.1)))), (IntKind.wrap .i64 (0 - (IntKind.wrap .i64 (Int.tdiv a1 r2.1.1.1))))))).bind fun r3 =>
        cond (!r3.1.1.1)
        (some (((((0, 0), ()), ((3, ()), ())), ())))
        (some ((((((IntKind.wrap .i64 (0 - (IntKind.wrap .i64 (Int.tdiv a0 r2.1.1.1)))), (IntKind.wrap .i64 (0 - (IntKind.wrap .i64 (Int.tdiv a1 r2.1.1.1))))), ()), ((0, ()), ())), ()))))
      ((spec_l01Ok n (((IntKind.wrap .i64 (Int.tdiv a0 r2.1.1.1)), (IntKind.wrap .i64 (Int.tdiv a1 r2.1.1.1))))).bind fun r4 =>
        cond (!r4.1.1.1)
        (some (((((0, 0), ()), ((3, ()), ())), ())))
        (some ((((((IntKind.wrap .i64 (Int.tdiv a0 r2.1.1.1)), (IntKind.wrap .i64 (Int.tdiv a1 r2.1.1.1))), ()), ((0, ()), ())), ())))))
    (none))
  (none)

noncomputable def spec_l01Reduced (n : Nat) (a0 : Int) (a1 : Int) : Option (((((Int) × (Int)) × (Unit)) × (((Int) × (Unit)) × (Unit))) × (Unit)) := spec_l01Reduced_t n a0 a1

noncomputable def spec_l01Add_t (n : Nat) (a0 : (Int) × (Int)) (a1 : (Int) × (Int)) : Option (((((Int) × (Int)) × (Unit)) × (((Int) × (Unit)) × (Unit))) × (Unit)) :=
  (spec_l01Reduced n ((IntKind.wrap .i64 ((IntKind.wrap .i64 (a0.1 * a1.2)) + (IntKind.wrap .i64 (a1.1 * a0.2))))) ((IntKind.wrap .i64 (a0.2 * a1.2)))).bind fun r0 =>
  some (((((r0.1.1.1.1, r0.1.1.1.2), ()), ((r0.1.2.1.1, ()), ())), ()))

noncomputable def spec_l01Add (n : Nat) (a0 : (Int) × (Int)) (a1 : (Int) × (Int)) : Option (((((Int) × (Int)) × (Unit)) × (((Int) × (Unit)) × (Unit))) × (Unit)) := spec_l01Add_t n a0 a1

noncomputable def spec_AddFracs_t (n : Nat) (a0 : (Int) × (Int)) (a1 : (Int) × (Int)) : Option (((((Int) × (Int)) × (Unit)) × (((Int) × (Unit)) × (Unit))) × (Unit)) :=
  (spec_l01Two n ((a0.1, a0.2)) ((a1.1, a1.2))).bind fun r0 =>
  cond ((r0.1.1.1 != 0))
  (some (((((0, 0), ()), ((r0.1.1.1, ()), ())), ())))
  ((spec_l01Add n ((a0.1, a0.2)) ((a1.1, a1.2))).bind fun r1 =>
    some (((((r1.1.1.1.1, r1.1.1.1.2), ()), ((r1.1.2.1.1, ()), ())), ())))

noncomputable def spec_AddFracs (n : Nat) (a0 : (Int) × (Int)) (a1 : (Int) × (Int)) : Option (((((Int) × (Int)) × (Unit)) × (((Int) × (Unit)) × (Unit))) × (Unit)) := spec_AddFracs_t n a0 a1

noncomputable def spec_l01Div_t (n : Nat) (a0 : (Int) × (Int)) (a1 : (Int) × (Int)) : Option (((((Int) × (Int)) × (Unit)) × (((Int) × (Unit)) × (Unit))) × (Unit)) :=
  (spec_l01Reduced n ((IntKind.wrap .i64 (a0.1 * a1.2))) ((IntKind.wrap .i64 (a0.2 * a1.1)))).bind fun r0 =>
  some (((((r0.1.1.1.1, r0.1.1.1.2), ()), ((r0.1.2.1.1, ()), ())), ()))

noncomputable def spec_l01Div (n : Nat) (a0 : (Int) × (Int)) (a1 : (Int) × (Int)) : Option (((((Int) × (Int)) × (Unit)) × (((Int) × (Unit)) × (Unit))) × (Unit)) := spec_l01Div_t n a0 a1

noncomputable def spec_DivFracs_t (n : Nat) (a0 : (Int) × (Int)) (a1 : (Int) × (Int)) : Option (((((Int) × (Int)) × (Unit)) × (((Int) × (Unit)) × (Unit))) × (Unit)) :=
  (spec_l01Two n ((a0.1, a0.2)) ((a1.1, a1.2))).bind fun r0 =>
  cond ((r0.1.1.1 != 0))
  (some (((((0, 0), ()), ((r0.1.1.1, ()), ())), ())))
  (cond ((a1.1 == 0))
    (some (((((0, 0), ()), ((4, ()), ())), ())))
    ((spec_l01Div n ((a0.1, a0.2)) ((a1.1, a1.2))).bind fun r1 =>
      some (((((r1.1.1.1.1, r1.1.1.1.2), ()), ((r1.1.2.1.1, ()), ())), ()))))

noncomputable def spec_DivFracs (n : Nat) (a0 : (Int) × (Int)) (a1 : (Int) × (Int)) : Option (((((Int) × (Int)) × (Unit)) × (((Int) × (Unit)) × (Unit))) × (Unit)) := spec_DivFracs_t n a0 a1

noncomputable def spec_l01List_t2 (n : Nat) (g2 : Int → (List ((Int) × (Int))) → Int → Option ((((Int) × (Unit)) × (Unit)) × (Unit))) (v5 : Int) (v0 : List ((Int) × (Int))) (v1 : Int) : Option ((((Int) × (Unit)) × (Unit)) × (Unit)) :=
  cond (decide (v5 < ((v0.length : Nat) : Int)))
  (cond ((decide (0 ≤ v5) && decide (v5 < ((v0.length : Nat) : Int))))
    ((spec_l01Ok n (((v0.getD (Int.toNat v5) (0, 0)).1, (v0.getD (Int.toNat v5) (0, 0)).2))).bind fun r0 =>
      cond (!r0.1.1.1)
      (some ((((1, ()), ()), ())))
      (g2 ((IntKind.wrap .i64 (v5 + 1))) v0 v1))
    (none))
  (cond (decide (((v0.length : Nat) : Int) > 64))
    (some ((((2, ()), ()), ())))
    (cond (decide (((v0.length : Nat) : Int) < v1))
      (some ((((2, ()), ()), ())))
      (some ((((0, ()), ()), ())))))

noncomputable def spec_l01List_l2 (n : Nat) : Nat → Int → (List ((Int) × (Int))) → Int → Option ((((Int) × (Unit)) × (Unit)) × (Unit))
  | 0, _, _, _ => none
  | k + 1, v5, v0, v1 => spec_l01List_t2 n (spec_l01List_l2 n k) v5 v0 v1

noncomputable def spec_l01List_t (n : Nat) (h2 : Nat → Int → (List ((Int) × (Int))) → Int → Option ((((Int) × (Unit)) × (Unit)) × (Unit))) (a0 : List ((Int) × (Int))) (a1 : Int) : Option ((((Int) × (Unit)) × (Unit)) × (Unit)) :=
  h2 n 0 a0 a1

noncomputable def spec_l01List (n : Nat) (a0 : List ((Int) × (Int))) (a1 : Int) : Option ((((Int) × (Unit)) × (Unit)) × (Unit)) := spec_l01List_t n (spec_l01List_l2 n) a0 a1

noncomputable def spec_l01Whole_t (n : Nat) (a0 : Int) : Option (((((Int) × (Int)) × (Unit)) × (Unit)) × (Unit)) :=
  some (((((a0, 1), ()), ()), ()))

noncomputable def spec_l01Whole (n : Nat) (a0 : Int) : Option (((((Int) × (Int)) × (Unit)) × (Unit)) × (Unit)) := spec_l01Whole_t n a0

noncomputable def spec_l01Sum_t3 (n : Nat) (g3 : Int → (List ((Int) × (Int))) → Int → Int → Int → Int → Option (((((Int) × (Int)) × (Unit)) × (((Int) × (Unit)) × (Unit))) × (Unit))) (v5 : Int) (v0 : List ((Int) × (Int))) (b0_0 : Int) (b0_1 : Int) (b1_0 : Int) (b1_1 : Int) : Option (((((Int) × (Int)) × (Unit)) × (((Int) × (Unit)) × (Unit))) × (Unit)) :=
  cond (decide (v5 < ((v0.length : Nat) : Int)))
  (cond ((decide (0 ≤ v5) && decide (v5 < ((v0.length : Nat) : Int))))
    ((spec_l01Add n ((b1_0, b1_1)) (((v0.getD (Int.toNat v5) (0, 0)).1, (v0.getD (Int.toNat v5) (0, 0)).2))).bind fun r1 =>
      cond ((r1.1.2.1.1 != 0))
      (some (((((0, 0), ()), ((r1.1.2.1.1, ()), ())), ())))
      (g3 ((IntKind.wrap .i64 (v5 + 1))) v0 b0_0 b0_1 r1.1.1.1.1 r1.1.1.1.2))
    (none))
  (some (((((b1_0, b1_1), ()), ((0, ()), ())), ())))

noncomputable def spec_l01Sum_l3 (n : Nat) : Nat → Int → (List ((Int) × (Int))) → Int → Int → Int → Int → Option (((((Int) × (Int)) × (Unit)) × (((Int) × (Unit)) × (Unit))) × (Unit))
  | 0, _, _, _, _, _, _ => none
  | k + 1, v5, v0, b0_0, b0_1, b1_0, b1_1 => spec_l01Sum_t3 n (spec_l01Sum_l3 n k) v5 v0 b0_0 b0_1 b1_0 b1_1

noncomputable def spec_l01Sum_t (n : Nat) (h3 : Nat → Int → (List ((Int) × (Int))) → Int → Int → Int → Int → Option (((((Int) × (Int)) × (Unit)) × (((Int) × (Unit)) × (Unit))) × (Unit))) (a0 : List ((Int) × (Int))) : Option (((((Int) × (Int)) × (Unit)) × (((Int) × (Unit)) × (Unit))) × (Unit)) :=
  (spec_l01Whole n 0).bind fun r0 =>
  h3 n 0 a0 0 0 r0.1.1.1.1 r0.1.1.1.2

noncomputable def spec_l01Sum (n : Nat) (a0 : List ((Int) × (Int))) : Option (((((Int) × (Int)) × (Unit)) × (((Int) × (Unit)) × (Unit))) × (Unit)) := spec_l01Sum_t n (spec_l01Sum_l3 n) a0

noncomputable def spec_l01Mean_t (n : Nat) (a0 : List ((Int) × (Int))) : Option (((((Int) × (Int)) × (Unit)) × (((Int) × (Unit)) × (Unit))) × (Unit)) :=
  (spec_l01Sum n a0).bind fun r0 =>
  cond ((r0.1.2.1.1 != 0))
  (some (((((0, 0), ()), ((r0.1.2.1.1, ()), ())), ())))
  ((spec_l01Whole n (((a0.length : Nat) : Int))).bind fun r1 =>
    (spec_l01Div n ((r0.1.1.1.1, r0.1.1.1.2)) ((r1.1.1.1.1, r1.1.1.1.2))).bind fun r2 =>
    some (((((r2.1.1.1.1, r2.1.1.1.2), ()), ((r2.1.2.1.1, ()), ())), ())))

noncomputable def spec_l01Mean (n : Nat) (a0 : List ((Int) × (Int))) : Option (((((Int) × (Int)) × (Unit)) × (((Int) × (Unit)) × (Unit))) × (Unit)) := spec_l01Mean_t n a0

noncomputable def spec_l01Sorted_t6 (n : Nat) (g3 : Int → (List ((Int) × (Int))) → (List ((Int) × (Int))) → Option ((((List ((Int) × (Int))) × (Unit)) × (Unit)) × (Unit))) (g6 : Int → (List ((Int) × (Int))) → Int → (List ((Int) × (Int))) → Option ((((List ((Int) × (Int))) × (Unit)) × (Unit)) × (Unit))) (v5 : Int) (v0 : List ((Int) × (Int))) (v4 : Int) (b0 : List ((Int) × (Int))) : Option ((((List ((Int) × (Int))) × (Unit)) × (Unit)) × (Unit)) :=
  cond (decide (v5 < ((b0.length : Nat) : Int)))
  (cond ((decide (0 ≤ v5) && decide (v5 < ((b0.length : Nat) : Int))))
    (cond ((decide (0 ≤ v4) && decide (v4 < ((v0.length : Nat) : Int))))
      ((spec_l01Cmp n (((b0.getD (Int.toNat v5) (0, 0)).1, (b0.getD (Int.toNat v5) (0, 0)).2)) (((v0.getD (Int.toNat v4) (0, 0)).1, (v0.getD (Int.toNat v4) (0, 0)).2))).bind fun r0 =>
        cond (decide (r0.1.1.1 ≤ 0))
        (g6 ((IntKind.wrap .i64 (v5 + 1))) v0 v4 b0)
        (cond ((decide (0 ≤ v4) && decide (v4 < ((v0.length : Nat) : Int))))
          (cond (((decide (0 ≤ v5) && decide (v5 ≤ ((b0.length : Nat) : Int))) && decide (((b0.length : Nat) : Int) ≤ ((b0.length : Nat) : Int))))
            (cond (decide ((((((v0.getD (Int.toNat v4) (0, 0)).1, (v0.getD (Int.toNat v4) (0, 0)).2) :: []).length + ((b0.drop (Int.toNat v5)).take ((Int.toNat ((b0.length : Nat) : Int)) - (Int.toNat v5))).length) * 17) ≤ 70368744177664))
              (cond ((decide (0 ≤ v5) && decide (v5 ≤ ((b0.length : Nat) : Int))))
                (cond (decide (((0 + ((b0.drop 0).take ((Int.toNat v5) - (Int.toNat 0))).length) * 17) ≤ 70368744177664))
                  (cond (decide (((([] ++ ((b0.drop 0).take ((Int.toNat v5) - (Int.toNat 0)))).length + ((((v0.getD (Int.toNat v4) (0, 0)).1, (v0.getD (Int.toNat v4) (0, 0)).2) :: []) ++ ((b0.drop (Int.toNat v5)).take ((Int.toNat ((b0.length : Nat) : Int)) - (Int.toNat v5)))).length) * 17) ≤ 70368744177664))
                    (g3 ((IntKind.wrap .i64 (v4 + 1))) v0 ((([] ++ ((b0.drop 0).take ((Int.toNat v5) - (Int.toNat 0)))) ++ ((((v0.getD (Int.toNat v4) (0, 0)).1, (v0.getD (Int.toNat v4) (0, 0)).2) :: []) ++ ((b0.drop (Int.toNat v5)).take ((Int.toNat ((b0.length : Nat) : Int)) - (Int.toNat v5)))))))
                    (none))
                  (none))
                (none))
              (none))
            (none))
          (none)))
      (none))
    (none))
  (cond ((decide (0 ≤ v4) && decide (v4 < ((v0.length : Nat) : Int))))
    (cond (((decide (0 ≤ v5) && decide (v5 ≤ ((b0.length : Nat) : Int))) && decide (((b0.length : Nat) : Int) ≤ ((b0.length : Nat) : Int))))
      (cond (decide ((((((v0.getD (Int.toNat v4) (0, 0)).1, (v0.getD (Int.toNat v4) (0, 0)).2) :: []).length + ((b0.drop (Int.toNat v5)).take ((Int.toNat ((b0.length : Nat) : Int)) - (Int.toNat v5))).length) * 17) ≤ 70368744177664))
        (cond ((decide (0 ≤ v5) && decide (v5 ≤ ((b0.length : Nat) : Int))))
          (cond (decide (((0 + ((b0.drop 0).take ((Int.toNat v5) - (Int.toNat 0))).length) * 17) ≤ 70368744177664))
            (cond (decide (((([] ++ ((b0.drop 0).take ((Int.toNat v5) - (Int.toNat 0)))).length + ((((v0.getD (Int.toNat v4) (0, 0)).1, (v0.getD (Int.toNat v4) (0, 0)).2) :: []) ++ ((b0.drop (Int.toNat v5)).take ((Int.toNat ((b0.length : Nat) : Int)) - (Int.toNat v5)))).length) * 17) ≤ 70368744177664))
              (g3 ((IntKind.wrap .i64 (v4 + 1))) v0 ((([] ++ ((b0.drop 0).take ((Int.toNat v5) - (Int.toNat 0)))) ++ ((((v0.getD (Int.toNat v4) (0, 0)).1, (v0.getD (Int.toNat v4) (0, 0)).2) :: []) ++ ((b0.drop (Int.toNat v5)).take ((Int.toNat ((b0.length : Nat) : Int)) - (Int.toNat v5)))))))
              (none))
            (none))
          (none))
        (none))
      (none))
    (none))

noncomputable def spec_l01Sorted_l6 (n : Nat) (g3 : Int → (List ((Int) × (Int))) → (List ((Int) × (Int))) → Option ((((List ((Int) × (Int))) × (Unit)) × (Unit)) × (Unit))) : Nat → Int → (List ((Int) × (Int))) → Int → (List ((Int) × (Int))) → Option ((((List ((Int) × (Int))) × (Unit)) × (Unit)) × (Unit))
  | 0, _, _, _, _ => none
  | k + 1, v5, v0, v4, b0 => spec_l01Sorted_t6 n g3 (spec_l01Sorted_l6 n g3 k) v5 v0 v4 b0

noncomputable def spec_l01Sorted_t3 (n : Nat) (h6 : Nat → Int → (List ((Int) × (Int))) → Int → (List ((Int) × (Int))) → Option ((((List ((Int) × (Int))) × (Unit)) × (Unit)) × (Unit))) (g3 : Int → (List ((Int) × (Int))) → (List ((Int) × (Int))) → Option ((((List ((Int) × (Int))) × (Unit)) × (Unit)) × (Unit))) (v4 : Int) (v0 : List ((Int) × (Int))) (b0 : List ((Int) × (Int))) : Option ((((List ((Int) × (Int))) × (Unit)) × (Unit)) × (Unit)) :=
  cond (decide (v4 < ((v0.length : Nat) : Int)))
  (h6 n 0 v0 v4 b0)
  (some ((((b0, ()), ()), ())))

noncomputable def spec_l01Sorted_l3 (n : Nat) : Nat → Int → (List ((Int) × (Int))) → (List ((Int) × (Int))) → Option ((((List ((Int) × (Int))) × (Unit)) × (Unit)) × (Unit))
  | 0, _, _, _ => none
  | k + 1, v4, v0, b0 => spec_l01Sorted_t3 n (spec_l01Sorted_l6 n (spec_l01Sorted_l3 n k)) (spec_l01Sorted_l3 n k) v4 v0 b0

noncomputable def spec_l01Sorted_t (n : Nat) (h3 : Nat → Int → (List ((Int) × (Int))) → (List ((Int) × (Int))) → Option ((((List ((Int) × (Int))) × (Unit)) × (Unit)) × (Unit))) (a0 : List ((Int) × (Int))) : Option ((((List ((Int) × (Int))) × (Unit)) × (Unit)) × (Unit)) :=
  h3 n 0 a0 []

noncomputable def spec_l01Sorted (n : Nat) (a0 : List ((Int) × (Int))) : Option ((((List ((Int) × (Int))) × (Unit)) × (Unit)) × (Unit)) := spec_l01Sorted_t n (spec_l01Sorted_l3 n) a0

noncomputable def spec_l01Middle_t (n : Nat) (a0 : List ((Int) × (Int))) : Option (((((Int) × (Int)) × (Unit)) × (((Int) × (Unit)) × (Unit))) × (Unit)) :=
  (spec_l01Sorted n a0).bind fun r0 =>
  cond (((Int.tmod ((r0.1.1.1.length : Nat) : Int) 2) == 1))
  (cond ((decide (0 ≤ (IntKind.wrap .i64 (Int.tdiv ((r0.1.1.1.length : Nat) : Int) 2))) && decide ((IntKind.wrap .i64 (Int.tdiv ((r0.1.1.1.length : Nat) : Int) 2)) < ((r0.1.1.1.length : Nat) : Int))))
    (some ((((((r0.1.1.1.getD (Int.toNat (IntKind.wrap .i64 (Int.tdiv ((r0.1.1.1.length : Nat) : Int) 2))) (0, 0)).1, (r0.1.1.1.getD (Int.toNat (IntKind.wrap .i64 (Int.tdiv ((r0.1.1.1.length : Nat) : Int) 2))) (0, 0)).2), ()), ((0, ()), ())), ())))
    (none))
  (cond (((decide (0 ≤ (IntKind.wrap .i64 ((IntKind.wrap .i64 (Int.tdiv ((r0.1.1.1.length : Nat) : Int) 2)) - 1))) && decide ((IntKind.wrap .i64 ((IntKind.wrap .i64 (Int.tdiv ((r0.1.1.1.length : Nat) : Int) 2)) - 1)) ≤ (IntKind.wrap .i64 ((IntKind.wrap .i64 (Int.tdiv ((r0.1.1.1.length : Nat) : Int) 2)) + 1)))) && decide ((IntKind.wrap .i64 ((IntKind.wrap .i64 (Int.tdiv ((r0.1.1.1.length : Nat) : Int) 2)) + 1)) ≤ ((r0.1.1.1.length : Nat) : Int))))
    ((spec_l01Mean n (((r0.1.1.1.drop (Int.toNat (IntKind.wrap .i64 ((IntKind.wrap .i64 (Int.tdiv ((r0.1.1.1.length : Nat) : Int) 2)) - 1)))).take ((Int.toNat (IntKind.wrap .i64 ((IntKind.wrap .i64 (Int.tdiv ((r0.1.1.1.length : Nat) : Int) 2)) + 1))) - (Int.toNat (IntKind.wrap .i64 ((IntKind.wrap .i64 (Int.tdiv ((r0.1.1.1.length : Nat) : Int) 2)) - 1))))))).bind fun r1 =>
      some (((((r1.1.1.1.1, r1.1.1.1.2), ()), ((r1.1.2.1.1, ()), ())), ())))
    (none))

noncomputable def spec_l01Middle (n : Nat) (a0 : List ((Int) × (Int))) : Option (((((Int) × (Int)) × (Unit)) × (((Int) × (Unit)) × (Unit))) × (Unit)) := spec_l01Middle_t n a0

noncomputable def spec_MiddleOf_t (n : Nat) (a0 : List ((Int) × (Int))) : Option (((((Int) × (Int)) × (Unit)) × (((Int) × (Unit)) × (Unit))) × (Unit)) :=
  (spec_l01List n a0 1).bind fun r0 =>
  cond ((r0.1.1.1 != 0))
  (some (((((0, 0), ()), ((r0.1.1.1, ()), ())), ())))
  ((spec_l01Middle n a0).bind fun r1 =>
    some (((((r1.1.1.1.1, r1.1.1.1.2), ()), ((r1.1.2.1.1, ()), ())), ())))

noncomputable def spec_MiddleOf (n : Nat) (a0 : List ((Int) × (Int))) : Option (((((Int) × (Int)) × (Unit)) × (((Int) × (Unit)) × (Unit))) × (Unit)) := spec_MiddleOf_t n a0

noncomputable def spec_l01Mul_t (n : Nat) (a0 : (Int) × (Int)) (a1 : (Int) × (Int)) : Option (((((Int) × (Int)) × (Unit)) × (((Int) × (Unit)) × (Unit))) × (Unit)) :=
  (spec_l01Reduced n ((IntKind.wrap .i64 (a0.1 * a1.1))) ((IntKind.wrap .i64 (a0.2 * a1.2)))).bind fun r0 =>
  some (((((r0.1.1.1.1, r0.1.1.1.2), ()), ((r0.1.2.1.1, ()), ())), ()))

noncomputable def spec_l01Mul (n : Nat) (a0 : (Int) × (Int)) (a1 : (Int) × (Int)) : Option (((((Int) × (Int)) × (Unit)) × (((Int) × (Unit)) × (Unit))) × (Unit)) := spec_l01Mul_t n a0 a1

noncomputable def spec_MulFracs_t (n : Nat) (a0 : (Int) × (Int)) (a1 : (Int) × (Int)) : Option (((((Int) × (Int)) × (Unit)) × (((Int) × (Unit)) × (Unit))) × (Unit)) :=
  (spec_l01Two n ((a0.1, a0.2)) ((a1.1, a1.2))).bind fun r0 =>
  cond ((r0.1.1.1 != 0))
  (some (((((0, 0), ()), ((r0.1.1.1, ()), ())), ())))
  ((spec_l01Mul n ((a0.1, a0.2)) ((a1.1, a1.2))).bind fun r1 =>
    some (((((r1.1.1.1.1, r1.1.1.1.2), ()), ((r1.1.2.1.1, ()), ())), ())))

noncomputable def spec_MulFracs (n : Nat) (a0 : (Int) × (Int)) (a1 : (Int) × (Int)) : Option (((((Int) × (Int)) × (Unit)) × (((Int) × (Unit)) × (Unit))) × (Unit)) := spec_MulFracs_t n a0 a1

noncomputable def spec_l00From_t (n : Nat) (a0 : List (Int)) : Option (((((List (Int)) × ((Int) × (Int))) × (Unit)) × (Unit)) × (Unit)) :=
  some (((((a0, (0, 0)), ()), ()), ()))

noncomputable def spec_l00From (n : Nat) (a0 : List (Int)) : Option (((((List (Int)) × ((Int) × (Int))) × (Unit)) × (Unit)) × (Unit)) := spec_l00From_t n a0

noncomputable def spec_l00Src_next_t (n : Nat) (b0 : (List (Int)) × ((Int) × (Int))) : Option ((((Int) × (Unit)) × (Unit)) × (((List (Int)) × ((Int) × (Int))) × (Unit))) :=
  cond (decide (b0.2.1 < ((b0.1.length : Nat) : Int)))
  (cond ((decide (0 ≤ b0.2.1) && decide (b0.2.1 < ((b0.1.length : Nat) : Int))))
    (cond (decide ((IntKind.wrap .i64 (b0.2.1 + 1)) ≤ ((b0.1.length : Nat) : Int)))
      (some (((((IntKind.wrap .i64 (b0.1.getD (Int.toNat b0.2.1) 0)), ()), ()), ((b0.1, ((IntKind.wrap .i64 (b0.2.1 + 1)), (IntKind.wrap .u64 ((IntKind.wrap .u64 ((IntKind.wrap .u64 (b0.2.2 * 6364136223846793005)) + (IntKind.wrap .u64 (IntKind.wrap .i64 (b0.1.getD (Int.toNat b0.2.1) 0))))) + 1442695040888963407)))), ()))))
      (some (((((IntKind.wrap .i64 (andInt .u64 (shrInt .u64 (IntKind.wrap .u64 ((IntKind.wrap .u64 ((IntKind.wrap .u64 (b0.2.2 * 6364136223846793005)) + (IntKind.wrap .u64 (IntKind.wrap .i64 (b0.1.getD (Int.toNat b0.2.1) 0))))) + 1442695040888963407)) 40) 255)), ()), ()), ((b0.1, ((IntKind.wrap .i64 (b0.2.1 + 1)), (IntKind.wrap .u64 ((IntKind.wrap .u64 ((IntKind.wrap .u64 (b0.2.2 * 6364136223846793005)) + (IntKind.wrap .u64 (IntKind.wrap .i64 (b0.1.getD (Int.toNat b0.2.1) 0))))) + 1442695040888963407)))), ())))))
    (none))
  (cond (decide ((IntKind.wrap .i64 (b0.2.1 + 1)) ≤ ((b0.1.length : Nat) : Int)))
    (some ((((0, ()), ()), ((b0.1, ((IntKind.wrap .i64 (b0.2.1 + 1)), (IntKind.wrap .u64 ((IntKind.wrap .u64 ((IntKind.wrap .u64 (b0.2.2 * 6364136223846793005)) + (IntKind.wrap .u64 0))) + 1442695040888963407)))), ()))))
    (some (((((IntKind.wrap .i64 (andInt .u64 (shrInt .u64 (IntKind.wrap .u64 ((IntKind.wrap .u64 ((IntKind.wrap .u64 (b0.2.2 * 6364136223846793005)) + (IntKind.wrap .u64 0))) + 1442695040888963407)) 40) 255)), ()), ()), ((b0.1, ((IntKind.wrap .i64 (b0.2.1 + 1)), (IntKind.wrap .u64 ((IntKind.wrap .u64 ((IntKind.wrap .u64 (b0.2.2 * 6364136223846793005)) + (IntKind.wrap .u64 0))) + 1442695040888963407)))), ())))))

noncomputable def spec_l00Src_next (n : Nat) (b0 : (List (Int)) × ((Int) × (Int))) : Option ((((Int) × (Unit)) × (Unit)) × (((List (Int)) × ((Int) × (Int))) × (Unit))) := spec_l00Src_next_t n b0

noncomputable def spec_l00Src_pick_t (n : Nat) (a1 : Int) (b0 : (List (Int)) × ((Int) × (Int))) : Option ((((Int) × (Unit)) × (Unit)) × (((List (Int)) × ((Int) × (Int))) × (Unit))) :=
  cond (decide (a1 ≤ 1))
  (some ((((0, ()), ()), ((b0.1, (b0.2.1, b0.2.2)), ()))))
  ((spec_l00Src_next n ((b0.1, (b0.2.1, b0.2.2)))).bind fun r0 =>
    cond (decide (a1 > 200))
    ((spec_l00Src_next n ((r0.2.1.1, (r0.2.1.2.1, r0.2.1.2.2)))).bind fun r1 =>
      cond ((a1 != 0))
      (some (((((Int.tmod (IntKind.wrap .i64 ((IntKind.wrap .i64 (r0.1.1.1 * 256)) + r1.1.1.1)) a1), ()), ()), ((r1.2.1.1, (r1.2.1.2.1, r1.2.1.2.2)), ()))))
      (none))
    (cond ((a1 != 0))
      (some (((((Int.tmod r0.1.1.1 a1), ()), ()), ((r0.2.1.1, (r0.2.1.2.1, r0.2.1.2.2)), ()))))
      (none)))

noncomputable def spec_l00Src_pick (n : Nat) (a1 : Int) (b0 : (List (Int)) × ((Int) × (Int))) : Option ((((Int) × (Unit)) × (Unit)) × (((List (Int)) × ((Int) × (Int))) × (Unit))) := spec_l00Src_pick_t n a1 b0

noncomputable def spec_P6Frac_t (n : Nat) (a0 : List (Int)) : Option (((((Int) × (Int)) × (Unit)) × (Unit)) × (Unit)) :=
  (spec_l00From n a0).bind fun r0 =>
  (spec_l00Src_pick n 121 ((r0.1.1.1.1, (r0.1.1.1.2.1, r0.1.1.1.2.2)))).bind fun r1 =>
  (spec_l00Src_pick n 12 ((r1.2.1.1, (r1.2.1.2.1, r1.2.1.2.2)))).bind fun r2 =>
  (spec_l01Reduced n ((IntKind.wrap .i64 (r1.1.1.1 - 60))) ((IntKind.wrap .i64 (1 + r2.1.1.1)))).bind fun r3 =>
  some (((((r3.1.1.1.1, r3.1.1.1.2), ()), ()), ()))

noncomputable def spec_P6Frac (n : Nat) (a0 : List (Int)) : Option (((((Int) × (Int)) × (Unit)) × (Unit)) × (Unit)) := spec_P6Frac_t n a0

noncomputable def spec_l00Src_among_t (n : Nat) (b0 : (List (Int)) × ((Int) × (Int))) (b1 : List (Int)) : Option ((((Int) × (Unit)) × (Unit)) × (((List (Int)) × ((Int) × (Int))) × ((List (Int)) × (Unit)))) :=
  (spec_l00Src_pick n (((b1.length : Nat) : Int)) ((b0.1, (b0.2.1, b0.2.2)))).bind fun r0 =>
  cond ((decide (0 ≤ r0.1.1.1) && decide (r0.1.1.1 < ((b1.length : Nat) : Int))))
  (some (((((b1.getD (Int.toNat r0.1.1.1) 0), ()), ()), ((r0.2.1.1, (r0.2.1.2.1, r0.2.1.2.2)), (b1, ())))))
  (none)

noncomputable def spec_l00Src_among (n : Nat) (b0 : (List (Int)) × ((Int) × (Int))) (b1 : List (Int)) : Option ((((Int) × (Unit)) × (Unit)) × (((List (Int)) × ((Int) × (Int))) × ((List (Int)) × (Unit)))) := spec_l00Src_among_t n b0 b1

noncomputable def spec_l04Small_t (n : Nat) (b0 : (List (Int)) × ((Int) × (Int))) : Option (((((Int) × (Int)) × (Unit)) × (Unit)) × (((List (Int)) × ((Int) × (Int))) × (Unit))) :=
  (spec_l00Src_pick n 41 ((b0.1, (b0.2.1, b0.2.2)))).bind fun r0 =>
  (spec_l00Src_among n ((r0.2.1.1, (r0.2.1.2.1, r0.2.1.2.2))) ((1 :: (1 :: (2 :: (4 :: [])))))).bind fun r1 =>
  (spec_l01Reduced n ((IntKind.wrap .i64 (r0.1.1.1 - 20))) r1.1.1.1).bind fun r2 =>
  some (((((r2.1.1.1.1, r2.1.1.1.2), ()), ()), ((r1.2.1.1, (r1.2.1.2.1, r1.2.1.2.2)), ())))

noncomputable def spec_l04Small (n : Nat) (b0 : (List (Int)) × ((Int) × (Int))) : Option (((((Int) × (Int)) × (Unit)) × (Unit)) × (((List (Int)) × ((Int) × (Int))) × (Unit))) := spec_l04Small_t n b0

noncomputable def spec_P6List_t4 (n : Nat) (g4 : Int → (List (Int)) → Int → Int → (List ((Int) × (Int))) → Option ((((List ((Int) × (Int))) × (Unit)) × (Unit)) × (Unit))) (v5 : Int) (b0_0 : List (Int)) (b0_1 : Int) (b0_2 : Int) (b1 : List ((Int) × (Int))) : Option ((((List ((Int) × (Int))) × (Unit)) × (Unit)) × (Unit)) :=
  cond (decide (v5 > 0))
  ((spec_l04Small n ((b0_0, (b0_1, b0_2)))).bind fun r2 =>
    cond (decide (((b1.length + ((r2.1.1.1.1, r2.1.1.1.2) :: []).length) * 17) ≤ 70368744177664))
    (g4 ((IntKind.wrap .i64 (v5 - 1))) r2.2.1.1 r2.2.1.2.1 r2.2.1.2.2 ((b1 ++ ((r2.1.1.1.1, r2.1.1.1.2) :: []))))
    (none))
  (some ((((b1, ()), ()), ())))

noncomputable def spec_P6List_l4 (n : Nat) : Nat → Int → (List (Int)) → Int → Int → (List ((Int) × (Int))) → Option ((((List ((Int) × (Int))) × (Unit)) × (Unit)) × (Unit))
  | 0, _, _, _, _, _ => none
  | k + 1, v5, b0_0, b0_1, b0_2, b1 => spec_P6List_t4 n (spec_P6List_l4 n k) v5 b0_0 b0_1 b0_2 b1

noncomputable def spec_P6List_t (n : Nat) (h4 : Nat → Int → (List (Int)) → Int → Int → (List ((Int) × (Int))) → Option ((((List ((Int) × (Int))) × (Unit)) × (Unit)) × (Unit))) (a0 : List (Int)) : Option ((((List ((Int) × (Int))) × (Unit)) × (Unit)) × (Unit)) :=
  (spec_l00From n a0).bind fun r0 =>
  (spec_l00Src_pick n 8 ((r0.1.1.1.1, (r0.1.1.1.2.1, r0.1.1.1.2.2)))).bind fun r1 =>
  h4 n ((IntKind.wrap .i64 (1 + r1.1.1.1))) r1.2.1.1 r1.2.1.2.1 r1.2.1.2.2 []

noncomputable def spec_P6List (n : Nat) (a0 : List (Int)) : Option ((((List ((Int) × (Int))) × (Unit)) × (Unit)) × (Unit)) := spec_P6List_t n (spec_P6List_l4 n) a0

noncomputable def spec_P6Pick_t (n : Nat) (a0 : List (Int)) (a1 : Int) : Option ((((Int) × (Unit)) × (Unit)) × (Unit)) :=
  (spec_l00From n a0).bind fun r0 =>
  (spec_l00Src_pick n a1 ((r0.1.1.1.1, (r0.1.1.1.2.1, r0.1.1.1.2.2)))).bind fun r1 =>
  some ((((r1.1.1.1, ()), ()), ()))

noncomputable def spec_P6Pick (n : Nat) (a0 : List (Int)) (a1 : Int) : Option ((((Int) × (Unit)) × (Unit)) × (Unit)) := spec_P6Pick_t n a0 a1

noncomputable def spec_l01Neg_t (n : Nat) (a0 : (Int) × (Int)) : Option (((((Int) × (Int)) × (Unit)) × (Unit)) × (Unit)) :=
  some ((((((IntKind.wrap .i64 (0 - a0.1)), a0.2), ()), ()), ()))

noncomputable def spec_l01Neg (n : Nat) (a0 : (Int) × (Int)) : Option (((((Int) × (Int)) × (Unit)) × (Unit)) × (Unit)) := spec_l01Neg_t n a0

noncomputable def spec_l01Sub_t (n : Nat) (a0 : (Int) × (Int)) (a1 : (Int) × (Int)) : Option (((((Int) × (Int)) × (Unit)) × (((Int) × (Unit)) × (Unit))) × (Unit)) :=
  (spec_l01Neg n ((a1.1, a1.2))).bind fun r0 =>
  (spec_l01Add n ((a0.1, a0.2)) ((r0.1.1.1.1, r0.1.1.1.2))).bind fun r1 =>
  some (((((r1.1.1.1.1, r1.1.1.1.2), ()), ((r1.1.2.1.1, ()), ())), ()))

noncomputable def spec_l01Sub (n : Nat) (a0 : (Int) × (Int)) (a1 : (Int) × (Int)) : Option (((((Int) × (Int)) × (Unit)) × (((Int) × (Unit)) × (Unit))) × (Unit)) := spec_l01Sub_t n a0 a1

noncomputable def spec_SubFracs_t (n : Nat) (a0 : (Int) × (Int)) (a1 : (Int) × (Int)) : Option (((((Int) × (Int)) × (Unit)) × (((Int) × (Unit)) × (Unit))) × (Unit)) :=
  (spec_l01Two n ((a0.1, a0.2)) ((a1.1, a1.2))).bind fun r0 =>
  cond ((r0.1.1.1 != 0))
  (some (((((0, 0), ()), ((r0.1.1.1, ()), ())), ())))
  ((spec_l01Sub n ((a0.1, a0.2)) ((a1.1, a1.2))).bind fun r1 =>
    some (((((r1.1.1.1.1, r1.1.1.1.2), ()), ((r1.1.2.1.1, ()), ())), ())))

noncomputable def spec_SubFracs (n : Nat) (a0 : (Int) × (Int)) (a1 : (Int) × (Int)) : Option (((((Int) × (Int)) × (Unit)) × (((Int) × (Unit)) × (Unit))) × (Unit)) := spec_SubFracs_t n a0 a1

noncomputable def laws_FnFracs_t42 (n : Nat) (g42 : Int → Int → Int → (List ((Int) × (Int))) → Int → Int → Int → Int → Int → Int → Option ((((Bool) × (Unit)) × (Unit)) × (Unit))) (v51 : Int) (b0_0 : Int) (b0_1 : Int) (b1 : List ((Int) × (Int))) (b2_0 : Int) (b2_1 : Int) (b3_0 : Int) (b3_1 : Int) (b4_0 : Int) (b4_1 : Int) : Option ((((Bool) × (Unit)) × (Unit)) × (Unit)) :=
  cond (decide (v51 < ((b1.length : Nat) : Int)))
  (cond ((decide (0 ≤ v51) && decide (v51 < ((b1.length : Nat) : Int))))
    ((laws_f6less n (((b1.getD (Int.toNat v51) (0, 0)).1, (b1.getD (Int.toNat v51) (0, 0)).2)) ((b2_0, b2_1))).bind fun r32 =>
      cond r32.1.1.1
      (cond ((decide (0 ≤ v51) && decide (v51 < ((b1.length : Nat) : Int))))
        (cond ((decide (0 ≤ v51) && decide (v51 < ((b1.length : Nat) : Int))))
          ((laws_f6less n ((b0_0, b0_1)) (((b1.getD (Int.toNat v51) (0, 0)).1, (b1.getD (Int.toNat v51) (0, 0)).2))).bind fun r33 =>
            cond r33.1.1.1
            (cond ((decide (0 ≤ v51) && decide (v51 < ((b1.length : Nat) : Int))))
              (g42 ((IntKind.wrap .i64 (v51 + 1))) ((b1.getD (Int.toNat v51) (0, 0)).1) ((b1.getD (Int.toNat v51) (0, 0)).2) b1 ((b1.getD (Int.toNat v51) (0, 0)).1) ((b1.getD (Int.toNat v51) (0, 0)).2) b3_0 b3_1 b4_0 b4_1)
              (none))
            (g42 ((IntKind.wrap .i64 (v51 + 1))) b0_0 b0_1 b1 ((b1.getD (Int.toNat v51) (0, 0)).1) ((b1.getD (Int.toNat v51) (0, 0)).2) b3_0 b3_1 b4_0 b4_1))
          (none))
        (none))
      (cond ((decide (0 ≤ v51) && decide (v51 < ((b1.length : Nat) : Int))))
        ((laws_f6less n ((b0_0, b0_1)) (((b1.getD (Int.toNat v51) (0, 0)).1, (b1.getD (Int.toNat v51) (0, 0)).2))).bind fun r34 =>
          cond r34.1.1.1
          (cond ((decide (0 ≤ v51) && decide (v51 < ((b1.length : Nat) : Int))))
            (g42 ((IntKind.wrap .i64 (v51 + 1))) ((b1.getD (Int.toNat v51) (0, 0)).1) ((b1.getD (Int.toNat v51) (0, 0)).2) b1 b2_0 b2_1 b3_0 b3_1 b4_0 b4_1)
            (none))
          (g42 ((IntKind.wrap .i64 (v51 + 1))) b0_0 b0_1 b1 b2_0 b2_1 b3_0 b3_1 b4_0 b4_1))
        (none)))
    (none))
  ((laws_f6less n ((b4_0, b4_1)) ((b2_0, b2_1))).bind fun r35 =>
    cond (!r35.1.1.1)
    ((laws_f6less n ((b0_0, b0_1)) ((b4_0, b4_1))).bind fun r36 =>
      cond (!r36.1.1.1)
      ((laws_f6less n ((b3_0, b3_1)) ((b2_0, b2_1))).bind fun r37 =>
        cond (!r37.1.1.1)
        ((laws_f6less n ((b0_0, b0_1)) ((b3_0, b3_1))).bind fun r38 =>
          some (((((!r38.1.1.1), ()), ()), ())))
        (some ((((false, ()), ()), ()))))
      (some ((((false, ()), ()), ()))))
    (some ((((false, ()), ()), ()))))

noncomputable def laws_FnFracs_l42 (n : Nat) : Nat → Int → Int → Int → (List ((Int) × (Int))) → Int → Int → Int → Int → Int → Int → Option ((((Bool) × (Unit)) × (Unit)) × (Unit))
  | 0, _, _, _, _, _, _, _, _, _, _ => none
  | k + 1, v51, b0_0, b0_1, b1, b2_0, b2_1, b3_0, b3_1, b4_0, b4_1 => laws_FnFracs_t42 n (laws_FnFracs_l42 n k) v51 b0_0 b0_1 b1 b2_0 b2_1 b3_0 b3_1 b4_0 b4_1

noncomputable def laws_FnFracs_t (n : Nat) (h42 : Nat → Int → Int → Int → (List ((Int) × (Int))) → Int → Int → Int → Int → Int → Int → Option ((((Bool) × (Unit)) × (Unit)) × (Unit))) (a0 : List (Int)) (a1 : List (Int)) : Option ((((Bool) × (Unit)) × (Unit)) × (Unit)) :=
  (laws_f6big n a0).bind fun r0 =>
  cond r0.1.1.1
  (some ((((true, ()), ()), ())))
  ((laws_f6big n a1).bind fun r1 =>
    cond r1.1.1.1
    (some ((((true, ()), ()), ())))
    ((spec_P6Frac n a0).bind fun r2 =>
      (spec_P6Frac n a1).bind fun r3 =>
      (impl_FracText n ((r2.1.1.1.1, r2.1.1.1.2))).bind fun r4 =>
      (impl_ReadFrac n r4.1.1.1).bind fun r5 =>
      (impl_MakeFrac n ((IntKind.wrap .i64 (3 * r2.1.1.1.1))) ((IntKind.wrap .i64 (3 * r2.1.1.1.2)))).bind fun r6 =>
      (impl_AddFracs n ((r2.1.1.1.1, r2.1.1.1.2)) ((r3.1.1.1.1, r3.1.1.1.2))).bind fun r7 =>
      (impl_SubFracs n ((r7.1.1.1.1, r7.1.1.1.2)) ((r3.1.1.1.1, r3.1.1.1.2))).bind fun r8 =>
      (spec_AddFracs n ((r2.1.1.1.1, r2.1.1.1.2)) ((r3.1.1.1.1, r3.1.1.1.2))).bind fun r9 =>
      cond ((r5.1.2.1.1 != 0))
      (some ((((false, ()), ()), ())))
      (cond ((!((r5.1.1.1.1 == r2.1.1.1.1) && ((r5.1.1.1.2 == r2.1.1.1.2) && true))))
        (some ((((false, ()), ()), ())))
        ((impl_ValidFrac n ((r2.1.1.1.1, r2.1.1.1.2))).bind fun r10 =>
          cond (!r10.1.1.1)
          (some ((((false, ()), ()), ())))
          (cond ((r6.1.2.1.1 != 0))
            (some ((((false, ()), ()), ())))
            (cond ((!((r6.1.1.1.1 == r2.1.1.1.1) && ((r6.1.1.1.2 == r2.1.1.1.2) && true))))
              (some ((((false, ()), ()), ())))
              (cond ((r7.1.2.1.1 != r9.1.2.1.1))
                (some ((((false, ()), ()), ())))
                (cond ((r7.1.2.1.1 != 0))
                  (some ((((false, ()), ()), ())))
                  (cond ((!((r7.1.1.1.1 == r9.1.1.1.1) && ((r7.1.1.1.2 == r9.1.1.1.2) && true))))
                    (some ((((false, ()), ()), ())))
                    (cond ((r8.1.2.1.1 != 0))
                      (some ((((false, ()), ()), ())))
                      (cond ((!((r8.1.1.1.1 == r2.1.1.1.1) && ((r8.1.1.1.2 == r2.1.1.1.2) && true))))
                        (some ((((false, ()), ()), ())))
                        ((impl_MulFracs n ((r2.1.1.1.1, r2.1.1.1.2)) ((r3.1.1.1.1, r3.1.1.1.2))).bind fun r11 =>
                          (spec_MulFracs n ((r2.1.1.1.1, r2.1.1.1.2)) ((r3.1.1.1.1, r3.1.1.1.2))).bind fun r12 =>
                          cond ((r11.1.2.1.1 != r12.1.2.1.1))
                          (some ((((false, ()), ()), ())))
                          (cond ((r11.1.2.1.1 != 0))
                            (some ((((false, ()), ()), ())))
                            (cond ((!((r11.1.1.1.1 == r12.1.1.1.1) && ((r11.1.1.1.2 == r12.1.1.1.2) && true))))
                              (some ((((false, ()), ()), ())))
                              ((impl_DivFracs n ((r11.1.1.1.1, r11.1.1.1.2)) ((r3.1.1.1.1, r3.1.1.1.2))).bind fun r13 =>
                                cond ((r3.1.1.1.1 == 0))
                                (cond ((r13.1.2.1.1 != 4))
                                  (some ((((false, ()), ()), ())))
                                  (cond ((r3.1.1.1.1 != 0))
                                    (cond ((r13.1.2.1.1 != 0))
                                      (some ((((false, ()), ()), ())))
                                      (cond ((!((r13.1.1.1.1 == r2.1.1.1.1) && ((r13.1.1.1.2 == r2.1.1.1.2) && true))))
                                        (some ((((false, ()), ()), ())))
                                        ((impl_CompareFracs n ((r2.1.1.1.1, r2.1.1.1.2)) ((r3.1.1.1.1, r3.1.1.1.2))).bind fun r14 =>
                                          (impl_CompareFracs n ((r3.1.1.1.1, r3.1.1.1.2)) ((r2.1.1.1.1, r2.1.1.1.2))).bind fun r15 =>
                                          (impl_FloorOf n ((r2.1.1.1.1, r2.1.1.1.2))).bind fun r16 =>
                                          cond ((r14.1.2.1.1 != 0))
                                          (some ((((false, ()), ()), ())))
                                          (cond ((r15.1.2.1.1 != 0))
                                            (some ((((false, ()), ()), ())))
                                            (cond ((r14.1.1.1 != (IntKind.wrap .i64 (0 - r15.1.1.1))))
                                              (some ((((false, ()), ()), ())))
                                              (cond ((!((r14.1.1.1 == 0) == ((r2.1.1.1.1 == r3.1.1.1.1) && ((r2.1.1.1.2 == r3.1.1.1.2) && true)))))
                                                (some ((((false, ()), ()), ())))
                                                (cond ((r16.1.2.1.1 != 0))
                                                  (some ((((false, ()), ()), ())))
                                                  ((laws_f6less n ((r2.1.1.1.1, r2.1.1.1.2)) ((r16.1.1.1, 1))).bind fun r17 =>
                                                    cond r17.1.1.1
                                                    (some ((((false, ()), ()), ())))
                                                    ((laws_f6less n ((r2.1.1.1.1, r2.1.1.1.2)) (((IntKind.wrap .i64 (r16.1.1.1 + 1)), 1))).bind fun r18 =>
                                                      cond (!r18.1.1.1)
                                                      (some ((((false, ()), ()), ())))
                                                      ((spec_P6Pick n a1 5).bind fun r19 =>
                                                        (impl_NearestTo n ((r2.1.1.1.1, r2.1.1.1.2)) (((IntKind.wrap .i64 (1 + r19.1.1.1)), 7))).bind fun r20 =>
                                                        (spec_MulFracs n (((IntKind.wrap .i64 (1 + r19.1.1.1)), 7)) ((r20.1.1.1, 1))).bind fun r21 =>
                                                        (spec_SubFracs n ((r2.1.1.1.1, r2.1.1.1.2)) ((r21.1.1.1.1, r21.1.1.1.2))).bind fun r22 =>
                                                        (spec_DivFracs n (((IntKind.wrap .i64 (1 + r19.1.1.1)), 7)) ((2, 1))).bind fun r23 =>
                                                        cond ((r20.1.2.1.1 != 0))
                                                        (some ((((false, ()), ()), ())))
                                                        (cond ((r21.1.2.1.1 != 0))
                                                          (some ((((false, ()), ()), ())))
                                                          (cond ((r22.1.2.1.1 != 0))
                                                            (some ((((false, ()), ()), ())))
                                                            (cond ((r23.1.2.1.1 != 0))
                                                              (some ((((false, ()), ()), ())))
                                                              ((laws_f6less n ((r23.1.1.1.1, r23.1.1.1.2)) ((r22.1.1.1.1, r22.1.1.1.2))).bind fun r24 =>
                                                                cond r24.1.1.1
                                                                (some ((((false, ()), ()), ())))
                                                                (cond (((r22.1.1.1.1 == r23.1.1.1.1) && ((r22.1.1.1.2 == r23.1.1.1.2) && true)))
                                                                  (some ((((false, ()), ()), ())))
                                                                  ((laws_f6less n ((r22.1.1.1.1, r22.1.1.1.2)) (((IntKind.wrap .i64 (0 - r23.1.1.1.1)), r23.1.1.1.2))).bind fun r25 =>
                                                                    cond r25.1.1.1
                                                                    (some ((((false, ()), ()), ())))
                                                                    ((spec_P6List n a0).bind fun r26 =>
                                                                      (impl_MeanOf n r26.1.1.1).bind fun r27 =>
                                                                      (impl_MiddleOf n r26.1.1.1).bind fun r28 =>
                                                                      (spec_MiddleOf n r26.1.1.1).bind fun r29 =>
                                                                      (impl_SumOf n r26.1.1.1).bind fun r30 =>
                                                                      (spec_MulFracs n ((r27.1.1.1.1, r27.1.1.1.2)) ((((r26.1.1.1.length : Nat) : Int), 1))).bind fun r31 =>
                                                                      cond ((r27.1.2.1.1 != 0))
                                                                      (some ((((false, ()), ()), ())))
                                                                      (cond ((r28.1.2.1.1 != r29.1.2.1.1))
                                                                        (some ((((false, ()), ()), ())))
                                                                        (cond ((r28.1.2.1.1 != 0))
                                                                          (some ((((false, ()), ()), ())))
                                                                          (cond ((!((r28.1.1.1.1 == r29.1.1.1.1) && ((r28.1.1.1.2 == r29.1.1.1.2) && true))))
                                                                            (some ((((false, ()), ()), ())))
                                                                            (cond ((r30.1.2.1.1 != 0))
                                                                              (some ((((false, ()), ()), ())))
                                                                              (cond ((r31.1.2.1.1 != 0))
                                                                                (some ((((false, ()), ()), ())))
                                                                                (cond ((!((r31.1.1.1.1 == r30.1.1.1.1) && ((r31.1.1.1.2 == r30.1.1.1.2) && true))))
                                                                                  (some ((((false, ()), ()), ())))
                                                                                  (cond (decide (0 < ((r26.1.1.1.length : Nat) : Int)))
                                                                                    (cond (decide (0 < ((r26.1.1.1.length : Nat) : Int)))
                                                                                      (h42 n 0 ((r26.1.1.1.getD (Int.toNat 0) (0, 0)).1) ((r26.1.1.1.getD (Int.toNat 0) (0, 0)).2) r26.1.1.1 ((r26.1.1.1.getD (Int.toNat 0) (0, 0)).1) ((r26.1.1.1.getD (Int.toNat 0) (0, 0)).2) r29.1.1.1.1 r29.1.1.1.2 r27.1.1.1.1 r27.1.1.1.2)
                                                                                      (none))
                                                                                    (none)))))))))))))))))))))))))
                                    ((impl_CompareFracs n ((r2.1.1.1.1, r2.1.1.1.2)) ((r3.1.1.1.1, r3.1.1.1.2))).bind fun r39 =>
                                      (impl_CompareFracs n ((r3.1.1.1.1, r3.1.1.1.2)) ((r2.1.1.1.1, r2.1.1.1.2))).bind fun r40 =>
                                      (impl_FloorOf n ((r2.1.1.1.1, r2.1.1.1.2))).bind fun r41 =>
                                      cond ((r39.1.2.1.1 != 0))
                                      (some ((((false, ()), ()), ())))
                                      (cond ((r40.1.2.1.1 != 0))
                                        (some ((((false, ()), ()), ())))
                                        (cond ((r39.1.1.1 != (IntKind.wrap .i64 (0 - r40.1.1.1))))
                                          (some ((((false, ()), ()), ())))
                                          (cond ((!((r39.1.1.1 == 0) == ((r2.1.1.1.1 == r3.1.1.1.1) && ((r2.1.1.1.2 == r3.1.1.1.2) && true)))))
                                            (some ((((false, ()), ()), ())))
                                            (cond ((r41.1.2.1.1 != 0))
                                              (some ((((false, ()), ()), ())))
                                              ((laws_f6less n ((r2.1.1.1.1, r2.1.1.1.2)) ((r41.1.1.1, 1))).bind fun r42 =>
                                                cond r42.1.1.1
                                                (some ((((false, ()), ()), ())))
                                                ((laws_f6less n ((r2.1.1.1.1, r2.1.1.1.2)) (((IntKind.wrap .i64 (r41.1.1.1 + 1)), 1))).bind fun r43 =>
                                                  cond (!r43.1.1.1)
                                                  (some ((((false, ()), ()), ())))
                                                  ((spec_P6Pick n a1 5).bind fun r44 =>
                                                    (impl_NearestTo n ((r2.1.1.1.1, r2.1.1.1.2)) (((IntKind.wrap .i64 (1 + r44.1.1.1)), 7))).bind fun r45 =>
                                                    (spec_MulFracs n (((IntKind.wrap .i64 (1 + r44.1.1.1)), 7)) ((r45.1.1.1, 1))).bind fun r46 =>
                                                    (spec_SubFracs n ((r2.1.1.1.1, r2.1.1.1.2)) ((r46.1.1.1.1, r46.1.1.1.2))).bind fun r47 =>
                                                    (spec_DivFracs n (((IntKind.wrap .i64 (1 + r44.1.1.1)), 7)) ((2, 1))).bind fun r48 =>
                                                    cond ((r45.1.2.1.1 != 0))
                                                    (some ((((false, ()), ()), ())))
                                                    (cond ((r46.1.2.1.1 != 0))
                                                      (some ((((false, ()), ()), ())))
                                                      (cond ((r47.1.2.1.1 != 0))
                                                        (some ((((false, ()), ()), ())))
                                                        (cond ((r48.1.2.1.1 != 0))
                                                          (some ((((false, ()), ()), ())))
                                                          ((laws_f6less n ((r48.1.1.1.1, r48.1.1.1.2)) ((r47.1.1.1.1, r47.1.1.1.2))).bind fun r49 =>
                                                            cond r49.1.1.1
                                                            (some ((((false, ()), ()), ())))
                                                            (cond (((r47.1.1.1.1 == r48.1.1.1.1) && ((r47.1.1.1.2 == r48.1.1.1.2) && true)))
                                                              (some ((((false, ()), ()), ())))
                                                              ((laws_f6less n ((r47.1.1.1.1, r47.1.1.1.2)) (((IntKind.wrap .i64 (0 - r48.1.1.1.1)), r48.1.1.1.2))).bind fun r50 =>
                                                                cond r50.1.1.1
                                                                (some ((((false, ()), ()), ())))
                                                                ((spec_P6List n a0).bind fun r51 =>
                                                                  (impl_MeanOf n r51.1.1.1).bind fun r52 =>
                                                                  (impl_MiddleOf n r51.1.1.1).bind fun r53 =>
                                                                  (spec_MiddleOf n r51.1.1.1).bind fun r54 =>
                                                                  (impl_SumOf n r51.1.1.1).bind fun r55 =>
                                                                  (spec_MulFracs n ((r52.1.1.1.1, r52.1.1.1.2)) ((((r51.1.1.1.length : Nat) : Int), 1))).bind fun r56 =>
                                                                  cond ((r52.1.2.1.1 != 0))
                                                                  (some ((((false, ()), ()), ())))
                                                                  (cond ((r53.1.2.1.1 != r54.1.2.1.1))
                                                                    (some ((((false, ()), ()), ())))
                                                                    (cond ((r53.1.2.1.1 != 0))
                                                                      (some ((((false, ()), ()), ())))
                                                                      (cond ((!((r53.1.1.1.1 == r54.1.1.1.1) && ((r53.1.1.1.2 == r54.1.1.1.2) && true))))
                                                                        (some ((((false, ()), ()), ())))
                                                                        (cond ((r55.1.2.1.1 != 0))
                                                                          (some ((((false, ()), ()), ())))
                                                                          (cond ((r56.1.2.1.1 != 0))
                                                                            (some ((((false, ()), ()), ())))
                                                                            (cond ((!((r56.1.1.1.1 == r55.1.1.1.1) && ((r56.1.1.1.2 == r55.1.1.1.2) && true))))
                                                                              (some ((((false, ()), ()), ())))
                                                                              (cond (decide (0 < ((r51.1.1.1.length : Nat) : Int)))
                                                                                (cond (decide (0 < ((r51.1.1.1.length : Nat) : Int)))
                                                                                  (h42 n 0 ((r51.1.1.1.getD (Int.toNat 0) (0, 0)).1) ((r51.1.1.1.getD (Int.toNat 0) (0, 0)).2) r51.1.1.1 ((r51.1.1.1.getD (Int.toNat 0) (0, 0)).1) ((r51.1.1.1.getD (Int.toNat 0) (0, 0)).2) r54.1.1.1.1 r54.1.1.1.2 r52.1.1.1.1 r52.1.1.1.2)
                                                                                  (none))
                                                                                (none)))))))))))))))))))))))))
                                (cond ((r3.1.1.1.1 != 0))
                                  (cond ((r13.1.2.1.1 != 0))
                                    (some ((((false, ()), ()), ())))
                                    (cond ((!((r13.1.1.1.1 == r2.1.1.1.1) && ((r13.1.1.1.2 == r2.1.1.1.2) && true))))
                                      (some ((((false, ()), ()), ())))
                                      ((impl_CompareFracs n ((r2.1.1.1.1, r2.1.1.1.2)) ((r3.1.1.1.1, r3.1.1.1.2))).bind fun r57 =>
                                        (impl_CompareFracs n ((r3.1.1.1.1, r3.1.1.1.2)) ((r2.1.1.1.1, r2.1.1.1.2))).bind fun r58 =>
                                        (impl_FloorOf n ((r2.1.1.1.1, r2.1.1.1.2))).bind fun r59 =>
                                        cond ((r57.1.2.1.1 != 0))
                                        (some ((((false, ()), ()), ())))
                                        (cond ((r58.1.2.1.1 != 0))
                                          (some ((((false, ()), ()), ())))
                                          (cond ((r57.1.1.1 != (IntKind.wrap .i64 (0 - r58.1.1.1))))
                                            (some ((((false, ()), ()), ())))
                                            (cond ((!((r57.1.1.1 == 0) == ((r2.1.1.1.1 == r3.1.1.1.1) && ((r2.1.1.1.2 == r3.1.1.1.2) && true)))))
                                              (some ((((false, ()), ()), ())))
                                              (cond ((r59.1.2.1.1 != 0))
                                                (some ((((false, ()), ()), ())))
                                                ((laws_f6less n ((r2.1.1.1.1, r2.1.1.1.2)) ((r59.1.1.1, 1))).bind fun r60 =>
                                                  cond r60.1.1.1
                                                  (some ((((false, ()), ()), ())))
                                                  ((laws_f6less n ((r2.1.1.1.1, r2.1.1.1.2)) (((IntKind.wrap .i64 (r59.1.1.1 + 1)), 1))).bind fun r61 =>
                                                    cond (!r61.1.1.1)
                                                    (some ((((false, ()), ()), ())))
                                                    ((spec_P6Pick n a1 5).bind fun r62 =>
                                                      (impl_NearestTo n ((r2.1.1.1.1, r2.1.1.1.2)) (((IntKind.wrap .i64 (1 + r62.1.1.1)), 7))).bind fun r63 =>
                                                      (spec_MulFracs n (((IntKind.wrap .i64 (1 + r62.1.1.1)), 7)) ((r63.1.1.1, 1))).bind fun r64 =>
                                                      (spec_SubFracs n ((r2.1.1.1.1, r2.1.1.1.2)) ((r64.1.1.1.1, r64.1.1.1.2))).bind fun r65 =>
                                                      (spec_DivFracs n (((IntKind.wrap .i64 (1 + r62.1.1.1)), 7)) ((2, 1))).bind fun r66 =>
                                                      cond ((r63.1.2.1.1 != 0))
                                                      (some ((((false, ()), ()), ())))
                                                      (cond ((r64.1.2.1.1 != 0))
                                                        (some ((((false, ()), ()), ())))
                                                        (cond ((r65.1.2.1.1 != 0))
                                                          (some ((((false, ()), ()), ())))
                                                          (cond ((r66.1.2.1.1 != 0))
                                                            (some ((((false, ()), ()), ())))
                                                            ((laws_f6less n ((r66.1.1.1.1, r66.1.1.1.2)) ((r65.1.1.1.1, r65.1.1.1.2))).bind fun r67 =>
                                                              cond r67.1.1.1
                                                              (some ((((false, ()), ()), ())))
                                                              (cond (((r65.1.1.1.1 == r66.1.1.1.1) && ((r65.1.1.1.2 == r66.1.1.1.2) && true)))
                                                                (some ((((false, ()), ()), ())))
                                                                ((laws_f6less n ((r65.1.1.1.1, r65.1.1.1.2)) (((IntKind.wrap .i64 (0 - r66.1.1.1.1)), r66.1.1.1.2))).bind fun r68 =>
                                                                  cond r68.1.1.1
                                                                  (some ((((false, ()), ()), ())))
                                                                  ((spec_P6List n a0).bind fun r69 =>
                                                                    (impl_MeanOf n r69.1.1.1).bind fun r70 =>
                                                                    (impl_MiddleOf n r69.1.1.1).bind fun r71 =>
                                                                    (spec_MiddleOf n r69.1.1.1).bind fun r72 =>
                                                                    (impl_SumOf n r69.1.1.1).bind fun r73 =>
                                                                    (spec_MulFracs n ((r70.1.1.1.1, r70.1.1.1.2)) ((((r69.1.1.1.length : Nat) : Int), 1))).bind fun r74 =>
                                                                    cond ((r70.1.2.1.1 != 0))
                                                                    (some ((((false, ()), ()), ())))
                                                                    (cond ((r71.1.2.1.1 != r72.1.2.1.1))
                                                                      (some ((((false, ()), ()), ())))
                                                                      (cond ((r71.1.2.1.1 != 0))
                                                                        (some ((((false, ()), ()), ())))
                                                                        (cond ((!((r71.1.1.1.1 == r72.1.1.1.1) && ((r71.1.1.1.2 == r72.1.1.1.2) && true))))
                                                                          (some ((((false, ()), ()), ())))
                                                                          (cond ((r73.1.2.1.1 != 0))
                                                                            (some ((((false, ()), ()), ())))
                                                                            (cond ((r74.1.2.1.1 != 0))
                                                                              (some ((((false, ()), ()), ())))
                                                                              (cond ((!((r74.1.1.1.1 == r73.1.1.1.1) && ((r74.1.1.1.2 == r73.1.1.1.2) && true))))
                                                                                (some ((((false, ()), ()), ())))
                                                                                (cond (decide (0 < ((r69.1.1.1.length : Nat) : Int)))
                                                                                  (cond (decide (0 < ((r69.1.1.1.length : Nat) : Int)))
                                                                                    (h42 n 0 ((r69.1.1.1.getD (Int.toNat 0) (0, 0)).1) ((r69.1.1.1.getD (Int.toNat 0) (0, 0)).2) r69.1.1.1 ((r69.1.1.1.getD (Int.toNat 0) (0, 0)).1) ((r69.1.1.1.getD (Int.toNat 0) (0, 0)).2) r72.1.1.1.1 r72.1.1.1.2 r70.1.1.1.1 r70.1.1.1.2)
                                                                                    (none))
                                                                                  (none)))))))))))))))))))))))))
                                  ((impl_CompareFracs n ((r2.1.1.1.1, r2.1.1.1.2)) ((r3.1.1.1.1, r3.1.1.1.2))).bind fun r75 =>
                                    (impl_CompareFracs n ((r3.1.1.1.1, r3.1.1.1.2)) ((r2.1.1.1.1, r2.1.1.1.2))).bind fun r76 =>
                                    (impl_FloorOf n ((r2.1.1.1.1, r2.1.1.1.2))).bind fun r77 =>
                                    cond ((r75.1.2.1.1 != 0))
                                    (some ((((false, ()), ()), ())))
                                    (cond ((r76.1.2.1.1 != 0))
                                      (some ((((false, ()), ()), ())))
                                      (cond ((r75.1.1.1 != (IntKind.wrap .i64 (0 - r76.1.1.1))))
                                        (some ((((false, ()), ()), ())))
                                        (cond ((!((r75.1.1.1 == 0) == ((r2.1.1.1.1 == r3.1.1.1.1) && ((r2.1.1.1.2 == r3.1.1.1.2) && true)))))
                                          (some ((((false, ()), ()), ())))
                                          (cond ((r77.1.2.1.1 != 0))
                                            (some ((((false, ()), ()), ())))
                                            ((laws_f6less n ((r2.1.1.1.1, r2.1.1.1.2)) ((r77.1.1.1, 1))).bind fun r78 =>
                                              cond r78.1.1.1
                                              (some ((((false, ()), ()), ())))
                                              ((laws_f6less n ((r2.1.1.1.1, r2.1.1.1.2)) (((IntKind.wrap .i64 (r77.1.1.1 + 1)), 1))).bind fun r79 =>
                                                cond (!r79.1.1.1)
                                                (some ((((false, ()), ()), ())))
                                                ((spec_P6Pick n a1 5).bind fun r80 =>
                                                  (impl_NearestTo n ((r2.1.1.1.1, r2.1.1.1.2)) (((IntKind.wrap .i64 (1 + r80.1.1.1)), 7))).bind fun r81 =>
                                                  (spec_MulFracs n (((IntKind.wrap .i64 (1 + r80.1.1.1)), 7)) ((r81.1.1.1, 1))).bind fun r82 =>
                                                  (spec_SubFracs n ((r2.1.1.1.1, r2.1.1.1.2)) ((r82.1.1.1.1, r82.1.1.1.2))).bind fun r83 =>
                                                  (spec_DivFracs n (((IntKind.wrap .i64 (1 + r80.1.1.1)), 7)) ((2, 1))).bind fun r84 =>
                                                  cond ((r81.1.2.1.1 != 0))
                                                  (some ((((false, ()), ()), ())))
                                                  (cond ((r82.1.2.1.1 != 0))
                                                    (some ((((false, ()), ()), ())))
                                                    (cond ((r83.1.2.1.1 != 0))
                                                      (some ((((false, ()), ()), ())))
                                                      (cond ((r84.1.2.1.1 != 0))
                                                        (some ((((false, ()), ()), ())))
                                                        ((laws_f6less n ((r84.1.1.1.1, r84.1.1.1.2)) ((r83.1.1.1.1, r83.1.1.1.2))).bind fun r85 =>
                                                          cond r85.1.1.1
                                                          (some ((((false, ()), ()), ())))
                                                          (cond (((r83.1.1.1.1 == r84.1.1.1.1) && ((r83.1.1.1.2 == r84.1.1.1.2) && true)))
                                                            (some ((((false, ()), ()), ())))
                                                            ((laws_f6less n ((r83.1.1.1.1, r83.1.1.1.2)) (((IntKind.wrap .i64 (0 - r84.1.1.1.1)), r84.1.1.1.2))).bind fun r86 =>
                                                              cond r86.1.1.1
                                                              (some ((((false, ()), ()), ())))
                                                              ((spec_P6List n a0).bind fun r87 =>
                                                                (impl_MeanOf n r87.1.1.1).bind fun r88 =>
                                                                (impl_MiddleOf n r87.1.1.1).bind fun r89 =>
                                                                (spec_MiddleOf n r87.1.1.1).bind fun r90 =>
                                                                (impl_SumOf n r87.1.1.1).bind fun r91 =>
                                                                (spec_MulFracs n ((r88.1.1.1.1, r88.1.1.1.2)) ((((r87.1.1.1.length : Nat) : Int), 1))).bind fun r92 =>
                                                                cond ((r88.1.2.1.1 != 0))
                                                                (some ((((false, ()), ()), ())))
                                                                (cond ((r89.1.2.1.1 != r90.1.2.1.1))
                                                                  (some ((((false, ()), ()), ())))
                                                                  (cond ((r89.1.2.1.1 != 0))
                                                                    (some ((((false, ()), ()), ())))
                                                                    (cond ((!((r89.1.1.1.1 == r90.1.1.1.1) && ((r89.1.1.1.2 == r90.1.1.1.2) && true))))
                                                                      (some ((((false, ()), ()), ())))
                                                                      (cond ((r91.1.2.1.1 != 0))
                                                                        (some ((((false, ()), ()), ())))
                                                                        (cond ((r92.1.2.1.1 != 0))
                                                                          (some ((((false, ()), ()), ())))
                                                                          (cond ((!((r92.1.1.1.1 == r91.1.1.1.1) && ((r92.1.1.1.2 == r91.1.1.1.2) && true))))
                                                                            (some ((((false, ()), ()), ())))
                                                                            (cond (decide (0 < ((r87.1.1.1.length : Nat) : Int)))
                                                                              (cond (decide (0 < ((r87.1.1.1.length : Nat) : Int)))
                                                                                (h42 n 0 ((r87.1.1.1.getD (Int.toNat 0) (0, 0)).1) ((r87.1.1.1.getD (Int.toNat 0) (0, 0)).2) r87.1.1.1 ((r87.1.1.1.getD (Int.toNat 0) (0, 0)).1) ((r87.1.1.1.getD (Int.toNat 0) (0, 0)).2) r90.1.1.1.1 r90.1.1.1.2 r88.1.1.1.1 r88.1.1.1.2)
                                                                                (none))
                                                                              (none)))))))))))))))))))))))))))))))))))))))

noncomputable def laws_FnFracs (n : Nat) (a0 : List (Int)) (a1 : List (Int)) : Option ((((Bool) × (Unit)) × (Unit)) × (Unit)) := laws_FnFracs_t n (laws_FnFracs_l42 n) a0 a1

noncomputable def impl_isAngle_t (n : Nat) (a0 : Int) : Option ((((Bool) × (Unit)) × (Unit)) × (Unit)) :=
  (impl_within n a0 0 1295999).bind fun r0 =>
  some ((((r0.1.1.1, ()), ()), ()))

noncomputable def impl_isAngle (n : Nat) (a0 : Int) : Option ((((Bool) × (Unit)) × (Unit)) × (Unit)) := impl_isAngle_t n a0

noncomputable def impl_two_t (n : Nat) (a0 : Int) : Option ((((ByteArray) × (Unit)) × (Unit)) × (Unit)) :=
  cond (decide (a0 < 10))
  ((impl_dec n a0).bind fun r0 =>
    cond ((roomStr (ByteArray.mk #[48]) r0.1.1.1))
    (some ((((((ByteArray.mk #[48]) ++ r0.1.1.1), ()), ()), ())))
    (none))
  ((impl_dec n a0).bind fun r1 =>
    some ((((r1.1.1.1, ()), ()), ())))

noncomputable def impl_two (n : Nat) (a0 : Int) : Option ((((ByteArray) × (Unit)) × (Unit)) × (Unit)) := impl_two_t n a0

noncomputable def impl_AngleText_t (n : Nat) (a0 : Int) : Option ((((ByteArray) × (Unit)) × (Unit)) × (Unit)) :=
  (impl_isAngle n a0).bind fun r0 =>
  cond (!r0.1.1.1)
  (some (((((ByteArray.mk #[]), ()), ()), ())))
  ((impl_dec n ((IntKind.wrap .i64 (Int.tdiv a0 3600)))).bind fun r1 =>
    cond ((roomStr r1.1.1.1 (ByteArray.mk #[58])))
    ((impl_two n ((Int.tmod (IntKind.wrap .i64 (Int.tdiv a0 60)) 60))).bind fun r2 =>
      cond ((roomStr (r1.1.1.1 ++ (ByteArray.mk #[58])) r2.1.1.1))
      (cond ((roomStr ((r1.1.1.1 ++ (ByteArray.mk #[58])) ++ r2.1.1.1) (ByteArray.mk #[58])))
        ((impl_two n ((Int.tmod a0 60))).bind fun r3 =>
          cond ((roomStr (((r1.1.1.1 ++ (ByteArray.mk #[58])) ++ r2.1.1.1) ++ (ByteArray.mk #[58])) r3.1.1.1))
          (some ((((((((r1.1.1.1 ++ (ByteArray.mk #[58])) ++ r2.1.1.1) ++ (ByteArray.mk #[58])) ++ r3.1.1.1), ()), ()), ())))
          (none))
        (none))
      (none))
    (none))

noncomputable def impl_AngleText (n : Nat) (a0 : Int) : Option ((((ByteArray) × (Unit)) × (Unit)) × (Unit)) := impl_AngleText_t n a0

noncomputable def impl_Standard_good_t (n : Nat) (a0 : (ByteArray) × ((Int) × ((((Int) × (Int)) × ((Int) × (Int))) × (((Int) × (Int)) × ((Int) × (Int)))))) (a1 : Int) : Option ((((Bool) × (Unit)) × (Unit)) × (Unit)) :=
  (impl_within n a1 a0.2.2.2.2.1 ((IntKind.wrap .i64 (a0.2.2.2.2.1 + a0.2.2.2.2.2)))).bind fun r0 =>
  some ((((r0.1.1.1, ()), ()), ()))

noncomputable def impl_Standard_good (n : Nat) (a0 : (ByteArray) × ((Int) × ((((Int) × (Int)) × ((Int) × (Int))) × (((Int) × (Int)) × ((Int) × (Int)))))) (a1 : Int) : Option ((((Bool) × (Unit)) × (Unit)) × (Unit)) := impl_Standard_good_t n a0 a1

noncomputable def impl_ValidSpan_t (n : Nat) (a0 : ((Int) × (Int)) × ((Int) × (Int))) : Option ((((Bool) × (Unit)) × (Unit)) × (Unit)) :=
  (impl_areValid n (((a0.1.1, a0.1.2) :: ((a0.2.1, a0.2.2) :: [])))).bind fun r0 =>
  cond r0.1.1.1
  ((impl_compare n ((a0.1.1, a0.1.2)) ((a0.2.1, a0.2.2))).bind fun r1 =>
    some ((((decide (r1.1.1.1 ≤ 0), ()), ()), ())))
  (some ((((false, ()), ()), ())))

noncomputable def impl_ValidSpan (n : Nat) (a0 : ((Int) × (Int)) × ((Int) × (Int))) : Option ((((Bool) × (Unit)) × (Unit)) × (Unit)) := impl_ValidSpan_t n a0

noncomputable def impl_isWord_t2 (n : Nat) (g2 : Int → ByteArray → Int → Option ((((Bool) × (Unit)) × (Unit)) × (Unit))) (v6 : Int) (v0 : ByteArray) (v5 : Int) : Option ((((Bool) × (Unit)) × (Unit)) × (Unit)) :=
  cond (decide (v6 < v5))
  (cond ((decide (0 ≤ v6) && decide (v6 < (((ByteArray.size v0) : Nat) : Int))))
    (cond (decide ((byteAt v0 v6) < 97))
      (some ((((false, ()), ()), ())))
      (cond ((decide (0 ≤ v6) && decide (v6 < (((ByteArray.size v0) : Nat) : Int))))
        (cond (decide ((byteAt v0 v6) > 122))
          (some ((((false, ()), ()), ())))
          (g2 ((IntKind.wrap .i64 (v6 + 1))) v0 v5))
        (none)))
    (none))
  ((impl_within n ((((ByteArray.size v0) : Nat) : Int)) 1 12).bind fun r0 =>
    some ((((r0.1.1.1, ()), ()), ())))

noncomputable def impl_isWord_l2 (n : Nat) : Nat → Int → ByteArray → Int → Option ((((Bool) × (Unit)) × (Unit)) × (Unit))
  | 0, _, _, _ => none
  | k + 1, v6, v0, v5 => impl_isWord_t2 n (impl_isWord_l2 n k) v6 v0 v5

noncomputable def impl_isWord_t (n : Nat) (h2 : Nat → Int → ByteArray → Int → Option ((((Bool) × (Unit)) × (Unit)) × (Unit))) (a0 : ByteArray) : Option ((((Bool) × (Unit)) × (Unit)) × (Unit)) :=
  h2 n 0 a0 ((((ByteArray.size a0) : Nat) : Int))

noncomputable def impl_isWord (n : Nat) (a0 : ByteArray) : Option ((((Bool) × (Unit)) × (Unit)) × (Unit)) := impl_isWord_t n (impl_isWord_l2 n) a0

noncomputable def impl_ValidChain_1_t (n : Nat) (a0 : (ByteArray) × ((Int) × ((((Int) × (Int)) × ((Int) × (Int))) × (((Int) × (Int)) × ((Int) × (Int)))))) (b0 : (ByteArray) × ((Int) × ((((Int) × (Int)) × ((Int) × (Int))) × (((Int) × (Int)) × ((Int) × (Int)))))) : Option ((((Bool) × (Unit)) × (Unit)) × (((ByteArray) × ((Int) × ((((Int) × (Int)) × ((Int) × (Int))) × (((Int) × (Int)) × ((Int) × (Int)))))) × (Unit))) :=
  some (((((eqStr a0.1 b0.1), ()), ()), ((b0.1, (b0.2.1, (((b0.2.2.1.1.1, b0.2.2.1.1.2), (b0.2.2.1.2.1, b0.2.2.1.2.2)), ((b0.2.2.2.1.1, b0.2.2.2.1.2), (b0.2.2.2.2.1, b0.2.2.2.2.2))))), ())))

noncomputable def impl_ValidChain_1 (n : Nat) (a0 : (ByteArray) × ((Int) × ((((Int) × (Int)) × ((Int) × (Int))) × (((Int) × (Int)) × ((Int) × (Int)))))) (b0 : (ByteArray) × ((Int) × ((((Int) × (Int)) × ((Int) × (Int))) × (((Int) × (Int)) × ((Int) × (Int)))))) : Option ((((Bool) × (Unit)) × (Unit)) × (((ByteArray) × ((Int) × ((((Int) × (Int)) × ((Int) × (Int))) × (((Int) × (Int)) × ((Int) × (Int)))))) × (Unit))) := impl_ValidChain_1_t n a0 b0

noncomputable def slices_IndexFunc_impl_Standard_impl_Standard_at_impl_ValidChain_1_t2 (n : Nat) (g2 : Int → (List ((ByteArray) × ((Int) × ((((Int) × (Int)) × ((Int) × (Int))) × (((Int) × (Int)) × ((Int) × (Int))))))) → Int → ByteArray → Int → Int → Int → Int → Int → Int → Int → Int → Int → Option ((((Int) × (Unit)) × (Unit)) × (((ByteArray) × ((Int) × ((((Int) × (Int)) × ((Int) × (Int))) × (((Int) × (Int)) × ((Int) × (Int)))))) × (Unit)))) (v8 : Int) (v0 : List ((ByteArray) × ((Int) × ((((Int) × (Int)) × ((Int) × (Int))) × (((Int) × (Int)) × ((Int) × (Int))))))) (v7 : Int) (b0_0 : ByteArray) (b0_1 : Int) (b0_2 : Int) (b0_3 : Int) (b0_4 : Int) (b0_5 : Int) (b0_6 : Int) (b0_7 : Int) (b0_8 : Int) (b0_9 : Int) : Option ((((Int) × (Unit)) × (Unit)) × (((ByteArray) × ((Int) × ((((Int) × (Int)) × ((Int) × (Int))) × (((Int) × (Int)) × ((Int) × (Int)))))) × (Unit))) :=
  cond (decide (v8 < v7))
  (cond ((decide (0 ≤ v8) && decide (v8 < ((v0.length : Nat) : Int))))
    ((impl_ValidChain_1 n (((v0.getD (Int.toNat v8) ((ByteArray.mk #[]), (0, (((0, 0), (0, 0)), ((0, 0), (0, 0)))))).1, ((v0.getD (Int.toNat v8) ((ByteArray.mk #[]), (0, (((0, 0), (0, 0)), ((0, 0), (0, 0)))))).2.1, ((((v0.getD (Int.toNat v8) ((ByteArray.mk #[]), (0, (((0, 0), (0, 0)), ((0, 0), (0, 0)))))).2.2.1.1.1, (v0.getD (Int.toNat v8) ((ByteArray.mk #[]), (0, (((0, 0), (0, 0)), ((0, 0), (0, 0)))))).2.2.1.1.2), ((v0.getD (Int.toNat v8) ((ByteArray.mk #[]), (0, (((0, 0), (0, 0)), ((0, 0), (0, 0)))))).2.2.1.2.1, (v0.getD (Int.toNat v8) ((ByteArray.mk #[]), (0, (((0, 0), (0, 0)), ((0, 0), (0, 0)))))).2.2.1.2.2)), (((v0.getD (Int.toNat v8) ((ByteArray.mk #[]), (0, (((0, 0), (0, 0)), ((0, 0), (0, 0)))))).2.2.2.1.1, (v0.getD (Int.toNat v8) ((ByteArray.mk #[]), (0, (((0, 0), (0, 0)), ((0, 0), (0, 0)))))).2.2.2.1.2), ((v0.getD (Int.toNat v8) ((ByteArray.mk #[]), (0, (((0, 0), (0, 0)), ((0, 0), (0, 0)))))).2.2.2.2.1, (v0.getD (Int.toNat v8) ((ByteArray.mk #[]), (0, (((0, 0), (0, 0)), ((0, 0), (0, 0)))))).2.2.2.2.2)))))) ((b0_0, (b0_1, (((b0_2, b0_3), (b0_4, b0_5)), ((b0_6, b0_7), (b0_8, b0_9))))))).bind fun r0 =>
      cond r0.1.1.1
      (some ((((v8, ()), ()), ((r0.2.1.1, (r0.2.1.2.1, (((r0.2.1.2.2.1.1.1, r0.2.1.2.2.1.1.2), (r0.2.1.2.2.1.2.1, r0.2.1.2.2.1.2.2)), ((r0.2.1.2.2.2.1.1, r0.2.1.2.2.2.1.2), (r0.2.1.2.2.2.2.1, r0.2.1.2.2.2.2.2))))), ()))))
      (g2 ((IntKind.wrap .i64 (v8 + 1))) v0 v7 r0.2.1.1 r0.2.1.2.1 r0.2.1.2.2.1.1.1 r0.2.1.2.2.1.1.2 r0.2.1.2.2.1.2.1 r0.2.1.2.2.1.2.2 r0.2.1.2.2.2.1.1 r0.2.1.2.2.2.1.2 r0.2.1.2.2.2.2.1 r0.2.1.2.2.2.2.2))
    (none))
  (some (((((-1), ()), ()), ((b0_0, (b0_1, (((b0_2, b0_3), (b0_4, b0_5)), ((b0_6, b0_7), (b0_8, b0_9))))), ()))))

noncomputable def slices_IndexFunc_impl_Standard_impl_Standard_at_impl_ValidChain_1_l2 (n : Nat) : Nat → Int → (List ((ByteArray) × ((Int) × ((((Int) × (Int)) × ((Int) × (Int))) × (((Int) × (Int)) × ((Int) × (Int))))))) → Int → ByteArray → Int → Int → Int → Int → Int → Int → Int → Int → Int → Option ((((Int) × (Unit)) × (Unit)) × (((ByteArray) × ((Int) × ((((Int) × (Int)) × ((Int) × (Int))) × (((Int) × (Int)) × ((Int) × (Int)))))) × (Unit)))
  | 0, _, _, _, _, _, _, _, _, _, _, _, _, _ => none
  | k + 1, v8, v0, v7, b0_0, b0_1, b0_2, b0_3, b0_4, b0_5, b0_6, b0_7, b0_8, b0_9 => slices_IndexFunc_impl_Standard_impl_Standard_at_impl_ValidChain_1_t2 n (slices_IndexFunc_impl_Standard_impl_Standard_at_impl_ValidChain_1_l2 n k) v8 v0 v7 b0_0 b0_1 b0_2 b0_3 b0_4 b0_5 b0_6 b0_7 b0_8 b0_9

noncomputable def slices_IndexFunc_impl_Standard_impl_Standard_at_impl_ValidChain_1_t (n : Nat) (h2 : Nat → Int → (List ((ByteArray) × ((Int) × ((((Int) × (Int)) × ((Int) × (Int))) × (((Int) × (Int)) × ((Int) × (Int))))))) → Int → ByteArray → Int → Int → Int → Int → Int → Int → Int → Int → Int → Option ((((Int) × (Unit)) × (Unit)) × (((ByteArray) × ((Int) × ((((Int) × (Int)) × ((Int) × (Int))) × (((Int) × (Int)) × ((Int) × (Int)))))) × (Unit)))) (a0 : List ((ByteArray) × ((Int) × ((((Int) × (Int)) × ((Int) × (Int))) × (((Int) × (Int)) × ((Int) × (Int))))))) (b0 : (ByteArray) × ((Int) × ((((Int) × (Int)) × ((Int) × (Int))) × (((Int) × (Int)) × ((Int) × (Int)))))) : Option ((((Int) × (Unit)) × (Unit)) × (((ByteArray) × ((Int) × ((((Int) × (Int)) × ((Int) × (Int))) × (((Int) × (Int)) × ((Int) × (Int)))))) × (Unit))) :=
  h2 n 0 a0 (((a0.length : Nat) : Int)) b0.1 b0.2.1 b0.2.2.1.1.1 b0.2.2.1.1.2 b0.2.2.1.2.1 b0.2.2.1.2.2 b0.2.2.2.1.1 b0.2.2.2.1.2 b0.2.2.2.2.1 b0.2.2.2.2.2

noncomputable def slices_IndexFunc_impl_Standard_impl_Standard_at_impl_ValidChain_1 (n : Nat) (a0 : List ((ByteArray) × ((Int) × ((((Int) × (Int)) × ((Int) × (Int))) × (((Int) × (Int)) × ((Int) × (Int))))))) (b0 : (ByteArray) × ((Int) × ((((Int) × (Int)) × ((Int) × (Int))) × (((Int) × (Int)) × ((Int) × (Int)))))) : Option ((((Int) × (Unit)) × (Unit)) × (((ByteArray) × ((Int) × ((((Int) × (Int)) × ((Int) × (Int))) × (((Int) × (Int)) × ((Int) × (Int)))))) × (Unit))) := slices_IndexFunc_impl_Standard_impl_Standard_at_impl_ValidChain_1_t n (slices_IndexFunc_impl_Standard_impl_Standard_at_impl_ValidChain_1_l2 n) a0 b0

noncomputable def slices_ContainsFunc_impl_Standard_impl_Standard_at_impl_ValidChain_1_t (n : Nat) (a0 : List ((ByteArray) × ((Int) × ((((Int) × (Int)) × ((Int) × (Int))) × (((Int) × (Int)) × ((Int) × (Int))))))) (b0 : (ByteArray) × ((Int) × ((((Int) × (Int)) × ((Int) × (Int))) × (((Int) × (Int)) × ((Int) × (Int)))))) : Option ((((Bool) × (Unit)) × (Unit)) × (((ByteArray) × ((Int) × ((((Int) × (Int)) × ((Int) × (Int))) × (((Int) × (Int)) × ((Int) × (Int)))))) × (Unit))) :=
  (slices_IndexFunc_impl_Standard_impl_Standard_at_impl_ValidChain_1 n a0 ((b0.1, (b0.2.1, (((b0.2.2.1.1.1, b0.2.2.1.1.2), (b0.2.2.1.2.1, b0.2.2.1.2.2)), ((b0.2.2.2.1.1, b0.2.2.2.1.2), (b0.2.2.2.2.1, b0.2.2.2.2.2))))))).bind fun r0 =>
  some ((((decide (r0.1.1.1 ≥ 0), ()), ()), ((r0.2.1.1, (r0.2.1.2.1, (((r0.2.1.2.2.1.1.1, r0.2.1.2.2.1.1.2), (r0.2.1.2.2.1.2.1, r0.2.1.2.2.1.2.2)), ((r0.2.1.2.2.2.1.1, r0.2.1.2.2.2.1.2), (r0.2.1.2.2.2.2.1, r0.2.1.2.2.2.2.2))))), ())))

noncomputable def slices_ContainsFunc_impl_Standard_impl_Standard_at_impl_ValidChain_1 (n : Nat) (a0 : List ((ByteArray) × ((Int) × ((((Int) × (Int)) × ((Int) × (Int))) × (((Int) × (Int)) × ((Int) × (Int))))))) (b0 : (ByteArray) × ((Int) × ((((Int) × (Int)) × ((Int) × (Int))) × (((Int) × (Int)) × ((Int) × (Int)))))) : Option ((((Bool) × (Unit)) × (Unit)) × (((ByteArray) × ((Int) × ((((Int) × (Int)) × ((Int) × (Int))) × (((Int) × (Int)) × ((Int) × (Int)))))) × (Unit))) := slices_ContainsFunc_impl_Standard_impl_Standard_at_impl_ValidChain_1_t n a0 b0

noncomputable def impl_ValidChain_t2 (n : Nat) (g2 : Int → (List ((ByteArray) × ((Int) × ((((Int) × (Int)) × ((Int) × (Int))) × (((Int) × (Int)) × ((Int) × (Int))))))) → (List ((ByteArray) × ((Int) × ((((Int) × (Int)) × ((Int) × (Int))) × (((Int) × (Int)) × ((Int) × (Int))))))) → Int → Option ((((Bool) × (Unit)) × (Unit)) × (Unit))) (v7 : Int) (v0 : List ((ByteArray) × ((Int) × ((((Int) × (Int)) × ((Int) × (Int))) × (((Int) × (Int)) × ((Int) × (Int))))))) (v5 : List ((ByteArray) × ((Int) × ((((Int) × (Int)) × ((Int) × (Int))) × (((Int) × (Int)) × ((Int) × (Int))))))) (v6 : Int) : Option ((((Bool) × (Unit)) × (Unit)) × (Unit)) :=
  cond (decide (v7 < v6))
  (cond ((decide (0 ≤ v7) && decide (v7 < ((v5.length : Nat) : Int))))
    ((impl_isWord n ((v5.getD (Int.toNat v7) ((ByteArray.mk #[]), (0, (((0, 0), (0, 0)), ((0, 0), (0, 0)))))).1)).bind fun r0 =>
      cond (!r0.1.1.1)
      (some ((((false, ()), ()), ())))
      (cond ((decide (0 ≤ v7) && decide (v7 ≤ ((v0.length : Nat) : Int))))
        ((slices_ContainsFunc_impl_Standard_impl_Standard_at_impl_ValidChain_1 n (((v0.drop (Int.toNat 0)).take ((Int.toNat v7) - (Int.toNat 0)))) (((v5.getD (Int.toNat v7) ((ByteArray.mk #[]), (0, (((0, 0), (0, 0)), ((0, 0), (0, 0)))))).1, ((v5.getD (Int.toNat v7) ((ByteArray.mk #[]), (0, (((0, 0), (0, 0)), ((0, 0), (0, 0)))))).2.1, ((((v5.getD (Int.toNat v7) ((ByteArray.mk #[]), (0, (((0, 0), (0, 0)), ((0, 0), (0, 0)))))).2.2.1.1.1, (v5.getD (Int.toNat v7) ((ByteArray.mk #[]), (0, (((0, 0), (0, 0)), ((0, 0), (0, 0)))))).2.2.1.1.2), ((v5.getD (Int.toNat v7) ((ByteArray.mk #[]), (0, (((0, 0), (0, 0)), ((0, 0), (0, 0)))))).2.2.1.2.1, (v5.getD (Int.toNat v7) ((ByteArray.mk #[]), (0, (((0, 0), (0, 0)), ((0, 0), (0, 0)))))).2.2.1.2.2)), (((v5.getD (Int.toNat v7) ((ByteArray.mk #[]), (0, (((0, 0), (0, 0)), ((0, 0), (0, 0)))))).2.2.2.1.1, (v5.getD (Int.toNat v7) ((ByteArray.mk #[]), (0, (((0, 0), (0, 0)), ((0, 0), (0, 0)))))).2.2.2.1.2), ((v5.getD (Int.toNat v7) ((ByteArray.mk #[]), (0, (((0, 0), (0, 0)), ((0, 0), (0, 0)))))).2.2.2.2.1, (v5.getD (Int.toNat v7) ((ByteArray.mk #[]), (0, (((0, 0), (0, 0)), ((0, 0), (0, 0)))))).2.2.2.2.2))))))).bind fun r1 =>
          cond r1.1.1.1
          (some ((((false, ()), ()), ())))
          ((impl_within n r1.2.1.2.1 (-1) ((IntKind.wrap .i64 (v7 - 1)))).bind fun r2 =>
            cond (!r2.1.1.1)
            (some ((((false, ()), ()), ())))
            ((impl_ValidSpan n (((r1.2.1.2.2.1.1.1, r1.2.1.2.2.1.1.2), (r1.2.1.2.2.1.2.1, r1.2.1.2.2.1.2.2)))).bind fun r3 =>
              cond (!r3.1.1.1)
              (some ((((false, ()), ()), ())))
              ((impl_ValidFrac n ((r1.2.1.2.2.2.1.1, r1.2.1.2.2.2.1.2))).bind fun r4 =>
                cond (!r4.1.1.1)
                (some ((((false, ()), ()), ())))
                (cond (decide (r1.2.1.2.2.2.1.1 < 0))
                  (some ((((false, ()), ()), ())))
                  ((impl_within n r1.2.1.2.2.2.2.1 0 100000).bind fun r5 =>
                    cond (!r5.1.1.1)
                    (some ((((false, ()), ()), ())))
                    ((impl_within n r1.2.1.2.2.2.2.2 0 100000).bind fun r6 =>
                      cond (!r6.1.1.1)
                      (some ((((false, ()), ()), ())))
                      (cond (decide (r1.2.1.2.1 ≥ 0))
                        (cond ((decide (0 ≤ r1.2.1.2.1) && decide (r1.2.1.2.1 < ((v0.length : Nat) : Int))))
                          ((impl_Standard_good n (((v0.getD (Int.toNat r1.2.1.2.1) ((ByteArray.mk #[]), (0, (((0, 0), (0, 0)), ((0, 0), (0, 0)))))).1, ((v0.getD (Int.toNat r1.2.1.2.1) ((ByteArray.mk #[]), (0, (((0, 0), (0, 0)), ((0, 0), (0, 0)))))).2.1, ((((v0.getD (Int.toNat r1.2.1.2.1) ((ByteArray.mk #[]), (0, (((0, 0), (0, 0)), ((0, 0), (0, 0)))))).2.2.1.1.1, (v0.getD (Int.toNat r1.2.1.2.1) ((ByteArray.mk #[]), (0, (((0, 0), (0, 0)), ((0, 0), (0, 0)))))).2.2.1.1.2), ((v0.getD (Int.toNat r1.2.1.2.1) ((ByteArray.mk #[]), (0, (((0, 0), (0, 0)), ((0, 0), (0, 0)))))).2.2.1.2.1, (v0.getD (Int.toNat r1.2.1.2.1) ((ByteArray.mk #[]), (0, (((0, 0), (0, 0)), ((0, 0), (0, 0)))))).2.2.1.2.2)), (((v0.getD (Int.toNat r1.2.1.2.1) ((ByteArray.mk #[]), (0, (((0, 0), (0, 0)), ((0, 0), (0, 0)))))).2.2.2.1.1, (v0.getD (Int.toNat r1.2.1.2.1) ((ByteArray.mk #[]), (0, (((0, 0), (0, 0)), ((0, 0), (0, 0)))))).2.2.2.1.2), ((v0.getD (Int.toNat r1.2.1.2.1) ((ByteArray.mk #[]), (0, (((0, 0), (0, 0)), ((0, 0), (0, 0)))))).2.2.2.2.1, (v0.getD (Int.toNat r1.2.1.2.1) ((ByteArray.mk #[]), (0, (((0, 0), (0, 0)), ((0, 0), (0, 0)))))).2.2.2.2.2)))))) r1.2.1.2.2.2.2.1).bind fun r7 =>
                            cond (!r7.1.1.1)
                            (some ((((false, ()), ()), ())))
                            (g2 ((IntKind.wrap .i64 (v7 + 1))) v0 v5 v6))
                          (none))
                        (g2 ((IntKind.wrap .i64 (v7 + 1))) v0 v5 v6)))))))))
        (none)))
    (none))
  (some ((((decide (((v0.length : Nat) : Int) ≤ 30), ()), ()), ())))

noncomputable def impl_ValidChain_l2 (n : Nat) : Nat → Int → (List ((ByteArray) × ((Int) × ((((Int) × (Int)) × ((Int) × (Int))) × (((Int) × (Int)) × ((Int) × (Int))))))) → (List ((ByteArray) × ((Int) × ((((Int) × (Int)) × ((Int) × (Int))) × (((Int) × (Int)) × ((Int) × (Int))))))) → Int → Option ((((Bool) × (Unit)) × (Unit)) × (Unit))
  | 0, _, _, _, _ => none
  | k + 1, v7, v0, v5, v6 => impl_ValidChain_t2 n (impl_ValidChain_l2 n k) v7 v0 v5 v6

noncomputable def impl_ValidChain_t (n : Nat) (h2 : Nat → Int → (List ((ByteArray) × ((Int) × ((((Int) × (Int)) × ((Int) × (Int))) × (((Int) × (Int)) × ((Int) × (Int))))))) → (List ((ByteArray) × ((Int) × ((((Int) × (Int)) × ((Int) × (Int))) × (((Int) × (Int)) × ((Int) × (Int))))))) → Int → Option ((((Bool) × (Unit)) × (Unit)) × (Unit))) (a0 : List ((ByteArray) × ((Int) × ((((Int) × (Int)) × ((Int) × (Int))) × (((Int) × (Int)) × ((Int) × (Int))))))) : Option ((((Bool) × (Unit)) × (Unit)) × (Unit)) :=
  h2 n 0 a0 a0 (((a0.length : Nat) : Int))

noncomputable def impl_ValidChain (n : Nat) (a0 : List ((ByteArray) × ((Int) × ((((Int) × (Int)) × ((Int) × (Int))) × (((Int) × (Int)) × ((Int) × (Int))))))) : Option ((((Bool) × (Unit)) × (Unit)) × (Unit)) := impl_ValidChain_t n (impl_ValidChain_l2 n) a0

noncomputable def impl_wrap_t (n : Nat) (a0 : Int) : Option ((((Int) × (Unit)) × (Unit)) × (Unit)) :=
  some (((((Int.tmod (IntKind.wrap .i64 ((Int.tmod a0 1296000) + 1296000)) 1296000), ()), ()), ()))

noncomputable def impl_wrap (n : Nat) (a0 : Int) : Option ((((Int) × (Unit)) × (Unit)) × (Unit)) := impl_wrap_t n a0

noncomputable def impl_turnFrom_t (n : Nat) (a0 : Int) (a1 : Int) : Option ((((Int) × (Unit)) × (Unit)) × (Unit)) :=
  (impl_wrap n ((IntKind.wrap .i64 (a1 - a0)))).bind fun r0 =>
  cond (decide (r0.1.1.1 > 648000))
  (some (((((IntKind.wrap .i64 (r0.1.1.1 - 1296000)), ()), ()), ())))
  (some ((((r0.1.1.1, ()), ()), ())))

noncomputable def impl_turnFrom (n : Nat) (a0 : Int) (a1 : Int) : Option ((((Int) × (Unit)) × (Unit)) × (Unit)) := impl_turnFrom_t n a0 a1

noncomputable def laws_a2Long_t (n : Nat) (a0 : List (Int)) (a1 : List (Int)) : Option ((((Bool) × (Unit)) × (Unit)) × (Unit)) :=
  cond (decide (((a0.length : Nat) : Int) > 3000))
  (some ((((true, ()), ()), ())))
  (some ((((decide (((a1.length : Nat) : Int) > 3000), ()), ()), ())))

noncomputable def laws_a2Long (n : Nat) (a0 : List (Int)) (a1 : List (Int)) : Option ((((Bool) × (Unit)) × (Unit)) × (Unit)) := laws_a2Long_t n a0 a1

noncomputable def laws_eqFrac_t (n : Nat) (a0 : (Int) × (Int)) (a1 : (Int) × (Int)) : Option ((((Bool) × (Unit)) × (Unit)) × (Unit)) :=
  cond ((a0.1 != a1.1))
  (some ((((false, ()), ()), ())))
  (cond ((a0.2 != a1.2))
    (some ((((false, ()), ()), ())))
    (some ((((true, ()), ()), ()))))

noncomputable def laws_eqFrac (n : Nat) (a0 : (Int) × (Int)) (a1 : (Int) × (Int)) : Option ((((Bool) × (Unit)) × (Unit)) × (Unit)) := laws_eqFrac_t n a0 a1

noncomputable def laws_eqInt64S_t4 (n : Nat) (g4 : Int → (List (Int)) → (List (Int)) → Option ((((Bool) × (Unit)) × (Unit)) × (Unit))) (v5 : Int) (v1 : List (Int)) (v0 : List (Int)) : Option ((((Bool) × (Unit)) × (Unit)) × (Unit)) :=
  cond (decide (v5 < ((v0.length : Nat) : Int)))
  (cond ((decide (0 ≤ v5) && decide (v5 < ((v0.length : Nat) : Int))))
    (cond ((decide (0 ≤ v5) && decide (v5 < ((v1.length : Nat) : Int))))
      (cond (((v0.getD (Int.toNat v5) 0) != (v1.getD (Int.toNat v5) 0)))
        (some ((((false, ()), ()), ())))
        (g4 ((IntKind.wrap .i64 (v5 + 1))) v1 v0))
      (none))
    (none))
  (some ((((true, ()), ()), ())))

noncomputable def laws_eqInt64S_l4 (n : Nat) : Nat → Int → (List (Int)) → (List (Int)) → Option ((((Bool) × (Unit)) × (Unit)) × (Unit))
  | 0, _, _, _ => none
  | k + 1, v5, v1, v0 => laws_eqInt64S_t4 n (laws_eqInt64S_l4 n k) v5 v1 v0

noncomputable def laws_eqInt64S_t (n : Nat) (h4 : Nat → Int → (List (Int)) → (List (Int)) → Option ((((Bool) × (Unit)) × (Unit)) × (Unit))) (a0 : List (Int)) (a1 : List (Int)) : Option ((((Bool) × (Unit)) × (Unit)) × (Unit)) :=
  cond ((((a0.length : Nat) : Int) != ((a1.length : Nat) : Int)))
  (some ((((false, ()), ()), ())))
  (h4 n 0 a1 a0)

noncomputable def laws_eqInt64S (n : Nat) (a0 : List (Int)) (a1 : List (Int)) : Option ((((Bool) × (Unit)) × (Unit)) × (Unit)) := laws_eqInt64S_t n (laws_eqInt64S_l4 n) a0 a1

noncomputable def laws_heldInt64S_t2 (n : Nat) (g2 : Int → Int → (List (Int)) → Option ((((Int) × (Unit)) × (Unit)) × (Unit))) (v5 : Int) (v1 : Int) (v0 : List (Int)) : Option ((((Int) × (Unit)) × (Unit)) × (Unit)) :=
  cond (decide (v5 < ((v0.length : Nat) : Int)))
  (cond ((decide (0 ≤ v5) && decide (v5 < ((v0.length : Nat) : Int))))
    (cond (((v0.getD (Int.toNat v5) 0) != v1))
      (some (((((-1), ()), ()), ())))
      (g2 ((IntKind.wrap .i64 (v5 + 1))) ((IntKind.wrap .i64 (v1 + 1))) v0))
    (none))
  (some ((((v1, ()), ()), ())))

noncomputable def laws_heldInt64S_l2 (n : Nat) : Nat → Int → Int → (List (Int)) → Option ((((Int) × (Unit)) × (Unit)) × (Unit))
  | 0, _, _, _ => none
  | k + 1, v5, v1, v0 => laws_heldInt64S_t2 n (laws_heldInt64S_l2 n k) v5 v1 v0

noncomputable def laws_heldInt64S_t (n : Nat) (h2 : Nat → Int → Int → (List (Int)) → Option ((((Int) × (Unit)) × (Unit)) × (Unit))) (a0 : List (Int)) (a1 : Int) : Option ((((Int) × (Unit)) × (Unit)) × (Unit)) :=
  h2 n 0 a1 a0

noncomputable def laws_heldInt64S (n : Nat) (a0 : List (Int)) (a1 : Int) : Option ((((Int) × (Unit)) × (Unit)) × (Unit)) := laws_heldInt64S_t n (laws_heldInt64S_l2 n) a0 a1

noncomputable def laws_markInt64S_t2 (n : Nat) (g2 : Int → Int → (List (Int)) → Option ((((Int) × (Unit)) × (Unit)) × ((List (Int)) × (Unit)))) (v5 : Int) (v1 : Int) (b0 : List (Int)) : Option ((((Int) × (Unit)) × (Unit)) × ((List (Int)) × (Unit))) :=
  cond (decide (v5 < ((b0.length : Nat) : Int)))
  (cond ((decide (0 ≤ v5) && decide (v5 < ((b0.length : Nat) : Int))))
    (g2 ((IntKind.wrap .i64 (v5 + 1))) ((IntKind.wrap .i64 (v1 + 1))) ((b0.set (Int.toNat v5) v1)))
    (none))
  (some ((((v1, ()), ()), (b0, ()))))

noncomputable def laws_markInt64S_l2 (n : Nat) : Nat → Int → Int → (List (Int)) → Option ((((Int) × (Unit)) × (Unit)) × ((List (Int)) × (Unit)))
  | 0, _, _, _ => none
  | k + 1, v5, v1, b0 => laws_markInt64S_t2 n (laws_markInt64S_l2 n k) v5 v1 b0

noncomputable def laws_markInt64S_t (n : Nat) (h2 : Nat → Int → Int → (List (Int)) → Option ((((Int) × (Unit)) × (Unit)) × ((List (Int)) × (Unit)))) (a1 : Int) (b0 : List (Int)) : Option ((((Int) × (Unit)) × (Unit)) × ((List (Int)) × (Unit))) :=
  h2 n 0 a1 b0

noncomputable def laws_markInt64S (n : Nat) (a1 : Int) (b0 : List (Int)) : Option ((((Int) × (Unit)) × (Unit)) × ((List (Int)) × (Unit))) := laws_markInt64S_t n (laws_markInt64S_l2 n) a1 b0

noncomputable def spec_Decimal_t (n : Nat) (rec : Int → Option ((((ByteArray) × (Unit)) × (Unit)) × (Unit))) (a0 : Int) : Option ((((ByteArray) × (Unit)) × (Unit)) × (Unit)) :=
  cond (decide (a0 < 10))
  (some (((((byteStr ((IntKind.wrap .u8 (IntKind.wrap .i64 (48 + (Int.tmod a0 10)))) :: [])), ()), ()), ())))
  ((rec ((IntKind.wrap .i64 (Int.tdiv a0 10)))).bind fun r0 =>
    cond ((roomStr r0.1.1.1 (byteStr ((IntKind.wrap .u8 (IntKind.wrap .i64 (48 + (Int.tmod a0 10)))) :: []))))
    (some (((((r0.1.1.1 ++ (byteStr ((IntKind.wrap .u8 (IntKind.wrap .i64 (48 + (Int.tmod a0 10)))) :: []))), ()), ()), ())))
    (none))

noncomputable def spec_Decimal_r (n : Nat) : Nat → Int → Option ((((ByteArray) × (Unit)) × (Unit)) × (Unit))
  | 0, _ => none
  | d + 1, a0 => spec_Decimal_t n (spec_Decimal_r n d) a0

noncomputable def spec_Decimal (n : Nat) (a0 : Int) : Option ((((ByteArray) × (Unit)) × (Unit)) × (Unit)) := spec_Decimal_r n n a0

noncomputable def spec_l03Angle_t (n : Nat) (a0 : Int) : Option ((((Bool) × (Unit)) × (Unit)) × (Unit)) :=
  (spec_l00In n a0 0 1295999).bind fun r0 =>
  some ((((r0.1.1.1, ()), ()), ()))

noncomputable def spec_l03Angle (n : Nat) (a0 : Int) : Option ((((Bool) × (Unit)) × (Unit)) × (Unit)) := spec_l03Angle_t n a0

noncomputable def spec_l03Two_t (n : Nat) (a0 : Int) : Option ((((ByteArray) × (Unit)) × (Unit)) × (Unit)) :=
  (spec_Decimal n ((IntKind.wrap .i64 (Int.tdiv a0 10)))).bind fun r0 =>
  (spec_Decimal n ((Int.tmod a0 10))).bind fun r1 =>
  cond ((roomStr r0.1.1.1 r1.1.1.1))
  (some (((((r0.1.1.1 ++ r1.1.1.1), ()), ()), ())))
  (none)

noncomputable def spec_l03Two (n : Nat) (a0 : Int) : Option ((((ByteArray) × (Unit)) × (Unit)) × (Unit)) := spec_l03Two_t n a0

noncomputable def spec_AngleText_t (n : Nat) (a0 : Int) : Option ((((ByteArray) × (Unit)) × (Unit)) × (Unit)) :=
  (spec_l03Angle n a0).bind fun r0 =>
  cond (!r0.1.1.1)
  (some (((((ByteArray.mk #[]), ()), ()), ())))
  ((spec_Decimal n ((IntKind.wrap .i64 (Int.tdiv a0 3600)))).bind fun r1 =>
    cond ((roomStr r1.1.1.1 (ByteArray.mk #[58])))
    ((spec_l03Two n ((Int.tmod (IntKind.wrap .i64 (Int.tdiv a0 60)) 60))).bind fun r2 =>
      cond ((roomStr (r1.1.1.1 ++ (ByteArray.mk #[58])) r2.1.1.1))
      (cond ((roomStr ((r1.1.1.1 ++ (ByteArray.mk #[58])) ++ r2.1.1.1) (ByteArray.mk #[58])))
        ((spec_l03Two n ((Int.tmod a0 60))).bind fun r3 =>
          cond ((roomStr (((r1.1.1.1 ++ (ByteArray.mk #[58])) ++ r2.1.1.1) ++ (ByteArray.mk #[58])) r3.1.1.1))
          (some ((((((((r1.1.1.1 ++ (ByteArray.mk #[58])) ++ r2.1.1.1) ++ (ByteArray.mk #[58])) ++ r3.1.1.1), ()), ()), ())))
          (none))
        (none))
      (none))
    (none))

noncomputable def spec_AngleText (n : Nat) (a0 : Int) : Option ((((ByteArray) × (Unit)) × (Unit)) × (Unit)) := spec_AngleText_t n a0

noncomputable def spec_l00Src_one_t (n : Nat) (a1 : Int) (b0 : (List (Int)) × ((Int) × (Int))) : Option ((((Bool) × (Unit)) × (Unit)) × (((List (Int)) × ((Int) × (Int))) × (Unit))) :=
  (spec_l00Src_pick n a1 ((b0.1, (b0.2.1, b0.2.2)))).bind fun r0 =>
  some (((((r0.1.1.1 == 0), ()), ()), ((r0.2.1.1, (r0.2.1.2.1, r0.2.1.2.2)), ())))

noncomputable def spec_l00Src_one (n : Nat) (a1 : Int) (b0 : (List (Int)) × ((Int) × (Int))) : Option ((((Bool) × (Unit)) × (Unit)) × (((List (Int)) × ((Int) × (Int))) × (Unit))) := spec_l00Src_one_t n a1 b0

noncomputable def spec_l01Down_t (n : Nat) (a0 : Int) (a1 : Int) : Option ((((Int) × (Unit)) × (Unit)) × (Unit)) :=
  cond ((a1 != 0))
  (cond ((a1 != 0))
    (cond (decide ((Int.tmod a0 a1) < 0))
      (some (((((IntKind.wrap .i64 ((IntKind.wrap .i64 (Int.tdiv a0 a1)) - 1)), ()), ()), ())))
      (some (((((IntKind.wrap .i64 (Int.tdiv a0 a1)), ()), ()), ()))))
    (none))
  (none)

noncomputable def spec_l01Down (n : Nat) (a0 : Int) (a1 : Int) : Option ((((Int) × (Unit)) × (Unit)) × (Unit)) := spec_l01Down_t n a0 a1

noncomputable def spec_l01Number_t5 (n : Nat) (g5 : Int → ByteArray → Int → Option ((((Int) × (Unit)) × (((Bool) × (Unit)) × (Unit))) × (Unit))) (v5 : Int) (v0 : ByteArray) (v4 : Int) : Option ((((Int) × (Unit)) × (((Bool) × (Unit)) × (Unit))) × (Unit)) :=
  cond (decide (v5 < (((ByteArray.size v0) : Nat) : Int)))
  (cond ((decide (0 ≤ v5) && decide (v5 < (((ByteArray.size v0) : Nat) : Int))))
    (cond (decide ((byteAt v0 v5) < 48))
      (some ((((0, ()), ((false, ()), ())), ())))
      (cond ((decide (0 ≤ v5) && decide (v5 < (((ByteArray.size v0) : Nat) : Int))))
        (cond (decide ((byteAt v0 v5) > 57))
          (some ((((0, ()), ((false, ()), ())), ())))
          (cond ((decide (0 ≤ v5) && decide (v5 < (((ByteArray.size v0) : Nat) : Int))))
            (g5 ((IntKind.wrap .i64 (v5 + 1))) v0 ((IntKind.wrap .i64 ((IntKind.wrap .i64 (10 * v4)) + (IntKind.wrap .i64 (IntKind.wrap .u8 ((byteAt v0 v5) - 48)))))))
            (none)))
        (none)))
    (none))
  (some ((((v4, ()), ((true, ()), ())), ())))

noncomputable def spec_l01Number_l5 (n : Nat) : Nat → Int → ByteArray → Int → Option ((((Int) × (Unit)) × (((Bool) × (Unit)) × (Unit))) × (Unit))
  | 0, _, _, _ => none
  | k + 1, v5, v0, v4 => spec_l01Number_t5 n (spec_l01Number_l5 n k) v5 v0 v4

noncomputable def spec_l01Number_t (n : Nat) (h5 : Nat → Int → ByteArray → Int → Option ((((Int) × (Unit)) × (((Bool) × (Unit)) × (Unit))) × (Unit))) (a0 : ByteArray) : Option ((((Int) × (Unit)) × (((Bool) × (Unit)) × (Unit))) × (Unit)) :=
  cond ((eqStr a0 (ByteArray.mk #[])))
  (some ((((0, ()), ((false, ()), ())), ())))
  (cond (decide ((((ByteArray.size a0) : Nat) : Int) > 10))
    (some ((((0, ()), ((false, ()), ())), ())))
    (cond (decide (0 < (((ByteArray.size a0) : Nat) : Int)))
      (cond (((byteAt a0 0) == 48))
        (cond (decide ((((ByteArray.size a0) : Nat) : Int) > 1))
          (some ((((0, ()), ((false, ()), ())), ())))
          (h5 n 0 a0 0))
        (h5 n 0 a0 0))
      (none)))

noncomputable def spec_l01Number (n : Nat) (a0 : ByteArray) : Option ((((Int) × (Unit)) × (((Bool) × (Unit)) × (Unit))) × (Unit)) := spec_l01Number_t n (spec_l01Number_l5 n) a0

noncomputable def spec_l01Span_e_t (n : Nat) (a0 : ((Int) × (Int)) × ((Int) × (Int))) : Option ((((Bool) × (Unit)) × (Unit)) × (Unit)) :=
  (spec_l01Ok n ((a0.1.1, a0.1.2))).bind fun r0 =>
  cond r0.1.1.1
  ((spec_l01Ok n ((a0.2.1, a0.2.2))).bind fun r1 =>
    cond r1.1.1.1
    ((spec_l01Cmp n ((a0.1.1, a0.1.2)) ((a0.2.1, a0.2.2))).bind fun r2 =>
      some ((((decide (r2.1.1.1 ≤ 0), ()), ()), ())))
    (some ((((false, ()), ()), ()))))
  (some ((((false, ()), ()), ())))

noncomputable def spec_l01Span_e (n : Nat) (a0 : ((Int) × (Int)) × ((Int) × (Int))) : Option ((((Bool) × (Unit)) × (Unit)) × (Unit)) := spec_l01Span_e_t n a0

noncomputable def spec_l01Split_t4 (n : Nat) (g4 : Int → Int → ByteArray → Int → (List (ByteArray)) → Option ((((List (ByteArray)) × (Unit)) × (Unit)) × (Unit))) (v7 : Int) (v6 : Int) (v0 : ByteArray) (v1 : Int) (b0 : List (ByteArray)) : Option ((((List (ByteArray)) × (Unit)) × (Unit)) × (Unit)) :=
  cond (decide (v7 < (((ByteArray.size v0) : Nat) : Int)))
  (cond ((decide (0 ≤ v7) && decide (v7 < (((ByteArray.size v0) : Nat) : Int))))
    (cond (((byteAt v0 v7) == v1))
      (cond (((decide (0 ≤ v6) && decide (v6 ≤ v7)) && decide (v7 ≤ (((ByteArray.size v0) : Nat) : Int))))
        (cond (decide (((b0.length + ((ByteArray.extract v0 (Int.toNat v6) (Int.toNat v7)) :: []).length) * 17) ≤ 70368744177664))
          (g4 ((IntKind.wrap .i64 (v7 + 1))) ((IntKind.wrap .i64 (v7 + 1))) v0 v1 ((b0 ++ ((ByteArray.extract v0 (Int.toNat v6) (Int.toNat v7)) :: []))))
          (none))
        (none))
      (g4 ((IntKind.wrap .i64 (v7 + 1))) v6 v0 v1 b0))
    (none))
  (cond (((decide (0 ≤ v6) && decide (v6 ≤ (((ByteArray.size v0) : Nat) : Int))) && decide ((((ByteArray.size v0) : Nat) : Int) ≤ (((ByteArray.size v0) : Nat) : Int))))
    (cond (decide (((b0.length + ((ByteArray.extract v0 (Int.toNat v6) (Int.toNat (((ByteArray.size v0) : Nat) : Int))) :: []).length) * 17) ≤ 70368744177664))
      (some (((((b0 ++ ((ByteArray.extract v0 (Int.toNat v6) (Int.toNat (((ByteArray.size v0) : Nat) : Int))) :: [])), ()), ()), ())))
      (none))
    (none))

noncomputable def spec_l01Split_l4 (n : Nat) : Nat → Int → Int → ByteArray → Int → (List (ByteArray)) → Option ((((List (ByteArray)) × (Unit)) × (Unit)) × (Unit))
  | 0, _, _, _, _, _ => none
  | k + 1, v7, v6, v0, v1, b0 => spec_l01Split_t4 n (spec_l01Split_l4 n k) v7 v6 v0 v1 b0

noncomputable def spec_l01Split_t (n : Nat) (h4 : Nat → Int → Int → ByteArray → Int → (List (ByteArray)) → Option ((((List (ByteArray)) × (Unit)) × (Unit)) × (Unit))) (a0 : ByteArray) (a1 : Int) : Option ((((List (ByteArray)) × (Unit)) × (Unit)) × (Unit)) :=
  h4 n 0 0 a0 a1 []

noncomputable def spec_l01Split (n : Nat) (a0 : ByteArray) (a1 : Int) : Option ((((List (ByteArray)) × (Unit)) × (Unit)) × (Unit)) := spec_l01Split_t n (spec_l01Split_l4 n) a0 a1

noncomputable def spec_l03Wrap_t (n : Nat) (a0 : Int) : Option ((((Int) × (Unit)) × (Unit)) × (Unit)) :=
  cond (decide ((Int.tmod a0 1296000) < 0))
  (some (((((IntKind.wrap .i64 ((Int.tmod a0 1296000) + 1296000)), ()), ()), ())))
  (some (((((Int.tmod a0 1296000), ()), ()), ())))

noncomputable def spec_l03Wrap (n : Nat) (a0 : Int) : Option ((((Int) × (Unit)) × (Unit)) × (Unit)) := spec_l03Wrap_t n a0

noncomputable def spec_l03Turn_t (n : Nat) (a0 : Int) (a1 : Int) : Option ((((Int) × (Unit)) × (Unit)) × (Unit)) :=
  (spec_l03Wrap n ((IntKind.wrap .i64 (a1 - a0)))).bind fun r0 =>
  cond (decide (r0.1.1.1 > 648000))
  (some (((((IntKind.wrap .i64 (r0.1.1.1 - 1296000)), ()), ()), ())))
  (some ((((r0.1.1.1, ()), ()), ())))

noncomputable def spec_l03Turn (n : Nat) (a0 : Int) (a1 : Int) : Option ((((Int) × (Unit)) × (Unit)) × (Unit)) := spec_l03Turn_t n a0 a1

noncomputable def spec_l05Day_t (n : Nat) (a0 : Int) : Option ((((Bool) × (Unit)) × (Unit)) × (Unit)) :=
  (spec_l00In n a0 0 100000).bind fun r0 =>
  some ((((r0.1.1.1, ()), ()), ()))

noncomputable def spec_l05Day (n : Nat) (a0 : Int) : Option ((((Bool) × (Unit)) × (Unit)) × (Unit)) := spec_l05Day_t n a0

noncomputable def spec_l05Good_e_t (n : Nat) (a0 : (ByteArray) × ((Int) × ((((Int) × (Int)) × ((Int) × (Int))) × (((Int) × (Int)) × ((Int) × (Int)))))) (a1 : Int) : Option ((((Bool) × (Unit)) × (Unit)) × (Unit)) :=
  cond (decide (a1 ≥ a0.2.2.2.2.1))
  (some ((((decide (a1 ≤ (IntKind.wrap .i64 (a0.2.2.2.2.1 + a0.2.2.2.2.2))), ()), ()), ())))
  (some ((((false, ()), ()), ())))

noncomputable def spec_l05Good_e (n : Nat) (a0 : (ByteArray) × ((Int) × ((((Int) × (Int)) × ((Int) × (Int))) × (((Int) × (Int)) × ((Int) × (Int)))))) (a1 : Int) : Option ((((Bool) × (Unit)) × (Unit)) × (Unit)) := spec_l05Good_e_t n a0 a1

noncomputable def spec_l05Name_t4 (n : Nat) (g4 : Int → ByteArray → Option ((((Bool) × (Unit)) × (Unit)) × (Unit))) (v3 : Int) (v0 : ByteArray) : Option ((((Bool) × (Unit)) × (Unit)) × (Unit)) :=
  cond (decide (v3 < (((ByteArray.size v0) : Nat) : Int)))
  (cond ((decide (0 ≤ v3) && decide (v3 < (((ByteArray.size v0) : Nat) : Int))))
    (cond (decide ((byteAt v0 v3) < 97))
      (some ((((false, ()), ()), ())))
      (cond ((decide (0 ≤ v3) && decide (v3 < (((ByteArray.size v0) : Nat) : Int))))
        (cond (decide ((byteAt v0 v3) > 122))
          (some ((((false, ()), ()), ())))
          (g4 ((IntKind.wrap .i64 (v3 + 1))) v0))
        (none)))
    (none))
  (some ((((true, ()), ()), ())))

noncomputable def spec_l05Name_l4 (n : Nat) : Nat → Int → ByteArray → Option ((((Bool) × (Unit)) × (Unit)) × (Unit))
  | 0, _, _ => none
  | k + 1, v3, v0 => spec_l05Name_t4 n (spec_l05Name_l4 n k) v3 v0

noncomputable def spec_l05Name_t (n : Nat) (h4 : Nat → Int → ByteArray → Option ((((Bool) × (Unit)) × (Unit)) × (Unit))) (a0 : ByteArray) : Option ((((Bool) × (Unit)) × (Unit)) × (Unit)) :=
  cond (decide ((((ByteArray.size a0) : Nat) : Int) < 1))
  (some ((((false, ()), ()), ())))
  (cond (decide ((((ByteArray.size a0) : Nat) : Int) > 12))
    (some ((((false, ()), ()), ())))
    (h4 n 0 a0))

noncomputable def spec_l05Name (n : Nat) (a0 : ByteArray) : Option ((((Bool) × (Unit)) × (Unit)) × (Unit)) := spec_l05Name_t n (spec_l05Name_l4 n) a0

noncomputable def spec_l05Standard_e_t (n : Nat) (a0 : List ((ByteArray) × ((Int) × ((((Int) × (Int)) × ((Int) × (Int))) × (((Int) × (Int)) × ((Int) × (Int))))))) (a1 : (ByteArray) × ((Int) × ((((Int) × (Int)) × ((Int) × (Int))) × (((Int) × (Int)) × ((Int) × (Int)))))) : Option ((((Bool) × (Unit)) × (Unit)) × (Unit)) :=
  (spec_l01Span_e n (((a1.2.2.1.1.1, a1.2.2.1.1.2), (a1.2.2.1.2.1, a1.2.2.1.2.2)))).bind fun r0 =>
  cond (!r0.1.1.1)
  (some ((((false, ()), ()), ())))
  ((spec_l01Ok n ((a1.2.2.2.1.1, a1.2.2.2.1.2))).bind fun r1 =>
    cond (!r1.1.1.1)
    (some ((((false, ()), ()), ())))
    (cond (decide (a1.2.2.2.1.1 < 0))
      (some ((((false, ()), ()), ())))
      ((spec_l05Day n a1.2.2.2.2.1).bind fun r2 =>
        cond (!r2.1.1.1)
        (some ((((false, ()), ()), ())))
        ((spec_l05Day n a1.2.2.2.2.2).bind fun r3 =>
          cond (!r3.1.1.1)
          (some ((((false, ()), ()), ())))
          (cond ((a1.2.1 == (-1)))
            (some ((((true, ()), ()), ())))
            ((spec_l00In n a1.2.1 0 ((IntKind.wrap .i64 (((a0.length : Nat) : Int) - 1)))).bind fun r4 =>
              cond r4.1.1.1
              (cond ((decide (0 ≤ a1.2.1) && decide (a1.2.1 < ((a0.length : Nat) : Int))))
                ((spec_l05Good_e n (((a0.getD (Int.toNat a1.2.1) ((ByteArray.mk #[]), (0, (((0, 0), (0, 0)), ((0, 0), (0, 0)))))).1, ((a0.getD (Int.toNat a1.2.1) ((ByteArray.mk #[]), (0, (((0, 0), (0, 0)), ((0, 0), (0, 0)))))).2.1, ((((a0.getD (Int.toNat a1.2.1) ((ByteArray.mk #[]), (0, (((0, 0), (0, 0)), ((0, 0), (0, 0)))))).2.2.1.1.1, (a0.getD (Int.toNat a1.2.1) ((ByteArray.mk #[]), (0, (((0, 0), (0, 0)), ((0, 0), (0, 0)))))).2.2.1.1.2), ((a0.getD (Int.toNat a1.2.1) ((ByteArray.mk #[]), (0, (((0, 0), (0, 0)), ((0, 0), (0, 0)))))).2.2.1.2.1, (a0.getD (Int.toNat a1.2.1) ((ByteArray.mk #[]), (0, (((0, 0), (0, 0)), ((0, 0), (0, 0)))))).2.2.1.2.2)), (((a0.getD (Int.toNat a1.2.1) ((ByteArray.mk #[]), (0, (((0, 0), (0, 0)), ((0, 0), (0, 0)))))).2.2.2.1.1, (a0.getD (Int.toNat a1.2.1) ((ByteArray.mk #[]), (0, (((0, 0), (0, 0)), ((0, 0), (0, 0)))))).2.2.2.1.2), ((a0.getD (Int.toNat a1.2.1) ((ByteArray.mk #[]), (0, (((0, 0), (0, 0)), ((0, 0), (0, 0)))))).2.2.2.2.1, (a0.getD (Int.toNat a1.2.1) ((ByteArray.mk #[]), (0, (((0, 0), (0, 0)), ((0, 0), (0, 0)))))).2.2.2.2.2)))))) a1.2.2.2.2.1).bind fun r5 =>
                  some ((((r5.1.1.1, ()), ()), ())))
                (none))
              (some ((((false, ()), ()), ())))))))))

noncomputable def spec_l05Standard_e (n : Nat) (a0 : List ((ByteArray) × ((Int) × ((((Int) × (Int)) × ((Int) × (Int))) × (((Int) × (Int)) × ((Int) × (Int))))))) (a1 : (ByteArray) × ((Int) × ((((Int) × (Int)) × ((Int) × (Int))) × (((Int) × (Int)) × ((Int) × (Int)))))) : Option ((((Bool) × (Unit)) × (Unit)) × (Unit)) := spec_l05Standard_e_t n a0 a1

noncomputable def spec_l05Ok_t9 (n : Nat) (g4 : Int → (List ((ByteArray) × ((Int) × ((((Int) × (Int)) × ((Int) × (Int))) × (((Int) × (Int)) × ((Int) × (Int))))))) → Option ((((Bool) × (Unit)) × (Unit)) × (Unit))) (g9 : Int → Int → (List ((ByteArray) × ((Int) × ((((Int) × (Int)) × ((Int) × (Int))) × (((Int) × (Int)) × ((Int) × (Int))))))) → Option ((((Bool) × (Unit)) × (Unit)) × (Unit))) (v4 : Int) (v3 : Int) (v0 : List ((ByteArray) × ((Int) × ((((Int) × (Int)) × ((Int) × (Int))) × (((Int) × (Int)) × ((Int) × (Int))))))) : Option ((((Bool) × (Unit)) × (Unit)) × (Unit)) :=
  cond (decide (v4 < v3))
  (cond ((decide (0 ≤ v4) && decide (v4 < ((v0.length : Nat) : Int))))
    (cond ((decide (0 ≤ v3) && decide (v3 < ((v0.length : Nat) : Int))))
      (cond ((eqStr (v0.getD (Int.toNat v4) ((ByteArray.mk #[]), (0, (((0, 0), (0, 0)), ((0, 0), (0, 0)))))).1 (v0.getD (Int.toNat v3) ((ByteArray.mk #[]), (0, (((0, 0), (0, 0)), ((0, 0), (0, 0)))))).1))
        (some ((((false, ()), ()), ())))
        (g9 ((IntKind.wrap .i64 (v4 + 1))) v3 v0))
      (none))
    (none))
  (g4 ((IntKind.wrap .i64 (v3 + 1))) v0)

noncomputable def spec_l05Ok_l9 (n : Nat) (g4 : Int → (List ((ByteArray) × ((Int) × ((((Int) × (Int)) × ((Int) × (Int))) × (((Int) × (Int)) × ((Int) × (Int))))))) → Option ((((Bool) × (Unit)) × (Unit)) × (Unit))) : Nat → Int → Int → (List ((ByteArray) × ((Int) × ((((Int) × (Int)) × ((Int) × (Int))) × (((Int) × (Int)) × ((Int) × (Int))))))) → Option ((((Bool) × (Unit)) × (Unit)) × (Unit))
  | 0, _, _, _ => none
  | k + 1, v4, v3, v0 => spec_l05Ok_t9 n g4 (spec_l05Ok_l9 n g4 k) v4 v3 v0

noncomputable def spec_l05Ok_t4 (n : Nat) (h9 : Nat → Int → Int → (List ((ByteArray) × ((Int) × ((((Int) × (Int)) × ((Int) × (Int))) × (((Int) × (Int)) × ((Int) × (Int))))))) → Option ((((Bool) × (Unit)) × (Unit)) × (Unit))) (g4 : Int → (List ((ByteArray) × ((Int) × ((((Int) × (Int)) × ((Int) × (Int))) × (((Int) × (Int)) × ((Int) × (Int))))))) → Option ((((Bool) × (Unit)) × (Unit)) × (Unit))) (v3 : Int) (v0 : List ((ByteArray) × ((Int) × ((((Int) × (Int)) × ((Int) × (Int))) × (((Int) × (Int)) × ((Int) × (Int))))))) : Option ((((Bool) × (Unit)) × (Unit)) × (Unit)) :=
  cond (decide (v3 < ((v0.length : Nat) : Int)))
  (cond ((decide (0 ≤ v3) && decide (v3 < ((v0.length : Nat) : Int))))
    ((spec_l05Name n ((v0.getD (Int.toNat v3) ((ByteArray.mk #[]), (0, (((0, 0), (0, 0)), ((0, 0), (0, 0)))))).1)).bind fun r0 =>
      cond (!r0.1.1.1)
      (some ((((false, ()), ()), ())))
      (cond ((decide (0 ≤ v3) && decide (v3 ≤ ((v0.length : Nat) : Int))))
        (cond ((decide (0 ≤ v3) && decide (v3 < ((v0.length : Nat) : Int))))
          ((spec_l05Standard_e n (((v0.drop (Int.toNat 0)).take ((Int.toNat v3) - (Int.toNat 0)))) (((v0.getD (Int.toNat v3) ((ByteArray.mk #[]), (0, (((0, 0), (0, 0)), ((0, 0), (0, 0)))))).1, ((v0.getD (Int.toNat v3) ((ByteArray.mk #[]), (0, (((0, 0), (0, 0)), ((0, 0), (0, 0)))))).2.1, ((((v0.getD (Int.toNat v3) ((ByteArray.mk #[]), (0, (((0, 0), (0, 0)), ((0, 0), (0, 0)))))).2.2.1.1.1, (v0.getD (Int.toNat v3) ((ByteArray.mk #[]), (0, (((0, 0), (0, 0)), ((0, 0), (0, 0)))))).2.2.1.1.2), ((v0.getD (Int.toNat v3) ((ByteArray.mk #[]), (0, (((0, 0), (0, 0)), ((0, 0), (0, 0)))))).2.2.1.2.1, (v0.getD (Int.toNat v3) ((ByteArray.mk #[]), (0, (((0, 0), (0, 0)), ((0, 0), (0, 0)))))).2.2.1.2.2)), (((v0.getD (Int.toNat v3) ((ByteArray.mk #[]), (0, (((0, 0), (0, 0)), ((0, 0), (0, 0)))))).2.2.2.1.1, (v0.getD (Int.toNat v3) ((ByteArray.mk #[]), (0, (((0, 0), (0, 0)), ((0, 0), (0, 0)))))).2.2.2.1.2), ((v0.getD (Int.toNat v3) ((ByteArray.mk #[]), (0, (((0, 0), (0, 0)), ((0, 0), (0, 0)))))).2.2.2.2.1, (v0.getD (Int.toNat v3) ((ByteArray.mk #[]), (0, (((0, 0), (0, 0)), ((0, 0), (0, 0)))))).2.2.2.2.2))))))).bind fun r1 =>
            cond (!r1.1.1.1)
            (some ((((false, ()), ()), ())))
            (h9 n 0 v3 v0))
          (none))
        (none)))
    (none))
  (some ((((true, ()), ()), ())))

noncomputable def spec_l05Ok_l4 (n : Nat) : Nat → Int → (List ((ByteArray) × ((Int) × ((((Int) × (Int)) × ((Int) × (Int))) × (((Int) × (Int)) × ((Int) × (Int))))))) → Option ((((Bool) × (Unit)) × (Unit)) × (Unit))
  | 0, _, _ => none
  | k + 1, v3, v0 => spec_l05Ok_t4 n (spec_l05Ok_l9 n (spec_l05Ok_l4 n k)) (spec_l05Ok_l4 n k) v3 v0

noncomputable def spec_l05Ok_t (n : Nat) (h4 : Nat → Int → (List ((ByteArray) × ((Int) × ((((Int) × (Int)) × ((Int) × (Int))) × (((Int) × (Int)) × ((Int) × (Int))))))) → Option ((((Bool) × (Unit)) × (Unit)) × (Unit))) (a0 : List ((ByteArray) × ((Int) × ((((Int) × (Int)) × ((Int) × (Int))) × (((Int) × (Int)) × ((Int) × (Int))))))) : Option ((((Bool) × (Unit)) × (Unit)) × (Unit)) :=
  cond (decide (((a0.length : Nat) : Int) > 30))
  (some ((((false, ()), ()), ())))
  (h4 n 0 a0)

noncomputable def spec_l05Ok (n : Nat) (a0 : List ((ByteArray) × ((Int) × ((((Int) × (Int)) × ((Int) × (Int))) × (((Int) × (Int)) × ((Int) × (Int))))))) : Option ((((Bool) × (Unit)) × (Unit)) × (Unit)) := spec_l05Ok_t n (spec_l05Ok_l4 n) a0

noncomputable def strings_Split (n : Nat) (a0 : ByteArray) (a1 : ByteArray) : Option ((((List (ByteArray)) × (Unit)) × (Unit)) × (Unit)) :=
  cond (decide (a0.size < 4294967281) && decide (1 ≤ a1.size)) (some ((((Go.Lib.splitB a1 0 (Go.Lib.countB a0 a1) a0, ()), ()), ()))) none

end Go.Abs
