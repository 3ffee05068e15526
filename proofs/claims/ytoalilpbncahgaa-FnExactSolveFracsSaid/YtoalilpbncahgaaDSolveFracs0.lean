import Derived.Test.YtoalilpbncahgaaLib
namespace Go.Abs
set_option linter.unusedVariables false

noncomputable def impl_gcd_t1 (n : Nat) (g1 : Int → Int → Option ((((Int) × (Unit)) × (Unit)) × (Unit))) (v1 : Int) (v0 : Int) : Option ((((Int) × (Unit)) × (Unit)) × (Unit)) :=
  cond ((v1 != 0))
  (cond ((v1 != 0))
    (g1 ((Int.tmod v0 v1)) v1)
    (none))
  (some (((((if v0 < (IntKind.wrap .i64 (0 - v0)) then (IntKind.wrap .i64 (0 - v0)) else v0), ()), ()), ())))

noncomputable def impl_gcd_l1 (n : Nat) : Nat → Int → Int → Option ((((Int) × (Unit)) × (Unit)) × (Unit))
  | 0, _, _ => none
  | k + 1, v1, v0 => impl_gcd_t1 n (impl_gcd_l1 n k) v1 v0

noncomputable def impl_gcd_t (n : Nat) (h1 : Nat → Int → Int → Option ((((Int) × (Unit)) × (Unit)) × (Unit))) (a0 : Int) (a1 : Int) : Option ((((Int) × (Unit)) × (Unit)) × (Unit)) :=
  h1 n a1 a0

noncomputable def impl_gcd (n : Nat) (a0 : Int) (a1 : Int) : Option ((((Int) × (Unit)) × (Unit)) × (Unit)) := impl_gcd_t n (impl_gcd_l1 n) a0 a1

noncomputable def impl_within_t (n : Nat) (a0 : Int) (a1 : Int) (a2 : Int) : Option ((((Bool) × (Unit)) × (Unit)) × (Unit)) :=
  cond (decide (a1 ≤ a0))
  (some ((((decide (a0 ≤ a2), ()), ()), ())))
  (some ((((false, ()), ()), ())))

noncomputable def impl_within (n : Nat) (a0 : Int) (a1 : Int) (a2 : Int) : Option ((((Bool) × (Unit)) × (Unit)) × (Unit)) := impl_within_t n a0 a1 a2

noncomputable def impl_ValidFrac_t (n : Nat) (a0 : (Int) × (Int)) : Option ((((Bool) × (Unit)) × (Unit)) × (Unit)) :=
  (impl_within n a0.2 1 1000000000).bind fun r0 =>
  cond r0.1.1.1
  ((impl_within n a0.1 (-1000000000) 1000000000).bind fun r1 =>
    cond r1.1.1.1
    ((impl_gcd n a0.1 a0.2).bind fun r2 =>
      some (((((r2.1.1.1 == 1), ()), ()), ())))
    (some ((((false, ()), ()), ()))))
  (some ((((false, ()), ()), ())))

noncomputable def impl_ValidFrac (n : Nat) (a0 : (Int) × (Int)) : Option ((((Bool) × (Unit)) × (Unit)) × (Unit)) := impl_ValidFrac_t n a0

noncomputable def impl_areValid_1_t (n : Nat) (a0 : (Int) × (Int)) : Option ((((Bool) × (Unit)) × (Unit)) × (Unit)) :=
  (impl_ValidFrac n ((a0.1, a0.2))).bind fun r0 =>
  some (((((!r0.1.1.1), ()), ()), ()))

noncomputable def impl_areValid_1 (n : Nat) (a0 : (Int) × (Int)) : Option ((((Bool) × (Unit)) × (Unit)) × (Unit)) := impl_areValid_1_t n a0

noncomputable def slices_IndexFunc_impl_Frac_impl_Frac_at_impl_areValid_1_t2 (n : Nat) (g2 : Int → (List ((Int) × (Int))) → Int → Option ((((Int) × (Unit)) × (Unit)) × (Unit))) (v8 : Int) (v0 : List ((Int) × (Int))) (v7 : Int) : Option ((((Int) × (Unit)) × (Unit)) × (Unit)) :=
  cond (decide (v8 < v7))
  (cond ((decide (0 ≤ v8) && decide (v8 < ((v0.length : Nat) : Int))))
    ((impl_areValid_1 n (((v0.getD (Int.toNat v8) (0, 0)).1, (v0.getD (Int.toNat v8) (0, 0)).2))).bind fun r0 =>
      cond r0.1.1.1
      (some ((((v8, ()), ()), ())))
      (g2 ((IntKind.wrap .i64 (v8 + 1))) v0 v7))
    (none))
  (some (((((-1), ()), ()), ())))

noncomputable def slices_IndexFunc_impl_Frac_impl_Frac_at_impl_areValid_1_l2 (n : Nat) : Nat → Int → (List ((Int) × (Int))) → Int → Option ((((Int) × (Unit)) × (Unit)) × (Unit))
  | 0, _, _, _ => none
  | k + 1, v8, v0, v7 => slices_IndexFunc_impl_Frac_impl_Frac_at_impl_areValid_1_t2 n (slices_IndexFunc_impl_Frac_impl_Frac_at_impl_areValid_1_l2 n k) v8 v0 v7

noncomputable def slices_IndexFunc_impl_Frac_impl_Frac_at_impl_areValid_1_t (n : Nat) (h2 : Nat → Int → (List ((Int) × (Int))) → Int → Option ((((Int) × (Unit)) × (Unit)) × (Unit))) (a0 : List ((Int) × (Int))) : Option ((((Int) × (Unit)) × (Unit)) × (Unit)) :=
  h2 n 0 a0 (((a0.length : Nat) : Int))

noncomputable def slices_IndexFunc_impl_Frac_impl_Frac_at_impl_areValid_1 (n : Nat) (a0 : List ((Int) × (Int))) : Option ((((Int) × (Unit)) × (Unit)) × (Unit)) := slices_IndexFunc_impl_Frac_impl_Frac_at_impl_areValid_1_t n (slices_IndexFunc_impl_Frac_impl_Frac_at_impl_areValid_1_l2 n) a0

noncomputable def slices_ContainsFunc_impl_Frac_impl_Frac_at_impl_areValid_1_t (n : Nat) (a0 : List ((Int) × (Int))) : Option ((((Bool) × (Unit)) × (Unit)) × (Unit)) :=
  (slices_IndexFunc_impl_Frac_impl_Frac_at_impl_areValid_1 n a0).bind fun r0 =>
  some ((((decide (r0.1.1.1 ≥ 0), ()), ()), ()))

noncomputable def slices_ContainsFunc_impl_Frac_impl_Frac_at_impl_areValid_1 (n : Nat) (a0 : List ((Int) × (Int))) : Option ((((Bool) × (Unit)) × (Unit)) × (Unit)) := slices_ContainsFunc_impl_Frac_impl_Frac_at_impl_areValid_1_t n a0

noncomputable def impl_areValid_t (n : Nat) (a0 : List ((Int) × (Int))) : Option ((((Bool) × (Unit)) × (Unit)) × (Unit)) :=
  (slices_ContainsFunc_impl_Frac_impl_Frac_at_impl_areValid_1 n a0).bind fun r0 =>
  some (((((!r0.1.1.1), ()), ()), ()))

noncomputable def impl_areValid (n : Nat) (a0 : List ((Int) × (Int))) : Option ((((Bool) × (Unit)) × (Unit)) × (Unit)) := impl_areValid_t n a0

noncomputable def impl_fracOf_t (n : Nat) (a0 : Int) (a1 : Int) : Option (((((Int) × (Int)) × (Unit)) × (((Bool) × (Unit)) × (Unit))) × (Unit)) :=
  cond (decide (a1 < 0))
  ((impl_gcd n ((IntKind.wrap .i64 (0 - a0))) ((IntKind.wrap .i64 (0 - a1)))).bind fun r0 =>
    cond ((r0.1.1.1 != 0))
    (cond ((r0.1.1.1 != 0))
      ((impl_ValidFrac n (((IntKind.wrap .i64 (Int.tdiv (IntKind.wrap .i64 (0 - a0)) r0.1.1.1)), (IntKind.wrap .i64 (Int.tdiv (IntKind.wrap .i64 (0 - a1)) r0.1.1.1))))).bind fun r1 =>
        cond (!r1.1.1.1)
        (some (((((0, 0), ()), ((false, ()), ())), ())))
        (some ((((((IntKind.wrap .i64 (Int.tdiv (IntKind.wrap .i64 (0 - a0)) r0.1.1.1)), (IntKind.wrap .i64 (Int.tdiv (IntKind.wrap .i64 (0 - a1)) r0.1.1.1))), ()), ((true, ()), ())), ()))))
      (none))
    (none))
  ((impl_gcd n a0 a1).bind fun r2 =>
    cond ((r2.1.1.1 != 0))
    (cond ((r2.1.1.1 != 0))
      ((impl_ValidFrac n (((IntKind.wrap .i64 (Int.tdiv a0 r2.1.1.1)), (IntKind.wrap .i64 (Int.tdiv a1 r2.1.1.1))))).bind fun r3 =>
        cond (!r3.1.1.1)
        (some (((((0, 0), ()), ((false, ()), ())), ())))
        (some ((((((IntKind.wrap .i64 (Int.tdiv a0 r2.1.1.1)), (IntKind.wrap .i64 (Int.tdiv a1 r2.1.1.1))), ()), ((true, ()), ())), ()))))
      (none))
    (none))

noncomputable def impl_fracOf (n : Nat) (a0 : Int) (a1 : Int) : Option (((((Int) × (Int)) × (Unit)) × (((Bool) × (Unit)) × (Unit))) × (Unit)) := impl_fracOf_t n a0 a1

noncomputable def impl_zero_t (n : Nat) : Option (((((Int) × (Int)) × (Unit)) × (Unit)) × (Unit)) :=
  some (((((0, 1), ()), ()), ()))

noncomputable def impl_zero (n : Nat) : Option (((((Int) × (Int)) × (Unit)) × (Unit)) × (Unit)) := impl_zero_t n

noncomputable def impl_calc_told_t (n : Nat) (a1 : Int) (a2 : Int) (b0 : Bool) : Option (((((Int) × (Int)) × (Unit)) × (Unit)) × ((Bool) × (Unit))) :=
  (impl_fracOf n a1 a2).bind fun r0 =>
  cond (!r0.1.2.1.1)
  ((impl_zero n).bind fun r1 =>
    some (((((r1.1.1.1.1, r1.1.1.1.2), ()), ()), (true, ()))))
  (some (((((r0.1.1.1.1, r0.1.1.1.2), ()), ()), (b0, ()))))

noncomputable def impl_calc_told (n : Nat) (a1 : Int) (a2 : Int) (b0 : Bool) : Option (((((Int) × (Int)) × (Unit)) × (Unit)) × ((Bool) × (Unit))) := impl_calc_told_t n a1 a2 b0

noncomputable def impl_calc_div_t (n : Nat) (a1 : (Int) × (Int)) (a2 : (Int) × (Int)) (b0 : Bool) : Option (((((Int) × (Int)) × (Unit)) × (Unit)) × ((Bool) × (Unit))) :=
  cond ((a2.1 == 0))
  ((impl_zero n).bind fun r0 =>
    some (((((r0.1.1.1.1, r0.1.1.1.2), ()), ()), (true, ()))))
  ((impl_calc_told n ((IntKind.wrap .i64 (a1.1 * a2.2))) ((IntKind.wrap .i64 (a1.2 * a2.1))) b0).bind fun r1 =>
    some (((((r1.1.1.1.1, r1.1.1.1.2), ()), ()), (r1.2.1, ()))))

noncomputable def impl_calc_div (n : Nat) (a1 : (Int) × (Int)) (a2 : (Int) × (Int)) (b0 : Bool) : Option (((((Int) × (Int)) × (Unit)) × (Unit)) × ((Bool) × (Unit))) := impl_calc_div_t n a1 a2 b0

noncomputable def impl_calc_mul_t (n : Nat) (a1 : (Int) × (Int)) (a2 : (Int) × (Int)) (b0 : Bool) : Option (((((Int) × (Int)) × (Unit)) × (Unit)) × ((Bool) × (Unit))) :=
  (impl_calc_told n ((IntKind.wrap .i64 (a1.1 * a2.1))) ((IntKind.wrap .i64 (a1.2 * a2.2))) b0).bind fun r0 =>
  some (((((r0.1.1.1.1, r0.1.1.1.2), ()), ()), (r0.2.1, ())))

noncomputable def impl_calc_mul (n : Nat) (a1 : (Int) × (Int)) (a2 : (Int) × (Int)) (b0 : Bool) : Option (((((Int) × (Int)) × (Unit)) × (Unit)) × ((Bool) × (Unit))) := impl_calc_mul_t n a1 a2 b0

noncomputable def impl_calc_sub_t (n : Nat) (a1 : (Int) × (Int)) (a2 : (Int) × (Int)) (b0 : Bool) : Option (((((Int) × (Int)) × (Unit)) × (Unit)) × ((Bool) × (Unit))) :=
  (impl_calc_told n ((IntKind.wrap .i64 ((IntKind.wrap .i64 (a1.1 * a2.2)) - (IntKind.wrap .i64 (a2.1 * a1.2))))) ((IntKind.wrap .i64 (a1.2 * a2.2))) b0).bind fun r0 =>
  some (((((r0.1.1.1.1, r0.1.1.1.2), ()), ()), (r0.2.1, ())))

noncomputable def impl_calc_sub (n : Nat) (a1 : (Int) × (Int)) (a2 : (Int) × (Int)) (b0 : Bool) : Option (((((Int) × (Int)) × (Unit)) × (Unit)) × ((Bool) × (Unit))) := impl_calc_sub_t n a1 a2 b0

noncomputable def impl_calc_eliminate_t14 (n : Nat) (g9 : Int → Int → Int → Int → Bool → (List Nat) → (List (List ((Int) × (Int)))) → (List ((Int) × (Int))) → Option ((((Bool) × (Unit)) × (Unit)) × ((Bool) × (((List Nat) × (List (List ((Int) × (Int))))) × ((List ((Int) × (Int))) × (Unit)))))) (g14 : Int → Int → Int → Int → Int → Int → Bool → (List Nat) → (List (List ((Int) × (Int)))) → (List ((Int) × (Int))) → Int → Int → Option ((((Bool) × (Unit)) × (Unit)) × ((Bool) × (((List Nat) × (List (List ((Int) × (Int))))) × ((List ((Int) × (Int))) × (Unit)))))) (v14 : Int) (v4 : Int) (v12 : Int) (v3 : Int) (v66 : Int) (v67 : Int) (b0 : Bool) (b1p : List Nat) (b1i : List (List ((Int) × (Int)))) (b2 : List ((Int) × (Int))) (b3_0 : Int) (b3_1 : Int) : Option ((((Bool) × (Unit)) × (Unit)) × ((Bool) × (((List Nat) × (List (List ((Int) × (Int))))) × ((List ((Int) × (Int))) × (Unit))))) :=
  cond ((decide (0 ≤ v12) && decide (v12 < ((b1p.length : Nat) : Int))))
  (cond (decide (v14 < (((b1i.getD (b1p.getD (Int.toNat v12) 0) []).length : Nat) : Int)))
    (cond ((decide (0 ≤ v12) && decide (v12 < ((b1p.length : Nat) : Int))))
      (cond ((decide (0 ≤ v12) && decide (v12 < ((b1p.length : Nat) : Int))))
        (cond ((decide (0 ≤ v14) && decide (v14 < (((b1i.getD (b1p.getD (Int.toNat v12) 0) []).length : Nat) : Int))))
          (cond ((decide (0 ≤ v4) && decide (v4 < ((b1p.length : Nat) : Int))))
            (cond ((decide (0 ≤ v14) && decide (v14 < (((b1i.getD (b1p.getD (Int.toNat v4) 0) []).length : Nat) : Int))))
              ((impl_calc_mul n ((b3_0, b3_1)) ((((b1i.getD (b1p.getD (Int.toNat v4) 0) []).getD (Int.toNat v14) (0, 0)).1, ((b1i.getD (b1p.getD (Int.toNat v4) 0) []).getD (Int.toNat v14) (0, 0)).2)) b0).bind fun r1 =>
                (impl_calc_sub n ((((b1i.getD (b1p.getD (Int.toNat v12) 0) []).getD (Int.toNat v14) (0, 0)).1, ((b1i.getD (b1p.getD (Int.toNat v12) 0) []).getD (Int.toNat v14) (0, 0)).2)) ((r1.1.1.1.1, r1.1.1.1.2)) r1.2.1).bind fun r2 =>
                cond ((decide (0 ≤ v14) && decide (v14 < (((b1i.getD (b1p.getD (Int.toNat v12) 0) []).length : Nat) : Int))))
                (g14 ((IntKind.wrap .i64 (v14 + 1))) v4 v12 v3 v66 v67 r2.2.1 b1p ((b1i.set (b1p.getD (Int.toNat v12) 0) ((b1i.getD (b1p.getD (Int.toNat v12) 0) []).set (Int.toNat v14) (r2.1.1.1.1, r2.1.1.1.2)))) b2 b3_0 b3_1)
                (none))
              (none))
            (none))
          (none))
        (none))
      (none))
    (cond ((decide (0 ≤ v12) && decide (v12 < ((b2.length : Nat) : Int))))
      (cond ((decide (0 ≤ v4) && decide (v4 < ((b2.length : Nat) : Int))))
        ((impl_calc_mul n ((b3_0, b3_1)) (((b2.getD (Int.toNat v4) (0, 0)).1, (b2.getD (Int.toNat v4) (0, 0)).2)) b0).bind fun r3 =>
          (impl_calc_sub n (((b2.getD (Int.toNat v12) (0, 0)).1, (b2.getD (Int.toNat v12) (0, 0)).2)) ((r3.1.1.1.1, r3.1.1.1.2)) r3.2.1).bind fun r4 =>
          cond ((decide (0 ≤ v12) && decide (v12 < ((b2.length : Nat) : Int))))
          (g9 ((IntKind.wrap .i64 (v67 + 1))) v4 v3 v66 r4.2.1 b1p b1i ((b2.set (Int.toNat v12) (r4.1.1.1.1, r4.1.1.1.2))))
          (none))
        (none))
      (none)))
  (none)

noncomputable def impl_calc_eliminate_l14 (n : Nat) (g9 : Int → Int → Int → Int → Bool → (List Nat) → (List (List ((Int) × (Int)))) → (List ((Int) × (Int))) → Option ((((Bool) × (Unit)) × (Unit)) × ((Bool) × (((List Nat) × (List (List ((Int) × (Int))))) × ((List ((Int) × (Int))) × (Unit)))))) : Nat → Int → Int → Int → Int → Int → Int → Bool → (List Nat) → (List (List ((Int) × (Int)))) → (List ((Int) × (Int))) → Int → Int → Option ((((Bool) × (Unit)) × (Unit)) × ((Bool) × (((List Nat) × (List (List ((Int) × (Int))))) × ((List ((Int) × (Int))) × (Unit)))))
  | 0, _, _, _, _, _, _, _, _, _, _, _, _ => none
  | k + 1, v14, v4, v12, v3, v66, v67, b0, b1p, b1i, b2, b3_0, b3_1 => impl_calc_eliminate_t14 n g9 (impl_calc_eliminate_l14 n g9 k) v14 v4 v12 v3 v66 v67 b0 b1p b1i b2 b3_0 b3_1

noncomputable def impl_calc_eliminate_t9 (n : Nat) (h14 : Nat → Int → Int → Int → Int → Int → Int → Bool → (List Nat) → (List (List ((Int) × (Int)))) → (List ((Int) × (Int))) → Int → Int → Option ((((Bool) × (Unit)) × (Unit)) × ((Bool) × (((List Nat) × (List (List ((Int) × (Int))))) × ((List ((Int) × (Int))) × (Unit)))))) (g9 : Int → Int → Int → Int → Bool → (List Nat) → (List (List ((Int) × (Int)))) → (List ((Int) × (Int))) → Option ((((Bool) × (Unit)) × (Unit)) × ((Bool) × (((List Nat) × (List (List ((Int) × (Int))))) × ((List ((Int) × (Int))) × (Unit)))))) (v67 : Int) (v4 : Int) (v3 : Int) (v66 : Int) (b0 : Bool) (b1p : List Nat) (b1i : List (List ((Int) × (Int)))) (b2 : List ((Int) × (Int))) : Option ((((Bool) × (Unit)) × (Unit)) × ((Bool) × (((List Nat) × (List (List ((Int) × (Int))))) × ((List ((Int) × (Int))) × (Unit))))) :=
  cond (decide (v67 < v66))
  (cond ((v67 == v4))
    (g9 ((IntKind.wrap .i64 (v67 + 1))) v4 v3 v66 b0 b1p b1i b2)
    (cond ((decide (0 ≤ v67) && decide (v67 < ((b1p.length : Nat) : Int))))
      (cond ((decide (0 ≤ v3) && decide (v3 < (((b1i.getD (b1p.getD (Int.toNat v67) 0) []).length : Nat) : Int))))
        (cond ((((b1i.getD (b1p.getD (Int.toNat v67) 0) []).getD (Int.toNat v3) (0, 0)).1 == 0))
          (g9 ((IntKind.wrap .i64 (v67 + 1))) v4 v3 v66 b0 b1p b1i b2)
          (cond b0
            (g9 ((IntKind.wrap .i64 (v67 + 1))) v4 v3 v66 b0 b1p b1i b2)
            (cond ((decide (0 ≤ v67) && decide (v67 < ((b1p.length : Nat) : Int))))
              (cond ((decide (0 ≤ v3) && decide (v3 < (((b1i.getD (b1p.getD (Int.toNat v67) 0) []).length : Nat) : Int))))
                (cond ((decide (0 ≤ v4) && decide (v4 < ((b1p.length : Nat) : Int))))
                  (cond ((decide (0 ≤ v3) && decide (v3 < (((b1i.getD (b1p.getD (Int.toNat v4) 0) []).length : Nat) : Int))))
                    ((impl_calc_div n ((((b1i.getD (b1p.getD (Int.toNat v67) 0) []).getD (Int.toNat v3) (0, 0)).1, ((b1i.getD (b1p.getD (Int.toNat v67) 0) []).getD (Int.toNat v3) (0, 0)).2)) ((((b1i.getD (b1p.getD (Int.toNat v4) 0) []).getD (Int.toNat v3) (0, 0)).1, ((b1i.getD (b1p.getD (Int.toNat v4) 0) []).getD (Int.toNat v3) (0, 0)).2)) b0).bind fun r0 =>
                      h14 n v3 v4 v67 v3 v66 v67 r0.2.1 b1p b1i b2 r0.1.1.1.1 r0.1.1.1.2)
                    (none))
                  (none))
                (none))
              (none))))
        (none))
      (none)))
  (some ((((true, ()), ()), (b0, ((b1p, b1i), (b2, ()))))))

noncomputable def impl_calc_eliminate_l9 (n : Nat) : Nat → Int → Int → Int → Int → Bool → (List Nat) → (List (List ((Int) × (Int)))) → (List ((Int) × (Int))) → Option ((((Bool) × (Unit)) × (Unit)) × ((Bool) × (((List Nat) × (List (List ((Int) × (Int))))) × ((List ((Int) × (Int))) × (Unit)))))
  | 0, _, _, _, _, _, _, _, _ => none
  | k + 1, v67, v4, v3, v66, b0, b1p, b1i, b2 => impl_calc_eliminate_t9 n (impl_calc_eliminate_l14 n (impl_calc_eliminate_l9 n k)) (impl_calc_eliminate_l9 n k) v67 v4 v3 v66 b0 b1p b1i b2

noncomputable def impl_calc_eliminate_t2 (n : Nat) (h9 : Nat → Int → Int → Int → Int → Bool → (List Nat) → (List (List ((Int) × (Int)))) → (List ((Int) × (Int))) → Option ((((Bool) × (Unit)) × (Unit)) × ((Bool) × (((List Nat) × (List (List ((Int) × (Int))))) × ((List ((Int) × (Int))) × (Unit)))))) (g2 : Int → Int → Int → Bool → (List Nat) → (List (List ((Int) × (Int)))) → (List ((Int) × (Int))) → Option ((((Bool) × (Unit)) × (Unit)) × ((Bool) × (((List Nat) × (List (List ((Int) × (Int))))) × ((List ((Int) × (Int))) × (Unit)))))) (v11 : Int) (v4 : Int) (v3 : Int) (b0 : Bool) (b1p : List Nat) (b1i : List (List ((Int) × (Int)))) (b2 : List ((Int) × (Int))) : Option ((((Bool) × (Unit)) × (Unit)) × ((Bool) × (((List Nat) × (List (List ((Int) × (Int))))) × ((List ((Int) × (Int))) × (Unit))))) :=
  cond (decide (v11 < ((b1p.length : Nat) : Int)))
  (cond ((decide (0 ≤ v11) && decide (v11 < ((b1p.length : Nat) : Int))))
    (cond ((decide (0 ≤ v3) && decide (v3 < (((b1i.getD (b1p.getD (Int.toNat v11) 0) []).length : Nat) : Int))))
      (cond ((((b1i.getD (b1p.getD (Int.toNat v11) 0) []).getD (Int.toNat v3) (0, 0)).1 == 0))
        (g2 ((IntKind.wrap .i64 (v11 + 1))) v4 v3 b0 b1p b1i b2)
        (cond ((v11 == ((b1p.length : Nat) : Int)))
          (some ((((false, ()), ()), (b0, ((b1p, b1i), (b2, ()))))))
          (cond ((decide (0 ≤ v4) && decide (v4 < ((b1p.length : Nat) : Int))))
            (cond ((decide (0 ≤ v11) && decide (v11 < ((b1p.length : Nat) : Int))))
              (cond ((decide (0 ≤ v11) && decide (v11 < ((b1p.length : Nat) : Int))))
                (cond ((decide (0 ≤ v4) && decide (v4 < (((b1p.set (Int.toNat v11) (b1p.getD (Int.toNat v4) 0)).length : Nat) : Int))))
                  (cond ((decide (0 ≤ v4) && decide (v4 < ((b2.length : Nat) : Int))))
                    (cond ((decide (0 ≤ v11) && decide (v11 < ((b2.length : Nat) : Int))))
                      (cond ((decide (0 ≤ v11) && decide (v11 < ((b2.length : Nat) : Int))))
                        (cond ((decide (0 ≤ v4) && decide (v4 < (((b2.set (Int.toNat v11) ((b2.getD (Int.toNat v4) (0, 0)).1, (b2.getD (Int.toNat v4) (0, 0)).2)).length : Nat) : Int))))
                          (h9 n 0 v4 v3 (((((b1p.set (Int.toNat v11) (b1p.getD (Int.toNat v4) 0)).set (Int.toNat v4) (b1p.getD (Int.toNat v11) 0)).length : Nat) : Int)) b0 (((b1p.set (Int.toNat v11) (b1p.getD (Int.toNat v4) 0)).set (Int.toNat v4) (b1p.getD (Int.toNat v11) 0))) b1i (((b2.set (Int.toNat v11) ((b2.getD (Int.toNat v4) (0, 0)).1, (b2.getD (Int.toNat v4) (0, 0)).2)).set (Int.toNat v4) ((b2.getD (Int.toNat v11) (0, 0)).1, (b2.getD (Int.toNat v11) (0, 0)).2))))
                          (none))
                        (none))
                      (none))
                    (none))
                  (none))
                (none))
              (none))
            (none))))
      (none))
    (none))
  (cond ((v11 == ((b1p.length : Nat) : Int)))
    (some ((((false, ()), ()), (b0, ((b1p, b1i), (b2, ()))))))
    (cond ((decide (0 ≤ v4) && decide (v4 < ((b1p.length : Nat) : Int))))
      (cond ((decide (0 ≤ v11) && decide (v11 < ((b1p.length : Nat) : Int))))
        (cond ((decide (0 ≤ v11) && decide (v11 < ((b1p.length : Nat) : Int))))
          (cond ((decide (0 ≤ v4) && decide (v4 < (((b1p.set (Int.toNat v11) (b1p.getD (Int.toNat v4) 0)).length : Nat) : Int))))
            (cond ((decide (0 ≤ v4) && decide (v4 < ((b2.length : Nat) : Int))))
              (cond ((decide (0 ≤ v11) && decide (v11 < ((b2.length : Nat) : Int))))
                (cond ((decide (0 ≤ v11) && decide (v11 < ((b2.length : Nat) : Int))))
                  (cond ((decide (0 ≤ v4) && decide (v4 < (((b2.set (Int.toNat v11) ((b2.getD (Int.toNat v4) (0, 0)).1, (b2.getD (Int.toNat v4) (0, 0)).2)).length : Nat) : Int))))
                    (h9 n 0 v4 v3 (((((b1p.set (Int.toNat v11) (b1p.getD (Int.toNat v4) 0)).set (Int.toNat v4) (b1p.getD (Int.toNat v11) 0)).length : Nat) : Int)) b0 (((b1p.set (Int.toNat v11) (b1p.getD (Int.toNat v4) 0)).set (Int.toNat v4) (b1p.getD (Int.toNat v11) 0))) b1i (((b2.set (Int.toNat v11) ((b2.getD (Int.toNat v4) (0, 0)).1, (b2.getD (Int.toNat v4) (0, 0)).2)).set (Int.toNat v4) ((b2.getD (Int.toNat v11) (0, 0)).1, (b2.getD (Int.toNat v11) (0, 0)).2))))
                    (none))
                  (none))
                (none))
              (none))
            (none))
          (none))
        (none))
      (none)))

noncomputable def impl_calc_eliminate_l2 (n : Nat) : Nat → Int → Int → Int → Bool → (List Nat) → (List (List ((Int) × (Int)))) → (List ((Int) × (Int))) → Option ((((Bool) × (Unit)) × (Unit)) × ((Bool) × (((List Nat) × (List (List ((Int) × (Int))))) × ((List ((Int) × (Int))) × (Unit)))))
  | 0, _, _, _, _, _, _, _ => none
  | k + 1, v11, v4, v3, b0, b1p, b1i, b2 => impl_calc_eliminate_t2 n (impl_calc_eliminate_l9 n) (impl_calc_eliminate_l2 n k) v11 v4 v3 b0 b1p b1i b2

noncomputable def impl_calc_eliminate_t (n : Nat) (h2 : Nat → Int → Int → Int → Bool → (List Nat) → (List (List ((Int) × (Int)))) → (List ((Int) × (Int))) → Option ((((Bool) × (Unit)) × (Unit)) × ((Bool) × (((List Nat) × (List (List ((Int) × (Int))))) × ((List ((Int) × (Int))) × (Unit)))))) (a3 : Int) (a4 : Int) (b0 : Bool) (b1 : (List Nat) × (List (List ((Int) × (Int))))) (b2 : List ((Int) × (Int))) : Option ((((Bool) × (Unit)) × (Unit)) × ((Bool) × (((List Nat) × (List (List ((Int) × (Int))))) × ((List ((Int) × (Int))) × (Unit))))) :=
  h2 n a4 a4 a3 b0 b1.1 b1.2 b2

noncomputable def impl_calc_eliminate (n : Nat) (a3 : Int) (a4 : Int) (b0 : Bool) (b1 : (List Nat) × (List (List ((Int) × (Int))))) (b2 : List ((Int) × (Int))) : Option ((((Bool) × (Unit)) × (Unit)) × ((Bool) × (((List Nat) × (List (List ((Int) × (Int))))) × ((List ((Int) × (Int))) × (Unit))))) := impl_calc_eliminate_t n (impl_calc_eliminate_l2 n) a3 a4 b0 b1 b2

noncomputable def slices_Clone_impl_Frac_impl_Frac_t (n : Nat) (a0 : List ((Int) × (Int))) : Option ((((List ((Int) × (Int))) × (Unit)) × (Unit)) × (Unit)) :=
  cond ((emptyL a0))
  (eith
    (some (((([], ()), ()), ())))
    (cond (decide (((0 + a0.length) * 17) ≤ 70368744177664))
      (some ((((([] ++ a0), ()), ()), ())))
      (none)))
  (cond (decide (((0 + a0.length) * 17) ≤ 70368744177664))
    (some ((((([] ++ a0), ()), ()), ())))
    (none))

noncomputable def slices_Clone_impl_Frac_impl_Frac (n : Nat) (a0 : List ((Int) × (Int))) : Option ((((List ((Int) × (Int))) × (Unit)) × (Unit)) × (Unit)) := slices_Clone_impl_Frac_impl_Frac_t n a0

noncomputable def impl_copyRows_t3 (n : Nat) (g3 : Int → (List (List ((Int) × (Int)))) → Int → (List Nat) → (List (List ((Int) × (Int)))) → Option (((((List Nat) × (List (List ((Int) × (Int))))) × (Unit)) × (Unit)) × (Unit))) (v9 : Int) (v7 : List (List ((Int) × (Int)))) (v8 : Int) (b0p : List Nat) (b0i : List (List ((Int) × (Int)))) : Option (((((List Nat) × (List (List ((Int) × (Int))))) × (Unit)) × (Unit)) × (Unit)) :=
  cond (decide (v9 < v8))
  (cond ((decide (0 ≤ v9) && decide (v9 < ((v7.length : Nat) : Int))))
    ((slices_Clone_impl_Frac_impl_Frac n ((v7.getD (Int.toNat v9) []))).bind fun r0 =>
      cond (decide (((b0p.length + 1) * 25) ≤ 70368744177664))
      (g3 ((IntKind.wrap .i64 (v9 + 1))) v7 v8 ((b0p ++ (b0i.length :: []))) ((b0i ++ (r0.1.1.1 :: []))))
      (none))
    (none))
  (some (((((b0p, b0i), ()), ()), ())))

noncomputable def impl_copyRows_l3 (n : Nat) : Nat → Int → (List (List ((Int) × (Int)))) → Int → (List Nat) → (List (List ((Int) × (Int)))) → Option (((((List Nat) × (List (List ((Int) × (Int))))) × (Unit)) × (Unit)) × (Unit))
  | 0, _, _, _, _, _ => none
  | k + 1, v9, v7, v8, b0p, b0i => impl_copyRows_t3 n (impl_copyRows_l3 n k) v9 v7 v8 b0p b0i

noncomputable def impl_copyRows_t (n : Nat) (h3 : Nat → Int → (List (List ((Int) × (Int)))) → Int → (List Nat) → (List (List ((Int) × (Int)))) → Option (((((List Nat) × (List (List ((Int) × (Int))))) × (Unit)) × (Unit)) × (Unit))) (a0 : List (List ((Int) × (Int)))) : Option (((((List Nat) × (List (List ((Int) × (Int))))) × (Unit)) × (Unit)) × (Unit)) :=
  h3 n 0 a0 (((a0.length : Nat) : Int)) [] []

noncomputable def impl_copyRows (n : Nat) (a0 : List (List ((Int) × (Int)))) : Option (((((List Nat) × (List (List ((Int) × (Int))))) × (Unit)) × (Unit)) × (Unit)) := impl_copyRows_t n (impl_copyRows_l3 n) a0

noncomputable def impl_SolveFracs_1_t (n : Nat) (a0 : List ((Int) × (Int))) (b0 : Int) : Option ((((Bool) × (Unit)) × (Unit)) × ((Int) × (Unit))) :=
  some (((((((a0.length : Nat) : Int) != b0), ()), ()), (b0, ())))

noncomputable def impl_SolveFracs_1 (n : Nat) (a0 : List ((Int) × (Int))) (b0 : Int) : Option ((((Bool) × (Unit)) × (Unit)) × ((Int) × (Unit))) := impl_SolveFracs_1_t n a0 b0

noncomputable def slices_IndexFunc_impl_Frac_impl_Frac_at_impl_SolveFracs_1_t2 (n : Nat) (g2 : Int → (List (List ((Int) × (Int)))) → Int → Int → Option ((((Int) × (Unit)) × (Unit)) × ((Int) × (Unit)))) (v8 : Int) (v0 : List (List ((Int) × (Int)))) (v7 : Int) (b0 : Int) : Option ((((Int) × (Unit)) × (Unit)) × ((Int) × (Unit))) :=
  cond (decide (v8 < v7))
  (cond ((decide (0 ≤ v8) && decide (v8 < ((v0.length : Nat) : Int))))
    ((impl_SolveFracs_1 n ((v0.getD (Int.toNat v8) [])) b0).bind fun r0 =>
      cond r0.1.1.1
      (some ((((v8, ()), ()), (r0.2.1, ()))))
      (g2 ((IntKind.wrap .i64 (v8 + 1))) v0 v7 r0.2.1))
    (none))
  (some (((((-1), ()), ()), (b0, ()))))

noncomputable def slices_IndexFunc_impl_Frac_impl_Frac_at_impl_SolveFracs_1_l2 (n : Nat) : Nat → Int → (List (List ((Int) × (Int)))) → Int → Int → Option ((((Int) × (Unit)) × (Unit)) × ((Int) × (Unit)))
  | 0, _, _, _, _ => none
  | k + 1, v8, v0, v7, b0 => slices_IndexFunc_impl_Frac_impl_Frac_at_impl_SolveFracs_1_t2 n (slices_IndexFunc_impl_Frac_impl_Frac_at_impl_SolveFracs_1_l2 n k) v8 v0 v7 b0

noncomputable def slices_IndexFunc_impl_Frac_impl_Frac_at_impl_SolveFracs_1_t (n : Nat) (h2 : Nat → Int → (List (List ((Int) × (Int)))) → Int → Int → Option ((((Int) × (Unit)) × (Unit)) × ((Int) × (Unit)))) (a0 : List (List ((Int) × (Int)))) (b0 : Int) : Option ((((Int) × (Unit)) × (Unit)) × ((Int) × (Unit))) :=
  h2 n 0 a0 (((a0.length : Nat) : Int)) b0

noncomputable def slices_IndexFunc_impl_Frac_impl_Frac_at_impl_SolveFracs_1 (n : Nat) (a0 : List (List ((Int) × (Int)))) (b0 : Int) : Option ((((Int) × (Unit)) × (Unit)) × ((Int) × (Unit))) := slices_IndexFunc_impl_Frac_impl_Frac_at_impl_SolveFracs_1_t n (slices_IndexFunc_impl_Frac_impl_Frac_at_impl_SolveFracs_1_l2 n) a0 b0

noncomputable def slices_ContainsFunc_impl_Frac_impl_Frac_at_impl_SolveFracs_1_t (n : Nat) (a0 : List (List ((Int) × (Int)))) (b0 : Int) : Option ((((Bool) × (Unit)) × (Unit)) × ((Int) × (Unit))) :=
  (slices_IndexFunc_impl_Frac_impl_Frac_at_impl_SolveFracs_1 n a0 b0).bind fun r0 =>
  some ((((decide (r0.1.1.1 ≥ 0), ()), ()), (r0.2.1, ())))

noncomputable def slices_ContainsFunc_impl_Frac_impl_Frac_at_impl_SolveFracs_1 (n : Nat) (a0 : List (List ((Int) × (Int)))) (b0 : Int) : Option ((((Bool) × (Unit)) × (Unit)) × ((Int) × (Unit))) := slices_ContainsFunc_impl_Frac_impl_Frac_at_impl_SolveFracs_1_t n a0 b0

noncomputable def impl_SolveFracs_t20 (n : Nat) (g20 : Int → Int → (List Nat) → (List (List ((Int) × (Int)))) → (List ((Int) × (Int))) → Bool → Option ((((List ((Int) × (Int))) × (Unit)) × (((Int) × (Unit)) × (Unit))) × (Unit))) (v70 : Int) (v69 : Int) (b0p : List Nat) (b0i : List (List ((Int) × (Int)))) (b1 : List ((Int) × (Int))) (b2 : Bool) : Option ((((List ((Int) × (Int))) × (Unit)) × (((Int) × (Unit)) × (Unit))) × (Unit)) :=
  cond (decide (v70 < v69))
  (cond ((decide (0 ≤ v70) && decide (v70 < ((b1.length : Nat) : Int))))
    (cond ((decide (0 ≤ v70) && decide (v70 < ((b0p.length : Nat) : Int))))
      (cond ((decide (0 ≤ v70) && decide (v70 < (((b0i.getD (b0p.getD (Int.toNat v70) 0) []).length : Nat) : Int))))
        ((impl_calc_div n (((b1.getD (Int.toNat v70) (0, 0)).1, (b1.getD (Int.toNat v70) (0, 0)).2)) ((((b0i.getD (b0p.getD (Int.toNat v70) 0) []).getD (Int.toNat v70) (0, 0)).1, ((b0i.getD (b0p.getD (Int.toNat v70) 0) []).getD (Int.toNat v70) (0, 0)).2)) b2).bind fun r6 =>
          cond ((decide (0 ≤ v70) && decide (v70 < ((b1.length : Nat) : Int))))
          (g20 ((IntKind.wrap .i64 (v70 + 1))) v69 b0p b0i ((b1.set (Int.toNat v70) (r6.1.1.1.1, r6.1.1.1.2))) r6.2.1)
          (none))
        (none))
      (none))
    (none))
  (cond b2
    (some (((([], ()), ((3, ()), ())), ())))
    (some ((((b1, ()), ((0, ()), ())), ()))))

noncomputable def impl_SolveFracs_l20 (n : Nat) : Nat → Int → Int → (List Nat) → (List (List ((Int) × (Int)))) → (List ((Int) × (Int))) → Bool → Option ((((List ((Int) × (Int))) × (Unit)) × (((Int) × (Unit)) × (Unit))) × (Unit))
  | 0, _, _, _, _, _, _ => none
  | k + 1, v70, v69, b0p, b0i, b1, b2 => impl_SolveFracs_t20 n (impl_SolveFracs_l20 n k) v70 v69 b0p b0i b1 b2

noncomputable def impl_SolveFracs_t12 (n : Nat) (h20 : Nat → Int → Int → (List Nat) → (List (List ((Int) × (Int)))) → (List ((Int) × (Int))) → Bool → Option ((((List ((Int) × (Int))) × (Unit)) × (((Int) × (Unit)) × (Unit))) × (Unit))) (g12 : Int → Int → Bool → (List ((Int) × (Int))) → (List Nat) → (List (List ((Int) × (Int)))) → Int → Option ((((List ((Int) × (Int))) × (Unit)) × (((Int) × (Unit)) × (Unit))) × (Unit))) (v54 : Int) (v53 : Int) (b0 : Bool) (b1 : List ((Int) × (Int))) (b2p : List Nat) (b2i : List (List ((Int) × (Int)))) (b3 : Int) : Option ((((List ((Int) × (Int))) × (Unit)) × (((Int) × (Unit)) × (Unit))) × (Unit)) :=
  cond (decide (v54 < v53))
  ((impl_calc_eliminate n v54 v54 b0 ((b2p, b2i)) b1).bind fun r5 =>
    cond (!r5.1.1.1)
    (some (((([], ()), ((4, ()), ())), ())))
    (cond r5.2.1
      (some (((([], ()), ((3, ()), ())), ())))
      (g12 ((IntKind.wrap .i64 (v54 + 1))) v53 r5.2.1 r5.2.2.2.1 r5.2.2.1.1 r5.2.2.1.2 b3)))
  (h20 n 0 b3 b2p b2i b1 b0)

noncomputable def impl_SolveFracs_l12 (n : Nat) : Nat → Int → Int → Bool → (List ((Int) × (Int))) → (List Nat) → (List (List ((Int) × (Int)))) → Int → Option ((((List ((Int) × (Int))) × (Unit)) × (((Int) × (Unit)) × (Unit))) × (Unit))
  | 0, _, _, _, _, _, _, _ => none
  | k + 1, v54, v53, b0, b1, b2p, b2i, b3 => impl_SolveFracs_t12 n (impl_SolveFracs_l20 n) (impl_SolveFracs_l12 n k) v54 v53 b0 b1 b2p b2i b3

noncomputable def impl_SolveFracs_t2 (n : Nat) (h12 : Nat → Int → Int → Bool → (List ((Int) × (Int))) → (List Nat) → (List (List ((Int) × (Int)))) → Int → Option ((((List ((Int) × (Int))) × (Unit)) × (((Int) × (Unit)) × (Unit))) × (Unit))) (g2 : Int → (List (List ((Int) × (Int)))) → (List ((Int) × (Int))) → (List (List ((Int) × (Int)))) → Int → Option ((((List ((Int) × (Int))) × (Unit)) × (((Int) × (Unit)) × (Unit))) × (Unit))) (v20 : Int) (v18 : List (List ((Int) × (Int)))) (v1 : List ((Int) × (Int))) (v0 : List (List ((Int) × (Int)))) (v19 : Int) : Option ((((List ((Int) × (Int))) × (Unit)) × (((Int) × (Unit)) × (Unit))) × (Unit)) :=
  cond (decide (v20 < v19))
  (cond ((decide (0 ≤ v20) && decide (v20 < ((v18.length : Nat) : Int))))
    ((impl_areValid n ((v18.getD (Int.toNat v20) []))).bind fun r1 =>
      cond (!r1.1.1.1)
      (some (((([], ()), ((1, ()), ())), ())))
      (g2 ((IntKind.wrap .i64 (v20 + 1))) v18 v1 v0 v19))
    (none))
  (cond (decide (((v0.length : Nat) : Int) < 1))
    (some (((([], ()), ((2, ()), ())), ())))
    (cond (decide (((v0.length : Nat) : Int) > 7))
      (some (((([], ()), ((2, ()), ())), ())))
      (cond ((((v1.length : Nat) : Int) != ((v0.length : Nat) : Int)))
        (some (((([], ()), ((2, ()), ())), ())))
        ((slices_ContainsFunc_impl_Frac_impl_Frac_at_impl_SolveFracs_1 n v0 (((v0.length : Nat) : Int))).bind fun r2 =>
          cond r2.1.1.1
          (some (((([], ()), ((2, ()), ())), ())))
          ((impl_copyRows n v0).bind fun r3 =>
            (slices_Clone_impl_Frac_impl_Frac n v1).bind fun r4 =>
            h12 n 0 r2.2.1 false r4.1.1.1 r3.1.1.1.1 r3.1.1.1.2 r2.2.1)))))

noncomputable def impl_SolveFracs_l2 (n : Nat) : Nat → Int → (List (List ((Int) × (Int)))) → (List ((Int) × (Int))) → (List (List ((Int) × (Int)))) → Int → Option ((((List ((Int) × (Int))) × (Unit)) × (((Int) × (Unit)) × (Unit))) × (Unit))
  | 0, _, _, _, _, _ => none
  | k + 1, v20, v18, v1, v0, v19 => impl_SolveFracs_t2 n (impl_SolveFracs_l12 n) (impl_SolveFracs_l2 n k) v20 v18 v1 v0 v19

noncomputable def impl_SolveFracs_t (n : Nat) (h2 : Nat → Int → (List (List ((Int) × (Int)))) → (List ((Int) × (Int))) → (List (List ((Int) × (Int)))) → Int → Option ((((List ((Int) × (Int))) × (Unit)) × (((Int) × (Unit)) × (Unit))) × (Unit))) (a0 : List (List ((Int) × (Int)))) (a1 : List ((Int) × (Int))) : Option ((((List ((Int) × (Int))) × (Unit)) × (((Int) × (Unit)) × (Unit))) × (Unit)) :=
  (impl_copyRows n a0).bind fun r0 =>
  cond (decide (((r0.1.1.1.1.length + (a1 :: []).length) * 25) ≤ 70368744177664))
  (h2 n 0 (((rowsAt r0.1.1.1.1 r0.1.1.1.2) ++ (a1 :: []))) a1 a0 (((((rowsAt r0.1.1.1.1 r0.1.1.1.2) ++ (a1 :: [])).length : Nat) : Int)))
  (none)

noncomputable def impl_SolveFracs (n : Nat) (a0 : List (List ((Int) × (Int)))) (a1 : List ((Int) × (Int))) : Option ((((List ((Int) × (Int))) × (Unit)) × (((Int) × (Unit)) × (Unit))) × (Unit)) := impl_SolveFracs_t n (impl_SolveFracs_l2 n) a0 a1

noncomputable def laws_eqFrac_t (n : Nat) (a0 : (Int) × (Int)) (a1 : (Int) × (Int)) : Option ((((Bool) × (Unit)) × (Unit)) × (Unit)) :=
  cond ((a0.1 != a1.1))
  (some ((((false, ()), ()), ())))
  (cond ((a0.2 != a1.2))
    (some ((((false, ()), ()), ())))
    (some ((((true, ()), ()), ()))))

noncomputable def laws_eqFrac (n : Nat) (a0 : (Int) × (Int)) (a1 : (Int) × (Int)) : Option ((((Bool) × (Unit)) × (Unit)) × (Unit)) := laws_eqFrac_t n a0 a1

noncomputable def laws_eqFracS_t4 (n : Nat) (g4 : Int → (List ((Int) × (Int))) → (List ((Int) × (Int))) → Option ((((Bool) × (Unit)) × (Unit)) × (Unit))) (v5 : Int) (v1 : List ((Int) × (Int))) (v0 : List ((Int) × (Int))) : Option ((((Bool) × (Unit)) × (Unit)) × (Unit)) :=
  cond (decide (v5 < ((v0.length : Nat) : Int)))
  (cond ((decide (0 ≤ v5) && decide (v5 < ((v0.length : Nat) : Int))))
    (cond ((decide (0 ≤ v5) && decide (v5 < ((v1.length : Nat) : Int))))
      ((laws_eqFrac n (((v0.getD (Int.toNat v5) (0, 0)).1, (v0.getD (Int.toNat v5) (0, 0)).2)) (((v1.getD (Int.toNat v5) (0, 0)).1, (v1.getD (Int.toNat v5) (0, 0)).2))).bind fun r0 =>
        cond (!r0.1.1.1)
        (some ((((false, ()), ()), ())))
        (g4 ((IntKind.wrap .i64 (v5 + 1))) v1 v0))
      (none))
    (none))
  (some ((((true, ()), ()), ())))

noncomputable def laws_eqFracS_l4 (n : Nat) : Nat → Int → (List ((Int) × (Int))) → (List ((Int) × (Int))) → Option ((((Bool) × (Unit)) × (Unit)) × (Unit))
  | 0, _, _, _ => none
  | k + 1, v5, v1, v0 => laws_eqFracS_t4 n (laws_eqFracS_l4 n k) v5 v1 v0

noncomputable def laws_eqFracS_t (n : Nat) (h4 : Nat → Int → (List ((Int) × (Int))) → (List ((Int) × (Int))) → Option ((((Bool) × (Unit)) × (Unit)) × (Unit))) (a0 : List ((Int) × (Int))) (a1 : List ((Int) × (Int))) : Option ((((Bool) × (Unit)) × (Unit)) × (Unit)) :=
  cond ((((a0.length : Nat) : Int) != ((a1.length : Nat) : Int)))
  (some ((((false, ()), ()), ())))
  (h4 n 0 a1 a0)

noncomputable def laws_eqFracS (n : Nat) (a0 : List ((Int) × (Int))) (a1 : List ((Int) × (Int))) : Option ((((Bool) × (Unit)) × (Unit)) × (Unit)) := laws_eqFracS_t n (laws_eqFracS_l4 n) a0 a1

noncomputable def laws_eqFracSS_t4 (n : Nat) (g4 : Int → (List (List ((Int) × (Int)))) → (List (List ((Int) × (Int)))) → Option ((((Bool) × (Unit)) × (Unit)) × (Unit))) (v5 : Int) (v1 : List (List ((Int) × (Int)))) (v0 : List (List ((Int) × (Int)))) : Option ((((Bool) × (Unit)) × (Unit)) × (Unit)) :=
  cond (decide (v5 < ((v0.length : Nat) : Int)))
  (cond ((decide (0 ≤ v5) && decide (v5 < ((v0.length : Nat) : Int))))
    (cond ((decide (0 ≤ v5) && decide (v5 < ((v1.length : Nat) : Int))))
      ((laws_eqFracS n ((v0.getD (Int.toNat v5) [])) ((v1.getD (Int.toNat v5) []))).bind fun r0 =>
        cond (!r0.1.1.1)
        (some ((((false, ()), ()), ())))
        (g4 ((IntKind.wrap .i64 (v5 + 1))) v1 v0))
      (none))
    (none))
  (some ((((true, ()), ()), ())))

noncomputable def laws_eqFracSS_l4 (n : Nat) : Nat → Int → (List (List ((Int) × (Int)))) → (List (List ((Int) × (Int)))) → Option ((((Bool) × (Unit)) × (Unit)) × (Unit))
  | 0, _, _, _ => none
  | k + 1, v5, v1, v0 => laws_eqFracSS_t4 n (laws_eqFracSS_l4 n k) v5 v1 v0

noncomputable def laws_eqFracSS_t (n : Nat) (h4 : Nat → Int → (List (List ((Int) × (Int)))) → (List (List ((Int) × (Int)))) → Option ((((Bool) × (Unit)) × (Unit)) × (Unit))) (a0 : List (List ((Int) × (Int)))) (a1 : List (List ((Int) × (Int)))) : Option ((((Bool) × (Unit)) × (Unit)) × (Unit)) :=
  cond ((((a0.length : Nat) : Int) != ((a1.length : Nat) : Int)))
  (some ((((false, ()), ()), ())))
  (h4 n 0 a1 a0)

noncomputable def laws_eqFracSS (n : Nat) (a0 : List (List ((Int) × (Int)))) (a1 : List (List ((Int) × (Int)))) : Option ((((Bool) × (Unit)) × (Unit)) × (Unit)) := laws_eqFracSS_t n (laws_eqFracSS_l4 n) a0 a1

noncomputable def laws_heldFracS_t2 (n : Nat) (g2 : Int → (List ((Int) × (Int))) → Int → Option ((((Int) × (Unit)) × (Unit)) × (Unit))) (v5 : Int) (v0 : List ((Int) × (Int))) (v1 : Int) : Option ((((Int) × (Unit)) × (Unit)) × (Unit)) :=
  cond (decide (v5 < ((v0.length : Nat) : Int)))
  (cond ((decide (0 ≤ v5) && decide (v5 < ((v0.length : Nat) : Int))))
    (cond (((v0.getD (Int.toNat v5) (0, 0)).1 != v1))
      (some (((((-1), ()), ()), ())))
      (cond ((decide (0 ≤ v5) && decide (v5 < ((v0.length : Nat) : Int))))
        (cond (((v0.getD (Int.toNat v5) (0, 0)).2 != (IntKind.wrap .i64 (v1 + 1))))
          (some (((((-1), ()), ()), ())))
          (g2 ((IntKind.wrap .i64 (v5 + 1))) v0 ((IntKind.wrap .i64 ((IntKind.wrap .i64 (v1 + 1)) + 1)))))
        (none)))
    (none))
  (some ((((v1, ()), ()), ())))

noncomputable def laws_heldFracS_l2 (n : Nat) : Nat → Int → (List ((Int) × (Int))) → Int → Option ((((Int) × (Unit)) × (Unit)) × (Unit))
  | 0, _, _, _ => none
  | k + 1, v5, v0, v1 => laws_heldFracS_t2 n (laws_heldFracS_l2 n k) v5 v0 v1

noncomputable def laws_heldFracS_t (n : Nat) (h2 : Nat → Int → (List ((Int) × (Int))) → Int → Option ((((Int) × (Unit)) × (Unit)) × (Unit))) (a0 : List ((Int) × (Int))) (a1 : Int) : Option ((((Int) × (Unit)) × (Unit)) × (Unit)) :=
  h2 n 0 a0 a1

noncomputable def laws_heldFracS (n : Nat) (a0 : List ((Int) × (Int))) (a1 : Int) : Option ((((Int) × (Unit)) × (Unit)) × (Unit)) := laws_heldFracS_t n (laws_heldFracS_l2 n) a0 a1

noncomputable def laws_markFracS_t2 (n : Nat) (g2 : Int → Int → (List ((Int) × (Int))) → Option ((((Int) × (Unit)) × (Unit)) × ((List ((Int) × (Int))) × (Unit)))) (v5 : Int) (v1 : Int) (b0 : List ((Int) × (Int))) : Option ((((Int) × (Unit)) × (Unit)) × ((List ((Int) × (Int))) × (Unit))) :=
  cond (decide (v5 < ((b0.length : Nat) : Int)))
  (cond ((decide (0 ≤ v5) && decide (v5 < ((b0.length : Nat) : Int))))
    (cond ((decide (0 ≤ v5) && decide (v5 < (((b0.set (Int.toNat v5) (v1, (b0.getD (Int.toNat v5) (0, 0)).2)).length : Nat) : Int))))
      (g2 ((IntKind.wrap .i64 (v5 + 1))) ((IntKind.wrap .i64 ((IntKind.wrap .i64 (v1 + 1)) + 1))) (((b0.set (Int.toNat v5) (v1, (b0.getD (Int.toNat v5) (0, 0)).2)).set (Int.toNat v5) (((b0.set (Int.toNat v5) (v1, (b0.getD (Int.toNat v5) (0, 0)).2)).getD (Int.toNat v5) (0, 0)).1, (IntKind.wrap .i64 (v1 + 1))))))
      (none))
    (none))
  (some ((((v1, ()), ()), (b0, ()))))

noncomputable def laws_markFracS_l2 (n : Nat) : Nat → Int → Int → (List ((Int) × (Int))) → Option ((((Int) × (Unit)) × (Unit)) × ((List ((Int) × (Int))) × (Unit)))
  | 0, _, _, _ => none
  | k + 1, v5, v1, b0 => laws_markFracS_t2 n (laws_markFracS_l2 n k) v5 v1 b0

noncomputable def laws_markFracS_t (n : Nat) (h2 : Nat → Int → Int → (List ((Int) × (Int))) → Option ((((Int) × (Unit)) × (Unit)) × ((List ((Int) × (Int))) × (Unit)))) (a1 : Int) (b0 : List ((Int) × (Int))) : Option ((((Int) × (Unit)) × (Unit)) × ((List ((Int) × (Int))) × (Unit))) :=
  h2 n 0 a1 b0

noncomputable def laws_markFracS (n : Nat) (a1 : Int) (b0 : List ((Int) × (Int))) : Option ((((Int) × (Unit)) × (Unit)) × ((List ((Int) × (Int))) × (Unit))) := laws_markFracS_t n (laws_markFracS_l2 n) a1 b0

noncomputable def laws_markFracS_i_t2 (n : Nat) (g2 : Int → Nat → Int → (List Nat) → (List (List ((Int) × (Int)))) → Option ((((Int) × (Unit)) × (Unit)) × (((List Nat) × (List (List ((Int) × (Int))))) × (Unit)))) (v5 : Int) (v0p : Nat) (v1 : Int) (b0p : List Nat) (b0i : List (List ((Int) × (Int)))) : Option ((((Int) × (Unit)) × (Unit)) × (((List Nat) × (List (List ((Int) × (Int))))) × (Unit))) :=
  cond (decide (v5 < (((b0i.getD v0p []).length : Nat) : Int)))
  (cond ((decide (0 ≤ v5) && decide (v5 < (((b0i.getD v0p []).length : Nat) : Int))))
    (cond ((decide (0 ≤ v5) && decide (v5 < ((((b0i.set v0p ((b0i.getD v0p []).set (Int.toNat v5) (v1, ((b0i.getD v0p []).getD (Int.toNat v5) (0, 0)).2))).getD v0p []).length : Nat) : Int))))
      (g2 ((IntKind.wrap .i64 (v5 + 1))) v0p ((IntKind.wrap .i64 ((IntKind.wrap .i64 (v1 + 1)) + 1))) b0p (((b0i.set v0p ((b0i.getD v0p []).set (Int.toNat v5) (v1, ((b0i.getD v0p []).getD (Int.toNat v5) (0, 0)).2))).set v0p (((b0i.set v0p ((b0i.getD v0p []).set (Int.toNat v5) (v1, ((b0i.getD v0p []).getD (Int.toNat v5) (0, 0)).2))).getD v0p []).set (Int.toNat v5) ((((b0i.set v0p ((b0i.getD v0p []).set (Int.toNat v5) (v1, ((b0i.getD v0p []).getD (Int.toNat v5) (0, 0)).2))).getD v0p []).getD (Int.toNat v5) (0, 0)).1, (IntKind.wrap .i64 (v1 + 1)))))))
      (none))
    (none))
  (some ((((v1, ()), ()), ((b0p, b0i), ()))))

noncomputable def laws_markFracS_i_l2 (n : Nat) : Nat → Int → Nat → Int → (List Nat) → (List (List ((Int) × (Int)))) → Option ((((Int) × (Unit)) × (Unit)) × (((List Nat) × (List (List ((Int) × (Int))))) × (Unit)))
  | 0, _, _, _, _, _ => none
  | k + 1, v5, v0p, v1, b0p, b0i => laws_markFracS_i_t2 n (laws_markFracS_i_l2 n k) v5 v0p v1 b0p b0i

noncomputable def laws_markFracS_i_t (n : Nat) (h2 : Nat → Int → Nat → Int → (List Nat) → (List (List ((Int) × (Int)))) → Option ((((Int) × (Unit)) × (Unit)) × (((List Nat) × (List (List ((Int) × (Int))))) × (Unit)))) (a0 : Nat) (a1 : Int) (b0 : (List Nat) × (List (List ((Int) × (Int))))) : Option ((((Int) × (Unit)) × (Unit)) × (((List Nat) × (List (List ((Int) × (Int))))) × (Unit))) :=
  h2 n 0 a0 a1 b0.1 b0.2

noncomputable def laws_markFracS_i (n : Nat) (a0 : Nat) (a1 : Int) (b0 : (List Nat) × (List (List ((Int) × (Int))))) : Option ((((Int) × (Unit)) × (Unit)) × (((List Nat) × (List (List ((Int) × (Int))))) × (Unit))) := laws_markFracS_i_t n (laws_markFracS_i_l2 n) a0 a1 b0

noncomputable def laws_markFracSS_t2 (n : Nat) (g2 : Int → Int → (List Nat) → (List (List ((Int) × (Int)))) → Option ((((Int) × (Unit)) × (Unit)) × (((List Nat) × (List (List ((Int) × (Int))))) × (Unit)))) (v5 : Int) (v1 : Int) (b0p : List Nat) (b0i : List (List ((Int) × (Int)))) : Option ((((Int) × (Unit)) × (Unit)) × (((List Nat) × (List (List ((Int) × (Int))))) × (Unit))) :=
  cond (decide (v5 < ((b0p.length : Nat) : Int)))
  (cond ((decide (0 ≤ v5) && decide (v5 < ((b0p.length : Nat) : Int))))
    ((laws_markFracS_i n ((b0p.getD (Int.toNat v5) 0)) v1 ((b0p, b0i))).bind fun r0 =>
      g2 ((IntKind.wrap .i64 (v5 + 1))) r0.1.1.1 r0.2.1.1 r0.2.1.2)
    (none))
  (some ((((v1, ()), ()), ((b0p, b0i), ()))))

noncomputable def laws_markFracSS_l2 (n : Nat) : Nat → Int → Int → (List Nat) → (List (List ((Int) × (Int)))) → Option ((((Int) × (Unit)) × (Unit)) × (((List Nat) × (List (List ((Int) × (Int))))) × (Unit)))
  | 0, _, _, _, _ => none
  | k + 1, v5, v1, b0p, b0i => laws_markFracSS_t2 n (laws_markFracSS_l2 n k) v5 v1 b0p b0i

noncomputable def laws_markFracSS_t (n : Nat) (h2 : Nat → Int → Int → (List Nat) → (List (List ((Int) × (Int)))) → Option ((((Int) × (Unit)) × (Unit)) × (((List Nat) × (List (List ((Int) × (Int))))) × (Unit)))) (a1 : Int) (b0 : (List Nat) × (List (List ((Int) × (Int))))) : Option ((((Int) × (Unit)) × (Unit)) × (((List Nat) × (List (List ((Int) × (Int))))) × (Unit))) :=
  h2 n 0 a1 b0.1 b0.2

noncomputable def laws_markFracSS (n : Nat) (a1 : Int) (b0 : (List Nat) × (List (List ((Int) × (Int))))) : Option ((((Int) × (Unit)) × (Unit)) × (((List Nat) × (List (List ((Int) × (Int))))) × (Unit))) := laws_markFracSS_t n (laws_markFracSS_l2 n) a1 b0

noncomputable def laws_szFracS_t (n : Nat) (a0 : List ((Int) × (Int))) (a1 : Int) : Option ((((Int) × (Unit)) × (Unit)) × (Unit)) :=
  cond (decide ((IntKind.wrap .i64 (a1 - ((a0.length : Nat) : Int))) < 0))
  (some (((((-1), ()), ()), ())))
  (some (((((IntKind.wrap .i64 (a1 - ((a0.length : Nat) : Int))), ()), ()), ())))

noncomputable def laws_szFracS (n : Nat) (a0 : List ((Int) × (Int))) (a1 : Int) : Option ((((Int) × (Unit)) × (Unit)) × (Unit)) := laws_szFracS_t n a0 a1

noncomputable def laws_szFracSS_t5 (n : Nat) (g5 : Int → Int → (List (List ((Int) × (Int)))) → Option ((((Int) × (Unit)) × (Unit)) × (Unit))) (v5 : Int) (v1 : Int) (v0 : List (List ((Int) × (Int)))) : Option ((((Int) × (Unit)) × (Unit)) × (Unit)) :=
  cond (decide (v5 < ((v0.length : Nat) : Int)))
  (cond ((decide (0 ≤ v5) && decide (v5 < ((v0.length : Nat) : Int))))
    ((laws_szFracS n ((v0.getD (Int.toNat v5) [])) v1).bind fun r0 =>
      cond (decide (r0.1.1.1 < 0))
      (some (((((-1), ()), ()), ())))
      (g5 ((IntKind.wrap .i64 (v5 + 1))) r0.1.1.1 v0))
    (none))
  (some ((((v1, ()), ()), ())))

noncomputable def laws_szFracSS_l5 (n : Nat) : Nat → Int → Int → (List (List ((Int) × (Int)))) → Option ((((Int) × (Unit)) × (Unit)) × (Unit))
  | 0, _, _, _ => none
  | k + 1, v5, v1, v0 => laws_szFracSS_t5 n (laws_szFracSS_l5 n k) v5 v1 v0

noncomputable def laws_szFracSS_t (n : Nat) (h5 : Nat → Int → Int → (List (List ((Int) × (Int)))) → Option ((((Int) × (Unit)) × (Unit)) × (Unit))) (a0 : List (List ((Int) × (Int)))) (a1 : Int) : Option ((((Int) × (Unit)) × (Unit)) × (Unit)) :=
  cond (decide ((IntKind.wrap .i64 (a1 - ((a0.length : Nat) : Int))) < 0))
  (some (((((-1), ()), ()), ())))
  (h5 n 0 ((IntKind.wrap .i64 (a1 - ((a0.length : Nat) : Int)))) a0)

noncomputable def laws_szFracSS (n : Nat) (a0 : List (List ((Int) × (Int)))) (a1 : Int) : Option ((((Int) × (Unit)) × (Unit)) × (Unit)) := laws_szFracSS_t n (laws_szFracSS_l5 n) a0 a1

noncomputable def laws_toFrac_t (n : Nat) (a0 : (Int) × (Int)) : Option (((((Int) × (Int)) × (Unit)) × (Unit)) × (Unit)) :=
  some (((((a0.1, a0.2), ()), ()), ()))

noncomputable def laws_toFrac (n : Nat) (a0 : (Int) × (Int)) : Option (((((Int) × (Int)) × (Unit)) × (Unit)) × (Unit)) := laws_toFrac_t n a0

noncomputable def laws_toFracS_t3 (n : Nat) (g3 : Int → (List ((Int) × (Int))) → (List ((Int) × (Int))) → Option ((((List ((Int) × (Int))) × (Unit)) × (Unit)) × (Unit))) (v4 : Int) (v0 : List ((Int) × (Int))) (b0 : List ((Int) × (Int))) : Option ((((List ((Int) × (Int))) × (Unit)) × (Unit)) × (Unit)) :=
  cond (decide (v4 < ((v0.length : Nat) : Int)))
  (cond ((decide (0 ≤ v4) && decide (v4 < ((v0.length : Nat) : Int))))
    ((laws_toFrac n (((v0.getD (Int.toNat v4) (0, 0)).1, (v0.getD (Int.toNat v4) (0, 0)).2))).bind fun r0 =>
      cond ((decide (0 ≤ v4) && decide (v4 < ((b0.length : Nat) : Int))))
      (g3 ((IntKind.wrap .i64 (v4 + 1))) v0 ((b0.set (Int.toNat v4) (r0.1.1.1.1, r0.1.1.1.2))))
      (none))
    (none))
  (some ((((b0, ()), ()), ())))

noncomputable def laws_toFracS_l3 (n : Nat) : Nat → Int → (List ((Int) × (Int))) → (List ((Int) × (Int))) → Option ((((List ((Int) × (Int))) × (Unit)) × (Unit)) × (Unit))
  | 0, _, _, _ => none
  | k + 1, v4, v0, b0 => laws_toFracS_t3 n (laws_toFracS_l3 n k) v4 v0 b0

noncomputable def laws_toFracS_t (n : Nat) (h3 : Nat → Int → (List ((Int) × (Int))) → (List ((Int) × (Int))) → Option ((((List ((Int) × (Int))) × (Unit)) × (Unit)) × (Unit))) (a0 : List ((Int) × (Int))) : Option ((((List ((Int) × (Int))) × (Unit)) × (Unit)) × (Unit)) :=
  cond ((((((a0.length : Nat) : Int) == ((a0.length : Nat) : Int)) && decide (0 ≤ ((a0.length : Nat) : Int))) && decide (((Int.toNat ((a0.length : Nat) : Int)) * 17) ≤ 70368744177664)))
  (h3 n 0 a0 ((List.replicate (Int.toNat ((a0.length : Nat) : Int)) ((0, 0) : (Int) × (Int)))))
  (none)

noncomputable def laws_toFracS (n : Nat) (a0 : List ((Int) × (Int))) : Option ((((List ((Int) × (Int))) × (Unit)) × (Unit)) × (Unit)) := laws_toFracS_t n (laws_toFracS_l3 n) a0

noncomputable def laws_toFracSS_t3 (n : Nat) (g3 : Int → (List (List ((Int) × (Int)))) → (List Nat) → (List (List ((Int) × (Int)))) → Option (((((List Nat) × (List (List ((Int) × (Int))))) × (Unit)) × (Unit)) × (Unit))) (v4 : Int) (v0 : List (List ((Int) × (Int)))) (b0p : List Nat) (b0i : List (List ((Int) × (Int)))) : Option (((((List Nat) × (List (List ((Int) × (Int))))) × (Unit)) × (Unit)) × (Unit)) :=
  cond (decide (v4 < ((v0.length : Nat) : Int)))
  (cond ((decide (0 ≤ v4) && decide (v4 < ((v0.length : Nat) : Int))))
    ((laws_toFracS n ((v0.getD (Int.toNat v4) []))).bind fun r0 =>
      cond ((decide (0 ≤ v4) && decide (v4 < ((b0p.length : Nat) : Int))))
      (g3 ((IntKind.wrap .i64 (v4 + 1))) v0 ((b0p.set (Int.toNat v4) b0i.length)) ((b0i ++ (r0.1.1.1 :: []))))
      (none))
    (none))
  (some (((((b0p, b0i), ()), ()), ())))

noncomputable def laws_toFracSS_l3 (n : Nat) : Nat → Int → (List (List ((Int) × (Int)))) → (List Nat) → (List (List ((Int) × (Int)))) → Option (((((List Nat) × (List (List ((Int) × (Int))))) × (Unit)) × (Unit)) × (Unit))
  | 0, _, _, _, _ => none
  | k + 1, v4, v0, b0p, b0i => laws_toFracSS_t3 n (laws_toFracSS_l3 n k) v4 v0 b0p b0i

noncomputable def laws_toFracSS_t (n : Nat) (h3 : Nat → Int → (List (List ((Int) × (Int)))) → (List Nat) → (List (List ((Int) × (Int)))) → Option (((((List Nat) × (List (List ((Int) × (Int))))) × (Unit)) × (Unit)) × (Unit))) (a0 : List (List ((Int) × (Int)))) : Option (((((List Nat) × (List (List ((Int) × (Int))))) × (Unit)) × (Unit)) × (Unit)) :=
  cond ((((((a0.length : Nat) : Int) == ((a0.length : Nat) : Int)) && decide (0 ≤ ((a0.length : Nat) : Int))) && decide (((Int.toNat ((a0.length : Nat) : Int)) * 25) ≤ 70368744177664)))
  (h3 n 0 a0 ((List.range (Int.toNat ((a0.length : Nat) : Int)))) ((List.replicate (Int.toNat ((a0.length : Nat) : Int)) ([] : List ((Int) × (Int))))))
  (none)

noncomputable def laws_toFracSS (n : Nat) (a0 : List (List ((Int) × (Int)))) : Option (((((List Nat) × (List (List ((Int) × (Int))))) × (Unit)) × (Unit)) × (Unit)) := laws_toFracSS_t n (laws_toFracSS_l3 n) a0

noncomputable def spec_l00In_t (n : Nat) (a0 : Int) (a1 : Int) (a2 : Int) : Option ((((Bool) × (Unit)) × (Unit)) × (Unit)) :=
  cond (decide (a0 ≥ a1))
  (some ((((decide (a0 ≤ a2), ()), ()), ())))
  (some ((((false, ()), ()), ())))

noncomputable def spec_l00In (n : Nat) (a0 : Int) (a1 : Int) (a2 : Int) : Option ((((Bool) × (Unit)) × (Unit)) × (Unit)) := spec_l00In_t n a0 a1 a2

noncomputable def spec_l01Abs_t (n : Nat) (a0 : Int) : Option ((((Int) × (Unit)) × (Unit)) × (Unit)) :=
  cond (decide (a0 < 0))
  (some (((((IntKind.wrap .i64 (0 - a0)), ()), ()), ())))
  (some ((((a0, ()), ()), ())))

noncomputable def spec_l01Abs (n : Nat) (a0 : Int) : Option ((((Int) × (Unit)) × (Unit)) × (Unit)) := spec_l01Abs_t n a0

noncomputable def spec_l01Gcd_t1 (n : Nat) (g1 : Int → Int → Option ((((Int) × (Unit)) × (Unit)) × (Unit))) (v1 : Int) (v0 : Int) : Option ((((Int) × (Unit)) × (Unit)) × (Unit)) :=
  cond ((v1 != 0))
  (cond ((v1 != 0))
    (g1 ((Int.tmod v0 v1)) v1)
    (none))
  (some ((((v0, ()), ()), ())))

noncomputable def spec_l01Gcd_l1 (n : Nat) : Nat → Int → Int → Option ((((Int) × (Unit)) × (Unit)) × (Unit))
  | 0, _, _ => none
  | k + 1, v1, v0 => spec_l01Gcd_t1 n (spec_l01Gcd_l1 n k) v1 v0

noncomputable def spec_l01Gcd_t (n : Nat) (h1 : Nat → Int → Int → Option ((((Int) × (Unit)) × (Unit)) × (Unit))) (a0 : Int) (a1 : Int) : Option ((((Int) × (Unit)) × (Unit)) × (Unit)) :=
  h1 n a1 a0

noncomputable def spec_l01Gcd (n : Nat) (a0 : Int) (a1 : Int) : Option ((((Int) × (Unit)) × (Unit)) × (Unit)) := spec_l01Gcd_t n (spec_l01Gcd_l1 n) a0 a1

noncomputable def spec_l01Ok_t (n : Nat) (a0 : (Int) × (Int)) : Option ((((Bool) × (Unit)) × (Unit)) × (Unit)) :=
  (spec_l00In n a0.2 1 1000000000).bind fun r0 =>
  cond r0.1.1.1
  ((spec_l00In n a0.1 (-1000000000) 1000000000).bind fun r1 =>
    cond r1.1.1.1
    ((spec_l01Abs n a0.1).bind fun r2 =>
      (spec_l01Gcd n r2.1.1.1 a0.2).bind fun r3 =>
      some (((((r3.1.1.1 == 1), ()), ()), ())))
    (some ((((false, ()), ()), ()))))
  (some ((((false, ()), ()), ())))

noncomputable def spec_l01Ok (n : Nat) (a0 : (Int) × (Int)) : Option ((((Bool) × (Unit)) × (Unit)) × (Unit)) := spec_l01Ok_t n a0

noncomputable def spec_l04Fracs_t2 (n : Nat) (g2 : Int → (List ((Int) × (Int))) → Option ((((Bool) × (Unit)) × (Unit)) × (Unit))) (v3 : Int) (v0 : List ((Int) × (Int))) : Option ((((Bool) × (Unit)) × (Unit)) × (Unit)) :=
  cond (decide (v3 < ((v0.length : Nat) : Int)))
  (cond ((decide (0 ≤ v3) && decide (v3 < ((v0.length : Nat) : Int))))
    ((spec_l01Ok n (((v0.getD (Int.toNat v3) (0, 0)).1, (v0.getD (Int.toNat v3) (0, 0)).2))).bind fun r0 =>
      cond (!r0.1.1.1)
      (some ((((false, ()), ()), ())))
      (g2 ((IntKind.wrap .i64 (v3 + 1))) v0))
    (none))
  (some ((((true, ()), ()), ())))

noncomputable def spec_l04Fracs_l2 (n : Nat) : Nat → Int → (List ((Int) × (Int))) → Option ((((Bool) × (Unit)) × (Unit)) × (Unit))
  | 0, _, _ => none
  | k + 1, v3, v0 => spec_l04Fracs_t2 n (spec_l04Fracs_l2 n k) v3 v0

noncomputable def spec_l04Fracs_t (n : Nat) (h2 : Nat → Int → (List ((Int) × (Int))) → Option ((((Bool) × (Unit)) × (Unit)) × (Unit))) (a0 : List ((Int) × (Int))) : Option ((((Bool) × (Unit)) × (Unit)) × (Unit)) :=
  h2 n 0 a0

noncomputable def spec_l04Fracs (n : Nat) (a0 : List ((Int) × (Int))) : Option ((((Bool) × (Unit)) × (Unit)) × (Unit)) := spec_l04Fracs_t n (spec_l04Fracs_l2 n) a0

noncomputable def spec_l01Reduced_t (n : Nat) (a0 : Int) (a1 : Int) : Option (((((Int) × (Int)) × (Unit)) × (((Int) × (Unit)) × (Unit))) × (Unit)) :=
  (spec_l01Abs n a0).bind fun r0 =>
  (spec_l01Abs n a1).bind fun r1 =>
  (spec_l01Gcd n r0.1.1.1 r1.1.1.1).bind fun r2 =>
  cond ((r2.1.1.1 != 0))
  (cond ((r2.1.1.1 != 0))
    (cond (decide ((IntKind.wrap .i64 (Int.tdiv a1 r2.1.1.1)) < 0))
      ((spec_l01Ok n (((IntKind.wrap .i64 (0 - (IntKind.wrap .i64 (Int.tdiv a0 r2.1.1.1)))), (IntKind.wrap .i64 (0 - (IntKind.wrap .i64 (Int.tdiv a1 r2.1.1.1))))))).bind fun r3 =>
        cond (!r3.1.1.1)
        (some (((((0, 0), ()), ((3, ()), ())), ())))
        (some ((((((IntKind.wrap .i64 (0 - (IntKind.wrap .i64 (Int.tdiv a0 r2.1.1.1)))), (IntKind.wrap .i64 (0 - (IntKind.wrap .i64 (Int.tdiv a1 r2.1.1.1))))), ()), ((0, ()), ())), ()))))
      ((spec_l01Ok n (((IntKind.wrap .i64 (Int.tdiv a0 r2.1.1.1)), (IntKind.wrap .i64 (Int.tdiv a1 r2.1.1.1))))).bind fun r4 =>
        cond (!r4.1.1.1)
        (some (((((0, 0), ()), ((3, ()), ())), ())))
        (some ((((((IntKind.wrap .i64 (Int.tdiv a0 r2.1.1.1)), (IntKind.wrap .i64 (Int.tdiv a1 r2.1.1.1))), ()), ((0, ()), ())), ())))))
    (none))
  (none)

noncomputable def spec_l01Reduced (n : Nat) (a0 : Int) (a1 : Int) : Option (((((Int) × (Int)) × (Unit)) × (((Int) × (Unit)) × (Unit))) × (Unit)) := spec_l01Reduced_t n a0 a1

noncomputable def spec_l01Div_t (n : Nat) (a0 : (Int) × (Int)) (a1 : (Int) × (Int)) : Option (((((Int) × (Int)) × (Unit)) × (((Int) × (Unit)) × (Unit))) × (Unit)) :=
  (spec_l01Reduced n ((IntKind.wrap .i64 (a0.1 * a1.2))) ((IntKind.wrap .i64 (a0.2 * a1.1)))).bind fun r0 =>
  some (((((r0.1.1.1.1, r0.1.1.1.2), ()), ((r0.1.2.1.1, ()), ())), ()))

noncomputable def spec_l01Div (n : Nat) (a0 : (Int) × (Int)) (a1 : (Int) × (Int)) : Option (((((Int) × (Int)) × (Unit)) × (((Int) × (Unit)) × (Unit))) × (Unit)) := spec_l01Div_t n a0 a1

noncomputable def spec_l04Begin_t3 (n : Nat) (g3 : Int → (List (List ((Int) × (Int)))) → Int → (List Nat) → (List (List ((Int) × (Int)))) → (List ((Int) × (Int))) → Option ((((((List Nat) × (List (List ((Int) × (Int))))) × ((List ((Int) × (Int))) × ((Int) × (Unit)))) × (Unit)) × (Unit)) × (Unit))) (v6 : Int) (v0 : List (List ((Int) × (Int)))) (b0_2 : Int) (b1p : List Nat) (b1i : List (List ((Int) × (Int)))) (b2 : List ((Int) × (Int))) : Option ((((((List Nat) × (List (List ((Int) × (Int))))) × ((List ((Int) × (Int))) × ((Int) × (Unit)))) × (Unit)) × (Unit)) × (Unit)) :=
  cond (decide (v6 < ((v0.length : Nat) : Int)))
  (cond ((decide (0 ≤ v6) && decide (v6 < ((v0.length : Nat) : Int))))
    (cond (decide (((0 + (v0.getD (Int.toNat v6) []).length) * 17) ≤ 70368744177664))
      (cond (decide (((b1p.length + 1) * 25) ≤ 70368744177664))
        (g3 ((IntKind.wrap .i64 (v6 + 1))) v0 b0_2 ((b1p ++ (b1i.length :: []))) ((b1i ++ (([] ++ (v0.getD (Int.toNat v6) [])) :: []))) b2)
        (none))
      (none))
    (none))
  (some ((((((b1p, b1i), (b2, (b0_2, ()))), ()), ()), ())))

noncomputable def spec_l04Begin_l3 (n : Nat) : Nat → Int → (List (List ((Int) × (Int)))) → Int → (List Nat) → (List (List ((Int) × (Int)))) → (List ((Int) × (Int))) → Option ((((((List Nat) × (List (List ((Int) × (Int))))) × ((List ((Int) × (Int))) × ((Int) × (Unit)))) × (Unit)) × (Unit)) × (Unit))
  | 0, _, _, _, _, _, _ => none
  | k + 1, v6, v0, b0_2, b1p, b1i, b2 => spec_l04Begin_t3 n (spec_l04Begin_l3 n k) v6 v0 b0_2 b1p b1i b2

noncomputable def spec_l04Begin_t (n : Nat) (h3 : Nat → Int → (List (List ((Int) × (Int)))) → Int → (List Nat) → (List (List ((Int) × (Int)))) → (List ((Int) × (Int))) → Option ((((((List Nat) × (List (List ((Int) × (Int))))) × ((List ((Int) × (Int))) × ((Int) × (Unit)))) × (Unit)) × (Unit)) × (Unit))) (a0 : List (List ((Int) × (Int)))) (a1 : List ((Int) × (Int))) : Option ((((((List Nat) × (List (List ((Int) × (Int))))) × ((List ((Int) × (Int))) × ((Int) × (Unit)))) × (Unit)) × (Unit)) × (Unit)) :=
  cond (decide (((0 + a1.length) * 17) ≤ 70368744177664))
  (h3 n 0 a0 0 [] [] (([] ++ a1)))
  (none)

noncomputable def spec_l04Begin (n : Nat) (a0 : List (List ((Int) × (Int)))) (a1 : List ((Int) × (Int))) : Option ((((((List Nat) × (List (List ((Int) × (Int))))) × ((List ((Int) × (Int))) × ((Int) × (Unit)))) × (Unit)) × (Unit)) × (Unit)) := spec_l04Begin_t n (spec_l04Begin_l3 n) a0 a1

noncomputable def spec_l01Mul_t (n : Nat) (a0 : (Int) × (Int)) (a1 : (Int) × (Int)) : Option (((((Int) × (Int)) × (Unit)) × (((Int) × (Unit)) × (Unit))) × (Unit)) :=
  (spec_l01Reduced n ((IntKind.wrap .i64 (a0.1 * a1.1))) ((IntKind.wrap .i64 (a0.2 * a1.2)))).bind fun r0 =>
  some (((((r0.1.1.1.1, r0.1.1.1.2), ()), ((r0.1.2.1.1, ()), ())), ()))

noncomputable def spec_l01Mul (n : Nat) (a0 : (Int) × (Int)) (a1 : (Int) × (Int)) : Option (((((Int) × (Int)) × (Unit)) × (((Int) × (Unit)) × (Unit))) × (Unit)) := spec_l01Mul_t n a0 a1

noncomputable def spec_l01Add_t (n : Nat) (a0 : (Int) × (Int)) (a1 : (Int) × (Int)) : Option (((((Int) × (Int)) × (Unit)) × (((Int) × (Unit)) × (Unit))) × (Unit)) :=
  (spec_l01Reduced n ((IntKind.wrap .i64 ((IntKind.wrap .i64 (a0.1 * a1.2)) + (IntKind.wrap .i64 (a1.1 * a0.2))))) ((IntKind.wrap .i64 (a0.2 * a1.2)))).bind fun r0 =>
  some (((((r0.1.1.1.1, r0.1.1.1.2), ()), ((r0.1.2.1.1, ()), ())), ()))

noncomputable def spec_l01Add (n : Nat) (a0 : (Int) × (Int)) (a1 : (Int) × (Int)) : Option (((((Int) × (Int)) × (Unit)) × (((Int) × (Unit)) × (Unit))) × (Unit)) := spec_l01Add_t n a0 a1

noncomputable def spec_l01Neg_t (n : Nat) (a0 : (Int) × (Int)) : Option (((((Int) × (Int)) × (Unit)) × (Unit)) × (Unit)) :=
  some ((((((IntKind.wrap .i64 (0 - a0.1)), a0.2), ()), ()), ()))

noncomputable def spec_l01Neg (n : Nat) (a0 : (Int) × (Int)) : Option (((((Int) × (Int)) × (Unit)) × (Unit)) × (Unit)) := spec_l01Neg_t n a0

noncomputable def spec_l01Sub_t (n : Nat) (a0 : (Int) × (Int)) (a1 : (Int) × (Int)) : Option (((((Int) × (Int)) × (Unit)) × (((Int) × (Unit)) × (Unit))) × (Unit)) :=
  (spec_l01Neg n ((a1.1, a1.2))).bind fun r0 =>
  (spec_l01Add n ((a0.1, a0.2)) ((r0.1.1.1.1, r0.1.1.1.2))).bind fun r1 =>
  some (((((r1.1.1.1.1, r1.1.1.1.2), ()), ((r1.1.2.1.1, ()), ())), ()))

noncomputable def spec_l01Sub (n : Nat) (a0 : (Int) × (Int)) (a1 : (Int) × (Int)) : Option (((((Int) × (Int)) × (Unit)) × (((Int) × (Unit)) × (Unit))) × (Unit)) := spec_l01Sub_t n a0 a1

noncomputable def spec_l04Less_t (n : Nat) (a0 : (Int) × (Int)) (a1 : (Int) × (Int)) (a2 : (Int) × (Int)) : Option (((((Int) × (Int)) × (Unit)) × (((Int) × (Unit)) × (Unit))) × (Unit)) :=
  (spec_l01Mul n ((a1.1, a1.2)) ((a2.1, a2.2))).bind fun r0 =>
  cond ((r0.1.2.1.1 != 0))
  (some (((((0, 0), ()), ((r0.1.2.1.1, ()), ())), ())))
  ((spec_l01Sub n ((a0.1, a0.2)) ((r0.1.1.1.1, r0.1.1.1.2))).bind fun r1 =>
    some (((((r1.1.1.1.1, r1.1.1.1.2), ()), ((r1.1.2.1.1, ()), ())), ())))

noncomputable def spec_l04Less (n : Nat) (a0 : (Int) × (Int)) (a1 : (Int) × (Int)) (a2 : (Int) × (Int)) : Option (((((Int) × (Int)) × (Unit)) × (((Int) × (Unit)) × (Unit))) × (Unit)) := spec_l04Less_t n a0 a1 a2

noncomputable def spec_l04Solver_clear_t7 (n : Nat) (g1 : Int → Int → Int → Int → (List Nat) → (List (List ((Int) × (Int)))) → (List ((Int) × (Int))) → Option ((Unit) × (((Int) × (Unit)) × (((List Nat) × (List (List ((Int) × (Int))))) × ((List ((Int) × (Int))) × (Unit)))))) (g7 : Int → Int → Int → Int → Int → (List Nat) → (List (List ((Int) × (Int)))) → (List ((Int) × (Int))) → Int → Int → Option ((Unit) × (((Int) × (Unit)) × (((List Nat) × (List (List ((Int) × (Int))))) × ((List ((Int) × (Int))) × (Unit)))))) (v9 : Int) (v6 : Int) (v1 : Int) (v2 : Int) (b0_2 : Int) (b1p : List Nat) (b1i : List (List ((Int) × (Int)))) (b2 : List ((Int) × (Int))) (b3_0 : Int) (b3_1 : Int) : Option ((Unit) × (((Int) × (Unit)) × (((List Nat) × (List (List ((Int) × (Int))))) × ((List ((Int) × (Int))) × (Unit))))) :=
  cond (decide (v9 < ((b1p.length : Nat) : Int)))
  (cond ((b0_2 == 0))
    (cond ((decide (0 ≤ v6) && decide (v6 < ((b1p.length : Nat) : Int))))
      (cond ((decide (0 ≤ v9) && decide (v9 < (((b1i.getD (b1p.getD (Int.toNat v6) 0) []).length : Nat) : Int))))
        (cond ((decide (0 ≤ v1) && decide (v1 < ((b1p.length : Nat) : Int))))
          (cond ((decide (0 ≤ v9) && decide (v9 < (((b1i.getD (b1p.getD (Int.toNat v1) 0) []).length : Nat) : Int))))
            ((spec_l04Less n ((((b1i.getD (b1p.getD (Int.toNat v6) 0) []).getD (Int.toNat v9) (0, 0)).1, ((b1i.getD (b1p.getD (Int.toNat v6) 0) []).getD (Int.toNat v9) (0, 0)).2)) ((b3_0, b3_1)) ((((b1i.getD (b1p.getD (Int.toNat v1) 0) []).getD (Int.toNat v9) (0, 0)).1, ((b1i.getD (b1p.getD (Int.toNat v1) 0) []).getD (Int.toNat v9) (0, 0)).2))).bind fun r1 =>
              cond ((decide (0 ≤ v6) && decide (v6 < ((b1p.length : Nat) : Int))))
              (cond ((decide (0 ≤ v9) && decide (v9 < (((b1i.getD (b1p.getD (Int.toNat v6) 0) []).length : Nat) : Int))))
                (g7 ((IntKind.wrap .i64 (v9 + 1))) v6 v1 v2 r1.1.2.1.1 b1p ((b1i.set (b1p.getD (Int.toNat v6) 0) ((b1i.getD (b1p.getD (Int.toNat v6) 0) []).set (Int.toNat v9) (r1.1.1.1.1, r1.1.1.1.2)))) b2 b3_0 b3_1)
                (none))
              (none))
            (none))
          (none))
        (none))
      (none))
    (cond ((b0_2 == 0))
      (cond ((decide (0 ≤ v6) && decide (v6 < ((b2.length : Nat) : Int))))
        (cond ((decide (0 ≤ v1) && decide (v1 < ((b2.length : Nat) : Int))))
          ((spec_l04Less n (((b2.getD (Int.toNat v6) (0, 0)).1, (b2.getD (Int.toNat v6) (0, 0)).2)) ((b3_0, b3_1)) (((b2.getD (Int.toNat v1) (0, 0)).1, (b2.getD (Int.toNat v1) (0, 0)).2))).bind fun r2 =>
            cond ((decide (0 ≤ v6) && decide (v6 < ((b2.length : Nat) : Int))))
            (g1 ((IntKind.wrap .i64 (v6 + 1))) v1 v2 r2.1.2.1.1 b1p b1i ((b2.set (Int.toNat v6) (r2.1.1.1.1, r2.1.1.1.2))))
            (none))
          (none))
        (none))
      (g1 ((IntKind.wrap .i64 (v6 + 1))) v1 v2 b0_2 b1p b1i b2)))
  (cond ((b0_2 == 0))
    (cond ((decide (0 ≤ v6) && decide (v6 < ((b2.length : Nat) : Int))))
      (cond ((decide (0 ≤ v1) && decide (v1 < ((b2.length : Nat) : Int))))
        ((spec_l04Less n (((b2.getD (Int.toNat v6) (0, 0)).1, (b2.getD (Int.toNat v6) (0, 0)).2)) ((b3_0, b3_1)) (((b2.getD (Int.toNat v1) (0, 0)).1, (b2.getD (Int.toNat v1) (0, 0)).2))).bind fun r3 =>
          cond ((decide (0 ≤ v6) && decide (v6 < ((b2.length : Nat) : Int))))
          (g1 ((IntKind.wrap .i64 (v6 + 1))) v1 v2 r3.1.2.1.1 b1p b1i ((b2.set (Int.toNat v6) (r3.1.1.1.1, r3.1.1.1.2))))
          (none))
        (none))
      (none))
    (g1 ((IntKind.wrap .i64 (v6 + 1))) v1 v2 b0_2 b1p b1i b2))

noncomputable def spec_l04Solver_clear_l7 (n : Nat) (g1 : Int → Int → Int → Int → (List Nat) → (List (List ((Int) × (Int)))) → (List ((Int) × (Int))) → Option ((Unit) × (((Int) × (Unit)) × (((List Nat) × (List (List ((Int) × (Int))))) × ((List ((Int) × (Int))) × (Unit)))))) : Nat → Int → Int → Int → Int → Int → (List Nat) → (List (List ((Int) × (Int)))) → (List ((Int) × (Int))) → Int → Int → Option ((Unit) × (((Int) × (Unit)) × (((List Nat) × (List (List ((Int) × (Int))))) × ((List ((Int) × (Int))) × (Unit)))))
  | 0, _, _, _, _, _, _, _, _, _, _ => none
  | k + 1, v9, v6, v1, v2, b0_2, b1p, b1i, b2, b3_0, b3_1 => spec_l04Solver_clear_t7 n g1 (spec_l04Solver_clear_l7 n g1 k) v9 v6 v1 v2 b0_2 b1p b1i b2 b3_0 b3_1

noncomputable def spec_l04Solver_clear_t1 (n : Nat) (h7 : Nat → Int → Int → Int → Int → Int → (List Nat) → (List (List ((Int) × (Int)))) → (List ((Int) × (Int))) → Int → Int → Option ((Unit) × (((Int) × (Unit)) × (((List Nat) × (List (List ((Int) × (Int))))) × ((List ((Int) × (Int))) × (Unit)))))) (g1 : Int → Int → Int → Int → (List Nat) → (List (List ((Int) × (Int)))) → (List ((Int) × (Int))) → Option ((Unit) × (((Int) × (Unit)) × (((List Nat) × (List (List ((Int) × (Int))))) × ((List ((Int) × (Int))) × (Unit)))))) (v6 : Int) (v1 : Int) (v2 : Int) (b0_2 : Int) (b1p : List Nat) (b1i : List (List ((Int) × (Int)))) (b2 : List ((Int) × (Int))) : Option ((Unit) × (((Int) × (Unit)) × (((List Nat) × (List (List ((Int) × (Int))))) × ((List ((Int) × (Int))) × (Unit))))) :=
  cond (decide (v6 < ((b1p.length : Nat) : Int)))
  (cond ((b0_2 == 0))
    (cond ((v6 == v1))
      (g1 ((IntKind.wrap .i64 (v6 + 1))) v1 v2 b0_2 b1p b1i b2)
      (cond ((decide (0 ≤ v6) && decide (v6 < ((b1p.length : Nat) : Int))))
        (cond ((decide (0 ≤ v2) && decide (v2 < (((b1i.getD (b1p.getD (Int.toNat v6) 0) []).length : Nat) : Int))))
          (cond ((((b1i.getD (b1p.getD (Int.toNat v6) 0) []).getD (Int.toNat v2) (0, 0)).1 == 0))
            (g1 ((IntKind.wrap .i64 (v6 + 1))) v1 v2 b0_2 b1p b1i b2)
            (cond ((decide (0 ≤ v6) && decide (v6 < ((b1p.length : Nat) : Int))))
              (cond ((decide (0 ≤ v2) && decide (v2 < (((b1i.getD (b1p.getD (Int.toNat v6) 0) []).length : Nat) : Int))))
                (cond ((decide (0 ≤ v1) && decide (v1 < ((b1p.length : Nat) : Int))))
                  (cond ((decide (0 ≤ v2) && decide (v2 < (((b1i.getD (b1p.getD (Int.toNat v1) 0) []).length : Nat) : Int))))
                    ((spec_l01Div n ((((b1i.getD (b1p.getD (Int.toNat v6) 0) []).getD (Int.toNat v2) (0, 0)).1, ((b1i.getD (b1p.getD (Int.toNat v6) 0) []).getD (Int.toNat v2) (0, 0)).2)) ((((b1i.getD (b1p.getD (Int.toNat v1) 0) []).getD (Int.toNat v2) (0, 0)).1, ((b1i.getD (b1p.getD (Int.toNat v1) 0) []).getD (Int.toNat v2) (0, 0)).2))).bind fun r0 =>
                      h7 n v2 v6 v1 v2 r0.1.2.1.1 b1p b1i b2 r0.1.1.1.1 r0.1.1.1.2)
                    (none))
                  (none))
                (none))
              (none)))
          (none))
        (none)))
    (some (((), ((b0_2, ()), ((b1p, b1i), (b2, ())))))))
  (some (((), ((b0_2, ()), ((b1p, b1i), (b2, ()))))))

noncomputable def spec_l04Solver_clear_l1 (n : Nat) : Nat → Int → Int → Int → Int → (List Nat) → (List (List ((Int) × (Int)))) → (List ((Int) × (Int))) → Option ((Unit) × (((Int) × (Unit)) × (((List Nat) × (List (List ((Int) × (Int))))) × ((List ((Int) × (Int))) × (Unit)))))
  | 0, _, _, _, _, _, _, _ => none
  | k + 1, v6, v1, v2, b0_2, b1p, b1i, b2 => spec_l04Solver_clear_t1 n (spec_l04Solver_clear_l7 n (spec_l04Solver_clear_l1 n k)) (spec_l04Solver_clear_l1 n k) v6 v1 v2 b0_2 b1p b1i b2

noncomputable def spec_l04Solver_clear_t (n : Nat) (h1 : Nat → Int → Int → Int → Int → (List Nat) → (List (List ((Int) × (Int)))) → (List ((Int) × (Int))) → Option ((Unit) × (((Int) × (Unit)) × (((List Nat) × (List (List ((Int) × (Int))))) × ((List ((Int) × (Int))) × (Unit)))))) (a1 : Int) (a2 : Int) (b0 : (Int) × (Unit)) (b1 : (List Nat) × (List (List ((Int) × (Int))))) (b2 : List ((Int) × (Int))) : Option ((Unit) × (((Int) × (Unit)) × (((List Nat) × (List (List ((Int) × (Int))))) × ((List ((Int) × (Int))) × (Unit))))) :=
  h1 n 0 a1 a2 b0.1 b1.1 b1.2 b2

noncomputable def spec_l04Solver_clear (n : Nat) (a1 : Int) (a2 : Int) (b0 : (Int) × (Unit)) (b1 : (List Nat) × (List (List ((Int) × (Int))))) (b2 : List ((Int) × (Int))) : Option ((Unit) × (((Int) × (Unit)) × (((List Nat) × (List (List ((Int) × (Int))))) × ((List ((Int) × (Int))) × (Unit))))) := spec_l04Solver_clear_t n (spec_l04Solver_clear_l1 n) a1 a2 b0 b1 b2

noncomputable def spec_l04Solver_find_t2 (n : Nat) (g2 : Int → Int → Int → (List Nat) → (List (List ((Int) × (Int)))) → (List ((Int) × (Int))) → Option ((((Int) × (Unit)) × (Unit)) × (((Int) × (Unit)) × (((List Nat) × (List (List ((Int) × (Int))))) × ((List ((Int) × (Int))) × (Unit)))))) (v7 : Int) (v2 : Int) (b0_2 : Int) (b1p : List Nat) (b1i : List (List ((Int) × (Int)))) (b2 : List ((Int) × (Int))) : Option ((((Int) × (Unit)) × (Unit)) × (((Int) × (Unit)) × (((List Nat) × (List (List ((Int) × (Int))))) × ((List ((Int) × (Int))) × (Unit))))) :=
  cond (decide (v7 < ((b1p.length : Nat) : Int)))
  (cond ((decide (0 ≤ v7) && decide (v7 < ((b1p.length : Nat) : Int))))
    (cond ((decide (0 ≤ v2) && decide (v2 < (((b1i.getD (b1p.getD (Int.toNat v7) 0) []).length : Nat) : Int))))
      (cond ((((b1i.getD (b1p.getD (Int.toNat v7) 0) []).getD (Int.toNat v2) (0, 0)).1 != 0))
        (some ((((v7, ()), ()), ((b0_2, ()), ((b1p, b1i), (b2, ()))))))
        (g2 ((IntKind.wrap .i64 (v7 + 1))) v2 b0_2 b1p b1i b2))
      (none))
    (none))
  (some (((((-1), ()), ()), ((b0_2, ()), ((b1p, b1i), (b2, ()))))))

noncomputable def spec_l04Solver_find_l2 (n : Nat) : Nat → Int → Int → Int → (List Nat) → (List (List ((Int) × (Int)))) → (List ((Int) × (Int))) → Option ((((Int) × (Unit)) × (Unit)) × (((Int) × (Unit)) × (((List Nat) × (List (List ((Int) × (Int))))) × ((List ((Int) × (Int))) × (Unit)))))
  | 0, _, _, _, _, _, _ => none
  | k + 1, v7, v2, b0_2, b1p, b1i, b2 => spec_l04Solver_find_t2 n (spec_l04Solver_find_l2 n k) v7 v2 b0_2 b1p b1i b2

noncomputable def spec_l04Solver_find_t (n : Nat) (h2 : Nat → Int → Int → Int → (List Nat) → (List (List ((Int) × (Int)))) → (List ((Int) × (Int))) → Option ((((Int) × (Unit)) × (Unit)) × (((Int) × (Unit)) × (((List Nat) × (List (List ((Int) × (Int))))) × ((List ((Int) × (Int))) × (Unit)))))) (a1 : Int) (a2 : Int) (b0 : (Int) × (Unit)) (b1 : (List Nat) × (List (List ((Int) × (Int))))) (b2 : List ((Int) × (Int))) : Option ((((Int) × (Unit)) × (Unit)) × (((Int) × (Unit)) × (((List Nat) × (List (List ((Int) × (Int))))) × ((List ((Int) × (Int))) × (Unit))))) :=
  h2 n a1 a2 b0.1 b1.1 b1.2 b2

noncomputable def spec_l04Solver_find (n : Nat) (a1 : Int) (a2 : Int) (b0 : (Int) × (Unit)) (b1 : (List Nat) × (List (List ((Int) × (Int))))) (b2 : List ((Int) × (Int))) : Option ((((Int) × (Unit)) × (Unit)) × (((Int) × (Unit)) × (((List Nat) × (List (List ((Int) × (Int))))) × ((List ((Int) × (Int))) × (Unit))))) := spec_l04Solver_find_t n (spec_l04Solver_find_l2 n) a1 a2 b0 b1 b2

noncomputable def spec_l04Solver_swap_t (n : Nat) (a1 : Int) (a2 : Int) (b0 : (Int) × (Unit)) (b1 : (List Nat) × (List (List ((Int) × (Int))))) (b2 : List ((Int) × (Int))) : Option ((Unit) × (((Int) × (Unit)) × (((List Nat) × (List (List ((Int) × (Int))))) × ((List ((Int) × (Int))) × (Unit))))) :=
  cond ((decide (0 ≤ a1) && decide (a1 < ((b1.1.length : Nat) : Int))))
  (cond ((decide (0 ≤ a2) && decide (a2 < ((b1.1.length : Nat) : Int))))
    (cond ((decide (0 ≤ a1) && decide (a1 < ((b1.1.length : Nat) : Int))))
      (cond ((decide (0 ≤ a2) && decide (a2 < (((b1.1.set (Int.toNat a1) (b1.1.getD (Int.toNat a2) 0)).length : Nat) : Int))))
        (cond ((decide (0 ≤ a1) && decide (a1 < ((b2.length : Nat) : Int))))
          (cond ((decide (0 ≤ a2) && decide (a2 < ((b2.length : Nat) : Int))))
            (cond ((decide (0 ≤ a1) && decide (a1 < ((b2.length : Nat) : Int))))
              (cond ((decide (0 ≤ a2) && decide (a2 < (((b2.set (Int.toNat a1) ((b2.getD (Int.toNat a2) (0, 0)).1, (b2.getD (Int.toNat a2) (0, 0)).2)).length : Nat) : Int))))
                (some (((), ((b0.1, ()), ((((b1.1.set (Int.toNat a1) (b1.1.getD (Int.toNat a2) 0)).set (Int.toNat a2) (b1.1.getD (Int.toNat a1) 0)), b1.2), (((b2.set (Int.toNat a1) ((b2.getD (Int.toNat a2) (0, 0)).1, (b2.getD (Int.toNat a2) (0, 0)).2)).set (Int.toNat a2) ((b2.getD (Int.toNat a1) (0, 0)).1, (b2.getD (Int.toNat a1) (0, 0)).2)), ()))))))
                (none))
              (none))
            (none))
          (none))
        (none))
      (none))
    (none))
  (none)

noncomputable def spec_l04Solver_swap (n : Nat) (a1 : Int) (a2 : Int) (b0 : (Int) × (Unit)) (b1 : (List Nat) × (List (List ((Int) × (Int))))) (b2 : List ((Int) × (Int))) : Option ((Unit) × (((Int) × (Unit)) × (((List Nat) × (List (List ((Int) × (Int))))) × ((List ((Int) × (Int))) × (Unit))))) := spec_l04Solver_swap_t n a1 a2 b0 b1 b2

noncomputable def spec_l04Solve_t14 (n : Nat) (g14 : Int → (List (List ((Int) × (Int)))) → (List ((Int) × (Int))) → Int → (List Nat) → (List (List ((Int) × (Int)))) → (List ((Int) × (Int))) → Option ((((List ((Int) × (Int))) × (Unit)) × (((Int) × (Unit)) × (Unit))) × (Unit))) (v10 : Int) (v0 : List (List ((Int) × (Int)))) (b0 : List ((Int) × (Int))) (b1_2 : Int) (b2p : List Nat) (b2i : List (List ((Int) × (Int)))) (b3 : List ((Int) × (Int))) : Option ((((List ((Int) × (Int))) × (Unit)) × (((Int) × (Unit)) × (Unit))) × (Unit)) :=
  cond (decide (v10 < ((v0.length : Nat) : Int)))
  (cond ((decide (0 ≤ v10) && decide (v10 < ((b3.length : Nat) : Int))))
    (cond ((decide (0 ≤ v10) && decide (v10 < ((b2p.length : Nat) : Int))))
      (cond ((decide (0 ≤ v10) && decide (v10 < (((b2i.getD (b2p.getD (Int.toNat v10) 0) []).length : Nat) : Int))))
        ((spec_l01Div n (((b3.getD (Int.toNat v10) (0, 0)).1, (b3.getD (Int.toNat v10) (0, 0)).2)) ((((b2i.getD (b2p.getD (Int.toNat v10) 0) []).getD (Int.toNat v10) (0, 0)).1, ((b2i.getD (b2p.getD (Int.toNat v10) 0) []).getD (Int.toNat v10) (0, 0)).2))).bind fun r4 =>
          cond ((r4.1.2.1.1 != 0))
          (some (((([], ()), ((r4.1.2.1.1, ()), ())), ())))
          (cond (decide (((b0.length + ((r4.1.1.1.1, r4.1.1.1.2) :: []).length) * 17) ≤ 70368744177664))
            (g14 ((IntKind.wrap .i64 (v10 + 1))) v0 ((b0 ++ ((r4.1.1.1.1, r4.1.1.1.2) :: []))) b1_2 b2p b2i b3)
            (none)))
        (none))
      (none))
    (none))
  (some ((((b0, ()), ((0, ()), ())), ())))

noncomputable def spec_l04Solve_l14 (n : Nat) : Nat → Int → (List (List ((Int) × (Int)))) → (List ((Int) × (Int))) → Int → (List Nat) → (List (List ((Int) × (Int)))) → (List ((Int) × (Int))) → Option ((((List ((Int) × (Int))) × (Unit)) × (((Int) × (Unit)) × (Unit))) × (Unit))
  | 0, _, _, _, _, _, _, _ => none
  | k + 1, v10, v0, b0, b1_2, b2p, b2i, b3 => spec_l04Solve_t14 n (spec_l04Solve_l14 n k) v10 v0 b0 b1_2 b2p b2i b3

noncomputable def spec_l04Solve_t3 (n : Nat) (h14 : Nat → Int → (List (List ((Int) × (Int)))) → (List ((Int) × (Int))) → Int → (List Nat) → (List (List ((Int) × (Int)))) → (List ((Int) × (Int))) → Option ((((List ((Int) × (Int))) × (Unit)) × (((Int) × (Unit)) × (Unit))) × (Unit))) (g3 : Int → (List (List ((Int) × (Int)))) → Int → (List Nat) → (List (List ((Int) × (Int)))) → (List ((Int) × (Int))) → Option ((((List ((Int) × (Int))) × (Unit)) × (((Int) × (Unit)) × (Unit))) × (Unit))) (v7 : Int) (v0 : List (List ((Int) × (Int)))) (b0_2 : Int) (b1p : List Nat) (b1i : List (List ((Int) × (Int)))) (b2 : List ((Int) × (Int))) : Option ((((List ((Int) × (Int))) × (Unit)) × (((Int) × (Unit)) × (Unit))) × (Unit)) :=
  cond (decide (v7 < ((v0.length : Nat) : Int)))
  ((spec_l04Solver_find n v7 v7 ((b0_2, ())) ((b1p, b1i)) b2).bind fun r1 =>
    cond (decide (r1.1.1.1 < 0))
    (some (((([], ()), ((4, ()), ())), ())))
    ((spec_l04Solver_swap n v7 r1.1.1.1 ((r1.2.1.1, ())) ((r1.2.2.1.1, r1.2.2.1.2)) r1.2.2.2.1).bind fun r2 =>
      (spec_l04Solver_clear n v7 v7 ((r2.2.1.1, ())) ((r2.2.2.1.1, r2.2.2.1.2)) r2.2.2.2.1).bind fun r3 =>
      cond ((r3.2.1.1 != 0))
      (some (((([], ()), ((r3.2.1.1, ()), ())), ())))
      (g3 ((IntKind.wrap .i64 (v7 + 1))) v0 r3.2.1.1 r3.2.2.1.1 r3.2.2.1.2 r3.2.2.2.1)))
  (h14 n 0 v0 [] b0_2 b1p b1i b2)

noncomputable def spec_l04Solve_l3 (n : Nat) : Nat → Int → (List (List ((Int) × (Int)))) → Int → (List Nat) → (List (List ((Int) × (Int)))) → (List ((Int) × (Int))) → Option ((((List ((Int) × (Int))) × (Unit)) × (((Int) × (Unit)) × (Unit))) × (Unit))
  | 0, _, _, _, _, _, _ => none
  | k + 1, v7, v0, b0_2, b1p, b1i, b2 => spec_l04Solve_t3 n (spec_l04Solve_l14 n) (spec_l04Solve_l3 n k) v7 v0 b0_2 b1p b1i b2

noncomputable def spec_l04Solve_t (n : Nat) (h3 : Nat → Int → (List (List ((Int) × (Int)))) → Int → (List Nat) → (List (List ((Int) × (Int)))) → (List ((Int) × (Int))) → Option ((((List ((Int) × (Int))) × (Unit)) × (((Int) × (Unit)) × (Unit))) × (Unit))) (a0 : List (List ((Int) × (Int)))) (a1 : List ((Int) × (Int))) : Option ((((List ((Int) × (Int))) × (Unit)) × (((Int) × (Unit)) × (Unit))) × (Unit)) :=
  (spec_l04Begin n a0 a1).bind fun r0 =>
  h3 n 0 a0 r0.1.1.1.2.2.1 r0.1.1.1.1.1 r0.1.1.1.1.2 r0.1.1.1.2.1

noncomputable def spec_l04Solve (n : Nat) (a0 : List (List ((Int) × (Int)))) (a1 : List ((Int) × (Int))) : Option ((((List ((Int) × (Int))) × (Unit)) × (((Int) × (Unit)) × (Unit))) × (Unit)) := spec_l04Solve_t n (spec_l04Solve_l3 n) a0 a1

noncomputable def spec_SolveFracs_t10 (n : Nat) (g10 : Int → (List (List ((Int) × (Int)))) → Bool → (List ((Int) × (Int))) → Option ((((List ((Int) × (Int))) × (Unit)) × (((Int) × (Unit)) × (Unit))) × (Unit))) (v8 : Int) (v0 : List (List ((Int) × (Int)))) (v6 : Bool) (v1 : List ((Int) × (Int))) : Option ((((List ((Int) × (Int))) × (Unit)) × (((Int) × (Unit)) × (Unit))) × (Unit)) :=
  cond (decide (v8 < ((v0.length : Nat) : Int)))
  (cond v6
    (cond ((decide (0 ≤ v8) && decide (v8 < ((v0.length : Nat) : Int))))
      (g10 ((IntKind.wrap .i64 (v8 + 1))) v0 (((((v0.getD (Int.toNat v8) []).length : Nat) : Int) == ((v0.length : Nat) : Int))) v1)
      (none))
    (g10 ((IntKind.wrap .i64 (v8 + 1))) v0 false v1))
  (cond (!v6)
    (some (((([], ()), ((2, ()), ())), ())))
    ((spec_l04Solve n v0 v1).bind fun r3 =>
      some ((((r3.1.1.1, ()), ((r3.1.2.1.1, ()), ())), ()))))

noncomputable def spec_SolveFracs_l10 (n : Nat) : Nat → Int → (List (List ((Int) × (Int)))) → Bool → (List ((Int) × (Int))) → Option ((((List ((Int) × (Int))) × (Unit)) × (((Int) × (Unit)) × (Unit))) × (Unit))
  | 0, _, _, _, _ => none
  | k + 1, v8, v0, v6, v1 => spec_SolveFracs_t10 n (spec_SolveFracs_l10 n k) v8 v0 v6 v1

noncomputable def spec_SolveFracs_t3 (n : Nat) (h10 : Nat → Int → (List (List ((Int) × (Int)))) → Bool → (List ((Int) × (Int))) → Option ((((List ((Int) × (Int))) × (Unit)) × (((Int) × (Unit)) × (Unit))) × (Unit))) (g3 : Int → (List (List ((Int) × (Int)))) → (List ((Int) × (Int))) → Bool → Option ((((List ((Int) × (Int))) × (Unit)) × (((Int) × (Unit)) × (Unit))) × (Unit))) (v7 : Int) (v0 : List (List ((Int) × (Int)))) (v1 : List ((Int) × (Int))) (v6 : Bool) : Option ((((List ((Int) × (Int))) × (Unit)) × (((Int) × (Unit)) × (Unit))) × (Unit)) :=
  cond (decide (v7 < ((v0.length : Nat) : Int)))
  (cond v6
    (cond ((decide (0 ≤ v7) && decide (v7 < ((v0.length : Nat) : Int))))
      ((spec_l04Fracs n ((v0.getD (Int.toNat v7) []))).bind fun r1 =>
        g3 ((IntKind.wrap .i64 (v7 + 1))) v0 v1 r1.1.1.1)
      (none))
    (cond (!v6)
      (some (((([], ()), ((1, ()), ())), ())))
      ((spec_l00In n (((v0.length : Nat) : Int)) 1 7).bind fun r2 =>
        cond r2.1.1.1
        (h10 n 0 v0 ((((v1.length : Nat) : Int) == ((v0.length : Nat) : Int))) v1)
        (h10 n 0 v0 false v1))))
  (cond (!v6)
    (some (((([], ()), ((1, ()), ())), ())))
    ((spec_l00In n (((v0.length : Nat) : Int)) 1 7).bind fun r4 =>
      cond r4.1.1.1
      (h10 n 0 v0 ((((v1.length : Nat) : Int) == ((v0.length : Nat) : Int))) v1)
      (h10 n 0 v0 false v1)))

noncomputable def spec_SolveFracs_l3 (n : Nat) : Nat → Int → (List (List ((Int) × (Int)))) → (List ((Int) × (Int))) → Bool → Option ((((List ((Int) × (Int))) × (Unit)) × (((Int) × (Unit)) × (Unit))) × (Unit))
  | 0, _, _, _, _ => none
  | k + 1, v7, v0, v1, v6 => spec_SolveFracs_t3 n (spec_SolveFracs_l10 n) (spec_SolveFracs_l3 n k) v7 v0 v1 v6

noncomputable def spec_SolveFracs_t (n : Nat) (h3 : Nat → Int → (List (List ((Int) × (Int)))) → (List ((Int) × (Int))) → Bool → Option ((((List ((Int) × (Int))) × (Unit)) × (((Int) × (Unit)) × (Unit))) × (Unit))) (a0 : List (List ((Int) × (Int)))) (a1 : List ((Int) × (Int))) : Option ((((List ((Int) × (Int))) × (Unit)) × (((Int) × (Unit)) × (Unit))) × (Unit)) :=
  (spec_l04Fracs n a1).bind fun r0 =>
  h3 n 0 a0 a1 r0.1.1.1

noncomputable def spec_SolveFracs (n : Nat) (a0 : List (List ((Int) × (Int)))) (a1 : List ((Int) × (Int))) : Option ((((List ((Int) × (Int))) × (Unit)) × (((Int) × (Unit)) × (Unit))) × (Unit)) := spec_SolveFracs_t n (spec_SolveFracs_l3 n) a0 a1

noncomputable def laws_FnExactSolveFracs_t (n : Nat) (a0 : List (List ((Int) × (Int)))) (a1 : List ((Int) × (Int))) : Option ((((Bool) × (Unit)) × (Unit)) × (Unit)) :=
  (laws_szFracSS n a0 1048576).bind fun r0 =>
  cond (decide (r0.1.1.1 < 0))
  (some ((((true, ()), ()), ())))
  ((laws_szFracS n a1 r0.1.1.1).bind fun r1 =>
    cond (decide (r1.1.1.1 < 0))
    (some ((((true, ()), ()), ())))
    ((laws_toFracSS n a0).bind fun r2 =>
      (laws_toFracS n a1).bind fun r3 =>
      (spec_SolveFracs n ((rowsAt r2.1.1.1.1 r2.1.1.1.2)) r3.1.1.1).bind fun r4 =>
      (laws_toFracSS n a0).bind fun r5 =>
      (laws_toFracS n a1).bind fun r6 =>
      (impl_SolveFracs n ((rowsAt r5.1.1.1.1 r5.1.1.1.2)) r6.1.1.1).bind fun r7 =>
      (laws_eqFracS n r7.1.1.1 r4.1.1.1).bind fun r8 =>
      cond (!r8.1.1.1)
      (some ((((false, ()), ()), ())))
      (cond ((r7.1.2.1.1 != r4.1.2.1.1))
        (some ((((false, ()), ()), ())))
        ((laws_toFracSS n a0).bind fun r9 =>
          (laws_eqFracSS n ((rowsAt r5.1.1.1.1 r5.1.1.1.2)) ((rowsAt r9.1.1.1.1 r9.1.1.1.2))).bind fun r10 =>
          cond (!r10.1.1.1)
          (some ((((false, ()), ()), ())))
          ((laws_toFracS n a1).bind fun r11 =>
            (laws_eqFracS n r6.1.1.1 r11.1.1.1).bind fun r12 =>
            cond (!r12.1.1.1)
            (some ((((false, ()), ()), ())))
            ((laws_markFracSS n 1 ((r5.1.1.1.1, r5.1.1.1.2))).bind fun r13 =>
              (laws_markFracS n r13.1.1.1 r6.1.1.1).bind fun r14 =>
              cond (decide (r14.1.1.1 < 0))
              (some ((((false, ()), ()), ())))
              ((laws_eqFracS n r7.1.1.1 r4.1.1.1).bind fun r15 =>
                cond (!r15.1.1.1)
                (some ((((false, ()), ()), ())))
                (cond ((r7.1.2.1.1 != r4.1.2.1.1))
                  (some ((((false, ()), ()), ())))
                  ((laws_markFracS n 1 r7.1.1.1).bind fun r16 =>
                    (laws_heldFracS n r16.2.1 1).bind fun r17 =>
                    cond (decide (r17.1.1.1 < 0))
                    (some ((((false, ()), ()), ())))
                    (cond ((r17.1.1.1 != r16.1.1.1))
                      (some ((((false, ()), ()), ())))
                      ((laws_toFracSS n a0).bind fun r18 =>
                        (laws_toFracS n a1).bind fun r19 =>
                        (impl_SolveFracs n ((rowsAt r18.1.1.1.1 r18.1.1.1.2)) r19.1.1.1).bind fun r20 =>
                        (laws_eqFracS n r20.1.1.1 r4.1.1.1).bind fun r21 =>
                        cond (!r21.1.1.1)
                        (some ((((false, ()), ()), ())))
                        (cond ((r20.1.2.1.1 != r4.1.2.1.1))
                          (some ((((false, ()), ()), ())))
                          ((laws_heldFracS n r16.2.1 1).bind fun r22 =>
                            cond (decide (r22.1.1.1 < 0))
                            (some ((((false, ()), ()), ())))
                            (cond ((r22.1.1.1 != r16.1.1.1))
                              (some ((((false, ()), ()), ())))
                              (some ((((true, ()), ()), ())))))))))))))))))

noncomputable def laws_FnExactSolveFracs (n : Nat) (a0 : List (List ((Int) × (Int)))) (a1 : List ((Int) × (Int))) : Option ((((Bool) × (Unit)) × (Unit)) × (Unit)) := laws_FnExactSolveFracs_t n a0 a1

end Go.Abs
