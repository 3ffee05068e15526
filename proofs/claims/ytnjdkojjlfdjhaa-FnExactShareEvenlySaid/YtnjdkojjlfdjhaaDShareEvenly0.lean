import Derived.Test.YtnjdkojjlfdjhaaLib
namespace Go.Abs
set_option linter.unusedVariables false

noncomputable def laws_szFracS_t (n : Nat) (a0 : List ((Int) × (Int))) (a1 : Int) : Option ((((Int) × Unit) × (Unit)) × (Unit)) :=
  cond (decide ((IntKind.wrap .i64 (a1 - ((a0.length : Nat) : Int))) < 0))
  (some (((((-1), ()), ()), ())))
  (some (((((IntKind.wrap .i64 (a1 - ((a0.length : Nat) : Int))), ()), ()), ())))

noncomputable def laws_szFracS (n : Nat) (a0 : List ((Int) × (Int))) (a1 : Int) : Option ((((Int) × Unit) × (Unit)) × (Unit)) := laws_szFracS_t n a0 a1

noncomputable def laws_toFrac_t (n : Nat) (a0 : (Int) × (Int)) : Option (((((Int) × (Int)) × Unit) × (Unit)) × (Unit)) :=
  some (((((a0.1, a0.2), ()), ()), ()))

noncomputable def laws_toFrac (n : Nat) (a0 : (Int) × (Int)) : Option (((((Int) × (Int)) × Unit) × (Unit)) × (Unit)) := laws_toFrac_t n a0

noncomputable def laws_toFracS_t3 (n : Nat) (g3 : Int → (List ((Int) × (Int))) → (List ((Int) × (Int))) → Option ((((List ((Int) × (Int))) × Unit) × (Unit)) × (Unit))) (v4 : Int) (v0 : List ((Int) × (Int))) (b0 : List ((Int) × (Int))) : Option ((((List ((Int) × (Int))) × Unit) × (Unit)) × (Unit)) :=
  cond (decide (v4 < ((v0.length : Nat) : Int)))
  (cond ((decide (0 ≤ v4) && decide (v4 < ((v0.length : Nat) : Int))))
    ((laws_toFrac n (((v0.getD (Int.toNat v4) (0, 0)).1, (v0.getD (Int.toNat v4) (0, 0)).2))).bind fun r0 =>
      cond ((decide (0 ≤ v4) && decide (v4 < ((b0.length : Nat) : Int))))
      (g3 ((IntKind.wrap .i64 (v4 + 1))) v0 ((b0.set (Int.toNat v4) (r0.1.1.1.1, r0.1.1.1.2))))
      (none))
    (none))
  (some ((((b0, ()), ()), ())))

noncomputable def laws_toFracS_l3 (n : Nat) : Nat → Int → (List ((Int) × (Int))) → (List ((Int) × (Int))) → Option ((((List ((Int) × (Int))) × Unit) × (Unit)) × (Unit))
  | 0, _, _, _ => none
  | k + 1, v4, v0, b0 => laws_toFracS_t3 n (laws_toFracS_l3 n k) v4 v0 b0

noncomputable def laws_toFracS_t (n : Nat) (h3 : Nat → Int → (List ((Int) × (Int))) → (List ((Int) × (Int))) → Option ((((List ((Int) × (Int))) × Unit) × (Unit)) × (Unit))) (a0 : List ((Int) × (Int))) : Option ((((List ((Int) × (Int))) × Unit) × (Unit)) × (Unit)) :=
  cond ((((((a0.length : Nat) : Int) == ((a0.length : Nat) : Int)) && decide (0 ≤ ((a0.length : Nat) : Int))) && decide (((Int.toNat ((a0.length : Nat) : Int)) * 17) ≤ 70368744177664)))
  (h3 n 0 a0 ((List.replicate (Int.toNat ((a0.length : Nat) : Int)) (0, 0))))
  (none)

noncomputable def laws_toFracS (n : Nat) (a0 : List ((Int) × (Int))) : Option ((((List ((Int) × (Int))) × Unit) × (Unit)) × (Unit)) := laws_toFracS_t n (laws_toFracS_l3 n) a0

noncomputable def spec_l00In_t (n : Nat) (a0 : Int) (a1 : Int) (a2 : Int) : Option ((((Bool) × Unit) × (Unit)) × (Unit)) :=
  cond (decide (a0 ≥ a1))
  (some ((((decide (a0 ≤ a2), ()), ()), ())))
  (some ((((false, ()), ()), ())))

noncomputable def spec_l00In (n : Nat) (a0 : Int) (a1 : Int) (a2 : Int) : Option ((((Bool) × Unit) × (Unit)) × (Unit)) := spec_l00In_t n a0 a1 a2

noncomputable def spec_l01Abs_t (n : Nat) (a0 : Int) : Option ((((Int) × Unit) × (Unit)) × (Unit)) :=
  cond (decide (a0 < 0))
  (some (((((IntKind.wrap .i64 (0 - a0)), ()), ()), ())))
  (some ((((a0, ()), ()), ())))

noncomputable def spec_l01Abs (n : Nat) (a0 : Int) : Option ((((Int) × Unit) × (Unit)) × (Unit)) := spec_l01Abs_t n a0

noncomputable def spec_l01Gcd_t1 (n : Nat) (g1 : Int → Int → Option ((((Int) × Unit) × (Unit)) × (Unit))) (v1 : Int) (v0 : Int) : Option ((((Int) × Unit) × (Unit)) × (Unit)) :=
  cond ((v1 != 0))
  (cond ((v1 != 0))
    (g1 ((Int.tmod v0 v1)) v1)
    (none))
  (some ((((v0, ()), ()), ())))

noncomputable def spec_l01Gcd_l1 (n : Nat) : Nat → Int → Int → Option ((((Int) × Unit) × (Unit)) × (Unit))
  | 0, _, _ => none
  | k + 1, v1, v0 => spec_l01Gcd_t1 n (spec_l01Gcd_l1 n k) v1 v0

noncomputable def spec_l01Gcd_t (n : Nat) (h1 : Nat → Int → Int → Option ((((Int) × Unit) × (Unit)) × (Unit))) (a0 : Int) (a1 : Int) : Option ((((Int) × Unit) × (Unit)) × (Unit)) :=
  h1 n a1 a0

noncomputable def spec_l01Gcd (n : Nat) (a0 : Int) (a1 : Int) : Option ((((Int) × Unit) × (Unit)) × (Unit)) := spec_l01Gcd_t n (spec_l01Gcd_l1 n) a0 a1

noncomputable def spec_l01Ok_t (n : Nat) (a0 : (Int) × (Int)) : Option ((((Bool) × Unit) × (Unit)) × (Unit)) :=
  (spec_l00In n a0.2 1 1000000000).bind fun r0 =>
  cond r0.1.1.1
  ((spec_l00In n a0.1 (-1000000000) 1000000000).bind fun r1 =>
    cond r1.1.1.1
    ((spec_l01Abs n a0.1).bind fun r2 =>
      (spec_l01Gcd n r2.1.1.1 a0.2).bind fun r3 =>
      some (((((r3.1.1.1 == 1), ()), ()), ())))
    (some ((((false, ()), ()), ()))))
  (some ((((false, ()), ()), ())))

noncomputable def spec_l01Ok (n : Nat) (a0 : (Int) × (Int)) : Option ((((Bool) × Unit) × (Unit)) × (Unit)) := spec_l01Ok_t n a0

noncomputable def spec_l04Fracs_t2 (n : Nat) (g2 : Int → (List ((Int) × (Int))) → Option ((((Bool) × Unit) × (Unit)) × (Unit))) (v3 : Int) (v0 : List ((Int) × (Int))) : Option ((((Bool) × Unit) × (Unit)) × (Unit)) :=
  cond (decide (v3 < ((v0.length : Nat) : Int)))
  (cond ((decide (0 ≤ v3) && decide (v3 < ((v0.length : Nat) : Int))))
    ((spec_l01Ok n (((v0.getD (Int.toNat v3) (0, 0)).1, (v0.getD (Int.toNat v3) (0, 0)).2))).bind fun r0 =>
      cond (!r0.1.1.1)
      (some ((((false, ()), ()), ())))
      (g2 ((IntKind.wrap .i64 (v3 + 1))) v0))
    (none))
  (some ((((true, ()), ()), ())))

noncomputable def spec_l04Fracs_l2 (n : Nat) : Nat → Int → (List ((Int) × (Int))) → Option ((((Bool) × Unit) × (Unit)) × (Unit))
  | 0, _, _ => none
  | k + 1, v3, v0 => spec_l04Fracs_t2 n (spec_l04Fracs_l2 n k) v3 v0

noncomputable def spec_l04Fracs_t (n : Nat) (h2 : Nat → Int → (List ((Int) × (Int))) → Option ((((Bool) × Unit) × (Unit)) × (Unit))) (a0 : List ((Int) × (Int))) : Option ((((Bool) × Unit) × (Unit)) × (Unit)) :=
  h2 n 0 a0

noncomputable def spec_l04Fracs (n : Nat) (a0 : List ((Int) × (Int))) : Option ((((Bool) × Unit) × (Unit)) × (Unit)) := spec_l04Fracs_t n (spec_l04Fracs_l2 n) a0

noncomputable def spec_l01Whole_t (n : Nat) (a0 : Int) : Option (((((Int) × (Int)) × Unit) × (Unit)) × (Unit)) :=
  some (((((a0, 1), ()), ()), ()))

noncomputable def spec_l01Whole (n : Nat) (a0 : Int) : Option (((((Int) × (Int)) × Unit) × (Unit)) × (Unit)) := spec_l01Whole_t n a0

noncomputable def spec_l01Reduced_t (n : Nat) (a0 : Int) (a1 : Int) : Option (((((Int) × (Int)) × Unit) × (((Int) × Unit) × (Unit))) × (Unit)) :=
  (spec_l01Abs n a0).bind fun r0 =>
  (spec_l01Abs n a1).bind fun r1 =>
  (spec_l01Gcd n r0.1.1.1 r1.1.1.1).bind fun r2 =>
  cond ((r2.1.1.1 != 0))
  (cond ((r2.1.1.1 != 0))
    (cond (decide ((IntKind.wrap .i64 (Int.tdiv a1 r2.1.1.1)) < 0))
      ((spec_l01Ok n (((IntKind.wrap .i64 (0 - (IntKind.wrap .i64 (Int.tdiv a0 r2.1.1.1)))), (IntKind.wrap .i64 (0 - (IntKind.wrap .i64 (Int.tdiv a1 r2.1.1.1))))))).bind fun r3 =>
        cond (!r3.1.1.1)
        (some (((((0, 0), ()), ((3, ()), ())), ())))
        (some ((((((IntKind.wrap .i64 (0 - (IntKind.wrap .i64 (Int.tdiv a0 r2.1.1.1)))), (IntKind.wrap .i64 (0 - (IntKind.wrap .i64 (Int.tdiv a1 r2.1.1.1))))), ()), ((0, ()), ())), ()))))
      ((spec_l01Ok n (((IntKind.wrap .i64 (Int.tdiv a0 r2.1.1.1)), (IntKind.wrap .i64 (Int.tdiv a1 r2.1.1.1))))).bind fun r4 =>
        cond (!r4.1.1.1)
        (some (((((0, 0), ()), ((3, ()), ())), ())))
        (some ((((((IntKind.wrap .i64 (Int.tdiv a0 r2.1.1.1)), (IntKind.wrap .i64 (Int.tdiv a1 r2.1.1.1))), ()), ((0, ()), ())), ())))))
    (none))
  (none)

noncomputable def spec_l01Reduced (n : Nat) (a0 : Int) (a1 : Int) : Option (((((Int) × (Int)) × Unit) × (((Int) × Unit) × (Unit))) × (Unit)) := spec_l01Reduced_t n a0 a1

noncomputable def spec_l01Add_t (n : Nat) (a0 : (Int) × (Int)) (a1 : (Int) × (Int)) : Option (((((Int) × (Int)) × Unit) × (((Int) × Unit) × (Unit))) × (Unit)) :=
  (spec_l01Reduced n ((IntKind.wrap .i64 ((IntKind.wrap .i64 (a0.1 * a1.2)) + (IntKind.wrap .i64 (a1.1 * a0.2))))) ((IntKind.wrap .i64 (a0.2 * a1.2)))).bind fun r0 =>
  some (((((r0.1.1.1.1, r0.1.1.1.2), ()), ((r0.1.2.1.1, ()), ())), ()))

noncomputable def spec_l01Add (n : Nat) (a0 : (Int) × (Int)) (a1 : (Int) × (Int)) : Option (((((Int) × (Int)) × Unit) × (((Int) × Unit) × (Unit))) × (Unit)) := spec_l01Add_t n a0 a1

noncomputable def spec_l01Sum_t3 (n : Nat) (g3 : Int → (List ((Int) × (Int))) → Int → Int → Int → Int → Option (((((Int) × (Int)) × Unit) × (((Int) × Unit) × (Unit))) × (Unit))) (v5 : Int) (v0 : List ((Int) × (Int))) (b0_0 : Int) (b0_1 : Int) (b1_0 : Int) (b1_1 : Int) : Option (((((Int) × (Int)) × Unit) × (((Int) × Unit) × (Unit))) × (Unit)) :=
  cond (decide (v5 < ((v0.length : Nat) : Int)))
  (cond ((decide (0 ≤ v5) && decide (v5 < ((v0.length : Nat) : Int))))
    ((spec_l01Add n ((b1_0, b1_1)) (((v0.getD (Int.toNat v5) (0, 0)).1, (v0.getD (Int.toNat v5) (0, 0)).2))).bind fun r1 =>
      cond ((r1.1.2.1.1 != 0))
      (some (((((0, 0), ()), ((r1.1.2.1.1, ()), ())), ())))
      (g3 ((IntKind.wrap .i64 (v5 + 1))) v0 b0_0 b0_1 r1.1.1.1.1 r1.1.1.1.2))
    (none))
  (some (((((b1_0, b1_1), ()), ((0, ()), ())), ())))

noncomputable def spec_l01Sum_l3 (n : Nat) : Nat → Int → (List ((Int) × (Int))) → Int → Int → Int → Int → Option (((((Int) × (Int)) × Unit) × (((Int) × Unit) × (Unit))) × (Unit))
  | 0, _, _, _, _, _, _ => none
  | k + 1, v5, v0, b0_0, b0_1, b1_0, b1_1 => spec_l01Sum_t3 n (spec_l01Sum_l3 n k) v5 v0 b0_0 b0_1 b1_0 b1_1

noncomputable def spec_l01Sum_t (n : Nat) (h3 : Nat → Int → (List ((Int) × (Int))) → Int → Int → Int → Int → Option (((((Int) × (Int)) × Unit) × (((Int) × Unit) × (Unit))) × (Unit))) (a0 : List ((Int) × (Int))) : Option (((((Int) × (Int)) × Unit) × (((Int) × Unit) × (Unit))) × (Unit)) :=
  (spec_l01Whole n 0).bind fun r0 =>
  h3 n 0 a0 0 0 r0.1.1.1.1 r0.1.1.1.2

noncomputable def spec_l01Sum (n : Nat) (a0 : List ((Int) × (Int))) : Option (((((Int) × (Int)) × Unit) × (((Int) × Unit) × (Unit))) × (Unit)) := spec_l01Sum_t n (spec_l01Sum_l3 n) a0

noncomputable def spec_l01Neg_t (n : Nat) (a0 : (Int) × (Int)) : Option (((((Int) × (Int)) × Unit) × (Unit)) × (Unit)) :=
  some ((((((IntKind.wrap .i64 (0 - a0.1)), a0.2), ()), ()), ()))

noncomputable def spec_l01Neg (n : Nat) (a0 : (Int) × (Int)) : Option (((((Int) × (Int)) × Unit) × (Unit)) × (Unit)) := spec_l01Neg_t n a0

noncomputable def spec_l01Sub_t (n : Nat) (a0 : (Int) × (Int)) (a1 : (Int) × (Int)) : Option (((((Int) × (Int)) × Unit) × (((Int) × Unit) × (Unit))) × (Unit)) :=
  (spec_l01Neg n ((a1.1, a1.2))).bind fun r0 =>
  (spec_l01Add n ((a0.1, a0.2)) ((r0.1.1.1.1, r0.1.1.1.2))).bind fun r1 =>
  some (((((r1.1.1.1.1, r1.1.1.1.2), ()), ((r1.1.2.1.1, ()), ())), ()))

noncomputable def spec_l01Sub (n : Nat) (a0 : (Int) × (Int)) (a1 : (Int) × (Int)) : Option (((((Int) × (Int)) × Unit) × (((Int) × Unit) × (Unit))) × (Unit)) := spec_l01Sub_t n a0 a1

noncomputable def spec_l01Div_t (n : Nat) (a0 : (Int) × (Int)) (a1 : (Int) × (Int)) : Option (((((Int) × (Int)) × Unit) × (((Int) × Unit) × (Unit))) × (Unit)) :=
  (spec_l01Reduced n ((IntKind.wrap .i64 (a0.1 * a1.2))) ((IntKind.wrap .i64 (a0.2 * a1.1)))).bind fun r0 =>
  some (((((r0.1.1.1.1, r0.1.1.1.2), ()), ((r0.1.2.1.1, ()), ())), ()))

noncomputable def spec_l01Div (n : Nat) (a0 : (Int) × (Int)) (a1 : (Int) × (Int)) : Option (((((Int) × (Int)) × Unit) × (((Int) × Unit) × (Unit))) × (Unit)) := spec_l01Div_t n a0 a1

noncomputable def spec_ShareEvenly_t16 (n : Nat) (g16 : Int → (List ((Int) × (Int))) → (List ((Int) × (Int))) → Int → Int → Option ((((List ((Int) × (Int))) × Unit) × (((Int) × Unit) × (Unit))) × (Unit))) (v13 : Int) (v0 : List ((Int) × (Int))) (b0 : List ((Int) × (Int))) (b1_0 : Int) (b1_1 : Int) : Option ((((List ((Int) × (Int))) × Unit) × (((Int) × Unit) × (Unit))) × (Unit)) :=
  cond (decide (v13 < ((v0.length : Nat) : Int)))
  (cond ((decide (0 ≤ v13) && decide (v13 < ((v0.length : Nat) : Int))))
    ((spec_l01Sub n (((v0.getD (Int.toNat v13) (0, 0)).1, (v0.getD (Int.toNat v13) (0, 0)).2)) ((b1_0, b1_1))).bind fun r7 =>
      cond ((r7.1.2.1.1 != 0))
      (some (((([], ()), ((r7.1.2.1.1, ()), ())), ())))
      (cond (decide (((b0.length + ((r7.1.1.1.1, r7.1.1.1.2) :: []).length) * 17) ≤ 70368744177664))
        (g16 ((IntKind.wrap .i64 (v13 + 1))) v0 ((b0 ++ ((r7.1.1.1.1, r7.1.1.1.2) :: []))) b1_0 b1_1)
        (none)))
    (none))
  (some ((((b0, ()), ((0, ()), ())), ())))

noncomputable def spec_ShareEvenly_l16 (n : Nat) : Nat → Int → (List ((Int) × (Int))) → (List ((Int) × (Int))) → Int → Int → Option ((((List ((Int) × (Int))) × Unit) × (((Int) × Unit) × (Unit))) × (Unit))
  | 0, _, _, _, _, _ => none
  | k + 1, v13, v0, b0, b1_0, b1_1 => spec_ShareEvenly_t16 n (spec_ShareEvenly_l16 n k) v13 v0 b0 b1_0 b1_1

noncomputable def spec_ShareEvenly_t (n : Nat) (h16 : Nat → Int → (List ((Int) × (Int))) → (List ((Int) × (Int))) → Int → Int → Option ((((List ((Int) × (Int))) × Unit) × (((Int) × Unit) × (Unit))) × (Unit))) (a0 : List ((Int) × (Int))) (a1 : (Int) × (Int)) : Option ((((List ((Int) × (Int))) × Unit) × (((Int) × Unit) × (Unit))) × (Unit)) :=
  (spec_l04Fracs n a0).bind fun r0 =>
  cond (!r0.1.1.1)
  (some (((([], ()), ((1, ()), ())), ())))
  ((spec_l01Ok n ((a1.1, a1.2))).bind fun r1 =>
    cond (!r1.1.1.1)
    (some (((([], ()), ((1, ()), ())), ())))
    ((spec_l00In n (((a0.length : Nat) : Int)) 1 64).bind fun r2 =>
      cond (!r2.1.1.1)
      (some (((([], ()), ((2, ()), ())), ())))
      ((spec_l01Sum n a0).bind fun r3 =>
        cond ((r3.1.2.1.1 != 0))
        (some (((([], ()), ((r3.1.2.1.1, ()), ())), ())))
        ((spec_l01Sub n ((r3.1.1.1.1, r3.1.1.1.2)) ((a1.1, a1.2))).bind fun r4 =>
          cond ((r4.1.2.1.1 != 0))
          (some (((([], ()), ((r4.1.2.1.1, ()), ())), ())))
          ((spec_l01Whole n (((a0.length : Nat) : Int))).bind fun r5 =>
            (spec_l01Div n ((r4.1.1.1.1, r4.1.1.1.2)) ((r5.1.1.1.1, r5.1.1.1.2))).bind fun r6 =>
            cond ((r6.1.2.1.1 != 0))
            (some (((([], ()), ((r6.1.2.1.1, ()), ())), ())))
            (h16 n 0 a0 [] r6.1.1.1.1 r6.1.1.1.2))))))

noncomputable def spec_ShareEvenly (n : Nat) (a0 : List ((Int) × (Int))) (a1 : (Int) × (Int)) : Option ((((List ((Int) × (Int))) × Unit) × (((Int) × Unit) × (Unit))) × (Unit)) := spec_ShareEvenly_t n (spec_ShareEvenly_l16 n) a0 a1

noncomputable def impl_within_t (n : Nat) (a0 : Int) (a1 : Int) (a2 : Int) : Option ((((Bool) × Unit) × (Unit)) × (Unit)) :=
  cond (decide (a1 ≤ a0))
  (some ((((decide (a0 ≤ a2), ()), ()), ())))
  (some ((((false, ()), ()), ())))

noncomputable def impl_within (n : Nat) (a0 : Int) (a1 : Int) (a2 : Int) : Option ((((Bool) × Unit) × (Unit)) × (Unit)) := impl_within_t n a0 a1 a2

noncomputable def impl_gcd_t1 (n : Nat) (g1 : Int → Int → Option ((((Int) × Unit) × (Unit)) × (Unit))) (v1 : Int) (v0 : Int) : Option ((((Int) × Unit) × (Unit)) × (Unit)) :=
  cond ((v1 != 0))
  (cond ((v1 != 0))
    (g1 ((Int.tmod v0 v1)) v1)
    (none))
  (some (((((if v0 < (IntKind.wrap .i64 (0 - v0)) then (IntKind.wrap .i64 (0 - v0)) else v0), ()), ()), ())))

noncomputable def impl_gcd_l1 (n : Nat) : Nat → Int → Int → Option ((((Int) × Unit) × (Unit)) × (Unit))
  | 0, _, _ => none
  | k + 1, v1, v0 => impl_gcd_t1 n (impl_gcd_l1 n k) v1 v0

noncomputable def impl_gcd_t (n : Nat) (h1 : Nat → Int → Int → Option ((((Int) × Unit) × (Unit)) × (Unit))) (a0 : Int) (a1 : Int) : Option ((((Int) × Unit) × (Unit)) × (Unit)) :=
  h1 n a1 a0

noncomputable def impl_gcd (n : Nat) (a0 : Int) (a1 : Int) : Option ((((Int) × Unit) × (Unit)) × (Unit)) := impl_gcd_t n (impl_gcd_l1 n) a0 a1

noncomputable def impl_ValidFrac_t (n : Nat) (a0 : (Int) × (Int)) : Option ((((Bool) × Unit) × (Unit)) × (Unit)) :=
  (impl_within n a0.2 1 1000000000).bind fun r0 =>
  cond r0.1.1.1
  ((impl_within n a0.1 (-1000000000) 1000000000).bind fun r1 =>
    cond r1.1.1.1
    ((impl_gcd n a0.1 a0.2).bind fun r2 =>
      some (((((r2.1.1.1 == 1), ()), ()), ())))
    (some ((((false, ()), ()), ()))))
  (some ((((false, ()), ()), ())))

noncomputable def impl_ValidFrac (n : Nat) (a0 : (Int) × (Int)) : Option ((((Bool) × Unit) × (Unit)) × (Unit)) := impl_ValidFrac_t n a0

noncomputable def impl_areValid_1_t (n : Nat) (a0 : (Int) × (Int)) : Option ((((Bool) × Unit) × (Unit)) × (Unit)) :=
  (impl_ValidFrac n ((a0.1, a0.2))).bind fun r0 =>
  some (((((!r0.1.1.1), ()), ()), ()))

noncomputable def impl_areValid_1 (n : Nat) (a0 : (Int) × (Int)) : Option ((((Bool) × Unit) × (Unit)) × (Unit)) := impl_areValid_1_t n a0

noncomputable def slices_IndexFunc_impl_Frac_impl_Frac_at_impl_areValid_1_t2 (n : Nat) (g2 : Int → (List ((Int) × (Int))) → Int → Option ((((Int) × Unit) × (Unit)) × (Unit))) (v8 : Int) (v0 : List ((Int) × (Int))) (v7 : Int) : Option ((((Int) × Unit) × (Unit)) × (Unit)) :=
  cond (decide (v8 < v7))
  (cond ((decide (0 ≤ v8) && decide (v8 < ((v0.length : Nat) : Int))))
    ((impl_areValid_1 n (((v0.getD (Int.toNat v8) (0, 0)).1, (v0.getD (Int.toNat v8) (0, 0)).2))).bind fun r0 =>
      cond r0.1.1.1
      (some ((((v8, ()), ()), ())))
      (g2 ((IntKind.wrap .i64 (v8 + 1))) v0 v7))
    (none))
  (some (((((-1), ()), ()), ())))

noncomputable def slices_IndexFunc_impl_Frac_impl_Frac_at_impl_areValid_1_l2 (n : Nat) : Nat → Int → (List ((Int) × (Int))) → Int → Option ((((Int) × Unit) × (Unit)) × (Unit))
  | 0, _, _, _ => none
  | k + 1, v8, v0, v7 => slices_IndexFunc_impl_Frac_impl_Frac_at_impl_areValid_1_t2 n (slices_IndexFunc_impl_Frac_impl_Frac_at_impl_areValid_1_l2 n k) v8 v0 v7

noncomputable def slices_IndexFunc_impl_Frac_impl_Frac_at_impl_areValid_1_t (n : Nat) (h2 : Nat → Int → (List ((Int) × (Int))) → Int → Option ((((Int) × Unit) × (Unit)) × (Unit))) (a0 : List ((Int) × (Int))) : Option ((((Int) × Unit) × (Unit)) × (Unit)) :=
  h2 n 0 a0 (((a0.length : Nat) : Int))

noncomputable def slices_IndexFunc_impl_Frac_impl_Frac_at_impl_areValid_1 (n : Nat) (a0 : List ((Int) × (Int))) : Option ((((Int) × Unit) × (Unit)) × (Unit)) := slices_IndexFunc_impl_Frac_impl_Frac_at_impl_areValid_1_t n (slices_IndexFunc_impl_Frac_impl_Frac_at_impl_areValid_1_l2 n) a0

noncomputable def slices_ContainsFunc_impl_Frac_impl_Frac_at_impl_areValid_1_t (n : Nat) (a0 : List ((Int) × (Int))) : Option ((((Bool) × Unit) × (Unit)) × (Unit)) :=
  (slices_IndexFunc_impl_Frac_impl_Frac_at_impl_areValid_1 n a0).bind fun r0 =>
  some ((((decide (r0.1.1.1 ≥ 0), ()), ()), ()))

noncomputable def slices_ContainsFunc_impl_Frac_impl_Frac_at_impl_areValid_1 (n : Nat) (a0 : List ((Int) × (Int))) : Option ((((Bool) × Unit) × (Unit)) × (Unit)) := slices_ContainsFunc_impl_Frac_impl_Frac_at_impl_areValid_1_t n a0

noncomputable def impl_areValid_t (n : Nat) (a0 : List ((Int) × (Int))) : Option ((((Bool) × Unit) × (Unit)) × (Unit)) :=
  (slices_ContainsFunc_impl_Frac_impl_Frac_at_impl_areValid_1 n a0).bind fun r0 =>
  some (((((!r0.1.1.1), ()), ()), ()))

noncomputable def impl_areValid (n : Nat) (a0 : List ((Int) × (Int))) : Option ((((Bool) × Unit) × (Unit)) × (Unit)) := impl_areValid_t n a0

noncomputable def impl_isSome_t (n : Nat) (a0 : List ((Int) × (Int))) : Option ((((Int) × Unit) × (Unit)) × (Unit)) :=
  (impl_areValid n a0).bind fun r0 =>
  cond (!r0.1.1.1)
  (some ((((1, ()), ()), ())))
  (cond ((((a0.length : Nat) : Int) == 0))
    (some ((((2, ()), ()), ())))
    (cond (decide (((a0.length : Nat) : Int) > 64))
      (some ((((2, ()), ()), ())))
      (some ((((0, ()), ()), ())))))

noncomputable def impl_isSome (n : Nat) (a0 : List ((Int) × (Int))) : Option ((((Int) × Unit) × (Unit)) × (Unit)) := impl_isSome_t n a0

noncomputable def impl_zero_t (n : Nat) : Option (((((Int) × (Int)) × Unit) × (Unit)) × (Unit)) :=
  some (((((0, 1), ()), ()), ()))

noncomputable def impl_zero (n : Nat) : Option (((((Int) × (Int)) × Unit) × (Unit)) × (Unit)) := impl_zero_t n

noncomputable def impl_fracOf_t (n : Nat) (a0 : Int) (a1 : Int) : Option (((((Int) × (Int)) × Unit) × (((Bool) × Unit) × (Unit))) × (Unit)) :=
  cond (decide (a1 < 0))
  ((impl_gcd n ((IntKind.wrap .i64 (0 - a0))) ((IntKind.wrap .i64 (0 - a1)))).bind fun r0 =>
    cond ((r0.1.1.1 != 0))
    (cond ((r0.1.1.1 != 0))
      ((impl_ValidFrac n (((IntKind.wrap .i64 (Int.tdiv (IntKind.wrap .i64 (0 - a0)) r0.1.1.1)), (IntKind.wrap .i64 (Int.tdiv (IntKind.wrap .i64 (0 - a1)) r0.1.1.1))))).bind fun r1 =>
        cond (!r1.1.1.1)
        (some (((((0, 0), ()), ((false, ()), ())), ())))
        (some ((((((IntKind.wrap .i64 (Int.tdiv (IntKind.wrap .i64 (0 - a0)) r0.1.1.1)), (IntKind.wrap .i64 (Int.tdiv (IntKind.wrap .i64 (0 - a1)) r0.1.1.1))), ()), ((true, ()), ())), ()))))
      (none))
    (none))
  ((impl_gcd n a0 a1).bind fun r2 =>
    cond ((r2.1.1.1 != 0))
    (cond ((r2.1.1.1 != 0))
      ((impl_ValidFrac n (((IntKind.wrap .i64 (Int.tdiv a0 r2.1.1.1)), (IntKind.wrap .i64 (Int.tdiv a1 r2.1.1.1))))).bind fun r3 =>
        cond (!r3.1.1.1)
        (some (((((0, 0), ()), ((false, ()), ())), ())))
        (some ((((((IntKind.wrap .i64 (Int.tdiv a0 r2.1.1.1)), (IntKind.wrap .i64 (Int.tdiv a1 r2.1.1.1))), ()), ((true, ()), ())), ()))))
      (none))
    (none))

noncomputable def impl_fracOf (n : Nat) (a0 : Int) (a1 : Int) : Option (((((Int) × (Int)) × Unit) × (((Bool) × Unit) × (Unit))) × (Unit)) := impl_fracOf_t n a0 a1

noncomputable def impl_calc_told_t (n : Nat) (a1 : Int) (a2 : Int) (b0 : Bool) : Option (((((Int) × (Int)) × Unit) × (Unit)) × ((Bool) × (Unit))) :=
  (impl_fracOf n a1 a2).bind fun r0 =>
  cond (!r0.1.2.1.1)
  ((impl_zero n).bind fun r1 =>
    some (((((r1.1.1.1.1, r1.1.1.1.2), ()), ()), (true, ()))))
  (some (((((r0.1.1.1.1, r0.1.1.1.2), ()), ()), (b0, ()))))

noncomputable def impl_calc_told (n : Nat) (a1 : Int) (a2 : Int) (b0 : Bool) : Option (((((Int) × (Int)) × Unit) × (Unit)) × ((Bool) × (Unit))) := impl_calc_told_t n a1 a2 b0

noncomputable def impl_calc_add_t (n : Nat) (a1 : (Int) × (Int)) (a2 : (Int) × (Int)) (b0 : Bool) : Option (((((Int) × (Int)) × Unit) × (Unit)) × ((Bool) × (Unit))) :=
  (impl_calc_told n ((IntKind.wrap .i64 ((IntKind.wrap .i64 (a1.1 * a2.2)) + (IntKind.wrap .i64 (a2.1 * a1.2))))) ((IntKind.wrap .i64 (a1.2 * a2.2))) b0).bind fun r0 =>
  some (((((r0.1.1.1.1, r0.1.1.1.2), ()), ()), (r0.2.1, ())))

noncomputable def impl_calc_add (n : Nat) (a1 : (Int) × (Int)) (a2 : (Int) × (Int)) (b0 : Bool) : Option (((((Int) × (Int)) × Unit) × (Unit)) × ((Bool) × (Unit))) := impl_calc_add_t n a1 a2 b0

noncomputable def impl_calc_sum_t3 (n : Nat) (g3 : Int → (List ((Int) × (Int))) → Int → Bool → Int → Int → Int → Int → Option (((((Int) × (Int)) × Unit) × (Unit)) × ((Bool) × (Unit)))) (v11 : Int) (v9 : List ((Int) × (Int))) (v10 : Int) (b0 : Bool) (b1_0 : Int) (b1_1 : Int) (b2_0 : Int) (b2_1 : Int) : Option (((((Int) × (Int)) × Unit) × (Unit)) × ((Bool) × (Unit))) :=
  cond (decide (v11 < v10))
  (cond ((decide (0 ≤ v11) && decide (v11 < ((v9.length : Nat) : Int))))
    ((impl_calc_add n ((b1_0, b1_1)) (((v9.getD (Int.toNat v11) (0, 0)).1, (v9.getD (Int.toNat v11) (0, 0)).2)) b0).bind fun r1 =>
      g3 ((IntKind.wrap .i64 (v11 + 1))) v9 v10 r1.2.1 r1.1.1.1.1 r1.1.1.1.2 b2_0 b2_1)
    (none))
  (some (((((b1_0, b1_1), ()), ()), (b0, ()))))

noncomputable def impl_calc_sum_l3 (n : Nat) : Nat → Int → (List ((Int) × (Int))) → Int → Bool → Int → Int → Int → Int → Option (((((Int) × (Int)) × Unit) × (Unit)) × ((Bool) × (Unit)))
  | 0, _, _, _, _, _, _, _, _ => none
  | k + 1, v11, v9, v10, b0, b1_0, b1_1, b2_0, b2_1 => impl_calc_sum_t3 n (impl_calc_sum_l3 n k) v11 v9 v10 b0 b1_0 b1_1 b2_0 b2_1

noncomputable def impl_calc_sum_t (n : Nat) (h3 : Nat → Int → (List ((Int) × (Int))) → Int → Bool → Int → Int → Int → Int → Option (((((Int) × (Int)) × Unit) × (Unit)) × ((Bool) × (Unit)))) (a1 : List ((Int) × (Int))) (b0 : Bool) : Option (((((Int) × (Int)) × Unit) × (Unit)) × ((Bool) × (Unit))) :=
  (impl_zero n).bind fun r0 =>
  h3 n 0 a1 (((a1.length : Nat) : Int)) b0 r0.1.1.1.1 r0.1.1.1.2 0 0

noncomputable def impl_calc_sum (n : Nat) (a1 : List ((Int) × (Int))) (b0 : Bool) : Option (((((Int) × (Int)) × Unit) × (Unit)) × ((Bool) × (Unit))) := impl_calc_sum_t n (impl_calc_sum_l3 n) a1 b0

noncomputable def impl_calc_sub_t (n : Nat) (a1 : (Int) × (Int)) (a2 : (Int) × (Int)) (b0 : Bool) : Option (((((Int) × (Int)) × Unit) × (Unit)) × ((Bool) × (Unit))) :=
  (impl_calc_told n ((IntKind.wrap .i64 ((IntKind.wrap .i64 (a1.1 * a2.2)) - (IntKind.wrap .i64 (a2.1 * a1.2))))) ((IntKind.wrap .i64 (a1.2 * a2.2))) b0).bind fun r0 =>
  some (((((r0.1.1.1.1, r0.1.1.1.2), ()), ()), (r0.2.1, ())))

noncomputable def impl_calc_sub (n : Nat) (a1 : (Int) × (Int)) (a2 : (Int) × (Int)) (b0 : Bool) : Option (((((Int) × (Int)) × Unit) × (Unit)) × ((Bool) × (Unit))) := impl_calc_sub_t n a1 a2 b0

noncomputable def impl_num_t (n : Nat) (a0 : Int) : Option (((((Int) × (Int)) × Unit) × (Unit)) × (Unit)) :=
  some (((((a0, 1), ()), ()), ()))

noncomputable def impl_num (n : Nat) (a0 : Int) : Option (((((Int) × (Int)) × Unit) × (Unit)) × (Unit)) := impl_num_t n a0

noncomputable def impl_calc_div_t (n : Nat) (a1 : (Int) × (Int)) (a2 : (Int) × (Int)) (b0 : Bool) : Option (((((Int) × (Int)) × Unit) × (Unit)) × ((Bool) × (Unit))) :=
  cond ((a2.1 == 0))
  ((impl_zero n).bind fun r0 =>
    some (((((r0.1.1.1.1, r0.1.1.1.2), ()), ()), (true, ()))))
  ((impl_calc_told n ((IntKind.wrap .i64 (a1.1 * a2.2))) ((IntKind.wrap .i64 (a1.2 * a2.1))) b0).bind fun r1 =>
    some (((((r1.1.1.1.1, r1.1.1.1.2), ()), ()), (r1.2.1, ()))))

noncomputable def impl_calc_div (n : Nat) (a1 : (Int) × (Int)) (a2 : (Int) × (Int)) (b0 : Bool) : Option (((((Int) × (Int)) × Unit) × (Unit)) × ((Bool) × (Unit))) := impl_calc_div_t n a1 a2 b0

noncomputable def impl_ShareEvenly_t10 (n : Nat) (g10 : Int → (List ((Int) × (Int))) → Int → Int → Int → Bool → (List ((Int) × (Int))) → Option ((((List ((Int) × (Int))) × Unit) × (((Int) × Unit) × (Unit))) × (Unit))) (v36 : Int) (v34 : List ((Int) × (Int))) (v35 : Int) (b0_0 : Int) (b0_1 : Int) (b1 : Bool) (b2 : List ((Int) × (Int))) : Option ((((List ((Int) × (Int))) × Unit) × (((Int) × Unit) × (Unit))) × (Unit)) :=
  cond (decide (v36 < v35))
  (cond ((decide (0 ≤ v36) && decide (v36 < ((v34.length : Nat) : Int))))
    ((impl_calc_sub n (((v34.getD (Int.toNat v36) (0, 0)).1, (v34.getD (Int.toNat v36) (0, 0)).2)) ((b0_0, b0_1)) b1).bind fun r6 =>
      cond (decide (((b2.length + ((r6.1.1.1.1, r6.1.1.1.2) :: []).length) * 17) ≤ 70368744177664))
      (g10 ((IntKind.wrap .i64 (v36 + 1))) v34 v35 b0_0 b0_1 r6.2.1 ((b2 ++ ((r6.1.1.1.1, r6.1.1.1.2) :: []))))
      (none))
    (none))
  (cond b1
    (some (((([], ()), ((3, ()), ())), ())))
    (some ((((b2, ()), ((0, ()), ())), ()))))

noncomputable def impl_ShareEvenly_l10 (n : Nat) : Nat → Int → (List ((Int) × (Int))) → Int → Int → Int → Bool → (List ((Int) × (Int))) → Option ((((List ((Int) × (Int))) × Unit) × (((Int) × Unit) × (Unit))) × (Unit))
  | 0, _, _, _, _, _, _, _ => none
  | k + 1, v36, v34, v35, b0_0, b0_1, b1, b2 => impl_ShareEvenly_t10 n (impl_ShareEvenly_l10 n k) v36 v34 v35 b0_0 b0_1 b1 b2

noncomputable def impl_ShareEvenly_t (n : Nat) (h10 : Nat → Int → (List ((Int) × (Int))) → Int → Int → Int → Bool → (List ((Int) × (Int))) → Option ((((List ((Int) × (Int))) × Unit) × (((Int) × Unit) × (Unit))) × (Unit))) (a0 : List ((Int) × (Int))) (a1 : (Int) × (Int)) : Option ((((List ((Int) × (Int))) × Unit) × (((Int) × Unit) × (Unit))) × (Unit)) :=
  (impl_ValidFrac n ((a1.1, a1.2))).bind fun r0 =>
  cond (!r0.1.1.1)
  (some (((([], ()), ((1, ()), ())), ())))
  ((impl_isSome n a0).bind fun r1 =>
    cond ((r1.1.1.1 != 0))
    (some (((([], ()), ((r1.1.1.1, ()), ())), ())))
    ((impl_calc_sum n a0 false).bind fun r2 =>
      (impl_calc_sub n ((r2.1.1.1.1, r2.1.1.1.2)) ((a1.1, a1.2)) r2.2.1).bind fun r3 =>
      (impl_num n (((a0.length : Nat) : Int))).bind fun r4 =>
      (impl_calc_div n ((r3.1.1.1.1, r3.1.1.1.2)) ((r4.1.1.1.1, r4.1.1.1.2)) r3.2.1).bind fun r5 =>
      h10 n 0 a0 (((a0.length : Nat) : Int)) r5.1.1.1.1 r5.1.1.1.2 r5.2.1 []))

noncomputable def impl_ShareEvenly (n : Nat) (a0 : List ((Int) × (Int))) (a1 : (Int) × (Int)) : Option ((((List ((Int) × (Int))) × Unit) × (((Int) × Unit) × (Unit))) × (Unit)) := impl_ShareEvenly_t n (impl_ShareEvenly_l10 n) a0 a1

noncomputable def laws_eqFrac_t (n : Nat) (a0 : (Int) × (Int)) (a1 : (Int) × (Int)) : Option ((((Bool) × Unit) × (Unit)) × (Unit)) :=
  cond ((a0.1 != a1.1))
  (some ((((false, ()), ()), ())))
  (cond ((a0.2 != a1.2))
    (some ((((false, ()), ()), ())))
    (some ((((true, ()), ()), ()))))

noncomputable def laws_eqFrac (n : Nat) (a0 : (Int) × (Int)) (a1 : (Int) × (Int)) : Option ((((Bool) × Unit) × (Unit)) × (Unit)) := laws_eqFrac_t n a0 a1

noncomputable def laws_eqFracS_t4 (n : Nat) (g4 : Int → (List ((Int) × (Int))) → (List ((Int) × (Int))) → Option ((((Bool) × Unit) × (Unit)) × (Unit))) (v5 : Int) (v1 : List ((Int) × (Int))) (v0 : List ((Int) × (Int))) : Option ((((Bool) × Unit) × (Unit)) × (Unit)) :=
  cond (decide (v5 < ((v0.length : Nat) : Int)))
  (cond ((decide (0 ≤ v5) && decide (v5 < ((v0.length : Nat) : Int))))
    (cond ((decide (0 ≤ v5) && decide (v5 < ((v1.length : Nat) : Int))))
      ((laws_eqFrac n (((v0.getD (Int.toNat v5) (0, 0)).1, (v0.getD (Int.toNat v5) (0, 0)).2)) (((v1.getD (Int.toNat v5) (0, 0)).1, (v1.getD (Int.toNat v5) (0, 0)).2))).bind fun r0 =>
        cond (!r0.1.1.1)
        (some ((((false, ()), ()), ())))
        (g4 ((IntKind.wrap .i64 (v5 + 1))) v1 v0))
      (none))
    (none))
  (some ((((true, ()), ()), ())))

noncomputable def laws_eqFracS_l4 (n : Nat) : Nat → Int → (List ((Int) × (Int))) → (List ((Int) × (Int))) → Option ((((Bool) × Unit) × (Unit)) × (Unit))
  | 0, _, _, _ => none
  | k + 1, v5, v1, v0 => laws_eqFracS_t4 n (laws_eqFracS_l4 n k) v5 v1 v0

noncomputable def laws_eqFracS_t (n : Nat) (h4 : Nat → Int → (List ((Int) × (Int))) → (List ((Int) × (Int))) → Option ((((Bool) × Unit) × (Unit)) × (Unit))) (a0 : List ((Int) × (Int))) (a1 : List ((Int) × (Int))) : Option ((((Bool) × Unit) × (Unit)) × (Unit)) :=
  cond ((((a0.length : Nat) : Int) != ((a1.length : Nat) : Int)))
  (some ((((false, ()), ()), ())))
  (h4 n 0 a1 a0)

noncomputable def laws_eqFracS (n : Nat) (a0 : List ((Int) × (Int))) (a1 : List ((Int) × (Int))) : Option ((((Bool) × Unit) × (Unit)) × (Unit)) := laws_eqFracS_t n (laws_eqFracS_l4 n) a0 a1

noncomputable def laws_markFracS_t2 (n : Nat) (g2 : Int → Int → (List ((Int) × (Int))) → Option ((((Int) × Unit) × (Unit)) × ((List ((Int) × (Int))) × (Unit)))) (v5 : Int) (v1 : Int) (b0 : List ((Int) × (Int))) : Option ((((Int) × Unit) × (Unit)) × ((List ((Int) × (Int))) × (Unit))) :=
  cond (decide (v5 < ((b0.length : Nat) : Int)))
  (cond ((decide (0 ≤ v5) && decide (v5 < ((b0.length : Nat) : Int))))
    (cond ((decide (0 ≤ v5) && decide (v5 < (((b0.set (Int.toNat v5) (v1, (b0.getD (Int.toNat v5) (0, 0)).2)).length : Nat) : Int))))
      (g2 ((IntKind.wrap .i64 (v5 + 1))) ((IntKind.wrap .i64 ((IntKind.wrap .i64 (v1 + 1)) + 1))) (((b0.set (Int.toNat v5) (v1, (b0.getD (Int.toNat v5) (0, 0)).2)).set (Int.toNat v5) (((b0.set (Int.toNat v5) (v1, (b0.getD (Int.toNat v5) (0, 0)).2)).getD (Int.toNat v5) (0, 0)).1, (IntKind.wrap .i64 (v1 + 1))))))
      (none))
    (none))
  (some ((((v1, ()), ()), (b0, ()))))

noncomputable def laws_markFracS_l2 (n : Nat) : Nat → Int → Int → (List ((Int) × (Int))) → Option ((((Int) × Unit) × (Unit)) × ((List ((Int) × (Int))) × (Unit)))
  | 0, _, _, _ => none
  | k + 1, v5, v1, b0 => laws_markFracS_t2 n (laws_markFracS_l2 n k) v5 v1 b0

noncomputable def laws_markFracS_t (n : Nat) (h2 : Nat → Int → Int → (List ((Int) × (Int))) → Option ((((Int) × Unit) × (Unit)) × ((List ((Int) × (Int))) × (Unit)))) (a1 : Int) (b0 : List ((Int) × (Int))) : Option ((((Int) × Unit) × (Unit)) × ((List ((Int) × (Int))) × (Unit))) :=
  h2 n 0 a1 b0

noncomputable def laws_markFracS (n : Nat) (a1 : Int) (b0 : List ((Int) × (Int))) : Option ((((Int) × Unit) × (Unit)) × ((List ((Int) × (Int))) × (Unit))) := laws_markFracS_t n (laws_markFracS_l2 n) a1 b0

noncomputable def laws_heldFracS_t2 (n : Nat) (g2 : Int → (List ((Int) × (Int))) → Int → Option ((((Int) × Unit) × (Unit)) × (Unit))) (v5 : Int) (v0 : List ((Int) × (Int))) (v1 : Int) : Option ((((Int) × Unit) × (Unit)) × (Unit)) :=
  cond (decide (v5 < ((v0.length : Nat) : Int)))
  (cond ((decide (0 ≤ v5) && decide (v5 < ((v0.length : Nat) : Int))))
    (cond (((v0.getD (Int.toNat v5) (0, 0)).1 != v1))
      (some (((((-1), ()), ()), ())))
      (cond ((decide (0 ≤ v5) && decide (v5 < ((v0.length : Nat) : Int))))
        (cond (((v0.getD (Int.toNat v5) (0, 0)).2 != (IntKind.wrap .i64 (v1 + 1))))
          (some (((((-1), ()), ()), ())))
          (g2 ((IntKind.wrap .i64 (v5 + 1))) v0 ((IntKind.wrap .i64 ((IntKind.wrap .i64 (v1 + 1)) + 1)))))
        (none)))
    (none))
  (some ((((v1, ()), ()), ())))

noncomputable def laws_heldFracS_l2 (n : Nat) : Nat → Int → (List ((Int) × (Int))) → Int → Option ((((Int) × Unit) × (Unit)) × (Unit))
  | 0, _, _, _ => none
  | k + 1, v5, v0, v1 => laws_heldFracS_t2 n (laws_heldFracS_l2 n k) v5 v0 v1

noncomputable def laws_heldFracS_t (n : Nat) (h2 : Nat → Int → (List ((Int) × (Int))) → Int → Option ((((Int) × Unit) × (Unit)) × (Unit))) (a0 : List ((Int) × (Int))) (a1 : Int) : Option ((((Int) × Unit) × (Unit)) × (Unit)) :=
  h2 n 0 a0 a1

noncomputable def laws_heldFracS (n : Nat) (a0 : List ((Int) × (Int))) (a1 : Int) : Option ((((Int) × Unit) × (Unit)) × (Unit)) := laws_heldFracS_t n (laws_heldFracS_l2 n) a0 a1

noncomputable def laws_FnExactShareEvenly_t (n : Nat) (a0 : List ((Int) × (Int))) (a1 : (Int) × (Int)) : Option ((((Bool) × Unit) × (Unit)) × (Unit)) :=
  (laws_szFracS n a0 1048576).bind fun r0 =>
  cond (decide (r0.1.1.1 < 0))
  (some ((((true, ()), ()), ())))
  ((laws_toFracS n a0).bind fun r1 =>
    (laws_toFrac n ((a1.1, a1.2))).bind fun r2 =>
    (spec_ShareEvenly n r1.1.1.1 ((r2.1.1.1.1, r2.1.1.1.2))).bind fun r3 =>
    (laws_toFracS n a0).bind fun r4 =>
    (laws_toFrac n ((a1.1, a1.2))).bind fun r5 =>
    (impl_ShareEvenly n r4.1.1.1 ((r5.1.1.1.1, r5.1.1.1.2))).bind fun r6 =>
    (laws_eqFracS n r6.1.1.1 r3.1.1.1).bind fun r7 =>
    cond (!r7.1.1.1)
    (some ((((false, ()), ()), ())))
    (cond ((r6.1.2.1.1 != r3.1.2.1.1))
      (some ((((false, ()), ()), ())))
      ((laws_toFracS n a0).bind fun r8 =>
        (laws_eqFracS n r4.1.1.1 r8.1.1.1).bind fun r9 =>
        cond (!r9.1.1.1)
        (some ((((false, ()), ()), ())))
        ((laws_markFracS n 1 r4.1.1.1).bind fun r10 =>
          cond (decide (r10.1.1.1 < 0))
          (some ((((false, ()), ()), ())))
          ((laws_eqFracS n r6.1.1.1 r3.1.1.1).bind fun r11 =>
            cond (!r11.1.1.1)
            (some ((((false, ()), ()), ())))
            (cond ((r6.1.2.1.1 != r3.1.2.1.1))
              (some ((((false, ()), ()), ())))
              ((laws_markFracS n 1 r6.1.1.1).bind fun r12 =>
                (laws_heldFracS n r12.2.1 1).bind fun r13 =>
                cond (decide (r13.1.1.1 < 0))
                (some ((((false, ()), ()), ())))
                (cond ((r13.1.1.1 != r12.1.1.1))
                  (some ((((false, ()), ()), ())))
                  ((laws_toFracS n a0).bind fun r14 =>
                    (laws_toFrac n ((a1.1, a1.2))).bind fun r15 =>
                    (impl_ShareEvenly n r14.1.1.1 ((r15.1.1.1.1, r15.1.1.1.2))).bind fun r16 =>
                    (laws_eqFracS n r16.1.1.1 r3.1.1.1).bind fun r17 =>
                    cond (!r17.1.1.1)
                    (some ((((false, ()), ()), ())))
                    (cond ((r16.1.2.1.1 != r3.1.2.1.1))
                      (some ((((false, ()), ()), ())))
                      ((laws_heldFracS n r12.2.1 1).bind fun r18 =>
                        cond (decide (r18.1.1.1 < 0))
                        (some ((((false, ()), ()), ())))
                        (cond ((r18.1.1.1 != r12.1.1.1))
                          (some ((((false, ()), ()), ())))
                          (some ((((true, ()), ()), ())))))))))))))))

noncomputable def laws_FnExactShareEvenly (n : Nat) (a0 : List ((Int) × (Int))) (a1 : (Int) × (Int)) : Option ((((Bool) × Unit) × (Unit)) × (Unit)) := laws_FnExactShareEvenly_t n a0 a1

noncomputable def impl_calc_one_t (n : Nat) (a1 : (Int) × (Int)) (b0 : Bool) : Option (((((Int) × (Int)) × Unit) × (((Int) × Unit) × (Unit))) × ((Bool) × (Unit))) :=
  cond b0
  (some (((((0, 0), ()), ((3, ()), ())), (b0, ()))))
  (some (((((a1.1, a1.2), ()), ((0, ()), ())), (b0, ()))))

noncomputable def impl_calc_one (n : Nat) (a1 : (Int) × (Int)) (b0 : Bool) : Option (((((Int) × (Int)) × Unit) × (((Int) × Unit) × (Unit))) × ((Bool) × (Unit))) := impl_calc_one_t n a1 b0

noncomputable def impl_isAngle_t (n : Nat) (a0 : Int) : Option ((((Bool) × Unit) × (Unit)) × (Unit)) :=
  (impl_within n a0 0 1295999).bind fun r0 =>
  some ((((r0.1.1.1, ()), ()), ()))

noncomputable def impl_isAngle (n : Nat) (a0 : Int) : Option ((((Bool) × Unit) × (Unit)) × (Unit)) := impl_isAngle_t n a0

noncomputable def impl_wrap_t (n : Nat) (a0 : Int) : Option ((((Int) × Unit) × (Unit)) × (Unit)) :=
  some (((((Int.tmod (IntKind.wrap .i64 ((Int.tmod a0 1296000) + 1296000)) 1296000), ()), ()), ()))

noncomputable def impl_wrap (n : Nat) (a0 : Int) : Option ((((Int) × Unit) × (Unit)) × (Unit)) := impl_wrap_t n a0

noncomputable def impl_turnFrom_t (n : Nat) (a0 : Int) (a1 : Int) : Option ((((Int) × Unit) × (Unit)) × (Unit)) :=
  (impl_wrap n ((IntKind.wrap .i64 (a1 - a0)))).bind fun r0 =>
  cond (decide (r0.1.1.1 > 648000))
  (some (((((IntKind.wrap .i64 (r0.1.1.1 - 1296000)), ()), ()), ())))
  (some ((((r0.1.1.1, ()), ()), ())))

noncomputable def impl_turnFrom (n : Nat) (a0 : Int) (a1 : Int) : Option ((((Int) × Unit) × (Unit)) × (Unit)) := impl_turnFrom_t n a0 a1

noncomputable def spec_l03Angle_t (n : Nat) (a0 : Int) : Option ((((Bool) × Unit) × (Unit)) × (Unit)) :=
  (spec_l00In n a0 0 1295999).bind fun r0 =>
  some ((((r0.1.1.1, ()), ()), ()))

noncomputable def spec_l03Angle (n : Nat) (a0 : Int) : Option ((((Bool) × Unit) × (Unit)) × (Unit)) := spec_l03Angle_t n a0

noncomputable def spec_l03Wrap_t (n : Nat) (a0 : Int) : Option ((((Int) × Unit) × (Unit)) × (Unit)) :=
  cond (decide ((Int.tmod a0 1296000) < 0))
  (some (((((IntKind.wrap .i64 ((Int.tmod a0 1296000) + 1296000)), ()), ()), ())))
  (some (((((Int.tmod a0 1296000), ()), ()), ())))

noncomputable def spec_l03Wrap (n : Nat) (a0 : Int) : Option ((((Int) × Unit) × (Unit)) × (Unit)) := spec_l03Wrap_t n a0

noncomputable def spec_l03Turn_t (n : Nat) (a0 : Int) (a1 : Int) : Option ((((Int) × Unit) × (Unit)) × (Unit)) :=
  (spec_l03Wrap n ((IntKind.wrap .i64 (a1 - a0)))).bind fun r0 =>
  cond (decide (r0.1.1.1 > 648000))
  (some (((((IntKind.wrap .i64 (r0.1.1.1 - 1296000)), ()), ()), ())))
  (some ((((r0.1.1.1, ()), ()), ())))

noncomputable def spec_l03Turn (n : Nat) (a0 : Int) (a1 : Int) : Option ((((Int) × Unit) × (Unit)) × (Unit)) := spec_l03Turn_t n a0 a1

end Go.Abs
