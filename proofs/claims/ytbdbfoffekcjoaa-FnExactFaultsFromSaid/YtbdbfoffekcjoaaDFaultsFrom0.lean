import Derived.Test.YtbdbfoffekcjoaaLib
namespace Go.Abs
set_option linter.unusedVariables false

noncomputable def laws_toInt64S_t3 (n : Nat) (g3 : Int → (List (Int)) → (List (Int)) → Option ((((List (Int)) × Unit) × (Unit)) × (Unit))) (v4 : Int) (v0 : List (Int)) (b0 : List (Int)) : Option ((((List (Int)) × Unit) × (Unit)) × (Unit)) :=
  cond (decide (v4 < ((v0.length : Nat) : Int)))
  (cond ((decide (0 ≤ v4) && decide (v4 < ((v0.length : Nat) : Int))))
    (cond ((decide (0 ≤ v4) && decide (v4 < ((b0.length : Nat) : Int))))
      (g3 ((IntKind.wrap .i64 (v4 + 1))) v0 ((b0.set (Int.toNat v4) (v0.getD (Int.toNat v4) 0))))
      (none))
    (none))
  (some ((((b0, ()), ()), ())))

noncomputable def laws_toInt64S_l3 (n : Nat) : Nat → Int → (List (Int)) → (List (Int)) → Option ((((List (Int)) × Unit) × (Unit)) × (Unit))
  | 0, _, _, _ => none
  | k + 1, v4, v0, b0 => laws_toInt64S_t3 n (laws_toInt64S_l3 n k) v4 v0 b0

noncomputable def laws_toInt64S_t (n : Nat) (h3 : Nat → Int → (List (Int)) → (List (Int)) → Option ((((List (Int)) × Unit) × (Unit)) × (Unit))) (a0 : List (Int)) : Option ((((List (Int)) × Unit) × (Unit)) × (Unit)) :=
  cond ((((((a0.length : Nat) : Int) == ((a0.length : Nat) : Int)) && decide (0 ≤ ((a0.length : Nat) : Int))) && decide (((Int.toNat ((a0.length : Nat) : Int)) * 9) ≤ 70368744177664)))
  (h3 n 0 a0 ((List.replicate (Int.toNat ((a0.length : Nat) : Int)) 0)))
  (none)

noncomputable def laws_toInt64S (n : Nat) (a0 : List (Int)) : Option ((((List (Int)) × Unit) × (Unit)) × (Unit)) := laws_toInt64S_t n (laws_toInt64S_l3 n) a0

noncomputable def spec_l00In_t (n : Nat) (a0 : Int) (a1 : Int) (a2 : Int) : Option ((((Bool) × Unit) × (Unit)) × (Unit)) :=
  cond (decide (a0 ≥ a1))
  (some ((((decide (a0 ≤ a2), ()), ()), ())))
  (some ((((false, ()), ()), ())))

noncomputable def spec_l00In (n : Nat) (a0 : Int) (a1 : Int) (a2 : Int) : Option ((((Bool) × Unit) × (Unit)) × (Unit)) := spec_l00In_t n a0 a1 a2

noncomputable def spec_l03Sectors_t4 (n : Nat) (g4 : Int → (List (Int)) → Option ((((Int) × Unit) × (Unit)) × (Unit))) (v3 : Int) (v0 : List (Int)) : Option ((((Int) × Unit) × (Unit)) × (Unit)) :=
  cond (decide (v3 < ((v0.length : Nat) : Int)))
  (cond ((decide (0 ≤ v3) && decide (v3 < ((v0.length : Nat) : Int))))
    ((spec_l00In n ((v0.getD (Int.toNat v3) 0)) 1 1296000).bind fun r1 =>
      cond (!r1.1.1.1)
      (some ((((2, ()), ()), ())))
      (g4 ((IntKind.wrap .i64 (v3 + 1))) v0))
    (none))
  (some ((((0, ()), ()), ())))

noncomputable def spec_l03Sectors_l4 (n : Nat) : Nat → Int → (List (Int)) → Option ((((Int) × Unit) × (Unit)) × (Unit))
  | 0, _, _ => none
  | k + 1, v3, v0 => spec_l03Sectors_t4 n (spec_l03Sectors_l4 n k) v3 v0

noncomputable def spec_l03Sectors_t (n : Nat) (h4 : Nat → Int → (List (Int)) → Option ((((Int) × Unit) × (Unit)) × (Unit))) (a0 : List (Int)) : Option ((((Int) × Unit) × (Unit)) × (Unit)) :=
  (spec_l00In n (((a0.length : Nat) : Int)) 1 72).bind fun r0 =>
  cond (!r0.1.1.1)
  (some ((((2, ()), ()), ())))
  (h4 n 0 a0)

noncomputable def spec_l03Sectors (n : Nat) (a0 : List (Int)) : Option ((((Int) × Unit) × (Unit)) × (Unit)) := spec_l03Sectors_t n (spec_l03Sectors_l4 n) a0

noncomputable def spec_l03Closing_t3 (n : Nat) (g3 : Int → (List (Int)) → Int → Option ((((Int) × Unit) × (Unit)) × (Unit))) (v4 : Int) (v0 : List (Int)) (v3 : Int) : Option ((((Int) × Unit) × (Unit)) × (Unit)) :=
  cond (decide (v4 < ((v0.length : Nat) : Int)))
  (cond ((decide (0 ≤ v4) && decide (v4 < ((v0.length : Nat) : Int))))
    (g3 ((IntKind.wrap .i64 (v4 + 1))) v0 ((IntKind.wrap .i64 (v3 + (v0.getD (Int.toNat v4) 0)))))
    (none))
  (some ((((v3, ()), ()), ())))

noncomputable def spec_l03Closing_l3 (n : Nat) : Nat → Int → (List (Int)) → Int → Option ((((Int) × Unit) × (Unit)) × (Unit))
  | 0, _, _, _ => none
  | k + 1, v4, v0, v3 => spec_l03Closing_t3 n (spec_l03Closing_l3 n k) v4 v0 v3

noncomputable def spec_l03Closing_t (n : Nat) (h3 : Nat → Int → (List (Int)) → Int → Option ((((Int) × Unit) × (Unit)) × (Unit))) (a0 : List (Int)) : Option ((((Int) × Unit) × (Unit)) × (Unit)) :=
  h3 n 0 a0 (-1296000)

noncomputable def spec_l03Closing (n : Nat) (a0 : List (Int)) : Option ((((Int) × Unit) × (Unit)) × (Unit)) := spec_l03Closing_t n (spec_l03Closing_l3 n) a0

noncomputable def spec_l01Down_t (n : Nat) (a0 : Int) (a1 : Int) : Option ((((Int) × Unit) × (Unit)) × (Unit)) :=
  cond ((a1 != 0))
  (cond ((a1 != 0))
    (cond (decide ((Int.tmod a0 a1) < 0))
      (some (((((IntKind.wrap .i64 ((IntKind.wrap .i64 (Int.tdiv a0 a1)) - 1)), ()), ()), ())))
      (some (((((IntKind.wrap .i64 (Int.tdiv a0 a1)), ()), ()), ()))))
    (none))
  (none)

noncomputable def spec_l01Down (n : Nat) (a0 : Int) (a1 : Int) : Option ((((Int) × Unit) × (Unit)) × (Unit)) := spec_l01Down_t n a0 a1

noncomputable def spec_l03Shared_t5 (n : Nat) (g5 : Int → Int → Int → (List (Int)) → (List (Int)) → Option ((((List (Int)) × Unit) × (Unit)) × (Unit))) (v6 : Int) (v3 : Int) (v4 : Int) (v0 : List (Int)) (b0 : List (Int)) : Option ((((List (Int)) × Unit) × (Unit)) × (Unit)) :=
  cond (decide (v6 < v3))
  (cond ((decide (0 ≤ v6) && decide (v6 < ((v0.length : Nat) : Int))))
    ((spec_l01Down n ((IntKind.wrap .i64 ((IntKind.wrap .i64 (v6 + 1)) * v4))) v3).bind fun r1 =>
      (spec_l01Down n ((IntKind.wrap .i64 (v6 * v4))) v3).bind fun r2 =>
      cond (decide (((b0.length + ((IntKind.wrap .i64 ((v0.getD (Int.toNat v6) 0) - (IntKind.wrap .i64 (r1.1.1.1 - r2.1.1.1)))) :: []).length) * 9) ≤ 70368744177664))
      (g5 ((IntKind.wrap .i64 (v6 + 1))) v3 v4 v0 ((b0 ++ ((IntKind.wrap .i64 ((v0.getD (Int.toNat v6) 0) - (IntKind.wrap .i64 (r1.1.1.1 - r2.1.1.1)))) :: []))))
      (none))
    (none))
  (some ((((b0, ()), ()), ())))

noncomputable def spec_l03Shared_l5 (n : Nat) : Nat → Int → Int → Int → (List (Int)) → (List (Int)) → Option ((((List (Int)) × Unit) × (Unit)) × (Unit))
  | 0, _, _, _, _, _ => none
  | k + 1, v6, v3, v4, v0, b0 => spec_l03Shared_t5 n (spec_l03Shared_l5 n k) v6 v3 v4 v0 b0

noncomputable def spec_l03Shared_t (n : Nat) (h5 : Nat → Int → Int → Int → (List (Int)) → (List (Int)) → Option ((((List (Int)) × Unit) × (Unit)) × (Unit))) (a0 : List (Int)) : Option ((((List (Int)) × Unit) × (Unit)) × (Unit)) :=
  (spec_l03Closing n a0).bind fun r0 =>
  h5 n 0 (((a0.length : Nat) : Int)) r0.1.1.1 a0 []

noncomputable def spec_l03Shared (n : Nat) (a0 : List (Int)) : Option ((((List (Int)) × Unit) × (Unit)) × (Unit)) := spec_l03Shared_t n (spec_l03Shared_l5 n) a0

noncomputable def spec_FaultsFrom_t10 (n : Nat) (g10 : Int → Int → (List (Int)) → (List (Int)) → Option ((((List (Int)) × Unit) × (((Int) × Unit) × (Unit))) × (Unit))) (v8 : Int) (v5 : Int) (b0 : List (Int)) (b1 : List (Int)) : Option ((((List (Int)) × Unit) × (((Int) × Unit) × (Unit))) × (Unit)) :=
  cond (decide (v8 < v5))
  (cond ((decide (0 ≤ (IntKind.wrap .i64 (v8 - 1))) && decide ((IntKind.wrap .i64 (v8 - 1)) < ((b1.length : Nat) : Int))))
    (cond ((decide (0 ≤ (IntKind.wrap .i64 (v8 - 1))) && decide ((IntKind.wrap .i64 (v8 - 1)) < ((b0.length : Nat) : Int))))
      (cond ((v5 != 0))
        (cond (decide (((b1.length + ((IntKind.wrap .i64 ((IntKind.wrap .i64 ((b1.getD (Int.toNat (IntKind.wrap .i64 (v8 - 1))) 0) + (b0.getD (Int.toNat (IntKind.wrap .i64 (v8 - 1))) 0))) - (IntKind.wrap .i64 (Int.tdiv 1296000 v5)))) :: []).length) * 9) ≤ 70368744177664))
          (g10 ((IntKind.wrap .i64 (v8 + 1))) v5 b0 ((b1 ++ ((IntKind.wrap .i64 ((IntKind.wrap .i64 ((b1.getD (Int.toNat (IntKind.wrap .i64 (v8 - 1))) 0) + (b0.getD (Int.toNat (IntKind.wrap .i64 (v8 - 1))) 0))) - (IntKind.wrap .i64 (Int.tdiv 1296000 v5)))) :: []))))
          (none))
        (none))
      (none))
    (none))
  (some ((((b1, ()), ((0, ()), ())), ())))

noncomputable def spec_FaultsFrom_l10 (n : Nat) : Nat → Int → Int → (List (Int)) → (List (Int)) → Option ((((List (Int)) × Unit) × (((Int) × Unit) × (Unit))) × (Unit))
  | 0, _, _, _, _ => none
  | k + 1, v8, v5, b0, b1 => spec_FaultsFrom_t10 n (spec_FaultsFrom_l10 n k) v8 v5 b0 b1

noncomputable def spec_FaultsFrom_t (n : Nat) (h10 : Nat → Int → Int → (List (Int)) → (List (Int)) → Option ((((List (Int)) × Unit) × (((Int) × Unit) × (Unit))) × (Unit))) (a0 : List (Int)) : Option ((((List (Int)) × Unit) × (((Int) × Unit) × (Unit))) × (Unit)) :=
  (spec_l03Sectors n a0).bind fun r0 =>
  cond ((r0.1.1.1 != 0))
  (some (((([], ()), ((r0.1.1.1, ()), ())), ())))
  (cond ((((a0.length : Nat) : Int) != 0))
    (cond (((Int.tmod 1296000 ((a0.length : Nat) : Int)) != 0))
      (some (((([], ()), ((4, ()), ())), ())))
      ((spec_l03Shared n a0).bind fun r1 =>
        h10 n 1 (((a0.length : Nat) : Int)) r1.1.1.1 ((0 :: []))))
    (none))

noncomputable def spec_FaultsFrom (n : Nat) (a0 : List (Int)) : Option ((((List (Int)) × Unit) × (((Int) × Unit) × (Unit))) × (Unit)) := spec_FaultsFrom_t n (spec_FaultsFrom_l10 n) a0

noncomputable def impl_within_t (n : Nat) (a0 : Int) (a1 : Int) (a2 : Int) : Option ((((Bool) × Unit) × (Unit)) × (Unit)) :=
  cond (decide (a1 ≤ a0))
  (some ((((decide (a0 ≤ a2), ()), ()), ())))
  (some ((((false, ()), ()), ())))

noncomputable def impl_within (n : Nat) (a0 : Int) (a1 : Int) (a2 : Int) : Option ((((Bool) × Unit) × (Unit)) × (Unit)) := impl_within_t n a0 a1 a2

noncomputable def impl_areSectors_1_t (n : Nat) (a0 : Int) : Option ((((Bool) × Unit) × (Unit)) × (Unit)) :=
  (impl_within n a0 1 1296000).bind fun r0 =>
  some (((((!r0.1.1.1), ()), ()), ()))

noncomputable def impl_areSectors_1 (n : Nat) (a0 : Int) : Option ((((Bool) × Unit) × (Unit)) × (Unit)) := impl_areSectors_1_t n a0

noncomputable def slices_IndexFunc_int64_int64_at_impl_areSectors_1_t2 (n : Nat) (g2 : Int → (List (Int)) → Int → Option ((((Int) × Unit) × (Unit)) × (Unit))) (v8 : Int) (v0 : List (Int)) (v7 : Int) : Option ((((Int) × Unit) × (Unit)) × (Unit)) :=
  cond (decide (v8 < v7))
  (cond ((decide (0 ≤ v8) && decide (v8 < ((v0.length : Nat) : Int))))
    ((impl_areSectors_1 n ((v0.getD (Int.toNat v8) 0))).bind fun r0 =>
      cond r0.1.1.1
      (some ((((v8, ()), ()), ())))
      (g2 ((IntKind.wrap .i64 (v8 + 1))) v0 v7))
    (none))
  (some (((((-1), ()), ()), ())))

noncomputable def slices_IndexFunc_int64_int64_at_impl_areSectors_1_l2 (n : Nat) : Nat → Int → (List (Int)) → Int → Option ((((Int) × Unit) × (Unit)) × (Unit))
  | 0, _, _, _ => none
  | k + 1, v8, v0, v7 => slices_IndexFunc_int64_int64_at_impl_areSectors_1_t2 n (slices_IndexFunc_int64_int64_at_impl_areSectors_1_l2 n k) v8 v0 v7

noncomputable def slices_IndexFunc_int64_int64_at_impl_areSectors_1_t (n : Nat) (h2 : Nat → Int → (List (Int)) → Int → Option ((((Int) × Unit) × (Unit)) × (Unit))) (a0 : List (Int)) : Option ((((Int) × Unit) × (Unit)) × (Unit)) :=
  h2 n 0 a0 (((a0.length : Nat) : Int))

noncomputable def slices_IndexFunc_int64_int64_at_impl_areSectors_1 (n : Nat) (a0 : List (Int)) : Option ((((Int) × Unit) × (Unit)) × (Unit)) := slices_IndexFunc_int64_int64_at_impl_areSectors_1_t n (slices_IndexFunc_int64_int64_at_impl_areSectors_1_l2 n) a0

noncomputable def slices_ContainsFunc_int64_int64_at_impl_areSectors_1_t (n : Nat) (a0 : List (Int)) : Option ((((Bool) × Unit) × (Unit)) × (Unit)) :=
  (slices_IndexFunc_int64_int64_at_impl_areSectors_1 n a0).bind fun r0 =>
  some ((((decide (r0.1.1.1 ≥ 0), ()), ()), ()))

noncomputable def slices_ContainsFunc_int64_int64_at_impl_areSectors_1 (n : Nat) (a0 : List (Int)) : Option ((((Bool) × Unit) × (Unit)) × (Unit)) := slices_ContainsFunc_int64_int64_at_impl_areSectors_1_t n a0

noncomputable def impl_areSectors_t (n : Nat) (a0 : List (Int)) : Option ((((Bool) × Unit) × (Unit)) × (Unit)) :=
  (impl_within n (((a0.length : Nat) : Int)) 1 72).bind fun r0 =>
  cond r0.1.1.1
  ((slices_ContainsFunc_int64_int64_at_impl_areSectors_1 n a0).bind fun r1 =>
    some (((((!r1.1.1.1), ()), ()), ())))
  (some ((((false, ()), ()), ())))

noncomputable def impl_areSectors (n : Nat) (a0 : List (Int)) : Option ((((Bool) × Unit) × (Unit)) × (Unit)) := impl_areSectors_t n a0

noncomputable def impl_ClosingOf_t5 (n : Nat) (g5 : Int → Int → (List (Int)) → Int → Option ((((Int) × Unit) × (((Int) × Unit) × (Unit))) × (Unit))) (v12 : Int) (v4 : Int) (v10 : List (Int)) (v11 : Int) : Option ((((Int) × Unit) × (((Int) × Unit) × (Unit))) × (Unit)) :=
  cond (decide (v12 < v11))
  (cond ((decide (0 ≤ v12) && decide (v12 < ((v10.length : Nat) : Int))))
    (g5 ((IntKind.wrap .i64 (v12 + 1))) ((IntKind.wrap .i64 (v4 + (v10.getD (Int.toNat v12) 0)))) v10 v11)
    (none))
  (some ((((v4, ()), ((0, ()), ())), ())))

noncomputable def impl_ClosingOf_l5 (n : Nat) : Nat → Int → Int → (List (Int)) → Int → Option ((((Int) × Unit) × (((Int) × Unit) × (Unit))) × (Unit))
  | 0, _, _, _, _ => none
  | k + 1, v12, v4, v10, v11 => impl_ClosingOf_t5 n (impl_ClosingOf_l5 n k) v12 v4 v10 v11

noncomputable def impl_ClosingOf_t (n : Nat) (h5 : Nat → Int → Int → (List (Int)) → Int → Option ((((Int) × Unit) × (((Int) × Unit) × (Unit))) × (Unit))) (a0 : List (Int)) : Option ((((Int) × Unit) × (((Int) × Unit) × (Unit))) × (Unit)) :=
  (impl_areSectors n a0).bind fun r0 =>
  cond (!r0.1.1.1)
  (some ((((0, ()), ((2, ()), ())), ())))
  (h5 n 0 (-1296000) a0 (((a0.length : Nat) : Int)))

noncomputable def impl_ClosingOf (n : Nat) (a0 : List (Int)) : Option ((((Int) × Unit) × (((Int) × Unit) × (Unit))) × (Unit)) := impl_ClosingOf_t n (impl_ClosingOf_l5 n) a0

noncomputable def impl_floorDiv_t (n : Nat) (a0 : Int) (a1 : Int) : Option ((((Int) × Unit) × (Unit)) × (Unit)) :=
  cond ((a1 != 0))
  (cond ((a1 != 0))
    (cond (((Int.tmod a0 a1) != 0))
      (cond ((!(decide (a0 < 0) == decide (a1 < 0))))
        (some (((((IntKind.wrap .i64 ((IntKind.wrap .i64 (Int.tdiv a0 a1)) - 1)), ()), ()), ())))
        (some (((((IntKind.wrap .i64 (Int.tdiv a0 a1)), ()), ()), ()))))
      (some (((((IntKind.wrap .i64 (Int.tdiv a0 a1)), ()), ()), ()))))
    (none))
  (none)

noncomputable def impl_floorDiv (n : Nat) (a0 : Int) (a1 : Int) : Option ((((Int) × Unit) × (Unit)) × (Unit)) := impl_floorDiv_t n a0 a1

noncomputable def impl_ShareClosing_t6 (n : Nat) (g6 : Int → Int → Int → (List (Int)) → Int → (List (Int)) → Option ((((List (Int)) × Unit) × (((Int) × Unit) × (Unit))) × (Unit))) (v24 : Int) (v7 : Int) (v4 : Int) (v22 : List (Int)) (v23 : Int) (b0 : List (Int)) : Option ((((List (Int)) × Unit) × (((Int) × Unit) × (Unit))) × (Unit)) :=
  cond (decide (v24 < v23))
  (cond ((decide (0 ≤ v24) && decide (v24 < ((v22.length : Nat) : Int))))
    ((impl_floorDiv n ((IntKind.wrap .i64 ((IntKind.wrap .i64 (v24 + 1)) * v4))) v7).bind fun r1 =>
      (impl_floorDiv n ((IntKind.wrap .i64 (v24 * v4))) v7).bind fun r2 =>
      cond (decide (((b0.length + ((IntKind.wrap .i64 ((v22.getD (Int.toNat v24) 0) - (IntKind.wrap .i64 (r1.1.1.1 - r2.1.1.1)))) :: []).length) * 9) ≤ 70368744177664))
      (g6 ((IntKind.wrap .i64 (v24 + 1))) v7 v4 v22 v23 ((b0 ++ ((IntKind.wrap .i64 ((v22.getD (Int.toNat v24) 0) - (IntKind.wrap .i64 (r1.1.1.1 - r2.1.1.1)))) :: []))))
      (none))
    (none))
  (some ((((b0, ()), ((0, ()), ())), ())))

noncomputable def impl_ShareClosing_l6 (n : Nat) : Nat → Int → Int → Int → (List (Int)) → Int → (List (Int)) → Option ((((List (Int)) × Unit) × (((Int) × Unit) × (Unit))) × (Unit))
  | 0, _, _, _, _, _, _ => none
  | k + 1, v24, v7, v4, v22, v23, b0 => impl_ShareClosing_t6 n (impl_ShareClosing_l6 n k) v24 v7 v4 v22 v23 b0

noncomputable def impl_ShareClosing_t (n : Nat) (h6 : Nat → Int → Int → Int → (List (Int)) → Int → (List (Int)) → Option ((((List (Int)) × Unit) × (((Int) × Unit) × (Unit))) × (Unit))) (a0 : List (Int)) : Option ((((List (Int)) × Unit) × (((Int) × Unit) × (Unit))) × (Unit)) :=
  (impl_ClosingOf n a0).bind fun r0 =>
  cond ((r0.1.2.1.1 != 0))
  (some (((([], ()), ((r0.1.2.1.1, ()), ())), ())))
  (h6 n 0 (((a0.length : Nat) : Int)) r0.1.1.1 a0 (((a0.length : Nat) : Int)) [])

noncomputable def impl_ShareClosing (n : Nat) (a0 : List (Int)) : Option ((((List (Int)) × Unit) × (((Int) × Unit) × (Unit))) × (Unit)) := impl_ShareClosing_t n (impl_ShareClosing_l6 n) a0

noncomputable def impl_FaultsFrom_t9 (n : Nat) (g9 : Int → Int → Int → (List (Int)) → (List (Int)) → Option ((((List (Int)) × Unit) × (((Int) × Unit) × (Unit))) × (Unit))) (v30 : Int) (v6 : Int) (v29 : Int) (b0 : List (Int)) (b1 : List (Int)) : Option ((((List (Int)) × Unit) × (((Int) × Unit) × (Unit))) × (Unit)) :=
  cond (decide (v30 < v29))
  (cond ((decide (0 ≤ v30) && decide (v30 < ((b1.length : Nat) : Int))))
    (cond ((decide (0 ≤ v30) && decide (v30 < ((b0.length : Nat) : Int))))
      (cond ((v6 != 0))
        (cond (decide (((b1.length + ((IntKind.wrap .i64 ((IntKind.wrap .i64 ((b1.getD (Int.toNat v30) 0) + (b0.getD (Int.toNat v30) 0))) - (IntKind.wrap .i64 (Int.tdiv 1296000 v6)))) :: []).length) * 9) ≤ 70368744177664))
          (g9 ((IntKind.wrap .i64 (v30 + 1))) v6 v29 b0 ((b1 ++ ((IntKind.wrap .i64 ((IntKind.wrap .i64 ((b1.getD (Int.toNat v30) 0) + (b0.getD (Int.toNat v30) 0))) - (IntKind.wrap .i64 (Int.tdiv 1296000 v6)))) :: []))))
          (none))
        (none))
      (none))
    (none))
  (some ((((b1, ()), ((0, ()), ())), ())))

noncomputable def impl_FaultsFrom_l9 (n : Nat) : Nat → Int → Int → Int → (List (Int)) → (List (Int)) → Option ((((List (Int)) × Unit) × (((Int) × Unit) × (Unit))) × (Unit))
  | 0, _, _, _, _, _ => none
  | k + 1, v30, v6, v29, b0, b1 => impl_FaultsFrom_t9 n (impl_FaultsFrom_l9 n k) v30 v6 v29 b0 b1

noncomputable def impl_FaultsFrom_t (n : Nat) (h9 : Nat → Int → Int → Int → (List (Int)) → (List (Int)) → Option ((((List (Int)) × Unit) × (((Int) × Unit) × (Unit))) × (Unit))) (a0 : List (Int)) : Option ((((List (Int)) × Unit) × (((Int) × Unit) × (Unit))) × (Unit)) :=
  (impl_ShareClosing n a0).bind fun r0 =>
  cond ((r0.1.2.1.1 == 0))
  (cond ((((a0.length : Nat) : Int) != 0))
    (cond (((Int.tmod 1296000 ((a0.length : Nat) : Int)) != 0))
      (some (((([], ()), ((4, ()), ())), ())))
      (cond ((r0.1.2.1.1 != 0))
        (some (((([], ()), ((r0.1.2.1.1, ()), ())), ())))
        (cond ((decide (1 ≤ ((r0.1.1.1.length : Nat) : Int)) && decide (((r0.1.1.1.length : Nat) : Int) ≤ ((r0.1.1.1.length : Nat) : Int))))
          (h9 n 0 (((a0.length : Nat) : Int)) (((((r0.1.1.1.drop (Int.toNat 1)).take ((Int.toNat ((r0.1.1.1.length : Nat) : Int)) - (Int.toNat 1))).length : Nat) : Int)) r0.1.1.1 ((0 :: [])))
          (none))))
    (none))
  (cond ((r0.1.2.1.1 != 0))
    (some (((([], ()), ((r0.1.2.1.1, ()), ())), ())))
    (cond ((decide (1 ≤ ((r0.1.1.1.length : Nat) : Int)) && decide (((r0.1.1.1.length : Nat) : Int) ≤ ((r0.1.1.1.length : Nat) : Int))))
      (h9 n 0 (((a0.length : Nat) : Int)) (((((r0.1.1.1.drop (Int.toNat 1)).take ((Int.toNat ((r0.1.1.1.length : Nat) : Int)) - (Int.toNat 1))).length : Nat) : Int)) r0.1.1.1 ((0 :: [])))
      (none)))

noncomputable def impl_FaultsFrom (n : Nat) (a0 : List (Int)) : Option ((((List (Int)) × Unit) × (((Int) × Unit) × (Unit))) × (Unit)) := impl_FaultsFrom_t n (impl_FaultsFrom_l9 n) a0

noncomputable def laws_eqInt64S_t4 (n : Nat) (g4 : Int → (List (Int)) → (List (Int)) → Option ((((Bool) × Unit) × (Unit)) × (Unit))) (v5 : Int) (v1 : List (Int)) (v0 : List (Int)) : Option ((((Bool) × Unit) × (Unit)) × (Unit)) :=
  cond (decide (v5 < ((v0.length : Nat) : Int)))
  (cond ((decide (0 ≤ v5) && decide (v5 < ((v0.length : Nat) : Int))))
    (cond ((decide (0 ≤ v5) && decide (v5 < ((v1.length : Nat) : Int))))
      (cond (((v0.getD (Int.toNat v5) 0) != (v1.getD (Int.toNat v5) 0)))
        (some ((((false, ()), ()), ())))
        (g4 ((IntKind.wrap .i64 (v5 + 1))) v1 v0))
      (none))
    (none))
  (some ((((true, ()), ()), ())))

noncomputable def laws_eqInt64S_l4 (n : Nat) : Nat → Int → (List (Int)) → (List (Int)) → Option ((((Bool) × Unit) × (Unit)) × (Unit))
  | 0, _, _, _ => none
  | k + 1, v5, v1, v0 => laws_eqInt64S_t4 n (laws_eqInt64S_l4 n k) v5 v1 v0

noncomputable def laws_eqInt64S_t (n : Nat) (h4 : Nat → Int → (List (Int)) → (List (Int)) → Option ((((Bool) × Unit) × (Unit)) × (Unit))) (a0 : List (Int)) (a1 : List (Int)) : Option ((((Bool) × Unit) × (Unit)) × (Unit)) :=
  cond ((((a0.length : Nat) : Int) != ((a1.length : Nat) : Int)))
  (some ((((false, ()), ()), ())))
  (h4 n 0 a1 a0)

noncomputable def laws_eqInt64S (n : Nat) (a0 : List (Int)) (a1 : List (Int)) : Option ((((Bool) × Unit) × (Unit)) × (Unit)) := laws_eqInt64S_t n (laws_eqInt64S_l4 n) a0 a1

noncomputable def laws_markInt64S_t2 (n : Nat) (g2 : Int → Int → (List (Int)) → Option ((((Int) × Unit) × (Unit)) × ((List (Int)) × (Unit)))) (v5 : Int) (v1 : Int) (b0 : List (Int)) : Option ((((Int) × Unit) × (Unit)) × ((List (Int)) × (Unit))) :=
  cond (decide (v5 < ((b0.length : Nat) : Int)))
  (cond ((decide (0 ≤ v5) && decide (v5 < ((b0.length : Nat) : Int))))
    (g2 ((IntKind.wrap .i64 (v5 + 1))) ((IntKind.wrap .i64 (v1 + 1))) ((b0.set (Int.toNat v5) v1)))
    (none))
  (some ((((v1, ()), ()), (b0, ()))))

noncomputable def laws_markInt64S_l2 (n : Nat) : Nat → Int → Int → (List (Int)) → Option ((((Int) × Unit) × (Unit)) × ((List (Int)) × (Unit)))
  | 0, _, _, _ => none
  | k + 1, v5, v1, b0 => laws_markInt64S_t2 n (laws_markInt64S_l2 n k) v5 v1 b0

noncomputable def laws_markInt64S_t (n : Nat) (h2 : Nat → Int → Int → (List (Int)) → Option ((((Int) × Unit) × (Unit)) × ((List (Int)) × (Unit)))) (a1 : Int) (b0 : List (Int)) : Option ((((Int) × Unit) × (Unit)) × ((List (Int)) × (Unit))) :=
  h2 n 0 a1 b0

noncomputable def laws_markInt64S (n : Nat) (a1 : Int) (b0 : List (Int)) : Option ((((Int) × Unit) × (Unit)) × ((List (Int)) × (Unit))) := laws_markInt64S_t n (laws_markInt64S_l2 n) a1 b0

noncomputable def laws_heldInt64S_t2 (n : Nat) (g2 : Int → Int → (List (Int)) → Option ((((Int) × Unit) × (Unit)) × (Unit))) (v5 : Int) (v1 : Int) (v0 : List (Int)) : Option ((((Int) × Unit) × (Unit)) × (Unit)) :=
  cond (decide (v5 < ((v0.length : Nat) : Int)))
  (cond ((decide (0 ≤ v5) && decide (v5 < ((v0.length : Nat) : Int))))
    (cond (((v0.getD (Int.toNat v5) 0) != v1))
      (some (((((-1), ()), ()), ())))
      (g2 ((IntKind.wrap .i64 (v5 + 1))) ((IntKind.wrap .i64 (v1 + 1))) v0))
    (none))
  (some ((((v1, ()), ()), ())))

noncomputable def laws_heldInt64S_l2 (n : Nat) : Nat → Int → Int → (List (Int)) → Option ((((Int) × Unit) × (Unit)) × (Unit))
  | 0, _, _, _ => none
  | k + 1, v5, v1, v0 => laws_heldInt64S_t2 n (laws_heldInt64S_l2 n k) v5 v1 v0

noncomputable def laws_heldInt64S_t (n : Nat) (h2 : Nat → Int → Int → (List (Int)) → Option ((((Int) × Unit) × (Unit)) × (Unit))) (a0 : List (Int)) (a1 : Int) : Option ((((Int) × Unit) × (Unit)) × (Unit)) :=
  h2 n 0 a1 a0

noncomputable def laws_heldInt64S (n : Nat) (a0 : List (Int)) (a1 : Int) : Option ((((Int) × Unit) × (Unit)) × (Unit)) := laws_heldInt64S_t n (laws_heldInt64S_l2 n) a0 a1

noncomputable def laws_FnExactFaultsFrom_t (n : Nat) (a0 : List (Int)) : Option ((((Bool) × Unit) × (Unit)) × (Unit)) :=
  cond (decide (((a0.length : Nat) : Int) > 1048576))
  (some ((((true, ()), ()), ())))
  ((laws_toInt64S n a0).bind fun r0 =>
    (spec_FaultsFrom n r0.1.1.1).bind fun r1 =>
    (laws_toInt64S n a0).bind fun r2 =>
    (impl_FaultsFrom n r2.1.1.1).bind fun r3 =>
    (laws_eqInt64S n r3.1.1.1 r1.1.1.1).bind fun r4 =>
    cond (!r4.1.1.1)
    (some ((((false, ()), ()), ())))
    (cond ((r3.1.2.1.1 != r1.1.2.1.1))
      (some ((((false, ()), ()), ())))
      ((laws_toInt64S n a0).bind fun r5 =>
        (laws_eqInt64S n r2.1.1.1 r5.1.1.1).bind fun r6 =>
        cond (!r6.1.1.1)
        (some ((((false, ()), ()), ())))
        ((laws_markInt64S n 1 r2.1.1.1).bind fun r7 =>
          cond (decide (r7.1.1.1 < 0))
          (some ((((false, ()), ()), ())))
          ((laws_eqInt64S n r3.1.1.1 r1.1.1.1).bind fun r8 =>
            cond (!r8.1.1.1)
            (some ((((false, ()), ()), ())))
            (cond ((r3.1.2.1.1 != r1.1.2.1.1))
              (some ((((false, ()), ()), ())))
              ((laws_markInt64S n 1 r3.1.1.1).bind fun r9 =>
                (laws_heldInt64S n r9.2.1 1).bind fun r10 =>
                cond (decide (r10.1.1.1 < 0))
                (some ((((false, ()), ()), ())))
                (cond ((r10.1.1.1 != r9.1.1.1))
                  (some ((((false, ()), ()), ())))
                  ((laws_toInt64S n a0).bind fun r11 =>
                    (impl_FaultsFrom n r11.1.1.1).bind fun r12 =>
                    (laws_eqInt64S n r12.1.1.1 r1.1.1.1).bind fun r13 =>
                    cond (!r13.1.1.1)
                    (some ((((false, ()), ()), ())))
                    (cond ((r12.1.2.1.1 != r1.1.2.1.1))
                      (some ((((false, ()), ()), ())))
                      ((laws_heldInt64S n r9.2.1 1).bind fun r14 =>
                        cond (decide (r14.1.1.1 < 0))
                        (some ((((false, ()), ()), ())))
                        (cond ((r14.1.1.1 != r9.1.1.1))
                          (some ((((false, ()), ()), ())))
                          (some ((((true, ()), ()), ())))))))))))))))

noncomputable def laws_FnExactFaultsFrom (n : Nat) (a0 : List (Int)) : Option ((((Bool) × Unit) × (Unit)) × (Unit)) := laws_FnExactFaultsFrom_t n a0

noncomputable def impl_gcd_t1 (n : Nat) (g1 : Int → Int → Option ((((Int) × Unit) × (Unit)) × (Unit))) (v1 : Int) (v0 : Int) : Option ((((Int) × Unit) × (Unit)) × (Unit)) :=
  cond ((v1 != 0))
  (cond ((v1 != 0))
    (g1 ((Int.tmod v0 v1)) v1)
    (none))
  (some (((((if v0 < (IntKind.wrap .i64 (0 - v0)) then (IntKind.wrap .i64 (0 - v0)) else v0), ()), ()), ())))

noncomputable def impl_gcd_l1 (n : Nat) : Nat → Int → Int → Option ((((Int) × Unit) × (Unit)) × (Unit))
  | 0, _, _ => none
  | k + 1, v1, v0 => impl_gcd_t1 n (impl_gcd_l1 n k) v1 v0

noncomputable def impl_gcd_t (n : Nat) (h1 : Nat → Int → Int → Option ((((Int) × Unit) × (Unit)) × (Unit))) (a0 : Int) (a1 : Int) : Option ((((Int) × Unit) × (Unit)) × (Unit)) :=
  h1 n a1 a0

noncomputable def impl_gcd (n : Nat) (a0 : Int) (a1 : Int) : Option ((((Int) × Unit) × (Unit)) × (Unit)) := impl_gcd_t n (impl_gcd_l1 n) a0 a1

noncomputable def impl_ValidFrac_t (n : Nat) (a0 : (Int) × (Int)) : Option ((((Bool) × Unit) × (Unit)) × (Unit)) :=
  (impl_within n a0.2 1 1000000000).bind fun r0 =>
  cond r0.1.1.1
  ((impl_within n a0.1 (-1000000000) 1000000000).bind fun r1 =>
    cond r1.1.1.1
    ((impl_gcd n a0.1 a0.2).bind fun r2 =>
      some (((((r2.1.1.1 == 1), ()), ()), ())))
    (some ((((false, ()), ()), ()))))
  (some ((((false, ()), ()), ())))

noncomputable def impl_ValidFrac (n : Nat) (a0 : (Int) × (Int)) : Option ((((Bool) × Unit) × (Unit)) × (Unit)) := impl_ValidFrac_t n a0

noncomputable def impl_calc_one_t (n : Nat) (a1 : (Int) × (Int)) (b0 : Bool) : Option (((((Int) × (Int)) × Unit) × (((Int) × Unit) × (Unit))) × ((Bool) × (Unit))) :=
  cond b0
  (some (((((0, 0), ()), ((3, ()), ())), (b0, ()))))
  (some (((((a1.1, a1.2), ()), ((0, ()), ())), (b0, ()))))

noncomputable def impl_calc_one (n : Nat) (a1 : (Int) × (Int)) (b0 : Bool) : Option (((((Int) × (Int)) × Unit) × (((Int) × Unit) × (Unit))) × ((Bool) × (Unit))) := impl_calc_one_t n a1 b0

noncomputable def impl_fracOf_t (n : Nat) (a0 : Int) (a1 : Int) : Option (((((Int) × (Int)) × Unit) × (((Bool) × Unit) × (Unit))) × (Unit)) :=
  cond (decide (a1 < 0))
  ((impl_gcd n ((IntKind.wrap .i64 (0 - a0))) ((IntKind.wrap .i64 (0 - a1)))).bind fun r0 =>
    cond ((r0.1.1.1 != 0))
    (cond ((r0.1.1.1 != 0))
      ((impl_ValidFrac n (((IntKind.wrap .i64 (Int.tdiv (IntKind.wrap .i64 (0 - a0)) r0.1.1.1)), (IntKind.wrap .i64 (Int.tdiv (IntKind.wrap .i64 (0 - a1)) r0.1.1.1))))).bind fun r1 =>
        cond (!r1.1.1.1)
        (some (((((0, 0), ()), ((false, ()), ())), ())))
        (some ((((((IntKind.wrap .i64 (Int.tdiv (IntKind.wrap .i64 (0 - a0)) r0.1.1.1)), (IntKind.wrap .i64 (Int.tdiv (IntKind.wrap .i64 (0 - a1)) r0.1.1.1))), ()), ((true, ()), ())), ()))))
      (none))
    (none))
  ((impl_gcd n a0 a1).bind fun r2 =>
    cond ((r2.1.1.1 != 0))
    (cond ((r2.1.1.1 != 0))
      ((impl_ValidFrac n (((IntKind.wrap .i64 (Int.tdiv a0 r2.1.1.1)), (IntKind.wrap .i64 (Int.tdiv a1 r2.1.1.1))))).bind fun r3 =>
        cond (!r3.1.1.1)
        (some (((((0, 0), ()), ((false, ()), ())), ())))
        (some ((((((IntKind.wrap .i64 (Int.tdiv a0 r2.1.1.1)), (IntKind.wrap .i64 (Int.tdiv a1 r2.1.1.1))), ()), ((true, ()), ())), ()))))
      (none))
    (none))

noncomputable def impl_fracOf (n : Nat) (a0 : Int) (a1 : Int) : Option (((((Int) × (Int)) × Unit) × (((Bool) × Unit) × (Unit))) × (Unit)) := impl_fracOf_t n a0 a1

noncomputable def impl_zero_t (n : Nat) : Option (((((Int) × (Int)) × Unit) × (Unit)) × (Unit)) :=
  some (((((0, 1), ()), ()), ()))

noncomputable def impl_zero (n : Nat) : Option (((((Int) × (Int)) × Unit) × (Unit)) × (Unit)) := impl_zero_t n

noncomputable def impl_calc_told_t (n : Nat) (a1 : Int) (a2 : Int) (b0 : Bool) : Option (((((Int) × (Int)) × Unit) × (Unit)) × ((Bool) × (Unit))) :=
  (impl_fracOf n a1 a2).bind fun r0 =>
  cond (!r0.1.2.1.1)
  ((impl_zero n).bind fun r1 =>
    some (((((r1.1.1.1.1, r1.1.1.1.2), ()), ()), (true, ()))))
  (some (((((r0.1.1.1.1, r0.1.1.1.2), ()), ()), (b0, ()))))

noncomputable def impl_calc_told (n : Nat) (a1 : Int) (a2 : Int) (b0 : Bool) : Option (((((Int) × (Int)) × Unit) × (Unit)) × ((Bool) × (Unit))) := impl_calc_told_t n a1 a2 b0

noncomputable def impl_isAngle_t (n : Nat) (a0 : Int) : Option ((((Bool) × Unit) × (Unit)) × (Unit)) :=
  (impl_within n a0 0 1295999).bind fun r0 =>
  some ((((r0.1.1.1, ()), ()), ()))

noncomputable def impl_isAngle (n : Nat) (a0 : Int) : Option ((((Bool) × Unit) × (Unit)) × (Unit)) := impl_isAngle_t n a0

noncomputable def impl_wrap_t (n : Nat) (a0 : Int) : Option ((((Int) × Unit) × (Unit)) × (Unit)) :=
  some (((((Int.tmod (IntKind.wrap .i64 ((Int.tmod a0 1296000) + 1296000)) 1296000), ()), ()), ()))

noncomputable def impl_wrap (n : Nat) (a0 : Int) : Option ((((Int) × Unit) × (Unit)) × (Unit)) := impl_wrap_t n a0

noncomputable def impl_turnFrom_t (n : Nat) (a0 : Int) (a1 : Int) : Option ((((Int) × Unit) × (Unit)) × (Unit)) :=
  (impl_wrap n ((IntKind.wrap .i64 (a1 - a0)))).bind fun r0 =>
  cond (decide (r0.1.1.1 > 648000))
  (some (((((IntKind.wrap .i64 (r0.1.1.1 - 1296000)), ()), ()), ())))
  (some ((((r0.1.1.1, ()), ()), ())))

noncomputable def impl_turnFrom (n : Nat) (a0 : Int) (a1 : Int) : Option ((((Int) × Unit) × (Unit)) × (Unit)) := impl_turnFrom_t n a0 a1

noncomputable def laws_eqFrac_t (n : Nat) (a0 : (Int) × (Int)) (a1 : (Int) × (Int)) : Option ((((Bool) × Unit) × (Unit)) × (Unit)) :=
  cond ((a0.1 != a1.1))
  (some ((((false, ()), ()), ())))
  (cond ((a0.2 != a1.2))
    (some ((((false, ()), ()), ())))
    (some ((((true, ()), ()), ()))))

noncomputable def laws_eqFrac (n : Nat) (a0 : (Int) × (Int)) (a1 : (Int) × (Int)) : Option ((((Bool) × Unit) × (Unit)) × (Unit)) := laws_eqFrac_t n a0 a1

noncomputable def spec_ShareClosing_t (n : Nat) (a0 : List (Int)) : Option ((((List (Int)) × Unit) × (((Int) × Unit) × (Unit))) × (Unit)) :=
  (spec_l03Sectors n a0).bind fun r0 =>
  cond ((r0.1.1.1 != 0))
  (some (((([], ()), ((r0.1.1.1, ()), ())), ())))
  ((spec_l03Shared n a0).bind fun r1 =>
    some ((((r1.1.1.1, ()), ((0, ()), ())), ())))

noncomputable def spec_ShareClosing (n : Nat) (a0 : List (Int)) : Option ((((List (Int)) × Unit) × (((Int) × Unit) × (Unit))) × (Unit)) := spec_ShareClosing_t n a0

noncomputable def spec_l01Abs_t (n : Nat) (a0 : Int) : Option ((((Int) × Unit) × (Unit)) × (Unit)) :=
  cond (decide (a0 < 0))
  (some (((((IntKind.wrap .i64 (0 - a0)), ()), ()), ())))
  (some ((((a0, ()), ()), ())))

noncomputable def spec_l01Abs (n : Nat) (a0 : Int) : Option ((((Int) × Unit) × (Unit)) × (Unit)) := spec_l01Abs_t n a0

noncomputable def spec_l01Gcd_t1 (n : Nat) (g1 : Int → Int → Option ((((Int) × Unit) × (Unit)) × (Unit))) (v1 : Int) (v0 : Int) : Option ((((Int) × Unit) × (Unit)) × (Unit)) :=
  cond ((v1 != 0))
  (cond ((v1 != 0))
    (g1 ((Int.tmod v0 v1)) v1)
    (none))
  (some ((((v0, ()), ()), ())))

noncomputable def spec_l01Gcd_l1 (n : Nat) : Nat → Int → Int → Option ((((Int) × Unit) × (Unit)) × (Unit))
  | 0, _, _ => none
  | k + 1, v1, v0 => spec_l01Gcd_t1 n (spec_l01Gcd_l1 n k) v1 v0

noncomputable def spec_l01Gcd_t (n : Nat) (h1 : Nat → Int → Int → Option ((((Int) × Unit) × (Unit)) × (Unit))) (a0 : Int) (a1 : Int) : Option ((((Int) × Unit) × (Unit)) × (Unit)) :=
  h1 n a1 a0

noncomputable def spec_l01Gcd (n : Nat) (a0 : Int) (a1 : Int) : Option ((((Int) × Unit) × (Unit)) × (Unit)) := spec_l01Gcd_t n (spec_l01Gcd_l1 n) a0 a1

noncomputable def spec_l01Ok_t (n : Nat) (a0 : (Int) × (Int)) : Option ((((Bool) × Unit) × (Unit)) × (Unit)) :=
  (spec_l00In n a0.2 1 1000000000).bind fun r0 =>
  cond r0.1.1.1
  ((spec_l00In n a0.1 (-1000000000) 1000000000).bind fun r1 =>
    cond r1.1.1.1
    ((spec_l01Abs n a0.1).bind fun r2 =>
      (spec_l01Gcd n r2.1.1.1 a0.2).bind fun r3 =>
      some (((((r3.1.1.1 == 1), ()), ()), ())))
    (some ((((false, ()), ()), ()))))
  (some ((((false, ()), ()), ())))

noncomputable def spec_l01Ok (n : Nat) (a0 : (Int) × (Int)) : Option ((((Bool) × Unit) × (Unit)) × (Unit)) := spec_l01Ok_t n a0

noncomputable def spec_l01Reduced_t (n : Nat) (a0 : Int) (a1 : Int) : Option (((((Int) × (Int)) × Unit) × (((Int) × Unit) × (Unit))) × (Unit)) :=
  (spec_l01Abs n a0).bind fun r0 =>
  (spec_l01Abs n a1).bind fun r1 =>
  (spec_l01Gcd n r0.1.1.1 r1.1.1.1).bind fun r2 =>
  cond ((r2.1.1.1 != 0))
  (cond ((r2.1.1.1 != 0))
    (cond (decide ((IntKind.wrap .i64 (Int.tdiv a1 r2.1.1.1)) < 0))
      ((spec_l01Ok n (((IntKind.wrap .i64 (0 - (IntKind.wrap .i64 (Int.tdiv a0 r2.1.1.1)))), (IntKind.wrap .i64 (0 - (IntKind.wrap .i64 (Int.tdiv a1 r2.1.1.1))))))).bind fun r3 =>
        cond (!r3.1.1.1)
        (some (((((0, 0), ()), ((3, ()), ())), ())))
        (some ((((((IntKind.wrap .i64 (0 - (IntKind.wrap .i64 (Int.tdiv a0 r2.1.1.1)))), (IntKind.wrap .i64 (0 - (IntKind.wrap .i64 (Int.tdiv a1 r2.1.1.1))))), ()), ((0, ()), ())), ()))))
      ((spec_l01Ok n (((IntKind.wrap .i64 (Int.tdiv a0 r2.1.1.1)), (IntKind.wrap .i64 (Int.tdiv a1 r2.1.1.1))))).bind fun r4 =>
        cond (!r4.1.1.1)
        (some (((((0, 0), ()), ((3, ()), ())), ())))
        (some ((((((IntKind.wrap .i64 (Int.tdiv a0 r2.1.1.1)), (IntKind.wrap .i64 (Int.tdiv a1 r2.1.1.1))), ()), ((0, ()), ())), ())))))
    (none))
  (none)

noncomputable def spec_l01Reduced (n : Nat) (a0 : Int) (a1 : Int) : Option (((((Int) × (Int)) × Unit) × (((Int) × Unit) × (Unit))) × (Unit)) := spec_l01Reduced_t n a0 a1

noncomputable def spec_l03Angle_t (n : Nat) (a0 : Int) : Option ((((Bool) × Unit) × (Unit)) × (Unit)) :=
  (spec_l00In n a0 0 1295999).bind fun r0 =>
  some ((((r0.1.1.1, ()), ()), ()))

noncomputable def spec_l03Angle (n : Nat) (a0 : Int) : Option ((((Bool) × Unit) × (Unit)) × (Unit)) := spec_l03Angle_t n a0

noncomputable def spec_l03Wrap_t (n : Nat) (a0 : Int) : Option ((((Int) × Unit) × (Unit)) × (Unit)) :=
  cond (decide ((Int.tmod a0 1296000) < 0))
  (some (((((IntKind.wrap .i64 ((Int.tmod a0 1296000) + 1296000)), ()), ()), ())))
  (some (((((Int.tmod a0 1296000), ()), ()), ())))

noncomputable def spec_l03Wrap (n : Nat) (a0 : Int) : Option ((((Int) × Unit) × (Unit)) × (Unit)) := spec_l03Wrap_t n a0

noncomputable def spec_l03Turn_t (n : Nat) (a0 : Int) (a1 : Int) : Option ((((Int) × Unit) × (Unit)) × (Unit)) :=
  (spec_l03Wrap n ((IntKind.wrap .i64 (a1 - a0)))).bind fun r0 =>
  cond (decide (r0.1.1.1 > 648000))
  (some (((((IntKind.wrap .i64 (r0.1.1.1 - 1296000)), ()), ()), ())))
  (some ((((r0.1.1.1, ()), ()), ())))

noncomputable def spec_l03Turn (n : Nat) (a0 : Int) (a1 : Int) : Option ((((Int) × Unit) × (Unit)) × (Unit)) := spec_l03Turn_t n a0 a1

end Go.Abs
