import Derived.Test.YtbdbfoffekcjoaaLib
namespace Go.Abs
set_option linter.unusedVariables false

noncomputable def laws_toInt64S_t3 (n : Nat) (g3 : Int → (List (Int)) → (List (Int)) → Option ((((List (Int)) × Unit) × (Unit)) × (Unit))) (v4 : Int) (v0 : List (Int)) (b0 : List (Int)) : Option ((((List (Int)) × Unit) × (Unit)) × (Unit)) :=
  cond (decide (v4 < ((v0.length : Nat) : Int)))
  (cond ((decide (0 ≤ v4) && decide (v4 < ((v0.length : Nat) : Int))))
    (cond ((decide (0 ≤ v4) && decide (v4 < ((b0.length : Nat) : Int))))
      (g3 ((IntKind.wrap .i64 (v4 + 1))) v0 ((b0.set (Int.toNat v4) (v0.getD (Int.toNat v4) 0))))
      (none))
    (none))
  (some ((((b0, ()), ()), ())))

noncomputable def laws_toInt64S_l3 (n : Nat) : Nat → Int → (List (Int)) → (List (Int)) → Option ((((List (Int)) × Unit) × (Unit)) × (Unit))
  | 0, _, _, _ => none
  | k + 1, v4, v0, b0 => laws_toInt64S_t3 n (laws_toInt64S_l3 n k) v4 v0 b0

noncomputable def laws_toInt64S_t (n : Nat) (h3 : Nat → Int → (List (Int)) → (List (Int)) → Option ((((List (Int)) × Unit) × (Unit)) × (Unit))) (a0 : List (Int)) : Option ((((List (Int)) × Unit) × (Unit)) × (Unit)) :=
  cond ((((((a0.length : Nat) : Int) == ((a0.length : Nat) : Int)) && decide (0 ≤ ((a0.length : Nat) : Int))) && decide (((Int.toNat ((a0.length : Nat) : Int)) * 9) ≤ 70368744177664)))
  (h3 n 0 a0 ((List.replicate (Int.toNat ((a0.length : Nat) : Int)) 0)))
  (none)

noncomputable def laws_toInt64S (n : Nat) (a0 : List (Int)) : Option ((((List (Int)) × Unit) × (Unit)) × (Unit)) := laws_toInt64S_t n (laws_toInt64S_l3 n) a0

noncomputable def spec_l00In_t (n : Nat) (a0 : Int) (a1 : Int) (a2 : Int) : Option ((((Bool) × Unit) × (Unit)) × (Unit)) :=
  cond (decide (a0 ≥ a1))
  (some ((((decide (a0 ≤ a2), ()), ()), ())))
  (some ((((false, ()), ()), ())))

noncomputable def spec_l00In (n : Nat) (a0 : Int) (a1 : Int) (a2 : Int) : Option ((((Bool) × Unit) × (Unit)) × (Unit)) := spec_l00In_t n a0 a1 a2

noncomputable def spec_l01Down_t (n : Nat) (a0 : Int) (a1 : Int) : Option ((((Int) × Unit) × (Unit)) × (Unit)) :=
  cond ((a1 != 0))
  (cond ((a1 != 0))
    (cond (decide ((Int.tmod a0 a1) < 0))
      (some (((((IntKind.wrap .i64 ((IntKind.wrap .i64 (Int.tdiv a0 a1)) - 1)), ()), ()), ())))
      (some (((((IntKind.wrap .i64 (Int.tdiv a0 a1)), ()), ()), ()))))
    (none))
  (none)

noncomputable def spec_l01Down (n : Nat) (a0 : Int) (a1 : Int) : Option ((((Int) × Unit) × (Unit)) × (Unit)) := spec_l01Down_t n a0 a1

noncomputable def spec_ShareWhole_t17 (n : Nat) (g17 : Int → Int → Int → Int → (List (Int)) → (List (Int)) → Option ((((List (Int)) × Unit) × (((Int) × Unit) × (Unit))) × (Unit))) (v13 : Int) (v6 : Int) (v11 : Int) (v9 : Int) (v0 : List (Int)) (b0 : List (Int)) : Option ((((List (Int)) × Unit) × (((Int) × Unit) × (Unit))) × (Unit)) :=
  cond (decide (v13 < v6))
  (cond ((decide (0 ≤ v13) && decide (v13 < ((v0.length : Nat) : Int))))
    (cond (decide (v13 < (IntKind.wrap .i64 (v9 - (IntKind.wrap .i64 (v11 * v6))))))
      (cond (decide (((b0.length + ((IntKind.wrap .i64 ((IntKind.wrap .i64 ((v0.getD (Int.toNat v13) 0) - v11)) - 1)) :: []).length) * 9) ≤ 70368744177664))
        (g17 ((IntKind.wrap .i64 (v13 + 1))) v6 v11 v9 v0 ((b0 ++ ((IntKind.wrap .i64 ((IntKind.wrap .i64 ((v0.getD (Int.toNat v13) 0) - v11)) - 1)) :: []))))
        (none))
      (cond (decide (((b0.length + ((IntKind.wrap .i64 ((v0.getD (Int.toNat v13) 0) - v11)) :: []).length) * 9) ≤ 70368744177664))
        (g17 ((IntKind.wrap .i64 (v13 + 1))) v6 v11 v9 v0 ((b0 ++ ((IntKind.wrap .i64 ((v0.getD (Int.toNat v13) 0) - v11)) :: []))))
        (none)))
    (none))
  (some ((((b0, ()), ((0, ()), ())), ())))

noncomputable def spec_ShareWhole_l17 (n : Nat) : Nat → Int → Int → Int → Int → (List (Int)) → (List (Int)) → Option ((((List (Int)) × Unit) × (((Int) × Unit) × (Unit))) × (Unit))
  | 0, _, _, _, _, _, _ => none
  | k + 1, v13, v6, v11, v9, v0, b0 => spec_ShareWhole_t17 n (spec_ShareWhole_l17 n k) v13 v6 v11 v9 v0 b0

noncomputable def spec_ShareWhole_t11 (n : Nat) (h17 : Nat → Int → Int → Int → Int → (List (Int)) → (List (Int)) → Option ((((List (Int)) × Unit) × (((Int) × Unit) × (Unit))) × (Unit))) (g11 : Int → (List (Int)) → Int → Int → Option ((((List (Int)) × Unit) × (((Int) × Unit) × (Unit))) × (Unit))) (v10 : Int) (v0 : List (Int)) (v9 : Int) (v6 : Int) : Option ((((List (Int)) × Unit) × (((Int) × Unit) × (Unit))) × (Unit)) :=
  cond (decide (v10 < ((v0.length : Nat) : Int)))
  (cond ((decide (0 ≤ v10) && decide (v10 < ((v0.length : Nat) : Int))))
    (g11 ((IntKind.wrap .i64 (v10 + 1))) v0 ((IntKind.wrap .i64 (v9 + (v0.getD (Int.toNat v10) 0)))) v6)
    (none))
  ((spec_l01Down n v9 v6).bind fun r3 =>
    h17 n 0 v6 r3.1.1.1 v9 v0 [])

noncomputable def spec_ShareWhole_l11 (n : Nat) : Nat → Int → (List (Int)) → Int → Int → Option ((((List (Int)) × Unit) × (((Int) × Unit) × (Unit))) × (Unit))
  | 0, _, _, _, _ => none
  | k + 1, v10, v0, v9, v6 => spec_ShareWhole_t11 n (spec_ShareWhole_l17 n) (spec_ShareWhole_l11 n k) v10 v0 v9 v6

noncomputable def spec_ShareWhole_t4 (n : Nat) (h11 : Nat → Int → (List (Int)) → Int → Int → Option ((((List (Int)) × Unit) × (((Int) × Unit) × (Unit))) × (Unit))) (g4 : Int → (List (Int)) → Int → Int → Bool → Option ((((List (Int)) × Unit) × (((Int) × Unit) × (Unit))) × (Unit))) (v8 : Int) (v0 : List (Int)) (v6 : Int) (v1 : Int) (v7 : Bool) : Option ((((List (Int)) × Unit) × (((Int) × Unit) × (Unit))) × (Unit)) :=
  cond (decide (v8 < ((v0.length : Nat) : Int)))
  (cond v7
    (cond ((decide (0 ≤ v8) && decide (v8 < ((v0.length : Nat) : Int))))
      ((spec_l00In n ((v0.getD (Int.toNat v8) 0)) (-1000000000) 1000000000).bind fun r2 =>
        g4 ((IntKind.wrap .i64 (v8 + 1))) v0 v6 v1 r2.1.1.1)
      (none))
    (cond (!v7)
      (some (((([], ()), ((2, ()), ())), ())))
      (h11 n 0 v0 ((IntKind.wrap .i64 (0 - v1))) v6)))
  (cond (!v7)
    (some (((([], ()), ((2, ()), ())), ())))
    (h11 n 0 v0 ((IntKind.wrap .i64 (0 - v1))) v6))

noncomputable def spec_ShareWhole_l4 (n : Nat) : Nat → Int → (List (Int)) → Int → Int → Bool → Option ((((List (Int)) × Unit) × (((Int) × Unit) × (Unit))) × (Unit))
  | 0, _, _, _, _, _ => none
  | k + 1, v8, v0, v6, v1, v7 => spec_ShareWhole_t4 n (spec_ShareWhole_l11 n) (spec_ShareWhole_l4 n k) v8 v0 v6 v1 v7

noncomputable def spec_ShareWhole_t (n : Nat) (h4 : Nat → Int → (List (Int)) → Int → Int → Bool → Option ((((List (Int)) × Unit) × (((Int) × Unit) × (Unit))) × (Unit))) (a0 : List (Int)) (a1 : Int) : Option ((((List (Int)) × Unit) × (((Int) × Unit) × (Unit))) × (Unit)) :=
  (spec_l00In n (((a0.length : Nat) : Int)) 1 64).bind fun r0 =>
  cond r0.1.1.1
  ((spec_l00In n a1 (-1000000000) 1000000000).bind fun r1 =>
    h4 n 0 a0 (((a0.length : Nat) : Int)) a1 r1.1.1.1)
  (h4 n 0 a0 (((a0.length : Nat) : Int)) a1 false)

noncomputable def spec_ShareWhole (n : Nat) (a0 : List (Int)) (a1 : Int) : Option ((((List (Int)) × Unit) × (((Int) × Unit) × (Unit))) × (Unit)) := spec_ShareWhole_t n (spec_ShareWhole_l4 n) a0 a1

noncomputable def impl_within_t (n : Nat) (a0 : Int) (a1 : Int) (a2 : Int) : Option ((((Bool) × Unit) × (Unit)) × (Unit)) :=
  cond (decide (a1 ≤ a0))
  (some ((((decide (a0 ≤ a2), ()), ()), ())))
  (some ((((false, ()), ()), ())))

noncomputable def impl_within (n : Nat) (a0 : Int) (a1 : Int) (a2 : Int) : Option ((((Bool) × Unit) × (Unit)) × (Unit)) := impl_within_t n a0 a1 a2

noncomputable def impl_ShareWhole_1_t (n : Nat) (a0 : Int) : Option ((((Bool) × Unit) × (Unit)) × (Unit)) :=
  (impl_within n a0 (-1000000000) 1000000000).bind fun r0 =>
  some (((((!r0.1.1.1), ()), ()), ()))

noncomputable def impl_ShareWhole_1 (n : Nat) (a0 : Int) : Option ((((Bool) × Unit) × (Unit)) × (Unit)) := impl_ShareWhole_1_t n a0

noncomputable def slices_IndexFunc_int64_int64_at_impl_ShareWhole_1_t2 (n : Nat) (g2 : Int → (List (Int)) → Int → Option ((((Int) × Unit) × (Unit)) × (Unit))) (v8 : Int) (v0 : List (Int)) (v7 : Int) : Option ((((Int) × Unit) × (Unit)) × (Unit)) :=
  cond (decide (v8 < v7))
  (cond ((decide (0 ≤ v8) && decide (v8 < ((v0.length : Nat) : Int))))
    ((impl_ShareWhole_1 n ((v0.getD (Int.toNat v8) 0))).bind fun r0 =>
      cond r0.1.1.1
      (some ((((v8, ()), ()), ())))
      (g2 ((IntKind.wrap .i64 (v8 + 1))) v0 v7))
    (none))
  (some (((((-1), ()), ()), ())))

noncomputable def slices_IndexFunc_int64_int64_at_impl_ShareWhole_1_l2 (n : Nat) : Nat → Int → (List (Int)) → Int → Option ((((Int) × Unit) × (Unit)) × (Unit))
  | 0, _, _, _ => none
  | k + 1, v8, v0, v7 => slices_IndexFunc_int64_int64_at_impl_ShareWhole_1_t2 n (slices_IndexFunc_int64_int64_at_impl_ShareWhole_1_l2 n k) v8 v0 v7

noncomputable def slices_IndexFunc_int64_int64_at_impl_ShareWhole_1_t (n : Nat) (h2 : Nat → Int → (List (Int)) → Int → Option ((((Int) × Unit) × (Unit)) × (Unit))) (a0 : List (Int)) : Option ((((Int) × Unit) × (Unit)) × (Unit)) :=
  h2 n 0 a0 (((a0.length : Nat) : Int))

noncomputable def slices_IndexFunc_int64_int64_at_impl_ShareWhole_1 (n : Nat) (a0 : List (Int)) : Option ((((Int) × Unit) × (Unit)) × (Unit)) := slices_IndexFunc_int64_int64_at_impl_ShareWhole_1_t n (slices_IndexFunc_int64_int64_at_impl_ShareWhole_1_l2 n) a0

noncomputable def slices_ContainsFunc_int64_int64_at_impl_ShareWhole_1_t (n : Nat) (a0 : List (Int)) : Option ((((Bool) × Unit) × (Unit)) × (Unit)) :=
  (slices_IndexFunc_int64_int64_at_impl_ShareWhole_1 n a0).bind fun r0 =>
  some ((((decide (r0.1.1.1 ≥ 0), ()), ()), ()))

noncomputable def slices_ContainsFunc_int64_int64_at_impl_ShareWhole_1 (n : Nat) (a0 : List (Int)) : Option ((((Bool) × Unit) × (Unit)) × (Unit)) := slices_ContainsFunc_int64_int64_at_impl_ShareWhole_1_t n a0

noncomputable def impl_floorDiv_t (n : Nat) (a0 : Int) (a1 : Int) : Option ((((Int) × Unit) × (Unit)) × (Unit)) :=
  cond ((a1 != 0))
  (cond ((a1 != 0))
    (cond (((Int.tmod a0 a1) != 0))
      (cond ((!(decide (a0 < 0) == decide (a1 < 0))))
        (some (((((IntKind.wrap .i64 ((IntKind.wrap .i64 (Int.tdiv a0 a1)) - 1)), ()), ()), ())))
        (some (((((IntKind.wrap .i64 (Int.tdiv a0 a1)), ()), ()), ()))))
      (some (((((IntKind.wrap .i64 (Int.tdiv a0 a1)), ()), ()), ()))))
    (none))
  (none)

noncomputable def impl_floorDiv (n : Nat) (a0 : Int) (a1 : Int) : Option ((((Int) × Unit) × (Unit)) × (Unit)) := impl_floorDiv_t n a0 a1

noncomputable def impl_ShareWhole_t11 (n : Nat) (g11 : Int → Int → Int → Int → (List (Int)) → Int → (List (Int)) → Option ((((List (Int)) × Unit) × (((Int) × Unit) × (Unit))) × (Unit))) (v49 : Int) (v10 : Int) (v7 : Int) (v6 : Int) (v47 : List (Int)) (v48 : Int) (b0 : List (Int)) : Option ((((List (Int)) × Unit) × (((Int) × Unit) × (Unit))) × (Unit)) :=
  cond (decide (v49 < v48))
  (cond ((decide (0 ≤ v49) && decide (v49 < ((v47.length : Nat) : Int))))
    (cond (decide (v49 < (IntKind.wrap .i64 (v6 - (IntKind.wrap .i64 (v10 * v7))))))
      (cond (decide (((b0.length + ((IntKind.wrap .i64 ((IntKind.wrap .i64 ((v47.getD (Int.toNat v49) 0) - 1)) - v10)) :: []).length) * 9) ≤ 70368744177664))
        (g11 ((IntKind.wrap .i64 (v49 + 1))) v10 v7 v6 v47 v48 ((b0 ++ ((IntKind.wrap .i64 ((IntKind.wrap .i64 ((v47.getD (Int.toNat v49) 0) - 1)) - v10)) :: []))))
        (none))
      (cond (decide (((b0.length + ((IntKind.wrap .i64 ((v47.getD (Int.toNat v49) 0) - v10)) :: []).length) * 9) ≤ 70368744177664))
        (g11 ((IntKind.wrap .i64 (v49 + 1))) v10 v7 v6 v47 v48 ((b0 ++ ((IntKind.wrap .i64 ((v47.getD (Int.toNat v49) 0) - v10)) :: []))))
        (none)))
    (none))
  (some ((((b0, ()), ((0, ()), ())), ())))

noncomputable def impl_ShareWhole_l11 (n : Nat) : Nat → Int → Int → Int → Int → (List (Int)) → Int → (List (Int)) → Option ((((List (Int)) × Unit) × (((Int) × Unit) × (Unit))) × (Unit))
  | 0, _, _, _, _, _, _, _ => none
  | k + 1, v49, v10, v7, v6, v47, v48, b0 => impl_ShareWhole_t11 n (impl_ShareWhole_l11 n k) v49 v10 v7 v6 v47 v48 b0

noncomputable def impl_ShareWhole_t5 (n : Nat) (h11 : Nat → Int → Int → Int → Int → (List (Int)) → Int → (List (Int)) → Option ((((List (Int)) × Unit) × (((Int) × Unit) × (Unit))) × (Unit))) (g5 : Int → Int → (List (Int)) → Int → (List (Int)) → Int → Option ((((List (Int)) × Unit) × (((Int) × Unit) × (Unit))) × (Unit))) (v35 : Int) (v6 : Int) (v33 : List (Int)) (v7 : Int) (v0 : List (Int)) (v34 : Int) : Option ((((List (Int)) × Unit) × (((Int) × Unit) × (Unit))) × (Unit)) :=
  cond (decide (v35 < v34))
  (cond ((decide (0 ≤ v35) && decide (v35 < ((v33.length : Nat) : Int))))
    (g5 ((IntKind.wrap .i64 (v35 + 1))) ((IntKind.wrap .i64 (v6 + (v33.getD (Int.toNat v35) 0)))) v33 v7 v0 v34)
    (none))
  ((impl_floorDiv n v6 v7).bind fun r1 =>
    h11 n 0 r1.1.1.1 v7 v6 v0 (((v0.length : Nat) : Int)) [])

noncomputable def impl_ShareWhole_l5 (n : Nat) : Nat → Int → Int → (List (Int)) → Int → (List (Int)) → Int → Option ((((List (Int)) × Unit) × (((Int) × Unit) × (Unit))) × (Unit))
  | 0, _, _, _, _, _, _ => none
  | k + 1, v35, v6, v33, v7, v0, v34 => impl_ShareWhole_t5 n (impl_ShareWhole_l11 n) (impl_ShareWhole_l5 n k) v35 v6 v33 v7 v0 v34

noncomputable def impl_ShareWhole_t (n : Nat) (h5 : Nat → Int → Int → (List (Int)) → Int → (List (Int)) → Int → Option ((((List (Int)) × Unit) × (((Int) × Unit) × (Unit))) × (Unit))) (a0 : List (Int)) (a1 : Int) : Option ((((List (Int)) × Unit) × (((Int) × Unit) × (Unit))) × (Unit)) :=
  cond ((((a0.length : Nat) : Int) == 0))
  (some (((([], ()), ((2, ()), ())), ())))
  (cond (decide (((a0.length : Nat) : Int) > 64))
    (some (((([], ()), ((2, ()), ())), ())))
    (cond (decide ((((a1 :: []).length + a0.length) * 9) ≤ 70368744177664))
      ((slices_ContainsFunc_int64_int64_at_impl_ShareWhole_1 n (((a1 :: []) ++ a0))).bind fun r0 =>
        cond r0.1.1.1
        (some (((([], ()), ((2, ()), ())), ())))
        (h5 n 0 ((IntKind.wrap .i64 (0 - a1))) a0 (((a0.length : Nat) : Int)) a0 (((a0.length : Nat) : Int))))
      (none)))

noncomputable def impl_ShareWhole (n : Nat) (a0 : List (Int)) (a1 : Int) : Option ((((List (Int)) × Unit) × (((Int) × Unit) × (Unit))) × (Unit)) := impl_ShareWhole_t n (impl_ShareWhole_l5 n) a0 a1

noncomputable def laws_eqInt64S_t4 (n : Nat) (g4 : Int → (List (Int)) → (List (Int)) → Option ((((Bool) × Unit) × (Unit)) × (Unit))) (v5 : Int) (v1 : List (Int)) (v0 : List (Int)) : Option ((((Bool) × Unit) × (Unit)) × (Unit)) :=
  cond (decide (v5 < ((v0.length : Nat) : Int)))
  (cond ((decide (0 ≤ v5) && decide (v5 < ((v0.length : Nat) : Int))))
    (cond ((decide (0 ≤ v5) && decide (v5 < ((v1.length : Nat) : Int))))
      (cond (((v0.getD (Int.toNat v5) 0) != (v1.getD (Int.toNat v5) 0)))
        (some ((((false, ()), ()), ())))
        (g4 ((IntKind.wrap .i64 (v5 + 1))) v1 v0))
      (none))
    (none))
  (some ((((true, ()), ()), ())))

noncomputable def laws_eqInt64S_l4 (n : Nat) : Nat → Int → (List (Int)) → (List (Int)) → Option ((((Bool) × Unit) × (Unit)) × (Unit))
  | 0, _, _, _ => none
  | k + 1, v5, v1, v0 => laws_eqInt64S_t4 n (laws_eqInt64S_l4 n k) v5 v1 v0

noncomputable def laws_eqInt64S_t (n : Nat) (h4 : Nat → Int → (List (Int)) → (List (Int)) → Option ((((Bool) × Unit) × (Unit)) × (Unit))) (a0 : List (Int)) (a1 : List (Int)) : Option ((((Bool) × Unit) × (Unit)) × (Unit)) :=
  cond ((((a0.length : Nat) : Int) != ((a1.length : Nat) : Int)))
  (some ((((false, ()), ()), ())))
  (h4 n 0 a1 a0)

noncomputable def laws_eqInt64S (n : Nat) (a0 : List (Int)) (a1 : List (Int)) : Option ((((Bool) × Unit) × (Unit)) × (Unit)) := laws_eqInt64S_t n (laws_eqInt64S_l4 n) a0 a1

noncomputable def laws_markInt64S_t2 (n : Nat) (g2 : Int → Int → (List (Int)) → Option ((((Int) × Unit) × (Unit)) × ((List (Int)) × (Unit)))) (v5 : Int) (v1 : Int) (b0 : List (Int)) : Option ((((Int) × Unit) × (Unit)) × ((List (Int)) × (Unit))) :=
  cond (decide (v5 < ((b0.length : Nat) : Int)))
  (cond ((decide (0 ≤ v5) && decide (v5 < ((b0.length : Nat) : Int))))
    (g2 ((IntKind.wrap .i64 (v5 + 1))) ((IntKind.wrap .i64 (v1 + 1))) ((b0.set (Int.toNat v5) v1)))
    (none))
  (some ((((v1, ()), ()), (b0, ()))))

noncomputable def laws_markInt64S_l2 (n : Nat) : Nat → Int → Int → (List (Int)) → Option ((((Int) × Unit) × (Unit)) × ((List (Int)) × (Unit)))
  | 0, _, _, _ => none
  | k + 1, v5, v1, b0 => laws_markInt64S_t2 n (laws_markInt64S_l2 n k) v5 v1 b0

noncomputable def laws_markInt64S_t (n : Nat) (h2 : Nat → Int → Int → (List (Int)) → Option ((((Int) × Unit) × (Unit)) × ((List (Int)) × (Unit)))) (a1 : Int) (b0 : List (Int)) : Option ((((Int) × Unit) × (Unit)) × ((List (Int)) × (Unit))) :=
  h2 n 0 a1 b0

noncomputable def laws_markInt64S (n : Nat) (a1 : Int) (b0 : List (Int)) : Option ((((Int) × Unit) × (Unit)) × ((List (Int)) × (Unit))) := laws_markInt64S_t n (laws_markInt64S_l2 n) a1 b0

noncomputable def laws_heldInt64S_t2 (n : Nat) (g2 : Int → Int → (List (Int)) → Option ((((Int) × Unit) × (Unit)) × (Unit))) (v5 : Int) (v1 : Int) (v0 : List (Int)) : Option ((((Int) × Unit) × (Unit)) × (Unit)) :=
  cond (decide (v5 < ((v0.length : Nat) : Int)))
  (cond ((decide (0 ≤ v5) && decide (v5 < ((v0.length : Nat) : Int))))
    (cond (((v0.getD (Int.toNat v5) 0) != v1))
      (some (((((-1), ()), ()), ())))
      (g2 ((IntKind.wrap .i64 (v5 + 1))) ((IntKind.wrap .i64 (v1 + 1))) v0))
    (none))
  (some ((((v1, ()), ()), ())))

noncomputable def laws_heldInt64S_l2 (n : Nat) : Nat → Int → Int → (List (Int)) → Option ((((Int) × Unit) × (Unit)) × (Unit))
  | 0, _, _, _ => none
  | k + 1, v5, v1, v0 => laws_heldInt64S_t2 n (laws_heldInt64S_l2 n k) v5 v1 v0

noncomputable def laws_heldInt64S_t (n : Nat) (h2 : Nat → Int → Int → (List (Int)) → Option ((((Int) × Unit) × (Unit)) × (Unit))) (a0 : List (Int)) (a1 : Int) : Option ((((Int) × Unit) × (Unit)) × (Unit)) :=
  h2 n 0 a1 a0

noncomputable def laws_heldInt64S (n : Nat) (a0 : List (Int)) (a1 : Int) : Option ((((Int) × Unit) × (Unit)) × (Unit)) := laws_heldInt64S_t n (laws_heldInt64S_l2 n) a0 a1

noncomputable def laws_FnExactShareWhole_t (n : Nat) (a0 : List (Int)) (a1 : Int) : Option ((((Bool) × Unit) × (Unit)) × (Unit)) :=
  cond (decide (((a0.length : Nat) : Int) > 1048576))
  (some ((((true, ()), ()), ())))
  ((laws_toInt64S n a0).bind fun r0 =>
    (spec_ShareWhole n r0.1.1.1 a1).bind fun r1 =>
    (laws_toInt64S n a0).bind fun r2 =>
    (impl_ShareWhole n r2.1.1.1 a1).bind fun r3 =>
    (laws_eqInt64S n r3.1.1.1 r1.1.1.1).bind fun r4 =>
    cond (!r4.1.1.1)
    (some ((((false, ()), ()), ())))
    (cond ((r3.1.2.1.1 != r1.1.2.1.1))
      (some ((((false, ()), ()), ())))
      ((laws_toInt64S n a0).bind fun r5 =>
        (laws_eqInt64S n r2.1.1.1 r5.1.1.1).bind fun r6 =>
        cond (!r6.1.1.1)
        (some ((((false, ()), ()), ())))
        ((laws_markInt64S n 1 r2.1.1.1).bind fun r7 =>
          cond (decide (r7.1.1.1 < 0))
          (some ((((false, ()), ()), ())))
          ((laws_eqInt64S n r3.1.1.1 r1.1.1.1).bind fun r8 =>
            cond (!r8.1.1.1)
            (some ((((false, ()), ()), ())))
            (cond ((r3.1.2.1.1 != r1.1.2.1.1))
              (some ((((false, ()), ()), ())))
              ((laws_markInt64S n 1 r3.1.1.1).bind fun r9 =>
                (laws_heldInt64S n r9.2.1 1).bind fun r10 =>
                cond (decide (r10.1.1.1 < 0))
                (some ((((false, ()), ()), ())))
                (cond ((r10.1.1.1 != r9.1.1.1))
                  (some ((((false, ()), ()), ())))
                  ((laws_toInt64S n a0).bind fun r11 =>
                    (impl_ShareWhole n r11.1.1.1 a1).bind fun r12 =>
                    (laws_eqInt64S n r12.1.1.1 r1.1.1.1).bind fun r13 =>
                    cond (!r13.1.1.1)
                    (some ((((false, ()), ()), ())))
                    (cond ((r12.1.2.1.1 != r1.1.2.1.1))
                      (some ((((false, ()), ()), ())))
                      ((laws_heldInt64S n r9.2.1 1).bind fun r14 =>
                        cond (decide (r14.1.1.1 < 0))
                        (some ((((false, ()), ()), ())))
                        (cond ((r14.1.1.1 != r9.1.1.1))
                          (some ((((false, ()), ()), ())))
                          (some ((((true, ()), ()), ())))))))))))))))

noncomputable def laws_FnExactShareWhole (n : Nat) (a0 : List (Int)) (a1 : Int) : Option ((((Bool) × Unit) × (Unit)) × (Unit)) := laws_FnExactShareWhole_t n a0 a1

noncomputable def impl_gcd_t1 (n : Nat) (g1 : Int → Int → Option ((((Int) × Unit) × (Unit)) × (Unit))) (v1 : Int) (v0 : Int) : Option ((((Int) × Unit) × (Unit)) × (Unit)) :=
  cond ((v1 != 0))
  (cond ((v1 != 0))
    (g1 ((Int.tmod v0 v1)) v1)
    (none))
  (some (((((if v0 < (IntKind.wrap .i64 (0 - v0)) then (IntKind.wrap .i64 (0 - v0)) else v0), ()), ()), ())))

noncomputable def impl_gcd_l1 (n : Nat) : Nat → Int → Int → Option ((((Int) × Unit) × (Unit)) × (Unit))
  | 0, _, _ => none
  | k + 1, v1, v0 => impl_gcd_t1 n (impl_gcd_l1 n k) v1 v0

noncomputable def impl_gcd_t (n : Nat) (h1 : Nat → Int → Int → Option ((((Int) × Unit) × (Unit)) × (Unit))) (a0 : Int) (a1 : Int) : Option ((((Int) × Unit) × (Unit)) × (Unit)) :=
  h1 n a1 a0

noncomputable def impl_gcd (n : Nat) (a0 : Int) (a1 : Int) : Option ((((Int) × Unit) × (Unit)) × (Unit)) := impl_gcd_t n (impl_gcd_l1 n) a0 a1

noncomputable def impl_ValidFrac_t (n : Nat) (a0 : (Int) × (Int)) : Option ((((Bool) × Unit) × (Unit)) × (Unit)) :=
  (impl_within n a0.2 1 1000000000).bind fun r0 =>
  cond r0.1.1.1
  ((impl_within n a0.1 (-1000000000) 1000000000).bind fun r1 =>
    cond r1.1.1.1
    ((impl_gcd n a0.1 a0.2).bind fun r2 =>
      some (((((r2.1.1.1 == 1), ()), ()), ())))
    (some ((((false, ()), ()), ()))))
  (some ((((false, ()), ()), ())))

noncomputable def impl_ValidFrac (n : Nat) (a0 : (Int) × (Int)) : Option ((((Bool) × Unit) × (Unit)) × (Unit)) := impl_ValidFrac_t n a0

noncomputable def impl_calc_one_t (n : Nat) (a1 : (Int) × (Int)) (b0 : Bool) : Option (((((Int) × (Int)) × Unit) × (((Int) × Unit) × (Unit))) × ((Bool) × (Unit))) :=
  cond b0
  (some (((((0, 0), ()), ((3, ()), ())), (b0, ()))))
  (some (((((a1.1, a1.2), ()), ((0, ()), ())), (b0, ()))))

noncomputable def impl_calc_one (n : Nat) (a1 : (Int) × (Int)) (b0 : Bool) : Option (((((Int) × (Int)) × Unit) × (((Int) × Unit) × (Unit))) × ((Bool) × (Unit))) := impl_calc_one_t n a1 b0

noncomputable def impl_fracOf_t (n : Nat) (a0 : Int) (a1 : Int) : Option (((((Int) × (Int)) × Unit) × (((Bool) × Unit) × (Unit))) × (Unit)) :=
  cond (decide (a1 < 0))
  ((impl_gcd n ((IntKind.wrap .i64 (0 - a0))) ((IntKind.wrap .i64 (0 - a1)))).bind fun r0 =>
    cond ((r0.1.1.1 != 0))
    (cond ((r0.1.1.1 != 0))
      ((impl_ValidFrac n (((IntKind.wrap .i64 (Int.tdiv (IntKind.wrap .i64 (0 - a0)) r0.1.1.1)), (IntKind.wrap .i64 (Int.tdiv (IntKind.wrap .i64 (0 - a1)) r0.1.1.1))))).bind fun r1 =>
        cond (!r1.1.1.1)
        (some (((((0, 0), ()), ((false, ()), ())), ())))
        (some ((((((IntKind.wrap .i64 (Int.tdiv (IntKind.wrap .i64 (0 - a0)) r0.1.1.1)), (IntKind.wrap .i64 (Int.tdiv (IntKind.wrap .i64 (0 - a1)) r0.1.1.1))), ()), ((true, ()), ())), ()))))
      (none))
    (none))
  ((impl_gcd n a0 a1).bind fun r2 =>
    cond ((r2.1.1.1 != 0))
    (cond ((r2.1.1.1 != 0))
      ((impl_ValidFrac n (((IntKind.wrap .i64 (Int.tdiv a0 r2.1.1.1)), (IntKind.wrap .i64 (Int.tdiv a1 r2.1.1.1))))).bind fun r3 =>
        cond (!r3.1.1.1)
        (some (((((0, 0), ()), ((false, ()), ())), ())))
        (some ((((((IntKind.wrap .i64 (Int.tdiv a0 r2.1.1.1)), (IntKind.wrap .i64 (Int.tdiv a1 r2.1.1.1))), ()), ((true, ()), ())), ()))))
      (none))
    (none))

noncomputable def impl_fracOf (n : Nat) (a0 : Int) (a1 : Int) : Option (((((Int) × (Int)) × Unit) × (((Bool) × Unit) × (Unit))) × (Unit)) := impl_fracOf_t n a0 a1

noncomputable def impl_zero_t (n : Nat) : Option (((((Int) × (Int)) × Unit) × (Unit)) × (Unit)) :=
  some (((((0, 1), ()), ()), ()))

noncomputable def impl_zero (n : Nat) : Option (((((Int) × (Int)) × Unit) × (Unit)) × (Unit)) := impl_zero_t n

noncomputable def impl_calc_told_t (n : Nat) (a1 : Int) (a2 : Int) (b0 : Bool) : Option (((((Int) × (Int)) × Unit) × (Unit)) × ((Bool) × (Unit))) :=
  (impl_fracOf n a1 a2).bind fun r0 =>
  cond (!r0.1.2.1.1)
  ((impl_zero n).bind fun r1 =>
    some (((((r1.1.1.1.1, r1.1.1.1.2), ()), ()), (true, ()))))
  (some (((((r0.1.1.1.1, r0.1.1.1.2), ()), ()), (b0, ()))))

noncomputable def impl_calc_told (n : Nat) (a1 : Int) (a2 : Int) (b0 : Bool) : Option (((((Int) × (Int)) × Unit) × (Unit)) × ((Bool) × (Unit))) := impl_calc_told_t n a1 a2 b0

noncomputable def impl_isAngle_t (n : Nat) (a0 : Int) : Option ((((Bool) × Unit) × (Unit)) × (Unit)) :=
  (impl_within n a0 0 1295999).bind fun r0 =>
  some ((((r0.1.1.1, ()), ()), ()))

noncomputable def impl_isAngle (n : Nat) (a0 : Int) : Option ((((Bool) × Unit) × (Unit)) × (Unit)) := impl_isAngle_t n a0

noncomputable def impl_wrap_t (n : Nat) (a0 : Int) : Option ((((Int) × Unit) × (Unit)) × (Unit)) :=
  some (((((Int.tmod (IntKind.wrap .i64 ((Int.tmod a0 1296000) + 1296000)) 1296000), ()), ()), ()))

noncomputable def impl_wrap (n : Nat) (a0 : Int) : Option ((((Int) × Unit) × (Unit)) × (Unit)) := impl_wrap_t n a0

noncomputable def impl_turnFrom_t (n : Nat) (a0 : Int) (a1 : Int) : Option ((((Int) × Unit) × (Unit)) × (Unit)) :=
  (impl_wrap n ((IntKind.wrap .i64 (a1 - a0)))).bind fun r0 =>
  cond (decide (r0.1.1.1 > 648000))
  (some (((((IntKind.wrap .i64 (r0.1.1.1 - 1296000)), ()), ()), ())))
  (some ((((r0.1.1.1, ()), ()), ())))

noncomputable def impl_turnFrom (n : Nat) (a0 : Int) (a1 : Int) : Option ((((Int) × Unit) × (Unit)) × (Unit)) := impl_turnFrom_t n a0 a1

noncomputable def laws_eqFrac_t (n : Nat) (a0 : (Int) × (Int)) (a1 : (Int) × (Int)) : Option ((((Bool) × Unit) × (Unit)) × (Unit)) :=
  cond ((a0.1 != a1.1))
  (some ((((false, ()), ()), ())))
  (cond ((a0.2 != a1.2))
    (some ((((false, ()), ()), ())))
    (some ((((true, ()), ()), ()))))

noncomputable def laws_eqFrac (n : Nat) (a0 : (Int) × (Int)) (a1 : (Int) × (Int)) : Option ((((Bool) × Unit) × (Unit)) × (Unit)) := laws_eqFrac_t n a0 a1

noncomputable def spec_l01Abs_t (n : Nat) (a0 : Int) : Option ((((Int) × Unit) × (Unit)) × (Unit)) :=
  cond (decide (a0 < 0))
  (some (((((IntKind.wrap .i64 (0 - a0)), ()), ()), ())))
  (some ((((a0, ()), ()), ())))

noncomputable def spec_l01Abs (n : Nat) (a0 : Int) : Option ((((Int) × Unit) × (Unit)) × (Unit)) := spec_l01Abs_t n a0

noncomputable def spec_l01Gcd_t1 (n : Nat) (g1 : Int → Int → Option ((((Int) × Unit) × (Unit)) × (Unit))) (v1 : Int) (v0 : Int) : Option ((((Int) × Unit) × (Unit)) × (Unit)) :=
  cond ((v1 != 0))
  (cond ((v1 != 0))
    (g1 ((Int.tmod v0 v1)) v1)
    (none))
  (some ((((v0, ()), ()), ())))

noncomputable def spec_l01Gcd_l1 (n : Nat) : Nat → Int → Int → Option ((((Int) × Unit) × (Unit)) × (Unit))
  | 0, _, _ => none
  | k + 1, v1, v0 => spec_l01Gcd_t1 n (spec_l01Gcd_l1 n k) v1 v0

noncomputable def spec_l01Gcd_t (n : Nat) (h1 : Nat → Int → Int → Option ((((Int) × Unit) × (Unit)) × (Unit))) (a0 : Int) (a1 : Int) : Option ((((Int) × Unit) × (Unit)) × (Unit)) :=
  h1 n a1 a0

noncomputable def spec_l01Gcd (n : Nat) (a0 : Int) (a1 : Int) : Option ((((Int) × Unit) × (Unit)) × (Unit)) := spec_l01Gcd_t n (spec_l01Gcd_l1 n) a0 a1

noncomputable def spec_l01Ok_t (n : Nat) (a0 : (Int) × (Int)) : Option ((((Bool) × Unit) × (Unit)) × (Unit)) :=
  (spec_l00In n a0.2 1 1000000000).bind fun r0 =>
  cond r0.1.1.1
  ((spec_l00In n a0.1 (-1000000000) 1000000000).bind fun r1 =>
    cond r1.1.1.1
    ((spec_l01Abs n a0.1).bind fun r2 =>
      (spec_l01Gcd n r2.1.1.1 a0.2).bind fun r3 =>
      some (((((r3.1.1.1 == 1), ()), ()), ())))
    (some ((((false, ()), ()), ()))))
  (some ((((false, ()), ()), ())))

noncomputable def spec_l01Ok (n : Nat) (a0 : (Int) × (Int)) : Option ((((Bool) × Unit) × (Unit)) × (Unit)) := spec_l01Ok_t n a0

noncomputable def spec_l01Reduced_t (n : Nat) (a0 : Int) (a1 : Int) : Option (((((Int) × (Int)) × Unit) × (((Int) × Unit) × (Unit))) × (Unit)) :=
  (spec_l01Abs n a0).bind fun r0 =>
  (spec_l01Abs n a1).bind fun r1 =>
  (spec_l01Gcd n r0.1.1.1 r1.1.1.1).bind fun r2 =>
  cond ((r2.1.1.1 != 0))
  (cond ((r2.1.1.1 != 0))
    (cond (decide ((IntKind.wrap .i64 (Int.tdiv a1 r2.1.1.1)) < 0))
      ((spec_l01Ok n (((IntKind.wrap .i64 (0 - (IntKind.wrap .i64 (Int.tdiv a0 r2.1.1.1)))), (IntKind.wrap .i64 (0 - (IntKind.wrap .i64 (Int.tdiv a1 r2.1.1.1))))))).bind fun r3 =>
        cond (!r3.1.1.1)
        (some (((((0, 0), ()), ((3, ()), ())), ())))
        (some ((((((IntKind.wrap .i64 (0 - (IntKind.wrap .i64 (Int.tdiv a0 r2.1.1.1)))), (IntKind.wrap .i64 (0 - (IntKind.wrap .i64 (Int.tdiv a1 r2.1.1.1))))), ()), ((0, ()), ())), ()))))
      ((spec_l01Ok n (((IntKind.wrap .i64 (Int.tdiv a0 r2.1.1.1)), (IntKind.wrap .i64 (Int.tdiv a1 r2.1.1.1))))).bind fun r4 =>
        cond (!r4.1.1.1)
        (some (((((0, 0), ()), ((3, ()), ())), ())))
        (some ((((((IntKind.wrap .i64 (Int.tdiv a0 r2.1.1.1)), (IntKind.wrap .i64 (Int.tdiv a1 r2.1.1.1))), ()), ((0, ()), ())), ())))))
    (none))
  (none)

noncomputable def spec_l01Reduced (n : Nat) (a0 : Int) (a1 : Int) : Option (((((Int) × (Int)) × Unit) × (((Int) × Unit) × (Unit))) × (Unit)) := spec_l01Reduced_t n a0 a1

noncomputable def spec_l03Angle_t (n : Nat) (a0 : Int) : Option ((((Bool) × Unit) × (Unit)) × (Unit)) :=
  (spec_l00In n a0 0 1295999).bind fun r0 =>
  some ((((r0.1.1.1, ()), ()), ()))

noncomputable def spec_l03Angle (n : Nat) (a0 : Int) : Option ((((Bool) × Unit) × (Unit)) × (Unit)) := spec_l03Angle_t n a0

noncomputable def spec_l03Wrap_t (n : Nat) (a0 : Int) : Option ((((Int) × Unit) × (Unit)) × (Unit)) :=
  cond (decide ((Int.tmod a0 1296000) < 0))
  (some (((((IntKind.wrap .i64 ((Int.tmod a0 1296000) + 1296000)), ()), ()), ())))
  (some (((((Int.tmod a0 1296000), ()), ()), ())))

noncomputable def spec_l03Wrap (n : Nat) (a0 : Int) : Option ((((Int) × Unit) × (Unit)) × (Unit)) := spec_l03Wrap_t n a0

noncomputable def spec_l03Turn_t (n : Nat) (a0 : Int) (a1 : Int) : Option ((((Int) × Unit) × (Unit)) × (Unit)) :=
  (spec_l03Wrap n ((IntKind.wrap .i64 (a1 - a0)))).bind fun r0 =>
  cond (decide (r0.1.1.1 > 648000))
  (some (((((IntKind.wrap .i64 (r0.1.1.1 - 1296000)), ()), ()), ())))
  (some ((((r0.1.1.1, ()), ()), ())))

noncomputable def spec_l03Turn (n : Nat) (a0 : Int) (a1 : Int) : Option ((((Int) × Unit) × (Unit)) × (Unit)) := spec_l03Turn_t n a0 a1

end Go.Abs
