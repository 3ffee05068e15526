import Derived.Test.YtpegljncdjkhgaaLib
namespace Go.Abs
set_option linter.unusedVariables false

noncomputable def impl_gcd_t1 (n : Nat) (g1 : Int → Int → Option ((((Int) × (Unit)) × (Unit)) × (Unit))) (v1 : Int) (v0 : Int) : Option ((((Int) × (Unit)) × (Unit)) × (Unit)) :=
  cond ((v1 != 0))
  (cond ((v1 != 0))
    (g1 ((Int.tmod v0 v1)) v1)
    (none))
  (some (((((if v0 < (IntKind.wrap .i64 (0 - v0)) then (IntKind.wrap .i64 (0 - v0)) else v0), ()), ()), ())))

noncomputable def impl_gcd_l1 (n : Nat) : Nat → Int → Int → Option ((((Int) × (Unit)) × (Unit)) × (Unit))
  | 0, _, _ => none
  | k + 1, v1, v0 => impl_gcd_t1 n (impl_gcd_l1 n k) v1 v0

noncomputable def impl_gcd_t (n : Nat) (h1 : Nat → Int → Int → Option ((((Int) × (Unit)) × (Unit)) × (Unit))) (a0 : Int) (a1 : Int) : Option ((((Int) × (Unit)) × (Unit)) × (Unit)) :=
  h1 n a1 a0

noncomputable def impl_gcd (n : Nat) (a0 : Int) (a1 : Int) : Option ((((Int) × (Unit)) × (Unit)) × (Unit)) := impl_gcd_t n (impl_gcd_l1 n) a0 a1

noncomputable def impl_within_t (n : Nat) (a0 : Int) (a1 : Int) (a2 : Int) : Option ((((Bool) × (Unit)) × (Unit)) × (Unit)) :=
  cond (decide (a1 ≤ a0))
  (some ((((decide (a0 ≤ a2), ()), ()), ())))
  (some ((((false, ()), ()), ())))

noncomputable def impl_within (n : Nat) (a0 : Int) (a1 : Int) (a2 : Int) : Option ((((Bool) × (Unit)) × (Unit)) × (Unit)) := impl_within_t n a0 a1 a2

noncomputable def impl_ValidFrac_t (n : Nat) (a0 : (Int) × (Int)) : Option ((((Bool) × (Unit)) × (Unit)) × (Unit)) :=
  (impl_within n a0.2 1 1000000000).bind fun r0 =>
  cond r0.1.1.1
  ((impl_within n a0.1 (-1000000000) 1000000000).bind fun r1 =>
    cond r1.1.1.1
    ((impl_gcd n a0.1 a0.2).bind fun r2 =>
      some (((((r2.1.1.1 == 1), ()), ()), ())))
    (some ((((false, ()), ()), ()))))
  (some ((((false, ()), ()), ())))

noncomputable def impl_ValidFrac (n : Nat) (a0 : (Int) × (Int)) : Option ((((Bool) × (Unit)) × (Unit)) × (Unit)) := impl_ValidFrac_t n a0

noncomputable def impl_ValidTable_t8 (n : Nat) (g4 : Int → (List (((Int) × ((Int) × ((Int) × ((Int) × ((Int) × (Int)))))) × (((Int) × (Int)) × (Int)))) → Int → Int → (List (((Int) × ((Int) × ((Int) × ((Int) × ((Int) × (Int)))))) × (((Int) × (Int)) × (Int)))) → Bool → Int → Int → Option ((((Bool) × (Unit)) × (Unit)) × (Unit))) (g8 : Int → Bool → Int → Int → Int → Int → Int → Int → (List (((Int) × ((Int) × ((Int) × ((Int) × ((Int) × (Int)))))) × (((Int) × (Int)) × (Int)))) → Int → Int → Int → (List (((Int) × ((Int) × ((Int) × ((Int) × ((Int) × (Int)))))) × (((Int) × (Int)) × (Int)))) → Bool → Int → Int → Int → Int → Int → Int → Int → Int → Int → Int → Int → Option ((((Bool) × (Unit)) × (Unit)) × (Unit))) (v44 : Int) (v5 : Bool) (v43_0 : Int) (v43_1 : Int) (v43_2 : Int) (v43_3 : Int) (v43_4 : Int) (v43_5 : Int) (v36 : List (((Int) × ((Int) × ((Int) × ((Int) × ((Int) × (Int)))))) × (((Int) × (Int)) × (Int)))) (v37 : Int) (v38 : Int) (b0_0 : Int) (b0_1 : List (((Int) × ((Int) × ((Int) × ((Int) × ((Int) × (Int)))))) × (((Int) × (Int)) × (Int)))) (b0_2 : Bool) (b0_3 : Int) (b0_4 : Int) (b1_0 : Int) (b1_1 : Int) (b1_2 : Int) (b1_3 : Int) (b1_4 : Int) (b1_5 : Int) (b1_6 : Int) (b1_7 : Int) (b1_8 : Int) : Option ((((Bool) × (Unit)) × (Unit)) × (Unit)) :=
  cond (decide (v44 < 6))
  (cond ((decide (0 ≤ v44) && decide (v44 < 6)))
    ((impl_within n ((IntKind.wrap .i64 (cond (Nat.beq (Int.toNat v44) 0) v43_0 (cond (Nat.beq ((Int.toNat v44) - 1) 0) v43_1 (cond (Nat.beq (((Int.toNat v44) - 1) - 1) 0) v43_2 (cond (Nat.beq ((((Int.toNat v44) - 1) - 1) - 1) 0) v43_3 (cond (Nat.beq (((((Int.toNat v44) - 1) - 1) - 1) - 1) 0) v43_4 (cond (Nat.beq ((((((Int.toNat v44) - 1) - 1) - 1) - 1) - 1) 0) v43_5 0)))))))) (-3) 3).bind fun r2 =>
      cond (!r2.1.1.1)
      (some ((((false, ()), ()), ())))
      (cond (((cond (Nat.beq (Int.toNat v44) 0) v43_0 (cond (Nat.beq ((Int.toNat v44) - 1) 0) v43_1 (cond (Nat.beq (((Int.toNat v44) - 1) - 1) 0) v43_2 (cond (Nat.beq ((((Int.toNat v44) - 1) - 1) - 1) 0) v43_3 (cond (Nat.beq (((((Int.toNat v44) - 1) - 1) - 1) - 1) 0) v43_4 (cond (Nat.beq ((((((Int.toNat v44) - 1) - 1) - 1) - 1) - 1) 0) v43_5 0)))))) != 0))
        (cond (decide (v44 ≥ b0_0))
          (some ((((false, ()), ()), ())))
          (cond v5
            (g8 ((IntKind.wrap .i64 (v44 + 1))) true v43_0 v43_1 v43_2 v43_3 v43_4 v43_5 v36 v37 v38 b0_0 b0_1 b0_2 b0_3 b0_4 b1_0 b1_1 b1_2 b1_3 b1_4 b1_5 b1_6 b1_7 b1_8)
            (g8 ((IntKind.wrap .i64 (v44 + 1))) (((cond (Nat.beq (Int.toNat v44) 0) v43_0 (cond (Nat.beq ((Int.toNat v44) - 1) 0) v43_1 (cond (Nat.beq (((Int.toNat v44) - 1) - 1) 0) v43_2 (cond (Nat.beq ((((Int.toNat v44) - 1) - 1) - 1) 0) v43_3 (cond (Nat.beq (((((Int.toNat v44) - 1) - 1) - 1) - 1) 0) v43_4 (cond (Nat.beq ((((((Int.toNat v44) - 1) - 1) - 1) - 1) - 1) 0) v43_5 0)))))) != 0)) v43_0 v43_1 v43_2 v43_3 v43_4 v43_5 v36 v37 v38 b0_0 b0_1 b0_2 b0_3 b0_4 b1_0 b1_1 b1_2 b1_3 b1_4 b1_5 b1_6 b1_7 b1_8)))
        (cond v5
          (g8 ((IntKind.wrap .i64 (v44 + 1))) true v43_0 v43_1 v43_2 v43_3 v43_4 v43_5 v36 v37 v38 b0_0 b0_1 b0_2 b0_3 b0_4 b1_0 b1_1 b1_2 b1_3 b1_4 b1_5 b1_6 b1_7 b1_8)
          (g8 ((IntKind.wrap .i64 (v44 + 1))) (((cond (Nat.beq (Int.toNat v44) 0) v43_0 (cond (Nat.beq ((Int.toNat v44) - 1) 0) v43_1 (cond (Nat.beq (((Int.toNat v44) - 1) - 1) 0) v43_2 (cond (Nat.beq ((((Int.toNat v44) - 1) - 1) - 1) 0) v43_3 (cond (Nat.beq (((((Int.toNat v44) - 1) - 1) - 1) - 1) 0) v43_4 (cond (Nat.beq ((((((Int.toNat v44) - 1) - 1) - 1) - 1) - 1) 0) v43_5 0)))))) != 0)) v43_0 v43_1 v43_2 v43_3 v43_4 v43_5 v36 v37 v38 b0_0 b0_1 b0_2 b0_3 b0_4 b1_0 b1_1 b1_2 b1_3 b1_4 b1_5 b1_6 b1_7 b1_8))))
    (none))
  (cond (!v5)
    (some ((((false, ()), ()), ())))
    ((impl_ValidFrac n ((b1_6, b1_7))).bind fun r3 =>
      cond (!r3.1.1.1)
      (some ((((false, ()), ()), ())))
      ((impl_within n b1_8 1 100).bind fun r4 =>
        cond (!r4.1.1.1)
        (some ((((false, ()), ()), ())))
        (g4 ((IntKind.wrap .i64 (v38 + 1))) v36 v37 b0_0 b0_1 b0_2 b0_3 b0_4))))

noncomputable def impl_ValidTable_l8 (n : Nat) (g4 : Int → (List (((Int) × ((Int) × ((Int) × ((Int) × ((Int) × (Int)))))) × (((Int) × (Int)) × (Int)))) → Int → Int → (List (((Int) × ((Int) × ((Int) × ((Int) × ((Int) × (Int)))))) × (((Int) × (Int)) × (Int)))) → Bool → Int → Int → Option ((((Bool) × (Unit)) × (Unit)) × (Unit))) : Nat → Int → Bool → Int → Int → Int → Int → Int → Int → (List (((Int) × ((Int) × ((Int) × ((Int) × ((Int) × (Int)))))) × (((Int) × (Int)) × (Int)))) → Int → Int → Int → (List (((Int) × ((Int) × ((Int) × ((Int) × ((Int) × (Int)))))) × (((Int) × (Int)) × (Int)))) → Bool → Int → Int → Int → Int → Int → Int → Int → Int → Int → Int → Int → Option ((((Bool) × (Unit)) × (Unit)) × (Unit))
  | 0, _, _, _, _, _, _, _, _, _, _, _, _, _, _, _, _, _, _, _, _, _, _, _, _, _ => none
  | k + 1, v44, v5, v43_0, v43_1, v43_2, v43_3, v43_4, v43_5, v36, v37, v38, b0_0, b0_1, b0_2, b0_3, b0_4, b1_0, b1_1, b1_2, b1_3, b1_4, b1_5, b1_6, b1_7, b1_8 => impl_ValidTable_t8 n g4 (impl_ValidTable_l8 n g4 k) v44 v5 v43_0 v43_1 v43_2 v43_3 v43_4 v43_5 v36 v37 v38 b0_0 b0_1 b0_2 b0_3 b0_4 b1_0 b1_1 b1_2 b1_3 b1_4 b1_5 b1_6 b1_7 b1_8

noncomputable def impl_ValidTable_t4 (n : Nat) (h8 : Nat → Int → Bool → Int → Int → Int → Int → Int → Int → (List (((Int) × ((Int) × ((Int) × ((Int) × ((Int) × (Int)))))) × (((Int) × (Int)) × (Int)))) → Int → Int → Int → (List (((Int) × ((Int) × ((Int) × ((Int) × ((Int) × (Int)))))) × (((Int) × (Int)) × (Int)))) → Bool → Int → Int → Int → Int → Int → Int → Int → Int → Int → Int → Int → Option ((((Bool) × (Unit)) × (Unit)) × (Unit))) (g4 : Int → (List (((Int) × ((Int) × ((Int) × ((Int) × ((Int) × (Int)))))) × (((Int) × (Int)) × (Int)))) → Int → Int → (List (((Int) × ((Int) × ((Int) × ((Int) × ((Int) × (Int)))))) × (((Int) × (Int)) × (Int)))) → Bool → Int → Int → Option ((((Bool) × (Unit)) × (Unit)) × (Unit))) (v38 : Int) (v36 : List (((Int) × ((Int) × ((Int) × ((Int) × ((Int) × (Int)))))) × (((Int) × (Int)) × (Int)))) (v37 : Int) (b0_0 : Int) (b0_1 : List (((Int) × ((Int) × ((Int) × ((Int) × ((Int) × (Int)))))) × (((Int) × (Int)) × (Int)))) (b0_2 : Bool) (b0_3 : Int) (b0_4 : Int) : Option ((((Bool) × (Unit)) × (Unit)) × (Unit)) :=
  cond (decide (v38 < v37))
  (cond ((decide (0 ≤ v38) && decide (v38 < ((v36.length : Nat) : Int))))
    (h8 n 0 false ((v36.getD (Int.toNat v38) ((0, (0, (0, (0, (0, 0))))), ((0, 0), 0))).1.1) ((v36.getD (Int.toNat v38) ((0, (0, (0, (0, (0, 0))))), ((0, 0), 0))).1.2.1) ((v36.getD (Int.toNat v38) ((0, (0, (0, (0, (0, 0))))), ((0, 0), 0))).1.2.2.1) ((v36.getD (Int.toNat v38) ((0, (0, (0, (0, (0, 0))))), ((0, 0), 0))).1.2.2.2.1) ((v36.getD (Int.toNat v38) ((0, (0, (0, (0, (0, 0))))), ((0, 0), 0))).1.2.2.2.2.1) ((v36.getD (Int.toNat v38) ((0, (0, (0, (0, (0, 0))))), ((0, 0), 0))).1.2.2.2.2.2) v36 v37 v38 b0_0 b0_1 b0_2 b0_3 b0_4 ((v36.getD (Int.toNat v38) ((0, (0, (0, (0, (0, 0))))), ((0, 0), 0))).1.1) ((v36.getD (Int.toNat v38) ((0, (0, (0, (0, (0, 0))))), ((0, 0), 0))).1.2.1) ((v36.getD (Int.toNat v38) ((0, (0, (0, (0, (0, 0))))), ((0, 0), 0))).1.2.2.1) ((v36.getD (Int.toNat v38) ((0, (0, (0, (0, (0, 0))))), ((0, 0), 0))).1.2.2.2.1) ((v36.getD (Int.toNat v38) ((0, (0, (0, (0, (0, 0))))), ((0, 0), 0))).1.2.2.2.2.1) ((v36.getD (Int.toNat v38) ((0, (0, (0, (0, (0, 0))))), ((0, 0), 0))).1.2.2.2.2.2) ((v36.getD (Int.toNat v38) ((0, (0, (0, (0, (0, 0))))), ((0, 0), 0))).2.1.1) ((v36.getD (Int.toNat v38) ((0, (0, (0, (0, (0, 0))))), ((0, 0), 0))).2.1.2) ((v36.getD (Int.toNat v38) ((0, (0, (0, (0, (0, 0))))), ((0, 0), 0))).2.2))
    (none))
  (some ((((true, ()), ()), ())))

noncomputable def impl_ValidTable_l4 (n : Nat) : Nat → Int → (List (((Int) × ((Int) × ((Int) × ((Int) × ((Int) × (Int)))))) × (((Int) × (Int)) × (Int)))) → Int → Int → (List (((Int) × ((Int) × ((Int) × ((Int) × ((Int) × (Int)))))) × (((Int) × (Int)) × (Int)))) → Bool → Int → Int → Option ((((Bool) × (Unit)) × (Unit)) × (Unit))
  | 0, _, _, _, _, _, _, _, _ => none
  | k + 1, v38, v36, v37, b0_0, b0_1, b0_2, b0_3, b0_4 => impl_ValidTable_t4 n (impl_ValidTable_l8 n (impl_ValidTable_l4 n k)) (impl_ValidTable_l4 n k) v38 v36 v37 b0_0 b0_1 b0_2 b0_3 b0_4

noncomputable def impl_ValidTable_t (n : Nat) (h4 : Nat → Int → (List (((Int) × ((Int) × ((Int) × ((Int) × ((Int) × (Int)))))) × (((Int) × (Int)) × (Int)))) → Int → Int → (List (((Int) × ((Int) × ((Int) × ((Int) × ((Int) × (Int)))))) × (((Int) × (Int)) × (Int)))) → Bool → Int → Int → Option ((((Bool) × (Unit)) × (Unit)) × (Unit))) (a0 : (Int) × ((List (((Int) × ((Int) × ((Int) × ((Int) × ((Int) × (Int)))))) × (((Int) × (Int)) × (Int)))) × ((Bool) × ((Int) × (Int))))) : Option ((((Bool) × (Unit)) × (Unit)) × (Unit)) :=
  (impl_within n a0.1 1 6).bind fun r0 =>
  cond (!r0.1.1.1)
  (some ((((false, ()), ()), ())))
  (cond (decide (((a0.2.1.length : Nat) : Int) > 24))
    (some ((((false, ()), ()), ())))
    ((impl_ValidFrac n ((a0.2.2.2.1, a0.2.2.2.2))).bind fun r1 =>
      cond (!r1.1.1.1)
      (some ((((false, ()), ()), ())))
      (cond (!a0.2.2.1)
        (cond ((a0.2.2.2.1 != 0))
          (some ((((false, ()), ()), ())))
          (h4 n 0 a0.2.1 (((a0.2.1.length : Nat) : Int)) a0.1 a0.2.1 a0.2.2.1 a0.2.2.2.1 a0.2.2.2.2))
        (h4 n 0 a0.2.1 (((a0.2.1.length : Nat) : Int)) a0.1 a0.2.1 a0.2.2.1 a0.2.2.2.1 a0.2.2.2.2))))

noncomputable def impl_ValidTable (n : Nat) (a0 : (Int) × ((List (((Int) × ((Int) × ((Int) × ((Int) × ((Int) × (Int)))))) × (((Int) × (Int)) × (Int)))) × ((Bool) × ((Int) × (Int))))) : Option ((((Bool) × (Unit)) × (Unit)) × (Unit)) := impl_ValidTable_t n (impl_ValidTable_l4 n) a0

noncomputable def slices_Clone_impl_Obs_impl_Obs_t (n : Nat) (a0 : List (((Int) × ((Int) × ((Int) × ((Int) × ((Int) × (Int)))))) × (((Int) × (Int)) × (Int)))) : Option ((((List (((Int) × ((Int) × ((Int) × ((Int) × ((Int) × (Int)))))) × (((Int) × (Int)) × (Int)))) × (Unit)) × (Unit)) × (Unit)) :=
  cond ((emptyL a0))
  (eith
    (some (((([], ()), ()), ())))
    (cond (decide (((0 + a0.length) * 33) ≤ 70368744177664))
      (some ((((([] ++ a0), ()), ()), ())))
      (none)))
  (cond (decide (((0 + a0.length) * 33) ≤ 70368744177664))
    (some ((((([] ++ a0), ()), ()), ())))
    (none))

noncomputable def slices_Clone_impl_Obs_impl_Obs (n : Nat) (a0 : List (((Int) × ((Int) × ((Int) × ((Int) × ((Int) × (Int)))))) × (((Int) × (Int)) × (Int)))) : Option ((((List (((Int) × ((Int) × ((Int) × ((Int) × ((Int) × (Int)))))) × (((Int) × (Int)) × (Int)))) × (Unit)) × (Unit)) × (Unit)) := slices_Clone_impl_Obs_impl_Obs_t n a0

noncomputable def slices_Delete_impl_Obs_impl_Obs_t (n : Nat) (a1 : Int) (a2 : Int) (b0 : List (((Int) × ((Int) × ((Int) × ((Int) × ((Int) × (Int)))))) × (((Int) × (Int)) × (Int)))) : Option ((((Nat) × (Unit)) × (Unit)) × ((List (((Int) × ((Int) × ((Int) × ((Int) × ((Int) × (Int)))))) × (((Int) × (Int)) × (Int)))) × (Unit))) :=
  cond ((((decide (0 ≤ a1) && decide (a1 ≤ a2)) && decide (a2 ≤ ((b0.length : Nat) : Int))) && decide (((b0.length : Nat) : Int) ≤ ((b0.length : Nat) : Int))))
  (cond ((a1 == a2))
    (some ((((b0.length, ()), ()), (b0, ()))))
    (cond ((decide (0 ≤ a1) && decide (a1 ≤ ((b0.length : Nat) : Int))))
      (cond (((decide (0 ≤ a2) && decide (a2 ≤ ((b0.length : Nat) : Int))) && decide (((b0.length : Nat) : Int) ≤ ((b0.length : Nat) : Int))))
        (cond ((decide (((0 + ((b0.drop 0).take ((Int.toNat a1) - (Int.toNat 0))).length) + ((b0.drop (Int.toNat a2)).take ((Int.toNat ((b0.length : Nat) : Int)) - (Int.toNat a2))).length) ≤ b0.length)))
          (cond (((decide (0 ≤ (((((copyL b0 (0 + ((b0.drop 0).take ((Int.toNat a1) - (Int.toNat 0))).length) ((b0.drop (Int.toNat a2)).take ((Int.toNat ((b0.length : Nat) : Int)) - (Int.toNat a2))).length ((b0.drop (Int.toNat a2)).take ((Int.toNat ((b0.length : Nat) : Int)) - (Int.toNat a2)))).drop 0).take (((b0.drop 0).take ((Int.toNat a1) - (Int.toNat 0))).length + ((b0.drop (Int.toNat a2)).take ((Int.toNat ((b0.length : Nat) : Int)) - (Int.toNat a2))).length)).length : Nat) : Int)) && decide ((((((copyL b0 (0 + ((b0.drop 0).take ((Int.toNat a1) - (Int.toNat 0))).length) ((b0.drop (Int.toNat a2)).take ((Int.toNat ((b0.length : Nat) : Int)) - (Int.toNat a2))).length ((b0.drop (Int.toNat a2)).take ((Int.toNat ((b0.length : Nat) : Int)) - (Int.toNat a2)))).drop 0).take (((b0.drop 0).take ((Int.toNat a1) - (Int.toNat 0))).length + ((b0.drop (Int.toNat a2)).take ((Int.toNat ((b0.length : Nat) : Int)) - (Int.toNat a2))).length)).length : Nat) : Int) ≤ ((b0.length : Nat) : Int))) && decide (((b0.length : Nat) : Int) ≤ ((((copyL b0 (0 + ((b0.drop 0).take ((Int.toNat a1) - (Int.toNat 0))).length) ((b0.drop (Int.toNat a2)).take ((Int.toNat ((b0.length : Nat) : Int)) - (Int.toNat a2))).length ((b0.drop (Int.toNat a2)).take ((Int.toNat ((b0.length : Nat) : Int)) - (Int.toNat a2)))).length - 0) : Nat) : Int))))
            (some (((((((b0.drop 0).take ((Int.toNat a1) - (Int.toNat 0))).length + ((b0.drop (Int.toNat a2)).take ((Int.toNat ((b0.length : Nat) : Int)) - (Int.toNat a2))).length), ()), ()), ((copyL (copyL b0 (0 + ((b0.drop 0).take ((Int.toNat a1) - (Int.toNat 0))).length) ((b0.drop (Int.toNat a2)).take ((Int.toNat ((b0.length : Nat) : Int)) - (Int.toNat a2))).length ((b0.drop (Int.toNat a2)).take ((Int.toNat ((b0.length : Nat) : Int)) - (Int.toNat a2)))) (0 + (Int.toNat (((((copyL b0 (0 + ((b0.drop 0).take ((Int.toNat a1) - (Int.toNat 0))).length) ((b0.drop (Int.toNat a2)).take ((Int.toNat ((b0.length : Nat) : Int)) - (Int.toNat a2))).length ((b0.drop (Int.toNat a2)).take ((Int.toNat ((b0.length : Nat) : Int)) - (Int.toNat a2)))).drop 0).take (((b0.drop 0).take ((Int.toNat a1) - (Int.toNat 0))).length + ((b0.drop (Int.toNat a2)).take ((Int.toNat ((b0.length : Nat) : Int)) - (Int.toNat a2))).length)).length : Nat) : Int))) (((copyL b0 (0 + ((b0.drop 0).take ((Int.toNat a1) - (Int.toNat 0))).length) ((b0.drop (Int.toNat a2)).take ((Int.toNat ((b0.length : Nat) : Int)) - (Int.toNat a2))).length ((b0.drop (Int.toNat a2)).take ((Int.toNat ((b0.length : Nat) : Int)) - (Int.toNat a2)))).drop (0 + (Int.toNat (((((copyL b0 (0 + ((b0.drop 0).take ((Int.toNat a1) - (Int.toNat 0))).length) ((b0.drop (Int.toNat a2)).take ((Int.toNat ((b0.length : Nat) : Int)) - (Int.toNat a2))).length ((b0.drop (Int.toNat a2)).take ((Int.toNat ((b0.length : Nat) : Int)) - (Int.toNat a2)))).drop 0).take (((b0.drop 0).take ((Int.toNat a1) - (Int.toNat 0))).length + ((b0.drop (Int.toNat a2)).take ((Int.toNat ((b0.length : Nat) : Int)) - (Int.toNat a2))).length)).length : Nat) : Int)))).take ((Int.toNat ((b0.length : Nat) : Int)) - (Int.toNat (((((copyL b0 (0 + ((b0.drop 0).take ((Int.toNat a1) - (Int.toNat 0))).length) ((b0.drop (Int.toNat a2)).take ((Int.toNat ((b0.length : Nat) : Int)) - (Int.toNat a2))).length ((b0.drop (Int.toNat a2)).take ((Int.toNat ((b0.length : Nat) : Int)) - (Int.toNat a2)))).drop 0).take (((b0.drop 0).take ((Int.toNat a1) - (Int.toNat 0))).length + ((b0.drop (Int.toNat a2)).take ((Int.toNat ((b0.length : Nat) : Int)) - (Int.toNat a2))).length)).length : Nat) : Int)))).length (List.replicate (((copyL b0 (0 + ((b0.drop 0).take ((Int.toNat a1) - (Int.toNat 0))).length) ((b0.drop (Int.toNat a2)).take ((Int.toNat ((b0.length : Nat) : Int)) - (Int.toNat a2))).length ((b0.drop (Int.toNat a2)).take ((Int.toNat ((b0.length : Nat) : Int)) - (Int.toNat a2)))).drop (0 + (Int.toNat (((((copyL b0 (0 + ((b0.drop 0).take ((Int.toNat a1) - (Int.toNat 0))).length) ((b0.drop (Int.toNat a2)).take ((Int.toNat ((b0.length : Nat) : Int)) - (Int.toNat a2))).length ((b0.drop (Int.toNat a2)).take ((Int.toNat ((b0.length : Nat) : Int)) - (Int.toNat a2)))).drop 0).take (((b0.drop 0).take ((Int.toNat a1) - (Int.toNat 0))).length + ((b0.drop (Int.toNat a2)).take ((Int.toNat ((b0.length : Nat) : Int)) - (Int.toNat a2))).length)).length : Nat) : Int)))).take ((Int.toNat ((b0.length : Nat) : Int)) - (Int.toNat (((((copyL b0 (0 + ((b0.drop 0).take ((Int.toNat a1) - (Int.toNat 0))).length) ((b0.drop (Int.toNat a2)).take ((Int.toNat ((b0.length : Nat) : Int)) - (Int.toNat a2))).length ((b0.drop (Int.toNat a2)).take ((Int.toNat ((b0.length : Nat) : Int)) - (Int.toNat a2)))).drop 0).take (((b0.drop 0).take ((Int.toNat a1) - (Int.toNat 0))).length + ((b0.drop (Int.toNat a2)).take ((Int.toNat ((b0.length : Nat) : Int)) - (Int.toNat a2))).length)).length : Nat) : Int)))).length (((0, (0, (0, (0, (0, 0))))), ((0, 0), 0)) : ((Int) × ((Int) × ((Int) × ((Int) × ((Int) × (Int)))))) × (((Int) × (Int)) × (Int))))), ()))))
            (none))
          (none))
        (none))
      (none)))
  (none)

noncomputable def slices_Delete_impl_Obs_impl_Obs (n : Nat) (a1 : Int) (a2 : Int) (b0 : List (((Int) × ((Int) × ((Int) × ((Int) × ((Int) × (Int)))))) × (((Int) × (Int)) × (Int)))) : Option ((((Nat) × (Unit)) × (Unit)) × ((List (((Int) × ((Int) × ((Int) × ((Int) × ((Int) × (Int)))))) × (((Int) × (Int)) × (Int)))) × (Unit))) := slices_Delete_impl_Obs_impl_Obs_t n a1 a2 b0

noncomputable def impl_WithoutObs_t (n : Nat) (a0 : (Int) × ((List (((Int) × ((Int) × ((Int) × ((Int) × ((Int) × (Int)))))) × (((Int) × (Int)) × (Int)))) × ((Bool) × ((Int) × (Int))))) (a1 : Int) : Option ((((Int) × ((List (((Int) × ((Int) × ((Int) × ((Int) × ((Int) × (Int)))))) × (((Int) × (Int)) × (Int)))) × (((Bool) × ((Int) × (Int))) × (Unit)))) × (((Int) × (Unit)) × (Unit))) × (Unit)) :=
  (impl_ValidTable n ((a0.1, (a0.2.1, (a0.2.2.1, (a0.2.2.2.1, a0.2.2.2.2)))))).bind fun r0 =>
  cond (!r0.1.1.1)
  (some ((((0, ([], ((false, (0, 0)), ()))), ((1, ()), ())), ())))
  ((impl_within n a1 0 ((IntKind.wrap .i64 (((a0.2.1.length : Nat) : Int) - 1)))).bind fun r1 =>
    cond (!r1.1.1.1)
    (some ((((0, ([], ((false, (0, 0)), ()))), ((2, ()), ())), ())))
    ((slices_Clone_impl_Obs_impl_Obs n a0.2.1).bind fun r2 =>
      (slices_Delete_impl_Obs_impl_Obs n a1 ((IntKind.wrap .i64 (a1 + 1))) r2.1.1.1).bind fun r3 =>
      some ((((a0.1, (((r3.2.1.drop 0).take r3.1.1.1), ((a0.2.2.1, (a0.2.2.2.1, a0.2.2.2.2)), ()))), ((0, ()), ())), ()))))

noncomputable def impl_WithoutObs (n : Nat) (a0 : (Int) × ((List (((Int) × ((Int) × ((Int) × ((Int) × ((Int) × (Int)))))) × (((Int) × (Int)) × (Int)))) × ((Bool) × ((Int) × (Int))))) (a1 : Int) : Option ((((Int) × ((List (((Int) × ((Int) × ((Int) × ((Int) × ((Int) × (Int)))))) × (((Int) × (Int)) × (Int)))) × (((Bool) × ((Int) × (Int))) × (Unit)))) × (((Int) × (Unit)) × (Unit))) × (Unit)) := impl_WithoutObs_t n a0 a1

noncomputable def laws_eqFrac_t (n : Nat) (a0 : (Int) × (Int)) (a1 : (Int) × (Int)) : Option ((((Bool) × (Unit)) × (Unit)) × (Unit)) :=
  cond ((a0.1 != a1.1))
  (some ((((false, ()), ()), ())))
  (cond ((a0.2 != a1.2))
    (some ((((false, ()), ()), ())))
    (some ((((true, ()), ()), ()))))

noncomputable def laws_eqFrac (n : Nat) (a0 : (Int) × (Int)) (a1 : (Int) × (Int)) : Option ((((Bool) × (Unit)) × (Unit)) × (Unit)) := laws_eqFrac_t n a0 a1

noncomputable def laws_eqInt8A6_t2 (n : Nat) (g2 : Int → Int → Int → Int → Int → Int → Int → Int → Int → Int → Int → Int → Int → Option ((((Bool) × (Unit)) × (Unit)) × (Unit))) (v5 : Int) (b0_0 : Int) (b0_1 : Int) (b0_2 : Int) (b0_3 : Int) (b0_4 : Int) (b0_5 : Int) (b1_0 : Int) (b1_1 : Int) (b1_2 : Int) (b1_3 : Int) (b1_4 : Int) (b1_5 : Int) : Option ((((Bool) × (Unit)) × (Unit)) × (Unit)) :=
  cond (decide (v5 < 6))
  (cond ((decide (0 ≤ v5) && decide (v5 < 6)))
    (cond ((decide (0 ≤ v5) && decide (v5 < 6)))
      (cond (((cond (Nat.beq (Int.toNat v5) 0) b1_0 (cond (Nat.beq ((Int.toNat v5) - 1) 0) b1_1 (cond (Nat.beq (((Int.toNat v5) - 1) - 1) 0) b1_2 (cond (Nat.beq ((((Int.toNat v5) - 1) - 1) - 1) 0) b1_3 (cond (Nat.beq (((((Int.toNat v5) - 1) - 1) - 1) - 1) 0) b1_4 (cond (Nat.beq ((((((Int.toNat v5) - 1) - 1) - 1) - 1) - 1) 0) b1_5 0)))))) != (cond (Nat.beq (Int.toNat v5) 0) b0_0 (cond (Nat.beq ((Int.toNat v5) - 1) 0) b0_1 (cond (Nat.beq (((Int.toNat v5) - 1) - 1) 0) b0_2 (cond (Nat.beq ((((Int.toNat v5) - 1) - 1) - 1) 0) b0_3 (cond (Nat.beq (((((Int.toNat v5) - 1) - 1) - 1) - 1) 0) b0_4 (cond (Nat.beq ((((((Int.toNat v5) - 1) - 1) - 1) - 1) - 1) 0) b0_5 0))))))))
        (some ((((false, ()), ()), ())))
        (g2 ((IntKind.wrap .i64 (v5 + 1))) b0_0 b0_1 b0_2 b0_3 b0_4 b0_5 b1_0 b1_1 b1_2 b1_3 b1_4 b1_5))
      (none))
    (none))
  (some ((((true, ()), ()), ())))

noncomputable def laws_eqInt8A6_l2 (n : Nat) : Nat → Int → Int → Int → Int → Int → Int → Int → Int → Int → Int → Int → Int → Int → Option ((((Bool) × (Unit)) × (Unit)) × (Unit))
  | 0, _, _, _, _, _, _, _, _, _, _, _, _, _ => none
  | k + 1, v5, b0_0, b0_1, b0_2, b0_3, b0_4, b0_5, b1_0, b1_1, b1_2, b1_3, b1_4, b1_5 => laws_eqInt8A6_t2 n (laws_eqInt8A6_l2 n k) v5 b0_0 b0_1 b0_2 b0_3 b0_4 b0_5 b1_0 b1_1 b1_2 b1_3 b1_4 b1_5

noncomputable def laws_eqInt8A6_t (n : Nat) (h2 : Nat → Int → Int → Int → Int → Int → Int → Int → Int → Int → Int → Int → Int → Int → Option ((((Bool) × (Unit)) × (Unit)) × (Unit))) (a0 : (Int) × ((Int) × ((Int) × ((Int) × ((Int) × (Int)))))) (a1 : (Int) × ((Int) × ((Int) × ((Int) × ((Int) × (Int)))))) : Option ((((Bool) × (Unit)) × (Unit)) × (Unit)) :=
  h2 n 0 a1.1 a1.2.1 a1.2.2.1 a1.2.2.2.1 a1.2.2.2.2.1 a1.2.2.2.2.2 a0.1 a0.2.1 a0.2.2.1 a0.2.2.2.1 a0.2.2.2.2.1 a0.2.2.2.2.2

noncomputable def laws_eqInt8A6 (n : Nat) (a0 : (Int) × ((Int) × ((Int) × ((Int) × ((Int) × (Int)))))) (a1 : (Int) × ((Int) × ((Int) × ((Int) × ((Int) × (Int)))))) : Option ((((Bool) × (Unit)) × (Unit)) × (Unit)) := laws_eqInt8A6_t n (laws_eqInt8A6_l2 n) a0 a1

noncomputable def laws_eqObs_t (n : Nat) (a0 : ((Int) × ((Int) × ((Int) × ((Int) × ((Int) × (Int)))))) × (((Int) × (Int)) × (Int))) (a1 : ((Int) × ((Int) × ((Int) × ((Int) × ((Int) × (Int)))))) × (((Int) × (Int)) × (Int))) : Option ((((Bool) × (Unit)) × (Unit)) × (Unit)) :=
  (laws_eqInt8A6 n ((a0.1.1, (a0.1.2.1, (a0.1.2.2.1, (a0.1.2.2.2.1, (a0.1.2.2.2.2.1, a0.1.2.2.2.2.2)))))) ((a1.1.1, (a1.1.2.1, (a1.1.2.2.1, (a1.1.2.2.2.1, (a1.1.2.2.2.2.1, a1.1.2.2.2.2.2))))))).bind fun r0 =>
  cond (!r0.1.1.1)
  (some ((((false, ()), ()), ())))
  ((laws_eqFrac n ((a0.2.1.1, a0.2.1.2)) ((a1.2.1.1, a1.2.1.2))).bind fun r1 =>
    cond (!r1.1.1.1)
    (some ((((false, ()), ()), ())))
    (cond ((a0.2.2 != a1.2.2))
      (some ((((false, ()), ()), ())))
      (some ((((true, ()), ()), ())))))

noncomputable def laws_eqObs (n : Nat) (a0 : ((Int) × ((Int) × ((Int) × ((Int) × ((Int) × (Int)))))) × (((Int) × (Int)) × (Int))) (a1 : ((Int) × ((Int) × ((Int) × ((Int) × ((Int) × (Int)))))) × (((Int) × (Int)) × (Int))) : Option ((((Bool) × (Unit)) × (Unit)) × (Unit)) := laws_eqObs_t n a0 a1

noncomputable def laws_eqObsS_t4 (n : Nat) (g4 : Int → (List (((Int) × ((Int) × ((Int) × ((Int) × ((Int) × (Int)))))) × (((Int) × (Int)) × (Int)))) → (List (((Int) × ((Int) × ((Int) × ((Int) × ((Int) × (Int)))))) × (((Int) × (Int)) × (Int)))) → Option ((((Bool) × (Unit)) × (Unit)) × (Unit))) (v5 : Int) (v1 : List (((Int) × ((Int) × ((Int) × ((Int) × ((Int) × (Int)))))) × (((Int) × (Int)) × (Int)))) (v0 : List (((Int) × ((Int) × ((Int) × ((Int) × ((Int) × (Int)))))) × (((Int) × (Int)) × (Int)))) : Option ((((Bool) × (Unit)) × (Unit)) × (Unit)) :=
  cond (decide (v5 < ((v0.length : Nat) : Int)))
  (cond ((decide (0 ≤ v5) && decide (v5 < ((v0.length : Nat) : Int))))
    (cond ((decide (0 ≤ v5) && decide (v5 < ((v1.length : Nat) : Int))))
      ((laws_eqObs n ((((v0.getD (Int.toNat v5) ((0, (0, (0, (0, (0, 0))))), ((0, 0), 0))).1.1, ((v0.getD (Int.toNat v5) ((0, (0, (0, (0, (0, 0))))), ((0, 0), 0))).1.2.1, ((v0.getD (Int.toNat v5) ((0, (0, (0, (0, (0, 0))))), ((0, 0), 0))).1.2.2.1, ((v0.getD (Int.toNat v5) ((0, (0, (0, (0, (0, 0))))), ((0, 0), 0))).1.2.2.2.1, ((v0.getD (Int.toNat v5) ((0, (0, (0, (0, (0, 0))))), ((0, 0), 0))).1.2.2.2.2.1, (v0.getD (Int.toNat v5) ((0, (0, (0, (0, (0, 0))))), ((0, 0), 0))).1.2.2.2.2.2))))), (((v0.getD (Int.toNat v5) ((0, (0, (0, (0, (0, 0))))), ((0, 0), 0))).2.1.1, (v0.getD (Int.toNat v5) ((0, (0, (0, (0, (0, 0))))), ((0, 0), 0))).2.1.2), (v0.getD (Int.toNat v5) ((0, (0, (0, (0, (0, 0))))), ((0, 0), 0))).2.2))) ((((v1.getD (Int.toNat v5) ((0, (0, (0, (0, (0, 0))))), ((0, 0), 0))).1.1, ((v1.getD (Int.toNat v5) ((0, (0, (0, (0, (0, 0))))), ((0, 0), 0))).1.2.1, ((v1.getD (Int.toNat v5) ((0, (0, (0, (0, (0, 0))))), ((0, 0), 0))).1.2.2.1, ((v1.getD (Int.toNat v5) ((0, (0, (0, (0, (0, 0))))), ((0, 0), 0))).1.2.2.2.1, ((v1.getD (Int.toNat v5) ((0, (0, (0, (0, (0, 0))))), ((0, 0), 0))).1.2.2.2.2.1, (v1.getD (Int.toNat v5) ((0, (0, (0, (0, (0, 0))))), ((0, 0), 0))).1.2.2.2.2.2))))), (((v1.getD (Int.toNat v5) ((0, (0, (0, (0, (0, 0))))), ((0, 0), 0))).2.1.1, (v1.getD (Int.toNat v5) ((0, (0, (0, (0, (0, 0))))), ((0, 0), 0))).2.1.2), (v1.getD (Int.toNat v5) ((0, (0, (0, (0, (0, 0))))), ((0, 0), 0))).2.2)))).bind fun r0 =>
        cond (!r0.1.1.1)
        (some ((((false, ()), ()), ())))
        (g4 ((IntKind.wrap .i64 (v5 + 1))) v1 v0))
      (none))
    (none))
  (some ((((true, ()), ()), ())))

noncomputable def laws_eqObsS_l4 (n : Nat) : Nat → Int → (List (((Int) × ((Int) × ((Int) × ((Int) × ((Int) × (Int)))))) × (((Int) × (Int)) × (Int)))) → (List (((Int) × ((Int) × ((Int) × ((Int) × ((Int) × (Int)))))) × (((Int) × (Int)) × (Int)))) → Option ((((Bool) × (Unit)) × (Unit)) × (Unit))
  | 0, _, _, _ => none
  | k + 1, v5, v1, v0 => laws_eqObsS_t4 n (laws_eqObsS_l4 n k) v5 v1 v0

noncomputable def laws_eqObsS_t (n : Nat) (h4 : Nat → Int → (List (((Int) × ((Int) × ((Int) × ((Int) × ((Int) × (Int)))))) × (((Int) × (Int)) × (Int)))) → (List (((Int) × ((Int) × ((Int) × ((Int) × ((Int) × (Int)))))) × (((Int) × (Int)) × (Int)))) → Option ((((Bool) × (Unit)) × (Unit)) × (Unit))) (a0 : List (((Int) × ((Int) × ((Int) × ((Int) × ((Int) × (Int)))))) × (((Int) × (Int)) × (Int)))) (a1 : List (((Int) × ((Int) × ((Int) × ((Int) × ((Int) × (Int)))))) × (((Int) × (Int)) × (Int)))) : Option ((((Bool) × (Unit)) × (Unit)) × (Unit)) :=
  cond ((((a0.length : Nat) : Int) != ((a1.length : Nat) : Int)))
  (some ((((false, ()), ()), ())))
  (h4 n 0 a1 a0)

noncomputable def laws_eqObsS (n : Nat) (a0 : List (((Int) × ((Int) × ((Int) × ((Int) × ((Int) × (Int)))))) × (((Int) × (Int)) × (Int)))) (a1 : List (((Int) × ((Int) × ((Int) × ((Int) × ((Int) × (Int)))))) × (((Int) × (Int)) × (Int)))) : Option ((((Bool) × (Unit)) × (Unit)) × (Unit)) := laws_eqObsS_t n (laws_eqObsS_l4 n) a0 a1

noncomputable def laws_eqTable_t (n : Nat) (a0 : (Int) × ((List (((Int) × ((Int) × ((Int) × ((Int) × ((Int) × (Int)))))) × (((Int) × (Int)) × (Int)))) × ((Bool) × ((Int) × (Int))))) (a1 : (Int) × ((List (((Int) × ((Int) × ((Int) × ((Int) × ((Int) × (Int)))))) × (((Int) × (Int)) × (Int)))) × ((Bool) × ((Int) × (Int))))) : Option ((((Bool) × (Unit)) × (Unit)) × (Unit)) :=
  cond ((a0.1 != a1.1))
  (some ((((false, ()), ()), ())))
  ((laws_eqObsS n a0.2.1 a1.2.1).bind fun r0 =>
    cond (!r0.1.1.1)
    (some ((((false, ()), ()), ())))
    (cond ((!(a0.2.2.1 == a1.2.2.1)))
      (some ((((false, ()), ()), ())))
      ((laws_eqFrac n ((a0.2.2.2.1, a0.2.2.2.2)) ((a1.2.2.2.1, a1.2.2.2.2))).bind fun r1 =>
        cond (!r1.1.1.1)
        (some ((((false, ()), ()), ())))
        (some ((((true, ()), ()), ()))))))

noncomputable def laws_eqTable (n : Nat) (a0 : (Int) × ((List (((Int) × ((Int) × ((Int) × ((Int) × ((Int) × (Int)))))) × (((Int) × (Int)) × (Int)))) × ((Bool) × ((Int) × (Int))))) (a1 : (Int) × ((List (((Int) × ((Int) × ((Int) × ((Int) × ((Int) × (Int)))))) × (((Int) × (Int)) × (Int)))) × ((Bool) × ((Int) × (Int))))) : Option ((((Bool) × (Unit)) × (Unit)) × (Unit)) := laws_eqTable_t n a0 a1

noncomputable def laws_heldObsS_t5 (n : Nat) (g2 : Int → Int → (List (((Int) × ((Int) × ((Int) × ((Int) × ((Int) × (Int)))))) × (((Int) × (Int)) × (Int)))) → Option ((((Int) × (Unit)) × (Unit)) × (Unit))) (g5 : Int → Int → Int → (List (((Int) × ((Int) × ((Int) × ((Int) × ((Int) × (Int)))))) × (((Int) × (Int)) × (Int)))) → Option ((((Int) × (Unit)) × (Unit)) × (Unit))) (v6 : Int) (v1 : Int) (v5 : Int) (v0 : List (((Int) × ((Int) × ((Int) × ((Int) × ((Int) × (Int)))))) × (((Int) × (Int)) × (Int)))) : Option ((((Int) × (Unit)) × (Unit)) × (Unit)) :=
  cond (decide (v6 < 6))
  (cond ((decide (0 ≤ v5) && decide (v5 < ((v0.length : Nat) : Int))))
    (cond ((decide (0 ≤ v6) && decide (v6 < 6)))
      (cond (((cond (Nat.beq (Int.toNat v6) 0) (v0.getD (Int.toNat v5) ((0, (0, (0, (0, (0, 0))))), ((0, 0), 0))).1.1 (cond (Nat.beq ((Int.toNat v6) - 1) 0) (v0.getD (Int.toNat v5) ((0, (0, (0, (0, (0, 0))))), ((0, 0), 0))).1.2.1 (cond (Nat.beq (((Int.toNat v6) - 1) - 1) 0) (v0.getD (Int.toNat v5) ((0, (0, (0, (0, (0, 0))))), ((0, 0), 0))).1.2.2.1 (cond (Nat.beq ((((Int.toNat v6) - 1) - 1) - 1) 0) (v0.getD (Int.toNat v5) ((0, (0, (0, (0, (0, 0))))), ((0, 0), 0))).1.2.2.2.1 (cond (Nat.beq (((((Int.toNat v6) - 1) - 1) - 1) - 1) 0) (v0.getD (Int.toNat v5) ((0, (0, (0, (0, (0, 0))))), ((0, 0), 0))).1.2.2.2.2.1 (cond (Nat.beq ((((((Int.toNat v6) - 1) - 1) - 1) - 1) - 1) 0) (v0.getD (Int.toNat v5) ((0, (0, (0, (0, (0, 0))))), ((0, 0), 0))).1.2.2.2.2.2 0)))))) != (IntKind.wrap .i8 v1)))
        (some (((((-1), ()), ()), ())))
        (g5 ((IntKind.wrap .i64 (v6 + 1))) ((IntKind.wrap .i64 (v1 + 1))) v5 v0))
      (none))
    (none))
  (cond ((decide (0 ≤ v5) && decide (v5 < ((v0.length : Nat) : Int))))
    (cond (((v0.getD (Int.toNat v5) ((0, (0, (0, (0, (0, 0))))), ((0, 0), 0))).2.1.1 != v1))
      (some (((((-1), ()), ()), ())))
      (cond ((decide (0 ≤ v5) && decide (v5 < ((v0.length : Nat) : Int))))
        (cond (((v0.getD (Int.toNat v5) ((0, (0, (0, (0, (0, 0))))), ((0, 0), 0))).2.1.2 != (IntKind.wrap .i64 (v1 + 1))))
          (some (((((-1), ()), ()), ())))
          (cond ((decide (0 ≤ v5) && decide (v5 < ((v0.length : Nat) : Int))))
            (cond (((v0.getD (Int.toNat v5) ((0, (0, (0, (0, (0, 0))))), ((0, 0), 0))).2.2 != (IntKind.wrap .i64 ((IntKind.wrap .i64 (v1 + 1)) + 1))))
              (some (((((-1), ()), ()), ())))
              (g2 ((IntKind.wrap .i64 ((IntKind.wrap .i64 ((IntKind.wrap .i64 (v1 + 1)) + 1)) + 1))) ((IntKind.wrap .i64 (v5 + 1))) v0))
            (none)))
        (none)))
    (none))

noncomputable def laws_heldObsS_l5 (n : Nat) (g2 : Int → Int → (List (((Int) × ((Int) × ((Int) × ((Int) × ((Int) × (Int)))))) × (((Int) × (Int)) × (Int)))) → Option ((((Int) × (Unit)) × (Unit)) × (Unit))) : Nat → Int → Int → Int → (List (((Int) × ((Int) × ((Int) × ((Int) × ((Int) × (Int)))))) × (((Int) × (Int)) × (Int)))) → Option ((((Int) × (Unit)) × (Unit)) × (Unit))
  | 0, _, _, _, _ => none
  | k + 1, v6, v1, v5, v0 => laws_heldObsS_t5 n g2 (laws_heldObsS_l5 n g2 k) v6 v1 v5 v0

noncomputable def laws_heldObsS_t2 (n : Nat) (h5 : Nat → Int → Int → Int → (List (((Int) × ((Int) × ((Int) × ((Int) × ((Int) × (Int)))))) × (((Int) × (Int)) × (Int)))) → Option ((((Int) × (Unit)) × (Unit)) × (Unit))) (g2 : Int → Int → (List (((Int) × ((Int) × ((Int) × ((Int) × ((Int) × (Int)))))) × (((Int) × (Int)) × (Int)))) → Option ((((Int) × (Unit)) × (Unit)) × (Unit))) (v1 : Int) (v5 : Int) (v0 : List (((Int) × ((Int) × ((Int) × ((Int) × ((Int) × (Int)))))) × (((Int) × (Int)) × (Int)))) : Option ((((Int) × (Unit)) × (Unit)) × (Unit)) :=
  cond (decide (v5 < ((v0.length : Nat) : Int)))
  (h5 n 0 v1 v5 v0)
  (some ((((v1, ()), ()), ())))

noncomputable def laws_heldObsS_l2 (n : Nat) : Nat → Int → Int → (List (((Int) × ((Int) × ((Int) × ((Int) × ((Int) × (Int)))))) × (((Int) × (Int)) × (Int)))) → Option ((((Int) × (Unit)) × (Unit)) × (Unit))
  | 0, _, _, _ => none
  | k + 1, v1, v5, v0 => laws_heldObsS_t2 n (laws_heldObsS_l5 n (laws_heldObsS_l2 n k)) (laws_heldObsS_l2 n k) v1 v5 v0

noncomputable def laws_heldObsS_t (n : Nat) (h2 : Nat → Int → Int → (List (((Int) × ((Int) × ((Int) × ((Int) × ((Int) × (Int)))))) × (((Int) × (Int)) × (Int)))) → Option ((((Int) × (Unit)) × (Unit)) × (Unit))) (a0 : List (((Int) × ((Int) × ((Int) × ((Int) × ((Int) × (Int)))))) × (((Int) × (Int)) × (Int)))) (a1 : Int) : Option ((((Int) × (Unit)) × (Unit)) × (Unit)) :=
  h2 n a1 0 a0

noncomputable def laws_heldObsS (n : Nat) (a0 : List (((Int) × ((Int) × ((Int) × ((Int) × ((Int) × (Int)))))) × (((Int) × (Int)) × (Int)))) (a1 : Int) : Option ((((Int) × (Unit)) × (Unit)) × (Unit)) := laws_heldObsS_t n (laws_heldObsS_l2 n) a0 a1

noncomputable def laws_heldTable_t (n : Nat) (a0 : (Int) × ((List (((Int) × ((Int) × ((Int) × ((Int) × ((Int) × (Int)))))) × (((Int) × (Int)) × (Int)))) × ((Bool) × ((Int) × (Int))))) (a1 : Int) : Option ((((Int) × (Unit)) × (Unit)) × (Unit)) :=
  (laws_heldObsS n a0.2.1 a1).bind fun r0 =>
  cond (decide (r0.1.1.1 < 0))
  (some (((((-1), ()), ()), ())))
  (some ((((r0.1.1.1, ()), ()), ())))

noncomputable def laws_heldTable (n : Nat) (a0 : (Int) × ((List (((Int) × ((Int) × ((Int) × ((Int) × ((Int) × (Int)))))) × (((Int) × (Int)) × (Int)))) × ((Bool) × ((Int) × (Int))))) (a1 : Int) : Option ((((Int) × (Unit)) × (Unit)) × (Unit)) := laws_heldTable_t n a0 a1

noncomputable def laws_markObsS_t5 (n : Nat) (g2 : Int → Int → (List (((Int) × ((Int) × ((Int) × ((Int) × ((Int) × (Int)))))) × (((Int) × (Int)) × (Int)))) → Option ((((Int) × (Unit)) × (Unit)) × ((List (((Int) × ((Int) × ((Int) × ((Int) × ((Int) × (Int)))))) × (((Int) × (Int)) × (Int)))) × (Unit)))) (g5 : Int → Int → Int → (List (((Int) × ((Int) × ((Int) × ((Int) × ((Int) × (Int)))))) × (((Int) × (Int)) × (Int)))) → Option ((((Int) × (Unit)) × (Unit)) × ((List (((Int) × ((Int) × ((Int) × ((Int) × ((Int) × (Int)))))) × (((Int) × (Int)) × (Int)))) × (Unit)))) (v6 : Int) (v1 : Int) (v5 : Int) (b0 : List (((Int) × ((Int) × ((Int) × ((Int) × ((Int) × (Int)))))) × (((Int) × (Int)) × (Int)))) : Option ((((Int) × (Unit)) × (Unit)) × ((List (((Int) × ((Int) × ((Int) × ((Int) × ((Int) × (Int)))))) × (((Int) × (Int)) × (Int)))) × (Unit))) :=
  cond (decide (v6 < 6))
  (cond ((decide (0 ≤ v5) && decide (v5 < ((b0.length : Nat) : Int))))
    (cond ((decide (0 ≤ v6) && decide (v6 < 6)))
      (letIn ((b0.set (Int.toNat v5) (((cond (Nat.beq (Int.toNat v6) 0) (IntKind.wrap .i8 v1) (b0.getD (Int.toNat v5) ((0, (0, (0, (0, (0, 0))))), ((0, 0), 0))).1.1), ((cond (Nat.beq (Int.toNat v6) 1) (IntKind.wrap .i8 v1) (b0.getD (Int.toNat v5) ((0, (0, (0, (0, (0, 0))))), ((0, 0), 0))).1.2.1), ((cond (Nat.beq (Int.toNat v6) 2) (IntKind.wrap .i8 v1) (b0.getD (Int.toNat v5) ((0, (0, (0, (0, (0, 0))))), ((0, 0), 0))).1.2.2.1), ((cond (Nat.beq (Int.toNat v6) 3) (IntKind.wrap .i8 v1) (b0.getD (Int.toNat v5) ((0, (0, (0, (0, (0, 0))))), ((0, 0), 0))).1.2.2.2.1), ((cond (Nat.beq (Int.toNat v6) 4) (IntKind.wrap .i8 v1) (b0.getD (Int.toNat v5) ((0, (0, (0, (0, (0, 0))))), ((0, 0), 0))).1.2.2.2.2.1), (cond (Nat.beq (Int.toNat v6) 5) (IntKind.wrap .i8 v1) (b0.getD (Int.toNat v5) ((0, (0, (0, (0, (0, 0))))), ((0, 0), 0))).1.2.2.2.2.2)))))), (((b0.getD (Int.toNat v5) ((0, (0, (0, (0, (0, 0))))), ((0, 0), 0))).2.1.1, (b0.getD (Int.toNat v5) ((0, (0, (0, (0, (0, 0))))), ((0, 0), 0))).2.1.2), (b0.getD (Int.toNat v5) ((0, (0, (0, (0, (0, 0))))), ((0, 0), 0))).2.2)))) fun r0 =>
        g5 ((IntKind.wrap .i64 (v6 + 1))) ((IntKind.wrap .i64 (v1 + 1))) v5 r0)
      (none))
    (none))
  (cond ((decide (0 ≤ v5) && decide (v5 < ((b0.length : Nat) : Int))))
    (letIn ((b0.set (Int.toNat v5) (((b0.getD (Int.toNat v5) ((0, (0, (0, (0, (0, 0))))), ((0, 0), 0))).1.1, ((b0.getD (Int.toNat v5) ((0, (0, (0, (0, (0, 0))))), ((0, 0), 0))).1.2.1, ((b0.getD (Int.toNat v5) ((0, (0, (0, (0, (0, 0))))), ((0, 0), 0))).1.2.2.1, ((b0.getD (Int.toNat v5) ((0, (0, (0, (0, (0, 0))))), ((0, 0), 0))).1.2.2.2.1, ((b0.getD (Int.toNat v5) ((0, (0, (0, (0, (0, 0))))), ((0, 0), 0))).1.2.2.2.2.1, (b0.getD (Int.toNat v5) ((0, (0, (0, (0, (0, 0))))), ((0, 0), 0))).1.2.2.2.2.2))))), ((v1, (b0.getD (Int.toNat v5) ((0, (0, (0, (0, (0, 0))))), ((0, 0), 0))).2.1.2), (b0.getD (Int.toNat v5) ((0, (0, (0, (0, (0, 0))))), ((0, 0), 0))).2.2)))) fun r1 =>
      cond ((decide (0 ≤ v5) && decide (v5 < ((r1.length : Nat) : Int))))
      (letIn ((r1.set (Int.toNat v5) (((r1.getD (Int.toNat v5) ((0, (0, (0, (0, (0, 0))))), ((0, 0), 0))).1.1, ((r1.getD (Int.toNat v5) ((0, (0, (0, (0, (0, 0))))), ((0, 0), 0))).1.2.1, ((r1.getD (Int.toNat v5) ((0, (0, (0, (0, (0, 0))))), ((0, 0), 0))).1.2.2.1, ((r1.getD (Int.toNat v5) ((0, (0, (0, (0, (0, 0))))), ((0, 0), 0))).1.2.2.2.1, ((r1.getD (Int.toNat v5) ((0, (0, (0, (0, (0, 0))))), ((0, 0), 0))).1.2.2.2.2.1, (r1.getD (Int.toNat v5) ((0, (0, (0, (0, (0, 0))))), ((0, 0), 0))).1.2.2.2.2.2))))), (((r1.getD (Int.toNat v5) ((0, (0, (0, (0, (0, 0))))), ((0, 0), 0))).2.1.1, (IntKind.wrap .i64 (v1 + 1))), (r1.getD (Int.toNat v5) ((0, (0, (0, (0, (0, 0))))), ((0, 0), 0))).2.2)))) fun r2 =>
        cond ((decide (0 ≤ v5) && decide (v5 < ((r2.length : Nat) : Int))))
        (letIn ((r2.set (Int.toNat v5) (((r2.getD (Int.toNat v5) ((0, (0, (0, (0, (0, 0))))), ((0, 0), 0))).1.1, ((r2.getD (Int.toNat v5) ((0, (0, (0, (0, (0, 0))))), ((0, 0), 0))).1.2.1, ((r2.getD (Int.toNat v5) ((0, (0, (0, (0, (0, 0))))), ((0, 0), 0))).1.2.2.1, ((r2.getD (Int.toNat v5) ((0, (0, (0, (0, (0, 0))))), ((0, 0), 0))).1.2.2.2.1, ((r2.getD (Int.toNat v5) ((0, (0, (0, (0, (0, 0))))), ((0, 0), 0))).1.2.2.2.2.1, (r2.getD (Int.toNat v5) ((0, (0, (0, (0, (0, 0))))), ((0, 0), 0))).1.2.2.2.2.2))))), (((r2.getD (Int.toNat v5) ((0, (0, (0, (0, (0, 0))))), ((0, 0), 0))).2.1.1, (r2.getD (Int.toNat v5) ((0, (0, (0, (0, (0, 0))))), ((0, 0), 0))).2.1.2), (IntKind.wrap .i64 ((IntKind.wrap .i64 (v1 + 1)) + 1)))))) fun r3 =>
          g2 ((IntKind.wrap .i64 ((IntKind.wrap .i64 ((IntKind.wrap .i64 (v1 + 1)) + 1)) + 1))) ((IntKind.wrap .i64 (v5 + 1))) r3)
        (none))
      (none))
    (none))

noncomputable def laws_markObsS_l5 (n : Nat) (g2 : Int → Int → (List (((Int) × ((Int) × ((Int) × ((Int) × ((Int) × (Int)))))) × (((Int) × (Int)) × (Int)))) → Option ((((Int) × (Unit)) × (Unit)) × ((List (((Int) × ((Int) × ((Int) × ((Int) × ((Int) × (Int)))))) × (((Int) × (Int)) × (Int)))) × (Unit)))) : Nat → Int → Int → Int → (List (((Int) × ((Int) × ((Int) × ((Int) × ((Int) × (Int)))))) × (((Int) × (Int)) × (Int)))) → Option ((((Int) × (Unit)) × (Unit)) × ((List (((Int) × ((Int) × ((Int) × ((Int) × ((Int) × (Int)))))) × (((Int) × (Int)) × (Int)))) × (Unit)))
  | 0, _, _, _, _ => none
  | k + 1, v6, v1, v5, b0 => laws_markObsS_t5 n g2 (laws_markObsS_l5 n g2 k) v6 v1 v5 b0

noncomputable def laws_markObsS_t2 (n : Nat) (h5 : Nat → Int → Int → Int → (List (((Int) × ((Int) × ((Int) × ((Int) × ((Int) × (Int)))))) × (((Int) × (Int)) × (Int)))) → Option ((((Int) × (Unit)) × (Unit)) × ((List (((Int) × ((Int) × ((Int) × ((Int) × ((Int) × (Int)))))) × (((Int) × (Int)) × (Int)))) × (Unit)))) (g2 : Int → Int → (List (((Int) × ((Int) × ((Int) × ((Int) × ((Int) × (Int)))))) × (((Int) × (Int)) × (Int)))) → Option ((((Int) × (Unit)) × (Unit)) × ((List (((Int) × ((Int) × ((Int) × ((Int) × ((Int) × (Int)))))) × (((Int) × (Int)) × (Int)))) × (Unit)))) (v1 : Int) (v5 : Int) (b0 : List (((Int) × ((Int) × ((Int) × ((Int) × ((Int) × (Int)))))) × (((Int) × (Int)) × (Int)))) : Option ((((Int) × (Unit)) × (Unit)) × ((List (((Int) × ((Int) × ((Int) × ((Int) × ((Int) × (Int)))))) × (((Int) × (Int)) × (Int)))) × (Unit))) :=
  cond (decide (v5 < ((b0.length : Nat) : Int)))
  (h5 n 0 v1 v5 b0)
  (some ((((v1, ()), ()), (b0, ()))))

noncomputable def laws_markObsS_l2 (n : Nat) : Nat → Int → Int → (List (((Int) × ((Int) × ((Int) × ((Int) × ((Int) × (Int)))))) × (((Int) × (Int)) × (Int)))) → Option ((((Int) × (Unit)) × (Unit)) × ((List (((Int) × ((Int) × ((Int) × ((Int) × ((Int) × (Int)))))) × (((Int) × (Int)) × (Int)))) × (Unit)))
  | 0, _, _, _ => none
  | k + 1, v1, v5, b0 => laws_markObsS_t2 n (laws_markObsS_l5 n (laws_markObsS_l2 n k)) (laws_markObsS_l2 n k) v1 v5 b0

noncomputable def laws_markObsS_t (n : Nat) (h2 : Nat → Int → Int → (List (((Int) × ((Int) × ((Int) × ((Int) × ((Int) × (Int)))))) × (((Int) × (Int)) × (Int)))) → Option ((((Int) × (Unit)) × (Unit)) × ((List (((Int) × ((Int) × ((Int) × ((Int) × ((Int) × (Int)))))) × (((Int) × (Int)) × (Int)))) × (Unit)))) (a1 : Int) (b0 : List (((Int) × ((Int) × ((Int) × ((Int) × ((Int) × (Int)))))) × (((Int) × (Int)) × (Int)))) : Option ((((Int) × (Unit)) × (Unit)) × ((List (((Int) × ((Int) × ((Int) × ((Int) × ((Int) × (Int)))))) × (((Int) × (Int)) × (Int)))) × (Unit))) :=
  h2 n a1 0 b0

noncomputable def laws_markObsS (n : Nat) (a1 : Int) (b0 : List (((Int) × ((Int) × ((Int) × ((Int) × ((Int) × (Int)))))) × (((Int) × (Int)) × (Int)))) : Option ((((Int) × (Unit)) × (Unit)) × ((List (((Int) × ((Int) × ((Int) × ((Int) × ((Int) × (Int)))))) × (((Int) × (Int)) × (Int)))) × (Unit))) := laws_markObsS_t n (laws_markObsS_l2 n) a1 b0

noncomputable def laws_markTable_t (n : Nat) (a0 : (Int) × (((Bool) × ((Int) × (Int))) × (Unit))) (a1 : Int) (b0 : List (((Int) × ((Int) × ((Int) × ((Int) × ((Int) × (Int)))))) × (((Int) × (Int)) × (Int)))) : Option ((((Int) × (Unit)) × (Unit)) × ((List (((Int) × ((Int) × ((Int) × ((Int) × ((Int) × (Int)))))) × (((Int) × (Int)) × (Int)))) × (Unit))) :=
  (laws_markObsS n a1 b0).bind fun r0 =>
  some ((((r0.1.1.1, ()), ()), (r0.2.1, ())))

noncomputable def laws_markTable (n : Nat) (a0 : (Int) × (((Bool) × ((Int) × (Int))) × (Unit))) (a1 : Int) (b0 : List (((Int) × ((Int) × ((Int) × ((Int) × ((Int) × (Int)))))) × (((Int) × (Int)) × (Int)))) : Option ((((Int) × (Unit)) × (Unit)) × ((List (((Int) × ((Int) × ((Int) × ((Int) × ((Int) × (Int)))))) × (((Int) × (Int)) × (Int)))) × (Unit))) := laws_markTable_t n a0 a1 b0

noncomputable def laws_szObsS_t (n : Nat) (a0 : List (((Int) × ((Int) × ((Int) × ((Int) × ((Int) × (Int)))))) × (((Int) × (Int)) × (Int)))) (a1 : Int) : Option ((((Int) × (Unit)) × (Unit)) × (Unit)) :=
  cond (decide ((IntKind.wrap .i64 (a1 - ((a0.length : Nat) : Int))) < 0))
  (some (((((-1), ()), ()), ())))
  (some (((((IntKind.wrap .i64 (a1 - ((a0.length : Nat) : Int))), ()), ()), ())))

noncomputable def laws_szObsS (n : Nat) (a0 : List (((Int) × ((Int) × ((Int) × ((Int) × ((Int) × (Int)))))) × (((Int) × (Int)) × (Int)))) (a1 : Int) : Option ((((Int) × (Unit)) × (Unit)) × (Unit)) := laws_szObsS_t n a0 a1

noncomputable def laws_szTable_t (n : Nat) (a0 : (Int) × ((List (((Int) × ((Int) × ((Int) × ((Int) × ((Int) × (Int)))))) × (((Int) × (Int)) × (Int)))) × ((Bool) × ((Int) × (Int))))) (a1 : Int) : Option ((((Int) × (Unit)) × (Unit)) × (Unit)) :=
  (laws_szObsS n a0.2.1 a1).bind fun r0 =>
  cond (decide (r0.1.1.1 < 0))
  (some (((((-1), ()), ()), ())))
  (some ((((r0.1.1.1, ()), ()), ())))

noncomputable def laws_szTable (n : Nat) (a0 : (Int) × ((List (((Int) × ((Int) × ((Int) × ((Int) × ((Int) × (Int)))))) × (((Int) × (Int)) × (Int)))) × ((Bool) × ((Int) × (Int))))) (a1 : Int) : Option ((((Int) × (Unit)) × (Unit)) × (Unit)) := laws_szTable_t n a0 a1

noncomputable def laws_toFrac_t (n : Nat) (a0 : (Int) × (Int)) : Option (((((Int) × (Int)) × (Unit)) × (Unit)) × (Unit)) :=
  some (((((a0.1, a0.2), ()), ()), ()))

noncomputable def laws_toFrac (n : Nat) (a0 : (Int) × (Int)) : Option (((((Int) × (Int)) × (Unit)) × (Unit)) × (Unit)) := laws_toFrac_t n a0

noncomputable def laws_toInt8A6_t3 (n : Nat) (g3 : Int → Int → Int → Int → Int → Int → Int → Int → Int → Int → Int → Int → Int → Int → Int → Int → Int → Int → Int → Option (((((Int) × ((Int) × ((Int) × ((Int) × ((Int) × (Int)))))) × (Unit)) × (Unit)) × (Unit))) (v4 : Int) (b0_0 : Int) (b0_1 : Int) (b0_2 : Int) (b0_3 : Int) (b0_4 : Int) (b0_5 : Int) (b1_0 : Int) (b1_1 : Int) (b1_2 : Int) (b1_3 : Int) (b1_4 : Int) (b1_5 : Int) (b2_0 : Int) (b2_1 : Int) (b2_2 : Int) (b2_3 : Int) (b2_4 : Int) (b2_5 : Int) : Option (((((Int) × ((Int) × ((Int) × ((Int) × ((Int) × (Int)))))) × (Unit)) × (Unit)) × (Unit)) :=
  cond (decide (v4 < 6))
  (cond ((decide (0 ≤ v4) && decide (v4 < 6)))
    (cond ((decide (0 ≤ v4) && decide (v4 < 6)))
      (g3 ((IntKind.wrap .i64 (v4 + 1))) ((cond (Nat.beq (Int.toNat v4) 0) (cond (Nat.beq (Int.toNat v4) 0) b1_0 (cond (Nat.beq ((Int.toNat v4) - 1) 0) b1_1 (cond (Nat.beq (((Int.toNat v4) - 1) - 1) 0) b1_2 (cond (Nat.beq ((((Int.toNat v4) - 1) - 1) - 1) 0) b1_3 (cond (Nat.beq (((((Int.toNat v4) - 1) - 1) - 1) - 1) 0) b1_4 (cond (Nat.beq ((((((Int.toNat v4) - 1) - 1) - 1) - 1) - 1) 0) b1_5 0)))))) b0_0)) ((cond (Nat.beq (Int.toNat v4) 1) (cond (Nat.beq (Int.toNat v4) 0) b1_0 (cond (Nat.beq ((Int.toNat v4) - 1) 0) b1_1 (cond (Nat.beq (((Int.toNat v4) - 1) - 1) 0) b1_2 (cond (Nat.beq ((((Int.toNat v4) - 1) - 1) - 1) 0) b1_3 (cond (Nat.beq (((((Int.toNat v4) - 1) - 1) - 1) - 1) 0) b1_4 (cond (Nat.beq ((((((Int.toNat v4) - 1) - 1) - 1) - 1) - 1) 0) b1_5 0)))))) b0_1)) ((cond (Nat.beq (Int.toNat v4) 2) (cond (Nat.beq (Int.toNat v4) 0) b1_0 (cond (Nat.beq ((Int.toNat v4) - 1) 0) b1_1 (cond (Nat.beq (((Int.toNat v4) - 1) - 1) 0) b1_2 (cond (Nat.beq ((((Int.toNat v4) - 1) - 1) - 1) 0) b1_3 (cond (Nat.beq (((((Int.toNat v4) - 1) - 1) - 1) - 1) 0) b1_4 (cond (Nat.beq ((((((Int.toNat v4) - 1) - 1) - 1) - 1) - 1) 0) b1_5 0)))))) b0_2)) ((cond (Nat.beq (Int.toNat v4) 3) (cond (Nat.beq (Int.toNat v4) 0) b1_0 (cond (Nat.beq ((Int.toNat v4) - 1) 0) b1_1 (cond (Nat.beq (((Int.toNat v4) - 1) - 1) 0) b1_2 (cond (Nat.beq ((((Int.toNat v4) - 1) - 1) - 1) 0) b1_3 (cond (Nat.beq (((((Int.toNat v4) - 1) - 1) - 1) - 1) 0) b1_4 (cond (Nat.beq ((((((Int.toNat v4) - 1) - 1) - 1) - 1) - 1) 0) b1_5 0)))))) b0_3)) ((cond (Nat.beq (Int.toNat v4) 4) (cond (Nat.beq (Int.toNat v4) 0) b1_0 (cond (Nat.beq ((Int.toNat v4) - 1) 0) b1_1 (cond (Nat.beq (((Int.toNat v4) - 1) - 1) 0) b1_2 (cond (Nat.beq ((((Int.toNat v4) - 1) - 1) - 1) 0) b1_3 (cond (Nat.beq (((((Int.toNat v4) - 1) - 1) - 1) - 1) 0) b1_4 (cond (Nat.beq ((((((Int.toNat v4) - 1) - 1) - 1) - 1) - 1) 0) b1_5 0)))))) b0_4)) ((cond (Nat.beq (Int.toNat v4) 5) (cond (Nat.beq (Int.toNat v4) 0) b1_0 (cond (Nat.beq ((Int.toNat v4) - 1) 0) b1_1 (cond (Nat.beq (((Int.toNat v4) - 1) - 1) 0) b1_2 (cond (Nat.beq ((((Int.toNat v4) - 1) - 1) - 1) 0) b1_3 (cond (Nat.beq (((((Int.toNat v4) - 1) - 1) - 1) - 1) 0) b1_4 (cond (Nat.beq ((((((Int.toNat v4) - 1) - 1) - 1) - 1) - 1) 0) b1_5 0)))))) b0_5)) b1_0 b1_1 b1_2 b1_3 b1_4 b1_5 b2_0 b2_1 b2_2 b2_3 b2_4 b2_5)
      (none))
    (none))
  (some (((((b0_0, (b0_1, (b0_2, (b0_3, (b0_4, b0_5))))), ()), ()), ())))

noncomputable def laws_toInt8A6_l3 (n : Nat) : Nat → Int → Int → Int → Int → Int → Int → Int → Int → Int → Int → Int → Int → Int → Int → Int → Int → Int → Int → Int → Option (((((Int) × ((Int) × ((Int) × ((Int) × ((Int) × (Int)))))) × (Unit)) × (Unit)) × (Unit))
  | 0, _, _, _, _, _, _, _, _, _, _, _, _, _, _, _, _, _, _, _ => none
  | k + 1, v4, b0_0, b0_1, b0_2, b0_3, b0_4, b0_5, b1_0, b1_1, b1_2, b1_3, b1_4, b1_5, b2_0, b2_1, b2_2, b2_3, b2_4, b2_5 => laws_toInt8A6_t3 n (laws_toInt8A6_l3 n k) v4 b0_0 b0_1 b0_2 b0_3 b0_4 b0_5 b1_0 b1_1 b1_2 b1_3 b1_4 b1_5 b2_0 b2_1 b2_2 b2_3 b2_4 b2_5

noncomputable def laws_toInt8A6_t (n : Nat) (h3 : Nat → Int → Int → Int → Int → Int → Int → Int → Int → Int → Int → Int → Int → Int → Int → Int → Int → Int → Int → Int → Option (((((Int) × ((Int) × ((Int) × ((Int) × ((Int) × (Int)))))) × (Unit)) × (Unit)) × (Unit))) (a0 : (Int) × ((Int) × ((Int) × ((Int) × ((Int) × (Int)))))) : Option (((((Int) × ((Int) × ((Int) × ((Int) × ((Int) × (Int)))))) × (Unit)) × (Unit)) × (Unit)) :=
  h3 n 0 0 0 0 0 0 0 a0.1 a0.2.1 a0.2.2.1 a0.2.2.2.1 a0.2.2.2.2.1 a0.2.2.2.2.2 0 0 0 0 0 0

noncomputable def laws_toInt8A6 (n : Nat) (a0 : (Int) × ((Int) × ((Int) × ((Int) × ((Int) × (Int)))))) : Option (((((Int) × ((Int) × ((Int) × ((Int) × ((Int) × (Int)))))) × (Unit)) × (Unit)) × (Unit)) := laws_toInt8A6_t n (laws_toInt8A6_l3 n) a0

noncomputable def laws_toObs_t (n : Nat) (a0 : ((Int) × ((Int) × ((Int) × ((Int) × ((Int) × (Int)))))) × (((Int) × (Int)) × (Int))) : Option ((((((Int) × ((Int) × ((Int) × ((Int) × ((Int) × (Int)))))) × (((Int) × (Int)) × (Int))) × (Unit)) × (Unit)) × (Unit)) :=
  (laws_toInt8A6 n ((a0.1.1, (a0.1.2.1, (a0.1.2.2.1, (a0.1.2.2.2.1, (a0.1.2.2.2.2.1, a0.1.2.2.2.2.2))))))).bind fun r0 =>
  (laws_toFrac n ((a0.2.1.1, a0.2.1.2))).bind fun r1 =>
  some ((((((r0.1.1.1.1, (r0.1.1.1.2.1, (r0.1.1.1.2.2.1, (r0.1.1.1.2.2.2.1, (r0.1.1.1.2.2.2.2.1, r0.1.1.1.2.2.2.2.2))))), ((r1.1.1.1.1, r1.1.1.1.2), a0.2.2)), ()), ()), ()))

noncomputable def laws_toObs (n : Nat) (a0 : ((Int) × ((Int) × ((Int) × ((Int) × ((Int) × (Int)))))) × (((Int) × (Int)) × (Int))) : Option ((((((Int) × ((Int) × ((Int) × ((Int) × ((Int) × (Int)))))) × (((Int) × (Int)) × (Int))) × (Unit)) × (Unit)) × (Unit)) := laws_toObs_t n a0

noncomputable def laws_toObsS_t3 (n : Nat) (g3 : Int → (List (((Int) × ((Int) × ((Int) × ((Int) × ((Int) × (Int)))))) × (((Int) × (Int)) × (Int)))) → (List (((Int) × ((Int) × ((Int) × ((Int) × ((Int) × (Int)))))) × (((Int) × (Int)) × (Int)))) → Option ((((List (((Int) × ((Int) × ((Int) × ((Int) × ((Int) × (Int)))))) × (((Int) × (Int)) × (Int)))) × (Unit)) × (Unit)) × (Unit))) (v4 : Int) (v0 : List (((Int) × ((Int) × ((Int) × ((Int) × ((Int) × (Int)))))) × (((Int) × (Int)) × (Int)))) (b0 : List (((Int) × ((Int) × ((Int) × ((Int) × ((Int) × (Int)))))) × (((Int) × (Int)) × (Int)))) : Option ((((List (((Int) × ((Int) × ((Int) × ((Int) × ((Int) × (Int)))))) × (((Int) × (Int)) × (Int)))) × (Unit)) × (Unit)) × (Unit)) :=
  cond (decide (v4 < ((v0.length : Nat) : Int)))
  (cond ((decide (0 ≤ v4) && decide (v4 < ((v0.length : Nat) : Int))))
    ((laws_toObs n ((((v0.getD (Int.toNat v4) ((0, (0, (0, (0, (0, 0))))), ((0, 0), 0))).1.1, ((v0.getD (Int.toNat v4) ((0, (0, (0, (0, (0, 0))))), ((0, 0), 0))).1.2.1, ((v0.getD (Int.toNat v4) ((0, (0, (0, (0, (0, 0))))), ((0, 0), 0))).1.2.2.1, ((v0.getD (Int.toNat v4) ((0, (0, (0, (0, (0, 0))))), ((0, 0), 0))).1.2.2.2.1, ((v0.getD (Int.toNat v4) ((0, (0, (0, (0, (0, 0))))), ((0, 0), 0))).1.2.2.2.2.1, (v0.getD (Int.toNat v4) ((0, (0, (0, (0, (0, 0))))), ((0, 0), 0))).1.2.2.2.2.2))))), (((v0.getD (Int.toNat v4) ((0, (0, (0, (0, (0, 0))))), ((0, 0), 0))).2.1.1, (v0.getD (Int.toNat v4) ((0, (0, (0, (0, (0, 0))))), ((0, 0), 0))).2.1.2), (v0.getD (Int.toNat v4) ((0, (0, (0, (0, (0, 0))))), ((0, 0), 0))).2.2)))).bind fun r0 =>
      cond ((decide (0 ≤ v4) && decide (v4 < ((b0.length : Nat) : Int))))
      (letIn ((b0.set (Int.toNat v4) ((r0.1.1.1.1.1, (r0.1.1.1.1.2.1, (r0.1.1.1.1.2.2.1, (r0.1.1.1.1.2.2.2.1, (r0.1.1.1.1.2.2.2.2.1, r0.1.1.1.1.2.2.2.2.2))))), ((r0.1.1.1.2.1.1, r0.1.1.1.2.1.2), r0.1.1.1.2.2)))) fun r1 =>
        g3 ((IntKind.wrap .i64 (v4 + 1))) v0 r1)
      (none))
    (none))
  (some ((((b0, ()), ()), ())))

noncomputable def laws_toObsS_l3 (n : Nat) : Nat → Int → (List (((Int) × ((Int) × ((Int) × ((Int) × ((Int) × (Int)))))) × (((Int) × (Int)) × (Int)))) → (List (((Int) × ((Int) × ((Int) × ((Int) × ((Int) × (Int)))))) × (((Int) × (Int)) × (Int)))) → Option ((((List (((Int) × ((Int) × ((Int) × ((Int) × ((Int) × (Int)))))) × (((Int) × (Int)) × (Int)))) × (Unit)) × (Unit)) × (Unit))
  | 0, _, _, _ => none
  | k + 1, v4, v0, b0 => laws_toObsS_t3 n (laws_toObsS_l3 n k) v4 v0 b0

noncomputable def laws_toObsS_t (n : Nat) (h3 : Nat → Int → (List (((Int) × ((Int) × ((Int) × ((Int) × ((Int) × (Int)))))) × (((Int) × (Int)) × (Int)))) → (List (((Int) × ((Int) × ((Int) × ((Int) × ((Int) × (Int)))))) × (((Int) × (Int)) × (Int)))) → Option ((((List (((Int) × ((Int) × ((Int) × ((Int) × ((Int) × (Int)))))) × (((Int) × (Int)) × (Int)))) × (Unit)) × (Unit)) × (Unit))) (a0 : List (((Int) × ((Int) × ((Int) × ((Int) × ((Int) × (Int)))))) × (((Int) × (Int)) × (Int)))) : Option ((((List (((Int) × ((Int) × ((Int) × ((Int) × ((Int) × (Int)))))) × (((Int) × (Int)) × (Int)))) × (Unit)) × (Unit)) × (Unit)) :=
  cond ((((((a0.length : Nat) : Int) == ((a0.length : Nat) : Int)) && decide (0 ≤ ((a0.length : Nat) : Int))) && decide (((Int.toNat ((a0.length : Nat) : Int)) * 33) ≤ 70368744177664)))
  (h3 n 0 a0 ((List.replicate (Int.toNat ((a0.length : Nat) : Int)) (((0, (0, (0, (0, (0, 0))))), ((0, 0), 0)) : ((Int) × ((Int) × ((Int) × ((Int) × ((Int) × (Int)))))) × (((Int) × (Int)) × (Int))))))
  (none)

noncomputable def laws_toObsS (n : Nat) (a0 : List (((Int) × ((Int) × ((Int) × ((Int) × ((Int) × (Int)))))) × (((Int) × (Int)) × (Int)))) : Option ((((List (((Int) × ((Int) × ((Int) × ((Int) × ((Int) × (Int)))))) × (((Int) × (Int)) × (Int)))) × (Unit)) × (Unit)) × (Unit)) := laws_toObsS_t n (laws_toObsS_l3 n) a0

noncomputable def laws_toTable_t (n : Nat) (a0 : (Int) × ((List (((Int) × ((Int) × ((Int) × ((Int) × ((Int) × (Int)))))) × (((Int) × (Int)) × (Int)))) × ((Bool) × ((Int) × (Int))))) : Option ((((Int) × ((List (((Int) × ((Int) × ((Int) × ((Int) × ((Int) × (Int)))))) × (((Int) × (Int)) × (Int)))) × (((Bool) × ((Int) × (Int))) × (Unit)))) × (Unit)) × (Unit)) :=
  (laws_toObsS n a0.2.1).bind fun r0 =>
  (laws_toFrac n ((a0.2.2.2.1, a0.2.2.2.2))).bind fun r1 =>
  some ((((a0.1, (r0.1.1.1, ((a0.2.2.1, (r1.1.1.1.1, r1.1.1.1.2)), ()))), ()), ()))

noncomputable def laws_toTable (n : Nat) (a0 : (Int) × ((List (((Int) × ((Int) × ((Int) × ((Int) × ((Int) × (Int)))))) × (((Int) × (Int)) × (Int)))) × ((Bool) × ((Int) × (Int))))) : Option ((((Int) × ((List (((Int) × ((Int) × ((Int) × ((Int) × ((Int) × (Int)))))) × (((Int) × (Int)) × (Int)))) × (((Bool) × ((Int) × (Int))) × (Unit)))) × (Unit)) × (Unit)) := laws_toTable_t n a0

noncomputable def spec_l00In_t (n : Nat) (a0 : Int) (a1 : Int) (a2 : Int) : Option ((((Bool) × (Unit)) × (Unit)) × (Unit)) :=
  cond (decide (a0 ≥ a1))
  (some ((((decide (a0 ≤ a2), ()), ()), ())))
  (some ((((false, ()), ()), ())))

noncomputable def spec_l00In (n : Nat) (a0 : Int) (a1 : Int) (a2 : Int) : Option ((((Bool) × (Unit)) × (Unit)) × (Unit)) := spec_l00In_t n a0 a1 a2

noncomputable def spec_l01Abs_t (n : Nat) (a0 : Int) : Option ((((Int) × (Unit)) × (Unit)) × (Unit)) :=
  cond (decide (a0 < 0))
  (some (((((IntKind.wrap .i64 (0 - a0)), ()), ()), ())))
  (some ((((a0, ()), ()), ())))

noncomputable def spec_l01Abs (n : Nat) (a0 : Int) : Option ((((Int) × (Unit)) × (Unit)) × (Unit)) := spec_l01Abs_t n a0

noncomputable def spec_l01Gcd_t1 (n : Nat) (g1 : Int → Int → Option ((((Int) × (Unit)) × (Unit)) × (Unit))) (v1 : Int) (v0 : Int) : Option ((((Int) × (Unit)) × (Unit)) × (Unit)) :=
  cond ((v1 != 0))
  (cond ((v1 != 0))
    (g1 ((Int.tmod v0 v1)) v1)
    (none))
  (some ((((v0, ()), ()), ())))

noncomputable def spec_l01Gcd_l1 (n : Nat) : Nat → Int → Int → Option ((((Int) × (Unit)) × (Unit)) × (Unit))
  | 0, _, _ => none
  | k + 1, v1, v0 => spec_l01Gcd_t1 n (spec_l01Gcd_l1 n k) v1 v0

noncomputable def spec_l01Gcd_t (n : Nat) (h1 : Nat → Int → Int → Option ((((Int) × (Unit)) × (Unit)) × (Unit))) (a0 : Int) (a1 : Int) : Option ((((Int) × (Unit)) × (Unit)) × (Unit)) :=
  h1 n a1 a0

noncomputable def spec_l01Gcd (n : Nat) (a0 : Int) (a1 : Int) : Option ((((Int) × (Unit)) × (Unit)) × (Unit)) := spec_l01Gcd_t n (spec_l01Gcd_l1 n) a0 a1

noncomputable def spec_l01Ok_t (n : Nat) (a0 : (Int) × (Int)) : Option ((((Bool) × (Unit)) × (Unit)) × (Unit)) :=
  (spec_l00In n a0.2 1 1000000000).bind fun r0 =>
  cond r0.1.1.1
  ((spec_l00In n a0.1 (-1000000000) 1000000000).bind fun r1 =>
    cond r1.1.1.1
    ((spec_l01Abs n a0.1).bind fun r2 =>
      (spec_l01Gcd n r2.1.1.1 a0.2).bind fun r3 =>
      some (((((r3.1.1.1 == 1), ()), ()), ())))
    (some ((((false, ()), ()), ()))))
  (some ((((false, ()), ()), ())))

noncomputable def spec_l01Ok (n : Nat) (a0 : (Int) × (Int)) : Option ((((Bool) × (Unit)) × (Unit)) × (Unit)) := spec_l01Ok_t n a0

noncomputable def spec_l04Obs_e_t3 (n : Nat) (g3 : Int → Bool → Int → ((Int) × ((Int) × ((Int) × ((Int) × ((Int) × (Int)))))) × (((Int) × (Int)) × (Int)) → Option ((((Bool) × (Unit)) × (Unit)) × (Unit))) (v6 : Int) (v5 : Bool) (v1 : Int) (v0 : ((Int) × ((Int) × ((Int) × ((Int) × ((Int) × (Int)))))) × (((Int) × (Int)) × (Int))) : Option ((((Bool) × (Unit)) × (Unit)) × (Unit)) :=
  cond (decide (v6 < 6))
  (cond ((decide (0 ≤ v6) && decide (v6 < 6)))
    (cond (decide ((cond (Nat.beq (Int.toNat v6) 0) v0.1.1 (cond (Nat.beq ((Int.toNat v6) - 1) 0) v0.1.2.1 (cond (Nat.beq (((Int.toNat v6) - 1) - 1) 0) v0.1.2.2.1 (cond (Nat.beq ((((Int.toNat v6) - 1) - 1) - 1) 0) v0.1.2.2.2.1 (cond (Nat.beq (((((Int.toNat v6) - 1) - 1) - 1) - 1) 0) v0.1.2.2.2.2.1 (cond (Nat.beq ((((((Int.toNat v6) - 1) - 1) - 1) - 1) - 1) 0) v0.1.2.2.2.2.2 0)))))) < (-3)))
      (some ((((false, ()), ()), ())))
      (cond (decide ((cond (Nat.beq (Int.toNat v6) 0) v0.1.1 (cond (Nat.beq ((Int.toNat v6) - 1) 0) v0.1.2.1 (cond (Nat.beq (((Int.toNat v6) - 1) - 1) 0) v0.1.2.2.1 (cond (Nat.beq ((((Int.toNat v6) - 1) - 1) - 1) 0) v0.1.2.2.2.1 (cond (Nat.beq (((((Int.toNat v6) - 1) - 1) - 1) - 1) 0) v0.1.2.2.2.2.1 (cond (Nat.beq ((((((Int.toNat v6) - 1) - 1) - 1) - 1) - 1) 0) v0.1.2.2.2.2.2 0)))))) > 3))
        (some ((((false, ()), ()), ())))
        (cond (decide (v6 ≥ v1))
          (cond (((cond (Nat.beq (Int.toNat v6) 0) v0.1.1 (cond (Nat.beq ((Int.toNat v6) - 1) 0) v0.1.2.1 (cond (Nat.beq (((Int.toNat v6) - 1) - 1) 0) v0.1.2.2.1 (cond (Nat.beq ((((Int.toNat v6) - 1) - 1) - 1) 0) v0.1.2.2.2.1 (cond (Nat.beq (((((Int.toNat v6) - 1) - 1) - 1) - 1) 0) v0.1.2.2.2.2.1 (cond (Nat.beq ((((((Int.toNat v6) - 1) - 1) - 1) - 1) - 1) 0) v0.1.2.2.2.2.2 0)))))) != 0))
            (some ((((false, ()), ()), ())))
            (cond v5
              (g3 ((IntKind.wrap .i64 (v6 + 1))) true v1 v0)
              (g3 ((IntKind.wrap .i64 (v6 + 1))) (((cond (Nat.beq (Int.toNat v6) 0) v0.1.1 (cond (Nat.beq ((Int.toNat v6) - 1) 0) v0.1.2.1 (cond (Nat.beq (((Int.toNat v6) - 1) - 1) 0) v0.1.2.2.1 (cond (Nat.beq ((((Int.toNat v6) - 1) - 1) - 1) 0) v0.1.2.2.2.1 (cond (Nat.beq (((((Int.toNat v6) - 1) - 1) - 1) - 1) 0) v0.1.2.2.2.2.1 (cond (Nat.beq ((((((Int.toNat v6) - 1) - 1) - 1) - 1) - 1) 0) v0.1.2.2.2.2.2 0)))))) != 0)) v1 v0)))
          (cond v5
            (g3 ((IntKind.wrap .i64 (v6 + 1))) true v1 v0)
            (g3 ((IntKind.wrap .i64 (v6 + 1))) (((cond (Nat.beq (Int.toNat v6) 0) v0.1.1 (cond (Nat.beq ((Int.toNat v6) - 1) 0) v0.1.2.1 (cond (Nat.beq (((Int.toNat v6) - 1) - 1) 0) v0.1.2.2.1 (cond (Nat.beq ((((Int.toNat v6) - 1) - 1) - 1) 0) v0.1.2.2.2.1 (cond (Nat.beq (((((Int.toNat v6) - 1) - 1) - 1) - 1) 0) v0.1.2.2.2.2.1 (cond (Nat.beq ((((((Int.toNat v6) - 1) - 1) - 1) - 1) - 1) 0) v0.1.2.2.2.2.2 0)))))) != 0)) v1 v0)))))
    (none))
  (cond v5
    ((spec_l01Ok n ((v0.2.1.1, v0.2.1.2))).bind fun r0 =>
      cond r0.1.1.1
      ((spec_l00In n v0.2.2 1 100).bind fun r1 =>
        some ((((r1.1.1.1, ()), ()), ())))
      (some ((((false, ()), ()), ()))))
    (some ((((false, ()), ()), ()))))

noncomputable def spec_l04Obs_e_l3 (n : Nat) : Nat → Int → Bool → Int → ((Int) × ((Int) × ((Int) × ((Int) × ((Int) × (Int)))))) × (((Int) × (Int)) × (Int)) → Option ((((Bool) × (Unit)) × (Unit)) × (Unit))
  | 0, _, _, _, _ => none
  | k + 1, v6, v5, v1, v0 => spec_l04Obs_e_t3 n (spec_l04Obs_e_l3 n k) v6 v5 v1 v0

noncomputable def spec_l04Obs_e_t (n : Nat) (h3 : Nat → Int → Bool → Int → ((Int) × ((Int) × ((Int) × ((Int) × ((Int) × (Int)))))) × (((Int) × (Int)) × (Int)) → Option ((((Bool) × (Unit)) × (Unit)) × (Unit))) (a0 : ((Int) × ((Int) × ((Int) × ((Int) × ((Int) × (Int)))))) × (((Int) × (Int)) × (Int))) (a1 : Int) : Option ((((Bool) × (Unit)) × (Unit)) × (Unit)) :=
  h3 n 0 false a1 a0

noncomputable def spec_l04Obs_e (n : Nat) (a0 : ((Int) × ((Int) × ((Int) × ((Int) × ((Int) × (Int)))))) × (((Int) × (Int)) × (Int))) (a1 : Int) : Option ((((Bool) × (Unit)) × (Unit)) × (Unit)) := spec_l04Obs_e_t n (spec_l04Obs_e_l3 n) a0 a1

noncomputable def spec_l04Ok_t4 (n : Nat) (g4 : Int → Int → (List (((Int) × ((Int) × ((Int) × ((Int) × ((Int) × (Int)))))) × (((Int) × (Int)) × (Int)))) → Bool → Int → Int → Option ((((Bool) × (Unit)) × (Unit)) × (((Int) × ((List (((Int) × ((Int) × ((Int) × ((Int) × ((Int) × (Int)))))) × (((Int) × (Int)) × (Int)))) × ((Bool) × ((Int) × (Int))))) × (Unit)))) (v3 : Int) (b0_0 : Int) (b0_1 : List (((Int) × ((Int) × ((Int) × ((Int) × ((Int) × (Int)))))) × (((Int) × (Int)) × (Int)))) (b0_2 : Bool) (b0_3 : Int) (b0_4 : Int) : Option ((((Bool) × (Unit)) × (Unit)) × (((Int) × ((List (((Int) × ((Int) × ((Int) × ((Int) × ((Int) × (Int)))))) × (((Int) × (Int)) × (Int)))) × ((Bool) × ((Int) × (Int))))) × (Unit))) :=
  cond (decide (v3 < ((b0_1.length : Nat) : Int)))
  (cond ((decide (0 ≤ v3) && decide (v3 < ((b0_1.length : Nat) : Int))))
    ((spec_l04Obs_e n ((((b0_1.getD (Int.toNat v3) ((0, (0, (0, (0, (0, 0))))), ((0, 0), 0))).1.1, ((b0_1.getD (Int.toNat v3) ((0, (0, (0, (0, (0, 0))))), ((0, 0), 0))).1.2.1, ((b0_1.getD (Int.toNat v3) ((0, (0, (0, (0, (0, 0))))), ((0, 0), 0))).1.2.2.1, ((b0_1.getD (Int.toNat v3) ((0, (0, (0, (0, (0, 0))))), ((0, 0), 0))).1.2.2.2.1, ((b0_1.getD (Int.toNat v3) ((0, (0, (0, (0, (0, 0))))), ((0, 0), 0))).1.2.2.2.2.1, (b0_1.getD (Int.toNat v3) ((0, (0, (0, (0, (0, 0))))), ((0, 0), 0))).1.2.2.2.2.2))))), (((b0_1.getD (Int.toNat v3) ((0, (0, (0, (0, (0, 0))))), ((0, 0), 0))).2.1.1, (b0_1.getD (Int.toNat v3) ((0, (0, (0, (0, (0, 0))))), ((0, 0), 0))).2.1.2), (b0_1.getD (Int.toNat v3) ((0, (0, (0, (0, (0, 0))))), ((0, 0), 0))).2.2))) b0_0).bind fun r2 =>
      cond (!r2.1.1.1)
      (some ((((false, ()), ()), ((b0_0, (b0_1, (b0_2, (b0_3, b0_4)))), ()))))
      (g4 ((IntKind.wrap .i64 (v3 + 1))) b0_0 b0_1 b0_2 b0_3 b0_4))
    (none))
  (some ((((true, ()), ()), ((b0_0, (b0_1, (b0_2, (b0_3, b0_4)))), ()))))

noncomputable def spec_l04Ok_l4 (n : Nat) : Nat → Int → Int → (List (((Int) × ((Int) × ((Int) × ((Int) × ((Int) × (Int)))))) × (((Int) × (Int)) × (Int)))) → Bool → Int → Int → Option ((((Bool) × (Unit)) × (Unit)) × (((Int) × ((List (((Int) × ((Int) × ((Int) × ((Int) × ((Int) × (Int)))))) × (((Int) × (Int)) × (Int)))) × ((Bool) × ((Int) × (Int))))) × (Unit)))
  | 0, _, _, _, _, _, _ => none
  | k + 1, v3, b0_0, b0_1, b0_2, b0_3, b0_4 => spec_l04Ok_t4 n (spec_l04Ok_l4 n k) v3 b0_0 b0_1 b0_2 b0_3 b0_4

noncomputable def spec_l04Ok_t (n : Nat) (h4 : Nat → Int → Int → (List (((Int) × ((Int) × ((Int) × ((Int) × ((Int) × (Int)))))) × (((Int) × (Int)) × (Int)))) → Bool → Int → Int → Option ((((Bool) × (Unit)) × (Unit)) × (((Int) × ((List (((Int) × ((Int) × ((Int) × ((Int) × ((Int) × (Int)))))) × (((Int) × (Int)) × (Int)))) × ((Bool) × ((Int) × (Int))))) × (Unit)))) (b0 : (Int) × ((List (((Int) × ((Int) × ((Int) × ((Int) × ((Int) × (Int)))))) × (((Int) × (Int)) × (Int)))) × ((Bool) × ((Int) × (Int))))) : Option ((((Bool) × (Unit)) × (Unit)) × (((Int) × ((List (((Int) × ((Int) × ((Int) × ((Int) × ((Int) × (Int)))))) × (((Int) × (Int)) × (Int)))) × ((Bool) × ((Int) × (Int))))) × (Unit))) :=
  (spec_l00In n b0.1 1 6).bind fun r0 =>
  cond (!r0.1.1.1)
  (some ((((false, ()), ()), ((b0.1, (b0.2.1, (b0.2.2.1, (b0.2.2.2.1, b0.2.2.2.2)))), ()))))
  (cond (decide (((b0.2.1.length : Nat) : Int) > 24))
    (some ((((false, ()), ()), ((b0.1, (b0.2.1, (b0.2.2.1, (b0.2.2.2.1, b0.2.2.2.2)))), ()))))
    ((spec_l01Ok n ((b0.2.2.2.1, b0.2.2.2.2))).bind fun r1 =>
      cond (!r1.1.1.1)
      (some ((((false, ()), ()), ((b0.1, (b0.2.1, (b0.2.2.1, (b0.2.2.2.1, b0.2.2.2.2)))), ()))))
      (cond (!b0.2.2.1)
        (cond ((b0.2.2.2.1 != 0))
          (some ((((false, ()), ()), ((b0.1, (b0.2.1, (b0.2.2.1, (b0.2.2.2.1, b0.2.2.2.2)))), ()))))
          (h4 n 0 b0.1 b0.2.1 b0.2.2.1 b0.2.2.2.1 b0.2.2.2.2))
        (h4 n 0 b0.1 b0.2.1 b0.2.2.1 b0.2.2.2.1 b0.2.2.2.2))))

noncomputable def spec_l04Ok (n : Nat) (b0 : (Int) × ((List (((Int) × ((Int) × ((Int) × ((Int) × ((Int) × (Int)))))) × (((Int) × (Int)) × (Int)))) × ((Bool) × ((Int) × (Int))))) : Option ((((Bool) × (Unit)) × (Unit)) × (((Int) × ((List (((Int) × ((Int) × ((Int) × ((Int) × ((Int) × (Int)))))) × (((Int) × (Int)) × (Int)))) × ((Bool) × ((Int) × (Int))))) × (Unit))) := spec_l04Ok_t n (spec_l04Ok_l4 n) b0

noncomputable def spec_WithoutObs_t (n : Nat) (a0 : (Int) × ((List (((Int) × ((Int) × ((Int) × ((Int) × ((Int) × (Int)))))) × (((Int) × (Int)) × (Int)))) × ((Bool) × ((Int) × (Int))))) (a1 : Int) : Option (((((Int) × ((List (((Int) × ((Int) × ((Int) × ((Int) × ((Int) × (Int)))))) × (((Int) × (Int)) × (Int)))) × ((Bool) × ((Int) × (Int))))) × (Unit)) × (((Int) × (Unit)) × (Unit))) × (Unit)) :=
  (spec_l04Ok n ((a0.1, (a0.2.1, (a0.2.2.1, (a0.2.2.2.1, a0.2.2.2.2)))))).bind fun r0 =>
  cond (!r0.1.1.1)
  (some (((((0, ([], (false, (0, 0)))), ()), ((1, ()), ())), ())))
  ((spec_l00In n a1 0 ((IntKind.wrap .i64 (((r0.2.1.2.1.length : Nat) : Int) - 1)))).bind fun r1 =>
    cond (!r1.1.1.1)
    (some (((((0, ([], (false, (0, 0)))), ()), ((2, ()), ())), ())))
    (cond ((decide (0 ≤ a1) && decide (a1 ≤ ((r0.2.1.2.1.length : Nat) : Int))))
      (cond (decide (((0 + ((r0.2.1.2.1.drop (Int.toNat 0)).take ((Int.toNat a1) - (Int.toNat 0))).length) * 33) ≤ 70368744177664))
        (cond (((decide (0 ≤ (IntKind.wrap .i64 (a1 + 1))) && decide ((IntKind.wrap .i64 (a1 + 1)) ≤ ((r0.2.1.2.1.length : Nat) : Int))) && decide (((r0.2.1.2.1.length : Nat) : Int) ≤ ((r0.2.1.2.1.length : Nat) : Int))))
          (cond (decide (((([] ++ ((r0.2.1.2.1.drop (Int.toNat 0)).take ((Int.toNat a1) - (Int.toNat 0)))).length + ((r0.2.1.2.1.drop (Int.toNat (IntKind.wrap .i64 (a1 + 1)))).take ((Int.toNat ((r0.2.1.2.1.length : Nat) : Int)) - (Int.toNat (IntKind.wrap .i64 (a1 + 1))))).length) * 33) ≤ 70368744177664))
            (some (((((r0.2.1.1, ((([] ++ ((r0.2.1.2.1.drop (Int.toNat 0)).take ((Int.toNat a1) - (Int.toNat 0)))) ++ ((r0.2.1.2.1.drop (Int.toNat (IntKind.wrap .i64 (a1 + 1)))).take ((Int.toNat ((r0.2.1.2.1.length : Nat) : Int)) - (Int.toNat (IntKind.wrap .i64 (a1 + 1)))))), (r0.2.1.2.2.1, (r0.2.1.2.2.2.1, r0.2.1.2.2.2.2)))), ()), ((0, ()), ())), ())))
            (none))
          (none))
        (none))
      (none)))

noncomputable def spec_WithoutObs (n : Nat) (a0 : (Int) × ((List (((Int) × ((Int) × ((Int) × ((Int) × ((Int) × (Int)))))) × (((Int) × (Int)) × (Int)))) × ((Bool) × ((Int) × (Int))))) (a1 : Int) : Option (((((Int) × ((List (((Int) × ((Int) × ((Int) × ((Int) × ((Int) × (Int)))))) × (((Int) × (Int)) × (Int)))) × ((Bool) × ((Int) × (Int))))) × (Unit)) × (((Int) × (Unit)) × (Unit))) × (Unit)) := spec_WithoutObs_t n a0 a1

noncomputable def laws_FnExactWithoutObs_t (n : Nat) (a0 : (Int) × ((List (((Int) × ((Int) × ((Int) × ((Int) × ((Int) × (Int)))))) × (((Int) × (Int)) × (Int)))) × ((Bool) × ((Int) × (Int))))) (a1 : Int) : Option ((((Bool) × (Unit)) × (Unit)) × (Unit)) :=
  (laws_szTable n ((a0.1, (a0.2.1, (a0.2.2.1, (a0.2.2.2.1, a0.2.2.2.2))))) 1048576).bind fun r0 =>
  cond (decide (r0.1.1.1 < 0))
  (some ((((true, ()), ()), ())))
  ((laws_toTable n ((a0.1, (a0.2.1, (a0.2.2.1, (a0.2.2.2.1, a0.2.2.2.2)))))).bind fun r1 =>
    (spec_WithoutObs n ((r1.1.1.1, (r1.1.1.2.1, (r1.1.1.2.2.1.1, (r1.1.1.2.2.1.2.1, r1.1.1.2.2.1.2.2))))) a1).bind fun r2 =>
    (laws_toTable n ((a0.1, (a0.2.1, (a0.2.2.1, (a0.2.2.2.1, a0.2.2.2.2)))))).bind fun r3 =>
    (impl_WithoutObs n ((r3.1.1.1, (r3.1.1.2.1, (r3.1.1.2.2.1.1, (r3.1.1.2.2.1.2.1, r3.1.1.2.2.1.2.2))))) a1).bind fun r4 =>
    (laws_eqTable n ((r4.1.1.1, (r4.1.1.2.1, (r4.1.1.2.2.1.1, (r4.1.1.2.2.1.2.1, r4.1.1.2.2.1.2.2))))) ((r2.1.1.1.1, (r2.1.1.1.2.1, (r2.1.1.1.2.2.1, (r2.1.1.1.2.2.2.1, r2.1.1.1.2.2.2.2)))))).bind fun r5 =>
    cond (!r5.1.1.1)
    (some ((((false, ()), ()), ())))
    (cond ((r4.1.2.1.1 != r2.1.2.1.1))
      (some ((((false, ()), ()), ())))
      ((laws_toTable n ((a0.1, (a0.2.1, (a0.2.2.1, (a0.2.2.2.1, a0.2.2.2.2)))))).bind fun r6 =>
        (laws_eqTable n ((r3.1.1.1, (r3.1.1.2.1, (r3.1.1.2.2.1.1, (r3.1.1.2.2.1.2.1, r3.1.1.2.2.1.2.2))))) ((r6.1.1.1, (r6.1.1.2.1, (r6.1.1.2.2.1.1, (r6.1.1.2.2.1.2.1, r6.1.1.2.2.1.2.2)))))).bind fun r7 =>
        cond (!r7.1.1.1)
        (some ((((false, ()), ()), ())))
        ((laws_markTable n ((r3.1.1.1, ((r3.1.1.2.2.1.1, (r3.1.1.2.2.1.2.1, r3.1.1.2.2.1.2.2)), ()))) 1 r3.1.1.2.1).bind fun r8 =>
          cond (decide (r8.1.1.1 < 0))
          (some ((((false, ()), ()), ())))
          ((laws_eqTable n ((r4.1.1.1, (r4.1.1.2.1, (r4.1.1.2.2.1.1, (r4.1.1.2.2.1.2.1, r4.1.1.2.2.1.2.2))))) ((r2.1.1.1.1, (r2.1.1.1.2.1, (r2.1.1.1.2.2.1, (r2.1.1.1.2.2.2.1, r2.1.1.1.2.2.2.2)))))).bind fun r9 =>
            cond (!r9.1.1.1)
            (some ((((false, ()), ()), ())))
            (cond ((r4.1.2.1.1 != r2.1.2.1.1))
              (some ((((false, ()), ()), ())))
              ((laws_markTable n ((r4.1.1.1, ((r4.1.1.2.2.1.1, (r4.1.1.2.2.1.2.1, r4.1.1.2.2.1.2.2)), ()))) 1 r4.1.1.2.1).bind fun r10 =>
                (laws_heldTable n ((r4.1.1.1, (r10.2.1, (r4.1.1.2.2.1.1, (r4.1.1.2.2.1.2.1, r4.1.1.2.2.1.2.2))))) 1).bind fun r11 =>
                cond (decide (r11.1.1.1 < 0))
                (some ((((false, ()), ()), ())))
                (cond ((r11.1.1.1 != r10.1.1.1))
                  (some ((((false, ()), ()), ())))
                  ((laws_toTable n ((a0.1, (a0.2.1, (a0.2.2.1, (a0.2.2.2.1, a0.2.2.2.2)))))).bind fun r12 =>
                    (impl_WithoutObs n ((r12.1.1.1, (r12.1.1.2.1, (r12.1.1.2.2.1.1, (r12.1.1.2.2.1.2.1, r12.1.1.2.2.1.2.2))))) a1).bind fun r13 =>
                    (laws_eqTable n ((r13.1.1.1, (r13.1.1.2.1, (r13.1.1.2.2.1.1, (r13.1.1.2.2.1.2.1, r13.1.1.2.2.1.2.2))))) ((r2.1.1.1.1, (r2.1.1.1.2.1, (r2.1.1.1.2.2.1, (r2.1.1.1.2.2.2.1, r2.1.1.1.2.2.2.2)))))).bind fun r14 =>
                    cond (!r14.1.1.1)
                    (some ((((false, ()), ()), ())))
                    (cond ((r13.1.2.1.1 != r2.1.2.1.1))
                      (some ((((false, ()), ()), ())))
                      ((laws_heldTable n ((r4.1.1.1, (r10.2.1, (r4.1.1.2.2.1.1, (r4.1.1.2.2.1.2.1, r4.1.1.2.2.1.2.2))))) 1).bind fun r15 =>
                        cond (decide (r15.1.1.1 < 0))
                        (some ((((false, ()), ()), ())))
                        (cond ((r15.1.1.1 != r10.1.1.1))
                          (some ((((false, ()), ()), ())))
                          (some ((((true, ()), ()), ())))))))))))))))

noncomputable def laws_FnExactWithoutObs (n : Nat) (a0 : (Int) × ((List (((Int) × ((Int) × ((Int) × ((Int) × ((Int) × (Int)))))) × (((Int) × (Int)) × (Int)))) × ((Bool) × ((Int) × (Int))))) (a1 : Int) : Option ((((Bool) × (Unit)) × (Unit)) × (Unit)) := laws_FnExactWithoutObs_t n a0 a1

noncomputable def impl_Standard_good_t (n : Nat) (a0 : (ByteArray) × ((Int) × ((((Int) × (Int)) × ((Int) × (Int))) × (((Int) × (Int)) × ((Int) × (Int)))))) (a1 : Int) : Option ((((Bool) × (Unit)) × (Unit)) × (Unit)) :=
  (impl_within n a1 a0.2.2.2.2.1 ((IntKind.wrap .i64 (a0.2.2.2.2.1 + a0.2.2.2.2.2)))).bind fun r0 =>
  some ((((r0.1.1.1, ()), ()), ()))

noncomputable def impl_Standard_good (n : Nat) (a0 : (ByteArray) × ((Int) × ((((Int) × (Int)) × ((Int) × (Int))) × (((Int) × (Int)) × ((Int) × (Int)))))) (a1 : Int) : Option ((((Bool) × (Unit)) × (Unit)) × (Unit)) := impl_Standard_good_t n a0 a1

noncomputable def impl_areValid_1_t (n : Nat) (a0 : (Int) × (Int)) : Option ((((Bool) × (Unit)) × (Unit)) × (Unit)) :=
  (impl_ValidFrac n ((a0.1, a0.2))).bind fun r0 =>
  some (((((!r0.1.1.1), ()), ()), ()))

noncomputable def impl_areValid_1 (n : Nat) (a0 : (Int) × (Int)) : Option ((((Bool) × (Unit)) × (Unit)) × (Unit)) := impl_areValid_1_t n a0

noncomputable def slices_IndexFunc_impl_Frac_impl_Frac_at_impl_areValid_1_t2 (n : Nat) (g2 : Int → (List ((Int) × (Int))) → Int → Option ((((Int) × (Unit)) × (Unit)) × (Unit))) (v8 : Int) (v0 : List ((Int) × (Int))) (v7 : Int) : Option ((((Int) × (Unit)) × (Unit)) × (Unit)) :=
  cond (decide (v8 < v7))
  (cond ((decide (0 ≤ v8) && decide (v8 < ((v0.length : Nat) : Int))))
    ((impl_areValid_1 n (((v0.getD (Int.toNat v8) (0, 0)).1, (v0.getD (Int.toNat v8) (0, 0)).2))).bind fun r0 =>
      cond r0.1.1.1
      (some ((((v8, ()), ()), ())))
      (g2 ((IntKind.wrap .i64 (v8 + 1))) v0 v7))
    (none))
  (some (((((-1), ()), ()), ())))

noncomputable def slices_IndexFunc_impl_Frac_impl_Frac_at_impl_areValid_1_l2 (n : Nat) : Nat → Int → (List ((Int) × (Int))) → Int → Option ((((Int) × (Unit)) × (Unit)) × (Unit))
  | 0, _, _, _ => none
  | k + 1, v8, v0, v7 => slices_IndexFunc_impl_Frac_impl_Frac_at_impl_areValid_1_t2 n (slices_IndexFunc_impl_Frac_impl_Frac_at_impl_areValid_1_l2 n k) v8 v0 v7

noncomputable def slices_IndexFunc_impl_Frac_impl_Frac_at_impl_areValid_1_t (n : Nat) (h2 : Nat → Int → (List ((Int) × (Int))) → Int → Option ((((Int) × (Unit)) × (Unit)) × (Unit))) (a0 : List ((Int) × (Int))) : Option ((((Int) × (Unit)) × (Unit)) × (Unit)) :=
  h2 n 0 a0 (((a0.length : Nat) : Int))

noncomputable def slices_IndexFunc_impl_Frac_impl_Frac_at_impl_areValid_1 (n : Nat) (a0 : List ((Int) × (Int))) : Option ((((Int) × (Unit)) × (Unit)) × (Unit)) := slices_IndexFunc_impl_Frac_impl_Frac_at_impl_areValid_1_t n (slices_IndexFunc_impl_Frac_impl_Frac_at_impl_areValid_1_l2 n) a0

noncomputable def slices_ContainsFunc_impl_Frac_impl_Frac_at_impl_areValid_1_t (n : Nat) (a0 : List ((Int) × (Int))) : Option ((((Bool) × (Unit)) × (Unit)) × (Unit)) :=
  (slices_IndexFunc_impl_Frac_impl_Frac_at_impl_areValid_1 n a0).bind fun r0 =>
  some ((((decide (r0.1.1.1 ≥ 0), ()), ()), ()))

noncomputable def slices_ContainsFunc_impl_Frac_impl_Frac_at_impl_areValid_1 (n : Nat) (a0 : List ((Int) × (Int))) : Option ((((Bool) × (Unit)) × (Unit)) × (Unit)) := slices_ContainsFunc_impl_Frac_impl_Frac_at_impl_areValid_1_t n a0

noncomputable def impl_areValid_t (n : Nat) (a0 : List ((Int) × (Int))) : Option ((((Bool) × (Unit)) × (Unit)) × (Unit)) :=
  (slices_ContainsFunc_impl_Frac_impl_Frac_at_impl_areValid_1 n a0).bind fun r0 =>
  some (((((!r0.1.1.1), ()), ()), ()))

noncomputable def impl_areValid (n : Nat) (a0 : List ((Int) × (Int))) : Option ((((Bool) × (Unit)) × (Unit)) × (Unit)) := impl_areValid_t n a0

noncomputable def impl_compare_t (n : Nat) (a0 : (Int) × (Int)) (a1 : (Int) × (Int)) : Option ((((Int) × (Unit)) × (Unit)) × (Unit)) :=
  cond (decide ((IntKind.wrap .i64 (a0.1 * a1.2)) < (IntKind.wrap .i64 (a1.1 * a0.2))))
  (some (((((-1), ()), ()), ())))
  (cond (decide ((IntKind.wrap .i64 (a0.1 * a1.2)) > (IntKind.wrap .i64 (a1.1 * a0.2))))
    (some ((((1, ()), ()), ())))
    (some ((((0, ()), ()), ()))))

noncomputable def impl_compare (n : Nat) (a0 : (Int) × (Int)) (a1 : (Int) × (Int)) : Option ((((Int) × (Unit)) × (Unit)) × (Unit)) := impl_compare_t n a0 a1

noncomputable def impl_ValidSpan_t (n : Nat) (a0 : ((Int) × (Int)) × ((Int) × (Int))) : Option ((((Bool) × (Unit)) × (Unit)) × (Unit)) :=
  (impl_areValid n (((a0.1.1, a0.1.2) :: ((a0.2.1, a0.2.2) :: [])))).bind fun r0 =>
  cond r0.1.1.1
  ((impl_compare n ((a0.1.1, a0.1.2)) ((a0.2.1, a0.2.2))).bind fun r1 =>
    some ((((decide (r1.1.1.1 ≤ 0), ()), ()), ())))
  (some ((((false, ()), ()), ())))

noncomputable def impl_ValidSpan (n : Nat) (a0 : ((Int) × (Int)) × ((Int) × (Int))) : Option ((((Bool) × (Unit)) × (Unit)) × (Unit)) := impl_ValidSpan_t n a0

noncomputable def impl_isWord_t2 (n : Nat) (g2 : Int → ByteArray → Int → Option ((((Bool) × (Unit)) × (Unit)) × (Unit))) (v6 : Int) (v0 : ByteArray) (v5 : Int) : Option ((((Bool) × (Unit)) × (Unit)) × (Unit)) :=
  cond (decide (v6 < v5))
  (cond ((decide (0 ≤ v6) && decide (v6 < (((ByteArray.size v0) : Nat) : Int))))
    (cond (decide ((byteAt v0 v6) < 97))
      (some ((((false, ()), ()), ())))
      (cond ((decide (0 ≤ v6) && decide (v6 < (((ByteArray.size v0) : Nat) : Int))))
        (cond (decide ((byteAt v0 v6) > 122))
          (some ((((false, ()), ()), ())))
          (g2 ((IntKind.wrap .i64 (v6 + 1))) v0 v5))
        (none)))
    (none))
  ((impl_within n ((((ByteArray.size v0) : Nat) : Int)) 1 12).bind fun r0 =>
    some ((((r0.1.1.1, ()), ()), ())))

noncomputable def impl_isWord_l2 (n : Nat) : Nat → Int → ByteArray → Int → Option ((((Bool) × (Unit)) × (Unit)) × (Unit))
  | 0, _, _, _ => none
  | k + 1, v6, v0, v5 => impl_isWord_t2 n (impl_isWord_l2 n k) v6 v0 v5

noncomputable def impl_isWord_t (n : Nat) (h2 : Nat → Int → ByteArray → Int → Option ((((Bool) × (Unit)) × (Unit)) × (Unit))) (a0 : ByteArray) : Option ((((Bool) × (Unit)) × (Unit)) × (Unit)) :=
  h2 n 0 a0 ((((ByteArray.size a0) : Nat) : Int))

noncomputable def impl_isWord (n : Nat) (a0 : ByteArray) : Option ((((Bool) × (Unit)) × (Unit)) × (Unit)) := impl_isWord_t n (impl_isWord_l2 n) a0

noncomputable def impl_ValidChain_1_t (n : Nat) (a0 : (ByteArray) × ((Int) × ((((Int) × (Int)) × ((Int) × (Int))) × (((Int) × (Int)) × ((Int) × (Int)))))) (b0 : (ByteArray) × ((Int) × ((((Int) × (Int)) × ((Int) × (Int))) × (((Int) × (Int)) × ((Int) × (Int)))))) : Option ((((Bool) × (Unit)) × (Unit)) × (((ByteArray) × ((Int) × ((((Int) × (Int)) × ((Int) × (Int))) × (((Int) × (Int)) × ((Int) × (Int)))))) × (Unit))) :=
  some (((((eqStr a0.1 b0.1), ()), ()), ((b0.1, (b0.2.1, (((b0.2.2.1.1.1, b0.2.2.1.1.2), (b0.2.2.1.2.1, b0.2.2.1.2.2)), ((b0.2.2.2.1.1, b0.2.2.2.1.2), (b0.2.2.2.2.1, b0.2.2.2.2.2))))), ())))

noncomputable def impl_ValidChain_1 (n : Nat) (a0 : (ByteArray) × ((Int) × ((((Int) × (Int)) × ((Int) × (Int))) × (((Int) × (Int)) × ((Int) × (Int)))))) (b0 : (ByteArray) × ((Int) × ((((Int) × (Int)) × ((Int) × (Int))) × (((Int) × (Int)) × ((Int) × (Int)))))) : Option ((((Bool) × (Unit)) × (Unit)) × (((ByteArray) × ((Int) × ((((Int) × (Int)) × ((Int) × (Int))) × (((Int) × (Int)) × ((Int) × (Int)))))) × (Unit))) := impl_ValidChain_1_t n a0 b0

noncomputable def slices_IndexFunc_impl_Standard_impl_Standard_at_impl_ValidChain_1_t2 (n : Nat) (g2 : Int → (List ((ByteArray) × ((Int) × ((((Int) × (Int)) × ((Int) × (Int))) × (((Int) × (Int)) × ((Int) × (Int))))))) → Int → ByteArray → Int → Int → Int → Int → Int → Int → Int → Int → Int → Option ((((Int) × (Unit)) × (Unit)) × (((ByteArray) × ((Int) × ((((Int) × (Int)) × ((Int) × (Int))) × (((Int) × (Int)) × ((Int) × (Int)))))) × (Unit)))) (v8 : Int) (v0 : List ((ByteArray) × ((Int) × ((((Int) × (Int)) × ((Int) × (Int))) × (((Int) × (Int)) × ((Int) × (Int))))))) (v7 : Int) (b0_0 : ByteArray) (b0_1 : Int) (b0_2 : Int) (b0_3 : Int) (b0_4 : Int) (b0_5 : Int) (b0_6 : Int) (b0_7 : Int) (b0_8 : Int) (b0_9 : Int) : Option ((((Int) × (Unit)) × (Unit)) × (((ByteArray) × ((Int) × ((((Int) × (Int)) × ((Int) × (Int))) × (((Int) × (Int)) × ((Int) × (Int)))))) × (Unit))) :=
  cond (decide (v8 < v7))
  (cond ((decide (0 ≤ v8) && decide (v8 < ((v0.length : Nat) : Int))))
    ((impl_ValidChain_1 n (((v0.getD (Int.toNat v8) ((ByteArray.mk #[]), (0, (((0, 0), (0, 0)), ((0, 0), (0, 0)))))).1, ((v0.getD (Int.toNat v8) ((ByteArray.mk #[]), (0, (((0, 0), (0, 0)), ((0, 0), (0, 0)))))).2.1, ((((v0.getD (Int.toNat v8) ((ByteArray.mk #[]), (0, (((0, 0), (0, 0)), ((0, 0), (0, 0)))))).2.2.1.1.1, (v0.getD (Int.toNat v8) ((ByteArray.mk #[]), (0, (((0, 0), (0, 0)), ((0, 0), (0, 0)))))).2.2.1.1.2), ((v0.getD (Int.toNat v8) ((ByteArray.mk #[]), (0, (((0, 0), (0, 0)), ((0, 0), (0, 0)))))).2.2.1.2.1, (v0.getD (Int.toNat v8) ((ByteArray.mk #[]), (0, (((0, 0), (0, 0)), ((0, 0), (0, 0)))))).2.2.1.2.2)), (((v0.getD (Int.toNat v8) ((ByteArray.mk #[]), (0, (((0, 0), (0, 0)), ((0, 0), (0, 0)))))).2.2.2.1.1, (v0.getD (Int.toNat v8) ((ByteArray.mk #[]), (0, (((0, 0), (0, 0)), ((0, 0), (0, 0)))))).2.2.2.1.2), ((v0.getD (Int.toNat v8) ((ByteArray.mk #[]), (0, (((0, 0), (0, 0)), ((0, 0), (0, 0)))))).2.2.2.2.1, (v0.getD (Int.toNat v8) ((ByteArray.mk #[]), (0, (((0, 0), (0, 0)), ((0, 0), (0, 0)))))).2.2.2.2.2)))))) ((b0_0, (b0_1, (((b0_2, b0_3), (b0_4, b0_5)), ((b0_6, b0_7), (b0_8, b0_9))))))).bind fun r0 =>
      cond r0.1.1.1
      (some ((((v8, ()), ()), ((r0.2.1.1, (r0.2.1.2.1, (((r0.2.1.2.2.1.1.1, r0.2.1.2.2.1.1.2), (r0.2.1.2.2.1.2.1, r0.2.1.2.2.1.2.2)), ((r0.2.1.2.2.2.1.1, r0.2.1.2.2.2.1.2), (r0.2.1.2.2.2.2.1, r0.2.1.2.2.2.2.2))))), ()))))
      (g2 ((IntKind.wrap .i64 (v8 + 1))) v0 v7 r0.2.1.1 r0.2.1.2.1 r0.2.1.2.2.1.1.1 r0.2.1.2.2.1.1.2 r0.2.1.2.2.1.2.1 r0.2.1.2.2.1.2.2 r0.2.1.2.2.2.1.1 r0.2.1.2.2.2.1.2 r0.2.1.2.2.2.2.1 r0.2.1.2.2.2.2.2))
    (none))
  (some (((((-1), ()), ()), ((b0_0, (b0_1, (((b0_2, b0_3), (b0_4, b0_5)), ((b0_6, b0_7), (b0_8, b0_9))))), ()))))

noncomputable def slices_IndexFunc_impl_Standard_impl_Standard_at_impl_ValidChain_1_l2 (n : Nat) : Nat → Int → (List ((ByteArray) × ((Int) × ((((Int) × (Int)) × ((Int) × (Int))) × (((Int) × (Int)) × ((Int) × (Int))))))) → Int → ByteArray → Int → Int → Int → Int → Int → Int → Int → Int → Int → Option ((((Int) × (Unit)) × (Unit)) × (((ByteArray) × ((Int) × ((((Int) × (Int)) × ((Int) × (Int))) × (((Int) × (Int)) × ((Int) × (Int)))))) × (Unit)))
  | 0, _, _, _, _, _, _, _, _, _, _, _, _, _ => none
  | k + 1, v8, v0, v7, b0_0, b0_1, b0_2, b0_3, b0_4, b0_5, b0_6, b0_7, b0_8, b0_9 => slices_IndexFunc_impl_Standard_impl_Standard_at_impl_ValidChain_1_t2 n (slices_IndexFunc_impl_Standard_impl_Standard_at_impl_ValidChain_1_l2 n k) v8 v0 v7 b0_0 b0_1 b0_2 b0_3 b0_4 b0_5 b0_6 b0_7 b0_8 b0_9

noncomputable def slices_IndexFunc_impl_Standard_impl_Standard_at_impl_ValidChain_1_t (n : Nat) (h2 : Nat → Int → (List ((ByteArray) × ((Int) × ((((Int) × (Int)) × ((Int) × (Int))) × (((Int) × (Int)) × ((Int) × (Int))))))) → Int → ByteArray → Int → Int → Int → Int → Int → Int → Int → Int → Int → Option ((((Int) × (Unit)) × (Unit)) × (((ByteArray) × ((Int) × ((((Int) × (Int)) × ((Int) × (Int))) × (((Int) × (Int)) × ((Int) × (Int)))))) × (Unit)))) (a0 : List ((ByteArray) × ((Int) × ((((Int) × (Int)) × ((Int) × (Int))) × (((Int) × (Int)) × ((Int) × (Int))))))) (b0 : (ByteArray) × ((Int) × ((((Int) × (Int)) × ((Int) × (Int))) × (((Int) × (Int)) × ((Int) × (Int)))))) : Option ((((Int) × (Unit)) × (Unit)) × (((ByteArray) × ((Int) × ((((Int) × (Int)) × ((Int) × (Int))) × (((Int) × (Int)) × ((Int) × (Int)))))) × (Unit))) :=
  h2 n 0 a0 (((a0.length : Nat) : Int)) b0.1 b0.2.1 b0.2.2.1.1.1 b0.2.2.1.1.2 b0.2.2.1.2.1 b0.2.2.1.2.2 b0.2.2.2.1.1 b0.2.2.2.1.2 b0.2.2.2.2.1 b0.2.2.2.2.2

noncomputable def slices_IndexFunc_impl_Standard_impl_Standard_at_impl_ValidChain_1 (n : Nat) (a0 : List ((ByteArray) × ((Int) × ((((Int) × (Int)) × ((Int) × (Int))) × (((Int) × (Int)) × ((Int) × (Int))))))) (b0 : (ByteArray) × ((Int) × ((((Int) × (Int)) × ((Int) × (Int))) × (((Int) × (Int)) × ((Int) × (Int)))))) : Option ((((Int) × (Unit)) × (Unit)) × (((ByteArray) × ((Int) × ((((Int) × (Int)) × ((Int) × (Int))) × (((Int) × (Int)) × ((Int) × (Int)))))) × (Unit))) := slices_IndexFunc_impl_Standard_impl_Standard_at_impl_ValidChain_1_t n (slices_IndexFunc_impl_Standard_impl_Standard_at_impl_ValidChain_1_l2 n) a0 b0

noncomputable def slices_ContainsFunc_impl_Standard_impl_Standard_at_impl_ValidChain_1_t (n : Nat) (a0 : List ((ByteArray) × ((Int) × ((((Int) × (Int)) × ((Int) × (Int))) × (((Int) × (Int)) × ((Int) × (Int))))))) (b0 : (ByteArray) × ((Int) × ((((Int) × (Int)) × ((Int) × (Int))) × (((Int) × (Int)) × ((Int) × (Int)))))) : Option ((((Bool) × (Unit)) × (Unit)) × (((ByteArray) × ((Int) × ((((Int) × (Int)) × ((Int) × (Int))) × (((Int) × (Int)) × ((Int) × (Int)))))) × (Unit))) :=
  (slices_IndexFunc_impl_Standard_impl_Standard_at_impl_ValidChain_1 n a0 ((b0.1, (b0.2.1, (((b0.2.2.1.1.1, b0.2.2.1.1.2), (b0.2.2.1.2.1, b0.2.2.1.2.2)), ((b0.2.2.2.1.1, b0.2.2.2.1.2), (b0.2.2.2.2.1, b0.2.2.2.2.2))))))).bind fun r0 =>
  some ((((decide (r0.1.1.1 ≥ 0), ()), ()), ((r0.2.1.1, (r0.2.1.2.1, (((r0.2.1.2.2.1.1.1, r0.2.1.2.2.1.1.2), (r0.2.1.2.2.1.2.1, r0.2.1.2.2.1.2.2)), ((r0.2.1.2.2.2.1.1, r0.2.1.2.2.2.1.2), (r0.2.1.2.2.2.2.1, r0.2.1.2.2.2.2.2))))), ())))

noncomputable def slices_ContainsFunc_impl_Standard_impl_Standard_at_impl_ValidChain_1 (n : Nat) (a0 : List ((ByteArray) × ((Int) × ((((Int) × (Int)) × ((Int) × (Int))) × (((Int) × (Int)) × ((Int) × (Int))))))) (b0 : (ByteArray) × ((Int) × ((((Int) × (Int)) × ((Int) × (Int))) × (((Int) × (Int)) × ((Int) × (Int)))))) : Option ((((Bool) × (Unit)) × (Unit)) × (((ByteArray) × ((Int) × ((((Int) × (Int)) × ((Int) × (Int))) × (((Int) × (Int)) × ((Int) × (Int)))))) × (Unit))) := slices_ContainsFunc_impl_Standard_impl_Standard_at_impl_ValidChain_1_t n a0 b0

noncomputable def impl_ValidChain_t2 (n : Nat) (g2 : Int → (List ((ByteArray) × ((Int) × ((((Int) × (Int)) × ((Int) × (Int))) × (((Int) × (Int)) × ((Int) × (Int))))))) → (List ((ByteArray) × ((Int) × ((((Int) × (Int)) × ((Int) × (Int))) × (((Int) × (Int)) × ((Int) × (Int))))))) → Int → Option ((((Bool) × (Unit)) × (Unit)) × (Unit))) (v7 : Int) (v0 : List ((ByteArray) × ((Int) × ((((Int) × (Int)) × ((Int) × (Int))) × (((Int) × (Int)) × ((Int) × (Int))))))) (v5 : List ((ByteArray) × ((Int) × ((((Int) × (Int)) × ((Int) × (Int))) × (((Int) × (Int)) × ((Int) × (Int))))))) (v6 : Int) : Option ((((Bool) × (Unit)) × (Unit)) × (Unit)) :=
  cond (decide (v7 < v6))
  (cond ((decide (0 ≤ v7) && decide (v7 < ((v5.length : Nat) : Int))))
    ((impl_isWord n ((v5.getD (Int.toNat v7) ((ByteArray.mk #[]), (0, (((0, 0), (0, 0)), ((0, 0), (0, 0)))))).1)).bind fun r0 =>
      cond (!r0.1.1.1)
      (some ((((false, ()), ()), ())))
      (cond ((decide (0 ≤ v7) && decide (v7 ≤ ((v0.length : Nat) : Int))))
        ((slices_ContainsFunc_impl_Standard_impl_Standard_at_impl_ValidChain_1 n (((v0.drop (Int.toNat 0)).take ((Int.toNat v7) - (Int.toNat 0)))) (((v5.getD (Int.toNat v7) ((ByteArray.mk #[]), (0, (((0, 0), (0, 0)), ((0, 0), (0, 0)))))).1, ((v5.getD (Int.toNat v7) ((ByteArray.mk #[]), (0, (((0, 0), (0, 0)), ((0, 0), (0, 0)))))).2.1, ((((v5.getD (Int.toNat v7) ((ByteArray.mk #[]), (0, (((0, 0), (0, 0)), ((0, 0), (0, 0)))))).2.2.1.1.1, (v5.getD (Int.toNat v7) ((ByteArray.mk #[]), (0, (((0, 0), (0, 0)), ((0, 0), (0, 0)))))).2.2.1.1.2), ((v5.getD (Int.toNat v7) ((ByteArray.mk #[]), (0, (((0, 0), (0, 0)), ((0, 0), (0, 0)))))).2.2.1.2.1, (v5.getD (Int.toNat v7) ((ByteArray.mk #[]), (0, (((0, 0), (0, 0)), ((0, 0), (0, 0)))))).2.2.1.2.2)), (((v5.getD (Int.toNat v7) ((ByteArray.mk #[]), (0, (((0, 0), (0, 0)), ((0, 0), (0, 0)))))).2.2.2.1.1, (v5.getD (Int.toNat v7) ((ByteArray.mk #[]), (0, (((0, 0), (0, 0)), ((0, 0), (0, 0)))))).2.2.2.1.2), ((v5.getD (Int.toNat v7) ((ByteArray.mk #[]), (0, (((0, 0), (0, 0)), ((0, 0), (0, 0)))))).2.2.2.2.1, (v5.getD (Int.toNat v7) ((ByteArray.mk #[]), (0, (((0, 0), (0, 0)), ((0, 0), (0, 0)))))).2.2.2.2.2))))))).bind fun r1 =>
          cond r1.1.1.1
          (some ((((false, ()), ()), ())))
          ((impl_within n r1.2.1.2.1 (-1) ((IntKind.wrap .i64 (v7 - 1)))).bind fun r2 =>
            cond (!r2.1.1.1)
            (some ((((false, ()), ()), ())))
            ((impl_ValidSpan n (((r1.2.1.2.2.1.1.1, r1.2.1.2.2.1.1.2), (r1.2.1.2.2.1.2.1, r1.2.1.2.2.1.2.2)))).bind fun r3 =>
              cond (!r3.1.1.1)
              (some ((((false, ()), ()), ())))
              ((impl_ValidFrac n ((r1.2.1.2.2.2.1.1, r1.2.1.2.2.2.1.2))).bind fun r4 =>
                cond (!r4.1.1.1)
                (some ((((false, ()), ()), ())))
                (cond (decide (r1.2.1.2.2.2.1.1 < 0))
                  (some ((((false, ()), ()), ())))
                  ((impl_within n r1.2.1.2.2.2.2.1 0 100000).bind fun r5 =>
                    cond (!r5.1.1.1)
                    (some ((((false, ()), ()), ())))
                    ((impl_within n r1.2.1.2.2.2.2.2 0 100000).bind fun r6 =>
                      cond (!r6.1.1.1)
                      (some ((((false, ()), ()), ())))
                      (cond (decide (r1.2.1.2.1 ≥ 0))
                        (cond ((decide (0 ≤ r1.2.1.2.1) && decide (r1.2.1.2.1 < ((v0.length : Nat) : Int))))
                          ((impl_Standard_good n (((v0.getD (Int.toNat r1.2.1.2.1) ((ByteArray.mk #[]), (0, (((0, 0), (0, 0)), ((0, 0), (0, 0)))))).1, ((v0.getD (Int.toNat r1.2.1.2.1) ((ByteArray.mk #[]), (0, (((0, 0), (0, 0)), ((0, 0), (0, 0)))))).2.1, ((((v0.getD (Int.toNat r1.2.1.2.1) ((ByteArray.mk #[]), (0, (((0, 0), (0, 0)), ((0, 0), (0, 0)))))).2.2.1.1.1, (v0.getD (Int.toNat r1.2.1.2.1) ((ByteArray.mk #[]), (0, (((0, 0), (0, 0)), ((0, 0), (0, 0)))))).2.2.1.1.2), ((v0.getD (Int.toNat r1.2.1.2.1) ((ByteArray.mk #[]), (0, (((0, 0), (0, 0)), ((0, 0), (0, 0)))))).2.2.1.2.1, (v0.getD (Int.toNat r1.2.1.2.1) ((ByteArray.mk #[]), (0, (((0, 0), (0, 0)), ((0, 0), (0, 0)))))).2.2.1.2.2)), (((v0.getD (Int.toNat r1.2.1.2.1) ((ByteArray.mk #[]), (0, (((0, 0), (0, 0)), ((0, 0), (0, 0)))))).2.2.2.1.1, (v0.getD (Int.toNat r1.2.1.2.1) ((ByteArray.mk #[]), (0, (((0, 0), (0, 0)), ((0, 0), (0, 0)))))).2.2.2.1.2), ((v0.getD (Int.toNat r1.2.1.2.1) ((ByteArray.mk #[]), (0, (((0, 0), (0, 0)), ((0, 0), (0, 0)))))).2.2.2.2.1, (v0.getD (Int.toNat r1.2.1.2.1) ((ByteArray.mk #[]), (0, (((0, 0), (0, 0)), ((0, 0), (0, 0)))))).2.2.2.2.2)))))) r1.2.1.2.2.2.2.1).bind fun r7 =>
                            cond (!r7.1.1.1)
                            (some ((((false, ()), ()), ())))
                            (g2 ((IntKind.wrap .i64 (v7 + 1))) v0 v5 v6))
                          (none))
                        (g2 ((IntKind.wrap .i64 (v7 + 1))) v0 v5 v6)))))))))
        (none)))
    (none))
  (some ((((decide (((v0.length : Nat) : Int) ≤ 30), ()), ()), ())))

noncomputable def impl_ValidChain_l2 (n : Nat) : Nat → Int → (List ((ByteArray) × ((Int) × ((((Int) × (Int)) × ((Int) × (Int))) × (((Int) × (Int)) × ((Int) × (Int))))))) → (List ((ByteArray) × ((Int) × ((((Int) × (Int)) × ((Int) × (Int))) × (((Int) × (Int)) × ((Int) × (Int))))))) → Int → Option ((((Bool) × (Unit)) × (Unit)) × (Unit))
  | 0, _, _, _, _ => none
  | k + 1, v7, v0, v5, v6 => impl_ValidChain_t2 n (impl_ValidChain_l2 n k) v7 v0 v5 v6

noncomputable def impl_ValidChain_t (n : Nat) (h2 : Nat → Int → (List ((ByteArray) × ((Int) × ((((Int) × (Int)) × ((Int) × (Int))) × (((Int) × (Int)) × ((Int) × (Int))))))) → (List ((ByteArray) × ((Int) × ((((Int) × (Int)) × ((Int) × (Int))) × (((Int) × (Int)) × ((Int) × (Int))))))) → Int → Option ((((Bool) × (Unit)) × (Unit)) × (Unit))) (a0 : List ((ByteArray) × ((Int) × ((((Int) × (Int)) × ((Int) × (Int))) × (((Int) × (Int)) × ((Int) × (Int))))))) : Option ((((Bool) × (Unit)) × (Unit)) × (Unit)) :=
  h2 n 0 a0 a0 (((a0.length : Nat) : Int))

noncomputable def impl_ValidChain (n : Nat) (a0 : List ((ByteArray) × ((Int) × ((((Int) × (Int)) × ((Int) × (Int))) × (((Int) × (Int)) × ((Int) × (Int))))))) : Option ((((Bool) × (Unit)) × (Unit)) × (Unit)) := impl_ValidChain_t n (impl_ValidChain_l2 n) a0

noncomputable def impl_calc_one_t (n : Nat) (a1 : (Int) × (Int)) (b0 : Bool) : Option (((((Int) × (Int)) × (Unit)) × (((Int) × (Unit)) × (Unit))) × ((Bool) × (Unit))) :=
  cond b0
  (some (((((0, 0), ()), ((3, ()), ())), (b0, ()))))
  (some (((((a1.1, a1.2), ()), ((0, ()), ())), (b0, ()))))

noncomputable def impl_calc_one (n : Nat) (a1 : (Int) × (Int)) (b0 : Bool) : Option (((((Int) × (Int)) × (Unit)) × (((Int) × (Unit)) × (Unit))) × ((Bool) × (Unit))) := impl_calc_one_t n a1 b0

noncomputable def impl_fracOf_t (n : Nat) (a0 : Int) (a1 : Int) : Option (((((Int) × (Int)) × (Unit)) × (((Bool) × (Unit)) × (Unit))) × (Unit)) :=
  cond (decide (a1 < 0))
  ((impl_gcd n ((IntKind.wrap .i64 (0 - a0))) ((IntKind.wrap .i64 (0 - a1)))).bind fun r0 =>
    cond ((r0.1.1.1 != 0))
    (cond ((r0.1.1.1 != 0))
      ((impl_ValidFrac n (((IntKind.wrap .i64 (Int.tdiv (IntKind.wrap .i64 (0 - a0)) r0.1.1.1)), (IntKind.wrap .i64 (Int.tdiv (IntKind.wrap .i64 (0 - a1)) r0.1.1.1))))).bind fun r1 =>
        cond (!r1.1.1.1)
        (some (((((0, 0), ()), ((false, ()), ())), ())))
        (some ((((((IntKind.wrap .i64 (Int.tdiv (IntKind.wrap .i64 (0 - a0)) r0.1.1.1)), (IntKind.wrap .i64 (Int.tdiv (IntKind.wrap .i64 (0 - a1)) r0.1.1.1))), ()), ((true, ()), ())), ()))))
      (none))
    (none))
  ((impl_gcd n a0 a1).bind fun r2 =>
    cond ((r2.1.1.1 != 0))
    (cond ((r2.1.1.1 != 0))
      ((impl_ValidFrac n (((IntKind.wrap .i64 (Int.tdiv a0 r2.1.1.1)), (IntKind.wrap .i64 (Int.tdiv a1 r2.1.1.1))))).bind fun r3 =>
        cond (!r3.1.1.1)
        (some (((((0, 0), ()), ((false, ()), ())), ())))
        (some ((((((IntKind.wrap .i64 (Int.tdiv a0 r2.1.1.1)), (IntKind.wrap .i64 (Int.tdiv a1 r2.1.1.1))), ()), ((true, ()), ())), ()))))
      (none))
    (none))

noncomputable def impl_fracOf (n : Nat) (a0 : Int) (a1 : Int) : Option (((((Int) × (Int)) × (Unit)) × (((Bool) × (Unit)) × (Unit))) × (Unit)) := impl_fracOf_t n a0 a1

noncomputable def impl_zero_t (n : Nat) : Option (((((Int) × (Int)) × (Unit)) × (Unit)) × (Unit)) :=
  some (((((0, 1), ()), ()), ()))

noncomputable def impl_zero (n : Nat) : Option (((((Int) × (Int)) × (Unit)) × (Unit)) × (Unit)) := impl_zero_t n

noncomputable def impl_calc_told_t (n : Nat) (a1 : Int) (a2 : Int) (b0 : Bool) : Option (((((Int) × (Int)) × (Unit)) × (Unit)) × ((Bool) × (Unit))) :=
  (impl_fracOf n a1 a2).bind fun r0 =>
  cond (!r0.1.2.1.1)
  ((impl_zero n).bind fun r1 =>
    some (((((r1.1.1.1.1, r1.1.1.1.2), ()), ()), (true, ()))))
  (some (((((r0.1.1.1.1, r0.1.1.1.2), ()), ()), (b0, ()))))

noncomputable def impl_calc_told (n : Nat) (a1 : Int) (a2 : Int) (b0 : Bool) : Option (((((Int) × (Int)) × (Unit)) × (Unit)) × ((Bool) × (Unit))) := impl_calc_told_t n a1 a2 b0

noncomputable def impl_isAngle_t (n : Nat) (a0 : Int) : Option ((((Bool) × (Unit)) × (Unit)) × (Unit)) :=
  (impl_within n a0 0 1295999).bind fun r0 =>
  some ((((r0.1.1.1, ()), ()), ()))

noncomputable def impl_isAngle (n : Nat) (a0 : Int) : Option ((((Bool) × (Unit)) × (Unit)) × (Unit)) := impl_isAngle_t n a0

noncomputable def impl_wrap_t (n : Nat) (a0 : Int) : Option ((((Int) × (Unit)) × (Unit)) × (Unit)) :=
  some (((((Int.tmod (IntKind.wrap .i64 ((Int.tmod a0 1296000) + 1296000)) 1296000), ()), ()), ()))

noncomputable def impl_wrap (n : Nat) (a0 : Int) : Option ((((Int) × (Unit)) × (Unit)) × (Unit)) := impl_wrap_t n a0

noncomputable def impl_turnFrom_t (n : Nat) (a0 : Int) (a1 : Int) : Option ((((Int) × (Unit)) × (Unit)) × (Unit)) :=
  (impl_wrap n ((IntKind.wrap .i64 (a1 - a0)))).bind fun r0 =>
  cond (decide (r0.1.1.1 > 648000))
  (some (((((IntKind.wrap .i64 (r0.1.1.1 - 1296000)), ()), ()), ())))
  (some ((((r0.1.1.1, ()), ()), ())))

noncomputable def impl_turnFrom (n : Nat) (a0 : Int) (a1 : Int) : Option ((((Int) × (Unit)) × (Unit)) × (Unit)) := impl_turnFrom_t n a0 a1

noncomputable def laws_eqInt64S_t4 (n : Nat) (g4 : Int → (List (Int)) → (List (Int)) → Option ((((Bool) × (Unit)) × (Unit)) × (Unit))) (v5 : Int) (v1 : List (Int)) (v0 : List (Int)) : Option ((((Bool) × (Unit)) × (Unit)) × (Unit)) :=
  cond (decide (v5 < ((v0.length : Nat) : Int)))
  (cond ((decide (0 ≤ v5) && decide (v5 < ((v0.length : Nat) : Int))))
    (cond ((decide (0 ≤ v5) && decide (v5 < ((v1.length : Nat) : Int))))
      (cond (((v0.getD (Int.toNat v5) 0) != (v1.getD (Int.toNat v5) 0)))
        (some ((((false, ()), ()), ())))
        (g4 ((IntKind.wrap .i64 (v5 + 1))) v1 v0))
      (none))
    (none))
  (some ((((true, ()), ()), ())))

noncomputable def laws_eqInt64S_l4 (n : Nat) : Nat → Int → (List (Int)) → (List (Int)) → Option ((((Bool) × (Unit)) × (Unit)) × (Unit))
  | 0, _, _, _ => none
  | k + 1, v5, v1, v0 => laws_eqInt64S_t4 n (laws_eqInt64S_l4 n k) v5 v1 v0

noncomputable def laws_eqInt64S_t (n : Nat) (h4 : Nat → Int → (List (Int)) → (List (Int)) → Option ((((Bool) × (Unit)) × (Unit)) × (Unit))) (a0 : List (Int)) (a1 : List (Int)) : Option ((((Bool) × (Unit)) × (Unit)) × (Unit)) :=
  cond ((((a0.length : Nat) : Int) != ((a1.length : Nat) : Int)))
  (some ((((false, ()), ()), ())))
  (h4 n 0 a1 a0)

noncomputable def laws_eqInt64S (n : Nat) (a0 : List (Int)) (a1 : List (Int)) : Option ((((Bool) × (Unit)) × (Unit)) × (Unit)) := laws_eqInt64S_t n (laws_eqInt64S_l4 n) a0 a1

noncomputable def laws_eqSpan_t (n : Nat) (a0 : ((Int) × (Int)) × ((Int) × (Int))) (a1 : ((Int) × (Int)) × ((Int) × (Int))) : Option ((((Bool) × (Unit)) × (Unit)) × (Unit)) :=
  (laws_eqFrac n ((a0.1.1, a0.1.2)) ((a1.1.1, a1.1.2))).bind fun r0 =>
  cond (!r0.1.1.1)
  (some ((((false, ()), ()), ())))
  ((laws_eqFrac n ((a0.2.1, a0.2.2)) ((a1.2.1, a1.2.2))).bind fun r1 =>
    cond (!r1.1.1.1)
    (some ((((false, ()), ()), ())))
    (some ((((true, ()), ()), ()))))

noncomputable def laws_eqSpan (n : Nat) (a0 : ((Int) × (Int)) × ((Int) × (Int))) (a1 : ((Int) × (Int)) × ((Int) × (Int))) : Option ((((Bool) × (Unit)) × (Unit)) × (Unit)) := laws_eqSpan_t n a0 a1

noncomputable def laws_eqStandard_t (n : Nat) (a0 : (ByteArray) × ((Int) × ((((Int) × (Int)) × ((Int) × (Int))) × (((Int) × (Int)) × ((Int) × (Int)))))) (a1 : (ByteArray) × ((Int) × ((((Int) × (Int)) × ((Int) × (Int))) × (((Int) × (Int)) × ((Int) × (Int)))))) : Option ((((Bool) × (Unit)) × (Unit)) × (Unit)) :=
  cond ((!(eqStr a0.1 a1.1)))
  (some ((((false, ()), ()), ())))
  (cond ((a0.2.1 != a1.2.1))
    (some ((((false, ()), ()), ())))
    ((laws_eqSpan n (((a0.2.2.1.1.1, a0.2.2.1.1.2), (a0.2.2.1.2.1, a0.2.2.1.2.2))) (((a1.2.2.1.1.1, a1.2.2.1.1.2), (a1.2.2.1.2.1, a1.2.2.1.2.2)))).bind fun r0 =>
      cond (!r0.1.1.1)
      (some ((((false, ()), ()), ())))
      ((laws_eqFrac n ((a0.2.2.2.1.1, a0.2.2.2.1.2)) ((a1.2.2.2.1.1, a1.2.2.2.1.2))).bind fun r1 =>
        cond (!r1.1.1.1)
        (some ((((false, ()), ()), ())))
        (cond ((a0.2.2.2.2.1 != a1.2.2.2.2.1))
          (some ((((false, ()), ()), ())))
          (cond ((a0.2.2.2.2.2 != a1.2.2.2.2.2))
            (some ((((false, ()), ()), ())))
            (some ((((true, ()), ()), ()))))))))

noncomputable def laws_eqStandard (n : Nat) (a0 : (ByteArray) × ((Int) × ((((Int) × (Int)) × ((Int) × (Int))) × (((Int) × (Int)) × ((Int) × (Int)))))) (a1 : (ByteArray) × ((Int) × ((((Int) × (Int)) × ((Int) × (Int))) × (((Int) × (Int)) × ((Int) × (Int)))))) : Option ((((Bool) × (Unit)) × (Unit)) × (Unit)) := laws_eqStandard_t n a0 a1

noncomputable def laws_eqStandardS_t4 (n : Nat) (g4 : Int → (List ((ByteArray) × ((Int) × ((((Int) × (Int)) × ((Int) × (Int))) × (((Int) × (Int)) × ((Int) × (Int))))))) → (List ((ByteArray) × ((Int) × ((((Int) × (Int)) × ((Int) × (Int))) × (((Int) × (Int)) × ((Int) × (Int))))))) → Option ((((Bool) × (Unit)) × (Unit)) × (Unit))) (v5 : Int) (v1 : List ((ByteArray) × ((Int) × ((((Int) × (Int)) × ((Int) × (Int))) × (((Int) × (Int)) × ((Int) × (Int))))))) (v0 : List ((ByteArray) × ((Int) × ((((Int) × (Int)) × ((Int) × (Int))) × (((Int) × (Int)) × ((Int) × (Int))))))) : Option ((((Bool) × (Unit)) × (Unit)) × (Unit)) :=
  cond (decide (v5 < ((v0.length : Nat) : Int)))
  (cond ((decide (0 ≤ v5) && decide (v5 < ((v0.length : Nat) : Int))))
    (cond ((decide (0 ≤ v5) && decide (v5 < ((v1.length : Nat) : Int))))
      ((laws_eqStandard n (((v0.getD (Int.toNat v5) ((ByteArray.mk #[]), (0, (((0, 0), (0, 0)), ((0, 0), (0, 0)))))).1, ((v0.getD (Int.toNat v5) ((ByteArray.mk #[]), (0, (((0, 0), (0, 0)), ((0, 0), (0, 0)))))).2.1, ((((v0.getD (Int.toNat v5) ((ByteArray.mk #[]), (0, (((0, 0), (0, 0)), ((0, 0), (0, 0)))))).2.2.1.1.1, (v0.getD (Int.toNat v5) ((ByteArray.mk #[]), (0, (((0, 0), (0, 0)), ((0, 0), (0, 0)))))).2.2.1.1.2), ((v0.getD (Int.toNat v5) ((ByteArray.mk #[]), (0, (((0, 0), (0, 0)), ((0, 0), (0, 0)))))).2.2.1.2.1, (v0.getD (Int.toNat v5) ((ByteArray.mk #[]), (0, (((0, 0), (0, 0)), ((0, 0), (0, 0)))))).2.2.1.2.2)), (((v0.getD (Int.toNat v5) ((ByteArray.mk #[]), (0, (((0, 0), (0, 0)), ((0, 0), (0, 0)))))).2.2.2.1.1, (v0.getD (Int.toNat v5) ((ByteArray.mk #[]), (0, (((0, 0), (0, 0)), ((0, 0), (0, 0)))))).2.2.2.1.2), ((v0.getD (Int.toNat v5) ((ByteArray.mk #[]), (0, (((0, 0), (0, 0)), ((0, 0), (0, 0)))))).2.2.2.2.1, (v0.getD (Int.toNat v5) ((ByteArray.mk #[]), (0, (((0, 0), (0, 0)), ((0, 0), (0, 0)))))).2.2.2.2.2)))))) (((v1.getD (Int.toNat v5) ((ByteArray.mk #[]), (0, (((0, 0), (0, 0)), ((0, 0), (0, 0)))))).1, ((v1.getD (Int.toNat v5) ((ByteArray.mk #[]), (0, (((0, 0), (0, 0)), ((0, 0), (0, 0)))))).2.1, ((((v1.getD (Int.toNat v5) ((ByteArray.mk #[]), (0, (((0, 0), (0, 0)), ((0, 0), (0, 0)))))).2.2.1.1.1, (v1.getD (Int.toNat v5) ((ByteArray.mk #[]), (0, (((0, 0), (0, 0)), ((0, 0), (0, 0)))))).2.2.1.1.2), ((v1.getD (Int.toNat v5) ((ByteArray.mk #[]), (0, (((0, 0), (0, 0)), ((0, 0), (0, 0)))))).2.2.1.2.1, (v1.getD (Int.toNat v5) ((ByteArray.mk #[]), (0, (((0, 0), (0, 0)), ((0, 0), (0, 0)))))).2.2.1.2.2)), (((v1.getD (Int.toNat v5) ((ByteArray.mk #[]), (0, (((0, 0), (0, 0)), ((0, 0), (0, 0)))))).2.2.2.1.1, (v1.getD (Int.toNat v5) ((ByteArray.mk #[]), (0, (((0, 0), (0, 0)), ((0, 0), (0, 0)))))).2.2.2.1.2), ((v1.getD (Int.toNat v5) ((ByteArray.mk #[]), (0, (((0, 0), (0, 0)), ((0, 0), (0, 0)))))).2.2.2.2.1, (v1.getD (Int.toNat v5) ((ByteArray.mk #[]), (0, (((0, 0), (0, 0)), ((0, 0), (0, 0)))))).2.2.2.2.2))))))).bind fun r0 =>
        cond (!r0.1.1.1)
        (some ((((false, ()), ()), ())))
        (g4 ((IntKind.wrap .i64 (v5 + 1))) v1 v0))
      (none))
    (none))
  (some ((((true, ()), ()), ())))

noncomputable def laws_eqStandardS_l4 (n : Nat) : Nat → Int → (List ((ByteArray) × ((Int) × ((((Int) × (Int)) × ((Int) × (Int))) × (((Int) × (Int)) × ((Int) × (Int))))))) → (List ((ByteArray) × ((Int) × ((((Int) × (Int)) × ((Int) × (Int))) × (((Int) × (Int)) × ((Int) × (Int))))))) → Option ((((Bool) × (Unit)) × (Unit)) × (Unit))
  | 0, _, _, _ => none
  | k + 1, v5, v1, v0 => laws_eqStandardS_t4 n (laws_eqStandardS_l4 n k) v5 v1 v0

noncomputable def laws_eqStandardS_t (n : Nat) (h4 : Nat → Int → (List ((ByteArray) × ((Int) × ((((Int) × (Int)) × ((Int) × (Int))) × (((Int) × (Int)) × ((Int) × (Int))))))) → (List ((ByteArray) × ((Int) × ((((Int) × (Int)) × ((Int) × (Int))) × (((Int) × (Int)) × ((Int) × (Int))))))) → Option ((((Bool) × (Unit)) × (Unit)) × (Unit))) (a0 : List ((ByteArray) × ((Int) × ((((Int) × (Int)) × ((Int) × (Int))) × (((Int) × (Int)) × ((Int) × (Int))))))) (a1 : List ((ByteArray) × ((Int) × ((((Int) × (Int)) × ((Int) × (Int))) × (((Int) × (Int)) × ((Int) × (Int))))))) : Option ((((Bool) × (Unit)) × (Unit)) × (Unit)) :=
  cond ((((a0.length : Nat) : Int) != ((a1.length : Nat) : Int)))
  (some ((((false, ()), ()), ())))
  (h4 n 0 a1 a0)

noncomputable def laws_eqStandardS (n : Nat) (a0 : List ((ByteArray) × ((Int) × ((((Int) × (Int)) × ((Int) × (Int))) × (((Int) × (Int)) × ((Int) × (Int))))))) (a1 : List ((ByteArray) × ((Int) × ((((Int) × (Int)) × ((Int) × (Int))) × (((Int) × (Int)) × ((Int) × (Int))))))) : Option ((((Bool) × (Unit)) × (Unit)) × (Unit)) := laws_eqStandardS_t n (laws_eqStandardS_l4 n) a0 a1

noncomputable def laws_heldInt64S_t2 (n : Nat) (g2 : Int → Int → (List (Int)) → Option ((((Int) × (Unit)) × (Unit)) × (Unit))) (v5 : Int) (v1 : Int) (v0 : List (Int)) : Option ((((Int) × (Unit)) × (Unit)) × (Unit)) :=
  cond (decide (v5 < ((v0.length : Nat) : Int)))
  (cond ((decide (0 ≤ v5) && decide (v5 < ((v0.length : Nat) : Int))))
    (cond (((v0.getD (Int.toNat v5) 0) != v1))
      (some (((((-1), ()), ()), ())))
      (g2 ((IntKind.wrap .i64 (v5 + 1))) ((IntKind.wrap .i64 (v1 + 1))) v0))
    (none))
  (some ((((v1, ()), ()), ())))

noncomputable def laws_heldInt64S_l2 (n : Nat) : Nat → Int → Int → (List (Int)) → Option ((((Int) × (Unit)) × (Unit)) × (Unit))
  | 0, _, _, _ => none
  | k + 1, v5, v1, v0 => laws_heldInt64S_t2 n (laws_heldInt64S_l2 n k) v5 v1 v0

noncomputable def laws_heldInt64S_t (n : Nat) (h2 : Nat → Int → Int → (List (Int)) → Option ((((Int) × (Unit)) × (Unit)) × (Unit))) (a0 : List (Int)) (a1 : Int) : Option ((((Int) × (Unit)) × (Unit)) × (Unit)) :=
  h2 n 0 a1 a0

noncomputable def laws_heldInt64S (n : Nat) (a0 : List (Int)) (a1 : Int) : Option ((((Int) × (Unit)) × (Unit)) × (Unit)) := laws_heldInt64S_t n (laws_heldInt64S_l2 n) a0 a1

noncomputable def laws_markText_t4 (n : Nat) (g4 : Int → ByteArray → Option ((((ByteArray) × (Unit)) × (Unit)) × (Unit))) (v0 : Int) (v3 : ByteArray) : Option ((((ByteArray) × (Unit)) × (Unit)) × (Unit)) :=
  cond (decide (v0 > 0))
  (cond ((roomStr (byteStr ((IntKind.wrap .u8 (IntKind.wrap .i64 (48 + (Int.tmod v0 10)))) :: [])) v3))
    (g4 ((IntKind.wrap .i64 (Int.tdiv v0 10))) (((byteStr ((IntKind.wrap .u8 (IntKind.wrap .i64 (48 + (Int.tmod v0 10)))) :: [])) ++ v3)))
    (none))
  (cond ((roomStr (ByteArray.mk #[109]) v3))
    (some ((((((ByteArray.mk #[109]) ++ v3), ()), ()), ())))
    (none))

noncomputable def laws_markText_l4 (n : Nat) : Nat → Int → ByteArray → Option ((((ByteArray) × (Unit)) × (Unit)) × (Unit))
  | 0, _, _ => none
  | k + 1, v0, v3 => laws_markText_t4 n (laws_markText_l4 n k) v0 v3

noncomputable def laws_markText_t (n : Nat) (h4 : Nat → Int → ByteArray → Option ((((ByteArray) × (Unit)) × (Unit)) × (Unit))) (a0 : Int) : Option ((((ByteArray) × (Unit)) × (Unit)) × (Unit)) :=
  cond (decide (a0 ≤ 0))
  (some (((((ByteArray.mk #[109, 48]), ()), ()), ())))
  (h4 n a0 ((ByteArray.mk #[])))

noncomputable def laws_markText (n : Nat) (a0 : Int) : Option ((((ByteArray) × (Unit)) × (Unit)) × (Unit)) := laws_markText_t n (laws_markText_l4 n) a0

noncomputable def laws_heldStandardS_t2 (n : Nat) (g2 : Int → (List ((ByteArray) × ((Int) × ((((Int) × (Int)) × ((Int) × (Int))) × (((Int) × (Int)) × ((Int) × (Int))))))) → Int → Option ((((Int) × (Unit)) × (Unit)) × (Unit))) (v5 : Int) (v0 : List ((ByteArray) × ((Int) × ((((Int) × (Int)) × ((Int) × (Int))) × (((Int) × (Int)) × ((Int) × (Int))))))) (v1 : Int) : Option ((((Int) × (Unit)) × (Unit)) × (Unit)) :=
  cond (decide (v5 < ((v0.length : Nat) : Int)))
  (cond ((decide (0 ≤ v5) && decide (v5 < ((v0.length : Nat) : Int))))
    ((laws_markText n v1).bind fun r0 =>
      cond ((!(eqStr (v0.getD (Int.toNat v5) ((ByteArray.mk #[]), (0, (((0, 0), (0, 0)), ((0, 0), (0, 0)))))).1 r0.1.1.1)))
      (some (((((-1), ()), ()), ())))
      (cond ((decide (0 ≤ v5) && decide (v5 < ((v0.length : Nat) : Int))))
        (cond (((v0.getD (Int.toNat v5) ((ByteArray.mk #[]), (0, (((0, 0), (0, 0)), ((0, 0), (0, 0)))))).2.1 != (IntKind.wrap .i64 (v1 + 1))))
          (some (((((-1), ()), ()), ())))
          (cond ((decide (0 ≤ v5) && decide (v5 < ((v0.length : Nat) : Int))))
            (cond (((v0.getD (Int.toNat v5) ((ByteArray.mk #[]), (0, (((0, 0), (0, 0)), ((0, 0), (0, 0)))))).2.2.1.1.1 != (IntKind.wrap .i64 ((IntKind.wrap .i64 (v1 + 1)) + 1))))
              (some (((((-1), ()), ()), ())))
              (cond ((decide (0 ≤ v5) && decide (v5 < ((v0.length : Nat) : Int))))
                (cond (((v0.getD (Int.toNat v5) ((ByteArray.mk #[]), (0, (((0, 0), (0, 0)), ((0, 0), (0, 0)))))).2.2.1.1.2 != (IntKind.wrap .i64 ((IntKind.wrap .i64 ((IntKind.wrap .i64 (v1 + 1)) + 1)) + 1))))
                  (some (((((-1), ()), ()), ())))
                  (cond ((decide (0 ≤ v5) && decide (v5 < ((v0.length : Nat) : Int))))
                    (cond (((v0.getD (Int.toNat v5) ((ByteArray.mk #[]), (0, (((0, 0), (0, 0)), ((0, 0), (0, 0)))))).2.2.1.2.1 != (IntKind.wrap .i64 ((IntKind.wrap .i64 ((IntKind.wrap .i64 ((IntKind.wrap .i64 (v1 + 1)) + 1)) + 1)) + 1))))
                      (some (((((-1), ()), ()), ())))
                      (cond ((decide (0 ≤ v5) && decide (v5 < ((v0.length : Nat) : Int))))
                        (cond (((v0.getD (Int.toNat v5) ((ByteArray.mk #[]), (0, (((0, 0), (0, 0)), ((0, 0), (0, 0)))))).2.2.1.2.2 != (IntKind.wrap .i64 ((IntKind.wrap .i64 ((IntKind.wrap .i64 ((IntKind.wrap .i64 ((IntKind.wrap .i64 (v1 + 1)) + 1)) + 1)) + 1)) + 1))))
                          (some (((((-1), ()), ()), ())))
                          (cond ((decide (0 ≤ v5) && decide (v5 < ((v0.length : Nat) : Int))))
                            (cond (((v0.getD (Int.toNat v5) ((ByteArray.mk #[]), (0, (((0, 0), (0, 0)), ((0, 0), (0, 0)))))).2.2.2.1.1 != (IntKind.wrap .i64 ((IntKind.wrap .i64 ((IntKind.wrap .i64 ((IntKind.wrap .i64 ((IntKind.wrap .i64 ((IntKind.wrap .i64 (v1 + 1)) + 1)) + 1)) + 1)) + 1)) + 1))))
                              (some (((((-1), ()), ()), ())))
                              (cond ((decide (0 ≤ v5) && decide (v5 < ((v0.length : Nat) : Int))))
                                (cond (((v0.getD (Int.toNat v5) ((ByteArray.mk #[]), (0, (((0, 0), (0, 0)), ((0, 0), (0, 0)))))).2.2.2.1.2 != (IntKind.wrap .i64 ((IntKind.wrap .i64 ((IntKind.wrap .i64 ((IntKind.wrap .i64 ((IntKind.wrap .i64 ((IntKind.wrap .i64 ((IntKind.wrap .i64 (v1 + 1)) + 1)) + 1)) + 1)) + 1)) + 1)) + 1))))
                                  (some (((((-1), ()), ()), ())))
                                  (cond ((decide (0 ≤ v5) && decide (v5 < ((v0.length : Nat) : Int))))
                                    (cond (((v0.getD (Int.toNat v5) ((ByteArray.mk #[]), (0, (((0, 0), (0, 0)), ((0, 0), (0, 0)))))).2.2.2.2.1 != (IntKind.wrap .i64 ((IntKind.wrap .i64 ((IntKind.wrap .i64 ((IntKind.wrap .i64 ((IntKind.wrap .i64 ((IntKind.wrap .i64 ((IntKind.wrap .i64 ((IntKind.wrap .i64 (v1 + 1)) + 1)) + 1)) + 1)) + 1)) + 1)) + 1)) + 1))))
                                      (some (((((-1), ()), ()), ())))
                                      (cond ((decide (0 ≤ v5) && decide (v5 < ((v0.length : Nat) : Int))))
                                        (cond (((v0.getD (Int.toNat v5) ((ByteArray.mk #[]), (0, (((0, 0), (0, 0)), ((0, 0), (0, 0)))))).2.2.2.2.2 != (IntKind.wrap .i64 ((IntKind.wrap .i64 ((IntKind.wrap .i64 ((IntKind.wrap .i64 ((IntKind.wrap .i64 ((IntKind.wrap .i64 ((IntKind.wrap .i64 ((IntKind.wrap .i64 ((IntKind.wrap .i64 (v1 + 1)) + 1)) + 1)) + 1)) + 1)) + 1)) + 1)) + 1)) + 1))))
                                          (some (((((-1), ()), ()), ())))
                                          (g2 ((IntKind.wrap .i64 (v5 + 1))) v0 ((IntKind.wrap .i64 ((IntKind.wrap .i64 ((IntKind.wrap .i64 ((IntKind.wrap .i64 ((IntKind.wrap .i64 ((IntKind.wrap .i64 ((IntKind.wrap .i64 ((IntKind.wrap .i64 ((IntKind.wrap .i64 ((IntKind.wrap .i64 (v1 + 1)) + 1)) + 1)) + 1)) + 1)) + 1)) + 1)) + 1)) + 1)) + 1)))))
                                        (none)))
                                    (none)))
                                (none)))
                            (none)))
                        (none)))
                    (none)))
                (none)))
            (none)))
        (none)))
    (none))
  (some ((((v1, ()), ()), ())))

noncomputable def laws_heldStandardS_l2 (n : Nat) : Nat → Int → (List ((ByteArray) × ((Int) × ((((Int) × (Int)) × ((Int) × (Int))) × (((Int) × (Int)) × ((Int) × (Int))))))) → Int → Option ((((Int) × (Unit)) × (Unit)) × (Unit))
  | 0, _, _, _ => none
  | k + 1, v5, v0, v1 => laws_heldStandardS_t2 n (laws_heldStandardS_l2 n k) v5 v0 v1

noncomputable def laws_heldStandardS_t (n : Nat) (h2 : Nat → Int → (List ((ByteArray) × ((Int) × ((((Int) × (Int)) × ((Int) × (Int))) × (((Int) × (Int)) × ((Int) × (Int))))))) → Int → Option ((((Int) × (Unit)) × (Unit)) × (Unit))) (a0 : List ((ByteArray) × ((Int) × ((((Int) × (Int)) × ((Int) × (Int))) × (((Int) × (Int)) × ((Int) × (Int))))))) (a1 : Int) : Option ((((Int) × (Unit)) × (Unit)) × (Unit)) :=
  h2 n 0 a0 a1

noncomputable def laws_heldStandardS (n : Nat) (a0 : List ((ByteArray) × ((Int) × ((((Int) × (Int)) × ((Int) × (Int))) × (((Int) × (Int)) × ((Int) × (Int))))))) (a1 : Int) : Option ((((Int) × (Unit)) × (Unit)) × (Unit)) := laws_heldStandardS_t n (laws_heldStandardS_l2 n) a0 a1

noncomputable def laws_markInt64S_t2 (n : Nat) (g2 : Int → Int → (List (Int)) → Option ((((Int) × (Unit)) × (Unit)) × ((List (Int)) × (Unit)))) (v5 : Int) (v1 : Int) (b0 : List (Int)) : Option ((((Int) × (Unit)) × (Unit)) × ((List (Int)) × (Unit))) :=
  cond (decide (v5 < ((b0.length : Nat) : Int)))
  (cond ((decide (0 ≤ v5) && decide (v5 < ((b0.length : Nat) : Int))))
    (g2 ((IntKind.wrap .i64 (v5 + 1))) ((IntKind.wrap .i64 (v1 + 1))) ((b0.set (Int.toNat v5) v1)))
    (none))
  (some ((((v1, ()), ()), (b0, ()))))

noncomputable def laws_markInt64S_l2 (n : Nat) : Nat → Int → Int → (List (Int)) → Option ((((Int) × (Unit)) × (Unit)) × ((List (Int)) × (Unit)))
  | 0, _, _, _ => none
  | k + 1, v5, v1, b0 => laws_markInt64S_t2 n (laws_markInt64S_l2 n k) v5 v1 b0

noncomputable def laws_markInt64S_t (n : Nat) (h2 : Nat → Int → Int → (List (Int)) → Option ((((Int) × (Unit)) × (Unit)) × ((List (Int)) × (Unit)))) (a1 : Int) (b0 : List (Int)) : Option ((((Int) × (Unit)) × (Unit)) × ((List (Int)) × (Unit))) :=
  h2 n 0 a1 b0

noncomputable def laws_markInt64S (n : Nat) (a1 : Int) (b0 : List (Int)) : Option ((((Int) × (Unit)) × (Unit)) × ((List (Int)) × (Unit))) := laws_markInt64S_t n (laws_markInt64S_l2 n) a1 b0

noncomputable def laws_markStandardS_t2 (n : Nat) (g2 : Int → Int → (List ((ByteArray) × ((Int) × ((((Int) × (Int)) × ((Int) × (Int))) × (((Int) × (Int)) × ((Int) × (Int))))))) → Option ((((Int) × (Unit)) × (Unit)) × ((List ((ByteArray) × ((Int) × ((((Int) × (Int)) × ((Int) × (Int))) × (((Int) × (Int)) × ((Int) × (Int))))))) × (Unit)))) (v5 : Int) (v1 : Int) (b0 : List ((ByteArray) × ((Int) × ((((Int) × (Int)) × ((Int) × (Int))) × (((Int) × (Int)) × ((Int) × (Int))))))) : Option ((((Int) × (Unit)) × (Unit)) × ((List ((ByteArray) × ((Int) × ((((Int) × (Int)) × ((Int) × (Int))) × (((Int) × (Int)) × ((Int) × (Int))))))) × (Unit))) :=
  cond (decide (v5 < ((b0.length : Nat) : Int)))
  ((laws_markText n v1).bind fun r0 =>
    cond ((decide (0 ≤ v5) && decide (v5 < ((b0.length : Nat) : Int))))
    (letIn ((b0.set (Int.toNat v5) (r0.1.1.1, ((b0.getD (Int.toNat v5) ((ByteArray.mk #[]), (0, (((0, 0), (0, 0)), ((0, 0), (0, 0)))))).2.1, ((((b0.getD (Int.toNat v5) ((ByteArray.mk #[]), (0, (((0, 0), (0, 0)), ((0, 0), (0, 0)))))).2.2.1.1.1, (b0.getD (Int.toNat v5) ((ByteArray.mk #[]), (0, (((0, 0), (0, 0)), ((0, 0), (0, 0)))))).2.2.1.1.2), ((b0.getD (Int.toNat v5) ((ByteArray.mk #[]), (0, (((0, 0), (0, 0)), ((0, 0), (0, 0)))))).2.2.1.2.1, (b0.getD (Int.toNat v5) ((ByteArray.mk #[]), (0, (((0, 0), (0, 0)), ((0, 0), (0, 0)))))).2.2.1.2.2)), (((b0.getD (Int.toNat v5) ((ByteArray.mk #[]), (0, (((0, 0), (0, 0)), ((0, 0), (0, 0)))))).2.2.2.1.1, (b0.getD (Int.toNat v5) ((ByteArray.mk #[]), (0, (((0, 0), (0, 0)), ((0, 0), (0, 0)))))).2.2.2.1.2), ((b0.getD (Int.toNat v5) ((ByteArray.mk #[]), (0, (((0, 0), (0, 0)), ((0, 0), (0, 0)))))).2.2.2.2.1, (b0.getD (Int.toNat v5) ((ByteArray.mk #[]), (0, (((0, 0), (0, 0)), ((0, 0), (0, 0)))))).2.2.2.2.2))))))) fun r1 =>
      cond ((decide (0 ≤ v5) && decide (v5 < ((r1.length : Nat) : Int))))
      (letIn ((r1.set (Int.toNat v5) ((r1.getD (Int.toNat v5) ((ByteArray.mk #[]), (0, (((0, 0), (0, 0)), ((0, 0), (0, 0)))))).1, ((IntKind.wrap .i64 (v1 + 1)), ((((r1.getD (Int.toNat v5) ((ByteArray.mk #[]), (0, (((0, 0), (0, 0)), ((0, 0), (0, 0)))))).2.2.1.1.1, (r1.getD (Int.toNat v5) ((ByteArray.mk #[]), (0, (((0, 0), (0, 0)), ((0, 0), (0, 0)))))).2.2.1.1.2), ((r1.getD (Int.toNat v5) ((ByteArray.mk #[]), (0, (((0, 0), (0, 0)), ((0, 0), (0, 0)))))).2.2.1.2.1, (r1.getD (Int.toNat v5) ((ByteArray.mk #[]), (0, (((0, 0), (0, 0)), ((0, 0), (0, 0)))))).2.2.1.2.2)), (((r1.getD (Int.toNat v5) ((ByteArray.mk #[]), (0, (((0, 0), (0, 0)), ((0, 0), (0, 0)))))).2.2.2.1.1, (r1.getD (Int.toNat v5) ((ByteArray.mk #[]), (0, (((0, 0), (0, 0)), ((0, 0), (0, 0)))))).2.2.2.1.2), ((r1.getD (Int.toNat v5) ((ByteArray.mk #[]), (0, (((0, 0), (0, 0)), ((0, 0), (0, 0)))))).2.2.2.2.1, (r1.getD (Int.toNat v5) ((ByteArray.mk #[]), (0, (((0, 0), (0, 0)), ((0, 0), (0, 0)))))).2.2.2.2.2))))))) fun r2 =>
        cond ((decide (0 ≤ v5) && decide (v5 < ((r2.length : Nat) : Int))))
        (letIn ((r2.set (Int.toNat v5) ((r2.getD (Int.toNat v5) ((ByteArray.mk #[]), (0, (((0, 0), (0, 0)), ((0, 0), (0, 0)))))).1, ((r2.getD (Int.toNat v5) ((ByteArray.mk #[]), (0, (((0, 0), (0, 0)), ((0, 0), (0, 0)))))).2.1, ((((IntKind.wrap .i64 ((IntKind.wrap .i64 (v1 + 1)) + 1)), (r2.getD (Int.toNat v5) ((ByteArray.mk #[]), (0, (((0, 0), (0, 0)), ((0, 0), (0, 0)))))).2.2.1.1.2), ((r2.getD (Int.toNat v5) ((ByteArray.mk #[]), (0, (((0, 0), (0, 0)), ((0, 0), (0, 0)))))).2.2.1.2.1, (r2.getD (Int.toNat v5) ((ByteArray.mk #[]), (0, (((0, 0), (0, 0)), ((0, 0), (0, 0)))))).2.2.1.2.2)), (((r2.getD (Int.toNat v5) ((ByteArray.mk #[]), (0, (((0, 0), (0, 0)), ((0, 0), (0, 0)))))).2.2.2.1.1, (r2.getD (Int.toNat v5) ((ByteArray.mk #[]), (0, (((0, 0), (0, 0)), ((0, 0), (0, 0)))))).2.2.2.1.2), ((r2.getD (Int.toNat v5) ((ByteArray.mk #[]), (0, (((0, 0), (0, 0)), ((0, 0), (0, 0)))))).2.2.2.2.1, (r2.getD (Int.toNat v5) ((ByteArray.mk #[]), (0, (((0, 0), (0, 0)), ((0, 0), (0, 0)))))).2.2.2.2.2))))))) fun r3 =>
          cond ((decide (0 ≤ v5) && decide (v5 < ((r3.length : Nat) : Int))))
          (letIn ((r3.set (Int.toNat v5) ((r3.getD (Int.toNat v5) ((ByteArray.mk #[]), (0, (((0, 0), (0, 0)), ((0, 0), (0, 0)))))).1, ((r3.getD (Int.toNat v5) ((ByteArray.mk #[]), (0, (((0, 0), (0, 0)), ((0, 0), (0, 0)))))).2.1, ((((r3.getD (Int.toNat v5) ((ByteArray.mk #[]), (0, (((0, 0), (0, 0)), ((0, 0), (0, 0)))))).2.2.1.1.1, (IntKind.wrap .i64 ((IntKind.wrap .i64 ((IntKind.wrap .i64 (v1 + 1)) + 1)) + 1))), ((r3.getD (Int.toNat v5) ((ByteArray.mk #[]), (0, (((0, 0), (0, 0)), ((0, 0), (0, 0)))))).2.2.1.2.1, (r3.getD (Int.toNat v5) ((ByteArray.mk #[]), (0, (((0, 0), (0, 0)), ((0, 0), (0, 0)))))).2.2.1.2.2)), (((r3.getD (Int.toNat v5) ((ByteArray.mk #[]), (0, (((0, 0), (0, 0)), ((0, 0), (0, 0)))))).2.2.2.1.1, (r3.getD (Int.toNat v5) ((ByteArray.mk #[]), (0, (((0, 0), (0, 0)), ((0, 0), (0, 0)))))).2.2.2.1.2), ((r3.getD (Int.toNat v5) ((ByteArray.mk #[]), (0, (((0, 0), (0, 0)), ((0, 0), (0, 0)))))).2.2.2.2.1, (r3.getD (Int.toNat v5) ((ByteArray.mk #[]), (0, (((0, 0), (0, 0)), ((0, 0), (0, 0)))))).2.2.2.2.2))))))) fun r4 =>
            cond ((decide (0 ≤ v5) && decide (v5 < ((r4.length : Nat) : Int))))
            (letIn ((r4.set (Int.toNat v5) ((r4.getD (Int.toNat v5) ((ByteArray.mk #[]), (0, (((0, 0), (0, 0)), ((0, 0), (0, 0)))))).1, ((r4.getD (Int.toNat v5) ((ByteArray.mk #[]), (0, (((0, 0), (0, 0)), ((0, 0), (0, 0)))))).2.1, ((((r4.getD (Int.toNat v5) ((ByteArray.mk #[]), (0, (((0, 0), (0, 0)), ((0, 0), (0, 0)))))).2.2.1.1.1, (r4.getD (Int.toNat v5) ((ByteArray.mk #[]), (0, (((0, 0), (0, 0)), ((0, 0), (0, 0)))))).2.2.1.1.2), ((IntKind.wrap .i64 ((IntKind.wrap .i64 ((IntKind.wrap .i64 ((IntKind.wrap .i64 (v1 + 1)) + 1)) + 1)) + 1)), (r4.getD (Int.toNat v5) ((ByteArray.mk #[]), (0, (((0, 0), (0, 0)), ((0, 0), (0, 0)))))).2.2.1.2.2)), (((r4.getD (Int.toNat v5) ((ByteArray.mk #[]), (0, (((0, 0), (0, 0)), ((0, 0), (0, 0)))))).2.2.2.1.1, (r4.getD (Int.toNat v5) ((ByteArray.mk #[]), (0, (((0, 0), (0, 0)), ((0, 0), (0, 0)))))).2.2.2.1.2), ((r4.getD (Int.toNat v5) ((ByteArray.mk #[]), (0, (((0, 0), (0, 0)), ((0, 0), (0, 0)))))).2.2.2.2.1, (r4.getD (Int.toNat v5) ((ByteArray.mk #[]), (0, (((0, 0), (0, 0)), ((0, 0), (0, 0)))))).2.2.2.2.2))))))) fun r5 =>
              cond ((decide (0 ≤ v5) && decide (v5 < ((r5.length : Nat) : Int))))
              (letIn ((r5.set (Int.toNat v5) ((r5.getD (Int.toNat v5) ((ByteArray.mk #[]), (0, (((0, 0), (0, 0)), ((0, 0), (0, 0)))))).1, ((r5.getD (Int.toNat v5) ((ByteArray.mk #[]), (0, (((0, 0), (0, 0)), ((0, 0), (0, 0)))))).2.1, ((((r5.getD (Int.toNat v5) ((ByteArray.mk #[]), (0, (((0, 0), (0, 0)), ((0, 0), (0, 0)))))).2.2.1.1.1, (r5.getD (Int.toNat v5) ((ByteArray.mk #[]), (0, (((0, 0), (0, 0)), ((0, 0), (0, 0)))))).2.2.1.1.2), ((r5.getD (Int.toNat v5) ((ByteArray.mk #[]), (0, (((0, 0), (0, 0)), ((0, 0), (0, 0)))))).2.2.1.2.1, (IntKind.wrap .i64 ((IntKind.wrap .i64 ((IntKind.wrap .i64 ((IntKind.wrap .i64 ((IntKind.wrap .i64 (v1 + 1)) + 1)) + 1)) + 1)) + 1)))), (((r5.getD (Int.toNat v5) ((ByteArray.mk #[]), (0, (((0, 0), (0, 0)), ((0, 0), (0, 0)))))).2.2.2.1.1, (r5.getD (Int.toNat v5) ((ByteArray.mk #[]), (0, (((0, 0), (0, 0)), ((0, 0), (0, 0)))))).2.2.2.1.2), ((r5.getD (Int.toNat v5) ((ByteArray.mk #[]), (0, (((0, 0), (0, 0)), ((0, 0), (0, 0)))))).2.2.2.2.1, (r5.getD (Int.toNat v5) ((ByteArray.mk #[]), (0, (((0, 0), (0, 0)), ((0, 0), (0, 0)))))).2.2.2.2.2))))))) fun r6 =>
                cond ((decide (0 ≤ v5) && decide (v5 < ((r6.length : Nat) : Int))))
                (letIn ((r6.set (Int.toNat v5) ((r6.getD (Int.toNat v5) ((ByteArray.mk #[]), (0, (((0, 0), (0, 0)), ((0, 0), (0, 0)))))).1, ((r6.getD (Int.toNat v5) ((ByteArray.mk #[]), (0, (((0, 0), (0, 0)), ((0, 0), (0, 0)))))).2.1, ((((r6.getD (Int.toNat v5) ((ByteArray.mk #[]), (0, (((0, 0), (0, 0)), ((0, 0), (0, 0)))))).2.2.1.1.1, (r6.getD (Int.toNat v5) ((ByteArray.mk #[]), (0, (((0, 0), (0, 0)), ((0, 0), (0, 0)))))).2.2.1.1.2), ((r6.getD (Int.toNat v5) ((ByteArray.mk #[]), (0, (((0, 0), (0, 0)), ((0, 0), (0, 0)))))).2.2.1.2.1, (r6.getD (Int.toNat v5) ((ByteArray.mk #[]), (0, (((0, 0), (0, 0)), ((0, 0), (0, 0)))))).2.2.1.2.2)), (((IntKind.wrap .i64 ((IntKind.wrap .i64 ((IntKind.wrap .i64 ((IntKind.wrap .i64 ((IntKind.wrap .i64 ((IntKind.wrap .i64 (v1 + 1)) + 1)) + 1)) + 1)) + 1)) + 1)), (r6.getD (Int.toNat v5) ((ByteArray.mk #[]), (0, (((0, 0), (0, 0)), ((0, 0), (0, 0)))))).2.2.2.1.2), ((r6.getD (Int.toNat v5) ((ByteArray.mk #[]), (0, (((0, 0), (0, 0)), ((0, 0), (0, 0)))))).2.2.2.2.1, (r6.getD (Int.toNat v5) ((ByteArray.mk #[]), (0, (((0, 0), (0, 0)), ((0, 0), (0, 0)))))).2.2.2.2.2))))))) fun r7 =>
                  cond ((decide (0 ≤ v5) && decide (v5 < ((r7.length : Nat) : Int))))
                  (letIn ((r7.set (Int.toNat v5) ((r7.getD (Int.toNat v5) ((ByteArray.mk #[]), (0, (((0, 0), (0, 0)), ((0, 0), (0, 0)))))).1, ((r7.getD (Int.toNat v5) ((ByteArray.mk #[]), (0, (((0, 0), (0, 0)), ((0, 0), (0, 0)))))).2.1, ((((r7.getD (Int.toNat v5) ((ByteArray.mk #[]), (0, (((0, 0), (0, 0)), ((0, 0), (0, 0)))))).2.2.1.1.1, (r7.getD (Int.toNat v5) ((ByteArray.mk #[]), (0, (((0, 0), (0, 0)), ((0, 0), (0, 0)))))).2.2.1.1.2), ((r7.getD (Int.toNat v5) ((ByteArray.mk #[]), (0, (((0, 0), (0, 0)), ((0, 0), (0, 0)))))).2.2.1.2.1, (r7.getD (Int.toNat v5) ((ByteArray.mk #[]), (0, (((0, 0), (0, 0)), ((0, 0), (0, 0)))))).2.2.1.2.2)), (((r7.getD (Int.toNat v5) ((ByteArray.mk #[]), (0, (((0, 0), (0, 0)), ((0, 0), (0, 0)))))).2.2.2.1.1, (IntKind.wrap .i64 ((IntKind.wrap .i64 ((IntKind.wrap .i64 ((IntKind.wrap .i64 ((IntKind.wrap .i64 ((IntKind.wrap .i64 ((IntKind.wrap .i64 (v1 + 1)) + 1)) + 1)) + 1)) + 1)) + 1)) + 1))), ((r7.getD (Int.toNat v5) ((ByteArray.mk #[]), (0, (((0, 0), (0, 0)), ((0, 0), (0, 0)))))).2.2.2.2.1, (r7.getD (Int.toNat v5) ((ByteArray.mk #[]), (0, (((0, 0), (0, 0)), ((0, 0), (0, 0)))))).2.2.2.2.2))))))) fun r8 =>
                    cond ((decide (0 ≤ v5) && decide (v5 < ((r8.length : Nat) : Int))))
                    (letIn ((r8.set (Int.toNat v5) ((r8.getD (Int.toNat v5) ((ByteArray.mk #[]), (0, (((0, 0), (0, 0)), ((0, 0), (0, 0)))))).1, ((r8.getD (Int.toNat v5) ((ByteArray.mk #[]), (0, (((0, 0), (0, 0)), ((0, 0), (0, 0)))))).2.1, ((((r8.getD (Int.toNat v5) ((ByteArray.mk #[]), (0, (((0, 0), (0, 0)), ((0, 0), (0, 0)))))).2.2.1.1.1, (r8.getD (Int.toNat v5) ((ByteArray.mk #[]), (0, (((0, 0), (0, 0)), ((0, 0), (0, 0)))))).2.2.1.1.2), ((r8.getD (Int.toNat v5) ((ByteArray.mk #[]), (0, (((0, 0), (0, 0)), ((0, 0), (0, 0)))))).2.2.1.2.1, (r8.getD (Int.toNat v5) ((ByteArray.mk #[]), (0, (((0, 0), (0, 0)), ((0, 0), (0, 0)))))).2.2.1.2.2)), (((r8.getD (Int.toNat v5) ((ByteArray.mk #[]), (0, (((0, 0), (0, 0)), ((0, 0), (0, 0)))))).2.2.2.1.1, (r8.getD (Int.toNat v5) ((ByteArray.mk #[]), (0, (((0, 0), (0, 0)), ((0, 0), (0, 0)))))).2.2.2.1.2), ((IntKind.wrap .i64 ((IntKind.wrap .i64 ((IntKind.wrap .i64 ((IntKind.wrap .i64 ((IntKind.wrap .i64 ((IntKind.wrap .i64 ((IntKind.wrap .i64 ((IntKind.wrap .i64 (v1 + 1)) + 1)) + 1)) + 1)) + 1)) + 1)) + 1)) + 1)), (r8.getD (Int.toNat v5) ((ByteArray.mk #[]), (0, (((0, 0), (0, 0)), ((0, 0), (0, 0)))))).2.2.2.2.2))))))) fun r9 =>
                      cond ((decide (0 ≤ v5) && decide (v5 < ((r9.length : Nat) : Int))))
                      (letIn ((r9.set (Int.toNat v5) ((r9.getD (Int.toNat v5) ((ByteArray.mk #[]), (0, (((0, 0), (0, 0)), ((0, 0), (0, 0)))))).1, ((r9.getD (Int.toNat v5) ((ByteArray.mk #[]), (0, (((0, 0), (0, 0)), ((0, 0), (0, 0)))))).2.1, ((((r9.getD (Int.toNat v5) ((ByteArray.mk #[]), (0, (((0, 0), (0, 0)), ((0, 0), (0, 0)))))).2.2.1.1.1, (r9.getD (Int.toNat v5) ((ByteArray.mk #[]), (0, (((0, 0), (0, 0)), ((0, 0), (0, 0)))))).2.2.1.1.2), ((r9.getD (Int.toNat v5) ((ByteArray.mk #[]), (0, (((0, 0), (0, 0)), ((0, 0), (0, 0)))))).2.2.1.2.1, (r9.getD (Int.toNat v5) ((ByteArray.mk #[]), (0, (((0, 0), (0, 0)), ((0, 0), (0, 0)))))).2.2.1.2.2)), (((r9.getD (Int.toNat v5) ((ByteArray.mk #[]), (0, (((0, 0), (0, 0)), ((0, 0), (0, 0)))))).2.2.2.1.1, (r9.getD (Int.toNat v5) ((ByteArray.mk #[]), (0, (((0, 0), (0, 0)), ((0, 0), (0, 0)))))).2.2.2.1.2), ((r9.getD (Int.toNat v5) ((ByteArray.mk #[]), (0, (((0, 0), (0, 0)), ((0, 0), (0, 0)))))).2.2.2.2.1, (IntKind.wrap .i64 ((IntKind.wrap .i64 ((IntKind.wrap .i64 ((IntKind.wrap .i64 ((IntKind.wrap .i64 ((IntKind.wrap .i64 ((IntKind.wrap .i64 ((IntKind.wrap .i64 ((IntKind.wrap .i64 (v1 + 1)) + 1)) + 1)) + 1)) + 1)) + 1)) + 1)) + 1)) + 1))))))))) fun r10 =>
                        g2 ((IntKind.wrap .i64 (v5 + 1))) ((IntKind.wrap .i64 ((IntKind.wrap .i64 ((IntKind.wrap .i64 ((IntKind.wrap .i64 ((IntKind.wrap .i64 ((IntKind.wrap .i64 ((IntKind.wrap .i64 ((IntKind.wrap .i64 ((IntKind.wrap .i64 ((IntKind.wrap .i64 (v1 + 1)) + 1)) + 1)) + 1)) + 1)) + 1)) + 1)) + 1)) + 1)) + 1))) r10)
                      (none))
                    (none))
                  (none))
                (none))
              (none))
            (none))
          (none))
        (none))
      (none))
    (none))
  (some ((((v1, ()), ()), (b0, ()))))

noncomputable def laws_markStandardS_l2 (n : Nat) : Nat → Int → Int → (List ((ByteArray) × ((Int) × ((((Int) × (Int)) × ((Int) × (Int))) × (((Int) × (Int)) × ((Int) × (Int))))))) → Option ((((Int) × (Unit)) × (Unit)) × ((List ((ByteArray) × ((Int) × ((((Int) × (Int)) × ((Int) × (Int))) × (((Int) × (Int)) × ((Int) × (Int))))))) × (Unit)))
  | 0, _, _, _ => none
  | k + 1, v5, v1, b0 => laws_markStandardS_t2 n (laws_markStandardS_l2 n k) v5 v1 b0

noncomputable def laws_markStandardS_t (n : Nat) (h2 : Nat → Int → Int → (List ((ByteArray) × ((Int) × ((((Int) × (Int)) × ((Int) × (Int))) × (((Int) × (Int)) × ((Int) × (Int))))))) → Option ((((Int) × (Unit)) × (Unit)) × ((List ((ByteArray) × ((Int) × ((((Int) × (Int)) × ((Int) × (Int))) × (((Int) × (Int)) × ((Int) × (Int))))))) × (Unit)))) (a1 : Int) (b0 : List ((ByteArray) × ((Int) × ((((Int) × (Int)) × ((Int) × (Int))) × (((Int) × (Int)) × ((Int) × (Int))))))) : Option ((((Int) × (Unit)) × (Unit)) × ((List ((ByteArray) × ((Int) × ((((Int) × (Int)) × ((Int) × (Int))) × (((Int) × (Int)) × ((Int) × (Int))))))) × (Unit))) :=
  h2 n 0 a1 b0

noncomputable def laws_markStandardS (n : Nat) (a1 : Int) (b0 : List ((ByteArray) × ((Int) × ((((Int) × (Int)) × ((Int) × (Int))) × (((Int) × (Int)) × ((Int) × (Int))))))) : Option ((((Int) × (Unit)) × (Unit)) × ((List ((ByteArray) × ((Int) × ((((Int) × (Int)) × ((Int) × (Int))) × (((Int) × (Int)) × ((Int) × (Int))))))) × (Unit))) := laws_markStandardS_t n (laws_markStandardS_l2 n) a1 b0

noncomputable def laws_szStandard_t (n : Nat) (a0 : (ByteArray) × ((Int) × ((((Int) × (Int)) × ((Int) × (Int))) × (((Int) × (Int)) × ((Int) × (Int)))))) (a1 : Int) : Option ((((Int) × (Unit)) × (Unit)) × (Unit)) :=
  cond (decide ((IntKind.wrap .i64 (a1 - (((ByteArray.size a0.1) : Nat) : Int))) < 0))
  (some (((((-1), ()), ()), ())))
  (some (((((IntKind.wrap .i64 (a1 - (((ByteArray.size a0.1) : Nat) : Int))), ()), ()), ())))

noncomputable def laws_szStandard (n : Nat) (a0 : (ByteArray) × ((Int) × ((((Int) × (Int)) × ((Int) × (Int))) × (((Int) × (Int)) × ((Int) × (Int)))))) (a1 : Int) : Option ((((Int) × (Unit)) × (Unit)) × (Unit)) := laws_szStandard_t n a0 a1

noncomputable def laws_szStandardS_t5 (n : Nat) (g5 : Int → Int → (List ((ByteArray) × ((Int) × ((((Int) × (Int)) × ((Int) × (Int))) × (((Int) × (Int)) × ((Int) × (Int))))))) → Option ((((Int) × (Unit)) × (Unit)) × (Unit))) (v5 : Int) (v1 : Int) (v0 : List ((ByteArray) × ((Int) × ((((Int) × (Int)) × ((Int) × (Int))) × (((Int) × (Int)) × ((Int) × (Int))))))) : Option ((((Int) × (Unit)) × (Unit)) × (Unit)) :=
  cond (decide (v5 < ((v0.length : Nat) : Int)))
  (cond ((decide (0 ≤ v5) && decide (v5 < ((v0.length : Nat) : Int))))
    ((laws_szStandard n (((v0.getD (Int.toNat v5) ((ByteArray.mk #[]), (0, (((0, 0), (0, 0)), ((0, 0), (0, 0)))))).1, ((v0.getD (Int.toNat v5) ((ByteArray.mk #[]), (0, (((0, 0), (0, 0)), ((0, 0), (0, 0)))))).2.1, ((((v0.getD (Int.toNat v5) ((ByteArray.mk #[]), (0, (((0, 0), (0, 0)), ((0, 0), (0, 0)))))).2.2.1.1.1, (v0.getD (Int.toNat v5) ((ByteArray.mk #[]), (0, (((0, 0), (0, 0)), ((0, 0), (0, 0)))))).2.2.1.1.2), ((v0.getD (Int.toNat v5) ((ByteArray.mk #[]), (0, (((0, 0), (0, 0)), ((0, 0), (0, 0)))))).2.2.1.2.1, (v0.getD (Int.toNat v5) ((ByteArray.mk #[]), (0, (((0, 0), (0, 0)), ((0, 0), (0, 0)))))).2.2.1.2.2)), (((v0.getD (Int.toNat v5) ((ByteArray.mk #[]), (0, (((0, 0), (0, 0)), ((0, 0), (0, 0)))))).2.2.2.1.1, (v0.getD (Int.toNat v5) ((ByteArray.mk #[]), (0, (((0, 0), (0, 0)), ((0, 0), (0, 0)))))).2.2.2.1.2), ((v0.getD (Int.toNat v5) ((ByteArray.mk #[]), (0, (((0, 0), (0, 0)), ((0, 0), (0, 0)))))).2.2.2.2.1, (v0.getD (Int.toNat v5) ((ByteArray.mk #[]), (0, (((0, 0), (0, 0)), ((0, 0), (0, 0)))))).2.2.2.2.2)))))) v1).bind fun r0 =>
      cond (decide (r0.1.1.1 < 0))
      (some (((((-1), ()), ()), ())))
      (g5 ((IntKind.wrap .i64 (v5 + 1))) r0.1.1.1 v0))
    (none))
  (some ((((v1, ()), ()), ())))

noncomputable def laws_szStandardS_l5 (n : Nat) : Nat → Int → Int → (List ((ByteArray) × ((Int) × ((((Int) × (Int)) × ((Int) × (Int))) × (((Int) × (Int)) × ((Int) × (Int))))))) → Option ((((Int) × (Unit)) × (Unit)) × (Unit))
  | 0, _, _, _ => none
  | k + 1, v5, v1, v0 => laws_szStandardS_t5 n (laws_szStandardS_l5 n k) v5 v1 v0

noncomputable def laws_szStandardS_t (n : Nat) (h5 : Nat → Int → Int → (List ((ByteArray) × ((Int) × ((((Int) × (Int)) × ((Int) × (Int))) × (((Int) × (Int)) × ((Int) × (Int))))))) → Option ((((Int) × (Unit)) × (Unit)) × (Unit))) (a0 : List ((ByteArray) × ((Int) × ((((Int) × (Int)) × ((Int) × (Int))) × (((Int) × (Int)) × ((Int) × (Int))))))) (a1 : Int) : Option ((((Int) × (Unit)) × (Unit)) × (Unit)) :=
  cond (decide ((IntKind.wrap .i64 (a1 - ((a0.length : Nat) : Int))) < 0))
  (some (((((-1), ()), ()), ())))
  (h5 n 0 ((IntKind.wrap .i64 (a1 - ((a0.length : Nat) : Int)))) a0)

noncomputable def laws_szStandardS (n : Nat) (a0 : List ((ByteArray) × ((Int) × ((((Int) × (Int)) × ((Int) × (Int))) × (((Int) × (Int)) × ((Int) × (Int))))))) (a1 : Int) : Option ((((Int) × (Unit)) × (Unit)) × (Unit)) := laws_szStandardS_t n (laws_szStandardS_l5 n) a0 a1

noncomputable def laws_toSpan_t (n : Nat) (a0 : ((Int) × (Int)) × ((Int) × (Int))) : Option ((((((Int) × (Int)) × ((Int) × (Int))) × (Unit)) × (Unit)) × (Unit)) :=
  (laws_toFrac n ((a0.1.1, a0.1.2))).bind fun r0 =>
  (laws_toFrac n ((a0.2.1, a0.2.2))).bind fun r1 =>
  some ((((((r0.1.1.1.1, r0.1.1.1.2), (r1.1.1.1.1, r1.1.1.1.2)), ()), ()), ()))

noncomputable def laws_toSpan (n : Nat) (a0 : ((Int) × (Int)) × ((Int) × (Int))) : Option ((((((Int) × (Int)) × ((Int) × (Int))) × (Unit)) × (Unit)) × (Unit)) := laws_toSpan_t n a0

noncomputable def laws_toStandard_t (n : Nat) (a0 : (ByteArray) × ((Int) × ((((Int) × (Int)) × ((Int) × (Int))) × (((Int) × (Int)) × ((Int) × (Int)))))) : Option (((((ByteArray) × ((Int) × ((((Int) × (Int)) × ((Int) × (Int))) × (((Int) × (Int)) × ((Int) × (Int)))))) × (Unit)) × (Unit)) × (Unit)) :=
  (laws_toSpan n (((a0.2.2.1.1.1, a0.2.2.1.1.2), (a0.2.2.1.2.1, a0.2.2.1.2.2)))).bind fun r0 =>
  (laws_toFrac n ((a0.2.2.2.1.1, a0.2.2.2.1.2))).bind fun r1 =>
  some (((((a0.1, (a0.2.1, (((r0.1.1.1.1.1, r0.1.1.1.1.2), (r0.1.1.1.2.1, r0.1.1.1.2.2)), ((r1.1.1.1.1, r1.1.1.1.2), (a0.2.2.2.2.1, a0.2.2.2.2.2))))), ()), ()), ()))

noncomputable def laws_toStandard (n : Nat) (a0 : (ByteArray) × ((Int) × ((((Int) × (Int)) × ((Int) × (Int))) × (((Int) × (Int)) × ((Int) × (Int)))))) : Option (((((ByteArray) × ((Int) × ((((Int) × (Int)) × ((Int) × (Int))) × (((Int) × (Int)) × ((Int) × (Int)))))) × (Unit)) × (Unit)) × (Unit)) := laws_toStandard_t n a0

noncomputable def laws_toStandardS_t3 (n : Nat) (g3 : Int → (List ((ByteArray) × ((Int) × ((((Int) × (Int)) × ((Int) × (Int))) × (((Int) × (Int)) × ((Int) × (Int))))))) → (List ((ByteArray) × ((Int) × ((((Int) × (Int)) × ((Int) × (Int))) × (((Int) × (Int)) × ((Int) × (Int))))))) → Option ((((List ((ByteArray) × ((Int) × ((((Int) × (Int)) × ((Int) × (Int))) × (((Int) × (Int)) × ((Int) × (Int))))))) × (Unit)) × (Unit)) × (Unit))) (v4 : Int) (v0 : List ((ByteArray) × ((Int) × ((((Int) × (Int)) × ((Int) × (Int))) × (((Int) × (Int)) × ((Int) × (Int))))))) (b0 : List ((ByteArray) × ((Int) × ((((Int) × (Int)) × ((Int) × (Int))) × (((Int) × (Int)) × ((Int) × (Int))))))) : Option ((((List ((ByteArray) × ((Int) × ((((Int) × (Int)) × ((Int) × (Int))) × (((Int) × (Int)) × ((Int) × (Int))))))) × (Unit)) × (Unit)) × (Unit)) :=
  cond (decide (v4 < ((v0.length : Nat) : Int)))
  (cond ((decide (0 ≤ v4) && decide (v4 < ((v0.length : Nat) : Int))))
    ((laws_toStandard n (((v0.getD (Int.toNat v4) ((ByteArray.mk #[]), (0, (((0, 0), (0, 0)), ((0, 0), (0, 0)))))).1, ((v0.getD (Int.toNat v4) ((ByteArray.mk #[]), (0, (((0, 0), (0, 0)), ((0, 0), (0, 0)))))).2.1, ((((v0.getD (Int.toNat v4) ((ByteArray.mk #[]), (0, (((0, 0), (0, 0)), ((0, 0), (0, 0)))))).2.2.1.1.1, (v0.getD (Int.toNat v4) ((ByteArray.mk #[]), (0, (((0, 0), (0, 0)), ((0, 0), (0, 0)))))).2.2.1.1.2), ((v0.getD (Int.toNat v4) ((ByteArray.mk #[]), (0, (((0, 0), (0, 0)), ((0, 0), (0, 0)))))).2.2.1.2.1, (v0.getD (Int.toNat v4) ((ByteArray.mk #[]), (0, (((0, 0), (0, 0)), ((0, 0), (0, 0)))))).2.2.1.2.2)), (((v0.getD (Int.toNat v4) ((ByteArray.mk #[]), (0, (((0, 0), (0, 0)), ((0, 0), (0, 0)))))).2.2.2.1.1, (v0.getD (Int.toNat v4) ((ByteArray.mk #[]), (0, (((0, 0), (0, 0)), ((0, 0), (0, 0)))))).2.2.2.1.2), ((v0.getD (Int.toNat v4) ((ByteArray.mk #[]), (0, (((0, 0), (0, 0)), ((0, 0), (0, 0)))))).2.2.2.2.1, (v0.getD (Int.toNat v4) ((ByteArray.mk #[]), (0, (((0, 0), (0, 0)), ((0, 0), (0, 0)))))).2.2.2.2.2))))))).bind fun r0 =>
      cond ((decide (0 ≤ v4) && decide (v4 < ((b0.length : Nat) : Int))))
      (letIn ((b0.set (Int.toNat v4) (r0.1.1.1.1, (r0.1.1.1.2.1, (((r0.1.1.1.2.2.1.1.1, r0.1.1.1.2.2.1.1.2), (r0.1.1.1.2.2.1.2.1, r0.1.1.1.2.2.1.2.2)), ((r0.1.1.1.2.2.2.1.1, r0.1.1.1.2.2.2.1.2), (r0.1.1.1.2.2.2.2.1, r0.1.1.1.2.2.2.2.2))))))) fun r1 =>
        g3 ((IntKind.wrap .i64 (v4 + 1))) v0 r1)
      (none))
    (none))
  (some ((((b0, ()), ()), ())))

noncomputable def laws_toStandardS_l3 (n : Nat) : Nat → Int → (List ((ByteArray) × ((Int) × ((((Int) × (Int)) × ((Int) × (Int))) × (((Int) × (Int)) × ((Int) × (Int))))))) → (List ((ByteArray) × ((Int) × ((((Int) × (Int)) × ((Int) × (Int))) × (((Int) × (Int)) × ((Int) × (Int))))))) → Option ((((List ((ByteArray) × ((Int) × ((((Int) × (Int)) × ((Int) × (Int))) × (((Int) × (Int)) × ((Int) × (Int))))))) × (Unit)) × (Unit)) × (Unit))
  | 0, _, _, _ => none
  | k + 1, v4, v0, b0 => laws_toStandardS_t3 n (laws_toStandardS_l3 n k) v4 v0 b0

noncomputable def laws_toStandardS_t (n : Nat) (h3 : Nat → Int → (List ((ByteArray) × ((Int) × ((((Int) × (Int)) × ((Int) × (Int))) × (((Int) × (Int)) × ((Int) × (Int))))))) → (List ((ByteArray) × ((Int) × ((((Int) × (Int)) × ((Int) × (Int))) × (((Int) × (Int)) × ((Int) × (Int))))))) → Option ((((List ((ByteArray) × ((Int) × ((((Int) × (Int)) × ((Int) × (Int))) × (((Int) × (Int)) × ((Int) × (Int))))))) × (Unit)) × (Unit)) × (Unit))) (a0 : List ((ByteArray) × ((Int) × ((((Int) × (Int)) × ((Int) × (Int))) × (((Int) × (Int)) × ((Int) × (Int))))))) : Option ((((List ((ByteArray) × ((Int) × ((((Int) × (Int)) × ((Int) × (Int))) × (((Int) × (Int)) × ((Int) × (Int))))))) × (Unit)) × (Unit)) × (Unit)) :=
  cond ((((((a0.length : Nat) : Int) == ((a0.length : Nat) : Int)) && decide (0 ≤ ((a0.length : Nat) : Int))) && decide (((Int.toNat ((a0.length : Nat) : Int)) * 89) ≤ 70368744177664)))
  (h3 n 0 a0 ((List.replicate (Int.toNat ((a0.length : Nat) : Int)) (((ByteArray.mk #[]), (0, (((0, 0), (0, 0)), ((0, 0), (0, 0))))) : (ByteArray) × ((Int) × ((((Int) × (Int)) × ((Int) × (Int))) × (((Int) × (Int)) × ((Int) × (Int)))))))))
  (none)

noncomputable def laws_toStandardS (n : Nat) (a0 : List ((ByteArray) × ((Int) × ((((Int) × (Int)) × ((Int) × (Int))) × (((Int) × (Int)) × ((Int) × (Int))))))) : Option ((((List ((ByteArray) × ((Int) × ((((Int) × (Int)) × ((Int) × (Int))) × (((Int) × (Int)) × ((Int) × (Int))))))) × (Unit)) × (Unit)) × (Unit)) := laws_toStandardS_t n (laws_toStandardS_l3 n) a0

noncomputable def spec_l01Cmp_t (n : Nat) (a0 : (Int) × (Int)) (a1 : (Int) × (Int)) : Option ((((Int) × (Unit)) × (Unit)) × (Unit)) :=
  cond (decide ((IntKind.wrap .i64 (a0.1 * a1.2)) < (IntKind.wrap .i64 (a1.1 * a0.2))))
  (some (((((-1), ()), ()), ())))
  (cond (decide ((IntKind.wrap .i64 (a0.1 * a1.2)) > (IntKind.wrap .i64 (a1.1 * a0.2))))
    (some ((((1, ()), ()), ())))
    (some ((((0, ()), ()), ()))))

noncomputable def spec_l01Cmp (n : Nat) (a0 : (Int) × (Int)) (a1 : (Int) × (Int)) : Option ((((Int) × (Unit)) × (Unit)) × (Unit)) := spec_l01Cmp_t n a0 a1

noncomputable def spec_l01Reduced_t (n : Nat) (a0 : Int) (a1 : Int) : Option (((((Int) × (Int)) × (Unit)) × (((Int) × (Unit)) × (Unit))) × (Unit)) :=
  (spec_l01Abs n a0).bind fun r0 =>
  (spec_l01Abs n a1).bind fun r1 =>
  (spec_l01Gcd n r0.1.1.1 r1.1.1.1).bind fun r2 =>
  cond ((r2.1.1.1 != 0))
  (cond ((r2.1.1.1 != 0))
    (cond (decide ((IntKind.wrap .i64 (Int.tdiv a1 r2.1.1.1)) < 0))
      ((spec_l01Ok n (((IntKind.wrap .i64 (0 - (IntKind.wrap .i64 (Int.tdiv a0 r2.1.1.1)))), (IntKind.wrap .i64 (0 - (IntKind.wrap .i64 (Int.tdiv a1 r2.1.1.1))))))).bind fun r3 =>
        cond (!r3.1.1.1)
        (some (((((0, 0), ()), ((3, ()), ())), ())))
        (some ((((((IntKind.wrap .i64 (0 - (IntKind.wrap .i64 (Int.tdiv a0 r2.1.1.1)))), (IntKind.wrap .i64 (0 - (IntKind.wrap .i64 (Int.tdiv a1 r2.1.1.1))))), ()), ((0, ()), ())), ()))))
      ((spec_l01Ok n (((IntKind.wrap .i64 (Int.tdiv a0 r2.1.1.1)), (IntKind.wrap .i64 (Int.tdiv a1 r2.1.1.1))))).bind fun r4 =>
        cond (!r4.1.1.1)
        (some (((((0, 0), ()), ((3, ()), ())), ())))
        (some ((((((IntKind.wrap .i64 (Int.tdiv a0 r2.1.1.1)), (IntKind.wrap .i64 (Int.tdiv a1 r2.1.1.1))), ()), ((0, ()), ())), ())))))
    (none))
  (none)

noncomputable def spec_l01Reduced (n : Nat) (a0 : Int) (a1 : Int) : Option (((((Int) × (Int)) × (Unit)) × (((Int) × (Unit)) × (Unit))) × (Unit)) := spec_l01Reduced_t n a0 a1

noncomputable def spec_l01Span_e_t (n : Nat) (a0 : ((Int) × (Int)) × ((Int) × (Int))) : Option ((((Bool) × (Unit)) × (Unit)) × (Unit)) :=
  (spec_l01Ok n ((a0.1.1, a0.1.2))).bind fun r0 =>
  cond r0.1.1.1
  ((spec_l01Ok n ((a0.2.1, a0.2.2))).bind fun r1 =>
    cond r1.1.1.1
    ((spec_l01Cmp n ((a0.1.1, a0.1.2)) ((a0.2.1, a0.2.2))).bind fun r2 =>
      some ((((decide (r2.1.1.1 ≤ 0), ()), ()), ())))
    (some ((((false, ()), ()), ()))))
  (some ((((false, ()), ()), ())))

noncomputable def spec_l01Span_e (n : Nat) (a0 : ((Int) × (Int)) × ((Int) × (Int))) : Option ((((Bool) × (Unit)) × (Unit)) × (Unit)) := spec_l01Span_e_t n a0

noncomputable def spec_l03Angle_t (n : Nat) (a0 : Int) : Option ((((Bool) × (Unit)) × (Unit)) × (Unit)) :=
  (spec_l00In n a0 0 1295999).bind fun r0 =>
  some ((((r0.1.1.1, ()), ()), ()))

noncomputable def spec_l03Angle (n : Nat) (a0 : Int) : Option ((((Bool) × (Unit)) × (Unit)) × (Unit)) := spec_l03Angle_t n a0

noncomputable def spec_l03Wrap_t (n : Nat) (a0 : Int) : Option ((((Int) × (Unit)) × (Unit)) × (Unit)) :=
  cond (decide ((Int.tmod a0 1296000) < 0))
  (some (((((IntKind.wrap .i64 ((Int.tmod a0 1296000) + 1296000)), ()), ()), ())))
  (some (((((Int.tmod a0 1296000), ()), ()), ())))

noncomputable def spec_l03Wrap (n : Nat) (a0 : Int) : Option ((((Int) × (Unit)) × (Unit)) × (Unit)) := spec_l03Wrap_t n a0

noncomputable def spec_l03Turn_t (n : Nat) (a0 : Int) (a1 : Int) : Option ((((Int) × (Unit)) × (Unit)) × (Unit)) :=
  (spec_l03Wrap n ((IntKind.wrap .i64 (a1 - a0)))).bind fun r0 =>
  cond (decide (r0.1.1.1 > 648000))
  (some (((((IntKind.wrap .i64 (r0.1.1.1 - 1296000)), ()), ()), ())))
  (some ((((r0.1.1.1, ()), ()), ())))

noncomputable def spec_l03Turn (n : Nat) (a0 : Int) (a1 : Int) : Option ((((Int) × (Unit)) × (Unit)) × (Unit)) := spec_l03Turn_t n a0 a1

noncomputable def spec_l05Day_t (n : Nat) (a0 : Int) : Option ((((Bool) × (Unit)) × (Unit)) × (Unit)) :=
  (spec_l00In n a0 0 100000).bind fun r0 =>
  some ((((r0.1.1.1, ()), ()), ()))

noncomputable def spec_l05Day (n : Nat) (a0 : Int) : Option ((((Bool) × (Unit)) × (Unit)) × (Unit)) := spec_l05Day_t n a0

noncomputable def spec_l05Good_e_t (n : Nat) (a0 : (ByteArray) × ((Int) × ((((Int) × (Int)) × ((Int) × (Int))) × (((Int) × (Int)) × ((Int) × (Int)))))) (a1 : Int) : Option ((((Bool) × (Unit)) × (Unit)) × (Unit)) :=
  cond (decide (a1 ≥ a0.2.2.2.2.1))
  (some ((((decide (a1 ≤ (IntKind.wrap .i64 (a0.2.2.2.2.1 + a0.2.2.2.2.2))), ()), ()), ())))
  (some ((((false, ()), ()), ())))

noncomputable def spec_l05Good_e (n : Nat) (a0 : (ByteArray) × ((Int) × ((((Int) × (Int)) × ((Int) × (Int))) × (((Int) × (Int)) × ((Int) × (Int)))))) (a1 : Int) : Option ((((Bool) × (Unit)) × (Unit)) × (Unit)) := spec_l05Good_e_t n a0 a1

noncomputable def spec_l05Name_t4 (n : Nat) (g4 : Int → ByteArray → Option ((((Bool) × (Unit)) × (Unit)) × (Unit))) (v3 : Int) (v0 : ByteArray) : Option ((((Bool) × (Unit)) × (Unit)) × (Unit)) :=
  cond (decide (v3 < (((ByteArray.size v0) : Nat) : Int)))
  (cond ((decide (0 ≤ v3) && decide (v3 < (((ByteArray.size v0) : Nat) : Int))))
    (cond (decide ((byteAt v0 v3) < 97))
      (some ((((false, ()), ()), ())))
      (cond ((decide (0 ≤ v3) && decide (v3 < (((ByteArray.size v0) : Nat) : Int))))
        (cond (decide ((byteAt v0 v3) > 122))
          (some ((((false, ()), ()), ())))
          (g4 ((IntKind.wrap .i64 (v3 + 1))) v0))
        (none)))
    (none))
  (some ((((true, ()), ()), ())))

noncomputable def spec_l05Name_l4 (n : Nat) : Nat → Int → ByteArray → Option ((((Bool) × (Unit)) × (Unit)) × (Unit))
  | 0, _, _ => none
  | k + 1, v3, v0 => spec_l05Name_t4 n (spec_l05Name_l4 n k) v3 v0

noncomputable def spec_l05Name_t (n : Nat) (h4 : Nat → Int → ByteArray → Option ((((Bool) × (Unit)) × (Unit)) × (Unit))) (a0 : ByteArray) : Option ((((Bool) × (Unit)) × (Unit)) × (Unit)) :=
  cond (decide ((((ByteArray.size a0) : Nat) : Int) < 1))
  (some ((((false, ()), ()), ())))
  (cond (decide ((((ByteArray.size a0) : Nat) : Int) > 12))
    (some ((((false, ()), ()), ())))
    (h4 n 0 a0))

noncomputable def spec_l05Name (n : Nat) (a0 : ByteArray) : Option ((((Bool) × (Unit)) × (Unit)) × (Unit)) := spec_l05Name_t n (spec_l05Name_l4 n) a0

noncomputable def spec_l05Standard_e_t (n : Nat) (a0 : List ((ByteArray) × ((Int) × ((((Int) × (Int)) × ((Int) × (Int))) × (((Int) × (Int)) × ((Int) × (Int))))))) (a1 : (ByteArray) × ((Int) × ((((Int) × (Int)) × ((Int) × (Int))) × (((Int) × (Int)) × ((Int) × (Int)))))) : Option ((((Bool) × (Unit)) × (Unit)) × (Unit)) :=
  (spec_l01Span_e n (((a1.2.2.1.1.1, a1.2.2.1.1.2), (a1.2.2.1.2.1, a1.2.2.1.2.2)))).bind fun r0 =>
  cond (!r0.1.1.1)
  (some ((((false, ()), ()), ())))
  ((spec_l01Ok n ((a1.2.2.2.1.1, a1.2.2.2.1.2))).bind fun r1 =>
    cond (!r1.1.1.1)
    (some ((((false, ()), ()), ())))
    (cond (decide (a1.2.2.2.1.1 < 0))
      (some ((((false, ()), ()), ())))
      ((spec_l05Day n a1.2.2.2.2.1).bind fun r2 =>
        cond (!r2.1.1.1)
        (some ((((false, ()), ()), ())))
        ((spec_l05Day n a1.2.2.2.2.2).bind fun r3 =>
          cond (!r3.1.1.1)
          (some ((((false, ()), ()), ())))
          (cond ((a1.2.1 == (-1)))
            (some ((((true, ()), ()), ())))
            ((spec_l00In n a1.2.1 0 ((IntKind.wrap .i64 (((a0.length : Nat) : Int) - 1)))).bind fun r4 =>
              cond r4.1.1.1
              (cond ((decide (0 ≤ a1.2.1) && decide (a1.2.1 < ((a0.length : Nat) : Int))))
                ((spec_l05Good_e n (((a0.getD (Int.toNat a1.2.1) ((ByteArray.mk #[]), (0, (((0, 0), (0, 0)), ((0, 0), (0, 0)))))).1, ((a0.getD (Int.toNat a1.2.1) ((ByteArray.mk #[]), (0, (((0, 0), (0, 0)), ((0, 0), (0, 0)))))).2.1, ((((a0.getD (Int.toNat a1.2.1) ((ByteArray.mk #[]), (0, (((0, 0), (0, 0)), ((0, 0), (0, 0)))))).2.2.1.1.1, (a0.getD (Int.toNat a1.2.1) ((ByteArray.mk #[]), (0, (((0, 0), (0, 0)), ((0, 0), (0, 0)))))).2.2.1.1.2), ((a0.getD (Int.toNat a1.2.1) ((ByteArray.mk #[]), (0, (((0, 0), (0, 0)), ((0, 0), (0, 0)))))).2.2.1.2.1, (a0.getD (Int.toNat a1.2.1) ((ByteArray.mk #[]), (0, (((0, 0), (0, 0)), ((0, 0), (0, 0)))))).2.2.1.2.2)), (((a0.getD (Int.toNat a1.2.1) ((ByteArray.mk #[]), (0, (((0, 0), (0, 0)), ((0, 0), (0, 0)))))).2.2.2.1.1, (a0.getD (Int.toNat a1.2.1) ((ByteArray.mk #[]), (0, (((0, 0), (0, 0)), ((0, 0), (0, 0)))))).2.2.2.1.2), ((a0.getD (Int.toNat a1.2.1) ((ByteArray.mk #[]), (0, (((0, 0), (0, 0)), ((0, 0), (0, 0)))))).2.2.2.2.1, (a0.getD (Int.toNat a1.2.1) ((ByteArray.mk #[]), (0, (((0, 0), (0, 0)), ((0, 0), (0, 0)))))).2.2.2.2.2)))))) a1.2.2.2.2.1).bind fun r5 =>
                  some ((((r5.1.1.1, ()), ()), ())))
                (none))
              (some ((((false, ()), ()), ())))))))))

noncomputable def spec_l05Standard_e (n : Nat) (a0 : List ((ByteArray) × ((Int) × ((((Int) × (Int)) × ((Int) × (Int))) × (((Int) × (Int)) × ((Int) × (Int))))))) (a1 : (ByteArray) × ((Int) × ((((Int) × (Int)) × ((Int) × (Int))) × (((Int) × (Int)) × ((Int) × (Int)))))) : Option ((((Bool) × (Unit)) × (Unit)) × (Unit)) := spec_l05Standard_e_t n a0 a1

noncomputable def spec_l05Ok_t9 (n : Nat) (g4 : Int → (List ((ByteArray) × ((Int) × ((((Int) × (Int)) × ((Int) × (Int))) × (((Int) × (Int)) × ((Int) × (Int))))))) → Option ((((Bool) × (Unit)) × (Unit)) × (Unit))) (g9 : Int → Int → (List ((ByteArray) × ((Int) × ((((Int) × (Int)) × ((Int) × (Int))) × (((Int) × (Int)) × ((Int) × (Int))))))) → Option ((((Bool) × (Unit)) × (Unit)) × (Unit))) (v4 : Int) (v3 : Int) (v0 : List ((ByteArray) × ((Int) × ((((Int) × (Int)) × ((Int) × (Int))) × (((Int) × (Int)) × ((Int) × (Int))))))) : Option ((((Bool) × (Unit)) × (Unit)) × (Unit)) :=
  cond (decide (v4 < v3))
  (cond ((decide (0 ≤ v4) && decide (v4 < ((v0.length : Nat) : Int))))
    (cond ((decide (0 ≤ v3) && decide (v3 < ((v0.length : Nat) : Int))))
      (cond ((eqStr (v0.getD (Int.toNat v4) ((ByteArray.mk #[]), (0, (((0, 0), (0, 0)), ((0, 0), (0, 0)))))).1 (v0.getD (Int.toNat v3) ((ByteArray.mk #[]), (0, (((0, 0), (0, 0)), ((0, 0), (0, 0)))))).1))
        (some ((((false, ()), ()), ())))
        (g9 ((IntKind.wrap .i64 (v4 + 1))) v3 v0))
      (none))
    (none))
  (g4 ((IntKind.wrap .i64 (v3 + 1))) v0)

noncomputable def spec_l05Ok_l9 (n : Nat) (g4 : Int → (List ((ByteArray) × ((Int) × ((((Int) × (Int)) × ((Int) × (Int))) × (((Int) × (Int)) × ((Int) × (Int))))))) → Option ((((Bool) × (Unit)) × (Unit)) × (Unit))) : Nat → Int → Int → (List ((ByteArray) × ((Int) × ((((Int) × (Int)) × ((Int) × (Int))) × (((Int) × (Int)) × ((Int) × (Int))))))) → Option ((((Bool) × (Unit)) × (Unit)) × (Unit))
  | 0, _, _, _ => none
  | k + 1, v4, v3, v0 => spec_l05Ok_t9 n g4 (spec_l05Ok_l9 n g4 k) v4 v3 v0

noncomputable def spec_l05Ok_t4 (n : Nat) (h9 : Nat → Int → Int → (List ((ByteArray) × ((Int) × ((((Int) × (Int)) × ((Int) × (Int))) × (((Int) × (Int)) × ((Int) × (Int))))))) → Option ((((Bool) × (Unit)) × (Unit)) × (Unit))) (g4 : Int → (List ((ByteArray) × ((Int) × ((((Int) × (Int)) × ((Int) × (Int))) × (((Int) × (Int)) × ((Int) × (Int))))))) → Option ((((Bool) × (Unit)) × (Unit)) × (Unit))) (v3 : Int) (v0 : List ((ByteArray) × ((Int) × ((((Int) × (Int)) × ((Int) × (Int))) × (((Int) × (Int)) × ((Int) × (Int))))))) : Option ((((Bool) × (Unit)) × (Unit)) × (Unit)) :=
  cond (decide (v3 < ((v0.length : Nat) : Int)))
  (cond ((decide (0 ≤ v3) && decide (v3 < ((v0.length : Nat) : Int))))
    ((spec_l05Name n ((v0.getD (Int.toNat v3) ((ByteArray.mk #[]), (0, (((0, 0), (0, 0)), ((0, 0), (0, 0)))))).1)).bind fun r0 =>
      cond (!r0.1.1.1)
      (some ((((false, ()), ()), ())))
      (cond ((decide (0 ≤ v3) && decide (v3 ≤ ((v0.length : Nat) : Int))))
        (cond ((decide (0 ≤ v3) && decide (v3 < ((v0.length : Nat) : Int))))
          ((spec_l05Standard_e n (((v0.drop (Int.toNat 0)).take ((Int.toNat v3) - (Int.toNat 0)))) (((v0.getD (Int.toNat v3) ((ByteArray.mk #[]), (0, (((0, 0), (0, 0)), ((0, 0), (0, 0)))))).1, ((v0.getD (Int.toNat v3) ((ByteArray.mk #[]), (0, (((0, 0), (0, 0)), ((0, 0), (0, 0)))))).2.1, ((((v0.getD (Int.toNat v3) ((ByteArray.mk #[]), (0, (((0, 0), (0, 0)), ((0, 0), (0, 0)))))).2.2.1.1.1, (v0.getD (Int.toNat v3) ((ByteArray.mk #[]), (0, (((0, 0), (0, 0)), ((0, 0), (0, 0)))))).2.2.1.1.2), ((v0.getD (Int.toNat v3) ((ByteArray.mk #[]), (0, (((0, 0), (0, 0)), ((0, 0), (0, 0)))))).2.2.1.2.1, (v0.getD (Int.toNat v3) ((ByteArray.mk #[]), (0, (((0, 0), (0, 0)), ((0, 0), (0, 0)))))).2.2.1.2.2)), (((v0.getD (Int.toNat v3) ((ByteArray.mk #[]), (0, (((0, 0), (0, 0)), ((0, 0), (0, 0)))))).2.2.2.1.1, (v0.getD (Int.toNat v3) ((ByteArray.mk #[]), (0, (((0, 0), (0, 0)), ((0, 0), (0, 0)))))).2.2.2.1.2), ((v0.getD (Int.toNat v3) ((ByteArray.mk #[]), (0, (((0, 0), (0, 0)), ((0, 0), (0, 0)))))).2.2.2.2.1, (v0.getD (Int.toNat v3) ((ByteArray.mk #[]), (0, (((0, 0), (0, 0)), ((0, 0), (0, 0)))))).2.2.2.2.2))))))).bind fun r1 =>
            cond (!r1.1.1.1)
            (some ((((false, ()), ()), ())))
            (h9 n 0 v3 v0))
          (none))
        (none)))
    (none))
  (some ((((true, ()), ()), ())))

noncomputable def spec_l05Ok_l4 (n : Nat) : Nat → Int → (List ((ByteArray) × ((Int) × ((((Int) × (Int)) × ((Int) × (Int))) × (((Int) × (Int)) × ((Int) × (Int))))))) → Option ((((Bool) × (Unit)) × (Unit)) × (Unit))
  | 0, _, _ => none
  | k + 1, v3, v0 => spec_l05Ok_t4 n (spec_l05Ok_l9 n (spec_l05Ok_l4 n k)) (spec_l05Ok_l4 n k) v3 v0

noncomputable def spec_l05Ok_t (n : Nat) (h4 : Nat → Int → (List ((ByteArray) × ((Int) × ((((Int) × (Int)) × ((Int) × (Int))) × (((Int) × (Int)) × ((Int) × (Int))))))) → Option ((((Bool) × (Unit)) × (Unit)) × (Unit))) (a0 : List ((ByteArray) × ((Int) × ((((Int) × (Int)) × ((Int) × (Int))) × (((Int) × (Int)) × ((Int) × (Int))))))) : Option ((((Bool) × (Unit)) × (Unit)) × (Unit)) :=
  cond (decide (((a0.length : Nat) : Int) > 30))
  (some ((((false, ()), ()), ())))
  (h4 n 0 a0)

noncomputable def spec_l05Ok (n : Nat) (a0 : List ((ByteArray) × ((Int) × ((((Int) × (Int)) × ((Int) × (Int))) × (((Int) × (Int)) × ((Int) × (Int))))))) : Option ((((Bool) × (Unit)) × (Unit)) × (Unit)) := spec_l05Ok_t n (spec_l05Ok_l4 n) a0

end Go.Abs
