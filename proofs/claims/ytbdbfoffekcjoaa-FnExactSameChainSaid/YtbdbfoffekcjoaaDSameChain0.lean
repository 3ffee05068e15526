import Derived.Test.YtbdbfoffekcjoaaLib
namespace Go.Abs
set_option linter.unusedVariables false

noncomputable def laws_szStandard_t (n : Nat) (a0 : (ByteArray) × ((Int) × ((((Int) × (Int)) × ((Int) × (Int))) × (((Int) × (Int)) × ((Int) × (Int)))))) (a1 : Int) : Option ((((Int) × Unit) × (Unit)) × (Unit)) :=
  cond (decide ((IntKind.wrap .i64 (a1 - (((ByteArray.size a0.1) : Nat) : Int))) < 0))
  (some (((((-1), ()), ()), ())))
  (some (((((IntKind.wrap .i64 (a1 - (((ByteArray.size a0.1) : Nat) : Int))), ()), ()), ())))

noncomputable def laws_szStandard (n : Nat) (a0 : (ByteArray) × ((Int) × ((((Int) × (Int)) × ((Int) × (Int))) × (((Int) × (Int)) × ((Int) × (Int)))))) (a1 : Int) : Option ((((Int) × Unit) × (Unit)) × (Unit)) := laws_szStandard_t n a0 a1

noncomputable def laws_szStandardS_t5 (n : Nat) (g5 : Int → Int → (List ((ByteArray) × ((Int) × ((((Int) × (Int)) × ((Int) × (Int))) × (((Int) × (Int)) × ((Int) × (Int))))))) → Option ((((Int) × Unit) × (Unit)) × (Unit))) (v5 : Int) (v1 : Int) (v0 : List ((ByteArray) × ((Int) × ((((Int) × (Int)) × ((Int) × (Int))) × (((Int) × (Int)) × ((Int) × (Int))))))) : Option ((((Int) × Unit) × (Unit)) × (Unit)) :=
  cond (decide (v5 < ((v0.length : Nat) : Int)))
  (cond ((decide (0 ≤ v5) && decide (v5 < ((v0.length : Nat) : Int))))
    ((laws_szStandard n (((v0.getD (Int.toNat v5) ((ByteArray.mk #[]), (0, (((0, 0), (0, 0)), ((0, 0), (0, 0)))))).1, ((v0.getD (Int.toNat v5) ((ByteArray.mk #[]), (0, (((0, 0), (0, 0)), ((0, 0), (0, 0)))))).2.1, ((((v0.getD (Int.toNat v5) ((ByteArray.mk #[]), (0, (((0, 0), (0, 0)), ((0, 0), (0, 0)))))).2.2.1.1.1, (v0.getD (Int.toNat v5) ((ByteArray.mk #[]), (0, (((0, 0), (0, 0)), ((0, 0), (0, 0)))))).2.2.1.1.2), ((v0.getD (Int.toNat v5) ((ByteArray.mk #[]), (0, (((0, 0), (0, 0)), ((0, 0), (0, 0)))))).2.2.1.2.1, (v0.getD (Int.toNat v5) ((ByteArray.mk #[]), (0, (((0, 0), (0, 0)), ((0, 0), (0, 0)))))).2.2.1.2.2)), (((v0.getD (Int.toNat v5) ((ByteArray.mk #[]), (0, (((0, 0), (0, 0)), ((0, 0), (0, 0)))))).2.2.2.1.1, (v0.getD (Int.toNat v5) ((ByteArray.mk #[]), (0, (((0, 0), (0, 0)), ((0, 0), (0, 0)))))).2.2.2.1.2), ((v0.getD (Int.toNat v5) ((ByteArray.mk #[]), (0, (((0, 0), (0, 0)), ((0, 0), (0, 0)))))).2.2.2.2.1, (v0.getD (Int.toNat v5) ((ByteArray.mk #[]), (0, (((0, 0), (0, 0)), ((0, 0), (0, 0)))))).2.2.2.2.2)))))) v1).bind fun r0 =>
      cond (decide (r0.1.1.1 < 0))
      (some (((((-1), ()), ()), ())))
      (g5 ((IntKind.wrap .i64 (v5 + 1))) r0.1.1.1 v0))
    (none))
  (some ((((v1, ()), ()), ())))

noncomputable def laws_szStandardS_l5 (n : Nat) : Nat → Int → Int → (List ((ByteArray) × ((Int) × ((((Int) × (Int)) × ((Int) × (Int))) × (((Int) × (Int)) × ((Int) × (Int))))))) → Option ((((Int) × Unit) × (Unit)) × (Unit))
  | 0, _, _, _ => none
  | k + 1, v5, v1, v0 => laws_szStandardS_t5 n (laws_szStandardS_l5 n k) v5 v1 v0

noncomputable def laws_szStandardS_t (n : Nat) (h5 : Nat → Int → Int → (List ((ByteArray) × ((Int) × ((((Int) × (Int)) × ((Int) × (Int))) × (((Int) × (Int)) × ((Int) × (Int))))))) → Option ((((Int) × Unit) × (Unit)) × (Unit))) (a0 : List ((ByteArray) × ((Int) × ((((Int) × (Int)) × ((Int) × (Int))) × (((Int) × (Int)) × ((Int) × (Int))))))) (a1 : Int) : Option ((((Int) × Unit) × (Unit)) × (Unit)) :=
  cond (decide ((IntKind.wrap .i64 (a1 - ((a0.length : Nat) : Int))) < 0))
  (some (((((-1), ()), ()), ())))
  (h5 n 0 ((IntKind.wrap .i64 (a1 - ((a0.length : Nat) : Int)))) a0)

noncomputable def laws_szStandardS (n : Nat) (a0 : List ((ByteArray) × ((Int) × ((((Int) × (Int)) × ((Int) × (Int))) × (((Int) × (Int)) × ((Int) × (Int))))))) (a1 : Int) : Option ((((Int) × Unit) × (Unit)) × (Unit)) := laws_szStandardS_t n (laws_szStandardS_l5 n) a0 a1

noncomputable def laws_toFrac_t (n : Nat) (a0 : (Int) × (Int)) : Option (((((Int) × (Int)) × Unit) × (Unit)) × (Unit)) :=
  some (((((a0.1, a0.2), ()), ()), ()))

noncomputable def laws_toFrac (n : Nat) (a0 : (Int) × (Int)) : Option (((((Int) × (Int)) × Unit) × (Unit)) × (Unit)) := laws_toFrac_t n a0

noncomputable def laws_toSpan_t (n : Nat) (a0 : ((Int) × (Int)) × ((Int) × (Int))) : Option ((((((Int) × (Int)) × ((Int) × (Int))) × Unit) × (Unit)) × (Unit)) :=
  (laws_toFrac n ((a0.1.1, a0.1.2))).bind fun r0 =>
  (laws_toFrac n ((a0.2.1, a0.2.2))).bind fun r1 =>
  some ((((((r0.1.1.1.1, r0.1.1.1.2), (r1.1.1.1.1, r1.1.1.1.2)), ()), ()), ()))

noncomputable def laws_toSpan (n : Nat) (a0 : ((Int) × (Int)) × ((Int) × (Int))) : Option ((((((Int) × (Int)) × ((Int) × (Int))) × Unit) × (Unit)) × (Unit)) := laws_toSpan_t n a0

noncomputable def laws_toStandard_t (n : Nat) (a0 : (ByteArray) × ((Int) × ((((Int) × (Int)) × ((Int) × (Int))) × (((Int) × (Int)) × ((Int) × (Int)))))) : Option (((((ByteArray) × ((Int) × ((((Int) × (Int)) × ((Int) × (Int))) × (((Int) × (Int)) × ((Int) × (Int)))))) × Unit) × (Unit)) × (Unit)) :=
  (laws_toSpan n (((a0.2.2.1.1.1, a0.2.2.1.1.2), (a0.2.2.1.2.1, a0.2.2.1.2.2)))).bind fun r0 =>
  (laws_toFrac n ((a0.2.2.2.1.1, a0.2.2.2.1.2))).bind fun r1 =>
  some (((((a0.1, (a0.2.1, (((r0.1.1.1.1.1, r0.1.1.1.1.2), (r0.1.1.1.2.1, r0.1.1.1.2.2)), ((r1.1.1.1.1, r1.1.1.1.2), (a0.2.2.2.2.1, a0.2.2.2.2.2))))), ()), ()), ()))

noncomputable def laws_toStandard (n : Nat) (a0 : (ByteArray) × ((Int) × ((((Int) × (Int)) × ((Int) × (Int))) × (((Int) × (Int)) × ((Int) × (Int)))))) : Option (((((ByteArray) × ((Int) × ((((Int) × (Int)) × ((Int) × (Int))) × (((Int) × (Int)) × ((Int) × (Int)))))) × Unit) × (Unit)) × (Unit)) := laws_toStandard_t n a0

noncomputable def laws_toStandardS_t3 (n : Nat) (g3 : Int → (List ((ByteArray) × ((Int) × ((((Int) × (Int)) × ((Int) × (Int))) × (((Int) × (Int)) × ((Int) × (Int))))))) → (List ((ByteArray) × ((Int) × ((((Int) × (Int)) × ((Int) × (Int))) × (((Int) × (Int)) × ((Int) × (Int))))))) → Option ((((List ((ByteArray) × ((Int) × ((((Int) × (Int)) × ((Int) × (Int))) × (((Int) × (Int)) × ((Int) × (Int))))))) × Unit) × (Unit)) × (Unit))) (v4 : Int) (v0 : List ((ByteArray) × ((Int) × ((((Int) × (Int)) × ((Int) × (Int))) × (((Int) × (Int)) × ((Int) × (Int))))))) (b0 : List ((ByteArray) × ((Int) × ((((Int) × (Int)) × ((Int) × (Int))) × (((Int) × (Int)) × ((Int) × (Int))))))) : Option ((((List ((ByteArray) × ((Int) × ((((Int) × (Int)) × ((Int) × (Int))) × (((Int) × (Int)) × ((Int) × (Int))))))) × Unit) × (Unit)) × (Unit)) :=
  cond (decide (v4 < ((v0.length : Nat) : Int)))
  (cond ((decide (0 ≤ v4) && decide (v4 < ((v0.length : Nat) : Int))))
    ((laws_toStandard n (((v0.getD (Int.toNat v4) ((ByteArray.mk #[]), (0, (((0, 0), (0, 0)), ((0, 0), (0, 0)))))).1, ((v0.getD (Int.toNat v4) ((ByteArray.mk #[]), (0, (((0, 0), (0, 0)), ((0, 0), (0, 0)))))).2.1, ((((v0.getD (Int.toNat v4) ((ByteArray.mk #[]), (0, (((0, 0), (0, 0)), ((0, 0), (0, 0)))))).2.2.1.1.1, (v0.getD (Int.toNat v4) ((ByteArray.mk #[]), (0, (((0, 0), (0, 0)), ((0, 0), (0, 0)))))).2.2.1.1.2), ((v0.getD (Int.toNat v4) ((ByteArray.mk #[]), (0, (((0, 0), (0, 0)), ((0, 0), (0, 0)))))).2.2.1.2.1, (v0.getD (Int.toNat v4) ((ByteArray.mk #[]), (0, (((0, 0), (0, 0)), ((0, 0), (0, 0)))))).2.2.1.2.2)), (((v0.getD (Int.toNat v4) ((ByteArray.mk #[]), (0, (((0, 0), (0, 0)), ((0, 0), (0, 0)))))).2.2.2.1.1, (v0.getD (Int.toNat v4) ((ByteArray.mk #[]), (0, (((0, 0), (0, 0)), ((0, 0), (0, 0)))))).2.2.2.1.2), ((v0.getD (Int.toNat v4) ((ByteArray.mk #[]), (0, (((0, 0), (0, 0)), ((0, 0), (0, 0)))))).2.2.2.2.1, (v0.getD (Int.toNat v4) ((ByteArray.mk #[]), (0, (((0, 0), (0, 0)), ((0, 0), (0, 0)))))).2.2.2.2.2))))))).bind fun r0 =>
      cond ((decide (0 ≤ v4) && decide (v4 < ((b0.length : Nat) : Int))))
      (g3 ((IntKind.wrap .i64 (v4 + 1))) v0 ((b0.set (Int.toNat v4) (r0.1.1.1.1, (r0.1.1.1.2.1, (((r0.1.1.1.2.2.1.1.1, r0.1.1.1.2.2.1.1.2), (r0.1.1.1.2.2.1.2.1, r0.1.1.1.2.2.1.2.2)), ((r0.1.1.1.2.2.2.1.1, r0.1.1.1.2.2.2.1.2), (r0.1.1.1.2.2.2.2.1, r0.1.1.1.2.2.2.2.2))))))))
      (none))
    (none))
  (some ((((b0, ()), ()), ())))

noncomputable def laws_toStandardS_l3 (n : Nat) : Nat → Int → (List ((ByteArray) × ((Int) × ((((Int) × (Int)) × ((Int) × (Int))) × (((Int) × (Int)) × ((Int) × (Int))))))) → (List ((ByteArray) × ((Int) × ((((Int) × (Int)) × ((Int) × (Int))) × (((Int) × (Int)) × ((Int) × (Int))))))) → Option ((((List ((ByteArray) × ((Int) × ((((Int) × (Int)) × ((Int) × (Int))) × (((Int) × (Int)) × ((Int) × (Int))))))) × Unit) × (Unit)) × (Unit))
  | 0, _, _, _ => none
  | k + 1, v4, v0, b0 => laws_toStandardS_t3 n (laws_toStandardS_l3 n k) v4 v0 b0

noncomputable def laws_toStandardS_t (n : Nat) (h3 : Nat → Int → (List ((ByteArray) × ((Int) × ((((Int) × (Int)) × ((Int) × (Int))) × (((Int) × (Int)) × ((Int) × (Int))))))) → (List ((ByteArray) × ((Int) × ((((Int) × (Int)) × ((Int) × (Int))) × (((Int) × (Int)) × ((Int) × (Int))))))) → Option ((((List ((ByteArray) × ((Int) × ((((Int) × (Int)) × ((Int) × (Int))) × (((Int) × (Int)) × ((Int) × (Int))))))) × Unit) × (Unit)) × (Unit))) (a0 : List ((ByteArray) × ((Int) × ((((Int) × (Int)) × ((Int) × (Int))) × (((Int) × (Int)) × ((Int) × (Int))))))) : Option ((((List ((ByteArray) × ((Int) × ((((Int) × (Int)) × ((Int) × (Int))) × (((Int) × (Int)) × ((Int) × (Int))))))) × Unit) × (Unit)) × (Unit)) :=
  cond ((((((a0.length : Nat) : Int) == ((a0.length : Nat) : Int)) && decide (0 ≤ ((a0.length : Nat) : Int))) && decide (((Int.toNat ((a0.length : Nat) : Int)) * 89) ≤ 70368744177664)))
  (h3 n 0 a0 ((List.replicate (Int.toNat ((a0.length : Nat) : Int)) ((ByteArray.mk #[]), (0, (((0, 0), (0, 0)), ((0, 0), (0, 0))))))))
  (none)

noncomputable def laws_toStandardS (n : Nat) (a0 : List ((ByteArray) × ((Int) × ((((Int) × (Int)) × ((Int) × (Int))) × (((Int) × (Int)) × ((Int) × (Int))))))) : Option ((((List ((ByteArray) × ((Int) × ((((Int) × (Int)) × ((Int) × (Int))) × (((Int) × (Int)) × ((Int) × (Int))))))) × Unit) × (Unit)) × (Unit)) := laws_toStandardS_t n (laws_toStandardS_l3 n) a0

noncomputable def spec_SameChain_t4 (n : Nat) (g4 : Int → (List ((ByteArray) × ((Int) × ((((Int) × (Int)) × ((Int) × (Int))) × (((Int) × (Int)) × ((Int) × (Int))))))) → (List ((ByteArray) × ((Int) × ((((Int) × (Int)) × ((Int) × (Int))) × (((Int) × (Int)) × ((Int) × (Int))))))) → Option ((((Bool) × Unit) × (Unit)) × (Unit))) (v5 : Int) (v1 : List ((ByteArray) × ((Int) × ((((Int) × (Int)) × ((Int) × (Int))) × (((Int) × (Int)) × ((Int) × (Int))))))) (v0 : List ((ByteArray) × ((Int) × ((((Int) × (Int)) × ((Int) × (Int))) × (((Int) × (Int)) × ((Int) × (Int))))))) : Option ((((Bool) × Unit) × (Unit)) × (Unit)) :=
  cond (decide (v5 < ((v0.length : Nat) : Int)))
  (cond ((decide (0 ≤ v5) && decide (v5 < ((v0.length : Nat) : Int))))
    (cond ((decide (0 ≤ v5) && decide (v5 < ((v1.length : Nat) : Int))))
      (cond ((!((eqBA (v0.getD (Int.toNat v5) ((ByteArray.mk #[]), (0, (((0, 0), (0, 0)), ((0, 0), (0, 0)))))).1 (v1.getD (Int.toNat v5) ((ByteArray.mk #[]), (0, (((0, 0), (0, 0)), ((0, 0), (0, 0)))))).1) && (((v0.getD (Int.toNat v5) ((ByteArray.mk #[]), (0, (((0, 0), (0, 0)), ((0, 0), (0, 0)))))).2.1 == (v1.getD (Int.toNat v5) ((ByteArray.mk #[]), (0, (((0, 0), (0, 0)), ((0, 0), (0, 0)))))).2.1) && (((v0.getD (Int.toNat v5) ((ByteArray.mk #[]), (0, (((0, 0), (0, 0)), ((0, 0), (0, 0)))))).2.2.1.1.1 == (v1.getD (Int.toNat v5) ((ByteArray.mk #[]), (0, (((0, 0), (0, 0)), ((0, 0), (0, 0)))))).2.2.1.1.1) && (((v0.getD (Int.toNat v5) ((ByteArray.mk #[]), (0, (((0, 0), (0, 0)), ((0, 0), (0, 0)))))).2.2.1.1.2 == (v1.getD (Int.toNat v5) ((ByteArray.mk #[]), (0, (((0, 0), (0, 0)), ((0, 0), (0, 0)))))).2.2.1.1.2) && (((v0.getD (Int.toNat v5) ((ByteArray.mk #[]), (0, (((0, 0), (0, 0)), ((0, 0), (0, 0)))))).2.2.1.2.1 == (v1.getD (Int.toNat v5) ((ByteArray.mk #[]), (0, (((0, 0), (0, 0)), ((0, 0), (0, 0)))))).2.2.1.2.1) && (((v0.getD (Int.toNat v5) ((ByteArray.mk #[]), (0, (((0, 0), (0, 0)), ((0, 0), (0, 0)))))).2.2.1.2.2 == (v1.getD (Int.toNat v5) ((ByteArray.mk #[]), (0, (((0, 0), (0, 0)), ((0, 0), (0, 0)))))).2.2.1.2.2) && (((v0.getD (Int.toNat v5) ((ByteArray.mk #[]), (0, (((0, 0), (0, 0)), ((0, 0), (0, 0)))))).2.2.2.1.1 == (v1.getD (Int.toNat v5) ((ByteArray.mk #[]), (0, (((0, 0), (0, 0)), ((0, 0), (0, 0)))))).2.2.2.1.1) && (((v0.getD (Int.toNat v5) ((ByteArray.mk #[]), (0, (((0, 0), (0, 0)), ((0, 0), (0, 0)))))).2.2.2.1.2 == (v1.getD (Int.toNat v5) ((ByteArray.mk #[]), (0, (((0, 0), (0, 0)), ((0, 0), (0, 0)))))).2.2.2.1.2) && (((v0.getD (Int.toNat v5) ((ByteArray.mk #[]), (0, (((0, 0), (0, 0)), ((0, 0), (0, 0)))))).2.2.2.2.1 == (v1.getD (Int.toNat v5) ((ByteArray.mk #[]), (0, (((0, 0), (0, 0)), ((0, 0), (0, 0)))))).2.2.2.2.1) && (((v0.getD (Int.toNat v5) ((ByteArray.mk #[]), (0, (((0, 0), (0, 0)), ((0, 0), (0, 0)))))).2.2.2.2.2 == (v1.getD (Int.toNat v5) ((ByteArray.mk #[]), (0, (((0, 0), (0, 0)), ((0, 0), (0, 0)))))).2.2.2.2.2) && true))))))))))))
        (some ((((false, ()), ()), ())))
        (g4 ((IntKind.wrap .i64 (v5 + 1))) v1 v0))
      (none))
    (none))
  (some ((((true, ()), ()), ())))

noncomputable def spec_SameChain_l4 (n : Nat) : Nat → Int → (List ((ByteArray) × ((Int) × ((((Int) × (Int)) × ((Int) × (Int))) × (((Int) × (Int)) × ((Int) × (Int))))))) → (List ((ByteArray) × ((Int) × ((((Int) × (Int)) × ((Int) × (Int))) × (((Int) × (Int)) × ((Int) × (Int))))))) → Option ((((Bool) × Unit) × (Unit)) × (Unit))
  | 0, _, _, _ => none
  | k + 1, v5, v1, v0 => spec_SameChain_t4 n (spec_SameChain_l4 n k) v5 v1 v0

noncomputable def spec_SameChain_t (n : Nat) (h4 : Nat → Int → (List ((ByteArray) × ((Int) × ((((Int) × (Int)) × ((Int) × (Int))) × (((Int) × (Int)) × ((Int) × (Int))))))) → (List ((ByteArray) × ((Int) × ((((Int) × (Int)) × ((Int) × (Int))) × (((Int) × (Int)) × ((Int) × (Int))))))) → Option ((((Bool) × Unit) × (Unit)) × (Unit))) (a0 : List ((ByteArray) × ((Int) × ((((Int) × (Int)) × ((Int) × (Int))) × (((Int) × (Int)) × ((Int) × (Int))))))) (a1 : List ((ByteArray) × ((Int) × ((((Int) × (Int)) × ((Int) × (Int))) × (((Int) × (Int)) × ((Int) × (Int))))))) : Option ((((Bool) × Unit) × (Unit)) × (Unit)) :=
  cond ((((a0.length : Nat) : Int) != ((a1.length : Nat) : Int)))
  (some ((((false, ()), ()), ())))
  (h4 n 0 a1 a0)

noncomputable def spec_SameChain (n : Nat) (a0 : List ((ByteArray) × ((Int) × ((((Int) × (Int)) × ((Int) × (Int))) × (((Int) × (Int)) × ((Int) × (Int))))))) (a1 : List ((ByteArray) × ((Int) × ((((Int) × (Int)) × ((Int) × (Int))) × (((Int) × (Int)) × ((Int) × (Int))))))) : Option ((((Bool) × Unit) × (Unit)) × (Unit)) := spec_SameChain_t n (spec_SameChain_l4 n) a0 a1

noncomputable def slices_Equal_impl_Standard_impl_Standard_t4 (n : Nat) (g4 : Int → (List ((ByteArray) × ((Int) × ((((Int) × (Int)) × ((Int) × (Int))) × (((Int) × (Int)) × ((Int) × (Int))))))) → (List ((ByteArray) × ((Int) × ((((Int) × (Int)) × ((Int) × (Int))) × (((Int) × (Int)) × ((Int) × (Int))))))) → Int → Option ((((Bool) × Unit) × (Unit)) × (Unit))) (v13 : Int) (v1 : List ((ByteArray) × ((Int) × ((((Int) × (Int)) × ((Int) × (Int))) × (((Int) × (Int)) × ((Int) × (Int))))))) (v0 : List ((ByteArray) × ((Int) × ((((Int) × (Int)) × ((Int) × (Int))) × (((Int) × (Int)) × ((Int) × (Int))))))) (v12 : Int) : Option ((((Bool) × Unit) × (Unit)) × (Unit)) :=
  cond (decide (v13 < v12))
  (cond ((decide (0 ≤ v13) && decide (v13 < ((v0.length : Nat) : Int))))
    (cond ((decide (0 ≤ v13) && decide (v13 < ((v1.length : Nat) : Int))))
      (cond ((!((eqBA (v0.getD (Int.toNat v13) ((ByteArray.mk #[]), (0, (((0, 0), (0, 0)), ((0, 0), (0, 0)))))).1 (v1.getD (Int.toNat v13) ((ByteArray.mk #[]), (0, (((0, 0), (0, 0)), ((0, 0), (0, 0)))))).1) && (((v0.getD (Int.toNat v13) ((ByteArray.mk #[]), (0, (((0, 0), (0, 0)), ((0, 0), (0, 0)))))).2.1 == (v1.getD (Int.toNat v13) ((ByteArray.mk #[]), (0, (((0, 0), (0, 0)), ((0, 0), (0, 0)))))).2.1) && (((v0.getD (Int.toNat v13) ((ByteArray.mk #[]), (0, (((0, 0), (0, 0)), ((0, 0), (0, 0)))))).2.2.1.1.1 == (v1.getD (Int.toNat v13) ((ByteArray.mk #[]), (0, (((0, 0), (0, 0)), ((0, 0), (0, 0)))))).2.2.1.1.1) && (((v0.getD (Int.toNat v13) ((ByteArray.mk #[]), (0, (((0, 0), (0, 0)), ((0, 0), (0, 0)))))).2.2.1.1.2 == (v1.getD (Int.toNat v13) ((ByteArray.mk #[]), (0, (((0, 0), (0, 0)), ((0, 0), (0, 0)))))).2.2.1.1.2) && (((v0.getD (Int.toNat v13) ((ByteArray.mk #[]), (0, (((0, 0), (0, 0)), ((0, 0), (0, 0)))))).2.2.1.2.1 == (v1.getD (Int.toNat v13) ((ByteArray.mk #[]), (0, (((0, 0), (0, 0)), ((0, 0), (0, 0)))))).2.2.1.2.1) && (((v0.getD (Int.toNat v13) ((ByteArray.mk #[]), (0, (((0, 0), (0, 0)), ((0, 0), (0, 0)))))).2.2.1.2.2 == (v1.getD (Int.toNat v13) ((ByteArray.mk #[]), (0, (((0, 0), (0, 0)), ((0, 0), (0, 0)))))).2.2.1.2.2) && (((v0.getD (Int.toNat v13) ((ByteArray.mk #[]), (0, (((0, 0), (0, 0)), ((0, 0), (0, 0)))))).2.2.2.1.1 == (v1.getD (Int.toNat v13) ((ByteArray.mk #[]), (0, (((0, 0), (0, 0)), ((0, 0), (0, 0)))))).2.2.2.1.1) && (((v0.getD (Int.toNat v13) ((ByteArray.mk #[]), (0, (((0, 0), (0, 0)), ((0, 0), (0, 0)))))).2.2.2.1.2 == (v1.getD (Int.toNat v13) ((ByteArray.mk #[]), (0, (((0, 0), (0, 0)), ((0, 0), (0, 0)))))).2.2.2.1.2) && (((v0.getD (Int.toNat v13) ((ByteArray.mk #[]), (0, (((0, 0), (0, 0)), ((0, 0), (0, 0)))))).2.2.2.2.1 == (v1.getD (Int.toNat v13) ((ByteArray.mk #[]), (0, (((0, 0), (0, 0)), ((0, 0), (0, 0)))))).2.2.2.2.1) && (((v0.getD (Int.toNat v13) ((ByteArray.mk #[]), (0, (((0, 0), (0, 0)), ((0, 0), (0, 0)))))).2.2.2.2.2 == (v1.getD (Int.toNat v13) ((ByteArray.mk #[]), (0, (((0, 0), (0, 0)), ((0, 0), (0, 0)))))).2.2.2.2.2) && true))))))))))))
        (some ((((false, ()), ()), ())))
        (g4 ((IntKind.wrap .i64 (v13 + 1))) v1 v0 v12))
      (none))
    (none))
  (some ((((true, ()), ()), ())))

noncomputable def slices_Equal_impl_Standard_impl_Standard_l4 (n : Nat) : Nat → Int → (List ((ByteArray) × ((Int) × ((((Int) × (Int)) × ((Int) × (Int))) × (((Int) × (Int)) × ((Int) × (Int))))))) → (List ((ByteArray) × ((Int) × ((((Int) × (Int)) × ((Int) × (Int))) × (((Int) × (Int)) × ((Int) × (Int))))))) → Int → Option ((((Bool) × Unit) × (Unit)) × (Unit))
  | 0, _, _, _, _ => none
  | k + 1, v13, v1, v0, v12 => slices_Equal_impl_Standard_impl_Standard_t4 n (slices_Equal_impl_Standard_impl_Standard_l4 n k) v13 v1 v0 v12

noncomputable def slices_Equal_impl_Standard_impl_Standard_t (n : Nat) (h4 : Nat → Int → (List ((ByteArray) × ((Int) × ((((Int) × (Int)) × ((Int) × (Int))) × (((Int) × (Int)) × ((Int) × (Int))))))) → (List ((ByteArray) × ((Int) × ((((Int) × (Int)) × ((Int) × (Int))) × (((Int) × (Int)) × ((Int) × (Int))))))) → Int → Option ((((Bool) × Unit) × (Unit)) × (Unit))) (a0 : List ((ByteArray) × ((Int) × ((((Int) × (Int)) × ((Int) × (Int))) × (((Int) × (Int)) × ((Int) × (Int))))))) (a1 : List ((ByteArray) × ((Int) × ((((Int) × (Int)) × ((Int) × (Int))) × (((Int) × (Int)) × ((Int) × (Int))))))) : Option ((((Bool) × Unit) × (Unit)) × (Unit)) :=
  cond ((((a0.length : Nat) : Int) != ((a1.length : Nat) : Int)))
  (some ((((false, ()), ()), ())))
  (h4 n 0 a1 a0 (((a0.length : Nat) : Int)))

noncomputable def slices_Equal_impl_Standard_impl_Standard (n : Nat) (a0 : List ((ByteArray) × ((Int) × ((((Int) × (Int)) × ((Int) × (Int))) × (((Int) × (Int)) × ((Int) × (Int))))))) (a1 : List ((ByteArray) × ((Int) × ((((Int) × (Int)) × ((Int) × (Int))) × (((Int) × (Int)) × ((Int) × (Int))))))) : Option ((((Bool) × Unit) × (Unit)) × (Unit)) := slices_Equal_impl_Standard_impl_Standard_t n (slices_Equal_impl_Standard_impl_Standard_l4 n) a0 a1

noncomputable def impl_SameChain_t (n : Nat) (a0 : List ((ByteArray) × ((Int) × ((((Int) × (Int)) × ((Int) × (Int))) × (((Int) × (Int)) × ((Int) × (Int))))))) (a1 : List ((ByteArray) × ((Int) × ((((Int) × (Int)) × ((Int) × (Int))) × (((Int) × (Int)) × ((Int) × (Int))))))) : Option ((((Bool) × Unit) × (Unit)) × (Unit)) :=
  (slices_Equal_impl_Standard_impl_Standard n a0 a1).bind fun r0 =>
  some ((((r0.1.1.1, ()), ()), ()))

noncomputable def impl_SameChain (n : Nat) (a0 : List ((ByteArray) × ((Int) × ((((Int) × (Int)) × ((Int) × (Int))) × (((Int) × (Int)) × ((Int) × (Int))))))) (a1 : List ((ByteArray) × ((Int) × ((((Int) × (Int)) × ((Int) × (Int))) × (((Int) × (Int)) × ((Int) × (Int))))))) : Option ((((Bool) × Unit) × (Unit)) × (Unit)) := impl_SameChain_t n a0 a1

noncomputable def laws_eqFrac_t (n : Nat) (a0 : (Int) × (Int)) (a1 : (Int) × (Int)) : Option ((((Bool) × Unit) × (Unit)) × (Unit)) :=
  cond ((a0.1 != a1.1))
  (some ((((false, ()), ()), ())))
  (cond ((a0.2 != a1.2))
    (some ((((false, ()), ()), ())))
    (some ((((true, ()), ()), ()))))

noncomputable def laws_eqFrac (n : Nat) (a0 : (Int) × (Int)) (a1 : (Int) × (Int)) : Option ((((Bool) × Unit) × (Unit)) × (Unit)) := laws_eqFrac_t n a0 a1

noncomputable def laws_eqSpan_t (n : Nat) (a0 : ((Int) × (Int)) × ((Int) × (Int))) (a1 : ((Int) × (Int)) × ((Int) × (Int))) : Option ((((Bool) × Unit) × (Unit)) × (Unit)) :=
  (laws_eqFrac n ((a0.1.1, a0.1.2)) ((a1.1.1, a1.1.2))).bind fun r0 =>
  cond (!r0.1.1.1)
  (some ((((false, ()), ()), ())))
  ((laws_eqFrac n ((a0.2.1, a0.2.2)) ((a1.2.1, a1.2.2))).bind fun r1 =>
    cond (!r1.1.1.1)
    (some ((((false, ()), ()), ())))
    (some ((((true, ()), ()), ()))))

noncomputable def laws_eqSpan (n : Nat) (a0 : ((Int) × (Int)) × ((Int) × (Int))) (a1 : ((Int) × (Int)) × ((Int) × (Int))) : Option ((((Bool) × Unit) × (Unit)) × (Unit)) := laws_eqSpan_t n a0 a1

noncomputable def laws_eqStandard_t (n : Nat) (a0 : (ByteArray) × ((Int) × ((((Int) × (Int)) × ((Int) × (Int))) × (((Int) × (Int)) × ((Int) × (Int)))))) (a1 : (ByteArray) × ((Int) × ((((Int) × (Int)) × ((Int) × (Int))) × (((Int) × (Int)) × ((Int) × (Int)))))) : Option ((((Bool) × Unit) × (Unit)) × (Unit)) :=
  cond ((!(eqStr a0.1 a1.1)))
  (some ((((false, ()), ()), ())))
  (cond ((a0.2.1 != a1.2.1))
    (some ((((false, ()), ()), ())))
    ((laws_eqSpan n (((a0.2.2.1.1.1, a0.2.2.1.1.2), (a0.2.2.1.2.1, a0.2.2.1.2.2))) (((a1.2.2.1.1.1, a1.2.2.1.1.2), (a1.2.2.1.2.1, a1.2.2.1.2.2)))).bind fun r0 =>
      cond (!r0.1.1.1)
      (some ((((false, ()), ()), ())))
      ((laws_eqFrac n ((a0.2.2.2.1.1, a0.2.2.2.1.2)) ((a1.2.2.2.1.1, a1.2.2.2.1.2))).bind fun r1 =>
        cond (!r1.1.1.1)
        (some ((((false, ()), ()), ())))
        (cond ((a0.2.2.2.2.1 != a1.2.2.2.2.1))
          (some ((((false, ()), ()), ())))
          (cond ((a0.2.2.2.2.2 != a1.2.2.2.2.2))
            (some ((((false, ()), ()), ())))
            (some ((((true, ()), ()), ()))))))))

noncomputable def laws_eqStandard (n : Nat) (a0 : (ByteArray) × ((Int) × ((((Int) × (Int)) × ((Int) × (Int))) × (((Int) × (Int)) × ((Int) × (Int)))))) (a1 : (ByteArray) × ((Int) × ((((Int) × (Int)) × ((Int) × (Int))) × (((Int) × (Int)) × ((Int) × (Int)))))) : Option ((((Bool) × Unit) × (Unit)) × (Unit)) := laws_eqStandard_t n a0 a1

noncomputable def laws_eqStandardS_t4 (n : Nat) (g4 : Int → (List ((ByteArray) × ((Int) × ((((Int) × (Int)) × ((Int) × (Int))) × (((Int) × (Int)) × ((Int) × (Int))))))) → (List ((ByteArray) × ((Int) × ((((Int) × (Int)) × ((Int) × (Int))) × (((Int) × (Int)) × ((Int) × (Int))))))) → Option ((((Bool) × Unit) × (Unit)) × (Unit))) (v5 : Int) (v1 : List ((ByteArray) × ((Int) × ((((Int) × (Int)) × ((Int) × (Int))) × (((Int) × (Int)) × ((Int) × (Int))))))) (v0 : List ((ByteArray) × ((Int) × ((((Int) × (Int)) × ((Int) × (Int))) × (((Int) × (Int)) × ((Int) × (Int))))))) : Option ((((Bool) × Unit) × (Unit)) × (Unit)) :=
  cond (decide (v5 < ((v0.length : Nat) : Int)))
  (cond ((decide (0 ≤ v5) && decide (v5 < ((v0.length : Nat) : Int))))
    (cond ((decide (0 ≤ v5) && decide (v5 < ((v1.length : Nat) : Int))))
      ((laws_eqStandard n (((v0.getD (Int.toNat v5) ((ByteArray.mk #[]), (0, (((0, 0), (0, 0)), ((0, 0), (0, 0)))))).1, ((v0.getD (Int.toNat v5) ((ByteArray.mk #[]), (0, (((0, 0), (0, 0)), ((0, 0), (0, 0)))))).2.1, ((((v0.getD (Int.toNat v5) ((ByteArray.mk #[]), (0, (((0, 0), (0, 0)), ((0, 0), (0, 0)))))).2.2.1.1.1, (v0.getD (Int.toNat v5) ((ByteArray.mk #[]), (0, (((0, 0), (0, 0)), ((0, 0), (0, 0)))))).2.2.1.1.2), ((v0.getD (Int.toNat v5) ((ByteArray.mk #[]), (0, (((0, 0), (0, 0)), ((0, 0), (0, 0)))))).2.2.1.2.1, (v0.getD (Int.toNat v5) ((ByteArray.mk #[]), (0, (((0, 0), (0, 0)), ((0, 0), (0, 0)))))).2.2.1.2.2)), (((v0.getD (Int.toNat v5) ((ByteArray.mk #[]), (0, (((0, 0), (0, 0)), ((0, 0), (0, 0)))))).2.2.2.1.1, (v0.getD (Int.toNat v5) ((ByteArray.mk #[]), (0, (((0, 0), (0, 0)), ((0, 0), (0, 0)))))).2.2.2.1.2), ((v0.getD (Int.toNat v5) ((ByteArray.mk #[]), (0, (((0, 0), (0, 0)), ((0, 0), (0, 0)))))).2.2.2.2.1, (v0.getD (Int.toNat v5) ((ByteArray.mk #[]), (0, (((0, 0), (0, 0)), ((0, 0), (0, 0)))))).2.2.2.2.2)))))) (((v1.getD (Int.toNat v5) ((ByteArray.mk #[]), (0, (((0, 0), (0, 0)), ((0, 0), (0, 0)))))).1, ((v1.getD (Int.toNat v5) ((ByteArray.mk #[]), (0, (((0, 0), (0, 0)), ((0, 0), (0, 0)))))).2.1, ((((v1.getD (Int.toNat v5) ((ByteArray.mk #[]), (0, (((0, 0), (0, 0)), ((0, 0), (0, 0)))))).2.2.1.1.1, (v1.getD (Int.toNat v5) ((ByteArray.mk #[]), (0, (((0, 0), (0, 0)), ((0, 0), (0, 0)))))).2.2.1.1.2), ((v1.getD (Int.toNat v5) ((ByteArray.mk #[]), (0, (((0, 0), (0, 0)), ((0, 0), (0, 0)))))).2.2.1.2.1, (v1.getD (Int.toNat v5) ((ByteArray.mk #[]), (0, (((0, 0), (0, 0)), ((0, 0), (0, 0)))))).2.2.1.2.2)), (((v1.getD (Int.toNat v5) ((ByteArray.mk #[]), (0, (((0, 0), (0, 0)), ((0, 0), (0, 0)))))).2.2.2.1.1, (v1.getD (Int.toNat v5) ((ByteArray.mk #[]), (0, (((0, 0), (0, 0)), ((0, 0), (0, 0)))))).2.2.2.1.2), ((v1.getD (Int.toNat v5) ((ByteArray.mk #[]), (0, (((0, 0), (0, 0)), ((0, 0), (0, 0)))))).2.2.2.2.1, (v1.getD (Int.toNat v5) ((ByteArray.mk #[]), (0, (((0, 0), (0, 0)), ((0, 0), (0, 0)))))).2.2.2.2.2))))))).bind fun r0 =>
        cond (!r0.1.1.1)
        (some ((((false, ()), ()), ())))
        (g4 ((IntKind.wrap .i64 (v5 + 1))) v1 v0))
      (none))
    (none))
  (some ((((true, ()), ()), ())))

noncomputable def laws_eqStandardS_l4 (n : Nat) : Nat → Int → (List ((ByteArray) × ((Int) × ((((Int) × (Int)) × ((Int) × (Int))) × (((Int) × (Int)) × ((Int) × (Int))))))) → (List ((ByteArray) × ((Int) × ((((Int) × (Int)) × ((Int) × (Int))) × (((Int) × (Int)) × ((Int) × (Int))))))) → Option ((((Bool) × Unit) × (Unit)) × (Unit))
  | 0, _, _, _ => none
  | k + 1, v5, v1, v0 => laws_eqStandardS_t4 n (laws_eqStandardS_l4 n k) v5 v1 v0

noncomputable def laws_eqStandardS_t (n : Nat) (h4 : Nat → Int → (List ((ByteArray) × ((Int) × ((((Int) × (Int)) × ((Int) × (Int))) × (((Int) × (Int)) × ((Int) × (Int))))))) → (List ((ByteArray) × ((Int) × ((((Int) × (Int)) × ((Int) × (Int))) × (((Int) × (Int)) × ((Int) × (Int))))))) → Option ((((Bool) × Unit) × (Unit)) × (Unit))) (a0 : List ((ByteArray) × ((Int) × ((((Int) × (Int)) × ((Int) × (Int))) × (((Int) × (Int)) × ((Int) × (Int))))))) (a1 : List ((ByteArray) × ((Int) × ((((Int) × (Int)) × ((Int) × (Int))) × (((Int) × (Int)) × ((Int) × (Int))))))) : Option ((((Bool) × Unit) × (Unit)) × (Unit)) :=
  cond ((((a0.length : Nat) : Int) != ((a1.length : Nat) : Int)))
  (some ((((false, ()), ()), ())))
  (h4 n 0 a1 a0)

noncomputable def laws_eqStandardS (n : Nat) (a0 : List ((ByteArray) × ((Int) × ((((Int) × (Int)) × ((Int) × (Int))) × (((Int) × (Int)) × ((Int) × (Int))))))) (a1 : List ((ByteArray) × ((Int) × ((((Int) × (Int)) × ((Int) × (Int))) × (((Int) × (Int)) × ((Int) × (Int))))))) : Option ((((Bool) × Unit) × (Unit)) × (Unit)) := laws_eqStandardS_t n (laws_eqStandardS_l4 n) a0 a1

noncomputable def laws_FnExactSameChain_t (n : Nat) (a0 : List ((ByteArray) × ((Int) × ((((Int) × (Int)) × ((Int) × (Int))) × (((Int) × (Int)) × ((Int) × (Int))))))) (a1 : List ((ByteArray) × ((Int) × ((((Int) × (Int)) × ((Int) × (Int))) × (((Int) × (Int)) × ((Int) × (Int))))))) : Option ((((Bool) × Unit) × (Unit)) × (Unit)) :=
  (laws_szStandardS n a0 1048576).bind fun r0 =>
  cond (decide (r0.1.1.1 < 0))
  (some ((((true, ()), ()), ())))
  ((laws_szStandardS n a1 r0.1.1.1).bind fun r1 =>
    cond (decide (r1.1.1.1 < 0))
    (some ((((true, ()), ()), ())))
    ((laws_toStandardS n a0).bind fun r2 =>
      (laws_toStandardS n a1).bind fun r3 =>
      (spec_SameChain n r2.1.1.1 r3.1.1.1).bind fun r4 =>
      (laws_toStandardS n a0).bind fun r5 =>
      (laws_toStandardS n a1).bind fun r6 =>
      (impl_SameChain n r5.1.1.1 r6.1.1.1).bind fun r7 =>
      cond ((!(r7.1.1.1 == r4.1.1.1)))
      (some ((((false, ()), ()), ())))
      ((laws_toStandardS n a0).bind fun r8 =>
        (laws_eqStandardS n r5.1.1.1 r8.1.1.1).bind fun r9 =>
        cond (!r9.1.1.1)
        (some ((((false, ()), ()), ())))
        ((laws_toStandardS n a1).bind fun r10 =>
          (laws_eqStandardS n r6.1.1.1 r10.1.1.1).bind fun r11 =>
          cond (!r11.1.1.1)
          (some ((((false, ()), ()), ())))
          (some ((((true, ()), ()), ())))))))

noncomputable def laws_FnExactSameChain (n : Nat) (a0 : List ((ByteArray) × ((Int) × ((((Int) × (Int)) × ((Int) × (Int))) × (((Int) × (Int)) × ((Int) × (Int))))))) (a1 : List ((ByteArray) × ((Int) × ((((Int) × (Int)) × ((Int) × (Int))) × (((Int) × (Int)) × ((Int) × (Int))))))) : Option ((((Bool) × Unit) × (Unit)) × (Unit)) := laws_FnExactSameChain_t n a0 a1

noncomputable def impl_within_t (n : Nat) (a0 : Int) (a1 : Int) (a2 : Int) : Option ((((Bool) × Unit) × (Unit)) × (Unit)) :=
  cond (decide (a1 ≤ a0))
  (some ((((decide (a0 ≤ a2), ()), ()), ())))
  (some ((((false, ()), ()), ())))

noncomputable def impl_within (n : Nat) (a0 : Int) (a1 : Int) (a2 : Int) : Option ((((Bool) × Unit) × (Unit)) × (Unit)) := impl_within_t n a0 a1 a2

noncomputable def impl_gcd_t1 (n : Nat) (g1 : Int → Int → Option ((((Int) × Unit) × (Unit)) × (Unit))) (v1 : Int) (v0 : Int) : Option ((((Int) × Unit) × (Unit)) × (Unit)) :=
  cond ((v1 != 0))
  (cond ((v1 != 0))
    (g1 ((Int.tmod v0 v1)) v1)
    (none))
  (some (((((if v0 < (IntKind.wrap .i64 (0 - v0)) then (IntKind.wrap .i64 (0 - v0)) else v0), ()), ()), ())))

noncomputable def impl_gcd_l1 (n : Nat) : Nat → Int → Int → Option ((((Int) × Unit) × (Unit)) × (Unit))
  | 0, _, _ => none
  | k + 1, v1, v0 => impl_gcd_t1 n (impl_gcd_l1 n k) v1 v0

noncomputable def impl_gcd_t (n : Nat) (h1 : Nat → Int → Int → Option ((((Int) × Unit) × (Unit)) × (Unit))) (a0 : Int) (a1 : Int) : Option ((((Int) × Unit) × (Unit)) × (Unit)) :=
  h1 n a1 a0

noncomputable def impl_gcd (n : Nat) (a0 : Int) (a1 : Int) : Option ((((Int) × Unit) × (Unit)) × (Unit)) := impl_gcd_t n (impl_gcd_l1 n) a0 a1

noncomputable def impl_ValidFrac_t (n : Nat) (a0 : (Int) × (Int)) : Option ((((Bool) × Unit) × (Unit)) × (Unit)) :=
  (impl_within n a0.2 1 1000000000).bind fun r0 =>
  cond r0.1.1.1
  ((impl_within n a0.1 (-1000000000) 1000000000).bind fun r1 =>
    cond r1.1.1.1
    ((impl_gcd n a0.1 a0.2).bind fun r2 =>
      some (((((r2.1.1.1 == 1), ()), ()), ())))
    (some ((((false, ()), ()), ()))))
  (some ((((false, ()), ()), ())))

noncomputable def impl_ValidFrac (n : Nat) (a0 : (Int) × (Int)) : Option ((((Bool) × Unit) × (Unit)) × (Unit)) := impl_ValidFrac_t n a0

noncomputable def impl_calc_one_t (n : Nat) (a1 : (Int) × (Int)) (b0 : Bool) : Option (((((Int) × (Int)) × Unit) × (((Int) × Unit) × (Unit))) × ((Bool) × (Unit))) :=
  cond b0
  (some (((((0, 0), ()), ((3, ()), ())), (b0, ()))))
  (some (((((a1.1, a1.2), ()), ((0, ()), ())), (b0, ()))))

noncomputable def impl_calc_one (n : Nat) (a1 : (Int) × (Int)) (b0 : Bool) : Option (((((Int) × (Int)) × Unit) × (((Int) × Unit) × (Unit))) × ((Bool) × (Unit))) := impl_calc_one_t n a1 b0

noncomputable def impl_fracOf_t (n : Nat) (a0 : Int) (a1 : Int) : Option (((((Int) × (Int)) × Unit) × (((Bool) × Unit) × (Unit))) × (Unit)) :=
  cond (decide (a1 < 0))
  ((impl_gcd n ((IntKind.wrap .i64 (0 - a0))) ((IntKind.wrap .i64 (0 - a1)))).bind fun r0 =>
    cond ((r0.1.1.1 != 0))
    (cond ((r0.1.1.1 != 0))
      ((impl_ValidFrac n (((IntKind.wrap .i64 (Int.tdiv (IntKind.wrap .i64 (0 - a0)) r0.1.1.1)), (IntKind.wrap .i64 (Int.tdiv (IntKind.wrap .i64 (0 - a1)) r0.1.1.1))))).bind fun r1 =>
        cond (!r1.1.1.1)
        (some (((((0, 0), ()), ((false, ()), ())), ())))
        (some ((((((IntKind.wrap .i64 (Int.tdiv (IntKind.wrap .i64 (0 - a0)) r0.1.1.1)), (IntKind.wrap .i64 (Int.tdiv (IntKind.wrap .i64 (0 - a1)) r0.1.1.1))), ()), ((true, ()), ())), ()))))
      (none))
    (none))
  ((impl_gcd n a0 a1).bind fun r2 =>
    cond ((r2.1.1.1 != 0))
    (cond ((r2.1.1.1 != 0))
      ((impl_ValidFrac n (((IntKind.wrap .i64 (Int.tdiv a0 r2.1.1.1)), (IntKind.wrap .i64 (Int.tdiv a1 r2.1.1.1))))).bind fun r3 =>
        cond (!r3.1.1.1)
        (some (((((0, 0), ()), ((false, ()), ())), ())))
        (some ((((((IntKind.wrap .i64 (Int.tdiv a0 r2.1.1.1)), (IntKind.wrap .i64 (Int.tdiv a1 r2.1.1.1))), ()), ((true, ()), ())), ()))))
      (none))
    (none))

noncomputable def impl_fracOf (n : Nat) (a0 : Int) (a1 : Int) : Option (((((Int) × (Int)) × Unit) × (((Bool) × Unit) × (Unit))) × (Unit)) := impl_fracOf_t n a0 a1

noncomputable def impl_zero_t (n : Nat) : Option (((((Int) × (Int)) × Unit) × (Unit)) × (Unit)) :=
  some (((((0, 1), ()), ()), ()))

noncomputable def impl_zero (n : Nat) : Option (((((Int) × (Int)) × Unit) × (Unit)) × (Unit)) := impl_zero_t n

noncomputable def impl_calc_told_t (n : Nat) (a1 : Int) (a2 : Int) (b0 : Bool) : Option (((((Int) × (Int)) × Unit) × (Unit)) × ((Bool) × (Unit))) :=
  (impl_fracOf n a1 a2).bind fun r0 =>
  cond (!r0.1.2.1.1)
  ((impl_zero n).bind fun r1 =>
    some (((((r1.1.1.1.1, r1.1.1.1.2), ()), ()), (true, ()))))
  (some (((((r0.1.1.1.1, r0.1.1.1.2), ()), ()), (b0, ()))))

noncomputable def impl_calc_told (n : Nat) (a1 : Int) (a2 : Int) (b0 : Bool) : Option (((((Int) × (Int)) × Unit) × (Unit)) × ((Bool) × (Unit))) := impl_calc_told_t n a1 a2 b0

noncomputable def impl_isAngle_t (n : Nat) (a0 : Int) : Option ((((Bool) × Unit) × (Unit)) × (Unit)) :=
  (impl_within n a0 0 1295999).bind fun r0 =>
  some ((((r0.1.1.1, ()), ()), ()))

noncomputable def impl_isAngle (n : Nat) (a0 : Int) : Option ((((Bool) × Unit) × (Unit)) × (Unit)) := impl_isAngle_t n a0

noncomputable def impl_wrap_t (n : Nat) (a0 : Int) : Option ((((Int) × Unit) × (Unit)) × (Unit)) :=
  some (((((Int.tmod (IntKind.wrap .i64 ((Int.tmod a0 1296000) + 1296000)) 1296000), ()), ()), ()))

noncomputable def impl_wrap (n : Nat) (a0 : Int) : Option ((((Int) × Unit) × (Unit)) × (Unit)) := impl_wrap_t n a0

noncomputable def impl_turnFrom_t (n : Nat) (a0 : Int) (a1 : Int) : Option ((((Int) × Unit) × (Unit)) × (Unit)) :=
  (impl_wrap n ((IntKind.wrap .i64 (a1 - a0)))).bind fun r0 =>
  cond (decide (r0.1.1.1 > 648000))
  (some (((((IntKind.wrap .i64 (r0.1.1.1 - 1296000)), ()), ()), ())))
  (some ((((r0.1.1.1, ()), ()), ())))

noncomputable def impl_turnFrom (n : Nat) (a0 : Int) (a1 : Int) : Option ((((Int) × Unit) × (Unit)) × (Unit)) := impl_turnFrom_t n a0 a1

noncomputable def spec_l00In_t (n : Nat) (a0 : Int) (a1 : Int) (a2 : Int) : Option ((((Bool) × Unit) × (Unit)) × (Unit)) :=
  cond (decide (a0 ≥ a1))
  (some ((((decide (a0 ≤ a2), ()), ()), ())))
  (some ((((false, ()), ()), ())))

noncomputable def spec_l00In (n : Nat) (a0 : Int) (a1 : Int) (a2 : Int) : Option ((((Bool) × Unit) × (Unit)) × (Unit)) := spec_l00In_t n a0 a1 a2

noncomputable def spec_l01Abs_t (n : Nat) (a0 : Int) : Option ((((Int) × Unit) × (Unit)) × (Unit)) :=
  cond (decide (a0 < 0))
  (some (((((IntKind.wrap .i64 (0 - a0)), ()), ()), ())))
  (some ((((a0, ()), ()), ())))

noncomputable def spec_l01Abs (n : Nat) (a0 : Int) : Option ((((Int) × Unit) × (Unit)) × (Unit)) := spec_l01Abs_t n a0

noncomputable def spec_l01Gcd_t1 (n : Nat) (g1 : Int → Int → Option ((((Int) × Unit) × (Unit)) × (Unit))) (v1 : Int) (v0 : Int) : Option ((((Int) × Unit) × (Unit)) × (Unit)) :=
  cond ((v1 != 0))
  (cond ((v1 != 0))
    (g1 ((Int.tmod v0 v1)) v1)
    (none))
  (some ((((v0, ()), ()), ())))

noncomputable def spec_l01Gcd_l1 (n : Nat) : Nat → Int → Int → Option ((((Int) × Unit) × (Unit)) × (Unit))
  | 0, _, _ => none
  | k + 1, v1, v0 => spec_l01Gcd_t1 n (spec_l01Gcd_l1 n k) v1 v0

noncomputable def spec_l01Gcd_t (n : Nat) (h1 : Nat → Int → Int → Option ((((Int) × Unit) × (Unit)) × (Unit))) (a0 : Int) (a1 : Int) : Option ((((Int) × Unit) × (Unit)) × (Unit)) :=
  h1 n a1 a0

noncomputable def spec_l01Gcd (n : Nat) (a0 : Int) (a1 : Int) : Option ((((Int) × Unit) × (Unit)) × (Unit)) := spec_l01Gcd_t n (spec_l01Gcd_l1 n) a0 a1

noncomputable def spec_l01Ok_t (n : Nat) (a0 : (Int) × (Int)) : Option ((((Bool) × Unit) × (Unit)) × (Unit)) :=
  (spec_l00In n a0.2 1 1000000000).bind fun r0 =>
  cond r0.1.1.1
  ((spec_l00In n a0.1 (-1000000000) 1000000000).bind fun r1 =>
    cond r1.1.1.1
    ((spec_l01Abs n a0.1).bind fun r2 =>
      (spec_l01Gcd n r2.1.1.1 a0.2).bind fun r3 =>
      some (((((r3.1.1.1 == 1), ()), ()), ())))
    (some ((((false, ()), ()), ()))))
  (some ((((false, ()), ()), ())))

noncomputable def spec_l01Ok (n : Nat) (a0 : (Int) × (Int)) : Option ((((Bool) × Unit) × (Unit)) × (Unit)) := spec_l01Ok_t n a0

noncomputable def spec_l01Reduced_t (n : Nat) (a0 : Int) (a1 : Int) : Option (((((Int) × (Int)) × Unit) × (((Int) × Unit) × (Unit))) × (Unit)) :=
  (spec_l01Abs n a0).bind fun r0 =>
  (spec_l01Abs n a1).bind fun r1 =>
  (spec_l01Gcd n r0.1.1.1 r1.1.1.1).bind fun r2 =>
  cond ((r2.1.1.1 != 0))
  (cond ((r2.1.1.1 != 0))
    (cond (decide ((IntKind.wrap .i64 (Int.tdiv a1 r2.1.1.1)) < 0))
      ((spec_l01Ok n (((IntKind.wrap .i64 (0 - (IntKind.wrap .i64 (Int.tdiv a0 r2.1.1.1)))), (IntKind.wrap .i64 (0 - (IntKind.wrap .i64 (Int.tdiv a1 r2.1.1.1))))))).bind fun r3 =>
        cond (!r3.1.1.1)
        (some (((((0, 0), ()), ((3, ()), ())), ())))
        (some ((((((IntKind.wrap .i64 (0 - (IntKind.wrap .i64 (Int.tdiv a0 r2.1.1.1)))), (IntKind.wrap .i64 (0 - (IntKind.wrap .i64 (Int.tdiv a1 r2.1.1.1))))), ()), ((0, ()), ())), ()))))
      ((spec_l01Ok n (((IntKind.wrap .i64 (Int.tdiv a0 r2.1.1.1)), (IntKind.wrap .i64 (Int.tdiv a1 r2.1.1.1))))).bind fun r4 =>
        cond (!r4.1.1.1)
        (some (((((0, 0), ()), ((3, ()), ())), ())))
        (some ((((((IntKind.wrap .i64 (Int.tdiv a0 r2.1.1.1)), (IntKind.wrap .i64 (Int.tdiv a1 r2.1.1.1))), ()), ((0, ()), ())), ())))))
    (none))
  (none)

noncomputable def spec_l01Reduced (n : Nat) (a0 : Int) (a1 : Int) : Option (((((Int) × (Int)) × Unit) × (((Int) × Unit) × (Unit))) × (Unit)) := spec_l01Reduced_t n a0 a1

noncomputable def spec_l03Angle_t (n : Nat) (a0 : Int) : Option ((((Bool) × Unit) × (Unit)) × (Unit)) :=
  (spec_l00In n a0 0 1295999).bind fun r0 =>
  some ((((r0.1.1.1, ()), ()), ()))

noncomputable def spec_l03Angle (n : Nat) (a0 : Int) : Option ((((Bool) × Unit) × (Unit)) × (Unit)) := spec_l03Angle_t n a0

noncomputable def spec_l03Wrap_t (n : Nat) (a0 : Int) : Option ((((Int) × Unit) × (Unit)) × (Unit)) :=
  cond (decide ((Int.tmod a0 1296000) < 0))
  (some (((((IntKind.wrap .i64 ((Int.tmod a0 1296000) + 1296000)), ()), ()), ())))
  (some (((((Int.tmod a0 1296000), ()), ()), ())))

noncomputable def spec_l03Wrap (n : Nat) (a0 : Int) : Option ((((Int) × Unit) × (Unit)) × (Unit)) := spec_l03Wrap_t n a0

noncomputable def spec_l03Turn_t (n : Nat) (a0 : Int) (a1 : Int) : Option ((((Int) × Unit) × (Unit)) × (Unit)) :=
  (spec_l03Wrap n ((IntKind.wrap .i64 (a1 - a0)))).bind fun r0 =>
  cond (decide (r0.1.1.1 > 648000))
  (some (((((IntKind.wrap .i64 (r0.1.1.1 - 1296000)), ()), ()), ())))
  (some ((((r0.1.1.1, ()), ()), ())))

noncomputable def spec_l03Turn (n : Nat) (a0 : Int) (a1 : Int) : Option ((((Int) × Unit) × (Unit)) × (Unit)) := spec_l03Turn_t n a0 a1

end Go.Abs
