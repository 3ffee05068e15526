import Derived.Test.YtipjecagbndhbaaDPairTable0
namespace Go.Abs
set_option linter.unusedVariables false

noncomputable def spec_l05At_t (n : Nat) (a0 : List ((ByteArray) × ((Int) × ((((Int) × (Int)) × ((Int) × (Int))) × (((Int) × (Int)) × ((Int) × (Int))))))) (a1 : Int) (a2 : Int) : Option ((((Int) × (Unit)) × (Unit)) × (Unit)) :=
  (spec_l05Ok n a0).bind fun r0 =>
  cond (!r0.1.1.1)
  (some ((((1, ()), ()), ())))
  ((spec_l00In n a1 0 ((IntKind.wrap .i64 (((a0.length : Nat) : Int) - 1)))).bind fun r1 =>
    cond (!r1.1.1.1)
    (some ((((2, ()), ()), ())))
    ((spec_l05Day n a2).bind fun r2 =>
      cond (!r2.1.1.1)
      (some ((((2, ()), ()), ())))
      (some ((((0, ()), ()), ())))))

noncomputable def spec_l05At (n : Nat) (a0 : List ((ByteArray) × ((Int) × ((((Int) × (Int)) × ((Int) × (Int))) × (((Int) × (Int)) × ((Int) × (Int))))))) (a1 : Int) (a2 : Int) : Option ((((Int) × (Unit)) × (Unit)) × (Unit)) := spec_l05At_t n a0 a1 a2

noncomputable def spec_l05Path_t (n : Nat) (rec : (List ((ByteArray) × ((Int) × ((((Int) × (Int)) × ((Int) × (Int))) × (((Int) × (Int)) × ((Int) × (Int))))))) → Int → Option ((((List (Int)) × (Unit)) × (Unit)) × (Unit))) (a0 : List ((ByteArray) × ((Int) × ((((Int) × (Int)) × ((Int) × (Int))) × (((Int) × (Int)) × ((Int) × (Int))))))) (a1 : Int) : Option ((((List (Int)) × (Unit)) × (Unit)) × (Unit)) :=
  cond (decide (a1 < 0))
  (some (((([], ()), ()), ())))
  (cond ((decide (0 ≤ a1) && decide (a1 < ((a0.length : Nat) : Int))))
    ((rec a0 ((a0.getD (Int.toNat a1) ((ByteArray.mk #[]), (0, (((0, 0), (0, 0)), ((0, 0), (0, 0)))))).2.1)).bind fun r0 =>
      cond (decide (((r0.1.1.1.length + (a1 :: []).length) * 9) ≤ 70368744177664))
      (some (((((r0.1.1.1 ++ (a1 :: [])), ()), ()), ())))
      (none))
    (none))

noncomputable def spec_l05Path_r (n : Nat) : Nat → (List ((ByteArray) × ((Int) × ((((Int) × (Int)) × ((Int) × (Int))) × (((Int) × (Int)) × ((Int) × (Int))))))) → Int → Option ((((List (Int)) × (Unit)) × (Unit)) × (Unit))
  | 0, _, _ => none
  | d + 1, a0, a1 => spec_l05Path_t n (spec_l05Path_r n d) a0 a1

noncomputable def spec_l05Path (n : Nat) (a0 : List ((ByteArray) × ((Int) × ((((Int) × (Int)) × ((Int) × (Int))) × (((Int) × (Int)) × ((Int) × (Int))))))) (a1 : Int) : Option ((((List (Int)) × (Unit)) × (Unit)) × (Unit)) := spec_l05Path_r n n a0 a1

end Go.Abs
