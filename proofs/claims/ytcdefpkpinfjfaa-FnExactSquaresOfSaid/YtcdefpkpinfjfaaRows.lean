/-
  No cell of these rows narrows 'for every input' (looked for: loops, veiled, ifaces, maps, wideKeys, modest, calm, conditions, laid).
  DERIVED. THE GIVEN ROWS OF THIS SEAT. 11 by the template 'for every input the law returns true; each argument reads behind the call as it read before'; 0 by the template 'total and deterministic' (their statements: YtcdefpkpinfjfaaTotals.lean).
  GIVEN WITH THE SEED: the statements are not yours to turn. If you find one false, say at which input.
  Laid BY PROGRAM, IN A SANDBOX (cutbox-rows.mjs): the forced cells as the released guide's own fill.sh prints them over the translation c0a9eb282296d274… (all of the seat's roots in one cut). By AI agents, Wed Nov 11 2026. No macro, syntax, notation, axiom, sorry.
-/
import Derived.Test.YtcdefpkpinfjfaaChecked
import GoSem.Claim
import GoSem.ClaimJoined
import GoSem.ClaimMapViews
import Derived.JoinedTies
import Derived.KernelRfl
namespace Go.Proofs.Ytcdefpkpinfjfaa
/- THE CELL 'sum', in the pinned program and in every row, IS THE sha256 OF THE DUMP (.gsa) THAT YtcdefpkpinfjfaaProg.lean LOADS. Nothing in Lean hashes anything: it is a label: what it is worth is what the hold of that sum in a sandbox is worth. -/
noncomputable def Try.pinned : Pinned := { name := "ytcdefpkpinfjfaa", sum := "c0a9eb282296d27493f6949936823b50cadf413bd76d641255d8fef53b1f29ea", checked := Try.checked }
namespace Rows
def none {H : Type} : Left H := { results := [], args := [] }

/-- 'laws.FnExactWidestLink': WHATEVER THE INPUT: true; the input reads as it did. -/
def fnExactWidestLinkSpec : ChangeSpec := { name := "fnExactWidestLink", fn := fun _ => fun
  | [d1, d2, d3] => { results := [.lit (.bool true)], args := [d1, d2, d3] }
  | _ => none }
def fnExactWidestLinkRow : OpenClaim := { program := "ytcdefpkpinfjfaa", sum := "c0a9eb282296d27493f6949936823b50cadf413bd76d641255d8fef53b1f29ea", func := "loop.example/g01254/laws.FnExactWidestLink", spec := "fnExactWidestLink", unfollowed := true, recurses := true, apart := false }
def FnExactWidestLinkSaid : Prop := fnExactWidestLinkRow.holds Try.pinned (OpenSpec.ofChange fnExactWidestLinkSpec)

/-- ITS FALSE NEIGHBOUR: 'it returns false'. Refute it at one input. -/
def fnExactWidestLinkWrong : ChangeSpec := { name := "fnExactWidestLink", fn := fun _ => fun
  | [d1, d2, d3] => { results := [.lit (.bool false)], args := [d1, d2, d3] }
  | _ => none }
def FnExactWidestLinkWrongFalsely : Prop := fnExactWidestLinkRow.holds Try.pinned (OpenSpec.ofChange fnExactWidestLinkWrong)

/-- 'laws.FnExactUsersOf': WHATEVER THE INPUT: true; the input reads as it did. -/
def fnExactUsersOfSpec : ChangeSpec := { name := "fnExactUsersOf", fn := fun _ => fun
  | [d1, d2] => { results := [.lit (.bool true)], args := [d1, d2] }
  | _ => none }
def fnExactUsersOfRow : OpenClaim := { program := "ytcdefpkpinfjfaa", sum := "c0a9eb282296d27493f6949936823b50cadf413bd76d641255d8fef53b1f29ea", func := "loop.example/g01254/laws.FnExactUsersOf", spec := "fnExactUsersOf", unfollowed := true, recurses := true, apart := false }
def FnExactUsersOfSaid : Prop := fnExactUsersOfRow.holds Try.pinned (OpenSpec.ofChange fnExactUsersOfSpec)

/-- ITS FALSE NEIGHBOUR: 'it returns false'. Refute it at one input. -/
def fnExactUsersOfWrong : ChangeSpec := { name := "fnExactUsersOf", fn := fun _ => fun
  | [d1, d2] => { results := [.lit (.bool false)], args := [d1, d2] }
  | _ => none }
def FnExactUsersOfWrongFalsely : Prop := fnExactUsersOfRow.holds Try.pinned (OpenSpec.ofChange fnExactUsersOfWrong)

/-- 'laws.FnExactRecallOf': WHATEVER THE INPUT: true; the input reads as it did. -/
def fnExactRecallOfSpec : ChangeSpec := { name := "fnExactRecallOf", fn := fun _ => fun
  | [d1, d2, d3] => { results := [.lit (.bool true)], args := [d1, d2, d3] }
  | _ => none }
def fnExactRecallOfRow : OpenClaim := { program := "ytcdefpkpinfjfaa", sum := "c0a9eb282296d27493f6949936823b50cadf413bd76d641255d8fef53b1f29ea", func := "loop.example/g01254/laws.FnExactRecallOf", spec := "fnExactRecallOf", unfollowed := true, recurses := true, apart := false }
def FnExactRecallOfSaid : Prop := fnExactRecallOfRow.holds Try.pinned (OpenSpec.ofChange fnExactRecallOfSpec)

/-- ITS FALSE NEIGHBOUR: 'it returns false'. Refute it at one input. -/
def fnExactRecallOfWrong : ChangeSpec := { name := "fnExactRecallOf", fn := fun _ => fun
  | [d1, d2, d3] => { results := [.lit (.bool false)], args := [d1, d2, d3] }
  | _ => none }
def FnExactRecallOfWrongFalsely : Prop := fnExactRecallOfRow.holds Try.pinned (OpenSpec.ofChange fnExactRecallOfWrong)

/-- 'laws.FnExactRenewStandard': WHATEVER THE INPUT: true; the input reads as it did. -/
def fnExactRenewStandardSpec : ChangeSpec := { name := "fnExactRenewStandard", fn := fun _ => fun
  | [d1, d2, d3, d4, d5] => { results := [.lit (.bool true)], args := [d1, d2, d3, d4, d5] }
  | _ => none }
def fnExactRenewStandardRow : OpenClaim := { program := "ytcdefpkpinfjfaa", sum := "c0a9eb282296d27493f6949936823b50cadf413bd76d641255d8fef53b1f29ea", func := "loop.example/g01254/laws.FnExactRenewStandard", spec := "fnExactRenewStandard", unfollowed := true, recurses := true, apart := false }
def FnExactRenewStandardSaid : Prop := fnExactRenewStandardRow.holds Try.pinned (OpenSpec.ofChange fnExactRenewStandardSpec)

/-- ITS FALSE NEIGHBOUR: 'it returns false'. Refute it at one input. -/
def fnExactRenewStandardWrong : ChangeSpec := { name := "fnExactRenewStandard", fn := fun _ => fun
  | [d1, d2, d3, d4, d5] => { results := [.lit (.bool false)], args := [d1, d2, d3, d4, d5] }
  | _ => none }
def FnExactRenewStandardWrongFalsely : Prop := fnExactRenewStandardRow.holds Try.pinned (OpenSpec.ofChange fnExactRenewStandardWrong)

/-- 'laws.FnExactSquaresOf': WHATEVER THE INPUT: true; the input reads as it did. -/
def fnExactSquaresOfSpec : ChangeSpec := { name := "fnExactSquaresOf", fn := fun _ => fun
  | [d1, d2] => { results := [.lit (.bool true)], args := [d1, d2] }
  | _ => none }
def fnExactSquaresOfRow : OpenClaim := { program := "ytcdefpkpinfjfaa", sum := "c0a9eb282296d27493f6949936823b50cadf413bd76d641255d8fef53b1f29ea", func := "loop.example/g01254/laws.FnExactSquaresOf", spec := "fnExactSquaresOf", unfollowed := true, recurses := true, apart := false }
def FnExactSquaresOfSaid : Prop := fnExactSquaresOfRow.holds Try.pinned (OpenSpec.ofChange fnExactSquaresOfSpec)

/-- ITS FALSE NEIGHBOUR: 'it returns false'. Refute it at one input. -/
def fnExactSquaresOfWrong : ChangeSpec := { name := "fnExactSquaresOf", fn := fun _ => fun
  | [d1, d2] => { results := [.lit (.bool false)], args := [d1, d2] }
  | _ => none }
def FnExactSquaresOfWrongFalsely : Prop := fnExactSquaresOfRow.holds Try.pinned (OpenSpec.ofChange fnExactSquaresOfWrong)

/-- 'laws.FnExactResidualsOf': WHATEVER THE INPUT: true; the input reads as it did. -/
def fnExactResidualsOfSpec : ChangeSpec := { name := "fnExactResidualsOf", fn := fun _ => fun
  | [d1, d2] => { results := [.lit (.bool true)], args := [d1, d2] }
  | _ => none }
def fnExactResidualsOfRow : OpenClaim := { program := "ytcdefpkpinfjfaa", sum := "c0a9eb282296d27493f6949936823b50cadf413bd76d641255d8fef53b1f29ea", func := "loop.example/g01254/laws.FnExactResidualsOf", spec := "fnExactResidualsOf", unfollowed := true, recurses := true, apart := false }
def FnExactResidualsOfSaid : Prop := fnExactResidualsOfRow.holds Try.pinned (OpenSpec.ofChange fnExactResidualsOfSpec)

/-- ITS FALSE NEIGHBOUR: 'it returns false'. Refute it at one input. -/
def fnExactResidualsOfWrong : ChangeSpec := { name := "fnExactResidualsOf", fn := fun _ => fun
  | [d1, d2] => { results := [.lit (.bool false)], args := [d1, d2] }
  | _ => none }
def FnExactResidualsOfWrongFalsely : Prop := fnExactResidualsOfRow.holds Try.pinned (OpenSpec.ofChange fnExactResidualsOfWrong)

/-- 'laws.FnExactSpanOn': WHATEVER THE INPUT: true; the input reads as it did. -/
def fnExactSpanOnSpec : ChangeSpec := { name := "fnExactSpanOn", fn := fun _ => fun
  | [d1, d2, d3] => { results := [.lit (.bool true)], args := [d1, d2, d3] }
  | _ => none }
def fnExactSpanOnRow : OpenClaim := { program := "ytcdefpkpinfjfaa", sum := "c0a9eb282296d27493f6949936823b50cadf413bd76d641255d8fef53b1f29ea", func := "loop.example/g01254/laws.FnExactSpanOn", spec := "fnExactSpanOn", unfollowed := true, recurses := true, apart := false }
def FnExactSpanOnSaid : Prop := fnExactSpanOnRow.holds Try.pinned (OpenSpec.ofChange fnExactSpanOnSpec)

/-- ITS FALSE NEIGHBOUR: 'it returns false'. Refute it at one input. -/
def fnExactSpanOnWrong : ChangeSpec := { name := "fnExactSpanOn", fn := fun _ => fun
  | [d1, d2, d3] => { results := [.lit (.bool false)], args := [d1, d2, d3] }
  | _ => none }
def FnExactSpanOnWrongFalsely : Prop := fnExactSpanOnRow.holds Try.pinned (OpenSpec.ofChange fnExactSpanOnWrong)

/-- 'laws.FnExactWorstObs': WHATEVER THE INPUT: true; the input reads as it did. -/
def fnExactWorstObsSpec : ChangeSpec := { name := "fnExactWorstObs", fn := fun _ => fun
  | [d1, d2] => { results := [.lit (.bool true)], args := [d1, d2] }
  | _ => none }
def fnExactWorstObsRow : OpenClaim := { program := "ytcdefpkpinfjfaa", sum := "c0a9eb282296d27493f6949936823b50cadf413bd76d641255d8fef53b1f29ea", func := "loop.example/g01254/laws.FnExactWorstObs", spec := "fnExactWorstObs", unfollowed := true, recurses := true, apart := false }
def FnExactWorstObsSaid : Prop := fnExactWorstObsRow.holds Try.pinned (OpenSpec.ofChange fnExactWorstObsSpec)

/-- ITS FALSE NEIGHBOUR: 'it returns false'. Refute it at one input. -/
def fnExactWorstObsWrong : ChangeSpec := { name := "fnExactWorstObs", fn := fun _ => fun
  | [d1, d2] => { results := [.lit (.bool false)], args := [d1, d2] }
  | _ => none }
def FnExactWorstObsWrongFalsely : Prop := fnExactWorstObsRow.holds Try.pinned (OpenSpec.ofChange fnExactWorstObsWrong)

/-- 'laws.FnHeads': WHATEVER THE INPUT: true; the input reads as it did. -/
def fnHeadsSpec : ChangeSpec := { name := "fnHeads", fn := fun _ => fun
  | [d1, d2] => { results := [.lit (.bool true)], args := [d1, d2] }
  | _ => none }
def fnHeadsRow : OpenClaim := { program := "ytcdefpkpinfjfaa", sum := "c0a9eb282296d27493f6949936823b50cadf413bd76d641255d8fef53b1f29ea", func := "loop.example/g01254/laws.FnHeads", spec := "fnHeads", unfollowed := true, recurses := true, apart := false }
def FnHeadsSaid : Prop := fnHeadsRow.holds Try.pinned (OpenSpec.ofChange fnHeadsSpec)

/-- ITS FALSE NEIGHBOUR: 'it returns false'. Refute it at one input. -/
def fnHeadsWrong : ChangeSpec := { name := "fnHeads", fn := fun _ => fun
  | [d1, d2] => { results := [.lit (.bool false)], args := [d1, d2] }
  | _ => none }
def FnHeadsWrongFalsely : Prop := fnHeadsRow.holds Try.pinned (OpenSpec.ofChange fnHeadsWrong)

/-- 'laws.FnExactPairTable': WHATEVER THE INPUT: true; the input reads as it did. -/
def fnExactPairTableSpec : ChangeSpec := { name := "fnExactPairTable", fn := fun _ => fun
  | [d] => { results := [.lit (.bool true)], args := [d] }
  | _ => none }
def fnExactPairTableRow : OpenClaim := { program := "ytcdefpkpinfjfaa", sum := "c0a9eb282296d27493f6949936823b50cadf413bd76d641255d8fef53b1f29ea", func := "loop.example/g01254/laws.FnExactPairTable", spec := "fnExactPairTable", unfollowed := true, recurses := true, apart := false }
def FnExactPairTableSaid : Prop := fnExactPairTableRow.holds Try.pinned (OpenSpec.ofChange fnExactPairTableSpec)

/-- ITS FALSE NEIGHBOUR: 'it returns false'. Refute it at one input. -/
def fnExactPairTableWrong : ChangeSpec := { name := "fnExactPairTable", fn := fun _ => fun
  | [d] => { results := [.lit (.bool false)], args := [d] }
  | _ => none }
def FnExactPairTableWrongFalsely : Prop := fnExactPairTableRow.holds Try.pinned (OpenSpec.ofChange fnExactPairTableWrong)

/-- 'laws.FnExactNormalOf': WHATEVER THE INPUT: true; the input reads as it did. -/
def fnExactNormalOfSpec : ChangeSpec := { name := "fnExactNormalOf", fn := fun _ => fun
  | [d] => { results := [.lit (.bool true)], args := [d] }
  | _ => none }
def fnExactNormalOfRow : OpenClaim := { program := "ytcdefpkpinfjfaa", sum := "c0a9eb282296d27493f6949936823b50cadf413bd76d641255d8fef53b1f29ea", func := "loop.example/g01254/laws.FnExactNormalOf", spec := "fnExactNormalOf", apart := false }
def FnExactNormalOfSaid : Prop := fnExactNormalOfRow.holds Try.pinned (OpenSpec.ofChange fnExactNormalOfSpec)

/-- ITS FALSE NEIGHBOUR: 'it returns false'. Refute it at one input. -/
def fnExactNormalOfWrong : ChangeSpec := { name := "fnExactNormalOf", fn := fun _ => fun
  | [d] => { results := [.lit (.bool false)], args := [d] }
  | _ => none }
def FnExactNormalOfWrongFalsely : Prop := fnExactNormalOfRow.holds Try.pinned (OpenSpec.ofChange fnExactNormalOfWrong)

/- THE SECOND FORM. 'bulk': how many values and letters a reading holds, each counted each time it is reached (what is shared counts as often as it is met; a slice's spare places count too). A statement '..UptoSaid' is the law's where the arguments, and the package variables that the reading takes, are together of bulk at most 1048576: NARROWER than '..Said'. Prove '..Said' where nothing that the law and all that it calls make is longer than what came in: it says more and counts as full. Else prove '..UptoSaid'. A law counts once. -/
mutual
def uptoBulk {H : Type} : DataW H → Nat
  | .lit (.string bytes) => bytes.length + 1
  | .lit _ => 1
  | .nil => 1
  | .ptr d => uptoBulk d + 1
  | .slice elems spare => uptoBulkAll elems + uptoBulkAll spare + 1
  | .agg parts => uptoBulkAll parts + 1
  | .iface _ d => uptoBulk d + 1
  | .map entries => uptoBulkEntries entries + 1
  | .held _ => 1
def uptoBulkAll {H : Type} : List (DataW H) → Nat
  | [] => 0
  | d :: r => uptoBulk d + uptoBulkAll r
def uptoBulkEntries {H : Type} : List (Lit × DataW H) → Nat
  | [] => 0
  | x :: r => uptoBulkEntry x + uptoBulkEntries r
def uptoBulkEntry {H : Type} : Lit × DataW H → Nat
  | (.string bytes, d) => bytes.length + uptoBulk d + 1
  | (_, d) => uptoBulk d + 1
 end
def uptoSmall : (H : Type) → List (DataW H) → Bool := fun _ ds => decide (uptoBulkAll ds ≤ 1048576)
def OpenSpec.upto (s : _root_.Go.ChangeSpec) : _root_.Go.OpenSpec := { _root_.Go.OpenSpec.ofChange s with cond := some uptoSmall }

/-- 'laws.FnExactWidestLink', WHERE WHAT IT READS IS OF BULK AT MOST 1048576: true; the input reads as it did. -/
def fnExactWidestLinkUptoRow : OpenClaim := { program := "ytcdefpkpinfjfaa", sum := "c0a9eb282296d27493f6949936823b50cadf413bd76d641255d8fef53b1f29ea", func := "loop.example/g01254/laws.FnExactWidestLink", spec := "fnExactWidestLink", unfollowed := true, recurses := true, apart := false, narrowed := true }
def FnExactWidestLinkUptoSaid : Prop := fnExactWidestLinkUptoRow.holds Try.pinned (OpenSpec.upto fnExactWidestLinkSpec)

/-- 'laws.FnExactUsersOf', WHERE WHAT IT READS IS OF BULK AT MOST 1048576: true; the input reads as it did. -/
def fnExactUsersOfUptoRow : OpenClaim := { program := "ytcdefpkpinfjfaa", sum := "c0a9eb282296d27493f6949936823b50cadf413bd76d641255d8fef53b1f29ea", func := "loop.example/g01254/laws.FnExactUsersOf", spec := "fnExactUsersOf", unfollowed := true, recurses := true, apart := false, narrowed := true }
def FnExactUsersOfUptoSaid : Prop := fnExactUsersOfUptoRow.holds Try.pinned (OpenSpec.upto fnExactUsersOfSpec)

/-- 'laws.FnExactRecallOf', WHERE WHAT IT READS IS OF BULK AT MOST 1048576: true; the input reads as it did. -/
def fnExactRecallOfUptoRow : OpenClaim := { program := "ytcdefpkpinfjfaa", sum := "c0a9eb282296d27493f6949936823b50cadf413bd76d641255d8fef53b1f29ea", func := "loop.example/g01254/laws.FnExactRecallOf", spec := "fnExactRecallOf", unfollowed := true, recurses := true, apart := false, narrowed := true }
def FnExactRecallOfUptoSaid : Prop := fnExactRecallOfUptoRow.holds Try.pinned (OpenSpec.upto fnExactRecallOfSpec)

/-- 'laws.FnExactRenewStandard', WHERE WHAT IT READS IS OF BULK AT MOST 1048576: true; the input reads as it did. -/
def fnExactRenewStandardUptoRow : OpenClaim := { program := "ytcdefpkpinfjfaa", sum := "c0a9eb282296d27493f6949936823b50cadf413bd76d641255d8fef53b1f29ea", func := "loop.example/g01254/laws.FnExactRenewStandard", spec := "fnExactRenewStandard", unfollowed := true, recurses := true, apart := false, narrowed := true }
def FnExactRenewStandardUptoSaid : Prop := fnExactRenewStandardUptoRow.holds Try.pinned (OpenSpec.upto fnExactRenewStandardSpec)

/-- 'laws.FnExactSquaresOf', WHERE WHAT IT READS IS OF BULK AT MOST 1048576: true; the input reads as it did. -/
def fnExactSquaresOfUptoRow : OpenClaim := { program := "ytcdefpkpinfjfaa", sum := "c0a9eb282296d27493f6949936823b50cadf413bd76d641255d8fef53b1f29ea", func := "loop.example/g01254/laws.FnExactSquaresOf", spec := "fnExactSquaresOf", unfollowed := true, recurses := true, apart := false, narrowed := true }
def FnExactSquaresOfUptoSaid : Prop := fnExactSquaresOfUptoRow.holds Try.pinned (OpenSpec.upto fnExactSquaresOfSpec)

/-- 'laws.FnExactResidualsOf', WHERE WHAT IT READS IS OF BULK AT MOST 1048576: true; the input reads as it did. -/
def fnExactResidualsOfUptoRow : OpenClaim := { program := "ytcdefpkpinfjfaa", sum := "c0a9eb282296d27493f6949936823b50cadf413bd76d641255d8fef53b1f29ea", func := "loop.example/g01254/laws.FnExactResidualsOf", spec := "fnExactResidualsOf", unfollowed := true, recurses := true, apart := false, narrowed := true }
def FnExactResidualsOfUptoSaid : Prop := fnExactResidualsOfUptoRow.holds Try.pinned (OpenSpec.upto fnExactResidualsOfSpec)

/-- 'laws.FnExactSpanOn', WHERE WHAT IT READS IS OF BULK AT MOST 1048576: true; the input reads as it did. -/
def fnExactSpanOnUptoRow : OpenClaim := { program := "ytcdefpkpinfjfaa", sum := "c0a9eb282296d27493f6949936823b50cadf413bd76d641255d8fef53b1f29ea", func := "loop.example/g01254/laws.FnExactSpanOn", spec := "fnExactSpanOn", unfollowed := true, recurses := true, apart := false, narrowed := true }
def FnExactSpanOnUptoSaid : Prop := fnExactSpanOnUptoRow.holds Try.pinned (OpenSpec.upto fnExactSpanOnSpec)

/-- 'laws.FnExactWorstObs', WHERE WHAT IT READS IS OF BULK AT MOST 1048576: true; the input reads as it did. -/
def fnExactWorstObsUptoRow : OpenClaim := { program := "ytcdefpkpinfjfaa", sum := "c0a9eb282296d27493f6949936823b50cadf413bd76d641255d8fef53b1f29ea", func := "loop.example/g01254/laws.FnExactWorstObs", spec := "fnExactWorstObs", unfollowed := true, recurses := true, apart := false, narrowed := true }
def FnExactWorstObsUptoSaid : Prop := fnExactWorstObsUptoRow.holds Try.pinned (OpenSpec.upto fnExactWorstObsSpec)

/-- 'laws.FnHeads', WHERE WHAT IT READS IS OF BULK AT MOST 1048576: true; the input reads as it did. -/
def fnHeadsUptoRow : OpenClaim := { program := "ytcdefpkpinfjfaa", sum := "c0a9eb282296d27493f6949936823b50cadf413bd76d641255d8fef53b1f29ea", func := "loop.example/g01254/laws.FnHeads", spec := "fnHeads", unfollowed := true, recurses := true, apart := false, narrowed := true }
def FnHeadsUptoSaid : Prop := fnHeadsUptoRow.holds Try.pinned (OpenSpec.upto fnHeadsSpec)

/-- 'laws.FnExactPairTable', WHERE WHAT IT READS IS OF BULK AT MOST 1048576: true; the input reads as it did. -/
def fnExactPairTableUptoRow : OpenClaim := { program := "ytcdefpkpinfjfaa", sum := "c0a9eb282296d27493f6949936823b50cadf413bd76d641255d8fef53b1f29ea", func := "loop.example/g01254/laws.FnExactPairTable", spec := "fnExactPairTable", unfollowed := true, recurses := true, apart := false, narrowed := true }
def FnExactPairTableUptoSaid : Prop := fnExactPairTableUptoRow.holds Try.pinned (OpenSpec.upto fnExactPairTableSpec)

/-- 'laws.FnExactNormalOf', WHERE WHAT IT READS IS OF BULK AT MOST 1048576: true; the input reads as it did. -/
def fnExactNormalOfUptoRow : OpenClaim := { program := "ytcdefpkpinfjfaa", sum := "c0a9eb282296d27493f6949936823b50cadf413bd76d641255d8fef53b1f29ea", func := "loop.example/g01254/laws.FnExactNormalOf", spec := "fnExactNormalOf", apart := false, narrowed := true }
def FnExactNormalOfUptoSaid : Prop := fnExactNormalOfUptoRow.holds Try.pinned (OpenSpec.upto fnExactNormalOfSpec)

end Rows
end Go.Proofs.Ytcdefpkpinfjfaa
