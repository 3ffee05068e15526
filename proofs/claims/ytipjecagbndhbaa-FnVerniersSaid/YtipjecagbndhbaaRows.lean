/-
  No cell of these rows narrows 'for every input' (looked for: loops, veiled, ifaces, maps, wideKeys, modest, calm, conditions, laid).
  DERIVED. THE GIVEN ROWS OF THIS SEAT. 11 by the template 'for every input the law returns true; each argument reads behind the call as it read before'; 0 by the template 'total and deterministic' (their statements: YtipjecagbndhbaaTotals.lean).
  GIVEN WITH THE SEED: the statements are not yours to turn. If you find one false, say at which input.
  Laid BY PROGRAM, IN A SANDBOX (cutbox-rows.mjs): the forced cells as the released guide's own fill.sh prints them over the translation ebd3938fb4574b33… (all of the seat's roots in one cut). By AI agents, Wed Nov 11 2026. No macro, syntax, notation, axiom, sorry.
-/
import Derived.Test.YtipjecagbndhbaaChecked
import GoSem.Claim
import GoSem.ClaimJoined
import GoSem.ClaimMapViews
import Derived.JoinedTies
import Derived.KernelRfl
namespace Go.Proofs.Ytipjecagbndhbaa
/- THE CELL 'sum', in the pinned program and in every row, IS THE sha256 OF THE DUMP (.gsa) THAT YtipjecagbndhbaaProg.lean LOADS. Nothing in Lean hashes anything: it is a label: what it is worth is what the hold of that sum in a sandbox is worth. -/
noncomputable def Try.pinned : Pinned := { name := "ytipjecagbndhbaa", sum := "ebd3938fb4574b3318e9f4b698fe14ebd4cbf9bee58a7d14cdf2a5bc6f7b022d", checked := Try.checked }
namespace Rows
def none {H : Type} : Left H := { results := [], args := [] }

/-- 'laws.FnSolved': WHATEVER THE INPUT: true; the input reads as it did. -/
def fnSolvedSpec : ChangeSpec := { name := "fnSolved", fn := fun _ => fun
  | [d1, d2] => { results := [.lit (.bool true)], args := [d1, d2] }
  | _ => none }
def fnSolvedRow : OpenClaim := { program := "ytipjecagbndhbaa", sum := "ebd3938fb4574b3318e9f4b698fe14ebd4cbf9bee58a7d14cdf2a5bc6f7b022d", func := "loop.example/g01254/laws.FnSolved", spec := "fnSolved", unfollowed := true, recurses := true, apart := false }
def FnSolvedSaid : Prop := fnSolvedRow.holds Try.pinned (OpenSpec.ofChange fnSolvedSpec)

/-- ITS FALSE NEIGHBOUR: 'it returns false'. Refute it at one input. -/
def fnSolvedWrong : ChangeSpec := { name := "fnSolved", fn := fun _ => fun
  | [d1, d2] => { results := [.lit (.bool false)], args := [d1, d2] }
  | _ => none }
def FnSolvedWrongFalsely : Prop := fnSolvedRow.holds Try.pinned (OpenSpec.ofChange fnSolvedWrong)

/-- 'laws.FnRounds': WHATEVER THE INPUT: true; the input reads as it did. -/
def fnRoundsSpec : ChangeSpec := { name := "fnRounds", fn := fun _ => fun
  | [d1, d2] => { results := [.lit (.bool true)], args := [d1, d2] }
  | _ => none }
def fnRoundsRow : OpenClaim := { program := "ytipjecagbndhbaa", sum := "ebd3938fb4574b3318e9f4b698fe14ebd4cbf9bee58a7d14cdf2a5bc6f7b022d", func := "loop.example/g01254/laws.FnRounds", spec := "fnRounds", unfollowed := true, recurses := true, apart := false }
def FnRoundsSaid : Prop := fnRoundsRow.holds Try.pinned (OpenSpec.ofChange fnRoundsSpec)

/-- ITS FALSE NEIGHBOUR: 'it returns false'. Refute it at one input. -/
def fnRoundsWrong : ChangeSpec := { name := "fnRounds", fn := fun _ => fun
  | [d1, d2] => { results := [.lit (.bool false)], args := [d1, d2] }
  | _ => none }
def FnRoundsWrongFalsely : Prop := fnRoundsRow.holds Try.pinned (OpenSpec.ofChange fnRoundsWrong)

/-- 'laws.FnMarks': WHATEVER THE INPUT: true; the input reads as it did. -/
def fnMarksSpec : ChangeSpec := { name := "fnMarks", fn := fun _ => fun
  | [d] => { results := [.lit (.bool true)], args := [d] }
  | _ => none }
def fnMarksRow : OpenClaim := { program := "ytipjecagbndhbaa", sum := "ebd3938fb4574b3318e9f4b698fe14ebd4cbf9bee58a7d14cdf2a5bc6f7b022d", func := "loop.example/g01254/laws.FnMarks", spec := "fnMarks", unfollowed := true, recurses := true, apart := false }
def FnMarksSaid : Prop := fnMarksRow.holds Try.pinned (OpenSpec.ofChange fnMarksSpec)

/-- ITS FALSE NEIGHBOUR: 'it returns false'. Refute it at one input. -/
def fnMarksWrong : ChangeSpec := { name := "fnMarks", fn := fun _ => fun
  | [d] => { results := [.lit (.bool false)], args := [d] }
  | _ => none }
def FnMarksWrongFalsely : Prop := fnMarksRow.holds Try.pinned (OpenSpec.ofChange fnMarksWrong)

/-- 'laws.FnDisks': WHATEVER THE INPUT: true; the input reads as it did. -/
def fnDisksSpec : ChangeSpec := { name := "fnDisks", fn := fun _ => fun
  | [d1, d2] => { results := [.lit (.bool true)], args := [d1, d2] }
  | _ => none }
def fnDisksRow : OpenClaim := { program := "ytipjecagbndhbaa", sum := "ebd3938fb4574b3318e9f4b698fe14ebd4cbf9bee58a7d14cdf2a5bc6f7b022d", func := "loop.example/g01254/laws.FnDisks", spec := "fnDisks", unfollowed := true, recurses := true, apart := false }
def FnDisksSaid : Prop := fnDisksRow.holds Try.pinned (OpenSpec.ofChange fnDisksSpec)

/-- ITS FALSE NEIGHBOUR: 'it returns false'. Refute it at one input. -/
def fnDisksWrong : ChangeSpec := { name := "fnDisks", fn := fun _ => fun
  | [d1, d2] => { results := [.lit (.bool false)], args := [d1, d2] }
  | _ => none }
def FnDisksWrongFalsely : Prop := fnDisksRow.holds Try.pinned (OpenSpec.ofChange fnDisksWrong)

/-- 'laws.FnRepeats': WHATEVER THE INPUT: true; the input reads as it did. -/
def fnRepeatsSpec : ChangeSpec := { name := "fnRepeats", fn := fun _ => fun
  | [d1, d2] => { results := [.lit (.bool true)], args := [d1, d2] }
  | _ => none }
def fnRepeatsRow : OpenClaim := { program := "ytipjecagbndhbaa", sum := "ebd3938fb4574b3318e9f4b698fe14ebd4cbf9bee58a7d14cdf2a5bc6f7b022d", func := "loop.example/g01254/laws.FnRepeats", spec := "fnRepeats", unfollowed := true, recurses := true, apart := false }
def FnRepeatsSaid : Prop := fnRepeatsRow.holds Try.pinned (OpenSpec.ofChange fnRepeatsSpec)

/-- ITS FALSE NEIGHBOUR: 'it returns false'. Refute it at one input. -/
def fnRepeatsWrong : ChangeSpec := { name := "fnRepeats", fn := fun _ => fun
  | [d1, d2] => { results := [.lit (.bool false)], args := [d1, d2] }
  | _ => none }
def FnRepeatsWrongFalsely : Prop := fnRepeatsRow.holds Try.pinned (OpenSpec.ofChange fnRepeatsWrong)

/-- 'laws.FnHeads': WHATEVER THE INPUT: true; the input reads as it did. -/
def fnHeadsSpec : ChangeSpec := { name := "fnHeads", fn := fun _ => fun
  | [d1, d2] => { results := [.lit (.bool true)], args := [d1, d2] }
  | _ => none }
def fnHeadsRow : OpenClaim := { program := "ytipjecagbndhbaa", sum := "ebd3938fb4574b3318e9f4b698fe14ebd4cbf9bee58a7d14cdf2a5bc6f7b022d", func := "loop.example/g01254/laws.FnHeads", spec := "fnHeads", unfollowed := true, recurses := true, apart := false }
def FnHeadsSaid : Prop := fnHeadsRow.holds Try.pinned (OpenSpec.ofChange fnHeadsSpec)

/-- ITS FALSE NEIGHBOUR: 'it returns false'. Refute it at one input. -/
def fnHeadsWrong : ChangeSpec := { name := "fnHeads", fn := fun _ => fun
  | [d1, d2] => { results := [.lit (.bool false)], args := [d1, d2] }
  | _ => none }
def FnHeadsWrongFalsely : Prop := fnHeadsRow.holds Try.pinned (OpenSpec.ofChange fnHeadsWrong)

/-- 'laws.FnShared': WHATEVER THE INPUT: true; the input reads as it did. -/
def fnSharedSpec : ChangeSpec := { name := "fnShared", fn := fun _ => fun
  | [d1, d2] => { results := [.lit (.bool true)], args := [d1, d2] }
  | _ => none }
def fnSharedRow : OpenClaim := { program := "ytipjecagbndhbaa", sum := "ebd3938fb4574b3318e9f4b698fe14ebd4cbf9bee58a7d14cdf2a5bc6f7b022d", func := "loop.example/g01254/laws.FnShared", spec := "fnShared", unfollowed := true, recurses := true, apart := false }
def FnSharedSaid : Prop := fnSharedRow.holds Try.pinned (OpenSpec.ofChange fnSharedSpec)

/-- ITS FALSE NEIGHBOUR: 'it returns false'. Refute it at one input. -/
def fnSharedWrong : ChangeSpec := { name := "fnShared", fn := fun _ => fun
  | [d1, d2] => { results := [.lit (.bool false)], args := [d1, d2] }
  | _ => none }
def FnSharedWrongFalsely : Prop := fnSharedRow.holds Try.pinned (OpenSpec.ofChange fnSharedWrong)

/-- 'laws.FnVerniers': WHATEVER THE INPUT: true; the input reads as it did. -/
def fnVerniersSpec : ChangeSpec := { name := "fnVerniers", fn := fun _ => fun
  | [d1, d2] => { results := [.lit (.bool true)], args := [d1, d2] }
  | _ => none }
def fnVerniersRow : OpenClaim := { program := "ytipjecagbndhbaa", sum := "ebd3938fb4574b3318e9f4b698fe14ebd4cbf9bee58a7d14cdf2a5bc6f7b022d", func := "loop.example/g01254/laws.FnVerniers", spec := "fnVerniers", unfollowed := true, recurses := true, apart := false }
def FnVerniersSaid : Prop := fnVerniersRow.holds Try.pinned (OpenSpec.ofChange fnVerniersSpec)

/-- ITS FALSE NEIGHBOUR: 'it returns false'. Refute it at one input. -/
def fnVerniersWrong : ChangeSpec := { name := "fnVerniers", fn := fun _ => fun
  | [d1, d2] => { results := [.lit (.bool false)], args := [d1, d2] }
  | _ => none }
def FnVerniersWrongFalsely : Prop := fnVerniersRow.holds Try.pinned (OpenSpec.ofChange fnVerniersWrong)

/-- 'laws.FnExactPairTable': WHATEVER THE INPUT: true; the input reads as it did. -/
def fnExactPairTableSpec : ChangeSpec := { name := "fnExactPairTable", fn := fun _ => fun
  | [d] => { results := [.lit (.bool true)], args := [d] }
  | _ => none }
def fnExactPairTableRow : OpenClaim := { program := "ytipjecagbndhbaa", sum := "ebd3938fb4574b3318e9f4b698fe14ebd4cbf9bee58a7d14cdf2a5bc6f7b022d", func := "loop.example/g01254/laws.FnExactPairTable", spec := "fnExactPairTable", unfollowed := true, recurses := true, apart := false }
def FnExactPairTableSaid : Prop := fnExactPairTableRow.holds Try.pinned (OpenSpec.ofChange fnExactPairTableSpec)

/-- ITS FALSE NEIGHBOUR: 'it returns false'. Refute it at one input. -/
def fnExactPairTableWrong : ChangeSpec := { name := "fnExactPairTable", fn := fun _ => fun
  | [d] => { results := [.lit (.bool false)], args := [d] }
  | _ => none }
def FnExactPairTableWrongFalsely : Prop := fnExactPairTableRow.holds Try.pinned (OpenSpec.ofChange fnExactPairTableWrong)

/-- 'laws.FnExactNormalOf': WHATEVER THE INPUT: true; the input reads as it did. -/
def fnExactNormalOfSpec : ChangeSpec := { name := "fnExactNormalOf", fn := fun _ => fun
  | [d] => { results := [.lit (.bool true)], args := [d] }
  | _ => none }
def fnExactNormalOfRow : OpenClaim := { program := "ytipjecagbndhbaa", sum := "ebd3938fb4574b3318e9f4b698fe14ebd4cbf9bee58a7d14cdf2a5bc6f7b022d", func := "loop.example/g01254/laws.FnExactNormalOf", spec := "fnExactNormalOf", apart := false }
def FnExactNormalOfSaid : Prop := fnExactNormalOfRow.holds Try.pinned (OpenSpec.ofChange fnExactNormalOfSpec)

/-- ITS FALSE NEIGHBOUR: 'it returns false'. Refute it at one input. -/
def fnExactNormalOfWrong : ChangeSpec := { name := "fnExactNormalOf", fn := fun _ => fun
  | [d] => { results := [.lit (.bool false)], args := [d] }
  | _ => none }
def FnExactNormalOfWrongFalsely : Prop := fnExactNormalOfRow.holds Try.pinned (OpenSpec.ofChange fnExactNormalOfWrong)

/-- 'laws.FnExactCorrectionsOf': WHATEVER THE INPUT: true; the input reads as it did. -/
def fnExactCorrectionsOfSpec : ChangeSpec := { name := "fnExactCorrectionsOf", fn := fun _ => fun
  | [d] => { results := [.lit (.bool true)], args := [d] }
  | _ => none }
def fnExactCorrectionsOfRow : OpenClaim := { program := "ytipjecagbndhbaa", sum := "ebd3938fb4574b3318e9f4b698fe14ebd4cbf9bee58a7d14cdf2a5bc6f7b022d", func := "loop.example/g01254/laws.FnExactCorrectionsOf", spec := "fnExactCorrectionsOf", unfollowed := true, recurses := true, apart := false }
def FnExactCorrectionsOfSaid : Prop := fnExactCorrectionsOfRow.holds Try.pinned (OpenSpec.ofChange fnExactCorrectionsOfSpec)

/-- ITS FALSE NEIGHBOUR: 'it returns false'. Refute it at one input. -/
def fnExactCorrectionsOfWrong : ChangeSpec := { name := "fnExactCorrectionsOf", fn := fun _ => fun
  | [d] => { results := [.lit (.bool false)], args := [d] }
  | _ => none }
def FnExactCorrectionsOfWrongFalsely : Prop := fnExactCorrectionsOfRow.holds Try.pinned (OpenSpec.ofChange fnExactCorrectionsOfWrong)

/- THE SECOND FORM. 'bulk': how many values and letters a reading holds, each counted each time it is reached (what is shared counts as often as it is met; a slice's spare places count too). A statement '..UptoSaid' is the law's where the arguments, and the package variables that the reading takes, are together of bulk at most 1048576: NARROWER than '..Said'. Prove '..Said' where nothing that the law and all that it calls make is longer than what came in: it says more and counts as full. Else prove '..UptoSaid'. A law counts once. -/
mutual
def uptoBulk {H : Type} : DataW H → Nat
  | .lit (.string bytes) => bytes.length + 1
  | .lit _ => 1
  | .nil => 1
  | .ptr d => uptoBulk d + 1
  | .slice elems spare => uptoBulkAll elems + uptoBulkAll spare + 1
  | .agg parts => uptoBulkAll parts + 1
  | .iface _ d => uptoBulk d + 1
  | .map entries => uptoBulkEntries entries + 1
  | .held _ => 1
def uptoBulkAll {H : Type} : List (DataW H) → Nat
  | [] => 0
  | d :: r => uptoBulk d + uptoBulkAll r
def uptoBulkEntries {H : Type} : List (Lit × DataW H) → Nat
  | [] => 0
  | x :: r => uptoBulkEntry x + uptoBulkEntries r
def uptoBulkEntry {H : Type} : Lit × DataW H → Nat
  | (.string bytes, d) => bytes.length + uptoBulk d + 1
  | (_, d) => uptoBulk d + 1
 end
def uptoSmall : (H : Type) → List (DataW H) → Bool := fun _ ds => decide (uptoBulkAll ds ≤ 1048576)
def OpenSpec.upto (s : _root_.Go.ChangeSpec) : _root_.Go.OpenSpec := { _root_.Go.OpenSpec.ofChange s with cond := some uptoSmall }

/-- 'laws.FnSolved', WHERE WHAT IT READS IS OF BULK AT MOST 1048576: true; the input reads as it did. -/
def fnSolvedUptoRow : OpenClaim := { program := "ytipjecagbndhbaa", sum := "ebd3938fb4574b3318e9f4b698fe14ebd4cbf9bee58a7d14cdf2a5bc6f7b022d", func := "loop.example/g01254/laws.FnSolved", spec := "fnSolved", unfollowed := true, recurses := true, apart := false, narrowed := true }
def FnSolvedUptoSaid : Prop := fnSolvedUptoRow.holds Try.pinned (OpenSpec.upto fnSolvedSpec)

/-- 'laws.FnRounds', WHERE WHAT IT READS IS OF BULK AT MOST 1048576: true; the input reads as it did. -/
def fnRoundsUptoRow : OpenClaim := { program := "ytipjecagbndhbaa", sum := "ebd3938fb4574b3318e9f4b698fe14ebd4cbf9bee58a7d14cdf2a5bc6f7b022d", func := "loop.example/g01254/laws.FnRounds", spec := "fnRounds", unfollowed := true, recurses := true, apart := false, narrowed := true }
def FnRoundsUptoSaid : Prop := fnRoundsUptoRow.holds Try.pinned (OpenSpec.upto fnRoundsSpec)

/-- 'laws.FnMarks', WHERE WHAT IT READS IS OF BULK AT MOST 1048576: true; the input reads as it did. -/
def fnMarksUptoRow : OpenClaim := { program := "ytipjecagbndhbaa", sum := "ebd3938fb4574b3318e9f4b698fe14ebd4cbf9bee58a7d14cdf2a5bc6f7b022d", func := "loop.example/g01254/laws.FnMarks", spec := "fnMarks", unfollowed := true, recurses := true, apart := false, narrowed := true }
def FnMarksUptoSaid : Prop := fnMarksUptoRow.holds Try.pinned (OpenSpec.upto fnMarksSpec)

/-- 'laws.FnDisks', WHERE WHAT IT READS IS OF BULK AT MOST 1048576: true; the input reads as it did. -/
def fnDisksUptoRow : OpenClaim := { program := "ytipjecagbndhbaa", sum := "ebd3938fb4574b3318e9f4b698fe14ebd4cbf9bee58a7d14cdf2a5bc6f7b022d", func := "loop.example/g01254/laws.FnDisks", spec := "fnDisks", unfollowed := true, recurses := true, apart := false, narrowed := true }
def FnDisksUptoSaid : Prop := fnDisksUptoRow.holds Try.pinned (OpenSpec.upto fnDisksSpec)

/-- 'laws.FnRepeats', WHERE WHAT IT READS IS OF BULK AT MOST 1048576: true; the input reads as it did. -/
def fnRepeatsUptoRow : OpenClaim := { program := "ytipjecagbndhbaa", sum := "ebd3938fb4574b3318e9f4b698fe14ebd4cbf9bee58a7d14cdf2a5bc6f7b022d", func := "loop.example/g01254/laws.FnRepeats", spec := "fnRepeats", unfollowed := true, recurses := true, apart := false, narrowed := true }
def FnRepeatsUptoSaid : Prop := fnRepeatsUptoRow.holds Try.pinned (OpenSpec.upto fnRepeatsSpec)

/-- 'laws.FnHeads', WHERE WHAT IT READS IS OF BULK AT MOST 1048576: true; the input reads as it did. -/
def fnHeadsUptoRow : OpenClaim := { program := "ytipjecagbndhbaa", sum := "ebd3938fb4574b3318e9f4b698fe14ebd4cbf9bee58a7d14cdf2a5bc6f7b022d", func := "loop.example/g01254/laws.FnHeads", spec := "fnHeads", unfollowed := true, recurses := true, apart := false, narrowed := true }
def FnHeadsUptoSaid : Prop := fnHeadsUptoRow.holds Try.pinned (OpenSpec.upto fnHeadsSpec)

/-- 'laws.FnShared', WHERE WHAT IT READS IS OF BULK AT MOST 1048576: true; the input reads as it did. -/
def fnSharedUptoRow : OpenClaim := { program := "ytipjecagbndhbaa", sum := "ebd3938fb4574b3318e9f4b698fe14ebd4cbf9bee58a7d14cdf2a5bc6f7b022d", func := "loop.example/g01254/laws.FnShared", spec := "fnShared", unfollowed := true, recurses := true, apart := false, narrowed := true }
def FnSharedUptoSaid : Prop := fnSharedUptoRow.holds Try.pinned (OpenSpec.upto fnSharedSpec)

/-- 'laws.FnVerniers', WHERE WHAT IT READS IS OF BULK AT MOST 1048576: true; the input reads as it did. -/
def fnVerniersUptoRow : OpenClaim := { program := "ytipjecagbndhbaa", sum := "ebd3938fb4574b3318e9f4b698fe14ebd4cbf9bee58a7d14cdf2a5bc6f7b022d", func := "loop.example/g01254/laws.FnVerniers", spec := "fnVerniers", unfollowed := true, recurses := true, apart := false, narrowed := true }
def FnVerniersUptoSaid : Prop := fnVerniersUptoRow.holds Try.pinned (OpenSpec.upto fnVerniersSpec)

/-- 'laws.FnExactPairTable', WHERE WHAT IT READS IS OF BULK AT MOST 1048576: true; the input reads as it did. -/
def fnExactPairTableUptoRow : OpenClaim := { program := "ytipjecagbndhbaa", sum := "ebd3938fb4574b3318e9f4b698fe14ebd4cbf9bee58a7d14cdf2a5bc6f7b022d", func := "loop.example/g01254/laws.FnExactPairTable", spec := "fnExactPairTable", unfollowed := true, recurses := true, apart := false, narrowed := true }
def FnExactPairTableUptoSaid : Prop := fnExactPairTableUptoRow.holds Try.pinned (OpenSpec.upto fnExactPairTableSpec)

/-- 'laws.FnExactNormalOf', WHERE WHAT IT READS IS OF BULK AT MOST 1048576: true; the input reads as it did. -/
def fnExactNormalOfUptoRow : OpenClaim := { program := "ytipjecagbndhbaa", sum := "ebd3938fb4574b3318e9f4b698fe14ebd4cbf9bee58a7d14cdf2a5bc6f7b022d", func := "loop.example/g01254/laws.FnExactNormalOf", spec := "fnExactNormalOf", apart := false, narrowed := true }
def FnExactNormalOfUptoSaid : Prop := fnExactNormalOfUptoRow.holds Try.pinned (OpenSpec.upto fnExactNormalOfSpec)

/-- 'laws.FnExactCorrectionsOf', WHERE WHAT IT READS IS OF BULK AT MOST 1048576: true; the input reads as it did. -/
def fnExactCorrectionsOfUptoRow : OpenClaim := { program := "ytipjecagbndhbaa", sum := "ebd3938fb4574b3318e9f4b698fe14ebd4cbf9bee58a7d14cdf2a5bc6f7b022d", func := "loop.example/g01254/laws.FnExactCorrectionsOf", spec := "fnExactCorrectionsOf", unfollowed := true, recurses := true, apart := false, narrowed := true }
def FnExactCorrectionsOfUptoSaid : Prop := fnExactCorrectionsOfUptoRow.holds Try.pinned (OpenSpec.upto fnExactCorrectionsOfSpec)

end Rows
end Go.Proofs.Ytipjecagbndhbaa
