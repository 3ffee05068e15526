/-
  No cell of these rows narrows 'for every input' (looked for: loops, veiled, ifaces, maps, wideKeys, modest, calm, conditions, laid).
  DERIVED. THE GIVEN ROWS OF THIS SEAT. 9 by the template 'for every input the law returns true; each argument reads behind the call as it read before'; 0 by the template 'total and deterministic' (their statements: YtnjdkojjlfdjhaaTotals.lean).
  GIVEN WITH THE SEED: the statements are not yours to turn. If you find one false, say at which input.
  Laid BY PROGRAM, IN A SANDBOX (cutbox-rows.mjs): the forced cells as the released guide's own fill.sh prints them over the translation 0672a6aa7d889e56… (all of the seat's roots in one cut). By AI agents, Wed Nov 11 2026. No macro, syntax, notation, axiom, sorry.
-/
import Derived.Test.YtnjdkojjlfdjhaaChecked
import GoSem.Claim
import GoSem.ClaimJoined
import GoSem.ClaimMapViews
import Derived.JoinedTies
import Derived.KernelRfl
namespace Go.Proofs.Ytnjdkojjlfdjhaa
/- THE CELL 'sum', in the pinned program and in every row, IS THE sha256 OF THE DUMP (.gsa) THAT YtnjdkojjlfdjhaaProg.lean LOADS. Nothing in Lean hashes anything: it is a label: what it is worth is what the hold of that sum in a sandbox is worth. -/
noncomputable def Try.pinned : Pinned := { name := "ytnjdkojjlfdjhaa", sum := "0672a6aa7d889e56015ef9fae095f4b6d062990a9f4fa9468ad28112151f72d1", checked := Try.checked }
namespace Rows
def none {H : Type} : Left H := { results := [], args := [] }

/-- 'laws.FnExactValidChain': WHATEVER THE INPUT: true; the input reads as it did. -/
def fnExactValidChainSpec : ChangeSpec := { name := "fnExactValidChain", fn := fun _ => fun
  | [d] => { results := [.lit (.bool true)], args := [d] }
  | _ => none }
def fnExactValidChainRow : OpenClaim := { program := "ytnjdkojjlfdjhaa", sum := "0672a6aa7d889e56015ef9fae095f4b6d062990a9f4fa9468ad28112151f72d1", func := "loop.example/g01254/laws.FnExactValidChain", spec := "fnExactValidChain", unfollowed := true, recurses := true, apart := false }
def FnExactValidChainSaid : Prop := fnExactValidChainRow.holds Try.pinned (OpenSpec.ofChange fnExactValidChainSpec)

/-- ITS FALSE NEIGHBOUR: 'it returns false'. Refute it at one input. -/
def fnExactValidChainWrong : ChangeSpec := { name := "fnExactValidChain", fn := fun _ => fun
  | [d] => { results := [.lit (.bool false)], args := [d] }
  | _ => none }
def FnExactValidChainWrongFalsely : Prop := fnExactValidChainRow.holds Try.pinned (OpenSpec.ofChange fnExactValidChainWrong)

/-- 'laws.FnExactRingTable': WHATEVER THE INPUT: true; the input reads as it did. -/
def fnExactRingTableSpec : ChangeSpec := { name := "fnExactRingTable", fn := fun _ => fun
  | [d1, d2] => { results := [.lit (.bool true)], args := [d1, d2] }
  | _ => none }
def fnExactRingTableRow : OpenClaim := { program := "ytnjdkojjlfdjhaa", sum := "0672a6aa7d889e56015ef9fae095f4b6d062990a9f4fa9468ad28112151f72d1", func := "loop.example/g01254/laws.FnExactRingTable", spec := "fnExactRingTable", unfollowed := true, recurses := true, apart := false }
def FnExactRingTableSaid : Prop := fnExactRingTableRow.holds Try.pinned (OpenSpec.ofChange fnExactRingTableSpec)

/-- ITS FALSE NEIGHBOUR: 'it returns false'. Refute it at one input. -/
def fnExactRingTableWrong : ChangeSpec := { name := "fnExactRingTable", fn := fun _ => fun
  | [d1, d2] => { results := [.lit (.bool false)], args := [d1, d2] }
  | _ => none }
def FnExactRingTableWrongFalsely : Prop := fnExactRingTableRow.holds Try.pinned (OpenSpec.ofChange fnExactRingTableWrong)

/-- 'laws.FnExactShareEvenly': WHATEVER THE INPUT: true; the input reads as it did. -/
def fnExactShareEvenlySpec : ChangeSpec := { name := "fnExactShareEvenly", fn := fun _ => fun
  | [d1, d2] => { results := [.lit (.bool true)], args := [d1, d2] }
  | _ => none }
def fnExactShareEvenlyRow : OpenClaim := { program := "ytnjdkojjlfdjhaa", sum := "0672a6aa7d889e56015ef9fae095f4b6d062990a9f4fa9468ad28112151f72d1", func := "loop.example/g01254/laws.FnExactShareEvenly", spec := "fnExactShareEvenly", unfollowed := true, recurses := true, apart := false }
def FnExactShareEvenlySaid : Prop := fnExactShareEvenlyRow.holds Try.pinned (OpenSpec.ofChange fnExactShareEvenlySpec)

/-- ITS FALSE NEIGHBOUR: 'it returns false'. Refute it at one input. -/
def fnExactShareEvenlyWrong : ChangeSpec := { name := "fnExactShareEvenly", fn := fun _ => fun
  | [d1, d2] => { results := [.lit (.bool false)], args := [d1, d2] }
  | _ => none }
def FnExactShareEvenlyWrongFalsely : Prop := fnExactShareEvenlyRow.holds Try.pinned (OpenSpec.ofChange fnExactShareEvenlyWrong)

/-- 'laws.FnRounds': WHATEVER THE INPUT: true; the input reads as it did. -/
def fnRoundsSpec : ChangeSpec := { name := "fnRounds", fn := fun _ => fun
  | [d1, d2] => { results := [.lit (.bool true)], args := [d1, d2] }
  | _ => none }
def fnRoundsRow : OpenClaim := { program := "ytnjdkojjlfdjhaa", sum := "0672a6aa7d889e56015ef9fae095f4b6d062990a9f4fa9468ad28112151f72d1", func := "loop.example/g01254/laws.FnRounds", spec := "fnRounds", unfollowed := true, recurses := true, apart := false }
def FnRoundsSaid : Prop := fnRoundsRow.holds Try.pinned (OpenSpec.ofChange fnRoundsSpec)

/-- ITS FALSE NEIGHBOUR: 'it returns false'. Refute it at one input. -/
def fnRoundsWrong : ChangeSpec := { name := "fnRounds", fn := fun _ => fun
  | [d1, d2] => { results := [.lit (.bool false)], args := [d1, d2] }
  | _ => none }
def FnRoundsWrongFalsely : Prop := fnRoundsRow.holds Try.pinned (OpenSpec.ofChange fnRoundsWrong)

/-- 'laws.FnExactFindStandard': WHATEVER THE INPUT: true; the input reads as it did. -/
def fnExactFindStandardSpec : ChangeSpec := { name := "fnExactFindStandard", fn := fun _ => fun
  | [d1, d2] => { results := [.lit (.bool true)], args := [d1, d2] }
  | _ => none }
def fnExactFindStandardRow : OpenClaim := { program := "ytnjdkojjlfdjhaa", sum := "0672a6aa7d889e56015ef9fae095f4b6d062990a9f4fa9468ad28112151f72d1", func := "loop.example/g01254/laws.FnExactFindStandard", spec := "fnExactFindStandard", unfollowed := true, recurses := true, apart := false }
def FnExactFindStandardSaid : Prop := fnExactFindStandardRow.holds Try.pinned (OpenSpec.ofChange fnExactFindStandardSpec)

/-- ITS FALSE NEIGHBOUR: 'it returns false'. Refute it at one input. -/
def fnExactFindStandardWrong : ChangeSpec := { name := "fnExactFindStandard", fn := fun _ => fun
  | [d1, d2] => { results := [.lit (.bool false)], args := [d1, d2] }
  | _ => none }
def FnExactFindStandardWrongFalsely : Prop := fnExactFindStandardRow.holds Try.pinned (OpenSpec.ofChange fnExactFindStandardWrong)

/-- 'laws.FnExactWorstHead': WHATEVER THE INPUT: true; the input reads as it did. -/
def fnExactWorstHeadSpec : ChangeSpec := { name := "fnExactWorstHead", fn := fun _ => fun
  | [d1, d2, d3] => { results := [.lit (.bool true)], args := [d1, d2, d3] }
  | _ => none }
def fnExactWorstHeadRow : OpenClaim := { program := "ytnjdkojjlfdjhaa", sum := "0672a6aa7d889e56015ef9fae095f4b6d062990a9f4fa9468ad28112151f72d1", func := "loop.example/g01254/laws.FnExactWorstHead", spec := "fnExactWorstHead", unfollowed := true, recurses := true, apart := false }
def FnExactWorstHeadSaid : Prop := fnExactWorstHeadRow.holds Try.pinned (OpenSpec.ofChange fnExactWorstHeadSpec)

/-- ITS FALSE NEIGHBOUR: 'it returns false'. Refute it at one input. -/
def fnExactWorstHeadWrong : ChangeSpec := { name := "fnExactWorstHead", fn := fun _ => fun
  | [d1, d2, d3] => { results := [.lit (.bool false)], args := [d1, d2, d3] }
  | _ => none }
def FnExactWorstHeadWrongFalsely : Prop := fnExactWorstHeadRow.holds Try.pinned (OpenSpec.ofChange fnExactWorstHeadWrong)

/-- 'laws.FnExactIsGood': WHATEVER THE INPUT: true; the input reads as it did. -/
def fnExactIsGoodSpec : ChangeSpec := { name := "fnExactIsGood", fn := fun _ => fun
  | [d1, d2, d3] => { results := [.lit (.bool true)], args := [d1, d2, d3] }
  | _ => none }
def fnExactIsGoodRow : OpenClaim := { program := "ytnjdkojjlfdjhaa", sum := "0672a6aa7d889e56015ef9fae095f4b6d062990a9f4fa9468ad28112151f72d1", func := "loop.example/g01254/laws.FnExactIsGood", spec := "fnExactIsGood", unfollowed := true, recurses := true, apart := false }
def FnExactIsGoodSaid : Prop := fnExactIsGoodRow.holds Try.pinned (OpenSpec.ofChange fnExactIsGoodSpec)

/-- ITS FALSE NEIGHBOUR: 'it returns false'. Refute it at one input. -/
def fnExactIsGoodWrong : ChangeSpec := { name := "fnExactIsGood", fn := fun _ => fun
  | [d1, d2, d3] => { results := [.lit (.bool false)], args := [d1, d2, d3] }
  | _ => none }
def FnExactIsGoodWrongFalsely : Prop := fnExactIsGoodRow.holds Try.pinned (OpenSpec.ofChange fnExactIsGoodWrong)

/-- 'laws.FnExactLastDay': WHATEVER THE INPUT: true; the input reads as it did. -/
def fnExactLastDaySpec : ChangeSpec := { name := "fnExactLastDay", fn := fun _ => fun
  | [d1, d2] => { results := [.lit (.bool true)], args := [d1, d2] }
  | _ => none }
def fnExactLastDayRow : OpenClaim := { program := "ytnjdkojjlfdjhaa", sum := "0672a6aa7d889e56015ef9fae095f4b6d062990a9f4fa9468ad28112151f72d1", func := "loop.example/g01254/laws.FnExactLastDay", spec := "fnExactLastDay", unfollowed := true, recurses := true, apart := false }
def FnExactLastDaySaid : Prop := fnExactLastDayRow.holds Try.pinned (OpenSpec.ofChange fnExactLastDaySpec)

/-- ITS FALSE NEIGHBOUR: 'it returns false'. Refute it at one input. -/
def fnExactLastDayWrong : ChangeSpec := { name := "fnExactLastDay", fn := fun _ => fun
  | [d1, d2] => { results := [.lit (.bool false)], args := [d1, d2] }
  | _ => none }
def FnExactLastDayWrongFalsely : Prop := fnExactLastDayRow.holds Try.pinned (OpenSpec.ofChange fnExactLastDayWrong)

/-- 'laws.FnExactSectorsOf': WHATEVER THE INPUT: true; the input reads as it did. -/
def fnExactSectorsOfSpec : ChangeSpec := { name := "fnExactSectorsOf", fn := fun _ => fun
  | [d1, d2, d3] => { results := [.lit (.bool true)], args := [d1, d2, d3] }
  | _ => none }
def fnExactSectorsOfRow : OpenClaim := { program := "ytnjdkojjlfdjhaa", sum := "0672a6aa7d889e56015ef9fae095f4b6d062990a9f4fa9468ad28112151f72d1", func := "loop.example/g01254/laws.FnExactSectorsOf", spec := "fnExactSectorsOf", unfollowed := true, recurses := true, apart := false }
def FnExactSectorsOfSaid : Prop := fnExactSectorsOfRow.holds Try.pinned (OpenSpec.ofChange fnExactSectorsOfSpec)

/-- ITS FALSE NEIGHBOUR: 'it returns false'. Refute it at one input. -/
def fnExactSectorsOfWrong : ChangeSpec := { name := "fnExactSectorsOf", fn := fun _ => fun
  | [d1, d2, d3] => { results := [.lit (.bool false)], args := [d1, d2, d3] }
  | _ => none }
def FnExactSectorsOfWrongFalsely : Prop := fnExactSectorsOfRow.holds Try.pinned (OpenSpec.ofChange fnExactSectorsOfWrong)

/- THE SECOND FORM. 'bulk': how many values and letters a reading holds, each counted each time it is reached (what is shared counts as often as it is met; a slice's spare places count too). A statement '..UptoSaid' is the law's where the arguments, and the package variables that the reading takes, are together of bulk at most 1048576: NARROWER than '..Said'. Prove '..Said' where nothing that the law and all that it calls make is longer than what came in: it says more and counts as full. Else prove '..UptoSaid'. A law counts once. -/
mutual
def uptoBulk {H : Type} : DataW H → Nat
  | .lit (.string bytes) => bytes.length + 1
  | .lit _ => 1
  | .nil => 1
  | .ptr d => uptoBulk d + 1
  | .slice elems spare => uptoBulkAll elems + uptoBulkAll spare + 1
  | .agg parts => uptoBulkAll parts + 1
  | .iface _ d => uptoBulk d + 1
  | .map entries => uptoBulkEntries entries + 1
  | .held _ => 1
def uptoBulkAll {H : Type} : List (DataW H) → Nat
  | [] => 0
  | d :: r => uptoBulk d + uptoBulkAll r
def uptoBulkEntries {H : Type} : List (Lit × DataW H) → Nat
  | [] => 0
  | x :: r => uptoBulkEntry x + uptoBulkEntries r
def uptoBulkEntry {H : Type} : Lit × DataW H → Nat
  | (.string bytes, d) => bytes.length + uptoBulk d + 1
  | (_, d) => uptoBulk d + 1
 end
def uptoSmall : (H : Type) → List (DataW H) → Bool := fun _ ds => decide (uptoBulkAll ds ≤ 1048576)
def OpenSpec.upto (s : _root_.Go.ChangeSpec) : _root_.Go.OpenSpec := { _root_.Go.OpenSpec.ofChange s with cond := some uptoSmall }

/-- 'laws.FnExactValidChain', WHERE WHAT IT READS IS OF BULK AT MOST 1048576: true; the input reads as it did. -/
def fnExactValidChainUptoRow : OpenClaim := { program := "ytnjdkojjlfdjhaa", sum := "0672a6aa7d889e56015ef9fae095f4b6d062990a9f4fa9468ad28112151f72d1", func := "loop.example/g01254/laws.FnExactValidChain", spec := "fnExactValidChain", unfollowed := true, recurses := true, apart := false, narrowed := true }
def FnExactValidChainUptoSaid : Prop := fnExactValidChainUptoRow.holds Try.pinned (OpenSpec.upto fnExactValidChainSpec)

/-- 'laws.FnExactRingTable', WHERE WHAT IT READS IS OF BULK AT MOST 1048576: true; the input reads as it did. -/
def fnExactRingTableUptoRow : OpenClaim := { program := "ytnjdkojjlfdjhaa", sum := "0672a6aa7d889e56015ef9fae095f4b6d062990a9f4fa9468ad28112151f72d1", func := "loop.example/g01254/laws.FnExactRingTable", spec := "fnExactRingTable", unfollowed := true, recurses := true, apart := false, narrowed := true }
def FnExactRingTableUptoSaid : Prop := fnExactRingTableUptoRow.holds Try.pinned (OpenSpec.upto fnExactRingTableSpec)

/-- 'laws.FnExactShareEvenly', WHERE WHAT IT READS IS OF BULK AT MOST 1048576: true; the input reads as it did. -/
def fnExactShareEvenlyUptoRow : OpenClaim := { program := "ytnjdkojjlfdjhaa", sum := "0672a6aa7d889e56015ef9fae095f4b6d062990a9f4fa9468ad28112151f72d1", func := "loop.example/g01254/laws.FnExactShareEvenly", spec := "fnExactShareEvenly", unfollowed := true, recurses := true, apart := false, narrowed := true }
def FnExactShareEvenlyUptoSaid : Prop := fnExactShareEvenlyUptoRow.holds Try.pinned (OpenSpec.upto fnExactShareEvenlySpec)

/-- 'laws.FnRounds', WHERE WHAT IT READS IS OF BULK AT MOST 1048576: true; the input reads as it did. -/
def fnRoundsUptoRow : OpenClaim := { program := "ytnjdkojjlfdjhaa", sum := "0672a6aa7d889e56015ef9fae095f4b6d062990a9f4fa9468ad28112151f72d1", func := "loop.example/g01254/laws.FnRounds", spec := "fnRounds", unfollowed := true, recurses := true, apart := false, narrowed := true }
def FnRoundsUptoSaid : Prop := fnRoundsUptoRow.holds Try.pinned (OpenSpec.upto fnRoundsSpec)

/-- 'laws.FnExactFindStandard', WHERE WHAT IT READS IS OF BULK AT MOST 1048576: true; the input reads as it did. -/
def fnExactFindStandardUptoRow : OpenClaim := { program := "ytnjdkojjlfdjhaa", sum := "0672a6aa7d889e56015ef9fae095f4b6d062990a9f4fa9468ad28112151f72d1", func := "loop.example/g01254/laws.FnExactFindStandard", spec := "fnExactFindStandard", unfollowed := true, recurses := true, apart := false, narrowed := true }
def FnExactFindStandardUptoSaid : Prop := fnExactFindStandardUptoRow.holds Try.pinned (OpenSpec.upto fnExactFindStandardSpec)

/-- 'laws.FnExactWorstHead', WHERE WHAT IT READS IS OF BULK AT MOST 1048576: true; the input reads as it did. -/
def fnExactWorstHeadUptoRow : OpenClaim := { program := "ytnjdkojjlfdjhaa", sum := "0672a6aa7d889e56015ef9fae095f4b6d062990a9f4fa9468ad28112151f72d1", func := "loop.example/g01254/laws.FnExactWorstHead", spec := "fnExactWorstHead", unfollowed := true, recurses := true, apart := false, narrowed := true }
def FnExactWorstHeadUptoSaid : Prop := fnExactWorstHeadUptoRow.holds Try.pinned (OpenSpec.upto fnExactWorstHeadSpec)

/-- 'laws.FnExactIsGood', WHERE WHAT IT READS IS OF BULK AT MOST 1048576: true; the input reads as it did. -/
def fnExactIsGoodUptoRow : OpenClaim := { program := "ytnjdkojjlfdjhaa", sum := "0672a6aa7d889e56015ef9fae095f4b6d062990a9f4fa9468ad28112151f72d1", func := "loop.example/g01254/laws.FnExactIsGood", spec := "fnExactIsGood", unfollowed := true, recurses := true, apart := false, narrowed := true }
def FnExactIsGoodUptoSaid : Prop := fnExactIsGoodUptoRow.holds Try.pinned (OpenSpec.upto fnExactIsGoodSpec)

/-- 'laws.FnExactLastDay', WHERE WHAT IT READS IS OF BULK AT MOST 1048576: true; the input reads as it did. -/
def fnExactLastDayUptoRow : OpenClaim := { program := "ytnjdkojjlfdjhaa", sum := "0672a6aa7d889e56015ef9fae095f4b6d062990a9f4fa9468ad28112151f72d1", func := "loop.example/g01254/laws.FnExactLastDay", spec := "fnExactLastDay", unfollowed := true, recurses := true, apart := false, narrowed := true }
def FnExactLastDayUptoSaid : Prop := fnExactLastDayUptoRow.holds Try.pinned (OpenSpec.upto fnExactLastDaySpec)

/-- 'laws.FnExactSectorsOf', WHERE WHAT IT READS IS OF BULK AT MOST 1048576: true; the input reads as it did. -/
def fnExactSectorsOfUptoRow : OpenClaim := { program := "ytnjdkojjlfdjhaa", sum := "0672a6aa7d889e56015ef9fae095f4b6d062990a9f4fa9468ad28112151f72d1", func := "loop.example/g01254/laws.FnExactSectorsOf", spec := "fnExactSectorsOf", unfollowed := true, recurses := true, apart := false, narrowed := true }
def FnExactSectorsOfUptoSaid : Prop := fnExactSectorsOfUptoRow.holds Try.pinned (OpenSpec.upto fnExactSectorsOfSpec)

end Rows
end Go.Proofs.Ytnjdkojjlfdjhaa
