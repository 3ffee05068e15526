/-
  No cell of these rows narrows 'for every input' (looked for: loops, veiled, ifaces, maps, wideKeys, modest, calm, conditions, laid).
  DERIVED. THE GIVEN ROWS OF THIS SEAT. 12 by the template 'for every input the law returns true; each argument reads behind the call as it read before'; 0 by the template 'total and deterministic' (their statements: YtbdbfoffekcjoaaTotals.lean).
  GIVEN WITH THE SEED: the statements are not yours to turn. If you find one false, say at which input.
  Laid BY PROGRAM, IN A SANDBOX (cutbox-rows.mjs): the forced cells as the released guide's own fill.sh prints them over the translation 2bc05c4e261bcc15… (all of the seat's roots in one cut). By AI agents, Wed Nov 11 2026. No macro, syntax, notation, axiom, sorry.
-/
import Derived.Test.YtbdbfoffekcjoaaChecked
import GoSem.Claim
import GoSem.ClaimJoined
import GoSem.ClaimMapViews
import Derived.JoinedTies
import Derived.KernelRfl
namespace Go.Proofs.Ytbdbfoffekcjoaa
/- THE CELL 'sum', in the pinned program and in every row, IS THE sha256 OF THE DUMP (.gsa) THAT YtbdbfoffekcjoaaProg.lean LOADS. Nothing in Lean hashes anything: it is a label: what it is worth is what the hold of that sum in a sandbox is worth. -/
noncomputable def Try.pinned : Pinned := { name := "ytbdbfoffekcjoaa", sum := "2bc05c4e261bcc1583c00920e904673d3be574343c1eb6b96df5a5e57530cfd6", checked := Try.checked }
namespace Rows
def none {H : Type} : Left H := { results := [], args := [] }

/-- 'laws.FnExactShareWhole': WHATEVER THE INPUT: true; the input reads as it did. -/
def fnExactShareWholeSpec : ChangeSpec := { name := "fnExactShareWhole", fn := fun _ => fun
  | [d1, d2] => { results := [.lit (.bool true)], args := [d1, d2] }
  | _ => none }
def fnExactShareWholeRow : OpenClaim := { program := "ytbdbfoffekcjoaa", sum := "2bc05c4e261bcc1583c00920e904673d3be574343c1eb6b96df5a5e57530cfd6", func := "loop.example/g01254/laws.FnExactShareWhole", spec := "fnExactShareWhole", unfollowed := true, recurses := true, apart := false }
def FnExactShareWholeSaid : Prop := fnExactShareWholeRow.holds Try.pinned (OpenSpec.ofChange fnExactShareWholeSpec)

/-- ITS FALSE NEIGHBOUR: 'it returns false'. Refute it at one input. -/
def fnExactShareWholeWrong : ChangeSpec := { name := "fnExactShareWhole", fn := fun _ => fun
  | [d1, d2] => { results := [.lit (.bool false)], args := [d1, d2] }
  | _ => none }
def FnExactShareWholeWrongFalsely : Prop := fnExactShareWholeRow.holds Try.pinned (OpenSpec.ofChange fnExactShareWholeWrong)

/-- 'laws.FnExactMeanOfTwo': WHATEVER THE INPUT: true; the input reads as it did. -/
def fnExactMeanOfTwoSpec : ChangeSpec := { name := "fnExactMeanOfTwo", fn := fun _ => fun
  | [d1, d2] => { results := [.lit (.bool true)], args := [d1, d2] }
  | _ => none }
def fnExactMeanOfTwoRow : OpenClaim := { program := "ytbdbfoffekcjoaa", sum := "2bc05c4e261bcc1583c00920e904673d3be574343c1eb6b96df5a5e57530cfd6", func := "loop.example/g01254/laws.FnExactMeanOfTwo", spec := "fnExactMeanOfTwo", apart := false }
def FnExactMeanOfTwoSaid : Prop := fnExactMeanOfTwoRow.holds Try.pinned (OpenSpec.ofChange fnExactMeanOfTwoSpec)

/-- ITS FALSE NEIGHBOUR: 'it returns false'. Refute it at one input. -/
def fnExactMeanOfTwoWrong : ChangeSpec := { name := "fnExactMeanOfTwo", fn := fun _ => fun
  | [d1, d2] => { results := [.lit (.bool false)], args := [d1, d2] }
  | _ => none }
def FnExactMeanOfTwoWrongFalsely : Prop := fnExactMeanOfTwoRow.holds Try.pinned (OpenSpec.ofChange fnExactMeanOfTwoWrong)

/-- 'laws.FnExactShareClosing': WHATEVER THE INPUT: true; the input reads as it did. -/
def fnExactShareClosingSpec : ChangeSpec := { name := "fnExactShareClosing", fn := fun _ => fun
  | [d] => { results := [.lit (.bool true)], args := [d] }
  | _ => none }
def fnExactShareClosingRow : OpenClaim := { program := "ytbdbfoffekcjoaa", sum := "2bc05c4e261bcc1583c00920e904673d3be574343c1eb6b96df5a5e57530cfd6", func := "loop.example/g01254/laws.FnExactShareClosing", spec := "fnExactShareClosing", unfollowed := true, recurses := true, apart := false }
def FnExactShareClosingSaid : Prop := fnExactShareClosingRow.holds Try.pinned (OpenSpec.ofChange fnExactShareClosingSpec)

/-- ITS FALSE NEIGHBOUR: 'it returns false'. Refute it at one input. -/
def fnExactShareClosingWrong : ChangeSpec := { name := "fnExactShareClosing", fn := fun _ => fun
  | [d] => { results := [.lit (.bool false)], args := [d] }
  | _ => none }
def FnExactShareClosingWrongFalsely : Prop := fnExactShareClosingRow.holds Try.pinned (OpenSpec.ofChange fnExactShareClosingWrong)

/-- 'laws.FnExactSameChain': WHATEVER THE INPUT: true; the input reads as it did. -/
def fnExactSameChainSpec : ChangeSpec := { name := "fnExactSameChain", fn := fun _ => fun
  | [d1, d2] => { results := [.lit (.bool true)], args := [d1, d2] }
  | _ => none }
def fnExactSameChainRow : OpenClaim := { program := "ytbdbfoffekcjoaa", sum := "2bc05c4e261bcc1583c00920e904673d3be574343c1eb6b96df5a5e57530cfd6", func := "loop.example/g01254/laws.FnExactSameChain", spec := "fnExactSameChain", apart := false }
def FnExactSameChainSaid : Prop := fnExactSameChainRow.holds Try.pinned (OpenSpec.ofChange fnExactSameChainSpec)

/-- ITS FALSE NEIGHBOUR: 'it returns false'. Refute it at one input. -/
def fnExactSameChainWrong : ChangeSpec := { name := "fnExactSameChain", fn := fun _ => fun
  | [d1, d2] => { results := [.lit (.bool false)], args := [d1, d2] }
  | _ => none }
def FnExactSameChainWrongFalsely : Prop := fnExactSameChainRow.holds Try.pinned (OpenSpec.ofChange fnExactSameChainWrong)

/-- 'laws.FnExactSameTable': WHATEVER THE INPUT: true; the input reads as it did. -/
def fnExactSameTableSpec : ChangeSpec := { name := "fnExactSameTable", fn := fun _ => fun
  | [d1, d2] => { results := [.lit (.bool true)], args := [d1, d2] }
  | _ => none }
def fnExactSameTableRow : OpenClaim := { program := "ytbdbfoffekcjoaa", sum := "2bc05c4e261bcc1583c00920e904673d3be574343c1eb6b96df5a5e57530cfd6", func := "loop.example/g01254/laws.FnExactSameTable", spec := "fnExactSameTable", apart := false }
def FnExactSameTableSaid : Prop := fnExactSameTableRow.holds Try.pinned (OpenSpec.ofChange fnExactSameTableSpec)

/-- ITS FALSE NEIGHBOUR: 'it returns false'. Refute it at one input. -/
def fnExactSameTableWrong : ChangeSpec := { name := "fnExactSameTable", fn := fun _ => fun
  | [d1, d2] => { results := [.lit (.bool false)], args := [d1, d2] }
  | _ => none }
def FnExactSameTableWrongFalsely : Prop := fnExactSameTableRow.holds Try.pinned (OpenSpec.ofChange fnExactSameTableWrong)

/-- 'laws.FnExactFaultsFrom': WHATEVER THE INPUT: true; the input reads as it did. -/
def fnExactFaultsFromSpec : ChangeSpec := { name := "fnExactFaultsFrom", fn := fun _ => fun
  | [d] => { results := [.lit (.bool true)], args := [d] }
  | _ => none }
def fnExactFaultsFromRow : OpenClaim := { program := "ytbdbfoffekcjoaa", sum := "2bc05c4e261bcc1583c00920e904673d3be574343c1eb6b96df5a5e57530cfd6", func := "loop.example/g01254/laws.FnExactFaultsFrom", spec := "fnExactFaultsFrom", unfollowed := true, recurses := true, apart := false }
def FnExactFaultsFromSaid : Prop := fnExactFaultsFromRow.holds Try.pinned (OpenSpec.ofChange fnExactFaultsFromSpec)

/-- ITS FALSE NEIGHBOUR: 'it returns false'. Refute it at one input. -/
def fnExactFaultsFromWrong : ChangeSpec := { name := "fnExactFaultsFrom", fn := fun _ => fun
  | [d] => { results := [.lit (.bool false)], args := [d] }
  | _ => none }
def FnExactFaultsFromWrongFalsely : Prop := fnExactFaultsFromRow.holds Try.pinned (OpenSpec.ofChange fnExactFaultsFromWrong)

/-- 'laws.FnExactValidTable': WHATEVER THE INPUT: true; the input reads as it did. -/
def fnExactValidTableSpec : ChangeSpec := { name := "fnExactValidTable", fn := fun _ => fun
  | [d] => { results := [.lit (.bool true)], args := [d] }
  | _ => none }
def fnExactValidTableRow : OpenClaim := { program := "ytbdbfoffekcjoaa", sum := "2bc05c4e261bcc1583c00920e904673d3be574343c1eb6b96df5a5e57530cfd6", func := "loop.example/g01254/laws.FnExactValidTable", spec := "fnExactValidTable", apart := false }
def FnExactValidTableSaid : Prop := fnExactValidTableRow.holds Try.pinned (OpenSpec.ofChange fnExactValidTableSpec)

/-- ITS FALSE NEIGHBOUR: 'it returns false'. Refute it at one input. -/
def fnExactValidTableWrong : ChangeSpec := { name := "fnExactValidTable", fn := fun _ => fun
  | [d] => { results := [.lit (.bool false)], args := [d] }
  | _ => none }
def FnExactValidTableWrongFalsely : Prop := fnExactValidTableRow.holds Try.pinned (OpenSpec.ofChange fnExactValidTableWrong)

/-- 'laws.FnSolved': WHATEVER THE INPUT: true; the input reads as it did. -/
def fnSolvedSpec : ChangeSpec := { name := "fnSolved", fn := fun _ => fun
  | [d1, d2] => { results := [.lit (.bool true)], args := [d1, d2] }
  | _ => none }
def fnSolvedRow : OpenClaim := { program := "ytbdbfoffekcjoaa", sum := "2bc05c4e261bcc1583c00920e904673d3be574343c1eb6b96df5a5e57530cfd6", func := "loop.example/g01254/laws.FnSolved", spec := "fnSolved", unfollowed := true, recurses := true, apart := false }
def FnSolvedSaid : Prop := fnSolvedRow.holds Try.pinned (OpenSpec.ofChange fnSolvedSpec)

/-- ITS FALSE NEIGHBOUR: 'it returns false'. Refute it at one input. -/
def fnSolvedWrong : ChangeSpec := { name := "fnSolved", fn := fun _ => fun
  | [d1, d2] => { results := [.lit (.bool false)], args := [d1, d2] }
  | _ => none }
def FnSolvedWrongFalsely : Prop := fnSolvedRow.holds Try.pinned (OpenSpec.ofChange fnSolvedWrong)

/-- 'laws.FnExactFaultAt': WHATEVER THE INPUT: true; the input reads as it did. -/
def fnExactFaultAtSpec : ChangeSpec := { name := "fnExactFaultAt", fn := fun _ => fun
  | [d1, d2] => { results := [.lit (.bool true)], args := [d1, d2] }
  | _ => none }
def fnExactFaultAtRow : OpenClaim := { program := "ytbdbfoffekcjoaa", sum := "2bc05c4e261bcc1583c00920e904673d3be574343c1eb6b96df5a5e57530cfd6", func := "loop.example/g01254/laws.FnExactFaultAt", spec := "fnExactFaultAt", unfollowed := true, recurses := true, apart := false }
def FnExactFaultAtSaid : Prop := fnExactFaultAtRow.holds Try.pinned (OpenSpec.ofChange fnExactFaultAtSpec)

/-- ITS FALSE NEIGHBOUR: 'it returns false'. Refute it at one input. -/
def fnExactFaultAtWrong : ChangeSpec := { name := "fnExactFaultAt", fn := fun _ => fun
  | [d1, d2] => { results := [.lit (.bool false)], args := [d1, d2] }
  | _ => none }
def FnExactFaultAtWrongFalsely : Prop := fnExactFaultAtRow.holds Try.pinned (OpenSpec.ofChange fnExactFaultAtWrong)

/-- 'laws.FnExactReadHead': WHATEVER THE INPUT: true; the input reads as it did. -/
def fnExactReadHeadSpec : ChangeSpec := { name := "fnExactReadHead", fn := fun _ => fun
  | [d1, d2, d3] => { results := [.lit (.bool true)], args := [d1, d2, d3] }
  | _ => none }
def fnExactReadHeadRow : OpenClaim := { program := "ytbdbfoffekcjoaa", sum := "2bc05c4e261bcc1583c00920e904673d3be574343c1eb6b96df5a5e57530cfd6", func := "loop.example/g01254/laws.FnExactReadHead", spec := "fnExactReadHead", unfollowed := true, recurses := true, apart := false }
def FnExactReadHeadSaid : Prop := fnExactReadHeadRow.holds Try.pinned (OpenSpec.ofChange fnExactReadHeadSpec)

/-- ITS FALSE NEIGHBOUR: 'it returns false'. Refute it at one input. -/
def fnExactReadHeadWrong : ChangeSpec := { name := "fnExactReadHead", fn := fun _ => fun
  | [d1, d2, d3] => { results := [.lit (.bool false)], args := [d1, d2, d3] }
  | _ => none }
def FnExactReadHeadWrongFalsely : Prop := fnExactReadHeadRow.holds Try.pinned (OpenSpec.ofChange fnExactReadHeadWrong)

/-- 'laws.FnExactReadTwo': WHATEVER THE INPUT: true; the input reads as it did. -/
def fnExactReadTwoSpec : ChangeSpec := { name := "fnExactReadTwo", fn := fun _ => fun
  | [d1, d2, d3] => { results := [.lit (.bool true)], args := [d1, d2, d3] }
  | _ => none }
def fnExactReadTwoRow : OpenClaim := { program := "ytbdbfoffekcjoaa", sum := "2bc05c4e261bcc1583c00920e904673d3be574343c1eb6b96df5a5e57530cfd6", func := "loop.example/g01254/laws.FnExactReadTwo", spec := "fnExactReadTwo", unfollowed := true, recurses := true, apart := false }
def FnExactReadTwoSaid : Prop := fnExactReadTwoRow.holds Try.pinned (OpenSpec.ofChange fnExactReadTwoSpec)

/-- ITS FALSE NEIGHBOUR: 'it returns false'. Refute it at one input. -/
def fnExactReadTwoWrong : ChangeSpec := { name := "fnExactReadTwo", fn := fun _ => fun
  | [d1, d2, d3] => { results := [.lit (.bool false)], args := [d1, d2, d3] }
  | _ => none }
def FnExactReadTwoWrongFalsely : Prop := fnExactReadTwoRow.holds Try.pinned (OpenSpec.ofChange fnExactReadTwoWrong)

/-- 'laws.FnExactSwingAt': WHATEVER THE INPUT: true; the input reads as it did. -/
def fnExactSwingAtSpec : ChangeSpec := { name := "fnExactSwingAt", fn := fun _ => fun
  | [d1, d2] => { results := [.lit (.bool true)], args := [d1, d2] }
  | _ => none }
def fnExactSwingAtRow : OpenClaim := { program := "ytbdbfoffekcjoaa", sum := "2bc05c4e261bcc1583c00920e904673d3be574343c1eb6b96df5a5e57530cfd6", func := "loop.example/g01254/laws.FnExactSwingAt", spec := "fnExactSwingAt", unfollowed := true, recurses := true, apart := false }
def FnExactSwingAtSaid : Prop := fnExactSwingAtRow.holds Try.pinned (OpenSpec.ofChange fnExactSwingAtSpec)

/-- ITS FALSE NEIGHBOUR: 'it returns false'. Refute it at one input. -/
def fnExactSwingAtWrong : ChangeSpec := { name := "fnExactSwingAt", fn := fun _ => fun
  | [d1, d2] => { results := [.lit (.bool false)], args := [d1, d2] }
  | _ => none }
def FnExactSwingAtWrongFalsely : Prop := fnExactSwingAtRow.holds Try.pinned (OpenSpec.ofChange fnExactSwingAtWrong)

/- THE SECOND FORM. 'bulk': how many values and letters a reading holds, each counted each time it is reached (what is shared counts as often as it is met; a slice's spare places count too). A statement '..UptoSaid' is the law's where the arguments, and the package variables that the reading takes, are together of bulk at most 1048576: NARROWER than '..Said'. Prove '..Said' where nothing that the law and all that it calls make is longer than what came in: it says more and counts as full. Else prove '..UptoSaid'. A law counts once. -/
mutual
def uptoBulk {H : Type} : DataW H → Nat
  | .lit (.string bytes) => bytes.length + 1
  | .lit _ => 1
  | .nil => 1
  | .ptr d => uptoBulk d + 1
  | .slice elems spare => uptoBulkAll elems + uptoBulkAll spare + 1
  | .agg parts => uptoBulkAll parts + 1
  | .iface _ d => uptoBulk d + 1
  | .map entries => uptoBulkEntries entries + 1
  | .held _ => 1
def uptoBulkAll {H : Type} : List (DataW H) → Nat
  | [] => 0
  | d :: r => uptoBulk d + uptoBulkAll r
def uptoBulkEntries {H : Type} : List (Lit × DataW H) → Nat
  | [] => 0
  | x :: r => uptoBulkEntry x + uptoBulkEntries r
def uptoBulkEntry {H : Type} : Lit × DataW H → Nat
  | (.string bytes, d) => bytes.length + uptoBulk d + 1
  | (_, d) => uptoBulk d + 1
 end
def uptoSmall : (H : Type) → List (DataW H) → Bool := fun _ ds => decide (uptoBulkAll ds ≤ 1048576)
def OpenSpec.upto (s : _root_.Go.ChangeSpec) : _root_.Go.OpenSpec := { _root_.Go.OpenSpec.ofChange s with cond := some uptoSmall }

/-- 'laws.FnExactShareWhole', WHERE WHAT IT READS IS OF BULK AT MOST 1048576: true; the input reads as it did. -/
def fnExactShareWholeUptoRow : OpenClaim := { program := "ytbdbfoffekcjoaa", sum := "2bc05c4e261bcc1583c00920e904673d3be574343c1eb6b96df5a5e57530cfd6", func := "loop.example/g01254/laws.FnExactShareWhole", spec := "fnExactShareWhole", unfollowed := true, recurses := true, apart := false, narrowed := true }
def FnExactShareWholeUptoSaid : Prop := fnExactShareWholeUptoRow.holds Try.pinned (OpenSpec.upto fnExactShareWholeSpec)

/-- 'laws.FnExactMeanOfTwo', WHERE WHAT IT READS IS OF BULK AT MOST 1048576: true; the input reads as it did. -/
def fnExactMeanOfTwoUptoRow : OpenClaim := { program := "ytbdbfoffekcjoaa", sum := "2bc05c4e261bcc1583c00920e904673d3be574343c1eb6b96df5a5e57530cfd6", func := "loop.example/g01254/laws.FnExactMeanOfTwo", spec := "fnExactMeanOfTwo", apart := false, narrowed := true }
def FnExactMeanOfTwoUptoSaid : Prop := fnExactMeanOfTwoUptoRow.holds Try.pinned (OpenSpec.upto fnExactMeanOfTwoSpec)

/-- 'laws.FnExactShareClosing', WHERE WHAT IT READS IS OF BULK AT MOST 1048576: true; the input reads as it did. -/
def fnExactShareClosingUptoRow : OpenClaim := { program := "ytbdbfoffekcjoaa", sum := "2bc05c4e261bcc1583c00920e904673d3be574343c1eb6b96df5a5e57530cfd6", func := "loop.example/g01254/laws.FnExactShareClosing", spec := "fnExactShareClosing", unfollowed := true, recurses := true, apart := false, narrowed := true }
def FnExactShareClosingUptoSaid : Prop := fnExactShareClosingUptoRow.holds Try.pinned (OpenSpec.upto fnExactShareClosingSpec)

/-- 'laws.FnExactSameChain', WHERE WHAT IT READS IS OF BULK AT MOST 1048576: true; the input reads as it did. -/
def fnExactSameChainUptoRow : OpenClaim := { program := "ytbdbfoffekcjoaa", sum := "2bc05c4e261bcc1583c00920e904673d3be574343c1eb6b96df5a5e57530cfd6", func := "loop.example/g01254/laws.FnExactSameChain", spec := "fnExactSameChain", apart := false, narrowed := true }
def FnExactSameChainUptoSaid : Prop := fnExactSameChainUptoRow.holds Try.pinned (OpenSpec.upto fnExactSameChainSpec)

/-- 'laws.FnExactSameTable', WHERE WHAT IT READS IS OF BULK AT MOST 1048576: true; the input reads as it did. -/
def fnExactSameTableUptoRow : OpenClaim := { program := "ytbdbfoffekcjoaa", sum := "2bc05c4e261bcc1583c00920e904673d3be574343c1eb6b96df5a5e57530cfd6", func := "loop.example/g01254/laws.FnExactSameTable", spec := "fnExactSameTable", apart := false, narrowed := true }
def FnExactSameTableUptoSaid : Prop := fnExactSameTableUptoRow.holds Try.pinned (OpenSpec.upto fnExactSameTableSpec)

/-- 'laws.FnExactFaultsFrom', WHERE WHAT IT READS IS OF BULK AT MOST 1048576: true; the input reads as it did. -/
def fnExactFaultsFromUptoRow : OpenClaim := { program := "ytbdbfoffekcjoaa", sum := "2bc05c4e261bcc1583c00920e904673d3be574343c1eb6b96df5a5e57530cfd6", func := "loop.example/g01254/laws.FnExactFaultsFrom", spec := "fnExactFaultsFrom", unfollowed := true, recurses := true, apart := false, narrowed := true }
def FnExactFaultsFromUptoSaid : Prop := fnExactFaultsFromUptoRow.holds Try.pinned (OpenSpec.upto fnExactFaultsFromSpec)

/-- 'laws.FnExactValidTable', WHERE WHAT IT READS IS OF BULK AT MOST 1048576: true; the input reads as it did. -/
def fnExactValidTableUptoRow : OpenClaim := { program := "ytbdbfoffekcjoaa", sum := "2bc05c4e261bcc1583c00920e904673d3be574343c1eb6b96df5a5e57530cfd6", func := "loop.example/g01254/laws.FnExactValidTable", spec := "fnExactValidTable", apart := false, narrowed := true }
def FnExactValidTableUptoSaid : Prop := fnExactValidTableUptoRow.holds Try.pinned (OpenSpec.upto fnExactValidTableSpec)

/-- 'laws.FnSolved', WHERE WHAT IT READS IS OF BULK AT MOST 1048576: true; the input reads as it did. -/
def fnSolvedUptoRow : OpenClaim := { program := "ytbdbfoffekcjoaa", sum := "2bc05c4e261bcc1583c00920e904673d3be574343c1eb6b96df5a5e57530cfd6", func := "loop.example/g01254/laws.FnSolved", spec := "fnSolved", unfollowed := true, recurses := true, apart := false, narrowed := true }
def FnSolvedUptoSaid : Prop := fnSolvedUptoRow.holds Try.pinned (OpenSpec.upto fnSolvedSpec)

/-- 'laws.FnExactFaultAt', WHERE WHAT IT READS IS OF BULK AT MOST 1048576: true; the input reads as it did. -/
def fnExactFaultAtUptoRow : OpenClaim := { program := "ytbdbfoffekcjoaa", sum := "2bc05c4e261bcc1583c00920e904673d3be574343c1eb6b96df5a5e57530cfd6", func := "loop.example/g01254/laws.FnExactFaultAt", spec := "fnExactFaultAt", unfollowed := true, recurses := true, apart := false, narrowed := true }
def FnExactFaultAtUptoSaid : Prop := fnExactFaultAtUptoRow.holds Try.pinned (OpenSpec.upto fnExactFaultAtSpec)

/-- 'laws.FnExactReadHead', WHERE WHAT IT READS IS OF BULK AT MOST 1048576: true; the input reads as it did. -/
def fnExactReadHeadUptoRow : OpenClaim := { program := "ytbdbfoffekcjoaa", sum := "2bc05c4e261bcc1583c00920e904673d3be574343c1eb6b96df5a5e57530cfd6", func := "loop.example/g01254/laws.FnExactReadHead", spec := "fnExactReadHead", unfollowed := true, recurses := true, apart := false, narrowed := true }
def FnExactReadHeadUptoSaid : Prop := fnExactReadHeadUptoRow.holds Try.pinned (OpenSpec.upto fnExactReadHeadSpec)

/-- 'laws.FnExactReadTwo', WHERE WHAT IT READS IS OF BULK AT MOST 1048576: true; the input reads as it did. -/
def fnExactReadTwoUptoRow : OpenClaim := { program := "ytbdbfoffekcjoaa", sum := "2bc05c4e261bcc1583c00920e904673d3be574343c1eb6b96df5a5e57530cfd6", func := "loop.example/g01254/laws.FnExactReadTwo", spec := "fnExactReadTwo", unfollowed := true, recurses := true, apart := false, narrowed := true }
def FnExactReadTwoUptoSaid : Prop := fnExactReadTwoUptoRow.holds Try.pinned (OpenSpec.upto fnExactReadTwoSpec)

/-- 'laws.FnExactSwingAt', WHERE WHAT IT READS IS OF BULK AT MOST 1048576: true; the input reads as it did. -/
def fnExactSwingAtUptoRow : OpenClaim := { program := "ytbdbfoffekcjoaa", sum := "2bc05c4e261bcc1583c00920e904673d3be574343c1eb6b96df5a5e57530cfd6", func := "loop.example/g01254/laws.FnExactSwingAt", spec := "fnExactSwingAt", unfollowed := true, recurses := true, apart := false, narrowed := true }
def FnExactSwingAtUptoSaid : Prop := fnExactSwingAtUptoRow.holds Try.pinned (OpenSpec.upto fnExactSwingAtSpec)

end Rows
end Go.Proofs.Ytbdbfoffekcjoaa
