/-
  No cell of these rows narrows 'for every input' (looked for: loops, veiled, ifaces, maps, wideKeys, modest, calm, conditions, laid).
  DERIVED. THE GIVEN ROWS OF THIS SEAT. 3 by the template 'for every input the law returns true; each argument reads behind the call as it read before'; 0 by the template 'total and deterministic' (their statements: YtgkjnmkgihkigaaTotals.lean).
  GIVEN WITH THE SEED: the statements are not yours to turn. If you find one false, say at which input.
  Laid BY PROGRAM, IN A SANDBOX (cutbox-rows.mjs): the forced cells as the released guide's own fill.sh prints them over the translation 006cdc4fd430aff9… (all of the seat's roots in one cut). By AI agents, Wed Nov 11 2026. No macro, syntax, notation, axiom, sorry.
-/
import Derived.Test.YtgkjnmkgihkigaaChecked
import GoSem.Claim
import GoSem.ClaimJoined
import GoSem.ClaimMapViews
import Derived.JoinedTies
import Derived.KernelRfl
namespace Go.Proofs.Ytgkjnmkgihkigaa
/- THE CELL 'sum', in the pinned program and in every row, IS THE sha256 OF THE DUMP (.gsa) THAT YtgkjnmkgihkigaaProg.lean LOADS. Nothing in Lean hashes anything: it is a label: what it is worth is what the hold of that sum in a sandbox is worth. -/
noncomputable def Try.pinned : Pinned := { name := "ytgkjnmkgihkigaa", sum := "006cdc4fd430aff92d3a63b0e96622bb8f59c6c308fe66fb57d8d960ec530be7", checked := Try.checked }
namespace Rows
def none {H : Type} : Left H := { results := [], args := [] }

/-- 'laws.FnExactBestOn': WHATEVER THE INPUT: true; the input reads as it did. -/
def fnExactBestOnSpec : ChangeSpec := { name := "fnExactBestOn", fn := fun _ => fun
  | [d1, d2] => { results := [.lit (.bool true)], args := [d1, d2] }
  | _ => none }
def fnExactBestOnRow : OpenClaim := { program := "ytgkjnmkgihkigaa", sum := "006cdc4fd430aff92d3a63b0e96622bb8f59c6c308fe66fb57d8d960ec530be7", func := "loop.example/g01254/laws.FnExactBestOn", spec := "fnExactBestOn", unfollowed := true, recurses := true, apart := false }
def FnExactBestOnSaid : Prop := fnExactBestOnRow.holds Try.pinned (OpenSpec.ofChange fnExactBestOnSpec)

/-- ITS FALSE NEIGHBOUR: 'it returns false'. Refute it at one input. -/
def fnExactBestOnWrong : ChangeSpec := { name := "fnExactBestOn", fn := fun _ => fun
  | [d1, d2] => { results := [.lit (.bool false)], args := [d1, d2] }
  | _ => none }
def FnExactBestOnWrongFalsely : Prop := fnExactBestOnRow.holds Try.pinned (OpenSpec.ofChange fnExactBestOnWrong)

/-- 'laws.FnExactReadVernier': WHATEVER THE INPUT: true; the input reads as it did. -/
def fnExactReadVernierSpec : ChangeSpec := { name := "fnExactReadVernier", fn := fun _ => fun
  | [d1, d2, d3] => { results := [.lit (.bool true)], args := [d1, d2, d3] }
  | _ => none }
def fnExactReadVernierRow : OpenClaim := { program := "ytgkjnmkgihkigaa", sum := "006cdc4fd430aff92d3a63b0e96622bb8f59c6c308fe66fb57d8d960ec530be7", func := "loop.example/g01254/laws.FnExactReadVernier", spec := "fnExactReadVernier", unfollowed := true, recurses := true, apart := false }
def FnExactReadVernierSaid : Prop := fnExactReadVernierRow.holds Try.pinned (OpenSpec.ofChange fnExactReadVernierSpec)

/-- ITS FALSE NEIGHBOUR: 'it returns false'. Refute it at one input. -/
def fnExactReadVernierWrong : ChangeSpec := { name := "fnExactReadVernier", fn := fun _ => fun
  | [d1, d2, d3] => { results := [.lit (.bool false)], args := [d1, d2, d3] }
  | _ => none }
def FnExactReadVernierWrongFalsely : Prop := fnExactReadVernierRow.holds Try.pinned (OpenSpec.ofChange fnExactReadVernierWrong)

/-- 'laws.FnExactDifferenceOn': WHATEVER THE INPUT: true; the input reads as it did. -/
def fnExactDifferenceOnSpec : ChangeSpec := { name := "fnExactDifferenceOn", fn := fun _ => fun
  | [d1, d2, d3, d4] => { results := [.lit (.bool true)], args := [d1, d2, d3, d4] }
  | _ => none }
def fnExactDifferenceOnRow : OpenClaim := { program := "ytgkjnmkgihkigaa", sum := "006cdc4fd430aff92d3a63b0e96622bb8f59c6c308fe66fb57d8d960ec530be7", func := "loop.example/g01254/laws.FnExactDifferenceOn", spec := "fnExactDifferenceOn", unfollowed := true, recurses := true, apart := false }
def FnExactDifferenceOnSaid : Prop := fnExactDifferenceOnRow.holds Try.pinned (OpenSpec.ofChange fnExactDifferenceOnSpec)

/-- ITS FALSE NEIGHBOUR: 'it returns false'. Refute it at one input. -/
def fnExactDifferenceOnWrong : ChangeSpec := { name := "fnExactDifferenceOn", fn := fun _ => fun
  | [d1, d2, d3, d4] => { results := [.lit (.bool false)], args := [d1, d2, d3, d4] }
  | _ => none }
def FnExactDifferenceOnWrongFalsely : Prop := fnExactDifferenceOnRow.holds Try.pinned (OpenSpec.ofChange fnExactDifferenceOnWrong)

/- THE SECOND FORM. 'bulk': how many values and letters a reading holds, each counted each time it is reached (what is shared counts as often as it is met; a slice's spare places count too). A statement '..UptoSaid' is the law's where the arguments, and the package variables that the reading takes, are together of bulk at most 1048576: NARROWER than '..Said'. Prove '..Said' where nothing that the law and all that it calls make is longer than what came in: it says more and counts as full. Else prove '..UptoSaid'. A law counts once. -/
mutual
def uptoBulk {H : Type} : DataW H → Nat
  | .lit (.string bytes) => bytes.length + 1
  | .lit _ => 1
  | .nil => 1
  | .ptr d => uptoBulk d + 1
  | .slice elems spare => uptoBulkAll elems + uptoBulkAll spare + 1
  | .agg parts => uptoBulkAll parts + 1
  | .iface _ d => uptoBulk d + 1
  | .map entries => uptoBulkEntries entries + 1
  | .held _ => 1
def uptoBulkAll {H : Type} : List (DataW H) → Nat
  | [] => 0
  | d :: r => uptoBulk d + uptoBulkAll r
def uptoBulkEntries {H : Type} : List (Lit × DataW H) → Nat
  | [] => 0
  | x :: r => uptoBulkEntry x + uptoBulkEntries r
def uptoBulkEntry {H : Type} : Lit × DataW H → Nat
  | (.string bytes, d) => bytes.length + uptoBulk d + 1
  | (_, d) => uptoBulk d + 1
 end
def uptoSmall : (H : Type) → List (DataW H) → Bool := fun _ ds => decide (uptoBulkAll ds ≤ 1048576)
def OpenSpec.upto (s : _root_.Go.ChangeSpec) : _root_.Go.OpenSpec := { _root_.Go.OpenSpec.ofChange s with cond := some uptoSmall }

/-- 'laws.FnExactBestOn', WHERE WHAT IT READS IS OF BULK AT MOST 1048576: true; the input reads as it did. -/
def fnExactBestOnUptoRow : OpenClaim := { program := "ytgkjnmkgihkigaa", sum := "006cdc4fd430aff92d3a63b0e96622bb8f59c6c308fe66fb57d8d960ec530be7", func := "loop.example/g01254/laws.FnExactBestOn", spec := "fnExactBestOn", unfollowed := true, recurses := true, apart := false, narrowed := true }
def FnExactBestOnUptoSaid : Prop := fnExactBestOnUptoRow.holds Try.pinned (OpenSpec.upto fnExactBestOnSpec)

/-- 'laws.FnExactReadVernier', WHERE WHAT IT READS IS OF BULK AT MOST 1048576: true; the input reads as it did. -/
def fnExactReadVernierUptoRow : OpenClaim := { program := "ytgkjnmkgihkigaa", sum := "006cdc4fd430aff92d3a63b0e96622bb8f59c6c308fe66fb57d8d960ec530be7", func := "loop.example/g01254/laws.FnExactReadVernier", spec := "fnExactReadVernier", unfollowed := true, recurses := true, apart := false, narrowed := true }
def FnExactReadVernierUptoSaid : Prop := fnExactReadVernierUptoRow.holds Try.pinned (OpenSpec.upto fnExactReadVernierSpec)

/-- 'laws.FnExactDifferenceOn', WHERE WHAT IT READS IS OF BULK AT MOST 1048576: true; the input reads as it did. -/
def fnExactDifferenceOnUptoRow : OpenClaim := { program := "ytgkjnmkgihkigaa", sum := "006cdc4fd430aff92d3a63b0e96622bb8f59c6c308fe66fb57d8d960ec530be7", func := "loop.example/g01254/laws.FnExactDifferenceOn", spec := "fnExactDifferenceOn", unfollowed := true, recurses := true, apart := false, narrowed := true }
def FnExactDifferenceOnUptoSaid : Prop := fnExactDifferenceOnUptoRow.holds Try.pinned (OpenSpec.upto fnExactDifferenceOnSpec)

end Rows
end Go.Proofs.Ytgkjnmkgihkigaa
