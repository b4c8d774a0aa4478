/-
  No cell of these rows narrows 'for every input' (looked for: loops, veiled, ifaces, maps, wideKeys, modest, calm, conditions, laid).
  DERIVED. THE GIVEN ROWS OF THIS SEAT. 5 by the template 'for every input the law returns true; each argument reads behind the call as it read before'; 0 by the template 'total and deterministic' (their statements: YthkibgdeibolfaaTotals.lean).
  GIVEN WITH THE SEED: the statements are not yours to turn. If you find one false, say at which input.
  Laid BY PROGRAM, IN A SANDBOX (cutbox-rows.mjs): the forced cells as the released guide's own fill.sh prints them over the translation e29ee121fd6fe280… (all of the seat's roots in one cut). By AI agents, Wed Nov 11 2026. No macro, syntax, notation, axiom, sorry.
-/
import Derived.Test.YthkibgdeibolfaaChecked
import GoSem.Claim
import GoSem.ClaimJoined
import GoSem.ClaimMapViews
import Derived.JoinedTies
import Derived.KernelRfl
namespace Go.Proofs.Ythkibgdeibolfaa
/- THE CELL 'sum', in the pinned program and in every row, IS THE sha256 OF THE DUMP (.gsa) THAT YthkibgdeibolfaaProg.lean LOADS. Nothing in Lean hashes anything: it is a label: what it is worth is what the hold of that sum in a sandbox is worth. -/
noncomputable def Try.pinned : Pinned := { name := "ythkibgdeibolfaa", sum := "e29ee121fd6fe2800cdf3db1c979ba7e46aae77a8c04b63f55a2abb28235dfa3", checked := Try.checked }
namespace Rows
def none {H : Type} : Left H := { results := [], args := [] }

/-- 'siphonlaw09.MldDecodes': WHATEVER THE INPUT: true; the input reads as it did. -/
def mldDecodesSpec : ChangeSpec := { name := "mldDecodes", fn := fun _ => fun
  | [d1, d2] => { results := [.lit (.bool true)], args := [d1, d2] }
  | _ => none }
def mldDecodesRow : OpenClaim := { program := "ythkibgdeibolfaa", sum := "e29ee121fd6fe2800cdf3db1c979ba7e46aae77a8c04b63f55a2abb28235dfa3", func := "siphon/siphonlaw09.MldDecodes", spec := "mldDecodes", inPlace := ["internal/abi.NoEscape"], unfollowed := true, recurses := true, apart := false }
def MldDecodesSaid : Prop := mldDecodesRow.holds Try.pinned (OpenSpec.ofChange mldDecodesSpec)

/-- ITS FALSE NEIGHBOUR: 'it returns false'. Refute it at one input. -/
def mldDecodesWrong : ChangeSpec := { name := "mldDecodes", fn := fun _ => fun
  | [d1, d2] => { results := [.lit (.bool false)], args := [d1, d2] }
  | _ => none }
def MldDecodesWrongFalsely : Prop := mldDecodesRow.holds Try.pinned (OpenSpec.ofChange mldDecodesWrong)

/-- 'siphonlaw09.MldEncodes': WHATEVER THE INPUT: true; the input reads as it did. -/
def mldEncodesSpec : ChangeSpec := { name := "mldEncodes", fn := fun _ => fun
  | [d1, d2] => { results := [.lit (.bool true)], args := [d1, d2] }
  | _ => none }
def mldEncodesRow : OpenClaim := { program := "ythkibgdeibolfaa", sum := "e29ee121fd6fe2800cdf3db1c979ba7e46aae77a8c04b63f55a2abb28235dfa3", func := "siphon/siphonlaw09.MldEncodes", spec := "mldEncodes", inPlace := ["internal/abi.NoEscape"], unfollowed := true, recurses := true, apart := false }
def MldEncodesSaid : Prop := mldEncodesRow.holds Try.pinned (OpenSpec.ofChange mldEncodesSpec)

/-- ITS FALSE NEIGHBOUR: 'it returns false'. Refute it at one input. -/
def mldEncodesWrong : ChangeSpec := { name := "mldEncodes", fn := fun _ => fun
  | [d1, d2] => { results := [.lit (.bool false)], args := [d1, d2] }
  | _ => none }
def MldEncodesWrongFalsely : Prop := mldEncodesRow.holds Try.pinned (OpenSpec.ofChange mldEncodesWrong)

/-- 'siphonlaw09.MldBack': WHATEVER THE INPUT: true; the input reads as it did. -/
def mldBackSpec : ChangeSpec := { name := "mldBack", fn := fun _ => fun
  | [d1, d2] => { results := [.lit (.bool true)], args := [d1, d2] }
  | _ => none }
def mldBackRow : OpenClaim := { program := "ythkibgdeibolfaa", sum := "e29ee121fd6fe2800cdf3db1c979ba7e46aae77a8c04b63f55a2abb28235dfa3", func := "siphon/siphonlaw09.MldBack", spec := "mldBack", inPlace := ["internal/abi.NoEscape"], unfollowed := true, recurses := true, apart := false }
def MldBackSaid : Prop := mldBackRow.holds Try.pinned (OpenSpec.ofChange mldBackSpec)

/-- ITS FALSE NEIGHBOUR: 'it returns false'. Refute it at one input. -/
def mldBackWrong : ChangeSpec := { name := "mldBack", fn := fun _ => fun
  | [d1, d2] => { results := [.lit (.bool false)], args := [d1, d2] }
  | _ => none }
def MldBackWrongFalsely : Prop := mldBackRow.holds Try.pinned (OpenSpec.ofChange mldBackWrong)

/-- 'siphonlaw09.MldTurned': WHATEVER THE INPUT: true; the input reads as it did. -/
def mldTurnedSpec : ChangeSpec := { name := "mldTurned", fn := fun _ => fun
  | [d1, d2, d3] => { results := [.lit (.bool true)], args := [d1, d2, d3] }
  | _ => none }
def mldTurnedRow : OpenClaim := { program := "ythkibgdeibolfaa", sum := "e29ee121fd6fe2800cdf3db1c979ba7e46aae77a8c04b63f55a2abb28235dfa3", func := "siphon/siphonlaw09.MldTurned", spec := "mldTurned", inPlace := ["internal/abi.NoEscape"], unfollowed := true, recurses := true, apart := false }
def MldTurnedSaid : Prop := mldTurnedRow.holds Try.pinned (OpenSpec.ofChange mldTurnedSpec)

/-- ITS FALSE NEIGHBOUR: 'it returns false'. Refute it at one input. -/
def mldTurnedWrong : ChangeSpec := { name := "mldTurned", fn := fun _ => fun
  | [d1, d2, d3] => { results := [.lit (.bool false)], args := [d1, d2, d3] }
  | _ => none }
def MldTurnedWrongFalsely : Prop := mldTurnedRow.holds Try.pinned (OpenSpec.ofChange mldTurnedWrong)

/-- 'siphonlaw09.MldShort': WHATEVER THE INPUT: true; the input reads as it did. -/
def mldShortSpec : ChangeSpec := { name := "mldShort", fn := fun _ => fun
  | [d1, d2, d3] => { results := [.lit (.bool true)], args := [d1, d2, d3] }
  | _ => none }
def mldShortRow : OpenClaim := { program := "ythkibgdeibolfaa", sum := "e29ee121fd6fe2800cdf3db1c979ba7e46aae77a8c04b63f55a2abb28235dfa3", func := "siphon/siphonlaw09.MldShort", spec := "mldShort", inPlace := ["internal/abi.NoEscape"], unfollowed := true, recurses := true, apart := false }
def MldShortSaid : Prop := mldShortRow.holds Try.pinned (OpenSpec.ofChange mldShortSpec)

/-- ITS FALSE NEIGHBOUR: 'it returns false'. Refute it at one input. -/
def mldShortWrong : ChangeSpec := { name := "mldShort", fn := fun _ => fun
  | [d1, d2, d3] => { results := [.lit (.bool false)], args := [d1, d2, d3] }
  | _ => none }
def MldShortWrongFalsely : Prop := mldShortRow.holds Try.pinned (OpenSpec.ofChange mldShortWrong)

/- THE SECOND FORM. 'bulk': how many values and letters a reading holds, each counted each time it is reached (what is shared counts as often as it is met; a slice's spare places count too). A statement '..UptoSaid' is the law's where the arguments, and the package variables that the reading takes, are together of bulk at most 1048576: NARROWER than '..Said'. Prove '..Said' where nothing that the law and all that it calls make is longer than what came in: it says more and counts as full. Else prove '..UptoSaid'. A law counts once. -/
mutual
def uptoBulk {H : Type} : DataW H → Nat
  | .lit (.string bytes) => bytes.length + 1
  | .lit _ => 1
  | .nil => 1
  | .ptr d => uptoBulk d + 1
  | .slice elems spare => uptoBulkAll elems + uptoBulkAll spare + 1
  | .agg parts => uptoBulkAll parts + 1
  | .iface _ d => uptoBulk d + 1
  | .map entries => uptoBulkEntries entries + 1
  | .held _ => 1
def uptoBulkAll {H : Type} : List (DataW H) → Nat
  | [] => 0
  | d :: r => uptoBulk d + uptoBulkAll r
def uptoBulkEntries {H : Type} : List (Lit × DataW H) → Nat
  | [] => 0
  | x :: r => uptoBulkEntry x + uptoBulkEntries r
def uptoBulkEntry {H : Type} : Lit × DataW H → Nat
  | (.string bytes, d) => bytes.length + uptoBulk d + 1
  | (_, d) => uptoBulk d + 1
 end
def uptoSmall : (H : Type) → List (DataW H) → Bool := fun _ ds => decide (uptoBulkAll ds ≤ 1048576)
def OpenSpec.upto (s : _root_.Go.ChangeSpec) : _root_.Go.OpenSpec := { _root_.Go.OpenSpec.ofChange s with cond := some uptoSmall }

/-- 'siphonlaw09.MldDecodes', WHERE WHAT IT READS IS OF BULK AT MOST 1048576: true; the input reads as it did. -/
def mldDecodesUptoRow : OpenClaim := { program := "ythkibgdeibolfaa", sum := "e29ee121fd6fe2800cdf3db1c979ba7e46aae77a8c04b63f55a2abb28235dfa3", func := "siphon/siphonlaw09.MldDecodes", spec := "mldDecodes", inPlace := ["internal/abi.NoEscape"], unfollowed := true, recurses := true, apart := false, narrowed := true }
def MldDecodesUptoSaid : Prop := mldDecodesUptoRow.holds Try.pinned (OpenSpec.upto mldDecodesSpec)

/-- 'siphonlaw09.MldEncodes', WHERE WHAT IT READS IS OF BULK AT MOST 1048576: true; the input reads as it did. -/
def mldEncodesUptoRow : OpenClaim := { program := "ythkibgdeibolfaa", sum := "e29ee121fd6fe2800cdf3db1c979ba7e46aae77a8c04b63f55a2abb28235dfa3", func := "siphon/siphonlaw09.MldEncodes", spec := "mldEncodes", inPlace := ["internal/abi.NoEscape"], unfollowed := true, recurses := true, apart := false, narrowed := true }
def MldEncodesUptoSaid : Prop := mldEncodesUptoRow.holds Try.pinned (OpenSpec.upto mldEncodesSpec)

/-- 'siphonlaw09.MldBack', WHERE WHAT IT READS IS OF BULK AT MOST 1048576: true; the input reads as it did. -/
def mldBackUptoRow : OpenClaim := { program := "ythkibgdeibolfaa", sum := "e29ee121fd6fe2800cdf3db1c979ba7e46aae77a8c04b63f55a2abb28235dfa3", func := "siphon/siphonlaw09.MldBack", spec := "mldBack", inPlace := ["internal/abi.NoEscape"], unfollowed := true, recurses := true, apart := false, narrowed := true }
def MldBackUptoSaid : Prop := mldBackUptoRow.holds Try.pinned (OpenSpec.upto mldBackSpec)

/-- 'siphonlaw09.MldTurned', WHERE WHAT IT READS IS OF BULK AT MOST 1048576: true; the input reads as it did. -/
def mldTurnedUptoRow : OpenClaim := { program := "ythkibgdeibolfaa", sum := "e29ee121fd6fe2800cdf3db1c979ba7e46aae77a8c04b63f55a2abb28235dfa3", func := "siphon/siphonlaw09.MldTurned", spec := "mldTurned", inPlace := ["internal/abi.NoEscape"], unfollowed := true, recurses := true, apart := false, narrowed := true }
def MldTurnedUptoSaid : Prop := mldTurnedUptoRow.holds Try.pinned (OpenSpec.upto mldTurnedSpec)

/-- 'siphonlaw09.MldShort', WHERE WHAT IT READS IS OF BULK AT MOST 1048576: true; the input reads as it did. -/
def mldShortUptoRow : OpenClaim := { program := "ythkibgdeibolfaa", sum := "e29ee121fd6fe2800cdf3db1c979ba7e46aae77a8c04b63f55a2abb28235dfa3", func := "siphon/siphonlaw09.MldShort", spec := "mldShort", inPlace := ["internal/abi.NoEscape"], unfollowed := true, recurses := true, apart := false, narrowed := true }
def MldShortUptoSaid : Prop := mldShortUptoRow.holds Try.pinned (OpenSpec.upto mldShortSpec)

end Rows
end Go.Proofs.Ythkibgdeibolfaa
