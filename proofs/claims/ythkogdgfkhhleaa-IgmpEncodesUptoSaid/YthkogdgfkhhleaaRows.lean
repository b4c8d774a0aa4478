/-
  No cell of these rows narrows 'for every input' (looked for: loops, veiled, ifaces, maps, wideKeys, modest, calm, conditions, laid).
  DERIVED. THE GIVEN ROWS OF THIS SEAT. 7 by the template 'for every input the law returns true; each argument reads behind the call as it read before'; 0 by the template 'total and deterministic' (their statements: YthkogdgfkhhleaaTotals.lean).
  GIVEN WITH THE SEED: the statements are not yours to turn. If you find one false, say at which input.
  Laid BY PROGRAM, IN A SANDBOX (cutbox-rows.mjs): the forced cells as the released guide's own fill.sh prints them over the translation 378b48101136750d… (all of the seat's roots in one cut). By AI agents, Wed Nov 11 2026. No macro, syntax, notation, axiom, sorry.
-/
import Derived.Test.YthkogdgfkhhleaaChecked
import GoSem.Claim
import GoSem.ClaimJoined
import GoSem.ClaimMapViews
import Derived.JoinedTies
import Derived.KernelRfl
namespace Go.Proofs.Ythkogdgfkhhleaa
/- THE CELL 'sum', in the pinned program and in every row, IS THE sha256 OF THE DUMP (.gsa) THAT YthkogdgfkhhleaaProg.lean LOADS. Nothing in Lean hashes anything: it is a label: what it is worth is what the hold of that sum in a sandbox is worth. -/
noncomputable def Try.pinned : Pinned := { name := "ythkogdgfkhhleaa", sum := "378b48101136750d664c24561a04c752833355130c5aa379b375fce023397af4", checked := Try.checked }
namespace Rows
def none {H : Type} : Left H := { results := [], args := [] }

/-- 'siphonlaw08.IgmpDecodes': WHATEVER THE INPUT: true; the input reads as it did. -/
def igmpDecodesSpec : ChangeSpec := { name := "igmpDecodes", fn := fun _ => fun
  | [d] => { results := [.lit (.bool true)], args := [d] }
  | _ => none }
def igmpDecodesRow : OpenClaim := { program := "ythkogdgfkhhleaa", sum := "378b48101136750d664c24561a04c752833355130c5aa379b375fce023397af4", func := "siphon/siphonlaw08.IgmpDecodes", spec := "igmpDecodes", inPlace := ["internal/abi.NoEscape"], unfollowed := true, recurses := true, apart := false }
def IgmpDecodesSaid : Prop := igmpDecodesRow.holds Try.pinned (OpenSpec.ofChange igmpDecodesSpec)

/-- ITS FALSE NEIGHBOUR: 'it returns false'. Refute it at one input. -/
def igmpDecodesWrong : ChangeSpec := { name := "igmpDecodes", fn := fun _ => fun
  | [d] => { results := [.lit (.bool false)], args := [d] }
  | _ => none }
def IgmpDecodesWrongFalsely : Prop := igmpDecodesRow.holds Try.pinned (OpenSpec.ofChange igmpDecodesWrong)

/-- 'siphonlaw08.IgmpEncodes': WHATEVER THE INPUT: true; the input reads as it did. -/
def igmpEncodesSpec : ChangeSpec := { name := "igmpEncodes", fn := fun _ => fun
  | [d] => { results := [.lit (.bool true)], args := [d] }
  | _ => none }
def igmpEncodesRow : OpenClaim := { program := "ythkogdgfkhhleaa", sum := "378b48101136750d664c24561a04c752833355130c5aa379b375fce023397af4", func := "siphon/siphonlaw08.IgmpEncodes", spec := "igmpEncodes", inPlace := ["internal/abi.NoEscape"], unfollowed := true, recurses := true, apart := false }
def IgmpEncodesSaid : Prop := igmpEncodesRow.holds Try.pinned (OpenSpec.ofChange igmpEncodesSpec)

/-- ITS FALSE NEIGHBOUR: 'it returns false'. Refute it at one input. -/
def igmpEncodesWrong : ChangeSpec := { name := "igmpEncodes", fn := fun _ => fun
  | [d] => { results := [.lit (.bool false)], args := [d] }
  | _ => none }
def IgmpEncodesWrongFalsely : Prop := igmpEncodesRow.holds Try.pinned (OpenSpec.ofChange igmpEncodesWrong)

/-- 'siphonlaw08.IgmpRecords': WHATEVER THE INPUT: true; the input reads as it did. -/
def igmpRecordsSpec : ChangeSpec := { name := "igmpRecords", fn := fun _ => fun
  | [d] => { results := [.lit (.bool true)], args := [d] }
  | _ => none }
def igmpRecordsRow : OpenClaim := { program := "ythkogdgfkhhleaa", sum := "378b48101136750d664c24561a04c752833355130c5aa379b375fce023397af4", func := "siphon/siphonlaw08.IgmpRecords", spec := "igmpRecords", inPlace := ["internal/abi.NoEscape"], unfollowed := true, recurses := true, apart := false }
def IgmpRecordsSaid : Prop := igmpRecordsRow.holds Try.pinned (OpenSpec.ofChange igmpRecordsSpec)

/-- ITS FALSE NEIGHBOUR: 'it returns false'. Refute it at one input. -/
def igmpRecordsWrong : ChangeSpec := { name := "igmpRecords", fn := fun _ => fun
  | [d] => { results := [.lit (.bool false)], args := [d] }
  | _ => none }
def IgmpRecordsWrongFalsely : Prop := igmpRecordsRow.holds Try.pinned (OpenSpec.ofChange igmpRecordsWrong)

/-- 'siphonlaw08.IgmpBack': WHATEVER THE INPUT: true; the input reads as it did. -/
def igmpBackSpec : ChangeSpec := { name := "igmpBack", fn := fun _ => fun
  | [d] => { results := [.lit (.bool true)], args := [d] }
  | _ => none }
def igmpBackRow : OpenClaim := { program := "ythkogdgfkhhleaa", sum := "378b48101136750d664c24561a04c752833355130c5aa379b375fce023397af4", func := "siphon/siphonlaw08.IgmpBack", spec := "igmpBack", inPlace := ["internal/abi.NoEscape"], unfollowed := true, recurses := true, apart := false }
def IgmpBackSaid : Prop := igmpBackRow.holds Try.pinned (OpenSpec.ofChange igmpBackSpec)

/-- ITS FALSE NEIGHBOUR: 'it returns false'. Refute it at one input. -/
def igmpBackWrong : ChangeSpec := { name := "igmpBack", fn := fun _ => fun
  | [d] => { results := [.lit (.bool false)], args := [d] }
  | _ => none }
def IgmpBackWrongFalsely : Prop := igmpBackRow.holds Try.pinned (OpenSpec.ofChange igmpBackWrong)

/-- 'siphonlaw08.IgmpTurned': WHATEVER THE INPUT: true; the input reads as it did. -/
def igmpTurnedSpec : ChangeSpec := { name := "igmpTurned", fn := fun _ => fun
  | [d1, d2] => { results := [.lit (.bool true)], args := [d1, d2] }
  | _ => none }
def igmpTurnedRow : OpenClaim := { program := "ythkogdgfkhhleaa", sum := "378b48101136750d664c24561a04c752833355130c5aa379b375fce023397af4", func := "siphon/siphonlaw08.IgmpTurned", spec := "igmpTurned", inPlace := ["internal/abi.NoEscape"], unfollowed := true, recurses := true, apart := false }
def IgmpTurnedSaid : Prop := igmpTurnedRow.holds Try.pinned (OpenSpec.ofChange igmpTurnedSpec)

/-- ITS FALSE NEIGHBOUR: 'it returns false'. Refute it at one input. -/
def igmpTurnedWrong : ChangeSpec := { name := "igmpTurned", fn := fun _ => fun
  | [d1, d2] => { results := [.lit (.bool false)], args := [d1, d2] }
  | _ => none }
def IgmpTurnedWrongFalsely : Prop := igmpTurnedRow.holds Try.pinned (OpenSpec.ofChange igmpTurnedWrong)

/-- 'siphonlaw08.IgmpUnknown': WHATEVER THE INPUT: true; the input reads as it did. -/
def igmpUnknownSpec : ChangeSpec := { name := "igmpUnknown", fn := fun _ => fun
  | [d1, d2] => { results := [.lit (.bool true)], args := [d1, d2] }
  | _ => none }
def igmpUnknownRow : OpenClaim := { program := "ythkogdgfkhhleaa", sum := "378b48101136750d664c24561a04c752833355130c5aa379b375fce023397af4", func := "siphon/siphonlaw08.IgmpUnknown", spec := "igmpUnknown", inPlace := ["internal/abi.NoEscape"], unfollowed := true, recurses := true, apart := false }
def IgmpUnknownSaid : Prop := igmpUnknownRow.holds Try.pinned (OpenSpec.ofChange igmpUnknownSpec)

/-- ITS FALSE NEIGHBOUR: 'it returns false'. Refute it at one input. -/
def igmpUnknownWrong : ChangeSpec := { name := "igmpUnknown", fn := fun _ => fun
  | [d1, d2] => { results := [.lit (.bool false)], args := [d1, d2] }
  | _ => none }
def IgmpUnknownWrongFalsely : Prop := igmpUnknownRow.holds Try.pinned (OpenSpec.ofChange igmpUnknownWrong)

/-- 'siphonlaw08.IgmpFree': WHATEVER THE INPUT: true; the input reads as it did. -/
def igmpFreeSpec : ChangeSpec := { name := "igmpFree", fn := fun _ => fun
  | [d1, d2] => { results := [.lit (.bool true)], args := [d1, d2] }
  | _ => none }
def igmpFreeRow : OpenClaim := { program := "ythkogdgfkhhleaa", sum := "378b48101136750d664c24561a04c752833355130c5aa379b375fce023397af4", func := "siphon/siphonlaw08.IgmpFree", spec := "igmpFree", inPlace := ["internal/abi.NoEscape"], unfollowed := true, recurses := true, apart := false }
def IgmpFreeSaid : Prop := igmpFreeRow.holds Try.pinned (OpenSpec.ofChange igmpFreeSpec)

/-- ITS FALSE NEIGHBOUR: 'it returns false'. Refute it at one input. -/
def igmpFreeWrong : ChangeSpec := { name := "igmpFree", fn := fun _ => fun
  | [d1, d2] => { results := [.lit (.bool false)], args := [d1, d2] }
  | _ => none }
def IgmpFreeWrongFalsely : Prop := igmpFreeRow.holds Try.pinned (OpenSpec.ofChange igmpFreeWrong)

/- THE SECOND FORM. 'bulk': how many values and letters a reading holds, each counted each time it is reached (what is shared counts as often as it is met; a slice's spare places count too). A statement '..UptoSaid' is the law's where the arguments, and the package variables that the reading takes, are together of bulk at most 1048576: NARROWER than '..Said'. Prove '..Said' where nothing that the law and all that it calls make is longer than what came in: it says more and counts as full. Else prove '..UptoSaid'. A law counts once. -/
mutual
def uptoBulk {H : Type} : DataW H → Nat
  | .lit (.string bytes) => bytes.length + 1
  | .lit _ => 1
  | .nil => 1
  | .ptr d => uptoBulk d + 1
  | .slice elems spare => uptoBulkAll elems + uptoBulkAll spare + 1
  | .agg parts => uptoBulkAll parts + 1
  | .iface _ d => uptoBulk d + 1
  | .map entries => uptoBulkEntries entries + 1
  | .held _ => 1
def uptoBulkAll {H : Type} : List (DataW H) → Nat
  | [] => 0
  | d :: r => uptoBulk d + uptoBulkAll r
def uptoBulkEntries {H : Type} : List (Lit × DataW H) → Nat
  | [] => 0
  | x :: r => uptoBulkEntry x + uptoBulkEntries r
def uptoBulkEntry {H : Type} : Lit × DataW H → Nat
  | (.string bytes, d) => bytes.length + uptoBulk d + 1
  | (_, d) => uptoBulk d + 1
 end
def uptoSmall : (H : Type) → List (DataW H) → Bool := fun _ ds => decide (uptoBulkAll ds ≤ 1048576)
def OpenSpec.upto (s : _root_.Go.ChangeSpec) : _root_.Go.OpenSpec := { _root_.Go.OpenSpec.ofChange s with cond := some uptoSmall }

/-- 'siphonlaw08.IgmpDecodes', WHERE WHAT IT READS IS OF BULK AT MOST 1048576: true; the input reads as it did. -/
def igmpDecodesUptoRow : OpenClaim := { program := "ythkogdgfkhhleaa", sum := "378b48101136750d664c24561a04c752833355130c5aa379b375fce023397af4", func := "siphon/siphonlaw08.IgmpDecodes", spec := "igmpDecodes", inPlace := ["internal/abi.NoEscape"], unfollowed := true, recurses := true, apart := false, narrowed := true }
def IgmpDecodesUptoSaid : Prop := igmpDecodesUptoRow.holds Try.pinned (OpenSpec.upto igmpDecodesSpec)

/-- 'siphonlaw08.IgmpEncodes', WHERE WHAT IT READS IS OF BULK AT MOST 1048576: true; the input reads as it did. -/
def igmpEncodesUptoRow : OpenClaim := { program := "ythkogdgfkhhleaa", sum := "378b48101136750d664c24561a04c752833355130c5aa379b375fce023397af4", func := "siphon/siphonlaw08.IgmpEncodes", spec := "igmpEncodes", inPlace := ["internal/abi.NoEscape"], unfollowed := true, recurses := true, apart := false, narrowed := true }
def IgmpEncodesUptoSaid : Prop := igmpEncodesUptoRow.holds Try.pinned (OpenSpec.upto igmpEncodesSpec)

/-- 'siphonlaw08.IgmpRecords', WHERE WHAT IT READS IS OF BULK AT MOST 1048576: true; the input reads as it did. -/
def igmpRecordsUptoRow : OpenClaim := { program := "ythkogdgfkhhleaa", sum := "378b48101136750d664c24561a04c752833355130c5aa379b375fce023397af4", func := "siphon/siphonlaw08.IgmpRecords", spec := "igmpRecords", inPlace := ["internal/abi.NoEscape"], unfollowed := true, recurses := true, apart := false, narrowed := true }
def IgmpRecordsUptoSaid : Prop := igmpRecordsUptoRow.holds Try.pinned (OpenSpec.upto igmpRecordsSpec)

/-- 'siphonlaw08.IgmpBack', WHERE WHAT IT READS IS OF BULK AT MOST 1048576: true; the input reads as it did. -/
def igmpBackUptoRow : OpenClaim := { program := "ythkogdgfkhhleaa", sum := "378b48101136750d664c24561a04c752833355130c5aa379b375fce023397af4", func := "siphon/siphonlaw08.IgmpBack", spec := "igmpBack", inPlace := ["internal/abi.NoEscape"], unfollowed := true, recurses := true, apart := false, narrowed := true }
def IgmpBackUptoSaid : Prop := igmpBackUptoRow.holds Try.pinned (OpenSpec.upto igmpBackSpec)

/-- 'siphonlaw08.IgmpTurned', WHERE WHAT IT READS IS OF BULK AT MOST 1048576: true; the input reads as it did. -/
def igmpTurnedUptoRow : OpenClaim := { program := "ythkogdgfkhhleaa", sum := "378b48101136750d664c24561a04c752833355130c5aa379b375fce023397af4", func := "siphon/siphonlaw08.IgmpTurned", spec := "igmpTurned", inPlace := ["internal/abi.NoEscape"], unfollowed := true, recurses := true, apart := false, narrowed := true }
def IgmpTurnedUptoSaid : Prop := igmpTurnedUptoRow.holds Try.pinned (OpenSpec.upto igmpTurnedSpec)

/-- 'siphonlaw08.IgmpUnknown', WHERE WHAT IT READS IS OF BULK AT MOST 1048576: true; the input reads as it did. -/
def igmpUnknownUptoRow : OpenClaim := { program := "ythkogdgfkhhleaa", sum := "378b48101136750d664c24561a04c752833355130c5aa379b375fce023397af4", func := "siphon/siphonlaw08.IgmpUnknown", spec := "igmpUnknown", inPlace := ["internal/abi.NoEscape"], unfollowed := true, recurses := true, apart := false, narrowed := true }
def IgmpUnknownUptoSaid : Prop := igmpUnknownUptoRow.holds Try.pinned (OpenSpec.upto igmpUnknownSpec)

/-- 'siphonlaw08.IgmpFree', WHERE WHAT IT READS IS OF BULK AT MOST 1048576: true; the input reads as it did. -/
def igmpFreeUptoRow : OpenClaim := { program := "ythkogdgfkhhleaa", sum := "378b48101136750d664c24561a04c752833355130c5aa379b375fce023397af4", func := "siphon/siphonlaw08.IgmpFree", spec := "igmpFree", inPlace := ["internal/abi.NoEscape"], unfollowed := true, recurses := true, apart := false, narrowed := true }
def IgmpFreeUptoSaid : Prop := igmpFreeUptoRow.holds Try.pinned (OpenSpec.upto igmpFreeSpec)

end Rows
end Go.Proofs.Ythkogdgfkhhleaa
