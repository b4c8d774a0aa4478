/-
  NARROWER THAN 'FOR EVERY INPUT', by the rows' own cells (each row's printed sentence says how): BridgeChecks: laid · BridgeSafe: laid · BridgeVlans: laid · BridgeQuiet: laid · BridgeNil: laid.
  DERIVED. THE GIVEN ROWS OF THIS SEAT. 5 by the template 'for every input the law returns true; each argument reads behind the call as it read before'; 0 by the template 'total and deterministic' (their statements: YthcdppppppgckaaGreatDoorTotals.lean).
  GIVEN WITH THE SEED: the statements are not yours to turn. If you find one false, say at which input.
  Laid BY PROGRAM, IN A SANDBOX (cutbox-rows.mjs): the forced cells as the released guide's own fill.sh prints them over the translation a98d91b14dd9406c… (all of the seat's roots in one cut). By AI agents, Wed Nov 11 2026. No macro, syntax, notation, axiom, sorry.
-/
import Derived.Test.YthcdppppppgckaaGreatDoorChecked
import GoSem.PinnedTables
import GoSem.Claim
import GoSem.ClaimJoined
import GoSem.ClaimMapViews
import Derived.JoinedTies
import Derived.KernelRfl
namespace Go.Proofs.YthcdppppppgckaaGreatDoor
/- THE CELL 'sum', in the pinned program and in every row, IS THE sha256 OF THE DUMP (.gsa) THAT YthcdppppppgckaaGreatDoorProg.lean LOADS. Nothing in Lean hashes anything: it is a label: what it is worth is what the hold of that sum in a sandbox is worth. -/
noncomputable def Tryz.pinned : Pinned := { name := "ythcdppppppgckaagreatdoor", sum := "a98d91b14dd9406cecbc4c9edfacf2af45b7bf0de126e9442e3e5098d1c48026", checked := Tryz.checked }
namespace Rows
def none {H : Type} : Left H := { results := [], args := [] }

/- WHAT THE LISTED PACKAGE-LEVEL VARIABLES READ AS WHEN THE CALL BEGINS. Each datum BY PROGRAM (the guide's laid-datum.mjs) off the statement by which the dump's own 'gosem.cut.vars' lays the variable. In a bare row this is a premise. The card (YthcdppppppgckaaGreatDoorCards.lean) ties it to the program's text. -/
def laid_unicode_utf8_acceptRanges {H : Type} : DataW H := .agg [.agg [.lit (.int .u8 128), .lit (.int .u8 191)], .agg [.lit (.int .u8 160), .lit (.int .u8 191)], .agg [.lit (.int .u8 128), .lit (.int .u8 159)], .agg [.lit (.int .u8 144), .lit (.int .u8 191)], .agg [.lit (.int .u8 128), .lit (.int .u8 143)], .agg [.lit (.int .u8 0), .lit (.int .u8 0)], .agg [.lit (.int .u8 0), .lit (.int .u8 0)], .agg [.lit (.int .u8 0), .lit (.int .u8 0)], .agg [.lit (.int .u8 0), .lit (.int .u8 0)], .agg [.lit (.int .u8 0), .lit (.int .u8 0)], .agg [.lit (.int .u8 0), .lit (.int .u8 0)], .agg [.lit (.int .u8 0), .lit (.int .u8 0)], .agg [.lit (.int .u8 0), .lit (.int .u8 0)], .agg [.lit (.int .u8 0), .lit (.int .u8 0)], .agg [.lit (.int .u8 0), .lit (.int .u8 0)], .agg [.lit (.int .u8 0), .lit (.int .u8 0)]]
/-- One of Go's own tables, pinned by name: the form's constant. -/
def laid_unicode_utf8_first : DataW Unit := Go.Pinned.utf8First

/-- 'siphonlaw23.BridgeChecks': WHATEVER THE INPUT: true; the input reads as it did. -/
def bridgeChecksSpec : ChangeSpec := { name := "bridgeChecks", fn := fun _ => fun
  | [d1, d2] => { results := [.lit (.bool true)], args := [d1, d2] }
  | _ => none }
def bridgeChecksRow : OpenClaim := { program := "ythcdppppppgckaagreatdoor", sum := "a98d91b14dd9406cecbc4c9edfacf2af45b7bf0de126e9442e3e5098d1c48026", func := "siphon/siphonlaw23.BridgeChecks", spec := "bridgeChecks", inPlace := ["internal/bytealg.IndexByteString", "internal/bytealg.IndexString", "internal/abi.NoEscape"], unfollowed := true, recurses := true, named := ["unicode/utf8.first", "unicode/utf8.acceptRanges", "internal/bytealg.MaxLen"], plainKeys := false, apart := false, laid := [("unicode/utf8.acceptRanges", laid_unicode_utf8_acceptRanges), ("unicode/utf8.first", laid_unicode_utf8_first)] }
def BridgeChecksSaid : Prop := bridgeChecksRow.holds Tryz.pinned (OpenSpec.ofChange bridgeChecksSpec)

/-- ITS FALSE NEIGHBOUR: 'it returns false'. Refute it at one input. -/
def bridgeChecksWrong : ChangeSpec := { name := "bridgeChecks", fn := fun _ => fun
  | [d1, d2] => { results := [.lit (.bool false)], args := [d1, d2] }
  | _ => none }
def BridgeChecksWrongFalsely : Prop := bridgeChecksRow.holds Tryz.pinned (OpenSpec.ofChange bridgeChecksWrong)

/-- 'siphonlaw23.BridgeSafe': WHATEVER THE INPUT: true; the input reads as it did. -/
def bridgeSafeSpec : ChangeSpec := { name := "bridgeSafe", fn := fun _ => fun
  | [d1, d2] => { results := [.lit (.bool true)], args := [d1, d2] }
  | _ => none }
def bridgeSafeRow : OpenClaim := { program := "ythcdppppppgckaagreatdoor", sum := "a98d91b14dd9406cecbc4c9edfacf2af45b7bf0de126e9442e3e5098d1c48026", func := "siphon/siphonlaw23.BridgeSafe", spec := "bridgeSafe", inPlace := ["internal/bytealg.IndexByteString", "internal/bytealg.IndexString", "internal/abi.NoEscape"], unfollowed := true, recurses := true, named := ["unicode/utf8.first", "unicode/utf8.acceptRanges", "internal/bytealg.MaxLen"], plainKeys := false, apart := false, laid := [("unicode/utf8.acceptRanges", laid_unicode_utf8_acceptRanges), ("unicode/utf8.first", laid_unicode_utf8_first)] }
def BridgeSafeSaid : Prop := bridgeSafeRow.holds Tryz.pinned (OpenSpec.ofChange bridgeSafeSpec)

/-- ITS FALSE NEIGHBOUR: 'it returns false'. Refute it at one input. -/
def bridgeSafeWrong : ChangeSpec := { name := "bridgeSafe", fn := fun _ => fun
  | [d1, d2] => { results := [.lit (.bool false)], args := [d1, d2] }
  | _ => none }
def BridgeSafeWrongFalsely : Prop := bridgeSafeRow.holds Tryz.pinned (OpenSpec.ofChange bridgeSafeWrong)

/-- 'siphonlaw23.BridgeVlans': WHATEVER THE INPUT: true; the input reads as it did. -/
def bridgeVlansSpec : ChangeSpec := { name := "bridgeVlans", fn := fun _ => fun
  | [d1, d2] => { results := [.lit (.bool true)], args := [d1, d2] }
  | _ => none }
def bridgeVlansRow : OpenClaim := { program := "ythcdppppppgckaagreatdoor", sum := "a98d91b14dd9406cecbc4c9edfacf2af45b7bf0de126e9442e3e5098d1c48026", func := "siphon/siphonlaw23.BridgeVlans", spec := "bridgeVlans", inPlace := ["internal/bytealg.IndexByteString", "internal/bytealg.IndexString", "internal/abi.NoEscape"], unfollowed := true, recurses := true, named := ["unicode/utf8.first", "unicode/utf8.acceptRanges", "internal/bytealg.MaxLen"], plainKeys := false, apart := false, laid := [("unicode/utf8.acceptRanges", laid_unicode_utf8_acceptRanges), ("unicode/utf8.first", laid_unicode_utf8_first)] }
def BridgeVlansSaid : Prop := bridgeVlansRow.holds Tryz.pinned (OpenSpec.ofChange bridgeVlansSpec)

/-- ITS FALSE NEIGHBOUR: 'it returns false'. Refute it at one input. -/
def bridgeVlansWrong : ChangeSpec := { name := "bridgeVlans", fn := fun _ => fun
  | [d1, d2] => { results := [.lit (.bool false)], args := [d1, d2] }
  | _ => none }
def BridgeVlansWrongFalsely : Prop := bridgeVlansRow.holds Tryz.pinned (OpenSpec.ofChange bridgeVlansWrong)

/-- 'siphonlaw23.BridgeQuiet': WHATEVER THE INPUT: true; the input reads as it did. -/
def bridgeQuietSpec : ChangeSpec := { name := "bridgeQuiet", fn := fun _ => fun
  | [d1, d2, d3] => { results := [.lit (.bool true)], args := [d1, d2, d3] }
  | _ => none }
def bridgeQuietRow : OpenClaim := { program := "ythcdppppppgckaagreatdoor", sum := "a98d91b14dd9406cecbc4c9edfacf2af45b7bf0de126e9442e3e5098d1c48026", func := "siphon/siphonlaw23.BridgeQuiet", spec := "bridgeQuiet", inPlace := ["internal/bytealg.IndexByteString", "internal/bytealg.IndexString", "internal/abi.NoEscape"], unfollowed := true, recurses := true, named := ["unicode/utf8.first", "unicode/utf8.acceptRanges", "internal/bytealg.MaxLen"], plainKeys := false, apart := false, laid := [("unicode/utf8.acceptRanges", laid_unicode_utf8_acceptRanges), ("unicode/utf8.first", laid_unicode_utf8_first)] }
def BridgeQuietSaid : Prop := bridgeQuietRow.holds Tryz.pinned (OpenSpec.ofChange bridgeQuietSpec)

/-- ITS FALSE NEIGHBOUR: 'it returns false'. Refute it at one input. -/
def bridgeQuietWrong : ChangeSpec := { name := "bridgeQuiet", fn := fun _ => fun
  | [d1, d2, d3] => { results := [.lit (.bool false)], args := [d1, d2, d3] }
  | _ => none }
def BridgeQuietWrongFalsely : Prop := bridgeQuietRow.holds Tryz.pinned (OpenSpec.ofChange bridgeQuietWrong)

/-- 'siphonlaw23.BridgeNil': WHATEVER THE INPUT: true; the input reads as it did. -/
def bridgeNilSpec : ChangeSpec := { name := "bridgeNil", fn := fun _ => fun
  | [d1, d2] => { results := [.lit (.bool true)], args := [d1, d2] }
  | _ => none }
def bridgeNilRow : OpenClaim := { program := "ythcdppppppgckaagreatdoor", sum := "a98d91b14dd9406cecbc4c9edfacf2af45b7bf0de126e9442e3e5098d1c48026", func := "siphon/siphonlaw23.BridgeNil", spec := "bridgeNil", inPlace := ["internal/bytealg.IndexByteString", "internal/bytealg.IndexString", "internal/abi.NoEscape"], unfollowed := true, recurses := true, named := ["unicode/utf8.first", "unicode/utf8.acceptRanges", "internal/bytealg.MaxLen"], plainKeys := false, apart := false, laid := [("unicode/utf8.acceptRanges", laid_unicode_utf8_acceptRanges), ("unicode/utf8.first", laid_unicode_utf8_first)] }
def BridgeNilSaid : Prop := bridgeNilRow.holds Tryz.pinned (OpenSpec.ofChange bridgeNilSpec)

/-- ITS FALSE NEIGHBOUR: 'it returns false'. Refute it at one input. -/
def bridgeNilWrong : ChangeSpec := { name := "bridgeNil", fn := fun _ => fun
  | [d1, d2] => { results := [.lit (.bool false)], args := [d1, d2] }
  | _ => none }
def BridgeNilWrongFalsely : Prop := bridgeNilRow.holds Tryz.pinned (OpenSpec.ofChange bridgeNilWrong)

/- THE SECOND FORM. 'bulk': how many values and letters a reading holds, each counted each time it is reached (what is shared counts as often as it is met; a slice's spare places count too). A statement '..UptoSaid' is the law's where the arguments, and the package variables that the reading takes, are together of bulk at most 1048576: NARROWER than '..Said'. Prove '..Said' where nothing that the law and all that it calls make is longer than what came in: it says more and counts as full. Else prove '..UptoSaid'. A law counts once. -/
mutual
def uptoBulk {H : Type} : DataW H → Nat
  | .lit (.string bytes) => bytes.length + 1
  | .lit _ => 1
  | .nil => 1
  | .ptr d => uptoBulk d + 1
  | .slice elems spare => uptoBulkAll elems + uptoBulkAll spare + 1
  | .agg parts => uptoBulkAll parts + 1
  | .iface _ d => uptoBulk d + 1
  | .map entries => uptoBulkEntries entries + 1
  | .held _ => 1
def uptoBulkAll {H : Type} : List (DataW H) → Nat
  | [] => 0
  | d :: r => uptoBulk d + uptoBulkAll r
def uptoBulkEntries {H : Type} : List (Lit × DataW H) → Nat
  | [] => 0
  | x :: r => uptoBulkEntry x + uptoBulkEntries r
def uptoBulkEntry {H : Type} : Lit × DataW H → Nat
  | (.string bytes, d) => bytes.length + uptoBulk d + 1
  | (_, d) => uptoBulk d + 1
 end
def uptoSmall : (H : Type) → List (DataW H) → Bool := fun _ ds => decide (uptoBulkAll ds ≤ 1048576)
def OpenSpec.upto (s : _root_.Go.ChangeSpec) : _root_.Go.OpenSpec := { _root_.Go.OpenSpec.ofChange s with cond := some uptoSmall }

/-- 'siphonlaw23.BridgeChecks', WHERE WHAT IT READS IS OF BULK AT MOST 1048576: true; the input reads as it did. -/
def bridgeChecksUptoRow : OpenClaim := { program := "ythcdppppppgckaagreatdoor", sum := "a98d91b14dd9406cecbc4c9edfacf2af45b7bf0de126e9442e3e5098d1c48026", func := "siphon/siphonlaw23.BridgeChecks", spec := "bridgeChecks", inPlace := ["internal/bytealg.IndexByteString", "internal/bytealg.IndexString", "internal/abi.NoEscape"], unfollowed := true, recurses := true, named := ["unicode/utf8.first", "unicode/utf8.acceptRanges", "internal/bytealg.MaxLen"], plainKeys := false, apart := false, laid := [("unicode/utf8.acceptRanges", laid_unicode_utf8_acceptRanges), ("unicode/utf8.first", laid_unicode_utf8_first)], narrowed := true }
def BridgeChecksUptoSaid : Prop := bridgeChecksUptoRow.holds Tryz.pinned (OpenSpec.upto bridgeChecksSpec)

/-- 'siphonlaw23.BridgeSafe', WHERE WHAT IT READS IS OF BULK AT MOST 1048576: true; the input reads as it did. -/
def bridgeSafeUptoRow : OpenClaim := { program := "ythcdppppppgckaagreatdoor", sum := "a98d91b14dd9406cecbc4c9edfacf2af45b7bf0de126e9442e3e5098d1c48026", func := "siphon/siphonlaw23.BridgeSafe", spec := "bridgeSafe", inPlace := ["internal/bytealg.IndexByteString", "internal/bytealg.IndexString", "internal/abi.NoEscape"], unfollowed := true, recurses := true, named := ["unicode/utf8.first", "unicode/utf8.acceptRanges", "internal/bytealg.MaxLen"], plainKeys := false, apart := false, laid := [("unicode/utf8.acceptRanges", laid_unicode_utf8_acceptRanges), ("unicode/utf8.first", laid_unicode_utf8_first)], narrowed := true }
def BridgeSafeUptoSaid : Prop := bridgeSafeUptoRow.holds Tryz.pinned (OpenSpec.upto bridgeSafeSpec)

/-- 'siphonlaw23.BridgeVlans', WHERE WHAT IT READS IS OF BULK AT MOST 1048576: true; the input reads as it did. -/
def bridgeVlansUptoRow : OpenClaim := { program := "ythcdppppppgckaagreatdoor", sum := "a98d91b14dd9406cecbc4c9edfacf2af45b7bf0de126e9442e3e5098d1c48026", func := "siphon/siphonlaw23.BridgeVlans", spec := "bridgeVlans", inPlace := ["internal/bytealg.IndexByteString", "internal/bytealg.IndexString", "internal/abi.NoEscape"], unfollowed := true, recurses := true, named := ["unicode/utf8.first", "unicode/utf8.acceptRanges", "internal/bytealg.MaxLen"], plainKeys := false, apart := false, laid := [("unicode/utf8.acceptRanges", laid_unicode_utf8_acceptRanges), ("unicode/utf8.first", laid_unicode_utf8_first)], narrowed := true }
def BridgeVlansUptoSaid : Prop := bridgeVlansUptoRow.holds Tryz.pinned (OpenSpec.upto bridgeVlansSpec)

/-- 'siphonlaw23.BridgeQuiet', WHERE WHAT IT READS IS OF BULK AT MOST 1048576: true; the input reads as it did. -/
def bridgeQuietUptoRow : OpenClaim := { program := "ythcdppppppgckaagreatdoor", sum := "a98d91b14dd9406cecbc4c9edfacf2af45b7bf0de126e9442e3e5098d1c48026", func := "siphon/siphonlaw23.BridgeQuiet", spec := "bridgeQuiet", inPlace := ["internal/bytealg.IndexByteString", "internal/bytealg.IndexString", "internal/abi.NoEscape"], unfollowed := true, recurses := true, named := ["unicode/utf8.first", "unicode/utf8.acceptRanges", "internal/bytealg.MaxLen"], plainKeys := false, apart := false, laid := [("unicode/utf8.acceptRanges", laid_unicode_utf8_acceptRanges), ("unicode/utf8.first", laid_unicode_utf8_first)], narrowed := true }
def BridgeQuietUptoSaid : Prop := bridgeQuietUptoRow.holds Tryz.pinned (OpenSpec.upto bridgeQuietSpec)

/-- 'siphonlaw23.BridgeNil', WHERE WHAT IT READS IS OF BULK AT MOST 1048576: true; the input reads as it did. -/
def bridgeNilUptoRow : OpenClaim := { program := "ythcdppppppgckaagreatdoor", sum := "a98d91b14dd9406cecbc4c9edfacf2af45b7bf0de126e9442e3e5098d1c48026", func := "siphon/siphonlaw23.BridgeNil", spec := "bridgeNil", inPlace := ["internal/bytealg.IndexByteString", "internal/bytealg.IndexString", "internal/abi.NoEscape"], unfollowed := true, recurses := true, named := ["unicode/utf8.first", "unicode/utf8.acceptRanges", "internal/bytealg.MaxLen"], plainKeys := false, apart := false, laid := [("unicode/utf8.acceptRanges", laid_unicode_utf8_acceptRanges), ("unicode/utf8.first", laid_unicode_utf8_first)], narrowed := true }
def BridgeNilUptoSaid : Prop := bridgeNilUptoRow.holds Tryz.pinned (OpenSpec.upto bridgeNilSpec)

end Rows
end Go.Proofs.YthcdppppppgckaaGreatDoor
