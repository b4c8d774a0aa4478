/-
  DERIVED. GIVEN WITH THE SEED: THE CARDS: each row of YthcdppppppgckaaGreatDoorRows.lean that lists a variable, with what it lists TIED to the program's text (the seventh form; the later family's looks); each row that meets fmt, with fmt's text TOLD by the authors' own Lean function (tested against real Go, not proved from fmt's source: count such statements apart). THE CARD IS WHAT COUNTS. Prove the row's statement (the work); the ties are given (YthcdppppppgckaaGreatDoorTie.lean); close each card by the builder's one call (the guide's Derived/Test/ToyasCard.lean, 'card_holds'). Laid BY PROGRAM, IN A SANDBOX (cutbox-door.mjs). By AI agents, Wed Nov 11 2026. No macro, syntax, notation, axiom, sorry.
-/
import Derived.Test.YthcdppppppgckaaGreatDoorRows
import GoSem.ClaimSeven
namespace Go.Proofs.YthcdppppppgckaaGreatDoor
namespace Rows

/-- THE TIED CARD OF 'siphonlaw23.BridgeChecks'. -/
def bridgeChecksCard : Claim7 := { stood := { row := bridgeChecksRow, standIns := [], harness := (true, "3bde649d46f2bd328a55afcdfbebec262ecc2d54029a1feb6539b1ebbaff4034"), looks := true }, kinds := [], alts := [], laidByText := true, laidKinds := [.data, .pinned], laidTests := true, laidLooks := .later }
def BridgeChecksCardSaid : Prop := Claim7.holds Tryz.pinned (.plain (OpenSpec.ofChange bridgeChecksSpec)) bridgeChecksCard

/-- THE TIED CARD OF 'siphonlaw23.BridgeSafe'. -/
def bridgeSafeCard : Claim7 := { stood := { row := bridgeSafeRow, standIns := [], harness := (true, "3bde649d46f2bd328a55afcdfbebec262ecc2d54029a1feb6539b1ebbaff4034"), looks := true }, kinds := [], alts := [], laidByText := true, laidKinds := [.data, .pinned], laidTests := true, laidLooks := .later }
def BridgeSafeCardSaid : Prop := Claim7.holds Tryz.pinned (.plain (OpenSpec.ofChange bridgeSafeSpec)) bridgeSafeCard

/-- THE TIED CARD OF 'siphonlaw23.BridgeVlans'. -/
def bridgeVlansCard : Claim7 := { stood := { row := bridgeVlansRow, standIns := [], harness := (true, "3bde649d46f2bd328a55afcdfbebec262ecc2d54029a1feb6539b1ebbaff4034"), looks := true }, kinds := [], alts := [], laidByText := true, laidKinds := [.data, .pinned], laidTests := true, laidLooks := .later }
def BridgeVlansCardSaid : Prop := Claim7.holds Tryz.pinned (.plain (OpenSpec.ofChange bridgeVlansSpec)) bridgeVlansCard

/-- THE TIED CARD OF 'siphonlaw23.BridgeQuiet'. -/
def bridgeQuietCard : Claim7 := { stood := { row := bridgeQuietRow, standIns := [], harness := (true, "3bde649d46f2bd328a55afcdfbebec262ecc2d54029a1feb6539b1ebbaff4034"), looks := true }, kinds := [], alts := [], laidByText := true, laidKinds := [.data, .pinned], laidTests := true, laidLooks := .later }
def BridgeQuietCardSaid : Prop := Claim7.holds Tryz.pinned (.plain (OpenSpec.ofChange bridgeQuietSpec)) bridgeQuietCard

/-- THE TIED CARD OF 'siphonlaw23.BridgeNil'. -/
def bridgeNilCard : Claim7 := { stood := { row := bridgeNilRow, standIns := [], harness := (true, "3bde649d46f2bd328a55afcdfbebec262ecc2d54029a1feb6539b1ebbaff4034"), looks := true }, kinds := [], alts := [], laidByText := true, laidKinds := [.data, .pinned], laidTests := true, laidLooks := .later }
def BridgeNilCardSaid : Prop := Claim7.holds Tryz.pinned (.plain (OpenSpec.ofChange bridgeNilSpec)) bridgeNilCard

/-- THE SECOND FORM's CARD OF 'siphonlaw23.BridgeChecks'. -/
def bridgeChecksUptoCard : Claim7 := { stood := { row := bridgeChecksUptoRow, standIns := [], harness := (true, "3bde649d46f2bd328a55afcdfbebec262ecc2d54029a1feb6539b1ebbaff4034"), looks := true }, kinds := [], alts := [], laidByText := true, laidKinds := [.data, .pinned], laidTests := true, laidLooks := .later }
def BridgeChecksUptoCardSaid : Prop := Claim7.holds Tryz.pinned (.plain (OpenSpec.upto bridgeChecksSpec)) bridgeChecksUptoCard

/-- THE SECOND FORM's CARD OF 'siphonlaw23.BridgeSafe'. -/
def bridgeSafeUptoCard : Claim7 := { stood := { row := bridgeSafeUptoRow, standIns := [], harness := (true, "3bde649d46f2bd328a55afcdfbebec262ecc2d54029a1feb6539b1ebbaff4034"), looks := true }, kinds := [], alts := [], laidByText := true, laidKinds := [.data, .pinned], laidTests := true, laidLooks := .later }
def BridgeSafeUptoCardSaid : Prop := Claim7.holds Tryz.pinned (.plain (OpenSpec.upto bridgeSafeSpec)) bridgeSafeUptoCard

/-- THE SECOND FORM's CARD OF 'siphonlaw23.BridgeVlans'. -/
def bridgeVlansUptoCard : Claim7 := { stood := { row := bridgeVlansUptoRow, standIns := [], harness := (true, "3bde649d46f2bd328a55afcdfbebec262ecc2d54029a1feb6539b1ebbaff4034"), looks := true }, kinds := [], alts := [], laidByText := true, laidKinds := [.data, .pinned], laidTests := true, laidLooks := .later }
def BridgeVlansUptoCardSaid : Prop := Claim7.holds Tryz.pinned (.plain (OpenSpec.upto bridgeVlansSpec)) bridgeVlansUptoCard

/-- THE SECOND FORM's CARD OF 'siphonlaw23.BridgeQuiet'. -/
def bridgeQuietUptoCard : Claim7 := { stood := { row := bridgeQuietUptoRow, standIns := [], harness := (true, "3bde649d46f2bd328a55afcdfbebec262ecc2d54029a1feb6539b1ebbaff4034"), looks := true }, kinds := [], alts := [], laidByText := true, laidKinds := [.data, .pinned], laidTests := true, laidLooks := .later }
def BridgeQuietUptoCardSaid : Prop := Claim7.holds Tryz.pinned (.plain (OpenSpec.upto bridgeQuietSpec)) bridgeQuietUptoCard

/-- THE SECOND FORM's CARD OF 'siphonlaw23.BridgeNil'. -/
def bridgeNilUptoCard : Claim7 := { stood := { row := bridgeNilUptoRow, standIns := [], harness := (true, "3bde649d46f2bd328a55afcdfbebec262ecc2d54029a1feb6539b1ebbaff4034"), looks := true }, kinds := [], alts := [], laidByText := true, laidKinds := [.data, .pinned], laidTests := true, laidLooks := .later }
def BridgeNilUptoCardSaid : Prop := Claim7.holds Tryz.pinned (.plain (OpenSpec.upto bridgeNilSpec)) bridgeNilUptoCard
end Rows
end Go.Proofs.YthcdppppppgckaaGreatDoor
