/-
  DERIVED. GIVEN WITH THE SEED: THE CARDS: each row of YtjeaoopamebgjaaGreatDoorRows.lean that lists a variable, with what it lists TIED to the program's text (the seventh form; the later family's looks); each row that meets fmt, with fmt's text TOLD by the authors' own Lean function (tested against real Go, not proved from fmt's source: count such statements apart). THE CARD IS WHAT COUNTS. Prove the row's statement (the work); the ties are given (YtjeaoopamebgjaaGreatDoorTie.lean); close each card by the builder's one call (the guide's Derived/Test/ToyasCard.lean, 'card_holds'). Laid BY PROGRAM, IN A SANDBOX (cutbox-door.mjs). By AI agents, Wed Nov 11 2026. No macro, syntax, notation, axiom, sorry.
-/
import Derived.Test.YtjeaoopamebgjaaGreatDoorRows
import GoSem.ClaimSeven
namespace Go.Proofs.YtjeaoopamebgjaaGreatDoor
namespace Rows

/-- THE TIED CARD OF 'aviarylaw12.MultiNone'. -/
def multiNoneCard : Claim7 := { stood := { row := multiNoneRow, standIns := [], harness := (true, "c6d6e73e9f9a40f99d9b0190a37bedbb6e430f2b24fa695b061f5bb9777b743a"), looks := false }, kinds := [], alts := [], laidByText := true, laidKinds := [.data, .data, .data, .data, .pinned], laidTests := true, laidLooks := .later }
def MultiNoneCardSaid : Prop := Claim7.holds Tryz.pinned (.plain (OpenSpec.ofChange multiNoneSpec)) multiNoneCard

/-- THE TIED CARD OF 'aviarylaw12.MultiSteps'. -/
def multiStepsCard : Claim7 := { stood := { row := multiStepsRow, standIns := [], harness := (true, "c6d6e73e9f9a40f99d9b0190a37bedbb6e430f2b24fa695b061f5bb9777b743a"), looks := false }, kinds := [], alts := [], laidByText := true, laidKinds := [.data, .data, .data, .data, .pinned], laidTests := true, laidLooks := .later }
def MultiStepsCardSaid : Prop := Claim7.holds Tryz.pinned (.plain (OpenSpec.ofChange multiStepsSpec)) multiStepsCard

/-- THE TIED CARD OF 'aviarylaw12.MultiChecks'. -/
def multiChecksCard : Claim7 := { stood := { row := multiChecksRow, standIns := [], harness := (true, "c6d6e73e9f9a40f99d9b0190a37bedbb6e430f2b24fa695b061f5bb9777b743a"), looks := false }, kinds := [], alts := [], laidByText := true, laidKinds := [.data, .data, .data, .data, .pinned], laidTests := true, laidLooks := .later }
def MultiChecksCardSaid : Prop := Claim7.holds Tryz.pinned (.plain (OpenSpec.ofChange multiChecksSpec)) multiChecksCard

/-- THE TIED CARD OF 'aviarylaw12.MultiPurges'. -/
def multiPurgesCard : Claim7 := { stood := { row := multiPurgesRow, standIns := [], harness := (true, "c6d6e73e9f9a40f99d9b0190a37bedbb6e430f2b24fa695b061f5bb9777b743a"), looks := false }, kinds := [], alts := [], laidByText := true, laidKinds := [.data, .data, .data, .data, .pinned], laidTests := true, laidLooks := .later }
def MultiPurgesCardSaid : Prop := Claim7.holds Tryz.pinned (.plain (OpenSpec.ofChange multiPurgesSpec)) multiPurgesCard

/-- THE TIED CARD OF 'aviarylaw12.MultiKnown'. -/
def multiKnownCard : Claim7 := { stood := { row := multiKnownRow, standIns := [], harness := (true, "c6d6e73e9f9a40f99d9b0190a37bedbb6e430f2b24fa695b061f5bb9777b743a"), looks := false }, kinds := [], alts := [], laidByText := true, laidKinds := [.data, .data, .data, .data, .pinned], laidTests := true, laidLooks := .later }
def MultiKnownCardSaid : Prop := Claim7.holds Tryz.pinned (.plain (OpenSpec.ofChange multiKnownSpec)) multiKnownCard

/-- THE TIED CARD OF 'aviarylaw12.MultiPlays'. -/
def multiPlaysCard : Claim7 := { stood := { row := multiPlaysRow, standIns := [], harness := (true, "c6d6e73e9f9a40f99d9b0190a37bedbb6e430f2b24fa695b061f5bb9777b743a"), looks := false }, kinds := [], alts := [], laidByText := true, laidKinds := [.data, .data, .data, .data, .pinned], laidTests := true, laidLooks := .later }
def MultiPlaysCardSaid : Prop := Claim7.holds Tryz.pinned (.plain (OpenSpec.ofChange multiPlaysSpec)) multiPlaysCard

/-- THE SECOND FORM's CARD OF 'aviarylaw12.MultiNone'. -/
def multiNoneUptoCard : Claim7 := { stood := { row := multiNoneUptoRow, standIns := [], harness := (true, "c6d6e73e9f9a40f99d9b0190a37bedbb6e430f2b24fa695b061f5bb9777b743a"), looks := false }, kinds := [], alts := [], laidByText := true, laidKinds := [.data, .data, .data, .data, .pinned], laidTests := true, laidLooks := .later }
def MultiNoneUptoCardSaid : Prop := Claim7.holds Tryz.pinned (.plain (OpenSpec.upto multiNoneSpec)) multiNoneUptoCard

/-- THE SECOND FORM's CARD OF 'aviarylaw12.MultiSteps'. -/
def multiStepsUptoCard : Claim7 := { stood := { row := multiStepsUptoRow, standIns := [], harness := (true, "c6d6e73e9f9a40f99d9b0190a37bedbb6e430f2b24fa695b061f5bb9777b743a"), looks := false }, kinds := [], alts := [], laidByText := true, laidKinds := [.data, .data, .data, .data, .pinned], laidTests := true, laidLooks := .later }
def MultiStepsUptoCardSaid : Prop := Claim7.holds Tryz.pinned (.plain (OpenSpec.upto multiStepsSpec)) multiStepsUptoCard

/-- THE SECOND FORM's CARD OF 'aviarylaw12.MultiChecks'. -/
def multiChecksUptoCard : Claim7 := { stood := { row := multiChecksUptoRow, standIns := [], harness := (true, "c6d6e73e9f9a40f99d9b0190a37bedbb6e430f2b24fa695b061f5bb9777b743a"), looks := false }, kinds := [], alts := [], laidByText := true, laidKinds := [.data, .data, .data, .data, .pinned], laidTests := true, laidLooks := .later }
def MultiChecksUptoCardSaid : Prop := Claim7.holds Tryz.pinned (.plain (OpenSpec.upto multiChecksSpec)) multiChecksUptoCard

/-- THE SECOND FORM's CARD OF 'aviarylaw12.MultiPurges'. -/
def multiPurgesUptoCard : Claim7 := { stood := { row := multiPurgesUptoRow, standIns := [], harness := (true, "c6d6e73e9f9a40f99d9b0190a37bedbb6e430f2b24fa695b061f5bb9777b743a"), looks := false }, kinds := [], alts := [], laidByText := true, laidKinds := [.data, .data, .data, .data, .pinned], laidTests := true, laidLooks := .later }
def MultiPurgesUptoCardSaid : Prop := Claim7.holds Tryz.pinned (.plain (OpenSpec.upto multiPurgesSpec)) multiPurgesUptoCard

/-- THE SECOND FORM's CARD OF 'aviarylaw12.MultiKnown'. -/
def multiKnownUptoCard : Claim7 := { stood := { row := multiKnownUptoRow, standIns := [], harness := (true, "c6d6e73e9f9a40f99d9b0190a37bedbb6e430f2b24fa695b061f5bb9777b743a"), looks := false }, kinds := [], alts := [], laidByText := true, laidKinds := [.data, .data, .data, .data, .pinned], laidTests := true, laidLooks := .later }
def MultiKnownUptoCardSaid : Prop := Claim7.holds Tryz.pinned (.plain (OpenSpec.upto multiKnownSpec)) multiKnownUptoCard

/-- THE SECOND FORM's CARD OF 'aviarylaw12.MultiPlays'. -/
def multiPlaysUptoCard : Claim7 := { stood := { row := multiPlaysUptoRow, standIns := [], harness := (true, "c6d6e73e9f9a40f99d9b0190a37bedbb6e430f2b24fa695b061f5bb9777b743a"), looks := false }, kinds := [], alts := [], laidByText := true, laidKinds := [.data, .data, .data, .data, .pinned], laidTests := true, laidLooks := .later }
def MultiPlaysUptoCardSaid : Prop := Claim7.holds Tryz.pinned (.plain (OpenSpec.upto multiPlaysSpec)) multiPlaysUptoCard
end Rows
end Go.Proofs.YtjeaoopamebgjaaGreatDoor
