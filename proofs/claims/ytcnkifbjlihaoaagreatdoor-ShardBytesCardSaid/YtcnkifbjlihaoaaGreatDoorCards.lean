/-
  DERIVED. GIVEN WITH THE SEED: THE CARDS: each row of YtcnkifbjlihaoaaGreatDoorRows.lean that lists a variable, with what it lists TIED to the program's text (the seventh form; the later family's looks); each row that meets fmt, with fmt's text TOLD by the authors' own Lean function (tested against real Go, not proved from fmt's source: count such statements apart). THE CARD IS WHAT COUNTS. Prove the row's statement (the work); the ties are given (YtcnkifbjlihaoaaGreatDoorTie.lean); close each card by the builder's one call (the guide's Derived/Test/ToyasCard.lean, 'card_holds'). Laid BY PROGRAM, IN A SANDBOX (cutbox-door.mjs). By AI agents, Wed Nov 11 2026. No macro, syntax, notation, axiom, sorry.
-/
import Derived.Test.YtcnkifbjlihaoaaGreatDoorRows
import GoSem.ClaimSeven
namespace Go.Proofs.YtcnkifbjlihaoaaGreatDoor
namespace Rows

/-- THE TIED CARD OF 'aviarylaw18.PartPlays'. -/
def partPlaysCard : Claim7 := { stood := { row := partPlaysRow, standIns := [], harness := (true, "b67b679eb968928117291da71070c205f703e847ebd9852390de1d35fbe8c3e0"), looks := false }, kinds := [], alts := [], laidByText := true, laidKinds := [.data, .data, .data, .data, .pinned], laidTests := true, laidLooks := .later }
def PartPlaysCardSaid : Prop := Claim7.holds Tryz.pinned (.plain (OpenSpec.ofChange partPlaysSpec)) partPlaysCard

/-- THE TIED CARD OF 'aviarylaw25.ShardBytes'. -/
def shardBytesCard : Claim7 := { stood := { row := shardBytesRow, standIns := [], harness := (true, "b67b679eb968928117291da71070c205f703e847ebd9852390de1d35fbe8c3e0"), looks := false }, kinds := [], alts := [], laidByText := true, laidKinds := [.data, .data, .data, .data, .pinned], laidTests := true, laidLooks := .later }
def ShardBytesCardSaid : Prop := Claim7.holds Tryz.pinned (.plain (OpenSpec.ofChange shardBytesSpec)) shardBytesCard

/-- THE TIED CARD OF 'aviarylaw25.ShardSplit'. -/
def shardSplitCard : Claim7 := { stood := { row := shardSplitRow, standIns := [], harness := (true, "b67b679eb968928117291da71070c205f703e847ebd9852390de1d35fbe8c3e0"), looks := false }, kinds := [], alts := [], laidByText := true, laidKinds := [.data, .data, .data, .data, .pinned], laidTests := true, laidLooks := .later }
def ShardSplitCardSaid : Prop := Claim7.holds Tryz.pinned (.plain (OpenSpec.ofChange shardSplitSpec)) shardSplitCard

/-- THE TIED CARD OF 'aviarylaw25.ShardKnown'. -/
def shardKnownCard : Claim7 := { stood := { row := shardKnownRow, standIns := [], harness := (true, "b67b679eb968928117291da71070c205f703e847ebd9852390de1d35fbe8c3e0"), looks := false }, kinds := [], alts := [], laidByText := true, laidKinds := [.data, .data, .data, .data, .pinned], laidTests := true, laidLooks := .later }
def ShardKnownCardSaid : Prop := Claim7.holds Tryz.pinned (.plain (OpenSpec.ofChange shardKnownSpec)) shardKnownCard

/-- THE TIED CARD OF 'aviarylaw25.ShardNever'. -/
def shardNeverCard : Claim7 := { stood := { row := shardNeverRow, standIns := [], harness := (true, "b67b679eb968928117291da71070c205f703e847ebd9852390de1d35fbe8c3e0"), looks := false }, kinds := [], alts := [], laidByText := true, laidKinds := [.data, .data, .data, .data, .pinned], laidTests := true, laidLooks := .later }
def ShardNeverCardSaid : Prop := Claim7.holds Tryz.pinned (.plain (OpenSpec.ofChange shardNeverSpec)) shardNeverCard

/-- THE TIED CARD OF 'aviarylaw25.ShardTwice'. -/
def shardTwiceCard : Claim7 := { stood := { row := shardTwiceRow, standIns := [], harness := (true, "b67b679eb968928117291da71070c205f703e847ebd9852390de1d35fbe8c3e0"), looks := false }, kinds := [], alts := [], laidByText := true, laidKinds := [.data, .data, .data, .data, .pinned], laidTests := true, laidLooks := .later }
def ShardTwiceCardSaid : Prop := Claim7.holds Tryz.pinned (.plain (OpenSpec.ofChange shardTwiceSpec)) shardTwiceCard

/-- THE SECOND FORM's CARD OF 'aviarylaw18.PartPlays'. -/
def partPlaysUptoCard : Claim7 := { stood := { row := partPlaysUptoRow, standIns := [], harness := (true, "b67b679eb968928117291da71070c205f703e847ebd9852390de1d35fbe8c3e0"), looks := false }, kinds := [], alts := [], laidByText := true, laidKinds := [.data, .data, .data, .data, .pinned], laidTests := true, laidLooks := .later }
def PartPlaysUptoCardSaid : Prop := Claim7.holds Tryz.pinned (.plain (OpenSpec.upto partPlaysSpec)) partPlaysUptoCard

/-- THE SECOND FORM's CARD OF 'aviarylaw25.ShardBytes'. -/
def shardBytesUptoCard : Claim7 := { stood := { row := shardBytesUptoRow, standIns := [], harness := (true, "b67b679eb968928117291da71070c205f703e847ebd9852390de1d35fbe8c3e0"), looks := false }, kinds := [], alts := [], laidByText := true, laidKinds := [.data, .data, .data, .data, .pinned], laidTests := true, laidLooks := .later }
def ShardBytesUptoCardSaid : Prop := Claim7.holds Tryz.pinned (.plain (OpenSpec.upto shardBytesSpec)) shardBytesUptoCard

/-- THE SECOND FORM's CARD OF 'aviarylaw25.ShardSplit'. -/
def shardSplitUptoCard : Claim7 := { stood := { row := shardSplitUptoRow, standIns := [], harness := (true, "b67b679eb968928117291da71070c205f703e847ebd9852390de1d35fbe8c3e0"), looks := false }, kinds := [], alts := [], laidByText := true, laidKinds := [.data, .data, .data, .data, .pinned], laidTests := true, laidLooks := .later }
def ShardSplitUptoCardSaid : Prop := Claim7.holds Tryz.pinned (.plain (OpenSpec.upto shardSplitSpec)) shardSplitUptoCard

/-- THE SECOND FORM's CARD OF 'aviarylaw25.ShardKnown'. -/
def shardKnownUptoCard : Claim7 := { stood := { row := shardKnownUptoRow, standIns := [], harness := (true, "b67b679eb968928117291da71070c205f703e847ebd9852390de1d35fbe8c3e0"), looks := false }, kinds := [], alts := [], laidByText := true, laidKinds := [.data, .data, .data, .data, .pinned], laidTests := true, laidLooks := .later }
def ShardKnownUptoCardSaid : Prop := Claim7.holds Tryz.pinned (.plain (OpenSpec.upto shardKnownSpec)) shardKnownUptoCard

/-- THE SECOND FORM's CARD OF 'aviarylaw25.ShardNever'. -/
def shardNeverUptoCard : Claim7 := { stood := { row := shardNeverUptoRow, standIns := [], harness := (true, "b67b679eb968928117291da71070c205f703e847ebd9852390de1d35fbe8c3e0"), looks := false }, kinds := [], alts := [], laidByText := true, laidKinds := [.data, .data, .data, .data, .pinned], laidTests := true, laidLooks := .later }
def ShardNeverUptoCardSaid : Prop := Claim7.holds Tryz.pinned (.plain (OpenSpec.upto shardNeverSpec)) shardNeverUptoCard

/-- THE SECOND FORM's CARD OF 'aviarylaw25.ShardTwice'. -/
def shardTwiceUptoCard : Claim7 := { stood := { row := shardTwiceUptoRow, standIns := [], harness := (true, "b67b679eb968928117291da71070c205f703e847ebd9852390de1d35fbe8c3e0"), looks := false }, kinds := [], alts := [], laidByText := true, laidKinds := [.data, .data, .data, .data, .pinned], laidTests := true, laidLooks := .later }
def ShardTwiceUptoCardSaid : Prop := Claim7.holds Tryz.pinned (.plain (OpenSpec.upto shardTwiceSpec)) shardTwiceUptoCard
end Rows
end Go.Proofs.YtcnkifbjlihaoaaGreatDoor
