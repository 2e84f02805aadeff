/-
  DERIVED. GIVEN WITH THE SEED: THE CARDS: each row of YtjeaoopamebgjaaDoorRows.lean that lists a variable, with what it lists TIED to the program's text (the seventh form; the later family's looks); each row that meets fmt, with fmt's text TOLD by the authors' own Lean function (tested against real Go, not proved from fmt's source: count such statements apart). THE CARD IS WHAT COUNTS. Prove the row's statement (the work); the ties are given (YtjeaoopamebgjaaDoorTie.lean); close each card by the builder's one call (the guide's Derived/Test/ToyasCard.lean, 'card_holds'). Laid BY PROGRAM, IN A SANDBOX (cutbox-door.mjs). By AI agents, Wed Nov 11 2026. No macro, syntax, notation, axiom, sorry.
-/
import Derived.Test.YtjeaoopamebgjaaDoorRows
import GoSem.ClaimSeven
namespace Go.Proofs.YtjeaoopamebgjaaDoor
namespace Rows

/-- THE TIED CARD OF 'aviarylaw12.MultiInOrder'. -/
def multiInOrderCard : Claim7 := { stood := { row := multiInOrderRow, standIns := [], harness := (true, "8d271706e77ab01850a942a7dc93570a8940788f40cb35fabe7d9c58632b1b27"), looks := false }, kinds := [], alts := [], laidByText := true, laidKinds := [.data, .data, .data, .data, .pinned], laidTests := true, laidLooks := .later }
def MultiInOrderCardSaid : Prop := Claim7.holds Tryd.pinned (.plain (OpenSpec.ofChange multiInOrderSpec)) multiInOrderCard

/-- THE SECOND FORM's CARD OF 'aviarylaw12.MultiInOrder'. -/
def multiInOrderUptoCard : Claim7 := { stood := { row := multiInOrderUptoRow, standIns := [], harness := (true, "8d271706e77ab01850a942a7dc93570a8940788f40cb35fabe7d9c58632b1b27"), looks := false }, kinds := [], alts := [], laidByText := true, laidKinds := [.data, .data, .data, .data, .pinned], laidTests := true, laidLooks := .later }
def MultiInOrderUptoCardSaid : Prop := Claim7.holds Tryd.pinned (.plain (OpenSpec.upto multiInOrderSpec)) multiInOrderUptoCard
end Rows
end Go.Proofs.YtjeaoopamebgjaaDoor
