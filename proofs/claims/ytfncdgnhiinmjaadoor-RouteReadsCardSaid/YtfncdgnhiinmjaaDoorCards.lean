/-
  DERIVED. GIVEN WITH THE SEED: THE CARDS: each row of YtfncdgnhiinmjaaDoorRows.lean that lists a variable, with what it lists TIED to the program's text (the seventh form; the later family's looks); each row that meets fmt, with fmt's text TOLD by the authors' own Lean function (tested against real Go, not proved from fmt's source: count such statements apart). THE CARD IS WHAT COUNTS. Prove the row's statement (the work); the ties are given (YtfncdgnhiinmjaaDoorTie.lean); close each card by the builder's one call (the guide's Derived/Test/ToyasCard.lean, 'card_holds'). Laid BY PROGRAM, IN A SANDBOX (cutbox-door.mjs). By AI agents, Wed Nov 11 2026. No macro, syntax, notation, axiom, sorry.
-/
import Derived.Test.YtfncdgnhiinmjaaDoorRows
import GoSem.ClaimSeven
namespace Go.Proofs.YtfncdgnhiinmjaaDoor
namespace Rows

/-- THE TIED CARD OF 'aviarylaw16.RouteMoves'. -/
def routeMovesCard : Claim7 := { stood := { row := routeMovesRow, standIns := [], harness := (true, "6fd41418cb64ef16bc72538160de53cedecdf1f607ed7614f4e60604d4926b16"), looks := false }, kinds := [], alts := [], laidByText := true, laidKinds := [.data, .pinned], laidTests := true, laidLooks := .later }
def RouteMovesCardSaid : Prop := Claim7.holds Tryd.pinned (.plain (OpenSpec.ofChange routeMovesSpec)) routeMovesCard

/-- THE TIED CARD OF 'aviarylaw16.RouteWhole'. -/
def routeWholeCard : Claim7 := { stood := { row := routeWholeRow, standIns := [], harness := (true, "6fd41418cb64ef16bc72538160de53cedecdf1f607ed7614f4e60604d4926b16"), looks := false }, kinds := [], alts := [], laidByText := true, laidKinds := [.data, .pinned], laidTests := true, laidLooks := .later }
def RouteWholeCardSaid : Prop := Claim7.holds Tryd.pinned (.plain (OpenSpec.ofChange routeWholeSpec)) routeWholeCard

/-- THE TIED CARD OF 'aviarylaw16.RouteKnown'. -/
def routeKnownCard : Claim7 := { stood := { row := routeKnownRow, standIns := [], harness := (true, "6fd41418cb64ef16bc72538160de53cedecdf1f607ed7614f4e60604d4926b16"), looks := false }, kinds := [], alts := [], laidByText := true, laidKinds := [.data, .pinned], laidTests := true, laidLooks := .later }
def RouteKnownCardSaid : Prop := Claim7.holds Tryd.pinned (.plain (OpenSpec.ofChange routeKnownSpec)) routeKnownCard

/-- THE TIED CARD OF 'aviarylaw16.RouteReads'. -/
def routeReadsCard : Claim7 := { stood := { row := routeReadsRow, standIns := [], harness := (true, "6fd41418cb64ef16bc72538160de53cedecdf1f607ed7614f4e60604d4926b16"), looks := false }, kinds := [], alts := [], laidByText := true, laidKinds := [.data, .pinned], laidTests := true, laidLooks := .later }
def RouteReadsCardSaid : Prop := Claim7.holds Tryd.pinned (.plain (OpenSpec.ofChange routeReadsSpec)) routeReadsCard

/-- THE TIED CARD OF 'aviarylaw16.RouteBack'. -/
def routeBackCard : Claim7 := { stood := { row := routeBackRow, standIns := [], harness := (true, "6fd41418cb64ef16bc72538160de53cedecdf1f607ed7614f4e60604d4926b16"), looks := false }, kinds := [], alts := [], laidByText := true, laidKinds := [.data, .pinned], laidTests := true, laidLooks := .later }
def RouteBackCardSaid : Prop := Claim7.holds Tryd.pinned (.plain (OpenSpec.ofChange routeBackSpec)) routeBackCard

/-- THE TIED CARD OF 'aviarylaw16.RoutePlays'. -/
def routePlaysCard : Claim7 := { stood := { row := routePlaysRow, standIns := [], harness := (true, "6fd41418cb64ef16bc72538160de53cedecdf1f607ed7614f4e60604d4926b16"), looks := false }, kinds := [], alts := [], laidByText := true, laidKinds := [.data, .pinned], laidTests := true, laidLooks := .later }
def RoutePlaysCardSaid : Prop := Claim7.holds Tryd.pinned (.plain (OpenSpec.ofChange routePlaysSpec)) routePlaysCard

/-- THE SECOND FORM's CARD OF 'aviarylaw16.RouteMoves'. -/
def routeMovesUptoCard : Claim7 := { stood := { row := routeMovesUptoRow, standIns := [], harness := (true, "6fd41418cb64ef16bc72538160de53cedecdf1f607ed7614f4e60604d4926b16"), looks := false }, kinds := [], alts := [], laidByText := true, laidKinds := [.data, .pinned], laidTests := true, laidLooks := .later }
def RouteMovesUptoCardSaid : Prop := Claim7.holds Tryd.pinned (.plain (OpenSpec.upto routeMovesSpec)) routeMovesUptoCard

/-- THE SECOND FORM's CARD OF 'aviarylaw16.RouteWhole'. -/
def routeWholeUptoCard : Claim7 := { stood := { row := routeWholeUptoRow, standIns := [], harness := (true, "6fd41418cb64ef16bc72538160de53cedecdf1f607ed7614f4e60604d4926b16"), looks := false }, kinds := [], alts := [], laidByText := true, laidKinds := [.data, .pinned], laidTests := true, laidLooks := .later }
def RouteWholeUptoCardSaid : Prop := Claim7.holds Tryd.pinned (.plain (OpenSpec.upto routeWholeSpec)) routeWholeUptoCard

/-- THE SECOND FORM's CARD OF 'aviarylaw16.RouteKnown'. -/
def routeKnownUptoCard : Claim7 := { stood := { row := routeKnownUptoRow, standIns := [], harness := (true, "6fd41418cb64ef16bc72538160de53cedecdf1f607ed7614f4e60604d4926b16"), looks := false }, kinds := [], alts := [], laidByText := true, laidKinds := [.data, .pinned], laidTests := true, laidLooks := .later }
def RouteKnownUptoCardSaid : Prop := Claim7.holds Tryd.pinned (.plain (OpenSpec.upto routeKnownSpec)) routeKnownUptoCard

/-- THE SECOND FORM's CARD OF 'aviarylaw16.RouteReads'. -/
def routeReadsUptoCard : Claim7 := { stood := { row := routeReadsUptoRow, standIns := [], harness := (true, "6fd41418cb64ef16bc72538160de53cedecdf1f607ed7614f4e60604d4926b16"), looks := false }, kinds := [], alts := [], laidByText := true, laidKinds := [.data, .pinned], laidTests := true, laidLooks := .later }
def RouteReadsUptoCardSaid : Prop := Claim7.holds Tryd.pinned (.plain (OpenSpec.upto routeReadsSpec)) routeReadsUptoCard

/-- THE SECOND FORM's CARD OF 'aviarylaw16.RouteBack'. -/
def routeBackUptoCard : Claim7 := { stood := { row := routeBackUptoRow, standIns := [], harness := (true, "6fd41418cb64ef16bc72538160de53cedecdf1f607ed7614f4e60604d4926b16"), looks := false }, kinds := [], alts := [], laidByText := true, laidKinds := [.data, .pinned], laidTests := true, laidLooks := .later }
def RouteBackUptoCardSaid : Prop := Claim7.holds Tryd.pinned (.plain (OpenSpec.upto routeBackSpec)) routeBackUptoCard

/-- THE SECOND FORM's CARD OF 'aviarylaw16.RoutePlays'. -/
def routePlaysUptoCard : Claim7 := { stood := { row := routePlaysUptoRow, standIns := [], harness := (true, "6fd41418cb64ef16bc72538160de53cedecdf1f607ed7614f4e60604d4926b16"), looks := false }, kinds := [], alts := [], laidByText := true, laidKinds := [.data, .pinned], laidTests := true, laidLooks := .later }
def RoutePlaysUptoCardSaid : Prop := Claim7.holds Tryd.pinned (.plain (OpenSpec.upto routePlaysSpec)) routePlaysUptoCard
end Rows
end Go.Proofs.YtfncdgnhiinmjaaDoor
