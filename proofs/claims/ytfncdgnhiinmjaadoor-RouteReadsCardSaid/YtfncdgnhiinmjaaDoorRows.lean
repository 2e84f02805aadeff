/-
  NARROWER THAN 'FOR EVERY INPUT', by the rows' own cells (each row's printed sentence says how): RouteMoves: laid · RouteWhole: laid · RouteKnown: laid · RouteReads: laid · RouteBack: laid · RoutePlays: laid.
  DERIVED. THE GIVEN ROWS OF THIS SEAT. 6 by the template 'for every input the law returns true; each argument reads behind the call as it read before'; 0 by the template 'total and deterministic' (their statements: YtfncdgnhiinmjaaDoorTotals.lean).
  GIVEN WITH THE SEED: the statements are not yours to turn. If you find one false, say at which input.
  Laid BY PROGRAM, IN A SANDBOX (cutbox-rows.mjs): the forced cells as the released guide's own fill.sh prints them over the translation 7ee5801633eac5fc… (all of the seat's roots in one cut). By AI agents, Wed Nov 11 2026. No macro, syntax, notation, axiom, sorry.
-/
import Derived.Test.YtfncdgnhiinmjaaDoorChecked
import GoSem.PinnedTables
import GoSem.Claim
import GoSem.ClaimJoined
import GoSem.ClaimMapViews
import Derived.JoinedTies
import Derived.KernelRfl
namespace Go.Proofs.YtfncdgnhiinmjaaDoor
/- THE CELL 'sum', in the pinned program and in every row, IS THE sha256 OF THE DUMP (.gsa) THAT YtfncdgnhiinmjaaDoorProg.lean LOADS. Nothing in Lean hashes anything: it is a label: what it is worth is what the hold of that sum in a sandbox is worth. -/
noncomputable def Tryd.pinned : Pinned := { name := "ytfncdgnhiinmjaadoor", sum := "7ee5801633eac5fcb4eb3664bc5ebea264702bec4d2f099ff69bb737e26011e8", checked := Tryd.checked }
namespace Rows
def none {H : Type} : Left H := { results := [], args := [] }

/- WHAT THE LISTED PACKAGE-LEVEL VARIABLES READ AS WHEN THE CALL BEGINS. Each datum BY PROGRAM (the guide's laid-datum.mjs) off the statement by which the dump's own 'gosem.cut.vars' lays the variable. In a bare row this is a premise. The card (YtfncdgnhiinmjaaDoorCards.lean) ties it to the program's text. -/
def laid_unicode_utf8_acceptRanges {H : Type} : DataW H := .agg [.agg [.lit (.int .u8 128), .lit (.int .u8 191)], .agg [.lit (.int .u8 160), .lit (.int .u8 191)], .agg [.lit (.int .u8 128), .lit (.int .u8 159)], .agg [.lit (.int .u8 144), .lit (.int .u8 191)], .agg [.lit (.int .u8 128), .lit (.int .u8 143)], .agg [.lit (.int .u8 0), .lit (.int .u8 0)], .agg [.lit (.int .u8 0), .lit (.int .u8 0)], .agg [.lit (.int .u8 0), .lit (.int .u8 0)], .agg [.lit (.int .u8 0), .lit (.int .u8 0)], .agg [.lit (.int .u8 0), .lit (.int .u8 0)], .agg [.lit (.int .u8 0), .lit (.int .u8 0)], .agg [.lit (.int .u8 0), .lit (.int .u8 0)], .agg [.lit (.int .u8 0), .lit (.int .u8 0)], .agg [.lit (.int .u8 0), .lit (.int .u8 0)], .agg [.lit (.int .u8 0), .lit (.int .u8 0)], .agg [.lit (.int .u8 0), .lit (.int .u8 0)]]
/-- One of Go's own tables, pinned by name: the form's constant. -/
def laid_unicode_utf8_first : DataW Unit := Go.Pinned.utf8First

/-- 'aviarylaw16.RouteMoves': WHATEVER THE INPUT: true; the input reads as it did. -/
def routeMovesSpec : ChangeSpec := { name := "routeMoves", fn := fun _ => fun
  | [d1, d2, d3, d4, d5] => { results := [.lit (.bool true)], args := [d1, d2, d3, d4, d5] }
  | _ => none }
def routeMovesRow : OpenClaim := { program := "ytfncdgnhiinmjaadoor", sum := "7ee5801633eac5fcb4eb3664bc5ebea264702bec4d2f099ff69bb737e26011e8", func := "aviary/aviarylaw16.RouteMoves", spec := "routeMoves", inPlace := ["internal/bytealg.CountString", "internal/bytealg.IndexByteString", "internal/bytealg.IndexString"], named := ["unicode/utf8.first", "unicode/utf8.acceptRanges", "internal/bytealg.MaxLen"], apart := false, laid := [("unicode/utf8.acceptRanges", laid_unicode_utf8_acceptRanges), ("unicode/utf8.first", laid_unicode_utf8_first)] }
def RouteMovesSaid : Prop := routeMovesRow.holds Tryd.pinned (OpenSpec.ofChange routeMovesSpec)

/-- ITS FALSE NEIGHBOUR: 'it returns false'. Refute it at one input. -/
def routeMovesWrong : ChangeSpec := { name := "routeMoves", fn := fun _ => fun
  | [d1, d2, d3, d4, d5] => { results := [.lit (.bool false)], args := [d1, d2, d3, d4, d5] }
  | _ => none }
def RouteMovesWrongFalsely : Prop := routeMovesRow.holds Tryd.pinned (OpenSpec.ofChange routeMovesWrong)

/-- 'aviarylaw16.RouteWhole': WHATEVER THE INPUT: true; the input reads as it did. -/
def routeWholeSpec : ChangeSpec := { name := "routeWhole", fn := fun _ => fun
  | [d1, d2, d3, d4] => { results := [.lit (.bool true)], args := [d1, d2, d3, d4] }
  | _ => none }
def routeWholeRow : OpenClaim := { program := "ytfncdgnhiinmjaadoor", sum := "7ee5801633eac5fcb4eb3664bc5ebea264702bec4d2f099ff69bb737e26011e8", func := "aviary/aviarylaw16.RouteWhole", spec := "routeWhole", inPlace := ["internal/bytealg.CountString", "internal/bytealg.IndexByteString", "internal/bytealg.IndexString"], named := ["unicode/utf8.first", "unicode/utf8.acceptRanges", "internal/bytealg.MaxLen"], apart := false, laid := [("unicode/utf8.acceptRanges", laid_unicode_utf8_acceptRanges), ("unicode/utf8.first", laid_unicode_utf8_first)] }
def RouteWholeSaid : Prop := routeWholeRow.holds Tryd.pinned (OpenSpec.ofChange routeWholeSpec)

/-- ITS FALSE NEIGHBOUR: 'it returns false'. Refute it at one input. -/
def routeWholeWrong : ChangeSpec := { name := "routeWhole", fn := fun _ => fun
  | [d1, d2, d3, d4] => { results := [.lit (.bool false)], args := [d1, d2, d3, d4] }
  | _ => none }
def RouteWholeWrongFalsely : Prop := routeWholeRow.holds Tryd.pinned (OpenSpec.ofChange routeWholeWrong)

/-- 'aviarylaw16.RouteKnown': WHATEVER THE INPUT: true; the input reads as it did. -/
def routeKnownSpec : ChangeSpec := { name := "routeKnown", fn := fun _ => fun
  | [] => { results := [.lit (.bool true)], args := [] }
  | _ => none }
def routeKnownRow : OpenClaim := { program := "ytfncdgnhiinmjaadoor", sum := "7ee5801633eac5fcb4eb3664bc5ebea264702bec4d2f099ff69bb737e26011e8", func := "aviary/aviarylaw16.RouteKnown", spec := "routeKnown", inPlace := ["internal/bytealg.CountString", "internal/bytealg.IndexByteString", "internal/bytealg.IndexString"], named := ["unicode/utf8.first", "unicode/utf8.acceptRanges", "internal/bytealg.MaxLen"], apart := false, laid := [("unicode/utf8.acceptRanges", laid_unicode_utf8_acceptRanges), ("unicode/utf8.first", laid_unicode_utf8_first)] }
def RouteKnownSaid : Prop := routeKnownRow.holds Tryd.pinned (OpenSpec.ofChange routeKnownSpec)

/-- ITS FALSE NEIGHBOUR: 'it returns false'. Refute it at one input. -/
def routeKnownWrong : ChangeSpec := { name := "routeKnown", fn := fun _ => fun
  | [] => { results := [.lit (.bool false)], args := [] }
  | _ => none }
def RouteKnownWrongFalsely : Prop := routeKnownRow.holds Tryd.pinned (OpenSpec.ofChange routeKnownWrong)

/-- 'aviarylaw16.RouteReads': WHATEVER THE INPUT: true; the input reads as it did. -/
def routeReadsSpec : ChangeSpec := { name := "routeReads", fn := fun _ => fun
  | [d1, d2, d3, d4, d5] => { results := [.lit (.bool true)], args := [d1, d2, d3, d4, d5] }
  | _ => none }
def routeReadsRow : OpenClaim := { program := "ytfncdgnhiinmjaadoor", sum := "7ee5801633eac5fcb4eb3664bc5ebea264702bec4d2f099ff69bb737e26011e8", func := "aviary/aviarylaw16.RouteReads", spec := "routeReads", inPlace := ["internal/bytealg.CountString", "internal/bytealg.IndexByteString", "internal/bytealg.IndexString"], unfollowed := true, recurses := true, named := ["unicode/utf8.first", "unicode/utf8.acceptRanges", "internal/bytealg.MaxLen"], apart := false, laid := [("unicode/utf8.acceptRanges", laid_unicode_utf8_acceptRanges), ("unicode/utf8.first", laid_unicode_utf8_first)] }
def RouteReadsSaid : Prop := routeReadsRow.holds Tryd.pinned (OpenSpec.ofChange routeReadsSpec)

/-- ITS FALSE NEIGHBOUR: 'it returns false'. Refute it at one input. -/
def routeReadsWrong : ChangeSpec := { name := "routeReads", fn := fun _ => fun
  | [d1, d2, d3, d4, d5] => { results := [.lit (.bool false)], args := [d1, d2, d3, d4, d5] }
  | _ => none }
def RouteReadsWrongFalsely : Prop := routeReadsRow.holds Tryd.pinned (OpenSpec.ofChange routeReadsWrong)

/-- 'aviarylaw16.RouteBack': WHATEVER THE INPUT: true; the input reads as it did. -/
def routeBackSpec : ChangeSpec := { name := "routeBack", fn := fun _ => fun
  | [d1, d2, d3, d4] => { results := [.lit (.bool true)], args := [d1, d2, d3, d4] }
  | _ => none }
def routeBackRow : OpenClaim := { program := "ytfncdgnhiinmjaadoor", sum := "7ee5801633eac5fcb4eb3664bc5ebea264702bec4d2f099ff69bb737e26011e8", func := "aviary/aviarylaw16.RouteBack", spec := "routeBack", inPlace := ["internal/bytealg.CountString", "internal/bytealg.IndexByteString", "internal/bytealg.IndexString"], unfollowed := true, recurses := true, named := ["unicode/utf8.first", "unicode/utf8.acceptRanges", "internal/bytealg.MaxLen"], apart := false, laid := [("unicode/utf8.acceptRanges", laid_unicode_utf8_acceptRanges), ("unicode/utf8.first", laid_unicode_utf8_first)] }
def RouteBackSaid : Prop := routeBackRow.holds Tryd.pinned (OpenSpec.ofChange routeBackSpec)

/-- ITS FALSE NEIGHBOUR: 'it returns false'. Refute it at one input. -/
def routeBackWrong : ChangeSpec := { name := "routeBack", fn := fun _ => fun
  | [d1, d2, d3, d4] => { results := [.lit (.bool false)], args := [d1, d2, d3, d4] }
  | _ => none }
def RouteBackWrongFalsely : Prop := routeBackRow.holds Tryd.pinned (OpenSpec.ofChange routeBackWrong)

/-- 'aviarylaw16.RoutePlays': WHATEVER THE INPUT: true; the input reads as it did. -/
def routePlaysSpec : ChangeSpec := { name := "routePlays", fn := fun _ => fun
  | [d1, d2, d3, d4] => { results := [.lit (.bool true)], args := [d1, d2, d3, d4] }
  | _ => none }
def routePlaysRow : OpenClaim := { program := "ytfncdgnhiinmjaadoor", sum := "7ee5801633eac5fcb4eb3664bc5ebea264702bec4d2f099ff69bb737e26011e8", func := "aviary/aviarylaw16.RoutePlays", spec := "routePlays", inPlace := ["internal/bytealg.CountString", "internal/bytealg.IndexByteString", "internal/bytealg.IndexString"], unfollowed := true, recurses := true, named := ["unicode/utf8.first", "unicode/utf8.acceptRanges", "internal/bytealg.MaxLen"], apart := false, laid := [("unicode/utf8.acceptRanges", laid_unicode_utf8_acceptRanges), ("unicode/utf8.first", laid_unicode_utf8_first)] }
def RoutePlaysSaid : Prop := routePlaysRow.holds Tryd.pinned (OpenSpec.ofChange routePlaysSpec)

/-- ITS FALSE NEIGHBOUR: 'it returns false'. Refute it at one input. -/
def routePlaysWrong : ChangeSpec := { name := "routePlays", fn := fun _ => fun
  | [d1, d2, d3, d4] => { results := [.lit (.bool false)], args := [d1, d2, d3, d4] }
  | _ => none }
def RoutePlaysWrongFalsely : Prop := routePlaysRow.holds Tryd.pinned (OpenSpec.ofChange routePlaysWrong)

/- THE SECOND FORM. 'bulk': how many values and letters a reading holds, each counted each time it is reached (what is shared counts as often as it is met; a slice's spare places count too). A statement '..UptoSaid' is the law's where the arguments, and the package variables that the reading takes, are together of bulk at most 1048576: NARROWER than '..Said'. Prove '..Said' where nothing that the law and all that it calls make is longer than what came in: it says more and counts as full. Else prove '..UptoSaid'. A law counts once. -/
mutual
def uptoBulk {H : Type} : DataW H → Nat
  | .lit (.string bytes) => bytes.length + 1
  | .lit _ => 1
  | .nil => 1
  | .ptr d => uptoBulk d + 1
  | .slice elems spare => uptoBulkAll elems + uptoBulkAll spare + 1
  | .agg parts => uptoBulkAll parts + 1
  | .iface _ d => uptoBulk d + 1
  | .map entries => uptoBulkEntries entries + 1
  | .held _ => 1
def uptoBulkAll {H : Type} : List (DataW H) → Nat
  | [] => 0
  | d :: r => uptoBulk d + uptoBulkAll r
def uptoBulkEntries {H : Type} : List (Lit × DataW H) → Nat
  | [] => 0
  | x :: r => uptoBulkEntry x + uptoBulkEntries r
def uptoBulkEntry {H : Type} : Lit × DataW H → Nat
  | (.string bytes, d) => bytes.length + uptoBulk d + 1
  | (_, d) => uptoBulk d + 1
 end
def uptoSmall : (H : Type) → List (DataW H) → Bool := fun _ ds => decide (uptoBulkAll ds ≤ 1048576)
def OpenSpec.upto (s : _root_.Go.ChangeSpec) : _root_.Go.OpenSpec := { _root_.Go.OpenSpec.ofChange s with cond := some uptoSmall }

/-- 'aviarylaw16.RouteMoves', WHERE WHAT IT READS IS OF BULK AT MOST 1048576: true; the input reads as it did. -/
def routeMovesUptoRow : OpenClaim := { program := "ytfncdgnhiinmjaadoor", sum := "7ee5801633eac5fcb4eb3664bc5ebea264702bec4d2f099ff69bb737e26011e8", func := "aviary/aviarylaw16.RouteMoves", spec := "routeMoves", inPlace := ["internal/bytealg.CountString", "internal/bytealg.IndexByteString", "internal/bytealg.IndexString"], named := ["unicode/utf8.first", "unicode/utf8.acceptRanges", "internal/bytealg.MaxLen"], apart := false, laid := [("unicode/utf8.acceptRanges", laid_unicode_utf8_acceptRanges), ("unicode/utf8.first", laid_unicode_utf8_first)], narrowed := true }
def RouteMovesUptoSaid : Prop := routeMovesUptoRow.holds Tryd.pinned (OpenSpec.upto routeMovesSpec)

/-- 'aviarylaw16.RouteWhole', WHERE WHAT IT READS IS OF BULK AT MOST 1048576: true; the input reads as it did. -/
def routeWholeUptoRow : OpenClaim := { program := "ytfncdgnhiinmjaadoor", sum := "7ee5801633eac5fcb4eb3664bc5ebea264702bec4d2f099ff69bb737e26011e8", func := "aviary/aviarylaw16.RouteWhole", spec := "routeWhole", inPlace := ["internal/bytealg.CountString", "internal/bytealg.IndexByteString", "internal/bytealg.IndexString"], named := ["unicode/utf8.first", "unicode/utf8.acceptRanges", "internal/bytealg.MaxLen"], apart := false, laid := [("unicode/utf8.acceptRanges", laid_unicode_utf8_acceptRanges), ("unicode/utf8.first", laid_unicode_utf8_first)], narrowed := true }
def RouteWholeUptoSaid : Prop := routeWholeUptoRow.holds Tryd.pinned (OpenSpec.upto routeWholeSpec)

/-- 'aviarylaw16.RouteKnown', WHERE WHAT IT READS IS OF BULK AT MOST 1048576: true; the input reads as it did. -/
def routeKnownUptoRow : OpenClaim := { program := "ytfncdgnhiinmjaadoor", sum := "7ee5801633eac5fcb4eb3664bc5ebea264702bec4d2f099ff69bb737e26011e8", func := "aviary/aviarylaw16.RouteKnown", spec := "routeKnown", inPlace := ["internal/bytealg.CountString", "internal/bytealg.IndexByteString", "internal/bytealg.IndexString"], named := ["unicode/utf8.first", "unicode/utf8.acceptRanges", "internal/bytealg.MaxLen"], apart := false, laid := [("unicode/utf8.acceptRanges", laid_unicode_utf8_acceptRanges), ("unicode/utf8.first", laid_unicode_utf8_first)], narrowed := true }
def RouteKnownUptoSaid : Prop := routeKnownUptoRow.holds Tryd.pinned (OpenSpec.upto routeKnownSpec)

/-- 'aviarylaw16.RouteReads', WHERE WHAT IT READS IS OF BULK AT MOST 1048576: true; the input reads as it did. -/
def routeReadsUptoRow : OpenClaim := { program := "ytfncdgnhiinmjaadoor", sum := "7ee5801633eac5fcb4eb3664bc5ebea264702bec4d2f099ff69bb737e26011e8", func := "aviary/aviarylaw16.RouteReads", spec := "routeReads", inPlace := ["internal/bytealg.CountString", "internal/bytealg.IndexByteString", "internal/bytealg.IndexString"], unfollowed := true, recurses := true, named := ["unicode/utf8.first", "unicode/utf8.acceptRanges", "internal/bytealg.MaxLen"], apart := false, laid := [("unicode/utf8.acceptRanges", laid_unicode_utf8_acceptRanges), ("unicode/utf8.first", laid_unicode_utf8_first)], narrowed := true }
def RouteReadsUptoSaid : Prop := routeReadsUptoRow.holds Tryd.pinned (OpenSpec.upto routeReadsSpec)

/-- 'aviarylaw16.RouteBack', WHERE WHAT IT READS IS OF BULK AT MOST 1048576: true; the input reads as it did. -/
def routeBackUptoRow : OpenClaim := { program := "ytfncdgnhiinmjaadoor", sum := "7ee5801633eac5fcb4eb3664bc5ebea264702bec4d2f099ff69bb737e26011e8", func := "aviary/aviarylaw16.RouteBack", spec := "routeBack", inPlace := ["internal/bytealg.CountString", "internal/bytealg.IndexByteString", "internal/bytealg.IndexString"], unfollowed := true, recurses := true, named := ["unicode/utf8.first", "unicode/utf8.acceptRanges", "internal/bytealg.MaxLen"], apart := false, laid := [("unicode/utf8.acceptRanges", laid_unicode_utf8_acceptRanges), ("unicode/utf8.first", laid_unicode_utf8_first)], narrowed := true }
def RouteBackUptoSaid : Prop := routeBackUptoRow.holds Tryd.pinned (OpenSpec.upto routeBackSpec)

/-- 'aviarylaw16.RoutePlays', WHERE WHAT IT READS IS OF BULK AT MOST 1048576: true; the input reads as it did. -/
def routePlaysUptoRow : OpenClaim := { program := "ytfncdgnhiinmjaadoor", sum := "7ee5801633eac5fcb4eb3664bc5ebea264702bec4d2f099ff69bb737e26011e8", func := "aviary/aviarylaw16.RoutePlays", spec := "routePlays", inPlace := ["internal/bytealg.CountString", "internal/bytealg.IndexByteString", "internal/bytealg.IndexString"], unfollowed := true, recurses := true, named := ["unicode/utf8.first", "unicode/utf8.acceptRanges", "internal/bytealg.MaxLen"], apart := false, laid := [("unicode/utf8.acceptRanges", laid_unicode_utf8_acceptRanges), ("unicode/utf8.first", laid_unicode_utf8_first)], narrowed := true }
def RoutePlaysUptoSaid : Prop := routePlaysUptoRow.holds Tryd.pinned (OpenSpec.upto routePlaysSpec)

end Rows
end Go.Proofs.YtfncdgnhiinmjaaDoor
