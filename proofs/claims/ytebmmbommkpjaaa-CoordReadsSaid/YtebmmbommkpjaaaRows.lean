/-
  No cell of these rows narrows 'for every input' (looked for: loops, veiled, ifaces, maps, wideKeys, modest, calm, conditions, laid).
  DERIVED. THE GIVEN ROWS OF THIS SEAT. 7 by the template 'for every input the law returns true; each argument reads behind the call as it read before'; 0 by the template 'total and deterministic' (their statements: YtebmmbommkpjaaaTotals.lean).
  GIVEN WITH THE SEED: the statements are not yours to turn. If you find one false, say at which input.
  Laid BY PROGRAM, IN A SANDBOX (cutbox-rows.mjs): the forced cells as the released guide's own fill.sh prints them over the translation abe2c5bf75548dc1… (all of the seat's roots in one cut). By AI agents, Wed Nov 11 2026. No macro, syntax, notation, axiom, sorry.
-/
import Derived.Test.YtebmmbommkpjaaaChecked
import GoSem.Claim
import GoSem.ClaimJoined
import GoSem.ClaimMapViews
import Derived.JoinedTies
import Derived.KernelRfl
namespace Go.Proofs.Ytebmmbommkpjaaa
/- THE CELL 'sum', in the pinned program and in every row, IS THE sha256 OF THE DUMP (.gsa) THAT YtebmmbommkpjaaaProg.lean LOADS. Nothing in Lean hashes anything: it is a label: what it is worth is what the hold of that sum in a sandbox is worth. -/
noncomputable def Try.pinned : Pinned := { name := "ytebmmbommkpjaaa", sum := "abe2c5bf75548dc1568c6543ff2d53b90e7bb527536eaa10631b56ebea8678e3", checked := Try.checked }
namespace Rows
def none {H : Type} : Left H := { results := [], args := [] }

/-- 'aviarylaw20.CoordOwes': WHATEVER THE INPUT: true; the input reads as it did. -/
def coordOwesSpec : ChangeSpec := { name := "coordOwes", fn := fun _ => fun
  | [d1, d2, d3] => { results := [.lit (.bool true)], args := [d1, d2, d3] }
  | _ => none }
def coordOwesRow : OpenClaim := { program := "ytebmmbommkpjaaa", sum := "abe2c5bf75548dc1568c6543ff2d53b90e7bb527536eaa10631b56ebea8678e3", func := "aviary/aviarylaw20.CoordOwes", spec := "coordOwes", unfollowed := true, recurses := true, apart := false }
def CoordOwesSaid : Prop := coordOwesRow.holds Try.pinned (OpenSpec.ofChange coordOwesSpec)

/-- ITS FALSE NEIGHBOUR: 'it returns false'. Refute it at one input. -/
def coordOwesWrong : ChangeSpec := { name := "coordOwes", fn := fun _ => fun
  | [d1, d2, d3] => { results := [.lit (.bool false)], args := [d1, d2, d3] }
  | _ => none }
def CoordOwesWrongFalsely : Prop := coordOwesRow.holds Try.pinned (OpenSpec.ofChange coordOwesWrong)

/-- 'aviarylaw20.CoordOnce': WHATEVER THE INPUT: true; the input reads as it did. -/
def coordOnceSpec : ChangeSpec := { name := "coordOnce", fn := fun _ => fun
  | [d1, d2] => { results := [.lit (.bool true)], args := [d1, d2] }
  | _ => none }
def coordOnceRow : OpenClaim := { program := "ytebmmbommkpjaaa", sum := "abe2c5bf75548dc1568c6543ff2d53b90e7bb527536eaa10631b56ebea8678e3", func := "aviary/aviarylaw20.CoordOnce", spec := "coordOnce", unfollowed := true, recurses := true, apart := false }
def CoordOnceSaid : Prop := coordOnceRow.holds Try.pinned (OpenSpec.ofChange coordOnceSpec)

/-- ITS FALSE NEIGHBOUR: 'it returns false'. Refute it at one input. -/
def coordOnceWrong : ChangeSpec := { name := "coordOnce", fn := fun _ => fun
  | [d1, d2] => { results := [.lit (.bool false)], args := [d1, d2] }
  | _ => none }
def CoordOnceWrongFalsely : Prop := coordOnceRow.holds Try.pinned (OpenSpec.ofChange coordOnceWrong)

/-- 'aviarylaw20.CoordApart': WHATEVER THE INPUT: true; the input reads as it did. -/
def coordApartSpec : ChangeSpec := { name := "coordApart", fn := fun _ => fun
  | [d1, d2] => { results := [.lit (.bool true)], args := [d1, d2] }
  | _ => none }
def coordApartRow : OpenClaim := { program := "ytebmmbommkpjaaa", sum := "abe2c5bf75548dc1568c6543ff2d53b90e7bb527536eaa10631b56ebea8678e3", func := "aviary/aviarylaw20.CoordApart", spec := "coordApart", unfollowed := true, recurses := true, apart := false }
def CoordApartSaid : Prop := coordApartRow.holds Try.pinned (OpenSpec.ofChange coordApartSpec)

/-- ITS FALSE NEIGHBOUR: 'it returns false'. Refute it at one input. -/
def coordApartWrong : ChangeSpec := { name := "coordApart", fn := fun _ => fun
  | [d1, d2] => { results := [.lit (.bool false)], args := [d1, d2] }
  | _ => none }
def CoordApartWrongFalsely : Prop := coordApartRow.holds Try.pinned (OpenSpec.ofChange coordApartWrong)

/-- 'aviarylaw20.CoordKnown': WHATEVER THE INPUT: true; the input reads as it did. -/
def coordKnownSpec : ChangeSpec := { name := "coordKnown", fn := fun _ => fun
  | [] => { results := [.lit (.bool true)], args := [] }
  | _ => none }
def coordKnownRow : OpenClaim := { program := "ytebmmbommkpjaaa", sum := "abe2c5bf75548dc1568c6543ff2d53b90e7bb527536eaa10631b56ebea8678e3", func := "aviary/aviarylaw20.CoordKnown", spec := "coordKnown", unfollowed := true, recurses := true, apart := false }
def CoordKnownSaid : Prop := coordKnownRow.holds Try.pinned (OpenSpec.ofChange coordKnownSpec)

/-- ITS FALSE NEIGHBOUR: 'it returns false'. Refute it at one input. -/
def coordKnownWrong : ChangeSpec := { name := "coordKnown", fn := fun _ => fun
  | [] => { results := [.lit (.bool false)], args := [] }
  | _ => none }
def CoordKnownWrongFalsely : Prop := coordKnownRow.holds Try.pinned (OpenSpec.ofChange coordKnownWrong)

/-- 'aviarylaw20.CoordPlays': WHATEVER THE INPUT: true; the input reads as it did. -/
def coordPlaysSpec : ChangeSpec := { name := "coordPlays", fn := fun _ => fun
  | [d] => { results := [.lit (.bool true)], args := [d] }
  | _ => none }
def coordPlaysRow : OpenClaim := { program := "ytebmmbommkpjaaa", sum := "abe2c5bf75548dc1568c6543ff2d53b90e7bb527536eaa10631b56ebea8678e3", func := "aviary/aviarylaw20.CoordPlays", spec := "coordPlays", unfollowed := true, recurses := true, apart := false }
def CoordPlaysSaid : Prop := coordPlaysRow.holds Try.pinned (OpenSpec.ofChange coordPlaysSpec)

/-- ITS FALSE NEIGHBOUR: 'it returns false'. Refute it at one input. -/
def coordPlaysWrong : ChangeSpec := { name := "coordPlays", fn := fun _ => fun
  | [d] => { results := [.lit (.bool false)], args := [d] }
  | _ => none }
def CoordPlaysWrongFalsely : Prop := coordPlaysRow.holds Try.pinned (OpenSpec.ofChange coordPlaysWrong)

/-- 'aviarylaw20.CoordReads': WHATEVER THE INPUT: true; the input reads as it did. -/
def coordReadsSpec : ChangeSpec := { name := "coordReads", fn := fun _ => fun
  | [d1, d2, d3, d4] => { results := [.lit (.bool true)], args := [d1, d2, d3, d4] }
  | _ => none }
def coordReadsRow : OpenClaim := { program := "ytebmmbommkpjaaa", sum := "abe2c5bf75548dc1568c6543ff2d53b90e7bb527536eaa10631b56ebea8678e3", func := "aviary/aviarylaw20.CoordReads", spec := "coordReads", unfollowed := true, recurses := true, apart := false }
def CoordReadsSaid : Prop := coordReadsRow.holds Try.pinned (OpenSpec.ofChange coordReadsSpec)

/-- ITS FALSE NEIGHBOUR: 'it returns false'. Refute it at one input. -/
def coordReadsWrong : ChangeSpec := { name := "coordReads", fn := fun _ => fun
  | [d1, d2, d3, d4] => { results := [.lit (.bool false)], args := [d1, d2, d3, d4] }
  | _ => none }
def CoordReadsWrongFalsely : Prop := coordReadsRow.holds Try.pinned (OpenSpec.ofChange coordReadsWrong)

/-- 'aviarylaw20.CoordBack': WHATEVER THE INPUT: true; the input reads as it did. -/
def coordBackSpec : ChangeSpec := { name := "coordBack", fn := fun _ => fun
  | [d1, d2] => { results := [.lit (.bool true)], args := [d1, d2] }
  | _ => none }
def coordBackRow : OpenClaim := { program := "ytebmmbommkpjaaa", sum := "abe2c5bf75548dc1568c6543ff2d53b90e7bb527536eaa10631b56ebea8678e3", func := "aviary/aviarylaw20.CoordBack", spec := "coordBack", unfollowed := true, recurses := true, apart := false }
def CoordBackSaid : Prop := coordBackRow.holds Try.pinned (OpenSpec.ofChange coordBackSpec)

/-- ITS FALSE NEIGHBOUR: 'it returns false'. Refute it at one input. -/
def coordBackWrong : ChangeSpec := { name := "coordBack", fn := fun _ => fun
  | [d1, d2] => { results := [.lit (.bool false)], args := [d1, d2] }
  | _ => none }
def CoordBackWrongFalsely : Prop := coordBackRow.holds Try.pinned (OpenSpec.ofChange coordBackWrong)

/- THE SECOND FORM. 'bulk': how many values and letters a reading holds, each counted each time it is reached (what is shared counts as often as it is met; a slice's spare places count too). A statement '..UptoSaid' is the law's where the arguments, and the package variables that the reading takes, are together of bulk at most 1048576: NARROWER than '..Said'. Prove '..Said' where nothing that the law and all that it calls make is longer than what came in: it says more and counts as full. Else prove '..UptoSaid'. A law counts once. -/
mutual
def uptoBulk {H : Type} : DataW H → Nat
  | .lit (.string bytes) => bytes.length + 1
  | .lit _ => 1
  | .nil => 1
  | .ptr d => uptoBulk d + 1
  | .slice elems spare => uptoBulkAll elems + uptoBulkAll spare + 1
  | .agg parts => uptoBulkAll parts + 1
  | .iface _ d => uptoBulk d + 1
  | .map entries => uptoBulkEntries entries + 1
  | .held _ => 1
def uptoBulkAll {H : Type} : List (DataW H) → Nat
  | [] => 0
  | d :: r => uptoBulk d + uptoBulkAll r
def uptoBulkEntries {H : Type} : List (Lit × DataW H) → Nat
  | [] => 0
  | x :: r => uptoBulkEntry x + uptoBulkEntries r
def uptoBulkEntry {H : Type} : Lit × DataW H → Nat
  | (.string bytes, d) => bytes.length + uptoBulk d + 1
  | (_, d) => uptoBulk d + 1
 end
def uptoSmall : (H : Type) → List (DataW H) → Bool := fun _ ds => decide (uptoBulkAll ds ≤ 1048576)
def OpenSpec.upto (s : _root_.Go.ChangeSpec) : _root_.Go.OpenSpec := { _root_.Go.OpenSpec.ofChange s with cond := some uptoSmall }

/-- 'aviarylaw20.CoordOwes', WHERE WHAT IT READS IS OF BULK AT MOST 1048576: true; the input reads as it did. -/
def coordOwesUptoRow : OpenClaim := { program := "ytebmmbommkpjaaa", sum := "abe2c5bf75548dc1568c6543ff2d53b90e7bb527536eaa10631b56ebea8678e3", func := "aviary/aviarylaw20.CoordOwes", spec := "coordOwes", unfollowed := true, recurses := true, apart := false, narrowed := true }
def CoordOwesUptoSaid : Prop := coordOwesUptoRow.holds Try.pinned (OpenSpec.upto coordOwesSpec)

/-- 'aviarylaw20.CoordOnce', WHERE WHAT IT READS IS OF BULK AT MOST 1048576: true; the input reads as it did. -/
def coordOnceUptoRow : OpenClaim := { program := "ytebmmbommkpjaaa", sum := "abe2c5bf75548dc1568c6543ff2d53b90e7bb527536eaa10631b56ebea8678e3", func := "aviary/aviarylaw20.CoordOnce", spec := "coordOnce", unfollowed := true, recurses := true, apart := false, narrowed := true }
def CoordOnceUptoSaid : Prop := coordOnceUptoRow.holds Try.pinned (OpenSpec.upto coordOnceSpec)

/-- 'aviarylaw20.CoordApart', WHERE WHAT IT READS IS OF BULK AT MOST 1048576: true; the input reads as it did. -/
def coordApartUptoRow : OpenClaim := { program := "ytebmmbommkpjaaa", sum := "abe2c5bf75548dc1568c6543ff2d53b90e7bb527536eaa10631b56ebea8678e3", func := "aviary/aviarylaw20.CoordApart", spec := "coordApart", unfollowed := true, recurses := true, apart := false, narrowed := true }
def CoordApartUptoSaid : Prop := coordApartUptoRow.holds Try.pinned (OpenSpec.upto coordApartSpec)

/-- 'aviarylaw20.CoordKnown', WHERE WHAT IT READS IS OF BULK AT MOST 1048576: true; the input reads as it did. -/
def coordKnownUptoRow : OpenClaim := { program := "ytebmmbommkpjaaa", sum := "abe2c5bf75548dc1568c6543ff2d53b90e7bb527536eaa10631b56ebea8678e3", func := "aviary/aviarylaw20.CoordKnown", spec := "coordKnown", unfollowed := true, recurses := true, apart := false, narrowed := true }
def CoordKnownUptoSaid : Prop := coordKnownUptoRow.holds Try.pinned (OpenSpec.upto coordKnownSpec)

/-- 'aviarylaw20.CoordPlays', WHERE WHAT IT READS IS OF BULK AT MOST 1048576: true; the input reads as it did. -/
def coordPlaysUptoRow : OpenClaim := { program := "ytebmmbommkpjaaa", sum := "abe2c5bf75548dc1568c6543ff2d53b90e7bb527536eaa10631b56ebea8678e3", func := "aviary/aviarylaw20.CoordPlays", spec := "coordPlays", unfollowed := true, recurses := true, apart := false, narrowed := true }
def CoordPlaysUptoSaid : Prop := coordPlaysUptoRow.holds Try.pinned (OpenSpec.upto coordPlaysSpec)

/-- 'aviarylaw20.CoordReads', WHERE WHAT IT READS IS OF BULK AT MOST 1048576: true; the input reads as it did. -/
def coordReadsUptoRow : OpenClaim := { program := "ytebmmbommkpjaaa", sum := "abe2c5bf75548dc1568c6543ff2d53b90e7bb527536eaa10631b56ebea8678e3", func := "aviary/aviarylaw20.CoordReads", spec := "coordReads", unfollowed := true, recurses := true, apart := false, narrowed := true }
def CoordReadsUptoSaid : Prop := coordReadsUptoRow.holds Try.pinned (OpenSpec.upto coordReadsSpec)

/-- 'aviarylaw20.CoordBack', WHERE WHAT IT READS IS OF BULK AT MOST 1048576: true; the input reads as it did. -/
def coordBackUptoRow : OpenClaim := { program := "ytebmmbommkpjaaa", sum := "abe2c5bf75548dc1568c6543ff2d53b90e7bb527536eaa10631b56ebea8678e3", func := "aviary/aviarylaw20.CoordBack", spec := "coordBack", unfollowed := true, recurses := true, apart := false, narrowed := true }
def CoordBackUptoSaid : Prop := coordBackUptoRow.holds Try.pinned (OpenSpec.upto coordBackSpec)

end Rows
end Go.Proofs.Ytebmmbommkpjaaa
