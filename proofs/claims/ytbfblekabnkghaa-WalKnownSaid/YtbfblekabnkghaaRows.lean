/-
  No cell of these rows narrows 'for every input' (looked for: loops, veiled, ifaces, maps, wideKeys, modest, calm, conditions, laid).
  DERIVED. THE GIVEN ROWS OF THIS SEAT. 7 by the template 'for every input the law returns true; each argument reads behind the call as it read before'; 0 by the template 'total and deterministic' (their statements: YtbfblekabnkghaaTotals.lean).
  GIVEN WITH THE SEED: the statements are not yours to turn. If you find one false, say at which input.
  Laid BY PROGRAM, IN A SANDBOX (cutbox-rows.mjs): the forced cells as the released guide's own fill.sh prints them over the translation 7b45fd2e064e2f79… (all of the seat's roots in one cut). By AI agents, Wed Nov 11 2026. No macro, syntax, notation, axiom, sorry.
-/
import Derived.Test.YtbfblekabnkghaaChecked
import GoSem.Claim
import GoSem.ClaimJoined
import GoSem.ClaimMapViews
import Derived.JoinedTies
import Derived.KernelRfl
namespace Go.Proofs.Ytbfblekabnkghaa
/- THE CELL 'sum', in the pinned program and in every row, IS THE sha256 OF THE DUMP (.gsa) THAT YtbfblekabnkghaaProg.lean LOADS. Nothing in Lean hashes anything: it is a label: what it is worth is what the hold of that sum in a sandbox is worth. -/
noncomputable def Try.pinned : Pinned := { name := "ytbfblekabnkghaa", sum := "7b45fd2e064e2f7930731e86c5bb0edb5d4eb846c30b008e219dc4f18a8fdc5d", checked := Try.checked }
namespace Rows
def none {H : Type} : Left H := { results := [], args := [] }

/-- 'aviarylaw8.WalCrash': WHATEVER THE INPUT: true; the input reads as it did. -/
def walCrashSpec : ChangeSpec := { name := "walCrash", fn := fun _ => fun
  | [d1, d2, d3] => { results := [.lit (.bool true)], args := [d1, d2, d3] }
  | _ => none }
def walCrashRow : OpenClaim := { program := "ytbfblekabnkghaa", sum := "7b45fd2e064e2f7930731e86c5bb0edb5d4eb846c30b008e219dc4f18a8fdc5d", func := "aviary/aviarylaw8.WalCrash", spec := "walCrash", apart := false }
def WalCrashSaid : Prop := walCrashRow.holds Try.pinned (OpenSpec.ofChange walCrashSpec)

/-- ITS FALSE NEIGHBOUR: 'it returns false'. Refute it at one input. -/
def walCrashWrong : ChangeSpec := { name := "walCrash", fn := fun _ => fun
  | [d1, d2, d3] => { results := [.lit (.bool false)], args := [d1, d2, d3] }
  | _ => none }
def WalCrashWrongFalsely : Prop := walCrashRow.holds Try.pinned (OpenSpec.ofChange walCrashWrong)

/-- 'aviarylaw8.WalFull': WHATEVER THE INPUT: true; the input reads as it did. -/
def walFullSpec : ChangeSpec := { name := "walFull", fn := fun _ => fun
  | [d1, d2] => { results := [.lit (.bool true)], args := [d1, d2] }
  | _ => none }
def walFullRow : OpenClaim := { program := "ytbfblekabnkghaa", sum := "7b45fd2e064e2f7930731e86c5bb0edb5d4eb846c30b008e219dc4f18a8fdc5d", func := "aviary/aviarylaw8.WalFull", spec := "walFull", apart := false }
def WalFullSaid : Prop := walFullRow.holds Try.pinned (OpenSpec.ofChange walFullSpec)

/-- ITS FALSE NEIGHBOUR: 'it returns false'. Refute it at one input. -/
def walFullWrong : ChangeSpec := { name := "walFull", fn := fun _ => fun
  | [d1, d2] => { results := [.lit (.bool false)], args := [d1, d2] }
  | _ => none }
def WalFullWrongFalsely : Prop := walFullRow.holds Try.pinned (OpenSpec.ofChange walFullWrong)

/-- 'aviarylaw8.WalBroken': WHATEVER THE INPUT: true; the input reads as it did. -/
def walBrokenSpec : ChangeSpec := { name := "walBroken", fn := fun _ => fun
  | [d1, d2, d3] => { results := [.lit (.bool true)], args := [d1, d2, d3] }
  | _ => none }
def walBrokenRow : OpenClaim := { program := "ytbfblekabnkghaa", sum := "7b45fd2e064e2f7930731e86c5bb0edb5d4eb846c30b008e219dc4f18a8fdc5d", func := "aviary/aviarylaw8.WalBroken", spec := "walBroken", apart := false }
def WalBrokenSaid : Prop := walBrokenRow.holds Try.pinned (OpenSpec.ofChange walBrokenSpec)

/-- ITS FALSE NEIGHBOUR: 'it returns false'. Refute it at one input. -/
def walBrokenWrong : ChangeSpec := { name := "walBroken", fn := fun _ => fun
  | [d1, d2, d3] => { results := [.lit (.bool false)], args := [d1, d2, d3] }
  | _ => none }
def WalBrokenWrongFalsely : Prop := walBrokenRow.holds Try.pinned (OpenSpec.ofChange walBrokenWrong)

/-- 'aviarylaw8.WalTails': WHATEVER THE INPUT: true; the input reads as it did. -/
def walTailsSpec : ChangeSpec := { name := "walTails", fn := fun _ => fun
  | [d1, d2, d3] => { results := [.lit (.bool true)], args := [d1, d2, d3] }
  | _ => none }
def walTailsRow : OpenClaim := { program := "ytbfblekabnkghaa", sum := "7b45fd2e064e2f7930731e86c5bb0edb5d4eb846c30b008e219dc4f18a8fdc5d", func := "aviary/aviarylaw8.WalTails", spec := "walTails", apart := false }
def WalTailsSaid : Prop := walTailsRow.holds Try.pinned (OpenSpec.ofChange walTailsSpec)

/-- ITS FALSE NEIGHBOUR: 'it returns false'. Refute it at one input. -/
def walTailsWrong : ChangeSpec := { name := "walTails", fn := fun _ => fun
  | [d1, d2, d3] => { results := [.lit (.bool false)], args := [d1, d2, d3] }
  | _ => none }
def WalTailsWrongFalsely : Prop := walTailsRow.holds Try.pinned (OpenSpec.ofChange walTailsWrong)

/-- 'aviarylaw8.WalRestarts': WHATEVER THE INPUT: true; the input reads as it did. -/
def walRestartsSpec : ChangeSpec := { name := "walRestarts", fn := fun _ => fun
  | [d1, d2, d3, d4] => { results := [.lit (.bool true)], args := [d1, d2, d3, d4] }
  | _ => none }
def walRestartsRow : OpenClaim := { program := "ytbfblekabnkghaa", sum := "7b45fd2e064e2f7930731e86c5bb0edb5d4eb846c30b008e219dc4f18a8fdc5d", func := "aviary/aviarylaw8.WalRestarts", spec := "walRestarts", unfollowed := true, recurses := true, apart := false }
def WalRestartsSaid : Prop := walRestartsRow.holds Try.pinned (OpenSpec.ofChange walRestartsSpec)

/-- ITS FALSE NEIGHBOUR: 'it returns false'. Refute it at one input. -/
def walRestartsWrong : ChangeSpec := { name := "walRestarts", fn := fun _ => fun
  | [d1, d2, d3, d4] => { results := [.lit (.bool false)], args := [d1, d2, d3, d4] }
  | _ => none }
def WalRestartsWrongFalsely : Prop := walRestartsRow.holds Try.pinned (OpenSpec.ofChange walRestartsWrong)

/-- 'aviarylaw8.WalNumbers': WHATEVER THE INPUT: true; the input reads as it did. -/
def walNumbersSpec : ChangeSpec := { name := "walNumbers", fn := fun _ => fun
  | [d1, d2] => { results := [.lit (.bool true)], args := [d1, d2] }
  | _ => none }
def walNumbersRow : OpenClaim := { program := "ytbfblekabnkghaa", sum := "7b45fd2e064e2f7930731e86c5bb0edb5d4eb846c30b008e219dc4f18a8fdc5d", func := "aviary/aviarylaw8.WalNumbers", spec := "walNumbers", unfollowed := true, recurses := true, apart := false }
def WalNumbersSaid : Prop := walNumbersRow.holds Try.pinned (OpenSpec.ofChange walNumbersSpec)

/-- ITS FALSE NEIGHBOUR: 'it returns false'. Refute it at one input. -/
def walNumbersWrong : ChangeSpec := { name := "walNumbers", fn := fun _ => fun
  | [d1, d2] => { results := [.lit (.bool false)], args := [d1, d2] }
  | _ => none }
def WalNumbersWrongFalsely : Prop := walNumbersRow.holds Try.pinned (OpenSpec.ofChange walNumbersWrong)

/-- 'aviarylaw8.WalKnown': WHATEVER THE INPUT: true; the input reads as it did. -/
def walKnownSpec : ChangeSpec := { name := "walKnown", fn := fun _ => fun
  | [] => { results := [.lit (.bool true)], args := [] }
  | _ => none }
def walKnownRow : OpenClaim := { program := "ytbfblekabnkghaa", sum := "7b45fd2e064e2f7930731e86c5bb0edb5d4eb846c30b008e219dc4f18a8fdc5d", func := "aviary/aviarylaw8.WalKnown", spec := "walKnown", unfollowed := true, recurses := true, apart := false }
def WalKnownSaid : Prop := walKnownRow.holds Try.pinned (OpenSpec.ofChange walKnownSpec)

/-- ITS FALSE NEIGHBOUR: 'it returns false'. Refute it at one input. -/
def walKnownWrong : ChangeSpec := { name := "walKnown", fn := fun _ => fun
  | [] => { results := [.lit (.bool false)], args := [] }
  | _ => none }
def WalKnownWrongFalsely : Prop := walKnownRow.holds Try.pinned (OpenSpec.ofChange walKnownWrong)

/- THE SECOND FORM. 'bulk': how many values and letters a reading holds, each counted each time it is reached (what is shared counts as often as it is met; a slice's spare places count too). A statement '..UptoSaid' is the law's where the arguments, and the package variables that the reading takes, are together of bulk at most 1048576: NARROWER than '..Said'. Prove '..Said' where nothing that the law and all that it calls make is longer than what came in: it says more and counts as full. Else prove '..UptoSaid'. A law counts once. -/
mutual
def uptoBulk {H : Type} : DataW H → Nat
  | .lit (.string bytes) => bytes.length + 1
  | .lit _ => 1
  | .nil => 1
  | .ptr d => uptoBulk d + 1
  | .slice elems spare => uptoBulkAll elems + uptoBulkAll spare + 1
  | .agg parts => uptoBulkAll parts + 1
  | .iface _ d => uptoBulk d + 1
  | .map entries => uptoBulkEntries entries + 1
  | .held _ => 1
def uptoBulkAll {H : Type} : List (DataW H) → Nat
  | [] => 0
  | d :: r => uptoBulk d + uptoBulkAll r
def uptoBulkEntries {H : Type} : List (Lit × DataW H) → Nat
  | [] => 0
  | x :: r => uptoBulkEntry x + uptoBulkEntries r
def uptoBulkEntry {H : Type} : Lit × DataW H → Nat
  | (.string bytes, d) => bytes.length + uptoBulk d + 1
  | (_, d) => uptoBulk d + 1
 end
def uptoSmall : (H : Type) → List (DataW H) → Bool := fun _ ds => decide (uptoBulkAll ds ≤ 1048576)
def OpenSpec.upto (s : _root_.Go.ChangeSpec) : _root_.Go.OpenSpec := { _root_.Go.OpenSpec.ofChange s with cond := some uptoSmall }

/-- 'aviarylaw8.WalCrash', WHERE WHAT IT READS IS OF BULK AT MOST 1048576: true; the input reads as it did. -/
def walCrashUptoRow : OpenClaim := { program := "ytbfblekabnkghaa", sum := "7b45fd2e064e2f7930731e86c5bb0edb5d4eb846c30b008e219dc4f18a8fdc5d", func := "aviary/aviarylaw8.WalCrash", spec := "walCrash", apart := false, narrowed := true }
def WalCrashUptoSaid : Prop := walCrashUptoRow.holds Try.pinned (OpenSpec.upto walCrashSpec)

/-- 'aviarylaw8.WalFull', WHERE WHAT IT READS IS OF BULK AT MOST 1048576: true; the input reads as it did. -/
def walFullUptoRow : OpenClaim := { program := "ytbfblekabnkghaa", sum := "7b45fd2e064e2f7930731e86c5bb0edb5d4eb846c30b008e219dc4f18a8fdc5d", func := "aviary/aviarylaw8.WalFull", spec := "walFull", apart := false, narrowed := true }
def WalFullUptoSaid : Prop := walFullUptoRow.holds Try.pinned (OpenSpec.upto walFullSpec)

/-- 'aviarylaw8.WalBroken', WHERE WHAT IT READS IS OF BULK AT MOST 1048576: true; the input reads as it did. -/
def walBrokenUptoRow : OpenClaim := { program := "ytbfblekabnkghaa", sum := "7b45fd2e064e2f7930731e86c5bb0edb5d4eb846c30b008e219dc4f18a8fdc5d", func := "aviary/aviarylaw8.WalBroken", spec := "walBroken", apart := false, narrowed := true }
def WalBrokenUptoSaid : Prop := walBrokenUptoRow.holds Try.pinned (OpenSpec.upto walBrokenSpec)

/-- 'aviarylaw8.WalTails', WHERE WHAT IT READS IS OF BULK AT MOST 1048576: true; the input reads as it did. -/
def walTailsUptoRow : OpenClaim := { program := "ytbfblekabnkghaa", sum := "7b45fd2e064e2f7930731e86c5bb0edb5d4eb846c30b008e219dc4f18a8fdc5d", func := "aviary/aviarylaw8.WalTails", spec := "walTails", apart := false, narrowed := true }
def WalTailsUptoSaid : Prop := walTailsUptoRow.holds Try.pinned (OpenSpec.upto walTailsSpec)

/-- 'aviarylaw8.WalRestarts', WHERE WHAT IT READS IS OF BULK AT MOST 1048576: true; the input reads as it did. -/
def walRestartsUptoRow : OpenClaim := { program := "ytbfblekabnkghaa", sum := "7b45fd2e064e2f7930731e86c5bb0edb5d4eb846c30b008e219dc4f18a8fdc5d", func := "aviary/aviarylaw8.WalRestarts", spec := "walRestarts", unfollowed := true, recurses := true, apart := false, narrowed := true }
def WalRestartsUptoSaid : Prop := walRestartsUptoRow.holds Try.pinned (OpenSpec.upto walRestartsSpec)

/-- 'aviarylaw8.WalNumbers', WHERE WHAT IT READS IS OF BULK AT MOST 1048576: true; the input reads as it did. -/
def walNumbersUptoRow : OpenClaim := { program := "ytbfblekabnkghaa", sum := "7b45fd2e064e2f7930731e86c5bb0edb5d4eb846c30b008e219dc4f18a8fdc5d", func := "aviary/aviarylaw8.WalNumbers", spec := "walNumbers", unfollowed := true, recurses := true, apart := false, narrowed := true }
def WalNumbersUptoSaid : Prop := walNumbersUptoRow.holds Try.pinned (OpenSpec.upto walNumbersSpec)

/-- 'aviarylaw8.WalKnown', WHERE WHAT IT READS IS OF BULK AT MOST 1048576: true; the input reads as it did. -/
def walKnownUptoRow : OpenClaim := { program := "ytbfblekabnkghaa", sum := "7b45fd2e064e2f7930731e86c5bb0edb5d4eb846c30b008e219dc4f18a8fdc5d", func := "aviary/aviarylaw8.WalKnown", spec := "walKnown", unfollowed := true, recurses := true, apart := false, narrowed := true }
def WalKnownUptoSaid : Prop := walKnownUptoRow.holds Try.pinned (OpenSpec.upto walKnownSpec)

end Rows
end Go.Proofs.Ytbfblekabnkghaa
