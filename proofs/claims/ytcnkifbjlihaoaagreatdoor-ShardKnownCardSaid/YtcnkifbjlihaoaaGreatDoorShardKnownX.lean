/-
  Proved: the given statement ShardKnownSaid: at every input the law ShardKnown returns true and changes nothing that was there before the call.
  Conditions: none besides those that the given statement itself states.
-/
import Derived.Test.YtcnkifbjlihaoaaGreatDoorTie
import Derived.Test.YtcnkifbjlihaoaaGreatDoorCards
import Derived.WalkKit
import Derived.ProofKit
import Derived.OpenShut
import Derived.ShutString
import Derived.ChangeOld
import Derived.Below
import Derived.LaidMore
import Derived.Lay
import Derived.SevenTiedAt
import Derived.Stop.Joined
import Derived.Test.YtcnkifbjlihaoaaGreatDoorMg9
namespace Go.Proofs.YtcnkifbjlihaoaaGreatDoor.shardKnown
open Go.Proofs.YtcnkifbjlihaoaaGreatDoor
open Go.ChangeShapes Go.WideShapes Go.ChangeAt Go.RowKit
open Go.ChangeMaps (open_string shut_string)
set_option linter.unusedVariables false

theorem own : ownKnob Tryz.prog.godebug = none := by kernel_rfl
theorem laidOut : laidOutB Tryz.prog = true := by kernel_rfl

set_option maxRecDepth 100000 in
theorem lifted (os : Os) (started : os.Started) (H : Type) (enc : TypeId × Value → H) :
    ReturnsInHanded {} Tryz.checked os 6 .any (fun w args => (Rows.shardKnownSpec.pre enc Tryz.prog Tryz.f6 Rows.shardKnownRow.domain false w args ∧ laidMetH Tryz.prog Rows.shardKnownRow.laid w) ∧ sizedMet enc Tryz.prog Tryz.f6 (OpenSpec.ofChange Rows.shardKnownSpec) false w args) (Rows.shardKnownSpec.post enc Tryz.prog Tryz.f6 false true false false) := by
  refine Go.Av.handed_both (C := Tryz.checked) (X := fun w _ => laidMetH Tryz.prog Rows.shardKnownRow.laid w) (fun _ _ _ hh h => h.of_heap hh) own started (by kernel_rfl) Tryz.func6
    (ChangeSpec.witness_shaped (enc := enc) (C := Tryz.checked) (os := os) (X := fun w _ => laidMetH Tryz.prog Rows.shardKnownRow.laid w) false (World.laidAll Tryz.prog os Rows.shardKnownRow.laid) #[] 8 (World.laidAll_os _ _ _)
      (World.shaped_of_ZipB (by kernel_rfl) (by kernel_rfl)) (by kernel_rfl) (by kernel_rfl) (by kernel_rfl)
      (by rw [MakeChecks.laidMetH_plain _ _ _ (by kernel_rfl)]; exact laidMet_laidAll _ (by kernel_rfl) (by kernel_rfl))) ?_
  intro W base args ds gs before hval0 hW hsh hlaid
  rw [MakeChecks.laidMetH_plain _ _ _ (by kernel_rfl)] at hlaid
  have hdoor := doorN_of hsh (by first | rfl | kernel_rfl) hlaid
  have hval : ∀ (j : Nat) t v, Tryz.f6.params[j]? = some t → args[j]? = some v → Value.okWide Tryz.prog W .any base t v := hval0
  have hW' := hW
  obtain ⟨p, q, hA0, hV, rfl, hfz, hnd⟩ := hW
  have hA : DataW.TrodAll enc Tryz.prog W 0 (fun _ => true) true Tryz.f6.params.toList args.toList ds p := hA0
  rw [Tryz.params6] at hA hval
  obtain ⟨hargs, rfl, rfl⟩ := trodAll_nil hA
  obtain rfl : args = #[] := by cases args; simp_all
  obtain ⟨rfl, rfl⟩ := trodVars_none hV
  clear hA0 hval0
  refine (shardKnown_walk W hdoor).mono fun e W' ⟨he, bel⟩ => ?_
  subst he
  exact ⟨_, rfl, _, _, _, [], _, [], hW', trodAll_mk1 (shut_bool Tryz.underlying4 _), trodAll_mk0, rfl, bel.frame _, fun h => by cases h⟩

set_option maxHeartbeats 40000000 in
theorem closed : joinedFacts Tryz.prog 6 Tryz.f6 Rows.shardKnownSpec Rows.shardKnownRow = true := by
  unfold joinedFacts
  simp only [Bool.and_eq_true]
  repeat' apply And.intro
  all_goals (as_aux_lemma => kernel_rfl)
theorem fnamed : Tryz.prog.funcNamed "aviary/aviarylaw25.ShardKnown" = some 6 := by kernel_rfl

theorem over : Rows.shardKnownRow.holds Tryz.pinned (OpenSpec.ofChange Rows.shardKnownSpec) :=
  OpenClaim.holds_of_wide 6 Tryz.f6 rfl rfl rfl rfl rfl rfl rfl ⟨rfl, rfl, rfl, rfl, rfl⟩ rfl rfl rfl rfl rfl fnamed Tryz.func6 closed
    (of_decide_eq_true (by as_aux_lemma => kernel_rfl)) (by unfold Func.isWrapper; first | (rw [if_pos (by decide +kernel)]; kernel_rfl) | (rw [if_neg (by decide +kernel)]; exact ⟨rfl, rfl⟩))
    (fun os started H enc _ => lifted os started H enc)

/-- ████ THE STATEMENT ████ -/
theorem proved : Rows.ShardKnownCardSaid :=
  Claim7.holds_tied_plain_at .later [] [.data, .data, .data, .data, .pinned] true (true, "b67b679eb968928117291da71070c205f703e847ebd9852390de1d35fbe8c3e0") false over (fun _ h => by cases h) (by as_aux_lemma => kernel_rfl) (fun _ h => by cases h) shardKnown_row_tie rfl ⟨rfl, rfl⟩ (by as_aux_lemma => kernel_rfl) rfl
    (fun f fn hf hfn => by
      obtain rfl : f = 6 := Option.some.inj (fnamed.symm.trans hf) |>.symm
      obtain rfl : fn = Tryz.f6 := (Option.some.inj (Tryz.func6.symm.trans hfn)).symm
      exact ⟨by as_aux_lemma => kernel_rfl, fun j t ht => by
        rw [Tryz.params6] at ht
        have hm : t ∈ [] := by simpa using Array.mem_of_getElem? ht
        have hall : ([].all fun u => !Tryz.prog.wantsStandIn u) = true := by kernel_rfl
        exact (show Tryz.prog.wantsStandIn t = false by simpa using List.all_eq_true.1 hall t hm)⟩)
    (by as_aux_lemma => kernel_rfl)
#print axioms proved
end Go.Proofs.YtcnkifbjlihaoaaGreatDoor.shardKnown
