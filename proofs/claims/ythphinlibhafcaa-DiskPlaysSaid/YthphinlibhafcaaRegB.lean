/-
  Regions whose order is drawn: several operations may come up.
-/
import Derived.Test.YthphinlibhafcaaReg
import Derived.WalkKit
namespace Go.Av
section
variable {P : Program} {ops : Array Oper} {Q : Exit → Act → World → Prop} {md : Region.Mode} {S : World → Prop}
/-- Several operations may come up: each is walked. -/
theorem wpAnyM_each {N : Nat} {fuel : Nat} {listed : Array Bool} {a : Act} {w : World} (rs : List Nat) (hr : Region.ready md ops listed = rs) (hne : rs ≠ [])
    (h : ∀ i ∈ rs, ∃ o, ops[i]? = some o ∧ ∀ K : Act → World → Prop, (∀ a' w', S w' → wpAnyM P md ops Q S N fuel (listed.setIfInBounds i true) a' w' → K a' w') → wpList P ops (Exit.then K Q) [o] a w) :
    wpAnyM P md ops Q S N (fuel + 1) listed a w := by
  refine ⟨fun h0 => absurd (hr.symm.trans h0) hne, fun j hj => ?_⟩
  rw [hr] at hj
  obtain ⟨o, ho, h⟩ := h j hj
  have h := h (fun a' w' => (j < N → S w → S w') ∧ wpAnyM P md ops Q S N fuel (listed.setIfInBounds j true) a' w') (fun a' w' h1 h2 => ⟨fun _ _ => h1, h2⟩)
  unfold wpList at h
  unfold wpOp
  simp only [ho]
  by_cases hw : Region.wanted o (yielded ops a.tmps) = true
  · rw [if_pos hw] at h ⊢
    rcases h with h | ⟨h1, h2⟩
    · refine .inl ?_
      unfold Oper.wp at h ⊢
      generalize (execOp a.eval o).run P w = r at h ⊢
      cases r with
      | ok n w' =>
        cases n <;> simp only [Oper.upon, wpList, Exit.then] at h ⊢
        case value => exact h
        case skip => exact h
        case defer => exact h
        case enter =>
          refine Calls.mono h fun e w'' he => ?_
          cases e with
          | returned v => exact he
          | panicked c => exact he
          | outgrown => exact he
        case row => exact h
      | halt x w' => cases x <;> simp only [Oper.upon, Exit.then] at h ⊢ <;> exact h
    · exact .inr ⟨h1, h2⟩
  · rw [if_neg hw] at h ⊢
    exact h
end
end Go.Av
