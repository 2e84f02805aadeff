/-
  Several things as one: an object that is made of parts is itself a thing; things by their places.
-/
import Derived.Test.YtjeaoopamebgjaaDoorSepC
namespace Go.Av
open Go.RowKit

/-- An object that is made of parts: some list of things that O allows. -/
def Bun (O : List Thing → Prop) : Thing :=
  ⟨fun w D => ∃ L, O L ∧ Lie w L D, fun h hs => by obtain ⟨L, h1, h2⟩ := h; exact ⟨L, h1, h2.frame hs⟩, fun h => by obtain ⟨L, h1, h2⟩ := h; exact h2.lt⟩
section
variable {w0 w : World} {R : List Thing} {rows : List (Value × Bs)}
theorem Sep.opens {O : List Thing → Prop} (h : Sep w0 w (Bun O :: R) rows) : ∃ L, O L ∧ Sep w0 w (L ++ R) rows := by
  obtain ⟨F, hl, hu, hr⟩ := h
  cases hl with
  | @cons _ D _ E h1 h2 h3 =>
    obtain ⟨L, hO, hL⟩ := h1
    exact ⟨L, hO, D ++ E, hL.append h3 h2, hu, hr⟩
theorem Sep.shut {O : List Thing → Prop} {L : List Thing} (hO : O L) (h : Sep w0 w (L ++ R) rows) : Sep w0 w (Bun O :: R) rows := by
  obtain ⟨F, hl, hu, hr⟩ := h
  obtain ⟨D, E, rfl, hA, hB, ha⟩ := hl.split
  exact ⟨D ++ E, .cons (T := Bun O) ⟨L, hO, hA⟩ ha hB, hu, hr⟩
theorem perm_pick : ∀ {A B : List Thing} {T : Thing} {i : Nat}, A[i]? = some T → A.eraseIdx i = B → (T :: B).Perm A
  | [], _, _, _, h, _ => by simp at h
  | a :: A, B, T, 0, h, e => by
    simp at h e
    subst h; subst e
    exact List.Perm.refl _
  | a :: A, B, T, i + 1, h, e => by
    simp at h e
    subst e
    exact (List.Perm.swap _ _ _).trans ((perm_pick h rfl).cons _)
/-- The thing at place i, ahead of all. -/
theorem Sep.pick {A B : List Thing} {T : Thing} (h : Sep w0 w A rows) (i : Nat) (hT : A[i]? = some T) (hB : A.eraseIdx i = B) : Sep w0 w (T :: B) rows := h.perm (perm_pick hT hB).symm
/-- The first thing, laid back at place i. -/
theorem Sep.lay {A B : List Thing} {T : Thing} (h : Sep w0 w (T :: B) rows) (i : Nat) (hT : A[i]? = some T) (hB : A.eraseIdx i = B) : Sep w0 w A rows := h.perm (perm_pick hT hB)
theorem Sep.sub {A B : List Thing} (h : Sep w0 w (A ++ B) rows) : Sep w0 w B rows := by
  induction A with
  | nil => exact h
  | cons T A ih => exact ih h.drop
end
end Go.Av
