/-
  Objects in another order; single blocks.
-/
import Derived.Test.YtjeaoopamebgjaaDoorSep
namespace Go.Av
open Go.RowKit

theorem Lie.perm {w : World} {A B : List Thing} (hp : A.Perm B) : ∀ {D : List Nat}, Lie w A D → ∃ E, Lie w B E ∧ ∀ x, x ∈ E ↔ x ∈ D := by
  induction hp with
  | nil => exact fun h => ⟨_, h, fun _ => .rfl⟩
  | cons a _ ih =>
    intro D h
    cases h with
    | cons h1 h2 h3 =>
      obtain ⟨E, hE, he⟩ := ih h3
      exact ⟨_, .cons h1 (fun x hx hm => h2 x hx ((he x).1 hm)) hE, fun x => by simp [he]⟩
  | swap a b l =>
    intro D h
    cases h with
    | @cons _ D _ E' h1 h2 h3 =>
      cases h3 with
      | @cons _ E _ G k1 k2 k3 =>
        refine ⟨E ++ (D ++ G), .cons k1 (fun x hx he => ?_) (.cons h1 (fun x hx he => h2 x hx (by simp [he])) k3), fun x => by simp only [List.mem_append]; exact ⟨fun h => by rcases h with h | h | h <;> simp [h], fun h => by rcases h with h | h | h <;> simp [h]⟩⟩
        rcases List.mem_append.1 he with he | he
        · exact h2 x he (by simp [hx])
        · exact k2 x hx he
  | trans _ _ ih1 ih2 =>
    intro D h
    obtain ⟨E, hE, he⟩ := ih1 h
    obtain ⟨G, hG, hg⟩ := ih2 hE
    exact ⟨G, hG, fun x => (hg x).trans (he x)⟩
theorem Sep.perm {w0 w : World} {A B : List Thing} {rows : List (Value × Bs)} (h : Sep w0 w A rows) (hp : A.Perm B) : Sep w0 w B rows := by
  obtain ⟨D, hl, hu, hr⟩ := h
  obtain ⟨E, hE, he⟩ := Lie.perm hp hl
  exact ⟨E, hE, hu.mono (by simp) (fun b hb => .inl ((he b).1 hb)), hr.sub (fun x hx => (he x).1 hx)⟩
/-- The first is laid behind the next two. -/
theorem Sep.back2 {w0 w : World} {X A B : Thing} {R : List Thing} {rows : List (Value × Bs)} (h : Sep w0 w (X :: A :: B :: R) rows) : Sep w0 w (A :: B :: X :: R) rows :=
  h.perm (List.perm_middle (l₁ := [A, B])).symm

/-- One block. -/
def ThCell (b : Nat) (o : Obj) : Thing := ⟨fun w D => w.heap[b]? = some o ∧ D = [b], fun h hs => ⟨(hs _ (by simp [h.2])).trans h.1, h.2⟩, fun h x hx => by rw [h.2, List.mem_singleton] at hx; subst hx; exact lt_of_heap h.1⟩
theorem Lie.has {w : World} {A : List Thing} {D : List Nat} (h : Lie w A D) {T : Thing} (hT : T ∈ A) : ∃ E, T.P w E ∧ ∀ x ∈ E, x ∈ D := by
  induction h with
  | nil => cases hT
  | @cons _ D _ E h1 _ _ ih =>
    rcases List.mem_cons.1 hT with rfl | hT
    · exact ⟨D, h1, fun x hx => by simp [hx]⟩
    · obtain ⟨E', k1, k2⟩ := ih hT
      exact ⟨E', k1, fun x hx => by simp [k2 x hx]⟩
theorem Sep.has {w0 w : World} {A : List Thing} {rows : List (Value × Bs)} (h : Sep w0 w A rows) {T : Thing} (hT : T ∈ A) : ∃ E, T.P w E := by
  obtain ⟨D, hl, _⟩ := h
  obtain ⟨E, hE, _⟩ := hl.has hT
  exact ⟨E, hE⟩
theorem Sep.block {w0 w : World} {A : List Thing} {rows : List (Value × Bs)} (h : Sep w0 w A rows) {b : Nat} {o : Obj} (hT : ThCell b o ∈ A) : w.heap[b]? = some o := by
  obtain ⟨E, hE⟩ := h.has hT
  exact hE.1
theorem Sep.newCell {w0 w : World} {A : List Thing} {rows : List (Value × Bs)} (h : Sep w0 w A rows) (o : Obj) : Sep w0 (w.alloc o) (ThCell w.heap.size o :: A) rows :=
  h.add (Upd.alloc1 w o []) ⟨heap_alloc_new w o, rfl⟩

end Go.Av
