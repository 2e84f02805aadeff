/-
  A pool: rows that are only read from now on, told together as one thing; it only grows.
-/
import Derived.Test.YtjeaoopamebgjaaDoorBun
namespace Go.Av
open Go.RowKit
abbrev PRow := Nat × Value × List Value
def ThPool (P : List PRow) : Thing :=
  ⟨fun w D => (∀ b ∈ D, b < w.heap.size) ∧ ∀ r ∈ P, ∃ E, ReadRow w r.1 r.2.1 r.2.2 E ∧ ∀ b ∈ E, b ∈ D,
   fun {w w' D} h hs => ⟨fun b hb => by
      have h1 := h.1 b hb
      exact lt_of_heap (o := w.heap[b]) (by rw [hs b hb, Array.getElem?_eq_getElem h1]),
    fun r hr => by
      obtain ⟨E, h1, h2⟩ := h.2 r hr
      exact ⟨E, h1.frame (fun b hb => hs b (h2 b hb)), h2⟩⟩,
   fun h => h.1⟩
section
variable {w0 w : World} {R : List Thing} {rows : List (Value × Bs)} {P Q : List PRow}
theorem Sep.poolNew (h : Sep w0 w R rows) : Sep w0 w (ThPool [] :: R) rows :=
  h.add (D' := []) (Upd.refl w []) ⟨by simp, by simp⟩
theorem Sep.poolGet (h : Sep w0 w (ThPool P :: R) rows) {r : PRow} (hr : r ∈ P) : ∃ E, ReadRow w r.1 r.2.1 r.2.2 E := by
  obtain ⟨D, hD⟩ := h.fst
  obtain ⟨E, hE, -⟩ := hD.2 r hr
  exact ⟨E, hE⟩
/-- A row that was owned is the pool's from now on. -/
theorem Sep.poolRow {K : Nat} {v : Value} {xs : List Value} (h : Sep w0 w (ThRow K v xs :: ThPool P :: R) rows) : Sep w0 w (ThPool ((K, v, xs) :: P) :: R) rows := by
  obtain ⟨F, hl, hu, hr⟩ := h
  cases hl with
  | @cons _ D _ _ h1 h2 h3 =>
    cases h3 with
    | @cons _ E _ G k1 k2 k3 =>
      obtain ⟨X, hX, hXD⟩ := OwnRow.read h1
      refine ⟨(D ++ E) ++ G, .cons ⟨fun b hb => ?_, fun r hr => ?_⟩ (fun x hx he => ?_) k3, hu.mono (by simp) (fun b hb => .inl (by simpa [List.append_assoc] using hb)), hr.sub (fun x hx => by simpa [List.append_assoc] using hx)⟩
      · rcases List.mem_append.1 hb with hb | hb
        · exact h1.lt b hb
        · exact k1.1 b hb
      · rcases List.mem_cons.1 hr with rfl | hr
        · exact ⟨X, hX, fun b hb => by simp [hXD b hb]⟩
        · obtain ⟨Y, hY, hYE⟩ := k1.2 r hr
          exact ⟨Y, hY, fun b hb => by simp [hYE b hb]⟩
      · rcases List.mem_append.1 hx with hx | hx
        · exact h2 x hx (by simp [he])
        · exact k2 x hx he
theorem Sep.poolNil (h : Sep w0 w (ThPool P :: R) rows) (K : Nat) : Sep w0 w (ThPool ((K, .slice none 0 0, []) :: P) :: R) rows :=
  (h.nilRow K).poolRow
/-- A new row of the pool's. -/
theorem Sep.poolAdd {K : Nat} {v : Value} {xs : List Value} {w' : World} {D : List Nat} (h : Sep w0 w (ThPool P :: R) rows) (ho : OwnRow w' K v xs D) (hu : Upd w w' [] D) : Sep w0 w' (ThPool ((K, v, xs) :: P) :: R) rows :=
  (h.addRow ho hu).poolRow
theorem Sep.poolSub (h : Sep w0 w (ThPool P :: R) rows) (hs : ∀ r ∈ Q, r ∈ P) : Sep w0 w (ThPool Q :: R) rows := by
  obtain ⟨F, hl, hu, hr⟩ := h
  cases hl with
  | @cons _ D _ E h1 h2 h3 => exact ⟨D ++ E, .cons ⟨h1.1, fun r hr => h1.2 r (hs r hr)⟩ h2 h3, hu, hr⟩
/-- A thing that says less. -/
theorem Sep.imp {T T' : Thing} (h : Sep w0 w (T :: R) rows) (hi : ∀ D, T.P w D → T'.P w D) : Sep w0 w (T' :: R) rows := by
  obtain ⟨F, hl, hu, hr⟩ := h
  cases hl with
  | @cons _ D _ E h1 h2 h3 => exact ⟨D ++ E, .cons (hi _ h1) h2 h3, hu, hr⟩
theorem Sep.mapImp {α : Type} (f g : α → Thing) {L : List α} {A : List Thing} (h : Sep w0 w (A ++ (L.map f ++ R)) rows) (hi : ∀ x ∈ L, ∀ D, (f x).P w D → (g x).P w D) : Sep w0 w (A ++ (L.map g ++ R)) rows := by
  induction L generalizing A with
  | nil => exact h
  | cons x L ih =>
    have h1 : Sep w0 w (f x :: (A ++ (L.map f ++ R))) rows := h.perm List.perm_middle
    have h2 := h1.imp (T' := g x) (fun D => hi x (by simp) D)
    have h3 : Sep w0 w ((A ++ [g x]) ++ (L.map f ++ R)) rows := by
      rw [List.append_assoc]
      exact h2.perm List.perm_middle.symm
    have h4 := ih (A := A ++ [g x]) h3 (fun y hy => hi y (by simp [hy]))
    rw [List.append_assoc] at h4
    exact h4
end
end Go.Av
