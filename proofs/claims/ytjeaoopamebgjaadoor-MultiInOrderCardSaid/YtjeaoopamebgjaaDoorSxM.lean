/-
  The walk by things: a range over a map; one of many things taken up.
-/
import Derived.Test.YtjeaoopamebgjaaDoorTreeO
namespace Go.Av
open Go.RowKit
/-- A map, and an iterator over it. -/
def ThIter (d : TypeDesc) (m r : Nat) (l left : List (Value × Value)) : Thing :=
  ⟨fun w D => RangeIs w d m r l left ∧ m ≠ r ∧ D = [m, r], fun h hs => ⟨h.1.frame (hs _ (by simp [h.2.2])) (hs _ (by simp [h.2.2])), h.2⟩, fun h x hx => by
    rw [h.2.2] at hx
    obtain ⟨es, clock, seen, a1, a2, a3, a4, a5, a6⟩ := h.1
    rcases List.mem_cons.1 hx with rfl | hx
    · exact lt_of_heap a1
    · rw [List.mem_singleton] at hx; subst hx; exact lt_of_heap a5⟩
section
variable {P : Program} {w0 w : World} {R : List Thing} {rows : List (Value × Bs)} {d : TypeDesc} {m r : Nat} {l : List (Value × Value)}
theorem it_start {t k e : TypeId} (h : Sep w0 w (ThMap d m l :: R) rows) (ht : P.underlying t = some (.map k e)) :
    ∃ r w', (Instr.range t (.map (some m))).run P w = .ok (.pointer (some ⟨r, 0, none⟩)) w' ∧ Sep w0 w' (ThIter d m r l l :: R) rows := by
  obtain ⟨D, hP, _, back⟩ := h.use
  obtain ⟨o, hrun, hR⟩ := mp_range (P := P) hP.1 ht
  have hlt := hP.1.lt
  refine ⟨w.heap.size, w.alloc o, hrun, back (w.alloc o) [m, w.heap.size] (ThIter d m w.heap.size l l) ?_ ⟨hR, by omega, rfl⟩⟩
  rw [hP.2]
  exact (Upd.alloc1 w o [m]).mono (fun _ h => h) (fun b hb => by
    simp only [List.mem_cons, List.not_mem_nil, or_false] at hb ⊢
    rcases hb with h | h <;> simp [h])
theorem it_next {α : Type} (ent : α → Value × Value) {left : List α} (h : Sep w0 w (ThIter d m r l (left.map ent) :: R) rows) :
    (left = [] ∧ ∀ ty, (Instr.next (.pointer (some ⟨r, 0, none⟩)) false ty).run P w = .ok (.tuple #[.bool false]) w) ∨
    ∃ l1 g l2 w', left = l1 ++ g :: l2 ∧ (∀ ty, (Instr.next (.pointer (some ⟨r, 0, none⟩)) false ty).run P w = .ok (.tuple #[.bool true, (ent g).1, (ent g).2]) w') ∧ Sep w0 w' (ThIter d m r l ((l1 ++ l2).map ent) :: R) rows ∧
      (Instr.entry (.pointer (some ⟨r, 0, none⟩))).run P w' = .ok (.tuple #[(ent g).1, (ent g).2]) w' := by
  obtain ⟨D, hP, _, back⟩ := h.use
  obtain ⟨hR, hne, rfl⟩ := hP
  rcases mp_next (P := P) ent hR hne with ⟨h0, hn⟩ | ⟨l1, g, l2, w', h0, hn, hR', hu, he⟩
  · exact .inl ⟨h0, hn⟩
  · exact .inr ⟨l1, g, l2, w', h0, hn, back w' [m, r] (ThIter d m r l ((l1 ++ l2).map ent)) (hu.mono (by simp) (fun b hb => .inr hb)) ⟨hR', hne, rfl⟩, he⟩
theorem it_end {left : List (Value × Value)} (h : Sep w0 w (ThIter d m r l left :: R) rows) : Sep w0 w (ThMap d m l :: R) rows := by
  obtain ⟨D, hP, _, back⟩ := h.use
  obtain ⟨⟨es, clock, seen, a1, a2, a3, a4, a5, a6⟩, hne, rfl⟩ := hP
  exact back w [m] (ThMap d m l) (Upd.mono (Upd.refl w [m, r]) (fun _ h => h) (fun b hb => .inr (by simp at hb; simp [hb]))) ⟨⟨es, clock, a1, a2, a3, a4⟩, rfl⟩
/-- One of many things. -/
theorem thl_out {α : Type} {f : α → Thing} {l1 l2 : List α} {g : α} (h : Sep w0 w (ThL ((l1 ++ g :: l2).map f) :: R) rows) : Sep w0 w (f g :: ThL ((l1 ++ l2).map f) :: R) rows := by
  have h1 := h.opensL
  have h2 : Sep w0 w (((l1 ++ l2).map f) ++ (f g :: R)) rows := h1.perm (by
    simp only [List.map_append, List.map_cons, List.append_assoc, List.cons_append]
    refine List.Perm.append_left _ ?_
    exact List.perm_middle.symm)
  exact h2.shutL.perm (List.Perm.swap _ _ _)
theorem thl_in {α : Type} {f : α → Thing} {l1 l2 : List α} {g : α} (h : Sep w0 w (f g :: ThL ((l1 ++ l2).map f) :: R) rows) : Sep w0 w (ThL ((l1 ++ g :: l2).map f) :: R) rows := by
  have h1 := (h.perm (List.Perm.swap _ _ _)).opensL
  refine Sep.shutL (h1.perm ?_)
  simp only [List.map_append, List.map_cons, List.append_assoc, List.cons_append]
  refine List.Perm.append_left _ ?_
  exact List.perm_middle
theorem thl_add {α : Type} {f : α → Thing} {l1 : List α} {g : α} (h : Sep w0 w (f g :: ThL (l1.map f) :: R) rows) : Sep w0 w (ThL ((l1 ++ [g]).map f) :: R) rows := by
  have h2 : Sep w0 w (f g :: ThL ((l1 ++ []).map f) :: R) rows := by rw [List.append_nil]; exact h
  exact thl_in h2
theorem thl_nil (h : Sep w0 w R rows) : Sep w0 w (ThL [] :: R) rows := Sep.shutL (N := []) h
/-- A key more. -/
theorem Sep.mapAdd {t k e : TypeId} {key v : Value} (h : Sep w0 w (ThMap d m l :: R) rows) (ht : P.underlying t = some (.map k e)) (hd : P.underlying k = some d) (hk : MapKept.IsKey d key) (hn : ∀ p ∈ l, p.1 ≠ key) :
    ∃ w', (Instr.mapUpdate t (.map (some m)) key v).run P w = .ok () w' ∧ Sep w0 w' (ThMap d m (l ++ [(key, v)]) :: R) rows := by
  obtain ⟨w', hrun, hM, hU⟩ := mp_new (P := P) (v := v) h.mapIs ht hd hk hn
  exact ⟨w', hrun, h.mapTo hU hM⟩
end
end Go.Av
namespace Go.Proofs.YtjeaoopamebgjaaDoor
open Go.RowKit Go.Av
section
variable {w0 w : World} {t m : Nat} {S : TreeS} {P P' : List PRow} {R : List Thing} {rows : List (Value × Bs)} {gs : List NodeG}
/-- A tree, all of it opened. -/
theorem tree_open (h : Sep w0 w (ThTree t S P :: R) rows) :
    ∃ (m : Nat) (gs : List NodeG), (gs.map NodeG.ent).Perm S.l ∧ RiseT S.l ∧ (∀ g ∈ gs, (1, g.nv, g.n.names.map sv) ∈ P) ∧ Sep w0 w (thTree t m S.room :: ThMap .string m (gs.map NodeG.kv) :: ThL (gs.map NodeG.th) :: R) rows := by
  obtain ⟨L, ⟨m, gs, rfl, h1, h2, h3⟩, hS⟩ := h.opens
  exact ⟨m, gs, h1, h2, h3, (Sep.shutL (N := gs.map NodeG.th) (R := thTree t m S.room :: ThMap .string m (gs.map NodeG.kv) :: R) (hS.perm (mid_perm [_, _] _ R))).perm (List.perm_middle (l₁ := [_, _])).symm⟩
theorem tree_shut (h : Sep w0 w (thTree t m S.room :: ThMap .string m (gs.map NodeG.kv) :: ThL (gs.map NodeG.th) :: R) rows) (h1 : (gs.map NodeG.ent).Perm S.l) (h2 : RiseT S.l) (h3 : ∀ g ∈ gs, (1, g.nv, g.n.names.map sv) ∈ P) : Sep w0 w (ThTree t S P :: R) rows := by
  refine Sep.shut (O := TrO t S P) (L := trTh t m S.room gs) ⟨m, gs, rfl, h1, h2, h3⟩ ?_
  have h6 := (h.perm (List.perm_middle (l₁ := [_, _]))).opensL
  exact h6.perm (mid_perm [_, _] _ R).symm
end
end Go.Proofs.YtjeaoopamebgjaaDoor
