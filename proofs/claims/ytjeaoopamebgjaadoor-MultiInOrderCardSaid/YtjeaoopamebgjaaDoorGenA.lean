/-
  Rows of bytes, slices of such rows: what the walks share.
-/
import Derived.Test.YtjeaoopamebgjaaDoorSep
import Derived.Test.YtjeaoopamebgjaaDoorReg
namespace Go.Proofs.YtjeaoopamebgjaaDoor
open Go.RowKit Go.Av

theorem row_cell {w : World} {a : Option Addr} {n c : Nat} {xs : List Value} {E : List Nat} (h : ReadRow w 1 (.slice a n c) xs E) : n = xs.length ∧ n ≤ c ∧ c ≤ maxLen ∧ (0 < n → ∃ x : Addr, a = some x ∧ x.spot = none ∧ ∀ (i : Nat) u, xs[i]? = some u → w.cell? (x.add i) = some u) := by
  obtain ⟨a', n', c', hv, hl, hn, hc, ha, hr⟩ := h
  cases hv
  refine ⟨by simpa using hl.symm, hn, hc, fun h0 => ?_⟩
  rcases hr with ⟨h1, _⟩ | ⟨g, off, h1, h2, h3, h4⟩
  · subst h1; simp at hl; omega
  · exact ⟨⟨g, off, none⟩, h1, rfl, fun i u hu => by rw [Addr.add_lit]; exact h4 i u hu⟩
/-- A new slice of bytes is handed back. -/
def NewBytes (w : World) (b : Bs) (e : Ending) (w' : World) : Prop := ∃ v' D', e = .returned v' ∧ OwnRow w' 1 v' (b.map bv) D' ∧ Upd w w' [] D'
/-- What was appended is the object's; nothing else has turned. -/
def AppPost (w : World) (D : List Nat) (l : Bs) (e : Ending) (w' : World) : Prop := ∃ v D', e = .returned v ∧ OwnRow w' 1 v (l.map bv) D' ∧ Upd w w' D D'
/-- A slice that an object owns of rows of bytes that are read alone: the rows' bytes ls, all blocks D. -/
def RecsAt (w : World) (v : Value) (ls : List Bs) (D : List Nat) : Prop :=
  ∃ (rows : List (Value × Bs × List Nat)) (D0 : List Nat), rows.map (·.2.1) = ls ∧ D = D0 ++ rows.flatMap (·.2.2) ∧ OwnRow w 1 v (rows.map (·.1)) D0 ∧
    ∀ r ∈ rows, ReadRow w 1 r.1 (r.2.1.map bv) r.2.2 ∧ ∀ x ∈ r.2.2, x ∉ D0
theorem RecsAt.frame {w w' : World} {v : Value} {ls : List Bs} {D : List Nat} (h : RecsAt w v ls D) (hs : Same w w' D) : RecsAt w' v ls D := by
  obtain ⟨rows, D0, h1, h2, h3, h4⟩ := h
  refine ⟨rows, D0, h1, h2, h3.frame (fun b hb => hs b (by rw [h2]; simp [hb])), fun r hr => ⟨(h4 r hr).1.frame (fun b hb => hs b (by rw [h2]; simp only [List.mem_append, List.mem_flatMap]; exact .inr ⟨r, hr, hb⟩)), (h4 r hr).2⟩⟩
theorem RecsAt.lt {w : World} {v : Value} {ls : List Bs} {D : List Nat} (h : RecsAt w v ls D) : ∀ b ∈ D, b < w.heap.size := by
  obtain ⟨rows, D0, h1, h2, h3, h4⟩ := h
  intro b hb
  rw [h2] at hb
  simp only [List.mem_append, List.mem_flatMap] at hb
  rcases hb with hb | ⟨r, hr, hb⟩
  · exact h3.lt b hb
  · exact (h4 r hr).1.lt b hb
theorem RecsAt.nil (w : World) : RecsAt w (.slice none 0 0) [] [] := ⟨[], [], rfl, rfl, OwnRow.nil _ _, by simp⟩
theorem cell_new (w : World) (v : Value) (T : TypeId) (fr : Nat × Nat) : ReadRow (w.alloc (.cells #[v] T fr)) 1 (.slice (some ⟨w.heap.size, 0, none⟩) 1 1) [v] [w.heap.size] :=
  ⟨_, 1, 1, rfl, rfl, Nat.le_refl _, by decide, by simp, .inr ⟨w.heap.size, 0, rfl, rfl, by simp, fun i x hx => by
    have hh : (w.alloc (.cells #[v] T fr)).heap[w.heap.size]? = some (.cells #[v] T fr) := heap_alloc_new w _
    rw [cell_of_row _ _ _ _ _ _ hh]
    simpa using hx⟩⟩
/-- One more row behind. -/
theorem recs_push {w1 w2 w3 : World} {rows : List (Value × Bs × List Nat)} {D0 D1 D3 E1 : List Nat} {v1 v3 : Value} {l1 : Bs}
    (h3 : ∀ r ∈ rows, ReadRow w1 1 r.1 (r.2.1.map bv) r.2.2 ∧ ∀ x ∈ r.2.2, x ∉ D0) (hlt : ∀ b ∈ D0, b < w1.heap.size) (hu1 : Upd w1 w2 [] D1) (hr1 : ReadRow w2 1 v1 (l1.map bv) E1) (hE : ∀ b ∈ E1, b ∈ D1)
    (hu2 : Upd w2 w3 D0 D3) (ho : OwnRow w3 1 v3 (rows.map (·.1) ++ [v1]) D3) :
    RecsAt w3 v3 (rows.map (·.2.1) ++ [l1]) (D3 ++ (rows ++ [(v1, l1, E1)]).flatMap (·.2.2)) ∧ Upd w1 w3 (D0 ++ rows.flatMap (·.2.2)) (D3 ++ (rows ++ [(v1, l1, E1)]).flatMap (·.2.2)) := by
  have hsz := hu1.size
  have hnew : ∀ b ∈ E1, w1.heap.size ≤ b ∧ b < w2.heap.size := fun b hb => by
    rcases hu1.new b (hE b hb) with h | h
    · cases h
    · exact h
  have hD3 : ∀ b ∈ D3, b ∈ D0 ∨ w2.heap.size ≤ b ∧ b < w3.heap.size := hu2.new
  constructor
  · refine ⟨rows ++ [(v1, l1, E1)], D3, by simp, rfl, by simpa using ho, fun r hr => ?_⟩
    rcases List.mem_append.1 hr with hr | hr
    · obtain ⟨h4, h5⟩ := h3 r hr
      have h6 := h4.frame (hu1.same h4.lt (by simp))
      refine ⟨h6.frame (hu2.same h6.lt h5), fun x hx hd => ?_⟩
      rcases hD3 x hd with h | h
      · exact h5 x hx h
      · have := h6.lt x hx; omega
    · obtain rfl := List.mem_singleton.1 hr
      have hn : ∀ x ∈ E1, x ∉ D0 := fun x hx hd => by have := hnew x hx; have := hlt x hd; omega
      refine ⟨hr1.frame (hu2.same hr1.lt hn), fun x hx hd => ?_⟩
      rcases hD3 x hd with h | h
      · exact hn x hx h
      · have := hnew x hx; omega
  · refine ⟨hu2.os.trans hu1.os, hu2.tape.trans hu1.tape, hu2.output.trans hu1.output, Nat.le_trans hu1.size hu2.size, fun b hb hn => ?_, fun b hb => ?_⟩
    · simp only [List.mem_append, not_or] at hn
      rw [hu2.keep b (by omega) hn.1, hu1.keep b hb (by simp)]
    · simp only [List.mem_append, List.flatMap_append, List.flatMap_cons, List.flatMap_nil, List.append_nil] at hb ⊢
      have h3s := hu2.size
      rcases hb with hb | hb | hb
      · rcases hD3 b hb with h | h
        · exact .inl (.inl h)
        · exact .inr ⟨by omega, h.2⟩
      · exact .inl (.inr hb)
      · have := hnew b hb
        exact .inr ⟨this.1, by omega⟩
theorem RecsAt.slice {w : World} {v : Value} {ls : List Bs} {D : List Nat} (h : RecsAt w v ls D) : ∃ a c, v = .slice a ls.length c ∧ ls.length ≤ c ∧ c ≤ maxLen := by
  obtain ⟨rows, D0, h1, h2, ⟨a, n, c, hv, hl, hn, hc, _⟩, h4⟩ := h
  have : ls.length = n := by rw [← h1]; simpa using hl
  subst this
  exact ⟨a, c, hv, hn, hc⟩
theorem ownCell {w : World} {a : Option Addr} {n c : Nat} {xs : List Value} {D : List Nat} (h : OwnRow w 1 (.slice a n c) xs D) {i : Nat} {x : Value} (hx : xs[i]? = some x) :
    ∃ y : Addr, a = some y ∧ y.spot = none ∧ w.cell? (y.add i) = some x := by
  obtain ⟨E, hr, _⟩ := h.read
  obtain ⟨hn, _, _, hc⟩ := row_cell hr
  obtain ⟨y, hy, hs, hcc⟩ := hc (by have := (List.getElem?_eq_some_iff.1 hx).1; omega)
  exact ⟨y, hy, hs, hcc i x hx⟩
/-- A record's slice. -/
theorem recsCell {w : World} {a : Option Addr} {n c : Nat} {ls : List Bs} {D : List Nat} (h : RecsAt w (.slice a n c) ls D) {i : Nat} {l : Bs} (hl : ls[i]? = some l) :
    ∃ (y : Addr) (v : Value) (E : List Nat), a = some y ∧ y.spot = none ∧ w.cell? (y.add i) = some v ∧ ReadRow w 1 v (l.map bv) E ∧ ∀ x ∈ E, x ∈ D := by
  obtain ⟨rows, D0, rfl, rfl, ho, hr⟩ := h
  rw [List.getElem?_map] at hl
  cases hq : rows[i]? with
  | none => rw [hq] at hl; cases hl
  | some q =>
    rw [hq] at hl
    simp only [Option.map_some, Option.some.injEq] at hl
    subst hl
    have hm := List.mem_of_getElem? hq
    obtain ⟨y, hy, hs, hc⟩ := ownCell ho (i := i) (x := q.1) (by rw [List.getElem?_map, hq]; rfl)
    exact ⟨y, q.1, q.2.2, hy, hs, hc, (hr q hm).1, fun x hx => by simp only [List.mem_append, List.mem_flatMap]; exact .inr ⟨q, hm, hx⟩⟩
theorem upd_cell {w w' : World} {D' : List Nat} (hu : Upd w w' [] D') {a : Addr} {v : Value} (hc : w.cell? a = some v) : w'.cell? a = some v := by
  have hlt : a.block < w.heap.size := by
    cases hh : w.heap[a.block]? with
    | none => rw [World.cell?, hh] at hc; cases hc
    | some o => exact lt_of_heap hh
  rw [World.cell?_of_block (hu.keep _ hlt (by simp))]; exact hc
theorem RecsAt.take {w : World} {a : Option Addr} {n c : Nat} {ls : List Bs} {D : List Nat} (h : RecsAt w (.slice a n c) ls D) {k : Nat} (hk : k ≤ n) : ∃ D', RecsAt w (.slice a k c) (ls.take k) D' ∧ ∀ x ∈ D', x ∈ D := by
  obtain ⟨rows, D0, rfl, rfl, ho, hr⟩ := h
  have h1 := (ho.take hk).1
  rw [Nat.mul_one] at h1
  refine ⟨D0 ++ (rows.take k).flatMap (·.2.2), ⟨rows.take k, D0, by rw [List.map_take], rfl, by rw [List.map_take]; exact h1, fun r hh => hr r (List.mem_of_mem_take hh)⟩, fun x hx => ?_⟩
  simp only [List.mem_append, List.mem_flatMap] at hx ⊢
  rcases hx with hx | ⟨q, hq, hx⟩
  · exact .inl hx
  · exact .inr ⟨q, List.mem_of_mem_take hq, hx⟩
end Go.Proofs.YtjeaoopamebgjaaDoor
