/-
  Single objects side by side: a block of cells, a row of cells, a map; what the program's steps make of them.
-/
import Derived.Test.YtjeaoopamebgjaaDoorSepB
import Derived.Test.YtjeaoopamebgjaaDoorMaps
namespace Go.Av
open Go.RowKit

/-- A row of cells that is owned. -/
def ThRow (size : Nat) (v : Value) (xs : List Value) : Thing := ⟨fun w D => OwnRow w size v xs D, fun h hs => h.frame hs, fun h => h.lt⟩
/-- A map. -/
def ThMap (d : TypeDesc) (m : Nat) (l : List (Value × Value)) : Thing :=
  ⟨fun w D => MapIs w d m l ∧ D = [m], fun h hs => ⟨h.1.frame (hs _ (by simp [h.2])), h.2⟩, fun h x hx => by rw [h.2, List.mem_singleton] at hx; subst hx; exact h.1.lt⟩

section
variable {w0 w : World} {R : List Thing} {rows : List (Value × Bs)}

theorem Sep.fst {T : Thing} (h : Sep w0 w (T :: R) rows) : ∃ D, T.P w D := h.has (List.mem_cons_self ..)
theorem Sep.blk {b : Nat} {o : Obj} (h : Sep w0 w (ThCell b o :: R) rows) : w.heap[b]? = some o := h.block (List.mem_cons_self ..)
/-- A cell is written. -/
theorem Sep.set {b : Nat} {cs : Array Value} {T : TypeId} (h : Sep w0 w (ThCell b (.cells cs T (0, 0)) :: R) rows) (i : Nat) (v : Value) :
    Sep w0 (w.setCell ⟨b, i, none⟩ v) (ThCell b (.cells (cs.setIfInBounds i v) T (0, 0)) :: R) rows := by
  obtain ⟨D, hP, _, back⟩ := h.use
  obtain ⟨hb, rfl⟩ := hP
  exact back _ [b] (ThCell b (.cells (cs.setIfInBounds i v) T (0, 0))) (Upd.set1 _ _ _ _ (by simp)) ⟨heap_setCell_same w b i cs T v hb, rfl⟩
/-- What a call made of the first object. -/
theorem Sep.to {T T' : Thing} (h : Sep w0 w (T :: R) rows) {w' : World} (hu : ∀ D, T.P w D → ∃ D', T'.P w' D' ∧ Upd w w' D D') : Sep w0 w' (T' :: R) rows := by
  obtain ⟨D, hP, _, back⟩ := h.use
  obtain ⟨D', h1, h2⟩ := hu D hP
  exact back _ _ T' h2 h1
theorem Sep.rowLen {size : Nat} {v : Value} {xs : List Value} (h : Sep w0 w (ThRow size v xs :: R) rows) : ∃ a n c, v = .slice a n c ∧ xs.length = n * size ∧ n ≤ c ∧ c ≤ maxLen := by
  obtain ⟨D, hP⟩ := h.fst
  obtain ⟨a, n, c, h1, h2, h3, h4, _⟩ := hP
  exact ⟨a, n, c, h1, h2, h3, h4⟩
/-- The cells of an owned row. -/
theorem Sep.rowCell {a : Option Addr} {n c : Nat} {xs : List Value} (h : Sep w0 w (ThRow 1 (.slice a n c) xs :: R) rows) {i : Nat} {x : Value} (hx : xs[i]? = some x) :
    ∃ y : Addr, a = some y ∧ y.spot = none ∧ w.cell? (y.add i) = some x := by
  obtain ⟨D, hP⟩ := h.fst
  obtain ⟨a', n', c', hv, hl, hn, hc, ha, hr⟩ := hP
  cases hv
  rcases hr with ⟨hc0, _⟩ | ⟨g, off, cur, T, h1, h2, h3, h4, h5⟩
  · have : i < xs.length := (List.getElem?_eq_some_iff.1 hx).1
    omega
  · refine ⟨⟨g, off, none⟩, h1, rfl, ?_⟩
    rw [Addr.add_lit, cell_of_row w g (off + i) cur T _ h3]
    rw [← h5, List.getElem?_take] at hx
    split at hx
    · rw [List.getElem?_drop] at hx; simpa using hx
    · cases hx
/-- A cell of an owned row is written. -/
theorem Sep.rowSet {y : Addr} {n c : Nat} {xs : List Value} (h : Sep w0 w (ThRow 1 (.slice (some y) n c) xs :: R) rows) {i : Nat} (hi : i < n) (v : Value) :
    w.frozen? (y.add i) = false ∧ y.spot = none ∧ (∃ u, w.cell? (y.add i) = some u) ∧ Sep w0 (w.setCell (y.add i) v) (ThRow 1 (.slice (some y) n c) (xs.set i v) :: R) rows := by
  obtain ⟨D, hP, _, back⟩ := h.use
  obtain ⟨a', n', c', hv, hl, hn, hc, ha, hr⟩ := hP
  cases hv
  rcases hr with ⟨hc0, _⟩ | ⟨g, off, cur, T, h1, h2, h3, h4, h5⟩
  · omega
  · cases h1
    subst h2
    rw [Addr.add_lit]
    have hsz : off + i < cur.size := by omega
    refine ⟨frz_of h3 _, rfl, ⟨cur[off + i], by rw [cell_of_row w g (off + i) cur T _ h3]; exact Array.getElem?_eq_getElem hsz⟩, ?_⟩
    refine back _ [g] (ThRow 1 (.slice (some ⟨g, off, none⟩) n c) (xs.set i v)) (Upd.set1 _ _ _ _ (by simp)) ⟨_, n, c, rfl, by simpa using hl, hn, hc, ha, .inr ⟨g, off, _, T, rfl, rfl, heap_setCell_same w g (off + i) cur T v h3, by simpa using h4, ?_⟩⟩
    rw [← h5, Array.toList_setIfInBounds]
    apply List.ext_getElem?
    intro k
    simp only [List.getElem?_take, List.getElem?_drop, List.getElem?_set, List.length_take, List.length_drop, Array.length_toList, Nat.mul_one, Array.getElem?_toList]
    have hm : i < min n (cur.size - off) := by omega
    by_cases hki : i = k
    · subst hki
      simp [hi, hsz, hm]
    · have : ¬ off + i = off + k := by omega
      simp [hki]
/-- A new row. -/
theorem Sep.addRow {v : Value} {xs : List Value} {size : Nat} {w' : World} {D : List Nat} (h : Sep w0 w R rows) (ho : OwnRow w' size v xs D) (hu : Upd w w' [] D) : Sep w0 w' (ThRow size v xs :: R) rows := h.add hu ho
theorem Sep.nilRow (size : Nat) (h : Sep w0 w R rows) : Sep w0 w (ThRow size (.slice none 0 0) [] :: R) rows := h.addRow (OwnRow.nil w size) (Upd.refl w [])
/-- A row that is owned may be read as bytes. -/
theorem Sep.readFst {v : Value} {b : Bs} (h : Sep w0 w (ThRow 1 v (b.map bv) :: R) rows) : ∃ E, ReadRow w 1 v (b.map bv) E := by
  obtain ⟨D, hP⟩ := h.fst
  obtain ⟨E, hE, _⟩ := OwnRow.read hP
  exact ⟨E, hE⟩
/-- An owned row is from now on only read. -/
theorem Sep.toRow {v : Value} {b : Bs} (h : Sep w0 w (ThRow 1 v (b.map bv) :: R) rows) : Sep w0 w R ((v, b) :: rows) := by
  obtain ⟨F, hl, hu, hr⟩ := h
  cases hl with
  | @cons _ D _ E h1 h2 h3 =>
    obtain ⟨E1, hE1, hsub⟩ := OwnRow.read h1
    refine ⟨E, h3, hu.mono (by simp) (fun b hb => .inl (by simp [hb])), fun r hr' => ?_⟩
    rcases List.mem_cons.1 hr' with rfl | hr'
    · exact ⟨E1, hE1, fun x hx he => h2 x (hsub x hx) he⟩
    · obtain ⟨E2, k1, k2⟩ := hr r hr'
      exact ⟨E2, k1, fun x hx he => k2 x hx (by simp [he])⟩
theorem Sep.mapIs {d : TypeDesc} {m : Nat} {l : List (Value × Value)} (h : Sep w0 w (ThMap d m l :: R) rows) : MapIs w d m l := by
  obtain ⟨D, hP⟩ := h.fst
  exact hP.1
theorem Sep.newMap (d : TypeDesc) (h : Sep w0 w R rows) : Sep w0 (w.alloc (.map #[] 0)) (ThMap d w.heap.size [] :: R) rows :=
  h.add (Upd.alloc1 w _ []) ⟨MapIs.made w d, rfl⟩
theorem Sep.mapTo {d : TypeDesc} {m : Nat} {l l' : List (Value × Value)} (h : Sep w0 w (ThMap d m l :: R) rows) {w' : World} (hu : Upd w w' [m] [m]) (hm : MapIs w' d m l') : Sep w0 w' (ThMap d m l' :: R) rows :=
  h.to fun D hP => ⟨[m], ⟨hm, rfl⟩, by rw [hP.2]; exact hu⟩
end
end Go.Av
