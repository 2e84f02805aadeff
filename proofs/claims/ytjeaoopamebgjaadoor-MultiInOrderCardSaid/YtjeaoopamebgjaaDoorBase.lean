/-
  Memory: what an object's blocks are, how they turn; slices that an object owns; slices that are read; append; maps.
-/
import Derived.WalkKit
import Derived.WalkSpells
import Derived.WalkLawsBesides
import Derived.Deep.AppendSrc
import Derived.Deep.QuietTactic
import Derived.BigQuiet
import Derived.Lib.Hide
import Derived.Maps.RangeWalk
import Derived.MapKept
namespace Go.Av
open Go.RowKit

/-- Blocks E hold what they held. -/
def Same (w w' : World) (E : List Nat) : Prop := ∀ b ∈ E, w'.heap[b]? = w.heap[b]?

/-- An object of the blocks D has turned into one of the blocks D'; of what was there nothing else has turned. -/
structure Upd (w w' : World) (D D' : List Nat) : Prop where
  os : w'.os = w.os
  tape : w'.tape = w.tape
  output : w'.output = w.output
  size : w.heap.size ≤ w'.heap.size
  keep : ∀ b, b < w.heap.size → b ∉ D → w'.heap[b]? = w.heap[b]?
  new : ∀ b ∈ D', b ∈ D ∨ (w.heap.size ≤ b ∧ b < w'.heap.size)

theorem Upd.refl (w : World) (D : List Nat) : Upd w w D D := ⟨rfl, rfl, rfl, Nat.le_refl _, fun _ _ _ => rfl, fun _ h => .inl h⟩

theorem Upd.trans {w w1 w2 : World} {D D1 D2 : List Nat} (h : Upd w w1 D D1) (k : Upd w1 w2 D1 D2) : Upd w w2 D D2 := by
  refine ⟨k.os.trans h.os, k.tape.trans h.tape, k.output.trans h.output, Nat.le_trans h.size k.size, fun b hb hn => ?_, fun b hb => ?_⟩
  · rw [k.keep b (Nat.lt_of_lt_of_le hb h.size) (fun hm => ?_), h.keep b hb hn]
    rcases h.new b hm with h1 | h1
    · exact hn h1
    · omega
  · rcases k.new b hb with h1 | h1
    · rcases h.new b h1 with h2 | h2
      · exact .inl h2
      · exact .inr ⟨h2.1, Nat.lt_of_lt_of_le h2.2 k.size⟩
    · exact .inr ⟨Nat.le_trans h.size h1.1, h1.2⟩

/-- More blocks than the object's may be named. -/
theorem Upd.mono {w w' : World} {D D' E E' : List Nat} (h : Upd w w' D D') (hD : ∀ b ∈ D, b ∈ E) (hE : ∀ b ∈ E', b ∈ D' ∨ b ∈ E) : Upd w w' E E' :=
  ⟨h.os, h.tape, h.output, h.size, fun b hb hn => h.keep b hb (fun hm => hn (hD b hm)), fun b hb => by
    rcases hE b hb with h1 | h1
    · rcases h.new b h1 with h2 | h2
      · exact .inl (hD b h2)
      · exact .inr h2
    · exact .inl h1⟩

theorem Upd.same {w w' : World} {D D' E : List Nat} (h : Upd w w' D D') (hlt : ∀ b ∈ E, b < w.heap.size) (hE : ∀ b ∈ E, b ∉ D) : Same w w' E :=
  fun b hb => h.keep b (hlt b hb) (hE b hb)

theorem Upd.below {w w' : World} {D' : List Nat} (h : Upd w w' [] D') : Below w.heap.size w w' := ⟨h.os, h.tape, h.output, h.size, fun b hb => h.keep b hb (by simp)⟩
theorem Upd.of_below {w w' : World} (h : Below w.heap.size w w') : Upd w w' [] [] := ⟨h.os, h.tape, h.output, h.size, fun b hb _ => h.block b hb, fun _ h => .inl h⟩

theorem Upd.drew {w w' : World} {D D' : List Nat} (h : Upd w w' D D') : Upd w w'.drew D D' := ⟨h.os, h.tape, h.output, h.size, h.keep, h.new⟩
theorem Upd.drewN {w w' : World} {D D' : List Nat} (h : Upd w w' D D') (n : Nat) : Upd w (w'.drewN n) D D' := ⟨h.os, h.tape, h.output, h.size, h.keep, h.new⟩
theorem Upd.drewL {w w' : World} {D D' : List Nat} (h : Upd w.drew w' D D') : Upd w w' D D' := ⟨h.os, h.tape, h.output, h.size, h.keep, h.new⟩
theorem Upd.alloc1 (w : World) (o : Obj) (D : List Nat) : Upd w (w.alloc o) D (w.heap.size :: D) :=
  ⟨rfl, rfl, rfl, by simp, fun k hk _ => Below.heap_alloc w o k hk, fun b hb => by
    rcases List.mem_cons.1 hb with rfl | h
    · exact .inr ⟨Nat.le_refl _, by simp⟩
    · exact .inl h⟩
theorem Upd.alloc0 (w : World) (o : Obj) (D : List Nat) : Upd w (w.alloc o) D D :=
  ⟨rfl, rfl, rfl, by simp, fun k hk _ => Below.heap_alloc w o k hk, fun _ h => .inl h⟩
theorem Upd.alloc {w w' : World} {D D' : List Nat} (h : Upd w w' D D') (o : Obj) : Upd w (w'.alloc o) D D' := h.trans (Upd.alloc0 _ _ _)
theorem Upd.set1 (w : World) (a : Addr) (v : Value) (D : List Nat) (h : a.block ∈ D) : Upd w (w.setCell a v) D D :=
  ⟨rfl, rfl, rfl, by simp, fun k _ hn => heap_setCell_other w a k v (fun e => hn (e ▸ h)), fun _ h => .inl h⟩
theorem Upd.setCell {w w' : World} {D D' : List Nat} (h : Upd w w' D D') (a : Addr) (v : Value) (ha : a.block ∈ D') : Upd w (w'.setCell a v) D D' := h.trans (Upd.set1 _ _ _ _ ha)
theorem Upd.lt {w w' : World} {D D' : List Nat} (h : Upd w w' D D') (hD : ∀ b ∈ D, b < w.heap.size) : ∀ b ∈ D', b < w'.heap.size := fun b hb => by
  rcases h.new b hb with h1 | h1
  · exact Nat.lt_of_lt_of_le (hD b h1) h.size
  · exact h1.2
theorem Upd.of_grown {w w' : World} {row : Option Nat} {D D' : List Nat} (h : w.grownBy w' row) (hr : ∀ k, row = some k → k ∈ D) (hn : ∀ b ∈ D', b ∈ D ∨ (w.heap.size ≤ b ∧ b < w'.heap.size)) : Upd w w' D D' :=
  ⟨h.os, h.tape, h.output, h.size, fun b hb hnm => h.block b hb (fun e => hnm (hr b e.symm)), hn⟩

/-! ### blocks -/
theorem lt_of_heap {w : World} {b : Nat} {o : Obj} (h : w.heap[b]? = some o) : b < w.heap.size := (Array.getElem?_eq_some_iff.1 h).1
theorem cell_of {w : World} {b : Nat} {cs : Array Value} {T : TypeId} {fr : Nat × Nat} (h : w.heap[b]? = some (.cells cs T fr)) (i : Nat) {v : Value} (hv : cs[i]? = some v) : w.cell? ⟨b, i, none⟩ = some v := by
  rw [cell_of_row w b i cs T fr h, hv]
theorem frz_of {w : World} {b : Nat} {cs : Array Value} {T : TypeId} (h : w.heap[b]? = some (.cells cs T (0, 0))) (i : Nat) : w.frozen? ⟨b, i, none⟩ = false := frozen_of_row w b i cs T h
theorem heap_setCells_other (g k : Nat) (h : k ≠ g) : ∀ (vs : List Value) (o : Nat) (w : World), (w.setCells g o vs).heap[k]? = w.heap[k]?
  | [], _, _ => rfl
  | v :: r, o, w => by rw [World.setCells, heap_setCells_other g k h r, heap_setCell_other _ _ _ _ h]
theorem size_setCells (g : Nat) : ∀ (vs : List Value) (o : Nat) (w : World), (w.setCells g o vs).heap.size = w.heap.size
  | [], _, _ => rfl
  | v :: r, o, w => by rw [World.setCells, size_setCells g r]; simp
theorem rest_setCells (g : Nat) : ∀ (vs : List Value) (o : Nat) (w : World), (w.setCells g o vs).os = w.os ∧ (w.setCells g o vs).tape = w.tape ∧ (w.setCells g o vs).output = w.output
  | [], _, _ => ⟨rfl, rfl, rfl⟩
  | v :: r, o, w => by rw [World.setCells]; exact rest_setCells g r _ _
theorem heap_setCells_same (g : Nat) (T : TypeId) : ∀ (vs : List Value) (o : Nat) (w : World) (cur : Array Value), w.heap[g]? = some (.cells cur T (0, 0)) → o + vs.length ≤ cur.size →
    (w.setCells g o vs).heap[g]? = some (.cells (cur.toList.take o ++ vs ++ cur.toList.drop (o + vs.length)).toArray T (0, 0))
  | [], o, w, cur, h, _ => by simp [World.setCells, h]
  | v :: r, o, w, cur, h, hl => by
    have ho : o < cur.size := by simp at hl; omega
    rw [World.setCells, heap_setCells_same g T r (o + 1) _ (cur.setIfInBounds o v) (heap_setCell_same w g o cur T v h) (by simp at hl ⊢; omega)]
    congr 3
    have e := list_seg_step cur.toList o v r (by simp at hl ⊢; omega)
    simpa [Array.toList_setIfInBounds, Nat.add_assoc] using e

/-! ### slices -/
/-- A slice of cells xs ('size' of them an element) that an object owns through the blocks D (one, or none). -/
def OwnRow (w : World) (size : Nat) (v : Value) (xs : List Value) (D : List Nat) : Prop :=
  ∃ a n c, v = .slice a n c ∧ xs.length = n * size ∧ n ≤ c ∧ c ≤ maxLen ∧ (a = none → c = 0) ∧
    ((c = 0 ∧ D = []) ∨ ∃ g off cur T, a = some ⟨g, off, none⟩ ∧ D = [g] ∧ w.heap[g]? = some (.cells cur T (0, 0)) ∧ off + c * size ≤ cur.size ∧ (cur.toList.drop off).take (n * size) = xs)

/-- A slice whose cells xs are read through the blocks D. -/
def ReadRow (w : World) (size : Nat) (v : Value) (xs : List Value) (D : List Nat) : Prop :=
  ∃ a n c, v = .slice a n c ∧ xs.length = n * size ∧ n ≤ c ∧ c ≤ maxLen ∧ (a = none → c = 0) ∧
    ((xs = [] ∧ D = []) ∨ ∃ g off, a = some ⟨g, off, none⟩ ∧ D = [g] ∧ g < w.heap.size ∧ ∀ (i : Nat) x, xs[i]? = some x → w.cell? ⟨g, off + i, none⟩ = some x)

theorem OwnRow.frame {w w' : World} {size : Nat} {v : Value} {xs : List Value} {D : List Nat} (h : OwnRow w size v xs D) (hs : Same w w' D) : OwnRow w' size v xs D := by
  obtain ⟨a, n, c, hv, hl, hn, hc, ha, hr⟩ := h
  refine ⟨a, n, c, hv, hl, hn, hc, ha, ?_⟩
  rcases hr with hr | ⟨g, off, cur, T, h1, h2, h3, h4⟩
  · exact .inl hr
  · exact .inr ⟨g, off, cur, T, h1, h2, by rw [hs g (by simp [h2])]; exact h3, h4⟩
theorem ReadRow.frame {w w' : World} {size : Nat} {v : Value} {xs : List Value} {D : List Nat} (h : ReadRow w size v xs D) (hs : Same w w' D) : ReadRow w' size v xs D := by
  obtain ⟨a, n, c, hv, hl, hn, hc, ha, hr⟩ := h
  refine ⟨a, n, c, hv, hl, hn, hc, ha, ?_⟩
  rcases hr with hr | ⟨g, off, h1, h2, h3, h4⟩
  · exact .inl hr
  · have e := hs g (by simp [h2])
    refine .inr ⟨g, off, h1, h2, ?_, fun i x hx => by rw [World.cell?_of_block (w := w) (w' := w') e]; exact h4 i x hx⟩
    exact lt_of_heap (o := w.heap[g]) (by rw [e, Array.getElem?_eq_getElem h3])
theorem OwnRow.lt {w : World} {size : Nat} {v : Value} {xs : List Value} {D : List Nat} (h : OwnRow w size v xs D) : ∀ b ∈ D, b < w.heap.size := by
  obtain ⟨a, n, c, hv, hl, hn, hc, ha, ⟨_, rfl⟩ | ⟨g, off, cur, T, h1, rfl, h3, h4⟩⟩ := h
  · simp
  · intro b hb
    simp at hb
    subst hb
    exact lt_of_heap h3
theorem ReadRow.lt {w : World} {size : Nat} {v : Value} {xs : List Value} {D : List Nat} (h : ReadRow w size v xs D) : ∀ b ∈ D, b < w.heap.size := by
  obtain ⟨a, n, c, hv, hl, hn, hc, ha, ⟨_, rfl⟩ | ⟨g, off, h1, rfl, h3, h4⟩⟩ := h
  · simp
  · intro b hb
    simp at hb
    subst hb
    exact h3
theorem OwnRow.nodup {w : World} {size : Nat} {v : Value} {xs : List Value} {D : List Nat} (h : OwnRow w size v xs D) : D.Nodup := by
  obtain ⟨a, n, c, hv, hl, hn, hc, ha, ⟨_, rfl⟩ | ⟨g, off, cur, T, h1, rfl, h3, h4⟩⟩ := h <;> simp
/-- What is owned can be read. -/
theorem OwnRow.read {w : World} {size : Nat} {v : Value} {xs : List Value} {D : List Nat} (h : OwnRow w size v xs D) : ∃ E, ReadRow w size v xs E ∧ ∀ b ∈ E, b ∈ D := by
  obtain ⟨a, n, c, hv, hl, hn, hc, ha, hr⟩ := h
  rcases hr with ⟨rfl, rfl⟩ | ⟨g, off, cur, T, h1, h2, h3, h4, h5⟩
  · obtain rfl : n = 0 := by omega
    exact ⟨[], ⟨a, 0, 0, hv, hl, hn, hc, ha, .inl ⟨by simpa using hl, rfl⟩⟩, by simp⟩
  · refine ⟨D, ⟨a, n, c, hv, hl, hn, hc, ha, .inr ⟨g, off, h1, h2, lt_of_heap h3, fun i x hx => ?_⟩⟩, fun _ h => h⟩
    rw [cell_of_row w g (off + i) cur T _ h3]
    rw [← h5, List.getElem?_take] at hx
    split at hx
    · rw [List.getElem?_drop] at hx; simpa using hx
    · cases hx
theorem OwnRow.nil (w : World) (size : Nat) : OwnRow w size (.slice none 0 0) [] [] := ⟨none, 0, 0, rfl, by simp, Nat.le_refl _, by decide, fun _ => rfl, .inl ⟨rfl, rfl⟩⟩
theorem OwnRow.zero (w : World) (size : Nat) (a : Option Addr) : OwnRow w size (.slice a 0 0) [] [] := ⟨a, 0, 0, rfl, by simp, Nat.le_refl _, by decide, fun _ => rfl, .inl ⟨rfl, rfl⟩⟩
theorem OwnRow.len {w : World} {size : Nat} {v : Value} {xs : List Value} {D : List Nat} (h : OwnRow w size v xs D) : ∃ a n c, v = .slice a n c ∧ xs.length = n * size := by
  obtain ⟨a, n, c, hv, hl, _⟩ := h
  exact ⟨a, n, c, hv, hl⟩
/-- A new row. -/
theorem OwnRow.made (w : World) (T : TypeId) (size n c : Nat) (cur : Array Value) (xs : List Value) (hx : xs.length = n * size) (hn : n ≤ c) (hc : c ≤ maxLen) (hs : c * size ≤ cur.size) (ht : cur.toList.take (n * size) = xs) :
    OwnRow (w.alloc (.cells cur T)) size (.slice (some ⟨w.heap.size, 0, none⟩) n c) xs [w.heap.size] :=
  ⟨_, n, c, rfl, hx, hn, hc, by simp, .inr ⟨w.heap.size, 0, cur, T, rfl, rfl, heap_alloc_new w _, by omega, by simpa using ht⟩⟩

theorem ReadRow.first {P : Program} {w : World} {size : Nat} {xs : List Value} {D : List Nat} {a : Option Addr} {n c : Nat} (h : ReadRow w size (.slice a n c) xs D) (hl : xs.length = n * size) (w' : World) (hw : ∀ b, w'.cell? b = w.cell? b) :
    (Builtin.firstCells size n (.slice a n c)).run P w' = .ok xs.toArray w' := by
  obtain ⟨a', n', c', hv, _, hn, hc, ha, hr⟩ := h
  cases hv
  cases a with
  | none =>
    have := ha rfl
    subst this
    obtain rfl : n = 0 := by omega
    have : xs = [] := by simpa using hl
    subst this
    exact run_firstCells_none w' size 0 0 0
  | some x =>
    refine run_firstCells_some w' size n x n c xs hl (fun j u hu => ?_)
    rcases hr with ⟨rfl, _⟩ | ⟨g, off, hx, _, _, h4⟩
    · simp at hu
    · cases hx
      rw [Addr.add_lit, hw]
      exact h4 j u hu

/-- What is read serves as append's source. -/
theorem ReadRow.src {P : Program} {w : World} {size : Nat} {v : Value} {xs : List Value} {D : List Nat} {tx e' : TypeId} (h : ReadRow w size v xs D) (hk : P.underlying tx = some (.slice e')) (h1 : ∀ u ∈ xs, u.oneCell' = true) :
    ∃ n, xs.length = n * size ∧ Src P size tx v n xs w := by
  obtain ⟨a, n, c, rfl, hl, hn, hc, ha, hr⟩ := h
  refine ⟨n, hl, ?_⟩
  cases a with
  | none =>
    have := ha rfl
    subst this
    obtain rfl : n = 0 := by omega
    have : xs = [] := by simpa using hl
    subst this
    exact Src.ofNil w hk 0
  | some x =>
    refine Src.ofSlice w hk x n c xs hl (fun j u hu => ?_) h1
    rcases hr with ⟨rfl, _⟩ | ⟨g, off, hx, _, _, h4⟩
    · simp at hu
    · cases hx
      rw [Addr.add_lit]
      exact h4 j u hu

/-- append onto an owned row. -/
theorem run_app {P : Program} {w : World} {size : Nat} {v : Value} {xs : List Value} {D : List Nat} (h : OwnRow w size v xs D) (t tx ty e : TypeId) (i : TypeInfo) (z : Value)
    (ht : P.underlying t = some (.slice e)) (hi : P.info? e = some i) (hz : i.zero = some z) (hsize : i.size = size) (hzs : z.cells.size = size) {x : Value} {m : Nat} {news : List Value} (hs : Src P size tx x m news w)
    (hb : ∀ n, xs.length = n * size → n + m ≤ 140737488355328 ∧ (n + m) * i.bytes ≤ 140737488355328) :
    ∃ v' w' D', (Builtin.append_ #[t, tx] ty #[v, x]).run P w = .ok v' w' ∧ OwnRow w' size v' (xs ++ news) D' ∧ Upd w w' D D' := by
  subst hsize
  obtain ⟨a, n, c, rfl, hl, hn, hc, ha, hr⟩ := h
  obtain ⟨hb1, hb2⟩ := hb n hl
  have hll : (xs ++ news).length = (n + m) * i.size := by rw [List.length_append, hl, hs.newsLen, Nat.add_mul]
  by_cases hroom : n + m ≤ c
  · rcases hr with ⟨rfl, rfl⟩ | ⟨g, off, cur, T, rfl, rfl, h3, h4, h5⟩
    · obtain rfl : n = 0 := by omega
      obtain rfl : m = 0 := by omega
      have hx0 : xs = [] := by simpa using hl
      have hn0 : news = [] := by simpa using hs.newsLen
      subst hx0; subst hn0
      refine ⟨.slice a 0 0, w, [], ?_, ⟨a, 0, 0, rfl, by simp, Nat.le_refl _, hc, ha, .inl ⟨rfl, rfl⟩⟩, Upd.refl _ _⟩
      rcases hs.kind with ⟨e', hk⟩ | hk <;> cases a <;> simp [Builtin.append_, run_underlying ht, run_underlying hk, sizeOf, typeInfo, hi, hs.len, hs.cells, storeCells]
    · have hle : (n + m) * i.size ≤ c * i.size := Nat.mul_le_mul_right _ hroom
      have hnm : (n + m) * i.size = n * i.size + news.length := by rw [hs.newsLen, Nat.add_mul]
      have hrun := run_append_room_src (P := P) w t tx ty e i ht hi g off n c x m news hs hroom (fun j hj => by
          rw [cell_of_row w g _ cur T _ h3]; simp; omega) (fun j _ => frz_of h3 _)
      refine ⟨_, _, [g], hrun, ⟨_, n + m, c, rfl, hll, hroom, hc, by simp, .inr ⟨g, off, _, T, rfl, rfl, heap_setCells_same g T news _ w cur h3 (by omega), ?_, ?_⟩⟩, ?_⟩
      · simp; omega
      · have hd : (cur.toList.take (off + n * i.size)).drop off = xs := by
          rw [List.drop_take, show off + n * i.size - off = n * i.size by omega, h5]
        rw [List.append_assoc, List.drop_append_of_le_length (by simp; omega), hd, ← List.append_assoc, List.take_append_of_le_length (by rw [hll]; exact Nat.le_refl _), List.take_of_length_le (by rw [hll]; exact Nat.le_refl _)]
      · obtain ⟨r1, r2, r3⟩ := rest_setCells g news (off + n * i.size) w
        exact ⟨r1, r2, r3, by rw [size_setCells]; exact Nat.le_refl _, fun b _ hbn => heap_setCells_other g b (by simpa using hbn) _ _ _, fun _ h => .inl h⟩
  · obtain ⟨E, hread, hED⟩ := OwnRow.read (w := w) (size := i.size) ⟨a, n, c, rfl, hl, hn, hc, ha, hr⟩
    have hold : (Builtin.firstCells i.size n (.slice a n c)).run P w.drew = .ok xs.toArray w.drew := by
      exact hread.first hl _ (fun _ => rfl)
    have hge := grownCap_ge w (n + m) c e
    have hcm : grownCap w (n + m) c e ≤ maxLen := grownCap_le_maxLen w (n + m) c e (by unfold maxLen; omega)
    have hrun := run_append_grow_src (P := P) w t tx ty e i z ht hi hz a n c xs hold x m news hs (by omega) (by omega) (growslice_fits (by omega) hb2)
    refine ⟨_, _, [w.heap.size], hrun, ?_, ?_⟩
    · refine OwnRow.made w.drew e i.size (n + m) _ _ _ hll hge hcm ?_ ?_
      · simp only [Array.size_append, List.size_toArray, hll, size_zeroCells, hzs]
        rw [← Nat.add_mul]
        exact Nat.mul_le_mul_right _ (by omega)
      · simp only [Array.toList_append]
        rw [List.take_append_of_le_length (by simp only [hll]; exact Nat.le_refl _), List.take_of_length_le (by simp only [hll]; exact Nat.le_refl _)]
    · exact ⟨rfl, rfl, rfl, by simp, fun k hk _ => Below.heap_alloc w.drew _ k hk, fun b hb => by simp at hb; subst hb; exact .inr ⟨Nat.le_refl _, by simp⟩⟩

end Go.Av
