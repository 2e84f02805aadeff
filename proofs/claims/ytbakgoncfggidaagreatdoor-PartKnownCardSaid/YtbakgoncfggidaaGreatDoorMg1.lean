/-
  Texts of this claim, laid together.
-/
import Derived.WalkKit
import Derived.WalkSpells
import Derived.WalkLawsBesides
import Derived.Deep.AppendSrc
import Derived.Deep.QuietTactic
import Derived.BigQuiet
import Derived.Lib.Hide
import Derived.Maps.RangeWalk
import Derived.MapKept
import Derived.Laws.ResultCell
import Derived.Laws.Rows
import Derived.OrdersHeld
import Derived.Deep.DeepMust
import Derived.Deep.MidRow
import Derived.Sort.Walk0
import Derived.Deep.Slices
import Derived.Great.Walk
import Derived.Great.FillDense
import Derived.Test.YtbakgoncfggidaaGreatDoorProg
import Derived.Lib.SplitLaws
import Derived.Shelf.Spec.SearchS
import Derived.Test.YtbakgoncfggidaaGreatDoorRows
import Derived.Deep.LoopGhost
set_option linter.unusedVariables false
set_option linter.unusedSimpArgs false
namespace Go.Av
theorem k_a {α : Type _} (l : List α) (i : Nat) (a : α) : l.toArray.setIfInBounds i a = (l.set i a).toArray := List.setIfInBounds_toArray ..
theorem k_b {α : Type _} {l : List α} {x a : α} : (x :: l).set 0 a = a :: l := rfl
theorem k_c {α : Type _} {l : List α} {x a : α} {n : Nat} : (x :: l).set (n + 1) a = x :: l.set n a := rfl
theorem k_d {α : Type _} {l : List α} : l.drop 0 = l := rfl
theorem k_e {α : Type _} {a : α} {l : List α} {i : Nat} : (a :: l).drop (i + 1) = l.drop i := rfl
theorem k_f {α : Type _} {a : α} {l : List α} {i : Nat} : (a :: l).take (i + 1) = a :: l.take i := rfl
theorem k_g {α : Type _} {l : List α} : l.take 0 = [] := rfl
theorem k_h {α : Type _} {l : List α} : l.toArray.toList = l := rfl
theorem k_i {α : Type _} {l : List α} {i : Nat} : l.toArray[i]? = l[i]? := List.getElem?_toArray
theorem k_j {α : Type _} {a : α} {l : List α} {i : Nat} : (a :: l)[i + 1]? = l[i]? := List.getElem?_cons_succ
theorem k_k {α : Type _} {a : α} {l : List α} : (a :: l)[0]? = some a := List.getElem?_cons_zero
theorem k_s {α : Type _} {a : α} {l : List α} : a ∈ a :: l := List.mem_cons_self ..
theorem k_m {α : Type _} {y a : α} {l : List α} (h : a ∈ l) : a ∈ y :: l := List.mem_cons_of_mem y h
theorem k_n {α : Type _} (y : α) {a : α} {l : List α} (h : a ∈ l) : a ∈ y :: l := List.mem_cons_of_mem y h
end Go.Av

namespace Go.Av
open Go.RowKit
def Same (w w' : World) (E : List Nat) : Prop := ∀ b ∈ E, w'.heap[b]? = w.heap[b]?
structure Upd (w w' : World) (D D' : List Nat) : Prop where
  os : w'.os = w.os
  tape : w'.tape = w.tape
  output : w'.output = w.output
  size : w.heap.size ≤ w'.heap.size
  keep : ∀ b, b < w.heap.size → b ∉ D → w'.heap[b]? = w.heap[b]?
  new : ∀ b ∈ D', b ∈ D ∨ (w.heap.size ≤ b ∧ b < w'.heap.size)
theorem Upd.refl (w : World) (D : List Nat) : Upd w w D D := ⟨rfl, rfl, rfl, Nat.le_refl _, fun _ _ _ => rfl, fun _ h => .inl h⟩
theorem Upd.trans {w w1 w2 : World} {D D1 D2 : List Nat} (h : Upd w w1 D D1) (k : Upd w1 w2 D1 D2) : Upd w w2 D D2 := by
  refine ⟨k.os.trans h.os, k.tape.trans h.tape, k.output.trans h.output, Nat.le_trans h.size k.size, fun b hb hn => ?_, fun b hb => ?_⟩
  · rw [k.keep b (Nat.lt_of_lt_of_le hb h.size) (fun hm => ?_), h.keep b hb hn]
    rcases h.new b hm with h1 | h1
    · exact hn h1
    · omega
  · rcases k.new b hb with h1 | h1
    · rcases h.new b h1 with h2 | h2
      · exact .inl h2
      · exact .inr ⟨h2.1, Nat.lt_of_lt_of_le h2.2 k.size⟩
    · exact .inr ⟨Nat.le_trans h.size h1.1, h1.2⟩
theorem Upd.mono {w w' : World} {D D' E E' : List Nat} (h : Upd w w' D D') (hD : ∀ b ∈ D, b ∈ E) (hE : ∀ b ∈ E', b ∈ D' ∨ b ∈ E) : Upd w w' E E' :=
  ⟨h.os, h.tape, h.output, h.size, fun b hb hn => h.keep b hb (fun hm => hn (hD b hm)), fun b hb => by
    rcases hE b hb with h1 | h1
    · rcases h.new b h1 with h2 | h2
      · exact .inl (hD b h2)
      · exact .inr h2
    · exact .inl h1⟩
theorem Upd.same {w w' : World} {D D' E : List Nat} (h : Upd w w' D D') (hlt : ∀ b ∈ E, b < w.heap.size) (hE : ∀ b ∈ E, b ∉ D) : Same w w' E :=
  fun b hb => h.keep b (hlt b hb) (hE b hb)
theorem Upd.below {w w' : World} {D' : List Nat} (h : Upd w w' [] D') : Below w.heap.size w w' := ⟨h.os, h.tape, h.output, h.size, fun b hb => h.keep b hb (by simp)⟩
theorem Upd.of_below {w w' : World} (h : Below w.heap.size w w') : Upd w w' [] [] := ⟨h.os, h.tape, h.output, h.size, fun b hb _ => h.block b hb, fun _ h => .inl h⟩
theorem Upd.drew {w w' : World} {D D' : List Nat} (h : Upd w w' D D') : Upd w w'.drew D D' := ⟨h.os, h.tape, h.output, h.size, h.keep, h.new⟩
theorem Upd.drewN {w w' : World} {D D' : List Nat} (h : Upd w w' D D') (n : Nat) : Upd w (w'.drewN n) D D' := ⟨h.os, h.tape, h.output, h.size, h.keep, h.new⟩
theorem Upd.alloc1 (w : World) (o : Obj) (D : List Nat) : Upd w (w.alloc o) D (w.heap.size :: D) :=
  ⟨rfl, rfl, rfl, by simp, fun k hk _ => Below.heap_alloc w o k hk, fun b hb => by
    rcases List.mem_cons.1 hb with rfl | h
    · exact .inr ⟨Nat.le_refl _, by simp⟩
    · exact .inl h⟩
theorem Upd.alloc0 (w : World) (o : Obj) (D : List Nat) : Upd w (w.alloc o) D D :=
  ⟨rfl, rfl, rfl, by simp, fun k hk _ => Below.heap_alloc w o k hk, fun _ h => .inl h⟩
theorem Upd.alloc {w w' : World} {D D' : List Nat} (h : Upd w w' D D') (o : Obj) : Upd w (w'.alloc o) D D' := h.trans (Upd.alloc0 _ _ _)
theorem Upd.set1 (w : World) (a : Addr) (v : Value) (D : List Nat) (h : a.block ∈ D) : Upd w (w.setCell a v) D D :=
  ⟨rfl, rfl, rfl, by simp, fun k _ hn => heap_setCell_other w a k v (fun e => hn (e ▸ h)), fun _ h => .inl h⟩
theorem Upd.setCell {w w' : World} {D D' : List Nat} (h : Upd w w' D D') (a : Addr) (v : Value) (ha : a.block ∈ D') : Upd w (w'.setCell a v) D D' := h.trans (Upd.set1 _ _ _ _ ha)
theorem Upd.lt {w w' : World} {D D' : List Nat} (h : Upd w w' D D') (hD : ∀ b ∈ D, b < w.heap.size) : ∀ b ∈ D', b < w'.heap.size := fun b hb => by
  rcases h.new b hb with h1 | h1
  · exact Nat.lt_of_lt_of_le (hD b h1) h.size
  · exact h1.2
theorem lt_of_heap {w : World} {b : Nat} {o : Obj} (h : w.heap[b]? = some o) : b < w.heap.size := (Array.getElem?_eq_some_iff.1 h).1
theorem cell_of {w : World} {b : Nat} {cs : Array Value} {T : TypeId} {fr : Nat × Nat} (h : w.heap[b]? = some (.cells cs T fr)) (i : Nat) {v : Value} (hv : cs[i]? = some v) : w.cell? ⟨b, i, none⟩ = some v := by
  rw [cell_of_row w b i cs T fr h, hv]
theorem frz_of {w : World} {b : Nat} {cs : Array Value} {T : TypeId} (h : w.heap[b]? = some (.cells cs T (0, 0))) (i : Nat) : w.frozen? ⟨b, i, none⟩ = false := frozen_of_row w b i cs T h
theorem heap_setCells_other (g k : Nat) (h : k ≠ g) : ∀ (vs : List Value) (o : Nat) (w : World), (w.setCells g o vs).heap[k]? = w.heap[k]?
  | [], _, _ => rfl
  | v :: r, o, w => by rw [World.setCells, heap_setCells_other g k h r, heap_setCell_other _ _ _ _ h]
theorem size_setCells (g : Nat) : ∀ (vs : List Value) (o : Nat) (w : World), (w.setCells g o vs).heap.size = w.heap.size
  | [], _, _ => rfl
  | v :: r, o, w => by rw [World.setCells, size_setCells g r]; simp
theorem rest_setCells (g : Nat) : ∀ (vs : List Value) (o : Nat) (w : World), (w.setCells g o vs).os = w.os ∧ (w.setCells g o vs).tape = w.tape ∧ (w.setCells g o vs).output = w.output
  | [], _, _ => ⟨rfl, rfl, rfl⟩
  | v :: r, o, w => by rw [World.setCells]; exact rest_setCells g r _ _
theorem heap_setCells_same (g : Nat) (T : TypeId) : ∀ (vs : List Value) (o : Nat) (w : World) (cur : Array Value), w.heap[g]? = some (.cells cur T (0, 0)) → o + vs.length ≤ cur.size →
    (w.setCells g o vs).heap[g]? = some (.cells (cur.toList.take o ++ vs ++ cur.toList.drop (o + vs.length)).toArray T (0, 0))
  | [], o, w, cur, h, _ => by simp [World.setCells, h]
  | v :: r, o, w, cur, h, hl => by
    have ho : o < cur.size := by simp at hl; omega
    rw [World.setCells, heap_setCells_same g T r (o + 1) _ (cur.setIfInBounds o v) (heap_setCell_same w g o cur T v h) (by simp at hl ⊢; omega)]
    congr 3
    have e := list_seg_step cur.toList o v r (by simp at hl ⊢; omega)
    simpa [Array.toList_setIfInBounds, Nat.add_assoc] using e
def OwnRow (w : World) (size : Nat) (v : Value) (xs : List Value) (D : List Nat) : Prop :=
  ∃ a n c, v = .slice a n c ∧ xs.length = n * size ∧ n ≤ c ∧ c ≤ maxLen ∧ (a = none → c = 0) ∧
    ((c = 0 ∧ D = []) ∨ ∃ g off cur T, a = some ⟨g, off, none⟩ ∧ D = [g] ∧ w.heap[g]? = some (.cells cur T (0, 0)) ∧ off + c * size ≤ cur.size ∧ (cur.toList.drop off).take (n * size) = xs)
def ReadRow (w : World) (size : Nat) (v : Value) (xs : List Value) (D : List Nat) : Prop :=
  ∃ a n c, v = .slice a n c ∧ xs.length = n * size ∧ n ≤ c ∧ c ≤ maxLen ∧ (a = none → c = 0) ∧
    ((xs = [] ∧ D = []) ∨ ∃ g off, a = some ⟨g, off, none⟩ ∧ D = [g] ∧ g < w.heap.size ∧ ∀ (i : Nat) x, xs[i]? = some x → w.cell? ⟨g, off + i, none⟩ = some x)
theorem OwnRow.frame {w w' : World} {size : Nat} {v : Value} {xs : List Value} {D : List Nat} (h : OwnRow w size v xs D) (hs : Same w w' D) : OwnRow w' size v xs D := by
  obtain ⟨a, n, c, hv, hl, hn, hc, ha, hr⟩ := h
  refine ⟨a, n, c, hv, hl, hn, hc, ha, ?_⟩
  rcases hr with hr | ⟨g, off, cur, T, h1, h2, h3, h4⟩
  · exact .inl hr
  · exact .inr ⟨g, off, cur, T, h1, h2, by rw [hs g (by simp [h2])]; exact h3, h4⟩
theorem ReadRow.frame {w w' : World} {size : Nat} {v : Value} {xs : List Value} {D : List Nat} (h : ReadRow w size v xs D) (hs : Same w w' D) : ReadRow w' size v xs D := by
  obtain ⟨a, n, c, hv, hl, hn, hc, ha, hr⟩ := h
  refine ⟨a, n, c, hv, hl, hn, hc, ha, ?_⟩
  rcases hr with hr | ⟨g, off, h1, h2, h3, h4⟩
  · exact .inl hr
  · have e := hs g (by simp [h2])
    refine .inr ⟨g, off, h1, h2, ?_, fun i x hx => by rw [World.cell?_of_block (w := w) (w' := w') e]; exact h4 i x hx⟩
    exact lt_of_heap (o := w.heap[g]) (by rw [e, Array.getElem?_eq_getElem h3])
theorem OwnRow.lt {w : World} {size : Nat} {v : Value} {xs : List Value} {D : List Nat} (h : OwnRow w size v xs D) : ∀ b ∈ D, b < w.heap.size := by
  obtain ⟨a, n, c, hv, hl, hn, hc, ha, ⟨_, rfl⟩ | ⟨g, off, cur, T, h1, rfl, h3, h4⟩⟩ := h
  · simp
  · intro b hb
    simp at hb
    subst hb
    exact lt_of_heap h3
theorem ReadRow.lt {w : World} {size : Nat} {v : Value} {xs : List Value} {D : List Nat} (h : ReadRow w size v xs D) : ∀ b ∈ D, b < w.heap.size := by
  obtain ⟨a, n, c, hv, hl, hn, hc, ha, ⟨_, rfl⟩ | ⟨g, off, h1, rfl, h3, h4⟩⟩ := h
  · simp
  · intro b hb
    simp at hb
    subst hb
    exact h3
theorem OwnRow.nodup {w : World} {size : Nat} {v : Value} {xs : List Value} {D : List Nat} (h : OwnRow w size v xs D) : D.Nodup := by
  obtain ⟨a, n, c, hv, hl, hn, hc, ha, ⟨_, rfl⟩ | ⟨g, off, cur, T, h1, rfl, h3, h4⟩⟩ := h <;> simp
theorem OwnRow.read {w : World} {size : Nat} {v : Value} {xs : List Value} {D : List Nat} (h : OwnRow w size v xs D) : ∃ E, ReadRow w size v xs E ∧ ∀ b ∈ E, b ∈ D := by
  obtain ⟨a, n, c, hv, hl, hn, hc, ha, hr⟩ := h
  rcases hr with ⟨rfl, rfl⟩ | ⟨g, off, cur, T, h1, h2, h3, h4, h5⟩
  · obtain rfl : n = 0 := by omega
    exact ⟨[], ⟨a, 0, 0, hv, hl, hn, hc, ha, .inl ⟨by simpa using hl, rfl⟩⟩, by simp⟩
  · refine ⟨D, ⟨a, n, c, hv, hl, hn, hc, ha, .inr ⟨g, off, h1, h2, lt_of_heap h3, fun i x hx => ?_⟩⟩, fun _ h => h⟩
    rw [cell_of_row w g (off + i) cur T _ h3]
    rw [← h5, List.getElem?_take] at hx
    split at hx
    · rw [List.getElem?_drop] at hx; simpa using hx
    · cases hx
theorem OwnRow.nil (w : World) (size : Nat) : OwnRow w size (.slice none 0 0) [] [] := ⟨none, 0, 0, rfl, by simp, Nat.le_refl _, by decide, fun _ => rfl, .inl ⟨rfl, rfl⟩⟩
theorem OwnRow.zero (w : World) (size : Nat) (a : Option Addr) : OwnRow w size (.slice a 0 0) [] [] := ⟨a, 0, 0, rfl, by simp, Nat.le_refl _, by decide, fun _ => rfl, .inl ⟨rfl, rfl⟩⟩
theorem OwnRow.len {w : World} {size : Nat} {v : Value} {xs : List Value} {D : List Nat} (h : OwnRow w size v xs D) : ∃ a n c, v = .slice a n c ∧ xs.length = n * size := by
  obtain ⟨a, n, c, hv, hl, _⟩ := h
  exact ⟨a, n, c, hv, hl⟩
theorem OwnRow.made (w : World) (T : TypeId) (size n c : Nat) (cur : Array Value) (xs : List Value) (hx : xs.length = n * size) (hn : n ≤ c) (hc : c ≤ maxLen) (hs : c * size ≤ cur.size) (ht : cur.toList.take (n * size) = xs) :
    OwnRow (w.alloc (.cells cur T)) size (.slice (some ⟨w.heap.size, 0, none⟩) n c) xs [w.heap.size] :=
  ⟨_, n, c, rfl, hx, hn, hc, by simp, .inr ⟨w.heap.size, 0, cur, T, rfl, rfl, heap_alloc_new w _, by omega, by simpa using ht⟩⟩
theorem ReadRow.first {P : Program} {w : World} {size : Nat} {xs : List Value} {D : List Nat} {a : Option Addr} {n c : Nat} (h : ReadRow w size (.slice a n c) xs D) (hl : xs.length = n * size) (w' : World) (hw : ∀ b, w'.cell? b = w.cell? b) :
    (Builtin.firstCells size n (.slice a n c)).run P w' = .ok xs.toArray w' := by
  obtain ⟨a', n', c', hv, _, hn, hc, ha, hr⟩ := h
  cases hv
  cases a with
  | none =>
    have := ha rfl
    subst this
    obtain rfl : n = 0 := by omega
    have : xs = [] := by simpa using hl
    subst this
    exact run_firstCells_none w' size 0 0 0
  | some x =>
    refine run_firstCells_some w' size n x n c xs hl (fun j u hu => ?_)
    rcases hr with ⟨rfl, _⟩ | ⟨g, off, hx, _, _, h4⟩
    · simp at hu
    · cases hx
      rw [Addr.add_lit, hw]
      exact h4 j u hu
theorem ReadRow.src {P : Program} {w : World} {size : Nat} {v : Value} {xs : List Value} {D : List Nat} {tx e' : TypeId} (h : ReadRow w size v xs D) (hk : P.underlying tx = some (.slice e')) (h1 : ∀ u ∈ xs, u.oneCell' = true) :
    ∃ n, xs.length = n * size ∧ Src P size tx v n xs w := by
  obtain ⟨a, n, c, rfl, hl, hn, hc, ha, hr⟩ := h
  refine ⟨n, hl, ?_⟩
  cases a with
  | none =>
    have := ha rfl
    subst this
    obtain rfl : n = 0 := by omega
    have : xs = [] := by simpa using hl
    subst this
    exact Src.ofNil w hk 0
  | some x =>
    refine Src.ofSlice w hk x n c xs hl (fun j u hu => ?_) h1
    rcases hr with ⟨rfl, _⟩ | ⟨g, off, hx, _, _, h4⟩
    · simp at hu
    · cases hx
      rw [Addr.add_lit]
      exact h4 j u hu
theorem run_app {P : Program} {w : World} {size : Nat} {v : Value} {xs : List Value} {D : List Nat} (h : OwnRow w size v xs D) (t tx ty e : TypeId) (i : TypeInfo) (z : Value)
    (ht : P.underlying t = some (.slice e)) (hi : P.info? e = some i) (hz : i.zero = some z) (hsize : i.size = size) (hzs : z.cells.size = size) {x : Value} {m : Nat} {news : List Value} (hs : Src P size tx x m news w)
    (hb : ∀ n, xs.length = n * size → n + m ≤ 140737488355328 ∧ (n + m) * i.bytes ≤ 140737488355328) :
    ∃ v' w' D', (Builtin.append_ #[t, tx] ty #[v, x]).run P w = .ok v' w' ∧ OwnRow w' size v' (xs ++ news) D' ∧ Upd w w' D D' := by
  subst hsize
  obtain ⟨a, n, c, rfl, hl, hn, hc, ha, hr⟩ := h
  obtain ⟨hb1, hb2⟩ := hb n hl
  have hll : (xs ++ news).length = (n + m) * i.size := by rw [List.length_append, hl, hs.newsLen, Nat.add_mul]
  by_cases hroom : n + m ≤ c
  · rcases hr with ⟨rfl, rfl⟩ | ⟨g, off, cur, T, rfl, rfl, h3, h4, h5⟩
    · obtain rfl : n = 0 := by omega
      obtain rfl : m = 0 := by omega
      have hx0 : xs = [] := by simpa using hl
      have hn0 : news = [] := by simpa using hs.newsLen
      subst hx0; subst hn0
      refine ⟨.slice a 0 0, w, [], ?_, ⟨a, 0, 0, rfl, by simp, Nat.le_refl _, hc, ha, .inl ⟨rfl, rfl⟩⟩, Upd.refl _ _⟩
      rcases hs.kind with ⟨e', hk⟩ | hk <;> cases a <;> simp [Builtin.append_, run_underlying ht, run_underlying hk, sizeOf, typeInfo, hi, hs.len, hs.cells, storeCells]
    · have hle : (n + m) * i.size ≤ c * i.size := Nat.mul_le_mul_right _ hroom
      have hnm : (n + m) * i.size = n * i.size + news.length := by rw [hs.newsLen, Nat.add_mul]
      have hrun := run_append_room_src (P := P) w t tx ty e i ht hi g off n c x m news hs hroom (fun j hj => by
          rw [cell_of_row w g _ cur T _ h3]; simp; omega) (fun j _ => frz_of h3 _)
      refine ⟨_, _, [g], hrun, ⟨_, n + m, c, rfl, hll, hroom, hc, by simp, .inr ⟨g, off, _, T, rfl, rfl, heap_setCells_same g T news _ w cur h3 (by omega), ?_, ?_⟩⟩, ?_⟩
      · simp; omega
      · have hd : (cur.toList.take (off + n * i.size)).drop off = xs := by
          rw [List.drop_take, show off + n * i.size - off = n * i.size by omega, h5]
        rw [List.append_assoc, List.drop_append_of_le_length (by simp; omega), hd, ← List.append_assoc, List.take_append_of_le_length (by rw [hll]; exact Nat.le_refl _), List.take_of_length_le (by rw [hll]; exact Nat.le_refl _)]
      · obtain ⟨r1, r2, r3⟩ := rest_setCells g news (off + n * i.size) w
        exact ⟨r1, r2, r3, by rw [size_setCells]; exact Nat.le_refl _, fun b _ hbn => heap_setCells_other g b (by simpa using hbn) _ _ _, fun _ h => .inl h⟩
  · obtain ⟨E, hread, hED⟩ := OwnRow.read (w := w) (size := i.size) ⟨a, n, c, rfl, hl, hn, hc, ha, hr⟩
    have hold : (Builtin.firstCells i.size n (.slice a n c)).run P w.drew = .ok xs.toArray w.drew := by
      exact hread.first hl _ (fun _ => rfl)
    have hge := grownCap_ge w (n + m) c e
    have hcm : grownCap w (n + m) c e ≤ maxLen := grownCap_le_maxLen w (n + m) c e (by unfold maxLen; omega)
    have hrun := run_append_grow_src (P := P) w t tx ty e i z ht hi hz a n c xs hold x m news hs (by omega) (by omega) (growslice_fits (by omega) hb2)
    refine ⟨_, _, [w.heap.size], hrun, ?_, ?_⟩
    · refine OwnRow.made w.drew e i.size (n + m) _ _ _ hll hge hcm ?_ ?_
      · simp only [Array.size_append, List.size_toArray, hll, size_zeroCells, hzs]
        rw [← Nat.add_mul]
        exact Nat.mul_le_mul_right _ (by omega)
      · simp only [Array.toList_append]
        rw [List.take_append_of_le_length (by simp only [hll]; exact Nat.le_refl _), List.take_of_length_le (by simp only [hll]; exact Nat.le_refl _)]
    · exact ⟨rfl, rfl, rfl, by simp, fun k hk _ => Below.heap_alloc w.drew _ k hk, fun b hb => by simp at hb; subst hb; exact .inr ⟨Nat.le_refl _, by simp⟩⟩
end Go.Av

namespace Go.Av
open Go.RowKit Go.MapKept Go.ChangeMaps
def kv (e : MapEntry) : Value × Value := (e.key, e.val)
def MapIs (w : World) (d : TypeDesc) (m : Nat) (l : List (Value × Value)) : Prop :=
  ∃ es clock, w.heap[m]? = some (.map es clock) ∧ Stamped es clock ∧ (∀ e ∈ es.toList, IsKey d e.key) ∧ es.toList.map kv = l
theorem MapIs.frame {w w' : World} {d : TypeDesc} {m : Nat} {l : List (Value × Value)} (h : MapIs w d m l) (hs : w'.heap[m]? = w.heap[m]?) : MapIs w' d m l := by
  obtain ⟨es, clock, h1, h2⟩ := h
  exact ⟨es, clock, hs.trans h1, h2⟩
theorem MapIs.lt {w : World} {d : TypeDesc} {m : Nat} {l : List (Value × Value)} (h : MapIs w d m l) : m < w.heap.size := by
  obtain ⟨es, clock, h1, h2⟩ := h
  exact lt_of_heap h1
theorem MapIs.made (w : World) (d : TypeDesc) : MapIs (w.alloc (.map #[] 0)) d w.heap.size [] := ⟨#[], 0, heap_alloc_new w _, stamped_empty 0, by simp, rfl⟩
theorem MapIs.nodup {w : World} {d : TypeDesc} {m : Nat} {l : List (Value × Value)} (h : MapIs w d m l) : (l.map (·.1)).Nodup := by
  obtain ⟨es, clock, h1, ⟨_, _, h3⟩, _, rfl⟩ := h
  simpa [kv, Function.comp_def] using h3
theorem MapIs.keys {w : World} {d : TypeDesc} {m : Nat} {l : List (Value × Value)} (h : MapIs w d m l) : ∀ p ∈ l, IsKey d p.1 := by
  obtain ⟨es, clock, h1, _, h3, rfl⟩ := h
  intro p hp
  obtain ⟨e, he, rfl⟩ := List.mem_map.1 hp
  exact h3 e he
section
variable {P : Program} {w : World} {d : TypeDesc} {m : Nat} {l : List (Value × Value)} {t k e : TypeId}
theorem mp_len (h : MapIs w d m l) (ht : P.underlying t = some (.map k e)) (ty : TypeId) : (Builtin.len_ #[t] ty #[.map (some m)]).run P w = .ok (.int .i64 l.length) w := by
  obtain ⟨es, clock, h1, _, _, rfl⟩ := h
  simp [Builtin.len_, run_underlying ht, MapKept.run_getObj_map h1, Result.andThen, goInt]
theorem nodup_inj {α β : Type} {f : α → β} : ∀ {l : List α} (_ : (l.map f).Nodup) {x y : α}, x ∈ l → y ∈ l → f x = f y → x = y
  | z :: l, h, x, y, hx, hy, he => by
    simp only [List.map_cons, List.nodup_cons, List.mem_map, not_exists, not_and] at h
    rcases List.mem_cons.1 hx with e1 | hx <;> rcases List.mem_cons.1 hy with e2 | hy
    · rw [e1, e2]
    · exact absurd (by rw [← he, e1]) (h.1 y hy)
    · exact absurd (by rw [he, e2]) (h.1 x hx)
    · exact nodup_inj h.2 hx hy he
theorem mp_look (h : MapIs w d m l) (ht : P.underlying t = some (.map k e)) (hd : P.underlying k = some d) {key v : Value} (hk : IsKey d key) (hm : (key, v) ∈ l) (ok : Bool) :
    (Instr.lookup t (.map (some m)) key ok).run P w = .ok (if ok then .tuple #[v, .bool true] else v) w := by
  obtain ⟨es, clock, h1, ⟨_, _, h3⟩, h4, rfl⟩ := h
  obtain ⟨e0, he, heq⟩ := List.mem_map.1 hm
  simp only [kv, Prod.mk.injEq] at heq
  obtain ⟨hek, hev⟩ := heq
  rcases findNow_spec hk es.toList 0 h4 with ⟨a1, a2⟩ | ⟨j, e', a1, a2, a3⟩
  · exact absurd hek (a2 e0 he)
  · have : e' = e0 := by
      have hin : e' ∈ es.toList := List.mem_of_getElem? a2
      exact nodup_inj h3 hin he (a3.trans hek.symm)
    subst this
    cases ok <;> simp [Instr.lookup, run_underlying ht, MapKept.run_getObj_map h1, run_checkKey hd hk, run_findKey hd a1, Result.andThen, hev]
theorem mp_lookN (h : MapIs w d m l) (ht : P.underlying t = some (.map k e)) (hd : P.underlying k = some d) {key z : Value} (hk : IsKey d key) (hm : ∀ p ∈ l, p.1 ≠ key) (hz : (zeroValue e).run P w = .ok z w) (ok : Bool) :
    (Instr.lookup t (.map (some m)) key ok).run P w = .ok (if ok then .tuple #[z, .bool false] else z) w := by
  obtain ⟨es, clock, h1, ⟨_, _, h3⟩, h4, rfl⟩ := h
  rcases findNow_spec hk es.toList 0 h4 with ⟨a1, a2⟩ | ⟨j, e', a1, a2, a3⟩
  · cases ok <;> simp [Instr.lookup, run_underlying ht, MapKept.run_getObj_map h1, run_checkKey hd hk, run_findKey hd a1, Result.andThen, hz]
  · exact absurd a3 (hm (kv e') (List.mem_map.2 ⟨e', List.mem_of_getElem? a2, rfl⟩))
theorem upd_setBlock (w : World) (m : Nat) (o o' : Obj) (_h : w.heap[m]? = some o) : Upd w (setBlock w m o') [m] [m] :=
  ⟨rfl, rfl, rfl, by simp [setBlock], fun b _ hb => by simp at hb; simp [setBlock, Ne.symm hb], fun _ h => .inl h⟩
theorem mp_new (h : MapIs w d m l) (ht : P.underlying t = some (.map k e)) (hd : P.underlying k = some d) {key v : Value} (hk : IsKey d key) (hm : ∀ p ∈ l, p.1 ≠ key) :
    ∃ w', (Instr.mapUpdate t (.map (some m)) key v).run P w = .ok () w' ∧ MapIs w' d m (l ++ [(key, v)]) ∧ Upd w w' [m] [m] := by
  obtain ⟨es, clock, h1, h3, h4, rfl⟩ := h
  rcases findNow_spec hk es.toList 0 h4 with ⟨a1, a2⟩ | ⟨j, e', a1, a2, a3⟩
  · refine ⟨setBlock w m (.map (es.push { key, val := v, born := clock }) (clock + 1)), ?_, ⟨_, _, (heap_set h1).1, stamped_push h3 a2, ?_, by simp [kv]⟩, upd_setBlock w m _ _ h1⟩
    · simp [Instr.mapUpdate, run_underlying ht, MapKept.run_getObj_map h1, run_checkKey hd hk, run_findKey hd a1, MapKept.run_setObj_map _ h1, Result.andThen, setBlock]
    · intro x hx
      simp only [Array.toList_push, List.mem_append, List.mem_singleton] at hx
      rcases hx with hx | rfl
      · exact h4 x hx
      · exact hk
  · exact absurd a3 (hm (kv e') (List.mem_map.2 ⟨e', List.mem_of_getElem? a2, rfl⟩))
theorem toList_modify {α : Type} (a : Array α) (j : Nat) (f : α → α) : (a.modify j f).toList = a.toList.modify j f := by
  apply List.ext_getElem?
  intro i
  simp [List.getElem?_modify]
theorem split_at {α : Type} : ∀ {l : List α} {j : Nat} {x : α}, l[j]? = some x → l = l.take j ++ x :: l.drop (j + 1)
  | y :: l, 0, x, h => by simp at h; simp [h]
  | y :: l, j + 1, x, h => by simp at h; simpa using split_at h
theorem modify_at {α : Type} (f : α → α) : ∀ {l : List α} {j : Nat} {x : α}, l[j]? = some x → l.modify j f = l.take j ++ f x :: l.drop (j + 1)
  | y :: l, 0, x, h => by simp at h; simp [h]
  | y :: l, j + 1, x, h => by simp at h; simpa using modify_at f h
theorem eraseIdx_at {α : Type} : ∀ {l : List α} {j : Nat} {x : α}, l[j]? = some x → l.eraseIdx j = l.take j ++ l.drop (j + 1)
  | y :: l, 0, x, h => by simp
  | y :: l, j + 1, x, h => by simp at h; simpa using eraseIdx_at h
theorem parts_eq {l1 l2 a1 a2 : List (Value × Value)} {key v v' : Value} (hn : ((l1 ++ (key, v) :: l2).map (·.1)).Nodup) (h : l1 ++ (key, v) :: l2 = a1 ++ (key, v') :: a2) : l1 = a1 ∧ v = v' ∧ l2 = a2 := by
  induction l1 generalizing a1 with
  | nil =>
    cases a1 with
    | nil => simp at h; exact ⟨rfl, h.1, h.2⟩
    | cons x a1 =>
      simp only [List.nil_append, List.cons_append, List.cons.injEq] at h
      obtain ⟨rfl, rfl⟩ := h
      simp at hn
  | cons y l1 ih =>
    cases a1 with
    | nil =>
      simp only [List.nil_append, List.cons_append, List.cons.injEq] at h
      obtain ⟨rfl, rfl⟩ := h
      simp at hn
    | cons x a1 =>
      simp only [List.cons_append, List.cons.injEq] at h
      obtain ⟨rfl, h⟩ := h
      simp only [List.cons_append, List.map_cons, List.nodup_cons] at hn
      obtain ⟨r1, r2, r3⟩ := ih hn.2 h
      exact ⟨by rw [r1], r2, r3⟩
theorem mp_old {l1 l2 : List (Value × Value)} {key v0 v : Value} (h : MapIs w d m (l1 ++ (key, v0) :: l2)) (ht : P.underlying t = some (.map k e)) (hd : P.underlying k = some d) (hk : IsKey d key) :
    ∃ w', (Instr.mapUpdate t (.map (some m)) key v).run P w = .ok () w' ∧ MapIs w' d m (l1 ++ (key, v) :: l2) ∧ Upd w w' [m] [m] := by
  have hnd := h.nodup
  obtain ⟨es, clock, h1, h3, h4, hl⟩ := h
  rcases findNow_spec hk es.toList 0 h4 with ⟨a1, a2⟩ | ⟨j, e', a1, a2, a3⟩
  · exfalso
    have hm : (key, v0) ∈ es.toList.map kv := by rw [hl]; simp
    obtain ⟨e', he', heq⟩ := List.mem_map.1 hm
    exact a2 e' he' (congrArg Prod.fst heq)
  · have hj : es[j]? = some e' := by simpa using a2
    have hkey : ∀ e'', es[j]? = some e'' → ({ e'' with key := key, val := v } : MapEntry).key = e''.key := fun e'' he' => by rw [hj] at he'; cases he'; exact a3.symm
    refine ⟨setBlock w m (.map (es.modify j fun e => { e with key := key, val := v }) clock), ?_, ⟨_, _, (heap_set h1).1, stamped_modify h3 _ _ (fun _ _ => rfl) (fun e' _ he' => hkey e' he'), isKey_modify h4 _ _ hkey, ?_⟩, upd_setBlock w m _ _ h1⟩
    · simp [Instr.mapUpdate, run_underlying ht, MapKept.run_getObj_map h1, run_checkKey hd hk, run_findKey hd a1, hj, a3, run_keyThatStays hk, MapKept.run_setObj_map _ h1, Result.andThen, setBlock]
    · have hs := split_at a2
      have hsp : l1 ++ (key, v0) :: l2 = (es.toList.take j).map kv ++ (key, e'.val) :: (es.toList.drop (j + 1)).map kv := by
        rw [← hl]
        conv => lhs; rw [hs]
        simp [kv, a3]
      obtain ⟨r1, _, r3⟩ := parts_eq hnd hsp
      rw [toList_modify, modify_at _ a2, List.map_append, List.map_cons, r1, r3]
      rfl
theorem mp_del {l1 l2 : List (Value × Value)} {key v0 : Value} (h : MapIs w d m (l1 ++ (key, v0) :: l2)) (ht : P.underlying t = some (.map k e)) (hd : P.underlying k = some d) (hk : IsKey d key) (tk ty : TypeId) :
    ∃ w', (Builtin.delete_ #[t, tk] ty #[.map (some m), key]).run P w = .ok (.tuple #[]) w' ∧ MapIs w' d m (l1 ++ l2) ∧ Upd w w' [m] [m] := by
  have hnd := h.nodup
  obtain ⟨es, clock, h1, h3, h4, hl⟩ := h
  rcases findNow_spec hk es.toList 0 h4 with ⟨a1, a2⟩ | ⟨j, e', a1, a2, a3⟩
  · exfalso
    have hm : (key, v0) ∈ es.toList.map kv := by rw [hl]; simp
    obtain ⟨e', he', heq⟩ := List.mem_map.1 hm
    exact a2 e' he' (congrArg Prod.fst heq)
  · have hjs : j < es.size := by
      have := (List.getElem?_eq_some_iff.1 a2).1
      simpa using this
    have hlist : (es.eraseIdxIfInBounds j).toList = es.toList.take j ++ es.toList.drop (j + 1) := by
      rw [Array.eraseIdxIfInBounds, dif_pos hjs, Array.toList_eraseIdx, eraseIdx_at a2]
    refine ⟨setBlock w m (.map (es.eraseIdxIfInBounds j) clock), ?_, ⟨_, _, (heap_set h1).1, stamped_erase h3 _, ?_, ?_⟩, upd_setBlock w m _ _ h1⟩
    · simp [Builtin.delete_, run_underlying ht, MapKept.run_getObj_map h1, run_checkKey hd hk, run_findKey hd a1, MapKept.run_setObj_map _ h1, Result.andThen, setBlock]
    · intro x hx
      rw [hlist] at hx
      refine h4 x ?_
      rcases List.mem_append.1 hx with hx | hx
      · exact List.mem_of_mem_take hx
      · exact List.mem_of_mem_drop hx
    · have hs := split_at a2
      have hsp : l1 ++ (key, v0) :: l2 = (es.toList.take j).map kv ++ (key, e'.val) :: (es.toList.drop (j + 1)).map kv := by
        rw [← hl]
        conv => lhs; rw [hs]
        simp [kv, a3]
      obtain ⟨r1, _, r3⟩ := parts_eq hnd hsp
      rw [hlist, List.map_append, r1, r3]
theorem mp_delN (h : MapIs w d m l) (ht : P.underlying t = some (.map k e)) (hd : P.underlying k = some d) {key : Value} (hk : IsKey d key) (hm : ∀ p ∈ l, p.1 ≠ key) (tk ty : TypeId) :
    ∃ w', (Builtin.delete_ #[t, tk] ty #[.map (some m), key]).run P w = .ok (.tuple #[]) w' ∧ MapIs w' d m l ∧ Upd w w' [m] [m] := by
  obtain ⟨es, clock, h1, h3, h4, rfl⟩ := h
  rcases findNow_spec hk es.toList 0 h4 with ⟨a1, a2⟩ | ⟨j, e', a1, a2, a3⟩
  · refine ⟨setBlock w m (.map es clock), ?_, ⟨_, _, (heap_set h1).1, h3, h4, rfl⟩, upd_setBlock w m _ _ h1⟩
    simp [Builtin.delete_, run_underlying ht, MapKept.run_getObj_map h1, run_checkKey hd hk, run_findKey hd a1, MapKept.run_setObj_map _ h1, Result.andThen, setBlock]
  · exact absurd a3 (hm (kv e') (List.mem_map.2 ⟨e', List.mem_of_getElem? a2, rfl⟩))
def RangeIs (w : World) (d : TypeDesc) (m r : Nat) (l left : List (Value × Value)) : Prop :=
  ∃ es clock seen, w.heap[m]? = some (.map es clock) ∧ Stamped es clock ∧ (∀ e ∈ es.toList, IsKey d e.key) ∧ es.toList.map kv = l ∧
    w.heap[r]? = some (.mapIter (some m) clock seen clock) ∧ (leftOf es seen).toList.map kv = left
theorem RangeIs.frame {w w' : World} {d : TypeDesc} {m r : Nat} {l left : List (Value × Value)} (h : RangeIs w d m r l left) (h1 : w'.heap[m]? = w.heap[m]?) (h2 : w'.heap[r]? = w.heap[r]?) : RangeIs w' d m r l left := by
  obtain ⟨es, clock, seen, a1, a2, a3, a4, a5, a6⟩ := h
  exact ⟨es, clock, seen, h1.trans a1, a2, a3, a4, h2.trans a5, a6⟩
theorem mp_range (h : MapIs w d m l) (ht : P.underlying t = some (.map k e)) :
    ∃ o, (Instr.range t (.map (some m))).run P w = .ok (.pointer (some ⟨w.heap.size, 0, none⟩)) (w.alloc o) ∧ RangeIs (w.alloc o) d m w.heap.size l l := by
  have hlt := h.lt
  obtain ⟨es, clock, h1, h3, h4, rfl⟩ := h
  refine ⟨.mapIter (some m) clock #[] clock, ?_, es, clock, #[], ?_, h3, h4, rfl, heap_alloc_new w _, ?_⟩
  · simp [Instr.range, run_underlying ht, MapKept.run_getObj_map h1, Result.andThen, newObj, Sem.run]
  · rw [Below.heap_alloc _ _ _ hlt]; exact h1
  · simp only [leftOf, Array.toList_filter]
    rw [List.filter_eq_self.2 (by simp)]
theorem sublist_filter_ne {es : List MapEntry} {e : MapEntry} (hn : (es.map (·.born)).Nodup) {p : MapEntry → Bool} (he : e ∈ es.filter p) : ∃ l1 l2, es.filter p = l1 ++ e :: l2 ∧ es.filter (fun x => p x && !(x.born == e.born)) = l1 ++ l2 := by
  obtain ⟨l1, l2, hs⟩ := List.append_of_mem he
  refine ⟨l1, l2, hs, ?_⟩
  have e0 : es.filter (fun x => p x && !(x.born == e.born)) = (es.filter p).filter (fun x => !(x.born == e.born)) := by
    rw [List.filter_filter]
    congr 1
    funext x
    exact Bool.and_comm _ _
  rw [e0]
  have hn' : ((es.filter p).map (·.born)).Nodup := (List.filter_sublist.map _).nodup hn
  have : List.filter (fun x => !(x.born == e.born)) (es.filter p) = l1 ++ l2 := by
    rw [hs] at hn' ⊢
    simp only [List.map_append, List.map_cons, List.nodup_append, List.nodup_cons, List.mem_map, List.mem_cons] at hn'
    rw [List.filter_append, List.filter_cons]
    simp only [beq_self_eq_true, Bool.not_true, Bool.false_eq_true, if_false]
    congr 1
    · refine List.filter_eq_self.2 (fun x hx => ?_)
      simp only [Bool.not_eq_true', beq_eq_false_iff_ne]
      exact hn'.2.2 _ ⟨x, hx, rfl⟩ _ (.inl rfl)
    · refine List.filter_eq_self.2 (fun x hx => ?_)
      simp only [Bool.not_eq_true', beq_eq_false_iff_ne]
      exact fun h => hn'.2.1.1 ⟨x, hx, h⟩
  exact this
theorem mp_next0 {left : List (Value × Value)} {r : Nat} (h : RangeIs w d m r l left) (hne : m ≠ r) (ty : TypeId) :
    (left = [] ∧ (Instr.next (.pointer (some ⟨r, 0, none⟩)) false ty).run P w = .ok (.tuple #[.bool false]) w) ∨
    ∃ l1 key v l2 w', left = l1 ++ (key, v) :: l2 ∧ (key, v) ∈ l ∧ IsKey d key ∧ (Instr.next (.pointer (some ⟨r, 0, none⟩)) false ty).run P w = .ok (.tuple #[.bool true, key, v]) w' ∧ RangeIs w' d m r l (l1 ++ l2) ∧ Upd w w' [r] [r] ∧
      ∀ W : World, W.heap[m]? = w'.heap[m]? → W.heap[r]? = w'.heap[r]? → (Instr.entry (.pointer (some ⟨r, 0, none⟩))).run P W = .ok (.tuple #[key, v]) W := by
  obtain ⟨es, clock, seen, a1, a2, a3, rfl, a5, rfl⟩ := h
  rcases run_next_at (P := P) w ty r m clock clock seen es clock a5 a1 (fun x hx => a2.1 x hx) (Nat.le_refl _) with ⟨h0, hrun⟩ | ⟨e0, he, w1, hw1, hrun⟩
  · exact .inl ⟨by simp [Array.eq_empty_of_size_eq_zero h0], hrun⟩
  · refine .inr ?_
    obtain ⟨hin, _⟩ := mem_left he
    have hleft : (leftOf es seen).toList = es.toList.filter (fun e => !seen.contains e.born) := by simp [leftOf]
    obtain ⟨l1, l2, hs, hs2⟩ := sublist_filter_ne a2.2.1 (by rw [hleft] at he; exact he)
    have hw : ∀ b, (setBlock w1 r (.mapIter (some m) clock (seen.push e0.born) clock)).heap[b]? = if b = r then some (.mapIter (some m) clock (seen.push e0.born) clock) else w.heap[b]? := by
      intro b
      have hlt := lt_of_heap a5
      have hh : w1.heap = w.heap := by rcases hw1 with rfl | rfl <;> rfl
      by_cases hb : b = r
      · subst hb; simp [setBlock, hh, hlt]
      · simp [setBlock, hh, Ne.symm hb, hb]
    have hu : Upd w (setBlock w1 r (.mapIter (some m) clock (seen.push e0.born) clock)) [r] [r] := by
      rcases hw1 with rfl | rfl <;> exact ⟨rfl, rfl, rfl, by simp [setBlock], fun b _ hb => by rw [hw, if_neg (by simpa using hb)], fun _ h => .inl h⟩
    refine ⟨l1.map kv, e0.key, e0.val, l2.map kv, _, by rw [hleft, hs]; simp [kv], List.mem_map.2 ⟨e0, hin, rfl⟩, a3 e0 hin, hrun, ⟨es, clock, seen.push e0.born, by rw [hw, if_neg hne]; exact a1, a2, a3, rfl, by rw [hw, if_pos rfl], ?_⟩, hu, ?_⟩
    · rw [← List.map_append, ← hs2]
      congr 1
      simp only [leftOf, Array.toList_filter]
      congr 1
      funext x
      rw [Bool.eq_iff_iff]
      simp only [Bool.and_eq_true, Bool.not_eq_true', Array.contains_eq_mem, decide_eq_false_iff_not, Array.mem_push, beq_eq_false_iff_ne, not_or, ne_eq]
    · intro W hm hr
      refine run_entry_at W r m clock seen es clock e0 ?_ ?_ hin a2.2.1
      · rw [hr, hw, if_pos rfl]
      · rw [hm, hw, if_neg hne]; exact a1
end
theorem mp_next {P : Program} {w : World} {d : TypeDesc} {m : Nat} {l : List (Value × Value)} {α : Type} (ent : α → Value × Value) {left : List α} {r : Nat} (h : RangeIs w d m r l (left.map ent)) (hne : m ≠ r) :
    (left = [] ∧ ∀ ty, (Instr.next (.pointer (some ⟨r, 0, none⟩)) false ty).run P w = .ok (.tuple #[.bool false]) w) ∨
    ∃ l1 g l2 w', left = l1 ++ g :: l2 ∧ (∀ ty, (Instr.next (.pointer (some ⟨r, 0, none⟩)) false ty).run P w = .ok (.tuple #[.bool true, (ent g).1, (ent g).2]) w') ∧ RangeIs w' d m r l ((l1 ++ l2).map ent) ∧ Upd w w' [r] [r] ∧
      (Instr.entry (.pointer (some ⟨r, 0, none⟩))).run P w' = .ok (.tuple #[(ent g).1, (ent g).2]) w' := by
  rcases mp_next0 (P := P) h hne 0 with ⟨h0, hr⟩ | ⟨l1, key, v, l2, w', hl, _, _, hr, h1, h2, h3⟩
  · exact .inl ⟨by simpa using h0, fun _ => hr⟩
  · obtain ⟨a1, a2, rfl, e1, e2⟩ := List.map_eq_append_iff.1 hl
    obtain ⟨g, a3, rfl, e3, e4⟩ := List.map_eq_cons_iff.1 e2
    refine .inr ⟨a1, g, a3, w', rfl, ?_, ?_, h2, ?_⟩
    · rw [e3]; exact fun _ => hr
    · rw [List.map_append, e1, e4]; exact h1
    · rw [e3]; exact h3 w' rfl rfl
theorem wpList_app {P : Program} {w : World} {ops : Array Oper} {rest : List Oper} {o : Oper} {a : Act} {Q : Exit → Act → World → Prop} (hgd : o.guard = none) (s x : Operand) (t tx : TypeId)
    (ho : o.op = .call { callee := .builtin .append, args := #[s, x], argTypes := #[t, tx] }) (size : Nat) (v : Value) (xs : List Value) (D : List Nat) (hs : a.eval s = v) (hown : OwnRow w size v xs D)
    (e : TypeId) (i : TypeInfo) (z : Value) (ht : P.underlying t = some (.slice e)) (hi : P.info? e = some i) (hz : i.zero = some z) (hsize : i.size = size) (hzs : z.cells.size = size)
    (xv : Value) (m : Nat) (news : List Value) (hx : a.eval x = xv) (hsrc : Src P size tx xv m news w)
    (hb : ∀ n, xs.length = n * size → n + m ≤ 140737488355328 ∧ (n + m) * i.bytes ≤ 140737488355328)
    (h : ∀ a' n' c' w' D', OwnRow w' size (.slice a' n' c') (xs ++ news) D' → Upd w w' D D' → wpList P ops Q rest (a.put o.dst (.slice a' n' c')) w') : wpList P ops Q (o :: rest) a w := by
  refine wpList_plain hgd fun K hK => ?_
  obtain ⟨v', w', D', hrun, h1, h2⟩ := run_app (P := P) hown t tx o.type e i z ht hi hz hsize hzs hsrc hb
  obtain ⟨a', n', c', rfl, _⟩ := h1.len
  unfold Oper.wp
  simp [execOp, ho, resolve, invoke, builtin, hs, hx, hrun, Result.andThen]
  exact hK _ _ (h a' n' c' w' D' h1 h2)
theorem OwnRow.take {w : World} {size : Nat} {a : Option Addr} {n c : Nat} {xs : List Value} {D : List Nat} (h : OwnRow w size (.slice a n c) xs D) {k : Nat} (hk : k ≤ n) : OwnRow w size (.slice a k c) (xs.take (k * size)) D ∧ k ≤ c := by
  obtain ⟨a', n', c', hv, hl, hn, hc, ha, hr⟩ := h
  cases hv
  have hle : k * size ≤ n * size := Nat.mul_le_mul_right _ hk
  refine ⟨⟨a, k, c, rfl, by rw [List.length_take, hl]; omega, by omega, hc, ha, ?_⟩, by omega⟩
  rcases hr with hr | ⟨g, off, cur, T, h1, h2, h3, h4, h5⟩
  · exact .inl hr
  · exact .inr ⟨g, off, cur, T, h1, h2, h3, h4, by rw [← h5, List.take_take]; congr 1; omega⟩
def IsBytes (w : World) (a : Option Addr) (len cap : Nat) (zs : List Int) : Prop :=
  (a = none ∧ len = 0 ∧ cap = 0 ∧ zs = []) ∨
  ∃ x, a = some x ∧ len ≤ cap ∧ cap ≤ maxLen ∧ zs.length = cap ∧ (∀ i, i < zs.length → w.cell? (x.add i) = some (.int .u8 (zs.getD i 0))) ∧ ∀ n ∈ zs, (Lit.int .u8 n).wf = true
theorem IsBytes.read {w : World} {a : Option Addr} {len cap : Nat} {zs : List Int} (h : IsBytes w a len cap zs) :
    ∃ (l : List UInt8) (E : List Nat), l.length = len ∧ ReadRow w 1 (.slice a len cap) (l.map fun c => Value.int .u8 (c.toNat : Int)) E := by
  rcases h with ⟨rfl, rfl, rfl, rfl⟩ | ⟨x, rfl, h1, h2, h3, h4, h5⟩
  · exact ⟨[], [], rfl, none, 0, 0, rfl, rfl, Nat.le_refl _, by decide, fun _ => rfl, .inl ⟨rfl, rfl⟩⟩
  · refine ⟨(zs.take len).map fun z => UInt8.ofNat z.toNat, if len = 0 then [] else [x.block], by simp; omega, some x, len, cap, rfl, by simp; omega, h1, h2, by simp, ?_⟩
    by_cases h0 : len = 0
    · subst h0; exact .inl ⟨by simp, by simp⟩
    · refine .inr ?_
      have hc0 := h4 0 (by omega)
      have hsp : x.spot = none := by
        cases hs : x.spot with
        | none => rfl
        | some _ =>
          have : x.add 0 = x := by simp [Addr.add]
          rw [this] at hc0
          unfold World.cell? at hc0
          split at hc0 <;> simp [hs] at hc0
      obtain ⟨b, o, sp⟩ := x
      simp only at hsp
      subst hsp
      refine ⟨b, o, rfl, by simp [h0], ?_, fun i u hu => ?_⟩
      · have := World.block_lt_of_cell? w _ hc0
        simpa [Addr.add_lit] using this
      · simp only [List.getElem?_map, List.getElem?_take, Option.map_eq_some_iff] at hu
        obtain ⟨c, ⟨z, hz, rfl⟩, rfl⟩ := hu
        split at hz
        · rename_i hi
          have hzl : i < zs.length := by omega
          have hg := h4 i hzl
          rw [Addr.add_lit] at hg
          rw [hg]
          have hzz : zs.getD i 0 = z := by
            simp [List.getD, hz]
          rw [hzz]
          have hwf := h5 z (List.mem_of_getElem? hz)
          have hb : 0 ≤ z ∧ z ≤ 255 := by
            simp [Lit.wf, IntKind.min, IntKind.max, IntKind.signed, IntKind.bits] at hwf
            omega
          simp
          omega
        · cases hz
end Go.Av

namespace Go.Av
open Go.RowKit Go.MapKept
abbrev Bs := List UInt8
def bv (c : UInt8) : Value := .int .u8 (c.toNat : Int)
structure FileS where
  name : ByteArray
  b : Bs
  safe : Nat
structure DiskS where
  room : Int
  off : Bool
  lives : Int
  fs : List FileS
def okc (c : UInt8) : Bool := decide (33 ≤ (c.toNat : Int)) && decide ((c.toNat : Int) ≤ 126)
def goodN (s : ByteArray) : Bool := s.data.toList.all okc && (decide (1 ≤ (s.size : Int)) && decide ((s.size : Int) ≤ 20))
def total (fs : List FileS) : Nat := (fs.map fun f => f.b.length).sum
def DiskS.may (S : DiskS) (l : List ByteArray) : Int := if S.off then 10 else if l.all goodN then 0 else 1
structure FileG extends FileS where
  f : Nat
  v : Value
  D : List Nat
def FileG.dom (g : FileG) : List Nat := g.f :: g.D
def FileG.ent (g : FileG) : Value × Value := (.string g.name, .pointer (some ⟨g.f, 0, none⟩))
def FileAt (w : World) (g : FileG) : Prop := (∃ T, w.heap[g.f]? = some (.cells #[g.v, .int .i64 g.safe] T (0, 0))) ∧ OwnRow w 1 g.v (g.b.map bv) g.D ∧ g.safe ≤ g.b.length
def DiskD (d m : Nat) (gs : List FileG) : List Nat := d :: m :: gs.flatMap FileG.dom
structure DiskI (w : World) (d : Nat) (S : DiskS) (m : Nat) (gs : List FileG) : Prop where
  hd : ∃ T, w.heap[d]? = some (.cells #[.int .i64 S.room, .bool S.off, .int .i64 S.lives, .map (some m)] T (0, 0))
  hm : MapIs w .string m (gs.map FileG.ent)
  hf : ∀ g ∈ gs, FileAt w g
  hS : gs.map FileG.toFileS = S.fs
  nd : (DiskD d m gs).Nodup
  lo : 64 ≤ S.room
  hi : S.room ≤ 1048576
  fits : (total S.fs : Int) ≤ S.room
def DiskAt (w : World) (d : Nat) (S : DiskS) (D : List Nat) : Prop := ∃ m gs, DiskI w d S m gs ∧ D = DiskD d m gs
theorem FileAt.frame {w w' : World} {g : FileG} (h : FileAt w g) (hs : Same w w' g.dom) : FileAt w' g := by
  obtain ⟨⟨T, h1⟩, h2, h3⟩ := h
  exact ⟨⟨T, by rw [hs _ (by simp [FileG.dom])]; exact h1⟩, h2.frame (fun b hb => hs b (by simp [FileG.dom, hb])), h3⟩
theorem FileAt.lt {w : World} {g : FileG} (h : FileAt w g) : ∀ b ∈ g.dom, b < w.heap.size := by
  obtain ⟨⟨T, h1⟩, h2, h3⟩ := h
  intro b hb
  rcases List.mem_cons.1 hb with rfl | hb
  · exact lt_of_heap h1
  · exact h2.lt b hb
theorem DiskI.frame {w w' : World} {d m : Nat} {S : DiskS} {gs : List FileG} (h : DiskI w d S m gs) (hs : Same w w' (DiskD d m gs)) : DiskI w' d S m gs := by
  obtain ⟨⟨T, h1⟩, h2, h3, h4⟩ := h
  exact ⟨⟨T, by rw [hs _ (by simp [DiskD])]; exact h1⟩, h2.frame (hs _ (by simp [DiskD])), fun g hg => (h3 g hg).frame (fun b hb => hs b (by simp only [DiskD, List.mem_cons, List.mem_flatMap]; exact .inr (.inr ⟨g, hg, hb⟩))), h4, by assumption, by assumption, by assumption, by assumption⟩
theorem DiskI.lt {w : World} {d m : Nat} {S : DiskS} {gs : List FileG} (h : DiskI w d S m gs) : ∀ b ∈ DiskD d m gs, b < w.heap.size := by
  obtain ⟨⟨T, h1⟩, h2, h3, h4⟩ := h
  intro b hb
  simp only [DiskD, List.mem_cons, List.mem_flatMap] at hb
  rcases hb with rfl | rfl | ⟨g, hg, hb⟩
  · exact lt_of_heap h1
  · exact h2.lt
  · exact (h3 g hg).lt b hb
theorem DiskAt.frame {w w' : World} {d : Nat} {S : DiskS} {D : List Nat} (h : DiskAt w d S D) (hs : Same w w' D) : DiskAt w' d S D := by
  obtain ⟨m, gs, h, rfl⟩ := h
  exact ⟨m, gs, h.frame hs, rfl⟩
theorem DiskAt.lt {w : World} {d : Nat} {S : DiskS} {D : List Nat} (h : DiskAt w d S D) : ∀ b ∈ D, b < w.heap.size := by
  obtain ⟨m, gs, h, rfl⟩ := h
  exact h.lt
theorem DiskAt.nd {w : World} {d : Nat} {S : DiskS} {D : List Nat} (h : DiskAt w d S D) : D.Nodup := by
  obtain ⟨m, gs, h, rfl⟩ := h
  exact h.nd
theorem nodup_swap {A B X X' : List Nat} {N : Nat} (h : (A ++ X ++ B).Nodup) (hX : X'.Nodup) (hnew : ∀ b ∈ X', b ∈ X ∨ N ≤ b) (hlt : ∀ b ∈ A ++ X ++ B, b < N) : (A ++ X' ++ B).Nodup := by
  simp only [List.nodup_append, List.mem_append] at h ⊢
  obtain ⟨⟨h1, h2, h3⟩, h4, h5⟩ := h
  refine ⟨⟨h1, hX, fun a ha b hb => ?_⟩, h4, fun a ha b hb => ?_⟩
  · rcases hnew b hb with h | h
    · exact h3 a ha b h
    · have := hlt a (by simp [ha]); omega
  · rcases ha with ha | ha
    · exact h5 a (.inl ha) b hb
    · rcases hnew a ha with h | h
      · exact h5 a (.inr h) b hb
      · have := hlt b (by simp [hb]); omega
theorem DiskD_mid (d m : Nat) (l1 : List FileG) (g : FileG) (l2 : List FileG) : DiskD d m (l1 ++ g :: l2) = (d :: m :: l1.flatMap FileG.dom) ++ g.dom ++ l2.flatMap FileG.dom := by
  simp [DiskD]
theorem DiskI.replace {w w' : World} {d m : Nat} {S S' : DiskS} {l1 l2 : List FileG} {g g' : FileG} (h : DiskI w d S m (l1 ++ g :: l2)) (hu : Upd w w' g.dom g'.dom) (hf : FileAt w' g') (hn : g'.name = g.name) (hp : g'.f = g.f)
    (hnd : g'.dom.Nodup) (hS : S' = { S with fs := (l1 ++ g' :: l2).map FileG.toFileS }) (hfit : (total S'.fs : Int) ≤ S.room) :
    DiskI w' d S' m (l1 ++ g' :: l2) ∧ Upd w w' (DiskD d m (l1 ++ g :: l2)) (DiskD d m (l1 ++ g' :: l2)) := by
  have hlt := h.lt
  have hndo := h.nd
  rw [DiskD_mid] at hlt hndo
  have hU : Upd w w' (DiskD d m (l1 ++ g :: l2)) (DiskD d m (l1 ++ g' :: l2)) := by
    rw [DiskD_mid, DiskD_mid]
    refine hu.mono (fun b hb => by simp [hb]) (fun b hb => ?_)
    simp only [List.mem_append] at hb ⊢
    rcases hb with (hb | hb) | hb
    · exact .inr (.inl (.inl hb))
    · exact .inl hb
    · exact .inr (.inr hb)
  refine ⟨?_, hU⟩
  have hndo' := hndo
  simp only [List.nodup_append, List.mem_append] at hndo
  obtain ⟨⟨n1, n2, n3⟩, n4, n5⟩ := hndo
  have keepA : ∀ b ∈ (d :: m :: l1.flatMap FileG.dom), w'.heap[b]? = w.heap[b]? := fun b hb => hu.keep b (hlt b (by simp only [List.mem_append]; exact .inl (.inl hb))) (fun hg => n3 b hb b hg rfl)
  have keepB : ∀ b ∈ l2.flatMap FileG.dom, w'.heap[b]? = w.heap[b]? := fun b hb => hu.keep b (hlt b (by simp only [List.mem_append]; exact .inr hb)) (fun hg => n5 b (.inr hg) b hb rfl)
  subst hS
  refine ⟨?_, ?_, ?_, rfl, ?_, h.lo, h.hi, hfit⟩
  · obtain ⟨T, hd⟩ := h.hd
    exact ⟨T, by rw [keepA d (by simp)]; exact hd⟩
  · have hm := h.hm.frame (keepA m (by simp))
    simpa [FileG.ent, hn, hp] using hm
  · intro x hx
    simp only [List.mem_append, List.mem_cons] at hx
    rcases hx with hx | rfl | hx
    · exact (h.hf x (by simp [hx])).frame (fun b hb => keepA b (by simp only [List.mem_cons, List.mem_flatMap]; exact .inr (.inr ⟨x, hx, hb⟩)))
    · exact hf
    · exact (h.hf x (by simp [hx])).frame (fun b hb => keepB b (List.mem_flatMap.2 ⟨x, hx, hb⟩))
  · rw [DiskD_mid]
    exact nodup_swap hndo' hnd (fun b hb => by rcases hu.new b hb with h | h; exact .inl h; exact .inr h.1) hlt
theorem DiskI.names {w : World} {d m : Nat} {S : DiskS} {gs : List FileG} (h : DiskI w d S m gs) : (gs.map (·.name)).Nodup := by
  have := h.hm.nodup
  simp only [List.map_map] at this
  exact (List.pairwise_map.1 this).imp (fun hne he => hne (by simp [FileG.ent, he])) |> List.pairwise_map.2
def putApp (n : ByteArray) (b : Bs) : List FileS → List FileS
  | [] => [⟨n, b, 0⟩]
  | f :: r => if f.name = n then { f with b := f.b ++ b } :: r else f :: putApp n b r
def DiskS.append (S : DiskS) (n : ByteArray) (b : Bs) : Int × DiskS :=
  if S.may [n] ≠ 0 then (S.may [n], S)
  else if S.room - (total S.fs : Int) < (b.length : Int) then (9, S)
  else (0, { S with fs := putApp n b S.fs })
theorem DiskI.more {w w' : World} {d m : Nat} {S S' : DiskS} {gs : List FileG} {g : FileG} (h : DiskI w d S m gs) (hu : Upd w w' [m] (m :: g.dom)) (hm : MapIs w' .string m ((gs ++ [g]).map FileG.ent)) (hf : FileAt w' g)
    (hnd : g.dom.Nodup) (hnew : ∀ b ∈ g.dom, w.heap.size ≤ b) (hS : S' = { S with fs := (gs ++ [g]).map FileG.toFileS }) (hfit : (total S'.fs : Int) ≤ S.room) :
    DiskI w' d S' m (gs ++ [g]) ∧ Upd w w' (DiskD d m gs) (DiskD d m (gs ++ [g])) := by
  have hlt := h.lt
  have hndo := h.nd
  subst hS
  have hkeep : ∀ b ∈ DiskD d m gs, b ≠ m → w'.heap[b]? = w.heap[b]? := fun b hb hne => hu.keep b (hlt b hb) (by simpa using hne)
  refine ⟨⟨?_, hm, ?_, rfl, ?_, h.lo, h.hi, hfit⟩, ?_⟩
  · obtain ⟨T, hd⟩ := h.hd
    have hne : d ≠ m := by
      simp only [DiskD, List.nodup_cons, List.mem_cons, not_or] at hndo
      exact hndo.1.1
    exact ⟨T, by rw [hkeep d (by simp [DiskD]) hne]; exact hd⟩
  · intro x hx
    simp only [List.mem_append, List.mem_singleton] at hx
    rcases hx with hx | rfl
    · refine (h.hf x hx).frame (fun b hb => hkeep b ?_ ?_)
      · simp only [DiskD, List.mem_cons, List.mem_flatMap]; exact .inr (.inr ⟨x, hx, hb⟩)
      · rintro rfl
        simp only [DiskD, List.nodup_cons, List.mem_cons, List.mem_flatMap, not_exists, not_and] at hndo
        exact hndo.2.1 x hx hb
    · exact hf
  · have : DiskD d m (gs ++ [g]) = DiskD d m gs ++ g.dom := by simp [DiskD]
    rw [this, List.nodup_append]
    exact ⟨hndo, hnd, fun a ha b hb => by have := hlt a ha; have := hnew b hb; omega⟩
  · refine hu.mono (fun b hb => by simp at hb; simp [DiskD, hb]) (fun b hb => ?_)
    have : DiskD d m (gs ++ [g]) = DiskD d m gs ++ g.dom := by simp [DiskD]
    rw [this, List.mem_append] at hb
    rcases hb with hb | hb
    · exact .inr hb
    · exact .inl (by simp [hb])
end Go.Av

namespace Go.Av
open Go.RowKit
structure Thing where
  P : World → List Nat → Prop
  frame : ∀ {w w' : World} {D : List Nat}, P w D → Same w w' D → P w' D
  lt : ∀ {w : World} {D : List Nat}, P w D → ∀ b ∈ D, b < w.heap.size
def Apart (A B : List Nat) : Prop := ∀ x ∈ A, x ∉ B
theorem Apart.symm {A B : List Nat} (h : Apart A B) : Apart B A := fun x hx ha => h x ha hx
inductive Lie (w : World) : List Thing → List Nat → Prop
  | nil : Lie w [] []
  | cons {T : Thing} {D : List Nat} {Ts : List Thing} {E : List Nat} : T.P w D → Apart D E → Lie w Ts E → Lie w (T :: Ts) (D ++ E)
theorem Lie.lt {w : World} {Ts : List Thing} {E : List Nat} (h : Lie w Ts E) : ∀ b ∈ E, b < w.heap.size := by
  induction h with
  | nil => simp
  | @cons T _ _ _ h1 _ _ ih =>
    intro b hb
    rcases List.mem_append.1 hb with hb | hb
    · exact T.lt h1 b hb
    · exact ih b hb
theorem Lie.frame {w w' : World} {Ts : List Thing} {E : List Nat} (h : Lie w Ts E) (hs : Same w w' E) : Lie w' Ts E := by
  induction h with
  | nil => exact .nil
  | @cons T _ _ _ h1 h2 _ ih => exact .cons (T.frame h1 (fun b hb => hs b (by simp [hb]))) h2 (ih (fun b hb => hs b (by simp [hb])))
def RowsIn (w : World) (D : List Nat) (rows : List (Value × Bs)) : Prop := ∀ r ∈ rows, ∃ E, ReadRow w 1 r.1 (r.2.map bv) E ∧ ∀ x ∈ E, x ∉ D
theorem RowsIn.upd {w w' : World} {D D' : List Nat} {rows : List (Value × Bs)} (hr : RowsIn w D rows) (hu : Upd w w' D D') : RowsIn w' D' rows := by
  intro r h
  obtain ⟨E, h1, h2⟩ := hr r h
  refine ⟨E, h1.frame (hu.same h1.lt h2), fun x hx hd => ?_⟩
  rcases hu.new x hd with h | h
  · exact h2 x hx h
  · have := h1.lt x hx; omega
theorem RowsIn.sub {w : World} {D D' : List Nat} {rows : List (Value × Bs)} (hr : RowsIn w D rows) (h : ∀ x ∈ D', x ∈ D) : RowsIn w D' rows := by
  intro r hh
  obtain ⟨E, h1, h2⟩ := hr r hh
  exact ⟨E, h1, fun x hx hd => h2 x hx (h x hd)⟩
def Sep (w0 w : World) (Ts : List Thing) (rows : List (Value × Bs)) : Prop := ∃ D, Lie w Ts D ∧ Upd w0 w [] D ∧ RowsIn w D rows
theorem Sep.below {w0 w : World} {Ts : List Thing} {rows : List (Value × Bs)} (h : Sep w0 w Ts rows) : Below w0.heap.size w0 w := by
  obtain ⟨D, _, hu, _⟩ := h
  exact hu.below
theorem Lie.turn {w w' : World} {Ts Ts' R : List Thing} {D D' E : List Nat} (_h : Lie w Ts D) (h' : Lie w' Ts' D') (hR : Lie w R E) (ha : Apart D E) (hu : Upd w w' D D') : Lie w' R E ∧ Apart D' E ∧ Upd w w' (D ++ E) (D' ++ E) := by
  refine ⟨hR.frame (hu.same hR.lt ha.symm), fun x hx he => ?_, hu.mono (fun b hb => by simp [hb]) (fun b hb => ?_)⟩
  · rcases hu.new x hx with h | h
    · exact ha x h he
    · have := hR.lt x he; omega
  · rcases List.mem_append.1 hb with hb | hb
    · exact .inl hb
    · exact .inr (by simp [hb])
theorem Lie.append {w : World} {A B : List Thing} {D E : List Nat} (hA : Lie w A D) (hB : Lie w B E) (ha : Apart D E) : Lie w (A ++ B) (D ++ E) := by
  induction hA with
  | nil => exact hB
  | cons h1 h2 _ ih =>
    rw [List.cons_append, List.append_assoc]
    refine .cons h1 (fun x hx he => ?_) (ih (fun x hx he => ha x (by simp [hx]) he))
    rcases List.mem_append.1 he with he | he
    · exact h2 x hx he
    · exact ha x (by simp [hx]) he
theorem Lie.split {w : World} {A B : List Thing} {F : List Nat} (h : Lie w (A ++ B) F) : ∃ D E, F = D ++ E ∧ Lie w A D ∧ Lie w B E ∧ Apart D E := by
  induction A generalizing F with
  | nil => exact ⟨[], F, rfl, .nil, h, fun x hx => by cases hx⟩
  | cons T A ih =>
    cases h with
    | cons h1 h2 h3 =>
      obtain ⟨D, E, rfl, hA, hB, ha⟩ := ih h3
      refine ⟨_ ++ D, E, (List.append_assoc _ _ _).symm, .cons h1 (fun x hx he => h2 x hx (by simp [he])) hA, hB, fun x hx he => ?_⟩
      rcases List.mem_append.1 hx with hx | hx
      · exact h2 x hx (by simp [he])
      · exact ha x hx he
theorem Sep.use {w0 w : World} {T : Thing} {R : List Thing} {rows : List (Value × Bs)} (h : Sep w0 w (T :: R) rows) :
    ∃ D, T.P w D ∧ RowsIn w D rows ∧ ∀ (w' : World) (D' : List Nat) (T' : Thing), Upd w w' D D' → T'.P w' D' → Sep w0 w' (T' :: R) rows := by
  obtain ⟨F, hl, hu, hr⟩ := h
  cases hl with
  | @cons _ D _ E h1 h2 h3 =>
    refine ⟨D, h1, hr.sub (by intro x hx; simp [hx]), fun w' D' T' hu' hP => ?_⟩
    have h1' : Lie w [T] D := by simpa using Lie.cons h1 (E := []) (fun x hx he => by cases he) Lie.nil
    have hP' : Lie w' [T'] D' := by simpa using Lie.cons hP (E := []) (fun x hx he => by cases he) Lie.nil
    obtain ⟨a1, a2, a3⟩ := h1'.turn hP' h3 h2 hu'
    exact ⟨D' ++ E, .cons hP a2 a1, hu.trans a3, hr.upd a3⟩
theorem Sep.swap {w0 w : World} {T U : Thing} {R : List Thing} {rows : List (Value × Bs)} (h : Sep w0 w (T :: U :: R) rows) : Sep w0 w (U :: T :: R) rows := by
  obtain ⟨F, hl, hu, hr⟩ := h
  cases hl with
  | @cons _ D _ E' h1 h2 h3 =>
    cases h3 with
    | @cons _ E _ G k1 k2 k3 =>
      have hp : ∀ x, x ∈ E ++ (D ++ G) ↔ x ∈ D ++ (E ++ G) := fun x => by simp only [List.mem_append]; exact ⟨fun h => by rcases h with h | h | h <;> simp [h], fun h => by rcases h with h | h | h <;> simp [h]⟩
      refine ⟨E ++ (D ++ G), .cons k1 (fun x hx he => ?_) (.cons h1 (fun x hx he => h2 x hx (by simp [he])) k3), hu.mono (by simp) (fun b hb => .inl ((hp b).1 hb)), hr.sub (fun x hx => (hp x).1 hx)⟩
      rcases List.mem_append.1 he with he | he
      · exact h2 x he (by simp [hx])
      · exact k2 x hx he
theorem Sep.drop {w0 w : World} {T : Thing} {R : List Thing} {rows : List (Value × Bs)} (h : Sep w0 w (T :: R) rows) : Sep w0 w R rows := by
  obtain ⟨F, hl, hu, hr⟩ := h
  cases hl with
  | @cons _ D _ E h1 h2 h3 => exact ⟨E, h3, hu.mono (by simp) (fun b hb => .inl (by simp [hb])), hr.sub (fun x hx => by simp [hx])⟩
theorem Sep.add {w0 w w' : World} {T : Thing} {D' : List Nat} {R : List Thing} {rows : List (Value × Bs)} (h : Sep w0 w R rows) (hu : Upd w w' [] D') (hT : T.P w' D') : Sep w0 w' (T :: R) rows := by
  obtain ⟨F, hl, hu0, hr⟩ := h
  have hn : Apart D' F := fun x hx he => by
    rcases hu.new x hx with h | h
    · cases h
    · have := hl.lt x he; omega
  have hU : Upd w w' F (D' ++ F) := hu.mono (by simp) (fun b hb => by
    rcases List.mem_append.1 hb with hb | hb
    · exact .inl hb
    · exact .inr hb)
  exact ⟨D' ++ F, .cons hT hn (hl.frame (hu.same hl.lt (by simp))), hu0.trans hU, hr.upd hU⟩
theorem Sep.keep {w0 w w' : World} {D' : List Nat} {R : List Thing} {rows : List (Value × Bs)} (h : Sep w0 w R rows) (hu : Upd w w' [] D') : Sep w0 w' R rows := by
  obtain ⟨F, hl, hu0, hr⟩ := h
  have hU : Upd w w' F F := hu.mono (by simp) (fun b hb => .inr hb)
  exact ⟨F, hl.frame (hu.same hl.lt (by simp)), hu0.trans hU, hr.upd hU⟩
theorem Sep.alloc {w0 w : World} {R : List Thing} {rows : List (Value × Bs)} (h : Sep w0 w R rows) (o : Obj) : Sep w0 (w.alloc o) R rows := h.keep (Upd.alloc0 w o [])
theorem Sep.drew {w0 w : World} {R : List Thing} {rows : List (Value × Bs)} (h : Sep w0 w R rows) : Sep w0 w.drew R rows := h.keep (Upd.refl w []).drew
theorem Sep.drewN {w0 w : World} {R : List Thing} {rows : List (Value × Bs)} (h : Sep w0 w R rows) (n : Nat) : Sep w0 (w.drewN n) R rows := h.keep ((Upd.refl w []).drewN n)
theorem Sep.row {w0 w w' : World} {R : List Thing} {rows : List (Value × Bs)} {v : Value} {b : Bs} {E D' : List Nat} (h : Sep w0 w R rows) (hu : Upd w w' [] D') (hr : ReadRow w' 1 v (b.map bv) E) (hE : ∀ x ∈ E, x ∈ D') : Sep w0 w' R ((v, b) :: rows) := by
  have hk := h.keep hu
  obtain ⟨F, hl, hu0, hr0⟩ := h
  obtain ⟨F', hl', hu0', hr0'⟩ := hk
  have hU : Upd w w' F F := hu.mono (by simp) (fun b hb => .inr hb)
  refine ⟨F, hl.frame (hu.same hl.lt (by simp)), hu0.trans hU, fun r hh => ?_⟩
  rcases List.mem_cons.1 hh with rfl | hh
  · refine ⟨E, hr, fun x hx hd => ?_⟩
    have := hl.lt x hd
    rcases hu.new x (hE x hx) with h | h
    · cases h
    · omega
  · exact (hr0.upd hU) r hh
theorem Sep.old {w0 w : World} {R : List Thing} {rows : List (Value × Bs)} {v : Value} {b : Bs} {E : List Nat} (h : Sep w0 w R rows) (hr : ReadRow w0 1 v (b.map bv) E) : Sep w0 w R ((v, b) :: rows) := by
  obtain ⟨F, hl, hu0, hr0⟩ := h
  refine ⟨F, hl, hu0, fun r hh => ?_⟩
  rcases List.mem_cons.1 hh with rfl | hh
  · refine ⟨E, hr.frame (hu0.same hr.lt (by simp)), fun x hx hd => ?_⟩
    rcases hu0.new x hd with h | h
    · cases h
    · have := hr.lt x hx; omega
  · exact hr0 r hh
theorem Sep.nil {w0 w : World} {R : List Thing} {rows : List (Value × Bs)} (h : Sep w0 w R rows) : Sep w0 w R ((.slice none 0 0, []) :: rows) :=
  h.row (D' := []) (Upd.refl w []) (E := []) ⟨none, 0, 0, rfl, by simp, Nat.le_refl _, by decide, fun _ => rfl, .inl ⟨by simp, rfl⟩⟩ (by simp)
theorem Sep.start (w : World) : Sep w w [] [] := ⟨[], .nil, Upd.refl _ _, fun r h => by cases h⟩
theorem Sep.cell {w0 w : World} {R : List Thing} {rows : List (Value × Bs)} (h : Sep w0 w R rows) {a : Addr} {v : Value} (hc : w0.cell? a = some v) : w.cell? a = some v := by
  have hb := h.below
  have hlt : a.block < w0.heap.size := by
    cases hh : w0.heap[a.block]? with
    | none => rw [World.cell?, hh] at hc; cases hc
    | some o => exact lt_of_heap hh
  rw [World.cell?_of_block (hb.block _ hlt)]; exact hc
end Go.Av

namespace Go.Av
open Go.RowKit
theorem Lie.perm {w : World} {A B : List Thing} (hp : A.Perm B) : ∀ {D : List Nat}, Lie w A D → ∃ E, Lie w B E ∧ ∀ x, x ∈ E ↔ x ∈ D := by
  induction hp with
  | nil => exact fun h => ⟨_, h, fun _ => .rfl⟩
  | cons a _ ih =>
    intro D h
    cases h with
    | cons h1 h2 h3 =>
      obtain ⟨E, hE, he⟩ := ih h3
      exact ⟨_, .cons h1 (fun x hx hm => h2 x hx ((he x).1 hm)) hE, fun x => by simp [he]⟩
  | swap a b l =>
    intro D h
    cases h with
    | @cons _ D _ E' h1 h2 h3 =>
      cases h3 with
      | @cons _ E _ G k1 k2 k3 =>
        refine ⟨E ++ (D ++ G), .cons k1 (fun x hx he => ?_) (.cons h1 (fun x hx he => h2 x hx (by simp [he])) k3), fun x => by simp only [List.mem_append]; exact ⟨fun h => by rcases h with h | h | h <;> simp [h], fun h => by rcases h with h | h | h <;> simp [h]⟩⟩
        rcases List.mem_append.1 he with he | he
        · exact h2 x he (by simp [hx])
        · exact k2 x hx he
  | trans _ _ ih1 ih2 =>
    intro D h
    obtain ⟨E, hE, he⟩ := ih1 h
    obtain ⟨G, hG, hg⟩ := ih2 hE
    exact ⟨G, hG, fun x => (hg x).trans (he x)⟩
theorem Sep.perm {w0 w : World} {A B : List Thing} {rows : List (Value × Bs)} (h : Sep w0 w A rows) (hp : A.Perm B) : Sep w0 w B rows := by
  obtain ⟨D, hl, hu, hr⟩ := h
  obtain ⟨E, hE, he⟩ := Lie.perm hp hl
  exact ⟨E, hE, hu.mono (by simp) (fun b hb => .inl ((he b).1 hb)), hr.sub (fun x hx => (he x).1 hx)⟩
def ThCell (b : Nat) (o : Obj) : Thing := ⟨fun w D => w.heap[b]? = some o ∧ D = [b], fun h hs => ⟨(hs _ (by simp [h.2])).trans h.1, h.2⟩, fun h x hx => by rw [h.2, List.mem_singleton] at hx; subst hx; exact lt_of_heap h.1⟩
theorem Lie.has {w : World} {A : List Thing} {D : List Nat} (h : Lie w A D) {T : Thing} (hT : T ∈ A) : ∃ E, T.P w E ∧ ∀ x ∈ E, x ∈ D := by
  induction h with
  | nil => cases hT
  | @cons _ D _ E h1 _ _ ih =>
    rcases List.mem_cons.1 hT with rfl | hT
    · exact ⟨D, h1, fun x hx => by simp [hx]⟩
    · obtain ⟨E', k1, k2⟩ := ih hT
      exact ⟨E', k1, fun x hx => by simp [k2 x hx]⟩
theorem Sep.has {w0 w : World} {A : List Thing} {rows : List (Value × Bs)} (h : Sep w0 w A rows) {T : Thing} (hT : T ∈ A) : ∃ E, T.P w E := by
  obtain ⟨D, hl, _⟩ := h
  obtain ⟨E, hE, _⟩ := hl.has hT
  exact ⟨E, hE⟩
theorem Sep.block {w0 w : World} {A : List Thing} {rows : List (Value × Bs)} (h : Sep w0 w A rows) {b : Nat} {o : Obj} (hT : ThCell b o ∈ A) : w.heap[b]? = some o := by
  obtain ⟨E, hE⟩ := h.has hT
  exact hE.1
theorem Sep.newCell {w0 w : World} {A : List Thing} {rows : List (Value × Bs)} (h : Sep w0 w A rows) (o : Obj) : Sep w0 (w.alloc o) (ThCell w.heap.size o :: A) rows :=
  h.add (Upd.alloc1 w o []) ⟨heap_alloc_new w o, rfl⟩
end Go.Av

namespace Go.Av
open Go.RowKit
def ThRow (size : Nat) (v : Value) (xs : List Value) : Thing := ⟨fun w D => OwnRow w size v xs D, fun h hs => h.frame hs, fun h => h.lt⟩
def ThMap (d : TypeDesc) (m : Nat) (l : List (Value × Value)) : Thing :=
  ⟨fun w D => MapIs w d m l ∧ D = [m], fun h hs => ⟨h.1.frame (hs _ (by simp [h.2])), h.2⟩, fun h x hx => by rw [h.2, List.mem_singleton] at hx; subst hx; exact h.1.lt⟩
section
variable {w0 w : World} {R : List Thing} {rows : List (Value × Bs)}
theorem Sep.fst {T : Thing} (h : Sep w0 w (T :: R) rows) : ∃ D, T.P w D := h.has k_s
theorem Sep.blk {b : Nat} {o : Obj} (h : Sep w0 w (ThCell b o :: R) rows) : w.heap[b]? = some o := h.block k_s
theorem Sep.set {b : Nat} {cs : Array Value} {T : TypeId} (h : Sep w0 w (ThCell b (.cells cs T (0, 0)) :: R) rows) (i : Nat) (v : Value) :
    Sep w0 (w.setCell ⟨b, i, none⟩ v) (ThCell b (.cells (cs.setIfInBounds i v) T (0, 0)) :: R) rows := by
  obtain ⟨D, hP, _, back⟩ := h.use
  obtain ⟨hb, rfl⟩ := hP
  exact back _ [b] (ThCell b (.cells (cs.setIfInBounds i v) T (0, 0))) (Upd.set1 _ _ _ _ (by simp)) ⟨heap_setCell_same w b i cs T v hb, rfl⟩
theorem Sep.to {T T' : Thing} (h : Sep w0 w (T :: R) rows) {w' : World} (hu : ∀ D, T.P w D → ∃ D', T'.P w' D' ∧ Upd w w' D D') : Sep w0 w' (T' :: R) rows := by
  obtain ⟨D, hP, _, back⟩ := h.use
  obtain ⟨D', h1, h2⟩ := hu D hP
  exact back _ _ T' h2 h1
theorem Sep.rowLen {size : Nat} {v : Value} {xs : List Value} (h : Sep w0 w (ThRow size v xs :: R) rows) : ∃ a n c, v = .slice a n c ∧ xs.length = n * size ∧ n ≤ c ∧ c ≤ maxLen := by
  obtain ⟨D, hP⟩ := h.fst
  obtain ⟨a, n, c, h1, h2, h3, h4, _⟩ := hP
  exact ⟨a, n, c, h1, h2, h3, h4⟩
theorem Sep.rowCell {a : Option Addr} {n c : Nat} {xs : List Value} (h : Sep w0 w (ThRow 1 (.slice a n c) xs :: R) rows) {i : Nat} {x : Value} (hx : xs[i]? = some x) :
    ∃ y : Addr, a = some y ∧ y.spot = none ∧ w.cell? (y.add i) = some x := by
  obtain ⟨D, hP⟩ := h.fst
  obtain ⟨a', n', c', hv, hl, hn, hc, ha, hr⟩ := hP
  cases hv
  rcases hr with ⟨hc0, _⟩ | ⟨g, off, cur, T, h1, h2, h3, h4, h5⟩
  · have : i < xs.length := (List.getElem?_eq_some_iff.1 hx).1
    omega
  · refine ⟨⟨g, off, none⟩, h1, rfl, ?_⟩
    rw [Addr.add_lit, cell_of_row w g (off + i) cur T _ h3]
    rw [← h5, List.getElem?_take] at hx
    split at hx
    · rw [List.getElem?_drop] at hx; simpa using hx
    · cases hx
theorem Sep.rowSet {y : Addr} {n c : Nat} {xs : List Value} (h : Sep w0 w (ThRow 1 (.slice (some y) n c) xs :: R) rows) {i : Nat} (hi : i < n) (v : Value) :
    w.frozen? (y.add i) = false ∧ y.spot = none ∧ (∃ u, w.cell? (y.add i) = some u) ∧ Sep w0 (w.setCell (y.add i) v) (ThRow 1 (.slice (some y) n c) (xs.set i v) :: R) rows := by
  obtain ⟨D, hP, _, back⟩ := h.use
  obtain ⟨a', n', c', hv, hl, hn, hc, ha, hr⟩ := hP
  cases hv
  rcases hr with ⟨hc0, _⟩ | ⟨g, off, cur, T, h1, h2, h3, h4, h5⟩
  · omega
  · cases h1
    subst h2
    rw [Addr.add_lit]
    have hsz : off + i < cur.size := by omega
    refine ⟨frz_of h3 _, rfl, ⟨cur[off + i], by rw [cell_of_row w g (off + i) cur T _ h3]; exact Array.getElem?_eq_getElem hsz⟩, ?_⟩
    refine back _ [g] (ThRow 1 (.slice (some ⟨g, off, none⟩) n c) (xs.set i v)) (Upd.set1 _ _ _ _ (by simp)) ⟨_, n, c, rfl, by simpa using hl, hn, hc, ha, .inr ⟨g, off, _, T, rfl, rfl, heap_setCell_same w g (off + i) cur T v h3, by simpa using h4, ?_⟩⟩
    rw [← h5, Array.toList_setIfInBounds]
    apply List.ext_getElem?
    intro k
    simp only [List.getElem?_take, List.getElem?_drop, List.getElem?_set, List.length_take, List.length_drop, Array.length_toList, Nat.mul_one, Array.getElem?_toList]
    have hm : i < min n (cur.size - off) := by omega
    by_cases hki : i = k
    · subst hki
      simp [hi, hsz, hm]
    · have : ¬ off + i = off + k := by omega
      simp [hki]
theorem Sep.addRow {v : Value} {xs : List Value} {size : Nat} {w' : World} {D : List Nat} (h : Sep w0 w R rows) (ho : OwnRow w' size v xs D) (hu : Upd w w' [] D) : Sep w0 w' (ThRow size v xs :: R) rows := h.add hu ho
theorem Sep.nilRow (size : Nat) (h : Sep w0 w R rows) : Sep w0 w (ThRow size (.slice none 0 0) [] :: R) rows := h.addRow (OwnRow.nil w size) (Upd.refl w [])
theorem Sep.mapIs {d : TypeDesc} {m : Nat} {l : List (Value × Value)} (h : Sep w0 w (ThMap d m l :: R) rows) : MapIs w d m l := by
  obtain ⟨D, hP⟩ := h.fst
  exact hP.1
theorem Sep.newMap (d : TypeDesc) (h : Sep w0 w R rows) : Sep w0 (w.alloc (.map #[] 0)) (ThMap d w.heap.size [] :: R) rows :=
  h.add (Upd.alloc1 w _ []) ⟨MapIs.made w d, rfl⟩
theorem Sep.mapTo {d : TypeDesc} {m : Nat} {l l' : List (Value × Value)} (h : Sep w0 w (ThMap d m l :: R) rows) {w' : World} (hu : Upd w w' [m] [m]) (hm : MapIs w' d m l') : Sep w0 w' (ThMap d m l' :: R) rows :=
  h.to fun D hP => ⟨[m], ⟨hm, rfl⟩, by rw [hP.2]; exact hu⟩
end
end Go.Av

namespace Go.Av
open Go.RowKit
def Bun (O : List Thing → Prop) : Thing :=
  ⟨fun w D => ∃ L, O L ∧ Lie w L D, fun h hs => by obtain ⟨L, h1, h2⟩ := h; exact ⟨L, h1, h2.frame hs⟩, fun h => by obtain ⟨L, h1, h2⟩ := h; exact h2.lt⟩
section
variable {w0 w : World} {R : List Thing} {rows : List (Value × Bs)}
theorem Sep.opens {O : List Thing → Prop} (h : Sep w0 w (Bun O :: R) rows) : ∃ L, O L ∧ Sep w0 w (L ++ R) rows := by
  obtain ⟨F, hl, hu, hr⟩ := h
  cases hl with
  | @cons _ D _ E h1 h2 h3 =>
    obtain ⟨L, hO, hL⟩ := h1
    exact ⟨L, hO, D ++ E, hL.append h3 h2, hu, hr⟩
theorem Sep.shut {O : List Thing → Prop} {L : List Thing} (hO : O L) (h : Sep w0 w (L ++ R) rows) : Sep w0 w (Bun O :: R) rows := by
  obtain ⟨F, hl, hu, hr⟩ := h
  obtain ⟨D, E, rfl, hA, hB, ha⟩ := hl.split
  exact ⟨D ++ E, .cons (T := Bun O) ⟨L, hO, hA⟩ ha hB, hu, hr⟩
theorem perm_pick : ∀ {A B : List Thing} {T : Thing} {i : Nat}, A[i]? = some T → A.eraseIdx i = B → (T :: B).Perm A
  | [], _, _, _, h, _ => by simp at h
  | a :: A, B, T, 0, h, e => by
    simp at h e
    subst h; subst e
    exact List.Perm.refl _
  | a :: A, B, T, i + 1, h, e => by
    simp at h e
    subst e
    exact (List.Perm.swap _ _ _).trans ((perm_pick h rfl).cons _)
theorem Sep.pick {A B : List Thing} {T : Thing} (h : Sep w0 w A rows) (i : Nat) (hT : A[i]? = some T) (hB : A.eraseIdx i = B) : Sep w0 w (T :: B) rows := h.perm (perm_pick hT hB).symm
theorem Sep.lay {A B : List Thing} {T : Thing} (h : Sep w0 w (T :: B) rows) (i : Nat) (hT : A[i]? = some T) (hB : A.eraseIdx i = B) : Sep w0 w A rows := h.perm (perm_pick hT hB)
theorem Sep.sub {A B : List Thing} (h : Sep w0 w (A ++ B) rows) : Sep w0 w B rows := by
  induction A with
  | nil => exact h
  | cons T A ih => exact ih h.drop
end
end Go.Av

namespace Go.Av
open Go.RowKit
abbrev PRow := Nat × Value × List Value
def ThPool (w0 : World) (P : List PRow) : Thing :=
  ⟨fun w D => (∀ b ∈ D, b < w.heap.size) ∧ ∀ r ∈ P, (∃ E, ReadRow w r.1 r.2.1 r.2.2 E ∧ ∀ b ∈ E, b ∈ D) ∨ ∃ E, ReadRow w0 r.1 r.2.1 r.2.2 E,
   fun {w w' D} h hs => ⟨fun b hb => by
      have h1 := h.1 b hb
      exact lt_of_heap (o := w.heap[b]) (by rw [hs b hb, Array.getElem?_eq_getElem h1]),
    fun r hr => by
      rcases h.2 r hr with ⟨E, h1, h2⟩ | h1
      · exact .inl ⟨E, h1.frame (fun b hb => hs b (h2 b hb)), h2⟩
      · exact .inr h1⟩,
   fun h => h.1⟩
section
variable {w0 w : World} {R : List Thing} {rows : List (Value × Bs)} {P Q : List PRow}
theorem Sep.poolNew (h : Sep w0 w R rows) : Sep w0 w (ThPool w0 [] :: R) rows :=
  h.add (D' := []) (Upd.refl w []) ⟨by simp, by simp⟩
theorem Sep.poolGet (h : Sep w0 w (ThPool w0 P :: R) rows) {r : PRow} (hr : r ∈ P) : ∃ E, ReadRow w r.1 r.2.1 r.2.2 E := by
  obtain ⟨D, hD⟩ := h.fst
  rcases hD.2 r hr with ⟨E, hE, -⟩ | ⟨E, hE⟩
  · exact ⟨E, hE⟩
  · exact ⟨E, hE.frame (fun b hb => h.below.block b (hE.lt b hb))⟩
theorem Sep.poolOld {K : Nat} {v : Value} {xs : List Value} {E : List Nat} (h : Sep w0 w (ThPool w0 P :: R) rows) (hr : ReadRow w0 K v xs E) : Sep w0 w (ThPool w0 ((K, v, xs) :: P) :: R) rows := by
  obtain ⟨F, hl, hu, hrr⟩ := h
  cases hl with
  | @cons _ D _ G h1 h2 h3 =>
    refine ⟨D ++ G, .cons ⟨h1.1, fun r hr' => ?_⟩ h2 h3, hu, hrr⟩
    rcases List.mem_cons.1 hr' with rfl | hr'
    · exact .inr ⟨E, hr⟩
    · exact h1.2 r hr'
theorem Sep.poolRow {K : Nat} {v : Value} {xs : List Value} (h : Sep w0 w (ThRow K v xs :: ThPool w0 P :: R) rows) : Sep w0 w (ThPool w0 ((K, v, xs) :: P) :: R) rows := by
  obtain ⟨F, hl, hu, hr⟩ := h
  cases hl with
  | @cons _ D _ _ h1 h2 h3 =>
    cases h3 with
    | @cons _ E _ G k1 k2 k3 =>
      obtain ⟨X, hX, hXD⟩ := OwnRow.read h1
      refine ⟨(D ++ E) ++ G, .cons ⟨fun b hb => ?_, fun r hr => ?_⟩ (fun x hx he => ?_) k3, hu.mono (by simp) (fun b hb => .inl (by simpa [List.append_assoc] using hb)), hr.sub (fun x hx => by simpa [List.append_assoc] using hx)⟩
      · rcases List.mem_append.1 hb with hb | hb
        · exact h1.lt b hb
        · exact k1.1 b hb
      · rcases List.mem_cons.1 hr with rfl | hr
        · exact .inl ⟨X, hX, fun b hb => by simp [hXD b hb]⟩
        · rcases k1.2 r hr with ⟨Y, hY, hYE⟩ | hY
          · exact .inl ⟨Y, hY, fun b hb => by simp [hYE b hb]⟩
          · exact .inr hY
      · rcases List.mem_append.1 hx with hx | hx
        · exact h2 x hx (by simp [he])
        · exact k2 x hx he
theorem Sep.poolNil (h : Sep w0 w (ThPool w0 P :: R) rows) (K : Nat) : Sep w0 w (ThPool w0 ((K, .slice none 0 0, []) :: P) :: R) rows :=
  (h.nilRow K).poolRow
theorem Sep.imp {T T' : Thing} (h : Sep w0 w (T :: R) rows) (hi : ∀ D, T.P w D → T'.P w D) : Sep w0 w (T' :: R) rows := by
  obtain ⟨F, hl, hu, hr⟩ := h
  cases hl with
  | @cons _ D _ E h1 h2 h3 => exact ⟨D ++ E, .cons (hi _ h1) h2 h3, hu, hr⟩
end
end Go.Av

namespace Go.Av
open Go.RowKit
theorem results_cell1 {fn : Func} {p : Tmp} {ty : TypeId} (h : fn.results = #[.cell p ty]) (tmps : Array Value) (P : Program) (w : World) :
    (results fn tmps).run P w =
      ((asAddr (tmps.getD p undef)).run P w).andThen fun a w₁ => (loadVar ty a).run P w₁ := by
  simp only [results, h]
  simp [Sem.run_bind, Result.andThen]
theorem ret_cell {fn : Func} {p : Tmp} {ty : TypeId} (h : fn.results = #[.cell p ty]) (tmps : Array Value) {P : Program} {w : World} {b : Nat} {c : Array Value} {T : TypeId} {fs : Array Field}
    (hp : tmps.getD p undef = .pointer (some ⟨b, 0, none⟩)) (hb : w.heap[b]? = some (.cells c T (0, 0))) (hu : P.underlying ty = some (.struct fs)) (hi : (P.info? ty).map (·.size) = some c.size) :
    (results fn tmps).run P w = .ok (.agg c) w := by
  have := run_loadVar_row (P := P) w b T ty c (0, 0) (.struct fs) hb hu rfl hi
  have e : (asAddr (tmps.getD p undef)).run P w = .ok ⟨b, 0, none⟩ w := by rw [hp]; rfl
  rw [results_cell1 h, e]
  simp only [Result.andThen, this]
theorem ret_cell2 {fn : Func} {p u : Tmp} {ty : TypeId} (h : fn.results = #[.cell p ty, .tmp u]) (tmps : Array Value) {P : Program} {w : World} {b : Nat} {c : Array Value} {T : TypeId} {fs : Array Field}
    (hp : tmps.getD p undef = .pointer (some ⟨b, 0, none⟩)) (hb : w.heap[b]? = some (.cells c T (0, 0))) (hu : P.underlying ty = some (.struct fs)) (hi : (P.info? ty).map (·.size) = some c.size) :
    (results fn tmps).run P w = .ok (.tuple #[.agg c, tmps.getD u undef]) w := by
  have := run_loadVar_row (P := P) w b T ty c (0, 0) (.struct fs) hb hu rfl hi
  have e : (asAddr (tmps.getD p undef)).run P w = .ok ⟨b, 0, none⟩ w := by rw [hp]; rfl
  rw [results_cell_tmp h, e]
  simp only [Result.andThen, this]
theorem Sep.setAll {w0 w : World} {R : List Thing} {rows : List (Value × Bs)} {b : Nat} {cs : Array Value} {T : TypeId} (h : Sep w0 w (ThCell b (.cells cs T (0, 0)) :: R) rows) (vs : List Value) (hl : vs.length = cs.size) :
    Sep w0 (w.setCells b 0 vs) (ThCell b (.cells vs.toArray T (0, 0)) :: R) rows := by
  obtain ⟨D, hP, _, back⟩ := h.use
  obtain ⟨hb, rfl⟩ := hP
  obtain ⟨h1, h2, h3⟩ := rest_setCells b vs 0 w
  refine back _ [b] (ThCell b (.cells vs.toArray T (0, 0))) ⟨h1, h2, h3, by rw [size_setCells]; exact Nat.le_refl _, fun k _ hn => heap_setCells_other b k (fun e => hn (by simp [e])) vs 0 w, fun k hk => .inl hk⟩ ⟨?_, rfl⟩
  rw [heap_setCells_same b T vs 0 w cs hb (by omega)]
  simp [hl]
end Go.Av

namespace Go.Av
section
variable {P : Program} {ops : Array Oper} {Q : Exit → Act → World → Prop} {md : Region.Mode} {S : World → Prop}
def wpAnyM (P : Program) (md : Region.Mode) (ops : Array Oper) (Q : Exit → Act → World → Prop) (S : World → Prop) (N : Nat) : Nat → Array Bool → Act → World → Prop
  | 0, listed, a, w => Region.ready md ops listed = [] ∧ Q .normal a w
  | fuel + 1, listed, a, w =>
    (Region.ready md ops listed = [] → Q .normal a w) ∧
    ∀ i ∈ Region.ready md ops listed, wpOp P ops Q i (fun a' w' => (i < N → S w → S w') ∧ wpAnyM P md ops Q S N fuel (listed.setIfInBounds i true) a' w') a w
theorem wpAny_of_M {N : Nat} : ∀ (fuel : Nat) (listed : Array Bool) (a : Act) (w : World), wpAnyM P md ops Q S N fuel listed a w → wpAny P md ops Q fuel listed a w
  | 0, _, _, _, h => h
  | fuel + 1, _, _, _, h => ⟨h.1, fun i hi => wpOp_mono (fun a' w' h' => wpAny_of_M fuel _ a' w' h'.2) (h.2 i hi)⟩
theorem ready_unlisted {listed : Array Bool} {i : Nat} (h : i ∈ Region.ready md ops listed) : listed.getD i true = false := (mem_ready.1 h).1
theorem wpAnyM_of_any {N : Nat} : ∀ (fuel : Nat) (listed : Array Bool) (a : Act) (w : World), (∀ i, i < N → listed.getD i true = true) → wpAny P md ops Q fuel listed a w → wpAnyM P md ops Q S N fuel listed a w
  | 0, _, _, _, _, h => h
  | fuel + 1, listed, _, _, hl, h => ⟨h.1, fun i hi => wpOp_mono (fun a' w' h' => ⟨fun hN => absurd (hl i hN) (by rw [ready_unlisted hi]; simp), wpAnyM_of_any fuel _ a' w' (fun j hj => by
        have := hl j hj
        by_cases hji : i = j
        · subst hji
          simp only [Array.getD_eq_getD_getElem?, Array.getElem?_setIfInBounds] at *
          by_cases hs : i < listed.size
          · simp [hs]
          · simp [show ¬ i < listed.size by omega]
        · rw [getD_set_ne true hji]; exact this) h'⟩) (h.2 i hi)⟩
def freeM (md : Region.Mode) (ops : Array Oper) (N : Nat) (listed : Array Bool) (i : Nat) : Bool :=
  match ops[i]? with
  | none => false
  | some oi => (List.range ops.size).all fun j => j == i || (listed.getD j true && decide (j < N)) || match ops[j]? with
      | some oj => oj.after.any (fun e => Region.binds md e && (e.on == i || (decide (N ≤ j) && decide (N ≤ e.on)))) || (oi.apart ops oj && decide (j < N))
      | none => true
theorem freeM_spec {N i : Nat} {oi : Oper} {listed : Array Bool} (hi : ops[i]? = some oi) (h : freeM md ops N listed i = true) (j : Nat) (oj : Oper)
    (hj : ops[j]? = some oj) (hne : j ≠ i) (hun : listed.getD j true = false) (hno : ∀ e ∈ oj.after, Region.binds md e = true → e.on ≠ i ∧ (N ≤ j → e.on < N)) :
    oi.apart ops oj = true ∧ j < N := by
  simp only [freeM, hi, List.all_eq_true, List.mem_range] at h
  have h1 := h j (Array.getElem?_eq_some_iff.1 hj).1
  simp only [hj, Bool.or_eq_true, beq_iff_eq, hne, false_or, hun, Bool.false_and, Bool.false_eq_true] at h1
  rcases h1 with h1 | h1
  · obtain ⟨e, he, hb⟩ := Array.any_eq_true'.1 h1
    simp only [Bool.and_eq_true, Bool.or_eq_true, beq_iff_eq, decide_eq_true_eq] at hb
    obtain ⟨n1, n2⟩ := hno e he hb.1
    rcases hb.2 with h2 | h2
    · exact absurd h2 n1
    · have := n2 h2.1; omega
  · simpa using h1
theorem wpAnyM_first {N i : Nat} {oi : Oper} {v : Value} (hi : ops[i]? = some oi) (hsel : ∀ (j : Nat) (o : Oper) cs b, ops[j]? = some o → o.op ≠ .select cs b)
    (hQ : ∀ c a w, Q (.panic c) (a.put oi.dst v) w → Q (.panic c) a w) :
    ∀ (fuel : Nat) (listed : Array Bool) (a : Act) (w : World),
      (∀ k, N ≤ k → listed.getD k false = false) →
      (∀ j oj, ops[j]? = some oj → j ≠ i → listed.getD j true = false → (∀ e ∈ oj.after, Region.binds md e = true → e.on ≠ i ∧ (N ≤ j → e.on < N)) → oi.apart ops oj = true ∧ j < N) →
      i ∈ Region.ready md ops listed → YieldsIf P ops S oi v a → S w →
      wpAnyM P md ops Q S N fuel (listed.setIfInBounds i true) (a.put oi.dst v) w → wpAnyM P md ops Q S N (fuel + 1) listed a w := by
  intro fuel
  induction fuel with
  | zero =>
    intro listed a w _ _ hr hy hS H
    refine ⟨fun h => (by rw [h] at hr; cases hr), fun j hj => ?_⟩
    by_cases hji : j = i
    · subst hji; exact hy.wpOp hi hS ⟨fun _ h => h, H⟩
    · have := ready_mono hj hji
      rw [H.1] at this
      cases this
  | succ fuel ih =>
    intro listed a w hblk hfree hr hy hS H
    refine ⟨fun h => (by rw [h] at hr; cases hr), fun j hj => ?_⟩
    by_cases hji : j = i
    · subst hji; exact hy.wpOp hi hS ⟨fun _ h => h, H⟩
    · have h1 := H.2 j (ready_mono hj hji)
      obtain ⟨hjun, oj, hoj, hall⟩ := mem_ready.1 hj
      have hnot : ∀ e ∈ oj.after, Region.binds md e = true → e.on ≠ i ∧ (N ≤ j → e.on < N) := fun e he hb => by
        have h1 := hall e he hb
        have h0 := (mem_ready.1 hr).1
        refine ⟨fun heq => ?_, fun _ => ?_⟩
        · rw [heq] at h1
          rcases Nat.lt_or_ge i listed.size with h' | h'
          · simp [h'] at h0 h1; rw [h0] at h1; cases h1
          · simp [Array.getElem?_eq_none h'] at h1
        · rcases Nat.lt_or_ge e.on N with h' | h'
          · exact h'
          · rw [hblk _ h'] at h1; cases h1
      obtain ⟨hap, hjN⟩ := hfree j oj hoj hji hjun hnot
      have h2 := wpOp_putIf hoj hap (fun cs b => hsel i oi cs b hi) (fun cs b => hsel j oj cs b hoj) hQ hy h1
      have hfree' : ∀ k ok, ops[k]? = some ok → k ≠ i → (listed.setIfInBounds j true).getD k true = false →
          (∀ e ∈ ok.after, Region.binds md e = true → e.on ≠ i ∧ (N ≤ k → e.on < N)) → oi.apart ops ok = true ∧ k < N := fun k ok hk hki hun hno => by
        refine hfree k ok hk hki ?_ hno
        by_cases hjk : j = k
        · subst hjk; exact hjun
        · rw [getD_set_ne true hjk] at hun; exact hun
      have hblk' : ∀ k, N ≤ k → (listed.setIfInBounds j true).getD k false = false := fun k hk => by
        rw [getD_set_ne false (by omega)]; exact hblk k hk
      refine wpOp_mono (fun a' w' h3 => ⟨h3.2.1, ih (listed.setIfInBounds j true) a' w' hblk' hfree' (ready_mono hr (Ne.symm hji)) h3.1 (h3.2.1 hjN hS) ?_⟩) h2
      rw [Array.setIfInBounds_comm _ _ hji]
      exact h3.2.2
theorem wpAnyM_firstP {N i : Nat} {oi : Oper} {v : Value} (hi : ops[i]? = some oi) (hsel : ∀ (j : Nat) (o : Oper) cs b, ops[j]? = some o → o.op ≠ .select cs b)
    (hQ : ∀ c a w, Q (.panic c) (a.put oi.dst v) w → Q (.panic c) a w) :
    ∀ (fuel : Nat) (listed : Array Bool) (a : Act) (w : World),
      (∀ j oj, ops[j]? = some oj → j ≠ i → listed.getD j true = false → (∀ e ∈ oj.after, Region.binds md e = true → e.on ≠ i) → oi.apart ops oj = true) →
      i ∈ Region.ready md ops listed → YieldsIf P ops (fun _ => True) oi v a →
      wpAnyM P md ops Q S N fuel (listed.setIfInBounds i true) (a.put oi.dst v) w → wpAnyM P md ops Q S N (fuel + 1) listed a w := by
  intro fuel
  induction fuel with
  | zero =>
    intro listed a w _ hr hy H
    refine ⟨fun h => (by rw [h] at hr; cases hr), fun j hj => ?_⟩
    by_cases hji : j = i
    · subst hji; exact hy.wpOp hi trivial ⟨fun _ h => h, H⟩
    · have := ready_mono hj hji
      rw [H.1] at this
      cases this
  | succ fuel ih =>
    intro listed a w hfree hr hy H
    refine ⟨fun h => (by rw [h] at hr; cases hr), fun j hj => ?_⟩
    by_cases hji : j = i
    · subst hji; exact hy.wpOp hi trivial ⟨fun _ h => h, H⟩
    · have h1 := H.2 j (ready_mono hj hji)
      obtain ⟨hjun, oj, hoj, hall⟩ := mem_ready.1 hj
      have hnot : ∀ e ∈ oj.after, Region.binds md e = true → e.on ≠ i := fun e he hb heq => by
        have h1 := hall e he hb
        have h0 := (mem_ready.1 hr).1
        rw [heq] at h1
        rcases Nat.lt_or_ge i listed.size with h' | h'
        · simp [h'] at h0 h1; rw [h0] at h1; cases h1
        · simp [Array.getElem?_eq_none h'] at h1
      have h2 := wpOp_putIf hoj (hfree j oj hoj hji hjun hnot) (fun cs b => hsel i oi cs b hi) (fun cs b => hsel j oj cs b hoj) hQ hy h1
      have hfree' : ∀ k ok, ops[k]? = some ok → k ≠ i → (listed.setIfInBounds j true).getD k true = false →
          (∀ e ∈ ok.after, Region.binds md e = true → e.on ≠ i) → oi.apart ops ok = true := fun k ok hk hki hun hno => by
        refine hfree k ok hk hki ?_ hno
        by_cases hjk : j = k
        · subst hjk; exact hjun
        · rw [getD_set_ne true hjk] at hun; exact hun
      refine wpOp_mono (fun a' w' h3 => ⟨h3.2.1, ih (listed.setIfInBounds j true) a' w' hfree' (ready_mono hr (Ne.symm hji)) h3.1 ?_⟩) h2
      rw [Array.setIfInBounds_comm _ _ hji]
      exact h3.2.2
def YieldAll (P : Program) (ops : Array Oper) (S : World → Prop) : List (Nat × Bool) → Act → Act → Prop
  | [], a, A => a = A
  | (i, true) :: r, a, A => ∃ o v a', ops[i]? = some o ∧ YieldsIf P ops S o v a ∧ a' = a.put o.dst v ∧ YieldAll P ops S r a' A
  | (i, false) :: r, a, A => ∃ o v a', ops[i]? = some o ∧ YieldsIf P ops (fun _ => True) o v a ∧ a' = a.put o.dst v ∧ YieldAll P ops S r a' A
theorem yieldL {i : Nat} {r : List (Nat × Bool)} {a A a' : Act} {o : Oper} {v : Value} (ho : ops[i]? = some o) (hw : Region.wanted o (yielded ops a.tmps) = true) (hy : ∀ w, S w → (execOp a.eval o).run P w = .ok (.value v) w)
    (ha : a' = a.put o.dst v) (hr : YieldAll P ops S r a' A) : YieldAll P ops S ((i, true) :: r) a A := ⟨o, v, a', ho, .inl ⟨hw, hy⟩, ha, hr⟩
theorem yieldP {i : Nat} {r : List (Nat × Bool)} {a A a' : Act} {o : Oper} {v : Value} (ho : ops[i]? = some o) (hw : Region.wanted o (yielded ops a.tmps) = true) (hy : ∀ w : World, (execOp a.eval o).run P w = .ok (.value v) w)
    (ha : a' = a.put o.dst v) (hr : YieldAll P ops S r a' A) : YieldAll P ops S ((i, false) :: r) a A := ⟨o, v, a', ho, .inl ⟨hw, fun w _ => hy w⟩, ha, hr⟩
theorem yieldN {i : Nat} {r : List (Nat × Bool)} {a A a' : Act} {o : Oper} {b : Bool} (ho : ops[i]? = some o) (hw : Region.wanted o (yielded ops a.tmps) = false)
    (ha : a' = a.put o.dst undef) (hr : YieldAll P ops S r a' A) : YieldAll P ops S ((i, b) :: r) a A := by
  cases b
  · exact ⟨o, undef, a', ho, .inr ⟨hw, rfl⟩, ha, hr⟩
  · exact ⟨o, undef, a', ho, .inr ⟨hw, rfl⟩, ha, hr⟩
def blkOK (n N : Nat) (listed : Array Bool) : Bool := (List.range n).all fun k => decide (k < N) || !listed.getD k false
theorem blkOK_spec {N : Nat} {listed : Array Bool} (h : blkOK listed.size N listed = true) : ∀ k, N ≤ k → listed.getD k false = false := by
  intro k hk
  rcases Nat.lt_or_ge k listed.size with hl | hl
  · simp only [blkOK, List.all_eq_true, List.mem_range, Bool.or_eq_true, decide_eq_true_eq] at h
    rcases h k hl with h | h
    · omega
    · simpa using h
  · simp [Array.getElem?_eq_none hl]
def takesOK (md : Region.Mode) (ops : Array Oper) (N : Nat) : List (Nat × Bool) → Array Bool → Bool
  | [], _ => true
  | (i, true) :: r, listed => (blkOK listed.size N listed && freeM md ops N listed i) && ((Region.ready md ops listed).contains i && takesOK md ops N r (listed.setIfInBounds i true))
  | (i, false) :: r, listed => Region.free md ops listed i && ((Region.ready md ops listed).contains i && takesOK md ops N r (listed.setIfInBounds i true))
def listAll : List (Nat × Bool) → Array Bool → Array Bool
  | [], l => l
  | i :: r, l => listAll r (l.setIfInBounds i.1 true)
theorem wpAnyM_takes {N : Nat} (hs : Region.noSelect ops = true) (hQ : ∀ c a (d : Option Tmp) v w, Q (.panic c) (a.put d v) w → Q (.panic c) a w) :
    ∀ (l : List (Nat × Bool)) {fuel : Nat} {listed : Array Bool} {a A : Act} {w : World}, takesOK md ops N l listed = true → YieldAll P ops S l a A → S w →
      wpAnyM P md ops Q S N fuel (listAll l listed) A w → wpAnyM P md ops Q S N (fuel + l.length) listed a w
  | [], _, _, _, _, _, _, hy, _, h => by cases hy; exact h
  | (i, true) :: r, fuel, listed, a, A, w, hok, hy, hS, h => by
    obtain ⟨o, v, a', ho, hyi, rfl, hyr⟩ := hy
    simp only [takesOK, Bool.and_eq_true] at hok
    exact wpAnyM_first ho (Region.noSelect_spec hs) (fun c a w => hQ c a o.dst v w) (fuel + r.length) listed a w (blkOK_spec hok.1.1) (fun j oj hj hne hun hno => freeM_spec ho hok.1.2 j oj hj hne hun hno) (by simpa using hok.2.1) hyi hS
      (wpAnyM_takes hs hQ r hok.2.2 hyr hS h)
  | (i, false) :: r, fuel, listed, a, A, w, hok, hy, hS, h => by
    obtain ⟨o, v, a', ho, hyi, rfl, hyr⟩ := hy
    simp only [takesOK, Bool.and_eq_true] at hok
    exact wpAnyM_firstP ho (Region.noSelect_spec hs) (fun c a w => hQ c a o.dst v w) (fuel + r.length) listed a w (Region.free_spec ho hok.1) (by simpa using hok.2.1) hyi
      (wpAnyM_takes hs hQ r hok.2.2 hyr hS h)
theorem wpAnyM_take {N : Nat} (hs : Region.noSelect ops = true) (hQ : ∀ c a (d : Option Tmp) v w, Q (.panic c) (a.put d v) w → Q (.panic c) a w)
    (l : List (Nat × Bool)) {fuel : Nat} {listed : Array Bool} {a : Act} {w : World} (hok : takesOK md ops N l listed = true) (h : ∃ A, YieldAll P ops S l a A ∧ S w ∧ wpAnyM P md ops Q S N fuel (listAll l listed) A w) :
    wpAnyM P md ops Q S N (fuel + l.length) listed a w := by
  obtain ⟨A, hy, hS, h⟩ := h
  exact wpAnyM_takes hs hQ l hok hy hS h
def forced (md : Region.Mode) (ops : Array Oper) : List Nat → Array Bool → Bool
  | [], listed => Region.ready md ops listed == []
  | i :: r, listed => Region.ready md ops listed == [i] && (ops[i]?).isSome && forced md ops r (listed.setIfInBounds i true)
theorem wpAny_list : ∀ (l : List Nat) {fuel : Nat} {listed : Array Bool} {a : Act} {w : World}, forced md ops l listed = true → wpList P ops Q (l.filterMap (ops[·]?)) a w → wpAny P md ops Q (fuel + l.length) listed a w
  | [], fuel, _, _, _, hf, h => by
    simp only [forced, beq_iff_eq] at hf
    exact wpAny_done hf h _
  | i :: r, fuel, listed, a, w, hf, h => by
    simp only [forced, Bool.and_eq_true, beq_iff_eq] at hf
    obtain ⟨o, ho⟩ := Option.isSome_iff_exists.1 hf.1.2
    refine ⟨fun h0 => (by rw [hf.1.1] at h0; cases h0), fun j hj => ?_⟩
    rw [hf.1.1] at hj
    obtain rfl : j = i := by simpa using hj
    simp only [List.filterMap_cons, ho] at h
    unfold wpList at h
    unfold wpOp
    simp only [ho]
    by_cases hw : Region.wanted o (yielded ops a.tmps) = true
    · rw [if_pos hw] at h ⊢
      exact h.imp (Oper.wp_mono fun a' w' h' => wpAny_list r hf.2 h') id
    · rw [if_neg hw] at h ⊢
      exact wpAny_list r hf.2 h
theorem wpAnyM_one {N i : Nat} {o : Oper} {fuel : Nat} {listed : Array Bool} {a : Act} {w : World} (hr : Region.ready md ops listed = [i]) (ho : ops[i]? = some o)
    (h : ∀ K : Act → World → Prop, (∀ a' w', S w' → wpAnyM P md ops Q S N fuel (listed.setIfInBounds i true) a' w' → K a' w') → wpList P ops (Exit.then K Q) [o] a w) : wpAnyM P md ops Q S N (fuel + 1) listed a w := by
  refine ⟨fun h0 => (by rw [hr] at h0; cases h0), fun j hj => ?_⟩
  rw [hr] at hj
  obtain rfl : j = i := by simpa using hj
  have h := h (fun a' w' => (j < N → S w → S w') ∧ wpAnyM P md ops Q S N fuel (listed.setIfInBounds j true) a' w') (fun a' w' h1 h2 => ⟨fun _ _ => h1, h2⟩)
  unfold wpList at h
  unfold wpOp
  simp only [ho]
  by_cases hw : Region.wanted o (yielded ops a.tmps) = true
  · rw [if_pos hw] at h ⊢
    rcases h with h | ⟨h1, h2⟩
    · refine .inl ?_
      unfold Oper.wp at h ⊢
      generalize (execOp a.eval o).run P w = r at h ⊢
      cases r with
      | ok n w' =>
        cases n <;> simp only [Oper.upon, wpList, Exit.then] at h ⊢
        case value => exact h
        case skip => exact h
        case defer => exact h
        case enter =>
          refine Calls.mono h fun e w'' he => ?_
          cases e with
          | returned v => exact he
          | panicked c => exact he
          | outgrown => exact he
        case row => exact h
      | halt x w' => cases x <;> simp only [Oper.upon, Exit.then] at h ⊢ <;> exact h
    · exact .inr ⟨h1, h2⟩
  · rw [if_neg hw] at h ⊢
    exact h
theorem wpAnyM_done {N : Nat} {listed : Array Bool} {a : Act} {w : World} (hr : Region.ready md ops listed = []) (h : Q .normal a w) :
    ∀ fuel, wpAnyM P md ops Q S N fuel listed a w
  | 0 => ⟨hr, h⟩
  | _ + 1 => ⟨fun _ => h, by rw [hr]; simp⟩
theorem wp_region_M (S : World → Prop) (N : Nat) {id : Nat} {a : Act} {w : World} (hm : P.follows .mixedOrders = true)
    (h : wpAnyM P .any ops Q S N ops.size (Array.replicate ops.size false) a w.drew) : (Code.region id ops true).wp P Q a w :=
  wp_region_any hm (wpAny_of_M _ _ _ _ h)
end
end Go.Av

namespace Go.Av
open Go.RowKit
inductive Rep (T T' : Thing) : List Thing → List Thing → Prop
  | here {R : List Thing} : Rep T T' (T :: R) (T' :: R)
  | there {U : Thing} {R R' : List Thing} : Rep T T' R R' → Rep T T' (U :: R) (U :: R')
theorem Rep.out {T T' : Thing} {A B : List Thing} (h : Rep T T' A B) : ∃ X, A.Perm (T :: X) ∧ (T' :: X).Perm B := by
  induction h with
  | here => exact ⟨_, .refl _, .refl _⟩
  | there _ ih =>
    obtain ⟨X, h1, h2⟩ := ih
    exact ⟨_ :: X, (h1.cons _).trans (.swap _ _ _), (List.Perm.swap _ _ _).trans (h2.cons _)⟩
theorem Rep.mem {T T' : Thing} {A B : List Thing} (h : Rep T T' A B) : T ∈ A := by
  induction h with
  | here => exact k_s
  | there _ ih => exact k_n _ ih
section
variable {w0 w : World} {Ts Ts' R : List Thing} {rows : List (Value × Bs)}
theorem Sep.rep {T T' : Thing} (h : Sep w0 w Ts rows) (hr : Rep T T' Ts Ts') {w' : World} (hu : ∀ D, T.P w D → ∃ D', T'.P w' D' ∧ Upd w w' D D') : Sep w0 w' Ts' rows := by
  obtain ⟨X, h1, h2⟩ := hr.out
  exact ((h.perm h1).to hu).perm h2
theorem Sep.mem {T : Thing} (h : Sep w0 w Ts rows) (hm : T ∈ Ts) : ∃ D, T.P w D := h.has hm
theorem sel_perm : ∀ (idx : List Nat) (A B : List Thing), idx.map (A[·]?) = B.map some → idx.Nodup → ∃ X, A.Perm (B ++ X)
  | [], A, B, h, _ => by
    cases B with
    | nil => exact ⟨A, .refl _⟩
    | cons b B => cases h
  | i :: idx, A, B, h, hn => by
    cases B with
    | nil => cases h
    | cons b B =>
      simp only [List.map_cons, List.cons.injEq] at h
      obtain ⟨hi, hr⟩ := h
      rw [List.nodup_cons] at hn
      have hlt : i < A.length := (List.getElem?_eq_some_iff.1 hi).1
      have hrr : (idx.map fun j => if j < i then j else j - 1).map ((A.eraseIdx i)[·]?) = B.map some := by
        rw [← hr, List.map_map]
        apply List.map_congr_left
        intro j hj
        have hne : j ≠ i := fun e => hn.1 (e ▸ hj)
        simp only [Function.comp]
        rw [List.getElem?_eraseIdx]
        by_cases hji : j < i
        · rw [if_pos hji, if_pos hji]
        · rw [if_neg hji, if_neg (by omega)]
          congr 1; omega
      have hnn : (idx.map fun j => if j < i then j else j - 1).Nodup := by
        have h1 : idx.Pairwise (fun j k => j ≠ k ∧ j ≠ i ∧ k ≠ i) := List.Pairwise.imp_of_mem (fun hj hk hjk => ⟨hjk, fun e => hn.1 (e ▸ hj), fun e => hn.1 (e ▸ hk)⟩) hn.2
        refine List.pairwise_map.2 (List.Pairwise.imp ?_ h1)
        intro j k ⟨h1, h2, h3⟩
        split <;> split <;> omega
      obtain ⟨X, hX⟩ := sel_perm _ _ _ hrr hnn
      exact ⟨X, (perm_pick hi rfl).symm.trans (hX.cons b)⟩
theorem Lie.left {w : World} {A B : List Thing} {D : List Nat} (h : Lie w (A ++ B) D) : ∃ E, Lie w A E ∧ ∀ b ∈ E, b ∈ D := by
  obtain ⟨D1, E1, rfl, hA, hB, _⟩ := h.split
  exact ⟨D1, hA, fun b hb => by simp [hb]⟩
theorem Sep.take {A B : List Thing} (h : Sep w0 w (A ++ B) rows) : Sep w0 w A rows := by
  obtain ⟨D, hl, hu, hr⟩ := h
  obtain ⟨E, hE, hsub⟩ := hl.left
  exact ⟨E, hE, hu.mono (by simp) (fun b hb => .inl (hsub b hb)), hr.sub hsub⟩
theorem Sep.up1 {x0 x1 : Thing} {R : List Thing} (hh : Sep w0 w (x0 :: x1 :: R) rows) : Sep w0 w (x1 :: x0 :: R) rows := hh.pick 1 rfl rfl
theorem Sep.cut1 {x0 x1 : Thing} {R : List Thing} (hh : Sep w0 w (x0 :: x1 :: R) rows) : Sep w0 w (x0 :: R) rows := (hh.pick 1 rfl rfl).drop
theorem Sep.up2 {x0 x1 x2 : Thing} {R : List Thing} (hh : Sep w0 w (x0 :: x1 :: x2 :: R) rows) : Sep w0 w (x2 :: x0 :: x1 :: R) rows := hh.pick 2 rfl rfl
theorem Sep.cut2 {x0 x1 x2 : Thing} {R : List Thing} (hh : Sep w0 w (x0 :: x1 :: x2 :: R) rows) : Sep w0 w (x0 :: x1 :: R) rows := (hh.pick 2 rfl rfl).drop
theorem Sep.up3 {x0 x1 x2 x3 : Thing} {R : List Thing} (hh : Sep w0 w (x0 :: x1 :: x2 :: x3 :: R) rows) : Sep w0 w (x3 :: x0 :: x1 :: x2 :: R) rows := hh.pick 3 rfl rfl
theorem Sep.up4 {x0 x1 x2 x3 x4 : Thing} {R : List Thing} (hh : Sep w0 w (x0 :: x1 :: x2 :: x3 :: x4 :: R) rows) : Sep w0 w (x4 :: x0 :: x1 :: x2 :: x3 :: R) rows := hh.pick 4 rfl rfl
theorem Sep.up5 {x0 x1 x2 x3 x4 x5 : Thing} {R : List Thing} (hh : Sep w0 w (x0 :: x1 :: x2 :: x3 :: x4 :: x5 :: R) rows) : Sep w0 w (x5 :: x0 :: x1 :: x2 :: x3 :: x4 :: R) rows := hh.pick 5 rfl rfl
theorem Sep.up6 {x0 x1 x2 x3 x4 x5 x6 : Thing} {R : List Thing} (hh : Sep w0 w (x0 :: x1 :: x2 :: x3 :: x4 :: x5 :: x6 :: R) rows) : Sep w0 w (x6 :: x0 :: x1 :: x2 :: x3 :: x4 :: x5 :: R) rows := hh.pick 6 rfl rfl
theorem Sep.up7 {x0 x1 x2 x3 x4 x5 x6 x7 : Thing} {R : List Thing} (hh : Sep w0 w (x0 :: x1 :: x2 :: x3 :: x4 :: x5 :: x6 :: x7 :: R) rows) : Sep w0 w (x7 :: x0 :: x1 :: x2 :: x3 :: x4 :: x5 :: x6 :: R) rows := hh.pick 7 rfl rfl
theorem Sep.up8 {x0 x1 x2 x3 x4 x5 x6 x7 x8 : Thing} {R : List Thing} (hh : Sep w0 w (x0 :: x1 :: x2 :: x3 :: x4 :: x5 :: x6 :: x7 :: x8 :: R) rows) : Sep w0 w (x8 :: x0 :: x1 :: x2 :: x3 :: x4 :: x5 :: x6 :: x7 :: R) rows := hh.pick 8 rfl rfl
theorem Sep.up9 {x0 x1 x2 x3 x4 x5 x6 x7 x8 x9 : Thing} {R : List Thing} (hh : Sep w0 w (x0 :: x1 :: x2 :: x3 :: x4 :: x5 :: x6 :: x7 :: x8 :: x9 :: R) rows) : Sep w0 w (x9 :: x0 :: x1 :: x2 :: x3 :: x4 :: x5 :: x6 :: x7 :: x8 :: R) rows := hh.pick 9 rfl rfl
theorem Sep.back3x {a b c n t m l : Thing} {R : List Thing} (h : Sep w0 w (a :: b :: c :: n :: t :: m :: l :: R) rows) : Sep w0 w (n :: t :: m :: l :: a :: b :: c :: R) rows := h.perm (List.perm_append_comm (l₁ := [a, b, c]) (l₂ := [n, t, m, l]) |>.append_right R)
theorem Sep.back5x {a b c d e n t m l : Thing} {R : List Thing} (h : Sep w0 w (a :: b :: c :: d :: e :: n :: t :: m :: l :: R) rows) : Sep w0 w (n :: t :: m :: l :: a :: b :: c :: d :: e :: R) rows := h.perm (List.perm_append_comm (l₁ := [a, b, c, d, e]) (l₂ := [n, t, m, l]) |>.append_right R)
theorem Sep.pm {A B : List Thing} (h : Sep w0 w A rows) (n : Nat) (idx : List Nat) (h1 : idx.map ((A.take n)[·]?) = (B.take idx.length).map some) (h2 : B.drop idx.length = A.drop n) (hn : idx.Nodup := by decide) : Sep w0 w B rows := by
  obtain ⟨X, hX⟩ := sel_perm idx (A.take n) (B.take idx.length) h1 hn
  have e : A.Perm (B ++ X) := by
    have h3 : (A.take n ++ A.drop n).Perm ((B.take idx.length ++ X) ++ A.drop n) := hX.append_right _
    rw [List.take_append_drop, ← h2] at h3
    refine h3.trans ?_
    conv => rhs; rw [← List.take_append_drop idx.length B]
    rw [List.append_assoc, List.append_assoc]
    exact List.Perm.append_left _ List.perm_append_comm
  exact (h.perm e).take
end
def setMany (cs : Array Value) : Nat → List Value → Array Value
  | _, [] => cs
  | i, v :: r => setMany (cs.setIfInBounds i v) (i + 1) r
theorem setMany_eq : ∀ (vs : List Value) (cs : Array Value) (i : Nat), i + vs.length ≤ cs.size → setMany cs i vs = (cs.toList.take i ++ vs ++ cs.toList.drop (i + vs.length)).toArray
  | [], cs, i, _ => by simp [setMany]
  | v :: r, cs, i, h => by
    simp only [List.length_cons] at h
    unfold setMany
    rw [setMany_eq r _ _ (by simp; omega)]
    congr 1
    have e := list_seg_step cs.toList i v r (by simp at h ⊢; omega)
    simpa [Array.toList_setIfInBounds, Nat.add_assoc] using e
def scalarB (P : Program) (ty : TypeId) : Bool := match P.underlying ty with
  | some (.struct _) | some (.array _ _) => false
  | some _ => true
  | none => false
def structB (P : Program) (ty : TypeId) (n : Nat) : Bool := (match P.underlying ty with
  | some (.struct _) | some (.array _ _) => true
  | _ => false) && (match P.info? ty with | some i => i.size == n | none => false)
structure StructN (P : Program) (ty : TypeId) (n : Nat) : Prop where
  is : structB P ty n = true
def sizeB (P : Program) (ty : TypeId) (n : Nat) : Bool := match P.info? ty with | some i => i.size == n | none => false
def zeroB (P : Program) (ty : TypeId) (zs : Array Value) : Prop := ((P.info? ty).bind (·.zero)).map Value.cells = some zs
section
variable {P : Program} {w : World}
theorem run_load_scalar {ty : TypeId} {A : Addr} {v : Value} (hs : scalarB P ty = true) (hc : w.cell? A = some v) : (Instr.loadAt ty (.pointer (some A))).run P w = .ok v w := by
  unfold scalarB at hs
  cases hu : P.underlying ty with
  | none => simp [hu] at hs
  | some d =>
    have hagg : (isAgg ty).run P w = .ok false w := by
      unfold isAgg
      rw [Sem.run_bind, run_underlying hu w]
      rw [hu] at hs
      cases d <;> simp_all
    simp [Instr.loadAt, Instr.sureAddr, Sem.run_bind, loadVar, hagg, hc]
theorem run_load_struct {ty : TypeId} {b i : Nat} {cs : Array Value} {T : TypeId} {fr : Nat × Nat} {n : Nat} (hs : structB P ty n = true) (hb : w.heap[b]? = some (.cells cs T fr)) (hn : i + n ≤ cs.size) :
    (Instr.loadAt ty (.pointer (some ⟨b, i, none⟩))).run P w = .ok (.agg ((cs.toList.drop i).take n).toArray) w := by
  unfold structB at hs
  rw [Bool.and_eq_true] at hs
  obtain ⟨h1, h2⟩ := hs
  have hlen : ((cs.toList.drop i).take n).length = n := by simp; omega
  cases hi : P.info? ty with
  | none => simp [hi] at h2
  | some ii =>
    simp only [hi, beq_iff_eq] at h2
    cases hu : P.underlying ty with
    | none => simp [hu] at h1
    | some d =>
      refine run_loadAt_mid w b i ty _ d (fun j v hv => ?_) hu (by rw [hu] at h1; cases d <;> simp_all) (by rw [hi, hlen]; simpa using h2)
      rw [cell_of_row w b (i + j) cs T fr hb]
      rw [List.getElem?_take] at hv
      split at hv
      · rw [List.getElem?_drop] at hv; simpa using hv
      · cases hv
theorem run_store_cells {ty : TypeId} {b i : Nat} {cs : Array Value} {T : TypeId} {v : Value} (hs : sizeB P ty v.cells.size = true) (hb : w.heap[b]? = some (.cells cs T (0, 0))) (hn : i + v.cells.size ≤ cs.size) (h1 : v.cells.all (·.oneCell') = true) :
    (Instr.storeAt ty (.pointer (some ⟨b, i, none⟩)) v).run P w = .ok () (w.setCells b i v.cells.toList) := by
  unfold sizeB at hs
  cases hi : P.info? ty with
  | none => simp [hi] at hs
  | some ii =>
    simp only [hi, beq_iff_eq] at hs
    have := run_storeCells_cells (P := P) b i v.cells.toList 0 w (fun j hj => by
        rw [Nat.add_zero, cell_of_row w b (i + j) cs T (0, 0) hb]
        simp at hj
        rw [Array.getElem?_eq_getElem (by omega)]; rfl) (fun j hj => by rw [Nat.add_zero]; exact frz_of hb _)
      (fun v hv => (Array.all_eq_true_iff_forall_mem.1 h1) v (by simpa using hv))
    simp only [Nat.add_zero] at this
    simp [Instr.storeAt, Instr.sureAddr, Sem.run_bind, storeVar, sizeOf, typeInfo, hi, hs, this]
theorem run_alloc_zero {ty : TypeId} {zs : Array Value} (hz : zeroB P ty zs) : (Instr.alloc ty true (.tuple #[])).run P w = .ok (.pointer (some ⟨w.heap.size, 0, none⟩)) (w.alloc (.cells zs ty)) := by
  unfold zeroB at hz
  cases hi : P.info? ty with
  | none => simp [hi] at hz
  | some ii =>
    simp only [hi, Option.bind_some] at hz
    cases hzz : ii.zero with
    | none => simp [hzz] at hz
    | some z =>
      simp only [hzz, Option.map_some, Option.some.injEq] at hz
      subst hz
      simp [Instr.alloc, Sem.run_bind, zeroValue, typeInfo, hi, hzz, newVar, newRow]
end
theorem drop_cell {cs : Array Value} {i : Nat} {v : Value} {tl : List Value} (h : cs.toList.drop i = v :: tl) : cs[i]? = some v := by
  have h1 : (cs.toList.drop i)[0]? = some v := by rw [h]; rfl
  rw [List.getElem?_drop] at h1
  simpa using h1
section
variable {P : Program} {ops : Array Oper} {Q : Exit → Act → World → Prop} {a : Act} {w w0 : World} {rest : List Oper} {Ts Ts' : List Thing} {rows : List (Value × Bs)}
  {dst : Option Tmp} {ty tyy : TypeId} {x y : Operand} {pos : String} {aft : Array Edge} {g : Option (Nat × Bool)} {b i : Nat} {cs : Array Value} {T : TypeId} {v : Value}
theorem wpList_ran {o : Oper} {w' : World} (hw : Region.wanted o (yielded ops a.tmps) = true) (hr : (execOp a.eval o).run P w = .ok (.value v) w') (k : wpList P ops Q rest (a.put o.dst v) w') : wpList P ops Q (o :: rest) a w := by
  unfold wpList
  rw [if_pos hw]
  refine .inl ?_
  unfold Oper.wp
  rw [hr, Oper.upon_value]
  exact k
theorem wpList_did {o : Oper} {w' : World} (hw : Region.wanted o (yielded ops a.tmps) = true) (hr : (execOp a.eval o).run P w = .ok .skip w') (k : wpList P ops Q rest (a.put o.dst undef) w') : wpList P ops Q (o :: rest) a w := by
  unfold wpList
  rw [if_pos hw]
  refine .inl ?_
  unfold Oper.wp
  rw [hr, Oper.upon_skip]
  exact k
theorem run_val {s : Sem Value} {w' : World} (h : s.run P w = .ok v w') : (do pure (Next.value (← s)) : Sem Next).run P w = .ok (.value v) w' := by
  simp [Sem.run_bind, h]
theorem sx_load (H : Hid (Sep w0 w Ts rows)) (hx : a.eval x = .pointer (some ⟨b, i, none⟩)) (hw : Region.wanted ⟨dst, .load ty x, tyy, pos, aft, g⟩ (yielded ops a.tmps) = true) (hs : scalarB P ty = true) (hm : ThCell b (.cells cs T (0, 0)) ∈ Ts)
    {tl : List Value} (hv : cs.toList.drop i = v :: tl) (k : wpList P ops Q rest (a.put dst v) w) : wpList P ops Q (⟨dst, .load ty x, tyy, pos, aft, g⟩ :: rest) a w := by
  refine wpList_ran hw ?_ k
  unfold execOp
  dsimp only
  rw [hx]
  exact run_val (run_load_scalar hs (cell_of (Sep.block H hm) i (drop_cell hv)))
theorem sx_loadS (H : Hid (Sep w0 w Ts rows)) (hx : a.eval x = .pointer (some ⟨b, i, none⟩)) (hw : Region.wanted ⟨dst, .load ty x, tyy, pos, aft, g⟩ (yielded ops a.tmps) = true) {n : Nat} (hs : StructN P ty n) (hm : ThCell b (.cells cs T (0, 0)) ∈ Ts)
    (hn : Nat.ble (i + n) cs.size = true) (k : wpList P ops Q rest (a.put dst (.agg ((cs.toList.drop i).take n).toArray)) w) : wpList P ops Q (⟨dst, .load ty x, tyy, pos, aft, g⟩ :: rest) a w := by
  refine wpList_ran hw ?_ k
  unfold execOp
  dsimp only
  rw [hx]
  exact run_val (run_load_struct hs.1 (Sep.block H hm) (Nat.le_of_ble_eq_true hn))
theorem sx_storeS (H : Hid (Sep w0 w Ts rows)) (hx : a.eval x = .pointer (some ⟨b, i, none⟩)) {vs : List Value} (hy : a.eval y = .agg vs.toArray) (hw : Region.wanted ⟨dst, .store ty x y, tyy, pos, aft, g⟩ (yielded ops a.tmps) = true) (hs : sizeB P ty vs.length = true)
    (hr : Rep (ThCell b (.cells cs T (0, 0))) (ThCell b (.cells (setMany cs i vs) T (0, 0))) Ts Ts') (hn : Nat.ble (i + vs.length) cs.size = true) (h1 : vs.all (·.oneCell') = true)
    (k : ∀ w', Hid (Sep w0 w' Ts' rows) → wpList P ops Q rest (a.put dst undef) w') : wpList P ops Q (⟨dst, .store ty x y, tyy, pos, aft, g⟩ :: rest) a w := by
  have hn := Nat.le_of_ble_eq_true hn
  have e : (Value.agg vs.toArray).cells = vs.toArray := rfl
  refine wpList_did hw ?_ (k (w.setCells b i vs) ?_)
  · unfold execOp
    dsimp only
    have := run_store_cells (P := P) (w := w) (ty := ty) (b := b) (i := i) (cs := cs) (T := T) (v := .agg vs.toArray) (by rw [e]; simpa using hs) (Sep.block H hr.mem) (by rw [e]; simpa using hn) (by rw [e]; simpa using h1)
    rw [e] at this
    rw [hx, hy, Sem.run_bind, this]
    rfl
  · refine Sep.rep H hr fun D hP => ?_
    obtain ⟨hb, rfl⟩ := hP
    obtain ⟨h1, h2, h3⟩ := rest_setCells b vs i w
    refine ⟨[b], ⟨?_, rfl⟩, ⟨h1, h2, h3, by rw [size_setCells]; exact Nat.le_refl _, fun k _ hn => heap_setCells_other b k (fun e => hn (by simp [e])) _ i w, fun k hk => .inl hk⟩⟩
    rw [heap_setCells_same b T _ i w cs hb hn, setMany_eq _ _ _ hn]
theorem sx_store1 (H : Hid (Sep w0 w Ts rows)) (hx : a.eval x = .pointer (some ⟨b, i, none⟩)) (hy : a.eval y = v) (hc : v.cells = #[v]) (hw : Region.wanted ⟨dst, .store ty x y, tyy, pos, aft, g⟩ (yielded ops a.tmps) = true) (hs : sizeB P ty 1 = true)
    (hr : Rep (ThCell b (.cells cs T (0, 0))) (ThCell b (.cells (cs.setIfInBounds i v) T (0, 0))) Ts Ts') (hn : Nat.ble (i + 1) cs.size = true) (h1 : v.oneCell' = true)
    (k : ∀ w', Hid (Sep w0 w' Ts' rows) → wpList P ops Q rest (a.put dst undef) w') : wpList P ops Q (⟨dst, .store ty x y, tyy, pos, aft, g⟩ :: rest) a w := by
  have hn := Nat.le_of_ble_eq_true hn
  refine wpList_did hw ?_ (k (w.setCells b i [v]) ?_)
  · unfold execOp
    dsimp only
    have := run_store_cells (P := P) (w := w) (ty := ty) (b := b) (i := i) (cs := cs) (T := T) (v := v) (by rw [hc]; simpa using hs) (Sep.block H hr.mem) (by rw [hc]; simpa using hn) (by rw [hc]; simpa using h1)
    rw [hc] at this
    rw [hx, hy, Sem.run_bind, this]
    rfl
  · refine Sep.rep H hr fun D hP => ?_
    obtain ⟨hb, rfl⟩ := hP
    obtain ⟨h1, h2, h3⟩ := rest_setCells b [v] i w
    refine ⟨[b], ⟨?_, rfl⟩, ⟨h1, h2, h3, by rw [size_setCells]; exact Nat.le_refl _, fun k _ hn => heap_setCells_other b k (fun e => hn (by simp [e])) _ i w, fun k hk => .inl hk⟩⟩
    have hn' : i + [v].length ≤ cs.size := hn
    rw [heap_setCells_same b T [v] i w cs hb hn', ← setMany_eq [v] cs i hn']
    rfl
theorem sx_alloc (H : Hid (Sep w0 w Ts rows)) (hw : Region.wanted ⟨dst, .alloc ty, tyy, pos, aft, g⟩ (yielded ops a.tmps) = true) {zs : Array Value} (hz : zeroB P ty zs)
    (k : ∀ w' b, Hid (Sep w0 w' (ThCell b (.cells zs ty (0, 0)) :: Ts) rows) → wpList P ops Q rest (a.put dst (.pointer (some ⟨b, 0, none⟩))) w') : wpList P ops Q (⟨dst, .alloc ty, tyy, pos, aft, g⟩ :: rest) a w := by
  refine wpList_ran hw ?_ (k (w.alloc (.cells zs ty)) w.heap.size ((Lib.hid (H.out.newCell _))))
  unfold execOp
  exact run_val (run_alloc_zero hz)
theorem sx_boxS (H : Hid (Sep w0 w Ts rows)) {zs : Array Value} (hy : a.eval y = .agg zs) (hw : Region.wanted ⟨dst, .box ty y, tyy, pos, aft, g⟩ (yielded ops a.tmps) = true)
    (k : ∀ w' b, Hid (Sep w0 w' (ThCell b (.cells zs ty (0, 0)) :: Ts) rows) → wpList P ops Q rest (a.put dst (.pointer (some ⟨b, 0, none⟩))) w') : wpList P ops Q (⟨dst, .box ty y, tyy, pos, aft, g⟩ :: rest) a w := by
  refine wpList_ran hw ?_ (k (w.alloc (.cells zs ty)) w.heap.size ((Lib.hid (H.out.newCell _))))
  unfold execOp
  dsimp only
  rw [hy]
  simp [Instr.box, newVar, newRow, Value.cells]
theorem sx_box1 (H : Hid (Sep w0 w Ts rows)) (hy : a.eval y = v) (hc : v.cells = #[v]) (hw : Region.wanted ⟨dst, .box ty y, tyy, pos, aft, g⟩ (yielded ops a.tmps) = true)
    (k : ∀ w' b, Hid (Sep w0 w' (ThCell b (.cells #[v] ty (0, 0)) :: Ts) rows) → wpList P ops Q rest (a.put dst (.pointer (some ⟨b, 0, none⟩))) w') : wpList P ops Q (⟨dst, .box ty y, tyy, pos, aft, g⟩ :: rest) a w := by
  refine wpList_ran hw ?_ (k (w.alloc (.cells #[v] ty)) w.heap.size ((Lib.hid (H.out.newCell _))))
  unfold execOp
  dsimp only
  rw [hy]
  simp [Instr.box, newVar, newRow, hc]
theorem sx_makeMap (d : TypeDesc) (H : Hid (Sep w0 w Ts rows)) (hw : Region.wanted ⟨dst, .makeMap ty none, tyy, pos, aft, g⟩ (yielded ops a.tmps) = true)
    (k : ∀ w' m, Hid (Sep w0 w' (ThMap d m [] :: Ts) rows) → wpList P ops Q rest (a.put dst (.map (some m))) w') : wpList P ops Q (⟨dst, .makeMap ty none, tyy, pos, aft, g⟩ :: rest) a w := by
  refine wpList_ran hw ?_ (k (w.alloc (.map #[] 0)) w.heap.size ((Lib.hid (H.out.newMap d))))
  unfold execOp
  simp [Instr.makeMap, newObj, Sem.run]
end
section
variable {P : Program} {fn : Func} {R : Ending → World → Prop} {w w0 : World} {tmps : Array Value} {Ts : List Thing} {rows : List (Value × Bs)}
theorem sx_ret {p : Tmp} {ty : TypeId} {b : Nat} {cs : Array Value} {T : TypeId} (H : Hid (Sep w0 w Ts rows)) (hr : fn.results = #[.cell p ty]) (hp : tmps.getD p undef = .pointer (some ⟨b, 0, none⟩)) (hm : ThCell b (.cells cs T (0, 0)) ∈ Ts)
    (hs : structB P ty cs.size = true) (k : R (.returned (.agg cs)) w) : bodyPost P fn R .ret ⟨tmps, []⟩ w := by
  refine bodyPost_ret (v := .agg cs) ?_ rfl k
  have e : (asAddr (tmps.getD p undef)).run P w = .ok ⟨b, 0, none⟩ w := by rw [hp]; rfl
  rw [results_cell1 hr, e]
  simp only [Result.andThen]
  have := run_load_struct (i := 0) hs (Sep.block H hm) (by omega)
  simp only [Instr.loadAt, Instr.sureAddr, Sem.run_bind, Sem.run_pure, Result.andThen_ok] at this
  simp only [k_d] at this
  rw [List.take_of_length_le (by simp), Array.toArray_toList] at this
  exact this
end
section
variable {P : Program} {ops : Array Oper} {Q : Exit → Act → World → Prop} {md : Region.Mode} {S : World → Prop} {a a' A : Act} {w w0 : World} {Ts : List Thing} {rows : List (Value × Bs)}
  {dst : Option Tmp} {ty tyy : TypeId} {x : Operand} {pos : String} {aft : Array Edge} {g : Option (Nat × Bool)} {b i k : Nat} {cs : Array Value} {T : TypeId} {v : Value} {r : List (Nat × Bool)}
theorem yield_load (H : Hid (Sep w0 w Ts rows)) (ho : ops[k]? = some ⟨dst, .load ty x, tyy, pos, aft, g⟩) (hx : a.eval x = .pointer (some ⟨b, i, none⟩)) (hw : Region.wanted ⟨dst, .load ty x, tyy, pos, aft, g⟩ (yielded ops a.tmps) = true)
    (hs : scalarB P ty = true) (hm : ThCell b (.cells cs T (0, 0)) ∈ Ts) {tl : List Value} (hv : cs.toList.drop i = v :: tl) (ha : a' = a.put dst v) (hr : YieldAll P ops (fun W => W = w) r a' A) : YieldAll P ops (fun W => W = w) ((k, true) :: r) a A := by
  refine yieldL ho hw (fun W hW => ?_) ha hr
  subst hW
  unfold execOp
  dsimp only
  rw [hx]
  exact run_val (run_load_scalar hs (cell_of (Sep.block H hm) i (drop_cell hv)))
theorem yield_loadS (H : Hid (Sep w0 w Ts rows)) {n : Nat} (ho : ops[k]? = some ⟨dst, .load ty x, tyy, pos, aft, g⟩) (hx : a.eval x = .pointer (some ⟨b, i, none⟩)) (hw : Region.wanted ⟨dst, .load ty x, tyy, pos, aft, g⟩ (yielded ops a.tmps) = true)
    (hs : StructN P ty n) (hm : ThCell b (.cells cs T (0, 0)) ∈ Ts) (hn : Nat.ble (i + n) cs.size = true) (ha : a' = a.put dst (.agg ((cs.toList.drop i).take n).toArray)) (hr : YieldAll P ops (fun W => W = w) r a' A) : YieldAll P ops (fun W => W = w) ((k, true) :: r) a A := by
  refine yieldL ho hw (fun W hW => ?_) ha hr
  subst hW
  unfold execOp
  dsimp only
  rw [hx]
  exact run_val (run_load_struct hs.1 (Sep.block H hm) (Nat.le_of_ble_eq_true hn))
theorem wpAnyM_last {N i : Nat} {o : Oper} {fuel : Nat} {listed : Array Bool} {a : Act} {w : World} (hN : Nat.ble N i = true) (hr : Region.ready md ops listed = [i]) (ho : ops[i]? = some o)
    (h : ∀ K : Act → World → Prop, (∀ a' w', wpAnyM P md ops Q S N fuel (listed.setIfInBounds i true) a' w' → K a' w') → wpList P ops (Exit.then K Q) [o] a w) : wpAnyM P md ops Q S N (fuel + 1) listed a w := by
  have hN := Nat.le_of_ble_eq_true hN
  refine ⟨fun h0 => (by rw [hr] at h0; cases h0), fun j hj => ?_⟩
  rw [hr] at hj
  obtain rfl : j = i := by simpa using hj
  have h := h (fun a' w' => (j < N → S w → S w') ∧ wpAnyM P md ops Q S N fuel (listed.setIfInBounds j true) a' w') (fun a' w' h2 => ⟨fun hlt => by omega, h2⟩)
  unfold wpList at h
  unfold wpOp
  simp only [ho]
  by_cases hw : Region.wanted o (yielded ops a.tmps) = true
  · rw [if_pos hw] at h ⊢
    rcases h with h | ⟨h1, h2⟩
    · refine .inl ?_
      unfold Oper.wp at h ⊢
      generalize (execOp a.eval o).run P w = r at h ⊢
      cases r with
      | ok n w' =>
        cases n <;> simp only [Oper.upon, wpList, Exit.then] at h ⊢
        case value => exact h
        case skip => exact h
        case defer => exact h
        case enter =>
          refine Calls.mono h fun e w'' he => ?_
          cases e with
          | returned v => exact he
          | panicked c => exact he
          | outgrown => exact he
        case row => exact h
      | halt x w' => cases x <;> simp only [Oper.upon, Exit.then] at h ⊢ <;> exact h
    · exact .inr ⟨h1, h2⟩
  · rw [if_neg hw] at h ⊢
    exact h
end
end Go.Av

namespace Go.Av
open Go.RowKit
section
variable {α : Type} {f : α → List Value} {K : Nat}
theorem flatG_len (hf : ∀ x, (f x).length = K) (l : List α) : (l.flatMap f).length = l.length * K := by
  induction l with
  | nil => simp
  | cons e l ih => rw [List.flatMap_cons, List.length_append, ih, hf, List.length_cons, Nat.add_mul]; omega
theorem flatG_at (hf : ∀ x, (f x).length = K) : ∀ (l : List α) {p : Nat} (hp : p < l.length) {j : Nat}, j < K → (l.flatMap f)[p * K + j]? = (f l[p])[j]?
  | [], p, hp, _, _ => by simp at hp
  | e :: l, 0, _, j, hj => by
    rw [List.flatMap_cons, Nat.zero_mul, Nat.zero_add, List.getElem?_append_left (by rw [hf]; exact hj)]
    rfl
  | e :: l, p + 1, hp, j, hj => by
    have hp' : p < l.length := by simpa using hp
    rw [List.flatMap_cons, List.getElem?_append_right (by rw [hf, Nat.add_mul]; omega), hf, show (p + 1) * K + j - K = p * K + j by rw [Nat.add_mul]; omega, flatG_at hf l hp' hj]
    rfl
end
theorem strK_eq (a b : ByteArray) : (a.toList == b.toList) = (a.data.toList == b.data.toList) := by rw [Lib.toList_data, Lib.toList_data]
theorem spotK_of {w : World} {x : Addr} {v : Value} (h : w.cell? x = some v) : x.spot = none := by
  cases hs : x.spot with
  | none => rfl
  | some _ =>
    unfold World.cell? at h
    split at h <;> simp [hs] at h
end Go.Av

namespace Go.Av
open Go.RowKit
inductive Rem (T : Thing) : List Thing → List Thing → Prop
  | here {R : List Thing} : Rem T (T :: R) R
  | there {U : Thing} {R R' : List Thing} : Rem T R R' → Rem T (U :: R) (U :: R')
theorem Rem.perm {T : Thing} {A B : List Thing} (h : Rem T A B) : A.Perm (T :: B) := by
  induction h with
  | here => exact .refl _
  | there _ ih => exact (ih.cons _).trans (.swap _ _ _)
section
variable {w0 w : World} {R Ts : List Thing} {rows : List (Value × Bs)} {P : Program}
theorem Sep.poolRead {K : Nat} {v : Value} {xs : List Value} {w' : World} {E : List Nat} {Q : List PRow} (h : Sep w0 w (ThPool w0 Q :: R) rows) (hr : ReadRow w' K v xs E) (hE : ∀ b ∈ E, w.heap.size ≤ b) (hu : Upd w w' [] []) : Sep w0 w' (ThPool w0 ((K, v, xs) :: Q) :: R) rows := by
  obtain ⟨D, hP, _, back⟩ := h.use
  refine back w' (E ++ D) (ThPool w0 ((K, v, xs) :: Q)) ?_ ⟨fun b hb => ?_, fun r hr' => ?_⟩
  · refine ⟨hu.os, hu.tape, hu.output, hu.size, fun b hb hn => hu.keep b hb (by simp), fun b hb => ?_⟩
    · rcases List.mem_append.1 hb with hb | hb
      · exact .inr ⟨hE b hb, hr.lt b hb⟩
      · exact .inl hb
  · rcases List.mem_append.1 hb with hb | hb
    · exact hr.lt b hb
    · exact Nat.lt_of_lt_of_le (hP.1 b hb) hu.size
  · rcases List.mem_cons.1 hr' with rfl | hr'
    · exact .inl ⟨E, hr, fun b hb => by simp [hb]⟩
    · rcases hP.2 r hr' with ⟨F, h1, h2⟩ | h1
      · exact .inl ⟨F, h1.frame (hu.same h1.lt (by simp)), fun b hb => by simp [h2 b hb]⟩
      · exact .inr h1
theorem row_load {α : Type} {f : α → List Value} {K n c off g i : Nat} {l : List α} {E : List Nat} {ty : TypeId} (h : ReadRow w K (.slice (some ⟨g, off, none⟩) n c) (l.flatMap f) E) (hf : ∀ x, (f x).length = K) (hs : StructN P ty K) (hi : i < l.length) :
    (Instr.loadAt ty (.pointer (some ⟨g, off + i * K, none⟩))).run P w = .ok (.agg (f l[i]).toArray) w := by
  obtain ⟨a', n', c', hv, hl, hn, hc, ha, hr⟩ := h
  cases hv
  have h1 := hs.1
  unfold structB at h1
  rw [Bool.and_eq_true] at h1
  obtain ⟨h1, h2⟩ := h1
  cases hi0 : P.info? ty with
  | none => simp [hi0] at h2
  | some ii =>
    simp only [hi0, beq_iff_eq] at h2
    cases hu : P.underlying ty with
    | none => simp [hu] at h1
    | some d =>
      refine run_loadAt_mid w g (off + i * K) ty _ d (fun j v hv => ?_) hu (by rw [hu] at h1; cases d <;> simp_all) (by rw [hi0, hf]; simpa using h2)
      have hj : j < K := by rw [← hf l[i]]; exact (List.getElem?_eq_some_iff.1 hv).1
      have hq := flatG_at hf l hi hj
      rw [hv] at hq
      rcases hr with ⟨h0, _⟩ | ⟨g', off', e, rfl, hlt, hcell⟩
      · rw [h0] at hq; cases hq
      · injection e with e
        injection e with e1 e2
        subst e1 e2
        rw [Nat.add_assoc]
        exact hcell _ _ hq
theorem row_load1 {n c off g i : Nat} {xs : List Value} {v : Value} {E : List Nat} {ty : TypeId} (h : ReadRow w 1 (.slice (some ⟨g, off, none⟩) n c) xs E) (hs : scalarB P ty = true) (hv : xs[i]? = some v) :
    (Instr.loadAt ty (.pointer (some ⟨g, off + i, none⟩))).run P w = .ok v w := by
  obtain ⟨a', n', c', e, hl, hn, hc, ha, hr⟩ := h
  cases e
  rcases hr with ⟨rfl, _⟩ | ⟨g', off', e, rfl, hlt, hcell⟩
  · cases hv
  · injection e with e
    injection e with e1 e2
    subst e1 e2
    exact run_load_scalar hs (hcell i v hv)
theorem ReadRow.some {K : Nat} {v : Value} {xs : List Value} {E : List Nat} (h : ReadRow w K v xs E) : ∃ a n c, v = .slice a n c ∧ xs.length = n * K ∧ n ≤ c ∧ c ≤ maxLen ∧ (xs ≠ [] → ∃ g off, a = some ⟨g, off, none⟩) := by
  obtain ⟨a, n, c, hv, hl, hn, hc, ha, hr⟩ := h
  refine ⟨a, n, c, hv, hl, hn, hc, fun hne => ?_⟩
  rcases hr with ⟨h0, _⟩ | ⟨g, off, e, _⟩
  · exact absurd h0 hne
  · exact ⟨g, off, e⟩
end
section
variable {P : Program} {ops : Array Oper} {Q : Exit → Act → World → Prop} {a : Act} {w w0 : World} {rest : List Oper} {Ts Ts' : List Thing} {rows : List (Value × Bs)}
  {dst : Option Tmp} {ty tyy t e : TypeId} {x y s : Operand} {pos : String} {aft : Array Edge} {g : Option (Nat × Bool)} {b i : Nat} {cs : Array Value} {T : TypeId} {v p : Value}
theorem sx_loadAt (hr : (Instr.loadAt ty p).run P w = .ok v w) (hx : a.eval x = p) (hw : Region.wanted ⟨dst, .load ty x, tyy, pos, aft, g⟩ (yielded ops a.tmps) = true) (k : wpList P ops Q rest (a.put dst v) w) : wpList P ops Q (⟨dst, .load ty x, tyy, pos, aft, g⟩ :: rest) a w := by
  refine wpList_ran hw ?_ k
  unfold execOp
  dsimp only
  rw [hx]
  exact run_val hr
structure SliceN (P : Program) (t e : TypeId) (K by_ : Nat) : Prop where
  ut : P.underlying t = some (.slice e)
  info : ∃ i z, P.info? e = some i ∧ i.zero = some z ∧ i.size = K ∧ z.cells.size = K ∧ i.bytes = by_
def sliceB (P : Program) (e : TypeId) (K by_ : Nat) : Bool := match P.info? e with
  | some i => (match i.zero with | some z => z.cells.size == K | none => false) && (i.size == K && i.bytes == by_)
  | none => false
theorem SliceN.of {P : Program} {t e : TypeId} {K by_ : Nat} (ut : P.underlying t = some (.slice e)) (h : sliceB P e K by_ = true) : SliceN P t e K by_ := by
  refine ⟨ut, ?_⟩
  unfold sliceB at h
  cases hi : P.info? e with
  | none => simp [hi] at h
  | some i =>
    cases hz : i.zero with
    | none => simp [hi, hz] at h
    | some z =>
      simp only [hi, hz, Bool.and_eq_true, beq_iff_eq] at h
      exact ⟨i, z, rfl, hz, h.2.1, h.1, h.2.2⟩
theorem fold_fill : ∀ (l : List Value) (k : Nat) (cs : Array Value), k + l.length ≤ cs.size → ((l.zipIdx k).foldl (fun cs (q : Value × Nat) => cs.setIfInBounds q.2 q.1) cs) = setMany cs k l
  | [], _, _, _ => rfl
  | v :: l, k, cs, h => by
    simp only [List.length_cons] at h
    rw [List.zipIdx_cons, List.foldl_cons, fold_fill l (k + 1) _ (by simp; omega)]
    rfl
theorem fill_one {K : Nat} {cells : Array Value} {v : Value} (hc : cells.size = K) (hv : v.cells.size = K) : Instr.fill (fun i => some (i * K, K)) cells [(0, v)] = some v.cells := by
  unfold Instr.fill
  simp only [Nat.zero_mul, Nat.zero_add]
  rw [if_neg (by simp [hv, hc])]
  unfold Instr.fill
  congr 1
  rw [← Array.foldl_toList, Array.toList_zipIdx]
  have := fold_fill v.cells.toList 0 cells (by simp [hv, hc])
  rw [this, setMany_eq _ _ _ (by simp [hv, hc])]
  have h0 : cells.toList.drop K = [] := List.drop_of_length_le (by simp [hc])
  simp [hv, h0]
theorem sx_one (H : Hid (Sep w0 w Ts rows)) {K by_ : Nat} (hsl : SliceN P t e K by_) (hK : Nat.blt 0 K = true ∧ Nat.ble K 1000 = true) (hy : a.eval y = v) (hvc : v.cells = cs) (hcs : cs.size = K)
    (k : ∀ w' b, Hid (Sep w0 w' (ThCell b (.cells cs e (0, 0)) :: Ts) rows) → wpList P ops Q rest (a.put dst (.slice (some ⟨b, 0, none⟩) 1 1)) w') : wpList P ops Q (⟨dst, .buildSlice t 1 #[(0, y)], tyy, pos, aft, none⟩ :: rest) a w := by
  obtain ⟨ii, z, hi, hz, hsz, hzs, -⟩ := hsl.info
  have h1 : 0 < K := by have := hK.1; simpa using this
  have h2 : K ≤ 1000 := Nat.le_of_ble_eq_true hK.2
  refine Go.Great.wpList_buildSliceTo rfl t e 1 #[(0, y)] rfl w.heap.size rfl dst rfl hsl.ut cs ?_ (k _ _ (Lib.hid (H.out.newCell _)))
  unfold Program.builtSlice
  simp only [hi, hz, hsz, Nat.one_mul]
  rw [if_neg (by omega)]
  have := fill_one (K := K) (cells := (Array.range K).map (z.cells[· % z.cells.size]!)) (v := v) (by simp) (by rw [hvc, hcs])
  rw [hvc] at this
  rw [← this]
  simp [hy]
theorem src_cell (H : Hid (Sep w0 w Ts rows)) {K by_ : Nat} {tx : TypeId} (hsl : SliceN P tx e K by_) (hm : ThCell b (.cells cs T (0, 0)) ∈ Ts) (hcs : cs.size = K) (h1 : cs.toList.all (·.oneCell') = true) : Src P K tx (.slice (some ⟨b, 0, none⟩) 1 1) 1 cs.toList w := by
  refine Src.ofSlice _ hsl.ut _ 1 1 cs.toList (by simp [hcs]) (fun j u hu => ?_) (fun u hu => List.all_eq_true.1 h1 u hu)
  rw [Addr.add_lit, Nat.zero_add]
  exact cell_of (Sep.block H hm) j (by simpa using hu)
theorem sx_oneS (H : Hid (Sep w0 w Ts rows)) {K by_ : Nat} (hsl : SliceN P t e K by_) (hK : Nat.blt 0 K = true ∧ Nat.ble K 1000 = true) (hy : a.eval y = .agg cs) (hcs : cs.size = K)
    (k : ∀ w' b, Hid (Sep w0 w' (ThCell b (.cells cs e (0, 0)) :: Ts) rows) → wpList P ops Q rest (a.put dst (.slice (some ⟨b, 0, none⟩) 1 1)) w') : wpList P ops Q (⟨dst, .buildSlice t 1 #[(0, y)], tyy, pos, aft, none⟩ :: rest) a w := sx_one H hsl hK hy rfl hcs k
theorem sx_one1 (H : Hid (Sep w0 w Ts rows)) {by_ : Nat} (hsl : SliceN P t e 1 by_) (hy : a.eval y = v) (hc : v.cells = #[v])
    (k : ∀ w' b, Hid (Sep w0 w' (ThCell b (.cells #[v] e (0, 0)) :: Ts) rows) → wpList P ops Q rest (a.put dst (.slice (some ⟨b, 0, none⟩) 1 1)) w') : wpList P ops Q (⟨dst, .buildSlice t 1 #[(0, y)], tyy, pos, aft, none⟩ :: rest) a w := sx_one H hsl ⟨rfl, rfl⟩ hy hc rfl k
theorem sx_app (H : Hid (Sep w0 w Ts rows)) {K by_ : Nat} {tx : TypeId} {xs news : List Value} {xv : Value} {m : Nat} {av : Option Addr} {nv cv : Nat} (hsl : SliceN P t e K by_) (hs : a.eval s = .slice av nv cv) (hx : a.eval x = xv) (hr : Rem (ThRow K (.slice av nv cv) xs) Ts Ts') (hsrc : Src P K tx xv m news w)
    (hb : ∀ n, xs.length = n * K → (n + m) ≤ 140737488355328 ∧ (n + m) * by_ ≤ 140737488355328)
    (k : ∀ w' a' n' c', Hid (Sep w0 w' (ThRow K (.slice a' n' c') (xs ++ news) :: Ts') rows) → wpList P ops Q rest (a.put dst (.slice a' n' c')) w') :
    wpList P ops Q (⟨dst, .call { callee := .builtin .append, args := #[s, x], argTypes := #[t, tx] }, tyy, pos, aft, none⟩ :: rest) a w := by
  obtain ⟨ii, z, hi, hz, hsz, hzs, hby⟩ := hsl.info
  have h0 : Sep w0 w (ThRow K (.slice av nv cv) xs :: Ts') rows := H.out.perm hr.perm
  obtain ⟨D, hP, _, back⟩ := h0.use
  refine wpList_app rfl s x t tx rfl K (.slice av nv cv) xs D hs hP e ii z hsl.ut hi hz hsz hzs xv m news hx hsrc (by rw [hby]; exact hb) (fun a' n' c' w' D' ho hu => k w' a' n' c' (Lib.hid (back w' D' (ThRow K (.slice a' n' c') (xs ++ news)) hu ho)))
theorem sx_app1 (H : Hid (Sep w0 w Ts rows)) {K by_ : Nat} {xs : List Value} {av : Option Addr} {nv cv : Nat} (hsl : SliceN P t e K by_) (hs : a.eval s = .slice av nv cv) (hx : a.eval x = .slice (some ⟨b, 0, none⟩) 1 1) (hr : Rem (ThRow K (.slice av nv cv) xs) Ts Ts') (hm : ThCell b (.cells cs T (0, 0)) ∈ Ts)
    (hcs : cs.size = K) (h1 : cs.toList.all (·.oneCell') = true) (hb : ∀ n, xs.length = n * K → (n + 1) ≤ 140737488355328 ∧ (n + 1) * by_ ≤ 140737488355328)
    (k : ∀ w' a' n' c', Hid (Sep w0 w' (ThRow K (.slice a' n' c') (xs ++ cs.toList) :: Ts') rows) → wpList P ops Q rest (a.put dst (.slice a' n' c')) w') :
    wpList P ops Q (⟨dst, .call { callee := .builtin .append, args := #[s, x], argTypes := #[t, t] }, tyy, pos, aft, none⟩ :: rest) a w :=
  sx_app H hsl hs hx hr (src_cell H hsl hm hcs h1) hb k
end
section
variable {P : Program} {fn : Func} {R : Ending → World → Prop} {w w0 : World} {tmps : Array Value} {Ts : List Thing} {rows : List (Value × Bs)}
theorem sx_ret2 {p u : Tmp} {ty : TypeId} {b : Nat} {cs : Array Value} {T : TypeId} (H : Hid (Sep w0 w Ts rows)) (hr : fn.results = #[.cell p ty, .tmp u]) (hp : tmps.getD p undef = .pointer (some ⟨b, 0, none⟩)) (hm : ThCell b (.cells cs T (0, 0)) ∈ Ts)
    (hs : structB P ty cs.size = true) (k : R (.returned (.tuple #[.agg cs, tmps.getD u undef])) w) : bodyPost P fn R .ret ⟨tmps, []⟩ w := by
  refine bodyPost_ret (v := .tuple #[.agg cs, tmps.getD u undef]) ?_ rfl k
  have e : (asAddr (tmps.getD p undef)).run P w = .ok ⟨b, 0, none⟩ w := by rw [hp]; rfl
  rw [results_cell_tmp hr, e]
  simp only [Result.andThen]
  have := run_load_struct (i := 0) hs (Sep.block H hm) (by omega)
  simp only [Instr.loadAt, Instr.sureAddr, Sem.run_bind, Sem.run_pure, Result.andThen_ok] at this
  simp only [k_d] at this
  rw [List.take_of_length_le (by simp), Array.toArray_toList] at this
  rw [this]
end
end Go.Av

namespace Go.Av
open Go.RowKit
section
variable {P : Program} {ops : Array Oper} {Q : Exit → Act → World → Prop} {a : Act} {w w0 : World} {rest : List Oper} {Ts Ts' : List Thing} {rows : List (Value × Bs)}
  {dst : Option Tmp} {tyy t e : TypeId} {y0 y1 : Operand} {pos : String} {aft : Array Edge} {c0 c1 : List Value} {v0 v1 : Value}
theorem sx_lits (H : Hid (Sep w0 w Ts rows)) {K by_ len : Nat} {parts : Array (Nat × Operand)} (hsl : SliceN P t e K by_) (hK : 0 < K) (hm : len * K ≤ 10000) (hl : 0 < len) (vs : List Value) (hp : (parts.map fun (i, x) => (i, a.eval x)).toList = (vs.zipIdx 0).map fun x => (x.2, x.1)) (hvl : vs.length = len) (hvs : ∀ v ∈ vs, v.cells.size = K)
    (k : ∀ w' b, Hid (Sep w0 w' (ThCell b (.cells (vs.flatMap fun v => v.cells.toList).toArray e (0, 0)) :: Ts) rows) → wpList P ops Q rest (a.put dst (.slice (some ⟨b, 0, none⟩) len len)) w') : wpList P ops Q (⟨dst, .buildSlice t len parts, tyy, pos, aft, none⟩ :: rest) a w := by
  obtain ⟨ii, z, hi, hz, hsz, hzs, -⟩ := hsl.info
  refine Go.Great.wpList_buildSliceTo rfl t e len parts rfl w.heap.size rfl dst rfl hsl.ut _ ?_ (k _ _ (Lib.hid (H.out.newCell _)))
  unfold Program.builtSlice
  have hpos : 0 < len * K := Nat.mul_pos hl hK
  simp only [hi, hz, hsz]
  rw [if_neg (by omega), hp]
  have := Go.Great.fill_whole (s := K) hK vs ((Array.range (len * K)).map (z.cells[· % z.cells.size]!)) hvs (by simp [hvl])
  rw [this]
theorem sx_two (H : Hid (Sep w0 w Ts rows)) {K by_ : Nat} (hsl : SliceN P t e K by_) (hK : Nat.blt 0 K = true ∧ Nat.ble K 1000 = true) (h0 : a.eval y0 = .agg c0.toArray) (h1 : a.eval y1 = .agg c1.toArray) (e0 : c0.length = K) (e1 : c1.length = K)
    (k : ∀ w' b, Hid (Sep w0 w' (ThCell b (.cells (c0 ++ c1).toArray e (0, 0)) :: Ts) rows) → wpList P ops Q rest (a.put dst (.slice (some ⟨b, 0, none⟩) 2 2)) w') : wpList P ops Q (⟨dst, .buildSlice t 2 #[(0, y0), (1, y1)], tyy, pos, aft, none⟩ :: rest) a w := by
  have h2 : K ≤ 1000 := Nat.le_of_ble_eq_true hK.2
  have h3 : 0 < K := by have := hK.1; simpa using this
  refine sx_lits H hsl h3 (by omega) (by omega) [.agg c0.toArray, .agg c1.toArray] (by simp [h0, h1]) rfl (fun v hv => ?_) (fun w' b HX => k w' b ?_)
  · simp only [List.mem_cons, List.not_mem_nil, or_false] at hv
    rcases hv with rfl | rfl <;> simp [Value.cells, e0, e1]
  · simpa [Value.cells] using HX
theorem Sep.poolCell {b K n : Nat} {cs : List Value} {T : TypeId} {P : List PRow} {R : List Thing} (h : Sep w0 w (ThCell b (.cells cs.toArray T (0, 0)) :: ThPool w0 P :: R) rows) (hl : cs.length = n * K) (hn : n ≤ 1000) : Sep w0 w (ThPool w0 ((K, .slice (some ⟨b, 0, none⟩) n n, cs) :: P) :: R) rows := by
  obtain ⟨F, hL, hu, hr⟩ := h
  cases hL with
  | @cons _ D _ _ k1 k2 k3 =>
    refine Sep.poolRow (K := K) (v := .slice (some ⟨b, 0, none⟩) n n) (xs := cs) ⟨_, .cons (T := ThRow K _ _) ⟨_, n, n, rfl, hl, Nat.le_refl _, by unfold maxLen; omega, (fun h => by cases h), .inr ⟨b, 0, cs.toArray, T, rfl, k1.2, k1.1, by simp [hl], by simp [← hl]⟩⟩ k2 k3, hu, hr⟩
theorem Sep.cellRow {b K n : Nat} {cs : List Value} {T : TypeId} {R : List Thing} (h : Sep w0 w (ThCell b (.cells cs.toArray T (0, 0)) :: R) rows) (hl : cs.length = n * K) (hn : n ≤ 1000) : Sep w0 w (ThRow K (.slice (some ⟨b, 0, none⟩) n n) cs :: R) rows :=
  h.imp fun D hD => ⟨_, n, n, rfl, hl, Nat.le_refl _, by unfold maxLen; omega, (fun h => by cases h), .inr ⟨b, 0, cs.toArray, T, rfl, hD.2, hD.1, by simp [hl], by simp [← hl]⟩⟩
end
section
variable {P : Program} {ops : Array Oper} {a a' A : Act} {w : World} {dst : Option Tmp} {ty tyy : TypeId} {x : Operand} {pos : String} {aft : Array Edge} {g : Option (Nat × Bool)} {k : Nat} {v p : Value} {r : List (Nat × Bool)}
theorem yield_loadAt (hl : (Instr.loadAt ty p).run P w = .ok v w) (ho : ops[k]? = some ⟨dst, .load ty x, tyy, pos, aft, g⟩) (hx : a.eval x = p) (hw : Region.wanted ⟨dst, .load ty x, tyy, pos, aft, g⟩ (yielded ops a.tmps) = true) (ha : a' = a.put dst v) (hr : YieldAll P ops (fun W => W = w) r a' A) : YieldAll P ops (fun W => W = w) ((k, true) :: r) a A := by
  refine yieldL ho hw (fun W hW => ?_) ha hr
  subst hW
  unfold execOp
  dsimp only
  rw [hx]
  exact run_val hl
end
section
variable {P : Program} {ops : Array Oper} {S : World → Prop} {a a' A : Act} {w0 : World} {Ts : List Thing} {rows : List (Value × Bs)} {dst : Option Tmp} {ty tyy : TypeId} {x : Operand} {pos : String} {aft : Array Edge} {g : Option (Nat × Bool)} {b i k : Nat} {cs : Array Value} {T : TypeId} {v p : Value} {r : List (Nat × Bool)}
theorem yield_loadH (H : ∀ W, S W → Sep w0 W Ts rows) (ho : ops[k]? = some ⟨dst, .load ty x, tyy, pos, aft, g⟩) (hx : a.eval x = .pointer (some ⟨b, i, none⟩)) (hw : Region.wanted ⟨dst, .load ty x, tyy, pos, aft, g⟩ (yielded ops a.tmps) = true)
    (hs : scalarB P ty = true) (hm : ThCell b (.cells cs T (0, 0)) ∈ Ts) {tl : List Value} (hv : cs.toList.drop i = v :: tl) (ha : a' = a.put dst v) (hr : YieldAll P ops S r a' A) : YieldAll P ops S ((k, true) :: r) a A := by
  refine yieldL ho hw (fun W hW => ?_) ha hr
  unfold execOp
  dsimp only
  rw [hx]
  exact run_val (run_load_scalar hs (cell_of (Sep.block (H W hW) hm) i (drop_cell hv)))
theorem yield_loadSH (H : ∀ W, S W → Sep w0 W Ts rows) {n : Nat} (ho : ops[k]? = some ⟨dst, .load ty x, tyy, pos, aft, g⟩) (hx : a.eval x = .pointer (some ⟨b, i, none⟩)) (hw : Region.wanted ⟨dst, .load ty x, tyy, pos, aft, g⟩ (yielded ops a.tmps) = true)
    (hs : StructN P ty n) (hm : ThCell b (.cells cs T (0, 0)) ∈ Ts) (hn : Nat.ble (i + n) cs.size = true) (ha : a' = a.put dst (.agg ((cs.toList.drop i).take n).toArray)) (hr : YieldAll P ops S r a' A) : YieldAll P ops S ((k, true) :: r) a A := by
  refine yieldL ho hw (fun W hW => ?_) ha hr
  unfold execOp
  dsimp only
  rw [hx]
  exact run_val (run_load_struct hs.1 (Sep.block (H W hW) hm) (Nat.le_of_ble_eq_true hn))
theorem yield_loadAtH (hl : ∀ W, S W → (Instr.loadAt ty p).run P W = .ok v W) (ho : ops[k]? = some ⟨dst, .load ty x, tyy, pos, aft, g⟩) (hx : a.eval x = p) (hw : Region.wanted ⟨dst, .load ty x, tyy, pos, aft, g⟩ (yielded ops a.tmps) = true) (ha : a' = a.put dst v) (hr : YieldAll P ops S r a' A) : YieldAll P ops S ((k, true) :: r) a A := by
  refine yieldL ho hw (fun W hW => ?_) ha hr
  unfold execOp
  dsimp only
  rw [hx]
  exact run_val (hl W hW)
end
end Go.Av

namespace Go.Proofs.YtbakgoncfggidaaGreatDoor
open Go.RowKit Go.Av
theorem sn_op : StructN Tryz.prog 50 5 := ⟨by kernel_rfl⟩
theorem sn_res : StructN Tryz.prog 59 11 := ⟨by kernel_rfl⟩
theorem sn_stat : StructN Tryz.prog 57 7 := ⟨by kernel_rfl⟩
theorem sn_node : StructN Tryz.prog 162 10 := ⟨by kernel_rfl⟩
theorem sn_reply : StructN Tryz.prog 34 5 := ⟨by kernel_rfl⟩
theorem sn_req : StructN Tryz.prog 37 3 := ⟨by kernel_rfl⟩
theorem sn_tree : StructN Tryz.prog 156 2 := ⟨by kernel_rfl⟩
theorem z_op : zeroB Tryz.prog 50 #[.int .i64 0, .string ⟨#[]⟩, .string ⟨#[]⟩, .int .i64 0, .int .i64 0] := by unfold zeroB; kernel_rfl
theorem z_res : zeroB Tryz.prog 59 #[.int .i64 0, .string ⟨#[]⟩, .string ⟨#[]⟩, .slice none 0 0, .int .i64 0, .int .i64 0, .int .i64 0, .int .i64 0, .int .i64 0, .int .i64 0, .int .i64 0] := by unfold zeroB; kernel_rfl
theorem z_node : zeroB Tryz.prog 162 #[.int .i64 0, .int .i64 0, .int .i64 0, .int .i64 0, .int .i64 0, .int .i64 0, .int .i64 0, .string ⟨#[]⟩, .int .i64 0, .slice none 0 0] := by unfold zeroB; kernel_rfl
theorem z_reply : zeroB Tryz.prog 34 #[.int .i64 0, .int .i64 0, .int .i64 0, .int .i64 0, .slice none 0 0] := by unfold zeroB; kernel_rfl
theorem z_req : zeroB Tryz.prog 37 #[.int .i64 0, .int .i64 0, .slice none 0 0] := by unfold zeroB; kernel_rfl
theorem sl_str : SliceN Tryz.prog 55 9 1 16 := .of Tryz.underlying55 (by kernel_rfl)
theorem sl_res : SliceN Tryz.prog 32 59 11 120 := .of Tryz.underlying32 (by kernel_rfl)
theorem sl_op : SliceN Tryz.prog 28 50 5 56 := .of Tryz.underlying28 (by kernel_rfl)
end Go.Proofs.YtbakgoncfggidaaGreatDoor

namespace Go.Av
open Go.RowKit
theorem tWL {G C : Prop} (k : C) (h : C → G := by (intro kk; (first | ((with_reducible apply sx_loadS HX); (· rfl); (· rfl); (· (first | exact sn_op | exact sn_res | exact sn_stat | exact sn_node | exact sn_reply | exact sn_req | exact sn_tree | exact sn_rnode | exact sn_rtree | exact sn_rent | exact sn_act | exact sn_x1 | exact sn_x2 | exact sn_x3 | exact sn_x4 | exact sn_x5 | exact sn_x6 | exact sn_x7 | exact sn_x8)); (· (repeat (first | (with_reducible exact k_s) | (with_reducible apply k_m)))); (· rfl); exact kk) | fail))) : G := h k
theorem tWM {G C : Prop} (k : C) (h : C → G := by (intro kk; (first | ((with_reducible apply sx_load HX); (· rfl); (· rfl); (· kernel_rfl); (· (repeat (first | (with_reducible exact k_s) | (with_reducible apply k_m)))); (· rfl); exact kk) | fail))) : G := h k
theorem tWS {G C : Prop} (k : C) (h : C → G := by (intro kk; (first | ((with_reducible apply sx_storeS HX); (· rfl); (· rfl); (· rfl); (· kernel_rfl); (· (repeat (first | (with_reducible exact Rep.here) | (with_reducible apply Rep.there)))); (· rfl); (· rfl); exact kk) | fail))) : G := h k
theorem tWT {G C : Prop} (k : C) (h : C → G := by (intro kk; (first | ((with_reducible apply sx_store1 HX); (· rfl); (· ((conv => lhs; whnf) <;> rfl)); (· rfl); (· rfl); (· kernel_rfl); (· (repeat (first | (with_reducible exact Rep.here) | (with_reducible apply Rep.there)))); (· rfl); (· rfl); exact kk) | fail))) : G := h k
theorem tWA {G C : Prop} (k : C) (h : C → G := by (intro kk; (first | ((with_reducible apply sx_alloc HX); (· rfl); (· (first | exact z_op | exact z_res | exact z_node | exact z_reply | exact z_req | exact z_rnode | exact z_rreply | exact z_x1 | exact z_x2 | exact z_x3 | exact z_x4 | exact z_x5 | exact z_x6 | exact z_x7 | exact z_x8)); exact kk) | ((with_reducible apply sx_boxS HX); (· rfl); (· rfl); exact kk) | ((with_reducible apply sx_box1 HX); (· ((conv => lhs; whnf) <;> rfl)); (· rfl); (· rfl); exact kk) | ((with_reducible apply sx_oneS HX); (· (first | exact sl_str | exact sl_res | exact sl_op | exact sl_ent | exact sl_x1 | exact sl_x2 | exact sl_x3 | exact sl_x4 | exact sl_x5 | exact sl_x6)); (· exact ⟨rfl, rfl⟩); (· rfl); (· rfl); exact kk) | ((with_reducible apply sx_one1 HX); (· (first | exact sl_str | exact sl_res | exact sl_op | exact sl_ent | exact sl_x1 | exact sl_x2 | exact sl_x3 | exact sl_x4 | exact sl_x5 | exact sl_x6)); (· ((conv => lhs; whnf) <;> rfl)); (· rfl); exact kk) | fail))) : G := h k
theorem tWN {G C : Prop} (k : C) (h : C → G := by (intro kk; (first | ((with_reducible apply sx_makeMap .string HX); (· rfl); exact kk) | fail))) : G := h k
theorem tWP {G C : Prop} (k : C) (h : C → G := by (intro kk; (first | ((with_reducible apply sx_app1 HX); (· (first | exact sl_str | exact sl_res | exact sl_op | exact sl_ent | exact sl_x1 | exact sl_x2 | exact sl_x3 | exact sl_x4 | exact sl_x5 | exact sl_x6)); (· rfl); (· rfl); (· (repeat (first | (with_reducible exact Rem.here) | (with_reducible apply Rem.there)))); (· (repeat (first | (with_reducible exact k_s) | (with_reducible apply k_m)))); (· rfl); (· rfl); (· exact HBD.out); exact kk) | fail))) : G := h k
theorem tWD {G C : Prop} (k : C) (h : C → G := by (intro kk; (first | ((with_reducible apply sx_two HX); (· (first | exact sl_str | exact sl_res | exact sl_op | exact sl_ent | exact sl_x1 | exact sl_x2 | exact sl_x3 | exact sl_x4 | exact sl_x5 | exact sl_x6)); (· exact ⟨rfl, rfl⟩); (· rfl); (· rfl); (· rfl); (· rfl); exact kk) | fail))) : G := h k
theorem xD {G C : Prop} (k : C) (h : C → G := by (intro kk; (first | ((apply yield_loadS); (· exact HX); (· (simp only [k_i, k_j, k_k]; try rfl)); (· rfl); (· rfl); (· (first | exact sn_op | exact sn_res | exact sn_stat | exact sn_node | exact sn_reply | exact sn_req | exact sn_tree | exact sn_rnode | exact sn_rtree | exact sn_rent | exact sn_act | exact sn_x1 | exact sn_x2 | exact sn_x3 | exact sn_x4 | exact sn_x5 | exact sn_x6 | exact sn_x7 | exact sn_x8)); (· (repeat (first | (with_reducible exact k_s) | (with_reducible apply k_m)))); (· rfl); (· (simp only [Act.put, k_a, k_b, k_c, k_d, k_e, k_f, k_g, k_h, NodeS.cells, OpS.cells, ResS.cells]; try rfl)); exact kk) | ((apply yield_load); (· exact HX); (· (simp only [k_i, k_j, k_k]; try rfl)); (· rfl); (· rfl); (· kernel_rfl); (· (repeat (first | (with_reducible exact k_s) | (with_reducible apply k_m)))); (· rfl); (· (simp only [Act.put, k_a, k_b, k_c, k_d, k_e, k_f, k_g, k_h, NodeS.cells, OpS.cells, ResS.cells]; try rfl)); exact kk) | ((apply yield_loadAt); (· exact hl); (· (simp only [k_i, k_j, k_k]; try rfl)); (· rfl); (· rfl); (· (simp only [Act.put, k_a, k_b, k_c, k_d, k_e, k_f, k_g, k_h, NodeS.cells, OpS.cells, ResS.cells]; try rfl)); exact kk) | ((apply yield_loadAt); (· exact hl2); (· (simp only [k_i, k_j, k_k]; try rfl)); (· rfl); (· rfl); (· (simp only [Act.put, k_a, k_b, k_c, k_d, k_e, k_f, k_g, k_h, NodeS.cells, OpS.cells, ResS.cells]; try rfl)); exact kk) | ((apply yield_loadAt); (· exact hl3); (· (simp only [k_i, k_j, k_k]; try rfl)); (· rfl); (· rfl); (· (simp only [Act.put, k_a, k_b, k_c, k_d, k_e, k_f, k_g, k_h, NodeS.cells, OpS.cells, ResS.cells]; try rfl)); exact kk) | ((apply yield_loadAt); (· exact hl4); (· (simp only [k_i, k_j, k_k]; try rfl)); (· rfl); (· rfl); (· (simp only [Act.put, k_a, k_b, k_c, k_d, k_e, k_f, k_g, k_h, NodeS.cells, OpS.cells, ResS.cells]; try rfl)); exact kk) | ((apply yieldN); (· (simp only [k_i, k_j, k_k]; try rfl)); (· rfl); (· (simp only [Act.put, k_a, k_b, k_c, k_d, k_e, k_f, k_g, k_h, NodeS.cells, OpS.cells, ResS.cells]; try rfl)); exact kk) | ((first | apply yieldP | apply yieldL); (· (simp only [k_i, k_j, k_k]; try rfl)); (· rfl); (· (intros; go_simp; try with_reducible rfl)); (· (simp only [Act.put, k_a, k_b, k_c, k_d, k_e, k_f, k_g, k_h, NodeS.cells, OpS.cells, ResS.cells]; try rfl)); exact kk) | fail))) : G := h k
theorem xE {G C : Prop} (k : C) (h : C → G := by (intro kk; (first | ((apply yield_loadSH); (· exact KEEPX); (· (simp only [k_i, k_j, k_k]; try rfl)); (· rfl); (· rfl); (· (first | exact sn_op | exact sn_res | exact sn_stat | exact sn_node | exact sn_reply | exact sn_req | exact sn_tree | exact sn_rnode | exact sn_rtree | exact sn_rent | exact sn_act | exact sn_x1 | exact sn_x2 | exact sn_x3 | exact sn_x4 | exact sn_x5 | exact sn_x6 | exact sn_x7 | exact sn_x8)); (· (repeat (first | (with_reducible exact k_s) | (with_reducible apply k_m)))); (· rfl); (· (simp only [Act.put, k_a, k_b, k_c, k_d, k_e, k_f, k_g, k_h, NodeS.cells, OpS.cells, ResS.cells]; try rfl)); exact kk) | ((apply yield_loadH); (· exact KEEPX); (· (simp only [k_i, k_j, k_k]; try rfl)); (· rfl); (· rfl); (· kernel_rfl); (· (repeat (first | (with_reducible exact k_s) | (with_reducible apply k_m)))); (· rfl); (· (simp only [Act.put, k_a, k_b, k_c, k_d, k_e, k_f, k_g, k_h, NodeS.cells, OpS.cells, ResS.cells]; try rfl)); exact kk) | ((apply yield_loadAtH); (· exact hl); (· (simp only [k_i, k_j, k_k]; try rfl)); (· rfl); (· rfl); (· (simp only [Act.put, k_a, k_b, k_c, k_d, k_e, k_f, k_g, k_h, NodeS.cells, OpS.cells, ResS.cells]; try rfl)); exact kk) | ((apply yield_loadAtH); (· exact hl2); (· (simp only [k_i, k_j, k_k]; try rfl)); (· rfl); (· rfl); (· (simp only [Act.put, k_a, k_b, k_c, k_d, k_e, k_f, k_g, k_h, NodeS.cells, OpS.cells, ResS.cells]; try rfl)); exact kk) | ((apply yield_loadAtH); (· exact hl3); (· (simp only [k_i, k_j, k_k]; try rfl)); (· rfl); (· rfl); (· (simp only [Act.put, k_a, k_b, k_c, k_d, k_e, k_f, k_g, k_h, NodeS.cells, OpS.cells, ResS.cells]; try rfl)); exact kk) | ((apply yield_loadAtH); (· exact hl4); (· (simp only [k_i, k_j, k_k]; try rfl)); (· rfl); (· rfl); (· (simp only [Act.put, k_a, k_b, k_c, k_d, k_e, k_f, k_g, k_h, NodeS.cells, OpS.cells, ResS.cells]; try rfl)); exact kk) | ((apply yieldN); (· (simp only [k_i, k_j, k_k]; try rfl)); (· rfl); (· (simp only [Act.put, k_a, k_b, k_c, k_d, k_e, k_f, k_g, k_h, NodeS.cells, OpS.cells, ResS.cells]; try rfl)); exact kk) | ((first | apply yieldP | apply yieldL); (· (simp only [k_i, k_j, k_k]; try rfl)); (· rfl); (· (intros; go_simp; try with_reducible rfl)); (· (simp only [Act.put, k_a, k_b, k_c, k_d, k_e, k_f, k_g, k_h, NodeS.cells, OpS.cells, ResS.cells]; try rfl)); exact kk) | fail))) : G := h k
end Go.Av
namespace Go.Av
theorem uK {G C : Prop} (k : C) (h : C → G := by (intro kk; ((with_reducible apply wpList_skip); (· rfl); simp only [Act.put, k_a, k_b, k_c]); exact kk)) : G := h k
theorem uL {G C : Prop} (k : C) (h : C → G := by (intro kk; (refine tWL ?_; simp only [Act.put, k_a, k_b, k_c, k_d, k_e, k_f, k_g, k_h, NodeS.cells, OpS.cells, ResS.cells]); exact kk)) : G := h k
theorem uS {G C : Prop} (k : C) (h : C → G := by (intro kk; ((first | refine tWS ?_ | refine tWT ?_); simp only [Act.put, k_a, k_b, k_c, setMany, Nat.reduceAdd, NodeS.cells, OpS.cells, ResS.cells]); exact kk)) : G := h k
theorem uLp {G C : Prop} (k : C) (h : C → G := by (intro kk; (refine tWL ?_; simp only [Act.put, k_a, k_b, k_c, k_d, k_e, k_f, k_g, k_h]); exact kk)) : G := h k
theorem uSp {G C : Prop} (k : C) (h : C → G := by (intro kk; ((first | refine tWS ?_ | refine tWT ?_); simp only [Act.put, k_a, k_b, k_c, setMany, Nat.reduceAdd]); exact kk)) : G := h k
theorem uM {G C : Prop} (k : C) (h : C → G := by (intro kk; (refine tWM ?_; simp only [Act.put, k_a, k_b, k_c]); exact kk)) : G := h k
theorem uA {G C : Prop} (k : C) (h : C → G := by (intro kk; (refine tWA ?_; simp only [Act.put, k_a, k_b, k_c]); exact kk)) : G := h k
end Go.Av

namespace Go.Av
open Go.RowKit
theorem sWL {G C : Prop} (k : C) (h : C → G := by (intro kk; (first | ((with_reducible apply sx_loadS HX); (· rfl); (· rfl); (· (first | exact sn_op | exact sn_res | exact sn_stat | exact sn_node | exact sn_reply | exact sn_req | exact sn_tree | exact sn_rnode | exact sn_rtree | exact sn_rent | exact sn_act)); (· (repeat (first | (with_reducible exact k_s) | (with_reducible apply k_m)))); (· rfl); exact kk) | fail))) : G := h k
theorem sWM {G C : Prop} (k : C) (h : C → G := by (intro kk; (first | ((with_reducible apply sx_load HX); (· rfl); (· rfl); (· kernel_rfl); (· (repeat (first | (with_reducible exact k_s) | (with_reducible apply k_m)))); (· rfl); exact kk) | fail))) : G := h k
theorem sWS {G C : Prop} (k : C) (h : C → G := by (intro kk; (first | ((with_reducible apply sx_storeS HX); (· rfl); (· rfl); (· rfl); (· kernel_rfl); (· (repeat (first | (with_reducible exact Rep.here) | (with_reducible apply Rep.there)))); (· rfl); (· rfl); exact kk) | fail))) : G := h k
theorem sWT {G C : Prop} (k : C) (h : C → G := by (intro kk; (first | ((with_reducible apply sx_store1 HX); (· rfl); (· ((conv => lhs; whnf) <;> rfl)); (· rfl); (· rfl); (· kernel_rfl); (· (repeat (first | (with_reducible exact Rep.here) | (with_reducible apply Rep.there)))); (· rfl); (· rfl); exact kk) | fail))) : G := h k
theorem sWA {G C : Prop} (k : C) (h : C → G := by (intro kk; (first | ((with_reducible apply sx_alloc HX); (· rfl); (· (first | exact z_op | exact z_res | exact z_node | exact z_reply | exact z_req | exact z_rnode | exact z_rreply)); exact kk) | ((with_reducible apply sx_boxS HX); (· rfl); (· rfl); exact kk) | ((with_reducible apply sx_box1 HX); (· ((conv => lhs; whnf) <;> rfl)); (· rfl); (· rfl); exact kk) | ((with_reducible apply sx_oneS HX); (· (first | exact sl_str | exact sl_res | exact sl_op | exact sl_ent)); (· exact ⟨rfl, rfl⟩); (· rfl); (· rfl); exact kk) | ((with_reducible apply sx_one1 HX); (· (first | exact sl_str | exact sl_res | exact sl_op | exact sl_ent)); (· ((conv => lhs; whnf) <;> rfl)); (· rfl); exact kk) | fail))) : G := h k
theorem sWN {G C : Prop} (k : C) (h : C → G := by (intro kk; (first | ((with_reducible apply sx_makeMap .string HX); (· rfl); exact kk) | fail))) : G := h k
theorem sWP {G C : Prop} (k : C) (h : C → G := by (intro kk; (first | ((with_reducible apply sx_app1 HX); (· (first | exact sl_str | exact sl_res | exact sl_op | exact sl_ent)); (· rfl); (· rfl); (· (repeat (first | (with_reducible exact Rem.here) | (with_reducible apply Rem.there)))); (· (repeat (first | (with_reducible exact k_s) | (with_reducible apply k_m)))); (· rfl); (· rfl); (· exact HBD.out); exact kk) | fail))) : G := h k
theorem yD {G C : Prop} (k : C) (h : C → G := by (intro kk; (first | ((apply yield_loadS); (· exact HX); (· (simp only [k_i, k_j, k_k]; try rfl)); (· rfl); (· rfl); (· (first | exact sn_op | exact sn_res | exact sn_stat | exact sn_node | exact sn_reply | exact sn_req | exact sn_tree | exact sn_rnode | exact sn_rtree | exact sn_rent | exact sn_act)); (· (repeat (first | (with_reducible exact k_s) | (with_reducible apply k_m)))); (· rfl); (· (simp only [Act.put, k_a, k_b, k_c, k_d, k_e, k_f, k_g, k_h, NodeS.cells, OpS.cells, ResS.cells]; try rfl)); exact kk) | ((apply yield_load); (· exact HX); (· (simp only [k_i, k_j, k_k]; try rfl)); (· rfl); (· rfl); (· kernel_rfl); (· (repeat (first | (with_reducible exact k_s) | (with_reducible apply k_m)))); (· rfl); (· (simp only [Act.put, k_a, k_b, k_c, k_d, k_e, k_f, k_g, k_h, NodeS.cells, OpS.cells, ResS.cells]; try rfl)); exact kk) | ((apply yield_loadAt); (· exact hl); (· (simp only [k_i, k_j, k_k]; try rfl)); (· rfl); (· rfl); (· (simp only [Act.put, k_a, k_b, k_c, k_d, k_e, k_f, k_g, k_h, NodeS.cells, OpS.cells, ResS.cells]; try rfl)); exact kk) | ((apply yield_loadAt); (· exact hl2); (· (simp only [k_i, k_j, k_k]; try rfl)); (· rfl); (· rfl); (· (simp only [Act.put, k_a, k_b, k_c, k_d, k_e, k_f, k_g, k_h, NodeS.cells, OpS.cells, ResS.cells]; try rfl)); exact kk) | ((apply yield_loadAt); (· exact hl3); (· (simp only [k_i, k_j, k_k]; try rfl)); (· rfl); (· rfl); (· (simp only [Act.put, k_a, k_b, k_c, k_d, k_e, k_f, k_g, k_h, NodeS.cells, OpS.cells, ResS.cells]; try rfl)); exact kk) | ((apply yield_loadAt); (· exact hl4); (· (simp only [k_i, k_j, k_k]; try rfl)); (· rfl); (· rfl); (· (simp only [Act.put, k_a, k_b, k_c, k_d, k_e, k_f, k_g, k_h, NodeS.cells, OpS.cells, ResS.cells]; try rfl)); exact kk) | ((apply yieldN); (· (simp only [k_i, k_j, k_k]; try rfl)); (· rfl); (· (simp only [Act.put, k_a, k_b, k_c, k_d, k_e, k_f, k_g, k_h, NodeS.cells, OpS.cells, ResS.cells]; try rfl)); exact kk) | ((first | apply yieldP | apply yieldL); (· (simp only [k_i, k_j, k_k]; try rfl)); (· rfl); (· (intros; go_simp; try with_reducible rfl)); (· (simp only [Act.put, k_a, k_b, k_c, k_d, k_e, k_f, k_g, k_h, NodeS.cells, OpS.cells, ResS.cells]; try rfl)); exact kk) | fail))) : G := h k
theorem yE {G C : Prop} (k : C) (h : C → G := by (intro kk; (first | ((apply yield_loadSH); (· exact KEEPX); (· (simp only [k_i, k_j, k_k]; try rfl)); (· rfl); (· rfl); (· (first | exact sn_op | exact sn_res | exact sn_stat | exact sn_node | exact sn_reply | exact sn_req | exact sn_tree | exact sn_rnode | exact sn_rtree | exact sn_rent | exact sn_act)); (· (repeat (first | (with_reducible exact k_s) | (with_reducible apply k_m)))); (· rfl); (· (simp only [Act.put, k_a, k_b, k_c, k_d, k_e, k_f, k_g, k_h, NodeS.cells, OpS.cells, ResS.cells]; try rfl)); exact kk) | ((apply yield_loadH); (· exact KEEPX); (· (simp only [k_i, k_j, k_k]; try rfl)); (· rfl); (· rfl); (· kernel_rfl); (· (repeat (first | (with_reducible exact k_s) | (with_reducible apply k_m)))); (· rfl); (· (simp only [Act.put, k_a, k_b, k_c, k_d, k_e, k_f, k_g, k_h, NodeS.cells, OpS.cells, ResS.cells]; try rfl)); exact kk) | ((apply yield_loadAtH); (· exact hl); (· (simp only [k_i, k_j, k_k]; try rfl)); (· rfl); (· rfl); (· (simp only [Act.put, k_a, k_b, k_c, k_d, k_e, k_f, k_g, k_h, NodeS.cells, OpS.cells, ResS.cells]; try rfl)); exact kk) | ((apply yield_loadAtH); (· exact hl2); (· (simp only [k_i, k_j, k_k]; try rfl)); (· rfl); (· rfl); (· (simp only [Act.put, k_a, k_b, k_c, k_d, k_e, k_f, k_g, k_h, NodeS.cells, OpS.cells, ResS.cells]; try rfl)); exact kk) | ((apply yield_loadAtH); (· exact hl3); (· (simp only [k_i, k_j, k_k]; try rfl)); (· rfl); (· rfl); (· (simp only [Act.put, k_a, k_b, k_c, k_d, k_e, k_f, k_g, k_h, NodeS.cells, OpS.cells, ResS.cells]; try rfl)); exact kk) | ((apply yield_loadAtH); (· exact hl4); (· (simp only [k_i, k_j, k_k]; try rfl)); (· rfl); (· rfl); (· (simp only [Act.put, k_a, k_b, k_c, k_d, k_e, k_f, k_g, k_h, NodeS.cells, OpS.cells, ResS.cells]; try rfl)); exact kk) | ((apply yieldN); (· (simp only [k_i, k_j, k_k]; try rfl)); (· rfl); (· (simp only [Act.put, k_a, k_b, k_c, k_d, k_e, k_f, k_g, k_h, NodeS.cells, OpS.cells, ResS.cells]; try rfl)); exact kk) | ((first | apply yieldP | apply yieldL); (· (simp only [k_i, k_j, k_k]; try rfl)); (· rfl); (· (intros; go_simp; try with_reducible rfl)); (· (simp only [Act.put, k_a, k_b, k_c, k_d, k_e, k_f, k_g, k_h, NodeS.cells, OpS.cells, ResS.cells]; try rfl)); exact kk) | fail))) : G := h k
theorem yDp {G C : Prop} (k : C) (h : C → G := by (intro kk; (first | ((apply yield_loadS); (· exact HX); (· (simp only [k_i, k_j, k_k]; try rfl)); (· rfl); (· rfl); (· (first | exact sn_op | exact sn_res | exact sn_stat | exact sn_node | exact sn_reply | exact sn_req | exact sn_tree | exact sn_rnode | exact sn_rtree | exact sn_rent | exact sn_act)); (· (repeat (first | (with_reducible exact k_s) | (with_reducible apply k_m)))); (· rfl); (· (simp only [Act.put, k_a, k_b, k_c, k_d, k_e, k_f, k_g, k_h]; try rfl)); exact kk) | ((apply yield_load); (· exact HX); (· (simp only [k_i, k_j, k_k]; try rfl)); (· rfl); (· rfl); (· kernel_rfl); (· (repeat (first | (with_reducible exact k_s) | (with_reducible apply k_m)))); (· rfl); (· (simp only [Act.put, k_a, k_b, k_c, k_d, k_e, k_f, k_g, k_h]; try rfl)); exact kk) | ((apply yield_loadAt); (· exact hl); (· (simp only [k_i, k_j, k_k]; try rfl)); (· rfl); (· rfl); (· (simp only [Act.put, k_a, k_b, k_c, k_d, k_e, k_f, k_g, k_h]; try rfl)); exact kk) | ((apply yield_loadAt); (· exact hl2); (· (simp only [k_i, k_j, k_k]; try rfl)); (· rfl); (· rfl); (· (simp only [Act.put, k_a, k_b, k_c, k_d, k_e, k_f, k_g, k_h]; try rfl)); exact kk) | ((apply yield_loadAt); (· exact hl3); (· (simp only [k_i, k_j, k_k]; try rfl)); (· rfl); (· rfl); (· (simp only [Act.put, k_a, k_b, k_c, k_d, k_e, k_f, k_g, k_h]; try rfl)); exact kk) | ((apply yield_loadAt); (· exact hl4); (· (simp only [k_i, k_j, k_k]; try rfl)); (· rfl); (· rfl); (· (simp only [Act.put, k_a, k_b, k_c, k_d, k_e, k_f, k_g, k_h]; try rfl)); exact kk) | ((apply yieldN); (· (simp only [k_i, k_j, k_k]; try rfl)); (· rfl); (· (simp only [Act.put, k_a, k_b, k_c, k_d, k_e, k_f, k_g, k_h]; try rfl)); exact kk) | ((first | apply yieldP | apply yieldL); (· (simp only [k_i, k_j, k_k]; try rfl)); (· rfl); (· (intros; go_simp; try with_reducible rfl)); (· (simp only [Act.put, k_a, k_b, k_c, k_d, k_e, k_f, k_g, k_h]; try rfl)); exact kk) | fail))) : G := h k
theorem yEp {G C : Prop} (k : C) (h : C → G := by (intro kk; (first | ((apply yield_loadSH); (· exact KEEPX); (· (simp only [k_i, k_j, k_k]; try rfl)); (· rfl); (· rfl); (· (first | exact sn_op | exact sn_res | exact sn_stat | exact sn_node | exact sn_reply | exact sn_req | exact sn_tree | exact sn_rnode | exact sn_rtree | exact sn_rent | exact sn_act)); (· (repeat (first | (with_reducible exact k_s) | (with_reducible apply k_m)))); (· rfl); (· (simp only [Act.put, k_a, k_b, k_c, k_d, k_e, k_f, k_g, k_h]; try rfl)); exact kk) | ((apply yield_loadH); (· exact KEEPX); (· (simp only [k_i, k_j, k_k]; try rfl)); (· rfl); (· rfl); (· kernel_rfl); (· (repeat (first | (with_reducible exact k_s) | (with_reducible apply k_m)))); (· rfl); (· (simp only [Act.put, k_a, k_b, k_c, k_d, k_e, k_f, k_g, k_h]; try rfl)); exact kk) | ((apply yield_loadAtH); (· exact hl); (· (simp only [k_i, k_j, k_k]; try rfl)); (· rfl); (· rfl); (· (simp only [Act.put, k_a, k_b, k_c, k_d, k_e, k_f, k_g, k_h]; try rfl)); exact kk) | ((apply yield_loadAtH); (· exact hl2); (· (simp only [k_i, k_j, k_k]; try rfl)); (· rfl); (· rfl); (· (simp only [Act.put, k_a, k_b, k_c, k_d, k_e, k_f, k_g, k_h]; try rfl)); exact kk) | ((apply yield_loadAtH); (· exact hl3); (· (simp only [k_i, k_j, k_k]; try rfl)); (· rfl); (· rfl); (· (simp only [Act.put, k_a, k_b, k_c, k_d, k_e, k_f, k_g, k_h]; try rfl)); exact kk) | ((apply yield_loadAtH); (· exact hl4); (· (simp only [k_i, k_j, k_k]; try rfl)); (· rfl); (· rfl); (· (simp only [Act.put, k_a, k_b, k_c, k_d, k_e, k_f, k_g, k_h]; try rfl)); exact kk) | ((apply yieldN); (· (simp only [k_i, k_j, k_k]; try rfl)); (· rfl); (· (simp only [Act.put, k_a, k_b, k_c, k_d, k_e, k_f, k_g, k_h]; try rfl)); exact kk) | ((first | apply yieldP | apply yieldL); (· (simp only [k_i, k_j, k_k]; try rfl)); (· rfl); (· (intros; go_simp; try with_reducible rfl)); (· (simp only [Act.put, k_a, k_b, k_c, k_d, k_e, k_f, k_g, k_h]; try rfl)); exact kk) | fail))) : G := h k
end Go.Av
namespace Go.Av
theorem vK {G C : Prop} (k : C) (h : C → G := by (intro kk; ((with_reducible apply wpList_skip); (· rfl); simp only [Act.put, k_a, k_b, k_c]); exact kk)) : G := h k
theorem vL {G C : Prop} (k : C) (h : C → G := by (intro kk; (refine sWL ?_; simp only [Act.put, k_a, k_b, k_c, k_d, k_e, k_f, k_g, k_h, NodeS.cells, OpS.cells, ResS.cells]); exact kk)) : G := h k
theorem vS {G C : Prop} (k : C) (h : C → G := by (intro kk; ((first | refine sWS ?_ | refine sWT ?_); simp only [Act.put, k_a, k_b, k_c, setMany, Nat.reduceAdd, NodeS.cells, OpS.cells, ResS.cells]); exact kk)) : G := h k
theorem vLp {G C : Prop} (k : C) (h : C → G := by (intro kk; (refine sWL ?_; simp only [Act.put, k_a, k_b, k_c, k_d, k_e, k_f, k_g, k_h]); exact kk)) : G := h k
theorem vSp {G C : Prop} (k : C) (h : C → G := by (intro kk; ((first | refine sWS ?_ | refine sWT ?_); simp only [Act.put, k_a, k_b, k_c, setMany, Nat.reduceAdd]); exact kk)) : G := h k
theorem vM {G C : Prop} (k : C) (h : C → G := by (intro kk; (refine sWM ?_; simp only [Act.put, k_a, k_b, k_c]); exact kk)) : G := h k
theorem vA {G C : Prop} (k : C) (h : C → G := by (intro kk; (refine sWA ?_; simp only [Act.put, k_a, k_b, k_c]); exact kk)) : G := h k
end Go.Av

namespace Go.Av
open Go.RowKit
def okCh (c : UInt8) : Bool := !(decide (c < 33) || decide (126 < c))
def nameS (l : Bs) : Bool := l.all okCh && decide (1 ≤ l.length) && decide (l.length ≤ 40) && !(l == [46]) && !(l == [46, 46])
def cutS : Bs → List Bs
  | [] => [[]]
  | c :: r => if c = 47 then [] :: cutS r else match cutS r with | [] => [[c]] | x :: t => (c :: x) :: t
def goodP (p : Bs) : Bool := match p with
  | [] => false
  | c :: r => decide (c = 47) && decide (r.length + 1 ≤ 200) && (cutS r).all nameS && decide ((cutS r).length ≤ 8)
def partsP (p : Bs) : List Bs := if goodP p then cutS (p.drop 1) else []
def nameP (p : Bs) : Bs := match (partsP p).getLast? with | none => [] | some x => x
theorem cutS_ne : ∀ l : Bs, cutS l ≠ []
  | [] => by simp [cutS]
  | c :: r => by
    unfold cutS
    split
    · simp
    · split <;> simp
theorem cutS_len : ∀ l : Bs, (cutS l).length = l.count 47 + 1
  | [] => rfl
  | c :: r => by
    have ih := cutS_len r
    unfold cutS
    by_cases hc : c = 47
    · rw [if_pos hc, List.length_cons, ih, hc, List.count_cons_self]
    · rw [if_neg hc, List.count_cons_of_ne hc, ← ih]
      split
      · rename_i h; exact absurd h (cutS_ne r)
      · rename_i h; rw [h]; rfl
open Go.Lib in
theorem splitK_cut : ∀ (l : Bs) (k : Nat), l.count 47 ≤ k → splitK [47] 0 k l = cutS l
  | [], k, _ => by
    cases k with
    | zero => rfl
    | succ k => rfl
  | c :: r, k, hk => by
    by_cases hc : c = 47
    · subst hc
      rw [List.count_cons_self] at hk
      obtain ⟨k', rfl⟩ : ∃ k', k = k' + 1 := ⟨k - 1, by omega⟩
      have hi : index (47 :: r) [47] = 0 := by simp [index, List.isPrefixOf]
      rw [splitK, hi]
      simp only [show ((0 : Int) == -1) = false from rfl, Bool.false_eq_true, if_false]
      rw [cutS, if_pos rfl]
      have := splitK_cut r k' (by omega)
      simpa using this
    · rw [List.count_cons_of_ne hc] at hk
      have hi : index (c :: r) [47] = if index r [47] == -1 then -1 else index r [47] + 1 := by
        rw [index, if_neg]
        simp [List.isPrefixOf]
        exact fun e => hc e.symm
      have ih := splitK_cut r k hk
      rw [cutS, if_neg hc, ← ih]
      rcases index_spec r [47] with ⟨h1, _⟩ | ⟨i, h1, h2, h3, h4⟩
      · rw [h1] at hi
        simp only [BEq.rfl, if_true] at hi
        cases k with
        | zero => rfl
        | succ k => simp [splitK, hi, h1]
      · have hp : 0 < k := by
          have hc1 : r.count 47 ≠ 0 := by
            intro h0
            have hm := index_spec r [47]
            have hz : Lib.count r [47] = 0 := by rw [count_one]; exact h0
            have h5 := count_hit (s := r) (sub := [47]) (i := i) (by simp) h1
            omega
          omega
        obtain ⟨k', rfl⟩ : ∃ k', k = k' + 1 := ⟨k - 1, by omega⟩
        have hne : (index r [47] == -1) = false := by rw [h1, beq_eq_false_iff_ne]; omega
        rw [hne] at hi
        simp only [Bool.false_eq_true, if_false] at hi
        have hne2 : (index (c :: r) [47] == -1) = false := by rw [hi, h1, beq_eq_false_iff_ne]; omega
        rw [splitK, splitK, hne, hne2]
        simp only [Bool.false_eq_true, if_false, List.length_singleton, Nat.add_zero]
        rw [hi, h1]
        have e1 : ((i : Int) + 1).toNat = i + 1 := by omega
        have e2 : (i : Int).toNat = i := by omega
        rw [e1, e2, k_f, k_e]
open Go.Lib in
theorem split_cut (s : ByteArray) : (splitB ⟨#[47]⟩ 0 (countB s ⟨#[47]⟩) s).map (fun b => b.data.toList) = cutS s.data.toList := by
  rw [splitB_data]
  exact splitK_cut _ _ (by unfold countB; rw [show (⟨#[47]⟩ : ByteArray).data.toList = [47] from rfl, count_one]; exact Nat.le_refl _)
open Go.Lib in
theorem count_cut (s : ByteArray) : countB s ⟨#[47]⟩ + 1 = (cutS s.data.toList).length := by
  rw [cutS_len]
  unfold countB
  rw [show (⟨#[47]⟩ : ByteArray).data.toList = [47] from rfl, count_one]
theorem goodP_len {p : Bs} (h : goodP p = true) : p.length ≤ 200 := by
  cases p with
  | nil => simp
  | cons c r =>
    unfold goodP at h
    simp only [Bool.and_eq_true, decide_eq_true_eq] at h
    simpa using h.1.1.2
end Go.Av

namespace Go.Av
open Go.RowKit
def placeS (l : List Bs) (s : Bs) : Nat := (l.takeWhile fun y => decide (y < s)).length
def insS (l : List Bs) (s : Bs) : List Bs := l.take (placeS l s) ++ s :: l.drop (placeS l s)
def delS (l : List Bs) (s : Bs) : List Bs := l.take (placeS l s) ++ l.drop (placeS l s + 1)
def hasS (l : List Bs) (s : Bs) : Bool := decide (l[placeS l s]? = some s)
def RiseS (l : List Bs) : Prop := l.Pairwise (· < ·)
theorem placeS_le (l : List Bs) (s : Bs) : placeS l s ≤ l.length := by
  unfold placeS
  exact (List.takeWhile_sublist _).length_le
theorem place_cons_lt {x s : Bs} {l : List Bs} (h : x < s) : placeS (x :: l) s = placeS l s + 1 := by
  unfold placeS
  rw [List.takeWhile_cons_of_pos (by simpa using h)]
  rfl
theorem place_cons_ge {x s : Bs} {l : List Bs} (h : ¬ x < s) : placeS (x :: l) s = 0 := by
  unfold placeS
  rw [List.takeWhile_cons_of_neg (by simpa using h)]
  rfl
theorem place_lt : ∀ {l : List Bs} {s : Bs} {j : Nat} (hj : j < l.length), j < placeS l s → l[j] < s
  | x :: l, s, j, hj, h => by
    by_cases hx : x < s
    · rw [place_cons_lt hx] at h
      cases j with
      | zero => exact hx
      | succ j => exact place_lt (l := l) (by simpa using hj) (by omega)
    · rw [place_cons_ge hx] at h; omega
theorem place_ge : ∀ {l : List Bs} {s : Bs}, RiseS l → ∀ {j : Nat} (hj : j < l.length), placeS l s ≤ j → ¬ l[j] < s
  | x :: l, s, hr, j, hj, h => by
    have hr2 := List.pairwise_cons.1 hr
    by_cases hx : x < s
    · rw [place_cons_lt hx] at h
      cases j with
      | zero => omega
      | succ j => exact place_ge (l := l) hr2.2 (by simpa using hj) (by omega)
    · cases j with
      | zero => exact hx
      | succ j => exact fun hl => hx (List.lt_trans (hr2.1 _ (List.getElem_mem (by simpa using hj))) hl)
theorem place_of {l : List Bs} {s : Bs} {k : Nat} (hk : k ≤ l.length) (h1 : ∀ j (hj : j < l.length), j < k → l[j] < s) (h2 : ∀ h : k < l.length, ¬ l[k] < s) : placeS l s = k := by
  have hp := placeS_le l s
  by_cases h : placeS l s < k
  · have hl : placeS l s < l.length := by omega
    exfalso
    have hx := h1 _ hl h
    have : ∀ (l : List Bs) (hl : placeS l s < l.length), ¬ l[placeS l s] < s := by
      intro l
      induction l with
      | nil => intro hl; simp at hl
      | cons x l ih =>
        intro hl
        by_cases hx : x < s
        · have e := place_cons_lt (l := l) hx
          have : placeS l s < l.length := by rw [e] at hl; simpa using hl
          have := ih this
          simp only [e, List.getElem_cons_succ]
          exact this
        · have e := place_cons_ge (l := l) hx
          simp only [e, List.getElem_cons_zero]
          exact hx
    exact this l hl hx
  · by_cases h' : k < placeS l s
    · have hl : k < l.length := by omega
      exact absurd (place_lt hl h') (h2 hl)
    · omega
theorem has_mem {l : List Bs} {s : Bs} (hr : RiseS l) : hasS l s = true ↔ s ∈ l := by
  unfold hasS
  rw [decide_eq_true_eq]
  constructor
  · exact fun h => List.mem_of_getElem? h
  · intro h
    obtain ⟨j, hj, rfl⟩ := List.getElem_of_mem h
    have : placeS l l[j] = j := place_of (Nat.le_of_lt hj) (fun i hi hij => List.pairwise_iff_getElem.1 hr i j hi hj hij) (fun _ => List.lt_irrefl _)
    rw [this, List.getElem?_eq_getElem hj]
theorem not_lt_gt {a b : Bs} (h : ¬ a < b) (hne : a ≠ b) : b < a := by
  rcases (List.not_lt.1 h : b ≤ a) with h2
  exact Classical.byContradiction fun h3 => hne (List.le_antisymm (List.not_lt.1 h3) h2)
theorem ins_rise {l : List Bs} {s : Bs} (hr : RiseS l) (hn : hasS l s = false) : RiseS (insS l s) := by
  have hne : s ∉ l := fun h => by rw [(has_mem hr).2 h] at hn; cases hn
  unfold insS RiseS
  rw [List.pairwise_append]
  refine ⟨List.Pairwise.sublist (List.take_sublist _ _) hr, ?_, fun a ha b hb => ?_⟩
  · rw [List.pairwise_cons]
    refine ⟨fun b hb => ?_, List.Pairwise.sublist (List.drop_sublist _ _) hr⟩
    obtain ⟨j, hj, rfl⟩ := List.getElem_of_mem hb
    rw [List.getElem_drop]
    rw [List.length_drop] at hj
    have hj2 : placeS l s + j < l.length := by omega
    exact not_lt_gt (place_ge hr hj2 (by omega)) fun e => hne (e ▸ List.getElem_mem hj2)
  · have h1 : a < s := by
      obtain ⟨j, hj, rfl⟩ := List.getElem_of_mem ha
      rw [List.getElem_take]
      rw [List.length_take] at hj
      exact place_lt (by omega) (by omega)
    rcases List.mem_cons.1 hb with rfl | hb
    · exact h1
    · obtain ⟨i, hi, rfl⟩ := List.getElem_of_mem ha
      obtain ⟨j, hj, rfl⟩ := List.getElem_of_mem hb
      rw [List.getElem_take, List.getElem_drop]
      rw [List.length_take] at hi
      rw [List.length_drop] at hj
      exact List.pairwise_iff_getElem.1 hr _ _ _ _ (by omega)
theorem del_rise {l : List Bs} {s : Bs} (hr : RiseS l) : RiseS (delS l s) := by
  unfold delS
  have : (l.take (placeS l s) ++ l.drop (placeS l s + 1)).Sublist l := by
    conv => rhs; rw [← List.take_append_drop (placeS l s) l]
    exact (List.Sublist.refl _).append (List.drop_sublist_drop_left _ (Nat.le_succ _))
  exact List.Pairwise.sublist this hr
theorem ins_len (l : List Bs) (s : Bs) : (insS l s).length = l.length + 1 := by
  have := placeS_le l s
  unfold insS
  simp only [List.length_append, List.length_take, List.length_cons, List.length_drop]
  omega
theorem del_len {l : List Bs} {s : Bs} (h : hasS l s = true) : (delS l s).length + 1 = l.length := by
  have hp : placeS l s < l.length := by
    unfold hasS at h
    rw [decide_eq_true_eq] at h
    exact (List.getElem?_eq_some_iff.1 h).1
  unfold delS
  simp only [List.length_append, List.length_take, List.length_drop]
  omega
theorem bs_place {l : List Bs} {s : Bs} (hr : RiseS l) (less : Nat → Bool) (h : ∀ j (hj : j < l.length), less j = decide (l[j] < s)) (n : Nat) (hn : n = l.length) : Lib.bsGo less n 0 n = placeS l s := by
  subst hn
  have hp := placeS_le l s
  rw [show Lib.bsGo less l.length 0 l.length = Lib.bsGo (fun t => decide (t < placeS l s)) l.length 0 l.length from ?_]
  · exact Lib.bsGo_spec _ (placeS l s) (fun t ht => by simpa using ht) (fun t ht => by simpa using ht) _ _ _ (by omega) (by omega) hp
  · have : ∀ (f lo hi : Nat), hi ≤ l.length → Lib.bsGo less f lo hi = Lib.bsGo (fun t => decide (t < placeS l s)) f lo hi := by
      intro f
      induction f with
      | zero => intro lo hi _; rfl
      | succ f ih =>
        intro lo hi hhi
        unfold Lib.bsGo
        by_cases hlt : lo < hi
        · rw [if_pos hlt, if_pos hlt]
          have hm : (lo + hi) / 2 < l.length := by omega
          have : less ((lo + hi) / 2) = decide ((lo + hi) / 2 < placeS l s) := by
            rw [h _ hm]
            apply decide_eq_decide.2
            constructor
            · intro hx
              exact Classical.byContradiction fun hc => place_ge hr hm (by omega) hx
            · exact fun hx => place_lt hm hx
          rw [this, ih _ _ hhi, ih _ _ (by omega)]
        · rw [if_neg hlt, if_neg hlt]
    exact this _ _ _ (Nat.le_refl _)
end Go.Av

namespace Go.Proofs.YtbakgoncfggidaaGreatDoor
open Go.RowKit Go.Av
theorem row_cell {w : World} {a : Option Addr} {n c : Nat} {xs : List Value} {E : List Nat} (h : ReadRow w 1 (.slice a n c) xs E) : n = xs.length ∧ n ≤ c ∧ c ≤ maxLen ∧ (0 < n → ∃ x : Addr, a = some x ∧ x.spot = none ∧ ∀ (i : Nat) u, xs[i]? = some u → w.cell? (x.add i) = some u) := by
  obtain ⟨a', n', c', hv, hl, hn, hc, ha, hr⟩ := h
  cases hv
  refine ⟨by simpa using hl.symm, hn, hc, fun h0 => ?_⟩
  rcases hr with ⟨h1, _⟩ | ⟨g, off, h1, h2, h3, h4⟩
  · subst h1; simp at hl; omega
  · exact ⟨⟨g, off, none⟩, h1, rfl, fun i u hu => by rw [Addr.add_lit]; exact h4 i u hu⟩
def RecsAt (w : World) (v : Value) (ls : List Bs) (D : List Nat) : Prop :=
  ∃ (rows : List (Value × Bs × List Nat)) (D0 : List Nat), rows.map (·.2.1) = ls ∧ D = D0 ++ rows.flatMap (·.2.2) ∧ OwnRow w 1 v (rows.map (·.1)) D0 ∧
    ∀ r ∈ rows, ReadRow w 1 r.1 (r.2.1.map bv) r.2.2 ∧ ∀ x ∈ r.2.2, x ∉ D0
theorem RecsAt.frame {w w' : World} {v : Value} {ls : List Bs} {D : List Nat} (h : RecsAt w v ls D) (hs : Same w w' D) : RecsAt w' v ls D := by
  obtain ⟨rows, D0, h1, h2, h3, h4⟩ := h
  refine ⟨rows, D0, h1, h2, h3.frame (fun b hb => hs b (by rw [h2]; simp [hb])), fun r hr => ⟨(h4 r hr).1.frame (fun b hb => hs b (by rw [h2]; simp only [List.mem_append, List.mem_flatMap]; exact .inr ⟨r, hr, hb⟩)), (h4 r hr).2⟩⟩
theorem RecsAt.lt {w : World} {v : Value} {ls : List Bs} {D : List Nat} (h : RecsAt w v ls D) : ∀ b ∈ D, b < w.heap.size := by
  obtain ⟨rows, D0, h1, h2, h3, h4⟩ := h
  intro b hb
  rw [h2] at hb
  simp only [List.mem_append, List.mem_flatMap] at hb
  rcases hb with hb | ⟨r, hr, hb⟩
  · exact h3.lt b hb
  · exact (h4 r hr).1.lt b hb
theorem RecsAt.nil (w : World) : RecsAt w (.slice none 0 0) [] [] := ⟨[], [], rfl, rfl, OwnRow.nil _ _, by simp⟩
theorem RecsAt.slice {w : World} {v : Value} {ls : List Bs} {D : List Nat} (h : RecsAt w v ls D) : ∃ a c, v = .slice a ls.length c ∧ ls.length ≤ c ∧ c ≤ maxLen := by
  obtain ⟨rows, D0, h1, h2, ⟨a, n, c, hv, hl, hn, hc, _⟩, h4⟩ := h
  have : ls.length = n := by rw [← h1]; simpa using hl
  subst this
  exact ⟨a, c, hv, hn, hc⟩
theorem ownCell {w : World} {a : Option Addr} {n c : Nat} {xs : List Value} {D : List Nat} (h : OwnRow w 1 (.slice a n c) xs D) {i : Nat} {x : Value} (hx : xs[i]? = some x) :
    ∃ y : Addr, a = some y ∧ y.spot = none ∧ w.cell? (y.add i) = some x := by
  obtain ⟨E, hr, _⟩ := h.read
  obtain ⟨hn, _, _, hc⟩ := row_cell hr
  obtain ⟨y, hy, hs, hcc⟩ := hc (by have := (List.getElem?_eq_some_iff.1 hx).1; omega)
  exact ⟨y, hy, hs, hcc i x hx⟩
theorem upd_cell {w w' : World} {D' : List Nat} (hu : Upd w w' [] D') {a : Addr} {v : Value} (hc : w.cell? a = some v) : w'.cell? a = some v := by
  have hlt : a.block < w.heap.size := by
    cases hh : w.heap[a.block]? with
    | none => rw [World.cell?, hh] at hc; cases hc
    | some o => exact lt_of_heap hh
  rw [World.cell?_of_block (hu.keep _ hlt (by simp))]; exact hc
theorem RecsAt.take {w : World} {a : Option Addr} {n c : Nat} {ls : List Bs} {D : List Nat} (h : RecsAt w (.slice a n c) ls D) {k : Nat} (hk : k ≤ n) : ∃ D', RecsAt w (.slice a k c) (ls.take k) D' ∧ ∀ x ∈ D', x ∈ D := by
  obtain ⟨rows, D0, rfl, rfl, ho, hr⟩ := h
  have h1 := (ho.take hk).1
  rw [Nat.mul_one] at h1
  refine ⟨D0 ++ (rows.take k).flatMap (·.2.2), ⟨rows.take k, D0, by rw [List.map_take], rfl, by rw [List.map_take]; exact h1, fun r hh => hr r (List.mem_of_mem_take hh)⟩, fun x hx => ?_⟩
  simp only [List.mem_append, List.mem_flatMap] at hx ⊢
  rcases hx with hx | ⟨q, hq, hx⟩
  · exact .inl hx
  · exact .inr ⟨q, List.mem_of_mem_take hq, hx⟩
end Go.Proofs.YtbakgoncfggidaaGreatDoor

namespace Go.Proofs.YtbakgoncfggidaaGreatDoor
open Go.RowKit
end Go.Proofs.YtbakgoncfggidaaGreatDoor

namespace Go.Proofs.YtbakgoncfggidaaGreatDoor
open Go.RowKit Go.Av
set_option maxHeartbeats 1000000 in
theorem name_any (s : ByteArray) (w : World) (hs : s.size ≤ maxLen) :
    Calls Tryz.prog 226 #[.string s] w fun e w' => e = .returned (.bool (nameS s.data.toList)) ∧ w' = w := by
  unfold maxLen at hs
  go_enter Tryz.func226, Tryz.ntmps226
  go_wp2_with fail
  go_loop [6] (fun i => ∃ p : Nat, p ≤ s.size ∧ i = .int .i64 p ∧ (s.data.toList.take p).all okCh = true) (fun i => s.size - (intOf i).toNat)
  case atStart => exact ⟨0, Nat.zero_le _, rfl, rfl⟩
  case round =>
    obtain ⟨p, hp, rfl, ha⟩ := hrel
    by_cases hlt : p < s.size
    · have hts : s.data.toList.take (p + 1) = s.data.toList.take p ++ [s[p]] := by
        rw [List.take_succ_eq_append_getElem (by simpa using hlt)]; rfl
      have hok : okCh s[p] = !(decide ((s[p].toNat : Int) < 33) || decide (126 < (s[p].toNat : Int))) := by
        unfold okCh
        congr 2
        · rw [decide_eq_decide, UInt8.lt_iff_toNat_lt, show (33 : UInt8).toNat = 33 from rfl]; omega
        · rw [decide_eq_decide, UInt8.lt_iff_toNat_lt, show (126 : UInt8).toNat = 126 from rfl]; omega
      have hmem : s[p] ∈ s.data.toList := by
        have : s.data.toList[p]'(by simpa using hlt) = s[p] := rfl
        rw [← this]; exact List.getElem_mem _
      have HX := Lib.hid (show _ ∧ _ ∧ _ ∧ _ from ⟨hts, ha, hok, hmem⟩)
      clear hts ha hok hmem
      have hno : okCh s[p] = false → nameS s.data.toList = false := fun h => by
        unfold nameS
        have : s.data.toList.all okCh = false := List.all_eq_false.2 ⟨_, HX.out.2.2.2, by simp [h]⟩
        rw [this]; rfl
      have HN := Lib.hid hno
      clear hno
      by_cases h1 : (s[p].toNat : Int) < 33
      · go_wp2_with fail
        go_ret
        rw [HN.out (by rw [HX.out.2.2.1]; simp [h1])]
        exact ⟨rfl, rfl⟩
      by_cases h2 : 126 < (s[p].toNat : Int)
      · go_wp2_with fail
        go_ret
        rw [HN.out (by rw [HX.out.2.2.1]; simp [h2])]
        exact ⟨rfl, rfl⟩
      go_wp2_with fail
      go_round
      case rel =>
        refine ⟨p + 1, by omega, by go_num, ?_⟩
        rw [HX.out.1, List.all_append, HX.out.2.1, List.all_cons, HX.out.2.2.1]
        simp [h1, h2]
      case measure => simp [intOf]; omega
    obtain rfl : p = s.size := by omega
    rw [List.take_of_length_le (by simp)] at ha
    have hsz : s.size = s.data.toList.length := by simp
    have HA := Lib.hid (show _ ∧ _ from ⟨ha, hsz⟩)
    clear ha hsz
    have hT : s.toList = s.data.toList := Go.Lib.toList_data s
    have hnm : nameS s.data.toList = (decide (1 ≤ s.size) && decide (s.size ≤ 40) && !(s.toList == [46]) && !(s.toList == [46, 46])) := by
      unfold nameS
      rw [HA.out.1, ← HA.out.2, hT]
      rfl
    have HN := Lib.hid hnm
    clear hnm hT
    by_cases h1 : (1 : Int) ≤ s.size
    case neg =>
      go_wp2_with fail
      go_ret
      rw [HN.out, show decide (1 ≤ s.size) = false from decide_eq_false (by omega)]
      exact ⟨rfl, rfl⟩
    by_cases h2 : (s.size : Int) ≤ 40
    case neg =>
      go_wp2_with fail
      go_ret
      rw [HN.out, show decide (s.size ≤ 40) = false from decide_eq_false (by omega), Bool.and_false]
      exact ⟨rfl, rfl⟩
    have hd1 : decide (1 ≤ s.size) = true := decide_eq_true (by omega)
    have hd2 : decide (s.size ≤ 40) = true := decide_eq_true (by omega)
    have HD := Lib.hid (show _ ∧ _ from ⟨hd1, hd2⟩)
    clear hd1 hd2
    go_wp2_with fail
    all_goals
      go_ret
      refine ⟨?_, rfl⟩
      rw [HN.out, HD.out.1, HD.out.2]
      simp [*]
end Go.Proofs.YtbakgoncfggidaaGreatDoor
