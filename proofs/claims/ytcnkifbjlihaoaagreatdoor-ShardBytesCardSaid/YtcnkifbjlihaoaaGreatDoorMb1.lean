/-
  Texts of this claim, laid together.
-/
import Derived.WalkKit
import Derived.WalkSpells
import Derived.WalkLawsBesides
import Derived.Deep.AppendSrc
import Derived.Deep.QuietTactic
import Derived.BigQuiet
import Derived.Lib.Hide
import Derived.Maps.RangeWalk
import Derived.MapKept
import Derived.Laws.ResultCell
import Derived.Laws.Rows
import Derived.OrdersHeld
import Derived.Deep.DeepMust
import Derived.Deep.MidRow
import Derived.Sort.Walk0
import Derived.Deep.Slices
import Derived.Great.Walk
import Derived.Great.FillDense
import Derived.Test.YtcnkifbjlihaoaaGreatDoorProg
import Derived.Test.YtcnkifbjlihaoaaGreatDoorRows
import Derived.Deep.LoopGhost
import Derived.Lib.SplitLaws
set_option linter.unusedVariables false
set_option linter.unusedSimpArgs false
namespace Go.Av
theorem k_a {α : Type _} (l : List α) (i : Nat) (a : α) : l.toArray.setIfInBounds i a = (l.set i a).toArray := List.setIfInBounds_toArray ..
theorem k_b {α : Type _} {l : List α} {x a : α} : (x :: l).set 0 a = a :: l := rfl
theorem k_c {α : Type _} {l : List α} {x a : α} {n : Nat} : (x :: l).set (n + 1) a = x :: l.set n a := rfl
theorem k_d {α : Type _} {l : List α} : l.drop 0 = l := rfl
theorem k_e {α : Type _} {a : α} {l : List α} {i : Nat} : (a :: l).drop (i + 1) = l.drop i := rfl
theorem k_f {α : Type _} {a : α} {l : List α} {i : Nat} : (a :: l).take (i + 1) = a :: l.take i := rfl
theorem k_g {α : Type _} {l : List α} : l.take 0 = [] := rfl
theorem k_h {α : Type _} {l : List α} : l.toArray.toList = l := rfl
theorem k_i {α : Type _} {l : List α} {i : Nat} : l.toArray[i]? = l[i]? := List.getElem?_toArray
theorem k_j {α : Type _} {a : α} {l : List α} {i : Nat} : (a :: l)[i + 1]? = l[i]? := List.getElem?_cons_succ
theorem k_k {α : Type _} {a : α} {l : List α} : (a :: l)[0]? = some a := List.getElem?_cons_zero
theorem k_s {α : Type _} {a : α} {l : List α} : a ∈ a :: l := List.mem_cons_self ..
theorem k_m {α : Type _} {y a : α} {l : List α} (h : a ∈ l) : a ∈ y :: l := List.mem_cons_of_mem y h
theorem k_n {α : Type _} (y : α) {a : α} {l : List α} (h : a ∈ l) : a ∈ y :: l := List.mem_cons_of_mem y h
end Go.Av

namespace Go.Av
open Go.RowKit
def Same (w w' : World) (E : List Nat) : Prop := ∀ b ∈ E, w'.heap[b]? = w.heap[b]?
structure Upd (w w' : World) (D D' : List Nat) : Prop where
 os : w'.os = w.os
 tape : w'.tape = w.tape
 output : w'.output = w.output
 size : w.heap.size ≤ w'.heap.size
 keep : ∀ b, b < w.heap.size → b ∉ D → w'.heap[b]? = w.heap[b]?
 new : ∀ b ∈ D', b ∈ D ∨ (w.heap.size ≤ b ∧ b < w'.heap.size)
theorem Upd.refl (w : World) (D : List Nat) : Upd w w D D := ⟨rfl, rfl, rfl, Nat.le_refl _, fun _ _ _ => rfl, fun _ h => .inl h⟩
theorem Upd.trans {w w1 w2 : World} {D D1 D2 : List Nat} (h : Upd w w1 D D1) (k : Upd w1 w2 D1 D2) : Upd w w2 D D2 := by
 refine ⟨k.os.trans h.os, k.tape.trans h.tape, k.output.trans h.output, Nat.le_trans h.size k.size, fun b hb hn => ?_, fun b hb => ?_⟩
 ·rw [k.keep b (Nat.lt_of_lt_of_le hb h.size) (fun hm => ?_), h.keep b hb hn]
  rcases h.new b hm with h1 | h1
  ·exact hn h1
  ·omega
 ·rcases k.new b hb with h1 | h1
  ·rcases h.new b h1 with h2 | h2
   ·exact .inl h2
   ·exact .inr ⟨h2.1, Nat.lt_of_lt_of_le h2.2 k.size⟩
  ·exact .inr ⟨Nat.le_trans h.size h1.1, h1.2⟩
theorem Upd.mono {w w' : World} {D D' E E' : List Nat} (h : Upd w w' D D') (hD : ∀ b ∈ D, b ∈ E) (hE : ∀ b ∈ E', b ∈ D' ∨ b ∈ E) : Upd w w' E E' :=
 ⟨h.os, h.tape, h.output, h.size, fun b hb hn => h.keep b hb (fun hm => hn (hD b hm)), fun b hb => by
  rcases hE b hb with h1 | h1
  ·rcases h.new b h1 with h2 | h2
   ·exact .inl (hD b h2)
   ·exact .inr h2
  ·exact .inl h1⟩
theorem Upd.same {w w' : World} {D D' E : List Nat} (h : Upd w w' D D') (hlt : ∀ b ∈ E, b < w.heap.size) (hE : ∀ b ∈ E, b ∉ D) : Same w w' E :=
 fun b hb => h.keep b (hlt b hb) (hE b hb)
theorem Upd.below {w w' : World} {D' : List Nat} (h : Upd w w' [] D') : Below w.heap.size w w' := ⟨h.os, h.tape, h.output, h.size, fun b hb => h.keep b hb (by simp)⟩
theorem Upd.of_below {w w' : World} (h : Below w.heap.size w w') : Upd w w' [] [] := ⟨h.os, h.tape, h.output, h.size, fun b hb _ => h.block b hb, fun _ h => .inl h⟩
theorem Upd.drew {w w' : World} {D D' : List Nat} (h : Upd w w' D D') : Upd w w'.drew D D' := ⟨h.os, h.tape, h.output, h.size, h.keep, h.new⟩
theorem Upd.drewN {w w' : World} {D D' : List Nat} (h : Upd w w' D D') (n : Nat) : Upd w (w'.drewN n) D D' := ⟨h.os, h.tape, h.output, h.size, h.keep, h.new⟩
theorem Upd.drewL {w w' : World} {D D' : List Nat} (h : Upd w.drew w' D D') : Upd w w' D D' := ⟨h.os, h.tape, h.output, h.size, h.keep, h.new⟩
theorem Upd.alloc1 (w : World) (o : Obj) (D : List Nat) : Upd w (w.alloc o) D (w.heap.size :: D) :=
 ⟨rfl, rfl, rfl, by simp, fun k hk _ => Below.heap_alloc w o k hk, fun b hb => by
  rcases List.mem_cons.1 hb with rfl | h
  ·exact .inr ⟨Nat.le_refl _, by simp⟩
  ·exact .inl h⟩
theorem Upd.alloc0 (w : World) (o : Obj) (D : List Nat) : Upd w (w.alloc o) D D :=
 ⟨rfl, rfl, rfl, by simp, fun k hk _ => Below.heap_alloc w o k hk, fun _ h => .inl h⟩
theorem Upd.alloc {w w' : World} {D D' : List Nat} (h : Upd w w' D D') (o : Obj) : Upd w (w'.alloc o) D D' := h.trans (Upd.alloc0 _ _ _)
theorem Upd.set1 (w : World) (a : Addr) (v : Value) (D : List Nat) (h : a.block ∈ D) : Upd w (w.setCell a v) D D :=
 ⟨rfl, rfl, rfl, by simp, fun k _ hn => heap_setCell_other w a k v (fun e => hn (e ▸ h)), fun _ h => .inl h⟩
theorem Upd.setCell {w w' : World} {D D' : List Nat} (h : Upd w w' D D') (a : Addr) (v : Value) (ha : a.block ∈ D') : Upd w (w'.setCell a v) D D' := h.trans (Upd.set1 _ _ _ _ ha)
theorem Upd.lt {w w' : World} {D D' : List Nat} (h : Upd w w' D D') (hD : ∀ b ∈ D, b < w.heap.size) : ∀ b ∈ D', b < w'.heap.size := fun b hb => by
 rcases h.new b hb with h1 | h1
 ·exact Nat.lt_of_lt_of_le (hD b h1) h.size
 ·exact h1.2
theorem ya6' {w : World} {b : Nat} {o : Obj} (h : w.heap[b]? = some o) : b < w.heap.size := (Array.getElem?_eq_some_iff.1 h).1
theorem yaa' {w : World} {b : Nat} {cs : Array Value} {T : TypeId} {fr : Nat × Nat} (h : w.heap[b]? = some (.cells cs T fr)) (i : Nat) {v : Value} (hv : cs[i]? = some v) : w.cell? ⟨b, i, none⟩ = some v := by
 rw [cell_of_row w b i cs T fr h, hv]
theorem yae' {w : World} {b : Nat} {cs : Array Value} {T : TypeId} (h : w.heap[b]? = some (.cells cs T (0, 0))) (i : Nat) : w.frozen? ⟨b, i, none⟩ = false := frozen_of_row w b i cs T h
theorem ybe' (g k : Nat) (h : k ≠ g) : ∀ (vs : List Value) (o : Nat) (w : World), (w.setCells g o vs).heap[k]? = w.heap[k]?
 | [], _, _ => rfl
 | v :: r, o, w => by rw [World.setCells, ybe' g k h r, heap_setCell_other _ _ _ _ h]
theorem yca' (g : Nat) : ∀ (vs : List Value) (o : Nat) (w : World), (w.setCells g o vs).heap.size = w.heap.size
 | [], _, _ => rfl
 | v :: r, o, w => by rw [World.setCells, yca' g r]; simp
theorem yb9' (g : Nat) : ∀ (vs : List Value) (o : Nat) (w : World), (w.setCells g o vs).os = w.os ∧ (w.setCells g o vs).tape = w.tape ∧ (w.setCells g o vs).output = w.output
 | [], _, _ => ⟨rfl, rfl, rfl⟩
 | v :: r, o, w => by rw [World.setCells]; exact yb9' g r _ _
theorem ybf' (g : Nat) (T : TypeId) : ∀ (vs : List Value) (o : Nat) (w : World) (cur : Array Value), w.heap[g]? = some (.cells cur T (0, 0)) → o + vs.length ≤ cur.size →
  (w.setCells g o vs).heap[g]? = some (.cells (cur.toList.take o ++ vs ++ cur.toList.drop (o + vs.length)).toArray T (0, 0))
 | [], o, w, cur, h, _ => by simp [World.setCells, h]
 | v :: r, o, w, cur, h, hl => by
  have ho : o < cur.size := by simp at hl; omega
  rw [World.setCells, ybf' g T r (o + 1) _ (cur.setIfInBounds o v) (heap_setCell_same w g o cur T v h) (by simp at hl ⊢; omega)]
  congr 3
  have e := list_seg_step cur.toList o v r (by simp at hl ⊢; omega)
  simpa [Array.toList_setIfInBounds, Nat.add_assoc] using e
def OwnRow (w : World) (size : Nat) (v : Value) (xs : List Value) (D : List Nat) : Prop :=
 ∃ a n c, v = .slice a n c ∧ xs.length = n * size ∧ n ≤ c ∧ c ≤ maxLen ∧ (a = none → c = 0) ∧
  ((c = 0 ∧ D = []) ∨ ∃ g off cur T, a = some ⟨g, off, none⟩ ∧ D = [g] ∧ w.heap[g]? = some (.cells cur T (0, 0)) ∧ off + c * size ≤ cur.size ∧ (cur.toList.drop off).take (n * size) = xs)
def ReadRow (w : World) (size : Nat) (v : Value) (xs : List Value) (D : List Nat) : Prop :=
 ∃ a n c, v = .slice a n c ∧ xs.length = n * size ∧ n ≤ c ∧ c ≤ maxLen ∧ (a = none → c = 0) ∧
  ((xs = [] ∧ D = []) ∨ ∃ g off, a = some ⟨g, off, none⟩ ∧ D = [g] ∧ g < w.heap.size ∧ ∀ (i : Nat) x, xs[i]? = some x → w.cell? ⟨g, off + i, none⟩ = some x)
theorem OwnRow.frame {w w' : World} {size : Nat} {v : Value} {xs : List Value} {D : List Nat} (h : OwnRow w size v xs D) (hs : Same w w' D) : OwnRow w' size v xs D := by
 obtain ⟨a, n, c, hv, hl, hn, hc, ha, hr⟩ := h
 refine ⟨a, n, c, hv, hl, hn, hc, ha, ?_⟩
 rcases hr with hr | ⟨g, off, cur, T, h1, h2, h3, h4⟩
 ·exact .inl hr
 ·exact .inr ⟨g, off, cur, T, h1, h2, by rw [hs g (by simp [h2])]; exact h3, h4⟩
theorem ReadRow.frame {w w' : World} {size : Nat} {v : Value} {xs : List Value} {D : List Nat} (h : ReadRow w size v xs D) (hs : Same w w' D) : ReadRow w' size v xs D := by
 obtain ⟨a, n, c, hv, hl, hn, hc, ha, hr⟩ := h
 refine ⟨a, n, c, hv, hl, hn, hc, ha, ?_⟩
 rcases hr with hr | ⟨g, off, h1, h2, h3, h4⟩
 ·exact .inl hr
 ·have e := hs g (by simp [h2])
  refine .inr ⟨g, off, h1, h2, ?_, fun i x hx => by rw [World.cell?_of_block (w := w) (w' := w') e]; exact h4 i x hx⟩
  exact ya6' (o := w.heap[g]) (by rw [e, Array.getElem?_eq_getElem h3])
theorem OwnRow.lt {w : World} {size : Nat} {v : Value} {xs : List Value} {D : List Nat} (h : OwnRow w size v xs D) : ∀ b ∈ D, b < w.heap.size := by
 obtain ⟨a, n, c, hv, hl, hn, hc, ha, ⟨_, rfl⟩ | ⟨g, off, cur, T, h1, rfl, h3, h4⟩⟩ := h
 ·simp
 ·intro b hb
  simp at hb
  subst hb
  exact ya6' h3
theorem ReadRow.lt {w : World} {size : Nat} {v : Value} {xs : List Value} {D : List Nat} (h : ReadRow w size v xs D) : ∀ b ∈ D, b < w.heap.size := by
 obtain ⟨a, n, c, hv, hl, hn, hc, ha, ⟨_, rfl⟩ | ⟨g, off, h1, rfl, h3, h4⟩⟩ := h
 ·simp
 ·intro b hb
  simp at hb
  subst hb
  exact h3
theorem OwnRow.nodup {w : World} {size : Nat} {v : Value} {xs : List Value} {D : List Nat} (h : OwnRow w size v xs D) : D.Nodup := by
 obtain ⟨a, n, c, hv, hl, hn, hc, ha, ⟨_, rfl⟩ | ⟨g, off, cur, T, h1, rfl, h3, h4⟩⟩ := h <;> simp
theorem OwnRow.read {w : World} {size : Nat} {v : Value} {xs : List Value} {D : List Nat} (h : OwnRow w size v xs D) : ∃ E, ReadRow w size v xs E ∧ ∀ b ∈ E, b ∈ D := by
 obtain ⟨a, n, c, hv, hl, hn, hc, ha, hr⟩ := h
 rcases hr with ⟨rfl, rfl⟩ | ⟨g, off, cur, T, h1, h2, h3, h4, h5⟩
 ·obtain rfl : n = 0 := by omega
  exact ⟨[], ⟨a, 0, 0, hv, hl, hn, hc, ha, .inl ⟨by simpa using hl, rfl⟩⟩, by simp⟩
 ·refine ⟨D, ⟨a, n, c, hv, hl, hn, hc, ha, .inr ⟨g, off, h1, h2, ya6' h3, fun i x hx => ?_⟩⟩, fun _ h => h⟩
  rw [cell_of_row w g (off + i) cur T _ h3]
  rw [← h5, List.getElem?_take] at hx
  split at hx
  ·rw [List.getElem?_drop] at hx; simpa using hx
  ·cases hx
theorem OwnRow.nil (w : World) (size : Nat) : OwnRow w size (.slice none 0 0) [] [] := ⟨none, 0, 0, rfl, by simp, Nat.le_refl _, by decide, fun _ => rfl, .inl ⟨rfl, rfl⟩⟩
theorem OwnRow.zero (w : World) (size : Nat) (a : Option Addr) : OwnRow w size (.slice a 0 0) [] [] := ⟨a, 0, 0, rfl, by simp, Nat.le_refl _, by decide, fun _ => rfl, .inl ⟨rfl, rfl⟩⟩
theorem OwnRow.len {w : World} {size : Nat} {v : Value} {xs : List Value} {D : List Nat} (h : OwnRow w size v xs D) : ∃ a n c, v = .slice a n c ∧ xs.length = n * size := by
 obtain ⟨a, n, c, hv, hl, _⟩ := h
 exact ⟨a, n, c, hv, hl⟩
theorem OwnRow.made (w : World) (T : TypeId) (size n c : Nat) (cur : Array Value) (xs : List Value) (hx : xs.length = n * size) (hn : n ≤ c) (hc : c ≤ maxLen) (hs : c * size ≤ cur.size) (ht : cur.toList.take (n * size) = xs) :
  OwnRow (w.alloc (.cells cur T)) size (.slice (some ⟨w.heap.size, 0, none⟩) n c) xs [w.heap.size] :=
 ⟨_, n, c, rfl, hx, hn, hc, by simp, .inr ⟨w.heap.size, 0, cur, T, rfl, rfl, heap_alloc_new w _, by omega, by simpa using ht⟩⟩
theorem ReadRow.first {P : Program} {w : World} {size : Nat} {xs : List Value} {D : List Nat} {a : Option Addr} {n c : Nat} (h : ReadRow w size (.slice a n c) xs D) (hl : xs.length = n * size) (w' : World) (hw : ∀ b, w'.cell? b = w.cell? b) :
  (Builtin.firstCells size n (.slice a n c)).run P w' = .ok xs.toArray w' := by
 obtain ⟨a', n', c', hv, _, hn, hc, ha, hr⟩ := h
 cases hv
 cases a with
 | none =>
  have := ha rfl
  subst this
  obtain rfl : n = 0 := by omega
  have : xs = [] := by simpa using hl
  subst this
  exact run_firstCells_none w' size 0 0 0
 | some x =>
  refine run_firstCells_some w' size n x n c xs hl (fun j u hu => ?_)
  rcases hr with ⟨rfl, _⟩ | ⟨g, off, hx, _, _, h4⟩
  ·simp at hu
  ·cases hx
   rw [Addr.add_lit, hw]
   exact h4 j u hu
theorem ReadRow.src {P : Program} {w : World} {size : Nat} {v : Value} {xs : List Value} {D : List Nat} {tx e' : TypeId} (h : ReadRow w size v xs D) (hk : P.underlying tx = some (.slice e')) (h1 : ∀ u ∈ xs, u.oneCell' = true) :
  ∃ n, xs.length = n * size ∧ Src P size tx v n xs w := by
 obtain ⟨a, n, c, rfl, hl, hn, hc, ha, hr⟩ := h
 refine ⟨n, hl, ?_⟩
 cases a with
 | none =>
  have := ha rfl
  subst this
  obtain rfl : n = 0 := by omega
  have : xs = [] := by simpa using hl
  subst this
  exact Src.ofNil w hk 0
 | some x =>
  refine Src.ofSlice w hk x n c xs hl (fun j u hu => ?_) h1
  rcases hr with ⟨rfl, _⟩ | ⟨g, off, hx, _, _, h4⟩
  ·simp at hu
  ·cases hx
   rw [Addr.add_lit]
   exact h4 j u hu
theorem yxi' {P : Program} {w : World} {size : Nat} {v : Value} {xs : List Value} {D : List Nat} (h : OwnRow w size v xs D) (t tx ty e : TypeId) (i : TypeInfo) (z : Value)
  (ht : P.underlying t = some (.slice e)) (hi : P.info? e = some i) (hz : i.zero = some z) (hsize : i.size = size) (hzs : z.cells.size = size) {x : Value} {m : Nat} {news : List Value} (hs : Src P size tx x m news w)
  (hb : ∀ n, xs.length = n * size → n + m ≤ 140737488355328 ∧ (n + m) * i.bytes ≤ 140737488355328) :
  ∃ v' w' D', (Builtin.append_ #[t, tx] ty #[v, x]).run P w = .ok v' w' ∧ OwnRow w' size v' (xs ++ news) D' ∧ Upd w w' D D' := by
 subst hsize
 obtain ⟨a, n, c, rfl, hl, hn, hc, ha, hr⟩ := h
 obtain ⟨hb1, hb2⟩ := hb n hl
 have hll : (xs ++ news).length = (n + m) * i.size := by rw [List.length_append, hl, hs.newsLen, Nat.add_mul]
 by_cases hroom : n + m ≤ c
 ·rcases hr with ⟨rfl, rfl⟩ | ⟨g, off, cur, T, rfl, rfl, h3, h4, h5⟩
  ·obtain rfl : n = 0 := by omega
   obtain rfl : m = 0 := by omega
   have hx0 : xs = [] := by simpa using hl
   have hn0 : news = [] := by simpa using hs.newsLen
   subst hx0; subst hn0
   refine ⟨.slice a 0 0, w, [], ?_, ⟨a, 0, 0, rfl, by simp, Nat.le_refl _, hc, ha, .inl ⟨rfl, rfl⟩⟩, Upd.refl _ _⟩
   rcases hs.kind with ⟨e', hk⟩ | hk <;> cases a <;> simp [Builtin.append_, run_underlying ht, run_underlying hk, sizeOf, typeInfo, hi, hs.len, hs.cells, storeCells]
  ·have hle : (n + m) * i.size ≤ c * i.size := Nat.mul_le_mul_right _ hroom
   have hnm : (n + m) * i.size = n * i.size + news.length := by rw [hs.newsLen, Nat.add_mul]
   have hrun := run_append_room_src (P := P) w t tx ty e i ht hi g off n c x m news hs hroom (fun j hj => by
     rw [cell_of_row w g _ cur T _ h3]; simp; omega) (fun j _ => yae' h3 _)
   refine ⟨_, _, [g], hrun, ⟨_, n + m, c, rfl, hll, hroom, hc, by simp, .inr ⟨g, off, _, T, rfl, rfl, ybf' g T news _ w cur h3 (by omega), ?_, ?_⟩⟩, ?_⟩
   ·simp; omega
   ·have hd : (cur.toList.take (off + n * i.size)).drop off = xs := by
     rw [List.drop_take, show off + n * i.size - off = n * i.size by omega, h5]
    rw [List.append_assoc, List.drop_append_of_le_length (by simp; omega), hd, ← List.append_assoc, List.take_append_of_le_length (by rw [hll]; exact Nat.le_refl _), List.take_of_length_le (by rw [hll]; exact Nat.le_refl _)]
   ·obtain ⟨r1, r2, r3⟩ := yb9' g news (off + n * i.size) w
    exact ⟨r1, r2, r3, by rw [yca']; exact Nat.le_refl _, fun b _ hbn => ybe' g b (by simpa using hbn) _ _ _, fun _ h => .inl h⟩
 ·obtain ⟨E, hread, hED⟩ := OwnRow.read (w := w) (size := i.size) ⟨a, n, c, rfl, hl, hn, hc, ha, hr⟩
  have hold : (Builtin.firstCells i.size n (.slice a n c)).run P w.drew = .ok xs.toArray w.drew := by
   exact hread.first hl _ (fun _ => rfl)
  have hge := grownCap_ge w (n + m) c e
  have hcm : grownCap w (n + m) c e ≤ maxLen := grownCap_le_maxLen w (n + m) c e (by unfold maxLen; omega)
  have hrun := run_append_grow_src (P := P) w t tx ty e i z ht hi hz a n c xs hold x m news hs (by omega) (by omega) (growslice_fits (by omega) hb2)
  refine ⟨_, _, [w.heap.size], hrun, ?_, ?_⟩
  ·refine OwnRow.made w.drew e i.size (n + m) _ _ _ hll hge hcm ?_ ?_
   ·simp only [Array.size_append, List.size_toArray, hll, size_zeroCells, hzs]
    rw [← Nat.add_mul]
    exact Nat.mul_le_mul_right _ (by omega)
   ·simp only [Array.toList_append]
    rw [List.take_append_of_le_length (by simp only [hll]; exact Nat.le_refl _), List.take_of_length_le (by simp only [hll]; exact Nat.le_refl _)]
  ·exact ⟨rfl, rfl, rfl, by simp, fun k hk _ => Below.heap_alloc w.drew _ k hk, fun b hb => by simp at hb; subst hb; exact .inr ⟨Nat.le_refl _, by simp⟩⟩
end Go.Av

namespace Go.Av
open Go.RowKit Go.MapKept Go.ChangeMaps
def kv (e : MapEntry) : Value × Value := (e.key, e.val)
def MapIs (w : World) (d : TypeDesc) (m : Nat) (l : List (Value × Value)) : Prop :=
 ∃ es clock, w.heap[m]? = some (.map es clock) ∧ Stamped es clock ∧ (∀ e ∈ es.toList, IsKey d e.key) ∧ es.toList.map kv = l
theorem MapIs.frame {w w' : World} {d : TypeDesc} {m : Nat} {l : List (Value × Value)} (h : MapIs w d m l) (hs : w'.heap[m]? = w.heap[m]?) : MapIs w' d m l := by
 obtain ⟨es, clock, h1, h2⟩ := h
 exact ⟨es, clock, hs.trans h1, h2⟩
theorem MapIs.lt {w : World} {d : TypeDesc} {m : Nat} {l : List (Value × Value)} (h : MapIs w d m l) : m < w.heap.size := by
 obtain ⟨es, clock, h1, h2⟩ := h
 exact ya6' h1
theorem MapIs.made (w : World) (d : TypeDesc) : MapIs (w.alloc (.map #[] 0)) d w.heap.size [] := ⟨#[], 0, heap_alloc_new w _, stamped_empty 0, by simp, rfl⟩
theorem MapIs.nodup {w : World} {d : TypeDesc} {m : Nat} {l : List (Value × Value)} (h : MapIs w d m l) : (l.map (·.1)).Nodup := by
 obtain ⟨es, clock, h1, ⟨_, _, h3⟩, _, rfl⟩ := h
 simpa [kv, Function.comp_def] using h3
theorem MapIs.keys {w : World} {d : TypeDesc} {m : Nat} {l : List (Value × Value)} (h : MapIs w d m l) : ∀ p ∈ l, IsKey d p.1 := by
 obtain ⟨es, clock, h1, _, h3, rfl⟩ := h
 intro p hp
 obtain ⟨e, he, rfl⟩ := List.mem_map.1 hp
 exact h3 e he
section
variable {P : Program} {w : World} {d : TypeDesc} {m : Nat} {l : List (Value × Value)} {t k e : TypeId}
theorem yx6' (h : MapIs w d m l) (ht : P.underlying t = some (.map k e)) (ty : TypeId) : (Builtin.len_ #[t] ty #[.map (some m)]).run P w = .ok (.int .i64 l.length) w := by
 obtain ⟨es, clock, h1, _, _, rfl⟩ := h
 simp [Builtin.len_, run_underlying ht, MapKept.run_getObj_map h1, Result.andThen, goInt]
theorem yln' {α β : Type} {f : α → β} : ∀ {l : List α} (_ : (l.map f).Nodup) {x y : α}, x ∈ l → y ∈ l → f x = f y → x = y
 | z :: l, h, x, y, hx, hy, he => by
  simp only [List.map_cons, List.nodup_cons, List.mem_map, not_exists, not_and] at h
  rcases List.mem_cons.1 hx with e1 | hx <;> rcases List.mem_cons.1 hy with e2 | hy
  ·rw [e1, e2]
  ·exact absurd (by rw [← he, e1]) (h.1 y hy)
  ·exact absurd (by rw [he, e2]) (h.1 x hx)
  ·exact yln' h.2 hx hy he
theorem yh3' (h : MapIs w d m l) (ht : P.underlying t = some (.map k e)) (hd : P.underlying k = some d) {key v : Value} (hk : IsKey d key) (hm : (key, v) ∈ l) (ok : Bool) :
  (Instr.lookup t (.map (some m)) key ok).run P w = .ok (if ok then .tuple #[v, .bool true] else v) w := by
 obtain ⟨es, clock, h1, ⟨_, _, h3⟩, h4, rfl⟩ := h
 obtain ⟨e0, he, heq⟩ := List.mem_map.1 hm
 simp only [kv, Prod.mk.injEq] at heq
 obtain ⟨hek, hev⟩ := heq
 rcases findNow_spec hk es.toList 0 h4 with ⟨a1, a2⟩ | ⟨j, e', a1, a2, a3⟩
 ·exact absurd hek (a2 e0 he)
 ·have : e' = e0 := by
   have hin : e' ∈ es.toList := List.mem_of_getElem? a2
   exact yln' h3 hin he (a3.trans hek.symm)
  subst this
  cases ok <;> simp [Instr.lookup, run_underlying ht, MapKept.run_getObj_map h1, run_checkKey hd hk, run_findKey hd a1, Result.andThen, hev]
theorem yhd' (h : MapIs w d m l) (ht : P.underlying t = some (.map k e)) (hd : P.underlying k = some d) {key z : Value} (hk : IsKey d key) (hm : ∀ p ∈ l, p.1 ≠ key) (hz : (zeroValue e).run P w = .ok z w) (ok : Bool) :
  (Instr.lookup t (.map (some m)) key ok).run P w = .ok (if ok then .tuple #[z, .bool false] else z) w := by
 obtain ⟨es, clock, h1, ⟨_, _, h3⟩, h4, rfl⟩ := h
 rcases findNow_spec hk es.toList 0 h4 with ⟨a1, a2⟩ | ⟨j, e', a1, a2, a3⟩
 ·cases ok <;> simp [Instr.lookup, run_underlying ht, MapKept.run_getObj_map h1, run_checkKey hd hk, run_findKey hd a1, Result.andThen, hz]
 ·exact absurd a3 (hm (kv e') (List.mem_map.2 ⟨e', List.mem_of_getElem? a2, rfl⟩))
theorem yd1' (w : World) (m : Nat) (o o' : Obj) (_h : w.heap[m]? = some o) : Upd w (setBlock w m o') [m] [m] :=
 ⟨rfl, rfl, rfl, by simp [setBlock], fun b _ hb => by simp at hb; simp [setBlock, Ne.symm hb], fun _ h => .inl h⟩
theorem yvi' (h : MapIs w d m l) (ht : P.underlying t = some (.map k e)) (hd : P.underlying k = some d) {key v : Value} (hk : IsKey d key) (hm : ∀ p ∈ l, p.1 ≠ key) :
  ∃ w', (Instr.mapUpdate t (.map (some m)) key v).run P w = .ok () w' ∧ MapIs w' d m (l ++ [(key, v)]) ∧ Upd w w' [m] [m] := by
 obtain ⟨es, clock, h1, h3, h4, rfl⟩ := h
 rcases findNow_spec hk es.toList 0 h4 with ⟨a1, a2⟩ | ⟨j, e', a1, a2, a3⟩
 ·refine ⟨setBlock w m (.map (es.push { key, val := v, born := clock }) (clock + 1)), ?_, ⟨_, _, (heap_set h1).1, stamped_push h3 a2, ?_, by simp [kv]⟩, yd1' w m _ _ h1⟩
  ·simp [Instr.mapUpdate, run_underlying ht, MapKept.run_getObj_map h1, run_checkKey hd hk, run_findKey hd a1, MapKept.run_setObj_map _ h1, Result.andThen, setBlock]
  ·intro x hx
   simp only [Array.toList_push, List.mem_append, List.mem_singleton] at hx
   rcases hx with hx | rfl
   ·exact h4 x hx
   ·exact hk
 ·exact absurd a3 (hm (kv e') (List.mem_map.2 ⟨e', List.mem_of_getElem? a2, rfl⟩))
theorem ykn' {α : Type} (a : Array α) (j : Nat) (f : α → α) : (a.modify j f).toList = a.toList.modify j f := by
 apply List.ext_getElem?
 intro i
 simp [List.getElem?_modify]
theorem ykj' {α : Type} : ∀ {l : List α} {j : Nat} {x : α}, l[j]? = some x → l = l.take j ++ x :: l.drop (j + 1)
 | y :: l, 0, x, h => by simp at h; simp [h]
 | y :: l, j + 1, x, h => by simp at h; simpa using ykj' h
theorem yli' {α : Type} (f : α → α) : ∀ {l : List α} {j : Nat} {x : α}, l[j]? = some x → l.modify j f = l.take j ++ f x :: l.drop (j + 1)
 | y :: l, 0, x, h => by simp at h; simp [h]
 | y :: l, j + 1, x, h => by simp at h; simpa using yli' f h
theorem yhs' {α : Type} : ∀ {l : List α} {j : Nat} {x : α}, l[j]? = some x → l.eraseIdx j = l.take j ++ l.drop (j + 1)
 | y :: l, 0, x, h => by simp
 | y :: l, j + 1, x, h => by simp at h; simpa using yhs' h
theorem yn8' {l1 l2 a1 a2 : List (Value × Value)} {key v v' : Value} (hn : ((l1 ++ (key, v) :: l2).map (·.1)).Nodup) (h : l1 ++ (key, v) :: l2 = a1 ++ (key, v') :: a2) : l1 = a1 ∧ v = v' ∧ l2 = a2 := by
 induction l1 generalizing a1 with
 | nil =>
  cases a1 with
  | nil => simp at h; exact ⟨rfl, h.1, h.2⟩
  | cons x a1 =>
   simp only [List.nil_append, List.cons_append, List.cons.injEq] at h
   obtain ⟨rfl, rfl⟩ := h
   simp at hn
 | cons y l1 ih =>
  cases a1 with
  | nil =>
   simp only [List.nil_append, List.cons_append, List.cons.injEq] at h
   obtain ⟨rfl, rfl⟩ := h
   simp at hn
  | cons x a1 =>
   simp only [List.cons_append, List.cons.injEq] at h
   obtain ⟨rfl, h⟩ := h
   simp only [List.cons_append, List.map_cons, List.nodup_cons] at hn
   obtain ⟨r1, r2, r3⟩ := ih hn.2 h
   exact ⟨by rw [r1], r2, r3⟩
theorem yx7' {l1 l2 : List (Value × Value)} {key v0 v : Value} (h : MapIs w d m (l1 ++ (key, v0) :: l2)) (ht : P.underlying t = some (.map k e)) (hd : P.underlying k = some d) (hk : IsKey d key) :
  ∃ w', (Instr.mapUpdate t (.map (some m)) key v).run P w = .ok () w' ∧ MapIs w' d m (l1 ++ (key, v) :: l2) ∧ Upd w w' [m] [m] := by
 have hnd := h.nodup
 obtain ⟨es, clock, h1, h3, h4, hl⟩ := h
 rcases findNow_spec hk es.toList 0 h4 with ⟨a1, a2⟩ | ⟨j, e', a1, a2, a3⟩
 ·exfalso
  have hm : (key, v0) ∈ es.toList.map kv := by rw [hl]; simp
  obtain ⟨e', he', heq⟩ := List.mem_map.1 hm
  exact a2 e' he' (congrArg Prod.fst heq)
 ·have hj : es[j]? = some e' := by simpa using a2
  have hkey : ∀ e'', es[j]? = some e'' → ({ e'' with key := key, val := v } : MapEntry).key = e''.key := fun e'' he' => by rw [hj] at he'; cases he'; exact a3.symm
  refine ⟨setBlock w m (.map (es.modify j fun e => { e with key := key, val := v }) clock), ?_, ⟨_, _, (heap_set h1).1, stamped_modify h3 _ _ (fun _ _ => rfl) (fun e' _ he' => hkey e' he'), isKey_modify h4 _ _ hkey, ?_⟩, yd1' w m _ _ h1⟩
  ·simp [Instr.mapUpdate, run_underlying ht, MapKept.run_getObj_map h1, run_checkKey hd hk, run_findKey hd a1, hj, a3, run_keyThatStays hk, MapKept.run_setObj_map _ h1, Result.andThen, setBlock]
  ·have hs := ykj' a2
   have hsp : l1 ++ (key, v0) :: l2 = (es.toList.take j).map kv ++ (key, e'.val) :: (es.toList.drop (j + 1)).map kv := by
    rw [← hl]
    conv => lhs; rw [hs]
    simp [kv, a3]
   obtain ⟨r1, _, r3⟩ := yn8' hnd hsp
   rw [ykn', yli' _ a2, List.map_append, List.map_cons, r1, r3]
   rfl
theorem yx5' {l1 l2 : List (Value × Value)} {key v0 : Value} (h : MapIs w d m (l1 ++ (key, v0) :: l2)) (ht : P.underlying t = some (.map k e)) (hd : P.underlying k = some d) (hk : IsKey d key) (tk ty : TypeId) :
  ∃ w', (Builtin.delete_ #[t, tk] ty #[.map (some m), key]).run P w = .ok (.tuple #[]) w' ∧ MapIs w' d m (l1 ++ l2) ∧ Upd w w' [m] [m] := by
 have hnd := h.nodup
 obtain ⟨es, clock, h1, h3, h4, hl⟩ := h
 rcases findNow_spec hk es.toList 0 h4 with ⟨a1, a2⟩ | ⟨j, e', a1, a2, a3⟩
 ·exfalso
  have hm : (key, v0) ∈ es.toList.map kv := by rw [hl]; simp
  obtain ⟨e', he', heq⟩ := List.mem_map.1 hm
  exact a2 e' he' (congrArg Prod.fst heq)
 ·have hjs : j < es.size := by
   have := (List.getElem?_eq_some_iff.1 a2).1
   simpa using this
  have hlist : (es.eraseIdxIfInBounds j).toList = es.toList.take j ++ es.toList.drop (j + 1) := by
   rw [Array.eraseIdxIfInBounds, dif_pos hjs, Array.toList_eraseIdx, yhs' a2]
  refine ⟨setBlock w m (.map (es.eraseIdxIfInBounds j) clock), ?_, ⟨_, _, (heap_set h1).1, stamped_erase h3 _, ?_, ?_⟩, yd1' w m _ _ h1⟩
  ·simp [Builtin.delete_, run_underlying ht, MapKept.run_getObj_map h1, run_checkKey hd hk, run_findKey hd a1, MapKept.run_setObj_map _ h1, Result.andThen, setBlock]
  ·intro x hx
   rw [hlist] at hx
   refine h4 x ?_
   rcases List.mem_append.1 hx with hx | hx
   ·exact List.mem_of_mem_take hx
   ·exact List.mem_of_mem_drop hx
  ·have hs := ykj' a2
   have hsp : l1 ++ (key, v0) :: l2 = (es.toList.take j).map kv ++ (key, e'.val) :: (es.toList.drop (j + 1)).map kv := by
    rw [← hl]
    conv => lhs; rw [hs]
    simp [kv, a3]
   obtain ⟨r1, _, r3⟩ := yn8' hnd hsp
   rw [hlist, List.map_append, r1, r3]
theorem yw1' (h : MapIs w d m l) (ht : P.underlying t = some (.map k e)) (hd : P.underlying k = some d) {key : Value} (hk : IsKey d key) (hm : ∀ p ∈ l, p.1 ≠ key) (tk ty : TypeId) :
  ∃ w', (Builtin.delete_ #[t, tk] ty #[.map (some m), key]).run P w = .ok (.tuple #[]) w' ∧ MapIs w' d m l ∧ Upd w w' [m] [m] := by
 obtain ⟨es, clock, h1, h3, h4, rfl⟩ := h
 rcases findNow_spec hk es.toList 0 h4 with ⟨a1, a2⟩ | ⟨j, e', a1, a2, a3⟩
 ·refine ⟨setBlock w m (.map es clock), ?_, ⟨_, _, (heap_set h1).1, h3, h4, rfl⟩, yd1' w m _ _ h1⟩
  simp [Builtin.delete_, run_underlying ht, MapKept.run_getObj_map h1, run_checkKey hd hk, run_findKey hd a1, MapKept.run_setObj_map _ h1, Result.andThen, setBlock]
 ·exact absurd a3 (hm (kv e') (List.mem_map.2 ⟨e', List.mem_of_getElem? a2, rfl⟩))
def RangeIs (w : World) (d : TypeDesc) (m r : Nat) (l left : List (Value × Value)) : Prop :=
 ∃ es clock seen, w.heap[m]? = some (.map es clock) ∧ Stamped es clock ∧ (∀ e ∈ es.toList, IsKey d e.key) ∧ es.toList.map kv = l ∧
  w.heap[r]? = some (.mapIter (some m) clock seen clock) ∧ (leftOf es seen).toList.map kv = left
theorem RangeIs.frame {w w' : World} {d : TypeDesc} {m r : Nat} {l left : List (Value × Value)} (h : RangeIs w d m r l left) (h1 : w'.heap[m]? = w.heap[m]?) (h2 : w'.heap[r]? = w.heap[r]?) : RangeIs w' d m r l left := by
 obtain ⟨es, clock, seen, a1, a2, a3, a4, a5, a6⟩ := h
 exact ⟨es, clock, seen, h1.trans a1, a2, a3, a4, h2.trans a5, a6⟩
theorem yt1' (h : MapIs w d m l) (ht : P.underlying t = some (.map k e)) :
  ∃ o, (Instr.range t (.map (some m))).run P w = .ok (.pointer (some ⟨w.heap.size, 0, none⟩)) (w.alloc o) ∧ RangeIs (w.alloc o) d m w.heap.size l l := by
 have hlt := h.lt
 obtain ⟨es, clock, h1, h3, h4, rfl⟩ := h
 refine ⟨.mapIter (some m) clock #[] clock, ?_, es, clock, #[], ?_, h3, h4, rfl, heap_alloc_new w _, ?_⟩
 ·simp [Instr.range, run_underlying ht, MapKept.run_getObj_map h1, Result.andThen, newObj, Sem.run]
 ·rw [Below.heap_alloc _ _ _ hlt]; exact h1
 ·simp only [leftOf, Array.toList_filter]
  rw [List.filter_eq_self.2 (by simp)]
theorem ygr' {es : List MapEntry} {e : MapEntry} (hn : (es.map (·.born)).Nodup) {p : MapEntry → Bool} (he : e ∈ es.filter p) : ∃ l1 l2, es.filter p = l1 ++ e :: l2 ∧ es.filter (fun x => p x && !(x.born == e.born)) = l1 ++ l2 := by
 obtain ⟨l1, l2, hs⟩ := List.append_of_mem he
 refine ⟨l1, l2, hs, ?_⟩
 have e0 : es.filter (fun x => p x && !(x.born == e.born)) = (es.filter p).filter (fun x => !(x.born == e.born)) := by
  rw [List.filter_filter]
  congr 1
  funext x
  exact Bool.and_comm _ _
 rw [e0]
 have hn' : ((es.filter p).map (·.born)).Nodup := (List.filter_sublist.map _).nodup hn
 have : List.filter (fun x => !(x.born == e.born)) (es.filter p) = l1 ++ l2 := by
  rw [hs] at hn' ⊢
  simp only [List.map_append, List.map_cons, List.nodup_append, List.nodup_cons, List.mem_map, List.mem_cons] at hn'
  rw [List.filter_append, List.filter_cons]
  simp only [beq_self_eq_true, Bool.not_true, Bool.false_eq_true, if_false]
  congr 1
  ·refine List.filter_eq_self.2 (fun x hx => ?_)
   simp only [Bool.not_eq_true', beq_eq_false_iff_ne]
   exact hn'.2.2 _ ⟨x, hx, rfl⟩ _ (.inl rfl)
  ·refine List.filter_eq_self.2 (fun x hx => ?_)
   simp only [Bool.not_eq_true', beq_eq_false_iff_ne]
   exact fun h => hn'.2.1.1 ⟨x, hx, h⟩
 exact this
theorem yt0' {left : List (Value × Value)} {r : Nat} (h : RangeIs w d m r l left) (hne : m ≠ r) (ty : TypeId) :
  (left = [] ∧ (Instr.next (.pointer (some ⟨r, 0, none⟩)) false ty).run P w = .ok (.tuple #[.bool false]) w) ∨
  ∃ l1 key v l2 w', left = l1 ++ (key, v) :: l2 ∧ (key, v) ∈ l ∧ IsKey d key ∧ (Instr.next (.pointer (some ⟨r, 0, none⟩)) false ty).run P w = .ok (.tuple #[.bool true, key, v]) w' ∧ RangeIs w' d m r l (l1 ++ l2) ∧ Upd w w' [r] [r] ∧
   ∀ W : World, W.heap[m]? = w'.heap[m]? → W.heap[r]? = w'.heap[r]? → (Instr.entry (.pointer (some ⟨r, 0, none⟩))).run P W = .ok (.tuple #[key, v]) W := by
 obtain ⟨es, clock, seen, a1, a2, a3, rfl, a5, rfl⟩ := h
 rcases run_next_at (P := P) w ty r m clock clock seen es clock a5 a1 (fun x hx => a2.1 x hx) (Nat.le_refl _) with ⟨h0, hrun⟩ | ⟨e0, he, w1, hw1, hrun⟩
 ·exact .inl ⟨by simp [Array.eq_empty_of_size_eq_zero h0], hrun⟩
 ·refine .inr ?_
  obtain ⟨hin, _⟩ := mem_left he
  have hleft : (leftOf es seen).toList = es.toList.filter (fun e => !seen.contains e.born) := by simp [leftOf]
  obtain ⟨l1, l2, hs, hs2⟩ := ygr' a2.2.1 (by rw [hleft] at he; exact he)
  have hw : ∀ b, (setBlock w1 r (.mapIter (some m) clock (seen.push e0.born) clock)).heap[b]? = if b = r then some (.mapIter (some m) clock (seen.push e0.born) clock) else w.heap[b]? := by
   intro b
   have hlt := ya6' a5
   have hh : w1.heap = w.heap := by rcases hw1 with rfl | rfl <;> rfl
   by_cases hb : b = r
   ·subst hb; simp [setBlock, hh, hlt]
   ·simp [setBlock, hh, Ne.symm hb, hb]
  have hu : Upd w (setBlock w1 r (.mapIter (some m) clock (seen.push e0.born) clock)) [r] [r] := by
   rcases hw1 with rfl | rfl <;> exact ⟨rfl, rfl, rfl, by simp [setBlock], fun b _ hb => by rw [hw, if_neg (by simpa using hb)], fun _ h => .inl h⟩
  refine ⟨l1.map kv, e0.key, e0.val, l2.map kv, _, by rw [hleft, hs]; simp [kv], List.mem_map.2 ⟨e0, hin, rfl⟩, a3 e0 hin, hrun, ⟨es, clock, seen.push e0.born, by rw [hw, if_neg hne]; exact a1, a2, a3, rfl, by rw [hw, if_pos rfl], ?_⟩, hu, ?_⟩
  ·rw [← List.map_append, ← hs2]
   congr 1
   simp only [leftOf, Array.toList_filter]
   congr 1
   funext x
   rw [Bool.eq_iff_iff]
   simp only [Bool.and_eq_true, Bool.not_eq_true', Array.contains_eq_mem, decide_eq_false_iff_not, Array.mem_push, beq_eq_false_iff_ne, not_or, ne_eq]
  ·intro W hm hr
   refine run_entry_at W r m clock seen es clock e0 ?_ ?_ hin a2.2.1
   ·rw [hr, hw, if_pos rfl]
   ·rw [hm, hw, if_neg hne]; exact a1
end
theorem yw2' {P : Program} {w : World} {d : TypeDesc} {m : Nat} {l : List (Value × Value)} {α : Type} (ent : α → Value × Value) {left : List α} {r : Nat} (h : RangeIs w d m r l (left.map ent)) (hne : m ≠ r) :
  (left = [] ∧ ∀ ty, (Instr.next (.pointer (some ⟨r, 0, none⟩)) false ty).run P w = .ok (.tuple #[.bool false]) w) ∨
  ∃ l1 g l2 w', left = l1 ++ g :: l2 ∧ (∀ ty, (Instr.next (.pointer (some ⟨r, 0, none⟩)) false ty).run P w = .ok (.tuple #[.bool true, (ent g).1, (ent g).2]) w') ∧ RangeIs w' d m r l ((l1 ++ l2).map ent) ∧ Upd w w' [r] [r] ∧
   (Instr.entry (.pointer (some ⟨r, 0, none⟩))).run P w' = .ok (.tuple #[(ent g).1, (ent g).2]) w' := by
 rcases yt0' (P := P) h hne 0 with ⟨h0, hr⟩ | ⟨l1, key, v, l2, w', hl, _, _, hr, h1, h2, h3⟩
 ·exact .inl ⟨by simpa using h0, fun _ => hr⟩
 ·obtain ⟨a1, a2, rfl, e1, e2⟩ := List.map_eq_append_iff.1 hl
  obtain ⟨g, a3, rfl, e3, e4⟩ := List.map_eq_cons_iff.1 e2
  refine .inr ⟨a1, g, a3, w', rfl, ?_, ?_, h2, ?_⟩
  ·rw [e3]; exact fun _ => hr
  ·rw [List.map_append, e1, e4]; exact h1
  ·rw [e3]; exact h3 w' rfl rfl
theorem ybs' {P : Program} {w : World} {ops : Array Oper} {rest : List Oper} {o : Oper} {a : Act} {Q : Exit → Act → World → Prop} (hgd : o.guard = none) (s x : Operand) (t tx : TypeId)
  (ho : o.op = .call { callee := .builtin .append, args := #[s, x], argTypes := #[t, tx] }) (size : Nat) (v : Value) (xs : List Value) (D : List Nat) (hs : a.eval s = v) (hown : OwnRow w size v xs D)
  (e : TypeId) (i : TypeInfo) (z : Value) (ht : P.underlying t = some (.slice e)) (hi : P.info? e = some i) (hz : i.zero = some z) (hsize : i.size = size) (hzs : z.cells.size = size)
  (xv : Value) (m : Nat) (news : List Value) (hx : a.eval x = xv) (hsrc : Src P size tx xv m news w)
  (hb : ∀ n, xs.length = n * size → n + m ≤ 140737488355328 ∧ (n + m) * i.bytes ≤ 140737488355328)
  (h : ∀ a' n' c' w' D', OwnRow w' size (.slice a' n' c') (xs ++ news) D' → Upd w w' D D' → wpList P ops Q rest (a.put o.dst (.slice a' n' c')) w') : wpList P ops Q (o :: rest) a w := by
 refine wpList_plain hgd fun K hK => ?_
 obtain ⟨v', w', D', hrun, h1, h2⟩ := yxi' (P := P) hown t tx o.type e i z ht hi hz hsize hzs hsrc hb
 obtain ⟨a', n', c', rfl, _⟩ := h1.len
 unfold Oper.wp
 simp [execOp, ho, resolve, invoke, builtin, hs, hx, hrun, Result.andThen]
 exact hK _ _ (h a' n' c' w' D' h1 h2)
theorem yg0' {P : Program} {t e : TypeId} {i : TypeInfo} (ht : P.underlying t = some (.slice e)) (hi : P.info? e = some i) (a : Option Addr) (n c k : Nat) (hk : k ≤ c) (W : World) :
  (Instr.slice t (.slice a n c) none (some (.int .i64 (k : Int))) none).run P W = .ok (.slice a k c) W := by
 cases a <;> simp [Instr.slice, run_underlying ht, Instr.sliceBounds, Instr.sliceBound, asIntOf, hk, sizeOf, typeInfo, hi, Result.andThen, Addr.add]
theorem OwnRow.take {w : World} {size : Nat} {a : Option Addr} {n c : Nat} {xs : List Value} {D : List Nat} (h : OwnRow w size (.slice a n c) xs D) {k : Nat} (hk : k ≤ n) : OwnRow w size (.slice a k c) (xs.take (k * size)) D ∧ k ≤ c := by
 obtain ⟨a', n', c', hv, hl, hn, hc, ha, hr⟩ := h
 cases hv
 have hle : k * size ≤ n * size := Nat.mul_le_mul_right _ hk
 refine ⟨⟨a, k, c, rfl, by rw [List.length_take, hl]; omega, by omega, hc, ha, ?_⟩, by omega⟩
 rcases hr with hr | ⟨g, off, cur, T, h1, h2, h3, h4, h5⟩
 ·exact .inl hr
 ·exact .inr ⟨g, off, cur, T, h1, h2, h3, h4, by rw [← h5, List.take_take]; congr 1; omega⟩
theorem conv_str {P : Program} {src dst e : TypeId} (hs : P.underlying src = some (.slice e)) (he : P.underlying e = some (.int .u8)) (hd : P.underlying dst = some .string) {w : World} {v : Value} {l : List UInt8} {E : List Nat}
  (h : ReadRow w 1 v (l.map fun c => Value.int .u8 (c.toNat : Int)) E) (w' : World) (hw : ∀ b ∈ E, w'.heap[b]? = w.heap[b]?) : (convert src dst v).run P w' = .ok (.string ⟨l.toArray⟩) w' := by
 replace h := h.frame (w' := w') hw
 obtain ⟨a, n, c, rfl, hl, hn, hc, ha, hr⟩ := h
 cases a with
 | none =>
  have := ha rfl
  subst this
  obtain rfl : n = 0 := by omega
  have : l = [] := by simpa using hl
  subst this
  exact run_convert_bytes_nil w' src e hs he 0 0 dst hd
 | some x =>
  have hload : (loadCells x n).run P w' = .ok ((l.map fun c => (c.toNat : Int)).map (Value.int .u8)).toArray w' := by
   have := run_loadCells_list (P := P) w' x ((l.map fun c => (c.toNat : Int)).map (Value.int .u8)) (fun j v hj => by
    rcases hr with ⟨h0, _⟩ | ⟨g, off, hx, _, _, h4⟩
    ·have : l = [] := by simpa using h0
     subst this
     simp at hj
    ·cases hx
     rw [Addr.add_lit]
     exact h4 j v (by simpa using hj))
   simpa [show l.length = n by simpa using hl] using this
  rw [run_convert_bytes_string w' src dst e _ n c hs he hd, run_bytesToString w' _ n c _ hload, foldl_push_bytes]
  simp [ByteArray.empty, ByteArray.emptyWithCapacity, Function.comp_def]
  rfl
def IsBytes (w : World) (a : Option Addr) (len cap : Nat) (zs : List Int) : Prop :=
 (a = none ∧ len = 0 ∧ cap = 0 ∧ zs = []) ∨
 ∃ x, a = some x ∧ len ≤ cap ∧ cap ≤ maxLen ∧ zs.length = cap ∧ (∀ i, i < zs.length → w.cell? (x.add i) = some (.int .u8 (zs.getD i 0))) ∧ ∀ n ∈ zs, (Lit.int .u8 n).wf = true
theorem IsBytes.read {w : World} {a : Option Addr} {len cap : Nat} {zs : List Int} (h : IsBytes w a len cap zs) :
  ∃ (l : List UInt8) (E : List Nat), l.length = len ∧ ReadRow w 1 (.slice a len cap) (l.map fun c => Value.int .u8 (c.toNat : Int)) E := by
 rcases h with ⟨rfl, rfl, rfl, rfl⟩ | ⟨x, rfl, h1, h2, h3, h4, h5⟩
 ·exact ⟨[], [], rfl, none, 0, 0, rfl, rfl, Nat.le_refl _, by decide, fun _ => rfl, .inl ⟨rfl, rfl⟩⟩
 ·refine ⟨(zs.take len).map fun z => UInt8.ofNat z.toNat, if len = 0 then [] else [x.block], by simp; omega, some x, len, cap, rfl, by simp; omega, h1, h2, by simp, ?_⟩
  by_cases h0 : len = 0
  ·subst h0; exact .inl ⟨by simp, by simp⟩
  ·refine .inr ?_
   have hc0 := h4 0 (by omega)
   have hsp : x.spot = none := by
    cases hs : x.spot with
    | none => rfl
    | some _ =>
     have : x.add 0 = x := by simp [Addr.add]
     rw [this] at hc0
     unfold World.cell? at hc0
     split at hc0 <;> simp [hs] at hc0
   obtain ⟨b, o, sp⟩ := x
   simp only at hsp
   subst hsp
   refine ⟨b, o, rfl, by simp [h0], ?_, fun i u hu => ?_⟩
   ·have := World.block_lt_of_cell? w _ hc0
    simpa [Addr.add_lit] using this
   ·simp only [List.getElem?_map, List.getElem?_take, Option.map_eq_some_iff] at hu
    obtain ⟨c, ⟨z, hz, rfl⟩, rfl⟩ := hu
    split at hz
    ·rename_i hi
     have hzl : i < zs.length := by omega
     have hg := h4 i hzl
     rw [Addr.add_lit] at hg
     rw [hg]
     have hzz : zs.getD i 0 = z := by
      simp [List.getD, hz]
     rw [hzz]
     have hwf := h5 z (List.mem_of_getElem? hz)
     have hb : 0 ≤ z ∧ z ≤ 255 := by
      simp [Lit.wf, IntKind.min, IntKind.max, IntKind.signed, IntKind.bits] at hwf
      omega
     simp
     omega
    ·cases hz
end Go.Av

namespace Go.Av
open Go.RowKit Go.MapKept
abbrev Bs := List UInt8
def bv (c : UInt8) : Value := .int .u8 (c.toNat : Int)
theorem ynn' {l : Bs} : ∀ u ∈ l.map bv, u.oneCell' = true := by
 intro u hu
 obtain ⟨c, _, rfl⟩ := List.mem_map.1 hu
 rfl
structure FileS where
 name : ByteArray
 b : Bs
 safe : Nat
structure DiskS where
 room : Int
 off : Bool
 lives : Int
 fs : List FileS
def okc (c : UInt8) : Bool := decide (33 ≤ (c.toNat : Int)) && decide ((c.toNat : Int) ≤ 126)
def yyv' (s : ByteArray) : Bool := s.data.toList.all okc && (decide (1 ≤ (s.size : Int)) && decide ((s.size : Int) ≤ 20))
def yut' (fs : List FileS) : Nat := (fs.map fun f => f.b.length).sum
def DiskS.may (S : DiskS) (l : List ByteArray) : Int := if S.off then 10 else if l.all yyv' then 0 else 1
structure FileG extends FileS where
 f : Nat
 v : Value
 D : List Nat
def FileG.dom (g : FileG) : List Nat := g.f :: g.D
def FileG.ent (g : FileG) : Value × Value := (.string g.name, .pointer (some ⟨g.f, 0, none⟩))
def FileAt (w : World) (g : FileG) : Prop := (∃ T, w.heap[g.f]? = some (.cells #[g.v, .int .i64 g.safe] T (0, 0))) ∧ OwnRow w 1 g.v (g.b.map bv) g.D ∧ g.safe ≤ g.b.length
def ycp' (d m : Nat) (gs : List FileG) : List Nat := d :: m :: gs.flatMap FileG.dom
structure DiskI (w : World) (d : Nat) (S : DiskS) (m : Nat) (gs : List FileG) : Prop where
 hd : ∃ T, w.heap[d]? = some (.cells #[.int .i64 S.room, .bool S.off, .int .i64 S.lives, .map (some m)] T (0, 0))
 hm : MapIs w .string m (gs.map FileG.ent)
 hf : ∀ g ∈ gs, FileAt w g
 hS : gs.map FileG.toFileS = S.fs
 nd : (ycp' d m gs).Nodup
 lo : 64 ≤ S.room
 hi : S.room ≤ 1048576
 fits : (yut' S.fs : Int) ≤ S.room
def DiskAt (w : World) (d : Nat) (S : DiskS) (D : List Nat) : Prop := ∃ m gs, DiskI w d S m gs ∧ D = ycp' d m gs
theorem FileAt.frame {w w' : World} {g : FileG} (h : FileAt w g) (hs : Same w w' g.dom) : FileAt w' g := by
 obtain ⟨⟨T, h1⟩, h2, h3⟩ := h
 exact ⟨⟨T, by rw [hs _ (by simp [FileG.dom])]; exact h1⟩, h2.frame (fun b hb => hs b (by simp [FileG.dom, hb])), h3⟩
theorem FileAt.lt {w : World} {g : FileG} (h : FileAt w g) : ∀ b ∈ g.dom, b < w.heap.size := by
 obtain ⟨⟨T, h1⟩, h2, h3⟩ := h
 intro b hb
 rcases List.mem_cons.1 hb with rfl | hb
 ·exact ya6' h1
 ·exact h2.lt b hb
theorem DiskI.frame {w w' : World} {d m : Nat} {S : DiskS} {gs : List FileG} (h : DiskI w d S m gs) (hs : Same w w' (ycp' d m gs)) : DiskI w' d S m gs := by
 obtain ⟨⟨T, h1⟩, h2, h3, h4⟩ := h
 exact ⟨⟨T, by rw [hs _ (by simp [ycp'])]; exact h1⟩, h2.frame (hs _ (by simp [ycp'])), fun g hg => (h3 g hg).frame (fun b hb => hs b (by simp only [ycp', List.mem_cons, List.mem_flatMap]; exact .inr (.inr ⟨g, hg, hb⟩))), h4, by assumption, by assumption, by assumption, by assumption⟩
theorem DiskI.lt {w : World} {d m : Nat} {S : DiskS} {gs : List FileG} (h : DiskI w d S m gs) : ∀ b ∈ ycp' d m gs, b < w.heap.size := by
 obtain ⟨⟨T, h1⟩, h2, h3, h4⟩ := h
 intro b hb
 simp only [ycp', List.mem_cons, List.mem_flatMap] at hb
 rcases hb with rfl | rfl | ⟨g, hg, hb⟩
 ·exact ya6' h1
 ·exact h2.lt
 ·exact (h3 g hg).lt b hb
theorem DiskAt.frame {w w' : World} {d : Nat} {S : DiskS} {D : List Nat} (h : DiskAt w d S D) (hs : Same w w' D) : DiskAt w' d S D := by
 obtain ⟨m, gs, h, rfl⟩ := h
 exact ⟨m, gs, h.frame hs, rfl⟩
theorem DiskAt.lt {w : World} {d : Nat} {S : DiskS} {D : List Nat} (h : DiskAt w d S D) : ∀ b ∈ D, b < w.heap.size := by
 obtain ⟨m, gs, h, rfl⟩ := h
 exact h.lt
theorem DiskAt.nd {w : World} {d : Nat} {S : DiskS} {D : List Nat} (h : DiskAt w d S D) : D.Nodup := by
 obtain ⟨m, gs, h, rfl⟩ := h
 exact h.nd
theorem yo9' {A B X X' : List Nat} {N : Nat} (h : (A ++ X ++ B).Nodup) (hX : X'.Nodup) (hnew : ∀ b ∈ X', b ∈ X ∨ N ≤ b) (hlt : ∀ b ∈ A ++ X ++ B, b < N) : (A ++ X' ++ B).Nodup := by
 simp only [List.nodup_append, List.mem_append] at h ⊢
 obtain ⟨⟨h1, h2, h3⟩, h4, h5⟩ := h
 refine ⟨⟨h1, hX, fun a ha b hb => ?_⟩, h4, fun a ha b hb => ?_⟩
 ·rcases hnew b hb with h | h
  ·exact h3 a ha b h
  ·have := hlt a (by simp [ha]); omega
 ·rcases ha with ha | ha
  ·exact h5 a (.inl ha) b hb
  ·rcases hnew a ha with h | h
   ·exact h5 a (.inr h) b hb
   ·have := hlt b (by simp [hb]); omega
theorem yfp' (d m : Nat) (l1 : List FileG) (g : FileG) (l2 : List FileG) : ycp' d m (l1 ++ g :: l2) = (d :: m :: l1.flatMap FileG.dom) ++ g.dom ++ l2.flatMap FileG.dom := by
 simp [ycp']
theorem DiskI.replace {w w' : World} {d m : Nat} {S S' : DiskS} {l1 l2 : List FileG} {g g' : FileG} (h : DiskI w d S m (l1 ++ g :: l2)) (hu : Upd w w' g.dom g'.dom) (hf : FileAt w' g') (hn : g'.name = g.name) (hp : g'.f = g.f)
  (hnd : g'.dom.Nodup) (hS : S' = { S with fs := (l1 ++ g' :: l2).map FileG.toFileS }) (hfit : (yut' S'.fs : Int) ≤ S.room) :
  DiskI w' d S' m (l1 ++ g' :: l2) ∧ Upd w w' (ycp' d m (l1 ++ g :: l2)) (ycp' d m (l1 ++ g' :: l2)) := by
 have hlt := h.lt
 have hndo := h.nd
 rw [yfp'] at hlt hndo
 have hU : Upd w w' (ycp' d m (l1 ++ g :: l2)) (ycp' d m (l1 ++ g' :: l2)) := by
  rw [yfp', yfp']
  refine hu.mono (fun b hb => by simp [hb]) (fun b hb => ?_)
  simp only [List.mem_append] at hb ⊢
  rcases hb with (hb | hb) | hb
  ·exact .inr (.inl (.inl hb))
  ·exact .inl hb
  ·exact .inr (.inr hb)
 refine ⟨?_, hU⟩
 have hndo' := hndo
 simp only [List.nodup_append, List.mem_append] at hndo
 obtain ⟨⟨n1, n2, n3⟩, n4, n5⟩ := hndo
 have keepA : ∀ b ∈ (d :: m :: l1.flatMap FileG.dom), w'.heap[b]? = w.heap[b]? := fun b hb => hu.keep b (hlt b (by simp only [List.mem_append]; exact .inl (.inl hb))) (fun hg => n3 b hb b hg rfl)
 have keepB : ∀ b ∈ l2.flatMap FileG.dom, w'.heap[b]? = w.heap[b]? := fun b hb => hu.keep b (hlt b (by simp only [List.mem_append]; exact .inr hb)) (fun hg => n5 b (.inr hg) b hb rfl)
 subst hS
 refine ⟨?_, ?_, ?_, rfl, ?_, h.lo, h.hi, hfit⟩
 ·obtain ⟨T, hd⟩ := h.hd
  exact ⟨T, by rw [keepA d (by simp)]; exact hd⟩
 ·have hm := h.hm.frame (keepA m (by simp))
  simpa [FileG.ent, hn, hp] using hm
 ·intro x hx
  simp only [List.mem_append, List.mem_cons] at hx
  rcases hx with hx | rfl | hx
  ·exact (h.hf x (by simp [hx])).frame (fun b hb => keepA b (by simp only [List.mem_cons, List.mem_flatMap]; exact .inr (.inr ⟨x, hx, hb⟩)))
  ·exact hf
  ·exact (h.hf x (by simp [hx])).frame (fun b hb => keepB b (List.mem_flatMap.2 ⟨x, hx, hb⟩))
 ·rw [yfp']
  exact yo9' hndo' hnd (fun b hb => by rcases hu.new b hb with h | h; exact .inl h; exact .inr h.1) hlt
theorem DiskI.names {w : World} {d m : Nat} {S : DiskS} {gs : List FileG} (h : DiskI w d S m gs) : (gs.map (·.name)).Nodup := by
 have := h.hm.nodup
 simp only [List.map_map] at this
 exact (List.pairwise_map.1 this).imp (fun hne he => hne (by simp [FileG.ent, he])) |> List.pairwise_map.2
def yvn' (n : ByteArray) (b : Bs) : List FileS → List FileS
 | [] => [⟨n, b, 0⟩]
 | f :: r => if f.name = n then { f with b := f.b ++ b } :: r else f :: yvn' n b r
def DiskS.append (S : DiskS) (n : ByteArray) (b : Bs) : Int × DiskS :=
 if S.may [n] ≠ 0 then (S.may [n], S)
 else if S.room - (yut' S.fs : Int) < (b.length : Int) then (9, S)
 else (0, { S with fs := yvn' n b S.fs })
theorem DiskI.more {w w' : World} {d m : Nat} {S S' : DiskS} {gs : List FileG} {g : FileG} (h : DiskI w d S m gs) (hu : Upd w w' [m] (m :: g.dom)) (hm : MapIs w' .string m ((gs ++ [g]).map FileG.ent)) (hf : FileAt w' g)
  (hnd : g.dom.Nodup) (hnew : ∀ b ∈ g.dom, w.heap.size ≤ b) (hS : S' = { S with fs := (gs ++ [g]).map FileG.toFileS }) (hfit : (yut' S'.fs : Int) ≤ S.room) :
  DiskI w' d S' m (gs ++ [g]) ∧ Upd w w' (ycp' d m gs) (ycp' d m (gs ++ [g])) := by
 have hlt := h.lt
 have hndo := h.nd
 subst hS
 have hkeep : ∀ b ∈ ycp' d m gs, b ≠ m → w'.heap[b]? = w.heap[b]? := fun b hb hne => hu.keep b (hlt b hb) (by simpa using hne)
 refine ⟨⟨?_, hm, ?_, rfl, ?_, h.lo, h.hi, hfit⟩, ?_⟩
 ·obtain ⟨T, hd⟩ := h.hd
  have hne : d ≠ m := by
   simp only [ycp', List.nodup_cons, List.mem_cons, not_or] at hndo
   exact hndo.1.1
  exact ⟨T, by rw [hkeep d (by simp [ycp']) hne]; exact hd⟩
 ·intro x hx
  simp only [List.mem_append, List.mem_singleton] at hx
  rcases hx with hx | rfl
  ·refine (h.hf x hx).frame (fun b hb => hkeep b ?_ ?_)
   ·simp only [ycp', List.mem_cons, List.mem_flatMap]; exact .inr (.inr ⟨x, hx, hb⟩)
   ·rintro rfl
    simp only [ycp', List.nodup_cons, List.mem_cons, List.mem_flatMap, not_exists, not_and] at hndo
    exact hndo.2.1 x hx hb
  ·exact hf
 ·have : ycp' d m (gs ++ [g]) = ycp' d m gs ++ g.dom := by simp [ycp']
  rw [this, List.nodup_append]
  exact ⟨hndo, hnd, fun a ha b hb => by have := hlt a ha; have := hnew b hb; omega⟩
 ·refine hu.mono (fun b hb => by simp at hb; simp [ycp', hb]) (fun b hb => ?_)
  have : ycp' d m (gs ++ [g]) = ycp' d m gs ++ g.dom := by simp [ycp']
  rw [this, List.mem_append] at hb
  rcases hb with hb | hb
  ·exact .inr hb
  ·exact .inl (by simp [hb])
end Go.Av

namespace Go.Av
open Go.RowKit
structure Thing where
 P : World → List Nat → Prop
 frame : ∀ {w w' : World} {D : List Nat}, P w D → Same w w' D → P w' D
 lt : ∀ {w : World} {D : List Nat}, P w D → ∀ b ∈ D, b < w.heap.size
def Apart (A B : List Nat) : Prop := ∀ x ∈ A, x ∉ B
theorem Apart.symm {A B : List Nat} (h : Apart A B) : Apart B A := fun x hx ha => h x ha hx
inductive Lie (w : World) : List Thing → List Nat → Prop
 | nil : Lie w [] []
 | cons {T : Thing} {D : List Nat} {Ts : List Thing} {E : List Nat} : T.P w D → Apart D E → Lie w Ts E → Lie w (T :: Ts) (D ++ E)
theorem Lie.lt {w : World} {Ts : List Thing} {E : List Nat} (h : Lie w Ts E) : ∀ b ∈ E, b < w.heap.size := by
 induction h with
 | nil => simp
 | @cons T _ _ _ h1 _ _ ih =>
  intro b hb
  rcases List.mem_append.1 hb with hb | hb
  ·exact T.lt h1 b hb
  ·exact ih b hb
theorem Lie.frame {w w' : World} {Ts : List Thing} {E : List Nat} (h : Lie w Ts E) (hs : Same w w' E) : Lie w' Ts E := by
 induction h with
 | nil => exact .nil
 | @cons T _ _ _ h1 h2 _ ih => exact .cons (T.frame h1 (fun b hb => hs b (by simp [hb]))) h2 (ih (fun b hb => hs b (by simp [hb])))
def RowsIn (w : World) (D : List Nat) (rows : List (Value × Bs)) : Prop := ∀ r ∈ rows, ∃ E, ReadRow w 1 r.1 (r.2.map bv) E ∧ ∀ x ∈ E, x ∉ D
theorem RowsIn.upd {w w' : World} {D D' : List Nat} {rows : List (Value × Bs)} (hr : RowsIn w D rows) (hu : Upd w w' D D') : RowsIn w' D' rows := by
 intro r h
 obtain ⟨E, h1, h2⟩ := hr r h
 refine ⟨E, h1.frame (hu.same h1.lt h2), fun x hx hd => ?_⟩
 rcases hu.new x hd with h | h
 ·exact h2 x hx h
 ·have := h1.lt x hx; omega
theorem RowsIn.sub {w : World} {D D' : List Nat} {rows : List (Value × Bs)} (hr : RowsIn w D rows) (h : ∀ x ∈ D', x ∈ D) : RowsIn w D' rows := by
 intro r hh
 obtain ⟨E, h1, h2⟩ := hr r hh
 exact ⟨E, h1, fun x hx hd => h2 x hx (h x hd)⟩
def Sep (w0 w : World) (Ts : List Thing) (rows : List (Value × Bs)) : Prop := ∃ D, Lie w Ts D ∧ Upd w0 w [] D ∧ RowsIn w D rows
theorem Sep.below {w0 w : World} {Ts : List Thing} {rows : List (Value × Bs)} (h : Sep w0 w Ts rows) : Below w0.heap.size w0 w := by
 obtain ⟨D, _, hu, _⟩ := h
 exact hu.below
theorem Lie.turn {w w' : World} {Ts Ts' R : List Thing} {D D' E : List Nat} (_h : Lie w Ts D) (h' : Lie w' Ts' D') (hR : Lie w R E) (ha : Apart D E) (hu : Upd w w' D D') : Lie w' R E ∧ Apart D' E ∧ Upd w w' (D ++ E) (D' ++ E) := by
 refine ⟨hR.frame (hu.same hR.lt ha.symm), fun x hx he => ?_, hu.mono (fun b hb => by simp [hb]) (fun b hb => ?_)⟩
 ·rcases hu.new x hx with h | h
  ·exact ha x h he
  ·have := hR.lt x he; omega
 ·rcases List.mem_append.1 hb with hb | hb
  ·exact .inl hb
  ·exact .inr (by simp [hb])
theorem Lie.append {w : World} {A B : List Thing} {D E : List Nat} (hA : Lie w A D) (hB : Lie w B E) (ha : Apart D E) : Lie w (A ++ B) (D ++ E) := by
 induction hA with
 | nil => exact hB
 | cons h1 h2 _ ih =>
  rw [List.cons_append, List.append_assoc]
  refine .cons h1 (fun x hx he => ?_) (ih (fun x hx he => ha x (by simp [hx]) he))
  rcases List.mem_append.1 he with he | he
  ·exact h2 x hx he
  ·exact ha x (by simp [hx]) he
theorem Lie.split {w : World} {A B : List Thing} {F : List Nat} (h : Lie w (A ++ B) F) : ∃ D E, F = D ++ E ∧ Lie w A D ∧ Lie w B E ∧ Apart D E := by
 induction A generalizing F with
 | nil => exact ⟨[], F, rfl, .nil, h, fun x hx => by cases hx⟩
 | cons T A ih =>
  cases h with
  | cons h1 h2 h3 =>
   obtain ⟨D, E, rfl, hA, hB, ha⟩ := ih h3
   refine ⟨_ ++ D, E, (List.append_assoc _ _ _).symm, .cons h1 (fun x hx he => h2 x hx (by simp [he])) hA, hB, fun x hx he => ?_⟩
   rcases List.mem_append.1 hx with hx | hx
   ·exact h2 x hx (by simp [he])
   ·exact ha x hx he
theorem Sep.use {w0 w : World} {T : Thing} {R : List Thing} {rows : List (Value × Bs)} (h : Sep w0 w (T :: R) rows) :
  ∃ D, T.P w D ∧ RowsIn w D rows ∧ ∀ (w' : World) (D' : List Nat) (T' : Thing), Upd w w' D D' → T'.P w' D' → Sep w0 w' (T' :: R) rows := by
 obtain ⟨F, hl, hu, hr⟩ := h
 cases hl with
 | @cons _ D _ E h1 h2 h3 =>
  refine ⟨D, h1, hr.sub (by intro x hx; simp [hx]), fun w' D' T' hu' hP => ?_⟩
  have h1' : Lie w [T] D := by simpa using Lie.cons h1 (E := []) (fun x hx he => by cases he) Lie.nil
  have hP' : Lie w' [T'] D' := by simpa using Lie.cons hP (E := []) (fun x hx he => by cases he) Lie.nil
  obtain ⟨a1, a2, a3⟩ := h1'.turn hP' h3 h2 hu'
  exact ⟨D' ++ E, .cons hP a2 a1, hu.trans a3, hr.upd a3⟩
theorem Sep.use2 {w0 w : World} {T U : Thing} {R : List Thing} {rows : List (Value × Bs)} (h : Sep w0 w (T :: U :: R) rows) :
  ∃ D E, T.P w D ∧ U.P w E ∧ Apart D E ∧ RowsIn w (D ++ E) rows ∧ ∀ (w' : World) (D' E' : List Nat) (T' U' : Thing), Upd w w' (D ++ E) (D' ++ E') → T'.P w' D' → U'.P w' E' → Apart D' E' → Sep w0 w' (T' :: U' :: R) rows := by
 obtain ⟨F, hl, hu, hr⟩ := h
 cases hl with
 | @cons _ D _ E' h1 h2 h3 =>
  cases h3 with
  | @cons _ E _ G k1 k2 k3 =>
   have hDE : Apart D E := fun x hx he => h2 x hx (by simp [he])
   refine ⟨D, E, h1, k1, hDE, hr.sub (by intro x hx; simp only [List.mem_append] at hx ⊢; rcases hx with h | h <;> simp [h]), fun w' D' E' T' U' hu' hP hQ hA => ?_⟩
   have mk : ∀ {w : World} {T U : Thing} {D E : List Nat}, T.P w D → U.P w E → Apart D E → Lie w [T, U] (D ++ E) := fun a b c => by
    have := Lie.cons a (E := _ ++ []) (by simpa using c) (Lie.cons b (E := []) (fun x hx he => by cases he) Lie.nil)
    simpa using this
   obtain ⟨a1, a2, a3⟩ := (mk h1 k1 hDE).turn (mk hP hQ hA) k3 (fun x hx he => by
    rcases List.mem_append.1 hx with hx | hx
    ·exact h2 x hx (by simp [he])
    ·exact k2 x hx he) hu'
   rw [List.append_assoc, List.append_assoc] at a3
   exact ⟨D' ++ (E' ++ G), .cons hP (fun x hx he => by
    rcases List.mem_append.1 he with he | he
    ·exact hA x hx he
    ·exact a2 x (by simp [hx]) he) (.cons hQ (fun x hx he => a2 x (by simp [hx]) he) a1), hu.trans a3, hr.upd a3⟩
theorem Sep.swap {w0 w : World} {T U : Thing} {R : List Thing} {rows : List (Value × Bs)} (h : Sep w0 w (T :: U :: R) rows) : Sep w0 w (U :: T :: R) rows := by
 obtain ⟨F, hl, hu, hr⟩ := h
 cases hl with
 | @cons _ D _ E' h1 h2 h3 =>
  cases h3 with
  | @cons _ E _ G k1 k2 k3 =>
   have hp : ∀ x, x ∈ E ++ (D ++ G) ↔ x ∈ D ++ (E ++ G) := fun x => by simp only [List.mem_append]; exact ⟨fun h => by rcases h with h | h | h <;> simp [h], fun h => by rcases h with h | h | h <;> simp [h]⟩
   refine ⟨E ++ (D ++ G), .cons k1 (fun x hx he => ?_) (.cons h1 (fun x hx he => h2 x hx (by simp [he])) k3), hu.mono (by simp) (fun b hb => .inl ((hp b).1 hb)), hr.sub (fun x hx => (hp x).1 hx)⟩
   rcases List.mem_append.1 he with he | he
   ·exact h2 x he (by simp [hx])
   ·exact k2 x hx he
theorem Sep.drop {w0 w : World} {T : Thing} {R : List Thing} {rows : List (Value × Bs)} (h : Sep w0 w (T :: R) rows) : Sep w0 w R rows := by
 obtain ⟨F, hl, hu, hr⟩ := h
 cases hl with
 | @cons _ D _ E h1 h2 h3 => exact ⟨E, h3, hu.mono (by simp) (fun b hb => .inl (by simp [hb])), hr.sub (fun x hx => by simp [hx])⟩
theorem Sep.add {w0 w w' : World} {T : Thing} {D' : List Nat} {R : List Thing} {rows : List (Value × Bs)} (h : Sep w0 w R rows) (hu : Upd w w' [] D') (hT : T.P w' D') : Sep w0 w' (T :: R) rows := by
 obtain ⟨F, hl, hu0, hr⟩ := h
 have hn : Apart D' F := fun x hx he => by
  rcases hu.new x hx with h | h
  ·cases h
  ·have := hl.lt x he; omega
 have hU : Upd w w' F (D' ++ F) := hu.mono (by simp) (fun b hb => by
  rcases List.mem_append.1 hb with hb | hb
  ·exact .inl hb
  ·exact .inr hb)
 exact ⟨D' ++ F, .cons hT hn (hl.frame (hu.same hl.lt (by simp))), hu0.trans hU, hr.upd hU⟩
theorem Sep.keep {w0 w w' : World} {D' : List Nat} {R : List Thing} {rows : List (Value × Bs)} (h : Sep w0 w R rows) (hu : Upd w w' [] D') : Sep w0 w' R rows := by
 obtain ⟨F, hl, hu0, hr⟩ := h
 have hU : Upd w w' F F := hu.mono (by simp) (fun b hb => .inr hb)
 exact ⟨F, hl.frame (hu.same hl.lt (by simp)), hu0.trans hU, hr.upd hU⟩
theorem Sep.alloc {w0 w : World} {R : List Thing} {rows : List (Value × Bs)} (h : Sep w0 w R rows) (o : Obj) : Sep w0 (w.alloc o) R rows := h.keep (Upd.alloc0 w o [])
theorem Sep.drew {w0 w : World} {R : List Thing} {rows : List (Value × Bs)} (h : Sep w0 w R rows) : Sep w0 w.drew R rows := h.keep (Upd.refl w []).drew
theorem Sep.drewN {w0 w : World} {R : List Thing} {rows : List (Value × Bs)} (h : Sep w0 w R rows) (n : Nat) : Sep w0 (w.drewN n) R rows := h.keep ((Upd.refl w []).drewN n)
theorem Sep.row {w0 w w' : World} {R : List Thing} {rows : List (Value × Bs)} {v : Value} {b : Bs} {E D' : List Nat} (h : Sep w0 w R rows) (hu : Upd w w' [] D') (hr : ReadRow w' 1 v (b.map bv) E) (hE : ∀ x ∈ E, x ∈ D') : Sep w0 w' R ((v, b) :: rows) := by
 have hk := h.keep hu
 obtain ⟨F, hl, hu0, hr0⟩ := h
 obtain ⟨F', hl', hu0', hr0'⟩ := hk
 have hU : Upd w w' F F := hu.mono (by simp) (fun b hb => .inr hb)
 refine ⟨F, hl.frame (hu.same hl.lt (by simp)), hu0.trans hU, fun r hh => ?_⟩
 rcases List.mem_cons.1 hh with rfl | hh
 ·refine ⟨E, hr, fun x hx hd => ?_⟩
  have := hl.lt x hd
  rcases hu.new x (hE x hx) with h | h
  ·cases h
  ·omega
 ·exact (hr0.upd hU) r hh
theorem Sep.old {w0 w : World} {R : List Thing} {rows : List (Value × Bs)} {v : Value} {b : Bs} {E : List Nat} (h : Sep w0 w R rows) (hr : ReadRow w0 1 v (b.map bv) E) : Sep w0 w R ((v, b) :: rows) := by
 obtain ⟨F, hl, hu0, hr0⟩ := h
 refine ⟨F, hl, hu0, fun r hh => ?_⟩
 rcases List.mem_cons.1 hh with rfl | hh
 ·refine ⟨E, hr.frame (hu0.same hr.lt (by simp)), fun x hx hd => ?_⟩
  rcases hu0.new x hd with h | h
  ·cases h
  ·have := hr.lt x hx; omega
 ·exact hr0 r hh
theorem Sep.nil {w0 w : World} {R : List Thing} {rows : List (Value × Bs)} (h : Sep w0 w R rows) : Sep w0 w R ((.slice none 0 0, []) :: rows) :=
 h.row (D' := []) (Upd.refl w []) (E := []) ⟨none, 0, 0, rfl, by simp, Nat.le_refl _, by decide, fun _ => rfl, .inl ⟨by simp, rfl⟩⟩ (by simp)
theorem Sep.start (w : World) : Sep w w [] [] := ⟨[], .nil, Upd.refl _ _, fun r h => by cases h⟩
theorem Sep.cell {w0 w : World} {R : List Thing} {rows : List (Value × Bs)} (h : Sep w0 w R rows) {a : Addr} {v : Value} (hc : w0.cell? a = some v) : w.cell? a = some v := by
 have hb := h.below
 have hlt : a.block < w0.heap.size := by
  cases hh : w0.heap[a.block]? with
  | none => rw [World.cell?, hh] at hc; cases hc
  | some o => exact ya6' hh
 rw [World.cell?_of_block (hb.block _ hlt)]; exact hc
end Go.Av

namespace Go.Av
open Go.RowKit
theorem Lie.perm {w : World} {A B : List Thing} (hp : A.Perm B) : ∀ {D : List Nat}, Lie w A D → ∃ E, Lie w B E ∧ ∀ x, x ∈ E ↔ x ∈ D := by
 induction hp with
 | nil => exact fun h => ⟨_, h, fun _ => .rfl⟩
 | cons a _ ih =>
  intro D h
  cases h with
  | cons h1 h2 h3 =>
   obtain ⟨E, hE, he⟩ := ih h3
   exact ⟨_, .cons h1 (fun x hx hm => h2 x hx ((he x).1 hm)) hE, fun x => by simp [he]⟩
 | swap a b l =>
  intro D h
  cases h with
  | @cons _ D _ E' h1 h2 h3 =>
   cases h3 with
   | @cons _ E _ G k1 k2 k3 =>
    refine ⟨E ++ (D ++ G), .cons k1 (fun x hx he => ?_) (.cons h1 (fun x hx he => h2 x hx (by simp [he])) k3), fun x => by simp only [List.mem_append]; exact ⟨fun h => by rcases h with h | h | h <;> simp [h], fun h => by rcases h with h | h | h <;> simp [h]⟩⟩
    rcases List.mem_append.1 he with he | he
    ·exact h2 x he (by simp [hx])
    ·exact k2 x hx he
 | trans _ _ ih1 ih2 =>
  intro D h
  obtain ⟨E, hE, he⟩ := ih1 h
  obtain ⟨G, hG, hg⟩ := ih2 hE
  exact ⟨G, hG, fun x => (hg x).trans (he x)⟩
theorem Sep.perm {w0 w : World} {A B : List Thing} {rows : List (Value × Bs)} (h : Sep w0 w A rows) (hp : A.Perm B) : Sep w0 w B rows := by
 obtain ⟨D, hl, hu, hr⟩ := h
 obtain ⟨E, hE, he⟩ := Lie.perm hp hl
 exact ⟨E, hE, hu.mono (by simp) (fun b hb => .inl ((he b).1 hb)), hr.sub (fun x hx => (he x).1 hx)⟩
def yac' (b : Nat) (o : Obj) : Thing := ⟨fun w D => w.heap[b]? = some o ∧ D = [b], fun h hs => ⟨(hs _ (by simp [h.2])).trans h.1, h.2⟩, fun h x hx => by rw [h.2, List.mem_singleton] at hx; subst hx; exact ya6' h.1⟩
theorem Lie.has {w : World} {A : List Thing} {D : List Nat} (h : Lie w A D) {T : Thing} (hT : T ∈ A) : ∃ E, T.P w E ∧ ∀ x ∈ E, x ∈ D := by
 induction h with
 | nil => cases hT
 | @cons _ D _ E h1 _ _ ih =>
  rcases List.mem_cons.1 hT with rfl | hT
  ·exact ⟨D, h1, fun x hx => by simp [hx]⟩
  ·obtain ⟨E', k1, k2⟩ := ih hT
   exact ⟨E', k1, fun x hx => by simp [k2 x hx]⟩
theorem Sep.has {w0 w : World} {A : List Thing} {rows : List (Value × Bs)} (h : Sep w0 w A rows) {T : Thing} (hT : T ∈ A) : ∃ E, T.P w E := by
 obtain ⟨D, hl, _⟩ := h
 obtain ⟨E, hE, _⟩ := hl.has hT
 exact ⟨E, hE⟩
theorem Sep.block {w0 w : World} {A : List Thing} {rows : List (Value × Bs)} (h : Sep w0 w A rows) {b : Nat} {o : Obj} (hT : yac' b o ∈ A) : w.heap[b]? = some o := by
 obtain ⟨E, hE⟩ := h.has hT
 exact hE.1
theorem Sep.newCell {w0 w : World} {A : List Thing} {rows : List (Value × Bs)} (h : Sep w0 w A rows) (o : Obj) : Sep w0 (w.alloc o) (yac' w.heap.size o :: A) rows :=
 h.add (Upd.alloc1 w o []) ⟨heap_alloc_new w o, rfl⟩
end Go.Av

namespace Go.Av
open Go.RowKit
def ybc' (size : Nat) (v : Value) (xs : List Value) : Thing := ⟨fun w D => OwnRow w size v xs D, fun h hs => h.frame hs, fun h => h.lt⟩
def yay' (d : TypeDesc) (m : Nat) (l : List (Value × Value)) : Thing :=
 ⟨fun w D => MapIs w d m l ∧ D = [m], fun h hs => ⟨h.1.frame (hs _ (by simp [h.2])), h.2⟩, fun h x hx => by rw [h.2, List.mem_singleton] at hx; subst hx; exact h.1.lt⟩
section
variable {w0 w : World} {R : List Thing} {rows : List (Value × Bs)}
theorem Sep.fst {T : Thing} (h : Sep w0 w (T :: R) rows) : ∃ D, T.P w D := h.has k_s
theorem Sep.blk {b : Nat} {o : Obj} (h : Sep w0 w (yac' b o :: R) rows) : w.heap[b]? = some o := h.block k_s
theorem Sep.set {b : Nat} {cs : Array Value} {T : TypeId} (h : Sep w0 w (yac' b (.cells cs T (0, 0)) :: R) rows) (i : Nat) (v : Value) :
  Sep w0 (w.setCell ⟨b, i, none⟩ v) (yac' b (.cells (cs.setIfInBounds i v) T (0, 0)) :: R) rows := by
 obtain ⟨D, hP, _, back⟩ := h.use
 obtain ⟨hb, rfl⟩ := hP
 exact back _ [b] (yac' b (.cells (cs.setIfInBounds i v) T (0, 0))) (Upd.set1 _ _ _ _ (by simp)) ⟨heap_setCell_same w b i cs T v hb, rfl⟩
theorem Sep.to {T T' : Thing} (h : Sep w0 w (T :: R) rows) {w' : World} (hu : ∀ D, T.P w D → ∃ D', T'.P w' D' ∧ Upd w w' D D') : Sep w0 w' (T' :: R) rows := by
 obtain ⟨D, hP, _, back⟩ := h.use
 obtain ⟨D', h1, h2⟩ := hu D hP
 exact back _ _ T' h2 h1
theorem Sep.rowLen {size : Nat} {v : Value} {xs : List Value} (h : Sep w0 w (ybc' size v xs :: R) rows) : ∃ a n c, v = .slice a n c ∧ xs.length = n * size ∧ n ≤ c ∧ c ≤ maxLen := by
 obtain ⟨D, hP⟩ := h.fst
 obtain ⟨a, n, c, h1, h2, h3, h4, _⟩ := hP
 exact ⟨a, n, c, h1, h2, h3, h4⟩
theorem Sep.rowCell {a : Option Addr} {n c : Nat} {xs : List Value} (h : Sep w0 w (ybc' 1 (.slice a n c) xs :: R) rows) {i : Nat} {x : Value} (hx : xs[i]? = some x) :
  ∃ y : Addr, a = some y ∧ y.spot = none ∧ w.cell? (y.add i) = some x := by
 obtain ⟨D, hP⟩ := h.fst
 obtain ⟨a', n', c', hv, hl, hn, hc, ha, hr⟩ := hP
 cases hv
 rcases hr with ⟨hc0, _⟩ | ⟨g, off, cur, T, h1, h2, h3, h4, h5⟩
 ·have : i < xs.length := (List.getElem?_eq_some_iff.1 hx).1
  omega
 ·refine ⟨⟨g, off, none⟩, h1, rfl, ?_⟩
  rw [Addr.add_lit, cell_of_row w g (off + i) cur T _ h3]
  rw [← h5, List.getElem?_take] at hx
  split at hx
  ·rw [List.getElem?_drop] at hx; simpa using hx
  ·cases hx
theorem Sep.rowSet {y : Addr} {n c : Nat} {xs : List Value} (h : Sep w0 w (ybc' 1 (.slice (some y) n c) xs :: R) rows) {i : Nat} (hi : i < n) (v : Value) :
  w.frozen? (y.add i) = false ∧ y.spot = none ∧ (∃ u, w.cell? (y.add i) = some u) ∧ Sep w0 (w.setCell (y.add i) v) (ybc' 1 (.slice (some y) n c) (xs.set i v) :: R) rows := by
 obtain ⟨D, hP, _, back⟩ := h.use
 obtain ⟨a', n', c', hv, hl, hn, hc, ha, hr⟩ := hP
 cases hv
 rcases hr with ⟨hc0, _⟩ | ⟨g, off, cur, T, h1, h2, h3, h4, h5⟩
 ·omega
 ·cases h1
  subst h2
  rw [Addr.add_lit]
  have hsz : off + i < cur.size := by omega
  refine ⟨yae' h3 _, rfl, ⟨cur[off + i], by rw [cell_of_row w g (off + i) cur T _ h3]; exact Array.getElem?_eq_getElem hsz⟩, ?_⟩
  refine back _ [g] (ybc' 1 (.slice (some ⟨g, off, none⟩) n c) (xs.set i v)) (Upd.set1 _ _ _ _ (by simp)) ⟨_, n, c, rfl, by simpa using hl, hn, hc, ha, .inr ⟨g, off, _, T, rfl, rfl, heap_setCell_same w g (off + i) cur T v h3, by simpa using h4, ?_⟩⟩
  rw [← h5, Array.toList_setIfInBounds]
  apply List.ext_getElem?
  intro k
  simp only [List.getElem?_take, List.getElem?_drop, List.getElem?_set, List.length_take, List.length_drop, Array.length_toList, Nat.mul_one, Array.getElem?_toList]
  have hm : i < min n (cur.size - off) := by omega
  by_cases hki : i = k
  ·subst hki
   simp [hi, hsz, hm]
  ·have : ¬ off + i = off + k := by omega
   simp [hki]
theorem Sep.addRow {v : Value} {xs : List Value} {size : Nat} {w' : World} {D : List Nat} (h : Sep w0 w R rows) (ho : OwnRow w' size v xs D) (hu : Upd w w' [] D) : Sep w0 w' (ybc' size v xs :: R) rows := h.add hu ho
theorem Sep.nilRow (size : Nat) (h : Sep w0 w R rows) : Sep w0 w (ybc' size (.slice none 0 0) [] :: R) rows := h.addRow (OwnRow.nil w size) (Upd.refl w [])
theorem Sep.mapIs {d : TypeDesc} {m : Nat} {l : List (Value × Value)} (h : Sep w0 w (yay' d m l :: R) rows) : MapIs w d m l := by
 obtain ⟨D, hP⟩ := h.fst
 exact hP.1
theorem Sep.newMap (d : TypeDesc) (h : Sep w0 w R rows) : Sep w0 (w.alloc (.map #[] 0)) (yay' d w.heap.size [] :: R) rows :=
 h.add (Upd.alloc1 w _ []) ⟨MapIs.made w d, rfl⟩
theorem Sep.mapTo {d : TypeDesc} {m : Nat} {l l' : List (Value × Value)} (h : Sep w0 w (yay' d m l :: R) rows) {w' : World} (hu : Upd w w' [m] [m]) (hm : MapIs w' d m l') : Sep w0 w' (yay' d m l' :: R) rows :=
 h.to fun D hP => ⟨[m], ⟨hm, rfl⟩, by rw [hP.2]; exact hu⟩
end
end Go.Av

namespace Go.Av
open Go.RowKit
def Bun (O : List Thing → Prop) : Thing :=
 ⟨fun w D => ∃ L, O L ∧ Lie w L D, fun h hs => by obtain ⟨L, h1, h2⟩ := h; exact ⟨L, h1, h2.frame hs⟩, fun h => by obtain ⟨L, h1, h2⟩ := h; exact h2.lt⟩
section
variable {w0 w : World} {R : List Thing} {rows : List (Value × Bs)}
theorem Sep.opens {O : List Thing → Prop} (h : Sep w0 w (Bun O :: R) rows) : ∃ L, O L ∧ Sep w0 w (L ++ R) rows := by
 obtain ⟨F, hl, hu, hr⟩ := h
 cases hl with
 | @cons _ D _ E h1 h2 h3 =>
  obtain ⟨L, hO, hL⟩ := h1
  exact ⟨L, hO, D ++ E, hL.append h3 h2, hu, hr⟩
theorem Sep.shut {O : List Thing → Prop} {L : List Thing} (hO : O L) (h : Sep w0 w (L ++ R) rows) : Sep w0 w (Bun O :: R) rows := by
 obtain ⟨F, hl, hu, hr⟩ := h
 obtain ⟨D, E, rfl, hA, hB, ha⟩ := hl.split
 exact ⟨D ++ E, .cons (T := Bun O) ⟨L, hO, hA⟩ ha hB, hu, hr⟩
theorem yf1' : ∀ {A B : List Thing} {T : Thing} {i : Nat}, A[i]? = some T → A.eraseIdx i = B → (T :: B).Perm A
 | [], _, _, _, h, _ => by simp at h
 | a :: A, B, T, 0, h, e => by
  simp at h e
  subst h; subst e
  exact List.Perm.refl _
 | a :: A, B, T, i + 1, h, e => by
  simp at h e
  subst e
  exact (List.Perm.swap _ _ _).trans ((yf1' h rfl).cons _)
theorem Sep.pick {A B : List Thing} {T : Thing} (h : Sep w0 w A rows) (i : Nat) (hT : A[i]? = some T) (hB : A.eraseIdx i = B) : Sep w0 w (T :: B) rows := h.perm (yf1' hT hB).symm
theorem Sep.lay {A B : List Thing} {T : Thing} (h : Sep w0 w (T :: B) rows) (i : Nat) (hT : A[i]? = some T) (hB : A.eraseIdx i = B) : Sep w0 w A rows := h.perm (yf1' hT hB)
theorem Sep.sub {A B : List Thing} (h : Sep w0 w (A ++ B) rows) : Sep w0 w B rows := by
 induction A with
 | nil => exact h
 | cons T A ih => exact ih h.drop
end
end Go.Av

namespace Go.Av
open Go.RowKit
abbrev PRow := Nat × Value × List Value
def yab' (w0 : World) (P : List PRow) : Thing :=
  ⟨fun w D => (∀ b ∈ D, b < w.heap.size) ∧ ∀ r ∈ P, (∃ E, ReadRow w r.1 r.2.1 r.2.2 E ∧ ∀ b ∈ E, b ∈ D) ∨ ∃ E, ReadRow w0 r.1 r.2.1 r.2.2 E,
   fun {w w' D} h hs => ⟨fun b hb => by
      have h1 := h.1 b hb
      exact ya6' (o := w.heap[b]) (by rw [hs b hb, Array.getElem?_eq_getElem h1]),
    fun r hr => by
      rcases h.2 r hr with ⟨E, h1, h2⟩ | h1
      · exact .inl ⟨E, h1.frame (fun b hb => hs b (h2 b hb)), h2⟩
      · exact .inr h1⟩,
   fun h => h.1⟩
section
variable {w0 w : World} {R : List Thing} {rows : List (Value × Bs)} {P Q : List PRow}
theorem Sep.poolNew (h : Sep w0 w R rows) : Sep w0 w (yab' w0 [] :: R) rows :=
 h.add (D' := []) (Upd.refl w []) ⟨by simp, by simp⟩
theorem Sep.poolGet (h : Sep w0 w (yab' w0 P :: R) rows) {r : PRow} (hr : r ∈ P) : ∃ E, ReadRow w r.1 r.2.1 r.2.2 E := by
 obtain ⟨D, hD⟩ := h.fst
 rcases hD.2 r hr with ⟨E, hE, -⟩ | ⟨E, hE⟩
 ·exact ⟨E, hE⟩
 ·exact ⟨E, hE.frame (fun b hb => h.below.block b (hE.lt b hb))⟩
theorem Sep.poolOld {K : Nat} {v : Value} {xs : List Value} {E : List Nat} (h : Sep w0 w (yab' w0 P :: R) rows) (hr : ReadRow w0 K v xs E) : Sep w0 w (yab' w0 ((K, v, xs) :: P) :: R) rows := by
 obtain ⟨F, hl, hu, hrr⟩ := h
 cases hl with
 | @cons _ D _ G h1 h2 h3 =>
  refine ⟨D ++ G, .cons ⟨h1.1, fun r hr' => ?_⟩ h2 h3, hu, hrr⟩
  rcases List.mem_cons.1 hr' with rfl | hr'
  ·exact .inr ⟨E, hr⟩
  ·exact h1.2 r hr'
theorem Sep.poolRow {K : Nat} {v : Value} {xs : List Value} (h : Sep w0 w (ybc' K v xs :: yab' w0 P :: R) rows) : Sep w0 w (yab' w0 ((K, v, xs) :: P) :: R) rows := by
 obtain ⟨F, hl, hu, hr⟩ := h
 cases hl with
 | @cons _ D _ _ h1 h2 h3 =>
  cases h3 with
  | @cons _ E _ G k1 k2 k3 =>
   obtain ⟨X, hX, hXD⟩ := OwnRow.read h1
   refine ⟨(D ++ E) ++ G, .cons ⟨fun b hb => ?_, fun r hr => ?_⟩ (fun x hx he => ?_) k3, hu.mono (by simp) (fun b hb => .inl (by simpa [List.append_assoc] using hb)), hr.sub (fun x hx => by simpa [List.append_assoc] using hx)⟩
   ·rcases List.mem_append.1 hb with hb | hb
    ·exact h1.lt b hb
    ·exact k1.1 b hb
   ·rcases List.mem_cons.1 hr with rfl | hr
    ·exact .inl ⟨X, hX, fun b hb => by simp [hXD b hb]⟩
    ·rcases k1.2 r hr with ⟨Y, hY, hYE⟩ | hY
     ·exact .inl ⟨Y, hY, fun b hb => by simp [hYE b hb]⟩
     ·exact .inr hY
   ·rcases List.mem_append.1 hx with hx | hx
    ·exact h2 x hx (by simp [he])
    ·exact k2 x hx he
theorem Sep.poolNil (h : Sep w0 w (yab' w0 P :: R) rows) (K : Nat) : Sep w0 w (yab' w0 ((K, .slice none 0 0, []) :: P) :: R) rows :=
 (h.nilRow K).poolRow
theorem Sep.poolAdd {K : Nat} {v : Value} {xs : List Value} {w' : World} {D : List Nat} (h : Sep w0 w (yab' w0 P :: R) rows) (ho : OwnRow w' K v xs D) (hu : Upd w w' [] D) : Sep w0 w' (yab' w0 ((K, v, xs) :: P) :: R) rows :=
 (h.addRow ho hu).poolRow
theorem Sep.imp {T T' : Thing} (h : Sep w0 w (T :: R) rows) (hi : ∀ D, T.P w D → T'.P w D) : Sep w0 w (T' :: R) rows := by
 obtain ⟨F, hl, hu, hr⟩ := h
 cases hl with
 | @cons _ D _ E h1 h2 h3 => exact ⟨D ++ E, .cons (hi _ h1) h2 h3, hu, hr⟩
end
end Go.Av

namespace Go.Av
open Go.RowKit
theorem yf7' {fn : Func} {p : Tmp} {ty : TypeId} (h : fn.results = #[.cell p ty]) (tmps : Array Value) (P : Program) (w : World) :
  (results fn tmps).run P w =
   ((asAddr (tmps.getD p undef)).run P w).andThen fun a w₁ => (loadVar ty a).run P w₁ := by
 simp only [results, h]
 simp [Sem.run_bind, Result.andThen]
theorem ycg' {fn : Func} {p : Tmp} {ty : TypeId} (h : fn.results = #[.cell p ty]) (tmps : Array Value) {P : Program} {w : World} {b : Nat} {c : Array Value} {T : TypeId} {fs : Array Field}
  (hp : tmps.getD p undef = .pointer (some ⟨b, 0, none⟩)) (hb : w.heap[b]? = some (.cells c T (0, 0))) (hu : P.underlying ty = some (.struct fs)) (hi : (P.info? ty).map (·.size) = some c.size) :
  (results fn tmps).run P w = .ok (.agg c) w := by
 have := run_loadVar_row (P := P) w b T ty c (0, 0) (.struct fs) hb hu rfl hi
 have e : (asAddr (tmps.getD p undef)).run P w = .ok ⟨b, 0, none⟩ w := by rw [hp]; rfl
 rw [yf7' h, e]
 simp only [Result.andThen, this]
theorem Sep.setAll {w0 w : World} {R : List Thing} {rows : List (Value × Bs)} {b : Nat} {cs : Array Value} {T : TypeId} (h : Sep w0 w (yac' b (.cells cs T (0, 0)) :: R) rows) (vs : List Value) (hl : vs.length = cs.size) :
  Sep w0 (w.setCells b 0 vs) (yac' b (.cells vs.toArray T (0, 0)) :: R) rows := by
 obtain ⟨D, hP, _, back⟩ := h.use
 obtain ⟨hb, rfl⟩ := hP
 obtain ⟨h1, h2, h3⟩ := yb9' b vs 0 w
 refine back _ [b] (yac' b (.cells vs.toArray T (0, 0))) ⟨h1, h2, h3, by rw [yca']; exact Nat.le_refl _, fun k _ hn => ybe' b k (fun e => hn (by simp [e])) vs 0 w, fun k hk => .inl hk⟩ ⟨?_, rfl⟩
 rw [ybf' b T vs 0 w cs hb (by omega)]
 simp [hl]
end Go.Av

namespace Go.Av
section
variable {P : Program} {ops : Array Oper} {Q : Exit → Act → World → Prop} {md : Region.Mode} {S : World → Prop}
def ybh' (P : Program) (md : Region.Mode) (ops : Array Oper) (Q : Exit → Act → World → Prop) (S : World → Prop) (N : Nat) : Nat → Array Bool → Act → World → Prop
 | 0, listed, a, w => Region.ready md ops listed = [] ∧ Q .normal a w
 | fuel + 1, listed, a, w =>
  (Region.ready md ops listed = [] → Q .normal a w) ∧
  ∀ i ∈ Region.ready md ops listed, wpOp P ops Q i (fun a' w' => (i < N → S w → S w') ∧ ybh' P md ops Q S N fuel (listed.setIfInBounds i true) a' w') a w
theorem yjm' {N : Nat} : ∀ (fuel : Nat) (listed : Array Bool) (a : Act) (w : World), ybh' P md ops Q S N fuel listed a w → wpAny P md ops Q fuel listed a w
 | 0, _, _, _, h => h
 | fuel + 1, _, _, _, h => ⟨h.1, fun i hi => wpOp_mono (fun a' w' h' => yjm' fuel _ a' w' h'.2) (h.2 i hi)⟩
theorem yiu' {listed : Array Bool} {i : Nat} (h : i ∈ Region.ready md ops listed) : listed.getD i true = false := (mem_ready.1 h).1
theorem ygd' {N : Nat} : ∀ (fuel : Nat) (listed : Array Bool) (a : Act) (w : World), (∀ i, i < N → listed.getD i true = true) → wpAny P md ops Q fuel listed a w → ybh' P md ops Q S N fuel listed a w
 | 0, _, _, _, _, h => h
 | fuel + 1, listed, _, _, hl, h => ⟨h.1, fun i hi => wpOp_mono (fun a' w' h' => ⟨fun hN => absurd (hl i hN) (by rw [yiu' hi]; simp), ygd' fuel _ a' w' (fun j hj => by
    have := hl j hj
    by_cases hji : i = j
    ·subst hji
     simp only [Array.getD_eq_getD_getElem?, Array.getElem?_setIfInBounds] at *
     by_cases hs : i < listed.size
     ·simp [hs]
     ·simp [show ¬ i < listed.size by omega]
    ·rw [getD_set_ne true hji]; exact this) h'⟩) (h.2 i hi)⟩
def ywp' (md : Region.Mode) (ops : Array Oper) (N : Nat) (listed : Array Bool) (i : Nat) : Bool :=
 match ops[i]? with
 | none => false
 | some oi => (List.range ops.size).all fun j => j == i || (listed.getD j true && decide (j < N)) || match ops[j]? with
   | some oj => oj.after.any (fun e => Region.binds md e && (e.on == i || (decide (N ≤ j) && decide (N ≤ e.on)))) || (oi.apart ops oj && decide (j < N))
   | none => true
theorem yo1' {N i : Nat} {oi : Oper} {listed : Array Bool} (hi : ops[i]? = some oi) (h : ywp' md ops N listed i = true) (j : Nat) (oj : Oper)
  (hj : ops[j]? = some oj) (hne : j ≠ i) (hun : listed.getD j true = false) (hno : ∀ e ∈ oj.after, Region.binds md e = true → e.on ≠ i ∧ (N ≤ j → e.on < N)) :
  oi.apart ops oj = true ∧ j < N := by
 simp only [ywp', hi, List.all_eq_true, List.mem_range] at h
 have h1 := h j (Array.getElem?_eq_some_iff.1 hj).1
 simp only [hj, Bool.or_eq_true, beq_iff_eq, hne, false_or, hun, Bool.false_and, Bool.false_eq_true] at h1
 rcases h1 with h1 | h1
 ·obtain ⟨e, he, hb⟩ := Array.any_eq_true'.1 h1
  simp only [Bool.and_eq_true, Bool.or_eq_true, beq_iff_eq, decide_eq_true_eq] at hb
  obtain ⟨n1, n2⟩ := hno e he hb.1
  rcases hb.2 with h2 | h2
  ·exact absurd h2 n1
  ·have := n2 h2.1; omega
 ·simpa using h1
theorem ymg' {N i : Nat} {oi : Oper} {v : Value} (hi : ops[i]? = some oi) (hsel : ∀ (j : Nat) (o : Oper) cs b, ops[j]? = some o → o.op ≠ .select cs b)
  (hQ : ∀ c a w, Q (.panic c) (a.put oi.dst v) w → Q (.panic c) a w) :
  ∀ (fuel : Nat) (listed : Array Bool) (a : Act) (w : World),
   (∀ k, N ≤ k → listed.getD k false = false) →
   (∀ j oj, ops[j]? = some oj → j ≠ i → listed.getD j true = false → (∀ e ∈ oj.after, Region.binds md e = true → e.on ≠ i ∧ (N ≤ j → e.on < N)) → oi.apart ops oj = true ∧ j < N) →
   i ∈ Region.ready md ops listed → YieldsIf P ops S oi v a → S w →
   ybh' P md ops Q S N fuel (listed.setIfInBounds i true) (a.put oi.dst v) w → ybh' P md ops Q S N (fuel + 1) listed a w := by
 intro fuel
 induction fuel with
 | zero =>
  intro listed a w _ _ hr hy hS H
  refine ⟨fun h => (by rw [h] at hr; cases hr), fun j hj => ?_⟩
  by_cases hji : j = i
  ·subst hji; exact hy.wpOp hi hS ⟨fun _ h => h, H⟩
  ·have := ready_mono hj hji
   rw [H.1] at this
   cases this
 | succ fuel ih =>
  intro listed a w hblk hfree hr hy hS H
  refine ⟨fun h => (by rw [h] at hr; cases hr), fun j hj => ?_⟩
  by_cases hji : j = i
  ·subst hji; exact hy.wpOp hi hS ⟨fun _ h => h, H⟩
  ·have h1 := H.2 j (ready_mono hj hji)
   obtain ⟨hjun, oj, hoj, hall⟩ := mem_ready.1 hj
   have hnot : ∀ e ∈ oj.after, Region.binds md e = true → e.on ≠ i ∧ (N ≤ j → e.on < N) := fun e he hb => by
    have h1 := hall e he hb
    have h0 := (mem_ready.1 hr).1
    refine ⟨fun heq => ?_, fun _ => ?_⟩
    ·rw [heq] at h1
     rcases Nat.lt_or_ge i listed.size with h' | h'
     ·simp [h'] at h0 h1; rw [h0] at h1; cases h1
     ·simp [Array.getElem?_eq_none h'] at h1
    ·rcases Nat.lt_or_ge e.on N with h' | h'
     ·exact h'
     ·rw [hblk _ h'] at h1; cases h1
   obtain ⟨hap, hjN⟩ := hfree j oj hoj hji hjun hnot
   have h2 := wpOp_putIf hoj hap (fun cs b => hsel i oi cs b hi) (fun cs b => hsel j oj cs b hoj) hQ hy h1
   have hfree' : ∀ k ok, ops[k]? = some ok → k ≠ i → (listed.setIfInBounds j true).getD k true = false →
     (∀ e ∈ ok.after, Region.binds md e = true → e.on ≠ i ∧ (N ≤ k → e.on < N)) → oi.apart ops ok = true ∧ k < N := fun k ok hk hki hun hno => by
    refine hfree k ok hk hki ?_ hno
    by_cases hjk : j = k
    ·subst hjk; exact hjun
    ·rw [getD_set_ne true hjk] at hun; exact hun
   have hblk' : ∀ k, N ≤ k → (listed.setIfInBounds j true).getD k false = false := fun k hk => by
    rw [getD_set_ne false (by omega)]; exact hblk k hk
   refine wpOp_mono (fun a' w' h3 => ⟨h3.2.1, ih (listed.setIfInBounds j true) a' w' hblk' hfree' (ready_mono hr (Ne.symm hji)) h3.1 (h3.2.1 hjN hS) ?_⟩) h2
   rw [Array.setIfInBounds_comm _ _ hji]
   exact h3.2.2
theorem ykq' {N i : Nat} {oi : Oper} {v : Value} (hi : ops[i]? = some oi) (hsel : ∀ (j : Nat) (o : Oper) cs b, ops[j]? = some o → o.op ≠ .select cs b)
  (hQ : ∀ c a w, Q (.panic c) (a.put oi.dst v) w → Q (.panic c) a w) :
  ∀ (fuel : Nat) (listed : Array Bool) (a : Act) (w : World),
   (∀ j oj, ops[j]? = some oj → j ≠ i → listed.getD j true = false → (∀ e ∈ oj.after, Region.binds md e = true → e.on ≠ i) → oi.apart ops oj = true) →
   i ∈ Region.ready md ops listed → YieldsIf P ops (fun _ => True) oi v a →
   ybh' P md ops Q S N fuel (listed.setIfInBounds i true) (a.put oi.dst v) w → ybh' P md ops Q S N (fuel + 1) listed a w := by
 intro fuel
 induction fuel with
 | zero =>
  intro listed a w _ hr hy H
  refine ⟨fun h => (by rw [h] at hr; cases hr), fun j hj => ?_⟩
  by_cases hji : j = i
  ·subst hji; exact hy.wpOp hi trivial ⟨fun _ h => h, H⟩
  ·have := ready_mono hj hji
   rw [H.1] at this
   cases this
 | succ fuel ih =>
  intro listed a w hfree hr hy H
  refine ⟨fun h => (by rw [h] at hr; cases hr), fun j hj => ?_⟩
  by_cases hji : j = i
  ·subst hji; exact hy.wpOp hi trivial ⟨fun _ h => h, H⟩
  ·have h1 := H.2 j (ready_mono hj hji)
   obtain ⟨hjun, oj, hoj, hall⟩ := mem_ready.1 hj
   have hnot : ∀ e ∈ oj.after, Region.binds md e = true → e.on ≠ i := fun e he hb heq => by
    have h1 := hall e he hb
    have h0 := (mem_ready.1 hr).1
    rw [heq] at h1
    rcases Nat.lt_or_ge i listed.size with h' | h'
    ·simp [h'] at h0 h1; rw [h0] at h1; cases h1
    ·simp [Array.getElem?_eq_none h'] at h1
   have h2 := wpOp_putIf hoj (hfree j oj hoj hji hjun hnot) (fun cs b => hsel i oi cs b hi) (fun cs b => hsel j oj cs b hoj) hQ hy h1
   have hfree' : ∀ k ok, ops[k]? = some ok → k ≠ i → (listed.setIfInBounds j true).getD k true = false →
     (∀ e ∈ ok.after, Region.binds md e = true → e.on ≠ i) → oi.apart ops ok = true := fun k ok hk hki hun hno => by
    refine hfree k ok hk hki ?_ hno
    by_cases hjk : j = k
    ·subst hjk; exact hjun
    ·rw [getD_set_ne true hjk] at hun; exact hun
   refine wpOp_mono (fun a' w' h3 => ⟨h3.2.1, ih (listed.setIfInBounds j true) a' w' hfree' (ready_mono hr (Ne.symm hji)) h3.1 ?_⟩) h2
   rw [Array.setIfInBounds_comm _ _ hji]
   exact h3.2.2
def ya0' (P : Program) (ops : Array Oper) (S : World → Prop) : List (Nat × Bool) → Act → Act → Prop
 | [], a, A => a = A
 | (i, true) :: r, a, A => ∃ o v a', ops[i]? = some o ∧ YieldsIf P ops S o v a ∧ a' = a.put o.dst v ∧ ya0' P ops S r a' A
 | (i, false) :: r, a, A => ∃ o v a', ops[i]? = some o ∧ YieldsIf P ops (fun _ => True) o v a ∧ a' = a.put o.dst v ∧ ya0' P ops S r a' A
theorem yas' {i : Nat} {r : List (Nat × Bool)} {a A a' : Act} {o : Oper} {v : Value} (ho : ops[i]? = some o) (hw : Region.wanted o (yielded ops a.tmps) = true) (hy : ∀ w, S w → (execOp a.eval o).run P w = .ok (.value v) w)
  (ha : a' = a.put o.dst v) (hr : ya0' P ops S r a' A) : ya0' P ops S ((i, true) :: r) a A := ⟨o, v, a', ho, .inl ⟨hw, hy⟩, ha, hr⟩
theorem yav' {i : Nat} {r : List (Nat × Bool)} {a A a' : Act} {o : Oper} {v : Value} (ho : ops[i]? = some o) (hw : Region.wanted o (yielded ops a.tmps) = true) (hy : ∀ w : World, (execOp a.eval o).run P w = .ok (.value v) w)
  (ha : a' = a.put o.dst v) (hr : ya0' P ops S r a' A) : ya0' P ops S ((i, false) :: r) a A := ⟨o, v, a', ho, .inl ⟨hw, fun w _ => hy w⟩, ha, hr⟩
theorem ybm' {i : Nat} {r : List (Nat × Bool)} {a A a' : Act} {o : Oper} {b : Bool} (ho : ops[i]? = some o) (hw : Region.wanted o (yielded ops a.tmps) = false)
  (ha : a' = a.put o.dst undef) (hr : ya0' P ops S r a' A) : ya0' P ops S ((i, b) :: r) a A := by
 cases b
 ·exact ⟨o, undef, a', ho, .inr ⟨hw, rfl⟩, ha, hr⟩
 ·exact ⟨o, undef, a', ho, .inr ⟨hw, rfl⟩, ha, hr⟩
def yv9' (n N : Nat) (listed : Array Bool) : Bool := (List.range n).all fun k => decide (k < N) || !listed.getD k false
theorem yom' {N : Nat} {listed : Array Bool} (h : yv9' listed.size N listed = true) : ∀ k, N ≤ k → listed.getD k false = false := by
 intro k hk
 rcases Nat.lt_or_ge k listed.size with hl | hl
 ·simp only [yv9', List.all_eq_true, List.mem_range, Bool.or_eq_true, decide_eq_true_eq] at h
  rcases h k hl with h | h
  ·omega
  ·simpa using h
 ·simp [Array.getElem?_eq_none hl]
def yfn' (md : Region.Mode) (ops : Array Oper) (N : Nat) : List (Nat × Bool) → Array Bool → Bool
 | [], _ => true
 | (i, true) :: r, listed => (yv9' listed.size N listed && ywp' md ops N listed i) && ((Region.ready md ops listed).contains i && yfn' md ops N r (listed.setIfInBounds i true))
 | (i, false) :: r, listed => Region.free md ops listed i && ((Region.ready md ops listed).contains i && yfn' md ops N r (listed.setIfInBounds i true))
def yj3' : List (Nat × Bool) → Array Bool → Array Bool
 | [], l => l
 | i :: r, l => yj3' r (l.setIfInBounds i.1 true)
theorem ye2' {N : Nat} (hs : Region.noSelect ops = true) (hQ : ∀ c a (d : Option Tmp) v w, Q (.panic c) (a.put d v) w → Q (.panic c) a w) :
  ∀ (l : List (Nat × Bool)) {fuel : Nat} {listed : Array Bool} {a A : Act} {w : World}, yfn' md ops N l listed = true → ya0' P ops S l a A → S w →
   ybh' P md ops Q S N fuel (yj3' l listed) A w → ybh' P md ops Q S N (fuel + l.length) listed a w
 | [], _, _, _, _, _, _, hy, _, h => by cases hy; exact h
 | (i, true) :: r, fuel, listed, a, A, w, hok, hy, hS, h => by
  obtain ⟨o, v, a', ho, hyi, rfl, hyr⟩ := hy
  simp only [yfn', Bool.and_eq_true] at hok
  exact ymg' ho (Region.noSelect_spec hs) (fun c a w => hQ c a o.dst v w) (fuel + r.length) listed a w (yom' hok.1.1) (fun j oj hj hne hun hno => yo1' ho hok.1.2 j oj hj hne hun hno) (by simpa using hok.2.1) hyi hS
   (ye2' hs hQ r hok.2.2 hyr hS h)
 | (i, false) :: r, fuel, listed, a, A, w, hok, hy, hS, h => by
  obtain ⟨o, v, a', ho, hyi, rfl, hyr⟩ := hy
  simp only [yfn', Bool.and_eq_true] at hok
  exact ykq' ho (Region.noSelect_spec hs) (fun c a w => hQ c a o.dst v w) (fuel + r.length) listed a w (Region.free_spec ho hok.1) (by simpa using hok.2.1) hyi
   (ye2' hs hQ r hok.2.2 hyr hS h)
theorem ynh' {N : Nat} (hs : Region.noSelect ops = true) (hQ : ∀ c a (d : Option Tmp) v w, Q (.panic c) (a.put d v) w → Q (.panic c) a w)
  (l : List (Nat × Bool)) {fuel : Nat} {listed : Array Bool} {a : Act} {w : World} (hok : yfn' md ops N l listed = true) (h : ∃ A, ya0' P ops S l a A ∧ S w ∧ ybh' P md ops Q S N fuel (yj3' l listed) A w) :
  ybh' P md ops Q S N (fuel + l.length) listed a w := by
 obtain ⟨A, hy, hS, h⟩ := h
 exact ye2' hs hQ l hok hy hS h
def yk9' (md : Region.Mode) (ops : Array Oper) : List Nat → Array Bool → Bool
 | [], listed => Region.ready md ops listed == []
 | i :: r, listed => Region.ready md ops listed == [i] && (ops[i]?).isSome && yk9' md ops r (listed.setIfInBounds i true)
theorem ygw' : ∀ (l : List Nat) {fuel : Nat} {listed : Array Bool} {a : Act} {w : World}, yk9' md ops l listed = true → wpList P ops Q (l.filterMap (ops[·]?)) a w → wpAny P md ops Q (fuel + l.length) listed a w
 | [], fuel, _, _, _, hf, h => by
  simp only [yk9', beq_iff_eq] at hf
  exact wpAny_done hf h _
 | i :: r, fuel, listed, a, w, hf, h => by
  simp only [yk9', Bool.and_eq_true, beq_iff_eq] at hf
  obtain ⟨o, ho⟩ := Option.isSome_iff_exists.1 hf.1.2
  refine ⟨fun h0 => (by rw [hf.1.1] at h0; cases h0), fun j hj => ?_⟩
  rw [hf.1.1] at hj
  obtain rfl : j = i := by simpa using hj
  simp only [List.filterMap_cons, ho] at h
  unfold wpList at h
  unfold wpOp
  simp only [ho]
  by_cases hw : Region.wanted o (yielded ops a.tmps) = true
  ·rw [if_pos hw] at h ⊢
   exact h.imp (Oper.wp_mono fun a' w' h' => ygw' r hf.2 h') id
  ·rw [if_neg hw] at h ⊢
   exact ygw' r hf.2 h
theorem ybb' {N i : Nat} {o : Oper} {fuel : Nat} {listed : Array Bool} {a : Act} {w : World} (hr : Region.ready md ops listed = [i]) (ho : ops[i]? = some o)
  (h : ∀ K : Act → World → Prop, (∀ a' w', S w' → ybh' P md ops Q S N fuel (listed.setIfInBounds i true) a' w' → K a' w') → wpList P ops (Exit.then K Q) [o] a w) : ybh' P md ops Q S N (fuel + 1) listed a w := by
 refine ⟨fun h0 => (by rw [hr] at h0; cases h0), fun j hj => ?_⟩
 rw [hr] at hj
 obtain rfl : j = i := by simpa using hj
 have h := h (fun a' w' => (j < N → S w → S w') ∧ ybh' P md ops Q S N fuel (listed.setIfInBounds j true) a' w') (fun a' w' h1 h2 => ⟨fun _ _ => h1, h2⟩)
 unfold wpList at h
 unfold wpOp
 simp only [ho]
 by_cases hw : Region.wanted o (yielded ops a.tmps) = true
 ·rw [if_pos hw] at h ⊢
  rcases h with h | ⟨h1, h2⟩
  ·refine .inl ?_
   unfold Oper.wp at h ⊢
   generalize (execOp a.eval o).run P w = r at h ⊢
   cases r with
   | ok n w' =>
    cases n <;> simp only [Oper.upon, wpList, Exit.then] at h ⊢
    case value => exact h
    case skip => exact h
    case defer => exact h
    case enter =>
     refine Calls.mono h fun e w'' he => ?_
     cases e with
     | returned v => exact he
     | panicked c => exact he
     | outgrown => exact he
    case row => exact h
   | halt x w' => cases x <;> simp only [Oper.upon, Exit.then] at h ⊢ <;> exact h
  ·exact .inr ⟨h1, h2⟩
 ·rw [if_neg hw] at h ⊢
  exact h
theorem yah' {N : Nat} {listed : Array Bool} {a : Act} {w : World} (hr : Region.ready md ops listed = []) (h : Q .normal a w) :
  ∀ fuel, ybh' P md ops Q S N fuel listed a w
 | 0 => ⟨hr, h⟩
 | _ + 1 => ⟨fun _ => h, by rw [hr]; simp⟩
theorem yan' (S : World → Prop) (N : Nat) {id : Nat} {a : Act} {w : World} (hm : P.follows .mixedOrders = true)
  (h : ybh' P .any ops Q S N ops.size (Array.replicate ops.size false) a w.drew) : (Code.region id ops true).wp P Q a w :=
 wp_region_any hm (yjm' _ _ _ _ h)
end
end Go.Av

namespace Go.Av
open Go.RowKit
inductive Rep (T T' : Thing) : List Thing → List Thing → Prop
 | here {R : List Thing} : Rep T T' (T :: R) (T' :: R)
 | there {U : Thing} {R R' : List Thing} : Rep T T' R R' → Rep T T' (U :: R) (U :: R')
theorem Rep.out {T T' : Thing} {A B : List Thing} (h : Rep T T' A B) : ∃ X, A.Perm (T :: X) ∧ (T' :: X).Perm B := by
 induction h with
 | here => exact ⟨_, .refl _, .refl _⟩
 | there _ ih =>
  obtain ⟨X, h1, h2⟩ := ih
  exact ⟨_ :: X, (h1.cons _).trans (.swap _ _ _), (List.Perm.swap _ _ _).trans (h2.cons _)⟩
theorem Rep.mem {T T' : Thing} {A B : List Thing} (h : Rep T T' A B) : T ∈ A := by
 induction h with
 | here => exact k_s
 | there _ ih => exact k_n _ ih
section
variable {w0 w : World} {Ts Ts' R : List Thing} {rows : List (Value × Bs)}
theorem Sep.rep {T T' : Thing} (h : Sep w0 w Ts rows) (hr : Rep T T' Ts Ts') {w' : World} (hu : ∀ D, T.P w D → ∃ D', T'.P w' D' ∧ Upd w w' D D') : Sep w0 w' Ts' rows := by
 obtain ⟨X, h1, h2⟩ := hr.out
 exact ((h.perm h1).to hu).perm h2
theorem Sep.mem {T : Thing} (h : Sep w0 w Ts rows) (hm : T ∈ Ts) : ∃ D, T.P w D := h.has hm
theorem yof' : ∀ (idx : List Nat) (A B : List Thing), idx.map (A[·]?) = B.map some → idx.Nodup → ∃ X, A.Perm (B ++ X)
 | [], A, B, h, _ => by
  cases B with
  | nil => exact ⟨A, .refl _⟩
  | cons b B => cases h
 | i :: idx, A, B, h, hn => by
  cases B with
  | nil => cases h
  | cons b B =>
   simp only [List.map_cons, List.cons.injEq] at h
   obtain ⟨hi, hr⟩ := h
   rw [List.nodup_cons] at hn
   have hlt : i < A.length := (List.getElem?_eq_some_iff.1 hi).1
   have hrr : (idx.map fun j => if j < i then j else j - 1).map ((A.eraseIdx i)[·]?) = B.map some := by
    rw [← hr, List.map_map]
    apply List.map_congr_left
    intro j hj
    have hne : j ≠ i := fun e => hn.1 (e ▸ hj)
    simp only [Function.comp]
    rw [List.getElem?_eraseIdx]
    by_cases hji : j < i
    ·rw [if_pos hji, if_pos hji]
    ·rw [if_neg hji, if_neg (by omega)]
     congr 1; omega
   have hnn : (idx.map fun j => if j < i then j else j - 1).Nodup := by
    have h1 : idx.Pairwise (fun j k => j ≠ k ∧ j ≠ i ∧ k ≠ i) := List.Pairwise.imp_of_mem (fun hj hk hjk => ⟨hjk, fun e => hn.1 (e ▸ hj), fun e => hn.1 (e ▸ hk)⟩) hn.2
    refine List.pairwise_map.2 (List.Pairwise.imp ?_ h1)
    intro j k ⟨h1, h2, h3⟩
    split <;> split <;> omega
   obtain ⟨X, hX⟩ := yof' _ _ _ hrr hnn
   exact ⟨X, (yf1' hi rfl).symm.trans (hX.cons b)⟩
theorem Lie.left {w : World} {A B : List Thing} {D : List Nat} (h : Lie w (A ++ B) D) : ∃ E, Lie w A E ∧ ∀ b ∈ E, b ∈ D := by
 obtain ⟨D1, E1, rfl, hA, hB, _⟩ := h.split
 exact ⟨D1, hA, fun b hb => by simp [hb]⟩
theorem Sep.take {A B : List Thing} (h : Sep w0 w (A ++ B) rows) : Sep w0 w A rows := by
 obtain ⟨D, hl, hu, hr⟩ := h
 obtain ⟨E, hE, hsub⟩ := hl.left
 exact ⟨E, hE, hu.mono (by simp) (fun b hb => .inl (hsub b hb)), hr.sub hsub⟩
theorem Sep.up1 {x0 x1 : Thing} {R : List Thing} (hh : Sep w0 w (x0 :: x1 :: R) rows) : Sep w0 w (x1 :: x0 :: R) rows := hh.pick 1 rfl rfl
theorem Sep.cut1 {x0 x1 : Thing} {R : List Thing} (hh : Sep w0 w (x0 :: x1 :: R) rows) : Sep w0 w (x0 :: R) rows := (hh.pick 1 rfl rfl).drop
theorem Sep.up2 {x0 x1 x2 : Thing} {R : List Thing} (hh : Sep w0 w (x0 :: x1 :: x2 :: R) rows) : Sep w0 w (x2 :: x0 :: x1 :: R) rows := hh.pick 2 rfl rfl
theorem Sep.cut2 {x0 x1 x2 : Thing} {R : List Thing} (hh : Sep w0 w (x0 :: x1 :: x2 :: R) rows) : Sep w0 w (x0 :: x1 :: R) rows := (hh.pick 2 rfl rfl).drop
theorem Sep.up3 {x0 x1 x2 x3 : Thing} {R : List Thing} (hh : Sep w0 w (x0 :: x1 :: x2 :: x3 :: R) rows) : Sep w0 w (x3 :: x0 :: x1 :: x2 :: R) rows := hh.pick 3 rfl rfl
theorem Sep.cut3 {x0 x1 x2 x3 : Thing} {R : List Thing} (hh : Sep w0 w (x0 :: x1 :: x2 :: x3 :: R) rows) : Sep w0 w (x0 :: x1 :: x2 :: R) rows := (hh.pick 3 rfl rfl).drop
theorem Sep.up4 {x0 x1 x2 x3 x4 : Thing} {R : List Thing} (hh : Sep w0 w (x0 :: x1 :: x2 :: x3 :: x4 :: R) rows) : Sep w0 w (x4 :: x0 :: x1 :: x2 :: x3 :: R) rows := hh.pick 4 rfl rfl
theorem Sep.up5 {x0 x1 x2 x3 x4 x5 : Thing} {R : List Thing} (hh : Sep w0 w (x0 :: x1 :: x2 :: x3 :: x4 :: x5 :: R) rows) : Sep w0 w (x5 :: x0 :: x1 :: x2 :: x3 :: x4 :: R) rows := hh.pick 5 rfl rfl
theorem Sep.cut5 {x0 x1 x2 x3 x4 x5 : Thing} {R : List Thing} (hh : Sep w0 w (x0 :: x1 :: x2 :: x3 :: x4 :: x5 :: R) rows) : Sep w0 w (x0 :: x1 :: x2 :: x3 :: x4 :: R) rows := (hh.pick 5 rfl rfl).drop
theorem Sep.up6 {x0 x1 x2 x3 x4 x5 x6 : Thing} {R : List Thing} (hh : Sep w0 w (x0 :: x1 :: x2 :: x3 :: x4 :: x5 :: x6 :: R) rows) : Sep w0 w (x6 :: x0 :: x1 :: x2 :: x3 :: x4 :: x5 :: R) rows := hh.pick 6 rfl rfl
theorem Sep.up7 {x0 x1 x2 x3 x4 x5 x6 x7 : Thing} {R : List Thing} (hh : Sep w0 w (x0 :: x1 :: x2 :: x3 :: x4 :: x5 :: x6 :: x7 :: R) rows) : Sep w0 w (x7 :: x0 :: x1 :: x2 :: x3 :: x4 :: x5 :: x6 :: R) rows := hh.pick 7 rfl rfl
theorem Sep.up8 {x0 x1 x2 x3 x4 x5 x6 x7 x8 : Thing} {R : List Thing} (hh : Sep w0 w (x0 :: x1 :: x2 :: x3 :: x4 :: x5 :: x6 :: x7 :: x8 :: R) rows) : Sep w0 w (x8 :: x0 :: x1 :: x2 :: x3 :: x4 :: x5 :: x6 :: x7 :: R) rows := hh.pick 8 rfl rfl
theorem Sep.up9 {x0 x1 x2 x3 x4 x5 x6 x7 x8 x9 : Thing} {R : List Thing} (hh : Sep w0 w (x0 :: x1 :: x2 :: x3 :: x4 :: x5 :: x6 :: x7 :: x8 :: x9 :: R) rows) : Sep w0 w (x9 :: x0 :: x1 :: x2 :: x3 :: x4 :: x5 :: x6 :: x7 :: x8 :: R) rows := hh.pick 9 rfl rfl
theorem Sep.back3x {a b c n t m l : Thing} {R : List Thing} (h : Sep w0 w (a :: b :: c :: n :: t :: m :: l :: R) rows) : Sep w0 w (n :: t :: m :: l :: a :: b :: c :: R) rows := h.perm (List.perm_append_comm (l₁ := [a, b, c]) (l₂ := [n, t, m, l]) |>.append_right R)
theorem Sep.back5x {a b c d e n t m l : Thing} {R : List Thing} (h : Sep w0 w (a :: b :: c :: d :: e :: n :: t :: m :: l :: R) rows) : Sep w0 w (n :: t :: m :: l :: a :: b :: c :: d :: e :: R) rows := h.perm (List.perm_append_comm (l₁ := [a, b, c, d, e]) (l₂ := [n, t, m, l]) |>.append_right R)
theorem Sep.pm {A B : List Thing} (h : Sep w0 w A rows) (n : Nat) (idx : List Nat) (h1 : idx.map ((A.take n)[·]?) = (B.take idx.length).map some) (h2 : B.drop idx.length = A.drop n) (hn : idx.Nodup := by decide) : Sep w0 w B rows := by
 obtain ⟨X, hX⟩ := yof' idx (A.take n) (B.take idx.length) h1 hn
 have e : A.Perm (B ++ X) := by
  have h3 : (A.take n ++ A.drop n).Perm ((B.take idx.length ++ X) ++ A.drop n) := hX.append_right _
  rw [List.take_append_drop, ← h2] at h3
  refine h3.trans ?_
  conv => rhs; rw [← List.take_append_drop idx.length B]
  rw [List.append_assoc, List.append_assoc]
  exact List.Perm.append_left _ List.perm_append_comm
 exact (h.perm e).take
end
def yci' (cs : Array Value) : Nat → List Value → Array Value
 | _, [] => cs
 | i, v :: r => yci' (cs.setIfInBounds i v) (i + 1) r
theorem ye8' : ∀ (vs : List Value) (cs : Array Value) (i : Nat), i + vs.length ≤ cs.size → yci' cs i vs = (cs.toList.take i ++ vs ++ cs.toList.drop (i + vs.length)).toArray
 | [], cs, i, _ => by simp [yci']
 | v :: r, cs, i, h => by
  simp only [List.length_cons] at h
  unfold yci'
  rw [ye8' r _ _ (by simp; omega)]
  congr 1
  have e := list_seg_step cs.toList i v r (by simp at h ⊢; omega)
  simpa [Array.toList_setIfInBounds, Nat.add_assoc] using e
def ycy' (P : Program) (ty : TypeId) : Bool := match P.underlying ty with
 | some (.struct _) | some (.array _ _) => false
 | some _ => true
 | none => false
def yfl' (P : Program) (ty : TypeId) (n : Nat) : Bool := (match P.underlying ty with
 | some (.struct _) | some (.array _ _) => true
 | _ => false) && (match P.info? ty with | some i => i.size == n | none => false)
structure StructN (P : Program) (ty : TypeId) (n : Nat) : Prop where
 is : yfl' P ty n = true
def yup' (P : Program) (ty : TypeId) (n : Nat) : Bool := match P.info? ty with | some i => i.size == n | none => false
def yco' (P : Program) (ty : TypeId) (zs : Array Value) : Prop := ((P.info? ty).bind (·.zero)).map Value.cells = some zs
section
variable {P : Program} {w : World}
theorem yag' {ty : TypeId} {A : Addr} {v : Value} (hs : ycy' P ty = true) (hc : w.cell? A = some v) : (Instr.loadAt ty (.pointer (some A))).run P w = .ok v w := by
 unfold ycy' at hs
 cases hu : P.underlying ty with
 | none => simp [hu] at hs
 | some d =>
  have hagg : (isAgg ty).run P w = .ok false w := by
   unfold isAgg
   rw [Sem.run_bind, run_underlying hu w]
   rw [hu] at hs
   cases d <;> simp_all
  simp [Instr.loadAt, Instr.sureAddr, Sem.run_bind, loadVar, hagg, hc]
theorem yat' {ty : TypeId} {b i : Nat} {cs : Array Value} {T : TypeId} {fr : Nat × Nat} {n : Nat} (hs : yfl' P ty n = true) (hb : w.heap[b]? = some (.cells cs T fr)) (hn : i + n ≤ cs.size) :
  (Instr.loadAt ty (.pointer (some ⟨b, i, none⟩))).run P w = .ok (.agg ((cs.toList.drop i).take n).toArray) w := by
 unfold yfl' at hs
 rw [Bool.and_eq_true] at hs
 obtain ⟨h1, h2⟩ := hs
 have hlen : ((cs.toList.drop i).take n).length = n := by simp; omega
 cases hi : P.info? ty with
 | none => simp [hi] at h2
 | some ii =>
  simp only [hi, beq_iff_eq] at h2
  cases hu : P.underlying ty with
  | none => simp [hu] at h1
  | some d =>
   refine run_loadAt_mid w b i ty _ d (fun j v hv => ?_) hu (by rw [hu] at h1; cases d <;> simp_all) (by rw [hi, hlen]; simpa using h2)
   rw [cell_of_row w b (i + j) cs T fr hb]
   rw [List.getElem?_take] at hv
   split at hv
   ·rw [List.getElem?_drop] at hv; simpa using hv
   ·cases hv
theorem yex' {ty : TypeId} {b i : Nat} {cs : Array Value} {T : TypeId} {v : Value} (hs : yup' P ty v.cells.size = true) (hb : w.heap[b]? = some (.cells cs T (0, 0))) (hn : i + v.cells.size ≤ cs.size) (h1 : v.cells.all (·.oneCell') = true) :
  (Instr.storeAt ty (.pointer (some ⟨b, i, none⟩)) v).run P w = .ok () (w.setCells b i v.cells.toList) := by
 unfold yup' at hs
 cases hi : P.info? ty with
 | none => simp [hi] at hs
 | some ii =>
  simp only [hi, beq_iff_eq] at hs
  have := run_storeCells_cells (P := P) b i v.cells.toList 0 w (fun j hj => by
    rw [Nat.add_zero, cell_of_row w b (i + j) cs T (0, 0) hb]
    simp at hj
    rw [Array.getElem?_eq_getElem (by omega)]; rfl) (fun j hj => by rw [Nat.add_zero]; exact yae' hb _)
   (fun v hv => (Array.all_eq_true_iff_forall_mem.1 h1) v (by simpa using hv))
  simp only [Nat.add_zero] at this
  simp [Instr.storeAt, Instr.sureAddr, Sem.run_bind, storeVar, sizeOf, typeInfo, hi, hs, this]
theorem yiv' {ty : TypeId} {zs : Array Value} (hz : yco' P ty zs) : (Instr.alloc ty true (.tuple #[])).run P w = .ok (.pointer (some ⟨w.heap.size, 0, none⟩)) (w.alloc (.cells zs ty)) := by
 unfold yco' at hz
 cases hi : P.info? ty with
 | none => simp [hi] at hz
 | some ii =>
  simp only [hi, Option.bind_some] at hz
  cases hzz : ii.zero with
  | none => simp [hzz] at hz
  | some z =>
   simp only [hzz, Option.map_some, Option.some.injEq] at hz
   subst hz
   simp [Instr.alloc, Sem.run_bind, zeroValue, typeInfo, hi, hzz, newVar, newRow]
end
theorem yhr' {cs : Array Value} {i : Nat} {v : Value} {tl : List Value} (h : cs.toList.drop i = v :: tl) : cs[i]? = some v := by
 have h1 : (cs.toList.drop i)[0]? = some v := by rw [h]; rfl
 rw [List.getElem?_drop] at h1
 simpa using h1
section
variable {P : Program} {ops : Array Oper} {Q : Exit → Act → World → Prop} {a : Act} {w w0 : World} {rest : List Oper} {Ts Ts' : List Thing} {rows : List (Value × Bs)}
 {dst : Option Tmp} {ty tyy : TypeId} {x y : Operand} {pos : String} {aft : Array Edge} {g : Option (Nat × Bool)} {b i : Nat} {cs : Array Value} {T : TypeId} {v : Value}
theorem ycb' {o : Oper} {w' : World} (hw : Region.wanted o (yielded ops a.tmps) = true) (hr : (execOp a.eval o).run P w = .ok (.value v) w') (k : wpList P ops Q rest (a.put o.dst v) w') : wpList P ops Q (o :: rest) a w := by
 unfold wpList
 rw [if_pos hw]
 refine .inl ?_
 unfold Oper.wp
 rw [hr, Oper.upon_value]
 exact k
theorem yjn' {o : Oper} {w' : World} (hw : Region.wanted o (yielded ops a.tmps) = true) (hr : (execOp a.eval o).run P w = .ok .skip w') (k : wpList P ops Q rest (a.put o.dst undef) w') : wpList P ops Q (o :: rest) a w := by
 unfold wpList
 rw [if_pos hw]
 refine .inl ?_
 unfold Oper.wp
 rw [hr, Oper.upon_skip]
 exact k
theorem ycn' {s : Sem Value} {w' : World} (h : s.run P w = .ok v w') : (do pure (Next.value (← s)) : Sem Next).run P w = .ok (.value v) w' := by
 simp [Sem.run_bind, h]
theorem yse' (H : Hid (Sep w0 w Ts rows)) (hx : a.eval x = .pointer (some ⟨b, i, none⟩)) (hw : Region.wanted ⟨dst, .load ty x, tyy, pos, aft, g⟩ (yielded ops a.tmps) = true) (hs : ycy' P ty = true) (hm : yac' b (.cells cs T (0, 0)) ∈ Ts)
  {tl : List Value} (hv : cs.toList.drop i = v :: tl) (k : wpList P ops Q rest (a.put dst v) w) : wpList P ops Q (⟨dst, .load ty x, tyy, pos, aft, g⟩ :: rest) a w := by
 refine ycb' hw ?_ k
 unfold execOp
 dsimp only
 rw [hx]
 exact ycn' (yag' hs (yaa' (Sep.block H hm) i (yhr' hv)))
theorem ykl' (H : Hid (Sep w0 w Ts rows)) (hx : a.eval x = .pointer (some ⟨b, i, none⟩)) (hw : Region.wanted ⟨dst, .load ty x, tyy, pos, aft, g⟩ (yielded ops a.tmps) = true) {n : Nat} (hs : StructN P ty n) (hm : yac' b (.cells cs T (0, 0)) ∈ Ts)
  (hn : Nat.ble (i + n) cs.size = true) (k : wpList P ops Q rest (a.put dst (.agg ((cs.toList.drop i).take n).toArray)) w) : wpList P ops Q (⟨dst, .load ty x, tyy, pos, aft, g⟩ :: rest) a w := by
 refine ycb' hw ?_ k
 unfold execOp
 dsimp only
 rw [hx]
 exact ycn' (yat' hs.1 (Sep.block H hm) (Nat.le_of_ble_eq_true hn))
theorem yij' (H : Hid (Sep w0 w Ts rows)) (hx : a.eval x = .pointer (some ⟨b, i, none⟩)) {vs : List Value} (hy : a.eval y = .agg vs.toArray) (hw : Region.wanted ⟨dst, .store ty x y, tyy, pos, aft, g⟩ (yielded ops a.tmps) = true) (hs : yup' P ty vs.length = true)
  (hr : Rep (yac' b (.cells cs T (0, 0))) (yac' b (.cells (yci' cs i vs) T (0, 0))) Ts Ts') (hn : Nat.ble (i + vs.length) cs.size = true) (h1 : vs.all (·.oneCell') = true)
  (k : ∀ w', Hid (Sep w0 w' Ts' rows) → wpList P ops Q rest (a.put dst undef) w') : wpList P ops Q (⟨dst, .store ty x y, tyy, pos, aft, g⟩ :: rest) a w := by
 have hn := Nat.le_of_ble_eq_true hn
 have e : (Value.agg vs.toArray).cells = vs.toArray := rfl
 refine yjn' hw ?_ (k (w.setCells b i vs) ?_)
 ·unfold execOp
  dsimp only
  have := yex' (P := P) (w := w) (ty := ty) (b := b) (i := i) (cs := cs) (T := T) (v := .agg vs.toArray) (by rw [e]; simpa using hs) (Sep.block H hr.mem) (by rw [e]; simpa using hn) (by rw [e]; simpa using h1)
  rw [e] at this
  rw [hx, hy, Sem.run_bind, this]
  rfl
 ·refine Sep.rep H hr fun D hP => ?_
  obtain ⟨hb, rfl⟩ := hP
  obtain ⟨h1, h2, h3⟩ := yb9' b vs i w
  refine ⟨[b], ⟨?_, rfl⟩, ⟨h1, h2, h3, by rw [yca']; exact Nat.le_refl _, fun k _ hn => ybe' b k (fun e => hn (by simp [e])) _ i w, fun k hk => .inl hk⟩⟩
  rw [ybf' b T _ i w cs hb hn, ye8' _ _ _ hn]
theorem yl8' (H : Hid (Sep w0 w Ts rows)) (hx : a.eval x = .pointer (some ⟨b, i, none⟩)) (hy : a.eval y = v) (hc : v.cells = #[v]) (hw : Region.wanted ⟨dst, .store ty x y, tyy, pos, aft, g⟩ (yielded ops a.tmps) = true) (hs : yup' P ty 1 = true)
  (hr : Rep (yac' b (.cells cs T (0, 0))) (yac' b (.cells (cs.setIfInBounds i v) T (0, 0))) Ts Ts') (hn : Nat.ble (i + 1) cs.size = true) (h1 : v.oneCell' = true)
  (k : ∀ w', Hid (Sep w0 w' Ts' rows) → wpList P ops Q rest (a.put dst undef) w') : wpList P ops Q (⟨dst, .store ty x y, tyy, pos, aft, g⟩ :: rest) a w := by
 have hn := Nat.le_of_ble_eq_true hn
 refine yjn' hw ?_ (k (w.setCells b i [v]) ?_)
 ·unfold execOp
  dsimp only
  have := yex' (P := P) (w := w) (ty := ty) (b := b) (i := i) (cs := cs) (T := T) (v := v) (by rw [hc]; simpa using hs) (Sep.block H hr.mem) (by rw [hc]; simpa using hn) (by rw [hc]; simpa using h1)
  rw [hc] at this
  rw [hx, hy, Sem.run_bind, this]
  rfl
 ·refine Sep.rep H hr fun D hP => ?_
  obtain ⟨hb, rfl⟩ := hP
  obtain ⟨h1, h2, h3⟩ := yb9' b [v] i w
  refine ⟨[b], ⟨?_, rfl⟩, ⟨h1, h2, h3, by rw [yca']; exact Nat.le_refl _, fun k _ hn => ybe' b k (fun e => hn (by simp [e])) _ i w, fun k hk => .inl hk⟩⟩
  have hn' : i + [v].length ≤ cs.size := hn
  rw [ybf' b T [v] i w cs hb hn', ← ye8' [v] cs i hn']
  rfl
theorem yoi' (H : Hid (Sep w0 w Ts rows)) (hw : Region.wanted ⟨dst, .alloc ty, tyy, pos, aft, g⟩ (yielded ops a.tmps) = true) {zs : Array Value} (hz : yco' P ty zs)
  (k : ∀ w' b, Hid (Sep w0 w' (yac' b (.cells zs ty (0, 0)) :: Ts) rows) → wpList P ops Q rest (a.put dst (.pointer (some ⟨b, 0, none⟩))) w') : wpList P ops Q (⟨dst, .alloc ty, tyy, pos, aft, g⟩ :: rest) a w := by
 refine ycb' hw ?_ (k (w.alloc (.cells zs ty)) w.heap.size ((Lib.hid (H.out.newCell _))))
 unfold execOp
 exact ycn' (yiv' hz)
theorem ysd' (H : Hid (Sep w0 w Ts rows)) {zs : Array Value} (hy : a.eval y = .agg zs) (hw : Region.wanted ⟨dst, .box ty y, tyy, pos, aft, g⟩ (yielded ops a.tmps) = true)
  (k : ∀ w' b, Hid (Sep w0 w' (yac' b (.cells zs ty (0, 0)) :: Ts) rows) → wpList P ops Q rest (a.put dst (.pointer (some ⟨b, 0, none⟩))) w') : wpList P ops Q (⟨dst, .box ty y, tyy, pos, aft, g⟩ :: rest) a w := by
 refine ycb' hw ?_ (k (w.alloc (.cells zs ty)) w.heap.size ((Lib.hid (H.out.newCell _))))
 unfold execOp
 dsimp only
 rw [hy]
 simp [Instr.box, newVar, newRow, Value.cells]
theorem ysc' (H : Hid (Sep w0 w Ts rows)) (hy : a.eval y = v) (hc : v.cells = #[v]) (hw : Region.wanted ⟨dst, .box ty y, tyy, pos, aft, g⟩ (yielded ops a.tmps) = true)
  (k : ∀ w' b, Hid (Sep w0 w' (yac' b (.cells #[v] ty (0, 0)) :: Ts) rows) → wpList P ops Q rest (a.put dst (.pointer (some ⟨b, 0, none⟩))) w') : wpList P ops Q (⟨dst, .box ty y, tyy, pos, aft, g⟩ :: rest) a w := by
 refine ycb' hw ?_ (k (w.alloc (.cells #[v] ty)) w.heap.size ((Lib.hid (H.out.newCell _))))
 unfold execOp
 dsimp only
 rw [hy]
 simp [Instr.box, newVar, newRow, hc]
theorem ygu' (d : TypeDesc) (H : Hid (Sep w0 w Ts rows)) (hw : Region.wanted ⟨dst, .makeMap ty none, tyy, pos, aft, g⟩ (yielded ops a.tmps) = true)
  (k : ∀ w' m, Hid (Sep w0 w' (yay' d m [] :: Ts) rows) → wpList P ops Q rest (a.put dst (.map (some m))) w') : wpList P ops Q (⟨dst, .makeMap ty none, tyy, pos, aft, g⟩ :: rest) a w := by
 refine ycb' hw ?_ (k (w.alloc (.map #[] 0)) w.heap.size ((Lib.hid (H.out.newMap d))))
 unfold execOp
 simp [Instr.makeMap, newObj, Sem.run]
end
section
variable {P : Program} {fn : Func} {R : Ending → World → Prop} {w w0 : World} {tmps : Array Value} {Ts : List Thing} {rows : List (Value × Bs)}
theorem ybd' {p : Tmp} {ty : TypeId} {b : Nat} {cs : Array Value} {T : TypeId} (H : Hid (Sep w0 w Ts rows)) (hr : fn.results = #[.cell p ty]) (hp : tmps.getD p undef = .pointer (some ⟨b, 0, none⟩)) (hm : yac' b (.cells cs T (0, 0)) ∈ Ts)
  (hs : yfl' P ty cs.size = true) (k : R (.returned (.agg cs)) w) : bodyPost P fn R .ret ⟨tmps, []⟩ w := by
 refine bodyPost_ret (v := .agg cs) ?_ rfl k
 have e : (asAddr (tmps.getD p undef)).run P w = .ok ⟨b, 0, none⟩ w := by rw [hp]; rfl
 rw [yf7' hr, e]
 simp only [Result.andThen]
 have := yat' (i := 0) hs (Sep.block H hm) (by omega)
 simp only [Instr.loadAt, Instr.sureAddr, Sem.run_bind, Sem.run_pure, Result.andThen_ok] at this
 simp only [k_d] at this
 rw [List.take_of_length_le (by simp), Array.toArray_toList] at this
 exact this
end
section
variable {P : Program} {ops : Array Oper} {Q : Exit → Act → World → Prop} {md : Region.Mode} {S : World → Prop} {a a' A : Act} {w w0 : World} {Ts : List Thing} {rows : List (Value × Bs)}
 {dst : Option Tmp} {ty tyy : TypeId} {x : Operand} {pos : String} {aft : Array Edge} {g : Option (Nat × Bool)} {b i k : Nat} {cs : Array Value} {T : TypeId} {v : Value} {r : List (Nat × Bool)}
theorem yjp' (H : Hid (Sep w0 w Ts rows)) (ho : ops[k]? = some ⟨dst, .load ty x, tyy, pos, aft, g⟩) (hx : a.eval x = .pointer (some ⟨b, i, none⟩)) (hw : Region.wanted ⟨dst, .load ty x, tyy, pos, aft, g⟩ (yielded ops a.tmps) = true)
  (hs : ycy' P ty = true) (hm : yac' b (.cells cs T (0, 0)) ∈ Ts) {tl : List Value} (hv : cs.toList.drop i = v :: tl) (ha : a' = a.put dst v) (hr : ya0' P ops (fun W => W = w) r a' A) : ya0' P ops (fun W => W = w) ((k, true) :: r) a A := by
 refine yas' ho hw (fun W hW => ?_) ha hr
 subst hW
 unfold execOp
 dsimp only
 rw [hx]
 exact ycn' (yag' hs (yaa' (Sep.block H hm) i (yhr' hv)))
theorem yiq' (H : Hid (Sep w0 w Ts rows)) {n : Nat} (ho : ops[k]? = some ⟨dst, .load ty x, tyy, pos, aft, g⟩) (hx : a.eval x = .pointer (some ⟨b, i, none⟩)) (hw : Region.wanted ⟨dst, .load ty x, tyy, pos, aft, g⟩ (yielded ops a.tmps) = true)
  (hs : StructN P ty n) (hm : yac' b (.cells cs T (0, 0)) ∈ Ts) (hn : Nat.ble (i + n) cs.size = true) (ha : a' = a.put dst (.agg ((cs.toList.drop i).take n).toArray)) (hr : ya0' P ops (fun W => W = w) r a' A) : ya0' P ops (fun W => W = w) ((k, true) :: r) a A := by
 refine yas' ho hw (fun W hW => ?_) ha hr
 subst hW
 unfold execOp
 dsimp only
 rw [hx]
 exact ycn' (yat' hs.1 (Sep.block H hm) (Nat.le_of_ble_eq_true hn))
theorem yng' {N i : Nat} {o : Oper} {fuel : Nat} {listed : Array Bool} {a : Act} {w : World} (hN : Nat.ble N i = true) (hr : Region.ready md ops listed = [i]) (ho : ops[i]? = some o)
  (h : ∀ K : Act → World → Prop, (∀ a' w', ybh' P md ops Q S N fuel (listed.setIfInBounds i true) a' w' → K a' w') → wpList P ops (Exit.then K Q) [o] a w) : ybh' P md ops Q S N (fuel + 1) listed a w := by
 have hN := Nat.le_of_ble_eq_true hN
 refine ⟨fun h0 => (by rw [hr] at h0; cases h0), fun j hj => ?_⟩
 rw [hr] at hj
 obtain rfl : j = i := by simpa using hj
 have h := h (fun a' w' => (j < N → S w → S w') ∧ ybh' P md ops Q S N fuel (listed.setIfInBounds j true) a' w') (fun a' w' h2 => ⟨fun hlt => by omega, h2⟩)
 unfold wpList at h
 unfold wpOp
 simp only [ho]
 by_cases hw : Region.wanted o (yielded ops a.tmps) = true
 ·rw [if_pos hw] at h ⊢
  rcases h with h | ⟨h1, h2⟩
  ·refine .inl ?_
   unfold Oper.wp at h ⊢
   generalize (execOp a.eval o).run P w = r at h ⊢
   cases r with
   | ok n w' =>
    cases n <;> simp only [Oper.upon, wpList, Exit.then] at h ⊢
    case value => exact h
    case skip => exact h
    case defer => exact h
    case enter =>
     refine Calls.mono h fun e w'' he => ?_
     cases e with
     | returned v => exact he
     | panicked c => exact he
     | outgrown => exact he
    case row => exact h
   | halt x w' => cases x <;> simp only [Oper.upon, Exit.then] at h ⊢ <;> exact h
  ·exact .inr ⟨h1, h2⟩
 ·rw [if_neg hw] at h ⊢
  exact h
end
end Go.Av

namespace Go.Av
open Go.RowKit
section
variable {α : Type} {f : α → List Value} {K : Nat}
theorem yar' (hf : ∀ x, (f x).length = K) (l : List α) : (l.flatMap f).length = l.length * K := by
 induction l with
 | nil => simp
 | cons e l ih => rw [List.flatMap_cons, List.length_append, ih, hf, List.length_cons, Nat.add_mul]; omega
theorem ye5' (hf : ∀ x, (f x).length = K) : ∀ (l : List α) {p : Nat} (hp : p < l.length) {j : Nat}, j < K → (l.flatMap f)[p * K + j]? = (f l[p])[j]?
 | [], p, hp, _, _ => by simp at hp
 | e :: l, 0, _, j, hj => by
  rw [List.flatMap_cons, Nat.zero_mul, Nat.zero_add, List.getElem?_append_left (by rw [hf]; exact hj)]
  rfl
 | e :: l, p + 1, hp, j, hj => by
  have hp' : p < l.length := by simpa using hp
  rw [List.flatMap_cons, List.getElem?_append_right (by rw [hf, Nat.add_mul]; omega), hf, show (p + 1) * K + j - K = p * K + j by rw [Nat.add_mul]; omega, ye5' hf l hp' hj]
  rfl
end
theorem ynd' (a b : ByteArray) : (a.toList == b.toList) = (a.data.toList == b.data.toList) := by rw [Lib.toList_data, Lib.toList_data]
theorem yhh' {w : World} {x : Addr} {v : Value} (h : w.cell? x = some v) : x.spot = none := by
 cases hs : x.spot with
 | none => rfl
 | some _ =>
  unfold World.cell? at h
  split at h <;> simp [hs] at h
theorem yw4' (w : World) (K : Nat) (hK : 0 < K) (cs : Array Value) (hc : cs.size = K) (T : TypeId) : ReadRow (w.alloc (.cells cs T (0, 0))) K (.slice (some ⟨w.heap.size, 0, none⟩) 1 1) cs.toList [w.heap.size] :=
 ⟨_, 1, 1, rfl, by simp [hc], Nat.le_refl _, by decide, by simp, .inr ⟨w.heap.size, 0, rfl, rfl, by simp, fun i x hx => by
  have hh : (w.alloc (.cells cs T (0, 0))).heap[w.heap.size]? = some (.cells cs T (0, 0)) := heap_alloc_new w _
  rw [cell_of_row _ _ _ _ _ _ hh]
  simpa using hx⟩⟩
end Go.Av

namespace Go.Av
open Go.RowKit
inductive Rem (T : Thing) : List Thing → List Thing → Prop
 | here {R : List Thing} : Rem T (T :: R) R
 | there {U : Thing} {R R' : List Thing} : Rem T R R' → Rem T (U :: R) (U :: R')
theorem Rem.perm {T : Thing} {A B : List Thing} (h : Rem T A B) : A.Perm (T :: B) := by
 induction h with
 | here => exact .refl _
 | there _ ih => exact (ih.cons _).trans (.swap _ _ _)
section
variable {w0 w : World} {R Ts : List Thing} {rows : List (Value × Bs)} {P : Program}
theorem Sep.poolRead {K : Nat} {v : Value} {xs : List Value} {w' : World} {E : List Nat} {Q : List PRow} (h : Sep w0 w (yab' w0 Q :: R) rows) (hr : ReadRow w' K v xs E) (hE : ∀ b ∈ E, w.heap.size ≤ b) (hu : Upd w w' [] []) : Sep w0 w' (yab' w0 ((K, v, xs) :: Q) :: R) rows := by
 obtain ⟨D, hP, _, back⟩ := h.use
 refine back w' (E ++ D) (yab' w0 ((K, v, xs) :: Q)) ?_ ⟨fun b hb => ?_, fun r hr' => ?_⟩
 ·refine ⟨hu.os, hu.tape, hu.output, hu.size, fun b hb hn => hu.keep b hb (by simp), fun b hb => ?_⟩
  ·rcases List.mem_append.1 hb with hb | hb
   ·exact .inr ⟨hE b hb, hr.lt b hb⟩
   ·exact .inl hb
 ·rcases List.mem_append.1 hb with hb | hb
  ·exact hr.lt b hb
  ·exact Nat.lt_of_lt_of_le (hP.1 b hb) hu.size
 ·rcases List.mem_cons.1 hr' with rfl | hr'
  ·exact .inl ⟨E, hr, fun b hb => by simp [hb]⟩
  ·rcases hP.2 r hr' with ⟨F, h1, h2⟩ | h1
   ·exact .inl ⟨F, h1.frame (hu.same h1.lt (by simp)), fun b hb => by simp [h2 b hb]⟩
   ·exact .inr h1
theorem yc2' {α : Type} {f : α → List Value} {K n c off g i : Nat} {l : List α} {E : List Nat} {ty : TypeId} (h : ReadRow w K (.slice (some ⟨g, off, none⟩) n c) (l.flatMap f) E) (hf : ∀ x, (f x).length = K) (hs : StructN P ty K) (hi : i < l.length) :
  (Instr.loadAt ty (.pointer (some ⟨g, off + i * K, none⟩))).run P w = .ok (.agg (f l[i]).toArray) w := by
 obtain ⟨a', n', c', hv, hl, hn, hc, ha, hr⟩ := h
 cases hv
 have h1 := hs.1
 unfold yfl' at h1
 rw [Bool.and_eq_true] at h1
 obtain ⟨h1, h2⟩ := h1
 cases hi0 : P.info? ty with
 | none => simp [hi0] at h2
 | some ii =>
  simp only [hi0, beq_iff_eq] at h2
  cases hu : P.underlying ty with
  | none => simp [hu] at h1
  | some d =>
   refine run_loadAt_mid w g (off + i * K) ty _ d (fun j v hv => ?_) hu (by rw [hu] at h1; cases d <;> simp_all) (by rw [hi0, hf]; simpa using h2)
   have hj : j < K := by rw [← hf l[i]]; exact (List.getElem?_eq_some_iff.1 hv).1
   have hq := ye5' hf l hi hj
   rw [hv] at hq
   rcases hr with ⟨h0, _⟩ | ⟨g', off', e, rfl, hlt, hcell⟩
   ·rw [h0] at hq; cases hq
   ·injection e with e
    injection e with e1 e2
    subst e1 e2
    rw [Nat.add_assoc]
    exact hcell _ _ hq
theorem yee' {n c off g i : Nat} {xs : List Value} {v : Value} {E : List Nat} {ty : TypeId} (h : ReadRow w 1 (.slice (some ⟨g, off, none⟩) n c) xs E) (hs : ycy' P ty = true) (hv : xs[i]? = some v) :
  (Instr.loadAt ty (.pointer (some ⟨g, off + i, none⟩))).run P w = .ok v w := by
 obtain ⟨a', n', c', e, hl, hn, hc, ha, hr⟩ := h
 cases e
 rcases hr with ⟨rfl, _⟩ | ⟨g', off', e, rfl, hlt, hcell⟩
 ·cases hv
 ·injection e with e
  injection e with e1 e2
  subst e1 e2
  exact yag' hs (hcell i v hv)
theorem ReadRow.some {K : Nat} {v : Value} {xs : List Value} {E : List Nat} (h : ReadRow w K v xs E) : ∃ a n c, v = .slice a n c ∧ xs.length = n * K ∧ n ≤ c ∧ c ≤ maxLen ∧ (xs ≠ [] → ∃ g off, a = some ⟨g, off, none⟩) := by
 obtain ⟨a, n, c, hv, hl, hn, hc, ha, hr⟩ := h
 refine ⟨a, n, c, hv, hl, hn, hc, fun hne => ?_⟩
 rcases hr with ⟨h0, _⟩ | ⟨g, off, e, _⟩
 ·exact absurd h0 hne
 ·exact ⟨g, off, e⟩
end
section
variable {P : Program} {ops : Array Oper} {Q : Exit → Act → World → Prop} {a : Act} {w w0 : World} {rest : List Oper} {Ts Ts' : List Thing} {rows : List (Value × Bs)}
 {dst : Option Tmp} {ty tyy t e : TypeId} {x y s : Operand} {pos : String} {aft : Array Edge} {g : Option (Nat × Bool)} {b i : Nat} {cs : Array Value} {T : TypeId} {v p : Value}
theorem yau' (hr : (Instr.loadAt ty p).run P w = .ok v w) (hx : a.eval x = p) (hw : Region.wanted ⟨dst, .load ty x, tyy, pos, aft, g⟩ (yielded ops a.tmps) = true) (k : wpList P ops Q rest (a.put dst v) w) : wpList P ops Q (⟨dst, .load ty x, tyy, pos, aft, g⟩ :: rest) a w := by
 refine ycb' hw ?_ k
 unfold execOp
 dsimp only
 rw [hx]
 exact ycn' hr
structure SliceN (P : Program) (t e : TypeId) (K by_ : Nat) : Prop where
 ut : P.underlying t = some (.slice e)
 info : ∃ i z, P.info? e = some i ∧ i.zero = some z ∧ i.size = K ∧ z.cells.size = K ∧ i.bytes = by_
def yvq' (P : Program) (e : TypeId) (K by_ : Nat) : Bool := match P.info? e with
 | some i => (match i.zero with | some z => z.cells.size == K | none => false) && (i.size == K && i.bytes == by_)
 | none => false
theorem SliceN.of {P : Program} {t e : TypeId} {K by_ : Nat} (ut : P.underlying t = some (.slice e)) (h : yvq' P e K by_ = true) : SliceN P t e K by_ := by
 refine ⟨ut, ?_⟩
 unfold yvq' at h
 cases hi : P.info? e with
 | none => simp [hi] at h
 | some i =>
  cases hz : i.zero with
  | none => simp [hi, hz] at h
  | some z =>
   simp only [hi, hz, Bool.and_eq_true, beq_iff_eq] at h
   exact ⟨i, z, rfl, hz, h.2.1, h.1, h.2.2⟩
theorem yk6' : ∀ (l : List Value) (k : Nat) (cs : Array Value), k + l.length ≤ cs.size → ((l.zipIdx k).foldl (fun cs (q : Value × Nat) => cs.setIfInBounds q.2 q.1) cs) = yci' cs k l
 | [], _, _, _ => rfl
 | v :: l, k, cs, h => by
  simp only [List.length_cons] at h
  rw [List.zipIdx_cons, List.foldl_cons, yk6' l (k + 1) _ (by simp; omega)]
  rfl
theorem yto' {K : Nat} {cells : Array Value} {v : Value} (hc : cells.size = K) (hv : v.cells.size = K) : Instr.fill (fun i => some (i * K, K)) cells [(0, v)] = some v.cells := by
 unfold Instr.fill
 simp only [Nat.zero_mul, Nat.zero_add]
 rw [if_neg (by simp [hv, hc])]
 unfold Instr.fill
 congr 1
 rw [← Array.foldl_toList, Array.toList_zipIdx]
 have := yk6' v.cells.toList 0 cells (by simp [hv, hc])
 rw [this, ye8' _ _ _ (by simp [hv, hc])]
 have h0 : cells.toList.drop K = [] := List.drop_of_length_le (by simp [hc])
 simp [hv, h0]
theorem yvs' (H : Hid (Sep w0 w Ts rows)) {K by_ : Nat} (hsl : SliceN P t e K by_) (hK : Nat.blt 0 K = true ∧ Nat.ble K 1000 = true) (hy : a.eval y = v) (hvc : v.cells = cs) (hcs : cs.size = K)
  (k : ∀ w' b, Hid (Sep w0 w' (yac' b (.cells cs e (0, 0)) :: Ts) rows) → wpList P ops Q rest (a.put dst (.slice (some ⟨b, 0, none⟩) 1 1)) w') : wpList P ops Q (⟨dst, .buildSlice t 1 #[(0, y)], tyy, pos, aft, none⟩ :: rest) a w := by
 obtain ⟨ii, z, hi, hz, hsz, hzs, -⟩ := hsl.info
 have h1 : 0 < K := by have := hK.1; simpa using this
 have h2 : K ≤ 1000 := Nat.le_of_ble_eq_true hK.2
 refine Go.Great.wpList_buildSliceTo rfl t e 1 #[(0, y)] rfl w.heap.size rfl dst rfl hsl.ut cs ?_ (k _ _ (Lib.hid (H.out.newCell _)))
 unfold Program.builtSlice
 simp only [hi, hz, hsz, Nat.one_mul]
 rw [if_neg (by omega)]
 have := yto' (K := K) (cells := (Array.range K).map (z.cells[· % z.cells.size]!)) (v := v) (by simp) (by rw [hvc, hcs])
 rw [hvc] at this
 rw [← this]
 simp [hy]
theorem yuq' (H : Hid (Sep w0 w Ts rows)) {K by_ : Nat} {tx : TypeId} (hsl : SliceN P tx e K by_) (hm : yac' b (.cells cs T (0, 0)) ∈ Ts) (hcs : cs.size = K) (h1 : cs.toList.all (·.oneCell') = true) : Src P K tx (.slice (some ⟨b, 0, none⟩) 1 1) 1 cs.toList w := by
 refine Src.ofSlice _ hsl.ut _ 1 1 cs.toList (by simp [hcs]) (fun j u hu => ?_) (fun u hu => List.all_eq_true.1 h1 u hu)
 rw [Addr.add_lit, Nat.zero_add]
 exact yaa' (Sep.block H hm) j (by simpa using hu)
theorem ysg' (H : Hid (Sep w0 w Ts rows)) {K by_ : Nat} (hsl : SliceN P t e K by_) (hK : Nat.blt 0 K = true ∧ Nat.ble K 1000 = true) (hy : a.eval y = .agg cs) (hcs : cs.size = K)
  (k : ∀ w' b, Hid (Sep w0 w' (yac' b (.cells cs e (0, 0)) :: Ts) rows) → wpList P ops Q rest (a.put dst (.slice (some ⟨b, 0, none⟩) 1 1)) w') : wpList P ops Q (⟨dst, .buildSlice t 1 #[(0, y)], tyy, pos, aft, none⟩ :: rest) a w := yvs' H hsl hK hy rfl hcs k
theorem ysf' (H : Hid (Sep w0 w Ts rows)) {by_ : Nat} (hsl : SliceN P t e 1 by_) (hy : a.eval y = v) (hc : v.cells = #[v])
  (k : ∀ w' b, Hid (Sep w0 w' (yac' b (.cells #[v] e (0, 0)) :: Ts) rows) → wpList P ops Q rest (a.put dst (.slice (some ⟨b, 0, none⟩) 1 1)) w') : wpList P ops Q (⟨dst, .buildSlice t 1 #[(0, y)], tyy, pos, aft, none⟩ :: rest) a w := yvs' H hsl ⟨rfl, rfl⟩ hy hc rfl k
theorem yym' (H : Hid (Sep w0 w Ts rows)) {K by_ : Nat} {tx : TypeId} {xs news : List Value} {xv : Value} {m : Nat} {av : Option Addr} {nv cv : Nat} (hsl : SliceN P t e K by_) (hs : a.eval s = .slice av nv cv) (hx : a.eval x = xv) (hr : Rem (ybc' K (.slice av nv cv) xs) Ts Ts') (hsrc : Src P K tx xv m news w)
  (hb : ∀ n, xs.length = n * K → (n + m) ≤ 140737488355328 ∧ (n + m) * by_ ≤ 140737488355328)
  (k : ∀ w' a' n' c', Hid (Sep w0 w' (ybc' K (.slice a' n' c') (xs ++ news) :: Ts') rows) → wpList P ops Q rest (a.put dst (.slice a' n' c')) w') :
  wpList P ops Q (⟨dst, .call { callee := .builtin .append, args := #[s, x], argTypes := #[t, tx] }, tyy, pos, aft, none⟩ :: rest) a w := by
 obtain ⟨ii, z, hi, hz, hsz, hzs, hby⟩ := hsl.info
 have h0 : Sep w0 w (ybc' K (.slice av nv cv) xs :: Ts') rows := H.out.perm hr.perm
 obtain ⟨D, hP, _, back⟩ := h0.use
 refine ybs' rfl s x t tx rfl K (.slice av nv cv) xs D hs hP e ii z hsl.ut hi hz hsz hzs xv m news hx hsrc (by rw [hby]; exact hb) (fun a' n' c' w' D' ho hu => k w' a' n' c' (Lib.hid (back w' D' (ybc' K (.slice a' n' c') (xs ++ news)) hu ho)))
theorem ysb' (H : Hid (Sep w0 w Ts rows)) {K by_ : Nat} {xs : List Value} {av : Option Addr} {nv cv : Nat} (hsl : SliceN P t e K by_) (hs : a.eval s = .slice av nv cv) (hx : a.eval x = .slice (some ⟨b, 0, none⟩) 1 1) (hr : Rem (ybc' K (.slice av nv cv) xs) Ts Ts') (hm : yac' b (.cells cs T (0, 0)) ∈ Ts)
  (hcs : cs.size = K) (h1 : cs.toList.all (·.oneCell') = true) (hb : ∀ n, xs.length = n * K → (n + 1) ≤ 140737488355328 ∧ (n + 1) * by_ ≤ 140737488355328)
  (k : ∀ w' a' n' c', Hid (Sep w0 w' (ybc' K (.slice a' n' c') (xs ++ cs.toList) :: Ts') rows) → wpList P ops Q rest (a.put dst (.slice a' n' c')) w') :
  wpList P ops Q (⟨dst, .call { callee := .builtin .append, args := #[s, x], argTypes := #[t, t] }, tyy, pos, aft, none⟩ :: rest) a w :=
 yym' H hsl hs hx hr (yuq' H hsl hm hcs h1) hb k
end
section
variable {P : Program} {fn : Func} {R : Ending → World → Prop} {w w0 : World} {tmps : Array Value} {Ts : List Thing} {rows : List (Value × Bs)}
theorem ybp' {p u : Tmp} {ty : TypeId} {b : Nat} {cs : Array Value} {T : TypeId} (H : Hid (Sep w0 w Ts rows)) (hr : fn.results = #[.cell p ty, .tmp u]) (hp : tmps.getD p undef = .pointer (some ⟨b, 0, none⟩)) (hm : yac' b (.cells cs T (0, 0)) ∈ Ts)
  (hs : yfl' P ty cs.size = true) (k : R (.returned (.tuple #[.agg cs, tmps.getD u undef])) w) : bodyPost P fn R .ret ⟨tmps, []⟩ w := by
 refine bodyPost_ret (v := .tuple #[.agg cs, tmps.getD u undef]) ?_ rfl k
 have e : (asAddr (tmps.getD p undef)).run P w = .ok ⟨b, 0, none⟩ w := by rw [hp]; rfl
 rw [results_cell_tmp hr, e]
 simp only [Result.andThen]
 have := yat' (i := 0) hs (Sep.block H hm) (by omega)
 simp only [Instr.loadAt, Instr.sureAddr, Sem.run_bind, Sem.run_pure, Result.andThen_ok] at this
 simp only [k_d] at this
 rw [List.take_of_length_le (by simp), Array.toArray_toList] at this
 rw [this]
end
end Go.Av

namespace Go.Av
open Go.RowKit
section
variable {P : Program} {ops : Array Oper} {Q : Exit → Act → World → Prop} {a : Act} {w w0 : World} {rest : List Oper} {Ts Ts' : List Thing} {rows : List (Value × Bs)}
 {dst : Option Tmp} {tyy t e : TypeId} {y0 y1 : Operand} {pos : String} {aft : Array Edge} {c0 c1 : List Value} {v0 v1 : Value}
theorem Sep.poolCell {b K n : Nat} {cs : List Value} {T : TypeId} {P : List PRow} {R : List Thing} (h : Sep w0 w (yac' b (.cells cs.toArray T (0, 0)) :: yab' w0 P :: R) rows) (hl : cs.length = n * K) (hn : n ≤ 1000) : Sep w0 w (yab' w0 ((K, .slice (some ⟨b, 0, none⟩) n n, cs) :: P) :: R) rows := by
 obtain ⟨F, hL, hu, hr⟩ := h
 cases hL with
 | @cons _ D _ _ k1 k2 k3 =>
  refine Sep.poolRow (K := K) (v := .slice (some ⟨b, 0, none⟩) n n) (xs := cs) ⟨_, .cons (T := ybc' K _ _) ⟨_, n, n, rfl, hl, Nat.le_refl _, by unfold maxLen; omega, (fun h => by cases h), .inr ⟨b, 0, cs.toArray, T, rfl, k1.2, k1.1, by simp [hl], by simp [← hl]⟩⟩ k2 k3, hu, hr⟩
theorem Sep.cellRow {b K n : Nat} {cs : List Value} {T : TypeId} {R : List Thing} (h : Sep w0 w (yac' b (.cells cs.toArray T (0, 0)) :: R) rows) (hl : cs.length = n * K) (hn : n ≤ 1000) : Sep w0 w (ybc' K (.slice (some ⟨b, 0, none⟩) n n) cs :: R) rows :=
 h.imp fun D hD => ⟨_, n, n, rfl, hl, Nat.le_refl _, by unfold maxLen; omega, (fun h => by cases h), .inr ⟨b, 0, cs.toArray, T, rfl, hD.2, hD.1, by simp [hl], by simp [← hl]⟩⟩
end
section
variable {P : Program} {ops : Array Oper} {a a' A : Act} {w : World} {dst : Option Tmp} {ty tyy : TypeId} {x : Operand} {pos : String} {aft : Array Edge} {g : Option (Nat × Bool)} {k : Nat} {v p : Value} {r : List (Nat × Bool)}
theorem ybu' (hl : (Instr.loadAt ty p).run P w = .ok v w) (ho : ops[k]? = some ⟨dst, .load ty x, tyy, pos, aft, g⟩) (hx : a.eval x = p) (hw : Region.wanted ⟨dst, .load ty x, tyy, pos, aft, g⟩ (yielded ops a.tmps) = true) (ha : a' = a.put dst v) (hr : ya0' P ops (fun W => W = w) r a' A) : ya0' P ops (fun W => W = w) ((k, true) :: r) a A := by
 refine yas' ho hw (fun W hW => ?_) ha hr
 subst hW
 unfold execOp
 dsimp only
 rw [hx]
 exact ycn' hl
end
section
variable {P : Program} {ops : Array Oper} {S : World → Prop} {a a' A : Act} {w0 : World} {Ts : List Thing} {rows : List (Value × Bs)} {dst : Option Tmp} {ty tyy : TypeId} {x : Operand} {pos : String} {aft : Array Edge} {g : Option (Nat × Bool)} {b i k : Nat} {cs : Array Value} {T : TypeId} {v p : Value} {r : List (Nat × Bool)}
theorem yni' (H : ∀ W, S W → Sep w0 W Ts rows) (ho : ops[k]? = some ⟨dst, .load ty x, tyy, pos, aft, g⟩) (hx : a.eval x = .pointer (some ⟨b, i, none⟩)) (hw : Region.wanted ⟨dst, .load ty x, tyy, pos, aft, g⟩ (yielded ops a.tmps) = true)
  (hs : ycy' P ty = true) (hm : yac' b (.cells cs T (0, 0)) ∈ Ts) {tl : List Value} (hv : cs.toList.drop i = v :: tl) (ha : a' = a.put dst v) (hr : ya0' P ops S r a' A) : ya0' P ops S ((k, true) :: r) a A := by
 refine yas' ho hw (fun W hW => ?_) ha hr
 unfold execOp
 dsimp only
 rw [hx]
 exact ycn' (yag' hs (yaa' (Sep.block (H W hW) hm) i (yhr' hv)))
theorem ymj' (H : ∀ W, S W → Sep w0 W Ts rows) {n : Nat} (ho : ops[k]? = some ⟨dst, .load ty x, tyy, pos, aft, g⟩) (hx : a.eval x = .pointer (some ⟨b, i, none⟩)) (hw : Region.wanted ⟨dst, .load ty x, tyy, pos, aft, g⟩ (yielded ops a.tmps) = true)
  (hs : StructN P ty n) (hm : yac' b (.cells cs T (0, 0)) ∈ Ts) (hn : Nat.ble (i + n) cs.size = true) (ha : a' = a.put dst (.agg ((cs.toList.drop i).take n).toArray)) (hr : ya0' P ops S r a' A) : ya0' P ops S ((k, true) :: r) a A := by
 refine yas' ho hw (fun W hW => ?_) ha hr
 unfold execOp
 dsimp only
 rw [hx]
 exact ycn' (yat' hs.1 (Sep.block (H W hW) hm) (Nat.le_of_ble_eq_true hn))
theorem ydg' (hl : ∀ W, S W → (Instr.loadAt ty p).run P W = .ok v W) (ho : ops[k]? = some ⟨dst, .load ty x, tyy, pos, aft, g⟩) (hx : a.eval x = p) (hw : Region.wanted ⟨dst, .load ty x, tyy, pos, aft, g⟩ (yielded ops a.tmps) = true) (ha : a' = a.put dst v) (hr : ya0' P ops S r a' A) : ya0' P ops S ((k, true) :: r) a A := by
 refine yas' ho hw (fun W hW => ?_) ha hr
 unfold execOp
 dsimp only
 rw [hx]
 exact ycn' (hl W hW)
end
end Go.Av

namespace Go.Proofs.YtcnkifbjlihaoaaGreatDoor
open Go.RowKit Go.Av
theorem sn_op : StructN Tryz.prog 89 5 := ⟨by kernel_rfl⟩
theorem sn_res : StructN Tryz.prog 115 11 := ⟨by kernel_rfl⟩
theorem sn_stat : StructN Tryz.prog 113 7 := ⟨by kernel_rfl⟩
theorem sn_node : StructN Tryz.prog 172 10 := ⟨by kernel_rfl⟩
theorem sn_reply : StructN Tryz.prog 39 5 := ⟨by kernel_rfl⟩
theorem sn_req : StructN Tryz.prog 42 3 := ⟨by kernel_rfl⟩
theorem sn_tree : StructN Tryz.prog 213 2 := ⟨by kernel_rfl⟩
theorem z_op : yco' Tryz.prog 89 #[.int .i64 0, .string ⟨#[]⟩, .string ⟨#[]⟩, .int .i64 0, .int .i64 0] := by unfold yco'; kernel_rfl
theorem z_res : yco' Tryz.prog 115 #[.int .i64 0, .string ⟨#[]⟩, .string ⟨#[]⟩, .slice none 0 0, .int .i64 0, .int .i64 0, .int .i64 0, .int .i64 0, .int .i64 0, .int .i64 0, .int .i64 0] := by unfold yco'; kernel_rfl
theorem z_node : yco' Tryz.prog 172 #[.int .i64 0, .int .i64 0, .int .i64 0, .int .i64 0, .int .i64 0, .int .i64 0, .int .i64 0, .string ⟨#[]⟩, .int .i64 0, .slice none 0 0] := by unfold yco'; kernel_rfl
theorem z_reply : yco' Tryz.prog 39 #[.int .i64 0, .int .i64 0, .int .i64 0, .int .i64 0, .slice none 0 0] := by unfold yco'; kernel_rfl
theorem z_req : yco' Tryz.prog 42 #[.int .i64 0, .int .i64 0, .slice none 0 0] := by unfold yco'; kernel_rfl
theorem sl_str : SliceN Tryz.prog 94 9 1 16 := .of Tryz.underlying94 (by kernel_rfl)
theorem sl_res : SliceN Tryz.prog 35 115 11 120 := .of Tryz.underlying35 (by kernel_rfl)
theorem sl_op : SliceN Tryz.prog 30 89 5 56 := .of Tryz.underlying30 (by kernel_rfl)
end Go.Proofs.YtcnkifbjlihaoaaGreatDoor

namespace Go.Av
open Go.RowKit
theorem tWL {G C : Prop} (k : C) (h : C → G := by (intro kk; (first | ((with_reducible apply ykl' HX); (· rfl); (· rfl); (· (first | exact sn_op | exact sn_res | exact sn_stat | exact sn_node | exact sn_reply | exact sn_req | exact sn_tree | exact sn_rnode | exact sn_rtree | exact sn_rent | exact sn_act | exact sn_x1 | exact sn_x2 | exact sn_x3 | exact sn_x4 | exact sn_x5 | exact sn_x6 | exact sn_x7 | exact sn_x8)); (· (repeat (first | (with_reducible exact k_s) | (with_reducible apply k_m)))); (· rfl); exact kk) | fail))) : G := h k
theorem tWM {G C : Prop} (k : C) (h : C → G := by (intro kk; (first | ((with_reducible apply yse' HX); (· rfl); (· rfl); (· kernel_rfl); (· (repeat (first | (with_reducible exact k_s) | (with_reducible apply k_m)))); (· rfl); exact kk) | fail))) : G := h k
theorem tWS {G C : Prop} (k : C) (h : C → G := by (intro kk; (first | ((with_reducible apply yij' HX); (· rfl); (· rfl); (· rfl); (· kernel_rfl); (· (repeat (first | (with_reducible exact Rep.here) | (with_reducible apply Rep.there)))); (· rfl); (· rfl); exact kk) | fail))) : G := h k
theorem tWT {G C : Prop} (k : C) (h : C → G := by (intro kk; (first | ((with_reducible apply yl8' HX); (· rfl); (· ((conv => lhs; whnf) <;> rfl)); (· rfl); (· rfl); (· kernel_rfl); (· (repeat (first | (with_reducible exact Rep.here) | (with_reducible apply Rep.there)))); (· rfl); (· rfl); exact kk) | fail))) : G := h k
theorem tWA {G C : Prop} (k : C) (h : C → G := by (intro kk; (first | ((with_reducible apply yoi' HX); (· rfl); (· (first | exact z_op | exact z_res | exact z_node | exact z_reply | exact z_req | exact z_rnode | exact z_rreply | exact z_x1 | exact z_x2 | exact z_x3 | exact z_x4 | exact z_x5 | exact z_x6 | exact z_x7 | exact z_x8)); exact kk) | ((with_reducible apply ysd' HX); (· rfl); (· rfl); exact kk) | ((with_reducible apply ysc' HX); (· ((conv => lhs; whnf) <;> rfl)); (· rfl); (· rfl); exact kk) | ((with_reducible apply ysg' HX); (· (first | exact sl_str | exact sl_res | exact sl_op | exact sl_ent | exact sl_x1 | exact sl_x2 | exact sl_x3 | exact sl_x4 | exact sl_x5 | exact sl_x6)); (· exact ⟨rfl, rfl⟩); (· rfl); (· rfl); exact kk) | ((with_reducible apply ysf' HX); (· (first | exact sl_str | exact sl_res | exact sl_op | exact sl_ent | exact sl_x1 | exact sl_x2 | exact sl_x3 | exact sl_x4 | exact sl_x5 | exact sl_x6)); (· ((conv => lhs; whnf) <;> rfl)); (· rfl); exact kk) | fail))) : G := h k
theorem tWN {G C : Prop} (k : C) (h : C → G := by (intro kk; (first | ((with_reducible apply ygu' .string HX); (· rfl); exact kk) | fail))) : G := h k
theorem tWP {G C : Prop} (k : C) (h : C → G := by (intro kk; (first | ((with_reducible apply ysb' HX); (· (first | exact sl_str | exact sl_res | exact sl_op | exact sl_ent | exact sl_x1 | exact sl_x2 | exact sl_x3 | exact sl_x4 | exact sl_x5 | exact sl_x6)); (· rfl); (· rfl); (· (repeat (first | (with_reducible exact Rem.here) | (with_reducible apply Rem.there)))); (· (repeat (first | (with_reducible exact k_s) | (with_reducible apply k_m)))); (· rfl); (· rfl); (· exact HBD.out); exact kk) | fail))) : G := h k
theorem xD {G C : Prop} (k : C) (h : C → G := by (intro kk; (first | ((apply yiq'); (· exact HX); (· (simp only [k_i, k_j, k_k]; try rfl)); (· rfl); (· rfl); (· (first | exact sn_op | exact sn_res | exact sn_stat | exact sn_node | exact sn_reply | exact sn_req | exact sn_tree | exact sn_rnode | exact sn_rtree | exact sn_rent | exact sn_act | exact sn_x1 | exact sn_x2 | exact sn_x3 | exact sn_x4 | exact sn_x5 | exact sn_x6 | exact sn_x7 | exact sn_x8)); (· (repeat (first | (with_reducible exact k_s) | (with_reducible apply k_m)))); (· rfl); (· (simp only [Act.put, k_a, k_b, k_c, k_d, k_e, k_f, k_g, k_h, NodeS.cells, OpS.cells, ResS.cells]; try rfl)); exact kk) | ((apply yjp'); (· exact HX); (· (simp only [k_i, k_j, k_k]; try rfl)); (· rfl); (· rfl); (· kernel_rfl); (· (repeat (first | (with_reducible exact k_s) | (with_reducible apply k_m)))); (· rfl); (· (simp only [Act.put, k_a, k_b, k_c, k_d, k_e, k_f, k_g, k_h, NodeS.cells, OpS.cells, ResS.cells]; try rfl)); exact kk) | ((apply ybu'); (· exact hl); (· (simp only [k_i, k_j, k_k]; try rfl)); (· rfl); (· rfl); (· (simp only [Act.put, k_a, k_b, k_c, k_d, k_e, k_f, k_g, k_h, NodeS.cells, OpS.cells, ResS.cells]; try rfl)); exact kk) | ((apply ybu'); (· exact hl2); (· (simp only [k_i, k_j, k_k]; try rfl)); (· rfl); (· rfl); (· (simp only [Act.put, k_a, k_b, k_c, k_d, k_e, k_f, k_g, k_h, NodeS.cells, OpS.cells, ResS.cells]; try rfl)); exact kk) | ((apply ybu'); (· exact hl3); (· (simp only [k_i, k_j, k_k]; try rfl)); (· rfl); (· rfl); (· (simp only [Act.put, k_a, k_b, k_c, k_d, k_e, k_f, k_g, k_h, NodeS.cells, OpS.cells, ResS.cells]; try rfl)); exact kk) | ((apply ybu'); (· exact hl4); (· (simp only [k_i, k_j, k_k]; try rfl)); (· rfl); (· rfl); (· (simp only [Act.put, k_a, k_b, k_c, k_d, k_e, k_f, k_g, k_h, NodeS.cells, OpS.cells, ResS.cells]; try rfl)); exact kk) | ((apply ybm'); (· (simp only [k_i, k_j, k_k]; try rfl)); (· rfl); (· (simp only [Act.put, k_a, k_b, k_c, k_d, k_e, k_f, k_g, k_h, NodeS.cells, OpS.cells, ResS.cells]; try rfl)); exact kk) | ((first | apply yav' | apply yas'); (· (simp only [k_i, k_j, k_k]; try rfl)); (· rfl); (· (intros; go_simp; try with_reducible rfl)); (· (simp only [Act.put, k_a, k_b, k_c, k_d, k_e, k_f, k_g, k_h, NodeS.cells, OpS.cells, ResS.cells]; try rfl)); exact kk) | fail))) : G := h k
theorem xE {G C : Prop} (k : C) (h : C → G := by (intro kk; (first | ((apply ymj'); (· exact KEEPX); (· (simp only [k_i, k_j, k_k]; try rfl)); (· rfl); (· rfl); (· (first | exact sn_op | exact sn_res | exact sn_stat | exact sn_node | exact sn_reply | exact sn_req | exact sn_tree | exact sn_rnode | exact sn_rtree | exact sn_rent | exact sn_act | exact sn_x1 | exact sn_x2 | exact sn_x3 | exact sn_x4 | exact sn_x5 | exact sn_x6 | exact sn_x7 | exact sn_x8)); (· (repeat (first | (with_reducible exact k_s) | (with_reducible apply k_m)))); (· rfl); (· (simp only [Act.put, k_a, k_b, k_c, k_d, k_e, k_f, k_g, k_h, NodeS.cells, OpS.cells, ResS.cells]; try rfl)); exact kk) | ((apply yni'); (· exact KEEPX); (· (simp only [k_i, k_j, k_k]; try rfl)); (· rfl); (· rfl); (· kernel_rfl); (· (repeat (first | (with_reducible exact k_s) | (with_reducible apply k_m)))); (· rfl); (· (simp only [Act.put, k_a, k_b, k_c, k_d, k_e, k_f, k_g, k_h, NodeS.cells, OpS.cells, ResS.cells]; try rfl)); exact kk) | ((apply ydg'); (· exact hl); (· (simp only [k_i, k_j, k_k]; try rfl)); (· rfl); (· rfl); (· (simp only [Act.put, k_a, k_b, k_c, k_d, k_e, k_f, k_g, k_h, NodeS.cells, OpS.cells, ResS.cells]; try rfl)); exact kk) | ((apply ydg'); (· exact hl2); (· (simp only [k_i, k_j, k_k]; try rfl)); (· rfl); (· rfl); (· (simp only [Act.put, k_a, k_b, k_c, k_d, k_e, k_f, k_g, k_h, NodeS.cells, OpS.cells, ResS.cells]; try rfl)); exact kk) | ((apply ydg'); (· exact hl3); (· (simp only [k_i, k_j, k_k]; try rfl)); (· rfl); (· rfl); (· (simp only [Act.put, k_a, k_b, k_c, k_d, k_e, k_f, k_g, k_h, NodeS.cells, OpS.cells, ResS.cells]; try rfl)); exact kk) | ((apply ydg'); (· exact hl4); (· (simp only [k_i, k_j, k_k]; try rfl)); (· rfl); (· rfl); (· (simp only [Act.put, k_a, k_b, k_c, k_d, k_e, k_f, k_g, k_h, NodeS.cells, OpS.cells, ResS.cells]; try rfl)); exact kk) | ((apply ybm'); (· (simp only [k_i, k_j, k_k]; try rfl)); (· rfl); (· (simp only [Act.put, k_a, k_b, k_c, k_d, k_e, k_f, k_g, k_h, NodeS.cells, OpS.cells, ResS.cells]; try rfl)); exact kk) | ((first | apply yav' | apply yas'); (· (simp only [k_i, k_j, k_k]; try rfl)); (· rfl); (· (intros; go_simp; try with_reducible rfl)); (· (simp only [Act.put, k_a, k_b, k_c, k_d, k_e, k_f, k_g, k_h, NodeS.cells, OpS.cells, ResS.cells]; try rfl)); exact kk) | fail))) : G := h k
end Go.Av
namespace Go.Av
theorem uK {G C : Prop} (k : C) (h : C → G := by (intro kk; ((with_reducible apply wpList_skip); (· rfl); simp only [Act.put, k_a, k_b, k_c]); exact kk)) : G := h k
theorem uL {G C : Prop} (k : C) (h : C → G := by (intro kk; (refine tWL ?_; simp only [Act.put, k_a, k_b, k_c, k_d, k_e, k_f, k_g, k_h, NodeS.cells, OpS.cells, ResS.cells]); exact kk)) : G := h k
theorem uS {G C : Prop} (k : C) (h : C → G := by (intro kk; ((first | refine tWS ?_ | refine tWT ?_); simp only [Act.put, k_a, k_b, k_c, yci', Nat.reduceAdd, NodeS.cells, OpS.cells, ResS.cells]); exact kk)) : G := h k
theorem uLp {G C : Prop} (k : C) (h : C → G := by (intro kk; (refine tWL ?_; simp only [Act.put, k_a, k_b, k_c, k_d, k_e, k_f, k_g, k_h]); exact kk)) : G := h k
theorem uSp {G C : Prop} (k : C) (h : C → G := by (intro kk; ((first | refine tWS ?_ | refine tWT ?_); simp only [Act.put, k_a, k_b, k_c, yci', Nat.reduceAdd]); exact kk)) : G := h k
theorem uM {G C : Prop} (k : C) (h : C → G := by (intro kk; (refine tWM ?_; simp only [Act.put, k_a, k_b, k_c]); exact kk)) : G := h k
theorem uA {G C : Prop} (k : C) (h : C → G := by (intro kk; (refine tWA ?_; simp only [Act.put, k_a, k_b, k_c]); exact kk)) : G := h k
end Go.Av
namespace Go.Av
theorem u0 {G C : Prop} (k : C) (h : C → G := by (intro kk; first | (go_skip; exact kk) | ((with_reducible apply wpList_skip); (· rfl); simp only [Act.put, k_a, k_b, k_c]; exact kk) | (refine tWL ?_; simp only [Act.put, k_a, k_b, k_c, k_d, k_e, k_f, k_g, k_h, NodeS.cells, OpS.cells, ResS.cells]; exact kk) | (refine tWM ?_; simp only [Act.put, k_a, k_b, k_c]; exact kk) | fail)) : G := h k
theorem u1 {G C : Prop} (k : C) (h : C → G := by (intro kk; first | (refine tWL ?_; simp only [Act.put, k_a, k_b, k_c, k_d, k_e, k_f, k_g, k_h, NodeS.cells, OpS.cells, ResS.cells]; exact kk) | (refine tWM ?_; simp only [Act.put, k_a, k_b, k_c]; exact kk) | fail)) : G := h k
theorem u0p {G C : Prop} (k : C) (h : C → G := by (intro kk; first | (go_skip; exact kk) | ((with_reducible apply wpList_skip); (· rfl); simp only [Act.put, k_a, k_b, k_c]; exact kk) | (refine tWL ?_; simp only [Act.put, k_a, k_b, k_c, k_d, k_e, k_f, k_g, k_h]; exact kk) | (refine tWM ?_; simp only [Act.put, k_a, k_b, k_c]; exact kk) | fail)) : G := h k
theorem u1p {G C : Prop} (k : C) (h : C → G := by (intro kk; first | (refine tWL ?_; simp only [Act.put, k_a, k_b, k_c, k_d, k_e, k_f, k_g, k_h]; exact kk) | (refine tWM ?_; simp only [Act.put, k_a, k_b, k_c]; exact kk) | fail)) : G := h k
theorem uN {G C : Prop} (k : C) (h : C → G := by (intro kk; (refine tWN ?_; simp only [Act.put, k_a, k_b, k_c]); exact kk)) : G := h k
theorem uP {G C : Prop} (k : C) (h : C → G := by (intro kk; (refine tWP ?_; simp only [Act.put, k_a, k_b, k_c]); exact kk)) : G := h k
end Go.Av

namespace Go.Av
open Go.RowKit
def be8 (n : Nat) : Bs := [UInt8.ofNat (n / 72057594037927936), UInt8.ofNat (n / 281474976710656), UInt8.ofNat (n / 1099511627776), UInt8.ofNat (n / 4294967296), UInt8.ofNat (n / 16777216), UInt8.ofNat (n / 65536), UInt8.ofNat (n / 256), UInt8.ofNat n]
def yad' (v : Int) : Bs := be8 (v % 18446744073709551616).toNat
def yf5' (v : Nat) (x : UInt8) : Nat := v * 256 % 18446744073709551616 + x.toNat
def ycd' (l : Bs) : Nat := l.foldl yf5' 0
def rdI (l : Bs) : Int := IntKind.i64.wrap (ycd' (l.take 8) : Int)
theorem ydy' (v : Int) : (yad' v).length = 8 := rfl
theorem ype' (n : Nat) (h : n < 18446744073709551616) : ycd' (be8 n) = n := by
 simp only [ycd', be8, List.foldl_cons, List.foldl_nil, yf5', UInt8.toNat_ofNat']
 omega
theorem yob' (v : Int) (x : Bs) (h1 : -9223372036854775808 ≤ v) (h2 : v ≤ 9223372036854775807) : rdI (yad' v ++ x) = v := by
 have ht : (yad' v ++ x).take 8 = yad' v := by rw [List.take_append_of_le_length (by rw [ydy']; omega), List.take_of_length_le (by rw [ydy']; omega)]
 unfold rdI
 rw [ht]
 unfold yad'
 rw [ype' _ (by omega), IntKind.wrap_i64]
 omega
theorem yrm' {v : Nat} (x : UInt8) : yf5' v x < 18446744073709551616 := by
 have := x.toNat_lt
 unfold yf5'
 omega
end Go.Av

namespace Go.Proofs.YtcnkifbjlihaoaaGreatDoor
open Go.RowKit Go.Av
theorem yd0' {w : World} {a : Option Addr} {n c : Nat} {xs : List Value} {E : List Nat} (h : ReadRow w 1 (.slice a n c) xs E) : n = xs.length ∧ n ≤ c ∧ c ≤ maxLen ∧ (0 < n → ∃ x : Addr, a = some x ∧ x.spot = none ∧ ∀ (i : Nat) u, xs[i]? = some u → w.cell? (x.add i) = some u) := by
 obtain ⟨a', n', c', hv, hl, hn, hc, ha, hr⟩ := h
 cases hv
 refine ⟨by simpa using hl.symm, hn, hc, fun h0 => ?_⟩
 rcases hr with ⟨h1, _⟩ | ⟨g, off, h1, h2, h3, h4⟩
 ·subst h1; simp at hl; omega
 ·exact ⟨⟨g, off, none⟩, h1, rfl, fun i u hu => by rw [Addr.add_lit]; exact h4 i u hu⟩
def yhi' (w : World) (D : List Nat) (l : Bs) (e : Ending) (w' : World) : Prop := ∃ v D', e = .returned v ∧ OwnRow w' 1 v (l.map bv) D' ∧ Upd w w' D D'
def RecsAt (w : World) (v : Value) (ls : List Bs) (D : List Nat) : Prop :=
 ∃ (rows : List (Value × Bs × List Nat)) (D0 : List Nat), rows.map (·.2.1) = ls ∧ D = D0 ++ rows.flatMap (·.2.2) ∧ OwnRow w 1 v (rows.map (·.1)) D0 ∧
  ∀ r ∈ rows, ReadRow w 1 r.1 (r.2.1.map bv) r.2.2 ∧ ∀ x ∈ r.2.2, x ∉ D0
theorem RecsAt.frame {w w' : World} {v : Value} {ls : List Bs} {D : List Nat} (h : RecsAt w v ls D) (hs : Same w w' D) : RecsAt w' v ls D := by
 obtain ⟨rows, D0, h1, h2, h3, h4⟩ := h
 refine ⟨rows, D0, h1, h2, h3.frame (fun b hb => hs b (by rw [h2]; simp [hb])), fun r hr => ⟨(h4 r hr).1.frame (fun b hb => hs b (by rw [h2]; simp only [List.mem_append, List.mem_flatMap]; exact .inr ⟨r, hr, hb⟩)), (h4 r hr).2⟩⟩
theorem RecsAt.lt {w : World} {v : Value} {ls : List Bs} {D : List Nat} (h : RecsAt w v ls D) : ∀ b ∈ D, b < w.heap.size := by
 obtain ⟨rows, D0, h1, h2, h3, h4⟩ := h
 intro b hb
 rw [h2] at hb
 simp only [List.mem_append, List.mem_flatMap] at hb
 rcases hb with hb | ⟨r, hr, hb⟩
 ·exact h3.lt b hb
 ·exact (h4 r hr).1.lt b hb
theorem RecsAt.nil (w : World) : RecsAt w (.slice none 0 0) [] [] := ⟨[], [], rfl, rfl, OwnRow.nil _ _, by simp⟩
theorem yju' (w : World) (v : Value) (T : TypeId) (fr : Nat × Nat) : ReadRow (w.alloc (.cells #[v] T fr)) 1 (.slice (some ⟨w.heap.size, 0, none⟩) 1 1) [v] [w.heap.size] :=
 ⟨_, 1, 1, rfl, rfl, Nat.le_refl _, by decide, by simp, .inr ⟨w.heap.size, 0, rfl, rfl, by simp, fun i x hx => by
  have hh : (w.alloc (.cells #[v] T fr)).heap[w.heap.size]? = some (.cells #[v] T fr) := heap_alloc_new w _
  rw [cell_of_row _ _ _ _ _ _ hh]
  simpa using hx⟩⟩
theorem RecsAt.slice {w : World} {v : Value} {ls : List Bs} {D : List Nat} (h : RecsAt w v ls D) : ∃ a c, v = .slice a ls.length c ∧ ls.length ≤ c ∧ c ≤ maxLen := by
 obtain ⟨rows, D0, h1, h2, ⟨a, n, c, hv, hl, hn, hc, _⟩, h4⟩ := h
 have : ls.length = n := by rw [← h1]; simpa using hl
 subst this
 exact ⟨a, c, hv, hn, hc⟩
theorem yra' {w : World} {a : Option Addr} {n c : Nat} {xs : List Value} {D : List Nat} (h : OwnRow w 1 (.slice a n c) xs D) {i : Nat} {x : Value} (hx : xs[i]? = some x) :
  ∃ y : Addr, a = some y ∧ y.spot = none ∧ w.cell? (y.add i) = some x := by
 obtain ⟨E, hr, _⟩ := h.read
 obtain ⟨hn, _, _, hc⟩ := yd0' hr
 obtain ⟨y, hy, hs, hcc⟩ := hc (by have := (List.getElem?_eq_some_iff.1 hx).1; omega)
 exact ⟨y, hy, hs, hcc i x hx⟩
theorem ya2' {w w' : World} {D' : List Nat} (hu : Upd w w' [] D') {a : Addr} {v : Value} (hc : w.cell? a = some v) : w'.cell? a = some v := by
 have hlt : a.block < w.heap.size := by
  cases hh : w.heap[a.block]? with
  | none => rw [World.cell?, hh] at hc; cases hc
  | some o => exact ya6' hh
 rw [World.cell?_of_block (hu.keep _ hlt (by simp))]; exact hc
theorem RecsAt.take {w : World} {a : Option Addr} {n c : Nat} {ls : List Bs} {D : List Nat} (h : RecsAt w (.slice a n c) ls D) {k : Nat} (hk : k ≤ n) : ∃ D', RecsAt w (.slice a k c) (ls.take k) D' ∧ ∀ x ∈ D', x ∈ D := by
 obtain ⟨rows, D0, rfl, rfl, ho, hr⟩ := h
 have h1 := (ho.take hk).1
 rw [Nat.mul_one] at h1
 refine ⟨D0 ++ (rows.take k).flatMap (·.2.2), ⟨rows.take k, D0, by rw [List.map_take], rfl, by rw [List.map_take]; exact h1, fun r hh => hr r (List.mem_of_mem_take hh)⟩, fun x hx => ?_⟩
 simp only [List.mem_append, List.mem_flatMap] at hx ⊢
 rcases hx with hx | ⟨q, hq, hx⟩
 ·exact .inl hx
 ·exact .inr ⟨q, List.mem_of_mem_take hq, hx⟩
end Go.Proofs.YtcnkifbjlihaoaaGreatDoor

namespace Go.Proofs.YtcnkifbjlihaoaaGreatDoor
open Go.RowKit
theorem yj0' : (Tryz.prog.info? 5).map (fun i => (i.zero, i.size, i.bytes)) = some (some (.int .u8 0), 1, 1) := by kernel_rfl
end Go.Proofs.YtcnkifbjlihaoaaGreatDoor

namespace Go.Proofs.YtcnkifbjlihaoaaGreatDoor
open Go.RowKit Go.Av
theorem yi4' (v : Int) (j : Nat) (hj : j < 8) : (yad' v).take (7 - j + 1) = (yad' v).take (7 - j) ++ [UInt8.ofNat ((v % 18446744073709551616).toNat / 2 ^ (8 * j))] := by
 unfold yad' be8
 match j, hj with
 | 0, _ => simp
 | 1, _ => simp
 | 2, _ => simp
 | 3, _ => simp
 | 4, _ => simp
 | 5, _ => simp
 | 6, _ => simp
 | 7, _ => simp
 | n + 8, h => omega
set_option maxRecDepth 100000 in
set_option maxHeartbeats 1000000 in
theorem yka' (b : Value) (l : Bs) (E : List Nat) (v : Int) (w : World) (h : ReadRow w 1 b (l.map bv) E) (hl : l.length ≤ 1073741824) :
  Calls Tryz.prog 119 #[b, .int .i64 v] w (yhi' w [] (l ++ yad' v)) := by
 obtain ⟨i0, hi0, hz0, hz1, hz2⟩ := info_parts yj0'
 obtain ⟨nn, hnn⟩ : ∃ nn : Nat, nn = (v % 18446744073709551616).toNat := ⟨_, rfl⟩
 have e64 : IntKind.u64.wrap v = (nn : Int) := by rw [hnn, IntKind.wrap_u64]; omega
 have HN := Lib.hid hnn
 clear hnn
 have h0 := h.frame ((Upd.alloc0 w (.cells #[] 5 (0, 0)) []).same h.lt (by simp))
 obtain ⟨nb, hnb, hsrc⟩ := h0.src (P := Tryz.prog) (tx := 71) Tryz.underlying71 ynn'
 rw [List.length_map, Nat.mul_one] at hnb
 subst hnb
 have HBD := Lib.hid (show ∀ n', ([] : List Value).length = n' * 1 → n' + l.length ≤ 140737488355328 ∧ (n' + l.length) * i0.bytes ≤ 140737488355328 from fun n' hn' => by simp at hn'; rw [hz2]; omega)
 clear h0
 go_enter Tryz.func119, Tryz.ntmps119
 go_wp2_with (at_builtin; go_must (refine ybs' rfl _ _ 71 71 rfl 1 _ [] [] rfl (OwnRow.zero _ _ _) _ i0 _ Tryz.underlying71 hi0 hz0 hz1 rfl _ _ _ rfl hsrc HBD.out ?_); intro a3 n3 c3' w3 D3 hown3 hu3)
 have hu0 : Upd w w3 [] D3 := (Upd.alloc0 w (.cells #[] 5 (0, 0)) []).trans hu3
 have hst : ∃ (m : Nat) (D : List Nat), m ≤ 8 ∧ (8 : Nat) = m ∧ (Value.int .i64 7) = .int .i64 ((m : Int) - 1) ∧ OwnRow w3 1 (.slice a3 n3 c3') ((l ++ (yad' v).take (8 - m)).map bv) D ∧ Upd w w3 [] D :=
  ⟨8, D3, by omega, rfl, rfl, by simpa using hown3, hu0⟩
 clear hown3 hu3 hu0 hsrc
 go_loopg [5, 6] 8 (fun k o i wr => ∃ (m : Nat) (D : List Nat), m ≤ 8 ∧ k = m ∧ i = .int .i64 ((m : Int) - 1) ∧ OwnRow wr 1 o ((l ++ (yad' v).take (8 - m)).map bv) D ∧ Upd w wr [] D)
 case atStart => exact hst
 case round =>
  obtain ⟨m, D, hm, hk, rfl, hown, hu⟩ := hrel
  cases m with
  | zero =>
   have HO := Lib.hid hown
   have HU := Lib.hid hu
   clear hown hu
   go_wp2_with fail
   go_ret
   exact ⟨_, D, rfl, by have := HO.out; rwa [List.take_of_length_le (by rw [ydy']; omega)] at this, HU.out⟩
  | succ j =>
   rw [show ((j + 1 : Nat) : Int) - 1 = (j : Int) by omega]
   obtain ⟨bt, hbt⟩ : ∃ bt : Nat, bt = nn / 2 ^ (8 * j) % 256 := ⟨_, rfl⟩
   have e8 : IntKind.i64.wrap (8 * (j : Int)) = ((8 * j : Nat) : Int) := by rw [IntWalk.i64_in _ (by omega)]; omega
   have eb : IntKind.u8.wrap ((nn : Int) / 2 ^ (8 * j)) = (bt : Int) := by
    rw [hbt, IntKind.wrap_u8]
    simp
   have HB := Lib.hid hbt
   have hU2 := Upd.alloc0 wr (.cells #[.int .u8 bt] 5 (0, 0)) []
   have hown2 := hown.frame (hU2.same hown.lt (by simp))
   obtain ⟨nb, hnb, hsrc⟩ := (yju' wr (.int .u8 bt) 5 (0, 0)).src (P := Tryz.prog) (tx := 71) Tryz.underlying71 (by intro u hu; rw [List.mem_singleton.1 hu]; rfl)
   have hnb1 : 1 = nb := by simpa using hnb
   subst hnb1
   have HBD := Lib.hid (show ∀ n', ((l ++ (yad' v).take (8 - (j + 1))).map bv).length = n' * 1 → n' + 1 ≤ 140737488355328 ∧ (n' + 1) * i0.bytes ≤ 140737488355328 from fun n' hn' => by simp at hn'; rw [hz2]; omega)
   have HU := Lib.hid (hu.trans (Upd.alloc0 wr (.cells #[.int .u8 bt] 5 (0, 0)) D))
   clear hbt hown hu hnb hU2
   go_wp2_with (at_builtin; go_must (refine ybs' rfl _ _ 71 71 rfl 1 _ _ _ rfl hown2 _ i0 _ Tryz.underlying71 hi0 hz0 hz1 rfl _ _ _ rfl hsrc HBD.out ?_); intro a4 n4 c4 w4 D4 hown4 hu4)
   go_roundg j
   case rel =>
    refine ⟨j, D4, by omega, rfl, rfl, ?_, HU.out.trans hu4⟩
    have e1 : 8 - j = 7 - j + 1 := by omega
    have e2 : 8 - (j + 1) = 7 - j := by omega
    rw [e2] at hown4
    rw [e1, yi4' v j (by omega), ← HN.out, ← List.append_assoc, List.map_append]
    have e3 : ([UInt8.ofNat (nn / 2 ^ (8 * j))] : Bs).map bv = [.int .u8 bt] := by simp [bv, HB.out]
    rw [e3]
    exact hown4
   case measure => omega
end Go.Proofs.YtcnkifbjlihaoaaGreatDoor

namespace Go.Proofs.YtcnkifbjlihaoaaGreatDoor
open Go.RowKit Go.Av
theorem yr6' {P : Program} {t e : TypeId} {i : TypeInfo} (ht : P.underlying t = some (.slice e)) (hi : P.info? e = some i) (hz : i.size = 1) (g off n c lo k : Nat) (h1 : lo ≤ k) (hk : k ≤ c) (W : World) :
  (Instr.slice t (.slice (some ⟨g, off, none⟩) n c) (some (.int .i64 (lo : Int))) (some (.int .i64 (k : Int))) none).run P W = .ok (.slice (some ⟨g, if c = lo then off else off + lo, none⟩) (k - lo) (c - lo)) W := by
 simp [Instr.slice, run_underlying ht, Instr.sliceBounds, Instr.sliceBound, asIntOf, hk, h1, sizeOf, typeInfo, hi, Result.andThen, Addr.add, hz]
 split
 ·rfl
 ·split
  ·simp_all
  ·rfl
theorem yjf' {P : Program} {t e : TypeId} {i : TypeInfo} (ht : P.underlying t = some (.slice e)) (hi : P.info? e = some i) (hz : i.size = 1) (g off n c lo : Nat) (h1 : lo ≤ n) (W : World) :
  (Instr.slice t (.slice (some ⟨g, off, none⟩) n c) (some (.int .i64 (lo : Int))) none none).run P W = .ok (.slice (some ⟨g, if c = lo then off else off + lo, none⟩) (n - lo) (c - lo)) W := by
 simp [Instr.slice, run_underlying ht, Instr.sliceBounds, Instr.sliceBound, asIntOf, h1, sizeOf, typeInfo, hi, Result.andThen, Addr.add, hz]
 split
 ·rfl
 ·split
  ·simp_all
  ·rfl
theorem yl4' {P : Program} {t e : TypeId} {i : TypeInfo} (ht : P.underlying t = some (.slice e)) (hi : P.info? e = some i) (W : World) :
  (Instr.slice t (.slice none 0 0) (some (.int .i64 (0 : Nat))) (some (.int .i64 (0 : Nat))) none).run P W = .ok (.slice none 0 0) W ∧
  (Instr.slice t (.slice none 0 0) (some (.int .i64 (0 : Nat))) none none).run P W = .ok (.slice none 0 0) W := by
 constructor <;> simp [Instr.slice, run_underlying ht, Instr.sliceBounds, Instr.sliceBound, asIntOf, sizeOf, typeInfo, hi, Result.andThen, Addr.add]
theorem yly' {w : World} {g off n c lo k : Nat} {l : Bs} {E : List Nat} (h : ReadRow w 1 (.slice (some ⟨g, off, none⟩) n c) (l.map bv) E) (h1 : lo ≤ k) (hk : k ≤ n) :
  ∃ E', ReadRow w 1 (.slice (some ⟨g, if c = lo then off else off + lo, none⟩) (k - lo) (c - lo)) (((l.drop lo).take (k - lo)).map bv) E' ∧ ∀ b ∈ E', b ∈ E := by
 obtain ⟨a', n', c', hv, hl, hn, hc, ha, hr⟩ := h
 cases hv
 have hln : l.length = n := by simpa using hl
 by_cases h0 : k - lo = 0
 ·rw [h0, k_g]
  exact ⟨[], ⟨_, 0, _, rfl, rfl, Nat.zero_le _, by omega, (fun h => by cases h), .inl ⟨rfl, rfl⟩⟩, by simp⟩
 ·rw [if_neg (by omega)]
  rcases hr with ⟨h2, _⟩ | ⟨g', off', h2, h3, h4, h5⟩
  ·have : l = [] := by simpa using h2
   subst this; simp at hln; omega
  ·cases h2
   refine ⟨E, ⟨_, _, _, rfl, by simp; omega, by omega, by omega, (fun h => by cases h), .inr ⟨g, off + lo, rfl, h3, h4, fun i x hx => ?_⟩⟩, fun _ h => h⟩
   have hx' : (l.map bv)[lo + i]? = some x := by
    rw [List.getElem?_map, List.getElem?_take] at hx
    split at hx
    ·rw [List.getElem?_drop] at hx
     rw [List.getElem?_map]; exact hx
    ·cases hx
   rw [show off + lo + i = off + (lo + i) by omega]
   exact h5 _ _ hx'
theorem yr4' {P : Program} {t e : TypeId} {i : TypeInfo} (ht : P.underlying t = some (.slice e)) (hi : P.info? e = some i) (hz : i.size = 1) {w : World} {a : Option Addr} {n c : Nat} {l : Bs} {E : List Nat} (h : ReadRow w 1 (.slice a n c) (l.map bv) E) (lo k : Nat) (h1 : lo ≤ k) (hk : k ≤ n) :
  ∃ a', (∀ W, (Instr.slice t (.slice a n c) (some (.int .i64 (lo : Int))) (some (.int .i64 (k : Int))) none).run P W = .ok (.slice a' (k - lo) (c - lo)) W) ∧
   ∃ E', ReadRow w 1 (.slice a' (k - lo) (c - lo)) (((l.drop lo).take (k - lo)).map bv) E' ∧ ∀ b ∈ E', b ∈ E := by
 have h0 := h
 obtain ⟨a', n', c', hv, hl, hn, hc, ha, hr⟩ := h
 cases hv
 cases a with
 | none =>
  have := ha rfl
  subst this
  obtain rfl : n = 0 := by omega
  obtain rfl : k = 0 := by omega
  obtain rfl : lo = 0 := by omega
  exact ⟨none, fun W => (yl4' ht hi W).1, [], ⟨none, 0, 0, rfl, by simp, Nat.le_refl _, by decide, fun _ => rfl, .inl ⟨by simp, rfl⟩⟩, by simp⟩
 | some x =>
  by_cases hn0 : n = 0
  ·subst hn0
   obtain rfl : k = 0 := by omega
   obtain rfl : lo = 0 := by omega
   obtain rfl : l = [] := by simpa using hl
   exact ⟨some x, fun W => by simp [Instr.slice, run_underlying ht, Instr.sliceBounds, Instr.sliceBound, asIntOf, sizeOf, typeInfo, hi, Result.andThen, Addr.add], [], ⟨some x, 0, c, rfl, by simp, Nat.zero_le _, hc, (fun h => by cases h), .inl ⟨by simp, rfl⟩⟩, by simp⟩
  ·rcases hr with ⟨h2, _⟩ | ⟨g, off, h2, h3, h4, h5⟩
   ·rw [h2] at hl; simp at hl; omega
   ·cases h2
    exact ⟨_, fun W => yr6' ht hi hz g off n c lo k h1 (by omega) W, yly' h0 h1 hk⟩
theorem yje' {P : Program} {t e : TypeId} {i : TypeInfo} (ht : P.underlying t = some (.slice e)) (hi : P.info? e = some i) (hz : i.size = 1) {w : World} {a : Option Addr} {n c : Nat} {l : Bs} {E : List Nat} (h : ReadRow w 1 (.slice a n c) (l.map bv) E) (lo : Nat) (h1 : lo ≤ n) :
  ∃ a', (∀ W, (Instr.slice t (.slice a n c) (some (.int .i64 (lo : Int))) none none).run P W = .ok (.slice a' (n - lo) (c - lo)) W) ∧
   ∃ E', ReadRow w 1 (.slice a' (n - lo) (c - lo)) ((l.drop lo).map bv) E' ∧ ∀ b ∈ E', b ∈ E := by
 have h0 := h
 obtain ⟨a', n', c', hv, hl, hn, hc, ha, hr⟩ := h
 cases hv
 have hln : l.length = n := by simpa using hl
 have hd : (l.drop lo).take (n - lo) = l.drop lo := List.take_of_length_le (by simp; omega)
 cases a with
 | none =>
  have := ha rfl
  subst this
  obtain rfl : n = 0 := by omega
  obtain rfl : lo = 0 := by omega
  have : l = [] := List.length_eq_zero_iff.1 hln
  subst this
  exact ⟨none, fun W => (yl4' ht hi W).2, [], ⟨none, 0, 0, rfl, by simp, Nat.le_refl _, by decide, fun _ => rfl, .inl ⟨by simp, rfl⟩⟩, by simp⟩
 | some x =>
  by_cases hn0 : n = 0
  ·subst hn0
   obtain rfl : lo = 0 := by omega
   have : l = [] := List.length_eq_zero_iff.1 hln
   subst this
   exact ⟨some x, fun W => by simp [Instr.slice, run_underlying ht, Instr.sliceBounds, Instr.sliceBound, asIntOf, sizeOf, typeInfo, hi, Result.andThen, Addr.add], [], ⟨some x, 0, c, rfl, by simp, Nat.zero_le _, hc, (fun h => by cases h), .inl ⟨by simp, rfl⟩⟩, by simp⟩
  ·rcases hr with ⟨h2, _⟩ | ⟨g, off, h2, h3, h4, h5⟩
   ·rw [h2] at hl; simp at hl; omega
   ·cases h2
    obtain ⟨E', hE, hEE⟩ := yly' h0 h1 (Nat.le_refl n)
    rw [hd] at hE
    exact ⟨_, fun W => yjf' ht hi hz g off n c lo h1 W, E', hE, hEE⟩
end Go.Proofs.YtcnkifbjlihaoaaGreatDoor

namespace Go.Proofs.YtcnkifbjlihaoaaGreatDoor
open Go.RowKit Go.Av
def ReaderAt (w : World) (r : Nat) (l : Bs) (bad : Bool) (D : List Nat) : Prop :=
 ∃ v E T, w.heap[r]? = some (.cells #[v, .bool bad] T (0, 0)) ∧ ReadRow w 1 v (l.map bv) E ∧ (∀ x ∈ E, x ≠ r) ∧ D = r :: E
theorem ReaderAt.frame {w w' : World} {r : Nat} {l : Bs} {bad : Bool} {D : List Nat} (h : ReaderAt w r l bad D) (hs : Same w w' D) : ReaderAt w' r l bad D := by
 obtain ⟨v, E, T, h1, h2, h3, rfl⟩ := h
 exact ⟨v, E, T, (hs r (by simp)).trans h1, h2.frame (fun b hb => hs b (by simp [hb])), h3, rfl⟩
theorem ReaderAt.lt {w : World} {r : Nat} {l : Bs} {bad : Bool} {D : List Nat} (h : ReaderAt w r l bad D) : ∀ b ∈ D, b < w.heap.size := by
 obtain ⟨v, E, T, h1, h2, h3, rfl⟩ := h
 intro b hb
 rcases List.mem_cons.1 hb with rfl | hb
 ·exact ya6' h1
 ·exact h2.lt b hb
def yjs' (w : World) (D : List Nat) (r : Nat) (l : Bs) (bad : Bool) (ret : Ending) (e : Ending) (w' : World) : Prop := e = ret ∧ ∃ D', ReaderAt w' r l bad D' ∧ Upd w w' D D'
theorem ysw' (x : Int) : wrap64 x = IntKind.i64.wrap x := by
 rw [IntKind.wrap_i64]
 unfold wrap64
 omega
theorem yq9' (x y : Nat) (hx : x % 256 = 0) (hx1 : x < 18446744073709551616) (hy : y < 256) : bits .or .u64 (x : Int) (y : Int) = ((x + y : Nat) : Int) := by
 have := bits_join .u64 64 (by decide) (fun n h0 h1 => by rw [IntKind.wrap_u64]; omega) 8 (x : Int) (y : Int) (by omega) (by omega) (by omega) (by omega) (by omega) (by omega)
 rw [this]
 omega
theorem yrn' (v x : Nat) (hx : x < 256) (u : UInt8) (hu : u.toNat = x) : bits .or .u64 (IntKind.u64.wrap ((v : Int) * 256)) (x : Int) = ((yf5' v u : Nat) : Int) := by
 have e1 : IntKind.u64.wrap ((v : Int) * 256) = ((v * 256 % 18446744073709551616 : Nat) : Int) := by rw [IntKind.wrap_u64]; omega
 rw [e1, yq9' _ _ (by omega) (by omega) hx]
 unfold yf5'
 rw [hu]
set_option maxRecDepth 100000 in
set_option maxHeartbeats 1000000 in
theorem yxg' (b : Value) (l : Bs) (E : List Nat) (w : World) (h : ReadRow w 1 b (l.map bv) E) (hl : l.length ≤ 1073741824) :
  Calls Tryz.prog 101 #[b] w fun e w' => ∃ r D, e = .returned (.pointer (some ⟨r, 0, none⟩)) ∧ ReaderAt w' r l false D ∧ Upd w w' [] D := by
 obtain ⟨i0, hi0, hz0, hz1, hz2⟩ := info_parts yj0'
 have h0 := h.frame ((Upd.alloc0 w (.cells #[] 5 (0, 0)) []).same h.lt (by simp))
 obtain ⟨nb, hnb, hsrc⟩ := h0.src (P := Tryz.prog) (tx := 71) Tryz.underlying71 ynn'
 rw [List.length_map, Nat.mul_one] at hnb
 subst hnb
 have HBD := Lib.hid (show ∀ n', ([] : List Value).length = n' * 1 → n' + l.length ≤ 140737488355328 ∧ (n' + l.length) * i0.bytes ≤ 140737488355328 from fun n' hn' => by simp at hn'; rw [hz2]; omega)
 clear h0
 go_enter Tryz.func101, Tryz.ntmps101
 go_wp2_with (at_builtin; go_must (refine ybs' rfl _ _ 71 71 rfl 1 _ [] [] rfl (OwnRow.zero _ _ _) _ i0 _ Tryz.underlying71 hi0 hz0 hz1 rfl _ _ _ rfl hsrc HBD.out ?_); intro a3 n3 c3' w3 D3 hown3 hu3)
 go_ret
 have hu0 : Upd w w3 [] D3 := (Upd.alloc0 w (.cells #[] 5 (0, 0)) []).trans hu3
 rw [List.nil_append] at hown3
 obtain ⟨E3, hr3, hE3⟩ := hown3.read
 refine ⟨w3.heap.size, w3.heap.size :: E3, rfl, ⟨_, E3, _, heap_alloc_new w3 _, hr3.frame ((Upd.alloc0 w3 _ []).same hr3.lt (by simp)), fun x hx he => ?_, rfl⟩, ?_⟩
 ·have := hr3.lt x hx; omega
 ·refine (hu0.trans (Upd.alloc1 w3 _ D3)).mono (by simp) (fun b hb => .inl ?_)
  rcases List.mem_cons.1 hb with rfl | hb
  ·simp
  ·simp [hE3 b hb]
theorem yh8' (r : Nat) (l : Bs) (bad : Bool) (D : List Nat) (w : World) (h : ReaderAt w r l bad D) :
  Calls Tryz.prog 166 #[.pointer (some ⟨r, 0, none⟩)] w (yjs' w D r [] true (.returned (.tuple #[]))) := by
 obtain ⟨v, E, T, h1, h2, h3, rfl⟩ := h
 have y0 := yae' h1 0
 have y1 := yae' h1 1
 have c0 := yaa' h1 0 rfl
 have c1 := yaa' h1 1 rfl
 have H1 := Lib.hid h1
 clear h1
 go_enter Tryz.func166, Tryz.ntmps166
 go_wp2_with fail
 go_end0
 have e1 := heap_setCell_same w r 0 _ T (.slice none 0 0) H1.out
 have e2 := heap_setCell_same _ r 1 _ T (.bool true) e1
 refine ⟨rfl, [r], ⟨.slice none 0 0, [], T, e2, ⟨none, 0, 0, rfl, by simp, Nat.le_refl _, by decide, fun _ => rfl, .inl ⟨rfl, rfl⟩⟩, by simp, rfl⟩, ?_⟩
 exact (((Upd.refl w (r :: E)).setCell ⟨r, 0, none⟩ (.slice none 0 0) (by simp)).setCell ⟨r, 1, none⟩ (.bool true) (by simp)).mono (fun _ h => h) (by simp)
set_option maxRecDepth 100000 in
theorem yxf' (r : Nat) (l : Bs) (bad : Bool) (D : List Nat) (w : World) (h : ReaderAt w r l bad D) :
  Calls Tryz.prog 107 #[.pointer (some ⟨r, 0, none⟩)] w fun e w' => e = .returned (.bool (!bad && l.isEmpty)) ∧ w' = w := by
 obtain ⟨v, E, T, h1, h2, h3, rfl⟩ := h
 obtain ⟨a, n, c, rfl, -⟩ := id h2
 obtain ⟨hn, hnc, hcm, -⟩ := yd0' h2
 rw [List.length_map] at hn
 subst hn
 have c0 := yaa' h1 0 rfl
 have c1 := yaa' h1 1 rfl
 clear h1 h2
 cases bad with
 | true =>
  go_enter Tryz.func107, Tryz.ntmps107
  go_wp2_with fail
  go_ret
  exact ⟨rfl, rfl⟩
 | false =>
  cases l with
  | nil =>
   go_enter Tryz.func107, Tryz.ntmps107
   go_wp2_with fail
   go_ret
   exact ⟨rfl, rfl⟩
  | cons x l =>
   have hne : ((((x :: l).length : Nat) : Int) == 0) = false := by simp; omega
   go_enter Tryz.func107, Tryz.ntmps107
   go_wp2_with fail
   go_ret
   exact ⟨congrArg (fun b => Ending.returned (.bool b)) (show (((l.length : Int) + 1) == 0) = false by simp; omega), rfl⟩
set_option maxRecDepth 100000 in
set_option maxHeartbeats 1000000 in
theorem yro' (r : Nat) (l : Bs) (bad : Bool) (D : List Nat) (w : World) (h : ReaderAt w r l bad D) :
  Calls Tryz.prog 102 #[.pointer (some ⟨r, 0, none⟩)] w
   (yjs' w D r (if l.length < 8 then [] else l.drop 8) (if l.length < 8 then true else bad) (.returned (.int .i64 (if l.length < 8 then 0 else rdI l)))) := by
 obtain ⟨i0, hi0, hz0, hz1, hz2⟩ := info_parts yj0'
 obtain ⟨v, E, T, h1, h2, h3, rfl⟩ := h
 obtain ⟨a, n, c, rfl, -⟩ := id h2
 obtain ⟨hn, hnc, hcm, hcell⟩ := yd0' h2
 rw [List.length_map] at hn
 subst hn
 unfold maxLen at hcm
 have c0 : w.cell? ⟨r, 0, none⟩ = some (.slice a l.length c) := yaa' h1 0 rfl
 have y0 := yae' h1 0
 have y1 := yae' h1 1
 have H1 := Lib.hid h1
 have H2 := Lib.hid h2
 have H3 := Lib.hid h3
 clear h1 h2 h3
 by_cases h8 : l.length < 8
 ·rw [if_pos h8, if_pos h8, if_pos h8]
  clear hcell
  have hsp := yh8' r l bad (r :: E) w ⟨_, E, T, H1.out, H2.out, H3.out, rfl⟩
  have HSP := Lib.hid hsp
  clear hsp
  go_enter Tryz.func102, Tryz.ntmps102
  go_wp2_with fail
  refine HSP.out.mono ?_
  rintro e w1 ⟨rfl, D1, hR, hu⟩
  go_wp2_with fail
  go_ret
  exact ⟨rfl, D1, hR, hu⟩
 ·rw [if_neg h8, if_neg h8, if_neg h8]
  have HC := Lib.hid hcell
  clear hcell
  have hsl1 : ∀ W : World, (Instr.slice 71 (.slice a l.length c) none (some (.int .i64 8)) none).run Tryz.prog W = .ok (.slice a 8 c) W := fun W => yg0' (P := Tryz.prog) Tryz.underlying71 hi0 a l.length c 8 (by omega) W
  obtain ⟨ap, hsp, Ep, hrp, hEp⟩ := yje' Tryz.underlying71 hi0 hz1 H2.out 8 (by omega)
  have hsp2 : ∀ W : World, (Instr.slice 71 (.slice a l.length c) (some (.int .i64 8)) none none).run Tryz.prog W = .ok (.slice ap (l.length - 8) (c - 8)) W := fun W => hsp W
  have HP := Lib.hid (show ReadRow w 1 (.slice ap (l.length - 8) (c - 8)) ((l.drop 8).map bv) Ep ∧ ∀ b ∈ Ep, b ∈ E from ⟨hrp, hEp⟩)
  clear hsp hrp hEp
  go_enter Tryz.func102, Tryz.ntmps102
  go_wp2_with fail
  go_loopg [3, 20] 8 (fun k s i wr => wr = w ∧ ∃ m : Nat, m ≤ 8 ∧ k = 8 - m ∧ i = .int .i64 m ∧ s = .int .u64 (ycd' (l.take m)))
  case atStart => exact ⟨rfl, 0, by omega, rfl, rfl, rfl⟩
  case round =>
   obtain ⟨hW, m, hm, hk, rfl, rfl⟩ := hrel
   subst wr
   by_cases hlt : m < 8
   ·obtain ⟨x, rfl, -, hx⟩ := HC.out (by omega)
    have hcl : w.cell? (x.add m) = some (bv l[m]) := hx m _ (by rw [List.getElem?_map, List.getElem?_eq_getElem (by omega)]; rfl)
    unfold bv at hcl
    obtain ⟨xv, hxv⟩ : ∃ xv : Nat, xv = l[m].toNat := ⟨_, rfl⟩
    have hxl : xv < 256 := by rw [hxv]; exact UInt8.toNat_lt _
    rw [← hxv] at hcl
    have hj := yrn' (ycd' (l.take m)) xv hxl l[m] hxv.symm
    obtain ⟨f0, hf0⟩ : ∃ f0, f0 = ycd' (l.take m) := ⟨_, rfl⟩
    rw [← hf0] at hj ⊢
    have HJ := Lib.hid hj
    have HF := Lib.hid hf0
    clear hj hf0 hx hxv
    go_wp2_with fail
    go_roundg (8 - (m + 1))
    case rel =>
     refine ⟨rfl, m + 1, by omega, rfl, by go_num, ?_⟩
     have e : ycd' (l.take (m + 1)) = yf5' (ycd' (l.take m)) l[m] := by
      unfold ycd'
      rw [List.take_succ_eq_append_getElem (show m < l.length by omega), List.foldl_append]
      rfl
     rw [HJ.out, HF.out, e]
    case measure => omega
   ·obtain rfl : m = 8 := by omega
    go_wp2_with fail
    go_ret
    refine ⟨congrArg (fun z => Ending.returned (.int .i64 z)) (ysw' _), r :: Ep, ⟨_, Ep, T, heap_setCell_same w r 0 _ T (.slice ap (l.length - 8) (c - 8)) H1.out, HP.out.1.frame (fun b hb => heap_setCell_other _ _ _ _ (fun e => H3.out b (HP.out.2 b hb) e)), fun x hx => H3.out x (HP.out.2 x hx), rfl⟩, ?_⟩
    refine (Upd.set1 w ⟨r, 0, none⟩ (.slice ap (l.length - 8) (c - 8)) (r :: E) (by simp)).mono (fun _ h => h) (fun b hb => .inr ?_)
    rcases List.mem_cons.1 hb with rfl | hb
    ·simp
    ·simp [HP.out.2 b hb]
end Go.Proofs.YtcnkifbjlihaoaaGreatDoor

namespace Go.Proofs.YtcnkifbjlihaoaaGreatDoor
open Go.RowKit Go.Av
def cntS (l : Bs) (bad : Bool) (most : Int) : Bs × Bool × Int :=
 if l.length < 8 then ([], true, 0) else if rdI l < 0 ∨ most < rdI l then ([], true, 0) else (l.drop 8, bad, rdI l)
set_option maxRecDepth 100000 in
set_option maxHeartbeats 1000000 in
theorem ylw' (r : Nat) (l : Bs) (bad : Bool) (most : Int) (hm : 0 ≤ most) (D : List Nat) (w : World) (h : ReaderAt w r l bad D) :
  Calls Tryz.prog 106 #[.pointer (some ⟨r, 0, none⟩), .int .i64 most] w (yjs' w D r (cntS l bad most).1 (cntS l bad most).2.1 (.returned (.int .i64 (cntS l bad most).2.2))) := by
 have hi := yro' r l bad D w h
 unfold cntS
 by_cases h8 : l.length < 8
 ·rw [if_pos h8, if_pos h8, if_pos h8] at hi
  rw [if_pos h8]
  have HI := Lib.hid hi
  clear hi h h8
  go_enter Tryz.func106, Tryz.ntmps106
  go_wp2_with fail
  refine HI.out.mono ?_
  rintro e w1 ⟨rfl, D1, h1, hu1⟩
  have H1 := Lib.hid (show _ ∧ _ from ⟨h1, hu1⟩)
  have b1 : ¬ most < 0 := by omega
  clear h1 hu1
  go_wp2_with fail
  go_ret
  exact ⟨rfl, D1, H1.out.1, H1.out.2⟩
 ·rw [if_neg h8, if_neg h8, if_neg h8] at hi
  rw [if_neg h8]
  obtain ⟨n, hn⟩ : ∃ n, rdI l = n := ⟨_, rfl⟩
  rw [hn] at hi ⊢
  have HI := Lib.hid hi
  clear hi h h8 hn
  by_cases hbad : n < 0 ∨ most < n
  ·rw [if_pos hbad]
   by_cases hn0 : n < 0
   case' pos => clear hbad
   case' neg =>
    have hn1 : most < n := by omega
    clear hbad
   all_goals
    go_enter Tryz.func106, Tryz.ntmps106
    go_wp2_with fail
    refine HI.out.mono ?_
    rintro e w1 ⟨rfl, D1, h1, hu1⟩
    have hs := yh8' r _ _ D1 w1 h1
    have HS := Lib.hid hs
    have HU := Lib.hid hu1
    clear h1 hu1 hs
    go_wp2_with fail
    refine HS.out.mono ?_
    rintro e w2 ⟨rfl, D2, h2, hu2⟩
    have H2 := Lib.hid (show _ ∧ _ from ⟨h2, HU.out.trans hu2⟩)
    clear h2 hu2
    go_wp2_with fail
    go_ret
    exact ⟨rfl, D2, H2.out.1, H2.out.2⟩
  ·rw [if_neg hbad]
   have hn0 : ¬ n < 0 := fun h => hbad (.inl h)
   have hn1 : ¬ most < n := fun h => hbad (.inr h)
   clear hbad
   go_enter Tryz.func106, Tryz.ntmps106
   go_wp2_with fail
   refine HI.out.mono ?_
   rintro e w1 ⟨rfl, D1, h1, hu1⟩
   have H1 := Lib.hid (show _ ∧ _ from ⟨h1, hu1⟩)
   clear h1 hu1
   go_wp2_with fail
   go_ret
   exact ⟨rfl, D1, H1.out.1, H1.out.2⟩
end Go.Proofs.YtcnkifbjlihaoaaGreatDoor

namespace Go.Proofs.YtcnkifbjlihaoaaGreatDoor
open Go.RowKit Go.Av
theorem yaf' (v : Int) : (yad' v).length = 8 := rfl
theorem yfu' : ∀ l : List Int, (l.flatMap yad').length = 8 * l.length
 | [] => rfl
 | x :: l => by rw [List.flatMap_cons, List.length_append, yaf', yfu' l, List.length_cons]; omega
abbrev Rd := Bs × Bool
def i64R (r : Rd) : Int × Rd := if r.1.length < 8 then (0, [], true) else (rdI r.1, r.1.drop 8, r.2)
def cntR (most : Int) (r : Rd) : Int × Rd := ((cntS r.1 r.2 most).2.2, (cntS r.1 r.2 most).1, (cntS r.1 r.2 most).2.1)
def cntN (most : Int) : Nat → Rd → List Int × Rd
 | 0, r => ([], r)
 | n + 1, r => ((cntR most r).1 :: (cntN most n (cntR most r).2).1, (cntN most n (cntR most r).2).2)
theorem yky' (most : Int) : ∀ (n : Nat) (r : Rd), cntN most (n + 1) r = ((cntN most n r).1 ++ [(cntR most (cntN most n r).2).1], (cntR most (cntN most n r).2).2)
 | 0, r => rfl
 | n + 1, r => by
  rw [cntN, yky' most n]
  rfl
theorem yg9' (most : Int) : ∀ (n : Nat) (r : Rd), (cntN most n r).1.length = n
 | 0, r => rfl
 | n + 1, r => by rw [cntN, List.length_cons, yg9' most n]
theorem yct' {most : Int} (h : 0 ≤ most) (r : Rd) : 0 ≤ (cntR most r).1 ∧ (cntR most r).1 ≤ most := by
 unfold cntR cntS
 split
 ·exact ⟨Int.le_refl _, h⟩
 ·split
  ·exact ⟨Int.le_refl _, h⟩
  ·simp only; omega
theorem yby' (v : Int) (x : Bs) (bad : Bool) (h1 : -9223372036854775808 ≤ v) (h2 : v ≤ 9223372036854775807) : i64R (yad' v ++ x, bad) = (v, x, bad) := by
 unfold i64R
 rw [if_neg (by simp [yaf'])]
 simp only [yob' v x h1 h2]
 rw [List.drop_append_of_le_length (by rw [yaf']; omega), List.drop_of_length_le (by rw [yaf']; omega)]
 rfl
theorem yhm' (most v : Int) (x : Bs) (bad : Bool) (h1 : 0 ≤ v) (h2 : v ≤ most) (h3 : most ≤ 9223372036854775807) : cntR most (yad' v ++ x, bad) = (v, x, bad) := by
 unfold cntR cntS
 simp only
 rw [yob' v x (by omega) (by omega), if_neg (by simp [yaf']), if_neg (by omega)]
 simp only
 rw [List.drop_append_of_le_length (by rw [yaf']; omega), List.drop_of_length_le (by rw [yaf']; omega)]
 rfl
def yds' (r : Nat) (d : Rd) : Thing := ⟨fun w D => ReaderAt w r d.1 d.2 D, fun h hs => h.frame hs, fun h => h.lt⟩
section
variable {w0 w : World} {r : Nat} {d : Rd} {R : List Thing} {rows : List (Value × Bs)}
theorem ycl' (h : Sep w0 w (yds' r d :: R) rows) (most : Int) (hm : 0 ≤ most) :
  Calls Tryz.prog 106 #[.pointer (some ⟨r, 0, none⟩), .int .i64 most] w fun e w' => e = .returned (.int .i64 (cntR most d).1) ∧ Sep w0 w' (yds' r (cntR most d).2 :: R) rows := by
 obtain ⟨D, hP, -, back⟩ := h.use
 refine (ylw' r d.1 d.2 most hm D w hP).mono ?_
 rintro e w' ⟨rfl, D', h', hu⟩
 exact ⟨rfl, back w' D' (yds' r (cntR most d).2) hu h'⟩
theorem yb8' (h : Sep w0 w (yds' r d :: R) rows) :
  Calls Tryz.prog 102 #[.pointer (some ⟨r, 0, none⟩)] w fun e w' => e = .returned (.int .i64 (i64R d).1) ∧ Sep w0 w' (yds' r (i64R d).2 :: R) rows := by
 obtain ⟨D, hP, -, back⟩ := h.use
 refine (yro' r d.1 d.2 D w hP).mono ?_
 rintro e w' ⟨rfl, D', h', hu⟩
 have e1 : (i64R d).1 = if d.1.length < 8 then 0 else rdI d.1 := by unfold i64R; split <;> rfl
 have e2 : (i64R d).2.1 = if d.1.length < 8 then [] else d.1.drop 8 := by unfold i64R; split <;> rfl
 have e3 : (i64R d).2.2 = if d.1.length < 8 then true else d.2 := by unfold i64R; split <;> rfl
 exact ⟨by rw [e1], back w' D' (yds' r (i64R d).2) hu (by show ReaderAt w' r (i64R d).2.1 (i64R d).2.2 D'; rw [e2, e3]; exact h')⟩
theorem yjb' (h : Sep w0 w (yds' r d :: R) rows) :
  Calls Tryz.prog 107 #[.pointer (some ⟨r, 0, none⟩)] w fun e w' => e = .returned (.bool (!d.2 && d.1.isEmpty)) ∧ w' = w := by
 obtain ⟨D, hP⟩ := h.fst
 exact yxf' r d.1 d.2 D w hP
end
end Go.Proofs.YtcnkifbjlihaoaaGreatDoor

namespace Go.Av
open Go.RowKit
def okCh (c : UInt8) : Bool := !(decide (c < 33) || decide (126 < c))
def yel' (l : Bs) : Bool := l.all okCh && decide (1 ≤ l.length) && decide (l.length ≤ 40) && !(l == [46]) && !(l == [46, 46])
def cutS : Bs → List Bs
 | [] => [[]]
 | c :: r => if c = 47 then [] :: cutS r else match cutS r with | [] => [[c]] | x :: t => (c :: x) :: t
def ya4' (p : Bs) : Bool := match p with
 | [] => false
 | c :: r => decide (c = 47) && decide (r.length + 1 ≤ 200) && (cutS r).all yel' && decide ((cutS r).length ≤ 8)
def yaz' (p : Bs) : List Bs := if ya4' p then cutS (p.drop 1) else []
def yeu' (p : Bs) : Bs := match (yaz' p).getLast? with | none => [] | some x => x
theorem yc8' : ∀ l : Bs, cutS l ≠ []
 | [] => by simp [cutS]
 | c :: r => by
  unfold cutS
  split
  ·simp
  ·split <;> simp
theorem ydu' : ∀ l : Bs, (cutS l).length = l.count 47 + 1
 | [] => rfl
 | c :: r => by
  have ih := ydu' r
  unfold cutS
  by_cases hc : c = 47
  ·rw [if_pos hc, List.length_cons, ih, hc, List.count_cons_self]
  ·rw [if_neg hc, List.count_cons_of_ne hc, ← ih]
   split
   ·rename_i h; exact absurd h (yc8' r)
   ·rename_i h; rw [h]; rfl
open Go.Lib in
theorem ygp' : ∀ (l : Bs) (k : Nat), l.count 47 ≤ k → splitK [47] 0 k l = cutS l
 | [], k, _ => by
  cases k with
  | zero => rfl
  | succ k => rfl
 | c :: r, k, hk => by
  by_cases hc : c = 47
  ·subst hc
   rw [List.count_cons_self] at hk
   obtain ⟨k', rfl⟩ : ∃ k', k = k' + 1 := ⟨k - 1, by omega⟩
   have hi : index (47 :: r) [47] = 0 := by simp [index, List.isPrefixOf]
   rw [splitK, hi]
   simp only [show ((0 : Int) == -1) = false from rfl, Bool.false_eq_true, if_false]
   rw [cutS, if_pos rfl]
   have := ygp' r k' (by omega)
   simpa using this
  ·rw [List.count_cons_of_ne hc] at hk
   have hi : index (c :: r) [47] = if index r [47] == -1 then -1 else index r [47] + 1 := by
    rw [index, if_neg]
    simp [List.isPrefixOf]
    exact fun e => hc e.symm
   have ih := ygp' r k hk
   rw [cutS, if_neg hc, ← ih]
   rcases index_spec r [47] with ⟨h1, _⟩ | ⟨i, h1, h2, h3, h4⟩
   ·rw [h1] at hi
    simp only [BEq.rfl, if_true] at hi
    cases k with
    | zero => rfl
    | succ k => simp [splitK, hi, h1]
   ·have hp : 0 < k := by
     have hc1 : r.count 47 ≠ 0 := by
      intro h0
      have hm := index_spec r [47]
      have hz : Lib.count r [47] = 0 := by rw [count_one]; exact h0
      have h5 := count_hit (s := r) (sub := [47]) (i := i) (by simp) h1
      omega
     omega
    obtain ⟨k', rfl⟩ : ∃ k', k = k' + 1 := ⟨k - 1, by omega⟩
    have hne : (index r [47] == -1) = false := by rw [h1, beq_eq_false_iff_ne]; omega
    rw [hne] at hi
    simp only [Bool.false_eq_true, if_false] at hi
    have hne2 : (index (c :: r) [47] == -1) = false := by rw [hi, h1, beq_eq_false_iff_ne]; omega
    rw [splitK, splitK, hne, hne2]
    simp only [Bool.false_eq_true, if_false, List.length_singleton, Nat.add_zero]
    rw [hi, h1]
    have e1 : ((i : Int) + 1).toNat = i + 1 := by omega
    have e2 : (i : Int).toNat = i := by omega
    rw [e1, e2, k_f, k_e]
open Go.Lib in
theorem yr7' (s : ByteArray) : (splitB ⟨#[47]⟩ 0 (countB s ⟨#[47]⟩) s).map (fun b => b.data.toList) = cutS s.data.toList := by
 rw [splitB_data]
 exact ygp' _ _ (by unfold countB; rw [show (⟨#[47]⟩ : ByteArray).data.toList = [47] from rfl, count_one]; exact Nat.le_refl _)
open Go.Lib in
theorem yp7' (s : ByteArray) : countB s ⟨#[47]⟩ + 1 = (cutS s.data.toList).length := by
 rw [ydu']
 unfold countB
 rw [show (⟨#[47]⟩ : ByteArray).data.toList = [47] from rfl, count_one]
theorem yb3' {p : Bs} (h : ya4' p = true) : p.length ≤ 200 := by
 cases p with
 | nil => simp
 | cons c r =>
  unfold ya4' at h
  simp only [Bool.and_eq_true, decide_eq_true_eq] at h
  simpa using h.1.1.2
end Go.Av
