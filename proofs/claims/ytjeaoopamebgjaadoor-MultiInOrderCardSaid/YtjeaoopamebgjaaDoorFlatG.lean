/-
  Rows of elements of K cells each, in plain words.
-/
import Derived.Test.YtjeaoopamebgjaaDoorSepC
import Derived.Sort.Walk0
import Derived.Deep.Slices
namespace Go.Av
open Go.RowKit
section
variable {α : Type} {f : α → List Value} {K : Nat}
theorem flatG_len (hf : ∀ x, (f x).length = K) (l : List α) : (l.flatMap f).length = l.length * K := by
  induction l with
  | nil => simp
  | cons e l ih => rw [List.flatMap_cons, List.length_append, ih, hf, List.length_cons, Nat.add_mul]; omega
theorem flatG_at (hf : ∀ x, (f x).length = K) : ∀ (l : List α) {p : Nat} (hp : p < l.length) {j : Nat}, j < K → (l.flatMap f)[p * K + j]? = (f l[p])[j]?
  | [], p, hp, _, _ => by simp at hp
  | e :: l, 0, _, j, hj => by
    rw [List.flatMap_cons, Nat.zero_mul, Nat.zero_add, List.getElem?_append_left (by rw [hf]; exact hj)]
    rfl
  | e :: l, p + 1, hp, j, hj => by
    have hp' : p < l.length := by simpa using hp
    rw [List.flatMap_cons, List.getElem?_append_right (by rw [hf, Nat.add_mul]; omega), hf, show (p + 1) * K + j - K = p * K + j by rw [Nat.add_mul]; omega, flatG_at hf l hp' hj]
    rfl
theorem flatG_take (hf : ∀ x, (f x).length = K) (hK : 0 < K) : ∀ (l : List α) (p : Nat), (l.flatMap f).take (p * K) = (l.take p).flatMap f
  | [], p => by simp
  | e :: l, 0 => by simp
  | e :: l, p + 1 => by
    rw [List.flatMap_cons, List.take_succ_cons, List.flatMap_cons, ← flatG_take hf hK l p, List.take_append, hf, List.take_of_length_le (by rw [hf, Nat.add_mul]; omega), show (p + 1) * K - K = p * K by rw [Nat.add_mul]; omega]
theorem flatG_drop (hf : ∀ x, (f x).length = K) (hK : 0 < K) : ∀ (l : List α) (p : Nat), (l.flatMap f).drop (p * K) = (l.drop p).flatMap f
  | [], p => by simp
  | e :: l, 0 => by simp
  | e :: l, p + 1 => by
    rw [List.flatMap_cons, List.drop_succ_cons, ← flatG_drop hf hK l p, List.drop_append, hf, List.drop_of_length_le (by rw [hf, Nat.add_mul]; omega), List.nil_append, show (p + 1) * K - K = p * K by rw [Nat.add_mul]; omega]
theorem flatG_set (hf : ∀ x, (f x).length = K) : ∀ (l : List α) {p : Nat} (hp : p < l.length) {j : Nat} (x' : α) (v : Value), j < K → f x' = (f l[p]).set j v → (l.set p x').flatMap f = (l.flatMap f).set (p * K + j) v
  | [], p, hp, _, _, _, _, _ => by simp at hp
  | e :: l, 0, _, j, x', v, hj, he => by
    rw [List.set_cons_zero, List.flatMap_cons, List.flatMap_cons, Nat.zero_mul, Nat.zero_add, List.set_append, if_pos (by rw [hf]; exact hj), he]
    rfl
  | e :: l, p + 1, hp, j, x', v, hj, he => by
    have hp' : p < l.length := by simpa using hp
    rw [List.set_cons_succ, List.flatMap_cons, List.flatMap_cons, List.set_append, if_neg (by rw [hf, Nat.add_mul]; omega), hf, show (p + 1) * K + j - K = p * K + j by rw [Nat.add_mul]; omega, flatG_set hf l hp' x' v hj he]
theorem flatG_one (h1 : ∀ x, ∀ u ∈ f x, u.oneCell' = true) (l : List α) : ∀ u ∈ l.flatMap f, u.oneCell' = true := by
  intro u hu
  obtain ⟨e, -, he⟩ := List.mem_flatMap.1 hu
  exact h1 e u he
end
theorem strK_eq (a b : ByteArray) : (a.toList == b.toList) = (a.data.toList == b.data.toList) := by rw [Lib.toList_data, Lib.toList_data]
theorem ownCellK {w : World} {size : Nat} {a : Option Addr} {n c : Nat} {xs : List Value} {D : List Nat} (h : OwnRow w size (.slice a n c) xs D) {i : Nat} {x : Value} (hx : xs[i]? = some x) :
    ∃ y : Addr, a = some y ∧ y.spot = none ∧ w.cell? (y.add i) = some x := by
  obtain ⟨a', n', c', hv, hl, hn, hc, ha, hr⟩ := h
  cases hv
  rcases hr with ⟨hc0, _⟩ | ⟨g, off, cur, T, h1, h2, h3, h4, h5⟩
  · have : i < xs.length := (List.getElem?_eq_some_iff.1 hx).1
    rw [hl] at this
    have : n = 0 := by omega
    subst this
    omega
  · refine ⟨⟨g, off, none⟩, h1, rfl, ?_⟩
    rw [Addr.add_lit, cell_of_row w g (off + i) cur T _ h3]
    rw [← h5, List.getElem?_take] at hx
    split at hx
    · rw [List.getElem?_drop] at hx; simpa using hx
    · cases hx
theorem Sep.rowSetK {w0 w : World} {R : List Thing} {rows : List (Value × Bs)} {size : Nat} {y : Addr} {n c : Nat} {xs : List Value} (h : Sep w0 w (ThRow size (.slice (some y) n c) xs :: R) rows) {i : Nat} (hi : i < n * size) (v : Value) :
    w.frozen? (y.add i) = false ∧ y.spot = none ∧ (∃ u, w.cell? (y.add i) = some u) ∧ Sep w0 (w.setCell (y.add i) v) (ThRow size (.slice (some y) n c) (xs.set i v) :: R) rows := by
  obtain ⟨D, hP, _, back⟩ := h.use
  obtain ⟨a', n', c', hv, hl, hn, hc, ha, hr⟩ := hP
  cases hv
  have hnc : n * size ≤ c * size := Nat.mul_le_mul_right _ hn
  rcases hr with ⟨hc0, _⟩ | ⟨g, off, cur, T, h1, h2, h3, h4, h5⟩
  · subst hc0
    obtain rfl : n = 0 := by omega
    omega
  · cases h1
    subst h2
    rw [Addr.add_lit]
    have hsz : off + i < cur.size := by omega
    refine ⟨frz_of h3 _, rfl, ⟨cur[off + i], by rw [cell_of_row w g (off + i) cur T _ h3]; exact Array.getElem?_eq_getElem hsz⟩, ?_⟩
    refine back _ [g] (ThRow size (.slice (some ⟨g, off, none⟩) n c) (xs.set i v)) (Upd.set1 _ _ _ _ (by simp)) ⟨_, n, c, rfl, by simpa using hl, hn, hc, ha, .inr ⟨g, off, _, T, rfl, rfl, heap_setCell_same w g (off + i) cur T v h3, by simpa using h4, ?_⟩⟩
    rw [← h5, Array.toList_setIfInBounds]
    apply List.ext_getElem?
    intro k
    simp only [List.getElem?_take, List.getElem?_drop, List.getElem?_set, List.length_take, List.length_drop, Array.length_toList, Array.getElem?_toList]
    have hm : i < min (n * size) (cur.size - off) := by omega
    by_cases hki : i = k
    · subst hki
      simp [hi, hsz, hm]
    · have : ¬ off + i = off + k := by omega
      simp [hki]
theorem spotK_of {w : World} {x : Addr} {v : Value} (h : w.cell? x = some v) : x.spot = none := by
  cases hs : x.spot with
  | none => rfl
  | some _ =>
    unfold World.cell? at h
    split at h <;> simp [hs] at h
theorem addK_field {w : World} {x : Addr} {k : Nat} {v : Value} (h : w.cell? (x.add k) = some v) (j : Nat) : x.add (k + j) = ⟨(x.add k).block, (x.add k).off + j, none⟩ := by
  have h1 := spotK_of h
  rw [← Go.Deep.add_add]
  generalize x.add k = y at h1 ⊢
  obtain ⟨b, o, sp⟩ := y
  simp only at h1
  subst h1
  exact Addr.add_lit b o j
theorem ReadRow.takeK {w : World} {size : Nat} {a : Option Addr} {n c : Nat} {xs : List Value} {D : List Nat} (h : ReadRow w size (.slice a n c) xs D) {k : Nat} (hk : k ≤ n) : ReadRow w size (.slice a k c) (xs.take (k * size)) D := by
  obtain ⟨a', n', c', hv, hl, hn, hc, ha, hr⟩ := h
  cases hv
  have hle : k * size ≤ n * size := Nat.mul_le_mul_right _ hk
  refine ⟨a, k, c, rfl, by rw [List.length_take, hl]; omega, by omega, hc, ha, ?_⟩
  rcases hr with ⟨rfl, h2⟩ | ⟨g, off, h1, h2, h3, h4⟩
  · exact .inl ⟨by simp, h2⟩
  · refine .inr ⟨g, off, h1, h2, h3, fun i x hx => h4 i x ?_⟩
    rw [List.getElem?_take] at hx
    split at hx
    · exact hx
    · cases hx
/-- A new row of one element. -/
theorem one_new (w : World) (K : Nat) (hK : 0 < K) (cs : Array Value) (hc : cs.size = K) (T : TypeId) : ReadRow (w.alloc (.cells cs T (0, 0))) K (.slice (some ⟨w.heap.size, 0, none⟩) 1 1) cs.toList [w.heap.size] :=
  ⟨_, 1, 1, rfl, by simp [hc], Nat.le_refl _, by decide, by simp, .inr ⟨w.heap.size, 0, rfl, rfl, by simp, fun i x hx => by
    have hh : (w.alloc (.cells cs T (0, 0))).heap[w.heap.size]? = some (.cells cs T (0, 0)) := heap_alloc_new w _
    rw [cell_of_row _ _ _ _ _ _ hh]
    simpa using hx⟩⟩
end Go.Av
