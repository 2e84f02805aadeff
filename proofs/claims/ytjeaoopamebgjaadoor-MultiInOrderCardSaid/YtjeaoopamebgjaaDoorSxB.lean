/-
  The walk by things: slices of several elements that are written out.
-/
import Derived.Test.YtjeaoopamebgjaaDoorSxA
import Derived.Great.FillDense
namespace Go.Av
open Go.RowKit
section
variable {P : Program} {ops : Array Oper} {Q : Exit → Act → World → Prop} {a : Act} {w w0 : World} {rest : List Oper} {Ts Ts' : List Thing} {rows : List (Value × Bs)}
  {dst : Option Tmp} {tyy t e : TypeId} {y0 y1 : Operand} {pos : String} {aft : Array Edge} {c0 c1 : List Value} {v0 v1 : Value}
theorem sx_lits (H : Hid (Sep w0 w Ts rows)) {K by_ len : Nat} {parts : Array (Nat × Operand)} (hsl : SliceN P t e K by_) (hK : 0 < K) (hm : len * K ≤ 10000) (hl : 0 < len) (vs : List Value) (hp : (parts.map fun (i, x) => (i, a.eval x)).toList = (vs.zipIdx 0).map fun x => (x.2, x.1)) (hvl : vs.length = len) (hvs : ∀ v ∈ vs, v.cells.size = K)
    (k : ∀ w' b, Hid (Sep w0 w' (ThCell b (.cells (vs.flatMap fun v => v.cells.toList).toArray e (0, 0)) :: Ts) rows) → wpList P ops Q rest (a.put dst (.slice (some ⟨b, 0, none⟩) len len)) w') : wpList P ops Q (⟨dst, .buildSlice t len parts, tyy, pos, aft, none⟩ :: rest) a w := by
  obtain ⟨ii, z, hi, hz, hsz, hzs, -⟩ := hsl.info
  refine Go.Great.wpList_buildSliceTo rfl t e len parts rfl w.heap.size rfl dst rfl hsl.ut _ ?_ (k _ _ (Lib.hid (H.out.newCell _)))
  unfold Program.builtSlice
  have hpos : 0 < len * K := Nat.mul_pos hl hK
  simp only [hi, hz, hsz]
  rw [if_neg (by omega), hp]
  have := Go.Great.fill_whole (s := K) hK vs ((Array.range (len * K)).map (z.cells[· % z.cells.size]!)) hvs (by simp [hvl])
  rw [this]
theorem sx_two (H : Hid (Sep w0 w Ts rows)) {K by_ : Nat} (hsl : SliceN P t e K by_) (hK : Nat.blt 0 K = true ∧ Nat.ble K 1000 = true) (h0 : a.eval y0 = .agg c0.toArray) (h1 : a.eval y1 = .agg c1.toArray) (e0 : c0.length = K) (e1 : c1.length = K)
    (k : ∀ w' b, Hid (Sep w0 w' (ThCell b (.cells (c0 ++ c1).toArray e (0, 0)) :: Ts) rows) → wpList P ops Q rest (a.put dst (.slice (some ⟨b, 0, none⟩) 2 2)) w') : wpList P ops Q (⟨dst, .buildSlice t 2 #[(0, y0), (1, y1)], tyy, pos, aft, none⟩ :: rest) a w := by
  have h2 : K ≤ 1000 := Nat.le_of_ble_eq_true hK.2
  have h3 : 0 < K := by have := hK.1; simpa using this
  refine sx_lits H hsl h3 (by omega) (by omega) [.agg c0.toArray, .agg c1.toArray] (by simp [h0, h1]) rfl (fun v hv => ?_) (fun w' b HX => k w' b ?_)
  · simp only [List.mem_cons, List.not_mem_nil, or_false] at hv
    rcases hv with rfl | rfl <;> simp [Value.cells, e0, e1]
  · simpa [Value.cells] using HX
/-- A slice of one block, read: its cells. -/
theorem cell_row (H : Hid (Sep w0 w Ts rows)) {b K n : Nat} {cs : List Value} {T : TypeId} (hm : ThCell b (.cells cs.toArray T (0, 0)) ∈ Ts) (hl : cs.length = n * K) (hn : n ≤ 1000) : ReadRow w K (.slice (some ⟨b, 0, none⟩) n n) cs [b] :=
  ⟨_, n, n, rfl, hl, Nat.le_refl _, by unfold maxLen; omega, (fun h => by cases h), .inr ⟨b, 0, rfl, rfl, lt_of_heap (Sep.block H hm), fun i x hx => by
    rw [Nat.zero_add]
    exact cell_of (Sep.block H hm) i (by simpa using hx)⟩⟩
/-- A block that is only read from now on. -/
theorem Sep.poolCell {b K n : Nat} {cs : List Value} {T : TypeId} {P : List PRow} {R : List Thing} (h : Sep w0 w (ThCell b (.cells cs.toArray T (0, 0)) :: ThPool P :: R) rows) (hl : cs.length = n * K) (hn : n ≤ 1000) : Sep w0 w (ThPool ((K, .slice (some ⟨b, 0, none⟩) n n, cs) :: P) :: R) rows := by
  obtain ⟨F, hL, hu, hr⟩ := h
  cases hL with
  | @cons _ D _ _ k1 k2 k3 =>
    refine Sep.poolRow (K := K) (v := .slice (some ⟨b, 0, none⟩) n n) (xs := cs) ⟨_, .cons (T := ThRow K _ _) ⟨_, n, n, rfl, hl, Nat.le_refl _, by unfold maxLen; omega, (fun h => by cases h), .inr ⟨b, 0, cs.toArray, T, rfl, k1.2, k1.1, by simp [hl], by simp [← hl]⟩⟩ k2 k3, hu, hr⟩
/-- A block that was just made is a row that is owned. -/
theorem Sep.cellRow {b K n : Nat} {cs : List Value} {T : TypeId} {R : List Thing} (h : Sep w0 w (ThCell b (.cells cs.toArray T (0, 0)) :: R) rows) (hl : cs.length = n * K) (hn : n ≤ 1000) : Sep w0 w (ThRow K (.slice (some ⟨b, 0, none⟩) n n) cs :: R) rows :=
  h.imp fun D hD => ⟨_, n, n, rfl, hl, Nat.le_refl _, by unfold maxLen; omega, (fun h => by cases h), .inr ⟨b, 0, cs.toArray, T, rfl, hD.2, hD.1, by simp [hl], by simp [← hl]⟩⟩
theorem src_row (H : Hid (Sep w0 w Ts rows)) {K by_ : Nat} {tx : TypeId} {va : Value} {ys : List Value} (hsl : SliceN P tx e K by_) (hm : ThRow K va ys ∈ Ts) (h1 : ∀ u ∈ ys, u.oneCell' = true) : ∃ n, ys.length = n * K ∧ Src P K tx va n ys w := by
  obtain ⟨D, hD⟩ := H.out.has hm
  obtain ⟨E, hE, -⟩ := OwnRow.read hD
  exact hE.src hsl.ut h1
/-- append of a row onto a slice that was just made. -/
theorem sx_appC (H : Hid (Sep w0 w Ts rows)) {K by_ n1 : Nat} {s x : Operand} {b : Nat} {cs ys : List Value} {T : TypeId} {av : Option Addr} {nv cv : Nat} (hsl : SliceN P t e K by_) (hs : a.eval s = .slice (some ⟨b, 0, none⟩) n1 n1) (hx : a.eval x = .slice av nv cv)
    (hr : Rem (ThCell b (.cells cs.toArray T (0, 0))) Ts Ts') (hm : ThRow K (.slice av nv cv) ys ∈ Ts') (hcs : cs.length = n1 * K) (hn1 : Nat.ble n1 1000 = true) (h1 : ∀ u ∈ ys, u.oneCell' = true) (hb : ∀ m, ys.length = m * K → (n1 + m) ≤ 140737488355328 ∧ (n1 + m) * by_ ≤ 140737488355328) (hK : 0 < K)
    (k : ∀ w' a' n' c', Hid (Sep w0 w' (ThRow K (.slice a' n' c') (cs ++ ys) :: Ts') rows) → wpList P ops Q rest (a.put dst (.slice a' n' c')) w') :
    wpList P ops Q (⟨dst, .call { callee := .builtin .append, args := #[s, x], argTypes := #[t, t] }, tyy, pos, aft, none⟩ :: rest) a w := by
  have h0 : Sep w0 w (ThRow K (.slice (some ⟨b, 0, none⟩) n1 n1) cs :: Ts') rows := (H.out.perm hr.perm).cellRow hcs (Nat.le_of_ble_eq_true hn1)
  obtain ⟨m, hm1, hsrc⟩ := src_row (Lib.hid h0) hsl (List.mem_cons_of_mem _ hm) h1
  refine sx_app (Lib.hid h0) hsl hs hx .here hsrc (fun n hn => ?_) k
  have : n = n1 := Nat.eq_of_mul_eq_mul_right hK (hn.symm.trans hcs)
  subst this
  exact hb m hm1
end
end Go.Av
