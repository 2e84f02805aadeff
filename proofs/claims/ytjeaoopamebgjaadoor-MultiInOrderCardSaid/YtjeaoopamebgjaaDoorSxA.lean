/-
  The walk by things: slices made, read, appended to.
-/
import Derived.Test.YtjeaoopamebgjaaDoorSx
import Derived.Test.YtjeaoopamebgjaaDoorFlatG
import Derived.Great.Walk
namespace Go.Av
open Go.RowKit
/-- A thing out of a list. -/
inductive Rem (T : Thing) : List Thing → List Thing → Prop
  | here {R : List Thing} : Rem T (T :: R) R
  | there {U : Thing} {R R' : List Thing} : Rem T R R' → Rem T (U :: R) (U :: R')
theorem Rem.perm {T : Thing} {A B : List Thing} (h : Rem T A B) : A.Perm (T :: B) := by
  induction h with
  | here => exact .refl _
  | there _ ih => exact (ih.cons _).trans (.swap _ _ _)
section
variable {w0 w : World} {R Ts : List Thing} {rows : List (Value × Bs)} {P : Program}
/-- A new row of the pool's, which others made. -/
theorem Sep.poolRead {K : Nat} {v : Value} {xs : List Value} {w' : World} {E : List Nat} {Q : List PRow} (h : Sep w0 w (ThPool Q :: R) rows) (hr : ReadRow w' K v xs E) (hE : ∀ b ∈ E, w.heap.size ≤ b) (hu : Upd w w' [] []) : Sep w0 w' (ThPool ((K, v, xs) :: Q) :: R) rows := by
  obtain ⟨D, hP, _, back⟩ := h.use
  refine back w' (E ++ D) (ThPool ((K, v, xs) :: Q)) ?_ ⟨fun b hb => ?_, fun r hr' => ?_⟩
  · refine ⟨hu.os, hu.tape, hu.output, hu.size, fun b hb hn => hu.keep b hb (by simp), fun b hb => ?_⟩
    · rcases List.mem_append.1 hb with hb | hb
      · exact .inr ⟨hE b hb, hr.lt b hb⟩
      · exact .inl hb
  · rcases List.mem_append.1 hb with hb | hb
    · exact hr.lt b hb
    · exact Nat.lt_of_lt_of_le (hP.1 b hb) hu.size
  · rcases List.mem_cons.1 hr' with rfl | hr'
    · exact ⟨E, hr, fun b hb => by simp [hb]⟩
    · obtain ⟨F, h1, h2⟩ := hP.2 r hr'
      exact ⟨F, h1.frame (hu.same h1.lt (by simp)), fun b hb => by simp [h2 b hb]⟩
theorem row_load {α : Type} {f : α → List Value} {K n c off g i : Nat} {l : List α} {E : List Nat} {ty : TypeId} (h : ReadRow w K (.slice (some ⟨g, off, none⟩) n c) (l.flatMap f) E) (hf : ∀ x, (f x).length = K) (hs : StructN P ty K) (hi : i < l.length) :
    (Instr.loadAt ty (.pointer (some ⟨g, off + i * K, none⟩))).run P w = .ok (.agg (f l[i]).toArray) w := by
  obtain ⟨a', n', c', hv, hl, hn, hc, ha, hr⟩ := h
  cases hv
  have h1 := hs.1
  unfold structB at h1
  rw [Bool.and_eq_true] at h1
  obtain ⟨h1, h2⟩ := h1
  cases hi0 : P.info? ty with
  | none => simp [hi0] at h2
  | some ii =>
    simp only [hi0, beq_iff_eq] at h2
    cases hu : P.underlying ty with
    | none => simp [hu] at h1
    | some d =>
      refine run_loadAt_mid w g (off + i * K) ty _ d (fun j v hv => ?_) hu (by rw [hu] at h1; cases d <;> simp_all) (by rw [hi0, hf]; simpa using h2)
      have hj : j < K := by rw [← hf l[i]]; exact (List.getElem?_eq_some_iff.1 hv).1
      have hq := flatG_at hf l hi hj
      rw [hv] at hq
      rcases hr with ⟨h0, _⟩ | ⟨g', off', e, rfl, hlt, hcell⟩
      · rw [h0] at hq; cases hq
      · injection e with e
        injection e with e1 e2
        subst e1 e2
        rw [Nat.add_assoc]
        exact hcell _ _ hq
theorem row_load1 {n c off g i : Nat} {xs : List Value} {v : Value} {E : List Nat} {ty : TypeId} (h : ReadRow w 1 (.slice (some ⟨g, off, none⟩) n c) xs E) (hs : scalarB P ty = true) (hv : xs[i]? = some v) :
    (Instr.loadAt ty (.pointer (some ⟨g, off + i, none⟩))).run P w = .ok v w := by
  obtain ⟨a', n', c', e, hl, hn, hc, ha, hr⟩ := h
  cases e
  rcases hr with ⟨rfl, _⟩ | ⟨g', off', e, rfl, hlt, hcell⟩
  · cases hv
  · injection e with e
    injection e with e1 e2
    subst e1 e2
    exact run_load_scalar hs (hcell i v hv)
/-- A row that is not empty lies somewhere. -/
theorem ReadRow.some {K : Nat} {v : Value} {xs : List Value} {E : List Nat} (h : ReadRow w K v xs E) : ∃ a n c, v = .slice a n c ∧ xs.length = n * K ∧ n ≤ c ∧ c ≤ maxLen ∧ (xs ≠ [] → ∃ g off, a = some ⟨g, off, none⟩) := by
  obtain ⟨a, n, c, hv, hl, hn, hc, ha, hr⟩ := h
  refine ⟨a, n, c, hv, hl, hn, hc, fun hne => ?_⟩
  rcases hr with ⟨h0, _⟩ | ⟨g, off, e, _⟩
  · exact absurd h0 hne
  · exact ⟨g, off, e⟩
end
section
variable {P : Program} {ops : Array Oper} {Q : Exit → Act → World → Prop} {a : Act} {w w0 : World} {rest : List Oper} {Ts Ts' : List Thing} {rows : List (Value × Bs)}
  {dst : Option Tmp} {ty tyy t e : TypeId} {x y s : Operand} {pos : String} {aft : Array Edge} {g : Option (Nat × Bool)} {b i : Nat} {cs : Array Value} {T : TypeId} {v p : Value}
theorem sx_loadAt (hr : (Instr.loadAt ty p).run P w = .ok v w) (hx : a.eval x = p) (hw : Region.wanted ⟨dst, .load ty x, tyy, pos, aft, g⟩ (yielded ops a.tmps) = true) (k : wpList P ops Q rest (a.put dst v) w) : wpList P ops Q (⟨dst, .load ty x, tyy, pos, aft, g⟩ :: rest) a w := by
  refine wpList_ran hw ?_ k
  unfold execOp
  dsimp only
  rw [hx]
  exact run_val hr
/-- What the element type of a slice is. -/
structure SliceN (P : Program) (t e : TypeId) (K by_ : Nat) : Prop where
  ut : P.underlying t = some (.slice e)
  info : ∃ i z, P.info? e = some i ∧ i.zero = some z ∧ i.size = K ∧ z.cells.size = K ∧ i.bytes = by_
def sliceB (P : Program) (e : TypeId) (K by_ : Nat) : Bool := match P.info? e with
  | some i => (match i.zero with | some z => z.cells.size == K | none => false) && (i.size == K && i.bytes == by_)
  | none => false
theorem SliceN.of {P : Program} {t e : TypeId} {K by_ : Nat} (ut : P.underlying t = some (.slice e)) (h : sliceB P e K by_ = true) : SliceN P t e K by_ := by
  refine ⟨ut, ?_⟩
  unfold sliceB at h
  cases hi : P.info? e with
  | none => simp [hi] at h
  | some i =>
    cases hz : i.zero with
    | none => simp [hi, hz] at h
    | some z =>
      simp only [hi, hz, Bool.and_eq_true, beq_iff_eq] at h
      exact ⟨i, z, rfl, hz, h.2.1, h.1, h.2.2⟩
theorem fold_fill : ∀ (l : List Value) (k : Nat) (cs : Array Value), k + l.length ≤ cs.size → ((l.zipIdx k).foldl (fun cs (q : Value × Nat) => cs.setIfInBounds q.2 q.1) cs) = setMany cs k l
  | [], _, _, _ => rfl
  | v :: l, k, cs, h => by
    simp only [List.length_cons] at h
    rw [List.zipIdx_cons, List.foldl_cons, fold_fill l (k + 1) _ (by simp; omega)]
    rfl
theorem fill_one {K : Nat} {cells : Array Value} {v : Value} (hc : cells.size = K) (hv : v.cells.size = K) : Instr.fill (fun i => some (i * K, K)) cells [(0, v)] = some v.cells := by
  unfold Instr.fill
  simp only [Nat.zero_mul, Nat.zero_add]
  rw [if_neg (by simp [hv, hc])]
  unfold Instr.fill
  congr 1
  rw [← Array.foldl_toList, Array.toList_zipIdx]
  have := fold_fill v.cells.toList 0 cells (by simp [hv, hc])
  rw [this, setMany_eq _ _ _ (by simp [hv, hc])]
  have h0 : cells.toList.drop K = [] := List.drop_of_length_le (by simp [hc])
  simp [hv, h0]
theorem sx_one (H : Hid (Sep w0 w Ts rows)) {K by_ : Nat} (hsl : SliceN P t e K by_) (hK : Nat.blt 0 K = true ∧ Nat.ble K 1000 = true) (hy : a.eval y = v) (hvc : v.cells = cs) (hcs : cs.size = K)
    (k : ∀ w' b, Hid (Sep w0 w' (ThCell b (.cells cs e (0, 0)) :: Ts) rows) → wpList P ops Q rest (a.put dst (.slice (some ⟨b, 0, none⟩) 1 1)) w') : wpList P ops Q (⟨dst, .buildSlice t 1 #[(0, y)], tyy, pos, aft, none⟩ :: rest) a w := by
  obtain ⟨ii, z, hi, hz, hsz, hzs, -⟩ := hsl.info
  have h1 : 0 < K := by have := hK.1; simpa using this
  have h2 : K ≤ 1000 := Nat.le_of_ble_eq_true hK.2
  refine Go.Great.wpList_buildSliceTo rfl t e 1 #[(0, y)] rfl w.heap.size rfl dst rfl hsl.ut cs ?_ (k _ _ (Lib.hid (H.out.newCell _)))
  unfold Program.builtSlice
  simp only [hi, hz, hsz, Nat.one_mul]
  rw [if_neg (by omega)]
  have := fill_one (K := K) (cells := (Array.range K).map (z.cells[· % z.cells.size]!)) (v := v) (by simp) (by rw [hvc, hcs])
  rw [hvc] at this
  rw [← this]
  simp [hy]
theorem src_cell (H : Hid (Sep w0 w Ts rows)) {K by_ : Nat} {tx : TypeId} (hsl : SliceN P tx e K by_) (hm : ThCell b (.cells cs T (0, 0)) ∈ Ts) (hcs : cs.size = K) (h1 : cs.toList.all (·.oneCell') = true) : Src P K tx (.slice (some ⟨b, 0, none⟩) 1 1) 1 cs.toList w := by
  refine Src.ofSlice _ hsl.ut _ 1 1 cs.toList (by simp [hcs]) (fun j u hu => ?_) (fun u hu => List.all_eq_true.1 h1 u hu)
  rw [Addr.add_lit, Nat.zero_add]
  exact cell_of (Sep.block H hm) j (by simpa using hu)
theorem sx_oneS (H : Hid (Sep w0 w Ts rows)) {K by_ : Nat} (hsl : SliceN P t e K by_) (hK : Nat.blt 0 K = true ∧ Nat.ble K 1000 = true) (hy : a.eval y = .agg cs) (hcs : cs.size = K)
    (k : ∀ w' b, Hid (Sep w0 w' (ThCell b (.cells cs e (0, 0)) :: Ts) rows) → wpList P ops Q rest (a.put dst (.slice (some ⟨b, 0, none⟩) 1 1)) w') : wpList P ops Q (⟨dst, .buildSlice t 1 #[(0, y)], tyy, pos, aft, none⟩ :: rest) a w := sx_one H hsl hK hy rfl hcs k
theorem sx_one1 (H : Hid (Sep w0 w Ts rows)) {by_ : Nat} (hsl : SliceN P t e 1 by_) (hy : a.eval y = v) (hc : v.cells = #[v])
    (k : ∀ w' b, Hid (Sep w0 w' (ThCell b (.cells #[v] e (0, 0)) :: Ts) rows) → wpList P ops Q rest (a.put dst (.slice (some ⟨b, 0, none⟩) 1 1)) w') : wpList P ops Q (⟨dst, .buildSlice t 1 #[(0, y)], tyy, pos, aft, none⟩ :: rest) a w := sx_one H hsl ⟨rfl, rfl⟩ hy hc rfl k
/-- append onto a row that is owned; the new row is laid ahead of all. -/
theorem sx_app (H : Hid (Sep w0 w Ts rows)) {K by_ : Nat} {tx : TypeId} {xs news : List Value} {xv : Value} {m : Nat} {av : Option Addr} {nv cv : Nat} (hsl : SliceN P t e K by_) (hs : a.eval s = .slice av nv cv) (hx : a.eval x = xv) (hr : Rem (ThRow K (.slice av nv cv) xs) Ts Ts') (hsrc : Src P K tx xv m news w)
    (hb : ∀ n, xs.length = n * K → (n + m) ≤ 140737488355328 ∧ (n + m) * by_ ≤ 140737488355328)
    (k : ∀ w' a' n' c', Hid (Sep w0 w' (ThRow K (.slice a' n' c') (xs ++ news) :: Ts') rows) → wpList P ops Q rest (a.put dst (.slice a' n' c')) w') :
    wpList P ops Q (⟨dst, .call { callee := .builtin .append, args := #[s, x], argTypes := #[t, tx] }, tyy, pos, aft, none⟩ :: rest) a w := by
  obtain ⟨ii, z, hi, hz, hsz, hzs, hby⟩ := hsl.info
  have h0 : Sep w0 w (ThRow K (.slice av nv cv) xs :: Ts') rows := H.out.perm hr.perm
  obtain ⟨D, hP, _, back⟩ := h0.use
  refine wpList_app rfl s x t tx rfl K (.slice av nv cv) xs D hs hP e ii z hsl.ut hi hz hsz hzs xv m news hx hsrc (by rw [hby]; exact hb) (fun a' n' c' w' D' ho hu => k w' a' n' c' (Lib.hid (back w' D' (ThRow K (.slice a' n' c') (xs ++ news)) hu ho)))
/-- append of one element that was just made. -/
theorem sx_app1 (H : Hid (Sep w0 w Ts rows)) {K by_ : Nat} {xs : List Value} {av : Option Addr} {nv cv : Nat} (hsl : SliceN P t e K by_) (hs : a.eval s = .slice av nv cv) (hx : a.eval x = .slice (some ⟨b, 0, none⟩) 1 1) (hr : Rem (ThRow K (.slice av nv cv) xs) Ts Ts') (hm : ThCell b (.cells cs T (0, 0)) ∈ Ts)
    (hcs : cs.size = K) (h1 : cs.toList.all (·.oneCell') = true) (hb : ∀ n, xs.length = n * K → (n + 1) ≤ 140737488355328 ∧ (n + 1) * by_ ≤ 140737488355328)
    (k : ∀ w' a' n' c', Hid (Sep w0 w' (ThRow K (.slice a' n' c') (xs ++ cs.toList) :: Ts') rows) → wpList P ops Q rest (a.put dst (.slice a' n' c')) w') :
    wpList P ops Q (⟨dst, .call { callee := .builtin .append, args := #[s, x], argTypes := #[t, t] }, tyy, pos, aft, none⟩ :: rest) a w :=
  sx_app H hsl hs hx hr (src_cell H hsl hm hcs h1) hb k
end
section
variable {P : Program} {fn : Func} {R : Ending → World → Prop} {w w0 : World} {tmps : Array Value} {Ts : List Thing} {rows : List (Value × Bs)}
theorem sx_ret2 {p u : Tmp} {ty : TypeId} {b : Nat} {cs : Array Value} {T : TypeId} (H : Hid (Sep w0 w Ts rows)) (hr : fn.results = #[.cell p ty, .tmp u]) (hp : tmps.getD p undef = .pointer (some ⟨b, 0, none⟩)) (hm : ThCell b (.cells cs T (0, 0)) ∈ Ts)
    (hs : structB P ty cs.size = true) (k : R (.returned (.tuple #[.agg cs, tmps.getD u undef])) w) : bodyPost P fn R .ret ⟨tmps, []⟩ w := by
  refine bodyPost_ret (v := .tuple #[.agg cs, tmps.getD u undef]) ?_ rfl k
  have e : (asAddr (tmps.getD p undef)).run P w = .ok ⟨b, 0, none⟩ w := by rw [hp]; rfl
  rw [results_cell_tmp hr, e]
  simp only [Result.andThen]
  have := run_load_struct (i := 0) hs (Sep.block H hm) (by omega)
  simp only [Instr.loadAt, Instr.sureAddr, Sem.run_bind, Sem.run_pure, Result.andThen_ok] at this
  simp only [List.drop_zero] at this
  rw [List.take_of_length_le (by simp), Array.toArray_toList] at this
  rw [this]
end
end Go.Av
