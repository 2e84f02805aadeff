/-
  A function that hands back a struct which it keeps in a variable of its own.
-/
import Derived.Test.YtjeaoopamebgjaaDoorPool
import Derived.Laws.ResultCell
import Derived.Laws.Rows
namespace Go.Av
open Go.RowKit
theorem results_cell1 {fn : Func} {p : Tmp} {ty : TypeId} (h : fn.results = #[.cell p ty]) (tmps : Array Value) (P : Program) (w : World) :
    (results fn tmps).run P w =
      ((asAddr (tmps.getD p undef)).run P w).andThen fun a w₁ => (loadVar ty a).run P w₁ := by
  simp only [results, h]
  simp [Sem.run_bind, Result.andThen]
theorem ret_cell {fn : Func} {p : Tmp} {ty : TypeId} (h : fn.results = #[.cell p ty]) (tmps : Array Value) {P : Program} {w : World} {b : Nat} {c : Array Value} {T : TypeId} {fs : Array Field}
    (hp : tmps.getD p undef = .pointer (some ⟨b, 0, none⟩)) (hb : w.heap[b]? = some (.cells c T (0, 0))) (hu : P.underlying ty = some (.struct fs)) (hi : (P.info? ty).map (·.size) = some c.size) :
    (results fn tmps).run P w = .ok (.agg c) w := by
  have := run_loadVar_row (P := P) w b T ty c (0, 0) (.struct fs) hb hu rfl hi
  have e : (asAddr (tmps.getD p undef)).run P w = .ok ⟨b, 0, none⟩ w := by rw [hp]; rfl
  rw [results_cell1 h, e]
  simp only [Result.andThen, this]
theorem ret_cell2 {fn : Func} {p u : Tmp} {ty : TypeId} (h : fn.results = #[.cell p ty, .tmp u]) (tmps : Array Value) {P : Program} {w : World} {b : Nat} {c : Array Value} {T : TypeId} {fs : Array Field}
    (hp : tmps.getD p undef = .pointer (some ⟨b, 0, none⟩)) (hb : w.heap[b]? = some (.cells c T (0, 0))) (hu : P.underlying ty = some (.struct fs)) (hi : (P.info? ty).map (·.size) = some c.size) :
    (results fn tmps).run P w = .ok (.tuple #[.agg c, tmps.getD u undef]) w := by
  have := run_loadVar_row (P := P) w b T ty c (0, 0) (.struct fs) hb hu rfl hi
  have e : (asAddr (tmps.getD p undef)).run P w = .ok ⟨b, 0, none⟩ w := by rw [hp]; rfl
  rw [results_cell_tmp h, e]
  simp only [Result.andThen, this]
/-- A block's cells are all written. -/
theorem Sep.setAll {w0 w : World} {R : List Thing} {rows : List (Value × Bs)} {b : Nat} {cs : Array Value} {T : TypeId} (h : Sep w0 w (ThCell b (.cells cs T (0, 0)) :: R) rows) (vs : List Value) (hl : vs.length = cs.size) :
    Sep w0 (w.setCells b 0 vs) (ThCell b (.cells vs.toArray T (0, 0)) :: R) rows := by
  obtain ⟨D, hP, _, back⟩ := h.use
  obtain ⟨hb, rfl⟩ := hP
  obtain ⟨h1, h2, h3⟩ := rest_setCells b vs 0 w
  refine back _ [b] (ThCell b (.cells vs.toArray T (0, 0))) ⟨h1, h2, h3, by rw [size_setCells]; exact Nat.le_refl _, fun k _ hn => heap_setCells_other b k (fun e => hn (by simp [e])) vs 0 w, fun k hk => .inl hk⟩ ⟨?_, rfl⟩
  rw [heap_setCells_same b T vs 0 w cs hb (by omega)]
  simp [hl]
end Go.Av
