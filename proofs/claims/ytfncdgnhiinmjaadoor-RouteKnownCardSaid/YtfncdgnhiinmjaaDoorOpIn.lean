/-
  A slice of Ops, opened.
-/
import Derived.Test.YtfncdgnhiinmjaaDoorMvIn
namespace Go.Av
open Go.RowKit
structure OpS where
  kind : Int
  path : ByteArray
  data : ByteArray
  ver : Int
  flags : Int
instance : Inhabited OpS := ⟨⟨0, ⟨#[]⟩, ⟨#[]⟩, 0, 0⟩⟩
/-- What the walk is told of a slice of Ops. -/
def IsOps (w : World) (a : Option Addr) (len cap : Nat) (l : List OpS) : Prop :=
  l.length = len ∧ len ≤ cap ∧ cap ≤ maxLen ∧ (a = none → cap = 0) ∧
    (∀ x, a = some x → ∀ i, (h : i < l.length) → w.cell? (x.add (i * 5)) = some (.int .i64 l[i].kind) ∧ w.cell? (x.add (i * 5 + 1)) = some (.string l[i].path) ∧ w.cell? (x.add (i * 5 + 2)) = some (.string l[i].data) ∧
      w.cell? (x.add (i * 5 + 3)) = some (.int .i64 l[i].ver) ∧ w.cell? (x.add (i * 5 + 4)) = some (.int .i64 l[i].flags)) ∧ ∀ c ∈ l, c.path.size ≤ maxLen ∧ c.data.size ≤ maxLen
theorem IsOps.below {w w' : World} {a : Option Addr} {len cap : Nat} {l : List OpS} (h : IsOps w a len cap l) (hb : Below w.heap.size w w') : IsOps w' a len cap l := by
  obtain ⟨h1, h2, h3, h4, h5, h6⟩ := h
  have up : ∀ {x : Addr} {v : Value}, w.cell? x = some v → w'.cell? x = some v := fun hv => (hb.cell (World.block_lt_of_cell? w _ hv)).trans hv
  refine ⟨h1, h2, h3, h4, fun x hx i hi => ?_, h6⟩
  obtain ⟨g0, g1, g2, g3, g4⟩ := h5 x hx i hi
  exact ⟨up g0, up g1, up g2, up g3, up g4⟩
/-- One of them, its cells where the walk looks for them. -/
theorem IsOps.at {w : World} {a : Option Addr} {len cap : Nat} {l : List OpS} (h : IsOps w a len cap l) {i : Nat} (hi : i < l.length) : ∃ x, a = some x ∧ w.cell? (x.add (i * 5)) = some (.int .i64 l[i].kind) ∧
    w.cell? ⟨(x.add (i * 5)).block, (x.add (i * 5)).off + 1, none⟩ = some (.string l[i].path) ∧ w.cell? ⟨(x.add (i * 5)).block, (x.add (i * 5)).off + 2, none⟩ = some (.string l[i].data) ∧
    w.cell? ⟨(x.add (i * 5)).block, (x.add (i * 5)).off + 3, none⟩ = some (.int .i64 l[i].ver) ∧ w.cell? ⟨(x.add (i * 5)).block, (x.add (i * 5)).off + 4, none⟩ = some (.int .i64 l[i].flags) ∧ l[i].path.size ≤ maxLen ∧ l[i].data.size ≤ maxLen := by
  obtain ⟨h1, h2, h3, h4, h5, h6⟩ := h
  cases a with
  | none => have := h4 rfl; omega
  | some x =>
    obtain ⟨g0, g1, g2, g3, g4⟩ := h5 x rfl i hi
    rw [add_field g0 1] at g1
    rw [add_field g0 2] at g2
    rw [add_field g0 3] at g3
    rw [add_field g0 4] at g4
    exact ⟨x, rfl, g0, g1, g2, g3, g4, h6 _ (List.getElem_mem hi)⟩
end Go.Av
namespace Go.Proofs.YtfncdgnhiinmjaaDoor
open Go.RowKit Go.Av Go.ChangeShapes Go.WideShapes
theorem opCells : Tryd.prog.cellsOf 43 = 5 ∧ Tryd.prog.cellsOf 3 = 1 ∧ Tryd.prog.cellsOf 9 = 1 := by
  refine ⟨?_, ?_, ?_⟩ <;> kernel_rfl
set_option maxRecDepth 100000 in
theorem ops_of {H : Type} {enc : TypeId × Value → H} {w : World} {base : Nat} {held : Bool} {fuel : Nat} {a : Option Addr} {len cap : Nat} {x : DataW H × List MemPlace}
    (h : DataW.trod enc Tryd.prog w base (fun _ => true) held fuel 34 [.slice a len cap] = some x) : ∃ l, IsOps w a len cap l := by
  obtain ⟨c1, c2, c3⟩ := opCells
  rcases Deep.open_slice Tryd.underlying34 h with ⟨hcs, _⟩ | ⟨x, l, c, m, n, D, Pl, hcs, hb, hl, hm, hmm, hx, hi⟩
  · cases hcs
    exact ⟨[], rfl, Nat.le_refl _, by decide, fun _ => rfl, by simp, by simp⟩
  · cases hcs
    rw [c1] at hi
    have each : ∀ i, i < len → ∃ q : OpS, (w.cell? (x.add (i * 5)) = some (.int .i64 q.kind) ∧ w.cell? (x.add (i * 5 + 1)) = some (.string q.path) ∧ w.cell? (x.add (i * 5 + 2)) = some (.string q.data) ∧
        w.cell? (x.add (i * 5 + 3)) = some (.int .i64 q.ver) ∧ w.cell? (x.add (i * 5 + 4)) = some (.int .i64 q.flags)) ∧ q.path.size ≤ maxLen ∧ q.data.size ≤ maxLen := by
      intro i hil
      obtain ⟨cs', hc, ht⟩ := hi i (by rw [hmm]; split <;> omega)
      obtain ⟨_, hcl, hat⟩ := World.cells?_some hc
      obtain ⟨ys, n', -, -, -, hyl, hf⟩ := DataW.trod_struct Tryd.underlying43 ht
      match cs', hcl with
      | [k0, k1, k2, k3, k4], _ =>
        have f0 : DataW.trod enc Tryd.prog w base (fun _ => true) held n' 3 (List.take (Tryd.prog.cellsOf 3) (List.drop 0 [k0, k1, k2, k3, k4])) = ys[0]? := hf 0 _ rfl
        have f1 : DataW.trod enc Tryd.prog w base (fun _ => true) held n' 9 (List.take (Tryd.prog.cellsOf 9) (List.drop 1 [k0, k1, k2, k3, k4])) = ys[1]? := hf 1 _ rfl
        have f2 : DataW.trod enc Tryd.prog w base (fun _ => true) held n' 9 (List.take (Tryd.prog.cellsOf 9) (List.drop 2 [k0, k1, k2, k3, k4])) = ys[2]? := hf 2 _ rfl
        have f3 : DataW.trod enc Tryd.prog w base (fun _ => true) held n' 3 (List.take (Tryd.prog.cellsOf 3) (List.drop 3 [k0, k1, k2, k3, k4])) = ys[3]? := hf 3 _ rfl
        have f4 : DataW.trod enc Tryd.prog w base (fun _ => true) held n' 3 (List.take (Tryd.prog.cellsOf 3) (List.drop 4 [k0, k1, k2, k3, k4])) = ys[4]? := hf 4 _ rfl
        rw [c2] at f0 f3 f4
        rw [c3] at f1 f2
        have hy : ∀ j, j < 5 → ∃ y, ys[j]? = some y := fun j hj => ⟨ys[j]'(by rw [hyl]; exact hj), List.getElem?_eq_getElem _⟩
        obtain ⟨y0, e0⟩ := hy 0 (by omega)
        obtain ⟨y1, e1⟩ := hy 1 (by omega)
        obtain ⟨y2, e2⟩ := hy 2 (by omega)
        obtain ⟨y3, e3⟩ := hy 3 (by omega)
        obtain ⟨y4, e4⟩ := hy 4 (by omega)
        obtain ⟨n0, g0, -, -⟩ := DataW.trod_int Tryd.underlying3 (f0.trans e0)
        obtain ⟨n1, g1, -, w1⟩ := DataW.trod_string Tryd.underlying9 (f1.trans e1)
        obtain ⟨n2, g2, -, w2⟩ := DataW.trod_string Tryd.underlying9 (f2.trans e2)
        obtain ⟨n3, g3, -, -⟩ := DataW.trod_int Tryd.underlying3 (f3.trans e3)
        obtain ⟨n4, g4, -, -⟩ := DataW.trod_int Tryd.underlying3 (f4.trans e4)
        simp at g0 g1 g2 g3 g4
        subst g0 g1 g2 g3 g4
        refine ⟨⟨n0, n1, n2, n3, n4⟩, ⟨?_, ?_, ?_, ?_, ?_⟩, w1, w2⟩
        · have := hat 0 (by omega); rw [add_twice] at this; exact this
        · have := hat 1 (by omega); rw [add_twice] at this; exact this
        · have := hat 2 (by omega); rw [add_twice] at this; exact this
        · have := hat 3 (by omega); rw [add_twice] at this; exact this
        · have := hat 4 (by omega); rw [add_twice] at this; exact this
    obtain ⟨y, hy⟩ := Deep.choose_lt each
    refine ⟨(List.range len).map y, by simp, hl, hm, by simp, ?_, ?_⟩
    · intro x' hx' i hi'
      cases hx'
      simp at hi'
      simpa using (hy i hi').1
    · intro q hq
      obtain ⟨i, hi', rfl⟩ := List.mem_map.1 hq
      exact (hy i (List.mem_range.1 hi')).2
end Go.Proofs.YtfncdgnhiinmjaaDoor
