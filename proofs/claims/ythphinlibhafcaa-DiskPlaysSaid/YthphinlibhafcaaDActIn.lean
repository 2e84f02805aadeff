/-
  Inputs of layer 7: a slice of acts, opened.
-/
import Derived.Test.YthphinlibhafcaaFdP
import Derived.Test.YthphinlibhafcaaInputs
import Derived.Deep.Matrix
import Derived.Deep.Slices
import Derived.ChangeSame
namespace Go.Proofs.Ythphinlibhafcaa
open Go.RowKit Go.Av Go.ChangeShapes Go.WideShapes

structure DActS where
  op : Int
  n : Int
  s : ByteArray
  t : ByteArray
  vb : Value
  b : Bs

instance : Inhabited DActS := ⟨⟨0, 0, ⟨#[]⟩, ⟨#[]⟩, .bool false, []⟩⟩

/-- What the walk is told of a slice of acts. -/
def IsDActs (w : World) (a : Option Addr) (len cap : Nat) (acts : List DActS) : Prop :=
  acts.length = len ∧ len ≤ cap ∧ cap ≤ maxLen ∧ (a = none → cap = 0) ∧
    (∀ x, a = some x → ∀ i, (h : i < acts.length) → w.cell? (x.add (i * 5)) = some (.int .i64 acts[i].op) ∧ w.cell? (x.add (i * 5 + 1)) = some (.int .i64 acts[i].n) ∧ w.cell? (x.add (i * 5 + 2)) = some (.string acts[i].s) ∧
      w.cell? (x.add (i * 5 + 3)) = some (.string acts[i].t) ∧ w.cell? (x.add (i * 5 + 4)) = some acts[i].vb) ∧
    ∀ c ∈ acts, c.s.size ≤ maxLen ∧ c.t.size ≤ maxLen ∧ ∃ E, ReadRow w 1 c.vb (c.b.map bv) E

theorem dactCells : Try.prog.cellsOf 49 = 5 ∧ Try.prog.cellsOf 3 = 1 ∧ Try.prog.cellsOf 9 = 1 ∧ Try.prog.cellsOf 28 = 1 := by
  refine ⟨?_, ?_, ?_, ?_⟩ <;> kernel_rfl
theorem add_twice (x : Addr) (i j : Nat) : (x.add i).add j = x.add (i + j) := (Go.Deep.add_add x i j).symm ▸ rfl

theorem bytes_of {H : Type} {enc : TypeId × Value → H} {w : World} {base : Nat} {held : Bool} {fuel : Nat} {c : Value} {x : DataW H × List MemPlace} (h : DataW.trod enc Try.prog w base (fun _ => true) held fuel 28 [c] = some x) :
    ∃ (l : Bs) (E : List Nat), ReadRow w 1 c (l.map bv) E := by
  rcases open_ints Try.underlying28 Try.underlying5 (by kernel_rfl) h with ⟨hcs, _⟩ | ⟨x, l, c, zs, hcs, _, hl, hm, hz, _, hcell, hwz⟩
  · cases hcs
    exact ⟨[], [], none, 0, 0, rfl, by simp, Nat.le_refl _, by decide, fun _ => rfl, .inl ⟨by simp, rfl⟩⟩
  · cases hcs
    obtain ⟨l', E, _, hr⟩ := IsBytes.read (w := w) (a := some x) (len := l) (cap := c) (zs := zs) (.inr ⟨x, rfl, hl, hm, by simpa using hz, hcell, hwz⟩)
    exact ⟨l', E, hr⟩

set_option maxRecDepth 100000 in
theorem dacts_of {H : Type} {enc : TypeId × Value → H} {w : World} {base : Nat} {held : Bool} {fuel : Nat} {a : Option Addr} {len cap : Nat} {x : DataW H × List MemPlace}
    (h : DataW.trod enc Try.prog w base (fun _ => true) held fuel 43 [.slice a len cap] = some x) : ∃ acts, IsDActs w a len cap acts := by
  obtain ⟨c1, c2, c3, c4⟩ := dactCells
  rcases Deep.open_slice Try.underlying43 h with ⟨hcs, _⟩ | ⟨x, l, c, m, n, D, Pl, hcs, hb, hl, hm, hmm, hx, hi⟩
  · cases hcs
    exact ⟨[], rfl, Nat.le_refl _, by decide, fun _ => rfl, by simp, by simp⟩
  · cases hcs
    rw [c1] at hi
    have each : ∀ i, i < len → ∃ q : DActS, (w.cell? (x.add (i * 5)) = some (.int .i64 q.op) ∧ w.cell? (x.add (i * 5 + 1)) = some (.int .i64 q.n) ∧ w.cell? (x.add (i * 5 + 2)) = some (.string q.s) ∧
        w.cell? (x.add (i * 5 + 3)) = some (.string q.t) ∧ w.cell? (x.add (i * 5 + 4)) = some q.vb) ∧ q.s.size ≤ maxLen ∧ q.t.size ≤ maxLen ∧ ∃ E, ReadRow w 1 q.vb (q.b.map bv) E := by
      intro i hil
      obtain ⟨cs', hc, ht⟩ := hi i (by rw [hmm]; split <;> omega)
      obtain ⟨_, hcl, hat⟩ := World.cells?_some hc
      obtain ⟨ys, n', -, -, -, hyl, hf⟩ := DataW.trod_struct Try.underlying49 ht
      match cs', hcl with
      | [k0, k1, k2, k3, k4], _ =>
        have f0 : DataW.trod enc Try.prog w base (fun _ => true) held n' 3 (List.take (Try.prog.cellsOf 3) (List.drop 0 [k0, k1, k2, k3, k4])) = ys[0]? := hf 0 _ rfl
        have f1 : DataW.trod enc Try.prog w base (fun _ => true) held n' 3 (List.take (Try.prog.cellsOf 3) (List.drop 1 [k0, k1, k2, k3, k4])) = ys[1]? := hf 1 _ rfl
        have f2 : DataW.trod enc Try.prog w base (fun _ => true) held n' 9 (List.take (Try.prog.cellsOf 9) (List.drop 2 [k0, k1, k2, k3, k4])) = ys[2]? := hf 2 _ rfl
        have f3 : DataW.trod enc Try.prog w base (fun _ => true) held n' 9 (List.take (Try.prog.cellsOf 9) (List.drop 3 [k0, k1, k2, k3, k4])) = ys[3]? := hf 3 _ rfl
        have f4 : DataW.trod enc Try.prog w base (fun _ => true) held n' 28 (List.take (Try.prog.cellsOf 28) (List.drop 4 [k0, k1, k2, k3, k4])) = ys[4]? := hf 4 _ rfl
        rw [c2] at f0 f1
        rw [c3] at f2 f3
        rw [c4] at f4
        have hy : ∀ j, j < 5 → ∃ y, ys[j]? = some y := fun j hj => ⟨ys[j]'(by rw [hyl]; exact hj), List.getElem?_eq_getElem _⟩
        obtain ⟨y0, e0⟩ := hy 0 (by omega)
        obtain ⟨y1, e1⟩ := hy 1 (by omega)
        obtain ⟨y2, e2⟩ := hy 2 (by omega)
        obtain ⟨y3, e3⟩ := hy 3 (by omega)
        obtain ⟨y4, e4⟩ := hy 4 (by omega)
        obtain ⟨n0, g0, -, -⟩ := DataW.trod_int Try.underlying3 (f0.trans e0)
        obtain ⟨n1, g1, -, -⟩ := DataW.trod_int Try.underlying3 (f1.trans e1)
        obtain ⟨n2, g2, -, w2⟩ := DataW.trod_string Try.underlying9 (f2.trans e2)
        obtain ⟨n3, g3, -, w3⟩ := DataW.trod_string Try.underlying9 (f3.trans e3)
        obtain ⟨l4, E4, r4⟩ := bytes_of (c := k4) (f4.trans e4)
        simp at g0 g1 g2 g3
        subst g0 g1 g2 g3
        refine ⟨⟨n0, n1, n2, n3, k4, l4⟩, ⟨?_, ?_, ?_, ?_, ?_⟩, w2, w3, E4, r4⟩
        · have := hat 0 (by omega); rw [add_twice] at this; exact this
        · have := hat 1 (by omega); rw [add_twice] at this; exact this
        · have := hat 2 (by omega); rw [add_twice] at this; exact this
        · have := hat 3 (by omega); rw [add_twice] at this; exact this
        · have := hat 4 (by omega); rw [add_twice] at this; exact this
    obtain ⟨y, hy⟩ := Deep.choose_lt each
    refine ⟨(List.range len).map y, by simp, hl, hm, by simp, ?_, ?_⟩
    · intro x' hx' i hi'
      cases hx'
      simp at hi'
      simpa using (hy i hi').1
    · intro q hq
      obtain ⟨i, hi', rfl⟩ := List.mem_map.1 hq
      exact (hy i (List.mem_range.1 hi')).2
end Go.Proofs.Ythphinlibhafcaa
