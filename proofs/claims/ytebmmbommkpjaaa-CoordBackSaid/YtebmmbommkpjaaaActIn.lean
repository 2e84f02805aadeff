/-
  Inputs of layer 20: a slice of acts, opened.
-/
import Derived.Test.YtebmmbommkpjaaaCoordOwesW
import Derived.Deep.Matrix
import Derived.Deep.Slices
import Derived.ChangeSame
namespace Go.Proofs.Ytebmmbommkpjaaa
open Go.RowKit Go.Av Go.ChangeShapes Go.WideShapes

structure ActS where
  op : Int
  id : Int
  vs : Value
  shards : List Int
  shard : Int
  yes : Bool

instance : Inhabited ActS := ⟨⟨0, 0, .bool false, [], 0, false⟩⟩

/-- What the walk is told of a slice of acts. -/
def IsActs (w : World) (a : Option Addr) (len cap : Nat) (acts : List ActS) : Prop :=
  acts.length = len ∧ len ≤ cap ∧ cap ≤ maxLen ∧ (a = none → cap = 0) ∧
    (∀ x, a = some x → ∀ i, (h : i < acts.length) → w.cell? (x.add (i * 5)) = some (.int .i64 acts[i].op) ∧ w.cell? (x.add (i * 5 + 1)) = some (.int .i64 acts[i].id) ∧ w.cell? (x.add (i * 5 + 2)) = some acts[i].vs ∧
      w.cell? (x.add (i * 5 + 3)) = some (.int .i64 acts[i].shard) ∧ w.cell? (x.add (i * 5 + 4)) = some (.bool acts[i].yes)) ∧
    ∀ c ∈ acts, c.id ≤ 9223372036854775807 ∧ ∃ E, ReadRow w 1 c.vs (c.shards.map iv) E

theorem actCells : Try.prog.cellsOf 40 = 5 ∧ Try.prog.cellsOf 3 = 1 ∧ Try.prog.cellsOf 2 = 1 ∧ Try.prog.cellsOf 22 = 1 ∧ Try.prog.cellsOf 4 = 1 := by
  refine ⟨?_, ?_, ?_, ?_, ?_⟩ <;> kernel_rfl
theorem add_twice (x : Addr) (i j : Nat) : (x.add i).add j = x.add (i + j) := (Go.Deep.add_add x i j).symm ▸ rfl

theorem ints_of {H : Type} {enc : TypeId × Value → H} {w : World} {base : Nat} {held : Bool} {fuel : Nat} {c : Value} {x : DataW H × List MemPlace} (h : DataW.trod enc Try.prog w base (fun _ => true) held fuel 22 [c] = some x) :
    ∃ (l : List Int) (E : List Nat), ReadRow w 1 c (l.map iv) E := by
  rcases open_ints Try.underlying22 Try.underlying3 (by kernel_rfl) h with ⟨hcs, _⟩ | ⟨x, l, c, zs, hcs, _, hl, hm, hz, _, hcell, hwz⟩
  · cases hcs
    exact ⟨[], [], none, 0, 0, rfl, by simp, Nat.le_refl _, by decide, fun _ => rfl, .inl ⟨by simp, rfl⟩⟩
  · cases hcs
    obtain ⟨l', E, _, hr⟩ := IsInts.read (w := w) (a := some x) (len := l) (cap := c) (zs := zs) (.inr ⟨x, rfl, hl, hm, by simpa using hz, hcell, hwz⟩)
    exact ⟨l', E, hr⟩

set_option maxRecDepth 100000 in
theorem acts_of {H : Type} {enc : TypeId × Value → H} {w : World} {base : Nat} {held : Bool} {fuel : Nat} {a : Option Addr} {len cap : Nat} {x : DataW H × List MemPlace}
    (h : DataW.trod enc Try.prog w base (fun _ => true) held fuel 37 [.slice a len cap] = some x) : ∃ acts, IsActs w a len cap acts := by
  obtain ⟨c1, c2, c3, c4, c5⟩ := actCells
  rcases Deep.open_slice Try.underlying37 h with ⟨hcs, _⟩ | ⟨x, l, c, m, n, D, Pl, hcs, hb, hl, hm, hmm, hx, hi⟩
  · cases hcs
    exact ⟨[], rfl, Nat.le_refl _, by decide, fun _ => rfl, by simp, by simp⟩
  · cases hcs
    rw [c1] at hi
    have each : ∀ i, i < len → ∃ q : ActS, (w.cell? (x.add (i * 5)) = some (.int .i64 q.op) ∧ w.cell? (x.add (i * 5 + 1)) = some (.int .i64 q.id) ∧ w.cell? (x.add (i * 5 + 2)) = some q.vs ∧
        w.cell? (x.add (i * 5 + 3)) = some (.int .i64 q.shard) ∧ w.cell? (x.add (i * 5 + 4)) = some (.bool q.yes)) ∧ q.id ≤ 9223372036854775807 ∧ ∃ E, ReadRow w 1 q.vs (q.shards.map iv) E := by
      intro i hil
      obtain ⟨cs', hc, ht⟩ := hi i (by rw [hmm]; split <;> omega)
      obtain ⟨_, hcl, hat⟩ := World.cells?_some hc
      obtain ⟨ys, n', -, -, -, hyl, hf⟩ := DataW.trod_struct Try.underlying40 ht
      match cs', hcl with
      | [k0, k1, k2, k3, k4], _ =>
        have f0 : DataW.trod enc Try.prog w base (fun _ => true) held n' 3 (List.take (Try.prog.cellsOf 3) (List.drop 0 [k0, k1, k2, k3, k4])) = ys[0]? := hf 0 _ rfl
        have f1 : DataW.trod enc Try.prog w base (fun _ => true) held n' 2 (List.take (Try.prog.cellsOf 2) (List.drop 1 [k0, k1, k2, k3, k4])) = ys[1]? := hf 1 _ rfl
        have f2 : DataW.trod enc Try.prog w base (fun _ => true) held n' 22 (List.take (Try.prog.cellsOf 22) (List.drop 2 [k0, k1, k2, k3, k4])) = ys[2]? := hf 2 _ rfl
        have f3 : DataW.trod enc Try.prog w base (fun _ => true) held n' 3 (List.take (Try.prog.cellsOf 3) (List.drop 3 [k0, k1, k2, k3, k4])) = ys[3]? := hf 3 _ rfl
        have f4 : DataW.trod enc Try.prog w base (fun _ => true) held n' 4 (List.take (Try.prog.cellsOf 4) (List.drop 4 [k0, k1, k2, k3, k4])) = ys[4]? := hf 4 _ rfl
        rw [c2] at f0 f3
        rw [c3] at f1
        rw [c4] at f2
        rw [c5] at f4
        have hy : ∀ j, j < 5 → ∃ y, ys[j]? = some y := fun j hj => ⟨ys[j]'(by rw [hyl]; exact hj), List.getElem?_eq_getElem _⟩
        obtain ⟨y0, e0⟩ := hy 0 (by omega)
        obtain ⟨y1, e1⟩ := hy 1 (by omega)
        obtain ⟨y2, e2⟩ := hy 2 (by omega)
        obtain ⟨y3, e3⟩ := hy 3 (by omega)
        obtain ⟨y4, e4⟩ := hy 4 (by omega)
        obtain ⟨n0, g0, -, -⟩ := DataW.trod_int Try.underlying3 (f0.trans e0)
        obtain ⟨n1, g1, -, w1⟩ := DataW.trod_int Try.underlying2 (f1.trans e1)
        obtain ⟨l2, E2, r2⟩ := ints_of (c := k2) (f2.trans e2)
        obtain ⟨n3, g3, -, -⟩ := DataW.trod_int Try.underlying3 (f3.trans e3)
        obtain ⟨b4, g4, -⟩ := DataW.trod_bool Try.underlying4 (f4.trans e4)
        simp at g0 g1 g3 g4
        subst g0 g1 g3 g4
        have hw1 : n1 ≤ 9223372036854775807 := by
          simp only [Lit.wf, Bool.and_eq_true, decide_eq_true_eq, show IntKind.i64.max = 9223372036854775807 by decide] at w1
          exact w1.2
        refine ⟨⟨n0, n1, k2, l2, n3, b4⟩, ⟨?_, ?_, ?_, ?_, ?_⟩, hw1, E2, r2⟩
        · have := hat 0 (by omega); rw [add_twice] at this; exact this
        · have := hat 1 (by omega); rw [add_twice] at this; exact this
        · have := hat 2 (by omega); rw [add_twice] at this; exact this
        · have := hat 3 (by omega); rw [add_twice] at this; exact this
        · have := hat 4 (by omega); rw [add_twice] at this; exact this
    obtain ⟨y, hy⟩ := Deep.choose_lt each
    refine ⟨(List.range len).map y, by simp, hl, hm, by simp, ?_, ?_⟩
    · intro x' hx' i hi'
      cases hx'
      simp at hi'
      simpa using (hy i hi').1
    · intro q hq
      obtain ⟨i, hi', rfl⟩ := List.mem_map.1 hq
      exact (hy i (List.mem_range.1 hi')).2
end Go.Proofs.Ytebmmbommkpjaaa
