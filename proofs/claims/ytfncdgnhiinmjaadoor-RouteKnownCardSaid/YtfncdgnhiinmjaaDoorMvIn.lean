/-
  Inputs of layer 16: a slice of moves, opened.
-/
import Derived.Test.YtfncdgnhiinmjaaDoorRouteC
import Derived.Deep.Matrix
import Derived.Deep.Slices
import Derived.ChangeSame
namespace Go.Av
theorem add_twice (x : Addr) (i j : Nat) : (x.add i).add j = x.add (i + j) := (Go.Deep.add_add x i j).symm ▸ rfl
theorem spot_of {w : World} {x : Addr} {v : Value} (h : w.cell? x = some v) : x.spot = none := by
  cases hs : x.spot with
  | none => rfl
  | some _ =>
    unfold World.cell? at h
    split at h <;> simp [hs] at h
theorem add_field {w : World} {x : Addr} {k : Nat} {v : Value} (h : w.cell? (x.add k) = some v) (j : Nat) : x.add (k + j) = ⟨(x.add k).block, (x.add k).off + j, none⟩ := by
  have h1 := spot_of h
  rw [← Go.Deep.add_add]
  generalize x.add k = y at h1 ⊢
  obtain ⟨b, o, sp⟩ := y
  simp only at h1
  subst h1
  exact Addr.add_lit b o j
end Go.Av
namespace Go.Proofs.YtfncdgnhiinmjaaDoor
open Go.RowKit Go.Av Go.ChangeShapes Go.WideShapes

/-- What the walk is told of a slice of moves. -/
def IsMvs (w : World) (a : Option Addr) (len cap : Nat) (l : List (ByteArray × Int)) : Prop :=
  l.length = len ∧ len ≤ cap ∧ cap ≤ maxLen ∧ (a = none → cap = 0) ∧
    (∀ x, a = some x → ∀ i, (h : i < l.length) → w.cell? (x.add (i * 2)) = some (.string l[i].1) ∧ w.cell? (x.add (i * 2 + 1)) = some (.int .i64 l[i].2)) ∧ ∀ c ∈ l, c.1.size ≤ maxLen

theorem mvCells : Tryd.prog.cellsOf 29 = 2 ∧ Tryd.prog.cellsOf 3 = 1 ∧ Tryd.prog.cellsOf 9 = 1 := by
  refine ⟨?_, ?_, ?_⟩ <;> kernel_rfl

set_option maxRecDepth 100000 in
theorem mvs_of {H : Type} {enc : TypeId × Value → H} {w : World} {base : Nat} {held : Bool} {fuel : Nat} {a : Option Addr} {len cap : Nat} {x : DataW H × List MemPlace}
    (h : DataW.trod enc Tryd.prog w base (fun _ => true) held fuel 22 [.slice a len cap] = some x) : ∃ l, IsMvs w a len cap l := by
  obtain ⟨c1, c2, c3⟩ := mvCells
  rcases Deep.open_slice Tryd.underlying22 h with ⟨hcs, _⟩ | ⟨x, l, c, m, n, D, Pl, hcs, hb, hl, hm, hmm, hx, hi⟩
  · cases hcs
    exact ⟨[], rfl, Nat.le_refl _, by decide, fun _ => rfl, by simp, by simp⟩
  · cases hcs
    rw [c1] at hi
    have each : ∀ i, i < len → ∃ q : ByteArray × Int, (w.cell? (x.add (i * 2)) = some (.string q.1) ∧ w.cell? (x.add (i * 2 + 1)) = some (.int .i64 q.2)) ∧ q.1.size ≤ maxLen := by
      intro i hil
      obtain ⟨cs', hc, ht⟩ := hi i (by rw [hmm]; split <;> omega)
      obtain ⟨_, hcl, hat⟩ := World.cells?_some hc
      obtain ⟨ys, n', -, -, -, hyl, hf⟩ := DataW.trod_struct Tryd.underlying29 ht
      match cs', hcl with
      | [k0, k1], _ =>
        have f0 : DataW.trod enc Tryd.prog w base (fun _ => true) held n' 9 (List.take (Tryd.prog.cellsOf 9) (List.drop 0 [k0, k1])) = ys[0]? := hf 0 _ rfl
        have f1 : DataW.trod enc Tryd.prog w base (fun _ => true) held n' 3 (List.take (Tryd.prog.cellsOf 3) (List.drop (Tryd.prog.cellsOf 9) [k0, k1])) = ys[1]? := hf 1 _ rfl
        rw [c3] at f0 f1
        rw [c2] at f1
        have hy : ∀ j, j < 2 → ∃ y, ys[j]? = some y := fun j hj => ⟨ys[j]'(by rw [hyl]; exact hj), List.getElem?_eq_getElem _⟩
        obtain ⟨y0, e0⟩ := hy 0 (by omega)
        obtain ⟨y1, e1⟩ := hy 1 (by omega)
        obtain ⟨n0, g0, -, w0⟩ := DataW.trod_string Tryd.underlying9 (f0.trans e0)
        obtain ⟨n1, g1, -, -⟩ := DataW.trod_int Tryd.underlying3 (f1.trans e1)
        simp at g0 g1
        subst g0 g1
        refine ⟨⟨n0, n1⟩, ⟨?_, ?_⟩, w0⟩
        · have := hat 0 (by omega); rw [add_twice] at this; exact this
        · have := hat 1 (by omega); rw [add_twice] at this; exact this
    obtain ⟨y, hy⟩ := Deep.choose_lt each
    refine ⟨(List.range len).map y, by simp, hl, hm, by simp, ?_, ?_⟩
    · intro x' hx' i hi'
      cases hx'
      simp at hi'
      simpa using (hy i hi').1
    · intro q hq
      obtain ⟨i, hi', rfl⟩ := List.mem_map.1 hq
      exact (hy i (List.mem_range.1 hi')).2
end Go.Proofs.YtfncdgnhiinmjaaDoor
