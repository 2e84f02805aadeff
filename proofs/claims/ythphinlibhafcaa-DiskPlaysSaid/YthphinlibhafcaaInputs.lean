/-
  Inputs of the statements, opened: a slice of slices of bytes.
-/
import Derived.Test.YthphinlibhafcaaDiskRoomW
import Derived.Deep.Matrix
import Derived.OpenShut
namespace Go.Proofs.Ythphinlibhafcaa
open Go.RowKit Go.Av Go.ChangeShapes Go.WideShapes

theorem rows_of {w : World} {a : Addr} {len cap : Nat} {A : Nat → Option Addr} {L C : Nat → Nat} {Z : Nat → List Int} (hl : len ≤ cap) (hm : cap ≤ maxLen)
    (hx : ∀ r, r < cap → w.cell? (a.add r) = some (.slice (A r) (L r) (C r)) ∧ L r ≤ C r ∧ C r ≤ maxLen ∧ (Z r).length = C r ∧ (∀ n ∈ Z r, (Lit.int .u8 n).wf = true) ∧ (A r = none → C r = 0) ∧
        ∀ a', A r = some a' → 0 ≤ a'.block ∧ ∀ c, c < C r → w.cell? (a'.add c) = some (.int .u8 ((Z r).getD c 0))) : ∃ rows, IsRowsB w (some a) len cap rows := by
  have each : ∀ r, r < len → ∃ y : Bs × List Nat, y.1.length = L r ∧ ReadRow w 1 (.slice (A r) (L r) (C r)) (y.1.map bv) y.2 := by
    intro r hr
    obtain ⟨h1, h2, h3, h4, h5, h6, h7⟩ := hx r (by omega)
    have hb : IsBytes w (A r) (L r) (C r) (Z r) := by
      cases hA : A r with
      | none =>
        have := h6 hA
        exact .inl ⟨rfl, by omega, this, List.length_eq_zero_iff.1 (by omega)⟩
      | some a' =>
        exact .inr ⟨a', rfl, h2, h3, h4, fun i hi => (h7 a' hA).2 i (by omega), h5⟩
    obtain ⟨l, E, h8, h9⟩ := hb.read
    exact ⟨(l, E), h8, h9⟩
  obtain ⟨y, hy⟩ := Deep.choose_lt each
  refine ⟨(List.range len).map fun r => (.slice (A r) (L r) (C r), (y r).1), by simp, hl, hm, by simp, ?_, ?_, ?_⟩
  · intro x hxx i hi
    cases hxx
    simp at hi
    simp [(hx i (by omega)).1]
  · intro r hr
    obtain ⟨i, hi, rfl⟩ := List.mem_map.1 hr
    exact ⟨_, (hy i (List.mem_range.1 hi)).2⟩
  · intro r hr
    obtain ⟨i, hi, rfl⟩ := List.mem_map.1 hr
    exact ⟨A i, C i, by simp [(hy i (List.mem_range.1 hi)).1]⟩

theorem isRowsB_nil (w : World) : IsRowsB w none 0 0 [] := ⟨rfl, Nat.le_refl _, by decide, fun _ => rfl, by simp, by simp, by simp⟩
end Go.Proofs.Ythphinlibhafcaa
