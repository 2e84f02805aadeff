/-
  What the laws of the log share: rows of an input, how long frames are.
-/
import Derived.Test.YtbfblekabnkghaaWalT
import Derived.Test.YtbfblekabnkghaaLaws8
import Derived.Test.YtbfblekabnkghaaInB
namespace Go.Proofs.Ytbfblekabnkghaa
open Go.RowKit Go.Av

theorem start_of {w w1 : World} {rows : List (Value × Bs)} (hu : Upd w w1 [] []) (hr : ∀ r ∈ rows, ∃ E, ReadRow w 1 r.1 (r.2.map bv) E) : Sep w w1 [] rows := (Sep.startRows hr).keep hu
theorem row_at {w : World} {a : Option Addr} {len cap : Nat} {rows : List (Value × Bs)} (h : IsRowsB w a len cap rows) (p : Nat) (hp : p < rows.length) :
    ∃ y ar cr, a = some y ∧ w.cell? (y.add p) = some (.slice ar rows[p].2.length cr) ∧ (Value.slice ar rows[p].2.length cr, rows[p].2) ∈ rows := by
  obtain ⟨hl, hn, hc, ha, hcell, hread, hform⟩ := h
  have hm : rows[p] ∈ rows := List.getElem_mem hp
  obtain ⟨ar, cr, hrv⟩ := hform _ hm
  cases a with
  | none => exact absurd (ha rfl) (by omega)
  | some y =>
    have hcl := hcell y rfl p hp
    rw [hrv] at hcl
    exact ⟨y, ar, cr, rfl, hcl, by rw [← hrv]; exact hm⟩
theorem frames_small (ls : List Bs) (h : ∀ r ∈ ls, r.length ≤ 300) (hl : ls.length ≤ 20) : (frames ls).length ≤ 6240 := by
  have h1 := frames_le 300 ls h
  have h2 := Nat.mul_le_mul_right (12 + 300) hl
  omega
theorem push_small {ls : List Bs} {r : Bs} {M : Nat} (h : ∀ q ∈ ls, q.length ≤ M) (hr : r.length ≤ M) : ∀ q ∈ ls ++ [r], q.length ≤ M := by
  intro q hq
  rcases List.mem_append.1 hq with hq | hq
  · exact h q hq
  · rw [List.mem_singleton.1 hq]; exact hr
theorem frames_push (ls : List Bs) (r : Bs) : (frames (ls ++ [r])).length = (frames ls).length + (12 + r.length) := by
  rw [frames_append, List.length_append]; simp [frames, frameS_length]
end Go.Proofs.Ytbfblekabnkghaa
