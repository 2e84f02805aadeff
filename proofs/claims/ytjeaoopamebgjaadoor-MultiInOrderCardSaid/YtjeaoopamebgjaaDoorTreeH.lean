/-
  A tree: the walks of New, Len.
-/
import Derived.Test.YtjeaoopamebgjaaDoorTreeF
namespace Go.Proofs.YtjeaoopamebgjaaDoor
open Go.RowKit Go.Av
section
variable {w0 w : World} {t : Nat} {S : TreeS} {P P' : List PRow} {R : List Thing} {rows : List (Value × Bs)}
set_option maxRecDepth 100000 in
set_option maxHeartbeats 1000000 in
theorem treenew_any (h : Sep w0 w (ThPool P :: R) rows) (room : Int) (h1 : 1 ≤ room) (h2 : room ≤ 500) :
    Calls Tryd.prog 6 #[.int .i64 room] w fun e w' => ∃ t, e = .returned (.tuple #[.pointer (some ⟨t, 0, none⟩), .int .i64 0]) ∧ Sep w0 w' (ThPool P :: ThTree t ⟨room, []⟩ P :: R) rows := by
  have h3 := (h.newMap .string).newCell (.cells #[.int .i64 room, .map (some w.heap.size)] 45 (0, 0))
  rw [show (w.alloc (.map #[] 0)).heap.size = w.heap.size + 1 by simp] at h3
  have H := Lib.hid h3
  have hmm := @run_makeMap Tryd.prog
  have q1 : decide (room < 1) = false := decide_eq_false (by omega)
  have q2 : decide (500 < room) = false := decide_eq_false (by omega)
  clear h h3
  go_enter Tryd.func6, Tryd.ntmps6
  go_wp2_with fail
  go_ret2
  refine ⟨_, rfl, ?_⟩
  have h4 := Sep.shut (O := TrO (w.heap.size + 1) ⟨room, []⟩ P) (L := trTh (w.heap.size + 1) w.heap.size room []) ⟨w.heap.size, [], rfl, List.Perm.refl _, List.Pairwise.nil, fun g hg => by cases hg⟩ H.out
  exact h4.perm (List.Perm.swap _ _ _)
set_option maxRecDepth 100000 in
theorem treelen_any (h : Sep w0 w (ThTree t S P :: R) rows) : Calls Tryd.prog 8 #[.pointer (some ⟨t, 0, none⟩)] w fun e w' => e = .returned (.int .i64 (S.l.length : Nat)) ∧ Upd w w' [] [] := by
  obtain ⟨m, -, hm1, -, -, hlen⟩ := tree_facts h
  have hl := hlen 3 w rfl
  clear h hlen
  go_enter Tryd.func8, Tryd.ntmps8
  go_wp2_with fail
  go_ret
  exact ⟨rfl, Upd.refl _ _⟩
end
end Go.Proofs.YtjeaoopamebgjaaDoor
