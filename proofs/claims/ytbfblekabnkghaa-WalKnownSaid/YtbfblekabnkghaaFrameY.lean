/-
  The walks of frames: slices laid one behind the other; a frame.
-/
import Derived.Test.YtbfblekabnkghaaFrameX
import Derived.Lib.AppendZerosOnto
import Derived.Lib.SliceRun
import Derived.Shelf.Spec.SlicesGrow
namespace Go.Proofs.Ytbfblekabnkghaa
open Go.RowKit Go.Av

set_option maxRecDepth 100000 in
set_option maxHeartbeats 1000000 in
theorem grow_any (n : Nat) (w : World) (hn : n ≤ 1073741824) :
    Calls Try.prog 59 #[.slice none 0 0, .int .i64 n] w (AppPost w [] []) := by
  by_cases h0 : n = 0
  · subst h0
    go_enter Try.func59, Try.ntmps59
    go_wp2_with fail
    go_ret
    exact ⟨_, [], rfl, OwnRow.nil _ _, Upd.refl _ _⟩
  · obtain ⟨i0, hi0, hz0, hz1, hz2⟩ := info_parts info5
    have h1 : ¬ ((n : Int) < 0) := by omega
    have h4 : (n : Int) > 0 := by omega
    have hrz : ∀ ty, (Builtin.append_ #[31, 3] ty #[.slice none 0 0, .int .i64 (n : Int)]).run Try.prog w =
      .ok (.slice (some ⟨w.heap.size, 0, none⟩) n (grownCap w n 0 5)) (w.drew.alloc (.cells (#[] ++ Builtin.zeroCells (Value.int .u8 0).cells n ++ Builtin.zeroCells (Value.int .u8 0).cells (grownCap w n 0 5 - n)) 5)) := fun ty => by
      have h := Lib.run_append_grow_zeros w 31 3 ty 5 i0 (.int .u8 0) .i64 .i64 Try.underlying31 Try.underlying3 hi0 hz0 none 0 0 [] (by simpa using run_firstCells_none w.drew i0.size 0 0 0) n (by omega) (by rw [hz1]; decide) (by omega) (by omega)
        (by rw [hz2]; omega)
        (by rw [Nat.zero_add]; exact growslice_fits (by omega) (by rw [hz2]; omega))
      rw [Nat.zero_add] at h
      exact h
    have hGn : n ≤ grownCap w n 0 5 := grownCap_ge w _ _ _
    have hG63 : grownCap w n 0 5 ≤ maxLen := grownCap_le_maxLen w n 0 5 (by unfold maxLen; omega)
    obtain ⟨G, hG⟩ : ∃ G, G = grownCap w n 0 5 := ⟨_, rfl⟩
    rw [← hG] at hrz hGn hG63
    unfold maxLen at hG63
    clear hG
    go_enter Try.func59, Try.ntmps59
    go_wp2_with (at_builtin; refine Lib.wpList_append_run _ rfl _ _ _ _ rfl _ _ rfl rfl _ _ (hrz _) ?_)
    go_ret
    refine ⟨_, [w.heap.size], rfl, OwnRow.made w.drew 5 1 0 G _ [] (by simp) (by omega) (by unfold maxLen; omega) (by rw [Array.size_append, size_zeroCells, size_zeroCells]; simp; omega) (by simp), (Upd.refl w []).drew.trans (Upd.alloc1 _ _ _)⟩
theorem cell_lt {w : World} {a : Addr} {v : Value} (hc : w.cell? a = some v) : a.block < w.heap.size := by
  cases hh : w.heap[a.block]? with
  | none => rw [World.cell?, hh] at hc; cases hc
  | some o => exact lt_of_heap hh
def lens (rows : List (Value × Bs)) : Nat := (rows.flatMap (·.2)).length
theorem lens_take {rows : List (Value × Bs)} {n : Nat} (h : n < rows.length) : lens (rows.take (n + 1)) = lens (rows.take n) + rows[n].2.length := by
  unfold lens
  rw [List.take_succ_eq_append_getElem h, List.flatMap_append, List.length_append]
  simp only [List.flatMap_cons, List.flatMap_nil, List.append_nil]
theorem lens_le (rows : List (Value × Bs)) (n : Nat) : lens (rows.take n) ≤ lens rows := by
  unfold lens
  conv => rhs; rw [← List.take_append_drop n rows]
  rw [List.flatMap_append, List.length_append]
  omega
theorem flat_take {rows : List (Value × Bs)} {n : Nat} (h : n < rows.length) : (rows.take (n + 1)).flatMap (·.2) = (rows.take n).flatMap (·.2) ++ rows[n].2 := by
  rw [List.take_succ_eq_append_getElem h, List.flatMap_append]
  simp only [List.flatMap_cons, List.flatMap_nil, List.append_nil]

set_option maxRecDepth 100000 in
set_option maxHeartbeats 1000000 in
theorem concat_any (v : Value) (rows : List (Value × Bs)) (w : World) (h : RowsAt w v rows) (hs : lens rows ≤ 1073741824) :
    Calls Try.prog 54 #[v] w (AppPost w [] (rows.flatMap (·.2))) := by
  obtain ⟨i0, hi0, hz0, hz1, hz2⟩ := info_parts info5
  have hrd0 := h
  obtain ⟨⟨E, hE⟩, hrows⟩ := h
  obtain ⟨a, n, c, rfl, -⟩ := id hE
  have hElt := hE.lt
  obtain ⟨hn, hnc, hcm, hcell⟩ := row_cell hE
  rw [List.length_map] at hn
  subst hn
  unfold maxLen at hcm
  have HC := Lib.hid hcell
  have HR := Lib.hid hrows
  have HE := Lib.hid hE
  clear hE hcell hrows hrd0
  go_enter Try.func54, Try.ntmps54
  go_wp2_with fail
  go_loopg [3, 11] rows.length (fun k s i wr => wr = w ∧ ∃ n : Nat, n ≤ rows.length ∧ k = rows.length - n ∧ i = .int .i64 n ∧ s = .int .i64 (lens (rows.take n)))
  case atStart => exact ⟨rfl, 0, Nat.zero_le _, rfl, rfl, rfl⟩
  case round =>
    obtain ⟨hW, n, hn, hk, rfl, rfl⟩ := hrel
    subst wr
    by_cases hlt : n < rows.length
    · obtain ⟨x, rfl, -, hx⟩ := HC.out (by omega)
      have hm : rows[n] ∈ rows := List.getElem_mem hlt
      obtain ⟨-, ar, cr, hv⟩ := HR.out _ hm
      have hcl : w.cell? (x.add n) = some rows[n].1 := hx n _ (by rw [List.getElem?_map, List.getElem?_eq_getElem hlt]; rfl)
      rw [hv] at hcl
      have hlt2 := lens_take hlt
      have hle := lens_le rows (n + 1)
      obtain ⟨s0, hs0⟩ : ∃ s0, s0 = lens (rows.take n) := ⟨_, rfl⟩
      obtain ⟨s1, hs1⟩ : ∃ s1, s1 = lens (rows.take (n + 1)) := ⟨_, rfl⟩
      rw [← hs0, ← hs1] at hlt2
      rw [← hs1] at hle
      rw [← hs0]
      have HS1 := Lib.hid hs1
      clear hs0 hs1 hx
      go_wp2_with fail
      go_roundg (rows.length - (n + 1))
      case rel => exact ⟨rfl, n + 1, by omega, rfl, by go_num, by rw [← HS1.out, hlt2]; go_num⟩
      case measure => omega
    · obtain rfl : n = rows.length := by omega
      rw [List.take_length]
      go_wp2_with fail
      refine (grow_any (lens rows) _ hs).mono ?_
      rintro e w1 ⟨v1, D1, rfl, hown1, hu1⟩
      go_wp2_with fail
      go_loopg [6, 27] rows.length (fun k s i wr => ∃ (n : Nat) (D : List Nat), n ≤ rows.length ∧ k = rows.length - n ∧ i = .int .i64 n ∧ OwnRow wr 1 s (((rows.take n).flatMap (·.2)).map bv) D ∧ Upd w wr [] D)
      case atStart => exact ⟨0, D1, Nat.zero_le _, rfl, rfl, by simpa using hown1, hu1⟩
      case round =>
        rename_i s6 i27
        obtain ⟨n, D, hn, hk, rfl, hown, hu⟩ := hrel
        by_cases hlt : n < rows.length
        · have hb := hu.below
          obtain ⟨x, rfl, -, hx⟩ := HC.out (by omega)
          have hm : rows[n] ∈ rows := List.getElem_mem hlt
          obtain ⟨⟨E1, hE1⟩, ar, cr, hv⟩ := HR.out _ hm
          have hcl0 : w.cell? (x.add n) = some rows[n].1 := hx n _ (by rw [List.getElem?_map, List.getElem?_eq_getElem hlt]; rfl)
          have hcl : wr.cell? (x.add n) = some (.slice ar rows[n].2.length cr) := by
            rw [World.cell?_of_block (hb.block _ (cell_lt hcl0)), hcl0, hv]
          have hbr := hE1.frame (hu.same hE1.lt (by simp))
          rw [hv] at hbr
          obtain ⟨nb, hnb, hsrc⟩ := hbr.src (P := Try.prog) (tx := 31) Try.underlying31 bv_one
          obtain rfl : rows[n].2.length = nb := by simpa using hnb
          have hle := lens_le rows (n + 1)
          rw [lens_take hlt] at hle
          have HBD := Lib.hid (show ∀ n', (((rows.take n).flatMap (·.2)).map bv).length = n' * 1 → n' + rows[n].2.length ≤ 140737488355328 ∧ (n' + rows[n].2.length) * i0.bytes ≤ 140737488355328 from fun n' hn' => by simp only [List.length_map] at hn'; unfold lens at hle hs; rw [hz2]; omega)
          have HU := Lib.hid hu
          clear hu hb hE1 hnb hbr hx hcl0 hle
          go_wp2_with (at_builtin; go_must (refine wpList_app rfl _ _ 31 31 rfl 1 _ _ _ rfl hown _ i0 _ Try.underlying31 hi0 hz0 hz1 rfl _ _ _ rfl hsrc HBD.out ?_); intro a3 n3 c3' w3 D3 hown3 hu3)
          go_roundg (rows.length - (n + 1))
          case rel =>
            refine ⟨n + 1, D3, by omega, rfl, by go_num, ?_, HU.out.trans hu3⟩
            rw [flat_take hlt, List.map_append]
            exact hown3
          case measure => omega
        · obtain rfl : n = rows.length := by omega
          rw [List.take_length] at hown
          go_wp2_with fail
          go_ret
          exact ⟨_, D, rfl, hown, hu⟩
end Go.Proofs.Ytbfblekabnkghaa
