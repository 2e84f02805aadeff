/-
  More steps of a law that holds a disk: names, cut, drop, new bytes.
-/
import Derived.Test.YthphinlibhafcaaHeld
import Derived.Test.YthphinlibhafcaaDiskN
namespace Go.Proofs.Ythphinlibhafcaa
open Go.RowKit Go.Av Go.Sort

theorem Held.names {w0 w : World} {d : Nat} {S : DiskS} {rows : List (Value × Bs)} (h : Held w0 w d S rows) (hn : S.fs.length ≤ 1000000) (hs : ∀ f ∈ S.fs, f.name.size ≤ maxLen) :
    Calls Try.prog 19 #[.pointer (some ⟨d, 0, none⟩)] w (fun e w' => ∃ a c, e = .returned (.slice a (DiskS.names S).length c) ∧ Held w0 w' d S rows) := by
  obtain ⟨D, hD, hu, hr⟩ := h
  refine (names_any w hD hn hs).mono fun e w' hp => ?_
  obtain ⟨v, E, he, ⟨a, n, c, rfl, hl, _⟩, _, hu'⟩ := hp
  have hu2 : Upd w w' D D := hu'.mono (by simp) (fun b hb => .inr hb)
  obtain rfl : n = (DiskS.names S).length := by simpa using hl.symm
  exact ⟨a, c, he, D, hD.frame (hu'.same hD.lt (by simp)), hu.trans hu2, rows_frame hr hu2⟩
theorem Held.cut {w0 w : World} {d : Nat} {S : DiskS} {rows : List (Value × Bs)} (h : Held w0 w d S rows) (name : ByteArray) (n : Int) (hn : name.size ≤ maxLen) {k : Int} {S' : DiskS} (e : S.cut name n = (k, S')) :
    Calls Try.prog 20 #[.pointer (some ⟨d, 0, none⟩), .string name, .int .i64 n] w (fun e w' => e = .returned (.int .i64 k) ∧ Held w0 w' d S' rows) := by
  obtain ⟨D, hD, hu, hr⟩ := h
  exact (call_as (cut_any name n w hD hn) e).mono fun e w' hp => Held.post hr hu hp
theorem Held.drop {w0 w : World} {d : Nat} {S : DiskS} {rows : List (Value × Bs)} (h : Held w0 w d S rows) (name : ByteArray) (hn : name.size ≤ maxLen) {k : Int} {S' : DiskS} (e : S.drop name = (k, S')) :
    Calls Try.prog 21 #[.pointer (some ⟨d, 0, none⟩), .string name] w (fun e w' => e = .returned (.int .i64 k) ∧ Held w0 w' d S' rows) := by
  obtain ⟨D, hD, hu, hr⟩ := h
  exact (call_as (drop_any name w hD hn) e).mono fun e w' hp => Held.post hr hu hp
theorem new_bad (room : Int) (w : World) (h : ¬ (64 ≤ room ∧ room ≤ 1048576)) :
    Calls Try.prog 10 #[.int .i64 room] w (fun e w' => e = .returned (.tuple #[.pointer none, .int .i64 1]) ∧ Upd w w' [] []) := by
  refine (new_any room w).mono fun e w' hp => ?_
  rcases hp with ⟨_, h1, h2⟩ | ⟨h1, h2, _⟩
  · exact ⟨h1, h2⟩
  · exact absurd ⟨h1, h2⟩ h

theorem read_new (w : World) (l : Bs) (T : TypeId) (fr : Nat × Nat) (hl : l.length ≤ maxLen) : ReadRow (w.alloc (.cells (l.map bv).toArray T fr)) 1 (.slice (some ⟨w.heap.size, 0, none⟩) l.length l.length) (l.map bv) [w.heap.size] :=
  ⟨_, _, _, rfl, by simp, Nat.le_refl _, hl, by simp, .inr ⟨w.heap.size, 0, rfl, rfl, by simp, fun i x hx => by
    have hh : (w.alloc (.cells (l.map bv).toArray T fr)).heap[w.heap.size]? = some (.cells (l.map bv).toArray T fr) := heap_alloc_new w _
    rw [cell_of_row _ _ _ _ _ _ hh]
    simpa using hx⟩⟩
/-- New bytes beside the disk. -/
theorem Held.lit {w0 w : World} {d : Nat} {S : DiskS} {rows : List (Value × Bs)} (h : Held w0 w d S rows) (l : Bs) (T : TypeId) (fr : Nat × Nat) (hl : l.length ≤ maxLen) :
    Held w0 (w.alloc (.cells (l.map bv).toArray T fr)) d S ((.slice (some ⟨w.heap.size, 0, none⟩) l.length l.length, l) :: rows) := by
  obtain ⟨D, hD, hu, hr⟩ := h
  have hu2 := Upd.alloc0 w (.cells (l.map bv).toArray T fr) D
  have hu0 := Upd.alloc0 w (.cells (l.map bv).toArray T fr) []
  refine ⟨D, hD.frame (hu0.same hD.lt (by simp)), hu.trans hu2, fun r h => ?_⟩
  rcases List.mem_cons.1 h with rfl | h
  · refine ⟨_, read_new w l T fr hl, fun x hx hd => ?_⟩
    simp at hx
    have := hD.lt x hd
    omega
  · exact rows_frame hr hu2 r h
theorem Held.nil {w0 w : World} {d : Nat} {S : DiskS} {rows : List (Value × Bs)} (h : Held w0 w d S rows) : Held w0 w d S ((.slice none 0 0, []) :: rows) := by
  obtain ⟨D, hD, hu, hr⟩ := h
  refine ⟨D, hD, hu, fun r h => ?_⟩
  rcases List.mem_cons.1 h with rfl | h
  · exact ⟨[], ⟨none, 0, 0, rfl, rfl, Nat.le_refl _, by decide, fun _ => rfl, .inl ⟨rfl, rfl⟩⟩, by simp⟩
  · exact hr r h
theorem Held.rest {w0 w : World} {d : Nat} {S : DiskS} {r : Value × Bs} {rows : List (Value × Bs)} (h : Held w0 w d S (r :: rows)) : Held w0 w d S rows := by
  obtain ⟨D, hD, hu, hr⟩ := h
  exact ⟨D, hD, hu, fun x h => hr x (List.mem_cons_of_mem _ h)⟩
end Go.Proofs.Ythphinlibhafcaa
