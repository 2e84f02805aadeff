/-
  The disk's names, sorted.
-/
import Derived.Test.YthphinlibhafcaaDiskG
import Derived.Test.YthphinlibhafcaaKeysS
import Derived.Test.YthphinlibhafcaaLay
import Derived.Sort.KeysCollected
namespace Go.Proofs.Ythphinlibhafcaa
open Go.RowKit Go.Av Go.Maps Go.Sort

def DiskS.names (S : DiskS) : List (List UInt8) := if S.off then [] else (S.fs.map fun f => f.name.data.toList).mergeSort (fun x y => decide (x ≤ y))

def NamesPost (w : World) (S : DiskS) (e : Ending) (w' : World) : Prop :=
  ∃ v E, e = .returned v ∧ ReadRow w' 1 v ((DiskS.names S).map encStr) E ∧ (∀ b ∈ E, w.heap.size ≤ b) ∧ Upd w w' [] []

set_option maxHeartbeats 1000000 in
theorem names_any {d : Nat} {S : DiskS} {D : List Nat} (w : World) (h : DiskAt w d S D) (hn : S.fs.length ≤ 1000000) (hs : ∀ f ∈ S.fs, f.name.size ≤ maxLen) :
    Calls Try.prog 19 #[.pointer (some ⟨d, 0, none⟩)] w (NamesPost w S) := by
  obtain ⟨m, gs, hI, rfl⟩ := h
  obtain ⟨T, hd⟩ := hI.hd
  have c1 : w.cell? ⟨d, 1, none⟩ = some (.bool S.off) := cell_of hd 1 rfl
  have c3 : w.cell? ⟨d, 3, none⟩ = some (.map (some m)) := cell_of hd 3 rfl
  clear hd
  by_cases hoff : S.off = true
  · rw [hoff] at c1
    have Ho := Lib.hid hoff
    clear hoff
    go_enter Try.func19, Try.ntmps19
    go_wp2_with fail
    go_ret
    refine ⟨.slice none 0 0, [], rfl, ?_, by simp, Upd.refl _ _⟩
    simp only [DiskS.names, Ho.out, if_true, List.map_nil]
    exact ⟨none, 0, 0, rfl, by simp, Nat.le_refl _, by decide, fun _ => rfl, .inl ⟨rfl, rfl⟩⟩
  · simp only [Bool.not_eq_true] at hoff
    rw [hoff] at c1
    have Ho := Lib.hid hoff
    clear hoff
    have hfl : gs.length = S.fs.length := by rw [← hI.hS]; simp
    obtain ⟨D0, ho, hz, hp⟩ := owns_names (P := Try.prog) (k := 9) (l := gs.map fun g => (g.name, Value.pointer (some ⟨g.f, 0, none⟩))) (by rw [List.map_map]; exact hI.hm) Try.underlying9 (by simp; omega) (by
      intro x hx
      obtain ⟨g, hg, rfl⟩ := List.mem_map.1 hx
      exact hs g.toFileS (by rw [← hI.hS]; exact List.mem_map_of_mem hg))
    rw [List.length_map] at hz
    have hp2 : (strKeys D0).Perm (S.fs.map fun f => f.name.data.toList) := by
      rw [← hI.hS]
      simpa [Function.comp_def] using hp
    have HP := Lib.hid hp2
    clear hp hp2
    have cK := callsIn_wide.1 (Try.maps_Keys_36 (some m) w)
    have cS := callsIn_wide.1 (Try.slices_Sorted_keys_35_36 m _ D0 noRead w ho (by rw [hz]; unfold maxLen; omega) (by rw [hz]; omega))
    have CK := Lib.hid cK
    have CS := Lib.hid cS
    clear cK cS ho hz
    go_enter Try.func19, Try.ntmps19
    go_wp2_with (first
      | (go_at_call 36; go_must (refine CK.out.mono ?_); rintro e w1 ⟨rfl, rfl⟩)
      | (go_at_call 35; go_must (refine CS.out.mono ?_); rintro e w1 ⟨v, ss, rfl, hS, hrow, hnil, hb⟩))
    go_ret
    obtain ⟨E, hr, hE⟩ := read_own hrow
    have hss : ss.mergeSort (fun x y => decide (x ≤ y)) = DiskS.names S := by
      simp only [DiskS.names, Ho.out, Bool.false_eq_true, if_false]
      exact mergeSort_of_perm (hS.trans HP.out)
    rw [hss] at hr
    refine ⟨v, E, rfl, hr, fun b hb => ?_, ?_⟩
    · have := hE b hb
      simp at this
      omega
    · exact (Upd.alloc0 w _ []).trans (Upd.of_below hb)
end Go.Proofs.Ythphinlibhafcaa
