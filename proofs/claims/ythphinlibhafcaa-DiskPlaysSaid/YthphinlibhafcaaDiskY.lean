/-
  The walks through package disk, the other calls.
-/
import Derived.Test.YthphinlibhafcaaGenA
import Derived.Test.YthphinlibhafcaaDiskX
import Derived.Test.YthphinlibhafcaaDiskB
namespace Go.Proofs.Ythphinlibhafcaa
open Go.RowKit Go.Av

set_option maxHeartbeats 400000 in
theorem clone_any (v : Value) (b : Bs) (E : List Nat) (w : World) (hb : ReadRow w 1 v (b.map bv) E) (hlen : b.length ≤ 1048576) :
    Calls Try.prog 34 #[v] w (NewBytes w b) := by
  obtain ⟨i0, hi0, hz0, hz1, hz2⟩ := info_parts info5
  obtain ⟨nb, hnb, hsrc⟩ := hb.src (P := Try.prog) (tx := 28) Try.underlying28 bv_one
  obtain rfl : b.length = nb := by simpa using hnb
  obtain ⟨a, n, c, rfl, hl, hn, hc, ha, hr⟩ := hb
  obtain rfl : b.length = n := by simpa using hl
  have hnil := fun (W : World) (a : Option Addr) (n c n' c' : Nat) => Lib.run_eql_slice_nil (P := Try.prog) W 28 5 a n c n' c' Try.underlying28
  cases a with
  | none =>
    obtain rfl : c = 0 := ha rfl
    have hb0 : b.length = 0 := by omega
    have H0 := Lib.hid (show b = [] by simpa using hb0)
    clear hl hn hnb hb0 hsrc hr
    go_enter Try.func34, Try.ntmps34
    go_wp2_with fail
    go_ret
    rw [H0.out]
    exact ⟨_, [], rfl, OwnRow.nil _ _, Upd.refl _ _⟩
  | some ad =>
    have HBD := Lib.hid (show ∀ n, ([] : List Value).length = n * 1 → n + b.length ≤ 140737488355328 ∧ (n + b.length) * i0.bytes ≤ 140737488355328 from fun n hn => by simp at hn; rw [hz2]; omega)
    have hread : ReadRow w 1 (.slice (some ad) b.length c) (b.map bv) E := ⟨_, _, _, rfl, hl, hn, hc, ha, hr⟩
    have HR := Lib.hid hread
    clear hread hr hl hnb
    go_enter Try.func34, Try.ntmps34
    obtain ⟨nb', hnb', hsrc'⟩ := (HR.out.frame ((Upd.alloc0 w (.cells #[] 5) []).same HR.out.lt (by simp))).src (P := Try.prog) (tx := 28) Try.underlying28 bv_one
    obtain rfl : b.length = nb' := by simpa using hnb'
    clear hsrc hnb'
    go_wp2_with (at_builtin; go_must (refine wpList_app rfl _ _ 28 28 rfl 1 _ _ _ rfl (OwnRow.zero _ _ _) _ i0 _ Try.underlying28 hi0 hz0 hz1 rfl _ _ _ rfl hsrc' HBD.out ?_); intro a3 n3 c3' w4 D3 hown3 hu4)
    go_ret
    exact ⟨_, D3, rfl, by simpa using hown3, (Upd.alloc0 _ _ _).trans hu4⟩

/-! ### New, On, Power, Lives, Size -/
/-- A disk that has turned as told. -/
def DiskPost (w : World) (d : Nat) (D : List Nat) (r : Ending) (S' : DiskS) (e : Ending) (w' : World) : Prop := e = r ∧ ∃ D', DiskAt w' d S' D' ∧ Upd w w' D D'
theorem DiskPost.stays {w w' : World} {d : Nat} {S : DiskS} {D : List Nat} (h : DiskAt w d S D) (hu : Upd w w' [] []) (r : Ending) : DiskPost w d D r S r w' :=
  ⟨rfl, D, h.frame (hu.same h.lt (by simp)), hu.mono (by simp) (fun b hb => .inr hb)⟩

theorem lives_any {d : Nat} {S : DiskS} {D : List Nat} (w : World) (h : DiskAt w d S D) :
    Calls Try.prog 17 #[.pointer (some ⟨d, 0, none⟩)] w fun e w' => e = .returned (.int .i64 S.lives) ∧ w = w' := by
  obtain ⟨m, gs, hI, rfl⟩ := h
  obtain ⟨T, hd⟩ := hI.hd
  have c2 := cell_of hd 2 rfl
  clear hd
  go_enter Try.func17, Try.ntmps17
  go_wp2_with fail
  go_ret
  exact ⟨rfl, rfl⟩

theorem power_any {d : Nat} {S : DiskS} {D : List Nat} (w : World) (h : DiskAt w d S D) :
    Calls Try.prog 30 #[.pointer (some ⟨d, 0, none⟩)] w fun e w' => e = .returned (.bool (!S.off)) ∧ w = w' := by
  obtain ⟨m, gs, hI, rfl⟩ := h
  obtain ⟨T, hd⟩ := hI.hd
  have c1 := cell_of hd 1 rfl
  clear hd
  go_enter Try.func30, Try.ntmps30
  go_wp2_with fail
  go_ret
  exact ⟨rfl, rfl⟩

def DiskS.size (S : DiskS) : Int := if S.off then 0 else total S.fs
theorem size_any {d : Nat} {S : DiskS} {D : List Nat} (w : World) (h : DiskAt w d S D) :
    Calls Try.prog 12 #[.pointer (some ⟨d, 0, none⟩)] w fun e w' => e = .returned (.int .i64 (DiskS.size S)) ∧ Upd w w' [] [] := by
  obtain ⟨m, gs, hI, rfl⟩ := h
  obtain ⟨T, hd⟩ := hI.hd
  have c1 : w.cell? ⟨d, 1, none⟩ = some (.bool S.off) := cell_of hd 1 rfl
  clear hd
  cases ho : S.off with
  | true =>
    rw [ho] at c1
    have Ho := Lib.hid ho
    clear ho
    go_enter Try.func12, Try.ntmps12
    go_wp2_with fail
    go_ret
    exact ⟨by simp [DiskS.size, Ho.out], Upd.refl _ _⟩
  | false =>
    rw [ho] at c1
    have Ho := Lib.hid ho
    clear ho
    go_enter Try.func12, Try.ntmps12
    go_wp2_with (go_at_call 32; refine (total_any _ hI).mono ?_; rintro e w' ⟨rfl, hu⟩)
    go_ret
    exact ⟨by simp [DiskS.size, Ho.out], hu⟩

/-- One field of the disk's own has turned. -/
theorem disk_field {w : World} {d m : Nat} {S S' : DiskS} {gs : List FileG} {w' : World} {T : TypeId} (h : DiskI w d S m gs) (hu : Upd w w' [d] [d])
    (hd : w'.heap[d]? = some (.cells #[.int .i64 S'.room, .bool S'.off, .int .i64 S'.lives, .map (some m)] T (0, 0))) (hr : S'.room = S.room) (hf : S'.fs = S.fs) :
    DiskI w' d S' m gs ∧ Upd w w' (DiskD d m gs) (DiskD d m gs) := by
  obtain ⟨hdm, hdd⟩ := h.dom_ne
  refine ⟨⟨⟨T, hd⟩, h.hm.frame (hu.keep m h.hm.lt (by simp [Ne.symm hdm])), fun g hg => ?_, by rw [hf]; exact h.hS, h.nd, by rw [hr]; exact h.lo, by rw [hr]; exact h.hi, by rw [hr, hf]; exact h.fits⟩, hu.mono (by simp [DiskD]) (by simp [DiskD])⟩
  exact (h.hf g hg).frame (fun b hb => hu.keep b ((h.hf g hg).lt b hb) (by simp; rintro rfl; exact (hdd g hg).1 hb))

theorem on_any {d : Nat} {S : DiskS} {D : List Nat} (w : World) (h : DiskAt w d S D) :
    Calls Try.prog 15 #[.pointer (some ⟨d, 0, none⟩)] w (DiskPost w d D (.returned (.tuple #[])) S.on) := by
  obtain ⟨m, gs, hI, rfl⟩ := h
  obtain ⟨T, hd⟩ := hI.hd
  have c1 := cell_of hd 1 rfl
  have c2 := cell_of hd 2 rfl
  have z1 := frz_of hd 1
  have z2 := frz_of hd 2
  have Hd := Lib.hid hd
  clear hd
  go_enter Try.func15, Try.ntmps15
  go_wp2_with fail
  go_end0
  refine ⟨rfl, _, ⟨m, gs, ?_, rfl⟩, ?_⟩
  all_goals
    have h1 := heap_setCell_same w d 2 _ T (.int .i64 (wrap64 (S.lives + 1))) Hd.out
    have h2 := heap_setCell_same _ d 1 _ T (.bool false) h1
    have hr := disk_field hI (S' := S.on) (T := T) ((Upd.set1 w ⟨d, 2, none⟩ (.int .i64 (wrap64 (S.lives + 1))) [d] (by simp)).trans (Upd.set1 _ ⟨d, 1, none⟩ (.bool false) [d] (by simp))) (by simpa [DiskS.on] using h2) rfl rfl
    first | exact hr.1 | exact hr.2

theorem heap_alloc_new' (w : World) (o : Obj) (b : Nat) (h : b = w.heap.size) : (w.alloc o).heap[b]? = some o := by subst h; exact heap_alloc_new w o

/-- What New answers. -/
def NewPost (w : World) (room : Int) (e : Ending) (w' : World) : Prop :=
  (¬ (64 ≤ room ∧ room ≤ 1048576) ∧ e = .returned (.tuple #[.pointer none, .int .i64 1]) ∧ Upd w w' [] []) ∨
  (64 ≤ room ∧ room ≤ 1048576 ∧ ∃ d D, e = .returned (.tuple #[.pointer (some ⟨d, 0, none⟩), .int .i64 0]) ∧ DiskAt w' d (DiskS.new room) D ∧ Upd w w' [] D)

theorem new_any (room : Int) (w : World) : Calls Try.prog 10 #[.int .i64 room] w (NewPost w room) := by
  have hmm := @run_makeMap Try.prog
  by_cases h1 : room < 64
  · go_enter Try.func10, Try.ntmps10
    go_wp2_with fail
    go_ret2
    exact .inl ⟨by omega, rfl, Upd.refl _ _⟩
  · by_cases h2 : 1048576 < room
    · go_enter Try.func10, Try.ntmps10
      go_wp2_with fail
      go_ret2
      exact .inl ⟨by omega, rfl, Upd.refl _ _⟩
    · have h1' : 64 ≤ room := by omega
      have h2' : room ≤ 1048576 := by omega
      go_enter Try.func10, Try.ntmps10
      go_wp2_with fail
      go_ret2
      refine .inr ⟨by omega, by omega, _, [w.heap.size + 1, w.heap.size], rfl, ⟨w.heap.size, [], ⟨⟨56, ?_⟩, ?_, by simp, rfl, by simp [DiskD], h1', h2', by simp [DiskS.new, total]; omega⟩, rfl⟩, ?_⟩
      · exact heap_alloc_new' _ _ _ (by simp)
      · exact (MapIs.made w .string).frame (Below.heap_alloc _ _ _ (by simp))
      · exact ⟨rfl, rfl, rfl, by simp; omega, fun b hb _ => by rw [Below.heap_alloc _ _ _ (by simp; omega), Below.heap_alloc _ _ _ hb], fun b hb => by simp at hb ⊢; omega⟩
end Go.Proofs.Ythphinlibhafcaa
