/-
  The walks through package disk: Sync, Read, Drop, Cut, Rename, Crash.
-/
import Derived.Test.YthphinlibhafcaaDiskY
namespace Go.Proofs.Ythphinlibhafcaa
open Go.RowKit Go.Av

theorem eqf {a b : Int} (h : a ≠ b) : (a == b) = false := by simp [h]
theorem nef {a b : Int} (h : a ≠ b) : (a != b) = true := by simp [h]

theorem sync_no {S : DiskS} {n : ByteArray} {k : Int} (h : S.ask n = k) (hk : k ≠ 0) : S.sync n = (k, S) := by simp [DiskS.sync, h, hk]
theorem ask_may {S : DiskS} {n : ByteArray} (h : S.may [n] ≠ 0) : S.ask n = S.may [n] := by simp [DiskS.ask, h]

set_option maxHeartbeats 400000 in
theorem sync_any {d : Nat} {S : DiskS} {D : List Nat} (name : ByteArray) (w : World) (h : DiskAt w d S D) (hs : name.size ≤ maxLen) :
    Calls Try.prog 13 #[.pointer (some ⟨d, 0, none⟩), .string name] w (DiskPost w d D (.returned (.int .i64 (S.sync name).1)) (S.sync name).2) := by
  have hat := h
  obtain ⟨m, gs, hI, rfl⟩ := h
  go_enter Try.func13, Try.ntmps13
  go_wp2_with fail
  refine (find_any name _ hI hs).mono ?_
  rintro e w1 ⟨hF, hu⟩
  rcases hF with ⟨h0, rfl⟩ | ⟨h0, hno, rfl⟩ | ⟨h0, l1, g, l2, rfl, rfl, rfl⟩
  · have ht := eqf h0
    have Hs := Lib.hid (sync_no (ask_may h0) h0)
    clear h0
    go_wp2_with fail
    go_ret
    rw [Hs.out]
    exact DiskPost.stays hat hu _
  · have Hs := Lib.hid (sync_no (hI.ask_not h0 hno) (by decide))
    clear h0 hno
    go_wp2_with fail
    go_ret
    rw [Hs.out]
    exact DiskPost.stays hat hu _
  · have hI1 := hI.upd0 hu
    have Hs := Lib.hid (show S.sync g.name = (0, { S with fs := updN g.name FileS.sync S.fs }) by simp [DiskS.sync, hI.ask_mid h0])
    obtain ⟨⟨Tf, hf⟩, hown, hsafe⟩ := hI1.hf g (by simp)
    obtain ⟨a, c, hv⟩ := own_slice hown
    have f0 : w1.cell? ⟨g.f, 0, none⟩ = some (.slice a g.b.length c) := by rw [← hv]; exact cell_of hf 0 rfl
    have f1 := cell_of hf 1 rfl
    have z1 := frz_of hf 1
    have Hf := Lib.hid hf
    have Hv := Lib.hid hv
    clear hf hv h0
    go_wp2_with fail
    go_ret
    have hnd := file_nd hI1
    have hnf := (List.nodup_cons.1 hnd).1
    obtain ⟨r1, r2⟩ := hI1.turned (w' := w1.setCell ⟨g.f, 1, none⟩ (.int .i64 g.b.length)) (g' := { g with safe := g.b.length }) (φ := FileS.sync) (Upd.set1 _ _ _ _ (by simp [FileG.dom]))
      ⟨⟨Tf, heap_setCell_same w1 g.f 1 _ Tf _ Hf.out⟩, hown.frame (fun b hb => heap_setCell_other _ _ _ _ (fun e => hnf (by rw [← show b = g.f from e]; exact hb))), Nat.le_refl _⟩ rfl hnd rfl rfl (Nat.le_refl _)
    rw [Hs.out]
    exact ⟨rfl, _, ⟨m, _, r1, rfl⟩, (hu.mono (by simp) (fun b hb => .inr hb)).trans r2⟩

def DiskS.read (S : DiskS) (n : ByteArray) : Bs := if S.ask n = 0 then getN n S.fs else []
/-- What Read answers: new bytes, and a number. -/
def ReadPost (w : World) (S : DiskS) (n : ByteArray) (e : Ending) (w' : World) : Prop := ∃ v' D', e = .returned (.tuple #[v', .int .i64 (S.ask n)]) ∧ OwnRow w' 1 v' ((DiskS.read S n).map bv) D' ∧ Upd w w' [] D'

theorem file_small {w : World} {d m : Nat} {S : DiskS} {l1 l2 : List FileG} {g : FileG} (h : DiskI w d S m (l1 ++ g :: l2)) : g.b.length ≤ 1048576 := by
  have h1 := sumG_total h.hS
  have h2 := sumG_mid l1 g l2
  have h3 := h.fits
  have h4 := h.hi
  omega

set_option maxHeartbeats 400000 in
theorem read_any {d : Nat} {S : DiskS} {D : List Nat} (name : ByteArray) (w : World) (h : DiskAt w d S D) (hs : name.size ≤ maxLen) :
    Calls Try.prog 16 #[.pointer (some ⟨d, 0, none⟩), .string name] w (ReadPost w S name) := by
  obtain ⟨m, gs, hI, rfl⟩ := h
  go_enter Try.func16, Try.ntmps16
  go_wp2_with fail
  refine (find_any name _ hI hs).mono ?_
  rintro e w1 ⟨hF, hu⟩
  rcases hF with ⟨h0, rfl⟩ | ⟨h0, hno, rfl⟩ | ⟨h0, l1, g, l2, rfl, rfl, rfl⟩
  · have ht := nef h0
    have Ha := Lib.hid (ask_may h0)
    have H0 := Lib.hid h0
    clear h0
    go_wp2_with fail
    go_ret2
    exact ⟨_, [], by rw [Ha.out]; rfl, by rw [DiskS.read, Ha.out, if_neg H0.out]; exact OwnRow.nil _ _, hu⟩
  · have Ha := Lib.hid (hI.ask_not h0 hno)
    clear h0 hno
    go_wp2_with fail
    go_ret2
    exact ⟨_, [], by rw [Ha.out]; rfl, by rw [DiskS.read, Ha.out, if_neg (by decide)]; exact OwnRow.nil _ _, hu⟩
  · have hI1 := hI.upd0 hu
    have Ha := Lib.hid (hI.ask_mid h0)
    obtain ⟨⟨Tf, hf⟩, hown, hsafe⟩ := hI1.hf g (by simp)
    have f0 := cell_of hf 0 rfl
    clear hf h0
    obtain ⟨E, hread, _⟩ := hown.read
    have HR := Lib.hid hread
    have hsm := file_small hI
    clear hread hown
    go_wp2_with fail
    refine (clone_any g.v g.b E _ HR.out hsm).mono ?_
    rintro e w2 ⟨v', D', rfl, hown2, hu2⟩
    go_wp2_with fail
    go_ret2
    refine ⟨v', D', by rw [Ha.out]; rfl, ?_, hu.trans hu2⟩
    have hnm := hI.named
    rw [← hI.hS, List.map_append, List.map_cons] at hnm
    have : getN g.name S.fs = g.b := by
      rw [← hI.hS, List.map_append, List.map_cons]
      exact getN_mid hnm.before rfl
    rw [DiskS.read, Ha.out, if_pos rfl, this]
    exact hown2

set_option maxHeartbeats 400000 in
theorem drop_any {d : Nat} {S : DiskS} {D : List Nat} (name : ByteArray) (w : World) (h : DiskAt w d S D) (hs : name.size ≤ maxLen) :
    Calls Try.prog 21 #[.pointer (some ⟨d, 0, none⟩), .string name] w (DiskPost w d D (.returned (.int .i64 (S.drop name).1)) (S.drop name).2) := by
  have hat := h
  obtain ⟨m, gs, hI, rfl⟩ := h
  go_enter Try.func21, Try.ntmps21
  go_wp2_with fail
  refine (find_any name _ hI hs).mono ?_
  rintro e w1 ⟨hF, hu⟩
  rcases hF with ⟨h0, rfl⟩ | ⟨h0, hno, rfl⟩ | ⟨h0, l1, g, l2, rfl, rfl, rfl⟩
  · have ht := eqf h0
    have Hs := Lib.hid (show S.drop name = (S.may [name], S) by simp [DiskS.drop, ask_may h0, h0])
    clear h0
    go_wp2_with fail
    go_ret
    rw [Hs.out]
    exact DiskPost.stays hat hu _
  · have Hs := Lib.hid (show S.drop name = (4, S) by simp [DiskS.drop, hI.ask_not h0 hno])
    clear h0 hno
    go_wp2_with fail
    go_ret
    rw [Hs.out]
    exact DiskPost.stays hat hu _
  · have hI1 := hI.upd0 hu
    have Hs := Lib.hid (show S.drop g.name = (0, { S with fs := delN g.name S.fs }) by simp [DiskS.drop, hI.ask_mid h0])
    obtain ⟨T, hd⟩ := hI1.hd
    have c3 := cell_of hd 3 rfl
    clear hd h0
    have hm1 : MapIs w1 .string m (l1.map FileG.ent ++ (.string g.name, .pointer (some ⟨g.f, 0, none⟩)) :: l2.map FileG.ent) := by simpa [FileG.ent] using hI1.hm
    obtain ⟨w2, hrun, hm2, hu2⟩ := mp_del (P := Try.prog) hm1 Try.underlying54 Try.underlying9 trivial 9 0
    have hrun' : ∀ ty, (Builtin.delete_ #[54, 9] ty #[.map (some m), .string g.name]).run Try.prog w1 = .ok (.tuple #[]) w2 := fun _ => hrun
    clear hrun
    go_wp2_with fail
    go_ret
    obtain ⟨r1, r2⟩ := hI1.gone hu2 (by simpa using hm2)
    rw [Hs.out]
    exact ⟨rfl, _, ⟨m, _, r1, rfl⟩, (hu.mono (by simp) (fun b hb => .inr hb)).trans r2⟩
end Go.Proofs.Ythphinlibhafcaa
