/-
  The walks through package disk: Rename, Crash.
-/
import Derived.Test.YthphinlibhafcaaDiskC
import Derived.Test.YthphinlibhafcaaDiskE
namespace Go.Proofs.Ythphinlibhafcaa
open Go.RowKit Go.Av

theorem may2 {S : DiskS} {a b : ByteArray} (h : S.may [a, b] = 0) : S.off = false ∧ goodN a = true ∧ goodN b = true := by
  unfold DiskS.may at h
  cases ho : S.off <;> simp [ho] at h ⊢
  exact h

set_option maxRecDepth 100000 in
set_option maxHeartbeats 1000000 in
theorem rename_any {d : Nat} {S : DiskS} {D : List Nat} (old name : ByteArray) (w : World) (h : DiskAt w d S D) (hs : old.size ≤ maxLen) (hs2 : name.size ≤ maxLen) :
    Calls Try.prog 18 #[.pointer (some ⟨d, 0, none⟩), .string old, .string name] w (DiskPost w d D (.returned (.int .i64 (S.rename old name).1)) (S.rename old name).2) := by
  have hat := h
  obtain ⟨m, gs, hI, rfl⟩ := h
  have hmay : ∀ (W : World), Upd w W [] [] → W.cell? ⟨w.heap.size, 0, none⟩ = some (.string old) → W.cell? ⟨w.heap.size, 1, none⟩ = some (.string name) → Calls Try.prog 31 #[.pointer (some ⟨d, 0, none⟩), .slice (some ⟨w.heap.size, 0, none⟩) 2 2] W fun e w' => e = .returned (.int .i64 (S.may [old, name])) ∧ W = w' := fun W hu hc hc2 =>
    may_any w.heap.size 2 2 [old, name] W (hI.upd0 hu) rfl (by decide) (fun i h => by
      match i, h with
      | 0, _ => exact hc
      | 1, _ => exact hc2) (by simpa using ⟨hs, hs2⟩)
  have Hmay := Lib.hid hmay
  clear hmay
  by_cases h0 : S.may [old, name] = 0
  · have hne : (S.may [old, name] != 0) = false := by simp [h0]
    have H0 := Lib.hid h0
    clear h0
    go_enter Try.func18, Try.ntmps18
    go_wp2_with fail
    refine (Hmay.out _ (Upd.alloc0 _ _ _) (by simp) (by simp)).mono ?_
    rintro e w1 ⟨rfl, hw⟩
    have hu : Upd w w1 [] [] := by rw [← hw]; exact Upd.alloc0 _ _ _
    clear hw
    have hI1 := hI.upd0 hu
    obtain ⟨T, hd⟩ := hI1.hd
    have c3 : w1.cell? ⟨d, 3, none⟩ = some (.map (some m)) := cell_of hd 3 rfl
    clear hd
    rcases look gs old with ⟨l1, g, l2, rfl, rfl⟩ | hno
    · have hl := look_there hI1 (g := g) (by simp)
      have hm1 : MapIs w1 .string m (l1.map FileG.ent ++ (.string g.name, .pointer (some ⟨g.f, 0, none⟩)) :: l2.map FileG.ent) := by simpa [FileG.ent] using hI1.hm
      obtain ⟨w2, hrun, hm2, hu2⟩ := mp_del (P := Try.prog) hm1 Try.underlying54 Try.underlying9 trivial 9 0
      have hrun' : ∀ ty, (Builtin.delete_ #[54, 9] ty #[.map (some m), .string g.name]).run Try.prog w1 = .ok (.tuple #[]) w2 := fun _ => hrun
      obtain ⟨hI2, hU2⟩ := hI1.gone hu2 (by simpa using hm2)
      obtain ⟨T2, hd2⟩ := hI2.hd
      have c3' : w2.cell? ⟨d, 3, none⟩ = some (.map (some m)) := cell_of hd2 3 rfl
      have hnm := hI1.named
      rw [← hI1.hS, List.map_append, List.map_cons] at hnm
      have hmm : hasN g.name S.fs = true := by rw [← hI1.hS, List.map_append, List.map_cons]; exact hasN_mid rfl
      have Hs := Lib.hid (show S.rename g.name name = (0, { S with fs := renN g.name name S.fs }) by simp [DiskS.rename, H0.out, hmm])
      have Hnm := Lib.hid hnm
      have hfit0 := hI1.fits
      rw [← hI1.hS, List.map_append, List.map_cons, total_app, total_cons] at hfit0
      clear hd2 hrun hnm hmm hm1
      rcases look (l1 ++ l2) name with ⟨k1, g2, k2, hk, rfl⟩ | hno
      · have hm2' : MapIs w2 .string m (k1.map FileG.ent ++ (.string g2.name, .pointer (some ⟨g2.f, 0, none⟩)) :: k2.map FileG.ent) := by
          have : (l1 ++ l2).map FileG.ent = (k1 ++ g2 :: k2).map FileG.ent := by rw [hk]
          have q : MapIs w2 .string m ((l1 ++ l2).map FileG.ent) := by simpa using hm2
          rw [this] at q
          simpa [FileG.ent] using q
        obtain ⟨w3, hrun3, hm3, hu3⟩ := mp_old (P := Try.prog) (v := .pointer (some ⟨g.f, 0, none⟩)) hm2' Try.underlying54 Try.underlying9 trivial
        have HK := Lib.hid hk
        clear hk
        go_wp2_with fail
        go_ret
        rw [Hs.out]
        have hnk : Named (k1.map FileG.toFileS ++ g2.toFileS :: k2.map FileG.toFileS) := by
          have := hI2.named
          rw [← hI2.hS] at this
          simpa [HK.out] using this
        have e1 : renN g.name g2.name S.fs = (k1 ++ { g with name := g2.name } :: k2).map FileG.toFileS := by
          rw [← hI1.hS, List.map_append, List.map_cons, renN_old (k1 := k1.map FileG.toFileS) (k2 := k2.map FileG.toFileS) (f2 := g2.toFileS) Hnm.out rfl (by rw [← List.map_append, HK.out]; simp) rfl hnk]
          simp
        have hfit : (total ((k1 ++ { g with name := g2.name } :: k2).map FileG.toFileS) : Int) ≤ S.room := by
          have e2 : total ((l1 ++ l2).map FileG.toFileS) = total ((k1 ++ g2 :: k2).map FileG.toFileS) := by rw [HK.out]
          simp only [List.map_append, List.map_cons, total_app, total_cons] at e2 ⊢
          omega
        obtain ⟨r1, r2⟩ := hI1.remap (gs' := k1 ++ { g with name := g2.name } :: k2) (hu2.trans hu3) (by simpa [FileG.ent] using hm3) (fun x hx => by
            simp only [List.mem_append, List.mem_cons] at hx
            have hin : ∀ y ∈ k1 ++ g2 :: k2, y ∈ l1 ++ g :: l2 := fun y hy => by
              rw [← HK.out] at hy
              simp only [List.mem_append, List.mem_cons] at hy ⊢
              rcases hy with h | h <;> simp [h]
            rcases hx with hx | rfl | hx
            · exact ⟨x, hin x (by simp [hx]), rfl, rfl, rfl, rfl, rfl⟩
            · exact ⟨g, by simp, rfl, rfl, rfl, rfl, rfl⟩
            · exact ⟨x, hin x (by simp [hx]), rfl, rfl, rfl, rfl, rfl⟩) (disk_nd_perm (mid := [g2]) hI1.nd rfl (by simpa using HK.out) rfl) hfit
        exact ⟨rfl, _, ⟨m, _, by rw [e1]; exact r1, rfl⟩, (hu.mono (by simp) (fun b hb => .inr hb)).trans r2⟩
      · have hno' : ∀ p ∈ (l1.map FileG.ent ++ l2.map FileG.ent), p.1 ≠ .string name := fun p hp he => by
          rw [← List.map_append] at hp
          obtain ⟨y, hy, rfl⟩ := List.mem_map.1 hp
          exact hno y hy (by simpa [FileG.ent] using he)
        obtain ⟨w3, hrun3, hm3, hu3⟩ := mp_new (P := Try.prog) (key := .string name) (v := .pointer (some ⟨g.f, 0, none⟩)) hm2 Try.underlying54 Try.underlying9 trivial hno'
        have HN := Lib.hid hno
        clear hno hno'
        go_wp2_with fail
        go_ret
        rw [Hs.out]
        have e1 : renN g.name name S.fs = ((l1 ++ l2) ++ { g with name := name } :: []).map FileG.toFileS := by
          rw [← hI1.hS, List.map_append, List.map_cons, renN_new Hnm.out rfl (fun x hx => by
            rw [← List.map_append] at hx
            obtain ⟨y, hy, rfl⟩ := List.mem_map.1 hx
            exact HN.out y hy)]
          simp
        have hfit : (total (((l1 ++ l2) ++ { g with name := name } :: []).map FileG.toFileS) : Int) ≤ S.room := by
          simp only [List.map_append, List.map_cons, List.map_nil, total_app, total_cons]
          simp [total] at hfit0 ⊢
          omega
        obtain ⟨r1, r2⟩ := hI1.remap (gs' := (l1 ++ l2) ++ { g with name := name } :: []) (hu2.trans hu3) (by simpa [FileG.ent] using hm3) (fun x hx => by
            simp only [List.mem_append, List.mem_cons, List.not_mem_nil, or_false] at hx
            rcases hx with (hx | hx) | rfl
            · exact ⟨x, by simp [hx], rfl, rfl, rfl, rfl, rfl⟩
            · exact ⟨x, by simp [hx], rfl, rfl, rfl, rfl, rfl⟩
            · exact ⟨g, by simp, rfl, rfl, rfl, rfl, rfl⟩) (disk_nd_perm (mid := []) hI1.nd rfl (by simp) rfl) hfit
        exact ⟨rfl, _, ⟨m, _, by rw [e1]; exact r1, rfl⟩, (hu.mono (by simp) (fun b hb => .inr hb)).trans r2⟩
    · have hl := look_not hI1 hno
      have hmm : hasN old S.fs = false := by
        rw [← hI1.hS]
        exact hasN_not (fun x hx => by obtain ⟨y, hy, rfl⟩ := List.mem_map.1 hx; exact hno y hy)
      have Hs := Lib.hid (show S.rename old name = (4, S) by simp [DiskS.rename, H0.out, hmm])
      clear hno hmm
      go_wp2_with fail
      go_ret
      rw [Hs.out]
      exact DiskPost.stays hat hu _
  · have hne : (S.may [old, name] != 0) = true := by simpa using h0
    have Hs := Lib.hid (show S.rename old name = (S.may [old, name], S) by simp [DiskS.rename, h0])
    clear h0
    go_enter Try.func18, Try.ntmps18
    go_wp2_with fail
    refine (Hmay.out _ (Upd.alloc0 _ _ _) (by simp) (by simp)).mono ?_
    rintro e w1 ⟨rfl, hw⟩
    have hu : Upd w w1 [] [] := by rw [← hw]; exact Upd.alloc0 _ _ _
    clear hw
    go_wp2_with fail
    go_ret
    rw [Hs.out]
    exact DiskPost.stays hat hu _
end Go.Proofs.Ythphinlibhafcaa
