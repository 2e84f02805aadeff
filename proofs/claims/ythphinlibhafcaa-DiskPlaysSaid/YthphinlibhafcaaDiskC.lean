/-
  The walks through package disk: Cut, Crash, Rename.
-/
import Derived.Test.YthphinlibhafcaaDiskZ
import Derived.Test.YthphinlibhafcaaReg
namespace Go.Proofs.Ythphinlibhafcaa
open Go.RowKit Go.Av

/-- A file has other bytes, in new memory. -/
theorem file_set {w w1 w2 w3 : World} {d m : Nat} {S : DiskS} {l1 l2 : List FileG} {g : FileG} {T : TypeId} {a : Option Addr} {n c : Nat} {v' : Value} {D' : List Nat} {b' : Bs} {s' : Nat} {φ : FileS → FileS} (hu : Upd w w1 [] []) (hI : DiskI w1 d S m (l1 ++ g :: l2))
    (hf : w1.heap[g.f]? = some (.cells #[.slice a n c, .int .i64 g.safe] T (0, 0))) (_hv : g.v = .slice a n c) (hu2 : Upd w1 w2 [] D') (hown : OwnRow w2 1 v' (b'.map bv) D') (hs : s' ≤ b'.length)
    (hφ : { g.toFileS with b := b', safe := s' } = φ g.toFileS) (hle : b'.length ≤ g.b.length) (h3 : w3.heap[g.f]? = some (.cells #[v', .int .i64 s'] T (0, 0))) (hu3 : Upd w2 w3 (g.f :: D') (g.f :: D')) (hk : ∀ b, b ≠ g.f → w3.heap[b]? = w2.heap[b]?) :
    DiskI w3 d { S with fs := updN g.name φ S.fs } m (l1 ++ { g with b := b', safe := s', v := v', D := D' } :: l2) ∧ Upd w w3 (DiskD d m (l1 ++ g :: l2)) (DiskD d m (l1 ++ { g with b := b', safe := s', v := v', D := D' } :: l2)) := by
  have hlt := lt_of_heap hf
  have hnf : g.f ∉ D' := fun h => by rcases hu2.new g.f h with h | h; cases h; omega
  obtain ⟨r1, r2⟩ := hI.turned (w' := w3) (g' := { g with b := b', safe := s', v := v', D := D' }) (φ := φ)
    ((hu2.mono (E := g.dom) (E' := g.f :: D') (by simp) (fun b hb => by
      rcases List.mem_cons.1 hb with rfl | hb
      · exact .inr (by simp [FileG.dom])
      · exact .inl hb)).trans hu3)
    ⟨⟨T, h3⟩, hown.frame (fun b hb => hk b (fun e => hnf (e ▸ hb))), hs⟩ rfl (List.nodup_cons.2 ⟨hnf, hown.nodup⟩) hφ rfl hle
  exact ⟨r1, (hu.mono (by simp) (fun b hb => .inr hb)).trans r2⟩

set_option maxRecDepth 100000 in
set_option maxHeartbeats 1000000 in
theorem cut_any {d : Nat} {S : DiskS} {D : List Nat} (name : ByteArray) (n : Int) (w : World) (h : DiskAt w d S D) (hs : name.size ≤ maxLen) :
    Calls Try.prog 20 #[.pointer (some ⟨d, 0, none⟩), .string name, .int .i64 n] w (DiskPost w d D (.returned (.int .i64 (S.cut name n).1)) (S.cut name n).2) := by
  have hat := h
  obtain ⟨m, gs, hI, rfl⟩ := h
  go_enter Try.func20, Try.ntmps20
  go_wp2_with fail
  refine (find_any name _ hI hs).mono ?_
  rintro e w1 ⟨hF, hu⟩
  rcases hF with ⟨h0, rfl⟩ | ⟨h0, hno, rfl⟩ | ⟨h0, l1, g, l2, rfl, rfl, rfl⟩
  · have ht := nef h0
    have Hs := Lib.hid (show S.cut name n = (S.may [name], S) by simp [DiskS.cut, ask_may h0, h0])
    clear h0
    go_wp2_with fail
    go_ret
    rw [Hs.out]
    exact DiskPost.stays hat hu _
  · have Hs := Lib.hid (show S.cut name n = (4, S) by simp [DiskS.cut, hI.ask_not h0 hno])
    clear h0 hno
    go_wp2_with fail
    go_ret
    rw [Hs.out]
    exact DiskPost.stays hat hu _
  · have hI1 := hI.upd0 hu
    have Ha := Lib.hid (hI.ask_mid h0)
    have hnm := hI.named
    rw [← hI.hS, List.map_append, List.map_cons] at hnm
    have Hg := Lib.hid (show getN g.name S.fs = g.b by
      rw [← hI.hS, List.map_append, List.map_cons]
      exact getN_mid hnm.before rfl)
    obtain ⟨⟨Tf, hf⟩, hown, hsafe⟩ := hI1.hf g (by simp)
    obtain ⟨a, c, hv⟩ := own_slice hown
    rw [hv] at hf hown
    have f0 : w1.cell? ⟨g.f, 0, none⟩ = some (.slice a g.b.length c) := cell_of hf 0 rfl
    have f1 : w1.cell? ⟨g.f, 1, none⟩ = some (.int .i64 g.safe) := cell_of hf 1 rfl
    have z0 := frz_of hf 0
    have z1 := frz_of hf 1
    have hsm := file_small hI
    have HF := Lib.hid hf
    have HV := Lib.hid hv
    clear hf hv h0
    by_cases hn0 : n < 0
    · have Hs := Lib.hid (show S.cut g.name n = (1, S) by simp [DiskS.cut, Ha.out, hn0])
      go_wp2_with fail
      go_ret
      rw [Hs.out]
      exact DiskPost.stays hat hu _
    · by_cases hn1 : (g.b.length : Int) < n
      · have Hs := Lib.hid (show S.cut g.name n = (1, S) by simp [DiskS.cut, Ha.out, Hg.out, hn1])
        go_wp2_with fail
        go_ret
        rw [Hs.out]
        exact DiskPost.stays hat hu _
      · obtain ⟨k, rfl⟩ := Int.eq_ofNat_of_zero_le (show 0 ≤ n by omega)
        have hk : k ≤ g.b.length := by omega
        have Hs := Lib.hid (show S.cut g.name k = (0, { S with fs := updN g.name (FileS.cut k) S.fs }) by
          unfold DiskS.cut
          rw [Ha.out, Hg.out, if_neg (by simp), if_neg (by omega)]
          simp)
        go_wp2_with fail
        obtain ⟨htk, hkc⟩ := hown.take hk
        rw [Nat.mul_one, map_take'] at htk
        obtain ⟨E, hrd, _⟩ := htk.read
        obtain ⟨i0, hi0, hz0, hz1, hz2⟩ := info_parts info5
        have hsl := fun W : World => run_slice_hi (P := Try.prog) Try.underlying28 hi0 a g.b.length c k hkc W
        have HS : (fun W : World => W.cell? ⟨g.f, 0, none⟩ = some (.slice a g.b.length c) ∧ W.cell? ⟨g.f, 1, none⟩ = some (.int .i64 g.safe)) w1.drew := ⟨f0, f1⟩
        obtain ⟨sm, hsm2⟩ : ∃ sm : Nat, sm = min g.safe k := ⟨_, rfl⟩
        have hmin : (if k < g.safe then (k : Int) else (g.safe : Int)) = (sm : Int) := by split <;> omega
        have HSM := Lib.hid hsm2
        have HR := Lib.hid hrd
        clear hsm2 hrd htk hown
        refine wp_region_M (fun W => W.cell? ⟨g.f, 0, none⟩ = some (.slice a g.b.length c) ∧ W.cell? ⟨g.f, 1, none⟩ = some (.int .i64 g.safe)) 15 (by kernel_rfl) ?_
        refine wpAnyM_take (by kernel_rfl) panic_put [(0, false), (1, false), (2, false), (3, false), (4, false), (5, true), (6, false), (7, false), (9, false), (10, false), (11, false), (12, true), (13, false), (14, false)] (fuel := 7) (by kernel_rfl) ?_
        apply Exists.intro; refine ⟨?_, HS, ?_⟩
        · iterate 14 ((first | apply yieldP | apply yieldL); (· (simp only [List.getElem?_toArray, List.getElem?_cons_succ, List.getElem?_cons_zero]; try rfl)); (· rfl); (· (intros; go_simp; try with_reducible rfl)); (· (simp only [Act.put, List.setIfInBounds_toArray, List.set_cons_zero, List.set_cons_succ]; try rfl)))
          exact rfl
        refine wpAnyM_one (fuel := 6) (i := 8) (by kernel_rfl) (by rfl) (fun K hK => ?_)    -- CALL
        go_wp2_with (go_at_call 34; go_must (refine (clone_any _ _ E _ (HR.out.frame (w' := w1.drew) (fun _ _ => rfl)) (by simp; omega)).mono ?_); rintro e w2 ⟨v2, D2, rfl, hown2, hu2⟩)
        obtain ⟨a2, n2, c2, rfl, _⟩ := hown2.len
        have h2 := (hu2.keep g.f (lt_of_heap HF.out) (by simp)).trans HF.out
        have g0 : w2.cell? ⟨g.f, 0, none⟩ = some (.slice a g.b.length c) := cell_of h2 0 rfl
        have g1 : w2.cell? ⟨g.f, 1, none⟩ = some (.int .i64 g.safe) := cell_of h2 1 rfl
        have y0 := frz_of h2 0
        have y1 := frz_of h2 1
        refine hK _ _ ⟨g0, g1⟩ ?_
        refine wpAnyM_of_any _ _ _ _ (by decide) ?_
        refine wpAny_list [15, 16, 17, 18, 19, 20] (fuel := 0) (by kernel_rfl) ?_
        have H2 := Lib.hid h2
        clear h2
        simp only [List.filterMap_cons, List.filterMap_nil, List.getElem?_toArray, List.getElem?_cons_succ, List.getElem?_cons_zero]
        go_wp2_with fail
        go_ret
        rw [Hs.out]
        have h3 := heap_setCell_same w2 g.f 0 _ Tf (.slice a2 n2 c2) H2.out
        have h4 := heap_setCell_same _ g.f 1 _ Tf (.int .i64 sm) h3
        obtain ⟨r1, r2⟩ := file_set (hu := hu) hI1 HF.out HV.out hu2.drewL hown2 (b' := g.b.take k) (s' := sm) (by rw [HSM.out]; simp; omega) (φ := FileS.cut k) (by simp [FileS.cut, HSM.out]) (by simp; omega) (by simpa using h4)
          ((Upd.set1 w2 ⟨g.f, 0, none⟩ (.slice a2 n2 c2) (g.f :: D2) (by simp)).trans (Upd.set1 _ ⟨g.f, 1, none⟩ (.int .i64 sm) (g.f :: D2) (by simp)))
          (fun b hb => by rw [heap_setCell_other _ _ _ _ hb, heap_setCell_other _ _ _ _ hb])
        exact ⟨rfl, _, ⟨m, _, r1, rfl⟩, r2⟩
end Go.Proofs.Ythphinlibhafcaa
