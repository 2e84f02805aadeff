/-
  The walks through package disk: Crash.
-/
import Derived.Test.YthphinlibhafcaaDiskF
namespace Go.Proofs.Ythphinlibhafcaa
open Go.RowKit Go.Av

/-- What holds at the head of Crash's loop. -/
def CrashRel (w0 : World) (d m : Nat) (S : DiskS) (gs : List FileG) (keep : Int) (r : Nat) (k : Nat) (wr : World) : Prop :=
  ∃ (left cur : List FileG), left.length = k ∧ RangeIs wr .string m r (gs.map FileG.ent) (left.map FileG.ent) ∧ DiskI wr d { S with off := true, fs := mix keep (left.map (·.name)) S.fs } m cur ∧ (∀ g ∈ left, g ∈ cur) ∧
    (left.map (·.name)).Nodup ∧ Upd w0 wr (DiskD d m gs) (r :: DiskD d m cur) ∧ r ∉ DiskD d m cur

theorem crash_step {w0 wr w1 w2 w3 : World} {d m : Nat} {S : DiskS} {gs l1 l2 cur c1 c2 : List FileG} {g : FileG} {keep : Int} {r : Nat} {D3 : List Nat} {v3 x : Value} {Tf : TypeId} {sp : Nat} (hU : Upd w0 wr (DiskD d m gs) (r :: DiskD d m cur)) (hnm : r ∉ DiskD d m cur)
    (hR1 : RangeIs w1 .string m r (gs.map FileG.ent) ((l1 ++ l2).map FileG.ent)) (hu1 : Upd wr w1 [r] [r]) (hI1 : DiskI w1 d { S with off := true, fs := mix keep ((l1 ++ g :: l2).map (·.name)) S.fs } m cur) (hc : cur = c1 ++ g :: c2) (hin : ∀ y ∈ l1 ++ g :: l2, y ∈ cur)
    (hnd : ((l1 ++ g :: l2).map (·.name)).Nodup) (hu2 : Upd w1 w2 g.dom g.dom) (hu3 : Upd w2.drew.drew w3 [] D3) (hown : OwnRow w3 1 v3 ((g.b.take sp).map bv) D3) (h3 : w3.heap[g.f]? = some (.cells #[x, .int .i64 sp] Tf (0, 0))) (hle : sp ≤ (g.b.take sp).length)
    (hφ : sp = g.safe + min keep.toNat (g.b.length - g.safe)) (hspl : sp ≤ g.b.length) : CrashRel w0 d m S gs keep r (l1 ++ l2).length (w3.setCell ⟨g.f, 0, none⟩ v3) := by
  subst hc
  have hlt := hI1.lt
  have hgin : ∀ b ∈ g.dom, b ∈ DiskD d m (c1 ++ g :: c2) := fun b hb => by
    simp only [DiskD, List.mem_cons, List.mem_flatMap]; exact .inr (.inr ⟨g, by simp, hb⟩)
  have hgl : g.f < w1.heap.size := hlt _ (hgin _ (by simp [FileG.dom]))
  have hrl : r < w1.heap.size := by
    obtain ⟨es, clock, seen, _, _, _, _, a5, _⟩ := hR1
    exact lt_of_heap a5
  have hml : m < w1.heap.size := hI1.hm.lt
  obtain ⟨hdm, hdd⟩ := hI1.dom_ne
  have hnf : g.f ∉ D3 := fun h => by
    rcases hu3.new g.f h with h | h
    · cases h
    · have := hu2.size; simp at h; omega
  have hu23 : Upd w1 (w3.setCell ⟨g.f, 0, none⟩ v3) g.dom (g.f :: D3) :=
    (hu2.trans (hu3.drewL.drewL.mono (E := g.dom) (E' := g.f :: D3) (by simp) (fun b hb => by
      rcases List.mem_cons.1 hb with rfl | hb
      · exact .inr (by simp [FileG.dom])
      · exact .inl hb))).trans (Upd.set1 _ _ _ _ (by simp))
  obtain ⟨r1, r2⟩ := hI1.turned (w' := w3.setCell ⟨g.f, 0, none⟩ v3) (g' := { g with b := g.b.take sp, safe := sp, v := v3, D := D3 }) (φ := FileS.crash keep) hu23
    ⟨⟨Tf, heap_setCell_same w3 g.f 0 _ Tf v3 h3⟩, hown.frame (fun b hb => heap_setCell_other _ _ _ _ (fun e => hnf (by rw [← show b = g.f from e]; exact hb))), hle⟩ rfl (List.nodup_cons.2 ⟨hnf, hown.nodup⟩)
    (by simp [FileS.crash, ← hφ]) rfl (by simp; omega)
  have hgm : m ∉ g.dom := (hdd g (by simp)).2
  have hgr : r ∉ g.dom := fun h => hnm (hgin _ h)
  have hnm' : r ∉ DiskD d m (c1 ++ { g with b := g.b.take sp, safe := sp, v := v3, D := D3 } :: c2) := fun h => by
    rcases r2.new r h with h | h
    · exact hnm h
    · omega
  refine ⟨l1 ++ l2, _, rfl, hR1.frame (hu23.keep m hml hgm) (hu23.keep r hrl hgr), ?_, fun y hy => ?_, nodup_mid_names hnd, (hU.trans (hu1.mono (by simp) (fun b hb => .inr hb))).trans (r2.mono (fun b hb => List.mem_cons_of_mem _ hb) (fun b hb => ?_)), hnm'⟩
  · have hms := mix_step keep (l1 := l1.map (·.name)) (l2 := l2.map (·.name)) (n := g.name) (by simpa using hnd) S.fs
    have : ({ S with off := true, fs := mix keep ((l1 ++ l2).map (·.name)) S.fs } : DiskS) = { S with off := true, fs := updN g.name (FileS.crash keep) (mix keep ((l1 ++ g :: l2).map (·.name)) S.fs) } := by
      simp only [List.map_append, List.map_cons, hms]
    rw [this]
    exact r1
  · have hy' := hin y (by simp only [List.mem_append, List.mem_cons] at hy ⊢; rcases hy with h | h <;> simp [h])
    simp only [List.mem_append, List.mem_cons] at hy' ⊢
    rcases hy' with h | rfl | h
    · exact .inl h
    · exfalso
      simp only [List.map_append, List.map_cons, List.nodup_append, List.nodup_cons, List.mem_cons, List.mem_map, not_exists, not_and] at hnd
      rcases List.mem_append.1 hy with h | h
      · exact hnd.2.2 y.name ⟨y, h, rfl⟩ y.name (.inl rfl) rfl
      · exact hnd.2.1.1 y h rfl
    · exact .inr (.inr h)
  · rcases List.mem_cons.1 hb with rfl | hb
    · exact .inr (by simp)
    · exact .inl hb

set_option maxRecDepth 100000 in
set_option maxHeartbeats 1000000 in
theorem crash_any {d : Nat} {S : DiskS} {D : List Nat} (keep : Int) (w : World) (h : DiskAt w d S D) :
    Calls Try.prog 14 #[.pointer (some ⟨d, 0, none⟩), .int .i64 keep] w (DiskPost w d D (.returned (.tuple #[])) (S.crash keep)) := by
  obtain ⟨m, gs, hI, rfl⟩ := h
  obtain ⟨T, hd⟩ := hI.hd
  have c1 : w.cell? ⟨d, 1, none⟩ = some (.bool S.off) := cell_of hd 1 rfl
  have z1 := frz_of hd 1
  have c3 : w.cell? ⟨d, 3, none⟩ = some (.map (some m)) := cell_of hd 3 rfl
  obtain ⟨hI0, hU0⟩ := disk_field hI (S' := { S with off := true }) (T := T) (Upd.set1 w ⟨d, 1, none⟩ (.bool true) [d] (by simp)) (by simpa using heap_setCell_same w d 1 _ T (.bool true) hd) rfl rfl
  obtain ⟨o, hr, hR⟩ := mp_range (P := Try.prog) hI0.hm Try.underlying54
  have hdl := lt_of_heap hd
  have hIa := hI0.upd0 (Upd.alloc0 (w.setCell ⟨d, 1, none⟩ (.bool true)) o [])
  have hUa : Upd w ((w.setCell ⟨d, 1, none⟩ (.bool true)).alloc o) (DiskD d m gs) (w.heap.size :: DiskD d m gs) := by
    have := hU0.trans (Upd.alloc1 (w.setCell ⟨d, 1, none⟩ (.bool true)) o (DiskD d m gs))
    simpa using this
  have hnr : w.heap.size ∉ DiskD d m gs := fun h => by have := hI.lt _ h; omega
  have hst : CrashRel w d m S gs keep w.heap.size gs.length ((w.setCell ⟨d, 1, none⟩ (.bool true)).alloc o) := by
    have hn : gs.map (·.name) = S.fs.map (·.name) := by rw [← hI.hS]; simp [Function.comp_def]
    exact ⟨gs, gs, rfl, by simpa using hR, by rw [hn, mix_all]; exact hIa, fun _ h => h, hI.names, hUa, hnr⟩
  clear hd hI0 hU0 hR hIa hUa
  go_enter Try.func14, Try.ntmps14
  go_wp2_with fail
  generalize (w.setCell ⟨d, 1, none⟩ (.bool true)).alloc o = w0 at *
  go_loopg [5] gs.length (fun k _ wr => CrashRel w d m S gs keep w.heap.size k wr)
  case atStart => exact hst
  case round =>
    obtain ⟨left, cur, hk, hR, hIr, hin, hnd, hU, hnm⟩ := hrel
    have hne : m ≠ w.heap.size := fun h => hnm (by simp [DiskD, h])
    rcases mp_next (P := Try.prog) FileG.ent hR hne with ⟨rfl, hn⟩ | ⟨l1, g, l2, w1, rfl, hn, hR1, hu1, hen⟩
    · clear hR hk
      go_wp2_with fail
      go_end0
      refine ⟨rfl, _, ⟨m, cur, ?_, rfl⟩, hU.mono (fun _ h => h) (fun b hb => .inl (List.mem_cons_of_mem _ hb))⟩
      have := hIr
      simp only [List.map_nil, mix_nil] at this
      exact this
    · have hI1 := hIr.frame (hu1.same hIr.lt (fun b hb h => by simp at h; exact hnm (h ▸ hb)))
      have hgc : g ∈ cur := hin g (by simp)
      obtain ⟨⟨Tf, hf⟩, hown, hsafe⟩ := hI1.hf g hgc
      obtain ⟨a, c, hv⟩ := own_slice hown
      rw [hv] at hf hown
      have f0 : w1.cell? ⟨g.f, 0, none⟩ = some (.slice a g.b.length c) := cell_of hf 0 rfl
      have f1 : w1.cell? ⟨g.f, 1, none⟩ = some (.int .i64 g.safe) := cell_of hf 1 rfl
      have y0 := frz_of hf 0
      have y1 := frz_of hf 1
      have hsm : g.b.length ≤ 1048576 := by
        obtain ⟨c1, c2, rfl⟩ := List.append_of_mem hgc
        exact file_small hI1
      have B : Aside (RangeIs w1 .string m w.heap.size (gs.map FileG.ent) ((l1 ++ l2).map FileG.ent) ∧ Upd wr w1 [w.heap.size] [w.heap.size] ∧ (l1 ++ g :: l2).length = gk ∧ w1.heap[g.f]? = some (.cells #[.slice a g.b.length c, .int .i64 g.safe] Tf (0, 0)) ∧ g.v = .slice a g.b.length c) := ⟨hR1, hu1, hk, hf, hv⟩
      clear hf hv hR1 hR hu1 hk hr
      simp only [FileG.ent] at hn hen
      go_wp2_with fail
      have HS : (fun W : World => W.cell? ⟨g.f, 0, none⟩ = some (.slice a g.b.length c) ∧ W.cell? ⟨g.f, 1, none⟩ = some (.int .i64 g.safe)) w1.drew := ⟨f0, f1⟩
      obtain ⟨kp, hkp⟩ : ∃ kp : Nat, kp = keep.toNat := ⟨_, rfl⟩
      obtain ⟨ln, hln⟩ : ∃ ln : Nat, ln = g.b.length - g.safe := ⟨_, rfl⟩
      obtain ⟨mn, hmn⟩ : ∃ mn : Nat, mn = min kp ln := ⟨_, rfl⟩
      obtain ⟨sp, hsp⟩ : ∃ sp : Nat, sp = g.safe + mn := ⟨_, rfl⟩
      have hspl : sp ≤ g.b.length := by omega
      have e1 : (if keep < 0 then (0 : Int) else keep) = (kp : Int) := by split <;> omega
      have e2 : IntKind.i64.wrap ((g.b.length : Int) - (g.safe : Int)) = (ln : Int) := by rw [IntWalk.i64_in _ (by omega)]; omega
      have e3 : (if ln < kp then (ln : Int) else (kp : Int)) = (mn : Int) := by split <;> omega
      have e4 : IntKind.i64.wrap ((g.safe : Int) + (mn : Int)) = (sp : Int) := by rw [IntWalk.i64_in _ (by omega)]; omega
      have HE := Lib.hid (show kp = keep.toNat ∧ ln = g.b.length - g.safe ∧ mn = min kp ln ∧ sp = g.safe + mn from ⟨hkp, hln, hmn, hsp⟩)
      clear hkp hln hmn hsp
      refine wp_region_M (fun W => W.cell? ⟨g.f, 0, none⟩ = some (.slice a g.b.length c) ∧ W.cell? ⟨g.f, 1, none⟩ = some (.int .i64 g.safe)) 18 (by kernel_rfl) ?_
      refine wpAnyM_take (by kernel_rfl) (by intro c a d v w h; cases d <;> exact h) [(0, false), (1, false), (2, false), (3, true), (4, false), (5, false), (6, false), (7, false), (8, false), (9, true), (10, false), (11, false), (12, false), (13, false), (14, true), (15, false), (16, false), (17, false)] (fuel := 3) (by kernel_rfl) ?_
      apply Exists.intro; refine ⟨?_, HS, ?_⟩
      · iterate 18 ((first | apply yieldP | apply yieldL); (· (simp only [List.getElem?_toArray, List.getElem?_cons_succ, List.getElem?_cons_zero]; try rfl)); (· rfl); (· (intros; go_simp; try with_reducible rfl)); (· (simp only [Act.put, List.setIfInBounds_toArray, List.set_cons_zero, List.set_cons_succ]; try rfl)))
        exact rfl
      refine wpAnyM_of_any _ _ _ _ (by decide) ?_
      refine wpAny_list [18, 19, 20] (fuel := 0) (by kernel_rfl) ?_
      simp only [List.filterMap_cons, List.filterMap_nil, List.getElem?_toArray, List.getElem?_cons_succ, List.getElem?_cons_zero]
      clear e1 e2 e3 e4 HS
      go_wp2_with fail
      obtain ⟨hR1, hu1, hk, hf, hv⟩ := B.out
      obtain ⟨HE1, HE2, HE3, HE4⟩ := HE.out
      have hf2 : (w1.setCell ⟨g.f, 1, none⟩ (.int .i64 sp)).heap[g.f]? = some (.cells #[.slice a g.b.length c, .int .i64 sp] Tf (0, 0)) := heap_setCell_same w1 g.f 1 _ Tf (.int .i64 sp) hf
      obtain ⟨c1, c2, hc⟩ := List.append_of_mem hgc
      have hnd1 : g.dom.Nodup := file_nd (hc ▸ hI1)
      have hnf := (List.nodup_cons.1 hnd1).1
      have hown2 : OwnRow (w1.setCell ⟨g.f, 1, none⟩ (.int .i64 sp)) 1 (.slice a g.b.length c) (g.b.map bv) g.D := hown.frame (fun b hb => heap_setCell_other _ _ _ _ (fun e => hnf (by rw [← show b = g.f from e]; exact hb)))
      have hu2 := Upd.set1 w1 ⟨g.f, 1, none⟩ (.int .i64 sp) g.dom (by simp [FileG.dom])
      obtain ⟨htk, hkc⟩ := hown2.take hspl
      rw [Nat.mul_one, map_take'] at htk
      obtain ⟨E, hrd, hED⟩ := htk.read
      obtain ⟨i0, hi0, hz0, hz1, hz2⟩ := info_parts info5
      have hsl := fun W : World => run_slice_hi (P := Try.prog) Try.underlying28 hi0 a g.b.length c sp hkc W
      generalize w1.setCell ⟨g.f, 1, none⟩ (.int .i64 sp) = w2 at *
      have f0 : w2.cell? ⟨g.f, 0, none⟩ = some (.slice a g.b.length c) := cell_of hf2 0 rfl
      have f1 : w2.cell? ⟨g.f, 1, none⟩ = some (.int .i64 sp) := cell_of hf2 1 rfl
      have HS : (fun W : World => W.cell? ⟨g.f, 0, none⟩ = some (.slice a g.b.length c) ∧ W.cell? ⟨g.f, 1, none⟩ = some (.int .i64 sp)) w2.drew := ⟨f0, f1⟩
      have C : Aside (ReadRow w2 1 (.slice a sp c) ((g.b.take sp).map bv) E ∧ w2.heap[g.f]? = some (.cells #[.slice a g.b.length c, .int .i64 sp] Tf (0, 0)) ∧ Upd w1 w2 g.dom g.dom ∧ cur = c1 ++ g :: c2 ∧ w1.heap[g.f]? = some (.cells #[.slice a g.b.length c, .int .i64 g.safe] Tf (0, 0)) ∧ g.v = .slice a g.b.length c ∧ OwnRow w2 1 (.slice a g.b.length c) (g.b.map bv) g.D) := ⟨hrd, hf2, hu2, hc, hf, hv, hown2⟩
      have hRd := C.out.1
      clear hrd hf2 hu2 hc hf hv htk hown2 hR1 hu1 hk HE1 HE2 HE3 HE4 hown
      refine wp_region_M (fun W => W.cell? ⟨g.f, 0, none⟩ = some (.slice a g.b.length c) ∧ W.cell? ⟨g.f, 1, none⟩ = some (.int .i64 sp)) 11 (by kernel_rfl) ?_
      refine wpAnyM_take (by kernel_rfl) (by intro c a d v w h; cases d <;> exact h) [(0, false), (1, false), (2, false), (3, false), (4, true), (5, false), (6, false), (7, false), (8, true), (9, false)] (fuel := 4) (by kernel_rfl) ?_
      apply Exists.intro; refine ⟨?_, HS, ?_⟩
      · iterate 10 ((first | apply yieldP | apply yieldL); (· (simp only [List.getElem?_toArray, List.getElem?_cons_succ, List.getElem?_cons_zero]; try rfl)); (· rfl); (· (intros; go_simp; try with_reducible rfl)); (· (simp only [Act.put, List.setIfInBounds_toArray, List.set_cons_zero, List.set_cons_succ]; try rfl)))
        exact rfl
      refine wpAnyM_one (fuel := 3) (i := 10) (by kernel_rfl) (by rfl) (fun K hK => ?_)    -- CALL
      go_wp2_with (go_at_call 34; go_must (refine (clone_any _ _ E _ (hRd.frame (w' := w2.drew.drew) (fun _ _ => rfl)) (by simp; omega)).mono ?_); rintro e w3 ⟨v3, D3, rfl, hown3, hu3⟩)
      obtain ⟨a3, n3, c3', rfl, _⟩ := hown3.len
      obtain ⟨hrd, hf2, hu2, hc, hf, hv, hown2⟩ := C.out
      have h3 := (hu3.keep g.f (lt_of_heap hf2) (by simp)).trans hf2
      have g0 : w3.cell? ⟨g.f, 0, none⟩ = some (.slice a g.b.length c) := cell_of h3 0 rfl
      have g1 : w3.cell? ⟨g.f, 1, none⟩ = some (.int .i64 sp) := cell_of h3 1 rfl
      have y0 := frz_of h3 0
      refine hK _ _ ⟨g0, g1⟩ ?_
      refine wpAnyM_of_any _ _ _ _ (by decide) ?_
      refine wpAny_list [11, 12, 13] (fuel := 0) (by kernel_rfl) ?_
      simp only [List.filterMap_cons, List.filterMap_nil, List.getElem?_toArray, List.getElem?_cons_succ, List.getElem?_cons_zero]
      have C3 : Aside (w3.heap[g.f]? = some (.cells #[.slice a g.b.length c, .int .i64 sp] Tf (0, 0))) := h3
      clear h3 hrd hf2 hu2 hc hf hv hown2
      go_wp2_with fail
      go_roundg (l1 ++ l2).length
      case rel =>
        obtain ⟨hR1, hu1, hk, _, _⟩ := B.out
        obtain ⟨HE1, HE2, HE3, HE4⟩ := HE.out
        obtain ⟨hrd, hf2, hu2, hc, hf, hv, hown2⟩ := C.out
        exact crash_step hU hnm hR1 hu1 hI1 hc hin hnd hu2 hu3 hown3 C3.out (by simp; omega) (by subst HE1; subst HE2; subst HE3; subst HE4; rfl) hspl
      case measure =>
        obtain ⟨_, _, hk, _⟩ := B.out
        simp at hk ⊢; omega
end Go.Proofs.Ythphinlibhafcaa
