/-
  Two disks side by side: the law's own 'same'.
-/
import Derived.Test.YthphinlibhafcaaFdS
namespace Go.Proofs.Ythphinlibhafcaa
open Go.RowKit Go.Av
section
variable {w0 w : World} {d t : Nat} {S T : DiskS} {R : List Thing} {rows : List (Value × Bs)}
theorem enc_eq (l : List (List UInt8)) : l.map encStr = l.map stv := rfl
theorem dfacts (h : Fd w0 w t T R rows) {v1 v2 : Value} {bb : Bs} (hv1 : (v1, bb) ∈ rows) (hv2 : (v2, bb) ∈ rows) :
    (convert 28 9 v1).run Try.prog w = .ok (.string ⟨bb.toArray⟩) w ∧ (convert 28 9 v2).run Try.prog w = .ok (.string ⟨bb.toArray⟩) w ∧ w.cell? ⟨t, 2, none⟩ = some (.bool T.off) ∧ w.cell? ⟨t, 3, none⟩ = some (.int .i64 T.lives) := by
  obtain ⟨v, gs, rows', h1, hX⟩ := h
  obtain ⟨E, hE⟩ := hX.sep.get (h1 _ hv1)
  obtain ⟨F, hF⟩ := hX.sep.get (h1 _ hv2)
  have hb := hX.sep.blk
  exact ⟨conv_str (P := Try.prog) (src := 28) (dst := 9) Try.underlying28 Try.underlying5 Try.underlying9 hE w (fun _ _ => rfl), conv_str (P := Try.prog) (src := 28) (dst := 9) Try.underlying28 Try.underlying5 Try.underlying9 hF w (fun _ _ => rfl), cell_of hb 2 rfl, cell_of hb 3 rfl⟩
theorem Fd.power (h : Fd w0 w t T (ThDisk d S :: R) rows) : Calls Try.prog 30 #[.pointer (some ⟨d, 0, none⟩)] w (fun e w' => e = .returned (.bool !S.off) ∧ w' = w) := by
  obtain ⟨R', rows', h1, hS, -⟩ := h.out
  exact SD.power hS
theorem Fd.lives (h : Fd w0 w t T (ThDisk d S :: R) rows) : Calls Try.prog 17 #[.pointer (some ⟨d, 0, none⟩)] w (fun e w' => e = .returned (.int .i64 S.lives) ∧ w' = w) := by
  obtain ⟨R', rows', h1, hS, -⟩ := h.out
  exact SD.lives hS
theorem Fd.size (h : Fd w0 w t T (ThDisk d S :: R) rows) : Calls Try.prog 12 #[.pointer (some ⟨d, 0, none⟩)] w (fun e w' => e = .returned (.int .i64 (DiskS.size S)) ∧ Upd w w' [] []) := by
  obtain ⟨R', rows', h1, hS, -⟩ := h.out
  exact SD.size hS
theorem Fd.names (h : Fd w0 w t T (ThDisk d S :: R) rows) (hn : S.fs.length ≤ 1000000) (hs : ∀ f ∈ S.fs, f.name.size ≤ maxLen) : Calls Try.prog 19 #[.pointer (some ⟨d, 0, none⟩)] w (NamesPost w S) := by
  obtain ⟨R', rows', h1, hS, -⟩ := h.out
  exact SD.names hS hn hs

set_option maxRecDepth 100000 in
set_option maxHeartbeats 4000000 in
theorem dsame (h : Fd w0 w t T (ThDisk d S :: R) rows) (hr : DRel S T) (s : ByteArray) (hs : s.size ≤ maxLen) (hnm : ∀ f ∈ S.fs, f.name.size ≤ maxLen) (hfew : S.fs.length ≤ 1000) :
    Calls Try.prog 29 #[.pointer (some ⟨d, 0, none⟩), .pointer (some ⟨t, 0, none⟩), .string s] w fun e w' => e = .returned (.bool true) ∧ Fd w0 w' t T (ThDisk d S :: R) rows := by
  obtain ⟨R', rows', h1, hS, back⟩ := h.out
  obtain ⟨hN, hlo, hhi, hfit, hsafe⟩ := SD.fine hS
  have hNT := named_perm hr.perm hN
  have HRD := Lib.hid (SD.read hS s hs rfl rfl)
  have HB := Lib.hid (show _ ∧ _ from ⟨h1, @back⟩)
  have HR := Lib.hid (show _ ∧ _ ∧ _ ∧ _ ∧ _ from ⟨hr, hNT, hN, hnm, hfew⟩)
  have htot := total_perm hr.perm
  have HFT := Lib.hid (show (total T.fs : Int) ≤ 1048576 by omega)
  clear hS h1 back h hNT hN hr hnm hsafe
  go_enter Try.func29, Try.ntmps29
  go_wp2_with fail
  refine HRD.out.mono ?_
  rintro e w1 ⟨v1, rfl, h1⟩
  have H1 := Lib.hid (show Fd w0 w1 t T (ThDisk d S :: R) ((v1, DiskS.read S s) :: rows) from HB.out.2 (rows2 := _) (fun r hr => List.mem_cons_of_mem _ hr) h1 (fun r hr => by
    rcases List.mem_cons.1 hr with rfl | hr
    · exact List.mem_cons_self ..
    · exact List.mem_cons_of_mem _ (HB.out.1 r hr)))
  have HR2 := Lib.hid (fd_read H1.out HR.out.2.1 s hs)
  clear h1 HRD
  go_wp2_with fail
  refine HR2.out.mono ?_
  rintro e w2 ⟨v2, rfl, hW, h2⟩
  subst w2
  have hrs : readS T s = DiskS.read S s := by
    unfold readS DiskS.read
    rw [HR.out.1.ask]
    split
    · rename_i h0
      exact HR.out.1.read HR.out.2.2.1 s h0
    · rfl
  rw [hrs] at h2
  rw [HR.out.1.ask]
  obtain ⟨ek, hek⟩ : ∃ ek, S.ask s = ek := ⟨_, rfl⟩
  obtain ⟨bb, hbb⟩ : ∃ bb, DiskS.read S s = bb := ⟨_, rfl⟩
  rw [hek]
  rw [hbb] at h2
  have H2 := Lib.hid h2
  have heq : (ek == ek) = true := by simp
  obtain ⟨a0, cp0, gs0, hg0, hg1, hb0, hcp, hcm, hrow⟩ := h2.facts
  have c2 := cell_of hb0 2 rfl
  rw [show (#[Value.int .i64 T.room, .slice a0 gs0.length cp0, .bool T.off, .int .i64 T.lives] : Array Value)[2] = .bool T.off from rfl, HR.out.1.off] at c2
  have c1 := cell_of hb0 1 rfl
  rw [show (#[Value.int .i64 T.room, .slice a0 gs0.length cp0, .bool T.off, .int .i64 T.lives] : Array Value)[1] = .slice a0 gs0.length cp0 from rfl] at c1
  unfold maxLen at hcm
  have HG := Lib.hid (show _ ∧ _ from ⟨hg0, hrow⟩)
  clear h2 hrs hek hbb H1 HR2 hb0 hg0 hrow
  cases hoff : S.off with
  | true =>
    rw [hoff] at c2
    have HSZ := Lib.hid (show DiskS.size S = 0 by unfold DiskS.size; rw [hoff]; rfl)
    have HL := Lib.hid (show ∃ E, ReadRow w1 1 (.slice none 0 0) ((DiskS.names S).map stv) E from ⟨[], by
      rw [HR.out.1.names, hoff]
      exact ⟨none, 0, 0, rfl, by simp, Nat.le_refl _, by decide, fun _ => rfl, .inl ⟨rfl, rfl⟩⟩⟩)
    clear c1 HG
    go_wp2_with fail
    have H3 := Lib.hid (show Fd w0 w1.drew t T (ThDisk d S :: R) ((v2, bb) :: (v1, bb) :: rows) from H2.out.drew)
    have HOF := Lib.hid hoff
    clear hoff
    obtain ⟨lv, hlv⟩ : ∃ lv, S.lives = lv := ⟨_, rfl⟩
    have hlb : (lv == lv) = true := by simp
    have HF := Lib.hid (dfacts H3.out (v1 := v1) (v2 := v2) (bb := bb) (by simp) (by simp))
    have HPW := Lib.hid (Fd.power H3.out)
    have HLV := Lib.hid (Fd.lives H3.out)
    have HSI := Lib.hid (Fd.size H3.out)
    rw [HSZ.out] at HSI
    rw [HR.out.1.off, HR.out.1.lives, HOF.out, hlv] at HF
    rw [HOF.out] at HPW
    rw [hlv] at HLV
    have HLL := Lib.hid hlv
    clear hlv
    refine wp_region_M (fun W => (convert 28 9 v1).run Try.prog W = .ok (.string ⟨bb.toArray⟩) W ∧ (convert 28 9 v2).run Try.prog W = .ok (.string ⟨bb.toArray⟩) W ∧ W.cell? ⟨t, 2, none⟩ = some (.bool true) ∧ W.cell? ⟨t, 3, none⟩ = some (.int .i64 lv)) 41 (by kernel_rfl) ?_
    refine wpAnyM_take (by kernel_rfl) (by intro c a d v w h; cases d <;> exact h) [(0, false), (1, false), (2, false), (3, false), (4, false), (5, true), (6, false), (7, true), (8, false), (9, false), (10, false), (11, false), (13, false), (14, false), (15, false), (16, true), (17, false)] (fuel := 25) (by kernel_rfl) ?_
    apply Exists.intro; refine ⟨?_, HF.out, ?_⟩
    · iterate 17 ((first | (apply yieldN; (· (simp only [List.getElem?_toArray, List.getElem?_cons_succ, List.getElem?_cons_zero]; try rfl)); (· rfl)) | ((first | apply yieldP | apply yieldL); (· (simp only [List.getElem?_toArray, List.getElem?_cons_succ, List.getElem?_cons_zero]; try rfl)); (· rfl); (· (intros; go_simp; try with_reducible rfl)))); (· (simp only [Act.put, List.setIfInBounds_toArray, List.set_cons_zero, List.set_cons_succ]; try rfl)))
      exact rfl
    refine wpAnyM_one (fuel := 24) (i := 12) (by kernel_rfl) (by rfl) (fun K hK => ?_)    -- CALL
    go_wp2_with fail
    refine HPW.out.mono ?_
    rintro e w5 ⟨rfl, hW⟩
    subst w5
    go_wp2_with fail
    refine hK _ _ HF.out ?_
    clear hK HPW
    refine wpAnyM_take (by kernel_rfl) (by intro c a d v w h; cases d <;> exact h) [(18, false), (19, false), (20, false), (21, false), (23, false), (24, false), (25, false), (26, true)] (fuel := 16) (by kernel_rfl) ?_
    apply Exists.intro; refine ⟨?_, HF.out, ?_⟩
    · iterate 8 ((first | (apply yieldN; (· (simp only [List.getElem?_toArray, List.getElem?_cons_succ, List.getElem?_cons_zero]; try rfl)); (· rfl)) | ((first | apply yieldP | apply yieldL); (· (simp only [List.getElem?_toArray, List.getElem?_cons_succ, List.getElem?_cons_zero]; try rfl)); (· rfl); (· (intros; go_simp; try with_reducible rfl)))); (· (simp only [Act.put, List.setIfInBounds_toArray, List.set_cons_zero, List.set_cons_succ]; try rfl)))
      exact rfl
    refine wpAnyM_one (fuel := 15) (i := 22) (by kernel_rfl) (by rfl) (fun K hK => ?_)    -- CALL
    go_wp2_with fail
    refine HLV.out.mono ?_
    rintro e w5 ⟨rfl, hW⟩
    subst w5
    go_wp2_with fail
    refine hK _ _ HF.out ?_
    clear hK HLV
    refine wpAnyM_take (by kernel_rfl) (by intro c a d v w h; cases d <;> exact h) [(27, false), (28, false), (29, false), (30, false), (32, false)] (fuel := 10) (by kernel_rfl) ?_
    apply Exists.intro; refine ⟨?_, HF.out, ?_⟩
    · iterate 5 ((first | (apply yieldN; (· (simp only [List.getElem?_toArray, List.getElem?_cons_succ, List.getElem?_cons_zero]; try rfl)); (· rfl)) | ((first | apply yieldP | apply yieldL); (· (simp only [List.getElem?_toArray, List.getElem?_cons_succ, List.getElem?_cons_zero]; try rfl)); (· rfl); (· (intros; go_simp; try with_reducible rfl)))); (· (simp only [Act.put, List.setIfInBounds_toArray, List.set_cons_zero, List.set_cons_succ]; try rfl)))
      exact rfl
    refine wpAnyM_one (fuel := 9) (i := 31) (by kernel_rfl) (by rfl) (fun K hK => ?_)    -- CALL
    go_wp2_with fail
    refine HSI.out.mono ?_
    rintro e w5 ⟨rfl, hu5⟩
    have H5 := Lib.hid (H3.out.keep hu5)
    have HF5 := Lib.hid (dfacts H5.out (v1 := v1) (v2 := v2) (bb := bb) (by simp) (by simp))
    rw [HR.out.1.off, HR.out.1.lives, HOF.out, HLL.out] at HF5
    have HNM := Lib.hid (Fd.names H5.out (by have := HR.out.2.2.2.2; omega) HR.out.2.2.2.1)
    have HU5 := Lib.hid ((Upd.refl w1 []).drew.trans hu5)
    clear HSI hu5
    go_wp2_with fail
    refine hK _ _ HF5.out ?_
    clear hK
    refine wpAnyM_take (by kernel_rfl) (by intro c a d v w h; cases d <;> exact h) [(33, false), (34, false), (35, false), (36, false), (38, false)] (fuel := 4) (by kernel_rfl) ?_
    apply Exists.intro; refine ⟨?_, HF5.out, ?_⟩
    · iterate 5 ((first | (apply yieldN; (· (simp only [List.getElem?_toArray, List.getElem?_cons_succ, List.getElem?_cons_zero]; try rfl)); (· rfl)) | ((first | apply yieldP | apply yieldL); (· (simp only [List.getElem?_toArray, List.getElem?_cons_succ, List.getElem?_cons_zero]; try rfl)); (· rfl); (· (intros; go_simp; try with_reducible rfl)))); (· (simp only [Act.put, List.setIfInBounds_toArray, List.set_cons_zero, List.set_cons_succ]; try rfl)))
      exact rfl
    refine wpAnyM_one (fuel := 3) (i := 37) (by kernel_rfl) (by rfl) (fun K hK => ?_)    -- CALL
    go_wp2_with fail
    refine HNM.out.mono ?_
    rintro e w6 ⟨nv6, E6, rfl, hr6, -, hu6⟩
    obtain ⟨EL, hEL⟩ := HL.out
    have HSM := Lib.hid (same_any nv6 _ _ w6 hr6 (hEL.frame ((HU5.out.trans hu6).same hEL.lt (by simp))))
    have H6 := Lib.hid (H5.out.keep hu6)
    have HF6 := Lib.hid (dfacts H6.out (v1 := v1) (v2 := v2) (bb := bb) (by simp) (by simp))
    rw [HR.out.1.off, HR.out.1.lives, HOF.out, HLL.out] at HF6
    clear HNM hr6 hu6 hEL
    go_wp2_with fail
    refine hK _ _ HF6.out ?_
    clear hK
    refine wpAnyM_one (fuel := 2) (i := 39) (by kernel_rfl) (by rfl) (fun K hK => ?_)    -- CALL
    go_wp2_with fail
    refine HSM.out.mono ?_
    rintro e w7 ⟨rfl, hu7⟩
    have H7 := Lib.hid (H6.out.keep hu7)
    have HF7 := Lib.hid (dfacts H7.out (v1 := v1) (v2 := v2) (bb := bb) (by simp) (by simp))
    rw [HR.out.1.off, HR.out.1.lives, HOF.out, HLL.out] at HF7
    clear HSM hu7
    go_wp2_with fail
    refine hK _ _ HF7.out ?_
    clear hK
    refine wpAnyM_take (by kernel_rfl) (by intro c a d v w h; cases d <;> exact h) [(40, false)] (fuel := 1) (by kernel_rfl) ?_
    apply Exists.intro; refine ⟨?_, HF7.out, ?_⟩
    · iterate 1 ((first | (apply yieldN; (· (simp only [List.getElem?_toArray, List.getElem?_cons_succ, List.getElem?_cons_zero]; try rfl)); (· rfl)) | ((first | apply yieldP | apply yieldL); (· (simp only [List.getElem?_toArray, List.getElem?_cons_succ, List.getElem?_cons_zero]; try rfl)); (· rfl); (· (intros; go_simp; try with_reducible rfl)))); (· (simp only [Act.put, List.setIfInBounds_toArray, List.set_cons_zero, List.set_cons_succ]; try rfl)))
      exact rfl
    refine wpAnyM_of_any _ _ _ _ (by decide) ?_
    refine wpAny_list [41] (fuel := 0) (by kernel_rfl) ?_
    simp only [List.filterMap_cons, List.filterMap_nil, List.getElem?_toArray, List.getElem?_cons_succ, List.getElem?_cons_zero]
    go_wp2_with fail
    go_ret
    exact ⟨rfl, H7.out.also (fun r hr => by simp [hr])⟩
  | false =>
    rw [hoff] at c2
    have hsz : DiskS.size S = (total T.fs : Int) := by unfold DiskS.size; rw [hoff, total_perm HR.out.1.perm]; rfl
    have HSR := Lib.hid (fd_size H2.out HFT.out)
    obtain ⟨tt, htt⟩ : ∃ tt, total T.fs = tt := ⟨_, rfl⟩
    rw [htt] at hsz HSR
    have hsb : ((tt : Int) == (tt : Int)) = true := by simp
    have HSZ := Lib.hid hsz
    clear hsz htt
    go_wp2_with fail
    refine HSR.out.mono ?_
    rintro e w3 ⟨rfl, hW⟩
    subst w3
    obtain ⟨i0, hi0, hz0, hz1, hz2⟩ := info_parts infoStr
    go_wp2_with fail
    go_loopg [11, 13] gs0.length (fun k vl vi wr => ∃ (p : Nat) (D : List Nat), p ≤ gs0.length ∧ k = gs0.length - p ∧ vi = .int .i64 (p : Int) ∧ OwnRow wr 1 vl ((gs0.take p).map (fun g => Value.string g.2.name)) D ∧ Upd w1 wr [] D)
    case atStart => exact ⟨0, [], Nat.zero_le _, rfl, rfl, OwnRow.nil _ _, Upd.refl _ _⟩
    case round =>
      obtain ⟨p, D, hp, hk, hvi, hown, hu⟩ := hrel
      subst hvi
      obtain ⟨al, nl, cl, rfl, hll, hnl, hcl, -⟩ := id hown
      rw [List.length_map, List.length_take, Nat.mul_one, Nat.min_eq_left hp] at hll
      subst hll
      unfold maxLen at hcl
      have c1 := upd_cell hu c1
      have HO := Lib.hid (show _ ∧ _ from ⟨hown, hu⟩)
      by_cases hlt : p < gs0.length
      · obtain ⟨y, rfl, hys, e0, -, -, -⟩ := HG.out.2 p hlt
        have e0 := upd_cell hu e0
        obtain ⟨nm, hnm⟩ : ∃ nm, gs0[p].2.name = nm := ⟨_, rfl⟩
        rw [hnm] at e0
        have ua := Upd.alloc0 wr (.cells #[.string nm] 9) []
        have hra := one_new wr 1 (by decide) #[.string nm] rfl 9
        obtain ⟨n1, hn1, hsrc⟩ := hra.src (P := Try.prog) (tx := 30) Try.underlying30 (by intro u hu; simp at hu; subst hu; rfl)
        obtain rfl : n1 = 1 := by simp at hn1; omega
        have hownA := OwnRow.frame hown (ua.same (OwnRow.lt hown) (by simp))
        have HNX := Lib.hid (show (gs0.take p).map (fun g => Value.string g.2.name) ++ [Value.string nm] = (gs0.take (p + 1)).map (fun g => Value.string g.2.name) from by
          rw [List.take_succ_eq_append_getElem hlt, List.map_append, ← hnm]; rfl)
        have hln : ((gs0.take p).map (fun g => Value.string g.2.name)).length = p := by rw [List.length_map, List.length_take, Nat.min_eq_left hp]
        have HUA := Lib.hid (hu.trans (Upd.alloc0 wr (.cells #[.string nm] 9) D))
        clear hown hu ua hra hn1 hnm c2
        go_wp2_with (at_builtin; go_must (refine wpList_app rfl _ _ 30 30 rfl 1 _ _ _ rfl hownA _ i0 _ Try.underlying30 hi0 hz0 hz1 rfl _ _ _ rfl hsrc (fun n hn => by rw [hln] at hn; rw [hz2]; omega) ?_); intro a3 n3 c3 w3 D3 hown3 hu3)
        go_roundg (gs0.length - (p + 1))
        case rel => exact ⟨p + 1, D3, by omega, rfl, by go_num, by rw [← HNX.out]; exact hown3, HUA.out.trans hu3⟩
        case measure => omega
      obtain rfl : p = gs0.length := by omega
      have c2 := upd_cell hu c2
      have HL := Lib.hid (show ∃ E, ReadRow wr 1 (.slice al gs0.length cl) ((DiskS.names S).map stv) E from by
        obtain ⟨E, hE, -⟩ := hown.read
        rw [List.take_length] at hE
        refine ⟨E, ?_⟩
        rw [HR.out.1.names, hoff, if_neg (by simp), ← HG.out.1]
        have e : ((gs0.map (·.2)).map nmL).map stv = gs0.map (fun g => Value.string g.2.name) := by
          rw [List.map_map, List.map_map]
          refine List.map_congr_left fun g _ => ?_
          show Value.string ⟨g.2.name.data.toList.toArray⟩ = _
          rw [Array.toArray_toList]
        rw [e]
        exact hE)
      have H2 := Lib.hid (H2.out.keep hu)
      clear hown hu HO HG HSR
      go_wp2_with fail
      clear c1
      have H3 := Lib.hid (show Fd w0 wr.drew t T (ThDisk d S :: R) ((v2, bb) :: (v1, bb) :: rows) from H2.out.drew)
      have HOF := Lib.hid hoff
      clear hoff
      obtain ⟨lv, hlv⟩ : ∃ lv, S.lives = lv := ⟨_, rfl⟩
      have hlb : (lv == lv) = true := by simp
      have HF := Lib.hid (dfacts H3.out (v1 := v1) (v2 := v2) (bb := bb) (by simp) (by simp))
      have HPW := Lib.hid (Fd.power H3.out)
      have HLV := Lib.hid (Fd.lives H3.out)
      have HSI := Lib.hid (Fd.size H3.out)
      rw [HSZ.out] at HSI
      rw [HR.out.1.off, HR.out.1.lives, HOF.out, hlv] at HF
      rw [HOF.out] at HPW
      rw [hlv] at HLV
      have HLL := Lib.hid hlv
      clear hlv
      refine wp_region_M (fun W => (convert 28 9 v1).run Try.prog W = .ok (.string ⟨bb.toArray⟩) W ∧ (convert 28 9 v2).run Try.prog W = .ok (.string ⟨bb.toArray⟩) W ∧ W.cell? ⟨t, 2, none⟩ = some (.bool false) ∧ W.cell? ⟨t, 3, none⟩ = some (.int .i64 lv)) 41 (by kernel_rfl) ?_
      refine wpAnyM_take (by kernel_rfl) (by intro c a d v w h; cases d <;> exact h) [(0, false), (1, false), (2, false), (3, false), (4, false), (5, true), (6, false), (7, true), (8, false), (9, false), (10, false), (11, false), (13, false), (14, false), (15, false), (16, true), (17, false)] (fuel := 25) (by kernel_rfl) ?_
      apply Exists.intro; refine ⟨?_, HF.out, ?_⟩
      · iterate 17 ((first | (apply yieldN; (· (simp only [List.getElem?_toArray, List.getElem?_cons_succ, List.getElem?_cons_zero]; try rfl)); (· rfl)) | ((first | apply yieldP | apply yieldL); (· (simp only [List.getElem?_toArray, List.getElem?_cons_succ, List.getElem?_cons_zero]; try rfl)); (· rfl); (· (intros; go_simp; try with_reducible rfl)))); (· (simp only [Act.put, List.setIfInBounds_toArray, List.set_cons_zero, List.set_cons_succ]; try rfl)))
        exact rfl
      refine wpAnyM_one (fuel := 24) (i := 12) (by kernel_rfl) (by rfl) (fun K hK => ?_)    -- CALL
      go_wp2_with fail
      refine HPW.out.mono ?_
      rintro e w5 ⟨rfl, hW⟩
      subst w5
      go_wp2_with fail
      refine hK _ _ HF.out ?_
      clear hK HPW
      refine wpAnyM_take (by kernel_rfl) (by intro c a d v w h; cases d <;> exact h) [(18, false), (19, false), (20, false), (21, false), (23, false), (24, false), (25, false), (26, true)] (fuel := 16) (by kernel_rfl) ?_
      apply Exists.intro; refine ⟨?_, HF.out, ?_⟩
      · iterate 8 ((first | (apply yieldN; (· (simp only [List.getElem?_toArray, List.getElem?_cons_succ, List.getElem?_cons_zero]; try rfl)); (· rfl)) | ((first | apply yieldP | apply yieldL); (· (simp only [List.getElem?_toArray, List.getElem?_cons_succ, List.getElem?_cons_zero]; try rfl)); (· rfl); (· (intros; go_simp; try with_reducible rfl)))); (· (simp only [Act.put, List.setIfInBounds_toArray, List.set_cons_zero, List.set_cons_succ]; try rfl)))
        exact rfl
      refine wpAnyM_one (fuel := 15) (i := 22) (by kernel_rfl) (by rfl) (fun K hK => ?_)    -- CALL
      go_wp2_with fail
      refine HLV.out.mono ?_
      rintro e w5 ⟨rfl, hW⟩
      subst w5
      go_wp2_with fail
      refine hK _ _ HF.out ?_
      clear hK HLV
      refine wpAnyM_take (by kernel_rfl) (by intro c a d v w h; cases d <;> exact h) [(27, false), (28, false), (29, false), (30, false), (32, false)] (fuel := 10) (by kernel_rfl) ?_
      apply Exists.intro; refine ⟨?_, HF.out, ?_⟩
      · iterate 5 ((first | (apply yieldN; (· (simp only [List.getElem?_toArray, List.getElem?_cons_succ, List.getElem?_cons_zero]; try rfl)); (· rfl)) | ((first | apply yieldP | apply yieldL); (· (simp only [List.getElem?_toArray, List.getElem?_cons_succ, List.getElem?_cons_zero]; try rfl)); (· rfl); (· (intros; go_simp; try with_reducible rfl)))); (· (simp only [Act.put, List.setIfInBounds_toArray, List.set_cons_zero, List.set_cons_succ]; try rfl)))
        exact rfl
      refine wpAnyM_one (fuel := 9) (i := 31) (by kernel_rfl) (by rfl) (fun K hK => ?_)    -- CALL
      go_wp2_with fail
      refine HSI.out.mono ?_
      rintro e w5 ⟨rfl, hu5⟩
      have H5 := Lib.hid (H3.out.keep hu5)
      have HF5 := Lib.hid (dfacts H5.out (v1 := v1) (v2 := v2) (bb := bb) (by simp) (by simp))
      rw [HR.out.1.off, HR.out.1.lives, HOF.out, HLL.out] at HF5
      have HNM := Lib.hid (Fd.names H5.out (by have := HR.out.2.2.2.2; omega) HR.out.2.2.2.1)
      have HU5 := Lib.hid ((Upd.refl wr []).drew.trans hu5)
      clear HSI hu5
      go_wp2_with fail
      refine hK _ _ HF5.out ?_
      clear hK
      refine wpAnyM_take (by kernel_rfl) (by intro c a d v w h; cases d <;> exact h) [(33, false), (34, false), (35, false), (36, false), (38, false)] (fuel := 4) (by kernel_rfl) ?_
      apply Exists.intro; refine ⟨?_, HF5.out, ?_⟩
      · iterate 5 ((first | (apply yieldN; (· (simp only [List.getElem?_toArray, List.getElem?_cons_succ, List.getElem?_cons_zero]; try rfl)); (· rfl)) | ((first | apply yieldP | apply yieldL); (· (simp only [List.getElem?_toArray, List.getElem?_cons_succ, List.getElem?_cons_zero]; try rfl)); (· rfl); (· (intros; go_simp; try with_reducible rfl)))); (· (simp only [Act.put, List.setIfInBounds_toArray, List.set_cons_zero, List.set_cons_succ]; try rfl)))
        exact rfl
      refine wpAnyM_one (fuel := 3) (i := 37) (by kernel_rfl) (by rfl) (fun K hK => ?_)    -- CALL
      go_wp2_with fail
      refine HNM.out.mono ?_
      rintro e w6 ⟨nv6, E6, rfl, hr6, -, hu6⟩
      obtain ⟨EL, hEL⟩ := HL.out
      have HSM := Lib.hid (same_any nv6 _ _ w6 hr6 (hEL.frame ((HU5.out.trans hu6).same hEL.lt (by simp))))
      have H6 := Lib.hid (H5.out.keep hu6)
      have HF6 := Lib.hid (dfacts H6.out (v1 := v1) (v2 := v2) (bb := bb) (by simp) (by simp))
      rw [HR.out.1.off, HR.out.1.lives, HOF.out, HLL.out] at HF6
      clear HNM hr6 hu6 hEL
      go_wp2_with fail
      refine hK _ _ HF6.out ?_
      clear hK
      refine wpAnyM_one (fuel := 2) (i := 39) (by kernel_rfl) (by rfl) (fun K hK => ?_)    -- CALL
      go_wp2_with fail
      refine HSM.out.mono ?_
      rintro e w7 ⟨rfl, hu7⟩
      have H7 := Lib.hid (H6.out.keep hu7)
      have HF7 := Lib.hid (dfacts H7.out (v1 := v1) (v2 := v2) (bb := bb) (by simp) (by simp))
      rw [HR.out.1.off, HR.out.1.lives, HOF.out, HLL.out] at HF7
      clear HSM hu7
      go_wp2_with fail
      refine hK _ _ HF7.out ?_
      clear hK
      refine wpAnyM_take (by kernel_rfl) (by intro c a d v w h; cases d <;> exact h) [(40, false)] (fuel := 1) (by kernel_rfl) ?_
      apply Exists.intro; refine ⟨?_, HF7.out, ?_⟩
      · iterate 1 ((first | (apply yieldN; (· (simp only [List.getElem?_toArray, List.getElem?_cons_succ, List.getElem?_cons_zero]; try rfl)); (· rfl)) | ((first | apply yieldP | apply yieldL); (· (simp only [List.getElem?_toArray, List.getElem?_cons_succ, List.getElem?_cons_zero]; try rfl)); (· rfl); (· (intros; go_simp; try with_reducible rfl)))); (· (simp only [Act.put, List.setIfInBounds_toArray, List.set_cons_zero, List.set_cons_succ]; try rfl)))
        exact rfl
      refine wpAnyM_of_any _ _ _ _ (by decide) ?_
      refine wpAny_list [41] (fuel := 0) (by kernel_rfl) ?_
      simp only [List.filterMap_cons, List.filterMap_nil, List.getElem?_toArray, List.getElem?_cons_succ, List.getElem?_cons_zero]
      go_wp2_with fail
      go_ret
      exact ⟨rfl, H7.out.also (fun r hr => by simp [hr])⟩
end
end Go.Proofs.Ythphinlibhafcaa
