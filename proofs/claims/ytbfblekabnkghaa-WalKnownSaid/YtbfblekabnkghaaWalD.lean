/-
  The log's Sync and Add: the walks.
-/
import Derived.Test.YtbfblekabnkghaaInfos
import Derived.Test.YtbfblekabnkghaaWalC
namespace Go.Proofs.Ytbfblekabnkghaa
open Go.RowKit Go.Av

def doneS (L : LogS) : LogS := { L with done := true }
def syncS (L : LogS) (S : DiskS) : Int × LogS × DiskS :=
  if offS L S then (10, doneS L, S) else if (S.sync nmLog).1 = 4 then (0, L, (S.sync nmLog).2) else ((S.sync nmLog).1, { L with done := L.done || ((S.sync nmLog).1 != 0) }, (S.sync nmLog).2)
def addS (L : LogS) (S : DiskS) (r : Bs) : Int × LogS × DiskS :=
  if offS L S then (10, doneS L, S) else if 20000 < r.length then (2, L, S) else
    if (S.append nmLog (frameS r)).1 ≠ 0 then ((S.append nmLog (frameS r)).1, doneS L, (S.append nmLog (frameS r)).2) else (0, { L with recs := L.recs ++ [r] }, (S.append nmLog (frameS r)).2)


section
variable {w0 w : World} {g d : Nat} {L : LogS} {S : DiskS} {R : List Thing} {rows : List (Value × Bs)}

theorem done_off (L : LogS) : ({ L with done := L.done || ((10 : Int) != 0) } : LogS) = doneS L := by simp [doneS]

set_option maxRecDepth 100000 in
theorem logSync_any (h : Sep w0 w (ThLog g d L :: ThDisk d S :: R) rows) :
    Calls Try.prog 14 #[.pointer (some ⟨g, 0, none⟩)] w fun e w' => e = .returned (.int .i64 (syncS L S).1) ∧ Sep w0 w' (ThLog g d (syncS L S).2.1 :: ThDisk d (syncS L S).2.2 :: R) rows := by
  obtain ⟨q, hq⟩ : ∃ q, syncS L S = q := ⟨_, rfl⟩
  rw [hq]
  unfold syncS at hq
  have H := Lib.hid h
  clear h
  obtain ⟨k, hk⟩ : ∃ k, (S.sync nmLog).1 = k := ⟨_, rfl⟩
  obtain ⟨S', hS'⟩ : ∃ k, (S.sync nmLog).2 = k := ⟨_, rfl⟩
  rw [hk, hS'] at hq
  have HK := Lib.hid (show S.sync nmLog = (k, S') by rw [← hk, ← hS'])
  obtain ⟨o, ho⟩ : ∃ o, offS L S = o := ⟨_, rfl⟩
  rw [ho] at hq
  have HQ := Lib.hid hq
  clear hq hk hS'
  go_enter Try.func14, Try.ntmps14
  go_wp2_with fail
  refine (off_any H.out).mono ?_
  rintro e w1 ⟨rfl, h⟩
  rw [ho]
  have H1 := Lib.hid h
  clear h ho
  cases o with
  | true =>
    go_wp2_with fail
    refine (logCheck_any 10 H1.out).mono ?_
    rintro e w2 ⟨rfl, h⟩
    have H2 := Lib.hid h
    clear h
    go_wp2_with fail
    go_ret
    rw [← HQ.out]
    exact ⟨rfl, by simpa [doneS] using H2.out⟩
  | false =>
    obtain ⟨ar, cr, ae, ce, T, h1, -⟩ := logc H1.out
    have c0 := cell_of h1 0 rfl
    clear h1
    go_wp2_with fail
    refine (SD.sync H1.out.swap nmLog (by decide) HK.out).mono ?_
    rintro e w2 ⟨rfl, h⟩
    have H2 := Lib.hid h.swap
    clear h c0
    by_cases h4 : k = 4
    · subst h4
      go_wp2_with fail
      go_ret
      rw [← HQ.out]
      exact ⟨rfl, by simpa using H2.out⟩
    · have h4' : (k == 4) = false := by simp [h4]
      go_wp2_with fail
      refine (logCheck_any k H2.out).mono ?_
      rintro e w3 ⟨rfl, h⟩
      have H3 := Lib.hid h
      clear h
      go_wp2_with fail
      go_ret
      rw [← HQ.out]
      exact ⟨by simp [h4], by simpa [h4] using H3.out⟩

set_option maxRecDepth 100000 in
set_option maxHeartbeats 1000000 in
theorem add_any {v : Value} {r : Bs} (hv : (v, r) ∈ rows) (hfit : (frames L.recs).length + 20012 ≤ 1073741824) (h : Sep w0 w (ThLog g d L :: ThDisk d S :: R) rows) :
    Calls Try.prog 13 #[.pointer (some ⟨g, 0, none⟩), v] w fun e w' => e = .returned (.int .i64 (addS L S r).1) ∧ Sep w0 w' (ThLog g d (addS L S r).2.1 :: ThDisk d (addS L S r).2.2 :: R) rows := by
  obtain ⟨i0, hi0, hz0, hz1, hz2⟩ := info_parts infoI
  obtain ⟨j0, hj0, hy0, hy1, hy2⟩ := info_parts infoB
  obtain ⟨q, hq⟩ : ∃ q, addS L S r = q := ⟨_, rfl⟩
  rw [hq]
  unfold addS at hq
  have H := Lib.hid h
  obtain ⟨k, hk⟩ : ∃ k, (S.append nmLog (frameS r)).1 = k := ⟨_, rfl⟩
  obtain ⟨S', hS'⟩ : ∃ k, (S.append nmLog (frameS r)).2 = k := ⟨_, rfl⟩
  rw [hk, hS'] at hq
  have HK := Lib.hid (show S.append nmLog (frameS r) = (k, S') by rw [← hk, ← hS'])
  obtain ⟨o, ho⟩ : ∃ o, offS L S = o := ⟨_, rfl⟩
  rw [ho] at hq
  have HQ := Lib.hid hq
  have hds : o = false → L.done = false := fun e => by
    rw [e] at ho
    unfold offS at ho
    simp only [Bool.or_eq_false_iff] at ho
    exact ho.1.1
  have HDS := Lib.hid hds
  clear hq hk hS' h hds
  go_enter Try.func13, Try.ntmps13
  go_wp2_with fail
  refine (off_any H.out).mono ?_
  rintro e w1 ⟨rfl, h⟩
  rw [ho]
  have H1 := Lib.hid h
  clear h ho
  cases o with
  | true =>
    go_wp2_with fail
    refine (logCheck_any 10 H1.out).mono ?_
    rintro e w2 ⟨rfl, h⟩
    have H2 := Lib.hid h
    clear h
    go_wp2_with fail
    go_ret
    rw [← HQ.out]
    exact ⟨rfl, by simpa [doneS] using H2.out⟩
  | false =>
  have hd := HDS.out rfl
  obtain ⟨E, hE⟩ := H1.out.get hv
  have HV := Lib.hid hv
  have HQ := Lib.hid (show (if 20000 < r.length then (2, L, S) else if k ≠ 0 then (k, doneS L, S') else (0, { L with recs := L.recs ++ [r] }, S')) = q by rw [← HQ.out]; rfl)
  have HE := Lib.hid hE
  clear hE
  go_wp2_with fail
  refine (put_any v r E _ HE.out).mono ?_
  rintro e w2 (⟨hbig, rfl, rfl⟩ | ⟨hsm, v2, D2, rfl, ho2, hu2⟩)
  · go_wp2_with fail
    go_ret
    rw [← HQ.out, if_pos hbig]
    exact ⟨rfl, H1.out⟩
  obtain ⟨E2, hr2, hE2⟩ := ho2.read
  obtain ⟨a2, n2, c2, rfl, hl2⟩ := ho2.len
  rw [List.length_map, Nat.mul_one] at hl2
  subst hl2
  have H2 := Lib.hid (H1.out.row hu2 hr2 hE2)
  obtain ⟨ar, cr, ae, ce, T, h1, -⟩ := logc H2.out
  have c0 := cell_of h1 0 rfl
  have HQ := Lib.hid (show (if k ≠ 0 then (k, doneS L, S') else (0, { L with recs := L.recs ++ [r] }, S')) = q from (if_neg (by omega)).symm.trans HQ.out)
  have HFL := Lib.hid (frameS_length r)
  clear h1 hr2 hE2 ho2 hu2
  go_wp2_with fail
  refine (SD.append H2.out.swap nmLog (by decide) (List.mem_cons_self ..) HK.out).mono ?_
  rintro e w3 ⟨rfl, h⟩
  have H3 := Lib.hid h.swap
  clear h c0
  go_wp2_with fail
  refine (logCheck_any k H3.out).mono ?_
  rintro e w4 ⟨rfl, h⟩
  rw [hd, Bool.false_or] at h
  have H4 := Lib.hid h
  clear h
  by_cases hk : k = 0
  case neg =>
    have hk' : (k != 0) = true := by simp [hk]
    go_wp2_with fail
    go_ret
    rw [← HQ.out, if_pos hk]
    rw [hk'] at H4
    exact ⟨rfl, H4.out.drop_row⟩
  subst hk
  have hL : ({ L with done := ((0 : Int) != 0) } : LogS) = L := by cases L; simp at hd; subst hd; rfl
  rw [hL] at H4
  have HQ := Lib.hid (show q = (0, { L with recs := L.recs ++ [r] }, S') from HQ.out.symm)
  obtain ⟨ar, cr, ae, ce, T, h1, hn4, hc4, hn5, hc5⟩ := logc H4.out
  have c4 := cell_of h1 4 rfl
  have c5 := cell_of h1 5 rfl
  unfold maxLen at hc4 hc5
  have H1G := Lib.hid h1
  clear h1 hL hd HDS HK H H1 H2 H3
  have HF := Lib.hid hfit
  obtain ⟨m, hm⟩ : ∃ m, m = (frames L.recs).length := ⟨_, rfl⟩
  obtain ⟨fl, hfl⟩ : ∃ m, m = (frameS r).length := ⟨_, rfl⟩
  have hfm : m + 20012 ≤ 1073741824 := by rw [hm]; exact hfit
  have hfl2 : fl ≤ 20012 := by rw [hfl, HFL.out]; omega
  have hml : 12 * L.recs.length ≤ m := by rw [hm]; exact frames_many _
  have HM := Lib.hid (show m = (frames L.recs).length ∧ fl = (frameS r).length from ⟨hm, hfl⟩)
  rw [← hfl]
  have HEND := Lib.hid (show ∀ (rows' : List (Value × Bs)) (W : World), Sep w0 W (ThLog g d L :: ThDisk d S' :: R) rows' → Calls Try.prog 34 #[.pointer (some ⟨g, 0, none⟩), .int .i64 L.recs.length] W fun e w' => e = .returned (.int .i64 (m : Int)) ∧ w' = W from fun rows' W hW => by
    have := end_any L.recs.length (Nat.le_refl _) hW
    rw [List.take_length, ← hm] at this
    exact this)
  clear hfit hfl hm
  go_wp2_with fail
  refine wp_region_M (fun W => W.cell? ⟨g, 4, none⟩ = some (.slice ar L.recs.length cr) ∧ W.cell? ⟨g, 5, none⟩ = some (.slice ae L.recs.length ce)) 17 (by kernel_rfl) ?_
  refine wpAnyM_take (by kernel_rfl) (by intro c a d v w h; cases d <;> exact h) [(0, false), (1, false), (2, false), (3, false), (4, true), (5, false), (6, false), (7, false), (8, false), (9, true), (10, false), (12, false), (13, false)] (fuel := 7) (by kernel_rfl) ?_
  apply Exists.intro; refine ⟨?_, ⟨c4, c5⟩, ?_⟩
  · iterate 13 ((first | (apply yieldN; (· (simp only [List.getElem?_toArray, List.getElem?_cons_succ, List.getElem?_cons_zero]; try rfl)); (· rfl)) | ((first | apply yieldP | apply yieldL); (· (simp only [List.getElem?_toArray, List.getElem?_cons_succ, List.getElem?_cons_zero]; try rfl)); (· rfl); (· (intros; go_simp; try with_reducible rfl)))); (· (simp only [Act.put, List.setIfInBounds_toArray, List.set_cons_zero, List.set_cons_succ]; try rfl)))
    exact rfl
  refine wpAnyM_one (fuel := 6) (i := 11) (by kernel_rfl) (by rfl) (fun K hK => ?_)    -- CALL
  go_wp2_with (go_at_call 34; go_must (refine (HEND.out _ _ H4.out.drew).mono ?_); rintro e w5 ⟨rfl, rfl⟩)
  refine hK _ _ ⟨c4, c5⟩ ?_
  refine wpAnyM_take (by kernel_rfl) (by intro c a d v w h; cases d <;> exact h) [(14, false)] (fuel := 5) (by kernel_rfl) ?_
  apply Exists.intro; refine ⟨?_, ⟨c4, c5⟩, ?_⟩
  · iterate 1 ((first | (apply yieldN; (· (simp only [List.getElem?_toArray, List.getElem?_cons_succ, List.getElem?_cons_zero]; try rfl)); (· rfl)) | ((first | apply yieldP | apply yieldL); (· (simp only [List.getElem?_toArray, List.getElem?_cons_succ, List.getElem?_cons_zero]; try rfl)); (· rfl); (· (intros; go_simp; try with_reducible rfl)))); (· (simp only [Act.put, List.setIfInBounds_toArray, List.set_cons_zero, List.set_cons_succ]; try rfl)))
    exact rfl
  have H5 := Lib.hid (H4.out.drew.alloc (.cells #[.int .i64 ((m : Int) + (fl : Int))] 3 (0, 0)))
  obtain ⟨D5, hP5, hr5, back5⟩ := H5.out.use
  obtain ⟨vr, ve, De, T5, h1, hown5, hin5, hg5, turn5⟩ := logE_ends hP5
  have h1' := ((Upd.alloc0 w4.drew (.cells #[.int .i64 ((m : Int) + (fl : Int))] 3 (0, 0)) []).keep g (lt_of_heap H1G.out) (by simp)).trans H1G.out
  rw [h1'] at h1
  cases h1
  have c4' := cell_of h1' 4 rfl
  have c5' := cell_of h1' 5 rfl
  refine wpAnyM_one (fuel := 4) (i := 15) (by kernel_rfl) (by rfl) (fun K hK => ?_)    -- buildSlice
  go_wp2_with fail
  refine hK _ _ ⟨c4', c5'⟩ ?_
  obtain ⟨nb, hnb, hsrc⟩ := (cell_new w4.drew (.int .i64 ((m : Int) + (fl : Int))) 3 (0, 0)).src (P := Try.prog) (tx := 58) Try.underlying58 (by intro u hu; rw [List.mem_singleton.1 hu]; rfl)
  obtain rfl : 1 = nb := by simpa using hnb
  have HBD := Lib.hid (show ∀ n', (endsS L.recs).length = n' * 1 → n' + 1 ≤ 140737488355328 ∧ (n' + 1) * i0.bytes ≤ 140737488355328 from fun n' hn' => by
    rw [endsS_length] at hn'
    rw [hz2]; omega)
  have H1G' := Lib.hid h1'
  have BACK5 := Lib.hid back5
  have TURN5 := Lib.hid turn5
  have HG5 := Lib.hid hg5
  clear h1' back5 turn5 hg5 hnb hP5 hr5 hin5
  refine wpAnyM_one (fuel := 3) (i := 16) (by kernel_rfl) (by rfl) (fun K hK => ?_)    -- b:append
  refine wpList_app rfl _ _ 58 58 rfl 1 _ _ _ rfl hown5 _ i0 _ Try.underlying58 hi0 hz0 hz1 rfl _ _ _ rfl hsrc HBD.out ?_
  intro a3 n3 c3' w5 D3 hown3 hu3
  have h1s := (hu3.keep g (lt_of_heap H1G'.out) HG5.out).trans H1G'.out
  have c4s := cell_of h1s 4 rfl
  have c5s := cell_of h1s 5 rfl
  have y5 := frz_of h1s 5
  obtain ⟨D6, hL6, hU6⟩ := TURN5.out _ _ _ _ hu3 hown3
  have H6 := Lib.hid (BACK5.out _ _ (ThLogE g d L _) hU6 hL6)
  have G6 := Lib.hid (heap_setCell_same w5 g 5 _ _ (.slice a3 n3 c3') h1s)
  clear hu3 hown3 hL6 hU6 hown5 hsrc h1s c4' c5' c4 c5
  go_wp2_with fail
  refine hK _ _ ⟨c4s, c5s⟩ ?_
  clear hK TURN5 BACK5 HG5 H1G' H1G H4 H5 HBD HEND
  refine wpAnyM_of_any _ _ _ _ (by decide) ?_
  refine wpAny_list [17, 18, 19] (fuel := 0) (by kernel_rfl) ?_
  simp only [List.filterMap_cons, List.filterMap_nil, List.getElem?_toArray, List.getElem?_cons_succ, List.getElem?_cons_zero]
  go_wp2_with fail
  obtain ⟨w6, hw6⟩ : ∃ x, x = w5.setCell ⟨g, 5, none⟩ (.slice a3 n3 c3') := ⟨_, rfl⟩
  rw [← hw6] at H6 G6 ⊢
  clear hw6 c4s c5s y5
  have c4 := cell_of G6.out 4 rfl
  obtain ⟨D5, hP5, hr5, back5⟩ := H6.out.use
  obtain ⟨vr, ve, Dr, T6, h1, hrec, hinR, hgR, turnR⟩ := logE_recs hP5
  rw [G6.out] at h1
  cases h1
  obtain ⟨rw6, D0, hls, rfl, hrown, hrr⟩ := hrec
  have hnr : rw6.length = L.recs.length := by rw [← hls]; simp
  obtain ⟨E6, hE6⟩ := H6.out.get (List.mem_cons_of_mem _ hv)
  have HE6 := Lib.hid hE6
  have HR6 := Lib.hid (show _ ∧ _ ∧ _ from ⟨hls, hrr, hgR⟩)
  have BACK6 := Lib.hid back5
  have TURN6 := Lib.hid turnR
  have HO6 := Lib.hid hrown
  have HNR := Lib.hid hnr
  clear hE6 hls hrr hgR back5 turnR hrown hr5 hP5 hinR hnr HE HV hv
  refine wp_region_M (fun W => W.cell? ⟨g, 4, none⟩ = some (.slice ar L.recs.length cr)) 9 (by kernel_rfl) ?_
  refine wpAnyM_take (by kernel_rfl) (by intro c a d v w h; cases d <;> exact h) [(0, false), (1, false), (2, false), (3, false), (4, true), (5, false)] (fuel := 6) (by kernel_rfl) ?_
  apply Exists.intro; refine ⟨?_, c4, ?_⟩
  · iterate 6 ((first | (apply yieldN; (· (simp only [List.getElem?_toArray, List.getElem?_cons_succ, List.getElem?_cons_zero]; try rfl)); (· rfl)) | ((first | apply yieldP | apply yieldL); (· (simp only [List.getElem?_toArray, List.getElem?_cons_succ, List.getElem?_cons_zero]; try rfl)); (· rfl); (· (intros; go_simp; try with_reducible rfl)))); (· (simp only [Act.put, List.setIfInBounds_toArray, List.set_cons_zero, List.set_cons_succ]; try rfl)))
    exact rfl
  refine wpAnyM_one (fuel := 5) (i := 6) (by kernel_rfl) (by rfl) (fun K hK => ?_)    -- CALL
  go_wp2_with (go_at_call 35; go_must (refine (clone_any v r E6 _ (HE6.out.frame (w' := w6.drew) (fun _ _ => rfl)) (by omega)).mono ?_); rintro e w7 ⟨v7, D7, rfl, hown7, hu7⟩)
  have hg6 : g < w6.drew.heap.size := lt_of_heap G6.out
  have G7 := (hu7.keep g hg6 (by simp)).trans G6.out
  have c4 := cell_of G7 4 rfl
  have HU7 := Lib.hid (show Upd w6 w7 [] D7 from hu7.drewL)
  obtain ⟨E7, hr7, hE7⟩ := hown7.read
  obtain ⟨a7, n7, c7, rfl, -⟩ := hown7.len
  have HG7 := Lib.hid G7
  have HR7 := Lib.hid (show _ ∧ _ from ⟨hr7, hE7⟩)
  clear hu7 hown7 G7 hr7 hE7 hg6
  refine hK _ _ c4 ?_
  clear hK
  refine wpAnyM_one (fuel := 4) (i := 7) (by kernel_rfl) (by rfl) (fun K hK => ?_)    -- buildSlice
  have h7a := ((Upd.alloc0 w7 (.cells #[.slice a7 n7 c7] 31 (0, 0)) []).keep g (lt_of_heap HG7.out) (by simp)).trans HG7.out
  have c4a := cell_of h7a 4 rfl
  have HG7a := Lib.hid h7a
  clear h7a
  go_wp2_with fail
  refine hK _ _ c4a ?_
  clear hK c4 c4a
  have hU7a := HU7.out.trans (Upd.alloc0 w7 (.cells #[.slice a7 n7 c7] 31 (0, 0)) D7)
  have hownA := HO6.out.frame (hU7a.same HO6.out.lt (by simp))
  obtain ⟨nb, hnb, hsrc⟩ := (cell_new w7 (.slice a7 n7 c7) 31 (0, 0)).src (P := Try.prog) (tx := 22) Try.underlying22 (by intro u hu; rw [List.mem_singleton.1 hu]; rfl)
  obtain rfl : 1 = nb := by simpa using hnb
  have HBD := Lib.hid (show ∀ n', (rw6.map (·.1)).length = n' * 1 → n' + 1 ≤ 140737488355328 ∧ (n' + 1) * j0.bytes ≤ 140737488355328 from fun n' hn' => by
    rw [List.length_map, HNR.out] at hn'
    rw [hy2]; omega)
  refine wpAnyM_one (fuel := 3) (i := 8) (by kernel_rfl) (by rfl) (fun K hK => ?_)    -- b:append
  refine wpList_app rfl _ _ 22 22 rfl 1 _ _ _ rfl hownA _ j0 _ Try.underlying22 hj0 hy0 hy1 rfl _ _ _ rfl hsrc HBD.out ?_
  intro a8 n8 c8 w8 D8 hown8 hu8
  obtain ⟨hls, hrr, hgR⟩ := HR6.out
  obtain ⟨hX, hY⟩ := recs_push hrr HO6.out.lt hU7a (HR7.out.1.frame ((Upd.alloc0 w7 (.cells #[.slice a7 n7 c7] 31 (0, 0)) []).same HR7.out.1.lt (by simp))) HR7.out.2 hu8 hown8
  rw [hls] at hX
  have h8 := (hu8.keep g (lt_of_heap HG7a.out) (fun hg => hgR (by simp [hg]))).trans HG7a.out
  have c4 := cell_of h8 4 rfl
  have y4 := frz_of h8 4
  obtain ⟨D9, hL9, hU9⟩ := TURN6.out _ _ _ _ hY hX
  have H9 := Lib.hid (BACK6.out _ _ (ThLogE g d { L with recs := L.recs ++ [r] } _) hU9 hL9)
  clear hL9 hU9 hX hY hls hrr hgR h8 hown8 hu8 hsrc hownA hU7a hnb
  go_wp2_with fail
  refine hK _ _ c4 ?_
  clear hK
  refine wpAnyM_of_any _ _ _ _ (by decide) ?_
  refine wpAny_list [9, 10, 11] (fuel := 0) (by kernel_rfl) ?_
  simp only [List.filterMap_cons, List.filterMap_nil, List.getElem?_toArray, List.getElem?_cons_succ, List.getElem?_cons_zero]
  go_wp2_with fail
  go_ret
  rw [HQ.out]
  have H10 := H9.out
  have e := endsS_push L.recs r
  rw [← HM.out.1, ← HM.out.2] at e
  simp only [Int.natCast_add] at e
  rw [← e] at H10
  exact ⟨rfl, H10.drop_row⟩
end
end Go.Proofs.Ytbfblekabnkghaa
