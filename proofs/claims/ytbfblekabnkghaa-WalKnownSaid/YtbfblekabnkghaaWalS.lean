/-
  The log's Restart: the walk, where each step goes well, or the number may not be.
-/
import Derived.Test.YtbfblekabnkghaaWalR
namespace Go.Proofs.Ytbfblekabnkghaa
open Go.RowKit Go.Av

section
variable {w0 w : World} {g d : Nat} {L : LogS} {S S1 S2 S3 S4 S5 : DiskS} {R : List Thing} {rows : List (Value × Bs)}

theorem restart_no (n : Int) (ho : offS L S = false) (hn : n < 1 ∨ 1099511627776 < n) (h : Sep w0 w (ThLog g d L :: ThDisk d S :: R) rows) :
    Calls Try.prog 24 #[.pointer (some ⟨g, 0, none⟩), .int .i64 n] w fun e w' => e = .returned (.int .i64 1) ∧ Sep w0 w' (ThLog g d L :: ThDisk d S :: R) rows := by
  have h0 := (h.newCell (.cells #[.pointer (some ⟨g, 0, none⟩)] 28 (0, 0))).back2
  have hb := h0.block (mem2 (List.mem_cons_self ..))
  have c0 := cell_of hb 0 rfl
  have H := Lib.hid h0
  clear h h0 hb
  have key : ∀ b : Bool, (n < 1) = b → True := fun _ _ => trivial
  clear key
  by_cases h1 : n < 1
  · clear hn
    go_enter Try.func24, Try.ntmps24
    go_wp2_with fail
    refine (off_any H.out).mono ?_
    rintro e w1 ⟨rfl, h⟩
    rw [ho]
    have H1 := Lib.hid h
    clear h
    go_wp2_with fail
    go_ret
    exact ⟨rfl, (H1.out.perm (List.perm_middle (l₁ := [_, _]))).drop⟩
  · have h2 : 1099511627776 < n := by omega
    clear hn
    go_enter Try.func24, Try.ntmps24
    go_wp2_with fail
    refine (off_any H.out).mono ?_
    rintro e w1 ⟨rfl, h⟩
    rw [ho]
    have H1 := Lib.hid h
    clear h
    go_wp2_with fail
    go_ret
    exact ⟨rfl, (H1.out.perm (List.perm_middle (l₁ := [_, _]))).drop⟩

theorem mem5 {α : Type} {a b c e x : α} {R : List α} : x ∈ a :: b :: c :: e :: x :: R := by simp
theorem mem3x {α : Type} {a b x : α} {R : List α} : x ∈ a :: b :: x :: R := by simp
theorem mem3y {α : Type} {a x : α} {R : List α} : x ∈ a :: x :: R := by simp
def fnsR (x y : Nat) : Array Value := #[.func (.func 41) #[] #[.pointer (some ⟨x, 0, none⟩)], .func (.func 43) #[] #[.pointer (some ⟨x, 0, none⟩)], .func (.func 44) #[] #[.pointer (some ⟨x, 0, none⟩), .pointer (some ⟨y, 0, none⟩)], .func (.func 45) #[] #[.pointer (some ⟨x, 0, none⟩)], .func (.func 46) #[] #[.pointer (some ⟨x, 0, none⟩)]]
def stAt (S S1 S2 S3 S4 S5 : DiskS) : Nat → DiskS
  | 0 => S | 1 => S1 | 2 => S2 | 3 => S3 | 4 => S4 | _ => S5
theorem same_done (L : LogS) : ({ L with done := L.done || ((0 : Int) != 0) } : LogS) = L := by cases L; simp

set_option maxRecDepth 100000 in
set_option maxHeartbeats 2000000 in
theorem restart_ok (n : Int) {k1 k2 : Int} (ho : offS L S = false) (hn1 : 1 ≤ n) (hn2 : n ≤ 1099511627776) (hk1 : missS k1 = 0) (hk2 : missS k2 = 0)
    (e1 : S.cut nmLog 0 = (k1, S1)) (e2 : S1.drop nmNew = (k2, S2)) (e3 : S2.append nmNew (frameS (packI n)) = (0, S3)) (e4 : S3.sync nmNew = (0, S4)) (e5 : S4.rename nmNew nmBase = (0, S5))
    (h : Sep w0 w (ThLog g d L :: ThDisk d S :: R) rows) :
    Calls Try.prog 24 #[.pointer (some ⟨g, 0, none⟩), .int .i64 n] w fun e w' => e = .returned (.int .i64 0) ∧ Sep w0 w' (ThLog g d { L with first := n, recs := [] } :: ThDisk d S5 :: R) rows := by
  have h0 := (h.newCell (.cells #[.pointer (some ⟨g, 0, none⟩)] 28 (0, 0))).back2
  have hb := h0.block (mem2 (List.mem_cons_self ..))
  have c0 := cell_of hb 0 rfl
  have H := Lib.hid h0
  have HE := Lib.hid (show _ ∧ _ ∧ _ ∧ _ ∧ _ ∧ _ ∧ _ from ⟨hk1, hk2, e1, e2, e3, e4, e5⟩)
  clear h h0 hb hk1 hk2 e1 e2 e3 e4 e5
  obtain ⟨x, hx⟩ : ∃ x, x = w.heap.size := ⟨_, rfl⟩
  have h1 : ¬ n < 1 := by omega
  have h2 : ¬ 1099511627776 < n := by omega
  go_enter Try.func24, Try.ntmps24
  go_wp2_with fail
  rw [← hx] at H c0 ⊢
  clear hx
  refine (off_any H.out).mono ?_
  rintro e w1 ⟨rfl, h⟩
  rw [ho]
  have H1 := Lib.hid h
  clear h ho
  go_wp2_with fail
  refine (pack_any _ [] [] n _ (nil_row _) (by simp)).mono ?_
  rintro e w2 ⟨v2, D2, rfl, hown2, hu2⟩
  rw [List.nil_append] at hown2
  obtain ⟨E2, hr2, hE2⟩ := hown2.read
  have H2 := Lib.hid (H1.out.keep hu2)
  clear hown2 hu2
  go_wp2_with fail
  refine (put_any v2 _ E2 _ hr2).mono ?_
  rintro e w3 (⟨hno, -⟩ | ⟨_, v3, D3, rfl, ho3, hu3⟩)
  · rw [packI_length] at hno; omega
  obtain ⟨E3, hr3, hE3⟩ := ho3.read
  obtain ⟨a3, n3, c3, rfl, -⟩ := ho3.len
  have H3 := Lib.hid (H2.out.row hu3 hr3 hE3)
  clear ho3 hu3 hr3 hE3 hr2 hE2 H H1 H2
  have hmf : ∀ (fn : Fn) (first cap : Array Value) (w : World), (Instr.makeFunc fn first cap).run Try.prog w = .ok (.func fn first cap) w := fun _ _ _ _ => rfl
  go_wp2_with fail
  have h4 := ((H3.out.newCell (.cells #[.slice a3 n3 c3] 31 (0, 0))).back2.newCell (.cells (fnsR x w3.heap.size) 33 (0, 0))).back2
  obtain ⟨y, hy⟩ : ∃ y, y = w3.heap.size := ⟨_, rfl⟩
  have hF : (w3.alloc (.cells #[.slice a3 n3 c3] 31 (0, 0))).heap.size = y + 1 := by rw [hy]; simp
  rw [hF] at h4
  rw [← hy] at h4 ⊢
  have H4 := Lib.hid (show Sep w0 _ (ThLog g d L :: ThDisk d S :: ThCell (y + 1) (.cells (fnsR x y) 33 (0, 0)) :: ThCell y (.cells #[.slice a3 n3 c3] 31 (0, 0)) :: ThCell x (.cells #[.pointer (some ⟨g, 0, none⟩)] 28 (0, 0)) :: R) _ from h4)
  clear h4 hy hF H3
  go_loopg [37] 5 (fun k v wr => ∃ p : Nat, p ≤ 5 ∧ k = 5 - p ∧ v = .int .i64 (p : Int) ∧
    Sep w0 wr (ThLog g d L :: ThDisk d (stAt S S1 S2 S3 S4 S5 p) :: ThCell (y + 1) (.cells (fnsR x y) 33 (0, 0)) :: ThCell y (.cells #[.slice a3 n3 c3] 31 (0, 0)) :: ThCell x (.cells #[.pointer (some ⟨g, 0, none⟩)] 28 (0, 0)) :: R) ((.slice a3 n3 c3, frameS (packI n)) :: rows))
  case atStart => exact ⟨0, by omega, rfl, rfl, H4.out⟩
  case round =>
    obtain ⟨p, hp, hk, hv, hS⟩ := hrel
    subst hv
    have hp6 : p = 0 ∨ p = 1 ∨ p = 2 ∨ p = 3 ∨ p = 4 ∨ p = 5 := by omega
    have hbx := hS.block (b := x) (List.mem_cons_of_mem _ (List.mem_cons_of_mem _ (List.mem_cons_of_mem _ (List.mem_cons_of_mem _ (List.mem_cons_self ..)))))
    have hbF := hS.block (b := y + 1) (List.mem_cons_of_mem _ (List.mem_cons_of_mem _ (List.mem_cons_self ..)))
    have hx := cell_of hbx 0 rfl
    have HF := Lib.hid hbF
    have HS := Lib.hid hS
    clear hbx hbF hS hp H4 c0
    rcases hp6 with rfl | rfl | rfl | rfl | rfl | rfl
    · have hF := cell_of HF.out 0 (v := .func (.func 41) #[] #[.pointer (some ⟨x, 0, none⟩)]) rfl
      go_wp2_with fail
      refine wp_region_M (fun W => W.cell? ⟨x, 0, none⟩ = some (.pointer (some ⟨g, 0, none⟩))) 4 (by kernel_rfl) ?_
      refine wpAnyM_take (by kernel_rfl) (by intro c a d v w h; cases d <;> exact h) [(0, true), (1, false)] (fuel := 3) (by kernel_rfl) ?_
      apply Exists.intro; refine ⟨?_, hx, ?_⟩
      · iterate 2 ((first | (apply yieldN; (· (simp only [List.getElem?_toArray, List.getElem?_cons_succ, List.getElem?_cons_zero]; try rfl)); (· rfl)) | ((first | apply yieldP | apply yieldL); (· (simp only [List.getElem?_toArray, List.getElem?_cons_succ, List.getElem?_cons_zero]; try rfl)); (· rfl); (· (intros; go_simp; try with_reducible rfl)))); (· (simp only [Act.put, List.setIfInBounds_toArray, List.set_cons_zero, List.set_cons_succ]; try rfl)))
        exact rfl
      refine wpAnyM_one (fuel := 2) (i := 2) (by kernel_rfl) (by rfl) (fun K hK => ?_)    -- CALL
      go_wp2_with (go_at_call 41; go_must (refine (step1_any HS.out.drew mem3x HE.out.2.2.1).mono ?_); rintro e w5 ⟨rfl, h⟩)
      rw [HE.out.1]
      have hbx := h.block (b := x) mem5
      have hx := cell_of hbx 0 rfl
      have H5 := Lib.hid h
      clear h hbx
      refine hK _ _ hx ?_
      clear hK
      refine wpAnyM_one (fuel := 1) (i := 3) (by kernel_rfl) (by rfl) (fun K hK => ?_)    -- CALL
      go_wp2_with (go_at_call 32; go_must (refine (logCheck_any 0 H5.out).mono ?_); rintro e w6 ⟨rfl, h⟩)
      rw [same_done] at h
      have hbx := h.block (b := x) mem5
      have hx := cell_of hbx 0 rfl
      have H6 := Lib.hid h
      clear h hbx
      refine hK _ _ hx ?_
      clear hK
      refine wpAnyM_of_any _ _ _ _ (by decide) ?_
      refine wpAny_list [4] (fuel := 0) (by kernel_rfl) ?_
      simp only [List.filterMap_cons, List.filterMap_nil, List.getElem?_toArray, List.getElem?_cons_succ, List.getElem?_cons_zero]
      go_wp2_with fail
      go_roundg (4)
      case rel => exact ⟨1, by omega, rfl, rfl, H6.out⟩
      case measure => omega
    · have hF := cell_of HF.out 1 (v := .func (.func 43) #[] #[.pointer (some ⟨x, 0, none⟩)]) rfl
      go_wp2_with fail
      refine wp_region_M (fun W => W.cell? ⟨x, 0, none⟩ = some (.pointer (some ⟨g, 0, none⟩))) 4 (by kernel_rfl) ?_
      refine wpAnyM_take (by kernel_rfl) (by intro c a d v w h; cases d <;> exact h) [(0, true), (1, false)] (fuel := 3) (by kernel_rfl) ?_
      apply Exists.intro; refine ⟨?_, hx, ?_⟩
      · iterate 2 ((first | (apply yieldN; (· (simp only [List.getElem?_toArray, List.getElem?_cons_succ, List.getElem?_cons_zero]; try rfl)); (· rfl)) | ((first | apply yieldP | apply yieldL); (· (simp only [List.getElem?_toArray, List.getElem?_cons_succ, List.getElem?_cons_zero]; try rfl)); (· rfl); (· (intros; go_simp; try with_reducible rfl)))); (· (simp only [Act.put, List.setIfInBounds_toArray, List.set_cons_zero, List.set_cons_succ]; try rfl)))
        exact rfl
      refine wpAnyM_one (fuel := 2) (i := 2) (by kernel_rfl) (by rfl) (fun K hK => ?_)    -- CALL
      go_wp2_with (go_at_call 43; go_must (refine (step2_any HS.out.drew mem3x HE.out.2.2.2.1).mono ?_); rintro e w5 ⟨rfl, h⟩)
      rw [HE.out.2.1]
      have hbx := h.block (b := x) mem5
      have hx := cell_of hbx 0 rfl
      have H5 := Lib.hid h
      clear h hbx
      refine hK _ _ hx ?_
      clear hK
      refine wpAnyM_one (fuel := 1) (i := 3) (by kernel_rfl) (by rfl) (fun K hK => ?_)    -- CALL
      go_wp2_with (go_at_call 32; go_must (refine (logCheck_any 0 H5.out).mono ?_); rintro e w6 ⟨rfl, h⟩)
      rw [same_done] at h
      have hbx := h.block (b := x) mem5
      have hx := cell_of hbx 0 rfl
      have H6 := Lib.hid h
      clear h hbx
      refine hK _ _ hx ?_
      clear hK
      refine wpAnyM_of_any _ _ _ _ (by decide) ?_
      refine wpAny_list [4] (fuel := 0) (by kernel_rfl) ?_
      simp only [List.filterMap_cons, List.filterMap_nil, List.getElem?_toArray, List.getElem?_cons_succ, List.getElem?_cons_zero]
      go_wp2_with fail
      go_roundg (3)
      case rel => exact ⟨2, by omega, rfl, rfl, H6.out⟩
      case measure => omega
    · have hF := cell_of HF.out 2 (v := .func (.func 44) #[] #[.pointer (some ⟨x, 0, none⟩), .pointer (some ⟨y, 0, none⟩)]) rfl
      go_wp2_with fail
      refine wp_region_M (fun W => W.cell? ⟨x, 0, none⟩ = some (.pointer (some ⟨g, 0, none⟩))) 4 (by kernel_rfl) ?_
      refine wpAnyM_take (by kernel_rfl) (by intro c a d v w h; cases d <;> exact h) [(0, true), (1, false)] (fuel := 3) (by kernel_rfl) ?_
      apply Exists.intro; refine ⟨?_, hx, ?_⟩
      · iterate 2 ((first | (apply yieldN; (· (simp only [List.getElem?_toArray, List.getElem?_cons_succ, List.getElem?_cons_zero]; try rfl)); (· rfl)) | ((first | apply yieldP | apply yieldL); (· (simp only [List.getElem?_toArray, List.getElem?_cons_succ, List.getElem?_cons_zero]; try rfl)); (· rfl); (· (intros; go_simp; try with_reducible rfl)))); (· (simp only [Act.put, List.setIfInBounds_toArray, List.set_cons_zero, List.set_cons_succ]; try rfl)))
        exact rfl
      refine wpAnyM_one (fuel := 2) (i := 2) (by kernel_rfl) (by rfl) (fun K hK => ?_)    -- CALL
      go_wp2_with (go_at_call 44; go_must (refine (step3_any HS.out.drew mem3x mem3y (List.mem_cons_self ..) HE.out.2.2.2.2.1).mono ?_); rintro e w5 ⟨rfl, h⟩)
      have hbx := h.block (b := x) mem5
      have hx := cell_of hbx 0 rfl
      have H5 := Lib.hid h
      clear h hbx
      refine hK _ _ hx ?_
      clear hK
      refine wpAnyM_one (fuel := 1) (i := 3) (by kernel_rfl) (by rfl) (fun K hK => ?_)    -- CALL
      go_wp2_with (go_at_call 32; go_must (refine (logCheck_any 0 H5.out).mono ?_); rintro e w6 ⟨rfl, h⟩)
      rw [same_done] at h
      have hbx := h.block (b := x) mem5
      have hx := cell_of hbx 0 rfl
      have H6 := Lib.hid h
      clear h hbx
      refine hK _ _ hx ?_
      clear hK
      refine wpAnyM_of_any _ _ _ _ (by decide) ?_
      refine wpAny_list [4] (fuel := 0) (by kernel_rfl) ?_
      simp only [List.filterMap_cons, List.filterMap_nil, List.getElem?_toArray, List.getElem?_cons_succ, List.getElem?_cons_zero]
      go_wp2_with fail
      go_roundg (2)
      case rel => exact ⟨3, by omega, rfl, rfl, H6.out⟩
      case measure => omega
    · have hF := cell_of HF.out 3 (v := .func (.func 45) #[] #[.pointer (some ⟨x, 0, none⟩)]) rfl
      go_wp2_with fail
      refine wp_region_M (fun W => W.cell? ⟨x, 0, none⟩ = some (.pointer (some ⟨g, 0, none⟩))) 4 (by kernel_rfl) ?_
      refine wpAnyM_take (by kernel_rfl) (by intro c a d v w h; cases d <;> exact h) [(0, true), (1, false)] (fuel := 3) (by kernel_rfl) ?_
      apply Exists.intro; refine ⟨?_, hx, ?_⟩
      · iterate 2 ((first | (apply yieldN; (· (simp only [List.getElem?_toArray, List.getElem?_cons_succ, List.getElem?_cons_zero]; try rfl)); (· rfl)) | ((first | apply yieldP | apply yieldL); (· (simp only [List.getElem?_toArray, List.getElem?_cons_succ, List.getElem?_cons_zero]; try rfl)); (· rfl); (· (intros; go_simp; try with_reducible rfl)))); (· (simp only [Act.put, List.setIfInBounds_toArray, List.set_cons_zero, List.set_cons_succ]; try rfl)))
        exact rfl
      refine wpAnyM_one (fuel := 2) (i := 2) (by kernel_rfl) (by rfl) (fun K hK => ?_)    -- CALL
      go_wp2_with (go_at_call 45; go_must (refine (step4_any HS.out.drew mem3x HE.out.2.2.2.2.2.1).mono ?_); rintro e w5 ⟨rfl, h⟩)
      have hbx := h.block (b := x) mem5
      have hx := cell_of hbx 0 rfl
      have H5 := Lib.hid h
      clear h hbx
      refine hK _ _ hx ?_
      clear hK
      refine wpAnyM_one (fuel := 1) (i := 3) (by kernel_rfl) (by rfl) (fun K hK => ?_)    -- CALL
      go_wp2_with (go_at_call 32; go_must (refine (logCheck_any 0 H5.out).mono ?_); rintro e w6 ⟨rfl, h⟩)
      rw [same_done] at h
      have hbx := h.block (b := x) mem5
      have hx := cell_of hbx 0 rfl
      have H6 := Lib.hid h
      clear h hbx
      refine hK _ _ hx ?_
      clear hK
      refine wpAnyM_of_any _ _ _ _ (by decide) ?_
      refine wpAny_list [4] (fuel := 0) (by kernel_rfl) ?_
      simp only [List.filterMap_cons, List.filterMap_nil, List.getElem?_toArray, List.getElem?_cons_succ, List.getElem?_cons_zero]
      go_wp2_with fail
      go_roundg (1)
      case rel => exact ⟨4, by omega, rfl, rfl, H6.out⟩
      case measure => omega
    · have hF := cell_of HF.out 4 (v := .func (.func 46) #[] #[.pointer (some ⟨x, 0, none⟩)]) rfl
      go_wp2_with fail
      refine wp_region_M (fun W => W.cell? ⟨x, 0, none⟩ = some (.pointer (some ⟨g, 0, none⟩))) 4 (by kernel_rfl) ?_
      refine wpAnyM_take (by kernel_rfl) (by intro c a d v w h; cases d <;> exact h) [(0, true), (1, false)] (fuel := 3) (by kernel_rfl) ?_
      apply Exists.intro; refine ⟨?_, hx, ?_⟩
      · iterate 2 ((first | (apply yieldN; (· (simp only [List.getElem?_toArray, List.getElem?_cons_succ, List.getElem?_cons_zero]; try rfl)); (· rfl)) | ((first | apply yieldP | apply yieldL); (· (simp only [List.getElem?_toArray, List.getElem?_cons_succ, List.getElem?_cons_zero]; try rfl)); (· rfl); (· (intros; go_simp; try with_reducible rfl)))); (· (simp only [Act.put, List.setIfInBounds_toArray, List.set_cons_zero, List.set_cons_succ]; try rfl)))
        exact rfl
      refine wpAnyM_one (fuel := 2) (i := 2) (by kernel_rfl) (by rfl) (fun K hK => ?_)    -- CALL
      go_wp2_with (go_at_call 46; go_must (refine (step5_any HS.out.drew mem3x HE.out.2.2.2.2.2.2).mono ?_); rintro e w5 ⟨rfl, h⟩)
      have hbx := h.block (b := x) mem5
      have hx := cell_of hbx 0 rfl
      have H5 := Lib.hid h
      clear h hbx
      refine hK _ _ hx ?_
      clear hK
      refine wpAnyM_one (fuel := 1) (i := 3) (by kernel_rfl) (by rfl) (fun K hK => ?_)    -- CALL
      go_wp2_with (go_at_call 32; go_must (refine (logCheck_any 0 H5.out).mono ?_); rintro e w6 ⟨rfl, h⟩)
      rw [same_done] at h
      have hbx := h.block (b := x) mem5
      have hx := cell_of hbx 0 rfl
      have H6 := Lib.hid h
      clear h hbx
      refine hK _ _ hx ?_
      clear hK
      refine wpAnyM_of_any _ _ _ _ (by decide) ?_
      refine wpAny_list [4] (fuel := 0) (by kernel_rfl) ?_
      simp only [List.filterMap_cons, List.filterMap_nil, List.getElem?_toArray, List.getElem?_cons_succ, List.getElem?_cons_zero]
      go_wp2_with fail
      go_roundg (0)
      case rel => exact ⟨5, by omega, rfl, rfl, H6.out⟩
      case measure => omega
    · have h5 := HS.out
      obtain ⟨D6, hP6, -, back6⟩ := h5.use
      obtain ⟨vr, ve, Dr, De, T, h1, hrec, hend, turn⟩ := log_parts hP6
      have y3 := frz_of h1 3
      have h1a := heap_setCell_same wr g 3 _ _ (.int .i64 n) h1
      have y4 := frz_of h1a 4
      have h1b := heap_setCell_same _ g 4 _ _ (.slice none 0 0) h1a
      have y5 := frz_of h1b 5
      have h1c := heap_setCell_same _ g 5 _ _ (.slice none 0 0) h1b
      have c3 := cell_of h1 3 rfl
      have c4 := cell_of h1a 4 rfl
      have c5 := cell_of h1b 5 rfl
      have hgx : g ≠ x := fun e => by
        obtain ⟨ar, cr, ae, ce, T', k1, -⟩ := logc h5
        have k2 := h5.block (b := x) mem5
        rw [← e, k1] at k2
        cases k2
      obtain ⟨D', hL', hU'⟩ := turn _ { L with first := n, recs := [] } _ _ [] [] ((((Upd.refl wr [g]).setCell ⟨g, 3, none⟩ (.int .i64 n) (by simp)).setCell ⟨g, 4, none⟩ (.slice none 0 0) (by simp)).setCell ⟨g, 5, none⟩ (.slice none 0 0) (by simp)) h1c (RecsAt.nil _) (OwnRow.nil _ _) (by simp) (by simp)
      have H7 := Lib.hid (back6 _ _ (ThLog g d { L with first := n, recs := [] }) hU' hL')
      have kx1 : (wr.setCell ⟨g, 3, none⟩ (.int .i64 n)).cell? ⟨x, 0, none⟩ = some (.pointer (some ⟨g, 0, none⟩)) := by
        rw [World.cell?_of_block (heap_setCell_other _ _ _ _ (fun e => hgx e.symm))]; exact hx
      have kx2 : ((wr.setCell ⟨g, 3, none⟩ (.int .i64 n)).setCell ⟨g, 4, none⟩ (.slice none 0 0)).cell? ⟨x, 0, none⟩ = some (.pointer (some ⟨g, 0, none⟩)) := by
        rw [World.cell?_of_block (heap_setCell_other _ _ _ _ (fun e => hgx e.symm))]; exact kx1
      have KX := Lib.hid (show _ ∧ _ from ⟨kx1, kx2⟩)
      clear hP6 back6 turn hrec hend h1 h1a h1b h1c hL' hU' h5 kx1 kx2
      go_wp2_with fail
      refine wp_region_M (fun W => W.cell? ⟨x, 0, none⟩ = some (.pointer (some ⟨g, 0, none⟩))) 10 (by kernel_rfl) ?_
      refine wpAnyM_take (by kernel_rfl) (by intro c a d v w h; cases d <;> exact h) [(0, true), (1, true), (2, true), (3, false), (4, false), (5, false)] (fuel := 7) (by kernel_rfl) ?_
      apply Exists.intro; refine ⟨?_, hx, ?_⟩
      · iterate 6 ((first | (apply yieldN; (· (simp only [List.getElem?_toArray, List.getElem?_cons_succ, List.getElem?_cons_zero]; try rfl)); (· rfl)) | ((first | apply yieldP | apply yieldL); (· (simp only [List.getElem?_toArray, List.getElem?_cons_succ, List.getElem?_cons_zero]; try rfl)); (· rfl); (· (intros; go_simp; try with_reducible rfl)))); (· (simp only [Act.put, List.setIfInBounds_toArray, List.set_cons_zero, List.set_cons_succ]; try rfl)))
        exact rfl
      refine wpAnyM_one (fuel := 6) (i := 6) (by kernel_rfl) (by rfl) (fun K hK => ?_)    -- store
      go_wp2_with fail
      refine hK _ _ KX.out.1 ?_
      clear hK
      refine wpAnyM_take (by kernel_rfl) (by intro c a d v w h; cases d <;> exact h) [(7, false), (8, false)] (fuel := 4) (by kernel_rfl) ?_
      apply Exists.intro; refine ⟨?_, KX.out.1, ?_⟩
      · iterate 2 ((first | (apply yieldN; (· (simp only [List.getElem?_toArray, List.getElem?_cons_succ, List.getElem?_cons_zero]; try rfl)); (· rfl)) | ((first | apply yieldP | apply yieldL); (· (simp only [List.getElem?_toArray, List.getElem?_cons_succ, List.getElem?_cons_zero]; try rfl)); (· rfl); (· (intros; go_simp; try with_reducible rfl)))); (· (simp only [Act.put, List.setIfInBounds_toArray, List.set_cons_zero, List.set_cons_succ]; try rfl)))
        exact rfl
      refine wpAnyM_one (fuel := 3) (i := 9) (by kernel_rfl) (by rfl) (fun K hK => ?_)    -- store
      go_wp2_with fail
      refine hK _ _ KX.out.2 ?_
      clear hK
      refine wpAnyM_of_any _ _ _ _ (by decide) ?_
      refine wpAny_list [10, 11, 12] (fuel := 0) (by kernel_rfl) ?_
      simp only [List.filterMap_cons, List.filterMap_nil, List.getElem?_toArray, List.getElem?_cons_succ, List.getElem?_cons_zero]
      go_wp2_with fail
      go_ret
      exact ⟨rfl, (((H7.out.perm (List.perm_middle (l₁ := [_, _, _, _]))).drop.perm (List.perm_middle (l₁ := [_, _, _]))).drop.perm (List.perm_middle (l₁ := [_, _]))).drop.drew.drop_row⟩
end
end Go.Proofs.Ytbfblekabnkghaa
