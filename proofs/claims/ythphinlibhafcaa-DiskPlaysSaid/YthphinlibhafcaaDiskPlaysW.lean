/-
  DiskPlays: any calls: what a disk has, what it answers, what a crash leaves, are as the document says.
-/
import Derived.Test.YthphinlibhafcaaFdU
import Derived.Test.YthphinlibhafcaaDActIn
import Derived.Test.YthphinlibhafcaaHeld2
import Derived.Test.YthphinlibhafcaaLaws7
namespace Go.Proofs.Ythphinlibhafcaa
open Go.RowKit Go.Av

theorem act_cells {W : World} {bx : Nat} {op nn : Int} {s to : ByteArray} {vb : Value} (h : W.heap[bx]? = some (.cells #[.int .i64 op, .int .i64 nn, .string s, .string to, vb] 49 (0, 0))) :
    W.cell? ⟨bx, 0, none⟩ = some (.int .i64 op) ∧ W.cell? ⟨bx, 1, none⟩ = some (.int .i64 nn) ∧ W.cell? ⟨bx, 2, none⟩ = some (.string s) ∧ W.cell? ⟨bx, 3, none⟩ = some (.string to) ∧ W.cell? ⟨bx, 4, none⟩ = some vb :=
  ⟨cell_of h 0 rfl, cell_of h 1 rfl, cell_of h 2 rfl, cell_of h 3 rfl, cell_of h 4 rfl⟩
theorem two_start {w0 w : World} {d : Nat} {room : Int} {rows : List (Value × Bs)} (h : Sep w0 w [ThDisk d (DiskS.new room)] rows) :
    TwoD w0 (w.alloc (.cells #[.int .i64 room, .slice none 0 0, .bool false, .int .i64 1] 47 (0, 0))) d w.heap.size (DiskS.new room) 0 [] rows := by
  have h1 := (h.nilRow 3).newCell (.cells #[.int .i64 room, .slice none 0 0, .bool false, .int .i64 1] 47 (0, 0))
  exact two_made (T := DiskS.new room) ⟨.slice none 0 0, [], rows, fun _ h => h, ⟨rfl, by simp, by simp, h1⟩⟩ (drel_new room) (by simp [DiskS.new]) (by simp [DiskS.new])

set_option maxRecDepth 100000 in
set_option maxHeartbeats 16000000 in
theorem diskPlays_walk (room : Int) (a1 : Option Addr) (len1 cap1 : Nat) (l : List DActS) (w : World) (h1 : IsDActs w a1 len1 cap1 l) :
    Calls Try.prog 8 #[.int .i64 room, .slice a1 len1 cap1] w fun e w' => e = .returned (.bool true) ∧ Below w.heap.size w w' := by
  obtain ⟨hla, hlca, hca, haa, hac, hax⟩ := h1
  subst hla
  unfold maxLen at hca
  have HAC := Lib.hid (show _ ∧ _ ∧ _ from ⟨haa, hac, hax⟩)
  clear haa hac hax
  by_cases hrm : 64 ≤ room ∧ room ≤ 1048576
  case neg =>
    have HRM := Lib.hid hrm
    by_cases hr1 : room < 64
    case' neg => have hr2 : 1048576 < room := by omega
    all_goals
      clear hrm
      go_enter Try.func8, Try.ntmps8
      go_wp2_with fail
      refine (awake_any _).mono ?_
      rintro e w1 ⟨rfl, hu1⟩
      go_wp2_with fail
      refine (new_bad room _ HRM.out).mono ?_
      rintro e w2 ⟨rfl, hu2⟩
      go_wp2_with fail
      go_ret
      exact ⟨rfl, (hu1.trans hu2).below⟩
  case pos =>
  obtain ⟨hr1, hr2⟩ := hrm
  have hr1' : ¬ room < 64 := by omega
  have hr2' : ¬ 1048576 < room := by omega
  by_cases hl80 : 80 < l.length
  · skip
    go_enter Try.func8, Try.ntmps8
    go_wp2_with fail
    refine (awake_any _).mono ?_
    rintro e w1 ⟨rfl, hu1⟩
    go_wp2_with fail
    refine (SD.new ((Sep.start w).keep hu1) room hr1 hr2).mono ?_
    rintro e w2 ⟨d, rfl, hS⟩
    have HB := Lib.hid hS.below
    clear hS hu1
    go_wp2_with fail
    go_ret
    exact ⟨rfl, HB.out⟩
  go_enter Try.func8, Try.ntmps8
  go_wp2_with fail
  refine (awake_any _).mono ?_
  rintro e w1 ⟨rfl, hu1⟩
  go_wp2_with fail
  have hS0 : Sep w w [] (l.map fun c => (c.vb, c.b)) := Sep.startRows (fun r hr => by
    obtain ⟨c, hc, rfl⟩ := List.mem_map.1 hr
    exact (HAC.out.2.2 c hc).2.2)
  refine (SD.new (hS0.keep hu1) room hr1 hr2).mono ?_
  rintro e w2 ⟨d, rfl, hS⟩
  have HT := Lib.hid (two_start hS)
  clear hS hu1 hS0
  go_wp2_with fail
  obtain ⟨t, ht⟩ : ∃ t, t = w2.heap.size := ⟨_, rfl⟩
  obtain ⟨w3, hw3⟩ : ∃ z, z = w2.alloc (.cells #[.int .i64 room, .slice none 0 0, .bool false, .int .i64 1] 47 (0, 0)) := ⟨_, rfl⟩
  rw [← hw3, ← ht] at HT
  rw [← ht, ← hw3]
  clear hw3 ht
  go_loopg [8] l.length (fun k vi wr => ∃ (p : Nat) (S : DiskS), p ≤ l.length ∧ k = l.length - p ∧ vi = .int .i64 (p : Int) ∧ TwoD w wr d t S p [] (l.map fun c => (c.vb, c.b)))
  case atStart => exact ⟨0, _, Nat.zero_le _, rfl, rfl, HT.out⟩
  case round =>
    clear HT
    obtain ⟨p, S, hpl, hk, hvi, H⟩ := hrel
    subst hvi
    by_cases hlt : p < l.length
    case pos =>
      obtain ⟨x, hxa⟩ : ∃ x, a1 = some x := by
        cases a1 with
        | none => exact absurd (HAC.out.1 rfl) (by omega)
        | some x => exact ⟨x, rfl⟩
      subst hxa
      obtain ⟨g0, g1, g2, g3, g4⟩ := HAC.out.2.1 x rfl p hlt
      obtain ⟨z1, z2, E, hE⟩ := HAC.out.2.2 _ (List.getElem_mem hlt)
      have hmem : (l[p].vb, l[p].b) ∈ l.map fun c => (c.vb, c.b) := List.mem_map.2 ⟨l[p], List.getElem_mem hlt, rfl⟩
      obtain ⟨q0, hq0⟩ : ∃ q, l[p] = q := ⟨_, rfl⟩
      rw [hq0] at g0 g1 g2 g3 g4 z1 z2 hE hmem
      obtain ⟨op, nn, s, to, vb, b⟩ := q0
      dsimp only at g0 g1 g2 g3 g4 z1 z2 hE hmem
      obtain ⟨av, nv, cv, hv, hlv, hnv, hcv, -⟩ := hE
      rw [List.length_map, Nat.mul_one] at hlv
      subst hlv
      subst hv
      have hbel := H.below
      have g0 := (hbel.cell (World.block_lt_of_cell? w _ g0)).trans g0
      have g1 := (hbel.cell (World.block_lt_of_cell? w _ g1)).trans g1
      have g2 := (hbel.cell (World.block_lt_of_cell? w _ g2)).trans g2
      have g3 := (hbel.cell (World.block_lt_of_cell? w _ g3)).trans g3
      have g4 := (hbel.cell (World.block_lt_of_cell? w _ g4)).trans g4
      rw [addK_field g0 1] at g1
      rw [addK_field g0 2] at g2
      rw [addK_field g0 3] at g3
      rw [addK_field g0 4] at g4
      unfold maxLen at z1 z2 hcv
      have hX := H.newCell (.cells #[.int .i64 op, .int .i64 nn, .string s, .string to, .slice av b.length cv] 49 (0, 0))
      have HM := Lib.hid hmem
      clear hq0 H hbel hmem
      by_cases hb300 : 300 < b.length
      · have HB := Lib.hid hX.below
        clear hX
        go_wp2_with fail
        go_ret
        exact ⟨rfl, HB.out⟩
      by_cases hs30 : 30 < s.size
      · have HB := Lib.hid hX.below
        clear hX
        go_wp2_with fail
        go_ret
        exact ⟨rfl, HB.out⟩
      by_cases ht30 : 30 < to.size
      · have HB := Lib.hid hX.below
        clear hX
        go_wp2_with fail
        go_ret
        exact ⟨rfl, HB.out⟩
      have hsm : s.size ≤ maxLen := by unfold maxLen; omega
      have htm : to.size ≤ maxLen := by unfold maxLen; omega
      have HSM0 := Lib.hid (show _ ∧ _ from ⟨hsm, htm⟩)
      have HX := Lib.hid hX
      clear hX hsm htm
      by_cases ho0 : op = 0
      · subst ho0
        go_wp2_with fail
        obtain ⟨bx, hbx⟩ : ∃ z, z = wr.heap.size := ⟨_, rfl⟩
        obtain ⟨wb, hwb⟩ : ∃ z, z = wr.alloc (.cells #[.int .i64 0, .int .i64 nn, .string s, .string to, .slice av b.length cv] 49 (0, 0)) := ⟨_, rfl⟩
        rw [← hbx] at HX ⊢
        rw [← hwb] at HX ⊢
        have HC := Lib.hid (act_cells HX.out.cell)
        clear hbx hwb g0 g1 g2 g3 g4
        refine wp_region_M (fun W => W.cell? ⟨bx, 0, none⟩ = some (.int .i64 0) ∧ W.cell? ⟨bx, 1, none⟩ = some (.int .i64 nn) ∧ W.cell? ⟨bx, 2, none⟩ = some (.string s) ∧ W.cell? ⟨bx, 3, none⟩ = some (.string to) ∧ W.cell? ⟨bx, 4, none⟩ = some (.slice av b.length cv)) 13 (by kernel_rfl) ?_
        refine wpAnyM_take (by kernel_rfl) (by intro c a d v w h; cases d <;> exact h) [(0, false), (1, false), (2, true), (3, false), (4, true), (6, false), (7, false), (8, true), (9, false), (10, true)] (fuel := 4) (by kernel_rfl) ?_
        apply Exists.intro; refine ⟨?_, HC.out, ?_⟩
        · iterate 10 ((first | (apply yieldN; (· (simp only [List.getElem?_toArray, List.getElem?_cons_succ, List.getElem?_cons_zero]; try rfl)); (· rfl)) | ((first | apply yieldP | apply yieldL); (· (simp only [List.getElem?_toArray, List.getElem?_cons_succ, List.getElem?_cons_zero]; try rfl)); (· rfl); (· (intros; go_simp; try with_reducible rfl)))); (· (simp only [Act.put, List.setIfInBounds_toArray, List.set_cons_zero, List.set_cons_succ]; try rfl)))
          exact rfl
        refine wpAnyM_one (fuel := 3) (i := 5) (by kernel_rfl) (by rfl) (fun K hK => ?_)    -- CALL
        go_wp2_with fail
        refine ((mid_append HX.out.drew s HSM0.out.1 HM.out)).mono ?_
        rintro e w5 ⟨rfl, h5⟩
        have HC5 := Lib.hid (act_cells h5.cell)
        have H5 := Lib.hid h5
        clear h5
        go_wp2_with fail
        refine hK _ _ HC5.out ?_
        clear hK
        refine wpAnyM_one (fuel := 2) (i := 11) (by kernel_rfl) (by rfl) (fun K hK => ?_)    -- CALL
        go_wp2_with fail
        refine ((two_append H5.out (by omega) (by omega) HM.out (by omega))).mono ?_
        rintro e w6 ⟨rfl, h6⟩
        have HC6 := Lib.hid (act_cells h6.cell)
        have H6 := Lib.hid (h6.more (m := p + 1) (by omega))
        obtain ⟨er, her⟩ : ∃ er, ((S.append s b)).1 = er := ⟨_, rfl⟩
        have hee : (er == er) = true := by simp
        rw [her]
        clear h6 her H5 HC5
        go_wp2_with fail
        refine hK _ _ HC6.out ?_
        clear hK
        refine wpAnyM_take (by kernel_rfl) (by intro c a d v w h; cases d <;> exact h) [(12, false)] (fuel := 1) (by kernel_rfl) ?_
        apply Exists.intro; refine ⟨?_, HC6.out, ?_⟩
        · iterate 1 ((first | (apply yieldN; (· (simp only [List.getElem?_toArray, List.getElem?_cons_succ, List.getElem?_cons_zero]; try rfl)); (· rfl)) | ((first | apply yieldP | apply yieldL); (· (simp only [List.getElem?_toArray, List.getElem?_cons_succ, List.getElem?_cons_zero]; try rfl)); (· rfl); (· (intros; go_simp; try with_reducible rfl)))); (· (simp only [Act.put, List.setIfInBounds_toArray, List.set_cons_zero, List.set_cons_succ]; try rfl)))
          exact rfl
        refine wpAnyM_of_any _ _ _ _ (by decide) ?_
        refine wpAny_list [13] (fuel := 0) (by kernel_rfl) ?_
        simp only [List.filterMap_cons, List.filterMap_nil, List.getElem?_toArray, List.getElem?_cons_succ, List.getElem?_cons_zero]
        obtain ⟨l0, l1, l2, l3, l4⟩ := HC6.out
        have HSM := Lib.hid (two_same H6.out (by omega) s (by unfold maxLen; omega))
        go_wp2_with fail
        refine HSM.out.mono ?_
        rintro e w7 ⟨rfl, h7⟩
        have H7 := Lib.hid h7.dropCell
        clear h7 HSM l0 l1 l3 l4
        go_wp2_with fail
        go_roundg (l.length - (p + 1))
        case rel => exact ⟨p + 1, ((S.append s b)).2, by omega, rfl, by go_num, H7.out⟩
        case measure => omega
      by_cases ho1 : op = 1
      · subst ho1
        go_wp2_with fail
        obtain ⟨bx, hbx⟩ : ∃ z, z = wr.heap.size := ⟨_, rfl⟩
        obtain ⟨wb, hwb⟩ : ∃ z, z = wr.alloc (.cells #[.int .i64 1, .int .i64 nn, .string s, .string to, .slice av b.length cv] 49 (0, 0)) := ⟨_, rfl⟩
        rw [← hbx] at HX ⊢
        rw [← hwb] at HX ⊢
        have HC := Lib.hid (act_cells HX.out.cell)
        clear hbx hwb g0 g1 g2 g3 g4
        refine wp_region_M (fun W => W.cell? ⟨bx, 0, none⟩ = some (.int .i64 1) ∧ W.cell? ⟨bx, 1, none⟩ = some (.int .i64 nn) ∧ W.cell? ⟨bx, 2, none⟩ = some (.string s) ∧ W.cell? ⟨bx, 3, none⟩ = some (.string to) ∧ W.cell? ⟨bx, 4, none⟩ = some (.slice av b.length cv)) 9 (by kernel_rfl) ?_
        refine wpAnyM_take (by kernel_rfl) (by intro c a d v w h; cases d <;> exact h) [(0, false), (1, false), (2, true), (4, false), (5, false), (6, true)] (fuel := 4) (by kernel_rfl) ?_
        apply Exists.intro; refine ⟨?_, HC.out, ?_⟩
        · iterate 6 ((first | (apply yieldN; (· (simp only [List.getElem?_toArray, List.getElem?_cons_succ, List.getElem?_cons_zero]; try rfl)); (· rfl)) | ((first | apply yieldP | apply yieldL); (· (simp only [List.getElem?_toArray, List.getElem?_cons_succ, List.getElem?_cons_zero]; try rfl)); (· rfl); (· (intros; go_simp; try with_reducible rfl)))); (· (simp only [Act.put, List.setIfInBounds_toArray, List.set_cons_zero, List.set_cons_succ]; try rfl)))
          exact rfl
        refine wpAnyM_one (fuel := 3) (i := 3) (by kernel_rfl) (by rfl) (fun K hK => ?_)    -- CALL
        go_wp2_with fail
        refine ((mid_sync HX.out.drew s HSM0.out.1)).mono ?_
        rintro e w5 ⟨rfl, h5⟩
        have HC5 := Lib.hid (act_cells h5.cell)
        have H5 := Lib.hid h5
        clear h5
        go_wp2_with fail
        refine hK _ _ HC5.out ?_
        clear hK
        refine wpAnyM_one (fuel := 2) (i := 7) (by kernel_rfl) (by rfl) (fun K hK => ?_)    -- CALL
        go_wp2_with fail
        refine ((two_sync H5.out HSM0.out.1)).mono ?_
        rintro e w6 ⟨rfl, h6⟩
        have HC6 := Lib.hid (act_cells h6.cell)
        have H6 := Lib.hid (h6.more (m := p + 1) (by omega))
        obtain ⟨er, her⟩ : ∃ er, ((S.sync s)).1 = er := ⟨_, rfl⟩
        have hee : (er == er) = true := by simp
        rw [her]
        clear h6 her H5 HC5
        go_wp2_with fail
        refine hK _ _ HC6.out ?_
        clear hK
        refine wpAnyM_take (by kernel_rfl) (by intro c a d v w h; cases d <;> exact h) [(8, false)] (fuel := 1) (by kernel_rfl) ?_
        apply Exists.intro; refine ⟨?_, HC6.out, ?_⟩
        · iterate 1 ((first | (apply yieldN; (· (simp only [List.getElem?_toArray, List.getElem?_cons_succ, List.getElem?_cons_zero]; try rfl)); (· rfl)) | ((first | apply yieldP | apply yieldL); (· (simp only [List.getElem?_toArray, List.getElem?_cons_succ, List.getElem?_cons_zero]; try rfl)); (· rfl); (· (intros; go_simp; try with_reducible rfl)))); (· (simp only [Act.put, List.setIfInBounds_toArray, List.set_cons_zero, List.set_cons_succ]; try rfl)))
          exact rfl
        refine wpAnyM_of_any _ _ _ _ (by decide) ?_
        refine wpAny_list [9] (fuel := 0) (by kernel_rfl) ?_
        simp only [List.filterMap_cons, List.filterMap_nil, List.getElem?_toArray, List.getElem?_cons_succ, List.getElem?_cons_zero]
        obtain ⟨l0, l1, l2, l3, l4⟩ := HC6.out
        have HSM := Lib.hid (two_same H6.out (by omega) s (by unfold maxLen; omega))
        go_wp2_with fail
        refine HSM.out.mono ?_
        rintro e w7 ⟨rfl, h7⟩
        have H7 := Lib.hid h7.dropCell
        clear h7 HSM l0 l1 l3 l4
        go_wp2_with fail
        go_roundg (l.length - (p + 1))
        case rel => exact ⟨p + 1, ((S.sync s)).2, by omega, rfl, by go_num, H7.out⟩
        case measure => omega
      by_cases ho2 : op = 2
      · subst ho2
        go_wp2_with fail
        obtain ⟨bx, hbx⟩ : ∃ z, z = wr.heap.size := ⟨_, rfl⟩
        obtain ⟨wb, hwb⟩ : ∃ z, z = wr.alloc (.cells #[.int .i64 2, .int .i64 nn, .string s, .string to, .slice av b.length cv] 49 (0, 0)) := ⟨_, rfl⟩
        rw [← hbx] at HX ⊢
        rw [← hwb] at HX ⊢
        have HC := Lib.hid (act_cells HX.out.cell)
        clear hbx hwb g0 g1 g2 g3 g4
        refine wp_region_M (fun W => W.cell? ⟨bx, 0, none⟩ = some (.int .i64 2) ∧ W.cell? ⟨bx, 1, none⟩ = some (.int .i64 nn) ∧ W.cell? ⟨bx, 2, none⟩ = some (.string s) ∧ W.cell? ⟨bx, 3, none⟩ = some (.string to) ∧ W.cell? ⟨bx, 4, none⟩ = some (.slice av b.length cv)) 13 (by kernel_rfl) ?_
        refine wpAnyM_take (by kernel_rfl) (by intro c a d v w h; cases d <;> exact h) [(0, false), (1, false), (2, true), (3, false), (4, true), (6, false), (7, false), (8, true), (9, false), (10, true)] (fuel := 4) (by kernel_rfl) ?_
        apply Exists.intro; refine ⟨?_, HC.out, ?_⟩
        · iterate 10 ((first | (apply yieldN; (· (simp only [List.getElem?_toArray, List.getElem?_cons_succ, List.getElem?_cons_zero]; try rfl)); (· rfl)) | ((first | apply yieldP | apply yieldL); (· (simp only [List.getElem?_toArray, List.getElem?_cons_succ, List.getElem?_cons_zero]; try rfl)); (· rfl); (· (intros; go_simp; try with_reducible rfl)))); (· (simp only [Act.put, List.setIfInBounds_toArray, List.set_cons_zero, List.set_cons_succ]; try rfl)))
          exact rfl
        refine wpAnyM_one (fuel := 3) (i := 5) (by kernel_rfl) (by rfl) (fun K hK => ?_)    -- CALL
        go_wp2_with fail
        refine ((mid_cut HX.out.drew s HSM0.out.1 nn)).mono ?_
        rintro e w5 ⟨rfl, h5⟩
        have HC5 := Lib.hid (act_cells h5.cell)
        have H5 := Lib.hid h5
        clear h5
        go_wp2_with fail
        refine hK _ _ HC5.out ?_
        clear hK
        refine wpAnyM_one (fuel := 2) (i := 11) (by kernel_rfl) (by rfl) (fun K hK => ?_)    -- CALL
        go_wp2_with fail
        refine ((two_cut H5.out HSM0.out.1)).mono ?_
        rintro e w6 ⟨rfl, h6⟩
        have HC6 := Lib.hid (act_cells h6.cell)
        have H6 := Lib.hid (h6.more (m := p + 1) (by omega))
        obtain ⟨er, her⟩ : ∃ er, ((S.cut s nn)).1 = er := ⟨_, rfl⟩
        have hee : (er == er) = true := by simp
        rw [her]
        clear h6 her H5 HC5
        go_wp2_with fail
        refine hK _ _ HC6.out ?_
        clear hK
        refine wpAnyM_take (by kernel_rfl) (by intro c a d v w h; cases d <;> exact h) [(12, false)] (fuel := 1) (by kernel_rfl) ?_
        apply Exists.intro; refine ⟨?_, HC6.out, ?_⟩
        · iterate 1 ((first | (apply yieldN; (· (simp only [List.getElem?_toArray, List.getElem?_cons_succ, List.getElem?_cons_zero]; try rfl)); (· rfl)) | ((first | apply yieldP | apply yieldL); (· (simp only [List.getElem?_toArray, List.getElem?_cons_succ, List.getElem?_cons_zero]; try rfl)); (· rfl); (· (intros; go_simp; try with_reducible rfl)))); (· (simp only [Act.put, List.setIfInBounds_toArray, List.set_cons_zero, List.set_cons_succ]; try rfl)))
          exact rfl
        refine wpAnyM_of_any _ _ _ _ (by decide) ?_
        refine wpAny_list [13] (fuel := 0) (by kernel_rfl) ?_
        simp only [List.filterMap_cons, List.filterMap_nil, List.getElem?_toArray, List.getElem?_cons_succ, List.getElem?_cons_zero]
        obtain ⟨l0, l1, l2, l3, l4⟩ := HC6.out
        have HSM := Lib.hid (two_same H6.out (by omega) s (by unfold maxLen; omega))
        go_wp2_with fail
        refine HSM.out.mono ?_
        rintro e w7 ⟨rfl, h7⟩
        have H7 := Lib.hid h7.dropCell
        clear h7 HSM l0 l1 l3 l4
        go_wp2_with fail
        go_roundg (l.length - (p + 1))
        case rel => exact ⟨p + 1, ((S.cut s nn)).2, by omega, rfl, by go_num, H7.out⟩
        case measure => omega
      by_cases ho3 : op = 3
      · subst ho3
        go_wp2_with fail
        obtain ⟨bx, hbx⟩ : ∃ z, z = wr.heap.size := ⟨_, rfl⟩
        obtain ⟨wb, hwb⟩ : ∃ z, z = wr.alloc (.cells #[.int .i64 3, .int .i64 nn, .string s, .string to, .slice av b.length cv] 49 (0, 0)) := ⟨_, rfl⟩
        rw [← hbx] at HX ⊢
        rw [← hwb] at HX ⊢
        have HC := Lib.hid (act_cells HX.out.cell)
        clear hbx hwb g0 g1 g2 g3 g4
        refine wp_region_M (fun W => W.cell? ⟨bx, 0, none⟩ = some (.int .i64 3) ∧ W.cell? ⟨bx, 1, none⟩ = some (.int .i64 nn) ∧ W.cell? ⟨bx, 2, none⟩ = some (.string s) ∧ W.cell? ⟨bx, 3, none⟩ = some (.string to) ∧ W.cell? ⟨bx, 4, none⟩ = some (.slice av b.length cv)) 13 (by kernel_rfl) ?_
        refine wpAnyM_take (by kernel_rfl) (by intro c a d v w h; cases d <;> exact h) [(0, false), (1, false), (2, true), (3, false), (4, true), (6, false), (7, false), (8, true), (9, false), (10, true)] (fuel := 4) (by kernel_rfl) ?_
        apply Exists.intro; refine ⟨?_, HC.out, ?_⟩
        · iterate 10 ((first | (apply yieldN; (· (simp only [List.getElem?_toArray, List.getElem?_cons_succ, List.getElem?_cons_zero]; try rfl)); (· rfl)) | ((first | apply yieldP | apply yieldL); (· (simp only [List.getElem?_toArray, List.getElem?_cons_succ, List.getElem?_cons_zero]; try rfl)); (· rfl); (· (intros; go_simp; try with_reducible rfl)))); (· (simp only [Act.put, List.setIfInBounds_toArray, List.set_cons_zero, List.set_cons_succ]; try rfl)))
          exact rfl
        refine wpAnyM_one (fuel := 3) (i := 5) (by kernel_rfl) (by rfl) (fun K hK => ?_)    -- CALL
        go_wp2_with fail
        refine ((mid_rename HX.out.drew s to HSM0.out.1 HSM0.out.2)).mono ?_
        rintro e w5 ⟨rfl, h5⟩
        have HC5 := Lib.hid (act_cells h5.cell)
        have H5 := Lib.hid h5
        clear h5
        go_wp2_with fail
        refine hK _ _ HC5.out ?_
        clear hK
        refine wpAnyM_one (fuel := 2) (i := 11) (by kernel_rfl) (by rfl) (fun K hK => ?_)    -- CALL
        go_wp2_with fail
        refine ((two_rename H5.out HSM0.out.1 (by omega) (by omega))).mono ?_
        rintro e w6 ⟨rfl, h6⟩
        have HC6 := Lib.hid (act_cells h6.cell)
        have H6 := Lib.hid (h6.more (m := p + 1) (by omega))
        obtain ⟨er, her⟩ : ∃ er, ((S.rename s to)).1 = er := ⟨_, rfl⟩
        have hee : (er == er) = true := by simp
        rw [her]
        clear h6 her H5 HC5
        go_wp2_with fail
        refine hK _ _ HC6.out ?_
        clear hK
        refine wpAnyM_take (by kernel_rfl) (by intro c a d v w h; cases d <;> exact h) [(12, false)] (fuel := 1) (by kernel_rfl) ?_
        apply Exists.intro; refine ⟨?_, HC6.out, ?_⟩
        · iterate 1 ((first | (apply yieldN; (· (simp only [List.getElem?_toArray, List.getElem?_cons_succ, List.getElem?_cons_zero]; try rfl)); (· rfl)) | ((first | apply yieldP | apply yieldL); (· (simp only [List.getElem?_toArray, List.getElem?_cons_succ, List.getElem?_cons_zero]; try rfl)); (· rfl); (· (intros; go_simp; try with_reducible rfl)))); (· (simp only [Act.put, List.setIfInBounds_toArray, List.set_cons_zero, List.set_cons_succ]; try rfl)))
          exact rfl
        refine wpAnyM_of_any _ _ _ _ (by decide) ?_
        refine wpAny_list [13] (fuel := 0) (by kernel_rfl) ?_
        simp only [List.filterMap_cons, List.filterMap_nil, List.getElem?_toArray, List.getElem?_cons_succ, List.getElem?_cons_zero]
        obtain ⟨l0, l1, l2, l3, l4⟩ := HC6.out
        have HSM := Lib.hid (two_same H6.out (by omega) s (by unfold maxLen; omega))
        go_wp2_with fail
        refine HSM.out.mono ?_
        rintro e w7 ⟨rfl, h7⟩
        have H7 := Lib.hid h7.dropCell
        clear h7 HSM l0 l1 l3 l4
        go_wp2_with fail
        go_roundg (l.length - (p + 1))
        case rel => exact ⟨p + 1, ((S.rename s to)).2, by omega, rfl, by go_num, H7.out⟩
        case measure => omega
      by_cases ho4 : op = 4
      · subst ho4
        go_wp2_with fail
        obtain ⟨bx, hbx⟩ : ∃ z, z = wr.heap.size := ⟨_, rfl⟩
        obtain ⟨wb, hwb⟩ : ∃ z, z = wr.alloc (.cells #[.int .i64 4, .int .i64 nn, .string s, .string to, .slice av b.length cv] 49 (0, 0)) := ⟨_, rfl⟩
        rw [← hbx] at HX ⊢
        rw [← hwb] at HX ⊢
        have HC := Lib.hid (act_cells HX.out.cell)
        clear hbx hwb g0 g1 g2 g3 g4
        refine wp_region_M (fun W => W.cell? ⟨bx, 0, none⟩ = some (.int .i64 4) ∧ W.cell? ⟨bx, 1, none⟩ = some (.int .i64 nn) ∧ W.cell? ⟨bx, 2, none⟩ = some (.string s) ∧ W.cell? ⟨bx, 3, none⟩ = some (.string to) ∧ W.cell? ⟨bx, 4, none⟩ = some (.slice av b.length cv)) 9 (by kernel_rfl) ?_
        refine wpAnyM_take (by kernel_rfl) (by intro c a d v w h; cases d <;> exact h) [(0, false), (1, false), (2, true), (4, false), (5, false), (6, true)] (fuel := 4) (by kernel_rfl) ?_
        apply Exists.intro; refine ⟨?_, HC.out, ?_⟩
        · iterate 6 ((first | (apply yieldN; (· (simp only [List.getElem?_toArray, List.getElem?_cons_succ, List.getElem?_cons_zero]; try rfl)); (· rfl)) | ((first | apply yieldP | apply yieldL); (· (simp only [List.getElem?_toArray, List.getElem?_cons_succ, List.getElem?_cons_zero]; try rfl)); (· rfl); (· (intros; go_simp; try with_reducible rfl)))); (· (simp only [Act.put, List.setIfInBounds_toArray, List.set_cons_zero, List.set_cons_succ]; try rfl)))
          exact rfl
        refine wpAnyM_one (fuel := 3) (i := 3) (by kernel_rfl) (by rfl) (fun K hK => ?_)    -- CALL
        go_wp2_with fail
        refine ((mid_drop HX.out.drew s HSM0.out.1)).mono ?_
        rintro e w5 ⟨rfl, h5⟩
        have HC5 := Lib.hid (act_cells h5.cell)
        have H5 := Lib.hid h5
        clear h5
        go_wp2_with fail
        refine hK _ _ HC5.out ?_
        clear hK
        refine wpAnyM_one (fuel := 2) (i := 7) (by kernel_rfl) (by rfl) (fun K hK => ?_)    -- CALL
        go_wp2_with fail
        refine ((two_drop H5.out HSM0.out.1)).mono ?_
        rintro e w6 ⟨rfl, h6⟩
        have HC6 := Lib.hid (act_cells h6.cell)
        have H6 := Lib.hid (h6.more (m := p + 1) (by omega))
        obtain ⟨er, her⟩ : ∃ er, ((S.drop s)).1 = er := ⟨_, rfl⟩
        have hee : (er == er) = true := by simp
        rw [her]
        clear h6 her H5 HC5
        go_wp2_with fail
        refine hK _ _ HC6.out ?_
        clear hK
        refine wpAnyM_take (by kernel_rfl) (by intro c a d v w h; cases d <;> exact h) [(8, false)] (fuel := 1) (by kernel_rfl) ?_
        apply Exists.intro; refine ⟨?_, HC6.out, ?_⟩
        · iterate 1 ((first | (apply yieldN; (· (simp only [List.getElem?_toArray, List.getElem?_cons_succ, List.getElem?_cons_zero]; try rfl)); (· rfl)) | ((first | apply yieldP | apply yieldL); (· (simp only [List.getElem?_toArray, List.getElem?_cons_succ, List.getElem?_cons_zero]; try rfl)); (· rfl); (· (intros; go_simp; try with_reducible rfl)))); (· (simp only [Act.put, List.setIfInBounds_toArray, List.set_cons_zero, List.set_cons_succ]; try rfl)))
          exact rfl
        refine wpAnyM_of_any _ _ _ _ (by decide) ?_
        refine wpAny_list [9] (fuel := 0) (by kernel_rfl) ?_
        simp only [List.filterMap_cons, List.filterMap_nil, List.getElem?_toArray, List.getElem?_cons_succ, List.getElem?_cons_zero]
        obtain ⟨l0, l1, l2, l3, l4⟩ := HC6.out
        have HSM := Lib.hid (two_same H6.out (by omega) s (by unfold maxLen; omega))
        go_wp2_with fail
        refine HSM.out.mono ?_
        rintro e w7 ⟨rfl, h7⟩
        have H7 := Lib.hid h7.dropCell
        clear h7 HSM l0 l1 l3 l4
        go_wp2_with fail
        go_roundg (l.length - (p + 1))
        case rel => exact ⟨p + 1, ((S.drop s)).2, by omega, rfl, by go_num, H7.out⟩
        case measure => omega
      by_cases ho5 : op = 5
      · subst ho5
        go_wp2_with fail
        obtain ⟨bx, hbx⟩ : ∃ z, z = wr.heap.size := ⟨_, rfl⟩
        obtain ⟨wb, hwb⟩ : ∃ z, z = wr.alloc (.cells #[.int .i64 5, .int .i64 nn, .string s, .string to, .slice av b.length cv] 49 (0, 0)) := ⟨_, rfl⟩
        rw [← hbx] at HX ⊢
        rw [← hwb] at HX ⊢
        have HC := Lib.hid (act_cells HX.out.cell)
        clear hbx hwb g0 g1 g2 g3 g4
        refine (mid_crash HX.out nn).mono ?_
        rintro e w5 ⟨rfl, h5⟩
        have HC5 := Lib.hid (act_cells h5.cell)
        have H5 := Lib.hid h5
        clear h5
        obtain ⟨l0, l1, l2, l3, l4⟩ := HC5.out
        go_wp2_with fail
        refine (two_crash H5.out).mono ?_
        rintro e w6 ⟨rfl, h6⟩
        have HC6 := Lib.hid (act_cells h6.cell)
        have H6 := Lib.hid (h6.more (m := p + 1) (by omega))
        clear h6 l0 l1 l2 l3 l4
        obtain ⟨l0, l1, l2, l3, l4⟩ := HC6.out
        have HSM := Lib.hid (two_same H6.out (by omega) s (by unfold maxLen; omega))
        go_wp2_with fail
        refine HSM.out.mono ?_
        rintro e w7 ⟨rfl, h7⟩
        have H7 := Lib.hid h7.dropCell
        clear h7 HSM l0 l1 l3 l4
        go_wp2_with fail
        go_roundg (l.length - (p + 1))
        case rel => exact ⟨p + 1, (S.crash nn), by omega, rfl, by go_num, H7.out⟩
        case measure => omega
      go_wp2_with fail
      obtain ⟨bx, hbx⟩ : ∃ z, z = wr.heap.size := ⟨_, rfl⟩
      obtain ⟨wb, hwb⟩ : ∃ z, z = wr.alloc (.cells #[.int .i64 op, .int .i64 nn, .string s, .string to, .slice av b.length cv] 49 (0, 0)) := ⟨_, rfl⟩
      rw [← hbx] at HX ⊢
      rw [← hwb] at HX ⊢
      have HC := Lib.hid (act_cells HX.out.cell)
      clear hbx hwb g0 g1 g2 g3 g4
      refine (mid_on HX.out).mono ?_
      rintro e w5 ⟨rfl, h5⟩
      have HC5 := Lib.hid (act_cells h5.cell)
      have H5 := Lib.hid h5
      clear h5
      obtain ⟨l0, l1, l2, l3, l4⟩ := HC5.out
      go_wp2_with fail
      refine (two_on H5.out).mono ?_
      rintro e w6 ⟨rfl, h6⟩
      have HC6 := Lib.hid (act_cells h6.cell)
      have H6 := Lib.hid (h6.more (m := p + 1) (by omega))
      clear h6 l0 l1 l2 l3 l4
      obtain ⟨l0, l1, l2, l3, l4⟩ := HC6.out
      have HSM := Lib.hid (two_same H6.out (by omega) s (by unfold maxLen; omega))
      go_wp2_with fail
      refine HSM.out.mono ?_
      rintro e w7 ⟨rfl, h7⟩
      have H7 := Lib.hid h7.dropCell
      clear h7 HSM l0 l1 l3 l4
      go_wp2_with fail
      go_roundg (l.length - (p + 1))
      case rel => exact ⟨p + 1, S.on, by omega, rfl, by go_num, H7.out⟩
      case measure => omega
    case neg =>
    have HH := Lib.hid H
    clear H
    go_wp2_with fail
    refine (mid_crash HH.out 1).mono ?_
    rintro e w5 ⟨rfl, h5⟩
    have H5 := Lib.hid h5
    clear h5
    go_wp2_with fail
    refine (two_crash H5.out).mono ?_
    rintro e w6 ⟨rfl, h6⟩
    have H6 := Lib.hid h6
    clear h6 H5
    go_wp2_with fail
    refine (mid_on H6.out).mono ?_
    rintro e w7 ⟨rfl, h7⟩
    have H7 := Lib.hid h7
    clear h7 H6
    go_wp2_with fail
    refine (two_on H7.out).mono ?_
    rintro e w8 ⟨rfl, h8⟩
    have H8 := Lib.hid h8
    clear h8 H7
    obtain ⟨S8, hS8⟩ : ∃ S8, (S.crash 1).on = S8 := ⟨_, rfl⟩
    rw [hS8] at H8
    clear hS8
    have hp1000 : p ≤ 1000 := by omega
    go_wp2_with fail
    go_loopg [11] S8.fs.length (fun k vi wr => ∃ q : Nat, q ≤ S8.fs.length ∧ k = S8.fs.length - q ∧ vi = .int .i64 (q : Int) ∧ TwoD w wr d t S8 p [] (l.map fun c => (c.vb, c.b)))
    case atStart => exact ⟨0, Nat.zero_le _, rfl, rfl, H8.out⟩
    case round =>
      clear H8
      obtain ⟨q, hq, hk2, hvi2, H⟩ := hrel
      subst hvi2
      have h0 := H
      obtain ⟨T, hr, hf, hF⟩ := h0
      obtain ⟨a0, cp0, gs0, hg0, hg1, hb0, hcp0, hcm0, hrow⟩ := hF.facts
      have c1 := cell_of hb0 1 rfl
      rw [show (#[Value.int .i64 T.room, .slice a0 gs0.length cp0, .bool T.off, .int .i64 T.lives] : Array Value)[1] = .slice a0 gs0.length cp0 from rfl] at c1
      unfold maxLen at hcm0
      have hgl : gs0.length = S8.fs.length := by
        have h1 := congrArg List.length hg0
        rw [List.length_map] at h1
        rw [h1, hr.perm.length_eq]
      rw [hgl] at c1 hcp0 hg1
      have HB := Lib.hid H.below
      have HH2 := Lib.hid H
      by_cases hlq : q < S8.fs.length
      · obtain ⟨y, rfl, hys, e0, -, -, -⟩ := hrow q (by omega)
        obtain ⟨nm, hnm⟩ : ∃ nm, (gs0[q]'(by omega)).2.name = nm := ⟨_, rfl⟩
        rw [hnm] at e0
        have hns : nm.size ≤ maxLen := by
          have hm : (gs0[q]'(by omega)).2 ∈ T.fs := by rw [← hg0]; exact List.mem_map.2 ⟨_, List.getElem_mem _, rfl⟩
          have := hf.names _ (hr.perm.mem_iff.1 hm)
          rw [hnm] at this
          unfold maxLen
          omega
        have HSM := Lib.hid (two_same H hp1000 nm hns)
        clear H hF hr hf hb0 hrow hg0 hnm hns hgl
        go_wp2_with fail
        refine HSM.out.mono ?_
        rintro e w9 ⟨rfl, h9⟩
        have H9 := Lib.hid h9
        clear h9 HSM
        go_wp2_with fail
        go_roundg (S8.fs.length - (q + 1))
        case rel => exact ⟨q + 1, by omega, rfl, by go_num, H9.out⟩
        case measure => omega
      · clear H hF hr hf hb0 hrow hg0 hgl
        go_wp2_with fail
        go_ret
        exact ⟨rfl, HB.out⟩
end Go.Proofs.Ythphinlibhafcaa
