/-
  Texts of this claim, laid together.
-/
import Derived.Test.YtebmmbommkpjaaaMg4

/-
  CoordPlays: any calls: what is decided, who owes, what is open, the bytes, are as the document says.
-/
namespace Go.Proofs.Ytebmmbommkpjaaa
open Go.RowKit Go.Av

theorem act_cells {W : World} {bx : Nat} {op id sh : Int} {vs : Value} {yes : Bool} (h : W.heap[bx]? = some (.cells #[.int .i64 op, .int .i64 id, vs, .int .i64 sh, .bool yes] 40 (0, 0))) :
    W.cell? ⟨bx, 0, none⟩ = some (.int .i64 op) ∧ W.cell? ⟨bx, 1, none⟩ = some (.int .i64 id) ∧ W.cell? ⟨bx, 2, none⟩ = some vs ∧ W.cell? ⟨bx, 3, none⟩ = some (.int .i64 sh) ∧ W.cell? ⟨bx, 4, none⟩ = some (.bool yes) :=
  ⟨cell_of h 0 rfl, cell_of h 1 rfl, cell_of h 2 rfl, cell_of h 3 rfl, cell_of h 4 rfl⟩

set_option maxRecDepth 100000 in
set_option maxHeartbeats 64000000 in
theorem coordPlays_walk (a1 : Option Addr) (len1 cap1 : Nat) (acts : List ActS) (w : World) (h1 : IsActs w a1 len1 cap1 acts) :
    Calls Try.prog 7 #[.slice a1 len1 cap1] w fun e w' => e = .returned (.bool true) ∧ Below w.heap.size w w' := by
  obtain ⟨hla, hlca, hca, haa, hac, hax⟩ := h1
  subst hla
  unfold maxLen at hca
  have HAC := Lib.hid (show _ ∧ _ ∧ _ from ⟨haa, hac, hax⟩)
  clear haa hac hax
  go_enter Try.func7, Try.ntmps7
  go_wp2_with fail
  refine (awake20_any _).mono ?_
  rintro e w1 ⟨rfl, hu1⟩
  by_cases hl80 : 80 < acts.length
  · have HB := Lib.hid hu1.below
    clear hu1
    go_wp2_with fail
    go_ret
    exact ⟨rfl, HB.out⟩
  go_wp2_with fail
  refine (new_coord ((Sep.start w).keep hu1)).mono ?_
  rintro e w2 ⟨c, rfl, hC⟩
  have HT := Lib.hid (twoC_new hC)
  clear hC hu1
  go_wp2_with fail
  obtain ⟨d, hd⟩ : ∃ d, d = w2.heap.size := ⟨_, rfl⟩
  obtain ⟨w3, hw3⟩ : ∃ z, z = w2.alloc (.cells #[.slice none 0 0] 51 (0, 0)) := ⟨_, rfl⟩
  rw [← hw3, ← hd] at HT
  rw [← hd, ← hw3]
  clear hw3 hd
  go_loopg [3, 5] acts.length (fun k vc vi wr => ∃ (p : Nat) (cc : Nat) (S : CoS), p ≤ acts.length ∧ k = acts.length - p ∧ vi = .int .i64 (p : Int) ∧ vc = .pointer (some ⟨cc, 0, none⟩) ∧ TwoC w wr cc d S p [] [])
  case atStart => exact ⟨0, c, [], Nat.zero_le _, rfl, rfl, rfl, HT.out⟩
  case round =>
    clear HT
    obtain ⟨p, cc, S, hpl, hk, hvi, hvc, H⟩ := hrel
    subst hvi hvc
    by_cases hlt : p < acts.length
    case neg =>
      have HB := Lib.hid H.below
      clear H
      go_wp2_with fail
      go_ret
      exact ⟨rfl, HB.out⟩
    case pos =>
    obtain ⟨x, hxa⟩ : ∃ x, a1 = some x := by
      cases a1 with
      | none => exact absurd (HAC.out.1 rfl) (by omega)
      | some x => exact ⟨x, rfl⟩
    subst hxa
    obtain ⟨g0, g1, g2, g3, g4⟩ := HAC.out.2.1 x rfl p hlt
    obtain ⟨hidm, E, hE⟩ := HAC.out.2.2 _ (List.getElem_mem hlt)
    obtain ⟨q0, hq0⟩ : ∃ q, acts[p] = q := ⟨_, rfl⟩
    rw [hq0] at g0 g1 g2 g3 g4 hidm hE
    obtain ⟨op, id, vs, sl, sh, yes⟩ := q0
    dsimp only at g0 g1 g2 g3 g4 hidm hE
    obtain ⟨av, nv, cv, hv, hlv, hnv, hcv, -⟩ := _root_.id hE
    rw [List.length_map, Nat.mul_one] at hlv
    subst hlv
    subst hv
    have hbel := H.below
    have HRD := Lib.hid (show ∀ W, Below w.heap.size w W → ReadRow W 1 (.slice av sl.length cv) (sl.map iv) E from fun W hb => hE.frame (fun b hb2 => hb.block b (hE.lt b hb2)))
    have g0 := (hbel.cell (World.block_lt_of_cell? w _ g0)).trans g0
    have g1 := (hbel.cell (World.block_lt_of_cell? w _ g1)).trans g1
    have g2 := (hbel.cell (World.block_lt_of_cell? w _ g2)).trans g2
    have g3 := (hbel.cell (World.block_lt_of_cell? w _ g3)).trans g3
    have g4 := (hbel.cell (World.block_lt_of_cell? w _ g4)).trans g4
    rw [addK_field g0 1] at g1
    rw [addK_field g0 2] at g2
    rw [addK_field g0 3] at g3
    rw [addK_field g0 4] at g4
    unfold maxLen at hcv
    have hX := H.newCell (.cells #[.int .i64 op, .int .i64 id, .slice av sl.length cv, .int .i64 sh, .bool yes] 40 (0, 0))
    clear hq0 H hbel hE
    by_cases hb8 : 8 < sl.length
    · have HB := Lib.hid hX.below
      clear hX
      go_wp2_with fail
      go_ret
      exact ⟨rfl, HB.out⟩
    have HX := Lib.hid hX
    have HID := Lib.hid hidm
    clear hX hidm
    by_cases ho0 : op = 0
    · subst ho0
      as_aux_lemma =>
        go_wp2_with fail
        obtain ⟨bx, hbx⟩ : ∃ z, z = wr.heap.size := ⟨_, rfl⟩
        obtain ⟨wb, hwb⟩ : ∃ z, z = wr.alloc (.cells #[.int .i64 0, .int .i64 id, .slice av sl.length cv, .int .i64 sh, .bool yes] 40 (0, 0)) := ⟨_, rfl⟩
        rw [← hbx] at HX ⊢
        rw [← hwb] at HX ⊢
        have HC := Lib.hid (act_cells HX.out.cell)
        clear hbx hwb g0 g1 g2 g3 g4
        refine wp_region_M (fun W => W.cell? ⟨bx, 0, none⟩ = some (.int .i64 0) ∧ W.cell? ⟨bx, 1, none⟩ = some (.int .i64 id) ∧ W.cell? ⟨bx, 2, none⟩ = some (.slice av sl.length cv) ∧ W.cell? ⟨bx, 3, none⟩ = some (.int .i64 sh) ∧ W.cell? ⟨bx, 4, none⟩ = some (.bool yes)) 13 (by kernel_rfl) ?_
        refine wpAnyM_take (by kernel_rfl) (by intro c a d v w h; cases d <;> exact h) [(0, false), (1, false), (2, true), (3, false), (4, true), (6, false), (7, false), (8, true), (9, false), (10, true)] (fuel := 4) (by kernel_rfl) ?_
        apply Exists.intro; refine ⟨?_, HC.out, ?_⟩
        · iterate 10 ((first | (apply yieldN; (· (simp only [List.getElem?_toArray, List.getElem?_cons_succ, List.getElem?_cons_zero]; try rfl)); (· rfl)) | ((first | apply yieldP | apply yieldL); (· (simp only [List.getElem?_toArray, List.getElem?_cons_succ, List.getElem?_cons_zero]; try rfl)); (· rfl); (· (intros; go_simp; try with_reducible rfl)))); (· (simp only [Act.put, List.setIfInBounds_toArray, List.set_cons_zero, List.set_cons_succ]; try rfl)))
          exact rfl
        refine wpAnyM_one (fuel := 3) (i := 5) (by kernel_rfl) (by rfl) (fun K hK => ?_)    -- CALL
        go_wp2_with fail
        refine ((mid_begin HX.out.drew id _ sl E HID.out (HRD.out _ HX.out.drew.below))).mono ?_
        rintro e w5 ⟨rfl, h5⟩
        have HC5 := Lib.hid (act_cells h5.cell)
        have H5 := Lib.hid h5
        clear h5
        go_wp2_with fail
        refine hK _ _ HC5.out ?_
        clear hK
        refine wpAnyM_one (fuel := 2) (i := 11) (by kernel_rfl) (by rfl) (fun K hK => ?_)    -- CALL
        go_wp2_with fail
        refine ((two_begin H5.out _ E HID.out (HRD.out _ (mid_below H5.out)) (by omega))).mono ?_
        rintro e w6 ⟨rfl, h6⟩
        have HC6 := Lib.hid (act_cells h6.cell)
        have H6 := Lib.hid h6
        obtain ⟨er, her⟩ : ∃ er, ((beginS S id sl)).1 = er := ⟨_, rfl⟩
        have hee : (er == er) = true := by simp
        rw [her]
        clear h6 her H5 HC5
        go_wp2_with fail
        refine hK _ _ HC6.out ?_
        clear hK
        refine wpAnyM_take (by kernel_rfl) (by intro c a d v w h; cases d <;> exact h) [(12, false)] (fuel := 1) (by kernel_rfl) ?_
        apply Exists.intro; refine ⟨?_, HC6.out, ?_⟩
        · iterate 1 ((first | (apply yieldN; (· (simp only [List.getElem?_toArray, List.getElem?_cons_succ, List.getElem?_cons_zero]; try rfl)); (· rfl)) | ((first | apply yieldP | apply yieldL); (· (simp only [List.getElem?_toArray, List.getElem?_cons_succ, List.getElem?_cons_zero]; try rfl)); (· rfl); (· (intros; go_simp; try with_reducible rfl)))); (· (simp only [Act.put, List.setIfInBounds_toArray, List.set_cons_zero, List.set_cons_succ]; try rfl)))
          exact rfl
        refine wpAnyM_of_any _ _ _ _ (by decide) ?_
        refine wpAny_list [13] (fuel := 0) (by kernel_rfl) ?_
        simp only [List.filterMap_cons, List.filterMap_nil, List.getElem?_toArray, List.getElem?_cons_succ, List.getElem?_cons_zero]
        obtain ⟨l0, l1, l2, l3, l4⟩ := HC6.out
        obtain ⟨SS, hSS⟩ : ∃ SS, ((beginS S id sl)).2 = SS := ⟨_, rfl⟩
        rw [hSS] at H6
        clear hSS l0 l2 l3 l4
        obtain ⟨dq, hdq⟩ : ∃ dq, decS SS id = dq := ⟨_, rfl⟩
        obtain ⟨da, db⟩ := dq
        have hd1 := c_decision H6.out id
        rw [hdq] at hd1
        have HD1 := Lib.hid hd1
        clear hd1
        go_wp2_with fail
        refine HD1.out.mono ?_
        rintro e w7 ⟨rfl, h7⟩
        have HC7 := Lib.hid (act_cells h7.cell)
        have hd2 := d_decision h7 id
        rw [hdq] at hd2
        have HD2 := Lib.hid hd2
        clear h7 hd2 HD1 H6 HC6 l1 hdq
        have l1 := HC7.out.2.1
        go_wp2_with fail
        refine HD2.out.mono ?_
        rintro e w8 ⟨rfl, h8⟩
        have H8 := Lib.hid h8.drew
        have HC8 := Lib.hid (act_cells h8.drew.cell)
        have hda : (da != da) = false := by cases da <;> rfl
        have hdb : (db != db) = false := by cases db <;> rfl
        obtain ⟨oL, hoL⟩ : ∃ oL, owesS SS id = oL := ⟨_, rfl⟩
        have ho1 := c_owes H8.out id
        rw [hoL] at ho1
        have HO1 := Lib.hid ho1
        have HOL := Lib.hid hoL
        clear h8 ho1 HD2 HC7 l1 hoL
        go_wp2_with fail
        refine wp_region_M (fun W => W.cell? ⟨bx, 1, none⟩ = some (.int .i64 id)) 41 (by kernel_rfl) ?_
        refine wpAnyM_take (by kernel_rfl) (by intro c a d v w h; cases d <;> exact h) [(0, false), (1, false), (2, false), (3, false), (4, false), (5, false), (6, false), (7, false), (8, false), (9, false), (10, false), (11, false), (12, false), (13, false), (14, false), (15, true), (17, false), (18, false), (19, true)] (fuel := 22) (by kernel_rfl) ?_
        apply Exists.intro; refine ⟨?_, HC8.out.2.1, ?_⟩
        · iterate 19 ((first | (apply yieldN; (· (simp only [List.getElem?_toArray, List.getElem?_cons_succ, List.getElem?_cons_zero]; try rfl)); (· rfl)) | ((first | apply yieldP | apply yieldL); (· (simp only [List.getElem?_toArray, List.getElem?_cons_succ, List.getElem?_cons_zero]; try rfl)); (· rfl); (· (intros; go_simp; try with_reducible rfl)))); (· (simp only [Act.put, List.setIfInBounds_toArray, List.set_cons_zero, List.set_cons_succ]; try rfl)))
          exact rfl
        refine wpAnyM_one (fuel := 21) (i := 16) (by kernel_rfl) (by rfl) (fun K hK => ?_)    -- CALL
        go_wp2_with fail
        refine HO1.out.mono ?_
        rintro e w9 ⟨v9, D9, rfl, h9, hu9⟩
        have H9 := Lib.hid (H8.out.keep hu9)
        have HC9 := Lib.hid (act_cells H9.out.cell)
        obtain ⟨E9, hr9, -⟩ := h9.read
        have HR9 := Lib.hid hr9
        have ho2 := d_owes H9.out id
        rw [HOL.out] at ho2
        have HO2 := Lib.hid ho2
        clear h9 hu9 hr9 ho2 H8 HC8 HO1
        go_wp2_with fail
        refine hK _ _ HC9.out.2.1 ?_
        clear hK
        refine wpAnyM_one (fuel := 20) (i := 20) (by kernel_rfl) (by rfl) (fun K hK => ?_)    -- CALL
        go_wp2_with fail
        refine HO2.out.mono ?_
        rintro e w10 ⟨v10, D10, rfl, h10, hu10⟩
        have H10 := Lib.hid (H9.out.keep hu10)
        have HC10 := Lib.hid (act_cells H10.out.cell)
        obtain ⟨E10, hr10, -⟩ := h10.read
        have hsm := same_any v9 v10 oL oL E9 E10 w10 (HR9.out.frame (hu10.same HR9.out.lt (by simp))) hr10
        rw [decide_eq_true rfl] at hsm
        have HSM := Lib.hid hsm
        clear h10 hu10 hr10 hsm H9 HC9 HO2 HR9
        go_wp2_with fail
        refine hK _ _ HC10.out.2.1 ?_
        clear hK
        refine wpAnyM_one (fuel := 19) (i := 21) (by kernel_rfl) (by rfl) (fun K hK => ?_)    -- CALL
        go_wp2_with fail
        refine HSM.out.mono ?_
        rintro e w11 ⟨rfl, hu11⟩
        have H11 := Lib.hid (H10.out.keep hu11)
        have HC11 := Lib.hid (act_cells H11.out.cell)
        have HOP := Lib.hid (c_open H11.out (by omega))
        clear hu11 HSM H10 HC10
        go_wp2_with fail
        refine hK _ _ HC11.out.2.1 ?_
        clear hK
        refine wpAnyM_take (by kernel_rfl) (by intro c a d v w h; cases d <;> exact h) [(22, false), (23, false), (24, false), (25, false), (27, false)] (fuel := 14) (by kernel_rfl) ?_
        apply Exists.intro; refine ⟨?_, HC11.out.2.1, ?_⟩
        · iterate 5 ((first | (apply yieldN; (· (simp only [List.getElem?_toArray, List.getElem?_cons_succ, List.getElem?_cons_zero]; try rfl)); (· rfl)) | ((first | apply yieldP | apply yieldL); (· (simp only [List.getElem?_toArray, List.getElem?_cons_succ, List.getElem?_cons_zero]; try rfl)); (· rfl); (· (intros; go_simp; try with_reducible rfl)))); (· (simp only [Act.put, List.setIfInBounds_toArray, List.set_cons_zero, List.set_cons_succ]; try rfl)))
          exact rfl
        refine wpAnyM_one (fuel := 13) (i := 26) (by kernel_rfl) (by rfl) (fun K hK => ?_)    -- CALL
        go_wp2_with fail
        refine HOP.out.mono ?_
        rintro e w12 ⟨v12, rfl, h12⟩
        obtain ⟨E12, hr12⟩ := h12.row
        have HR12 := Lib.hid hr12
        have H12 := Lib.hid h12.dropCell
        have HC12 := Lib.hid (act_cells h12.dropCell.cell)
        have HOD := Lib.hid (d_open H12.out)
        clear h12 hr12 HOP H11 HC11
        go_wp2_with fail
        refine hK _ _ HC12.out.2.1 ?_
        clear hK
        refine wpAnyM_one (fuel := 12) (i := 28) (by kernel_rfl) (by rfl) (fun K hK => ?_)    -- CALL
        go_wp2_with fail
        refine HOD.out.mono ?_
        rintro e w13 ⟨v13, D13, rfl, h13, hu13⟩
        have H13 := Lib.hid (H12.out.keep hu13)
        have HC13 := Lib.hid (act_cells H13.out.cell)
        obtain ⟨E13, hr13, -⟩ := h13.read
        have hsm := same64_any v12 v13 _ _ E12 E13 w13 (HR12.out.frame (hu13.same HR12.out.lt (by simp))) hr13
        rw [decide_eq_true rfl] at hsm
        have HSM := Lib.hid hsm
        clear h13 hu13 hr13 hsm H12 HC12 HR12 HOD
        go_wp2_with fail
        refine hK _ _ HC13.out.2.1 ?_
        clear hK
        refine wpAnyM_one (fuel := 11) (i := 29) (by kernel_rfl) (by rfl) (fun K hK => ?_)    -- CALL
        go_wp2_with fail
        refine HSM.out.mono ?_
        rintro e w14 ⟨rfl, hu14⟩
        have H14 := Lib.hid (H13.out.keep hu14)
        have HC14 := Lib.hid (act_cells H14.out.cell)
        obtain ⟨bs, hbs⟩ : ∃ bs, bytesS SS = bs := ⟨_, rfl⟩
        have hpt := c_put H14.out (by omega)
        rw [hbs] at hpt
        have HPT := Lib.hid hpt
        have HBS := Lib.hid hbs
        clear hu14 HSM H13 HC13 hpt hbs
        go_wp2_with fail
        refine hK _ _ HC14.out.2.1 ?_
        clear hK
        refine wpAnyM_take (by kernel_rfl) (by intro c a d v w h; cases d <;> exact h) [(30, false), (31, false), (32, false), (33, false), (36, false)] (fuel := 6) (by kernel_rfl) ?_
        apply Exists.intro; refine ⟨?_, HC14.out.2.1, ?_⟩
        · iterate 5 ((first | (apply yieldN; (· (simp only [List.getElem?_toArray, List.getElem?_cons_succ, List.getElem?_cons_zero]; try rfl)); (· rfl)) | ((first | apply yieldP | apply yieldL); (· (simp only [List.getElem?_toArray, List.getElem?_cons_succ, List.getElem?_cons_zero]; try rfl)); (· rfl); (· (intros; go_simp; try with_reducible rfl)))); (· (simp only [Act.put, List.setIfInBounds_toArray, List.set_cons_zero, List.set_cons_succ]; try rfl)))
          exact rfl
        refine wpAnyM_one (fuel := 5) (i := 34) (by kernel_rfl) (by rfl) (fun K hK => ?_)    -- CALL
        go_wp2_with fail
        refine HPT.out.mono ?_
        rintro e w15 ⟨v15, rfl, h15⟩
        have H15 := Lib.hid h15
        have HC15 := Lib.hid (act_cells h15.cell)
        have hpt := d_put h15
        rw [HBS.out] at hpt
        have HP2 := Lib.hid hpt
        clear h15 hpt HPT H14 HC14
        go_wp2_with fail
        refine hK _ _ HC15.out.2.1 ?_
        clear hK
        refine wpAnyM_each (fuel := 4) [35, 37] (by kernel_rfl) (by simp) (fun i hi => ?_)
        simp only [List.mem_cons, List.not_mem_nil, or_false] at hi
        rcases hi with rfl | rfl
        case' inl =>
          refine ⟨_, by rfl, fun K hK => ?_⟩
          obtain ⟨E15, hr15⟩ := H15.out.get (v := v15) (b := bs) (by simp)
          have hcv1 := conv_str (P := Try.prog) (src := 53) (dst := 9) Try.underlying53 Try.underlying5 Try.underlying9 hr15 w15 (fun _ _ => rfl)
          clear hr15
          go_wp2_with fail
          refine hK _ _ HC15.out.2.1 ?_
          clear hK hcv1
          refine wpAnyM_one (fuel := 3) (i := 37) (by kernel_rfl) (by rfl) (fun K hK => ?_)
          go_wp2_with fail
          refine HP2.out.mono ?_
          rintro e w16 ⟨v16, rfl, h⟩
          obtain ⟨E16, hr16⟩ := h.get (v := v16) (b := bs) (by simp)
          obtain ⟨E17, hr17⟩ := h.get (v := v15) (b := bs) (by simp)
          have hcv2 := conv_str (P := Try.prog) (src := 53) (dst := 9) Try.underlying53 Try.underlying5 Try.underlying9 hr16 w16 (fun _ _ => rfl)
          have hcv1 := conv_str (P := Try.prog) (src := 53) (dst := 9) Try.underlying53 Try.underlying5 Try.underlying9 hr17 w16 (fun _ _ => rfl)
          have H16 := Lib.hid h
          have HC16 := Lib.hid (act_cells h.cell)
          clear h hr16 hr17
          clear hcv1
          go_wp2_with fail
          refine hK _ _ HC16.out.2.1 ?_
          clear hK
          refine wpAnyM_one (fuel := 2) (i := 38) (by kernel_rfl) (by rfl) (fun K hK => ?_)
          go_wp2_with fail
          refine hK _ _ HC16.out.2.1 ?_
          clear hK hcv2
        case' inr =>
          refine ⟨_, by rfl, fun K hK => ?_⟩
          go_wp2_with fail
          refine HP2.out.mono ?_
          rintro e w16 ⟨v16, rfl, h⟩
          obtain ⟨E16, hr16⟩ := h.get (v := v16) (b := bs) (by simp)
          obtain ⟨E17, hr17⟩ := h.get (v := v15) (b := bs) (by simp)
          have hcv2 := conv_str (P := Try.prog) (src := 53) (dst := 9) Try.underlying53 Try.underlying5 Try.underlying9 hr16 w16 (fun _ _ => rfl)
          have hcv1 := conv_str (P := Try.prog) (src := 53) (dst := 9) Try.underlying53 Try.underlying5 Try.underlying9 hr17 w16 (fun _ _ => rfl)
          have H16 := Lib.hid h
          have HC16 := Lib.hid (act_cells h.cell)
          clear h hr16 hr17
          go_wp2_with fail
          refine hK _ _ HC16.out.2.1 ?_
          clear hK
          refine wpAnyM_each (fuel := 3) [35, 38] (by kernel_rfl) (by simp) (fun i hi => ?_)
          simp only [List.mem_cons, List.not_mem_nil, or_false] at hi
          rcases hi with rfl | rfl
          case' inl =>
            refine ⟨_, by rfl, fun K hK => ?_⟩
            go_wp2_with fail
            refine hK _ _ HC16.out.2.1 ?_
            clear hK
            refine wpAnyM_one (fuel := 2) (i := 38) (by kernel_rfl) (by rfl) (fun K hK => ?_)
          case' inr =>
            refine ⟨_, by rfl, fun K hK => ?_⟩
            go_wp2_with fail
            refine hK _ _ HC16.out.2.1 ?_
            clear hK
            refine wpAnyM_one (fuel := 2) (i := 35) (by kernel_rfl) (by rfl) (fun K hK => ?_)
          all_goals
            go_wp2_with fail
            refine hK _ _ HC16.out.2.1 ?_
            clear hK hcv1 hcv2
        all_goals
          refine wpAnyM_take (by kernel_rfl) (by intro c a d v w h; cases d <;> exact h) [(39, false), (40, false)] (fuel := 0) (by kernel_rfl) ?_
          apply Exists.intro; refine ⟨?_, HC16.out.2.1, ?_⟩
          · iterate 2 ((first | (apply yieldN; (· (simp only [List.getElem?_toArray, List.getElem?_cons_succ, List.getElem?_cons_zero]; try rfl)); (· rfl)) | ((first | apply yieldP | apply yieldL); (· (simp only [List.getElem?_toArray, List.getElem?_cons_succ, List.getElem?_cons_zero]; try rfl)); (· rfl); (· (intros; go_simp; try with_reducible rfl)))); (· (simp only [Act.put, List.setIfInBounds_toArray, List.set_cons_zero, List.set_cons_succ]; try rfl)))
            exact rfl
          refine wpAnyM_done (by kernel_rfl) ?_ _
          go_wp2_with fail
          go_roundg (acts.length - (p + 1))
          case rel => exact ⟨p + 1, cc, SS, by omega, by first | rfl | go_num, by first | rfl | go_num, rfl, (H16.out.dropCell).also (fun r hr => by cases hr)⟩
          case measure => omega
    by_cases ho1 : op = 1
    · subst ho1
      as_aux_lemma =>
        go_wp2_with fail
        obtain ⟨bx, hbx⟩ : ∃ z, z = wr.heap.size := ⟨_, rfl⟩
        obtain ⟨wb, hwb⟩ : ∃ z, z = wr.alloc (.cells #[.int .i64 1, .int .i64 id, .slice av sl.length cv, .int .i64 sh, .bool yes] 40 (0, 0)) := ⟨_, rfl⟩
        rw [← hbx] at HX ⊢
        rw [← hwb] at HX ⊢
        have HC := Lib.hid (act_cells HX.out.cell)
        clear hbx hwb g0 g1 g2 g3 g4
        refine wp_region_M (fun W => W.cell? ⟨bx, 0, none⟩ = some (.int .i64 1) ∧ W.cell? ⟨bx, 1, none⟩ = some (.int .i64 id) ∧ W.cell? ⟨bx, 2, none⟩ = some (.slice av sl.length cv) ∧ W.cell? ⟨bx, 3, none⟩ = some (.int .i64 sh) ∧ W.cell? ⟨bx, 4, none⟩ = some (.bool yes)) 17 (by kernel_rfl) ?_
        refine wpAnyM_take (by kernel_rfl) (by intro c a d v w h; cases d <;> exact h) [(0, false), (1, false), (2, true), (3, false), (4, true), (5, false), (6, true), (8, false), (9, false), (10, true), (11, false), (12, true), (13, false), (14, true)] (fuel := 4) (by kernel_rfl) ?_
        apply Exists.intro; refine ⟨?_, HC.out, ?_⟩
        · iterate 14 ((first | (apply yieldN; (· (simp only [List.getElem?_toArray, List.getElem?_cons_succ, List.getElem?_cons_zero]; try rfl)); (· rfl)) | ((first | apply yieldP | apply yieldL); (· (simp only [List.getElem?_toArray, List.getElem?_cons_succ, List.getElem?_cons_zero]; try rfl)); (· rfl); (· (intros; go_simp; try with_reducible rfl)))); (· (simp only [Act.put, List.setIfInBounds_toArray, List.set_cons_zero, List.set_cons_succ]; try rfl)))
          exact rfl
        refine wpAnyM_one (fuel := 3) (i := 7) (by kernel_rfl) (by rfl) (fun K hK => ?_)    -- CALL
        go_wp2_with fail
        refine ((mid_vote HX.out.drew id sh yes)).mono ?_
        rintro e w5 ⟨rfl, h5⟩
        have HC5 := Lib.hid (act_cells h5.cell)
        have H5 := Lib.hid h5
        clear h5
        go_wp2_with fail
        refine hK _ _ HC5.out ?_
        clear hK
        refine wpAnyM_one (fuel := 2) (i := 15) (by kernel_rfl) (by rfl) (fun K hK => ?_)    -- CALL
        go_wp2_with fail
        refine ((two_vote H5.out HID.out)).mono ?_
        rintro e w6 ⟨rfl, h6⟩
        have HC6 := Lib.hid (act_cells h6.cell)
        have H6 := Lib.hid h6
        obtain ⟨er, her⟩ : ∃ er, ((voteS S id sh yes)).1 = er := ⟨_, rfl⟩
        have hee : (er == er) = true := by simp
        rw [her]
        clear h6 her H5 HC5
        go_wp2_with fail
        refine hK _ _ HC6.out ?_
        clear hK
        refine wpAnyM_take (by kernel_rfl) (by intro c a d v w h; cases d <;> exact h) [(16, false)] (fuel := 1) (by kernel_rfl) ?_
        apply Exists.intro; refine ⟨?_, HC6.out, ?_⟩
        · iterate 1 ((first | (apply yieldN; (· (simp only [List.getElem?_toArray, List.getElem?_cons_succ, List.getElem?_cons_zero]; try rfl)); (· rfl)) | ((first | apply yieldP | apply yieldL); (· (simp only [List.getElem?_toArray, List.getElem?_cons_succ, List.getElem?_cons_zero]; try rfl)); (· rfl); (· (intros; go_simp; try with_reducible rfl)))); (· (simp only [Act.put, List.setIfInBounds_toArray, List.set_cons_zero, List.set_cons_succ]; try rfl)))
          exact rfl
        refine wpAnyM_of_any _ _ _ _ (by decide) ?_
        refine wpAny_list [17] (fuel := 0) (by kernel_rfl) ?_
        simp only [List.filterMap_cons, List.filterMap_nil, List.getElem?_toArray, List.getElem?_cons_succ, List.getElem?_cons_zero]
        obtain ⟨l0, l1, l2, l3, l4⟩ := HC6.out
        obtain ⟨SS, hSS⟩ : ∃ SS, ((voteS S id sh yes)).2 = SS := ⟨_, rfl⟩
        rw [hSS] at H6
        clear hSS l0 l2 l3 l4
        obtain ⟨dq, hdq⟩ : ∃ dq, decS SS id = dq := ⟨_, rfl⟩
        obtain ⟨da, db⟩ := dq
        have hd1 := c_decision H6.out id
        rw [hdq] at hd1
        have HD1 := Lib.hid hd1
        clear hd1
        go_wp2_with fail
        refine HD1.out.mono ?_
        rintro e w7 ⟨rfl, h7⟩
        have HC7 := Lib.hid (act_cells h7.cell)
        have hd2 := d_decision h7 id
        rw [hdq] at hd2
        have HD2 := Lib.hid hd2
        clear h7 hd2 HD1 H6 HC6 l1 hdq
        have l1 := HC7.out.2.1
        go_wp2_with fail
        refine HD2.out.mono ?_
        rintro e w8 ⟨rfl, h8⟩
        have H8 := Lib.hid h8.drew
        have HC8 := Lib.hid (act_cells h8.drew.cell)
        have hda : (da != da) = false := by cases da <;> rfl
        have hdb : (db != db) = false := by cases db <;> rfl
        obtain ⟨oL, hoL⟩ : ∃ oL, owesS SS id = oL := ⟨_, rfl⟩
        have ho1 := c_owes H8.out id
        rw [hoL] at ho1
        have HO1 := Lib.hid ho1
        have HOL := Lib.hid hoL
        clear h8 ho1 HD2 HC7 l1 hoL
        go_wp2_with fail
        refine wp_region_M (fun W => W.cell? ⟨bx, 1, none⟩ = some (.int .i64 id)) 41 (by kernel_rfl) ?_
        refine wpAnyM_take (by kernel_rfl) (by intro c a d v w h; cases d <;> exact h) [(0, false), (1, false), (2, false), (3, false), (4, false), (5, false), (6, false), (7, false), (8, false), (9, false), (10, false), (11, false), (12, false), (13, false), (14, false), (15, true), (17, false), (18, false), (19, true)] (fuel := 22) (by kernel_rfl) ?_
        apply Exists.intro; refine ⟨?_, HC8.out.2.1, ?_⟩
        · iterate 19 ((first | (apply yieldN; (· (simp only [List.getElem?_toArray, List.getElem?_cons_succ, List.getElem?_cons_zero]; try rfl)); (· rfl)) | ((first | apply yieldP | apply yieldL); (· (simp only [List.getElem?_toArray, List.getElem?_cons_succ, List.getElem?_cons_zero]; try rfl)); (· rfl); (· (intros; go_simp; try with_reducible rfl)))); (· (simp only [Act.put, List.setIfInBounds_toArray, List.set_cons_zero, List.set_cons_succ]; try rfl)))
          exact rfl
        refine wpAnyM_one (fuel := 21) (i := 16) (by kernel_rfl) (by rfl) (fun K hK => ?_)    -- CALL
        go_wp2_with fail
        refine HO1.out.mono ?_
        rintro e w9 ⟨v9, D9, rfl, h9, hu9⟩
        have H9 := Lib.hid (H8.out.keep hu9)
        have HC9 := Lib.hid (act_cells H9.out.cell)
        obtain ⟨E9, hr9, -⟩ := h9.read
        have HR9 := Lib.hid hr9
        have ho2 := d_owes H9.out id
        rw [HOL.out] at ho2
        have HO2 := Lib.hid ho2
        clear h9 hu9 hr9 ho2 H8 HC8 HO1
        go_wp2_with fail
        refine hK _ _ HC9.out.2.1 ?_
        clear hK
        refine wpAnyM_one (fuel := 20) (i := 20) (by kernel_rfl) (by rfl) (fun K hK => ?_)    -- CALL
        go_wp2_with fail
        refine HO2.out.mono ?_
        rintro e w10 ⟨v10, D10, rfl, h10, hu10⟩
        have H10 := Lib.hid (H9.out.keep hu10)
        have HC10 := Lib.hid (act_cells H10.out.cell)
        obtain ⟨E10, hr10, -⟩ := h10.read
        have hsm := same_any v9 v10 oL oL E9 E10 w10 (HR9.out.frame (hu10.same HR9.out.lt (by simp))) hr10
        rw [decide_eq_true rfl] at hsm
        have HSM := Lib.hid hsm
        clear h10 hu10 hr10 hsm H9 HC9 HO2 HR9
        go_wp2_with fail
        refine hK _ _ HC10.out.2.1 ?_
        clear hK
        refine wpAnyM_one (fuel := 19) (i := 21) (by kernel_rfl) (by rfl) (fun K hK => ?_)    -- CALL
        go_wp2_with fail
        refine HSM.out.mono ?_
        rintro e w11 ⟨rfl, hu11⟩
        have H11 := Lib.hid (H10.out.keep hu11)
        have HC11 := Lib.hid (act_cells H11.out.cell)
        have HOP := Lib.hid (c_open H11.out (by omega))
        clear hu11 HSM H10 HC10
        go_wp2_with fail
        refine hK _ _ HC11.out.2.1 ?_
        clear hK
        refine wpAnyM_take (by kernel_rfl) (by intro c a d v w h; cases d <;> exact h) [(22, false), (23, false), (24, false), (25, false), (27, false)] (fuel := 14) (by kernel_rfl) ?_
        apply Exists.intro; refine ⟨?_, HC11.out.2.1, ?_⟩
        · iterate 5 ((first | (apply yieldN; (· (simp only [List.getElem?_toArray, List.getElem?_cons_succ, List.getElem?_cons_zero]; try rfl)); (· rfl)) | ((first | apply yieldP | apply yieldL); (· (simp only [List.getElem?_toArray, List.getElem?_cons_succ, List.getElem?_cons_zero]; try rfl)); (· rfl); (· (intros; go_simp; try with_reducible rfl)))); (· (simp only [Act.put, List.setIfInBounds_toArray, List.set_cons_zero, List.set_cons_succ]; try rfl)))
          exact rfl
        refine wpAnyM_one (fuel := 13) (i := 26) (by kernel_rfl) (by rfl) (fun K hK => ?_)    -- CALL
        go_wp2_with fail
        refine HOP.out.mono ?_
        rintro e w12 ⟨v12, rfl, h12⟩
        obtain ⟨E12, hr12⟩ := h12.row
        have HR12 := Lib.hid hr12
        have H12 := Lib.hid h12.dropCell
        have HC12 := Lib.hid (act_cells h12.dropCell.cell)
        have HOD := Lib.hid (d_open H12.out)
        clear h12 hr12 HOP H11 HC11
        go_wp2_with fail
        refine hK _ _ HC12.out.2.1 ?_
        clear hK
        refine wpAnyM_one (fuel := 12) (i := 28) (by kernel_rfl) (by rfl) (fun K hK => ?_)    -- CALL
        go_wp2_with fail
        refine HOD.out.mono ?_
        rintro e w13 ⟨v13, D13, rfl, h13, hu13⟩
        have H13 := Lib.hid (H12.out.keep hu13)
        have HC13 := Lib.hid (act_cells H13.out.cell)
        obtain ⟨E13, hr13, -⟩ := h13.read
        have hsm := same64_any v12 v13 _ _ E12 E13 w13 (HR12.out.frame (hu13.same HR12.out.lt (by simp))) hr13
        rw [decide_eq_true rfl] at hsm
        have HSM := Lib.hid hsm
        clear h13 hu13 hr13 hsm H12 HC12 HR12 HOD
        go_wp2_with fail
        refine hK _ _ HC13.out.2.1 ?_
        clear hK
        refine wpAnyM_one (fuel := 11) (i := 29) (by kernel_rfl) (by rfl) (fun K hK => ?_)    -- CALL
        go_wp2_with fail
        refine HSM.out.mono ?_
        rintro e w14 ⟨rfl, hu14⟩
        have H14 := Lib.hid (H13.out.keep hu14)
        have HC14 := Lib.hid (act_cells H14.out.cell)
        obtain ⟨bs, hbs⟩ : ∃ bs, bytesS SS = bs := ⟨_, rfl⟩
        have hpt := c_put H14.out (by omega)
        rw [hbs] at hpt
        have HPT := Lib.hid hpt
        have HBS := Lib.hid hbs
        clear hu14 HSM H13 HC13 hpt hbs
        go_wp2_with fail
        refine hK _ _ HC14.out.2.1 ?_
        clear hK
        refine wpAnyM_take (by kernel_rfl) (by intro c a d v w h; cases d <;> exact h) [(30, false), (31, false), (32, false), (33, false), (36, false)] (fuel := 6) (by kernel_rfl) ?_
        apply Exists.intro; refine ⟨?_, HC14.out.2.1, ?_⟩
        · iterate 5 ((first | (apply yieldN; (· (simp only [List.getElem?_toArray, List.getElem?_cons_succ, List.getElem?_cons_zero]; try rfl)); (· rfl)) | ((first | apply yieldP | apply yieldL); (· (simp only [List.getElem?_toArray, List.getElem?_cons_succ, List.getElem?_cons_zero]; try rfl)); (· rfl); (· (intros; go_simp; try with_reducible rfl)))); (· (simp only [Act.put, List.setIfInBounds_toArray, List.set_cons_zero, List.set_cons_succ]; try rfl)))
          exact rfl
        refine wpAnyM_one (fuel := 5) (i := 34) (by kernel_rfl) (by rfl) (fun K hK => ?_)    -- CALL
        go_wp2_with fail
        refine HPT.out.mono ?_
        rintro e w15 ⟨v15, rfl, h15⟩
        have H15 := Lib.hid h15
        have HC15 := Lib.hid (act_cells h15.cell)
        have hpt := d_put h15
        rw [HBS.out] at hpt
        have HP2 := Lib.hid hpt
        clear h15 hpt HPT H14 HC14
        go_wp2_with fail
        refine hK _ _ HC15.out.2.1 ?_
        clear hK
        refine wpAnyM_each (fuel := 4) [35, 37] (by kernel_rfl) (by simp) (fun i hi => ?_)
        simp only [List.mem_cons, List.not_mem_nil, or_false] at hi
        rcases hi with rfl | rfl
        case' inl =>
          refine ⟨_, by rfl, fun K hK => ?_⟩
          obtain ⟨E15, hr15⟩ := H15.out.get (v := v15) (b := bs) (by simp)
          have hcv1 := conv_str (P := Try.prog) (src := 53) (dst := 9) Try.underlying53 Try.underlying5 Try.underlying9 hr15 w15 (fun _ _ => rfl)
          clear hr15
          go_wp2_with fail
          refine hK _ _ HC15.out.2.1 ?_
          clear hK hcv1
          refine wpAnyM_one (fuel := 3) (i := 37) (by kernel_rfl) (by rfl) (fun K hK => ?_)
          go_wp2_with fail
          refine HP2.out.mono ?_
          rintro e w16 ⟨v16, rfl, h⟩
          obtain ⟨E16, hr16⟩ := h.get (v := v16) (b := bs) (by simp)
          obtain ⟨E17, hr17⟩ := h.get (v := v15) (b := bs) (by simp)
          have hcv2 := conv_str (P := Try.prog) (src := 53) (dst := 9) Try.underlying53 Try.underlying5 Try.underlying9 hr16 w16 (fun _ _ => rfl)
          have hcv1 := conv_str (P := Try.prog) (src := 53) (dst := 9) Try.underlying53 Try.underlying5 Try.underlying9 hr17 w16 (fun _ _ => rfl)
          have H16 := Lib.hid h
          have HC16 := Lib.hid (act_cells h.cell)
          clear h hr16 hr17
          clear hcv1
          go_wp2_with fail
          refine hK _ _ HC16.out.2.1 ?_
          clear hK
          refine wpAnyM_one (fuel := 2) (i := 38) (by kernel_rfl) (by rfl) (fun K hK => ?_)
          go_wp2_with fail
          refine hK _ _ HC16.out.2.1 ?_
          clear hK hcv2
        case' inr =>
          refine ⟨_, by rfl, fun K hK => ?_⟩
          go_wp2_with fail
          refine HP2.out.mono ?_
          rintro e w16 ⟨v16, rfl, h⟩
          obtain ⟨E16, hr16⟩ := h.get (v := v16) (b := bs) (by simp)
          obtain ⟨E17, hr17⟩ := h.get (v := v15) (b := bs) (by simp)
          have hcv2 := conv_str (P := Try.prog) (src := 53) (dst := 9) Try.underlying53 Try.underlying5 Try.underlying9 hr16 w16 (fun _ _ => rfl)
          have hcv1 := conv_str (P := Try.prog) (src := 53) (dst := 9) Try.underlying53 Try.underlying5 Try.underlying9 hr17 w16 (fun _ _ => rfl)
          have H16 := Lib.hid h
          have HC16 := Lib.hid (act_cells h.cell)
          clear h hr16 hr17
          go_wp2_with fail
          refine hK _ _ HC16.out.2.1 ?_
          clear hK
          refine wpAnyM_each (fuel := 3) [35, 38] (by kernel_rfl) (by simp) (fun i hi => ?_)
          simp only [List.mem_cons, List.not_mem_nil, or_false] at hi
          rcases hi with rfl | rfl
          case' inl =>
            refine ⟨_, by rfl, fun K hK => ?_⟩
            go_wp2_with fail
            refine hK _ _ HC16.out.2.1 ?_
            clear hK
            refine wpAnyM_one (fuel := 2) (i := 38) (by kernel_rfl) (by rfl) (fun K hK => ?_)
          case' inr =>
            refine ⟨_, by rfl, fun K hK => ?_⟩
            go_wp2_with fail
            refine hK _ _ HC16.out.2.1 ?_
            clear hK
            refine wpAnyM_one (fuel := 2) (i := 35) (by kernel_rfl) (by rfl) (fun K hK => ?_)
          all_goals
            go_wp2_with fail
            refine hK _ _ HC16.out.2.1 ?_
            clear hK hcv1 hcv2
        all_goals
          refine wpAnyM_take (by kernel_rfl) (by intro c a d v w h; cases d <;> exact h) [(39, false), (40, false)] (fuel := 0) (by kernel_rfl) ?_
          apply Exists.intro; refine ⟨?_, HC16.out.2.1, ?_⟩
          · iterate 2 ((first | (apply yieldN; (· (simp only [List.getElem?_toArray, List.getElem?_cons_succ, List.getElem?_cons_zero]; try rfl)); (· rfl)) | ((first | apply yieldP | apply yieldL); (· (simp only [List.getElem?_toArray, List.getElem?_cons_succ, List.getElem?_cons_zero]; try rfl)); (· rfl); (· (intros; go_simp; try with_reducible rfl)))); (· (simp only [Act.put, List.setIfInBounds_toArray, List.set_cons_zero, List.set_cons_succ]; try rfl)))
            exact rfl
          refine wpAnyM_done (by kernel_rfl) ?_ _
          go_wp2_with fail
          go_roundg (acts.length - (p + 1))
          case rel => exact ⟨p + 1, cc, SS, by omega, by first | rfl | go_num, by first | rfl | go_num, rfl, (H16.out.dropCell).also (fun r hr => by cases hr)⟩
          case measure => omega
    by_cases ho2 : op = 2
    · subst ho2
      as_aux_lemma =>
        go_wp2_with fail
        obtain ⟨bx, hbx⟩ : ∃ z, z = wr.heap.size := ⟨_, rfl⟩
        obtain ⟨wb, hwb⟩ : ∃ z, z = wr.alloc (.cells #[.int .i64 2, .int .i64 id, .slice av sl.length cv, .int .i64 sh, .bool yes] 40 (0, 0)) := ⟨_, rfl⟩
        rw [← hbx] at HX ⊢
        rw [← hwb] at HX ⊢
        have HC := Lib.hid (act_cells HX.out.cell)
        clear hbx hwb g0 g1 g2 g3 g4
        refine wp_region_M (fun W => W.cell? ⟨bx, 0, none⟩ = some (.int .i64 2) ∧ W.cell? ⟨bx, 1, none⟩ = some (.int .i64 id) ∧ W.cell? ⟨bx, 2, none⟩ = some (.slice av sl.length cv) ∧ W.cell? ⟨bx, 3, none⟩ = some (.int .i64 sh) ∧ W.cell? ⟨bx, 4, none⟩ = some (.bool yes)) 13 (by kernel_rfl) ?_
        refine wpAnyM_take (by kernel_rfl) (by intro c a d v w h; cases d <;> exact h) [(0, false), (1, false), (2, true), (3, false), (4, true), (6, false), (7, false), (8, true), (9, false), (10, true)] (fuel := 4) (by kernel_rfl) ?_
        apply Exists.intro; refine ⟨?_, HC.out, ?_⟩
        · iterate 10 ((first | (apply yieldN; (· (simp only [List.getElem?_toArray, List.getElem?_cons_succ, List.getElem?_cons_zero]; try rfl)); (· rfl)) | ((first | apply yieldP | apply yieldL); (· (simp only [List.getElem?_toArray, List.getElem?_cons_succ, List.getElem?_cons_zero]; try rfl)); (· rfl); (· (intros; go_simp; try with_reducible rfl)))); (· (simp only [Act.put, List.setIfInBounds_toArray, List.set_cons_zero, List.set_cons_succ]; try rfl)))
          exact rfl
        refine wpAnyM_one (fuel := 3) (i := 5) (by kernel_rfl) (by rfl) (fun K hK => ?_)    -- CALL
        go_wp2_with fail
        refine ((mid_done HX.out.drew id sh)).mono ?_
        rintro e w5 ⟨rfl, h5⟩
        have HC5 := Lib.hid (act_cells h5.cell)
        have H5 := Lib.hid h5
        clear h5
        go_wp2_with fail
        refine hK _ _ HC5.out ?_
        clear hK
        refine wpAnyM_one (fuel := 2) (i := 11) (by kernel_rfl) (by rfl) (fun K hK => ?_)    -- CALL
        go_wp2_with fail
        refine ((two_done H5.out HID.out)).mono ?_
        rintro e w6 ⟨rfl, h6⟩
        have HC6 := Lib.hid (act_cells h6.cell)
        have H6 := Lib.hid h6
        obtain ⟨er, her⟩ : ∃ er, ((doneS S id sh)).1 = er := ⟨_, rfl⟩
        have hee : (er == er) = true := by simp
        rw [her]
        clear h6 her H5 HC5
        go_wp2_with fail
        refine hK _ _ HC6.out ?_
        clear hK
        refine wpAnyM_take (by kernel_rfl) (by intro c a d v w h; cases d <;> exact h) [(12, false)] (fuel := 1) (by kernel_rfl) ?_
        apply Exists.intro; refine ⟨?_, HC6.out, ?_⟩
        · iterate 1 ((first | (apply yieldN; (· (simp only [List.getElem?_toArray, List.getElem?_cons_succ, List.getElem?_cons_zero]; try rfl)); (· rfl)) | ((first | apply yieldP | apply yieldL); (· (simp only [List.getElem?_toArray, List.getElem?_cons_succ, List.getElem?_cons_zero]; try rfl)); (· rfl); (· (intros; go_simp; try with_reducible rfl)))); (· (simp only [Act.put, List.setIfInBounds_toArray, List.set_cons_zero, List.set_cons_succ]; try rfl)))
          exact rfl
        refine wpAnyM_of_any _ _ _ _ (by decide) ?_
        refine wpAny_list [13] (fuel := 0) (by kernel_rfl) ?_
        simp only [List.filterMap_cons, List.filterMap_nil, List.getElem?_toArray, List.getElem?_cons_succ, List.getElem?_cons_zero]
        obtain ⟨l0, l1, l2, l3, l4⟩ := HC6.out
        obtain ⟨SS, hSS⟩ : ∃ SS, ((doneS S id sh)).2 = SS := ⟨_, rfl⟩
        rw [hSS] at H6
        clear hSS l0 l2 l3 l4
        obtain ⟨dq, hdq⟩ : ∃ dq, decS SS id = dq := ⟨_, rfl⟩
        obtain ⟨da, db⟩ := dq
        have hd1 := c_decision H6.out id
        rw [hdq] at hd1
        have HD1 := Lib.hid hd1
        clear hd1
        go_wp2_with fail
        refine HD1.out.mono ?_
        rintro e w7 ⟨rfl, h7⟩
        have HC7 := Lib.hid (act_cells h7.cell)
        have hd2 := d_decision h7 id
        rw [hdq] at hd2
        have HD2 := Lib.hid hd2
        clear h7 hd2 HD1 H6 HC6 l1 hdq
        have l1 := HC7.out.2.1
        go_wp2_with fail
        refine HD2.out.mono ?_
        rintro e w8 ⟨rfl, h8⟩
        have H8 := Lib.hid h8.drew
        have HC8 := Lib.hid (act_cells h8.drew.cell)
        have hda : (da != da) = false := by cases da <;> rfl
        have hdb : (db != db) = false := by cases db <;> rfl
        obtain ⟨oL, hoL⟩ : ∃ oL, owesS SS id = oL := ⟨_, rfl⟩
        have ho1 := c_owes H8.out id
        rw [hoL] at ho1
        have HO1 := Lib.hid ho1
        have HOL := Lib.hid hoL
        clear h8 ho1 HD2 HC7 l1 hoL
        go_wp2_with fail
        refine wp_region_M (fun W => W.cell? ⟨bx, 1, none⟩ = some (.int .i64 id)) 41 (by kernel_rfl) ?_
        refine wpAnyM_take (by kernel_rfl) (by intro c a d v w h; cases d <;> exact h) [(0, false), (1, false), (2, false), (3, false), (4, false), (5, false), (6, false), (7, false), (8, false), (9, false), (10, false), (11, false), (12, false), (13, false), (14, false), (15, true), (17, false), (18, false), (19, true)] (fuel := 22) (by kernel_rfl) ?_
        apply Exists.intro; refine ⟨?_, HC8.out.2.1, ?_⟩
        · iterate 19 ((first | (apply yieldN; (· (simp only [List.getElem?_toArray, List.getElem?_cons_succ, List.getElem?_cons_zero]; try rfl)); (· rfl)) | ((first | apply yieldP | apply yieldL); (· (simp only [List.getElem?_toArray, List.getElem?_cons_succ, List.getElem?_cons_zero]; try rfl)); (· rfl); (· (intros; go_simp; try with_reducible rfl)))); (· (simp only [Act.put, List.setIfInBounds_toArray, List.set_cons_zero, List.set_cons_succ]; try rfl)))
          exact rfl
        refine wpAnyM_one (fuel := 21) (i := 16) (by kernel_rfl) (by rfl) (fun K hK => ?_)    -- CALL
        go_wp2_with fail
        refine HO1.out.mono ?_
        rintro e w9 ⟨v9, D9, rfl, h9, hu9⟩
        have H9 := Lib.hid (H8.out.keep hu9)
        have HC9 := Lib.hid (act_cells H9.out.cell)
        obtain ⟨E9, hr9, -⟩ := h9.read
        have HR9 := Lib.hid hr9
        have ho2 := d_owes H9.out id
        rw [HOL.out] at ho2
        have HO2 := Lib.hid ho2
        clear h9 hu9 hr9 ho2 H8 HC8 HO1
        go_wp2_with fail
        refine hK _ _ HC9.out.2.1 ?_
        clear hK
        refine wpAnyM_one (fuel := 20) (i := 20) (by kernel_rfl) (by rfl) (fun K hK => ?_)    -- CALL
        go_wp2_with fail
        refine HO2.out.mono ?_
        rintro e w10 ⟨v10, D10, rfl, h10, hu10⟩
        have H10 := Lib.hid (H9.out.keep hu10)
        have HC10 := Lib.hid (act_cells H10.out.cell)
        obtain ⟨E10, hr10, -⟩ := h10.read
        have hsm := same_any v9 v10 oL oL E9 E10 w10 (HR9.out.frame (hu10.same HR9.out.lt (by simp))) hr10
        rw [decide_eq_true rfl] at hsm
        have HSM := Lib.hid hsm
        clear h10 hu10 hr10 hsm H9 HC9 HO2 HR9
        go_wp2_with fail
        refine hK _ _ HC10.out.2.1 ?_
        clear hK
        refine wpAnyM_one (fuel := 19) (i := 21) (by kernel_rfl) (by rfl) (fun K hK => ?_)    -- CALL
        go_wp2_with fail
        refine HSM.out.mono ?_
        rintro e w11 ⟨rfl, hu11⟩
        have H11 := Lib.hid (H10.out.keep hu11)
        have HC11 := Lib.hid (act_cells H11.out.cell)
        have HOP := Lib.hid (c_open H11.out (by omega))
        clear hu11 HSM H10 HC10
        go_wp2_with fail
        refine hK _ _ HC11.out.2.1 ?_
        clear hK
        refine wpAnyM_take (by kernel_rfl) (by intro c a d v w h; cases d <;> exact h) [(22, false), (23, false), (24, false), (25, false), (27, false)] (fuel := 14) (by kernel_rfl) ?_
        apply Exists.intro; refine ⟨?_, HC11.out.2.1, ?_⟩
        · iterate 5 ((first | (apply yieldN; (· (simp only [List.getElem?_toArray, List.getElem?_cons_succ, List.getElem?_cons_zero]; try rfl)); (· rfl)) | ((first | apply yieldP | apply yieldL); (· (simp only [List.getElem?_toArray, List.getElem?_cons_succ, List.getElem?_cons_zero]; try rfl)); (· rfl); (· (intros; go_simp; try with_reducible rfl)))); (· (simp only [Act.put, List.setIfInBounds_toArray, List.set_cons_zero, List.set_cons_succ]; try rfl)))
          exact rfl
        refine wpAnyM_one (fuel := 13) (i := 26) (by kernel_rfl) (by rfl) (fun K hK => ?_)    -- CALL
        go_wp2_with fail
        refine HOP.out.mono ?_
        rintro e w12 ⟨v12, rfl, h12⟩
        obtain ⟨E12, hr12⟩ := h12.row
        have HR12 := Lib.hid hr12
        have H12 := Lib.hid h12.dropCell
        have HC12 := Lib.hid (act_cells h12.dropCell.cell)
        have HOD := Lib.hid (d_open H12.out)
        clear h12 hr12 HOP H11 HC11
        go_wp2_with fail
        refine hK _ _ HC12.out.2.1 ?_
        clear hK
        refine wpAnyM_one (fuel := 12) (i := 28) (by kernel_rfl) (by rfl) (fun K hK => ?_)    -- CALL
        go_wp2_with fail
        refine HOD.out.mono ?_
        rintro e w13 ⟨v13, D13, rfl, h13, hu13⟩
        have H13 := Lib.hid (H12.out.keep hu13)
        have HC13 := Lib.hid (act_cells H13.out.cell)
        obtain ⟨E13, hr13, -⟩ := h13.read
        have hsm := same64_any v12 v13 _ _ E12 E13 w13 (HR12.out.frame (hu13.same HR12.out.lt (by simp))) hr13
        rw [decide_eq_true rfl] at hsm
        have HSM := Lib.hid hsm
        clear h13 hu13 hr13 hsm H12 HC12 HR12 HOD
        go_wp2_with fail
        refine hK _ _ HC13.out.2.1 ?_
        clear hK
        refine wpAnyM_one (fuel := 11) (i := 29) (by kernel_rfl) (by rfl) (fun K hK => ?_)    -- CALL
        go_wp2_with fail
        refine HSM.out.mono ?_
        rintro e w14 ⟨rfl, hu14⟩
        have H14 := Lib.hid (H13.out.keep hu14)
        have HC14 := Lib.hid (act_cells H14.out.cell)
        obtain ⟨bs, hbs⟩ : ∃ bs, bytesS SS = bs := ⟨_, rfl⟩
        have hpt := c_put H14.out (by omega)
        rw [hbs] at hpt
        have HPT := Lib.hid hpt
        have HBS := Lib.hid hbs
        clear hu14 HSM H13 HC13 hpt hbs
        go_wp2_with fail
        refine hK _ _ HC14.out.2.1 ?_
        clear hK
        refine wpAnyM_take (by kernel_rfl) (by intro c a d v w h; cases d <;> exact h) [(30, false), (31, false), (32, false), (33, false), (36, false)] (fuel := 6) (by kernel_rfl) ?_
        apply Exists.intro; refine ⟨?_, HC14.out.2.1, ?_⟩
        · iterate 5 ((first | (apply yieldN; (· (simp only [List.getElem?_toArray, List.getElem?_cons_succ, List.getElem?_cons_zero]; try rfl)); (· rfl)) | ((first | apply yieldP | apply yieldL); (· (simp only [List.getElem?_toArray, List.getElem?_cons_succ, List.getElem?_cons_zero]; try rfl)); (· rfl); (· (intros; go_simp; try with_reducible rfl)))); (· (simp only [Act.put, List.setIfInBounds_toArray, List.set_cons_zero, List.set_cons_succ]; try rfl)))
          exact rfl
        refine wpAnyM_one (fuel := 5) (i := 34) (by kernel_rfl) (by rfl) (fun K hK => ?_)    -- CALL
        go_wp2_with fail
        refine HPT.out.mono ?_
        rintro e w15 ⟨v15, rfl, h15⟩
        have H15 := Lib.hid h15
        have HC15 := Lib.hid (act_cells h15.cell)
        have hpt := d_put h15
        rw [HBS.out] at hpt
        have HP2 := Lib.hid hpt
        clear h15 hpt HPT H14 HC14
        go_wp2_with fail
        refine hK _ _ HC15.out.2.1 ?_
        clear hK
        refine wpAnyM_each (fuel := 4) [35, 37] (by kernel_rfl) (by simp) (fun i hi => ?_)
        simp only [List.mem_cons, List.not_mem_nil, or_false] at hi
        rcases hi with rfl | rfl
        case' inl =>
          refine ⟨_, by rfl, fun K hK => ?_⟩
          obtain ⟨E15, hr15⟩ := H15.out.get (v := v15) (b := bs) (by simp)
          have hcv1 := conv_str (P := Try.prog) (src := 53) (dst := 9) Try.underlying53 Try.underlying5 Try.underlying9 hr15 w15 (fun _ _ => rfl)
          clear hr15
          go_wp2_with fail
          refine hK _ _ HC15.out.2.1 ?_
          clear hK hcv1
          refine wpAnyM_one (fuel := 3) (i := 37) (by kernel_rfl) (by rfl) (fun K hK => ?_)
          go_wp2_with fail
          refine HP2.out.mono ?_
          rintro e w16 ⟨v16, rfl, h⟩
          obtain ⟨E16, hr16⟩ := h.get (v := v16) (b := bs) (by simp)
          obtain ⟨E17, hr17⟩ := h.get (v := v15) (b := bs) (by simp)
          have hcv2 := conv_str (P := Try.prog) (src := 53) (dst := 9) Try.underlying53 Try.underlying5 Try.underlying9 hr16 w16 (fun _ _ => rfl)
          have hcv1 := conv_str (P := Try.prog) (src := 53) (dst := 9) Try.underlying53 Try.underlying5 Try.underlying9 hr17 w16 (fun _ _ => rfl)
          have H16 := Lib.hid h
          have HC16 := Lib.hid (act_cells h.cell)
          clear h hr16 hr17
          clear hcv1
          go_wp2_with fail
          refine hK _ _ HC16.out.2.1 ?_
          clear hK
          refine wpAnyM_one (fuel := 2) (i := 38) (by kernel_rfl) (by rfl) (fun K hK => ?_)
          go_wp2_with fail
          refine hK _ _ HC16.out.2.1 ?_
          clear hK hcv2
        case' inr =>
          refine ⟨_, by rfl, fun K hK => ?_⟩
          go_wp2_with fail
          refine HP2.out.mono ?_
          rintro e w16 ⟨v16, rfl, h⟩
          obtain ⟨E16, hr16⟩ := h.get (v := v16) (b := bs) (by simp)
          obtain ⟨E17, hr17⟩ := h.get (v := v15) (b := bs) (by simp)
          have hcv2 := conv_str (P := Try.prog) (src := 53) (dst := 9) Try.underlying53 Try.underlying5 Try.underlying9 hr16 w16 (fun _ _ => rfl)
          have hcv1 := conv_str (P := Try.prog) (src := 53) (dst := 9) Try.underlying53 Try.underlying5 Try.underlying9 hr17 w16 (fun _ _ => rfl)
          have H16 := Lib.hid h
          have HC16 := Lib.hid (act_cells h.cell)
          clear h hr16 hr17
          go_wp2_with fail
          refine hK _ _ HC16.out.2.1 ?_
          clear hK
          refine wpAnyM_each (fuel := 3) [35, 38] (by kernel_rfl) (by simp) (fun i hi => ?_)
          simp only [List.mem_cons, List.not_mem_nil, or_false] at hi
          rcases hi with rfl | rfl
          case' inl =>
            refine ⟨_, by rfl, fun K hK => ?_⟩
            go_wp2_with fail
            refine hK _ _ HC16.out.2.1 ?_
            clear hK
            refine wpAnyM_one (fuel := 2) (i := 38) (by kernel_rfl) (by rfl) (fun K hK => ?_)
          case' inr =>
            refine ⟨_, by rfl, fun K hK => ?_⟩
            go_wp2_with fail
            refine hK _ _ HC16.out.2.1 ?_
            clear hK
            refine wpAnyM_one (fuel := 2) (i := 35) (by kernel_rfl) (by rfl) (fun K hK => ?_)
          all_goals
            go_wp2_with fail
            refine hK _ _ HC16.out.2.1 ?_
            clear hK hcv1 hcv2
        all_goals
          refine wpAnyM_take (by kernel_rfl) (by intro c a d v w h; cases d <;> exact h) [(39, false), (40, false)] (fuel := 0) (by kernel_rfl) ?_
          apply Exists.intro; refine ⟨?_, HC16.out.2.1, ?_⟩
          · iterate 2 ((first | (apply yieldN; (· (simp only [List.getElem?_toArray, List.getElem?_cons_succ, List.getElem?_cons_zero]; try rfl)); (· rfl)) | ((first | apply yieldP | apply yieldL); (· (simp only [List.getElem?_toArray, List.getElem?_cons_succ, List.getElem?_cons_zero]; try rfl)); (· rfl); (· (intros; go_simp; try with_reducible rfl)))); (· (simp only [Act.put, List.setIfInBounds_toArray, List.set_cons_zero, List.set_cons_succ]; try rfl)))
            exact rfl
          refine wpAnyM_done (by kernel_rfl) ?_ _
          go_wp2_with fail
          go_roundg (acts.length - (p + 1))
          case rel => exact ⟨p + 1, cc, SS, by omega, by first | rfl | go_num, by first | rfl | go_num, rfl, (H16.out.dropCell).also (fun r hr => by cases hr)⟩
          case measure => omega
    by_cases ho3 : op = 3
    · subst ho3
      as_aux_lemma =>
        go_wp2_with fail
        obtain ⟨bx, hbx⟩ : ∃ z, z = wr.heap.size := ⟨_, rfl⟩
        obtain ⟨wb, hwb⟩ : ∃ z, z = wr.alloc (.cells #[.int .i64 3, .int .i64 id, .slice av sl.length cv, .int .i64 sh, .bool yes] 40 (0, 0)) := ⟨_, rfl⟩
        rw [← hbx] at HX ⊢
        rw [← hwb] at HX ⊢
        have HC := Lib.hid (act_cells HX.out.cell)
        clear hbx hwb g0 g1 g2 g3 g4
        obtain ⟨ab, hab⟩ : ∃ ab, (abortS S id).1 = ab := ⟨_, rfl⟩
        obtain ⟨ae, hae⟩ : ∃ ae, (abortS S id).2.1 = ae := ⟨_, rfl⟩
        have hm := mid_abort HX.out id
        rw [hab, hae] at hm
        have HM := Lib.hid hm
        clear hm
        refine HM.out.mono ?_
        rintro e w5 ⟨rfl, h5⟩
        have HC5 := Lib.hid (act_cells h5.cell)
        have hm := two_abort h5 HID.out
        rw [hab, hae] at hm
        have HM2 := Lib.hid hm
        clear h5 hm hab hae
        obtain ⟨l0, l1, l2, l3, l4⟩ := HC5.out
        have haa : (ab == ab) = true := by simp
        have hee : (ae == ae) = true := by simp
        go_wp2_with fail
        refine HM2.out.mono ?_
        rintro e w6 ⟨rfl, h6⟩
        have HC6 := Lib.hid (act_cells h6.cell)
        have H6 := Lib.hid h6
        clear h6 l0 l1 l2 l3 l4 HC5
        obtain ⟨l0, l1, l2, l3, l4⟩ := HC6.out
        obtain ⟨SS, hSS⟩ : ∃ SS, (abortS S id).2.2 = SS := ⟨_, rfl⟩
        rw [hSS] at H6
        clear hSS l0 l2 l3 l4
        obtain ⟨dq, hdq⟩ : ∃ dq, decS SS id = dq := ⟨_, rfl⟩
        obtain ⟨da, db⟩ := dq
        have hd1 := c_decision H6.out id
        rw [hdq] at hd1
        have HD1 := Lib.hid hd1
        clear hd1
        go_wp2_with fail
        refine HD1.out.mono ?_
        rintro e w7 ⟨rfl, h7⟩
        have HC7 := Lib.hid (act_cells h7.cell)
        have hd2 := d_decision h7 id
        rw [hdq] at hd2
        have HD2 := Lib.hid hd2
        clear h7 hd2 HD1 H6 HC6 l1 hdq
        have l1 := HC7.out.2.1
        go_wp2_with fail
        refine HD2.out.mono ?_
        rintro e w8 ⟨rfl, h8⟩
        have H8 := Lib.hid h8.drew
        have HC8 := Lib.hid (act_cells h8.drew.cell)
        have hda : (da != da) = false := by cases da <;> rfl
        have hdb : (db != db) = false := by cases db <;> rfl
        obtain ⟨oL, hoL⟩ : ∃ oL, owesS SS id = oL := ⟨_, rfl⟩
        have ho1 := c_owes H8.out id
        rw [hoL] at ho1
        have HO1 := Lib.hid ho1
        have HOL := Lib.hid hoL
        clear h8 ho1 HD2 HC7 l1 hoL
        go_wp2_with fail
        refine wp_region_M (fun W => W.cell? ⟨bx, 1, none⟩ = some (.int .i64 id)) 41 (by kernel_rfl) ?_
        refine wpAnyM_take (by kernel_rfl) (by intro c a d v w h; cases d <;> exact h) [(0, false), (1, false), (2, false), (3, false), (4, false), (5, false), (6, false), (7, false), (8, false), (9, false), (10, false), (11, false), (12, false), (13, false), (14, false), (15, true), (17, false), (18, false), (19, true)] (fuel := 22) (by kernel_rfl) ?_
        apply Exists.intro; refine ⟨?_, HC8.out.2.1, ?_⟩
        · iterate 19 ((first | (apply yieldN; (· (simp only [List.getElem?_toArray, List.getElem?_cons_succ, List.getElem?_cons_zero]; try rfl)); (· rfl)) | ((first | apply yieldP | apply yieldL); (· (simp only [List.getElem?_toArray, List.getElem?_cons_succ, List.getElem?_cons_zero]; try rfl)); (· rfl); (· (intros; go_simp; try with_reducible rfl)))); (· (simp only [Act.put, List.setIfInBounds_toArray, List.set_cons_zero, List.set_cons_succ]; try rfl)))
          exact rfl
        refine wpAnyM_one (fuel := 21) (i := 16) (by kernel_rfl) (by rfl) (fun K hK => ?_)    -- CALL
        go_wp2_with fail
        refine HO1.out.mono ?_
        rintro e w9 ⟨v9, D9, rfl, h9, hu9⟩
        have H9 := Lib.hid (H8.out.keep hu9)
        have HC9 := Lib.hid (act_cells H9.out.cell)
        obtain ⟨E9, hr9, -⟩ := h9.read
        have HR9 := Lib.hid hr9
        have ho2 := d_owes H9.out id
        rw [HOL.out] at ho2
        have HO2 := Lib.hid ho2
        clear h9 hu9 hr9 ho2 H8 HC8 HO1
        go_wp2_with fail
        refine hK _ _ HC9.out.2.1 ?_
        clear hK
        refine wpAnyM_one (fuel := 20) (i := 20) (by kernel_rfl) (by rfl) (fun K hK => ?_)    -- CALL
        go_wp2_with fail
        refine HO2.out.mono ?_
        rintro e w10 ⟨v10, D10, rfl, h10, hu10⟩
        have H10 := Lib.hid (H9.out.keep hu10)
        have HC10 := Lib.hid (act_cells H10.out.cell)
        obtain ⟨E10, hr10, -⟩ := h10.read
        have hsm := same_any v9 v10 oL oL E9 E10 w10 (HR9.out.frame (hu10.same HR9.out.lt (by simp))) hr10
        rw [decide_eq_true rfl] at hsm
        have HSM := Lib.hid hsm
        clear h10 hu10 hr10 hsm H9 HC9 HO2 HR9
        go_wp2_with fail
        refine hK _ _ HC10.out.2.1 ?_
        clear hK
        refine wpAnyM_one (fuel := 19) (i := 21) (by kernel_rfl) (by rfl) (fun K hK => ?_)    -- CALL
        go_wp2_with fail
        refine HSM.out.mono ?_
        rintro e w11 ⟨rfl, hu11⟩
        have H11 := Lib.hid (H10.out.keep hu11)
        have HC11 := Lib.hid (act_cells H11.out.cell)
        have HOP := Lib.hid (c_open H11.out (by omega))
        clear hu11 HSM H10 HC10
        go_wp2_with fail
        refine hK _ _ HC11.out.2.1 ?_
        clear hK
        refine wpAnyM_take (by kernel_rfl) (by intro c a d v w h; cases d <;> exact h) [(22, false), (23, false), (24, false), (25, false), (27, false)] (fuel := 14) (by kernel_rfl) ?_
        apply Exists.intro; refine ⟨?_, HC11.out.2.1, ?_⟩
        · iterate 5 ((first | (apply yieldN; (· (simp only [List.getElem?_toArray, List.getElem?_cons_succ, List.getElem?_cons_zero]; try rfl)); (· rfl)) | ((first | apply yieldP | apply yieldL); (· (simp only [List.getElem?_toArray, List.getElem?_cons_succ, List.getElem?_cons_zero]; try rfl)); (· rfl); (· (intros; go_simp; try with_reducible rfl)))); (· (simp only [Act.put, List.setIfInBounds_toArray, List.set_cons_zero, List.set_cons_succ]; try rfl)))
          exact rfl
        refine wpAnyM_one (fuel := 13) (i := 26) (by kernel_rfl) (by rfl) (fun K hK => ?_)    -- CALL
        go_wp2_with fail
        refine HOP.out.mono ?_
        rintro e w12 ⟨v12, rfl, h12⟩
        obtain ⟨E12, hr12⟩ := h12.row
        have HR12 := Lib.hid hr12
        have H12 := Lib.hid h12.dropCell
        have HC12 := Lib.hid (act_cells h12.dropCell.cell)
        have HOD := Lib.hid (d_open H12.out)
        clear h12 hr12 HOP H11 HC11
        go_wp2_with fail
        refine hK _ _ HC12.out.2.1 ?_
        clear hK
        refine wpAnyM_one (fuel := 12) (i := 28) (by kernel_rfl) (by rfl) (fun K hK => ?_)    -- CALL
        go_wp2_with fail
        refine HOD.out.mono ?_
        rintro e w13 ⟨v13, D13, rfl, h13, hu13⟩
        have H13 := Lib.hid (H12.out.keep hu13)
        have HC13 := Lib.hid (act_cells H13.out.cell)
        obtain ⟨E13, hr13, -⟩ := h13.read
        have hsm := same64_any v12 v13 _ _ E12 E13 w13 (HR12.out.frame (hu13.same HR12.out.lt (by simp))) hr13
        rw [decide_eq_true rfl] at hsm
        have HSM := Lib.hid hsm
        clear h13 hu13 hr13 hsm H12 HC12 HR12 HOD
        go_wp2_with fail
        refine hK _ _ HC13.out.2.1 ?_
        clear hK
        refine wpAnyM_one (fuel := 11) (i := 29) (by kernel_rfl) (by rfl) (fun K hK => ?_)    -- CALL
        go_wp2_with fail
        refine HSM.out.mono ?_
        rintro e w14 ⟨rfl, hu14⟩
        have H14 := Lib.hid (H13.out.keep hu14)
        have HC14 := Lib.hid (act_cells H14.out.cell)
        obtain ⟨bs, hbs⟩ : ∃ bs, bytesS SS = bs := ⟨_, rfl⟩
        have hpt := c_put H14.out (by omega)
        rw [hbs] at hpt
        have HPT := Lib.hid hpt
        have HBS := Lib.hid hbs
        clear hu14 HSM H13 HC13 hpt hbs
        go_wp2_with fail
        refine hK _ _ HC14.out.2.1 ?_
        clear hK
        refine wpAnyM_take (by kernel_rfl) (by intro c a d v w h; cases d <;> exact h) [(30, false), (31, false), (32, false), (33, false), (36, false)] (fuel := 6) (by kernel_rfl) ?_
        apply Exists.intro; refine ⟨?_, HC14.out.2.1, ?_⟩
        · iterate 5 ((first | (apply yieldN; (· (simp only [List.getElem?_toArray, List.getElem?_cons_succ, List.getElem?_cons_zero]; try rfl)); (· rfl)) | ((first | apply yieldP | apply yieldL); (· (simp only [List.getElem?_toArray, List.getElem?_cons_succ, List.getElem?_cons_zero]; try rfl)); (· rfl); (· (intros; go_simp; try with_reducible rfl)))); (· (simp only [Act.put, List.setIfInBounds_toArray, List.set_cons_zero, List.set_cons_succ]; try rfl)))
          exact rfl
        refine wpAnyM_one (fuel := 5) (i := 34) (by kernel_rfl) (by rfl) (fun K hK => ?_)    -- CALL
        go_wp2_with fail
        refine HPT.out.mono ?_
        rintro e w15 ⟨v15, rfl, h15⟩
        have H15 := Lib.hid h15
        have HC15 := Lib.hid (act_cells h15.cell)
        have hpt := d_put h15
        rw [HBS.out] at hpt
        have HP2 := Lib.hid hpt
        clear h15 hpt HPT H14 HC14
        go_wp2_with fail
        refine hK _ _ HC15.out.2.1 ?_
        clear hK
        refine wpAnyM_each (fuel := 4) [35, 37] (by kernel_rfl) (by simp) (fun i hi => ?_)
        simp only [List.mem_cons, List.not_mem_nil, or_false] at hi
        rcases hi with rfl | rfl
        case' inl =>
          refine ⟨_, by rfl, fun K hK => ?_⟩
          obtain ⟨E15, hr15⟩ := H15.out.get (v := v15) (b := bs) (by simp)
          have hcv1 := conv_str (P := Try.prog) (src := 53) (dst := 9) Try.underlying53 Try.underlying5 Try.underlying9 hr15 w15 (fun _ _ => rfl)
          clear hr15
          go_wp2_with fail
          refine hK _ _ HC15.out.2.1 ?_
          clear hK hcv1
          refine wpAnyM_one (fuel := 3) (i := 37) (by kernel_rfl) (by rfl) (fun K hK => ?_)
          go_wp2_with fail
          refine HP2.out.mono ?_
          rintro e w16 ⟨v16, rfl, h⟩
          obtain ⟨E16, hr16⟩ := h.get (v := v16) (b := bs) (by simp)
          obtain ⟨E17, hr17⟩ := h.get (v := v15) (b := bs) (by simp)
          have hcv2 := conv_str (P := Try.prog) (src := 53) (dst := 9) Try.underlying53 Try.underlying5 Try.underlying9 hr16 w16 (fun _ _ => rfl)
          have hcv1 := conv_str (P := Try.prog) (src := 53) (dst := 9) Try.underlying53 Try.underlying5 Try.underlying9 hr17 w16 (fun _ _ => rfl)
          have H16 := Lib.hid h
          have HC16 := Lib.hid (act_cells h.cell)
          clear h hr16 hr17
          clear hcv1
          go_wp2_with fail
          refine hK _ _ HC16.out.2.1 ?_
          clear hK
          refine wpAnyM_one (fuel := 2) (i := 38) (by kernel_rfl) (by rfl) (fun K hK => ?_)
          go_wp2_with fail
          refine hK _ _ HC16.out.2.1 ?_
          clear hK hcv2
        case' inr =>
          refine ⟨_, by rfl, fun K hK => ?_⟩
          go_wp2_with fail
          refine HP2.out.mono ?_
          rintro e w16 ⟨v16, rfl, h⟩
          obtain ⟨E16, hr16⟩ := h.get (v := v16) (b := bs) (by simp)
          obtain ⟨E17, hr17⟩ := h.get (v := v15) (b := bs) (by simp)
          have hcv2 := conv_str (P := Try.prog) (src := 53) (dst := 9) Try.underlying53 Try.underlying5 Try.underlying9 hr16 w16 (fun _ _ => rfl)
          have hcv1 := conv_str (P := Try.prog) (src := 53) (dst := 9) Try.underlying53 Try.underlying5 Try.underlying9 hr17 w16 (fun _ _ => rfl)
          have H16 := Lib.hid h
          have HC16 := Lib.hid (act_cells h.cell)
          clear h hr16 hr17
          go_wp2_with fail
          refine hK _ _ HC16.out.2.1 ?_
          clear hK
          refine wpAnyM_each (fuel := 3) [35, 38] (by kernel_rfl) (by simp) (fun i hi => ?_)
          simp only [List.mem_cons, List.not_mem_nil, or_false] at hi
          rcases hi with rfl | rfl
          case' inl =>
            refine ⟨_, by rfl, fun K hK => ?_⟩
            go_wp2_with fail
            refine hK _ _ HC16.out.2.1 ?_
            clear hK
            refine wpAnyM_one (fuel := 2) (i := 38) (by kernel_rfl) (by rfl) (fun K hK => ?_)
          case' inr =>
            refine ⟨_, by rfl, fun K hK => ?_⟩
            go_wp2_with fail
            refine hK _ _ HC16.out.2.1 ?_
            clear hK
            refine wpAnyM_one (fuel := 2) (i := 35) (by kernel_rfl) (by rfl) (fun K hK => ?_)
          all_goals
            go_wp2_with fail
            refine hK _ _ HC16.out.2.1 ?_
            clear hK hcv1 hcv2
        all_goals
          refine wpAnyM_take (by kernel_rfl) (by intro c a d v w h; cases d <;> exact h) [(39, false), (40, false)] (fuel := 0) (by kernel_rfl) ?_
          apply Exists.intro; refine ⟨?_, HC16.out.2.1, ?_⟩
          · iterate 2 ((first | (apply yieldN; (· (simp only [List.getElem?_toArray, List.getElem?_cons_succ, List.getElem?_cons_zero]; try rfl)); (· rfl)) | ((first | apply yieldP | apply yieldL); (· (simp only [List.getElem?_toArray, List.getElem?_cons_succ, List.getElem?_cons_zero]; try rfl)); (· rfl); (· (intros; go_simp; try with_reducible rfl)))); (· (simp only [Act.put, List.setIfInBounds_toArray, List.set_cons_zero, List.set_cons_succ]; try rfl)))
            exact rfl
          refine wpAnyM_done (by kernel_rfl) ?_ _
          go_wp2_with fail
          go_roundg (acts.length - (p + 1))
          case rel => exact ⟨p + 1, cc, SS, by omega, by first | rfl | go_num, by first | rfl | go_num, rfl, (H16.out.dropCell).also (fun r hr => by cases hr)⟩
          case measure => omega
    as_aux_lemma =>
      have q0 : (op == 0) = false := by simpa using ho0
      have q1 : (op == 1) = false := by simpa using ho1
      have q2 : (op == 2) = false := by simpa using ho2
      have q3 : (op == 3) = false := by simpa using ho3
      go_wp2_with fail
      obtain ⟨bx, hbx⟩ : ∃ z, z = wr.heap.size := ⟨_, rfl⟩
      obtain ⟨wb, hwb⟩ : ∃ z, z = wr.alloc (.cells #[.int .i64 op, .int .i64 id, .slice av sl.length cv, .int .i64 sh, .bool yes] 40 (0, 0)) := ⟨_, rfl⟩
      rw [← hbx] at HX ⊢
      rw [← hwb] at HX ⊢
      have HC := Lib.hid (act_cells HX.out.cell)
      clear hbx hwb g0 g1 g2 g3 g4
      refine (c_put HX.out (by omega)).mono ?_
      rintro e w5 ⟨v5, rfl, h5⟩
      have HG := Lib.hid (c_get h5 (v := v5) (by simp) (by omega))
      clear h5
      go_wp2_with fail
      refine HG.out.mono ?_
      rintro e w6 ⟨c6, rfl, h6⟩
      have HC6 := Lib.hid (act_cells h6.cell)
      have H6 := Lib.hid ((h6.also (rows2 := []) (fun r hr => by cases hr)).more (m := p + 1) (by omega))
      clear h6 HG q0 q1 q2 q3
      obtain ⟨l0, l1, l2, l3, l4⟩ := HC6.out
      obtain ⟨SS, hSS⟩ : ∃ SS, (sortS S) = SS := ⟨_, rfl⟩
      rw [hSS] at H6
      clear hSS l0 l2 l3 l4
      obtain ⟨dq, hdq⟩ : ∃ dq, decS SS id = dq := ⟨_, rfl⟩
      obtain ⟨da, db⟩ := dq
      have hd1 := c_decision H6.out id
      rw [hdq] at hd1
      have HD1 := Lib.hid hd1
      clear hd1
      go_wp2_with fail
      refine HD1.out.mono ?_
      rintro e w7 ⟨rfl, h7⟩
      have HC7 := Lib.hid (act_cells h7.cell)
      have hd2 := d_decision h7 id
      rw [hdq] at hd2
      have HD2 := Lib.hid hd2
      clear h7 hd2 HD1 H6 HC6 l1 hdq
      have l1 := HC7.out.2.1
      go_wp2_with fail
      refine HD2.out.mono ?_
      rintro e w8 ⟨rfl, h8⟩
      have H8 := Lib.hid h8.drew
      have HC8 := Lib.hid (act_cells h8.drew.cell)
      have hda : (da != da) = false := by cases da <;> rfl
      have hdb : (db != db) = false := by cases db <;> rfl
      obtain ⟨oL, hoL⟩ : ∃ oL, owesS SS id = oL := ⟨_, rfl⟩
      have ho1 := c_owes H8.out id
      rw [hoL] at ho1
      have HO1 := Lib.hid ho1
      have HOL := Lib.hid hoL
      clear h8 ho1 HD2 HC7 l1 hoL
      go_wp2_with fail
      refine wp_region_M (fun W => W.cell? ⟨bx, 1, none⟩ = some (.int .i64 id)) 41 (by kernel_rfl) ?_
      refine wpAnyM_take (by kernel_rfl) (by intro c a d v w h; cases d <;> exact h) [(0, false), (1, false), (2, false), (3, false), (4, false), (5, false), (6, false), (7, false), (8, false), (9, false), (10, false), (11, false), (12, false), (13, false), (14, false), (15, true), (17, false), (18, false), (19, true)] (fuel := 22) (by kernel_rfl) ?_
      apply Exists.intro; refine ⟨?_, HC8.out.2.1, ?_⟩
      · iterate 19 ((first | (apply yieldN; (· (simp only [List.getElem?_toArray, List.getElem?_cons_succ, List.getElem?_cons_zero]; try rfl)); (· rfl)) | ((first | apply yieldP | apply yieldL); (· (simp only [List.getElem?_toArray, List.getElem?_cons_succ, List.getElem?_cons_zero]; try rfl)); (· rfl); (· (intros; go_simp; try with_reducible rfl)))); (· (simp only [Act.put, List.setIfInBounds_toArray, List.set_cons_zero, List.set_cons_succ]; try rfl)))
        exact rfl
      refine wpAnyM_one (fuel := 21) (i := 16) (by kernel_rfl) (by rfl) (fun K hK => ?_)    -- CALL
      go_wp2_with fail
      refine HO1.out.mono ?_
      rintro e w9 ⟨v9, D9, rfl, h9, hu9⟩
      have H9 := Lib.hid (H8.out.keep hu9)
      have HC9 := Lib.hid (act_cells H9.out.cell)
      obtain ⟨E9, hr9, -⟩ := h9.read
      have HR9 := Lib.hid hr9
      have ho2 := d_owes H9.out id
      rw [HOL.out] at ho2
      have HO2 := Lib.hid ho2
      clear h9 hu9 hr9 ho2 H8 HC8 HO1
      go_wp2_with fail
      refine hK _ _ HC9.out.2.1 ?_
      clear hK
      refine wpAnyM_one (fuel := 20) (i := 20) (by kernel_rfl) (by rfl) (fun K hK => ?_)    -- CALL
      go_wp2_with fail
      refine HO2.out.mono ?_
      rintro e w10 ⟨v10, D10, rfl, h10, hu10⟩
      have H10 := Lib.hid (H9.out.keep hu10)
      have HC10 := Lib.hid (act_cells H10.out.cell)
      obtain ⟨E10, hr10, -⟩ := h10.read
      have hsm := same_any v9 v10 oL oL E9 E10 w10 (HR9.out.frame (hu10.same HR9.out.lt (by simp))) hr10
      rw [decide_eq_true rfl] at hsm
      have HSM := Lib.hid hsm
      clear h10 hu10 hr10 hsm H9 HC9 HO2 HR9
      go_wp2_with fail
      refine hK _ _ HC10.out.2.1 ?_
      clear hK
      refine wpAnyM_one (fuel := 19) (i := 21) (by kernel_rfl) (by rfl) (fun K hK => ?_)    -- CALL
      go_wp2_with fail
      refine HSM.out.mono ?_
      rintro e w11 ⟨rfl, hu11⟩
      have H11 := Lib.hid (H10.out.keep hu11)
      have HC11 := Lib.hid (act_cells H11.out.cell)
      have HOP := Lib.hid (c_open H11.out (by omega))
      clear hu11 HSM H10 HC10
      go_wp2_with fail
      refine hK _ _ HC11.out.2.1 ?_
      clear hK
      refine wpAnyM_take (by kernel_rfl) (by intro c a d v w h; cases d <;> exact h) [(22, false), (23, false), (24, false), (25, false), (27, false)] (fuel := 14) (by kernel_rfl) ?_
      apply Exists.intro; refine ⟨?_, HC11.out.2.1, ?_⟩
      · iterate 5 ((first | (apply yieldN; (· (simp only [List.getElem?_toArray, List.getElem?_cons_succ, List.getElem?_cons_zero]; try rfl)); (· rfl)) | ((first | apply yieldP | apply yieldL); (· (simp only [List.getElem?_toArray, List.getElem?_cons_succ, List.getElem?_cons_zero]; try rfl)); (· rfl); (· (intros; go_simp; try with_reducible rfl)))); (· (simp only [Act.put, List.setIfInBounds_toArray, List.set_cons_zero, List.set_cons_succ]; try rfl)))
        exact rfl
      refine wpAnyM_one (fuel := 13) (i := 26) (by kernel_rfl) (by rfl) (fun K hK => ?_)    -- CALL
      go_wp2_with fail
      refine HOP.out.mono ?_
      rintro e w12 ⟨v12, rfl, h12⟩
      obtain ⟨E12, hr12⟩ := h12.row
      have HR12 := Lib.hid hr12
      have H12 := Lib.hid h12.dropCell
      have HC12 := Lib.hid (act_cells h12.dropCell.cell)
      have HOD := Lib.hid (d_open H12.out)
      clear h12 hr12 HOP H11 HC11
      go_wp2_with fail
      refine hK _ _ HC12.out.2.1 ?_
      clear hK
      refine wpAnyM_one (fuel := 12) (i := 28) (by kernel_rfl) (by rfl) (fun K hK => ?_)    -- CALL
      go_wp2_with fail
      refine HOD.out.mono ?_
      rintro e w13 ⟨v13, D13, rfl, h13, hu13⟩
      have H13 := Lib.hid (H12.out.keep hu13)
      have HC13 := Lib.hid (act_cells H13.out.cell)
      obtain ⟨E13, hr13, -⟩ := h13.read
      have hsm := same64_any v12 v13 _ _ E12 E13 w13 (HR12.out.frame (hu13.same HR12.out.lt (by simp))) hr13
      rw [decide_eq_true rfl] at hsm
      have HSM := Lib.hid hsm
      clear h13 hu13 hr13 hsm H12 HC12 HR12 HOD
      go_wp2_with fail
      refine hK _ _ HC13.out.2.1 ?_
      clear hK
      refine wpAnyM_one (fuel := 11) (i := 29) (by kernel_rfl) (by rfl) (fun K hK => ?_)    -- CALL
      go_wp2_with fail
      refine HSM.out.mono ?_
      rintro e w14 ⟨rfl, hu14⟩
      have H14 := Lib.hid (H13.out.keep hu14)
      have HC14 := Lib.hid (act_cells H14.out.cell)
      obtain ⟨bs, hbs⟩ : ∃ bs, bytesS SS = bs := ⟨_, rfl⟩
      have hpt := c_put H14.out (by omega)
      rw [hbs] at hpt
      have HPT := Lib.hid hpt
      have HBS := Lib.hid hbs
      clear hu14 HSM H13 HC13 hpt hbs
      go_wp2_with fail
      refine hK _ _ HC14.out.2.1 ?_
      clear hK
      refine wpAnyM_take (by kernel_rfl) (by intro c a d v w h; cases d <;> exact h) [(30, false), (31, false), (32, false), (33, false), (36, false)] (fuel := 6) (by kernel_rfl) ?_
      apply Exists.intro; refine ⟨?_, HC14.out.2.1, ?_⟩
      · iterate 5 ((first | (apply yieldN; (· (simp only [List.getElem?_toArray, List.getElem?_cons_succ, List.getElem?_cons_zero]; try rfl)); (· rfl)) | ((first | apply yieldP | apply yieldL); (· (simp only [List.getElem?_toArray, List.getElem?_cons_succ, List.getElem?_cons_zero]; try rfl)); (· rfl); (· (intros; go_simp; try with_reducible rfl)))); (· (simp only [Act.put, List.setIfInBounds_toArray, List.set_cons_zero, List.set_cons_succ]; try rfl)))
        exact rfl
      refine wpAnyM_one (fuel := 5) (i := 34) (by kernel_rfl) (by rfl) (fun K hK => ?_)    -- CALL
      go_wp2_with fail
      refine HPT.out.mono ?_
      rintro e w15 ⟨v15, rfl, h15⟩
      have H15 := Lib.hid h15
      have HC15 := Lib.hid (act_cells h15.cell)
      have hpt := d_put h15
      rw [HBS.out] at hpt
      have HP2 := Lib.hid hpt
      clear h15 hpt HPT H14 HC14
      go_wp2_with fail
      refine hK _ _ HC15.out.2.1 ?_
      clear hK
      refine wpAnyM_each (fuel := 4) [35, 37] (by kernel_rfl) (by simp) (fun i hi => ?_)
      simp only [List.mem_cons, List.not_mem_nil, or_false] at hi
      rcases hi with rfl | rfl
      case' inl =>
        refine ⟨_, by rfl, fun K hK => ?_⟩
        obtain ⟨E15, hr15⟩ := H15.out.get (v := v15) (b := bs) (by simp)
        have hcv1 := conv_str (P := Try.prog) (src := 53) (dst := 9) Try.underlying53 Try.underlying5 Try.underlying9 hr15 w15 (fun _ _ => rfl)
        clear hr15
        go_wp2_with fail
        refine hK _ _ HC15.out.2.1 ?_
        clear hK hcv1
        refine wpAnyM_one (fuel := 3) (i := 37) (by kernel_rfl) (by rfl) (fun K hK => ?_)
        go_wp2_with fail
        refine HP2.out.mono ?_
        rintro e w16 ⟨v16, rfl, h⟩
        obtain ⟨E16, hr16⟩ := h.get (v := v16) (b := bs) (by simp)
        obtain ⟨E17, hr17⟩ := h.get (v := v15) (b := bs) (by simp)
        have hcv2 := conv_str (P := Try.prog) (src := 53) (dst := 9) Try.underlying53 Try.underlying5 Try.underlying9 hr16 w16 (fun _ _ => rfl)
        have hcv1 := conv_str (P := Try.prog) (src := 53) (dst := 9) Try.underlying53 Try.underlying5 Try.underlying9 hr17 w16 (fun _ _ => rfl)
        have H16 := Lib.hid h
        have HC16 := Lib.hid (act_cells h.cell)
        clear h hr16 hr17
        clear hcv1
        go_wp2_with fail
        refine hK _ _ HC16.out.2.1 ?_
        clear hK
        refine wpAnyM_one (fuel := 2) (i := 38) (by kernel_rfl) (by rfl) (fun K hK => ?_)
        go_wp2_with fail
        refine hK _ _ HC16.out.2.1 ?_
        clear hK hcv2
      case' inr =>
        refine ⟨_, by rfl, fun K hK => ?_⟩
        go_wp2_with fail
        refine HP2.out.mono ?_
        rintro e w16 ⟨v16, rfl, h⟩
        obtain ⟨E16, hr16⟩ := h.get (v := v16) (b := bs) (by simp)
        obtain ⟨E17, hr17⟩ := h.get (v := v15) (b := bs) (by simp)
        have hcv2 := conv_str (P := Try.prog) (src := 53) (dst := 9) Try.underlying53 Try.underlying5 Try.underlying9 hr16 w16 (fun _ _ => rfl)
        have hcv1 := conv_str (P := Try.prog) (src := 53) (dst := 9) Try.underlying53 Try.underlying5 Try.underlying9 hr17 w16 (fun _ _ => rfl)
        have H16 := Lib.hid h
        have HC16 := Lib.hid (act_cells h.cell)
        clear h hr16 hr17
        go_wp2_with fail
        refine hK _ _ HC16.out.2.1 ?_
        clear hK
        refine wpAnyM_each (fuel := 3) [35, 38] (by kernel_rfl) (by simp) (fun i hi => ?_)
        simp only [List.mem_cons, List.not_mem_nil, or_false] at hi
        rcases hi with rfl | rfl
        case' inl =>
          refine ⟨_, by rfl, fun K hK => ?_⟩
          go_wp2_with fail
          refine hK _ _ HC16.out.2.1 ?_
          clear hK
          refine wpAnyM_one (fuel := 2) (i := 38) (by kernel_rfl) (by rfl) (fun K hK => ?_)
        case' inr =>
          refine ⟨_, by rfl, fun K hK => ?_⟩
          go_wp2_with fail
          refine hK _ _ HC16.out.2.1 ?_
          clear hK
          refine wpAnyM_one (fuel := 2) (i := 35) (by kernel_rfl) (by rfl) (fun K hK => ?_)
        all_goals
          go_wp2_with fail
          refine hK _ _ HC16.out.2.1 ?_
          clear hK hcv1 hcv2
      all_goals
        refine wpAnyM_take (by kernel_rfl) (by intro c a d v w h; cases d <;> exact h) [(39, false), (40, false)] (fuel := 0) (by kernel_rfl) ?_
        apply Exists.intro; refine ⟨?_, HC16.out.2.1, ?_⟩
        · iterate 2 ((first | (apply yieldN; (· (simp only [List.getElem?_toArray, List.getElem?_cons_succ, List.getElem?_cons_zero]; try rfl)); (· rfl)) | ((first | apply yieldP | apply yieldL); (· (simp only [List.getElem?_toArray, List.getElem?_cons_succ, List.getElem?_cons_zero]; try rfl)); (· rfl); (· (intros; go_simp; try with_reducible rfl)))); (· (simp only [Act.put, List.setIfInBounds_toArray, List.set_cons_zero, List.set_cons_succ]; try rfl)))
          exact rfl
        refine wpAnyM_done (by kernel_rfl) ?_ _
        go_wp2_with fail
        go_roundg (acts.length - (p + 1))
        case rel => exact ⟨p + 1, c6, SS, by omega, by first | rfl | go_num, by first | rfl | go_num, rfl, (H16.out.dropCell).also (fun r hr => by cases hr)⟩
        case measure => omega
end Go.Proofs.Ytebmmbommkpjaaa
