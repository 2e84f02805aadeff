/-
  RouteBack: a table that is written and read is it, and goes on as it would have.
-/
import Derived.Test.YtfncdgnhiinmjaaDoorRouteK
namespace Go.Proofs.YtfncdgnhiinmjaaDoor
open Go.RowKit Go.Av



set_option maxRecDepth 100000 in
set_option maxHeartbeats 16000000 in
theorem routeBack_walk (n : Int) (a1 : Option Addr) (len1 cap1 : Nat) (l : List (ByteArray × Int)) (a2 : Option Addr) (len2 cap2 : Nat) (l2 : List (ByteArray × Int)) (pp : ByteArray) (w : World) (hd : Door w) (h1 : IsMvs w a1 len1 cap1 l) (h2 : IsMvs w a2 len2 cap2 l2) (hp : pp.size ≤ maxLen) :
    Calls Tryd.prog 7 #[.int .i64 n, .slice a1 len1 cap1, .slice a2 len2 cap2, .string pp] w fun e w' => e = .returned (.bool true) ∧ Below w.heap.size w w' := by
  obtain ⟨hla, hlca, hca, haa, hac, hax⟩ := h1
  obtain ⟨hlb, hlcb, hcb, hba, hbc, hbx⟩ := h2
  subst hla hlb
  unfold maxLen at hca hp hcb
  have HAC := Lib.hid (show _ ∧ _ ∧ _ from ⟨haa, hac, hax⟩)
  have HA2 := Lib.hid (show _ ∧ _ ∧ _ from ⟨hba, hbc, hbx⟩)
  have HD := Lib.hid hd
  clear haa hac hax hd hba hbc hbx
  by_cases hn1 : n < 1
  · go_enter Tryd.func7, Tryd.ntmps7
    go_wp2_with fail
    refine (awake16_any _ HD.out).mono ?_
    rintro e w1 ⟨rfl, hu1⟩
    go_wp2_with fail
    go_ret
    exact ⟨rfl, hu1.below⟩
  by_cases hn4 : 4 < n
  · go_enter Tryd.func7, Tryd.ntmps7
    go_wp2_with fail
    refine (awake16_any _ HD.out).mono ?_
    rintro e w1 ⟨rfl, hu1⟩
    go_wp2_with fail
    go_ret
    exact ⟨rfl, hu1.below⟩
  by_cases hl20 : 20 < l.length
  · go_enter Tryd.func7, Tryd.ntmps7
    go_wp2_with fail
    refine (awake16_any _ HD.out).mono ?_
    rintro e w1 ⟨rfl, hu1⟩
    go_wp2_with fail
    go_ret
    exact ⟨rfl, hu1.below⟩
  by_cases hm20 : 20 < l2.length
  · go_enter Tryd.func7, Tryd.ntmps7
    go_wp2_with fail
    refine (awake16_any _ HD.out).mono ?_
    rintro e w1 ⟨rfl, hu1⟩
    go_wp2_with fail
    go_ret
    exact ⟨rfl, hu1.below⟩
  by_cases hp300 : 300 < pp.size
  · go_enter Tryd.func7, Tryd.ntmps7
    go_wp2_with fail
    refine (awake16_any _ HD.out).mono ?_
    rintro e w1 ⟨rfl, hu1⟩
    go_wp2_with fail
    go_ret
    exact ⟨rfl, hu1.below⟩
  go_enter Tryd.func7, Tryd.ntmps7
  go_wp2_with fail
  refine (awake16_any _ HD.out).mono ?_
  rintro e w1 ⟨rfl, hu1⟩
  go_wp2_with fail
  refine (rt_new ((Sep.start w).keep hu1) n (by omega) (by omega)).mono ?_
  rintro e w2 ⟨t, rfl, H⟩
  have HT := Lib.hid H
  have HI0 := Lib.hid (inv_new (n := n) (by omega) (by omega))
  clear H hu1
  go_wp2_with fail
  go_loopg [11] l.length (fun k v wr => ∃ (p : Nat) (S : RtS), p ≤ l.length ∧ k = l.length - p ∧ v = .int .i64 (p : Int) ∧ Rt w wr t S [] [] ∧ RtInv S ∧ S.ver ≤ 1 + p)
  case atStart => exact ⟨0, _, Nat.zero_le _, rfl, rfl, HT.out, HI0.out, by simp⟩
  case round =>
    obtain ⟨p, S, hpl, hk, hv3, H, hinv, hv2⟩ := hrel
    subst hv3
    have HI := Lib.hid hinv
    have hv1 := hinv.ver
    clear HT hinv
    by_cases hlt : p < l.length
    case pos =>
      obtain ⟨x, hxa⟩ : ∃ x, a1 = some x := by
        cases a1 with
        | none => exact absurd (HAC.out.1 rfl) (by omega)
        | some x => exact ⟨x, rfl⟩
      subst hxa
      obtain ⟨g0, g1⟩ := HAC.out.2.1 x rfl p hlt
      have hsz := HAC.out.2.2 _ (List.getElem_mem hlt)
      obtain ⟨q0, hq0⟩ : ∃ q, l[p] = q := ⟨_, rfl⟩
      rw [hq0] at g0 g1 hsz
      obtain ⟨ts, sh⟩ := q0
      dsimp only at g0 g1 hsz
      have G := Lib.hid (show _ ∧ _ from ⟨g0, g1⟩)
      have hbl := H.below
      have up : ∀ {j : Nat} {v : Value}, w.cell? (x.add j) = some v → wr.cell? (x.add j) = some v := fun hv => (hbl.cell (World.block_lt_of_cell? w _ hv)).trans hv
      have g0 := up g0
      have g1 := up g1
      rw [add_field g0 1] at g1
      unfold maxLen at hsz
      clear up hq0
      by_cases hs100 : 100 < ts.size
      · have HBB := Lib.hid H.below
        clear H hbl
        go_wp2_with fail
        go_ret
        exact ⟨rfl, HBB.out⟩
      obtain ⟨m1, m2, m3⟩ := move_n S ts.data.toList sh
      have HM := Lib.hid (move_any H.drew HD.out ts sh (by omega) (by omega) (by omega))
      clear H hbl m1
      go_wp2_with fail
      refine wp_region_M (fun W => W.cell? (x.add (p * 2)) = some (.string ts) ∧ W.cell? ⟨(x.add (p * 2)).block, (x.add (p * 2)).off + 1, none⟩ = some (.int .i64 sh)) 12 (by kernel_rfl) ?_
      refine wpAnyM_take (by kernel_rfl) (by intro c a d v w h; cases d <;> exact h) [(0, false), (1, false), (2, false), (3, false), (4, false), (5, true), (6, false), (7, false), (8, false), (9, false), (10, true)] (fuel := 1) (by kernel_rfl) ?_
      apply Exists.intro; refine ⟨?_, ⟨g0, g1⟩, ?_⟩
      · iterate 11 ((first | (apply yieldN; (· (simp only [List.getElem?_toArray, List.getElem?_cons_succ, List.getElem?_cons_zero]; try rfl)); (· rfl)) | ((first | apply yieldP | apply yieldL); (· (simp only [List.getElem?_toArray, List.getElem?_cons_succ, List.getElem?_cons_zero]; try rfl)); (· rfl); (· (intros; go_simp; try with_reducible rfl)))); (· (simp only [Act.put, List.setIfInBounds_toArray, List.set_cons_zero, List.set_cons_succ]; try rfl)))
        exact rfl
      refine wpAnyM_one (fuel := 0) (i := 11) (by kernel_rfl) (by rfl) (fun K hK => ?_)    -- CALL
      go_wp2_with fail
      refine HM.out.mono ?_
      rintro e w3 ⟨rfl, h⟩
      have HX := Lib.hid h
      have hbl := h.below
      have k0 : w3.cell? (x.add (p * 2)) = some (.string ts) := (hbl.cell (World.block_lt_of_cell? w _ G.out.1)).trans G.out.1
      have k1 := (hbl.cell (World.block_lt_of_cell? w _ G.out.2)).trans G.out.2
      rw [add_field k0 1] at k1
      clear h HM hbl g0 g1
      go_wp2_with fail
      refine hK _ _ ⟨k0, k1⟩ ?_
      clear hK
      refine wpAnyM_done (by kernel_rfl) ?_ _
      go_wp2_with fail
      go_roundg (l.length - (p + 1))
      case rel => exact ⟨p + 1, _, by omega, rfl, by go_num, HX.out, inv_move HI.out _ _, by omega⟩
      case measure => omega
    have hvb : S.ver ≤ 1000 := by omega
    have HP := Lib.hid (put_table H (inv_short HI.out))
    clear H hv1
    go_wp2_with fail
    refine HP.out.mono ?_
    rintro e w3 ⟨v, rfl, h⟩
    have h' := h.toRowR
    have HG := Lib.hid (two_getT (v := v) h' HD.out (by simp) HI.out (by omega))
    clear h h' HP
    go_wp2_with fail
    refine HG.out.mono ?_
    rintro e w4 ⟨u, rfl, h⟩
    have HT := Lib.hid h.flip
    have HA := Lib.hid (show _ ∧ _ from ⟨sort_alike HI.out, sort_invT HI.out⟩)
    obtain ⟨rows, hrows⟩ : ∃ rows, rows = [(v, bytesT S)] := ⟨_, rfl⟩
    rw [← hrows] at HT
    clear h HG hrows
    have HV := Lib.hid (show S.ver ≤ 21 from by omega)
    clear hvb hv2
    go_wp2_with fail
    go_loopg [14] l2.length (fun k v wr => ∃ (p : Nat) (S T : RtS), p ≤ l2.length ∧ k = l2.length - p ∧ v = .int .i64 (p : Int) ∧ TwoT w wr t S u T [] rows ∧ RtInv S ∧ RtInv T ∧ AlikeT S T ∧ S.ver ≤ 21 + p)
    case atStart => exact ⟨0, _, _, Nat.zero_le _, rfl, rfl, HT.out, HI.out, HA.out.2, HA.out.1, by have := HV.out; omega⟩
    case round =>
      clear HT HA HI HV
      clear S
      obtain ⟨p, S, T, hpl, hk, hv3, H, hiS, hiT, hal, hvb⟩ := hrel
      subst hv3
      have hv1 := hiS.ver
      have hvT : T.ver = S.ver := hal.ver.symm
      have HI := Lib.hid (show _ ∧ _ ∧ _ from ⟨hiS, hiT, hal⟩)
      clear hiS hiT hal
      by_cases hlt : p < l2.length
      case pos =>
        obtain ⟨x, hxa⟩ : ∃ x, a2 = some x := by
          cases a2 with
          | none => exact absurd (HA2.out.1 rfl) (by omega)
          | some x => exact ⟨x, rfl⟩
        subst hxa
        obtain ⟨g0, g1⟩ := HA2.out.2.1 x rfl p hlt
        have hsz := HA2.out.2.2 _ (List.getElem_mem hlt)
        obtain ⟨q0, hq0⟩ : ∃ q, l2[p] = q := ⟨_, rfl⟩
        rw [hq0] at g0 g1 hsz
        obtain ⟨ts, sh⟩ := q0
        dsimp only at g0 g1 hsz
        have G := Lib.hid (show _ ∧ _ from ⟨g0, g1⟩)
        have hbl := H.below
        have up : ∀ {j : Nat} {v : Value}, w.cell? (x.add j) = some v → wr.cell? (x.add j) = some v := fun hv => (hbl.cell (World.block_lt_of_cell? w _ hv)).trans hv
        have g0 := up g0
        have g1 := up g1
        rw [add_field g0 1] at g1
        unfold maxLen at hsz
        clear up hq0
        by_cases hs100 : 100 < ts.size
        · have HBB := Lib.hid H.below
          clear H hbl
          go_wp2_with fail
          go_ret
          exact ⟨rfl, HBB.out⟩
        obtain ⟨m1, m2, m3⟩ := move_n S ts.data.toList sh
        obtain ⟨ma, mb⟩ := alike_move HI.out.1 HI.out.2.1 HI.out.2.2 ts.data.toList sh
        have HN := Lib.hid (show _ ∧ _ ∧ _ ∧ _ from ⟨inv_move HI.out.1 ts.data.toList sh, inv_move HI.out.2.1 ts.data.toList sh, mb, ma⟩)
        obtain ⟨R1, f1, b1⟩ := H.drew.use
        have HM := Lib.hid (move_any f1 HD.out ts sh (by omega) (by omega) (by omega))
        have HB := Lib.hid b1
        have hvS2 : (moveS S ts.data.toList sh).2.ver ≤ 21 + (p + 1) := by omega
        clear H hbl f1 b1 m1 m2 m3 ma mb
        go_wp2_with fail
        refine wp_region_M (fun W => W.cell? (x.add (p * 2)) = some (.string ts) ∧ W.cell? ⟨(x.add (p * 2)).block, (x.add (p * 2)).off + 1, none⟩ = some (.int .i64 sh)) 34 (by kernel_rfl) ?_
        refine wpAnyM_take (by kernel_rfl) (by intro c a d v w h; cases d <;> exact h) [(0, false), (1, false), (2, false), (3, false), (4, false), (5, true), (6, false), (7, false), (8, false), (9, false), (10, true), (12, false), (13, false), (14, false), (15, false), (16, false), (17, true), (18, false), (19, false), (20, false), (21, false), (22, true)] (fuel := 12) (by kernel_rfl) ?_
        apply Exists.intro; refine ⟨?_, ⟨g0, g1⟩, ?_⟩
        · iterate 22 ((first | (apply yieldN; (· (simp only [List.getElem?_toArray, List.getElem?_cons_succ, List.getElem?_cons_zero]; try rfl)); (· rfl)) | ((first | apply yieldP | apply yieldL); (· (simp only [List.getElem?_toArray, List.getElem?_cons_succ, List.getElem?_cons_zero]; try rfl)); (· rfl); (· (intros; go_simp; try with_reducible rfl)))); (· (simp only [Act.put, List.setIfInBounds_toArray, List.set_cons_zero, List.set_cons_succ]; try rfl)))
          exact rfl
        refine wpAnyM_one (fuel := 11) (i := 11) (by kernel_rfl) (by rfl) (fun K hK => ?_)    -- CALL
        go_wp2_with fail
        refine HM.out.mono ?_
        rintro e w5 ⟨rfl, h⟩
        have H := (HB.out _ _ _ h).flip
        have hbl := H.below
        have k0 : w5.cell? (x.add (p * 2)) = some (.string ts) := (hbl.cell (World.block_lt_of_cell? w _ G.out.1)).trans G.out.1
        have k1 := (hbl.cell (World.block_lt_of_cell? w _ G.out.2)).trans G.out.2
        rw [add_field k0 1] at k1
        obtain ⟨R2, f1, b1⟩ := H.use
        have hm2 := move_any f1 HD.out ts sh (by omega) (by rw [hvT]; omega) (by rw [hvT]; omega)
        rw [← HN.out.2.2.2] at hm2
        have HM2 := Lib.hid hm2
        have HB2 := Lib.hid b1
        clear h H hbl f1 b1 HM HB g0 g1 hm2
        obtain ⟨er, her⟩ : ∃ er, (moveS S ts.data.toList sh).1 = er := ⟨_, rfl⟩
        rw [her] at HM2 ⊢
        have hee : (er != er) = false := by simp
        clear her
        go_wp2_with fail
        refine hK _ _ ⟨k0, k1⟩ ?_
        clear hK
        refine wpAnyM_one (fuel := 10) (i := 23) (by kernel_rfl) (by rfl) (fun K hK => ?_)    -- CALL
        go_wp2_with fail
        refine HM2.out.mono ?_
        rintro e w6 ⟨rfl, h⟩
        have H := (HB2.out _ _ _ h).flip
        have hbl := H.below
        have q0 : w6.cell? (x.add (p * 2)) = some (.string ts) := (hbl.cell (World.block_lt_of_cell? w _ G.out.1)).trans G.out.1
        have q1 := (hbl.cell (World.block_lt_of_cell? w _ G.out.2)).trans G.out.2
        rw [add_field q0 1] at q1
        have HH := Lib.hid H
        clear h H hbl HM2 HB2 k0 k1
        go_wp2_with fail
        refine hK _ _ ⟨q0, q1⟩ ?_
        clear hK
        refine wpAnyM_take (by kernel_rfl) (by intro c a d v w h; cases d <;> exact h) [(24, false), (25, false), (26, false), (27, false), (29, false), (30, false)] (fuel := 4) (by kernel_rfl) ?_
        apply Exists.intro; refine ⟨?_, ⟨q0, q1⟩, ?_⟩
        · iterate 6 ((first | (apply yieldN; (· (simp only [List.getElem?_toArray, List.getElem?_cons_succ, List.getElem?_cons_zero]; try rfl)); (· rfl)) | ((first | apply yieldP | apply yieldL); (· (simp only [List.getElem?_toArray, List.getElem?_cons_succ, List.getElem?_cons_zero]; try rfl)); (· rfl); (· (intros; go_simp; try with_reducible rfl)))); (· (simp only [Act.put, List.setIfInBounds_toArray, List.set_cons_zero, List.set_cons_succ]; try rfl)))
          exact rfl
        refine wpAnyM_one (fuel := 3) (i := 28) (by kernel_rfl) (by rfl) (fun K hK => ?_)    -- CALL
        go_wp2_with fail
        obtain ⟨S2, hS2⟩ : ∃ z, (moveS S ts.data.toList sh).2 = z := ⟨_, rfl⟩
        obtain ⟨T2, hT2⟩ : ∃ z, (moveS T ts.data.toList sh).2 = z := ⟨_, rfl⟩
        rw [hS2, hT2] at HH
        rw [hS2, hT2] at HN
        rw [hS2] at hvS2
        clear hS2 hT2
        obtain ⟨of, hof⟩ : ∃ z, ofS S2 pp.data.toList = z := ⟨_, rfl⟩
        obtain ⟨R3, f1, b1⟩ := HH.out.use
        have hO1 := of_any f1 HD.out pp (by unfold maxLen; omega) HN.out.1.ok.1 HN.out.1.ok.2.1
        rw [hof] at hO1
        refine hO1.mono ?_
        rintro e w7 ⟨rfl, h⟩
        have H := (b1 _ _ _ h).flip
        have hbl := H.below
        have k0 : w7.cell? (x.add (p * 2)) = some (.string ts) := (hbl.cell (World.block_lt_of_cell? w _ G.out.1)).trans G.out.1
        have k1 := (hbl.cell (World.block_lt_of_cell? w _ G.out.2)).trans G.out.2
        rw [add_field k0 1] at k1
        obtain ⟨R4, f2, b2⟩ := H.use
        have hO2 := of_any f2 HD.out pp (by unfold maxLen; omega) HN.out.2.1.ok.1 HN.out.2.1.ok.2.1
        rw [← alike_of HN.out.2.2.1, hof] at hO2
        have HO2 := Lib.hid hO2
        have HB2 := Lib.hid b2
        have hoo : (of != of) = false := by simp
        clear f1 b1 hO1 h H hbl f2 b2 hO2 hof HH q0 q1
        go_wp2_with fail
        refine hK _ _ ⟨k0, k1⟩ ?_
        clear hK
        refine wpAnyM_one (fuel := 2) (i := 31) (by kernel_rfl) (by rfl) (fun K hK => ?_)    -- CALL
        go_wp2_with fail
        refine HO2.out.mono ?_
        rintro e w8 ⟨rfl, h⟩
        have H := (HB2.out _ _ _ h).flip
        have hbl := H.below
        have q0 : w8.cell? (x.add (p * 2)) = some (.string ts) := (hbl.cell (World.block_lt_of_cell? w _ G.out.1)).trans G.out.1
        have q1 := (hbl.cell (World.block_lt_of_cell? w _ G.out.2)).trans G.out.2
        rw [add_field q0 1] at q1
        have HX := Lib.hid H
        clear h H hbl HO2 HB2 k0 k1
        go_wp2_with fail
        refine hK _ _ ⟨q0, q1⟩ ?_
        clear hK
        refine wpAnyM_take (by kernel_rfl) (by intro c a d v w h; cases d <;> exact h) [(32, false), (33, false)] (fuel := 0) (by kernel_rfl) ?_
        apply Exists.intro; refine ⟨?_, ⟨q0, q1⟩, ?_⟩
        · iterate 2 ((first | (apply yieldN; (· (simp only [List.getElem?_toArray, List.getElem?_cons_succ, List.getElem?_cons_zero]; try rfl)); (· rfl)) | ((first | apply yieldP | apply yieldL); (· (simp only [List.getElem?_toArray, List.getElem?_cons_succ, List.getElem?_cons_zero]; try rfl)); (· rfl); (· (intros; go_simp; try with_reducible rfl)))); (· (simp only [Act.put, List.setIfInBounds_toArray, List.set_cons_zero, List.set_cons_succ]; try rfl)))
          exact rfl
        refine wpAnyM_done (by kernel_rfl) ?_ _
        go_wp2_with fail
        go_roundg (l2.length - (p + 1))
        case rel => exact ⟨p + 1, _, _, by omega, rfl, by go_num, HX.out, HN.out.1, HN.out.2.1, HN.out.2.2.1, by omega⟩
        case measure => omega
      obtain ⟨bs, hbs⟩ : ∃ bs, bytesT S = bs := ⟨_, rfl⟩
      have hbt : bytesT T = bs := by rw [← hbs]; exact (alike_bytes HI.out.1 HI.out.2.1 HI.out.2.2).symm
      obtain ⟨of, hof⟩ : ∃ z, ofS S pp.data.toList = z := ⟨_, rfl⟩
      have hof2 : ofS T pp.data.toList = of := by rw [← alike_of HI.out.2.2, hof]
      have HH := Lib.hid H
      have HB := Lib.hid (show _ ∧ _ ∧ _ ∧ _ from ⟨hbs, hbt, hof, hof2⟩)
      have hoo : (of == of) = true := by simp
      clear H hbs hbt hof hof2
      go_wp2_with fail
      refine wp_region_M (fun W => True) 14 (by kernel_rfl) ?_
      refine wpAnyM_take (by kernel_rfl) (by intro c a d v w h; cases d <;> exact h) [(0, false), (1, false), (3, false), (4, false)] (fuel := 13) (by kernel_rfl) ?_
      apply Exists.intro; refine ⟨?_, trivial, ?_⟩
      · iterate 4 ((first | (apply yieldN; (· (simp only [List.getElem?_toArray, List.getElem?_cons_succ, List.getElem?_cons_zero]; try rfl)); (· rfl)) | ((first | apply yieldP | apply yieldL); (· (simp only [List.getElem?_toArray, List.getElem?_cons_succ, List.getElem?_cons_zero]; try rfl)); (· rfl); (· (intros; go_simp; try with_reducible rfl)))); (· (simp only [Act.put, List.setIfInBounds_toArray, List.set_cons_zero, List.set_cons_succ]; try rfl)))
        exact rfl
      refine wpAnyM_one (fuel := 12) (i := 2) (by kernel_rfl) (by rfl) (fun K hK => ?_)    -- CALL
      go_wp2_with fail
      obtain ⟨R3, f1, b1⟩ := HH.out.drew.use
      have hO1 := of_any f1 HD.out pp (by unfold maxLen; omega) HI.out.1.ok.1 HI.out.1.ok.2.1
      rw [HB.out.2.2.1] at hO1
      refine hO1.mono ?_
      rintro e w7 ⟨rfl, h⟩
      have H := (b1 _ _ _ h).flip
      obtain ⟨R4, f2, b2⟩ := H.use
      have hO2 := of_any f2 HD.out pp (by unfold maxLen; omega) HI.out.2.1.ok.1 HI.out.2.1.ok.2.1
      rw [HB.out.2.2.2] at hO2
      have HO2 := Lib.hid hO2
      have HB2 := Lib.hid b2
      clear f1 b1 hO1 h H f2 b2 hO2 HH
      go_wp2_with fail
      refine hK _ _ trivial ?_
      clear hK
      refine wpAnyM_one (fuel := 11) (i := 5) (by kernel_rfl) (by rfl) (fun K hK => ?_)    -- CALL
      go_wp2_with fail
      refine HO2.out.mono ?_
      rintro e w8 ⟨rfl, h⟩
      have HH := Lib.hid (HB2.out _ _ _ h).flip
      clear h HO2 HB2
      go_wp2_with fail
      refine hK _ _ trivial ?_
      clear hK
      refine wpAnyM_take (by kernel_rfl) (by intro c a d v w h; cases d <;> exact h) [(6, false), (7, false), (8, false), (11, false)] (fuel := 7) (by kernel_rfl) ?_
      apply Exists.intro; refine ⟨?_, trivial, ?_⟩
      · iterate 4 ((first | (apply yieldN; (· (simp only [List.getElem?_toArray, List.getElem?_cons_succ, List.getElem?_cons_zero]; try rfl)); (· rfl)) | ((first | apply yieldP | apply yieldL); (· (simp only [List.getElem?_toArray, List.getElem?_cons_succ, List.getElem?_cons_zero]; try rfl)); (· rfl); (· (intros; go_simp; try with_reducible rfl)))); (· (simp only [Act.put, List.setIfInBounds_toArray, List.set_cons_zero, List.set_cons_succ]; try rfl)))
        exact rfl
      refine wpAnyM_one (fuel := 6) (i := 9) (by kernel_rfl) (by rfl) (fun K hK => ?_)    -- CALL
      go_wp2_with fail
      have hput := HH.out.put (inv_short HI.out.1)
      rw [HB.out.1] at hput
      refine hput.mono ?_
      rintro e w14 ⟨v14, rfl, H14⟩
      obtain ⟨E14, hr14⟩ := H14.get (v := v14) (b := bs) (by simp)
      have hput2 := H14.flip.put (inv_short HI.out.2.1)
      rw [HB.out.2.1] at hput2
      have HP2 := Lib.hid hput2
      have hcv1 := conv_str (P := Tryd.prog) (src := 47) (dst := 9) Tryd.underlying47 Tryd.underlying5 Tryd.underlying9 hr14 w14 (fun _ _ => rfl)
      clear hput hput2 hr14 H14 HH
      go_wp2_with fail
      refine hK _ _ trivial ?_
      clear hK
      refine wpAnyM_each (fuel := 5) [10, 12] (by kernel_rfl) (by simp) (fun i hi => ?_)
      simp only [List.mem_cons, List.not_mem_nil, or_false] at hi
      rcases hi with rfl | rfl
      case' inl =>
        refine ⟨_, by rfl, fun K hK => ?_⟩
        go_wp2_with fail
        refine hK _ _ trivial ?_
        clear hK hcv1
        refine wpAnyM_one (fuel := 4) (i := 12) (by kernel_rfl) (by rfl) (fun K hK => ?_)
        go_wp2_with fail
        refine HP2.out.mono ?_
        rintro e w15 ⟨v15, rfl, H15⟩
        obtain ⟨E15, hr15⟩ := H15.get (v := v15) (b := bs) (by simp)
        have hcv2 := conv_str (P := Tryd.prog) (src := 47) (dst := 9) Tryd.underlying47 Tryd.underlying5 Tryd.underlying9 hr15 w15 (fun _ _ => rfl)
        have HBL := Lib.hid H15.below
        clear H15 hr15 HP2
        go_wp2_with fail
        refine hK _ _ trivial ?_
        clear hK
        refine wpAnyM_one (fuel := 3) (i := 13) (by kernel_rfl) (by rfl) (fun K hK => ?_)
        go_wp2_with fail
        refine hK _ _ trivial ?_
        clear hK hcv2
      case' inr =>
        refine ⟨_, by rfl, fun K hK => ?_⟩
        clear hcv1
        go_wp2_with fail
        refine HP2.out.mono ?_
        rintro e w15 ⟨v15, rfl, H15⟩
        obtain ⟨E15, hr15⟩ := H15.get (v := v15) (b := bs) (by simp)
        obtain ⟨E16, hr16⟩ := H15.get (v := v14) (b := bs) (by simp)
        have hcv2 := conv_str (P := Tryd.prog) (src := 47) (dst := 9) Tryd.underlying47 Tryd.underlying5 Tryd.underlying9 hr15 w15 (fun _ _ => rfl)
        have hcv1 := conv_str (P := Tryd.prog) (src := 47) (dst := 9) Tryd.underlying47 Tryd.underlying5 Tryd.underlying9 hr16 w15 (fun _ _ => rfl)
        have HBL := Lib.hid H15.below
        clear H15 hr15 hr16 HP2
        go_wp2_with fail
        refine hK _ _ trivial ?_
        clear hK
        refine wpAnyM_each (fuel := 4) [10, 13] (by kernel_rfl) (by simp) (fun i hi => ?_)
        simp only [List.mem_cons, List.not_mem_nil, or_false] at hi
        rcases hi with rfl | rfl
        case' inl =>
          refine ⟨_, by rfl, fun K hK => ?_⟩
          go_wp2_with fail
          refine hK _ _ trivial ?_
          clear hK
          refine wpAnyM_one (fuel := 3) (i := 13) (by kernel_rfl) (by rfl) (fun K hK => ?_)
        case' inr =>
          refine ⟨_, by rfl, fun K hK => ?_⟩
          go_wp2_with fail
          refine hK _ _ trivial ?_
          clear hK
          refine wpAnyM_one (fuel := 3) (i := 10) (by kernel_rfl) (by rfl) (fun K hK => ?_)
        all_goals
          go_wp2_with fail
          refine hK _ _ trivial ?_
          clear hK hcv1 hcv2
      all_goals
        refine wpAnyM_of_any _ _ _ _ (by decide) ?_
        refine wpAny_list [14, 15, 16] (fuel := 0) (by kernel_rfl) ?_
        simp only [List.filterMap_cons, List.filterMap_nil, List.getElem?_toArray, List.getElem?_cons_succ, List.getElem?_cons_zero]
        go_wp2_with fail
        go_ret
        exact ⟨by simp, HBL.out⟩
end Go.Proofs.YtfncdgnhiinmjaaDoor
