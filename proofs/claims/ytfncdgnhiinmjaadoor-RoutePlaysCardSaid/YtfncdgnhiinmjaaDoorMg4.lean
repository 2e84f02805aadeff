/-
  Texts of this claim, laid together.
-/
import Derived.Test.YtfncdgnhiinmjaaDoorMg3
import Derived.HandedShaped
import Derived.Handed

/-
  RoutePlays: any moves: whose a path is, whose each Op is, the table's bytes, are as the document says.
-/
namespace Go.Proofs.YtfncdgnhiinmjaaDoor
open Go.RowKit Go.Av


set_option maxRecDepth 100000 in
set_option maxHeartbeats 16000000 in
theorem routePlays_walk (n : Int) (a1 : Option Addr) (len1 cap1 : Nat) (l : List (ByteArray × Int)) (pp : ByteArray) (a2 : Option Addr) (len2 cap2 : Nat) (ops : List OpS) (w : World) (hd : Door w) (h1 : IsMvs w a1 len1 cap1 l) (hp : pp.size ≤ maxLen) (h2 : IsOps w a2 len2 cap2 ops) :
    Calls Tryd.prog 8 #[.int .i64 n, .slice a1 len1 cap1, .string pp, .slice a2 len2 cap2] w fun e w' => e = .returned (.bool true) ∧ Below w.heap.size w w' := by
  obtain ⟨hla, hlca, hca, haa, hac, hax⟩ := h1
  subst hla
  unfold maxLen at hca hp
  have HAC := Lib.hid (show _ ∧ _ ∧ _ from ⟨haa, hac, hax⟩)
  have HO := Lib.hid h2
  have HD := Lib.hid hd
  clear haa hac hax hd h2
  by_cases hn : n < 1 ∨ 4 < n
  · have HN := Lib.hid hn
    have hb : n < 1 → ¬ 4 < n := by omega
    by_cases hn1 : n < 1
    case' neg => have hn4 : 4 < n := by omega
    all_goals
      clear hn
      go_enter Tryd.func8, Tryd.ntmps8
      go_wp2_with fail
      refine (awake16_any _ HD.out).mono ?_
      rintro e w1 ⟨rfl, hu1⟩
      go_wp2_with fail
      refine (rt_new_no w1 n HN.out).mono ?_
      rintro e w2 ⟨rfl, hW⟩
      subst w2
      go_wp2_with fail
      go_ret
      exact ⟨rfl, hu1.below⟩
  have hn1 : ¬ n < 1 := by omega
  have hn4 : ¬ 4 < n := by omega
  clear hn
  have HN := Lib.hid (show 1 ≤ n ∧ n ≤ 4 by omega)
  by_cases hl60 : 60 < l.length
  · skip
    go_enter Tryd.func8, Tryd.ntmps8
    go_wp2_with fail
    refine (awake16_any _ HD.out).mono ?_
    rintro e w1 ⟨rfl, hu1⟩
    go_wp2_with fail
    refine (rt_new ((Sep.start w).keep hu1) n HN.out.1 HN.out.2).mono ?_
    rintro e w2 ⟨t, rfl, H⟩
    have HB := Lib.hid H.below
    clear H hu1
    go_wp2_with fail
    go_ret
    exact ⟨rfl, HB.out⟩
  by_cases hp300 : 300 < pp.size
  · skip
    go_enter Tryd.func8, Tryd.ntmps8
    go_wp2_with fail
    refine (awake16_any _ HD.out).mono ?_
    rintro e w1 ⟨rfl, hu1⟩
    go_wp2_with fail
    refine (rt_new ((Sep.start w).keep hu1) n HN.out.1 HN.out.2).mono ?_
    rintro e w2 ⟨t, rfl, H⟩
    have HB := Lib.hid H.below
    clear H hu1
    go_wp2_with fail
    go_ret
    exact ⟨rfl, HB.out⟩
  go_enter Tryd.func8, Tryd.ntmps8
  go_wp2_with fail
  refine (awake16_any _ HD.out).mono ?_
  rintro e w1 ⟨rfl, hu1⟩
  go_wp2_with fail
  refine (rt_new ((Sep.start w).keep hu1) n HN.out.1 HN.out.2).mono ?_
  rintro e w2 ⟨t, rfl, H⟩
  have HT := Lib.hid (tb_iff.2 H)
  have HL := Lib.hid (long_any a2 len2 cap2 ops w2 (HO.out.below H.below))
  clear H hu1
  go_wp2_with fail
  refine HL.out.mono ?_
  rintro e w3 ⟨rfl, hW⟩
  subst w3
  obtain ⟨lg, hlg⟩ : ∃ lg, longS ops = lg := ⟨_, rfl⟩
  rw [hlg]
  have HLG := Lib.hid hlg
  clear hlg HL
  cases lg with
  | true =>
    go_wp2_with fail
    go_ret
    exact ⟨rfl, HT.out.below⟩
  | false =>
  have HOL := Lib.hid (show ops.length ≤ 1000 from by
    have := HLG.out
    unfold longS at this
    simp only [Bool.or_eq_false_iff, decide_eq_false_iff_not] at this
    omega)
  go_wp2_with fail
  refine (rf_new HT.out n).mono ?_
  rintro e w4 ⟨u, rfl, h⟩
  have HT2 := Lib.hid (show Sep w w4 [ThTb t ⟨n, 1, []⟩, ThRf u (sortT ⟨n, 1, []⟩)] [] from by rw [sort_nil]; exact (rf_iff.2 h).swap)
  have HI0 := Lib.hid (inv_new (n := n) HN.out.1 HN.out.2)
  clear h HT
  go_wp2_with fail
  go_loopg [12] l.length (fun k v wr => ∃ (p : Nat) (S : RtS), p ≤ l.length ∧ k = l.length - p ∧ v = .int .i64 (p : Int) ∧ Sep w wr [ThTb t S, ThRf u (sortT S)] [] ∧ RtInv S ∧ S.ver ≤ 1 + p ∧ S.n = n)
  case atStart => exact ⟨0, _, Nat.zero_le _, rfl, rfl, HT2.out, HI0.out, by simp, rfl⟩
  case round =>
    clear HT2 HI0
    obtain ⟨p, S, hpl, hk, hv3, H, hinv, hv2, hSn⟩ := hrel
    subst hv3
    have HI := Lib.hid (show _ ∧ _ from ⟨hinv, hSn⟩)
    have hv1 := hinv.ver
    clear hinv hSn
    by_cases hlt : p < l.length
    case pos =>
      obtain ⟨x, hxa⟩ : ∃ x, a1 = some x := by
        cases a1 with
        | none => exact absurd (HAC.out.1 rfl) (by omega)
        | some x => exact ⟨x, rfl⟩
      subst hxa
      obtain ⟨g0, g1⟩ := HAC.out.2.1 x rfl p hlt
      have hsz := HAC.out.2.2 _ (List.getElem_mem hlt)
      obtain ⟨q0, hq0⟩ : ∃ q, l[p] = q := ⟨_, rfl⟩
      rw [hq0] at g0 g1 hsz
      obtain ⟨ts, sh⟩ := q0
      dsimp only at g0 g1 hsz
      have UP := Lib.hid (show ∀ W, Below w.heap.size w W → W.cell? (x.add (p * 2)) = some (.string ts) ∧ W.cell? ⟨(x.add (p * 2)).block, (x.add (p * 2)).off + 1, none⟩ = some (.int .i64 sh) from fun W hbl => by
        have k0 : W.cell? (x.add (p * 2)) = some (.string ts) := (hbl.cell (World.block_lt_of_cell? w _ g0)).trans g0
        have k1 := (hbl.cell (World.block_lt_of_cell? w _ g1)).trans g1
        rw [add_field k0 1] at k1
        exact ⟨k0, k1⟩)
      clear g0 g1
      obtain ⟨g0, g1⟩ := UP.out wr H.below
      unfold maxLen at hsz
      clear hq0
      by_cases hs100 : 100 < ts.size
      · have HBB := Lib.hid H.below
        clear H
        go_wp2_with fail
        go_ret
        exact ⟨rfl, HBB.out⟩
      obtain ⟨m1, m2, m3⟩ := move_n S ts.data.toList sh
      have HM := Lib.hid (move_any (tb_iff.1 H.drew) HD.out ts sh (by omega) (by omega) (by omega))
      have HV := Lib.hid (show _ ∧ _ ∧ _ from ⟨m2, m3, m1⟩)
      clear H m1
      go_wp2_with fail
      refine wp_region_M (fun W => W.cell? (x.add (p * 2)) = some (.string ts) ∧ W.cell? ⟨(x.add (p * 2)).block, (x.add (p * 2)).off + 1, none⟩ = some (.int .i64 sh)) 34 (by kernel_rfl) ?_
      refine wpAnyM_take (by kernel_rfl) (by intro c a d v w h; cases d <;> exact h) [(0, false), (1, false), (2, false), (3, false), (4, false), (5, true), (6, false), (7, false), (8, false), (9, false), (10, true), (12, false), (13, false), (14, false), (15, false), (16, false), (17, true), (18, false), (19, false), (20, false), (21, false), (22, true)] (fuel := 12) (by kernel_rfl) ?_
      apply Exists.intro; refine ⟨?_, ⟨g0, g1⟩, ?_⟩
      · iterate 22 ((first | (apply yieldN; (· (simp only [List.getElem?_toArray, List.getElem?_cons_succ, List.getElem?_cons_zero]; try rfl)); (· rfl)) | ((first | apply yieldP | apply yieldL); (· (simp only [List.getElem?_toArray, List.getElem?_cons_succ, List.getElem?_cons_zero]; try rfl)); (· rfl); (· (intros; go_simp; try with_reducible rfl)))); (· (simp only [Act.put, List.setIfInBounds_toArray, List.set_cons_zero, List.set_cons_succ]; try rfl)))
        exact rfl
      clear g0 g1
      refine wpAnyM_one (fuel := 11) (i := 11) (by kernel_rfl) (by rfl) (fun K hK => ?_)    -- CALL
      go_wp2_with fail
      refine HM.out.mono ?_
      rintro e w5 ⟨rfl, h⟩
      have hs := (tb_iff.2 h).swap
      have hr := move_ref HI.out.1 ts.data.toList sh
      have hm := rf_move (rf_iff.1 hs) ts (by unfold maxLen; omega) sh (sort_riseT HI.out.1) (by rw [sort_ver]; omega) (by rw [sort_ver]; omega)
      rw [hr] at hm
      have HM2 := Lib.hid hm
      have HS := Lib.hid (UP.out w5 h.below)
      clear h hs hr hm HM
      obtain ⟨er, her⟩ : ∃ er, (moveS S ts.data.toList sh).1 = er := ⟨_, rfl⟩
      rw [her] at HM2 ⊢
      clear her
      go_wp2_with fail
      refine hK _ _ HS.out ?_
      clear hK HS
      refine wpAnyM_one (fuel := 10) (i := 23) (by kernel_rfl) (by rfl) (fun K hK => ?_)    -- CALL
      go_wp2_with fail
      refine HM2.out.mono ?_
      rintro e w6 ⟨rfl, h⟩
      have HSS := Lib.hid (rf_iff.2 h).swap
      have HS := Lib.hid (UP.out w6 h.below)
      have hee : (er != er) = false := by simp
      have c1 := rf_ver (rf_iff.2 h)
      rw [sort_ver] at c1
      have HVC := Lib.hid (rt_version (tb_iff.1 HSS.out))
      obtain ⟨vr, hvr⟩ : ∃ vr, (moveS S ts.data.toList sh).2.ver = vr := ⟨_, rfl⟩
      rw [hvr] at c1 HVC
      have hvv : (vr != vr) = false := by simp
      have HVR := Lib.hid hvr
      clear h HM2 hvr m2 m3
      go_wp2_with fail
      refine hK _ _ HS.out ?_
      clear hK
      refine wpAnyM_take (by kernel_rfl) (by intro c a d v w h; cases d <;> exact h) [(24, false), (25, false), (26, false), (28, false), (29, false), (30, false)] (fuel := 4) (by kernel_rfl) ?_
      apply Exists.intro; refine ⟨?_, HS.out, ?_⟩
      · iterate 6 ((first | (apply yieldN; (· (simp only [List.getElem?_toArray, List.getElem?_cons_succ, List.getElem?_cons_zero]; try rfl)); (· rfl)) | ((first | apply yieldP | apply yieldL); (· (simp only [List.getElem?_toArray, List.getElem?_cons_succ, List.getElem?_cons_zero]; try rfl)); (· rfl); (· (intros; go_simp; try with_reducible rfl)))); (· (simp only [Act.put, List.setIfInBounds_toArray, List.set_cons_zero, List.set_cons_succ]; try rfl)))
        exact rfl
      refine wpAnyM_each (fuel := 3) [27, 31] (by kernel_rfl) (by simp) (fun i hi => ?_)
      simp only [List.mem_cons, List.not_mem_nil, or_false] at hi
      rcases hi with rfl | rfl
      case' inl =>
        refine ⟨_, by rfl, fun K hK => ?_⟩
        go_wp2_with fail
        refine HVC.out.mono ?_
        rintro e w7 ⟨rfl, hW⟩
        subst w7
        go_wp2_with fail
        refine hK _ _ HS.out ?_
        clear hK
        refine wpAnyM_one (fuel := 2) (i := 31) (by kernel_rfl) (by rfl) (fun K hK => ?_)
        go_wp2_with fail
        refine hK _ _ HS.out ?_
        clear hK
      case' inr =>
        refine ⟨_, by rfl, fun K hK => ?_⟩
        go_wp2_with fail
        refine hK _ _ HS.out ?_
        clear hK
        refine wpAnyM_one (fuel := 2) (i := 27) (by kernel_rfl) (by rfl) (fun K hK => ?_)
        go_wp2_with fail
        refine HVC.out.mono ?_
        rintro e w7 ⟨rfl, hW⟩
        subst w7
        go_wp2_with fail
        refine hK _ _ HS.out ?_
        clear hK
      all_goals
        refine wpAnyM_take (by kernel_rfl) (by intro c a d v w h; cases d <;> exact h) [(32, false), (33, false)] (fuel := 0) (by kernel_rfl) ?_
        apply Exists.intro; refine ⟨?_, HS.out, ?_⟩
        · iterate 2 ((first | (apply yieldN; (· (simp only [List.getElem?_toArray, List.getElem?_cons_succ, List.getElem?_cons_zero]; try rfl)); (· rfl)) | ((first | apply yieldP | apply yieldL); (· (simp only [List.getElem?_toArray, List.getElem?_cons_succ, List.getElem?_cons_zero]; try rfl)); (· rfl); (· (intros; go_simp; try with_reducible rfl)))); (· (simp only [Act.put, List.setIfInBounds_toArray, List.set_cons_zero, List.set_cons_succ]; try rfl)))
          exact rfl
        refine wpAnyM_done (by kernel_rfl) ?_ _
        go_wp2_with fail
        go_roundg (l.length - (p + 1))
        case rel => exact ⟨p + 1, _, by omega, rfl, by go_num, HSS.out, inv_move HI.out.1 _ _, by have := HV.out.2.1; omega, by rw [HV.out.2.2]; exact HI.out.2⟩
        case measure => omega
    have hvb : S.ver ≤ 1000 := by omega
    have HVB := Lib.hid hvb
    have HP := Lib.hid (tb_put H (inv_short HI.out.1))
    clear H hv1 hv2 hvb
    go_wp2_with fail
    refine HP.out.mono ?_
    rintro e w5 ⟨v, rfl, h⟩
    have HG := Lib.hid (tb_get h HD.out (v := v) (by simp) HI.out.1 (by have := HVB.out; omega))
    clear h HP
    go_wp2_with fail
    refine HG.out.mono ?_
    rintro e w6 ⟨r, rfl, h⟩
    have HT := Lib.hid h.drew
    clear h HG
    have HQ := Lib.hid (show (∀ q, ofS S q = ofS (sortT S) q) ∧ bytesR (sortT S) = bytesT S ∧ RtInv (sortT S) from ⟨fun q => alike_of (sort_alike HI.out.1) q, bytesR_sort HI.out.1, sort_invT HI.out.1⟩)
    have hpl : pp.size ≤ maxLen := by unfold maxLen; omega
    have HPL := Lib.hid hpl
    obtain ⟨z, hz⟩ : ∃ z, ofS S pp.data.toList = z := ⟨_, rfl⟩
    have hzz : (z == z) = true := by simp
    have hnz : (n == n) = true := by simp
    have HZ := Lib.hid hz
    clear hz hpl
    go_wp2_with fail
    refine wp_region_M (fun W => True) 51 (by kernel_rfl) ?_
    refine wpAnyM_take (by kernel_rfl) (by intro c a d v w h; cases d <;> exact h) [(0, false), (1, false), (3, false), (4, false)] (fuel := 48) (by kernel_rfl) ?_
    apply Exists.intro; refine ⟨?_, trivial, ?_⟩
    · iterate 4 ((first | (apply yieldN; (· (simp only [List.getElem?_toArray, List.getElem?_cons_succ, List.getElem?_cons_zero]; try rfl)); (· rfl)) | ((first | apply yieldP | apply yieldL); (· (simp only [List.getElem?_toArray, List.getElem?_cons_succ, List.getElem?_cons_zero]; try rfl)); (· rfl); (· (intros; go_simp; try with_reducible rfl)))); (· (simp only [Act.put, List.setIfInBounds_toArray, List.set_cons_zero, List.set_cons_succ]; try rfl)))
      exact rfl
    refine wpAnyM_one (fuel := 47) (i := 2) (by kernel_rfl) (by rfl) (fun K hK => ?_)    -- CALL
    go_wp2_with fail
    have ho := of_any (tb_iff.1 (HT.out.pick 1 rfl rfl)) HD.out pp HPL.out HI.out.1.ok.1 HI.out.1.ok.2.1
    rw [HZ.out] at ho
    refine ho.mono ?_
    rintro e w7 ⟨rfl, h⟩
    have H7 := Lib.hid (show Sep w w7 [ThTb t S, ThTb r (sortT S), ThRf u (sortT S)] [(v, bytesT S)] from tb_iff.2 h)
    clear h ho HT
    go_wp2_with fail
    refine hK _ _ trivial ?_
    clear hK
    refine wpAnyM_one (fuel := 46) (i := 5) (by kernel_rfl) (by rfl) (fun K hK => ?_)    -- CALL
    go_wp2_with fail
    have ho := rf_of (rf_iff.1 (H7.out.pick 2 rfl rfl)) pp HPL.out HQ.out.2.2.ok.1 HQ.out.2.2.ok.2.1
    rw [← HQ.out.1, HZ.out] at ho
    refine ho.mono ?_
    rintro e w8 ⟨rfl, h⟩
    have H8 := Lib.hid (show Sep w w8 [ThRf u (sortT S), ThTb t S, ThTb r (sortT S)] [(v, bytesT S)] from rf_iff.2 h)
    clear h ho H7
    go_wp2_with fail
    refine hK _ _ trivial ?_
    clear hK
    refine wpAnyM_take (by kernel_rfl) (by intro c a d v w h; cases d <;> exact h) [(6, false), (7, false), (8, false), (9, false), (11, false), (12, false)] (fuel := 40) (by kernel_rfl) ?_
    apply Exists.intro; refine ⟨?_, trivial, ?_⟩
    · iterate 6 ((first | (apply yieldN; (· (simp only [List.getElem?_toArray, List.getElem?_cons_succ, List.getElem?_cons_zero]; try rfl)); (· rfl)) | ((first | apply yieldP | apply yieldL); (· (simp only [List.getElem?_toArray, List.getElem?_cons_succ, List.getElem?_cons_zero]; try rfl)); (· rfl); (· (intros; go_simp; try with_reducible rfl)))); (· (simp only [Act.put, List.setIfInBounds_toArray, List.set_cons_zero, List.set_cons_succ]; try rfl)))
      exact rfl
    refine wpAnyM_one (fuel := 39) (i := 10) (by kernel_rfl) (by rfl) (fun K hK => ?_)    -- CALL
    go_wp2_with fail
    have hs := split_walk (tb_iff.1 (H8.out.pick 1 rfl rfl)) HD.out HI.out.1.ok a2 len2 cap2 ops HO.out HOL.out
    refine hs.mono ?_
    rintro e w9 ⟨gv, rfl, h⟩
    obtain ⟨gs, hgs⟩ : ∃ gs, gridS S (ops.map fun o => o.path.data.toList) ops.length = gs := ⟨_, rfl⟩
    have HGS := Lib.hid hgs
    rw [hgs] at h
    have H9 := Lib.hid (show Sep w w9 [ThGr gv gs, ThTb t S, ThRf u (sortT S), ThTb r (sortT S)] [(v, bytesT S)] from gr_tb h)
    clear h hs H8 hgs
    go_wp2_with fail
    refine hK _ _ trivial ?_
    clear hK
    refine wpAnyM_one (fuel := 38) (i := 13) (by kernel_rfl) (by rfl) (fun K hK => ?_)    -- CALL
    go_wp2_with fail
    have hs := rf_split (rf_iff.1 (H9.out.pick 2 rfl rfl)) HQ.out.2.2.ok a2 len2 cap2 ops HO.out HOL.out
    rw [← grid_eq (S := S) (T := sortT S) rfl HQ.out.1, HGS.out] at hs
    refine hs.mono ?_
    rintro e w10 ⟨gv2, rfl, h⟩
    have H10 := Lib.hid (show Sep w w10 [ThGr gv2 gs, ThRf u (sortT S), ThGr gv gs, ThTb t S, ThTb r (sortT S)] [(v, bytesT S)] from gr_rf h)
    clear h hs H9
    go_wp2_with fail
    refine hK _ _ trivial ?_
    clear hK
    refine wpAnyM_one (fuel := 37) (i := 14) (by kernel_rfl) (by rfl) (fun K hK => ?_)    -- CALL
    go_wp2_with fail
    have hpc := places_any gv gv2 gs gs w10 (gr_read (H10.out.pick 2 rfl rfl)) (gr_read H10.out)
    rw [show decide (gs = gs) = true by simp] at hpc
    refine hpc.mono ?_
    rintro e w11 ⟨rfl, hu⟩
    have H11 := Lib.hid (H10.out.keep hu)
    clear hpc hu H10
    go_wp2_with fail
    refine hK _ _ trivial ?_
    clear hK
    refine wpAnyM_take (by kernel_rfl) (by intro c a d v w h; cases d <;> exact h) [(15, false), (16, false), (17, false), (20, false)] (fuel := 33) (by kernel_rfl) ?_
    apply Exists.intro; refine ⟨?_, trivial, ?_⟩
    · iterate 4 ((first | (apply yieldN; (· (simp only [List.getElem?_toArray, List.getElem?_cons_succ, List.getElem?_cons_zero]; try rfl)); (· rfl)) | ((first | apply yieldP | apply yieldL); (· (simp only [List.getElem?_toArray, List.getElem?_cons_succ, List.getElem?_cons_zero]; try rfl)); (· rfl); (· (intros; go_simp; try with_reducible rfl)))); (· (simp only [Act.put, List.setIfInBounds_toArray, List.set_cons_zero, List.set_cons_succ]; try rfl)))
      exact rfl
    refine wpAnyM_one (fuel := 32) (i := 18) (by kernel_rfl) (by rfl) (fun K hK => ?_)    -- CALL
    go_wp2_with fail
    have hput := tb_put (H11.out.pick 3 rfl rfl) (inv_short HI.out.1)
    obtain ⟨bs, hbs⟩ : ∃ bs, bytesT S = bs := ⟨_, rfl⟩
    rw [hbs] at hput H11
    have HBS := Lib.hid hbs
    clear hbs
    refine hput.mono ?_
    rintro e w12 ⟨v12, rfl, h⟩
    have H12 := Lib.hid (show Sep w w12 [ThTb t S, ThGr gv2 gs, ThRf u (sortT S), ThGr gv gs, ThTb r (sortT S)] ((v12, bs) :: [(v, bs)]) from h)
    have hp2 := rfs_put (H12.out.pick 2 rfl rfl) (inv_short HQ.out.2.2)
    rw [HQ.out.2.1, HBS.out] at hp2
    have HP2 := Lib.hid hp2
    obtain ⟨E12, hr12⟩ := H12.out.get (v := v12) (b := bs) (by simp)
    have hcv1 := conv_str (P := Tryd.prog) (src := 47) (dst := 9) Tryd.underlying47 Tryd.underlying5 Tryd.underlying9 hr12 w12 (fun _ _ => rfl)
    clear hput h hp2 hr12 H11
    go_wp2_with fail
    refine hK _ _ trivial ?_
    clear hK
    refine wpAnyM_each (fuel := 31) [19, 21] (by kernel_rfl) (by simp) (fun i hi => ?_)
    simp only [List.mem_cons, List.not_mem_nil, or_false] at hi
    rcases hi with rfl | rfl
    case' inl =>
      refine ⟨_, by rfl, fun K hK => ?_⟩
      go_wp2_with fail
      refine hK _ _ trivial ?_
      clear hK hcv1
      refine wpAnyM_one (fuel := 30) (i := 21) (by kernel_rfl) (by rfl) (fun K hK => ?_)
      go_wp2_with fail
      refine HP2.out.mono ?_
      rintro e w13 ⟨v13, rfl, h⟩
      obtain ⟨E13, hr13⟩ := h.get (v := v13) (b := bs) (by simp)
      have hcv2 := conv_str (P := Tryd.prog) (src := 47) (dst := 9) Tryd.underlying47 Tryd.underlying5 Tryd.underlying9 hr13 w13 (fun _ _ => rfl)
      have H13 := Lib.hid h
      clear h hr13 HP2
      go_wp2_with fail
      refine hK _ _ trivial ?_
      clear hK
      refine wpAnyM_one (fuel := 29) (i := 22) (by kernel_rfl) (by rfl) (fun K hK => ?_)
      go_wp2_with fail
      refine hK _ _ trivial ?_
      clear hK hcv2
    case' inr =>
      refine ⟨_, by rfl, fun K hK => ?_⟩
      clear hcv1
      go_wp2_with fail
      refine HP2.out.mono ?_
      rintro e w13 ⟨v13, rfl, h⟩
      obtain ⟨E13, hr13⟩ := h.get (v := v13) (b := bs) (by simp)
      obtain ⟨E14, hr14⟩ := h.get (v := v12) (b := bs) (by simp)
      have hcv2 := conv_str (P := Tryd.prog) (src := 47) (dst := 9) Tryd.underlying47 Tryd.underlying5 Tryd.underlying9 hr13 w13 (fun _ _ => rfl)
      have hcv1 := conv_str (P := Tryd.prog) (src := 47) (dst := 9) Tryd.underlying47 Tryd.underlying5 Tryd.underlying9 hr14 w13 (fun _ _ => rfl)
      have H13 := Lib.hid h
      clear h hr13 hr14 HP2
      go_wp2_with fail
      refine hK _ _ trivial ?_
      clear hK
      refine wpAnyM_each (fuel := 30) [19, 22] (by kernel_rfl) (by simp) (fun i hi => ?_)
      simp only [List.mem_cons, List.not_mem_nil, or_false] at hi
      rcases hi with rfl | rfl
      case' inl =>
        refine ⟨_, by rfl, fun K hK => ?_⟩
        go_wp2_with fail
        refine hK _ _ trivial ?_
        clear hK
        refine wpAnyM_one (fuel := 29) (i := 22) (by kernel_rfl) (by rfl) (fun K hK => ?_)
      case' inr =>
        refine ⟨_, by rfl, fun K hK => ?_⟩
        go_wp2_with fail
        refine hK _ _ trivial ?_
        clear hK
        refine wpAnyM_one (fuel := 29) (i := 19) (by kernel_rfl) (by rfl) (fun K hK => ?_)
      all_goals
        go_wp2_with fail
        refine hK _ _ trivial ?_
        clear hK hcv1 hcv2
    all_goals
      refine wpAnyM_take (by kernel_rfl) (by intro c a d v w h; cases d <;> exact h) [(23, false), (24, false), (25, false), (26, false), (27, false), (28, false), (29, false), (30, false), (31, false), (33, false), (34, false)] (fuel := 18) (by kernel_rfl) ?_
      apply Exists.intro; refine ⟨?_, trivial, ?_⟩
      · iterate 11 ((first | (apply yieldN; (· (simp only [List.getElem?_toArray, List.getElem?_cons_succ, List.getElem?_cons_zero]; try rfl)); (· rfl)) | ((first | apply yieldP | apply yieldL); (· (simp only [List.getElem?_toArray, List.getElem?_cons_succ, List.getElem?_cons_zero]; try rfl)); (· rfl); (· (intros; go_simp; try with_reducible rfl)))); (· (simp only [Act.put, List.setIfInBounds_toArray, List.set_cons_zero, List.set_cons_succ]; try rfl)))
        exact rfl
      refine wpAnyM_one (fuel := 17) (i := 32) (by kernel_rfl) (by rfl) (fun K hK => ?_)    -- CALL
      go_wp2_with fail
      have H13 := Lib.hid (show Sep w w13 [ThRf u (sortT S), ThTb t S, ThGr gv2 gs, ThGr gv gs, ThTb r (sortT S)] [(v13, bs), (v12, bs), (v, bs)] from H13.out)
      have ho := of_any (tb_iff.1 (H13.out.pick 4 rfl rfl)) HD.out pp HPL.out HQ.out.2.2.ok.1 HQ.out.2.2.ok.2.1
      rw [← HQ.out.1, HZ.out] at ho
      refine ho.mono ?_
      rintro e w14 ⟨rfl, h⟩
      have H14 := Lib.hid (show Sep w w14 [ThTb r (sortT S), ThRf u (sortT S), ThTb t S, ThGr gv2 gs, ThGr gv gs] _ from tb_iff.2 h)
      clear h ho H13
      go_wp2_with fail
      refine hK _ _ trivial ?_
      clear hK
      refine wpAnyM_one (fuel := 16) (i := 35) (by kernel_rfl) (by rfl) (fun K hK => ?_)    -- CALL
      go_wp2_with fail
      have ho := of_any (tb_iff.1 (H14.out.pick 2 rfl rfl)) HD.out pp HPL.out HI.out.1.ok.1 HI.out.1.ok.2.1
      rw [HZ.out] at ho
      refine ho.mono ?_
      rintro e w15 ⟨rfl, h⟩
      have H15 := Lib.hid (show Sep w w15 [ThTb t S, ThTb r (sortT S), ThRf u (sortT S), ThGr gv2 gs, ThGr gv gs] _ from tb_iff.2 h)
      clear h ho H14
      go_wp2_with fail
      refine hK _ _ trivial ?_
      clear hK
      refine wpAnyM_take (by kernel_rfl) (by intro c a d v w h; cases d <;> exact h) [(36, false), (37, false), (38, false), (39, false), (41, false)] (fuel := 11) (by kernel_rfl) ?_
      apply Exists.intro; refine ⟨?_, trivial, ?_⟩
      · iterate 5 ((first | (apply yieldN; (· (simp only [List.getElem?_toArray, List.getElem?_cons_succ, List.getElem?_cons_zero]; try rfl)); (· rfl)) | ((first | apply yieldP | apply yieldL); (· (simp only [List.getElem?_toArray, List.getElem?_cons_succ, List.getElem?_cons_zero]; try rfl)); (· rfl); (· (intros; go_simp; try with_reducible rfl)))); (· (simp only [Act.put, List.setIfInBounds_toArray, List.set_cons_zero, List.set_cons_succ]; try rfl)))
        exact rfl
      refine wpAnyM_one (fuel := 10) (i := 40) (by kernel_rfl) (by rfl) (fun K hK => ?_)    -- CALL
      obtain ⟨vr, hvr⟩ : ∃ vr, S.ver = vr := ⟨_, rfl⟩
      have hvv : (vr == vr) = true := by simp
      have h1 := rt_version (tb_iff.1 (H15.out.pick 1 rfl rfl))
      have h2 := rt_version (tb_iff.1 H15.out)
      have h3 := rt_shards (tb_iff.1 (H15.out.pick 1 rfl rfl))
      rw [sort_ver, hvr] at h1
      rw [hvr] at h2
      rw [show (sortT S).n = n from HI.out.2] at h3
      have H1 := Lib.hid h1
      have H2 := Lib.hid h2
      have H3 := Lib.hid h3
      clear h1 h2 h3 hvr
      go_wp2_with fail
      refine H1.out.mono ?_
      rintro e w16 ⟨rfl, hW⟩
      subst w16
      go_wp2_with fail
      refine hK _ _ trivial ?_
      clear hK H1
      refine wpAnyM_one (fuel := 9) (i := 42) (by kernel_rfl) (by rfl) (fun K hK => ?_)    -- CALL
      go_wp2_with fail
      refine H2.out.mono ?_
      rintro e w16 ⟨rfl, hW⟩
      subst w16
      go_wp2_with fail
      refine hK _ _ trivial ?_
      clear hK H2
      refine wpAnyM_take (by kernel_rfl) (by intro c a d v w h; cases d <;> exact h) [(43, false), (44, false), (45, false), (46, false), (48, false)] (fuel := 4) (by kernel_rfl) ?_
      apply Exists.intro; refine ⟨?_, trivial, ?_⟩
      · iterate 5 ((first | (apply yieldN; (· (simp only [List.getElem?_toArray, List.getElem?_cons_succ, List.getElem?_cons_zero]; try rfl)); (· rfl)) | ((first | apply yieldP | apply yieldL); (· (simp only [List.getElem?_toArray, List.getElem?_cons_succ, List.getElem?_cons_zero]; try rfl)); (· rfl); (· (intros; go_simp; try with_reducible rfl)))); (· (simp only [Act.put, List.setIfInBounds_toArray, List.set_cons_zero, List.set_cons_succ]; try rfl)))
        exact rfl
      refine wpAnyM_one (fuel := 3) (i := 47) (by kernel_rfl) (by rfl) (fun K hK => ?_)    -- CALL
      go_wp2_with fail
      refine H3.out.mono ?_
      rintro e w16 ⟨rfl, hW⟩
      subst w16
      go_wp2_with fail
      refine hK _ _ trivial ?_
      clear hK H3
      refine wpAnyM_take (by kernel_rfl) (by intro c a d v w h; cases d <;> exact h) [(49, false), (50, false)] (fuel := 1) (by kernel_rfl) ?_
      apply Exists.intro; refine ⟨?_, trivial, ?_⟩
      · iterate 2 ((first | (apply yieldN; (· (simp only [List.getElem?_toArray, List.getElem?_cons_succ, List.getElem?_cons_zero]; try rfl)); (· rfl)) | ((first | apply yieldP | apply yieldL); (· (simp only [List.getElem?_toArray, List.getElem?_cons_succ, List.getElem?_cons_zero]; try rfl)); (· rfl); (· (intros; go_simp; try with_reducible rfl)))); (· (simp only [Act.put, List.setIfInBounds_toArray, List.set_cons_zero, List.set_cons_succ]; try rfl)))
        exact rfl
      refine wpAnyM_of_any _ _ _ _ (by decide) ?_
      refine wpAny_list [51] (fuel := 0) (by kernel_rfl) ?_
      simp only [List.filterMap_cons, List.filterMap_nil, List.getElem?_toArray, List.getElem?_cons_succ, List.getElem?_cons_zero]
      go_wp2_with fail
      go_ret
      exact ⟨rfl, H15.out.below⟩
end Go.Proofs.YtfncdgnhiinmjaaDoor

/-
  A row whose world bears variables that are laid, and has its shape: both are kept for the walk.
-/
namespace Go.Av
variable {H : Type} {enc : TypeId × Value → H}
theorem handed_both {a : Assume} {C : Checked} {os : Os} {f : FuncId} {fn : Func} {s : ChangeSpec} {conds : List PathCond} {apart fresh handsOn again : Bool} {X : World → Array Value → Prop}
    (hX : ∀ (w w' : World) (args : Array Value), w.heap = w'.heap → X w args → X w' args)
    (own : ownKnob C.prog.godebug = none) (started : os.Started) (noInit : C.prog.inits.idxOf? f = none) (hfn : C.prog.funcs[f]? = some fn)
    (witness : ∃ (w : World) (tape : Tape) (i : Input), w.os = os ∧ (w.forCall tape i).Shaped C.prog ∧ i.vars = [] ∧ Input.okWide C.prog (w.forCall tape i) .any w.heap.size f i ∧
      ((s.pre enc C.prog fn conds apart (w.forCall tape i).memory i.args ∧ X (w.forCall tape i).memory i.args) ∧ sizedMet enc C.prog fn (OpenSpec.ofChange s) apart (w.forCall tape i).memory i.args) ∧ a.holds C.prog (lone (Frame.enter C.prog f i.args .normal) [] (w.forCall tape i)))
    (contract : ∀ (W : World) (base : Nat) (args : Array Value) (ds gs : List (DataW H)) (before : List MemPlace),
      (∀ (j : Nat) t v, fn.params[j]? = some t → args[j]? = some v → Value.okWide C.prog W .any base t v) →
      DataW.Whole enc C.prog fn.params.toList s.vars apart W args.toList ds gs before →
      W.ShapedOpen C.prog → X W args →
      Calls C.prog f args W fun e W' => ∃ v, e = .returned v ∧ s.post enc C.prog fn apart fresh handsOn again W args v W') :
    ReturnsInHanded a C os f .any (fun w args => (s.pre enc C.prog fn conds apart w args ∧ X w args) ∧ sizedMet enc C.prog fn (OpenSpec.ofChange s) apart w args) (s.post enc C.prog fn apart fresh handsOn again) := by
  refine returnsInHanded_of_calls own started noInit witness ?_
  intro w tape i _ hsh _ hok hpre hholds
  obtain ⟨_, _, _, fn', hfn', _, _, _, _, hval⟩ := hok
  have e : fn' = fn := Option.some.inj (hfn'.symm.trans hfn)
  subst e
  obtain ⟨⟨⟨ds, gs, before, hw, hc⟩, hx⟩, hz⟩ := hpre
  have hw' := DataW.Whole.of_heap (w' := w.forCall tape i) (by rfl) hw
  refine (contract (w.forCall tape i) w.heap.size i.args ds gs before hval hw' hsh (hX _ _ _ (by rfl) hx)).mono fun e W' ⟨v, he, hp⟩ => ?_
  subst he
  exact ChangeSpec.post_blind hp
end Go.Av
namespace Go.Proofs.YtfncdgnhiinmjaaDoor
open Go.Av
theorem door_of {W : World} (h : W.ShapedOpen Tryd.prog) : Door W := Tryd.laysM146.s1_3 W h
end Go.Proofs.YtfncdgnhiinmjaaDoor
