/-
  RouteMoves: a first name that is moved is moved, whole; all others stay whose they were.
-/
import Derived.Test.YtfncdgnhiinmjaaDoorRouteP
namespace Go.Proofs.YtfncdgnhiinmjaaDoor
open Go.RowKit Go.Av

theorem cat_size (a b : ByteArray) : (a ++ b).size = a.size + b.size := by simp [ByteArray.size_append]
theorem cat_data (a b : ByteArray) : (a ++ b).data.toList = a.data.toList ++ b.data.toList := by simp [ByteArray.data_append]


set_option maxRecDepth 100000 in
set_option maxHeartbeats 8000000 in
theorem routeMoves_walk (n : Int) (a1 : Option Addr) (len1 cap1 : Nat) (l : List (ByteArray × Int)) (top : ByteArray) (dst : Int) (pp : ByteArray) (w : World) (hd : Door w) (h1 : IsMvs w a1 len1 cap1 l) (ht : top.size ≤ maxLen) (hp : pp.size ≤ maxLen) :
    Calls Tryd.prog 3 #[.int .i64 n, .slice a1 len1 cap1, .string top, .int .i64 dst, .string pp] w fun e w' => e = .returned (.bool true) ∧ Below w.heap.size w w' := by
  obtain ⟨hla, hlca, hca, haa, hac, hax⟩ := h1
  subst hla
  unfold maxLen at hca ht hp
  have HAC := Lib.hid (show _ ∧ _ ∧ _ from ⟨haa, hac, hax⟩)
  have HD := Lib.hid hd
  clear haa hac hax hd
  by_cases hn1 : n < 1
  · go_enter Tryd.func3, Tryd.ntmps3
    go_wp2_with fail
    refine (awake16_any _ HD.out).mono ?_
    rintro e w1 ⟨rfl, hu1⟩
    go_wp2_with fail
    go_ret
    exact ⟨rfl, hu1.below⟩
  by_cases hn4 : 4 < n
  · go_enter Tryd.func3, Tryd.ntmps3
    go_wp2_with fail
    refine (awake16_any _ HD.out).mono ?_
    rintro e w1 ⟨rfl, hu1⟩
    go_wp2_with fail
    go_ret
    exact ⟨rfl, hu1.below⟩
  by_cases hl20 : 20 < l.length
  · go_enter Tryd.func3, Tryd.ntmps3
    go_wp2_with fail
    refine (awake16_any _ HD.out).mono ?_
    rintro e w1 ⟨rfl, hu1⟩
    go_wp2_with fail
    go_ret
    exact ⟨rfl, hu1.below⟩
  by_cases ht100 : 100 < top.size
  · go_enter Tryd.func3, Tryd.ntmps3
    go_wp2_with fail
    refine (awake16_any _ HD.out).mono ?_
    rintro e w1 ⟨rfl, hu1⟩
    go_wp2_with fail
    go_ret
    exact ⟨rfl, hu1.below⟩
  by_cases hp300 : 300 < pp.size
  · go_enter Tryd.func3, Tryd.ntmps3
    go_wp2_with fail
    refine (awake16_any _ HD.out).mono ?_
    rintro e w1 ⟨rfl, hu1⟩
    go_wp2_with fail
    go_ret
    exact ⟨rfl, hu1.below⟩
  go_enter Tryd.func3, Tryd.ntmps3
  go_wp2_with fail
  refine (awake16_any _ HD.out).mono ?_
  rintro e w1 ⟨rfl, hu1⟩
  go_wp2_with fail
  refine (rt_new ((Sep.start w).keep hu1) n (by omega) (by omega)).mono ?_
  rintro e w2 ⟨t, rfl, H⟩
  have HT := Lib.hid H
  clear H hu1
  go_wp2_with fail
  go_loopg [13] l.length (fun k v wr => ∃ (p : Nat) (S : RtS), p ≤ l.length ∧ k = l.length - p ∧ v = .int .i64 (p : Int) ∧ Rt w wr t S [] [] ∧ S.n = n ∧ 1 ≤ S.ver ∧ S.ver ≤ 1 + p)
  case atStart => exact ⟨0, _, Nat.zero_le _, rfl, rfl, HT.out, rfl, by simp, by simp⟩
  case round =>
    obtain ⟨p, S, hpl, hk, hv3, H, hSn, hv1, hv2⟩ := hrel
    subst hv3
    have HSN := Lib.hid hSn
    clear HT hSn
    by_cases hlt : p < l.length
    case pos =>
      obtain ⟨x, hxa⟩ : ∃ x, a1 = some x := by
        cases a1 with
        | none => exact absurd (HAC.out.1 rfl) (by omega)
        | some x => exact ⟨x, rfl⟩
      subst hxa
      obtain ⟨g0, g1⟩ := HAC.out.2.1 x rfl p hlt
      have hsz := HAC.out.2.2 _ (List.getElem_mem hlt)
      obtain ⟨q0, hq0⟩ : ∃ q, l[p] = q := ⟨_, rfl⟩
      rw [hq0] at g0 g1 hsz
      obtain ⟨ts, sh⟩ := q0
      dsimp only at g0 g1 hsz
      have G := Lib.hid (show _ ∧ _ from ⟨g0, g1⟩)
      have hbl := H.below
      have up : ∀ {j : Nat} {v : Value}, w.cell? (x.add j) = some v → wr.cell? (x.add j) = some v := fun hv => (hbl.cell (World.block_lt_of_cell? w _ hv)).trans hv
      have g0 := up g0
      have g1 := up g1
      rw [add_field g0 1] at g1
      unfold maxLen at hsz
      clear up hq0
      by_cases hs100 : 100 < ts.size
      · have HBB := Lib.hid H.below
        clear H hbl
        go_wp2_with fail
        go_ret
        exact ⟨rfl, HBB.out⟩
      obtain ⟨m1, m2, m3⟩ := move_n S ts.data.toList sh
      have HM := Lib.hid (move_any H.drew HD.out ts sh (by omega) (by omega) (by omega))
      have HN := Lib.hid m1
      clear H hbl m1
      go_wp2_with fail
      refine wp_region_M (fun W => W.cell? (x.add (p * 2)) = some (.string ts) ∧ W.cell? ⟨(x.add (p * 2)).block, (x.add (p * 2)).off + 1, none⟩ = some (.int .i64 sh)) 12 (by kernel_rfl) ?_
      refine wpAnyM_take (by kernel_rfl) (by intro c a d v w h; cases d <;> exact h) [(0, false), (1, false), (2, false), (3, false), (4, false), (5, true), (6, false), (7, false), (8, false), (9, false), (10, true)] (fuel := 1) (by kernel_rfl) ?_
      apply Exists.intro; refine ⟨?_, ⟨g0, g1⟩, ?_⟩
      · iterate 11 ((first | (apply yieldN; (· (simp only [List.getElem?_toArray, List.getElem?_cons_succ, List.getElem?_cons_zero]; try rfl)); (· rfl)) | ((first | apply yieldP | apply yieldL); (· (simp only [List.getElem?_toArray, List.getElem?_cons_succ, List.getElem?_cons_zero]; try rfl)); (· rfl); (· (intros; go_simp; try with_reducible rfl)))); (· (simp only [Act.put, List.setIfInBounds_toArray, List.set_cons_zero, List.set_cons_succ]; try rfl)))
        exact rfl
      refine wpAnyM_one (fuel := 0) (i := 11) (by kernel_rfl) (by rfl) (fun K hK => ?_)    -- CALL
      go_wp2_with fail
      refine HM.out.mono ?_
      rintro e w3 ⟨rfl, h⟩
      have HX := Lib.hid h
      have hbl := h.below
      have k0 : w3.cell? (x.add (p * 2)) = some (.string ts) := (hbl.cell (World.block_lt_of_cell? w _ G.out.1)).trans G.out.1
      have k1 := (hbl.cell (World.block_lt_of_cell? w _ G.out.2)).trans G.out.2
      rw [add_field k0 1] at k1
      clear h HM hbl g0 g1
      go_wp2_with fail
      refine hK _ _ ⟨k0, k1⟩ ?_
      clear hK
      refine wpAnyM_done (by kernel_rfl) ?_ _
      go_wp2_with fail
      go_roundg (l.length - (p + 1))
      case rel => exact ⟨p + 1, _, by omega, rfl, by go_num, HX.out, HN.out.trans HSN.out, by omega, by omega⟩
      case measure => omega
    have h1n : 1 ≤ S.n := by rw [HSN.out]; omega
    have h4n : S.n ≤ 4 := by rw [HSN.out]; omega
    have HN := Lib.hid (show _ ∧ _ from ⟨h1n, h4n⟩)
    have hv1' : 0 ≤ S.ver := by omega
    have hv2' : S.ver ≤ 1000 := by omega
    have HOf := Lib.hid (of_any H HD.out pp (by unfold maxLen; omega) h1n h4n)
    have HMv := Lib.hid (move_any H HD.out top dst (by omega) (by omega) (by omega))
    have HVr := Lib.hid (rt_version H)
    have H0 := Lib.hid H
    clear h1n h4n H hv1 hv2
    obtain ⟨was, hwas⟩ : ∃ was, ofS S pp.data.toList = was := ⟨_, rfl⟩
    obtain ⟨vr, hvr⟩ : ∃ vr, S.ver = vr := ⟨_, rfl⟩
    rw [hvr] at hv1' hv2' HVr
    have HW := Lib.hid (show _ ∧ _ from ⟨hwas, hvr⟩)
    clear hvr
    go_wp2_with fail
    refine HOf.out.mono ?_
    rintro e w3 ⟨rfl, h⟩
    rw [hwas]
    have H3 := Lib.hid h
    have HVr := Lib.hid (rt_version h)
    have HMv := Lib.hid (move_any h HD.out top dst (by omega) (by have := HW.out.2; omega) (by have := HW.out.2; omega))
    rw [HW.out.2] at HVr
    clear h HOf hwas
    go_wp2_with fail
    refine HVr.out.mono ?_
    rintro e w4 ⟨rfl, hW⟩
    subst w4
    go_wp2_with fail
    refine HMv.out.mono ?_
    rintro e w5 ⟨rfl, h⟩
    by_cases hz : (moveS S top.data.toList dst).1 = 0
    case neg =>
      have hbz : ((moveS S top.data.toList dst).1 != 0) = true := by simp [hz]
      have hS := move_no hz
      obtain ⟨er, her⟩ : ∃ er, (moveS S top.data.toList dst).1 = er := ⟨_, rfl⟩
      rw [her] at hbz ⊢
      rw [hS] at h
      have HOf := of_any h HD.out pp (by unfold maxLen; omega) HN.out.1 HN.out.2
      rw [HW.out.1] at HOf
      have HOf := Lib.hid HOf
      clear h hz hS her HMv HVr
      go_wp2_with fail
      refine HOf.out.mono ?_
      rintro e w6 ⟨rfl, h⟩
      have HVr := rt_version h
      rw [HW.out.2] at HVr
      have HVr := Lib.hid HVr
      have HBB := Lib.hid h.below
      clear h
      go_wp2_with fail
      refine HVr.out.mono ?_
      rintro e w4 ⟨rfl, hW⟩
      subst w4
      go_wp2_with fail
      go_ret
      exact ⟨by simp, HBB.out⟩
    obtain ⟨hbd, hS⟩ := move_ok hz
    rw [hz]
    rw [hS] at h
    obtain ⟨o1, o2⟩ := moved_one hbd (S.ver + 1)
    have o3 := of_move hbd (S.ver + 1) pp.data.toList
    have o4 : topP pp.data.toList = top.data.toList → top.data.toList.length < pp.data.toList.length ∧ (pp.data.toList.drop 1).take top.data.toList.length = top.data.toList := moved_part (badM_false hbd).2.1
    obtain ⟨S2, hS2⟩ : ∃ S2 : RtS, S2 = { S with ver := S.ver + 1, mv := setM top.data.toList dst S.mv } := ⟨_, rfl⟩
    have hn2 : S2.n = S.n := by rw [hS2]
    have hv2 : S2.ver = vr + 1 := by rw [hS2, ← HW.out.2]
    rw [← hS2] at h o1 o2 o3
    rw [HW.out.1] at o3
    have HVr := rt_version h
    rw [hv2] at HVr
    have HVr := Lib.hid HVr
    have hs1 : (⟨#[47]⟩ ++ top : ByteArray).size ≤ 1000 := by rw [cat_size]; show 1 + _ ≤ _; omega
    have hs2 : (⟨#[47]⟩ ++ top ++ ⟨#[47, 120]⟩ : ByteArray).size ≤ 1000 := by rw [cat_size, cat_size]; show 1 + _ + 2 ≤ _; omega
    have h1n : 1 ≤ S2.n := by rw [hn2]; exact HN.out.1
    have h4n : S2.n ≤ 4 := by rw [hn2]; exact HN.out.2
    have hOA := of_any h HD.out (⟨#[47]⟩ ++ top) (by unfold maxLen; omega) h1n h4n
    rw [cat_data, show (⟨#[47]⟩ : ByteArray).data.toList ++ top.data.toList = 47 :: top.data.toList from rfl, o1] at hOA
    have HOA := Lib.hid hOA
    have HK := Lib.hid (show _ ∧ _ ∧ _ ∧ _ from ⟨h1n, h4n, o2, o3⟩)
    have HK4 := Lib.hid o4
    have HS2 := Lib.hid hs2
    clear h hOA h1n h4n o1 o2 o3 o4 hs1 hs2 hn2 hv2 hS hbd hz hS2
    go_wp2_with fail
    refine HVr.out.mono ?_
    rintro e w4 ⟨rfl, hW⟩
    subst w4
    go_wp2_with fail
    refine HOA.out.mono ?_
    rintro e w6 ⟨rfl, h⟩
    have hOB := of_any h HD.out (⟨#[47]⟩ ++ top ++ ⟨#[47, 120]⟩) (by have := HS2.out; unfold maxLen; omega) HK.out.1 HK.out.2.1
    rw [cat_data, cat_data, show (⟨#[47]⟩ : ByteArray).data.toList ++ top.data.toList ++ (⟨#[47, 120]⟩ : ByteArray).data.toList = 47 :: (top.data.toList ++ [47, 120]) from rfl, HK.out.2.2.1] at hOB
    have HOB := Lib.hid hOB
    clear h hOB HOA HVr
    go_wp2_with fail
    refine HOB.out.mono ?_
    rintro e w7 ⟨rfl, h⟩
    have hOC := of_any h HD.out pp (by unfold maxLen; omega) HK.out.1 HK.out.2.1
    rw [HK.out.2.2.2] at hOC
    have HH := Lib.hid h
    clear h HOB
    by_cases htp : topP pp.data.toList = top.data.toList
    · rw [if_pos htp] at hOC
      have HOC := Lib.hid hOC
      obtain ⟨q1, q2⟩ := HK4.out htp
      have z1 : top.size < pp.size := by simpa using q1
      have z2 : (pp.extract 1 (1 + top.size)) = top := by
        apply WideShapes.bytes_inj
        rw [Lib.extract_data]
        have : top.size = top.data.toList.length := by simp
        rw [this, ← q2]
        simp [q2]
      have HTP := Lib.hid htp
      clear hOC htp HK4 q1 q2
      by_cases hw : dst = was
      · subst hw
        go_wp2_with fail
        refine HOC.out.mono ?_
        rintro e w8 ⟨rfl, h⟩
        have HBB := Lib.hid h.below
        clear h
        go_wp2_with fail
        go_ret
        exact ⟨by simp, HBB.out⟩
      · have hb : (dst == was) = false := by simp [hw]
        have hb2 : (dst == dst) = true := by simp
        clear hw
        go_wp2_with fail
        refine HOC.out.mono ?_
        rintro e w8 ⟨rfl, h⟩
        have hOC := of_any h HD.out pp (by unfold maxLen; omega) HK.out.1 HK.out.2.1
        rw [HK.out.2.2.2, if_pos HTP.out] at hOC
        have HOD := Lib.hid hOC
        have z1' : (top.size : Int) < pp.size := by omega
        have z3 : (((top.size + 1 : Nat) : Int)) = 1 + (top.size : Int) := by omega
        clear h hOC HOC
        go_wp2_with fail
        refine HOD.out.mono ?_
        rintro e w9 ⟨rfl, h⟩
        have HBB := Lib.hid h.below
        clear h HOD
        go_wp2_with fail
        go_ret
        exact ⟨by simp, HBB.out⟩
    · rw [if_neg htp] at hOC
      have HOC := Lib.hid hOC
      clear hOC htp HK4
      have hbb : (was == was) = true := by simp
      go_wp2_with fail
      refine HOC.out.mono ?_
      rintro e w8 ⟨rfl, h⟩
      have HBB := Lib.hid h.below
      clear h
      go_wp2_with fail
      go_ret
      exact ⟨by simp, HBB.out⟩
end Go.Proofs.YtfncdgnhiinmjaaDoor
