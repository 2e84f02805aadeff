/-
  The document's own disk: Cut, Drop, Rename.
-/
import Derived.Test.YthphinlibhafcaaFdE
namespace Go.Proofs.Ythphinlibhafcaa
open Go.RowKit Go.Av
section
variable {w0 w : World} {t : Nat} {T : DiskS} {R : List Thing} {rows : List (Value × Bs)} {v : Value} {gs : List (Value × FileS)}

set_option maxRecDepth 100000 in
set_option maxHeartbeats 4000000 in
theorem fd_cut (h : Fd w0 w t T R rows) (hN : Named T.fs) (hfit : (total T.fs : Int) ≤ 1048576) (s : ByteArray) (hs : s.size ≤ maxLen) (n : Int) :
    Calls Try.prog 24 #[.pointer (some ⟨t, 0, none⟩), .string s, .int .i64 n] w fun e w' => e = .returned (.int .i64 (T.cut s n).1) ∧ Fd w0 w' t (T.cut s n).2 R rows := by
  have HK := Lib.hid (fd_ask h s hs)
  by_cases h0 : T.ask s = 0
  case neg =>
    obtain ⟨k, hk⟩ : ∃ k, T.ask s = k := ⟨_, rfl⟩
    have HX := Lib.hid (show T.cut s n = (k, T) by unfold DiskS.cut; rw [if_pos h0, hk])
    rw [ask_no h0, hk] at HK
    rw [hk] at h0
    have q0 : (k != 0) = true := by simpa using h0
    have H := Lib.hid h
    clear hk h
    go_enter Try.func24, Try.ntmps24
    go_wp2_with fail
    refine HK.out.mono ?_
    rintro e w1 ⟨rfl, hW⟩
    subst w1
    go_wp2_with fail
    go_ret
    rw [HX.out]
    exact ⟨rfl, H.out⟩
  case pos =>
  have H := Lib.hid h
  obtain ⟨p, hp, hnm, hpos, -⟩ := pos_at (ask_has h0)
  rw [show askP T s = p by unfold askP; rw [if_pos h0, hpos], h0] at HK
  obtain ⟨v, gs, rows', h1, hX⟩ := h
  obtain ⟨a, cp, rfl, hbk, hcp, hcm, hrow⟩ := hX.facts
  have c1 := cell_of hbk 1 rfl
  rw [show (#[Value.int .i64 T.room, .slice a gs.length cp, .bool T.off, .int .i64 T.lives] : Array Value)[1] = .slice a gs.length cp from rfl] at c1
  have hpg : p < gs.length := by
    have := hp
    rw [← hX.fs, List.length_map] at this
    exact this
  have hb2 : T.fs[p] = gs[p].2 := by simp only [← hX.fs, List.getElem_map]
  obtain ⟨y, rfl, hys, e0, e1, e2, E0, hE0⟩ := hrow p hpg
  obtain ⟨av, nv, cv, hv, hlv, hnv, hcv, -⟩ := id hE0
  rw [List.length_map, Nat.mul_one] at hlv
  rw [hv] at e1
  unfold maxLen at hcm hcv
  have h1000 := hX.few
  have hgl : getN s T.fs = gs[p].2.b := by rw [get_idx hN hp hnm, hb2]
  have HB := Lib.hid (show _ ∧ _ ∧ _ ∧ _ from ⟨h0, hgl, hv, hlv⟩)
  by_cases hn0 : n < 0
  · have HX2 := Lib.hid (show T.cut s n = (1, T) by unfold DiskS.cut; rw [if_neg (by rw [h0]; simp), if_pos (.inl hn0)])
    clear hX h1 hbk hrow hnm hpos hb2 h0 hgl hE0 hv hlv
    go_enter Try.func24, Try.ntmps24
    go_wp2_with fail
    refine HK.out.mono ?_
    rintro e w1 ⟨rfl, hW⟩
    subst w1
    go_wp2_with fail
    go_ret
    rw [HX2.out]
    exact ⟨rfl, H.out⟩
  by_cases hn1 : (nv : Int) < n
  · have HX2 := Lib.hid (show T.cut s n = (1, T) by unfold DiskS.cut; rw [if_neg (by rw [h0]; simp), if_pos (.inr (by rw [hgl, hlv]; exact hn1))])
    clear hX h1 hbk hrow hnm hpos hb2 h0 hgl hE0 hv hlv
    go_enter Try.func24, Try.ntmps24
    go_wp2_with fail
    refine HK.out.mono ?_
    rintro e w1 ⟨rfl, hW⟩
    subst w1
    go_wp2_with fail
    go_ret
    rw [HX2.out]
    exact ⟨rfl, H.out⟩
  obtain ⟨k, rfl⟩ : ∃ k : Nat, n = k := ⟨n.toNat, by omega⟩
  have hk : k ≤ nv := by omega
  have hcut : T.cut s k = (0, { T with fs := T.fs.set p (FileS.cut k gs[p].2) }) := by
    unfold DiskS.cut
    rw [if_neg (by rw [h0]; simp), if_neg (by rw [hgl, hlv]; omega), upd_idx hN hp hnm, hb2]
    rfl
  have HC := Lib.hid hcut
  obtain ⟨i0, hi0, hz0, hz1, hz2⟩ := info_parts info5
  have hsl : ∀ W : World, (Instr.slice 28 (.slice av nv cv) none (some (.int .i64 (k : Int))) none).run Try.prog W = .ok (.slice av k cv) W := fun W => run_slice_hi (P := Try.prog) Try.underlying28 hi0 av nv cv k (by omega) W
  have hmem : gs[p].2.b.length ≤ total T.fs := by
    have := total_mem (List.getElem_mem hp)
    rw [hb2] at this
    exact this
  have hnvb : nv ≤ 1048576 := by omega
  have HXQ := Lib.hid (show _ ∧ _ ∧ _ from ⟨hX, e0, h1⟩)
  obtain ⟨sf, hsf⟩ : ∃ sf, gs[p].2.safe = sf := ⟨_, rfl⟩
  rw [hsf] at e2
  have HS := Lib.hid hsf
  clear hX h1 hbk hrow hnm hpos hb2 h0 hgl hE0 hv hlv hcut hmem e0 hsf hfit
  go_enter Try.func24, Try.ntmps24
  go_wp2_with fail
  refine HK.out.mono ?_
  rintro e w1 ⟨rfl, hW⟩
  subst w1
  go_wp2_with fail
  refine wp_region_M (fun W => W.cell? ⟨t, 1, none⟩ = some (.slice (some y) gs.length cp) ∧ W.cell? ⟨(y.add (p * 3)).block, (y.add (p * 3)).off + 1, none⟩ = some (.slice av nv cv)) 17 (by kernel_rfl) ?_
  refine wpAnyM_take (by kernel_rfl) (by intro c a d v w h; cases d <;> exact h) [(0, false), (1, false), (2, false), (3, true), (4, false), (6, false), (7, false), (8, false), (9, true), (10, false), (11, false), (12, false), (13, true), (14, false), (15, false)] (fuel := 5) (by kernel_rfl) ?_
  apply Exists.intro; refine ⟨?_, ⟨c1, e1⟩, ?_⟩
  · iterate 15 ((first | (apply yieldN; (· (simp only [List.getElem?_toArray, List.getElem?_cons_succ, List.getElem?_cons_zero]; try rfl)); (· rfl)) | ((first | apply yieldP | apply yieldL); (· (simp only [List.getElem?_toArray, List.getElem?_cons_succ, List.getElem?_cons_zero]; try rfl)); (· rfl); (· (intros; go_simp; try with_reducible rfl)))); (· (simp only [Act.put, List.setIfInBounds_toArray, List.set_cons_zero, List.set_cons_succ]; try rfl)))
    exact rfl
  refine wpAnyM_one (fuel := 4) (i := 5) (by kernel_rfl) (by rfl) (fun K hK => ?_)    -- buildSlice
  go_wp2_with fail
  have ua := Upd.alloc0 w (.cells #[] 5) []
  have k2 : _ ∧ _ := ⟨upd_cell ua c1, upd_cell ua e1⟩
  refine hK _ _ k2 ?_
  clear hK
  obtain ⟨wa, hwa⟩ : ∃ z, z = w.alloc (.cells #[] 5) := ⟨_, rfl⟩
  rw [← hwa] at ua k2 ⊢
  clear hwa
  refine wpAnyM_one (fuel := 3) (i := 16) (by kernel_rfl) (by rfl) (fun K hK => ?_)    -- b:append
  have ud := ua.trans (Upd.refl wa []).drew
  obtain ⟨E, hE⟩ := (HXQ.out.1.keep ud).sep.get (HXQ.out.1.row _ (List.getElem_mem hpg))
  rw [HB.out.2.2.1] at hE
  have hE := hE.takeK hk
  rw [Nat.mul_one, ← List.map_take] at hE
  obtain ⟨n1, hn1, hsrc⟩ := hE.src (P := Try.prog) (tx := 28) Try.underlying28 bv_one
  rw [List.length_map, List.length_take, Nat.mul_one] at hn1
  refine wpList_app rfl _ _ 28 28 rfl 1 _ _ _ rfl (OwnRow.zero _ _ _) _ i0 _ Try.underlying28 hi0 hz0 hz1 rfl _ _ _ rfl hsrc (fun n hn => by simp at hn; rw [hz2]; omega) ?_
  intro a5 n5 c5 w5 D5 hown5 hu5
  have hu5 := ud.trans hu5
  have k5 : _ ∧ _ := ⟨upd_cell hu5 c1, upd_cell hu5 e1⟩
  have c7t := k5.1
  have e7 := k5.2
  have e27 := upd_cell hu5 e2
  have hX7 := HXQ.out.1.newRow (b6 := gs[p].2.b.take k) hu5 (by rw [List.nil_append] at hown5; exact hown5)
  have q0 := upd_cell hu5 HXQ.out.2.1
  obtain ⟨y7, hset⟩ := hX7.setG hpg (j := 1) (by decide) (.slice a5 n5 c5, { gs[p].2 with b := gs[p].2.b.take k }) (.slice a5 n5 c5) rfl (List.mem_cons_self ..) q0
  obtain ⟨w6, hw6⟩ : ∃ z, z = w5.setCell ⟨(y.add (p * 3)).block, (y.add (p * 3)).off + 1, none⟩ (.slice a5 n5 c5) := ⟨_, rfl⟩
  obtain ⟨gs2, hgs2⟩ : ∃ z, z = gs.set p (Value.slice a5 n5 c5, { gs[p].2 with b := gs[p].2.b.take k }) := ⟨_, rfl⟩
  have hl2 : gs2.length = gs.length := by rw [hgs2, List.length_set]
  rw [← hgs2, ← hl2, ← hw6] at hset
  have hp2 : p < gs2.length := by omega
  have hg2 : gs2[p] = (Value.slice a5 n5 c5, { gs[p].2 with b := gs[p].2.b.take k }) := by simp only [hgs2, List.getElem_set_self]
  obtain ⟨a8, c8, hv8, hb8, -, -, hrow8⟩ := hset.facts
  cases hv8
  have c18 := cell_of hb8 1 rfl
  have c18 : w6.cell? ⟨t, 1, none⟩ = some (.slice (some y) gs2.length cp) := c18
  obtain ⟨y8, hy8, -, e08, -, e28, -⟩ := hrow8 p hp2
  cases hy8
  simp only [hg2] at e08 e28
  rw [HS.out] at e28
  have HX6 := Lib.hid (show _ ∧ _ ∧ _ ∧ _ from ⟨hset, e08, hgs2, hg2⟩)
  rw [hl2] at c18
  clear hX7 hset hown5 hu5 hsrc hE ud ua e08 hrow8 hb8 q0 hg2 hgs2 e27
  by_cases hks : k < sf
  · obtain ⟨y8, hset8⟩ := HX6.out.1.setG hp2 (j := 2) (by decide) (.slice a5 n5 c5, { gs[p].2 with b := gs[p].2.b.take k, safe := k }) (.int .i64 k) (by rw [HX6.out.2.2.2]; rfl) (List.mem_cons_self ..) (by rw [HX6.out.2.2.2]; exact HX6.out.2.1)
    have HF := Lib.hid (show Fd w0 _ t (T.cut s k).2 R rows from ⟨_, _, _, fun r hr => List.mem_cons_of_mem _ (HXQ.out.2.2 r hr), by
      have := hset8
      rw [HC.out]
      have e : FileS.cut k gs[p].2 = { gs[p].2 with b := gs[p].2.b.take k, safe := k } := by
        unfold FileS.cut
        rw [HS.out, Nat.min_eq_right (by omega)]
      rw [e]
      simp only [List.set_set] at this
      rw [show gs2.length = (gs2.set p (Value.slice a5 n5 c5, { gs[p].2 with b := gs[p].2.b.take k, safe := k })).length by rw [List.length_set]] at this
      exact this⟩)
    clear hset8
    go_wp2_with fail
    refine hK _ _ k5 ?_
    clear hK
    refine wpAnyM_of_any _ _ _ _ (by decide) ?_
    refine wpAny_list [17, 18, 19] (fuel := 0) (by kernel_rfl) ?_
    simp only [List.filterMap_cons, List.filterMap_nil, List.getElem?_toArray, List.getElem?_cons_succ, List.getElem?_cons_zero]
    subst hw6
    go_wp2_with fail
    go_ret
    refine ⟨?_, HF.out⟩
    rw [HC.out]
    rfl
  · have HF := Lib.hid (show Fd w0 w6 t (T.cut s k).2 R rows from ⟨_, gs2, _, fun r hr => List.mem_cons_of_mem _ (HXQ.out.2.2 r hr), by
      rw [HC.out]
      have e : FileS.cut k gs[p].2 = { gs[p].2 with b := gs[p].2.b.take k } := by
        unfold FileS.cut
        rw [HS.out, Nat.min_eq_left (by omega)]
        rw [← HS.out]
      rw [e]
      exact HX6.out.1⟩)
    go_wp2_with fail
    refine hK _ _ k5 ?_
    clear hK
    refine wpAnyM_of_any _ _ _ _ (by decide) ?_
    refine wpAny_list [17, 18, 19] (fuel := 0) (by kernel_rfl) ?_
    simp only [List.filterMap_cons, List.filterMap_nil, List.getElem?_toArray, List.getElem?_cons_succ, List.getElem?_cons_zero]
    subst hw6
    go_wp2_with fail
    go_ret
    refine ⟨?_, HF.out⟩
    rw [HC.out]
    rfl

set_option maxHeartbeats 1000000 in
theorem fd_drop (h : Fd w0 w t T R rows) (hN : Named T.fs) (s : ByteArray) (hs : s.size ≤ maxLen) :
    Calls Try.prog 26 #[.pointer (some ⟨t, 0, none⟩), .string s] w fun e w' => e = .returned (.int .i64 (T.drop s).1) ∧ Fd w0 w' t (T.drop s).2 R rows := by
  have HK := Lib.hid (fd_ask h s hs)
  by_cases h0 : T.ask s = 0
  case neg =>
    obtain ⟨k, hk⟩ : ∃ k, T.ask s = k := ⟨_, rfl⟩
    have HX := Lib.hid (show T.drop s = (k, T) by unfold DiskS.drop; rw [if_neg h0, hk])
    rw [ask_no h0, hk] at HK
    rw [hk] at h0
    have H := Lib.hid h
    clear hk h
    go_enter Try.func26, Try.ntmps26
    go_wp2_with fail
    refine HK.out.mono ?_
    rintro e w1 ⟨rfl, hW⟩
    subst w1
    go_wp2_with fail
    go_ret
    rw [HX.out]
    exact ⟨rfl, H.out⟩
  case pos =>
  obtain ⟨p, hp, hnm, hpos, -⟩ := pos_at (ask_has h0)
  rw [show askP T s = p by unfold askP; rw [if_pos h0, hpos], h0] at HK
  have HX := Lib.hid (show T.drop s = (0, { T with fs := T.fs.take p ++ T.fs.drop (p + 1) }) by unfold DiskS.drop; rw [if_pos h0, del_idx hN hp hnm])
  have HRM := Lib.hid (fd_remove h p hp)
  clear h hnm hpos h0
  go_enter Try.func26, Try.ntmps26
  go_wp2_with fail
  refine HK.out.mono ?_
  rintro e w1 ⟨rfl, hW⟩
  subst w1
  go_wp2_with fail
  refine HRM.out.mono ?_
  rintro e w2 ⟨rfl, hF⟩
  have HF := Lib.hid hF
  clear hF HRM
  go_wp2_with fail
  go_ret
  rw [HX.out]
  exact ⟨rfl, HF.out⟩
end
end Go.Proofs.Ythphinlibhafcaa
