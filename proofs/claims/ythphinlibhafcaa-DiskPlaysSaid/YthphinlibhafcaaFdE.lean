/-
  The document's own disk: Append, Cut, Drop.
-/
import Derived.Test.YthphinlibhafcaaFdD
namespace Go.Proofs.Ythphinlibhafcaa
open Go.RowKit Go.Av
section
variable {w0 w : World} {t : Nat} {T : DiskS} {R : List Thing} {rows : List (Value × Bs)} {v : Value} {gs : List (Value × FileS)}
/-- New bytes, from now on only read. -/
theorem FdX.newRow (h : FdX w0 w t T v gs R rows) {w' : World} {D : List Nat} {v6 : Value} {b6 : Bs} (hu : Upd w w' [] D) (ho : OwnRow w' 1 v6 (b6.map bv) D) : FdX w0 w' t T v gs R ((v6, b6) :: rows) :=
  ⟨h.fs, fun g hg => List.mem_cons_of_mem _ (h.row g hg), h.few, by
    obtain ⟨E, hE, hs⟩ := ho.read
    exact h.sep.row hu hE hs⟩
theorem Fd.also (h : Fd w0 w t T R rows) {rows2 : List (Value × Bs)} (hr : ∀ r ∈ rows2, r ∈ rows) : Fd w0 w t T R rows2 := by
  obtain ⟨v, gs, rows', h1, hX⟩ := h
  exact ⟨v, gs, rows', fun r h => h1 r (hr r h), hX⟩

def AppR (T : DiskS) (s : ByteArray) (b : Bs) (T' : DiskS) : Prop :=
  ((T.append s b).1 ≠ 0 → T' = T) ∧ ((T.append s b).1 = 0 → (hasN s T.fs = true → T' = (T.append s b).2) ∧ (hasN s T.fs = false → ∃ l', Laid ⟨s, b, 0⟩ T.fs l' ∧ T' = { T with fs := l' }))

theorem put_idx {s : ByteArray} {b : Bs} {l : List FileS} {p : Nat} (hN : Named l) (hp : p < l.length) (hs : l[p].name = s) : putApp s b l = l.set p { l[p] with b := l[p].b ++ b } := by
  obtain ⟨f, hf⟩ : ∃ f, l[p] = f := ⟨_, rfl⟩
  have h1 := split_at hp
  rw [hf] at h1 hs
  have h2 := h1 ▸ hN
  rw [List.set_eq_take_append_cons_drop, if_pos hp, hf]
  conv => lhs; rw [h1]
  exact putApp_mid s b f hs _ _ (fun x hx => by rw [← hs]; exact h2.before x hx)
theorem total_mem {f : FileS} {l : List FileS} (h : f ∈ l) : f.b.length ≤ total l := by
  obtain ⟨l1, l2, rfl⟩ := List.append_of_mem h
  rw [total_app, total_cons]
  omega

set_option maxRecDepth 100000 in
set_option maxHeartbeats 4000000 in
theorem fd_append (h : Fd w0 w t T R rows) (hN : Named T.fs) (hhi : T.room ≤ 1048576) (hlo : 0 ≤ T.room) (hfit : (total T.fs : Int) ≤ T.room) (hfew : T.fs.length < 1000) (s : ByteArray) (hs : s.size ≤ maxLen) (vb : Value) (b : Bs) (hvb : (vb, b) ∈ rows) (hbl : b.length ≤ 1048576) :
    Calls Try.prog 22 #[.pointer (some ⟨t, 0, none⟩), .string s, vb] w fun e w' => e = .returned (.int .i64 (T.append s b).1) ∧ ∃ T', AppR T s b T' ∧ Fd w0 w' t T' R rows := by
  have HK := Lib.hid (fd_ask h s hs)
  obtain ⟨ab, cb, hvbs, hcb⟩ : ∃ ab cb, vb = .slice ab b.length cb ∧ b.length ≤ cb ∧ cb ≤ maxLen := by
    obtain ⟨v, gs, rows', h1, hX⟩ := h
    obtain ⟨E, hE⟩ := hX.sep.get (h1 _ hvb)
    obtain ⟨a, n, c, hv, hl, hn, hc, -⟩ := hE
    rw [List.length_map, Nat.mul_one] at hl
    subst hl
    exact ⟨a, c, hv, hn, hc⟩
  subst hvbs
  unfold maxLen at hcb
  have HVB := Lib.hid (show _ ∧ _ from ⟨hvb, hN⟩)
  clear hvb hN
  by_cases hm : T.may [s] = 0
  case neg =>
    obtain ⟨k, hk⟩ : ∃ k, T.may [s] = k := ⟨_, rfl⟩
    have hka : T.ask s = k := by unfold DiskS.ask; rw [if_pos hm, hk]
    have hk04 : k ≠ 0 ∧ k ≠ 4 := by
      refine ⟨fun e => hm (hk.trans e), fun e => ?_⟩
      rw [e] at hk
      unfold DiskS.may at hk
      split at hk
      · cases hk
      · split at hk <;> cases hk
    obtain ⟨hk0, hk4⟩ := hk04
    have HR := Lib.hid (show T.append s b = (k, T) by unfold DiskS.append; rw [if_pos hm, hk])
    rw [ask_no (by rw [hka]; exact hk0), hka] at HK
    have H := Lib.hid h
    have H0 := Lib.hid hk0
    have q0 : (k != 0) = true := by simpa using hk0
    have q4 : (k != 4) = true := by simpa using hk4
    clear h hk hka hm
    go_enter Try.func22, Try.ntmps22
    go_wp2_with fail
    refine HK.out.mono ?_
    rintro e w1 ⟨rfl, hW⟩
    subst w1
    go_wp2_with fail
    go_ret
    rw [HR.out]
    exact ⟨rfl, T, ⟨fun _ => rfl, fun e => absurd (HR.out ▸ e) (by simpa using H0.out)⟩, H.out⟩
  case pos =>
  have HSZ := Lib.hid (fd_size h.drew (by omega))
  have h0 := h
  obtain ⟨v, gs, rows', h1, hX⟩ := h0
  obtain ⟨a, cp, rfl, hbk, hcp, hcm, hrow⟩ := hX.facts
  have c0 := cell_of hbk 0 rfl
  rw [show (#[Value.int .i64 T.room, .slice a gs.length cp, .bool T.off, .int .i64 T.lives] : Array Value)[0] = .int .i64 T.room from rfl] at c0
  have c1 := cell_of hbk 1 rfl
  rw [show (#[Value.int .i64 T.room, .slice a gs.length cp, .bool T.off, .int .i64 T.lives] : Array Value)[1] = .slice a gs.length cp from rfl] at c1
  unfold maxLen at hcm
  have HR := Lib.hid (show _ ∧ _ ∧ _ from ⟨hX, h1, hrow⟩)
  have H := Lib.hid h
  have hfs : T.fs.length = gs.length := by rw [← hX.fs, List.length_map]
  have HTM := Lib.hid (show ∀ f ∈ T.fs, f.b.length ≤ total T.fs from fun f hf => total_mem hf)
  obtain ⟨tt, htt⟩ : ∃ tt, total T.fs = tt := ⟨_, rfl⟩
  rw [htt] at HSZ hfit
  obtain ⟨rm, hrm⟩ : ∃ rm, T.room = rm := ⟨_, rfl⟩
  rw [hrm] at hhi hlo hfit c0
  have HTT := Lib.hid (show _ ∧ _ ∧ _ from ⟨htt, hrm, hm⟩)
  clear hX h1 hrow hbk h htt hrm hm
  cases hh : hasN s T.fs with
  | false =>
    have hask : T.ask s = 4 := by unfold DiskS.ask; rw [if_neg (by rw [HTT.out.2.2]; simp), hh]; rfl
    rw [ask_no (by rw [hask]; decide), hask] at HK
    have HH := Lib.hid (show _ ∧ _ from ⟨hh, hask⟩)
    clear hh hask c1
    by_cases hfull : rm - (tt : Int) < (b.length : Int)
    · have HA := Lib.hid (show T.append s b = (9, T) by unfold DiskS.append; rw [if_neg (by rw [HTT.out.2.2]; simp), if_pos (by rw [HTT.out.1, HTT.out.2.1]; exact hfull)])
      go_enter Try.func22, Try.ntmps22
      go_wp2_with fail
      refine HK.out.mono ?_
      rintro e w1 ⟨rfl, hW⟩
      subst w1
      go_wp2_with fail
      refine wp_region_M (fun W => W.cell? ⟨t, 0, none⟩ = some (.int .i64 rm)) 8 (by kernel_rfl) ?_
      refine wpAnyM_take (by kernel_rfl) (by intro c a d v w h; cases d <;> exact h) [(0, false), (1, false), (2, false), (3, false), (4, false), (5, true), (6, false)] (fuel := 3) (by kernel_rfl) ?_
      apply Exists.intro; refine ⟨?_, c0, ?_⟩
      · iterate 7 ((first | (apply yieldN; (· (simp only [List.getElem?_toArray, List.getElem?_cons_succ, List.getElem?_cons_zero]; try rfl)); (· rfl)) | ((first | apply yieldP | apply yieldL); (· (simp only [List.getElem?_toArray, List.getElem?_cons_succ, List.getElem?_cons_zero]; try rfl)); (· rfl); (· (intros; go_simp; try with_reducible rfl)))); (· (simp only [Act.put, List.setIfInBounds_toArray, List.set_cons_zero, List.set_cons_succ]; try rfl)))
        exact rfl
      refine wpAnyM_one (fuel := 2) (i := 7) (by kernel_rfl) (by rfl) (fun K hK => ?_)    -- CALL
      go_wp2_with fail
      refine HSZ.out.mono ?_
      rintro e w2 ⟨rfl, hW⟩
      subst w2
      go_wp2_with fail
      refine hK _ _ c0 ?_
      clear hK
      refine wpAnyM_of_any _ _ _ _ (by decide) ?_
      refine wpAny_list [8, 9] (fuel := 0) (by kernel_rfl) ?_
      simp only [List.filterMap_cons, List.filterMap_nil, List.getElem?_toArray, List.getElem?_cons_succ, List.getElem?_cons_zero]
      go_wp2_with fail
      go_ret
      rw [HA.out]
      exact ⟨rfl, T, ⟨fun _ => rfl, fun e => absurd (HA.out ▸ e) (by simp)⟩, H.out.drew⟩
    have HA := Lib.hid (show T.append s b = (0, { T with fs := putApp s b T.fs }) by unfold DiskS.append; rw [if_neg (by rw [HTT.out.2.2]; simp), if_neg (by rw [HTT.out.1, HTT.out.2.1]; exact hfull)])
    go_enter Try.func22, Try.ntmps22
    go_wp2_with fail
    refine HK.out.mono ?_
    rintro e w1 ⟨rfl, hW⟩
    subst w1
    obtain ⟨i0, hi0, hz0, hz1, hz2⟩ := info_parts info5
    have ua := (Upd.refl w []).drew.trans (Upd.alloc0 w.drew (.cells #[] 5) [])
    obtain ⟨E, hE⟩ := (HR.out.1.keep ua).sep.get (HR.out.2.1 _ HVB.out.1)
    obtain ⟨n1, hn1, hsrc⟩ := hE.src (P := Try.prog) (tx := 28) Try.underlying28 bv_one
    have HBD := Lib.hid (show ∀ n, ([] : List Value).length = n * 1 → n + n1 ≤ 140737488355328 ∧ (n + n1) * i0.bytes ≤ 140737488355328 from fun n hn => by simp at hn hn1; rw [hz2]; omega)
    have HUA := Lib.hid ua
    clear ua hE hn1
    go_wp2_with fail
    refine wp_region_M (fun W => W.cell? ⟨t, 0, none⟩ = some (.int .i64 rm)) 8 (by kernel_rfl) ?_
    refine wpAnyM_take (by kernel_rfl) (by intro c a d v w h; cases d <;> exact h) [(0, false), (1, false), (2, false), (3, false), (4, false), (5, true), (6, false)] (fuel := 3) (by kernel_rfl) ?_
    apply Exists.intro; refine ⟨?_, c0, ?_⟩
    · iterate 7 ((first | (apply yieldN; (· (simp only [List.getElem?_toArray, List.getElem?_cons_succ, List.getElem?_cons_zero]; try rfl)); (· rfl)) | ((first | apply yieldP | apply yieldL); (· (simp only [List.getElem?_toArray, List.getElem?_cons_succ, List.getElem?_cons_zero]; try rfl)); (· rfl); (· (intros; go_simp; try with_reducible rfl)))); (· (simp only [Act.put, List.setIfInBounds_toArray, List.set_cons_zero, List.set_cons_succ]; try rfl)))
      exact rfl
    refine wpAnyM_one (fuel := 2) (i := 7) (by kernel_rfl) (by rfl) (fun K hK => ?_)    -- CALL
    go_wp2_with fail
    refine HSZ.out.mono ?_
    rintro e w2 ⟨rfl, hW⟩
    subst w2
    go_wp2_with fail
    refine hK _ _ c0 ?_
    clear hK
    refine wpAnyM_of_any _ _ _ _ (by decide) ?_
    refine wpAny_list [8, 9] (fuel := 0) (by kernel_rfl) ?_
    simp only [List.filterMap_cons, List.filterMap_nil, List.getElem?_toArray, List.getElem?_cons_succ, List.getElem?_cons_zero]
    go_wp2_with (at_builtin; go_must (refine wpList_app rfl _ _ 28 28 rfl 1 _ [] [] rfl (OwnRow.zero _ _ _) _ i0 _ Try.underlying28 hi0 hz0 hz1 rfl _ _ _ rfl hsrc HBD.out ?_); intro a3 n3 c3 w3 D3 hown3 hu3)
    have hX3 := (HR.out.1.keep HUA.out).newRow (b6 := b) hu3 (by rw [List.nil_append] at hown3; exact hown3)
    have HLY := Lib.hid (fd_lay (rows := (Value.slice a3 n3 c3, b) :: rows) ⟨_, _, _, fun r hr => by
      rcases List.mem_cons.1 hr with rfl | hr
      · exact List.mem_cons_self ..
      · exact List.mem_cons_of_mem _ (HR.out.2.1 r hr), hX3⟩ s (.slice a3 n3 c3) b 0 (List.mem_cons_self ..) (by rw [hfs]; omega))
    clear hX3 hown3 hu3 hsrc
    refine HLY.out.mono ?_
    rintro e w4 ⟨rfl, l', hL, hF⟩
    have HF := Lib.hid (show _ ∧ _ from ⟨hL, hF.also (rows2 := rows) (fun r hr => List.mem_cons_of_mem _ hr)⟩)
    clear hL hF HLY
    go_wp2_with fail
    go_ret
    rw [HA.out]
    exact ⟨rfl, { T with fs := l' }, ⟨fun e => absurd (show (T.append s b).1 = 0 by rw [HA.out]) e, fun _ => ⟨fun h => (by rw [HH.out.1] at h; cases h), fun _ => ⟨l', HF.out.1, rfl⟩⟩⟩, HF.out.2⟩
  | true =>
    have hask : T.ask s = 0 := by unfold DiskS.ask; rw [if_neg (by rw [HTT.out.2.2]; simp), hh]; rfl
    obtain ⟨p, hp, hnm, hpos, -⟩ := pos_at hh
    have hpg : p < gs.length := by omega
    rw [show askP T s = p by unfold askP; rw [if_pos hask, hpos], hask] at HK
    by_cases hfull : rm - (tt : Int) < (b.length : Int)
    · have HA := Lib.hid (show T.append s b = (9, T) by unfold DiskS.append; rw [if_neg (by rw [HTT.out.2.2]; simp), if_pos (by rw [HTT.out.1, HTT.out.2.1]; exact hfull)])
      clear hh hask hnm hpos c1
      go_enter Try.func22, Try.ntmps22
      go_wp2_with fail
      refine HK.out.mono ?_
      rintro e w1 ⟨rfl, hW⟩
      subst w1
      go_wp2_with fail
      refine wp_region_M (fun W => W.cell? ⟨t, 0, none⟩ = some (.int .i64 rm)) 8 (by kernel_rfl) ?_
      refine wpAnyM_take (by kernel_rfl) (by intro c a d v w h; cases d <;> exact h) [(0, false), (1, false), (2, false), (3, false), (4, false), (5, true), (6, false)] (fuel := 3) (by kernel_rfl) ?_
      apply Exists.intro; refine ⟨?_, c0, ?_⟩
      · iterate 7 ((first | (apply yieldN; (· (simp only [List.getElem?_toArray, List.getElem?_cons_succ, List.getElem?_cons_zero]; try rfl)); (· rfl)) | ((first | apply yieldP | apply yieldL); (· (simp only [List.getElem?_toArray, List.getElem?_cons_succ, List.getElem?_cons_zero]; try rfl)); (· rfl); (· (intros; go_simp; try with_reducible rfl)))); (· (simp only [Act.put, List.setIfInBounds_toArray, List.set_cons_zero, List.set_cons_succ]; try rfl)))
        exact rfl
      refine wpAnyM_one (fuel := 2) (i := 7) (by kernel_rfl) (by rfl) (fun K hK => ?_)    -- CALL
      go_wp2_with fail
      refine HSZ.out.mono ?_
      rintro e w2 ⟨rfl, hW⟩
      subst w2
      go_wp2_with fail
      refine hK _ _ c0 ?_
      clear hK
      refine wpAnyM_of_any _ _ _ _ (by decide) ?_
      refine wpAny_list [8, 9] (fuel := 0) (by kernel_rfl) ?_
      simp only [List.filterMap_cons, List.filterMap_nil, List.getElem?_toArray, List.getElem?_cons_succ, List.getElem?_cons_zero]
      go_wp2_with fail
      go_ret
      rw [HA.out]
      exact ⟨rfl, T, ⟨fun _ => rfl, fun e => absurd (HA.out ▸ e) (by simp)⟩, H.out.drew⟩
    have hA : T.append s b = (0, { T with fs := T.fs.set p { T.fs[p] with b := T.fs[p].b ++ b } }) := by
      unfold DiskS.append
      rw [if_neg (by rw [HTT.out.2.2]; simp), if_neg (by rw [HTT.out.1, HTT.out.2.1]; exact hfull), put_idx HVB.out.2 hp hnm]
    have hb2 : T.fs[p] = gs[p].2 := by simp only [← HR.out.1.fs, List.getElem_map]
    have HA := Lib.hid (show _ ∧ _ ∧ _ ∧ _ from ⟨hA, hb2, hh, HTM.out _ (List.getElem_mem hp)⟩)
    obtain ⟨y, rfl, hys, e0, e1, -, E0, hE0⟩ := HR.out.2.2 p hpg
    obtain ⟨av, nv, cv, hv, hlv, hnv, hcv, -⟩ := id hE0
    rw [List.length_map, Nat.mul_one] at hlv
    have HV := Lib.hid (show _ ∧ _ from ⟨hv, e0⟩)
    rw [hv] at e1
    clear hA hb2 hh hask hnm hpos hE0 hv e0
    go_enter Try.func22, Try.ntmps22
    go_wp2_with fail
    refine HK.out.mono ?_
    rintro e w1 ⟨rfl, hW⟩
    subst w1
    go_wp2_with fail
    refine wp_region_M (fun W => W.cell? ⟨t, 0, none⟩ = some (.int .i64 rm)) 8 (by kernel_rfl) ?_
    refine wpAnyM_take (by kernel_rfl) (by intro c a d v w h; cases d <;> exact h) [(0, false), (1, false), (2, false), (3, false), (4, false), (5, true), (6, false)] (fuel := 3) (by kernel_rfl) ?_
    apply Exists.intro; refine ⟨?_, c0, ?_⟩
    · iterate 7 ((first | (apply yieldN; (· (simp only [List.getElem?_toArray, List.getElem?_cons_succ, List.getElem?_cons_zero]; try rfl)); (· rfl)) | ((first | apply yieldP | apply yieldL); (· (simp only [List.getElem?_toArray, List.getElem?_cons_succ, List.getElem?_cons_zero]; try rfl)); (· rfl); (· (intros; go_simp; try with_reducible rfl)))); (· (simp only [Act.put, List.setIfInBounds_toArray, List.set_cons_zero, List.set_cons_succ]; try rfl)))
      exact rfl
    refine wpAnyM_one (fuel := 2) (i := 7) (by kernel_rfl) (by rfl) (fun K hK => ?_)    -- CALL
    go_wp2_with fail
    refine HSZ.out.mono ?_
    rintro e w2 ⟨rfl, hW⟩
    subst w2
    go_wp2_with fail
    refine hK _ _ c0 ?_
    clear hK
    refine wpAnyM_of_any _ _ _ _ (by decide) ?_
    refine wpAny_list [8, 9] (fuel := 0) (by kernel_rfl) ?_
    simp only [List.filterMap_cons, List.filterMap_nil, List.getElem?_toArray, List.getElem?_cons_succ, List.getElem?_cons_zero]
    go_wp2_with fail
    obtain ⟨i0, hi0, hz0, hz1, hz2⟩ := info_parts info5
    have hud := (Upd.refl w []).drew
    have hXq := HR.out.1.keep hud
    have c1 := upd_cell hud c1
    have e1 := upd_cell hud e1
    have e0 := upd_cell hud HV.out.2
    obtain ⟨wq, hwq⟩ : ∃ z, z = w.drew := ⟨_, rfl⟩
    rw [← hwq] at hXq c1 e1 e0 ⊢
    have HXQ := Lib.hid (show _ ∧ _ from ⟨hXq, e0⟩)
    clear hwq hud hXq e0
    refine wp_region_M (fun W => W.cell? ⟨t, 1, none⟩ = some (.slice (some y) gs.length cp) ∧ W.cell? ⟨(y.add (p * 3)).block, (y.add (p * 3)).off + 1, none⟩ = some (.slice av nv cv)) 17 (by kernel_rfl) ?_
    refine wpAnyM_take (by kernel_rfl) (by intro c a d v w h; cases d <;> exact h) [(0, false), (1, false), (2, false), (3, true), (4, false), (6, false), (7, false), (8, false), (9, true), (10, false), (11, false), (12, false), (13, true), (15, false)] (fuel := 6) (by kernel_rfl) ?_
    apply Exists.intro; refine ⟨?_, ⟨c1, e1⟩, ?_⟩
    · iterate 14 ((first | (apply yieldN; (· (simp only [List.getElem?_toArray, List.getElem?_cons_succ, List.getElem?_cons_zero]; try rfl)); (· rfl)) | ((first | apply yieldP | apply yieldL); (· (simp only [List.getElem?_toArray, List.getElem?_cons_succ, List.getElem?_cons_zero]; try rfl)); (· rfl); (· (intros; go_simp; try with_reducible rfl)))); (· (simp only [Act.put, List.setIfInBounds_toArray, List.set_cons_zero, List.set_cons_succ]; try rfl)))
      exact rfl
    refine wpAnyM_one (fuel := 5) (i := 5) (by kernel_rfl) (by rfl) (fun K hK => ?_)    -- buildSlice
    go_wp2_with fail
    have ua := Upd.alloc0 wq (.cells #[] 5) []
    have k2 : _ ∧ _ := ⟨upd_cell ua c1, upd_cell ua e1⟩
    refine hK _ _ k2 ?_
    clear hK
    obtain ⟨wa, hwa⟩ : ∃ z, z = wq.alloc (.cells #[] 5) := ⟨_, rfl⟩
    rw [← hwa] at ua k2 ⊢
    clear hwa
    refine wpAnyM_one (fuel := 4) (i := 14) (by kernel_rfl) (by rfl) (fun K hK => ?_)    -- b:append
    have ud := ua.trans (Upd.refl wa []).drew
    obtain ⟨E, hE⟩ := (HXQ.out.1.keep ud).sep.get (HXQ.out.1.row _ (List.getElem_mem hpg))
    rw [HV.out.1] at hE
    obtain ⟨n1, hn1, hsrc⟩ := hE.src (P := Try.prog) (tx := 28) Try.underlying28 bv_one
    have hbl1 : n1 ≤ 1048576 := by
      have h1 := HA.out.2.2.2
      rw [HA.out.2.1, HTT.out.1] at h1
      rw [List.length_map] at hn1
      omega
    refine wpList_app rfl _ _ 28 28 rfl 1 _ _ _ rfl (OwnRow.zero _ _ _) _ i0 _ Try.underlying28 hi0 hz0 hz1 rfl _ _ _ rfl hsrc (fun n hn => by simp at hn; rw [hz2]; omega) ?_
    intro a5 n5 c5 w5 D5 hown5 hu5
    have hu5 := ud.trans hu5
    have k5 : _ ∧ _ := ⟨upd_cell hu5 c1, upd_cell hu5 e1⟩
    have hl5 : (([] : List Value) ++ gs[p].2.b.map bv).length ≤ 1048576 := by rw [List.nil_append, hn1]; omega
    clear hsrc hE hn1
    go_wp2_with fail
    refine hK _ _ k5 ?_
    clear hK
    refine wpAnyM_one (fuel := 3) (i := 16) (by kernel_rfl) (by rfl) (fun K hK => ?_)    -- b:append
    obtain ⟨E, hE⟩ := (HXQ.out.1.keep hu5).sep.get (HR.out.2.1 _ HVB.out.1)
    obtain ⟨n2, hn2, hsrc⟩ := hE.src (P := Try.prog) (tx := 28) Try.underlying28 bv_one
    refine wpList_app rfl _ _ 28 28 rfl 1 _ _ _ rfl hown5 _ i0 _ Try.underlying28 hi0 hz0 hz1 rfl _ _ _ rfl hsrc (fun n hn => by rw [List.length_map] at hn2; rw [hz2]; omega) ?_
    intro a7 n7 c7 w7 D7 hown7 hu7
    have hu7 := hu5.trans hu7
    have k7 : _ ∧ _ := ⟨upd_cell hu7 c1, upd_cell hu7 e1⟩
    have e7 := k7.2
    have c7t := k7.1
    have hX7 := HXQ.out.1.newRow (b6 := gs[p].2.b ++ b) hu7 (by rw [List.nil_append, ← List.map_append] at hown7; exact hown7)
    obtain ⟨y7, hset⟩ := hX7.setG hpg (j := 1) (by decide) (.slice a7 n7 c7, { gs[p].2 with b := gs[p].2.b ++ b }) (.slice a7 n7 c7) rfl (List.mem_cons_self ..) (upd_cell hu7 HXQ.out.2)
    have HF := Lib.hid (show Fd w0 _ t { T with fs := T.fs.set p { gs[p].2 with b := gs[p].2.b ++ b } } R rows from ⟨_, _, (.slice a7 n7 c7, gs[p].2.b ++ b) :: rows', fun r hr => List.mem_cons_of_mem _ (HR.out.2.1 r hr), by
      have := hset
      rw [show gs.length = (gs.set p (Value.slice a7 n7 c7, { gs[p].2 with b := gs[p].2.b ++ b })).length by rw [List.length_set]] at this
      exact this⟩)
    clear hX7 hset hown7 hown5 hu7 hu5 hsrc hE ud ua
    go_wp2_with fail
    refine hK _ _ k7 ?_
    clear hK
    refine wpAnyM_of_any _ _ _ _ (by decide) ?_
    refine wpAny_list [17, 18, 19] (fuel := 0) (by kernel_rfl) ?_
    simp only [List.filterMap_cons, List.filterMap_nil, List.getElem?_toArray, List.getElem?_cons_succ, List.getElem?_cons_zero]
    go_wp2_with fail
    go_ret
    rw [HA.out.1]
    refine ⟨rfl, _, ⟨fun e => absurd (show (T.append s b).1 = 0 by rw [HA.out.1]) e, fun _ => ⟨fun _ => rfl, fun h => (by rw [HA.out.2.2.1] at h; cases h)⟩⟩, ?_⟩
    rw [HA.out.1, HA.out.2.1]
    exact HF.out
end
end Go.Proofs.Ythphinlibhafcaa
