/-
  A tree: the walks of lay, Remove.
-/
import Derived.Test.YtjeaoopamebgjaaDoorTreeB
namespace Go.Av
open Go.RowKit
/-- What is made of the parent's node, if that is there. -/
def atUp (p : Bs) (f : NodeS → NodeS) (l : NoL) : NoL := match parentP p with
  | none => l
  | some up => match lookT up l with
    | none => l
    | some m => setT up (f m) l
def layT (p : Bs) (n : NodeS) (l : NoL) : NoL := atUp p (fun m => addS m (nameP p)) (insT p n l)
def remT (p : Bs) (l : NoL) : NoL := atUp p (fun m => remS m (nameP p)) (delT p l)
end Go.Av
namespace Go.Proofs.YtjeaoopamebgjaaDoor
open Go.RowKit Go.Av
/-- What a call that turns a tree leaves. -/
def TreePost (w0 : World) (t : Nat) (S : TreeS) (P : List PRow) (R : List Thing) (rows : List (Value × Bs)) (v : Value) (e : Ending) (w' : World) : Prop :=
  e = .returned v ∧ ∃ P', (∀ r ∈ P, r ∈ P') ∧ Sep w0 w' (ThPool P' :: ThTree t S P' :: R) rows
section
variable {w0 w : World} {t : Nat} {S : TreeS} {P P' : List PRow} {R : List Thing} {rows : List (Value × Bs)}
theorem tree_look (h : Sep w0 w (ThPool P :: ThTree t S P :: R) rows) : ∃ m, w.cell? ⟨t, 1, none⟩ = some (.map (some m)) ∧ ∀ s : ByteArray, lookT s.data.toList S.l = none → ∀ W : World, W.heap = w.heap → (Instr.lookup 43 (.map (some m)) (.string s) false).run Tryd.prog W = .ok (.pointer none) W := by
  obtain ⟨m, -, h1, h2, -, -⟩ := tree_facts (h.perm (List.Perm.swap _ _ _))
  exact ⟨m, h1, h2⟩
set_option maxRecDepth 100000 in
set_option maxHeartbeats 4000000 in
theorem lay_any (h : Sep w0 w (ThPool P :: ThTree t S P :: R) rows) (hd : DoorN w0) (s : ByteArray) (hs : s.size ≤ 100000) (n : NodeS) (nv : Value) (hnv : (1, nv, n.names.map sv) ∈ P) (hl : lookT s.data.toList S.l = none) (hok : ∀ e ∈ insT s.data.toList n S.l, NodeOk e.2) :
    Calls Tryd.prog 25 #[.pointer (some ⟨t, 0, none⟩), .string s, n.val nv] w (TreePost w0 t { S with l := layT s.data.toList n S.l } P R rows (.tuple #[])) := by
  have h1 := h.newCell (.cells (n.cells nv) 51 (0, 0))
  obtain ⟨m, w2, hc1, hrun, h2⟩ := tree_ins h1 hnv s hl
  obtain ⟨m', hc2, hno⟩ := tree_look h2
  have HL := Lib.hid (show layT s.data.toList n S.l = atUp s.data.toList (fun m => addS m (nameP s.data.toList)) (insT s.data.toList n S.l) from rfl)
  obtain ⟨L, hL⟩ : ∃ L, insT s.data.toList n S.l = L := ⟨_, rfl⟩
  rw [hL] at h2 hno hok HL
  have HPA := Lib.hid (parent_any s w2 (hd.sep h2).1 (by unfold maxLen; omega))
  have HNA := Lib.hid (fun w hd => name_any1 s w hd (by unfold maxLen; omega))
  have H2 := Lib.hid h2
  have HNO := Lib.hid hno
  have HD := Lib.hid hd
  unfold atUp at HL
  obtain ⟨S', hS'⟩ : ∃ S', ({ S with l := layT s.data.toList n S.l } : TreeS) = S' := ⟨_, rfl⟩
  have HS' := Lib.hid hS'
  rw [hS']
  obtain ⟨made, changed, ver, kids, owner, dat, next, names⟩ := n
  unfold NodeS.val NodeS.cells
  unfold NodeS.cells at hc1 hrun
  dsimp only at hc1 hrun ⊢
  clear h h1 hnv hl h2 hno hd hL hS'
  cases hpp : parentP s.data.toList with
  | none =>
    rw [hpp] at HL HPA
    have HE := Lib.hid (show S' = { S with l := L } by rw [← HS'.out, HL.out])
    clear hpp HL HS'
    go_enter Tryd.func25, Tryd.ntmps25
    go_wp2_with fail
    refine HPA.out.mono ?_
    rintro e w3 ⟨rfl, hu3⟩
    have H3 := Lib.hid (H2.out.keep hu3)
    clear hu3
    go_wp2_with fail
    go_end0
    rw [HE.out]
    exact ⟨rfl, P, fun _ h => h, H3.out⟩
  | some up =>
    rw [hpp] at HL HPA
    obtain ⟨us, hus⟩ : ∃ us : ByteArray, us = ⟨up.toArray⟩ := ⟨_, rfl⟩
    have hup : us.data.toList = up := by rw [hus]
    have HPA := Lib.hid (show Calls Tryd.prog _ _ _ (fun e w' => e = .returned (.tuple #[.string us, .bool true]) ∧ _) from by rw [hus]; exact HPA.out)
    have HUP := Lib.hid hup
    have HL := Lib.hid (show _ = (match lookT up L with | none => L | some m => setT up _ L) from HL.out)
    clear hpp hus hup
    go_enter Tryd.func25, Tryd.ntmps25
    go_wp2_with fail
    refine HPA.out.mono ?_
    rintro e w3 ⟨rfl, hu3⟩
    have H3 := Lib.hid (H2.out.keep hu3)
    clear hu3 HPA
    cases hlu : lookT up L with
    | none =>
      have HE := Lib.hid (show S' = { S with l := L } by rw [← HS'.out, HL.out]; simp only [hlu])
      obtain ⟨m3, hm3, hno3⟩ := tree_look H3.out
      have hk := hno3 us (by rw [HUP.out]; exact hlu) w3 rfl
      clear hlu HL HS' hno3
      go_wp2_with fail
      go_end0
      rw [HE.out]
      exact ⟨rfl, P, fun _ h => h, H3.out⟩
    | some k =>
      have HE := Lib.hid (show S' = { S with l := setT up (addS k (nameP s.data.toList)) L } by rw [← HS'.out, HL.out]; simp only [hlu])
      obtain ⟨x, kv, X, m3, hkv, hSx, ⟨hm3, hlk⟩, back⟩ := tree_focus H3.out hlu
      have HOK := Lib.hid (hok _ ((look_mem (tree_rise (H3.out.perm (List.Perm.swap _ _ _)))).1 hlu))
      have hk := hlk w3 _ (Upd.refl w3 []) us HUP.out
      have hk' := hlk w3.drew _ (Upd.refl w3 []).drew us HUP.out
      have HB := Lib.hid (show _ ∧ _ ∧ _ from ⟨hkv, hlk, back⟩)
      have HX := Lib.hid hSx.drew
      have HNA2 := Lib.hid (HNA.out w3.drew ((HD.out.sep H3.out).upd ((Upd.refl w3 []).drew)).1)
      clear hlu HL HS' hkv hlk back hSx
      go_wp2_with fail
      refine wp_region_M (fun W => W.cell? ⟨t, 1, none⟩ = some (.map (some m3)) ∧ (Instr.lookup 43 (.map (some m3)) (.string us) false).run Tryd.prog W = .ok (.pointer (some ⟨x, 0, none⟩)) W) 9 (by kernel_rfl) ?_
      refine wpAnyM_take (by kernel_rfl) (by intro c a d v w h; cases d <;> exact h) [(0, false), (1, false), (2, false), (3, true), (4, false), (5, true), (6, false)] (fuel := 2) (by kernel_rfl) ?_
      apply Exists.intro; refine ⟨?_, ⟨hm3, hk'⟩, ?_⟩
      · iterate 7 ((first | (apply yieldN; (· (simp only [List.getElem?_toArray, List.getElem?_cons_succ, List.getElem?_cons_zero]; try rfl)); (· rfl)) | ((first | apply yieldP | apply yieldL); (· (simp only [List.getElem?_toArray, List.getElem?_cons_succ, List.getElem?_cons_zero]; try rfl)); (· rfl); (· (intros; go_simp; try with_reducible rfl)))); (· (simp only [Act.put, List.setIfInBounds_toArray, List.set_cons_zero, List.set_cons_succ]; try rfl)))
        exact rfl
      refine wpAnyM_one (fuel := 1) (i := 7) (by kernel_rfl) (by rfl) (fun K hK => ?_)    -- CALL
      go_wp2_with fail
      refine HNA2.out.mono ?_
      rintro e w4 ⟨rfl, hu4⟩
      have HX4 := Lib.hid (HX.out.keep hu4)
      have hm4 := upd_cell hu4 hm3
      have hk4 := HB.out.2.1 w4 _ ((Upd.refl w3 []).drew.trans hu4) us HUP.out
      clear hm3 hk hk' hu4 HNA2 HX
      go_wp2_with fail
      refine hK _ _ ⟨hm4, hk4⟩ ?_
      clear hK
      refine wpAnyM_one (fuel := 0) (i := 8) (by kernel_rfl) (by rfl) (fun K hK => ?_)    -- CALL
      go_wp2_with fail
      refine (add_any HX4.out ⟨(nameP s.data.toList).toArray⟩ HOK.out HB.out.1).mono ?_
      rintro e w5 ⟨rfl, nv5, P5, hP5, hnv5, hS5⟩
      obtain ⟨h5, hm5, hlk5⟩ := HB.out.2.2 w5 _ nv5 P5 hP5 hnv5 hS5
      have H5 := Lib.hid h5
      have HP5 := Lib.hid hP5
      have hk5 := hlk5 w5 _ (Upd.refl w5 []) us HUP.out
      clear hS5 hnv5 hP5 h5 hlk5 hm4 hk4
      go_wp2_with fail
      refine hK _ _ ⟨hm5, hk5⟩ ?_
      clear hK
      refine wpAnyM_done (by kernel_rfl) ?_ _
      go_wp2_with fail
      go_end0
      rw [HE.out]
      exact ⟨rfl, P5, HP5.out, H5.out⟩
theorem tree_delA (h : Sep w0 w (ThPool P :: ThTree t S P :: R) rows) (s : ByteArray) :
    ∃ m w', w.cell? ⟨t, 1, none⟩ = some (.map (some m)) ∧ (∀ ty, (Builtin.delete_ #[43, 9] ty #[.map (some m), .string s]).run Tryd.prog w = .ok (.tuple #[]) w') ∧ Sep w0 w' (ThPool P :: ThTree t { S with l := delT s.data.toList S.l } P :: R) rows := by
  cases hl : lookT s.data.toList S.l with
  | some n0 => exact tree_del h s hl
  | none =>
    rw [delT_none hl]
    exact tree_delN h s hl
set_option maxRecDepth 100000 in
set_option maxHeartbeats 4000000 in
theorem treeRemove_any (h : Sep w0 w (ThPool P :: ThTree t S P :: R) rows) (hd : DoorN w0) (s : ByteArray) (hs : s.size ≤ 100000) (hok : ∀ e ∈ S.l, NodeOk e.2) :
    Calls Tryd.prog 27 #[.pointer (some ⟨t, 0, none⟩), .string s] w (TreePost w0 t { S with l := remT s.data.toList S.l } P R rows (.tuple #[])) := by
  obtain ⟨m, w2, hc1, hrun, h2⟩ := tree_delA h s
  obtain ⟨m', hc2, hno⟩ := tree_look h2
  have HL := Lib.hid (show remT s.data.toList S.l = atUp s.data.toList (fun m => remS m (nameP s.data.toList)) (delT s.data.toList S.l) from rfl)
  have hok : ∀ e ∈ delT s.data.toList S.l, NodeOk e.2 := fun e he => hok e (by unfold delT at he; exact (List.mem_filter.1 he).1)
  obtain ⟨L, hL⟩ : ∃ L, delT s.data.toList S.l = L := ⟨_, rfl⟩
  rw [hL] at h2 hno hok HL
  have HPA := Lib.hid (parent_any s w2 (hd.sep h2).1 (by unfold maxLen; omega))
  have HNA := Lib.hid (fun w hd => name_any1 s w hd (by unfold maxLen; omega))
  have H2 := Lib.hid h2
  have HNO := Lib.hid hno
  have HD := Lib.hid hd
  unfold atUp at HL
  obtain ⟨S', hS'⟩ : ∃ S', ({ S with l := remT s.data.toList S.l } : TreeS) = S' := ⟨_, rfl⟩
  have HS' := Lib.hid hS'
  rw [hS']
  clear h h2 hno hd hL hS'
  cases hpp : parentP s.data.toList with
  | none =>
    rw [hpp] at HL HPA
    have HE := Lib.hid (show S' = { S with l := L } by rw [← HS'.out, HL.out])
    clear hpp HL HS'
    go_enter Tryd.func27, Tryd.ntmps27
    go_wp2_with fail
    refine HPA.out.mono ?_
    rintro e w3 ⟨rfl, hu3⟩
    have H3 := Lib.hid (H2.out.keep hu3)
    clear hu3
    go_wp2_with fail
    go_end0
    rw [HE.out]
    exact ⟨rfl, P, fun _ h => h, H3.out⟩
  | some up =>
    rw [hpp] at HL HPA
    obtain ⟨us, hus⟩ : ∃ us : ByteArray, us = ⟨up.toArray⟩ := ⟨_, rfl⟩
    have hup : us.data.toList = up := by rw [hus]
    have HPA := Lib.hid (show Calls Tryd.prog _ _ _ (fun e w' => e = .returned (.tuple #[.string us, .bool true]) ∧ _) from by rw [hus]; exact HPA.out)
    have HUP := Lib.hid hup
    have HL := Lib.hid (show _ = (match lookT up L with | none => L | some m => setT up _ L) from HL.out)
    clear hpp hus hup
    go_enter Tryd.func27, Tryd.ntmps27
    go_wp2_with fail
    refine HPA.out.mono ?_
    rintro e w3 ⟨rfl, hu3⟩
    have H3 := Lib.hid (H2.out.keep hu3)
    clear hu3 HPA
    cases hlu : lookT up L with
    | none =>
      have HE := Lib.hid (show S' = { S with l := L } by rw [← HS'.out, HL.out]; simp only [hlu])
      obtain ⟨m3, hm3, hno3⟩ := tree_look H3.out
      have hk := hno3 us (by rw [HUP.out]; exact hlu) w3 rfl
      clear hlu HL HS' hno3
      go_wp2_with fail
      go_end0
      rw [HE.out]
      exact ⟨rfl, P, fun _ h => h, H3.out⟩
    | some k =>
      have HE := Lib.hid (show S' = { S with l := setT up (remS k (nameP s.data.toList)) L } by rw [← HS'.out, HL.out]; simp only [hlu])
      obtain ⟨x, kv, X, m3, hkv, hSx, ⟨hm3, hlk⟩, back⟩ := tree_focus H3.out hlu
      have HOK := Lib.hid (hok _ ((look_mem (tree_rise (H3.out.perm (List.Perm.swap _ _ _)))).1 hlu))
      have hk := hlk w3 _ (Upd.refl w3 []) us HUP.out
      have hk' := hlk w3.drew _ (Upd.refl w3 []).drew us HUP.out
      have HB := Lib.hid (show _ ∧ _ ∧ _ from ⟨hkv, hlk, back⟩)
      have HX := Lib.hid hSx.drew
      have HNA2 := Lib.hid (HNA.out w3.drew ((HD.out.sep H3.out).upd ((Upd.refl w3 []).drew)).1)
      clear hlu HL HS' hkv hlk back hSx
      go_wp2_with fail
      refine wp_region_M (fun W => W.cell? ⟨t, 1, none⟩ = some (.map (some m3)) ∧ (Instr.lookup 43 (.map (some m3)) (.string us) false).run Tryd.prog W = .ok (.pointer (some ⟨x, 0, none⟩)) W) 9 (by kernel_rfl) ?_
      refine wpAnyM_take (by kernel_rfl) (by intro c a d v w h; cases d <;> exact h) [(0, false), (1, false), (2, false), (3, true), (4, false), (5, true), (6, false)] (fuel := 2) (by kernel_rfl) ?_
      apply Exists.intro; refine ⟨?_, ⟨hm3, hk'⟩, ?_⟩
      · iterate 7 ((first | (apply yieldN; (· (simp only [List.getElem?_toArray, List.getElem?_cons_succ, List.getElem?_cons_zero]; try rfl)); (· rfl)) | ((first | apply yieldP | apply yieldL); (· (simp only [List.getElem?_toArray, List.getElem?_cons_succ, List.getElem?_cons_zero]; try rfl)); (· rfl); (· (intros; go_simp; try with_reducible rfl)))); (· (simp only [Act.put, List.setIfInBounds_toArray, List.set_cons_zero, List.set_cons_succ]; try rfl)))
        exact rfl
      refine wpAnyM_one (fuel := 1) (i := 7) (by kernel_rfl) (by rfl) (fun K hK => ?_)    -- CALL
      go_wp2_with fail
      refine HNA2.out.mono ?_
      rintro e w4 ⟨rfl, hu4⟩
      have HX4 := Lib.hid (HX.out.keep hu4)
      have hm4 := upd_cell hu4 hm3
      have hk4 := HB.out.2.1 w4 _ ((Upd.refl w3 []).drew.trans hu4) us HUP.out
      clear hm3 hk hk' hu4 HNA2 HX
      go_wp2_with fail
      refine hK _ _ ⟨hm4, hk4⟩ ?_
      clear hK
      refine wpAnyM_one (fuel := 0) (i := 8) (by kernel_rfl) (by rfl) (fun K hK => ?_)    -- CALL
      go_wp2_with fail
      refine (remove_any HX4.out ⟨(nameP s.data.toList).toArray⟩ HOK.out HB.out.1).mono ?_
      rintro e w5 ⟨rfl, nv5, P5, hP5, hnv5, hS5⟩
      obtain ⟨h5, hm5, hlk5⟩ := HB.out.2.2 w5 _ nv5 P5 hP5 hnv5 hS5
      have H5 := Lib.hid h5
      have HP5 := Lib.hid hP5
      have hk5 := hlk5 w5 _ (Upd.refl w5 []) us HUP.out
      clear hS5 hnv5 hP5 h5 hlk5 hm4 hk4
      go_wp2_with fail
      refine hK _ _ ⟨hm5, hk5⟩ ?_
      clear hK
      refine wpAnyM_done (by kernel_rfl) ?_ _
      go_wp2_with fail
      go_end0
      rw [HE.out]
      exact ⟨rfl, P5, HP5.out, H5.out⟩
end
end Go.Proofs.YtjeaoopamebgjaaDoor
