/-
  A tree: the walk of read.
-/
import Derived.Test.YtjeaoopamebgjaaDoorTreeE
import Derived.Deep.DeepCutAuto
import Derived.Lib.ItoaWalk
namespace Go.Av
/-- What is read. -/
def readT (S : TreeS) (o : OpS) : ResS := match lookT o.p S.l with
  | none => failS 4
  | some n => ⟨0, o.path, if o.kind == 5 then n.data else ⟨#[]⟩, if o.kind == 7 then n.names else [], n.st⟩
end Go.Av
namespace Go.Proofs.YtjeaoopamebgjaaDoor
open Go.RowKit Go.Av
theorem node_cells {W : World} {x : Nat} {n : NodeS} {nv : Value} (hb : W.heap[x]? = some (.cells (n.cells nv) 51 (0, 0))) :
    W.cell? ⟨x, 0, none⟩ = some (.int .i64 n.made) ∧ W.cell? ⟨x, 1, none⟩ = some (.int .i64 n.changed) ∧ W.cell? ⟨x, 2, none⟩ = some (.int .i64 n.ver) ∧ W.cell? ⟨x, 3, none⟩ = some (.int .i64 n.kids) ∧ W.cell? ⟨x, 4, none⟩ = some (.int .i64 n.owner) ∧ W.cell? ⟨x, 5, none⟩ = some (.int .i64 (n.data.size : Nat)) ∧ W.cell? ⟨x, 6, none⟩ = some (.int .i64 (n.names.length : Nat)) ∧ W.cell? ⟨x, 7, none⟩ = some (.string n.data) ∧ W.cell? ⟨x, 8, none⟩ = some (.int .i64 n.next) ∧ W.cell? ⟨x, 9, none⟩ = some nv :=
  ⟨cell_of hb 0 rfl, cell_of hb 1 rfl, cell_of hb 2 rfl, cell_of hb 3 rfl, cell_of hb 4 rfl, cell_of hb 5 rfl, cell_of hb 6 rfl, cell_of hb 7 rfl, cell_of hb 8 rfl, cell_of hb 9 rfl⟩
section
variable {w0 w : World} {t : Nat} {S : TreeS} {P P' : List PRow} {R : List Thing} {rows : List (Value × Bs)}
set_option maxRecDepth 100000 in
set_option maxHeartbeats 4000000 in
theorem read_any (h : Sep w0 w (ThPool P :: ThTree t S P :: R) rows) (o : OpS) (hok : ∀ e ∈ S.l, NodeOk e.2) :
    Calls Tryd.prog 19 #[.pointer (some ⟨t, 0, none⟩), o.val] w (ResPost w0 t S P R rows (readT S o)) := by
  have hA := ((h.newCell (.cells (opCells o) 25)).newCell (.cells ((failS 0).cells (.slice none 0 0)) 42)).perm (perm22 _ _ _ _ _)
  obtain ⟨m, -, hm1, hnone, hsome, -⟩ := tree_facts (hA.perm (List.Perm.swap _ _ _))
  have HB := Lib.hid (show (w.alloc (.cells (opCells o) 25)).heap.size = w.heap.size + 1 by simp)
  obtain ⟨rr, hrr⟩ : ∃ rr, readT S o = rr := ⟨_, rfl⟩
  have HR := Lib.hid hrr
  unfold readT at HR
  rw [hrr]
  have hno := hnone o.path
  have hso := hsome o.path
  have HRI := Lib.hid (tree_rise (hA.perm (List.Perm.swap _ _ _)))
  obtain ⟨kind, path, data, ver, flags⟩ := o
  unfold OpS.val
  unfold OpS.p at HR
  unfold opCells ResS.cells failS noSt at hA hm1 hno hso
  unfold opCells at HB
  dsimp only at hA hm1 hno hso HB HR ⊢
  rw [HB.out] at hA
  have HA := Lib.hid hA
  clear h hA hrr hnone hsome
  obtain ⟨wA, hwA⟩ : ∃ wA, wA = (w.alloc (.cells #[.int .i64 kind, .string path, .string data, .int .i64 ver, .int .i64 flags] 25)).alloc (.cells #[.int .i64 0, .string ⟨#[]⟩, .string ⟨#[]⟩, .slice none 0 0, .int .i64 0, .int .i64 0, .int .i64 0, .int .i64 0, .int .i64 0, .int .i64 0, .int .i64 0] 42) := ⟨_, rfl⟩
  rw [← hwA] at HA hm1 hno hso
  have HWA := Lib.hid hwA
  clear hwA
  have e3 := HA.out.block (b := w.heap.size) (o := .cells #[.int .i64 kind, .string path, .string data, .int .i64 ver, .int .i64 flags] 25 (0, 0)) (by simp)
  have o1 := cell_of e3 1 (v := .string path) rfl
  have HE3 := Lib.hid e3
  clear e3
  cases hlk : lookT path.data.toList S.l with
  | none =>
    have hk := hno hlk wA rfl
    have hkd := hno hlk wA.drew rfl
    have HC := Lib.hid (show rr = failS 4 by rw [← HR.out, hlk])
    have HFL := Lib.hid (show Calls Tryd.prog _ _ _ (fun e w' => e = .returned (.agg #[.int .i64 4, .string ⟨#[]⟩, .string ⟨#[]⟩, .slice none 0 0, .int .i64 0, .int .i64 0, .int .i64 0, .int .i64 0, .int .i64 0, .int .i64 0, .int .i64 0]) ∧ _) from fail_any 4 wA.drew)
    clear hlk HR hno hso
    go_enter Tryd.func19, Tryd.ntmps19
    go_wp2_with fail
    rw [← HWA.out]
    refine wp_region_M (fun W => W.cell? ⟨t, 1, none⟩ = some (.map (some m)) ∧ W.cell? ⟨w.heap.size, 1, none⟩ = some (.string path) ∧ (Instr.lookup 43 (.map (some m)) (.string path) false).run Tryd.prog W = .ok (.pointer none) W) 8 (by kernel_rfl) ?_
    refine wpAnyM_take (by kernel_rfl) (by intro c a d v w h; cases d <;> exact h) [(0, false), (1, false), (2, false), (3, true), (4, false), (5, true), (6, true), (7, false)] (fuel := 0) (by kernel_rfl) ?_
    apply Exists.intro; refine ⟨?_, ⟨hm1, o1, hkd⟩, ?_⟩
    · iterate 8 ((first | (apply yieldN; (· (simp only [List.getElem?_toArray, List.getElem?_cons_succ, List.getElem?_cons_zero]; try rfl)); (· rfl)) | ((first | apply yieldP | apply yieldL); (· (simp only [List.getElem?_toArray, List.getElem?_cons_succ, List.getElem?_cons_zero]; try rfl)); (· rfl); (· (intros; go_simp; try with_reducible rfl)))); (· (simp only [Act.put, List.setIfInBounds_toArray, List.set_cons_zero, List.set_cons_succ]; try rfl)))
      exact rfl
    refine wpAnyM_done (by kernel_rfl) ?_ _
    go_wp2_with fail
    refine HFL.out.mono ?_
    rintro e w2 ⟨rfl, hu2⟩
    have H2 := Lib.hid ((HA.out.drew.keep hu2).pick 2 rfl rfl)
    clear hu2 HFL o1 hm1 hk hkd
    have r0 := cell_of H2.out.blk 0 (v := .int .i64 0) rfl
    have g0 := frz_of H2.out.blk 0
    have r1 := cell_of H2.out.blk 1 (v := .string ⟨#[]⟩) rfl
    have g1 := frz_of H2.out.blk 1
    have r2 := cell_of H2.out.blk 2 (v := .string ⟨#[]⟩) rfl
    have g2 := frz_of H2.out.blk 2
    have r3 := cell_of H2.out.blk 3 (v := .slice none 0 0) rfl
    have g3 := frz_of H2.out.blk 3
    have r4 := cell_of H2.out.blk 4 (v := .int .i64 0) rfl
    have g4 := frz_of H2.out.blk 4
    have r5 := cell_of H2.out.blk 5 (v := .int .i64 0) rfl
    have g5 := frz_of H2.out.blk 5
    have r6 := cell_of H2.out.blk 6 (v := .int .i64 0) rfl
    have g6 := frz_of H2.out.blk 6
    have r7 := cell_of H2.out.blk 7 (v := .int .i64 0) rfl
    have g7 := frz_of H2.out.blk 7
    have r8 := cell_of H2.out.blk 8 (v := .int .i64 0) rfl
    have g8 := frz_of H2.out.blk 8
    have r9 := cell_of H2.out.blk 9 (v := .int .i64 0) rfl
    have g9 := frz_of H2.out.blk 9
    have r10 := cell_of H2.out.blk 10 (v := .int .i64 0) rfl
    have g10 := frz_of H2.out.blk 10
    have HF := Lib.hid (H2.out.setAll [.int .i64 4, .string ⟨#[]⟩, .string ⟨#[]⟩, .slice none 0 0, .int .i64 0, .int .i64 0, .int .i64 0, .int .i64 0, .int .i64 0, .int .i64 0, .int .i64 0] rfl)
    go_wp2_with fail
    refine bodyPost_ret (ret_cell rfl _ rfl HF.out.blk Tryd.underlying42 (by kernel_rfl)) rfl ?_
    have hS := (HF.out.drop.pick 2 rfl rfl).drop
    rw [HC.out]
    exact ⟨.slice none 0 0, (1, .slice none 0 0, []) :: P, rfl, fun q hq => List.mem_cons_of_mem _ hq, List.mem_cons_self .., (tree_mono ((hS.poolNil 1).perm (List.Perm.swap _ _ _)) (P' := (1, .slice none 0 0, []) :: P) (fun q hq => List.mem_cons_of_mem _ hq)).perm (List.Perm.swap _ _ _)⟩
  | some n =>
    obtain ⟨x, nv, hnv, hb, hk0⟩ := hso n hlk
    have hkd := hk0 wA.drew rfl
    have HNC := Lib.hid (node_cells (W := wA.drew) hb)
    obtain ⟨n0, n1, n2, n3, n4, n5, n6, n7, n8, n9⟩ := HNC.out
    have HC := Lib.hid (show (⟨0, path, if kind == 5 then n.data else ⟨#[]⟩, if kind == 7 then n.names else [], n.st⟩ : ResS) = rr by rw [← HR.out, hlk])
    have HOK := Lib.hid (hok _ ((look_mem HRI.out).1 hlk))
    have HNV := Lib.hid hnv
    have HBN := Lib.hid hb
    clear hlk HR hno hso hk0 hnv hb
    go_enter Tryd.func19, Tryd.ntmps19
    go_wp2_with fail
    rw [← HWA.out]
    refine wp_region_M (fun W => W.cell? ⟨t, 1, none⟩ = some (.map (some m)) ∧ W.cell? ⟨w.heap.size, 1, none⟩ = some (.string path) ∧ (Instr.lookup 43 (.map (some m)) (.string path) false).run Tryd.prog W = .ok (.pointer (some ⟨x, 0, none⟩)) W) 8 (by kernel_rfl) ?_
    refine wpAnyM_take (by kernel_rfl) (by intro c a d v w h; cases d <;> exact h) [(0, false), (1, false), (2, false), (3, true), (4, false), (5, true), (6, true), (7, false)] (fuel := 0) (by kernel_rfl) ?_
    apply Exists.intro; refine ⟨?_, ⟨hm1, o1, hkd⟩, ?_⟩
    · iterate 8 ((first | (apply yieldN; (· (simp only [List.getElem?_toArray, List.getElem?_cons_succ, List.getElem?_cons_zero]; try rfl)); (· rfl)) | ((first | apply yieldP | apply yieldL); (· (simp only [List.getElem?_toArray, List.getElem?_cons_succ, List.getElem?_cons_zero]; try rfl)); (· rfl); (· (intros; go_simp; try with_reducible rfl)))); (· (simp only [Act.put, List.setIfInBounds_toArray, List.set_cons_zero, List.set_cons_succ]; try rfl)))
      exact rfl
    refine wpAnyM_done (by kernel_rfl) ?_ _
    go_wp2_with fail
    refine wp_region_M (fun W => W.cell? ⟨w.heap.size, 1, none⟩ = some (.string path) ∧ W.cell? ⟨x, 0, none⟩ = some (.int .i64 n.made) ∧ W.cell? ⟨x, 1, none⟩ = some (.int .i64 n.changed) ∧ W.cell? ⟨x, 2, none⟩ = some (.int .i64 n.ver) ∧ W.cell? ⟨x, 3, none⟩ = some (.int .i64 n.kids) ∧ W.cell? ⟨x, 4, none⟩ = some (.int .i64 n.owner) ∧ W.cell? ⟨x, 5, none⟩ = some (.int .i64 (n.data.size : Nat)) ∧ W.cell? ⟨x, 6, none⟩ = some (.int .i64 (n.names.length : Nat))) 8 (by kernel_rfl) ?_
    refine wpAnyM_take (by kernel_rfl) (by intro c a d v w h; cases d <;> exact h) [(0, false), (1, true), (2, false), (3, false), (4, false), (5, true), (6, false)] (fuel := 2) (by kernel_rfl) ?_
    apply Exists.intro; refine ⟨?_, ⟨o1, n0, n1, n2, n3, n4, n5, n6⟩, ?_⟩
    · iterate 7 ((first | (apply yieldN; (· (simp only [List.getElem?_toArray, List.getElem?_cons_succ, List.getElem?_cons_zero]; try rfl)); (· rfl)) | ((first | apply yieldP | apply yieldL); (· (simp only [List.getElem?_toArray, List.getElem?_cons_succ, List.getElem?_cons_zero]; try rfl)); (· rfl); (· (intros; go_simp; try with_reducible rfl)))); (· (simp only [Act.put, List.setIfInBounds_toArray, List.set_cons_zero, List.set_cons_succ]; try rfl)))
      exact rfl
    refine wpAnyM_one (fuel := 1) (i := 7) (by kernel_rfl) (by rfl) (fun K hK => ?_)    -- alloc
    go_wp2_with fail
    have hu6 := ((Upd.alloc0 wA (.cells #[.int .i64 0, .string ⟨#[]⟩, .string ⟨#[]⟩, .slice none 0 0, .int .i64 0, .int .i64 0, .int .i64 0, .int .i64 0, .int .i64 0, .int .i64 0, .int .i64 0] 42) []).drew).drew
    have h6 := ((HA.out.newCell (.cells #[.int .i64 0, .string ⟨#[]⟩, .string ⟨#[]⟩, .slice none 0 0, .int .i64 0, .int .i64 0, .int .i64 0, .int .i64 0, .int .i64 0, .int .i64 0, .int .i64 0] 42)).drew).drew
    obtain ⟨b6, hb6⟩ : ∃ b6, b6 = wA.heap.size := ⟨_, rfl⟩
    obtain ⟨w6, hw6⟩ : ∃ w6, w6 = ((wA.alloc (.cells #[.int .i64 0, .string ⟨#[]⟩, .string ⟨#[]⟩, .slice none 0 0, .int .i64 0, .int .i64 0, .int .i64 0, .int .i64 0, .int .i64 0, .int .i64 0, .int .i64 0] 42)).drew).drew := ⟨_, rfl⟩
    have HLT := Lib.hid (show x < b6 by rw [hb6]; exact lt_of_heap HBN.out)
    have HLT10 := Lib.hid (show w.heap.size + 1 < b6 by rw [hb6]; exact lt_of_heap (HA.out.block (b := w.heap.size + 1) (o := .cells #[.int .i64 0, .string ⟨#[]⟩, .string ⟨#[]⟩, .slice none 0 0, .int .i64 0, .int .i64 0, .int .i64 0, .int .i64 0, .int .i64 0, .int .i64 0, .int .i64 0] 42 (0, 0)) (by simp)))
    have HSZ := Lib.hid (show b6 < w6.heap.size by rw [hw6, hb6]; show _ < (wA.alloc _).heap.size; simp)
    rw [← hw6] at hu6 h6 ⊢
    rw [← hb6] at h6 ⊢
    refine hK _ _ ⟨upd_cell hu6 o1, upd_cell hu6 n0, upd_cell hu6 n1, upd_cell hu6 n2, upd_cell hu6 n3, upd_cell hu6 n4, upd_cell hu6 n5, upd_cell hu6 n6⟩ ?_
    clear hK
    have c0 := upd_cell hu6 (cell_of HE3.out 0 (v := .int .i64 kind) rfl)
    have c7 := upd_cell hu6 n7
    have c9 := upd_cell hu6 n9
    have H6 := Lib.hid h6
    clear hw6 hb6 hu6 h6 hkd hm1 o1 n0 n1 n2 n3 n4 n5 n6 n7 n8 n9 HNC HBN
    have r0 := cell_of H6.out.blk 0 (v := .int .i64 0) rfl
    have g0 := frz_of H6.out.blk 0
    have r1 := cell_of H6.out.blk 1 (v := .string ⟨#[]⟩) rfl
    have g1 := frz_of H6.out.blk 1
    have r2 := cell_of H6.out.blk 2 (v := .string ⟨#[]⟩) rfl
    have g2 := frz_of H6.out.blk 2
    have r3 := cell_of H6.out.blk 3 (v := .slice none 0 0) rfl
    have g3 := frz_of H6.out.blk 3
    have r4 := cell_of H6.out.blk 4 (v := .int .i64 0) rfl
    have g4 := frz_of H6.out.blk 4
    have r5 := cell_of H6.out.blk 5 (v := .int .i64 0) rfl
    have g5 := frz_of H6.out.blk 5
    have r6 := cell_of H6.out.blk 6 (v := .int .i64 0) rfl
    have g6 := frz_of H6.out.blk 6
    have r7 := cell_of H6.out.blk 7 (v := .int .i64 0) rfl
    have g7 := frz_of H6.out.blk 7
    have r8 := cell_of H6.out.blk 8 (v := .int .i64 0) rfl
    have g8 := frz_of H6.out.blk 8
    have r9 := cell_of H6.out.blk 9 (v := .int .i64 0) rfl
    have g9 := frz_of H6.out.blk 9
    have r10 := cell_of H6.out.blk 10 (v := .int .i64 0) rfl
    have g10 := frz_of H6.out.blk 10
    have H7 := Lib.hid (H6.out.setAll [.int .i64 0, .string path, .string ⟨#[]⟩, .slice none 0 0, .int .i64 n.made, .int .i64 n.changed, .int .i64 n.ver, .int .i64 n.kids, .int .i64 n.owner, .int .i64 (n.data.size : Nat), .int .i64 (n.names.length : Nat)] rfl)
    have HU7 := Lib.hid (upd_setCells w6 b6 0 [.int .i64 0, .string path, .string ⟨#[]⟩, .slice none 0 0, .int .i64 n.made, .int .i64 n.changed, .int .i64 n.ver, .int .i64 n.kids, .int .i64 n.owner, .int .i64 (n.data.size : Nat), .int .i64 (n.names.length : Nat)])
    refine wpAnyM_of_any _ _ _ _ (by decide) ?_
    refine wpAny_list [8] (fuel := 0) (by kernel_rfl) ?_
    simp only [List.filterMap_cons, List.filterMap_nil, List.getElem?_toArray, List.getElem?_cons_succ, List.getElem?_cons_zero]
    go_upto_region 5 with fail
    go_name_world w7 hw7
    have H7 := Lib.hid (show Sep w0 w7 _ rows from by rw [← hw7]; exact H7.out)
    have HU7 := Lib.hid (show Upd w6 w7 [b6] [b6] from by rw [← hw7]; exact HU7.out)
    have c7 := (World.cell?_of_block (w := w6) (w' := w7) (a := ⟨x, 7, none⟩) (HU7.out.keep x (Nat.lt_trans HLT.out HSZ.out) (by have := HLT.out; simp; omega))).trans c7
    have c9 := (World.cell?_of_block (w := w6) (w' := w7) (a := ⟨x, 9, none⟩) (HU7.out.keep x (Nat.lt_trans HLT.out HSZ.out) (by have := HLT.out; simp; omega))).trans c9
    clear hw7 c0 r0 r1 r2 r3 r4 r5 r6 r7 r8 r9 r10 g0 g1 g2 g3 g4 g5 g6 g7 g8 g9 g10
    have e3 := H7.out.block (b := w.heap.size) (o := .cells #[.int .i64 kind, .string path, .string data, .int .i64 ver, .int .i64 flags] 25 (0, 0)) (by simp)
    have c0 := cell_of e3 0 (v := .int .i64 kind) rfl
    clear e3
    have r0 := cell_of H7.out.blk 0 (v := .int .i64 0) rfl
    have r1 := cell_of H7.out.blk 1 (v := .string path) rfl
    have r2 := cell_of H7.out.blk 2 (v := .string ⟨#[]⟩) rfl
    have r3 := cell_of H7.out.blk 3 (v := .slice none 0 0) rfl
    have r4 := cell_of H7.out.blk 4 (v := .int .i64 n.made) rfl
    have r5 := cell_of H7.out.blk 5 (v := .int .i64 n.changed) rfl
    have r6 := cell_of H7.out.blk 6 (v := .int .i64 n.ver) rfl
    have r7 := cell_of H7.out.blk 7 (v := .int .i64 n.kids) rfl
    have r8 := cell_of H7.out.blk 8 (v := .int .i64 n.owner) rfl
    have r9 := cell_of H7.out.blk 9 (v := .int .i64 (n.data.size : Nat)) rfl
    have r10 := cell_of H7.out.blk 10 (v := .int .i64 (n.names.length : Nat)) rfl
    by_cases hk5 : kind = 5
    · subst hk5
      have g2 := frz_of H7.out.blk 2
      have HX := H7
      have HY := Lib.hid (H7.out.set 2 (.string n.data))
      have HBT := (HX.out.pick 3 rfl rfl).blk
      have hne1 : w.heap.size + 1 ≠ b6 := by have := HLT10.out; omega
      have hne2 : b6 ≠ w.heap.size + 1 := by have := HLT10.out; omega
      have s0 := cell_of HBT 0 (v := .int .i64 0) rfl
      have t0 := frz_of HBT 0
      have s1 := cell_of HBT 1 (v := .string ⟨#[]⟩) rfl
      have t1 := frz_of HBT 1
      have s2 := cell_of HBT 2 (v := .string ⟨#[]⟩) rfl
      have t2 := frz_of HBT 2
      have s3 := cell_of HBT 3 (v := .slice none 0 0) rfl
      have t3 := frz_of HBT 3
      have s4 := cell_of HBT 4 (v := .int .i64 0) rfl
      have t4 := frz_of HBT 4
      have s5 := cell_of HBT 5 (v := .int .i64 0) rfl
      have t5 := frz_of HBT 5
      have s6 := cell_of HBT 6 (v := .int .i64 0) rfl
      have t6 := frz_of HBT 6
      have s7 := cell_of HBT 7 (v := .int .i64 0) rfl
      have t7 := frz_of HBT 7
      have s8 := cell_of HBT 8 (v := .int .i64 0) rfl
      have t8 := frz_of HBT 8
      have s9 := cell_of HBT 9 (v := .int .i64 0) rfl
      have t9 := frz_of HBT 9
      have s10 := cell_of HBT 10 (v := .int .i64 0) rfl
      have t10 := frz_of HBT 10
      have HF := Lib.hid ((HY.out.pick 3 rfl rfl).setAll [.int .i64 0, .string path, .string n.data, (.slice none 0 0), .int .i64 n.made, .int .i64 n.changed, .int .i64 n.ver, .int .i64 n.kids, .int .i64 n.owner, .int .i64 (n.data.size : Nat), .int .i64 (n.names.length : Nat)] rfl)
      clear HBT
      go_wp2_with fail
      refine bodyPost_ret (ret_cell rfl _ rfl HF.out.blk Tryd.underlying42 (by kernel_rfl)) rfl ?_
      have hS := (HF.out.drop.drop.pick 2 rfl rfl).drop
      rw [← HC.out]
      exact ⟨.slice none 0 0, (1, .slice none 0 0, []) :: P, rfl, fun q hq => List.mem_cons_of_mem _ hq, List.mem_cons_self .., (tree_mono ((hS.poolNil 1).perm (List.Perm.swap _ _ _)) (P' := (1, .slice none 0 0, []) :: P) (fun q hq => List.mem_cons_of_mem _ hq)).perm (List.Perm.swap _ _ _)⟩
    by_cases hk7 : kind = 7
    · subst hk7
      have HC := Lib.hid (show (⟨0, path, ⟨#[]⟩, n.names, n.st⟩ : ResS) = rr from HC.out)
      obtain ⟨E, hE⟩ := (H7.out.pick 1 rfl rfl).poolGet HNV.out
      obtain ⟨na, nn, nc, rfl, -⟩ := id hE
      have HCL := Lib.hid (cloneS_any _ n.names E w7 hE (by have := HOK.out.few; omega))
      clear hE
      go_wp2_with fail
      refine HCL.out.mono ?_
      rintro e w8 ⟨v2, D2, rfl, ho2, hu2⟩
      obtain ⟨a2, n2, k2, rfl, -⟩ := id ho2
      have h8 := ((((H7.out.addRow ho2 hu2).pick 2 rfl rfl).perm (List.Perm.swap _ _ _)).poolRow).pick 2 rfl rfl
      have HX := Lib.hid ((tree_mono h8 (P' := (1, .slice a2 n2 k2, n.names.map sv) :: P) (fun q hq => List.mem_cons_of_mem _ hq)).perm ((List.Perm.cons _ (List.Perm.swap _ _ _)).trans (List.perm_middle (l₁ := [_, _])).symm))
      clear r0 r1 r2 r3 r4 r5 r6 r7 r8 r9 r10 c0 c7 c9 h8 ho2 hu2 HCL
      have r0 := cell_of HX.out.blk 0 (v := .int .i64 0) rfl
      have r1 := cell_of HX.out.blk 1 (v := .string path) rfl
      have r2 := cell_of HX.out.blk 2 (v := .string ⟨#[]⟩) rfl
      have r3 := cell_of HX.out.blk 3 (v := .slice none 0 0) rfl
      have r4 := cell_of HX.out.blk 4 (v := .int .i64 n.made) rfl
      have r5 := cell_of HX.out.blk 5 (v := .int .i64 n.changed) rfl
      have r6 := cell_of HX.out.blk 6 (v := .int .i64 n.ver) rfl
      have r7 := cell_of HX.out.blk 7 (v := .int .i64 n.kids) rfl
      have r8 := cell_of HX.out.blk 8 (v := .int .i64 n.owner) rfl
      have r9 := cell_of HX.out.blk 9 (v := .int .i64 (n.data.size : Nat)) rfl
      have r10 := cell_of HX.out.blk 10 (v := .int .i64 (n.names.length : Nat)) rfl
      have g3 := frz_of HX.out.blk 3
      have HY := Lib.hid (HX.out.set 3 (.slice a2 n2 k2))
      have HBT := (HX.out.pick 3 rfl rfl).blk
      have hne1 : w.heap.size + 1 ≠ b6 := by have := HLT10.out; omega
      have hne2 : b6 ≠ w.heap.size + 1 := by have := HLT10.out; omega
      have s0 := cell_of HBT 0 (v := .int .i64 0) rfl
      have t0 := frz_of HBT 0
      have s1 := cell_of HBT 1 (v := .string ⟨#[]⟩) rfl
      have t1 := frz_of HBT 1
      have s2 := cell_of HBT 2 (v := .string ⟨#[]⟩) rfl
      have t2 := frz_of HBT 2
      have s3 := cell_of HBT 3 (v := .slice none 0 0) rfl
      have t3 := frz_of HBT 3
      have s4 := cell_of HBT 4 (v := .int .i64 0) rfl
      have t4 := frz_of HBT 4
      have s5 := cell_of HBT 5 (v := .int .i64 0) rfl
      have t5 := frz_of HBT 5
      have s6 := cell_of HBT 6 (v := .int .i64 0) rfl
      have t6 := frz_of HBT 6
      have s7 := cell_of HBT 7 (v := .int .i64 0) rfl
      have t7 := frz_of HBT 7
      have s8 := cell_of HBT 8 (v := .int .i64 0) rfl
      have t8 := frz_of HBT 8
      have s9 := cell_of HBT 9 (v := .int .i64 0) rfl
      have t9 := frz_of HBT 9
      have s10 := cell_of HBT 10 (v := .int .i64 0) rfl
      have t10 := frz_of HBT 10
      have HF := Lib.hid ((HY.out.pick 3 rfl rfl).setAll [.int .i64 0, .string path, .string ⟨#[]⟩, (.slice a2 n2 k2), .int .i64 n.made, .int .i64 n.changed, .int .i64 n.ver, .int .i64 n.kids, .int .i64 n.owner, .int .i64 (n.data.size : Nat), .int .i64 (n.names.length : Nat)] rfl)
      clear HBT
      go_wp2_with fail
      refine bodyPost_ret (ret_cell rfl _ rfl HF.out.blk Tryd.underlying42 (by kernel_rfl)) rfl ?_
      have hS := (HF.out.drop.drop.pick 2 rfl rfl).drop
      rw [← HC.out]
      exact ⟨.slice a2 n2 k2, _, rfl, fun q hq => List.mem_cons_of_mem _ hq, List.mem_cons_self .., hS⟩
    have q5 : (kind == 5) = false := by rw [beq_eq_false_iff_ne]; exact hk5
    have q7 : (kind == 7) = false := by rw [beq_eq_false_iff_ne]; exact hk7
    have HX := H7
    have HY := H7
    have HC := Lib.hid (show (⟨0, path, ⟨#[]⟩, [], n.st⟩ : ResS) = rr by have := HC.out; rw [q5, q7] at this; exact this)
    have HBT := (HX.out.pick 3 rfl rfl).blk
    have hne1 : w.heap.size + 1 ≠ b6 := by have := HLT10.out; omega
    have hne2 : b6 ≠ w.heap.size + 1 := by have := HLT10.out; omega
    have s0 := cell_of HBT 0 (v := .int .i64 0) rfl
    have t0 := frz_of HBT 0
    have s1 := cell_of HBT 1 (v := .string ⟨#[]⟩) rfl
    have t1 := frz_of HBT 1
    have s2 := cell_of HBT 2 (v := .string ⟨#[]⟩) rfl
    have t2 := frz_of HBT 2
    have s3 := cell_of HBT 3 (v := .slice none 0 0) rfl
    have t3 := frz_of HBT 3
    have s4 := cell_of HBT 4 (v := .int .i64 0) rfl
    have t4 := frz_of HBT 4
    have s5 := cell_of HBT 5 (v := .int .i64 0) rfl
    have t5 := frz_of HBT 5
    have s6 := cell_of HBT 6 (v := .int .i64 0) rfl
    have t6 := frz_of HBT 6
    have s7 := cell_of HBT 7 (v := .int .i64 0) rfl
    have t7 := frz_of HBT 7
    have s8 := cell_of HBT 8 (v := .int .i64 0) rfl
    have t8 := frz_of HBT 8
    have s9 := cell_of HBT 9 (v := .int .i64 0) rfl
    have t9 := frz_of HBT 9
    have s10 := cell_of HBT 10 (v := .int .i64 0) rfl
    have t10 := frz_of HBT 10
    have HF := Lib.hid ((HY.out.pick 3 rfl rfl).setAll [.int .i64 0, .string path, .string ⟨#[]⟩, (.slice none 0 0), .int .i64 n.made, .int .i64 n.changed, .int .i64 n.ver, .int .i64 n.kids, .int .i64 n.owner, .int .i64 (n.data.size : Nat), .int .i64 (n.names.length : Nat)] rfl)
    clear HBT
    go_wp2_with fail
    refine bodyPost_ret (ret_cell rfl _ rfl HF.out.blk Tryd.underlying42 (by kernel_rfl)) rfl ?_
    have hS := (HF.out.drop.drop.pick 2 rfl rfl).drop
    rw [← HC.out]
    exact ⟨.slice none 0 0, (1, .slice none 0 0, []) :: P, rfl, fun q hq => List.mem_cons_of_mem _ hq, List.mem_cons_self .., (tree_mono ((hS.poolNil 1).perm (List.Perm.swap _ _ _)) (P' := (1, .slice none 0 0, []) :: P) (fun q hq => List.mem_cons_of_mem _ hq)).perm (List.Perm.swap _ _ _)⟩
end
end Go.Proofs.YtjeaoopamebgjaaDoor
