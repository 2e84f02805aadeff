/-
  Texts of this claim, laid together.
-/
import Derived.Test.YtjeaoopamebgjaaGreatDoorMg7
set_option linter.unusedVariables false
set_option linter.unusedSimpArgs false

/-
  The laws of chapter 12 on multiz: trees alike.
-/
set_option linter.unusedSimpArgs false
namespace Go.Av
open Go.RowKit
/-- The parts of an entry's cells. -/
theorem EntL.parts {P : List PRow} {l : NoL} {xs : List Value} (h : EntL P l xs) {i : Nat} (hi : i < l.length) : ∃ nv, (1, nv, l[i].2.names.map sv) ∈ P ∧ xs[i * 11]? = some (sv l[i].1) ∧ ∀ j v, (l[i].2.cells nv).toList[j]? = some v → xs[i * 11 + 1 + j]? = some v := by
  obtain ⟨nv, h1, h2⟩ := h.at hi
  refine ⟨nv, h1, h2 0 _ rfl, fun j v hv => ?_⟩
  rw [show i * 11 + 1 + j = i * 11 + (j + 1) by omega]
  exact h2 (j + 1) v hv
end Go.Av
namespace Go.Proofs.YtjeaoopamebgjaaGreatDoor
open Go.RowKit Go.Av
section
variable {w0 w : World} {b b2 : Nat} {S : TreeS} {P P' : List PRow} {R : List Thing} {rows : List (Value × Bs)}
theorem own_read {a : Option Addr} {n c K : Nat} {xs : List Value} (h : Sep w0 w (ThRow K (.slice a n c) xs :: R) rows) : ∃ E, ReadRow w K (.slice a n c) xs E := by
  obtain ⟨D, hD⟩ := h.fst
  obtain ⟨E, hE, -⟩ := OwnRow.read hD
  exact ⟨E, hE⟩
set_option maxRecDepth 100000 in
set_option maxHeartbeats 4000000 in
theorem samet_any (h : Sep w0 w (ThPool w0 P :: ThRt b S P :: ThRt b2 S P :: R) rows) (hn : S.l.length ≤ 100000) :
    Calls Tryz.prog 15 #[.pointer (some ⟨b, 0, none⟩), .pointer (some ⟨b2, 0, none⟩)] w fun e w' => e = .returned (.bool true) ∧ Sep w0 w' (ThPool w0 P :: ThRt b S P :: ThRt b2 S P :: R) rows := by
  obtain ⟨a1, n1, c1, xs1, he1, rfl, hS⟩ := rt_open h.up1
  obtain ⟨a2, n2, c2, xs2, he2, rfl, hS⟩ := rt_open hS.up3
  have HX := Lib.hid hS
  have HE1 := Lib.hid he1
  have HE2 := Lib.hid he2
  have HN := Lib.hid hn
  have HFIN := Lib.hid (show ∀ W, Sep w0 W (ThCell b2 (.cells #[.int .i64 S.room, .slice a2 S.l.length c2] 69 (0, 0)) :: ThRow 11 (.slice a2 S.l.length c2) xs2 :: ThCell b (.cells #[.int .i64 S.room, .slice a1 S.l.length c1] 69 (0, 0)) :: ThRow 11 (.slice a1 S.l.length c1) xs1 :: ThPool w0 P :: R) rows → Sep w0 W (ThPool w0 P :: ThRt b S P :: ThRt b2 S P :: R) rows from fun W hW => by
    have h1 := rt_shut hW he2
    have h2 := rt_shut (Sep.up2 (Sep.up2 h1)) he1
    exact Sep.pm h2 3 [2, 0, 1] rfl rfl)
  clear h hS he1 he2 hn
  go_enter Tryz.func15, Tryz.ntmps15
  go_wp2_with (first | ((with_reducible apply sx_loadS HX); (· rfl); (· rfl); (· (first | exact sn_op | exact sn_res | exact sn_stat | exact sn_node | exact sn_reply | exact sn_req | exact sn_tree | exact sn_rnode | exact sn_rtree | exact sn_rent | exact sn_act)); (· (repeat (first | (with_reducible exact List.mem_cons_self ..) | (with_reducible apply List.mem_cons_of_mem)))); (· rfl); simp only [Act.put, List.setIfInBounds_toArray, List.set_cons_zero, List.set_cons_succ, List.drop_zero, List.drop_succ_cons, List.take_succ_cons, List.take_zero, List.toList_toArray, NodeS.cells, OpS.cells, ResS.cells]) | ((with_reducible apply sx_load HX); (· rfl); (· rfl); (· kernel_rfl); (· (repeat (first | (with_reducible exact List.mem_cons_self ..) | (with_reducible apply List.mem_cons_of_mem)))); (· rfl); simp only [Act.put, List.setIfInBounds_toArray, List.set_cons_zero, List.set_cons_succ]) | ((with_reducible apply sx_storeS HX); (· rfl); (· rfl); (· rfl); (· kernel_rfl); (· (repeat (first | (with_reducible exact Rep.here) | (with_reducible apply Rep.there)))); (· rfl); (· rfl); clear HX; intro w HX; simp only [Act.put, List.setIfInBounds_toArray, List.set_cons_zero, List.set_cons_succ, setMany, Nat.reduceAdd, NodeS.cells, OpS.cells, ResS.cells] at HX ⊢) | ((with_reducible apply sx_store1 HX); (· rfl); (· ((conv => lhs; whnf) <;> rfl)); (· rfl); (· rfl); (· kernel_rfl); (· (repeat (first | (with_reducible exact Rep.here) | (with_reducible apply Rep.there)))); (· rfl); (· rfl); clear HX; intro w HX; simp only [Act.put, List.setIfInBounds_toArray, List.set_cons_zero, List.set_cons_succ, NodeS.cells, OpS.cells, ResS.cells] at HX ⊢) | ((with_reducible apply sx_alloc HX); (· rfl); (· (first | exact z_op | exact z_res | exact z_node | exact z_reply | exact z_req | exact z_rnode | exact z_rreply)); clear HX; (first | (have hq := b9; clear hq; intro w b10 HX) | (have hq := b8; clear hq; intro w b9 HX) | (have hq := b7; clear hq; intro w b8 HX) | (have hq := b6; clear hq; intro w b7 HX) | (have hq := b5; clear hq; intro w b6 HX) | (have hq := b4; clear hq; intro w b5 HX) | (have hq := b3; clear hq; intro w b4 HX) | (have hq := b2; clear hq; intro w b3 HX) | (have hq := b; clear hq; intro w b2 HX) | intro w b HX); simp only [Act.put, List.setIfInBounds_toArray, List.set_cons_zero, List.set_cons_succ]) | ((with_reducible apply sx_boxS HX); (· rfl); (· rfl); clear HX; (first | (have hq := b9; clear hq; intro w b10 HX) | (have hq := b8; clear hq; intro w b9 HX) | (have hq := b7; clear hq; intro w b8 HX) | (have hq := b6; clear hq; intro w b7 HX) | (have hq := b5; clear hq; intro w b6 HX) | (have hq := b4; clear hq; intro w b5 HX) | (have hq := b3; clear hq; intro w b4 HX) | (have hq := b2; clear hq; intro w b3 HX) | (have hq := b; clear hq; intro w b2 HX) | intro w b HX); simp only [Act.put, List.setIfInBounds_toArray, List.set_cons_zero, List.set_cons_succ]) | ((with_reducible apply sx_box1 HX); (· ((conv => lhs; whnf) <;> rfl)); (· rfl); (· rfl); clear HX; (first | (have hq := b9; clear hq; intro w b10 HX) | (have hq := b8; clear hq; intro w b9 HX) | (have hq := b7; clear hq; intro w b8 HX) | (have hq := b6; clear hq; intro w b7 HX) | (have hq := b5; clear hq; intro w b6 HX) | (have hq := b4; clear hq; intro w b5 HX) | (have hq := b3; clear hq; intro w b4 HX) | (have hq := b2; clear hq; intro w b3 HX) | (have hq := b; clear hq; intro w b2 HX) | intro w b HX); simp only [Act.put, List.setIfInBounds_toArray, List.set_cons_zero, List.set_cons_succ]) | ((with_reducible apply sx_makeMap .string HX); (· rfl); clear HX; intro w mm HX; simp only [Act.put, List.setIfInBounds_toArray, List.set_cons_zero, List.set_cons_succ]) | ((with_reducible apply sx_oneS HX); (· (first | exact sl_str | exact sl_res | exact sl_op | exact sl_ent)); (· exact ⟨rfl, rfl⟩); (· rfl); (· rfl); clear HX; (first | (have hq := b9; clear hq; intro w b10 HX) | (have hq := b8; clear hq; intro w b9 HX) | (have hq := b7; clear hq; intro w b8 HX) | (have hq := b6; clear hq; intro w b7 HX) | (have hq := b5; clear hq; intro w b6 HX) | (have hq := b4; clear hq; intro w b5 HX) | (have hq := b3; clear hq; intro w b4 HX) | (have hq := b2; clear hq; intro w b3 HX) | (have hq := b; clear hq; intro w b2 HX) | intro w b HX); simp only [Act.put, List.setIfInBounds_toArray, List.set_cons_zero, List.set_cons_succ]) | ((with_reducible apply sx_one1 HX); (· (first | exact sl_str | exact sl_res | exact sl_op | exact sl_ent)); (· ((conv => lhs; whnf) <;> rfl)); (· rfl); clear HX; (first | (have hq := b9; clear hq; intro w b10 HX) | (have hq := b8; clear hq; intro w b9 HX) | (have hq := b7; clear hq; intro w b8 HX) | (have hq := b6; clear hq; intro w b7 HX) | (have hq := b5; clear hq; intro w b6 HX) | (have hq := b4; clear hq; intro w b5 HX) | (have hq := b3; clear hq; intro w b4 HX) | (have hq := b2; clear hq; intro w b3 HX) | (have hq := b; clear hq; intro w b2 HX) | intro w b HX); simp only [Act.put, List.setIfInBounds_toArray, List.set_cons_zero, List.set_cons_succ]) | ((with_reducible apply sx_app1 HX); (· (first | exact sl_str | exact sl_res | exact sl_op | exact sl_ent)); (· rfl); (· rfl); (· (repeat (first | (with_reducible exact Rem.here) | (with_reducible apply Rem.there)))); (· (repeat (first | (with_reducible exact List.mem_cons_self ..) | (with_reducible apply List.mem_cons_of_mem)))); (· rfl); (· rfl); (· exact HBD.out); clear HX; intro w av nv cv HX; simp only [Act.put, List.setIfInBounds_toArray, List.set_cons_zero, List.set_cons_succ]))
  refine wp_region_M (fun W => W = w.drew) 11 (by kernel_rfl) ?_
  replace HX := Lib.hid HX.out.drew
  generalize w.drew = w at HX ⊢
  refine wpAnyM_take (by kernel_rfl) (by intro c a d v w h; cases d <;> exact h) [(0, false), (1, false), (2, false), (3, true), (4, false), (5, false), (6, false), (7, false), (8, true), (9, false), (10, false)] (fuel := 0) (by kernel_rfl) ?_
  apply Exists.intro; refine ⟨?_, rfl, ?_⟩
  · iterate 11 ((first | ((apply yield_loadS HX); (· (simp only [List.getElem?_toArray, List.getElem?_cons_succ, List.getElem?_cons_zero]; try rfl)); (· rfl); (· rfl); (· (first | exact sn_op | exact sn_res | exact sn_stat | exact sn_node | exact sn_reply | exact sn_req | exact sn_tree | exact sn_rnode | exact sn_rtree | exact sn_rent | exact sn_act)); (· (repeat (first | (with_reducible exact List.mem_cons_self ..) | (with_reducible apply List.mem_cons_of_mem)))); (· rfl)) | ((apply yield_load HX); (· (simp only [List.getElem?_toArray, List.getElem?_cons_succ, List.getElem?_cons_zero]; try rfl)); (· rfl); (· rfl); (· kernel_rfl); (· (repeat (first | (with_reducible exact List.mem_cons_self ..) | (with_reducible apply List.mem_cons_of_mem)))); (· rfl)) | ((apply yield_loadAt hl); (· (simp only [List.getElem?_toArray, List.getElem?_cons_succ, List.getElem?_cons_zero]; try rfl)); (· rfl); (· rfl)) | ((apply yield_loadAt hl2); (· (simp only [List.getElem?_toArray, List.getElem?_cons_succ, List.getElem?_cons_zero]; try rfl)); (· rfl); (· rfl)) | ((apply yield_loadAt hl3); (· (simp only [List.getElem?_toArray, List.getElem?_cons_succ, List.getElem?_cons_zero]; try rfl)); (· rfl); (· rfl)) | ((apply yield_loadAt hl4); (· (simp only [List.getElem?_toArray, List.getElem?_cons_succ, List.getElem?_cons_zero]; try rfl)); (· rfl); (· rfl)) | (apply yieldN; (· (simp only [List.getElem?_toArray, List.getElem?_cons_succ, List.getElem?_cons_zero]; try rfl)); (· rfl)) | ((first | apply yieldP | apply yieldL); (· (simp only [List.getElem?_toArray, List.getElem?_cons_succ, List.getElem?_cons_zero]; try rfl)); (· rfl); (· (intros; go_simp; try with_reducible rfl)))); (· (simp only [Act.put, List.setIfInBounds_toArray, List.set_cons_zero, List.set_cons_succ, List.drop_zero, List.drop_succ_cons, List.take_succ_cons, List.take_zero, List.toList_toArray, NodeS.cells, OpS.cells, ResS.cells]; try rfl)))
    exact rfl
  refine wpAnyM_done (by kernel_rfl) ?_ _
  go_wp2_with (first | ((with_reducible apply sx_loadS HX); (· rfl); (· rfl); (· (first | exact sn_op | exact sn_res | exact sn_stat | exact sn_node | exact sn_reply | exact sn_req | exact sn_tree | exact sn_rnode | exact sn_rtree | exact sn_rent | exact sn_act)); (· (repeat (first | (with_reducible exact List.mem_cons_self ..) | (with_reducible apply List.mem_cons_of_mem)))); (· rfl); simp only [Act.put, List.setIfInBounds_toArray, List.set_cons_zero, List.set_cons_succ, List.drop_zero, List.drop_succ_cons, List.take_succ_cons, List.take_zero, List.toList_toArray, NodeS.cells, OpS.cells, ResS.cells]) | ((with_reducible apply sx_load HX); (· rfl); (· rfl); (· kernel_rfl); (· (repeat (first | (with_reducible exact List.mem_cons_self ..) | (with_reducible apply List.mem_cons_of_mem)))); (· rfl); simp only [Act.put, List.setIfInBounds_toArray, List.set_cons_zero, List.set_cons_succ]) | ((with_reducible apply sx_storeS HX); (· rfl); (· rfl); (· rfl); (· kernel_rfl); (· (repeat (first | (with_reducible exact Rep.here) | (with_reducible apply Rep.there)))); (· rfl); (· rfl); clear HX; intro w HX; simp only [Act.put, List.setIfInBounds_toArray, List.set_cons_zero, List.set_cons_succ, setMany, Nat.reduceAdd, NodeS.cells, OpS.cells, ResS.cells] at HX ⊢) | ((with_reducible apply sx_store1 HX); (· rfl); (· ((conv => lhs; whnf) <;> rfl)); (· rfl); (· rfl); (· kernel_rfl); (· (repeat (first | (with_reducible exact Rep.here) | (with_reducible apply Rep.there)))); (· rfl); (· rfl); clear HX; intro w HX; simp only [Act.put, List.setIfInBounds_toArray, List.set_cons_zero, List.set_cons_succ, NodeS.cells, OpS.cells, ResS.cells] at HX ⊢) | ((with_reducible apply sx_alloc HX); (· rfl); (· (first | exact z_op | exact z_res | exact z_node | exact z_reply | exact z_req | exact z_rnode | exact z_rreply)); clear HX; (first | (have hq := b9; clear hq; intro w b10 HX) | (have hq := b8; clear hq; intro w b9 HX) | (have hq := b7; clear hq; intro w b8 HX) | (have hq := b6; clear hq; intro w b7 HX) | (have hq := b5; clear hq; intro w b6 HX) | (have hq := b4; clear hq; intro w b5 HX) | (have hq := b3; clear hq; intro w b4 HX) | (have hq := b2; clear hq; intro w b3 HX) | (have hq := b; clear hq; intro w b2 HX) | intro w b HX); simp only [Act.put, List.setIfInBounds_toArray, List.set_cons_zero, List.set_cons_succ]) | ((with_reducible apply sx_boxS HX); (· rfl); (· rfl); clear HX; (first | (have hq := b9; clear hq; intro w b10 HX) | (have hq := b8; clear hq; intro w b9 HX) | (have hq := b7; clear hq; intro w b8 HX) | (have hq := b6; clear hq; intro w b7 HX) | (have hq := b5; clear hq; intro w b6 HX) | (have hq := b4; clear hq; intro w b5 HX) | (have hq := b3; clear hq; intro w b4 HX) | (have hq := b2; clear hq; intro w b3 HX) | (have hq := b; clear hq; intro w b2 HX) | intro w b HX); simp only [Act.put, List.setIfInBounds_toArray, List.set_cons_zero, List.set_cons_succ]) | ((with_reducible apply sx_box1 HX); (· ((conv => lhs; whnf) <;> rfl)); (· rfl); (· rfl); clear HX; (first | (have hq := b9; clear hq; intro w b10 HX) | (have hq := b8; clear hq; intro w b9 HX) | (have hq := b7; clear hq; intro w b8 HX) | (have hq := b6; clear hq; intro w b7 HX) | (have hq := b5; clear hq; intro w b6 HX) | (have hq := b4; clear hq; intro w b5 HX) | (have hq := b3; clear hq; intro w b4 HX) | (have hq := b2; clear hq; intro w b3 HX) | (have hq := b; clear hq; intro w b2 HX) | intro w b HX); simp only [Act.put, List.setIfInBounds_toArray, List.set_cons_zero, List.set_cons_succ]) | ((with_reducible apply sx_makeMap .string HX); (· rfl); clear HX; intro w mm HX; simp only [Act.put, List.setIfInBounds_toArray, List.set_cons_zero, List.set_cons_succ]) | ((with_reducible apply sx_oneS HX); (· (first | exact sl_str | exact sl_res | exact sl_op | exact sl_ent)); (· exact ⟨rfl, rfl⟩); (· rfl); (· rfl); clear HX; (first | (have hq := b9; clear hq; intro w b10 HX) | (have hq := b8; clear hq; intro w b9 HX) | (have hq := b7; clear hq; intro w b8 HX) | (have hq := b6; clear hq; intro w b7 HX) | (have hq := b5; clear hq; intro w b6 HX) | (have hq := b4; clear hq; intro w b5 HX) | (have hq := b3; clear hq; intro w b4 HX) | (have hq := b2; clear hq; intro w b3 HX) | (have hq := b; clear hq; intro w b2 HX) | intro w b HX); simp only [Act.put, List.setIfInBounds_toArray, List.set_cons_zero, List.set_cons_succ]) | ((with_reducible apply sx_one1 HX); (· (first | exact sl_str | exact sl_res | exact sl_op | exact sl_ent)); (· ((conv => lhs; whnf) <;> rfl)); (· rfl); clear HX; (first | (have hq := b9; clear hq; intro w b10 HX) | (have hq := b8; clear hq; intro w b9 HX) | (have hq := b7; clear hq; intro w b8 HX) | (have hq := b6; clear hq; intro w b7 HX) | (have hq := b5; clear hq; intro w b6 HX) | (have hq := b4; clear hq; intro w b5 HX) | (have hq := b3; clear hq; intro w b4 HX) | (have hq := b2; clear hq; intro w b3 HX) | (have hq := b; clear hq; intro w b2 HX) | intro w b HX); simp only [Act.put, List.setIfInBounds_toArray, List.set_cons_zero, List.set_cons_succ]) | ((with_reducible apply sx_app1 HX); (· (first | exact sl_str | exact sl_res | exact sl_op | exact sl_ent)); (· rfl); (· rfl); (· (repeat (first | (with_reducible exact Rem.here) | (with_reducible apply Rem.there)))); (· (repeat (first | (with_reducible exact List.mem_cons_self ..) | (with_reducible apply List.mem_cons_of_mem)))); (· rfl); (· rfl); (· exact HBD.out); clear HX; intro w av nv cv HX; simp only [Act.put, List.setIfInBounds_toArray, List.set_cons_zero, List.set_cons_succ]))
  go_loopg [5] S.l.length (fun k v5 wr => ∃ i : Nat, i + k = S.l.length ∧ v5 = .int .i64 (i : Int) ∧ Sep w0 wr (ThCell b2 (.cells #[.int .i64 S.room, .slice a2 S.l.length c2] 69 (0, 0)) :: ThRow 11 (.slice a2 S.l.length c2) xs2 :: ThCell b (.cells #[.int .i64 S.room, .slice a1 S.l.length c1] 69 (0, 0)) :: ThRow 11 (.slice a1 S.l.length c1) xs1 :: ThPool w0 P :: R) rows)
  case atStart => exact ⟨0, by omega, rfl, HX.out⟩
  case round =>
    rename World => w
    obtain ⟨i, hik, rfl, hS⟩ := hrel
    clear HX
    have HX := Lib.hid hS
    clear hS
    by_cases hlt : i < S.l.length
    case neg =>
      obtain rfl : i = S.l.length := by omega
      clear hlt hik
      go_wp2_with (first | ((with_reducible apply sx_loadS HX); (· rfl); (· rfl); (· (first | exact sn_op | exact sn_res | exact sn_stat | exact sn_node | exact sn_reply | exact sn_req | exact sn_tree | exact sn_rnode | exact sn_rtree | exact sn_rent | exact sn_act)); (· (repeat (first | (with_reducible exact List.mem_cons_self ..) | (with_reducible apply List.mem_cons_of_mem)))); (· rfl); simp only [Act.put, List.setIfInBounds_toArray, List.set_cons_zero, List.set_cons_succ, List.drop_zero, List.drop_succ_cons, List.take_succ_cons, List.take_zero, List.toList_toArray, NodeS.cells, OpS.cells, ResS.cells]) | ((with_reducible apply sx_load HX); (· rfl); (· rfl); (· kernel_rfl); (· (repeat (first | (with_reducible exact List.mem_cons_self ..) | (with_reducible apply List.mem_cons_of_mem)))); (· rfl); simp only [Act.put, List.setIfInBounds_toArray, List.set_cons_zero, List.set_cons_succ]) | ((with_reducible apply sx_storeS HX); (· rfl); (· rfl); (· rfl); (· kernel_rfl); (· (repeat (first | (with_reducible exact Rep.here) | (with_reducible apply Rep.there)))); (· rfl); (· rfl); clear HX; intro w HX; simp only [Act.put, List.setIfInBounds_toArray, List.set_cons_zero, List.set_cons_succ, setMany, Nat.reduceAdd, NodeS.cells, OpS.cells, ResS.cells] at HX ⊢) | ((with_reducible apply sx_store1 HX); (· rfl); (· ((conv => lhs; whnf) <;> rfl)); (· rfl); (· rfl); (· kernel_rfl); (· (repeat (first | (with_reducible exact Rep.here) | (with_reducible apply Rep.there)))); (· rfl); (· rfl); clear HX; intro w HX; simp only [Act.put, List.setIfInBounds_toArray, List.set_cons_zero, List.set_cons_succ, NodeS.cells, OpS.cells, ResS.cells] at HX ⊢) | ((with_reducible apply sx_alloc HX); (· rfl); (· (first | exact z_op | exact z_res | exact z_node | exact z_reply | exact z_req | exact z_rnode | exact z_rreply)); clear HX; (first | (have hq := b9; clear hq; intro w b10 HX) | (have hq := b8; clear hq; intro w b9 HX) | (have hq := b7; clear hq; intro w b8 HX) | (have hq := b6; clear hq; intro w b7 HX) | (have hq := b5; clear hq; intro w b6 HX) | (have hq := b4; clear hq; intro w b5 HX) | (have hq := b3; clear hq; intro w b4 HX) | (have hq := b2; clear hq; intro w b3 HX) | (have hq := b; clear hq; intro w b2 HX) | intro w b HX); simp only [Act.put, List.setIfInBounds_toArray, List.set_cons_zero, List.set_cons_succ]) | ((with_reducible apply sx_boxS HX); (· rfl); (· rfl); clear HX; (first | (have hq := b9; clear hq; intro w b10 HX) | (have hq := b8; clear hq; intro w b9 HX) | (have hq := b7; clear hq; intro w b8 HX) | (have hq := b6; clear hq; intro w b7 HX) | (have hq := b5; clear hq; intro w b6 HX) | (have hq := b4; clear hq; intro w b5 HX) | (have hq := b3; clear hq; intro w b4 HX) | (have hq := b2; clear hq; intro w b3 HX) | (have hq := b; clear hq; intro w b2 HX) | intro w b HX); simp only [Act.put, List.setIfInBounds_toArray, List.set_cons_zero, List.set_cons_succ]) | ((with_reducible apply sx_box1 HX); (· ((conv => lhs; whnf) <;> rfl)); (· rfl); (· rfl); clear HX; (first | (have hq := b9; clear hq; intro w b10 HX) | (have hq := b8; clear hq; intro w b9 HX) | (have hq := b7; clear hq; intro w b8 HX) | (have hq := b6; clear hq; intro w b7 HX) | (have hq := b5; clear hq; intro w b6 HX) | (have hq := b4; clear hq; intro w b5 HX) | (have hq := b3; clear hq; intro w b4 HX) | (have hq := b2; clear hq; intro w b3 HX) | (have hq := b; clear hq; intro w b2 HX) | intro w b HX); simp only [Act.put, List.setIfInBounds_toArray, List.set_cons_zero, List.set_cons_succ]) | ((with_reducible apply sx_makeMap .string HX); (· rfl); clear HX; intro w mm HX; simp only [Act.put, List.setIfInBounds_toArray, List.set_cons_zero, List.set_cons_succ]) | ((with_reducible apply sx_oneS HX); (· (first | exact sl_str | exact sl_res | exact sl_op | exact sl_ent)); (· exact ⟨rfl, rfl⟩); (· rfl); (· rfl); clear HX; (first | (have hq := b9; clear hq; intro w b10 HX) | (have hq := b8; clear hq; intro w b9 HX) | (have hq := b7; clear hq; intro w b8 HX) | (have hq := b6; clear hq; intro w b7 HX) | (have hq := b5; clear hq; intro w b6 HX) | (have hq := b4; clear hq; intro w b5 HX) | (have hq := b3; clear hq; intro w b4 HX) | (have hq := b2; clear hq; intro w b3 HX) | (have hq := b; clear hq; intro w b2 HX) | intro w b HX); simp only [Act.put, List.setIfInBounds_toArray, List.set_cons_zero, List.set_cons_succ]) | ((with_reducible apply sx_one1 HX); (· (first | exact sl_str | exact sl_res | exact sl_op | exact sl_ent)); (· ((conv => lhs; whnf) <;> rfl)); (· rfl); clear HX; (first | (have hq := b9; clear hq; intro w b10 HX) | (have hq := b8; clear hq; intro w b9 HX) | (have hq := b7; clear hq; intro w b8 HX) | (have hq := b6; clear hq; intro w b7 HX) | (have hq := b5; clear hq; intro w b6 HX) | (have hq := b4; clear hq; intro w b5 HX) | (have hq := b3; clear hq; intro w b4 HX) | (have hq := b2; clear hq; intro w b3 HX) | (have hq := b; clear hq; intro w b2 HX) | intro w b HX); simp only [Act.put, List.setIfInBounds_toArray, List.set_cons_zero, List.set_cons_succ]) | ((with_reducible apply sx_app1 HX); (· (first | exact sl_str | exact sl_res | exact sl_op | exact sl_ent)); (· rfl); (· rfl); (· (repeat (first | (with_reducible exact Rem.here) | (with_reducible apply Rem.there)))); (· (repeat (first | (with_reducible exact List.mem_cons_self ..) | (with_reducible apply List.mem_cons_of_mem)))); (· rfl); (· rfl); (· exact HBD.out); clear HX; intro w av nv cv HX; simp only [Act.put, List.setIfInBounds_toArray, List.set_cons_zero, List.set_cons_succ]))
      go_ret
      exact ⟨rfl, HFIN.out _ HX.out⟩
    case pos =>
      obtain ⟨nv1, m1, p1, k1⟩ := HE1.out.parts hlt
      obtain ⟨nv2, m2, p2, k2⟩ := HE2.out.parts hlt
      obtain ⟨E, hE⟩ := own_read HX.out.up3
      obtain ⟨_, _, _, e, _, _, _, hne⟩ := ReadRow.some hE
      simp only [Value.slice.injEq] at e
      obtain ⟨rfl, rfl, rfl⟩ := e
      obtain ⟨g1, o1, rfl⟩ := hne (by intro e; rw [e] at p1; cases p1)
      obtain ⟨E2, hE2⟩ := own_read HX.out.up1
      obtain ⟨_, _, _, e, _, _, _, hne⟩ := ReadRow.some hE2
      simp only [Value.slice.injEq] at e
      obtain ⟨rfl, rfl, rfl⟩ := e
      obtain ⟨g2, o2, rfl⟩ := hne (by intro e; rw [e] at p2; cases p2)
      obtain ⟨⟨p, nd⟩, hen⟩ : ∃ en, S.l[i] = en := ⟨_, rfl⟩
      rw [hen] at m1 p1 k1 m2 p2 k2
      dsimp only at m1 p1 k1 m2 p2 k2
      obtain ⟨ps, hps⟩ : ∃ ps : ByteArray, ps = ⟨p.toArray⟩ := ⟨_, rfl⟩
      have hpv : sv p = .string ps := by rw [hps]; rfl
      rw [hpv] at p1 p2
      have hql := beq_self_str ps
      have q0 : decide (i < S.l.length) = true := decide_eq_true hlt
      have q9 : i ≤ 100000 := by have := HN.out; omega
      have HM := Lib.hid (show _ ∧ _ from ⟨m1, m2⟩)
      have hl : ∀ W, Sep w0 W (ThCell b2 (.cells #[.int .i64 S.room, .slice (some ⟨g2, o2, none⟩) S.l.length c2] 69 (0, 0)) :: ThRow 11 (.slice (some ⟨g2, o2, none⟩) S.l.length c2) xs2 :: ThCell b (.cells #[.int .i64 S.room, .slice (some ⟨g1, o1, none⟩) S.l.length c1] 69 (0, 0)) :: ThRow 11 (.slice (some ⟨g1, o1, none⟩) S.l.length c1) xs1 :: ThPool w0 P :: R) rows → (Instr.loadAt 9 (.pointer (some ⟨g1, o1 + i * 11, none⟩))).run Tryz.prog W = .ok (.string ps) W := fun W hW => by
        obtain ⟨E, hE⟩ := own_read (Sep.up3 hW)
        exact row_fld0 hE (by kernel_rfl) p1
      have hl2 : ∀ W, Sep w0 W (ThCell b2 (.cells #[.int .i64 S.room, .slice (some ⟨g2, o2, none⟩) S.l.length c2] 69 (0, 0)) :: ThRow 11 (.slice (some ⟨g2, o2, none⟩) S.l.length c2) xs2 :: ThCell b (.cells #[.int .i64 S.room, .slice (some ⟨g1, o1, none⟩) S.l.length c1] 69 (0, 0)) :: ThRow 11 (.slice (some ⟨g1, o1, none⟩) S.l.length c1) xs1 :: ThPool w0 P :: R) rows → (Instr.loadAt 9 (.pointer (some ⟨g2, o2 + i * 11, none⟩))).run Tryz.prog W = .ok (.string ps) W := fun W hW => by
        obtain ⟨E, hE⟩ := own_read (Sep.up1 hW)
        exact row_fld0 hE (by kernel_rfl) p2
      have hl3 : ∀ W, Sep w0 W (ThCell b2 (.cells #[.int .i64 S.room, .slice (some ⟨g2, o2, none⟩) S.l.length c2] 69 (0, 0)) :: ThRow 11 (.slice (some ⟨g2, o2, none⟩) S.l.length c2) xs2 :: ThCell b (.cells #[.int .i64 S.room, .slice (some ⟨g1, o1, none⟩) S.l.length c1] 69 (0, 0)) :: ThRow 11 (.slice (some ⟨g1, o1, none⟩) S.l.length c1) xs1 :: ThPool w0 P :: R) rows → (Instr.loadAt 84 (.pointer (some ⟨g1, o1 + i * 11 + 1, none⟩))).run Tryz.prog W = .ok (.agg (nd.cells nv1)) W := fun W hW => by
        obtain ⟨E, hE⟩ := own_read (Sep.up3 hW)
        exact row_part hE sn_rnode rfl (by simp [NodeS.cells]) k1
      have hl4 : ∀ W, Sep w0 W (ThCell b2 (.cells #[.int .i64 S.room, .slice (some ⟨g2, o2, none⟩) S.l.length c2] 69 (0, 0)) :: ThRow 11 (.slice (some ⟨g2, o2, none⟩) S.l.length c2) xs2 :: ThCell b (.cells #[.int .i64 S.room, .slice (some ⟨g1, o1, none⟩) S.l.length c1] 69 (0, 0)) :: ThRow 11 (.slice (some ⟨g1, o1, none⟩) S.l.length c1) xs1 :: ThPool w0 P :: R) rows → (Instr.loadAt 84 (.pointer (some ⟨g2, o2 + i * 11 + 1, none⟩))).run Tryz.prog W = .ok (.agg (nd.cells nv2)) W := fun W hW => by
        obtain ⟨E, hE⟩ := own_read (Sep.up1 hW)
        exact row_part hE sn_rnode rfl (by simp [NodeS.cells]) k2
      clear m1 m2 p1 p2 k1 k2 hne hE hE2 hen hps hpv
      go_wp2_with (first | ((with_reducible apply sx_loadS HX); (· rfl); (· rfl); (· (first | exact sn_op | exact sn_res | exact sn_stat | exact sn_node | exact sn_reply | exact sn_req | exact sn_tree | exact sn_rnode | exact sn_rtree | exact sn_rent | exact sn_act)); (· (repeat (first | (with_reducible exact List.mem_cons_self ..) | (with_reducible apply List.mem_cons_of_mem)))); (· rfl); simp only [Act.put, List.setIfInBounds_toArray, List.set_cons_zero, List.set_cons_succ, List.drop_zero, List.drop_succ_cons, List.take_succ_cons, List.take_zero, List.toList_toArray, NodeS.cells, OpS.cells, ResS.cells]) | ((with_reducible apply sx_load HX); (· rfl); (· rfl); (· kernel_rfl); (· (repeat (first | (with_reducible exact List.mem_cons_self ..) | (with_reducible apply List.mem_cons_of_mem)))); (· rfl); simp only [Act.put, List.setIfInBounds_toArray, List.set_cons_zero, List.set_cons_succ]) | ((with_reducible apply sx_storeS HX); (· rfl); (· rfl); (· rfl); (· kernel_rfl); (· (repeat (first | (with_reducible exact Rep.here) | (with_reducible apply Rep.there)))); (· rfl); (· rfl); clear HX; intro w HX; simp only [Act.put, List.setIfInBounds_toArray, List.set_cons_zero, List.set_cons_succ, setMany, Nat.reduceAdd, NodeS.cells, OpS.cells, ResS.cells] at HX ⊢) | ((with_reducible apply sx_store1 HX); (· rfl); (· ((conv => lhs; whnf) <;> rfl)); (· rfl); (· rfl); (· kernel_rfl); (· (repeat (first | (with_reducible exact Rep.here) | (with_reducible apply Rep.there)))); (· rfl); (· rfl); clear HX; intro w HX; simp only [Act.put, List.setIfInBounds_toArray, List.set_cons_zero, List.set_cons_succ, NodeS.cells, OpS.cells, ResS.cells] at HX ⊢) | ((with_reducible apply sx_alloc HX); (· rfl); (· (first | exact z_op | exact z_res | exact z_node | exact z_reply | exact z_req | exact z_rnode | exact z_rreply)); clear HX; (first | (have hq := b9; clear hq; intro w b10 HX) | (have hq := b8; clear hq; intro w b9 HX) | (have hq := b7; clear hq; intro w b8 HX) | (have hq := b6; clear hq; intro w b7 HX) | (have hq := b5; clear hq; intro w b6 HX) | (have hq := b4; clear hq; intro w b5 HX) | (have hq := b3; clear hq; intro w b4 HX) | (have hq := b2; clear hq; intro w b3 HX) | (have hq := b; clear hq; intro w b2 HX) | intro w b HX); simp only [Act.put, List.setIfInBounds_toArray, List.set_cons_zero, List.set_cons_succ]) | ((with_reducible apply sx_boxS HX); (· rfl); (· rfl); clear HX; (first | (have hq := b9; clear hq; intro w b10 HX) | (have hq := b8; clear hq; intro w b9 HX) | (have hq := b7; clear hq; intro w b8 HX) | (have hq := b6; clear hq; intro w b7 HX) | (have hq := b5; clear hq; intro w b6 HX) | (have hq := b4; clear hq; intro w b5 HX) | (have hq := b3; clear hq; intro w b4 HX) | (have hq := b2; clear hq; intro w b3 HX) | (have hq := b; clear hq; intro w b2 HX) | intro w b HX); simp only [Act.put, List.setIfInBounds_toArray, List.set_cons_zero, List.set_cons_succ]) | ((with_reducible apply sx_box1 HX); (· ((conv => lhs; whnf) <;> rfl)); (· rfl); (· rfl); clear HX; (first | (have hq := b9; clear hq; intro w b10 HX) | (have hq := b8; clear hq; intro w b9 HX) | (have hq := b7; clear hq; intro w b8 HX) | (have hq := b6; clear hq; intro w b7 HX) | (have hq := b5; clear hq; intro w b6 HX) | (have hq := b4; clear hq; intro w b5 HX) | (have hq := b3; clear hq; intro w b4 HX) | (have hq := b2; clear hq; intro w b3 HX) | (have hq := b; clear hq; intro w b2 HX) | intro w b HX); simp only [Act.put, List.setIfInBounds_toArray, List.set_cons_zero, List.set_cons_succ]) | ((with_reducible apply sx_makeMap .string HX); (· rfl); clear HX; intro w mm HX; simp only [Act.put, List.setIfInBounds_toArray, List.set_cons_zero, List.set_cons_succ]) | ((with_reducible apply sx_oneS HX); (· (first | exact sl_str | exact sl_res | exact sl_op | exact sl_ent)); (· exact ⟨rfl, rfl⟩); (· rfl); (· rfl); clear HX; (first | (have hq := b9; clear hq; intro w b10 HX) | (have hq := b8; clear hq; intro w b9 HX) | (have hq := b7; clear hq; intro w b8 HX) | (have hq := b6; clear hq; intro w b7 HX) | (have hq := b5; clear hq; intro w b6 HX) | (have hq := b4; clear hq; intro w b5 HX) | (have hq := b3; clear hq; intro w b4 HX) | (have hq := b2; clear hq; intro w b3 HX) | (have hq := b; clear hq; intro w b2 HX) | intro w b HX); simp only [Act.put, List.setIfInBounds_toArray, List.set_cons_zero, List.set_cons_succ]) | ((with_reducible apply sx_one1 HX); (· (first | exact sl_str | exact sl_res | exact sl_op | exact sl_ent)); (· ((conv => lhs; whnf) <;> rfl)); (· rfl); clear HX; (first | (have hq := b9; clear hq; intro w b10 HX) | (have hq := b8; clear hq; intro w b9 HX) | (have hq := b7; clear hq; intro w b8 HX) | (have hq := b6; clear hq; intro w b7 HX) | (have hq := b5; clear hq; intro w b6 HX) | (have hq := b4; clear hq; intro w b5 HX) | (have hq := b3; clear hq; intro w b4 HX) | (have hq := b2; clear hq; intro w b3 HX) | (have hq := b; clear hq; intro w b2 HX) | intro w b HX); simp only [Act.put, List.setIfInBounds_toArray, List.set_cons_zero, List.set_cons_succ]) | ((with_reducible apply sx_app1 HX); (· (first | exact sl_str | exact sl_res | exact sl_op | exact sl_ent)); (· rfl); (· rfl); (· (repeat (first | (with_reducible exact Rem.here) | (with_reducible apply Rem.there)))); (· (repeat (first | (with_reducible exact List.mem_cons_self ..) | (with_reducible apply List.mem_cons_of_mem)))); (· rfl); (· rfl); (· exact HBD.out); clear HX; intro w av nv cv HX; simp only [Act.put, List.setIfInBounds_toArray, List.set_cons_zero, List.set_cons_succ]))
      refine wp_region_M (fun W => Sep w0 W (ThCell b2 (.cells #[.int .i64 S.room, .slice (some ⟨g2, o2, none⟩) S.l.length c2] 69 (0, 0)) :: ThRow 11 (.slice (some ⟨g2, o2, none⟩) S.l.length c2) xs2 :: ThCell b (.cells #[.int .i64 S.room, .slice (some ⟨g1, o1, none⟩) S.l.length c1] 69 (0, 0)) :: ThRow 11 (.slice (some ⟨g1, o1, none⟩) S.l.length c1) xs1 :: ThPool w0 P :: R) rows) 37 (by kernel_rfl) ?_
      have KEEPX : ∀ W, Sep w0 W (ThCell b2 (.cells #[.int .i64 S.room, .slice (some ⟨g2, o2, none⟩) S.l.length c2] 69 (0, 0)) :: ThRow 11 (.slice (some ⟨g2, o2, none⟩) S.l.length c2) xs2 :: ThCell b (.cells #[.int .i64 S.room, .slice (some ⟨g1, o1, none⟩) S.l.length c1] 69 (0, 0)) :: ThRow 11 (.slice (some ⟨g1, o1, none⟩) S.l.length c1) xs1 :: ThPool w0 P :: R) rows → Sep w0 W (ThCell b2 (.cells #[.int .i64 S.room, .slice (some ⟨g2, o2, none⟩) S.l.length c2] 69 (0, 0)) :: ThRow 11 (.slice (some ⟨g2, o2, none⟩) S.l.length c2) xs2 :: ThCell b (.cells #[.int .i64 S.room, .slice (some ⟨g1, o1, none⟩) S.l.length c1] 69 (0, 0)) :: ThRow 11 (.slice (some ⟨g1, o1, none⟩) S.l.length c1) xs1 :: ThPool w0 P :: R) rows := fun _ h => h
      replace HX := Lib.hid HX.out.drew
      refine wpAnyM_take (by kernel_rfl) (by intro c a d v w h; cases d <;> exact h) [(0, false), (1, false), (2, false), (3, true), (4, false), (5, false), (6, false), (7, true), (8, false), (9, false), (10, false), (11, true), (12, false), (13, false), (14, false), (15, true), (16, false), (17, false), (18, false), (19, false), (20, false), (21, true), (22, false), (23, false), (24, false), (25, true), (26, false), (27, false), (28, false), (29, true), (30, false), (31, false), (32, false), (33, true)] (fuel := 3) (by kernel_rfl) ?_
      apply Exists.intro; refine ⟨?_, HX.out, ?_⟩
      · iterate 34 ((first | ((apply yield_loadSH KEEPX); (· (simp only [List.getElem?_toArray, List.getElem?_cons_succ, List.getElem?_cons_zero]; try rfl)); (· rfl); (· rfl); (· (first | exact sn_op | exact sn_res | exact sn_stat | exact sn_node | exact sn_reply | exact sn_req | exact sn_tree | exact sn_rnode | exact sn_rtree | exact sn_rent | exact sn_act)); (· (repeat (first | (with_reducible exact List.mem_cons_self ..) | (with_reducible apply List.mem_cons_of_mem)))); (· rfl)) | ((apply yield_loadH KEEPX); (· (simp only [List.getElem?_toArray, List.getElem?_cons_succ, List.getElem?_cons_zero]; try rfl)); (· rfl); (· rfl); (· kernel_rfl); (· (repeat (first | (with_reducible exact List.mem_cons_self ..) | (with_reducible apply List.mem_cons_of_mem)))); (· rfl)) | ((apply yield_loadAtH hl); (· (simp only [List.getElem?_toArray, List.getElem?_cons_succ, List.getElem?_cons_zero]; try rfl)); (· rfl); (· rfl)) | ((apply yield_loadAtH hl2); (· (simp only [List.getElem?_toArray, List.getElem?_cons_succ, List.getElem?_cons_zero]; try rfl)); (· rfl); (· rfl)) | ((apply yield_loadAtH hl3); (· (simp only [List.getElem?_toArray, List.getElem?_cons_succ, List.getElem?_cons_zero]; try rfl)); (· rfl); (· rfl)) | ((apply yield_loadAtH hl4); (· (simp only [List.getElem?_toArray, List.getElem?_cons_succ, List.getElem?_cons_zero]; try rfl)); (· rfl); (· rfl)) | (apply yieldN; (· (simp only [List.getElem?_toArray, List.getElem?_cons_succ, List.getElem?_cons_zero]; try rfl)); (· rfl)) | ((first | apply yieldP | apply yieldL); (· (simp only [List.getElem?_toArray, List.getElem?_cons_succ, List.getElem?_cons_zero]; try rfl)); (· rfl); (· (intros; go_simp; try with_reducible rfl)))); (· (simp only [Act.put, List.setIfInBounds_toArray, List.set_cons_zero, List.set_cons_succ, List.drop_zero, List.drop_succ_cons, List.take_succ_cons, List.take_zero, List.toList_toArray, NodeS.cells, OpS.cells, ResS.cells]; try rfl)))
        exact rfl
      clear hl hl2 hl3 hl4
      refine wpAnyM_one (fuel := 2) (i := 34) (by kernel_rfl) (by (simp only [List.getElem?_toArray, List.getElem?_cons_succ, List.getElem?_cons_zero]; try rfl)) (fun K hK => ?_)    -- CALL
      go_wp2_with fail
      refine (samen_any HX.out.up4 nd nv1 nv2 HM.out.1 HM.out.2).mono ?_
      rintro e w ⟨rfl, hx⟩
      have hy : Sep w0 w (ThCell b2 (.cells #[.int .i64 S.room, .slice (some ⟨g2, o2, none⟩) S.l.length c2] 69 (0, 0)) :: ThRow 11 (.slice (some ⟨g2, o2, none⟩) S.l.length c2) xs2 :: ThCell b (.cells #[.int .i64 S.room, .slice (some ⟨g1, o1, none⟩) S.l.length c1] 69 (0, 0)) :: ThRow 11 (.slice (some ⟨g1, o1, none⟩) S.l.length c1) xs1 :: ThPool w0 P :: R) rows := hx.pm 5 [1, 2, 3, 4, 0] rfl rfl
      clear HX hx
      have HX := Lib.hid hy
      clear hy
      go_wp2_with fail
      refine hK _ _ HX.out ?_
      clear hK
      refine wpAnyM_take (by kernel_rfl) (by intro c a d v w h; cases d <;> exact h) [(35, false), (36, false)] (fuel := 0) (by kernel_rfl) ?_
      apply Exists.intro; refine ⟨?_, HX.out, ?_⟩
      · iterate 2 ((first | ((apply yield_loadSH KEEPX); (· (simp only [List.getElem?_toArray, List.getElem?_cons_succ, List.getElem?_cons_zero]; try rfl)); (· rfl); (· rfl); (· (first | exact sn_op | exact sn_res | exact sn_stat | exact sn_node | exact sn_reply | exact sn_req | exact sn_tree | exact sn_rnode | exact sn_rtree | exact sn_rent | exact sn_act)); (· (repeat (first | (with_reducible exact List.mem_cons_self ..) | (with_reducible apply List.mem_cons_of_mem)))); (· rfl)) | ((apply yield_loadH KEEPX); (· (simp only [List.getElem?_toArray, List.getElem?_cons_succ, List.getElem?_cons_zero]; try rfl)); (· rfl); (· rfl); (· kernel_rfl); (· (repeat (first | (with_reducible exact List.mem_cons_self ..) | (with_reducible apply List.mem_cons_of_mem)))); (· rfl)) | ((apply yield_loadAtH hl); (· (simp only [List.getElem?_toArray, List.getElem?_cons_succ, List.getElem?_cons_zero]; try rfl)); (· rfl); (· rfl)) | ((apply yield_loadAtH hl2); (· (simp only [List.getElem?_toArray, List.getElem?_cons_succ, List.getElem?_cons_zero]; try rfl)); (· rfl); (· rfl)) | ((apply yield_loadAtH hl3); (· (simp only [List.getElem?_toArray, List.getElem?_cons_succ, List.getElem?_cons_zero]; try rfl)); (· rfl); (· rfl)) | ((apply yield_loadAtH hl4); (· (simp only [List.getElem?_toArray, List.getElem?_cons_succ, List.getElem?_cons_zero]; try rfl)); (· rfl); (· rfl)) | (apply yieldN; (· (simp only [List.getElem?_toArray, List.getElem?_cons_succ, List.getElem?_cons_zero]; try rfl)); (· rfl)) | ((first | apply yieldP | apply yieldL); (· (simp only [List.getElem?_toArray, List.getElem?_cons_succ, List.getElem?_cons_zero]; try rfl)); (· rfl); (· (intros; go_simp; try with_reducible rfl)))); (· (simp only [Act.put, List.setIfInBounds_toArray, List.set_cons_zero, List.set_cons_succ, List.drop_zero, List.drop_succ_cons, List.take_succ_cons, List.take_zero, List.toList_toArray, NodeS.cells, OpS.cells, ResS.cells]; try rfl)))
        exact rfl
      refine wpAnyM_done (by kernel_rfl) ?_ _
      go_wp2_with (first | ((with_reducible apply sx_loadS HX); (· rfl); (· rfl); (· (first | exact sn_op | exact sn_res | exact sn_stat | exact sn_node | exact sn_reply | exact sn_req | exact sn_tree | exact sn_rnode | exact sn_rtree | exact sn_rent | exact sn_act)); (· (repeat (first | (with_reducible exact List.mem_cons_self ..) | (with_reducible apply List.mem_cons_of_mem)))); (· rfl); simp only [Act.put, List.setIfInBounds_toArray, List.set_cons_zero, List.set_cons_succ, List.drop_zero, List.drop_succ_cons, List.take_succ_cons, List.take_zero, List.toList_toArray, NodeS.cells, OpS.cells, ResS.cells]) | ((with_reducible apply sx_load HX); (· rfl); (· rfl); (· kernel_rfl); (· (repeat (first | (with_reducible exact List.mem_cons_self ..) | (with_reducible apply List.mem_cons_of_mem)))); (· rfl); simp only [Act.put, List.setIfInBounds_toArray, List.set_cons_zero, List.set_cons_succ]) | ((with_reducible apply sx_storeS HX); (· rfl); (· rfl); (· rfl); (· kernel_rfl); (· (repeat (first | (with_reducible exact Rep.here) | (with_reducible apply Rep.there)))); (· rfl); (· rfl); clear HX; intro w HX; simp only [Act.put, List.setIfInBounds_toArray, List.set_cons_zero, List.set_cons_succ, setMany, Nat.reduceAdd, NodeS.cells, OpS.cells, ResS.cells] at HX ⊢) | ((with_reducible apply sx_store1 HX); (· rfl); (· ((conv => lhs; whnf) <;> rfl)); (· rfl); (· rfl); (· kernel_rfl); (· (repeat (first | (with_reducible exact Rep.here) | (with_reducible apply Rep.there)))); (· rfl); (· rfl); clear HX; intro w HX; simp only [Act.put, List.setIfInBounds_toArray, List.set_cons_zero, List.set_cons_succ, NodeS.cells, OpS.cells, ResS.cells] at HX ⊢) | ((with_reducible apply sx_alloc HX); (· rfl); (· (first | exact z_op | exact z_res | exact z_node | exact z_reply | exact z_req | exact z_rnode | exact z_rreply)); clear HX; (first | (have hq := b9; clear hq; intro w b10 HX) | (have hq := b8; clear hq; intro w b9 HX) | (have hq := b7; clear hq; intro w b8 HX) | (have hq := b6; clear hq; intro w b7 HX) | (have hq := b5; clear hq; intro w b6 HX) | (have hq := b4; clear hq; intro w b5 HX) | (have hq := b3; clear hq; intro w b4 HX) | (have hq := b2; clear hq; intro w b3 HX) | (have hq := b; clear hq; intro w b2 HX) | intro w b HX); simp only [Act.put, List.setIfInBounds_toArray, List.set_cons_zero, List.set_cons_succ]) | ((with_reducible apply sx_boxS HX); (· rfl); (· rfl); clear HX; (first | (have hq := b9; clear hq; intro w b10 HX) | (have hq := b8; clear hq; intro w b9 HX) | (have hq := b7; clear hq; intro w b8 HX) | (have hq := b6; clear hq; intro w b7 HX) | (have hq := b5; clear hq; intro w b6 HX) | (have hq := b4; clear hq; intro w b5 HX) | (have hq := b3; clear hq; intro w b4 HX) | (have hq := b2; clear hq; intro w b3 HX) | (have hq := b; clear hq; intro w b2 HX) | intro w b HX); simp only [Act.put, List.setIfInBounds_toArray, List.set_cons_zero, List.set_cons_succ]) | ((with_reducible apply sx_box1 HX); (· ((conv => lhs; whnf) <;> rfl)); (· rfl); (· rfl); clear HX; (first | (have hq := b9; clear hq; intro w b10 HX) | (have hq := b8; clear hq; intro w b9 HX) | (have hq := b7; clear hq; intro w b8 HX) | (have hq := b6; clear hq; intro w b7 HX) | (have hq := b5; clear hq; intro w b6 HX) | (have hq := b4; clear hq; intro w b5 HX) | (have hq := b3; clear hq; intro w b4 HX) | (have hq := b2; clear hq; intro w b3 HX) | (have hq := b; clear hq; intro w b2 HX) | intro w b HX); simp only [Act.put, List.setIfInBounds_toArray, List.set_cons_zero, List.set_cons_succ]) | ((with_reducible apply sx_makeMap .string HX); (· rfl); clear HX; intro w mm HX; simp only [Act.put, List.setIfInBounds_toArray, List.set_cons_zero, List.set_cons_succ]) | ((with_reducible apply sx_oneS HX); (· (first | exact sl_str | exact sl_res | exact sl_op | exact sl_ent)); (· exact ⟨rfl, rfl⟩); (· rfl); (· rfl); clear HX; (first | (have hq := b9; clear hq; intro w b10 HX) | (have hq := b8; clear hq; intro w b9 HX) | (have hq := b7; clear hq; intro w b8 HX) | (have hq := b6; clear hq; intro w b7 HX) | (have hq := b5; clear hq; intro w b6 HX) | (have hq := b4; clear hq; intro w b5 HX) | (have hq := b3; clear hq; intro w b4 HX) | (have hq := b2; clear hq; intro w b3 HX) | (have hq := b; clear hq; intro w b2 HX) | intro w b HX); simp only [Act.put, List.setIfInBounds_toArray, List.set_cons_zero, List.set_cons_succ]) | ((with_reducible apply sx_one1 HX); (· (first | exact sl_str | exact sl_res | exact sl_op | exact sl_ent)); (· ((conv => lhs; whnf) <;> rfl)); (· rfl); clear HX; (first | (have hq := b9; clear hq; intro w b10 HX) | (have hq := b8; clear hq; intro w b9 HX) | (have hq := b7; clear hq; intro w b8 HX) | (have hq := b6; clear hq; intro w b7 HX) | (have hq := b5; clear hq; intro w b6 HX) | (have hq := b4; clear hq; intro w b5 HX) | (have hq := b3; clear hq; intro w b4 HX) | (have hq := b2; clear hq; intro w b3 HX) | (have hq := b; clear hq; intro w b2 HX) | intro w b HX); simp only [Act.put, List.setIfInBounds_toArray, List.set_cons_zero, List.set_cons_succ]) | ((with_reducible apply sx_app1 HX); (· (first | exact sl_str | exact sl_res | exact sl_op | exact sl_ent)); (· rfl); (· rfl); (· (repeat (first | (with_reducible exact Rem.here) | (with_reducible apply Rem.there)))); (· (repeat (first | (with_reducible exact List.mem_cons_self ..) | (with_reducible apply List.mem_cons_of_mem)))); (· rfl); (· rfl); (· exact HBD.out); clear HX; intro w av nv cv HX; simp only [Act.put, List.setIfInBounds_toArray, List.set_cons_zero, List.set_cons_succ]))
      go_roundg (S.l.length - (i + 1))
      case rel => exact ⟨i + 1, by omega, by go_num, HX.out⟩
      case measure => omega
end
end Go.Proofs.YtjeaoopamebgjaaGreatDoor

/-
  Results that are alike are told so.
-/
set_option linter.unusedSimpArgs false
namespace Go.Proofs.YtjeaoopamebgjaaGreatDoor
open Go.RowKit Go.Av
section
variable {w0 w : World} {P P' : List PRow} {R : List Thing} {rows : List (Value × Bs)}
set_option maxRecDepth 100000 in
set_option maxHeartbeats 2000000 in
theorem one_any (h : Sep w0 w (ThPool w0 P :: R) rows) (r : ResS) (va vb : Value) (ha : (1, va, r.names.map sv) ∈ P) (hb : (1, vb, r.names.map sv) ∈ P) :
    Calls Tryz.prog 17 #[.agg (r.cells va), .agg (r.cells vb)] w fun e w' => e = .returned (.bool true) ∧ Sep w0 w' (ThPool w0 P :: R) rows := by
  obtain ⟨E, hE⟩ := h.poolGet ha
  obtain ⟨a1, n1, c1, rfl, -⟩ := ReadRow.some hE
  obtain ⟨E2, hE2⟩ := h.poolGet hb
  obtain ⟨a2, n2, c2, rfl, -⟩ := ReadRow.some hE2
  have HA := Lib.hid ha
  have HB := Lib.hid hb
  have HX := Lib.hid h
  have hq := beq_self_str r.data
  have hq2 : (r.data.toList == r.data.toList) = true := by simp
  have hq3 := beq_self_str r.path
  have hq4 : (r.path.toList == r.path.toList) = true := by simp
  clear h ha hb hE hE2
  unfold ResS.cells
  go_enter Tryz.func17, Tryz.ntmps17
  go_wp2_with (first | ((with_reducible apply sx_loadS HX); (· rfl); (· rfl); (· (first | exact sn_op | exact sn_res | exact sn_stat | exact sn_node | exact sn_reply | exact sn_req | exact sn_tree | exact sn_rnode | exact sn_rtree | exact sn_rent | exact sn_act)); (· (repeat (first | (with_reducible exact List.mem_cons_self ..) | (with_reducible apply List.mem_cons_of_mem)))); (· rfl); simp only [Act.put, List.setIfInBounds_toArray, List.set_cons_zero, List.set_cons_succ, List.drop_zero, List.drop_succ_cons, List.take_succ_cons, List.take_zero, List.toList_toArray, NodeS.cells, OpS.cells, ResS.cells]) | ((with_reducible apply sx_load HX); (· rfl); (· rfl); (· kernel_rfl); (· (repeat (first | (with_reducible exact List.mem_cons_self ..) | (with_reducible apply List.mem_cons_of_mem)))); (· rfl); simp only [Act.put, List.setIfInBounds_toArray, List.set_cons_zero, List.set_cons_succ]) | ((with_reducible apply sx_storeS HX); (· rfl); (· rfl); (· rfl); (· kernel_rfl); (· (repeat (first | (with_reducible exact Rep.here) | (with_reducible apply Rep.there)))); (· rfl); (· rfl); clear HX; intro w HX; simp only [Act.put, List.setIfInBounds_toArray, List.set_cons_zero, List.set_cons_succ, setMany, Nat.reduceAdd, NodeS.cells, OpS.cells, ResS.cells] at HX ⊢) | ((with_reducible apply sx_store1 HX); (· rfl); (· ((conv => lhs; whnf) <;> rfl)); (· rfl); (· rfl); (· kernel_rfl); (· (repeat (first | (with_reducible exact Rep.here) | (with_reducible apply Rep.there)))); (· rfl); (· rfl); clear HX; intro w HX; simp only [Act.put, List.setIfInBounds_toArray, List.set_cons_zero, List.set_cons_succ, NodeS.cells, OpS.cells, ResS.cells] at HX ⊢) | ((with_reducible apply sx_alloc HX); (· rfl); (· (first | exact z_op | exact z_res | exact z_node | exact z_reply | exact z_req | exact z_rnode | exact z_rreply)); clear HX; (first | (have hq := b9; clear hq; intro w b10 HX) | (have hq := b8; clear hq; intro w b9 HX) | (have hq := b7; clear hq; intro w b8 HX) | (have hq := b6; clear hq; intro w b7 HX) | (have hq := b5; clear hq; intro w b6 HX) | (have hq := b4; clear hq; intro w b5 HX) | (have hq := b3; clear hq; intro w b4 HX) | (have hq := b2; clear hq; intro w b3 HX) | (have hq := b; clear hq; intro w b2 HX) | intro w b HX); simp only [Act.put, List.setIfInBounds_toArray, List.set_cons_zero, List.set_cons_succ]) | ((with_reducible apply sx_boxS HX); (· rfl); (· rfl); clear HX; (first | (have hq := b9; clear hq; intro w b10 HX) | (have hq := b8; clear hq; intro w b9 HX) | (have hq := b7; clear hq; intro w b8 HX) | (have hq := b6; clear hq; intro w b7 HX) | (have hq := b5; clear hq; intro w b6 HX) | (have hq := b4; clear hq; intro w b5 HX) | (have hq := b3; clear hq; intro w b4 HX) | (have hq := b2; clear hq; intro w b3 HX) | (have hq := b; clear hq; intro w b2 HX) | intro w b HX); simp only [Act.put, List.setIfInBounds_toArray, List.set_cons_zero, List.set_cons_succ]) | ((with_reducible apply sx_box1 HX); (· ((conv => lhs; whnf) <;> rfl)); (· rfl); (· rfl); clear HX; (first | (have hq := b9; clear hq; intro w b10 HX) | (have hq := b8; clear hq; intro w b9 HX) | (have hq := b7; clear hq; intro w b8 HX) | (have hq := b6; clear hq; intro w b7 HX) | (have hq := b5; clear hq; intro w b6 HX) | (have hq := b4; clear hq; intro w b5 HX) | (have hq := b3; clear hq; intro w b4 HX) | (have hq := b2; clear hq; intro w b3 HX) | (have hq := b; clear hq; intro w b2 HX) | intro w b HX); simp only [Act.put, List.setIfInBounds_toArray, List.set_cons_zero, List.set_cons_succ]) | ((with_reducible apply sx_makeMap .string HX); (· rfl); clear HX; intro w mm HX; simp only [Act.put, List.setIfInBounds_toArray, List.set_cons_zero, List.set_cons_succ]) | ((with_reducible apply sx_oneS HX); (· (first | exact sl_str | exact sl_res | exact sl_op | exact sl_ent)); (· exact ⟨rfl, rfl⟩); (· rfl); (· rfl); clear HX; (first | (have hq := b9; clear hq; intro w b10 HX) | (have hq := b8; clear hq; intro w b9 HX) | (have hq := b7; clear hq; intro w b8 HX) | (have hq := b6; clear hq; intro w b7 HX) | (have hq := b5; clear hq; intro w b6 HX) | (have hq := b4; clear hq; intro w b5 HX) | (have hq := b3; clear hq; intro w b4 HX) | (have hq := b2; clear hq; intro w b3 HX) | (have hq := b; clear hq; intro w b2 HX) | intro w b HX); simp only [Act.put, List.setIfInBounds_toArray, List.set_cons_zero, List.set_cons_succ]) | ((with_reducible apply sx_one1 HX); (· (first | exact sl_str | exact sl_res | exact sl_op | exact sl_ent)); (· ((conv => lhs; whnf) <;> rfl)); (· rfl); clear HX; (first | (have hq := b9; clear hq; intro w b10 HX) | (have hq := b8; clear hq; intro w b9 HX) | (have hq := b7; clear hq; intro w b8 HX) | (have hq := b6; clear hq; intro w b7 HX) | (have hq := b5; clear hq; intro w b6 HX) | (have hq := b4; clear hq; intro w b5 HX) | (have hq := b3; clear hq; intro w b4 HX) | (have hq := b2; clear hq; intro w b3 HX) | (have hq := b; clear hq; intro w b2 HX) | intro w b HX); simp only [Act.put, List.setIfInBounds_toArray, List.set_cons_zero, List.set_cons_succ]) | ((with_reducible apply sx_app1 HX); (· (first | exact sl_str | exact sl_res | exact sl_op | exact sl_ent)); (· rfl); (· rfl); (· (repeat (first | (with_reducible exact Rem.here) | (with_reducible apply Rem.there)))); (· (repeat (first | (with_reducible exact List.mem_cons_self ..) | (with_reducible apply List.mem_cons_of_mem)))); (· rfl); (· rfl); (· exact HBD.out); clear HX; intro w av nv cv HX; simp only [Act.put, List.setIfInBounds_toArray, List.set_cons_zero, List.set_cons_succ]))
  refine (sames_any HX.out.up2 _ _ r.names HA.out HB.out).mono ?_
  rintro e w ⟨rfl, hx⟩
  clear HX
  have HX := Lib.hid hx
  clear hx
  go_wp2_with (first | ((with_reducible apply sx_loadS HX); (· rfl); (· rfl); (· (first | exact sn_op | exact sn_res | exact sn_stat | exact sn_node | exact sn_reply | exact sn_req | exact sn_tree | exact sn_rnode | exact sn_rtree | exact sn_rent | exact sn_act)); (· (repeat (first | (with_reducible exact List.mem_cons_self ..) | (with_reducible apply List.mem_cons_of_mem)))); (· rfl); simp only [Act.put, List.setIfInBounds_toArray, List.set_cons_zero, List.set_cons_succ, List.drop_zero, List.drop_succ_cons, List.take_succ_cons, List.take_zero, List.toList_toArray, NodeS.cells, OpS.cells, ResS.cells]) | ((with_reducible apply sx_load HX); (· rfl); (· rfl); (· kernel_rfl); (· (repeat (first | (with_reducible exact List.mem_cons_self ..) | (with_reducible apply List.mem_cons_of_mem)))); (· rfl); simp only [Act.put, List.setIfInBounds_toArray, List.set_cons_zero, List.set_cons_succ]) | ((with_reducible apply sx_storeS HX); (· rfl); (· rfl); (· rfl); (· kernel_rfl); (· (repeat (first | (with_reducible exact Rep.here) | (with_reducible apply Rep.there)))); (· rfl); (· rfl); clear HX; intro w HX; simp only [Act.put, List.setIfInBounds_toArray, List.set_cons_zero, List.set_cons_succ, setMany, Nat.reduceAdd, NodeS.cells, OpS.cells, ResS.cells] at HX ⊢) | ((with_reducible apply sx_store1 HX); (· rfl); (· ((conv => lhs; whnf) <;> rfl)); (· rfl); (· rfl); (· kernel_rfl); (· (repeat (first | (with_reducible exact Rep.here) | (with_reducible apply Rep.there)))); (· rfl); (· rfl); clear HX; intro w HX; simp only [Act.put, List.setIfInBounds_toArray, List.set_cons_zero, List.set_cons_succ, NodeS.cells, OpS.cells, ResS.cells] at HX ⊢) | ((with_reducible apply sx_alloc HX); (· rfl); (· (first | exact z_op | exact z_res | exact z_node | exact z_reply | exact z_req | exact z_rnode | exact z_rreply)); clear HX; (first | (have hq := b9; clear hq; intro w b10 HX) | (have hq := b8; clear hq; intro w b9 HX) | (have hq := b7; clear hq; intro w b8 HX) | (have hq := b6; clear hq; intro w b7 HX) | (have hq := b5; clear hq; intro w b6 HX) | (have hq := b4; clear hq; intro w b5 HX) | (have hq := b3; clear hq; intro w b4 HX) | (have hq := b2; clear hq; intro w b3 HX) | (have hq := b; clear hq; intro w b2 HX) | intro w b HX); simp only [Act.put, List.setIfInBounds_toArray, List.set_cons_zero, List.set_cons_succ]) | ((with_reducible apply sx_boxS HX); (· rfl); (· rfl); clear HX; (first | (have hq := b9; clear hq; intro w b10 HX) | (have hq := b8; clear hq; intro w b9 HX) | (have hq := b7; clear hq; intro w b8 HX) | (have hq := b6; clear hq; intro w b7 HX) | (have hq := b5; clear hq; intro w b6 HX) | (have hq := b4; clear hq; intro w b5 HX) | (have hq := b3; clear hq; intro w b4 HX) | (have hq := b2; clear hq; intro w b3 HX) | (have hq := b; clear hq; intro w b2 HX) | intro w b HX); simp only [Act.put, List.setIfInBounds_toArray, List.set_cons_zero, List.set_cons_succ]) | ((with_reducible apply sx_box1 HX); (· ((conv => lhs; whnf) <;> rfl)); (· rfl); (· rfl); clear HX; (first | (have hq := b9; clear hq; intro w b10 HX) | (have hq := b8; clear hq; intro w b9 HX) | (have hq := b7; clear hq; intro w b8 HX) | (have hq := b6; clear hq; intro w b7 HX) | (have hq := b5; clear hq; intro w b6 HX) | (have hq := b4; clear hq; intro w b5 HX) | (have hq := b3; clear hq; intro w b4 HX) | (have hq := b2; clear hq; intro w b3 HX) | (have hq := b; clear hq; intro w b2 HX) | intro w b HX); simp only [Act.put, List.setIfInBounds_toArray, List.set_cons_zero, List.set_cons_succ]) | ((with_reducible apply sx_makeMap .string HX); (· rfl); clear HX; intro w mm HX; simp only [Act.put, List.setIfInBounds_toArray, List.set_cons_zero, List.set_cons_succ]) | ((with_reducible apply sx_oneS HX); (· (first | exact sl_str | exact sl_res | exact sl_op | exact sl_ent)); (· exact ⟨rfl, rfl⟩); (· rfl); (· rfl); clear HX; (first | (have hq := b9; clear hq; intro w b10 HX) | (have hq := b8; clear hq; intro w b9 HX) | (have hq := b7; clear hq; intro w b8 HX) | (have hq := b6; clear hq; intro w b7 HX) | (have hq := b5; clear hq; intro w b6 HX) | (have hq := b4; clear hq; intro w b5 HX) | (have hq := b3; clear hq; intro w b4 HX) | (have hq := b2; clear hq; intro w b3 HX) | (have hq := b; clear hq; intro w b2 HX) | intro w b HX); simp only [Act.put, List.setIfInBounds_toArray, List.set_cons_zero, List.set_cons_succ]) | ((with_reducible apply sx_one1 HX); (· (first | exact sl_str | exact sl_res | exact sl_op | exact sl_ent)); (· ((conv => lhs; whnf) <;> rfl)); (· rfl); clear HX; (first | (have hq := b9; clear hq; intro w b10 HX) | (have hq := b8; clear hq; intro w b9 HX) | (have hq := b7; clear hq; intro w b8 HX) | (have hq := b6; clear hq; intro w b7 HX) | (have hq := b5; clear hq; intro w b6 HX) | (have hq := b4; clear hq; intro w b5 HX) | (have hq := b3; clear hq; intro w b4 HX) | (have hq := b2; clear hq; intro w b3 HX) | (have hq := b; clear hq; intro w b2 HX) | intro w b HX); simp only [Act.put, List.setIfInBounds_toArray, List.set_cons_zero, List.set_cons_succ]) | ((with_reducible apply sx_app1 HX); (· (first | exact sl_str | exact sl_res | exact sl_op | exact sl_ent)); (· rfl); (· rfl); (· (repeat (first | (with_reducible exact Rem.here) | (with_reducible apply Rem.there)))); (· (repeat (first | (with_reducible exact List.mem_cons_self ..) | (with_reducible apply List.mem_cons_of_mem)))); (· rfl); (· rfl); (· exact HBD.out); clear HX; intro w av nv cv HX; simp only [Act.put, List.setIfInBounds_toArray, List.set_cons_zero, List.set_cons_succ]))
  go_ret
  exact ⟨rfl, HX.out.cut1.cut1⟩
theorem long_len {l : List OpS} (h : longS l = false) : l.length ≤ 20 ∧ ∀ o ∈ l, o.path.size ≤ 300 := by
  unfold longS at h
  rw [Bool.or_eq_false_iff] at h
  refine ⟨by have := of_decide_eq_false h.1; omega, fun o ho => ?_⟩
  have := List.any_eq_false.1 h.2 o ho
  simp at this
  omega
end
end Go.Proofs.YtjeaoopamebgjaaGreatDoor

/-
  Several checks (plain).
-/
namespace Go.Av
open Go.RowKit
def qP : ByteArray := ⟨#[47, 113]⟩
def checkO (v : Int) : OpS := ⟨4, qP, ⟨#[]⟩, v, 0⟩
def badV (m v : Int) : Bool := v != -1 && v != m
/-- The first version that does not fit. -/
def badI (m : Int) (l : List Int) : Int := match l.findIdx? (badV m) with
  | none => -1
  | some i => i
theorem check_good {v : Int} (h1 : -1 ≤ v) : goodE (checkO v) = 0 := by
  have h2 : formedS (checkO v) = true := by
    have : formedS (checkO 0) = true := by kernel_rfl
    unfold formedS at this ⊢
    simp only [Bool.and_eq_true, decide_eq_true_eq] at this ⊢
    exact ⟨this.1, this.2.1, this.2.2.1, h1, this.2.2.2.2⟩
  have h3 : ownS (checkO v) = true := by unfold ownS versS; simp [checkO]
  have h4 : numS (checkO v) = true := by
    have : numS (checkO 0) = true := by kernel_rfl
    exact this
  unfold goodE
  rw [if_neg (by rw [h2]; decide), if_neg (by show ¬ 1000 < (⟨#[]⟩ : ByteArray).size; decide), if_neg (by rw [h3, h4]; simp)]
theorem check_do {S : TreeS} {n : NodeS} (h : lookT qP.data.toList S.l = some n) {v : Int} (h1 : -1 ≤ v) : doT S (checkO v) 1 2 = if badV n.ver v = true then (failS 6, S) else (⟨0, qP, ⟨#[]⟩, [], noSt⟩, S) := by
  unfold doT
  rw [check_good h1, if_neg (by decide), if_neg (by omega), if_neg (by show ¬ (4 : Int) = 1; decide), if_pos (.inr (.inr rfl))]
  unfold changeT
  rw [show (checkO v).p = qP.data.toList from rfl, h]
  dsimp only
  have hw : wrongS (checkO v) n = badV n.ver v := rfl
  rw [hw]
  split
  · rfl
  · rw [if_neg (by show ¬ ((4 : Int) = 2 ∧ _); omega), if_neg (by show ¬ (4 : Int) = 2; decide), if_neg (by show ¬ (4 : Int) = 3; decide)]
    rfl
theorem check_steps {S : TreeS} {n : NodeS} (h : lookT qP.data.toList S.l = some n) : ∀ (l : List Int), (∀ v ∈ l, -1 ≤ v) →
    match l.findIdx? (badV n.ver) with
    | none => (stepsT 1 2 (l.map checkO) S).2.2 = 0 ∧ (stepsT 1 2 (l.map checkO) S).2.1 = S
    | some i => (stepsT 1 2 (l.map checkO) S).2.2 = 6 ∧ (stepsT 1 2 (l.map checkO) S).1.length = i
  | [], _ => ⟨rfl, rfl⟩
  | v :: l, hv => by
    have ih := check_steps h l (fun x hx => hv x (List.mem_cons_of_mem _ hx))
    have hd := check_do h (hv v (List.mem_cons_self ..))
    rw [List.findIdx?_cons, List.map_cons]
    unfold stepsT
    rw [hd]
    by_cases hb : badV n.ver v = true
    · rw [if_pos hb, if_pos hb]
      exact ⟨rfl, rfl⟩
    · rw [if_neg hb, if_neg hb]
      dsimp only
      rw [if_neg (fun hh => hh rfl)]
      cases hf : l.findIdx? (badV n.ver) with
      | none =>
        rw [hf] at ih
        exact ih
      | some i =>
        rw [hf] at ih
        exact ⟨ih.1, by dsimp only; rw [List.length_cons, ih.2]⟩
/-- A multi of checks. -/
theorem check_many {S : TreeS} {n : NodeS} (h : lookT qP.data.toList S.l = some n) (l : List Int) (hv : ∀ v ∈ l, -1 ≤ v) (h1 : 1 ≤ l.length) (h16 : l.length ≤ 16) :
    (manyT S 1 2 (l.map checkO)).2.2 = decide (badI n.ver l < 0) ∧ (manyT S 1 2 (l.map checkO)).1.at_ = badI n.ver l ∧ (manyT S 1 2 (l.map checkO)).1.err = (if badI n.ver l < 0 then 0 else 6) ∧ (manyT S 1 2 (l.map checkO)).2.1 = S := by
  have hs := check_steps h l hv
  unfold manyT badI
  rw [if_neg (by rw [List.length_map]; omega), if_neg (by rw [List.length_map]; omega)]
  cases hf : l.findIdx? (badV n.ver) with
  | none =>
    rw [hf] at hs
    rw [if_neg (fun hh => hh hs.1)]
    exact ⟨rfl, rfl, rfl, hs.2⟩
  | some i =>
    rw [hf] at hs
    rw [if_pos (by rw [hs.1]; decide), hs.1, hs.2]
    refine ⟨?_, rfl, ?_, rfl⟩
    · exact (decide_eq_false (by dsimp only; omega)).symm
    · rw [if_neg (by dsimp only; omega)]; rfl
theorem bad_snoc (m : Int) (l : List Int) (v : Int) : badI m (l ++ [v]) = if (decide (badI m l < 0) && badV m v) = true then (l.length : Int) else badI m l := by
  unfold badI
  rw [List.findIdx?_append]
  cases hf : l.findIdx? (badV m) with
  | none =>
    rw [List.findIdx?_cons]
    by_cases hb : badV m v = true
    · simp [hb]
    · simp [hb]
  | some i =>
    have : ¬ ((i : Int) < 0) := by omega
    simp [this]
theorem bad_lo (m : Int) (l : List Int) : -1 ≤ badI m l ∧ badI m l < l.length := by
  unfold badI
  cases hf : l.findIdx? (badV m) with
  | none => dsimp only; omega
  | some i =>
    have := List.findIdx?_eq_some_iff_findIdx_eq.1 hf
    dsimp only
    omega
theorem atUp_len2 (p : Bs) (f : NodeS → NodeS) (l : NoL) : (atUp p f l).length = l.length := atUp_len p f l
theorem do_len (S : TreeS) (o : OpS) (sess zxid : Int) : (doT S o sess zxid).2.l.length ≤ S.l.length + 1 := by
  unfold doT
  split
  · exact Nat.le_succ _
  · split
    · exact Nat.le_succ _
    · split
      · unfold createT
        split
        · exact Nat.le_succ _
        · show (layT _ _ _).length ≤ _
          unfold layT
          rw [atUp_len, insT_len]
          exact Nat.le_refl _
      · split
        · unfold changeT
          split
          · exact Nat.le_succ _
          · split
            · exact Nat.le_succ _
            · split
              · exact Nat.le_succ _
              · split
                · show (remT _ _).length ≤ _
                  unfold remT
                  rw [atUp_len]
                  exact Nat.le_trans (List.length_filter_le _ _) (Nat.le_succ _)
                · split
                  · show (setT _ _ _).length ≤ _
                    rw [setT_len]
                    exact Nat.le_succ _
                  · exact Nat.le_succ _
        · exact Nat.le_succ _
theorem play_len {sess zxid : Int} : ∀ (l : List OpS) (S : TreeS), (playT sess zxid l S).l.length ≤ S.l.length + l.length
  | [], _ => Nat.le_refl _
  | o :: l, S => by
    have h1 := play_len (sess := sess) (zxid := zxid) l (doT S o sess zxid).2
    have h2 := do_len S o sess zxid
    show (playT sess zxid l (doT S o sess zxid).2).l.length ≤ _
    rw [List.length_cons]
    omega
/-- Behind a create of "/q" it is there. -/
theorem made_q {K : Nat} {S : TreeS} (hB : TreeB K S) (hl : (S.l.length : Int) < S.room) : ∃ n, lookT qP.data.toList (doT S (madeO qP 0) 1 1).2.l = some n := by
  have hg : goodE (madeO qP 0) = 0 := by kernel_rfl
  have hu : parentP (madeO qP 0).p = none := by kernel_rfl
  unfold doT
  rw [hg, if_neg (by decide), if_neg (by omega), if_pos (show (madeO qP 0).kind = 1 from rfl)]
  have hp : placeT S (madeO qP 0) = endT S (madeO qP 0).p := by unfold placeT; rw [hu]
  unfold createT
  rw [hp]
  by_cases hs : (lookT (madeO qP 0).p S.l).isSome = true
  · have he : endT S (madeO qP 0).p = (5, []) := by unfold endT; rw [if_pos hs]
    rw [he, if_pos (by decide)]
    exact Option.isSome_iff_exists.1 hs
  · have he : endT S (madeO qP 0).p = (0, (madeO qP 0).p) := by unfold endT; rw [if_neg hs, if_neg (by omega)]
    rw [he, if_neg (by decide)]
    refine ⟨createN (madeO qP 0) 1 1, ?_⟩
    show lookT (madeO qP 0).p (layT (madeO qP 0).p _ S.l) = _
    unfold layT atUp
    rw [hu]
    have hno : lookT (madeO qP 0).p S.l = none := by simpa using hs
    exact (look_mem (rise_nodup (insT_rise hB.rise hno))).2 ((insT_perm _ _ _).mem_iff.2 (List.mem_cons_self ..))
end Go.Av

/-
  A slice of numbers that a law is handed: as a row that is read.
-/
namespace Go.Av
open Go.RowKit
/-- What the walk is told of a slice of numbers. -/
def IsIntsJ (w : World) (a : Option Addr) (len cap : Nat) (zs : List Int) : Prop :=
  (a = none ∧ len = 0 ∧ cap = 0 ∧ zs = []) ∨
  ∃ x, a = some x ∧ len ≤ cap ∧ cap ≤ maxLen ∧ zs.length = cap ∧ (∀ i, i < zs.length → w.cell? (x.add i) = some (.int .i64 (zs.getD i 0))) ∧ ∀ n ∈ zs, (Lit.int .i64 n).wf = true
theorem IsIntsJ.read {w : World} {a : Option Addr} {len cap : Nat} {zs : List Int} (h : IsIntsJ w a len cap zs) : ∃ (l : List Int) (E : List Nat), l.length = len ∧ ReadRow w 1 (.slice a len cap) (l.map fun z => Value.int .i64 z) E := by
  rcases h with ⟨rfl, rfl, rfl, rfl⟩ | ⟨x, rfl, h1, h2, h3, h4, h5⟩
  · exact ⟨[], [], rfl, none, 0, 0, rfl, rfl, Nat.le_refl _, by decide, fun _ => rfl, .inl ⟨rfl, rfl⟩⟩
  · refine ⟨zs.take len, if len = 0 then [] else [x.block], by simp; omega, some x, len, cap, rfl, by simp; omega, h1, h2, by simp, ?_⟩
    by_cases h0 : len = 0
    · subst h0; exact .inl ⟨by simp, by simp⟩
    · refine .inr ?_
      have hc0 := h4 0 (by omega)
      have hsp : x.spot = none := by
        cases hs : x.spot with
        | none => rfl
        | some _ =>
          have : x.add 0 = x := by simp [Addr.add]
          rw [this] at hc0
          unfold World.cell? at hc0
          split at hc0 <;> simp [hs] at hc0
      obtain ⟨b, o, sp⟩ := x
      simp only at hsp
      subst hsp
      refine ⟨b, o, rfl, by simp [h0], ?_, fun i u hu => ?_⟩
      · have := World.block_lt_of_cell? w _ hc0
        simpa [Addr.add_lit] using this
      · rw [List.getElem?_map, List.getElem?_take] at hu
        split at hu
        · rename_i hi
          cases hz : zs[i]? with
          | none => rw [hz] at hu; cases hu
          | some z =>
            rw [hz] at hu
            cases hu
            have := h4 i (by omega)
            rw [Addr.add_lit] at this
            rw [this, List.getD_eq_getElem?_getD, hz]
            rfl
        · cases hu

end Go.Av
