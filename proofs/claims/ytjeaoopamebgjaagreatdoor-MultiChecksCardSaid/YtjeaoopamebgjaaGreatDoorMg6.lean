/-
  Texts of this claim, laid together.
-/
import Derived.Test.YtjeaoopamebgjaaGreatDoorMg5
import Derived.Deep.Matrix
import Derived.Deep.Slices
import Derived.ChangeSame
import Derived.Great.FillDense
import Derived.Deep.DeepCutAuto
import Derived.Sort.KeysCollected
import Derived.Lib.SlKeysI
import Derived.Shelf.SlIter.Nil
import Derived.Shelf.SortM.Plain
import Derived.Shelf.SortM.SortNone
import Derived.Ground.GgzProg
import Derived.Ground.SlgmProg
import Derived.Test.YtjeaoopamebgjaaGreatDoorProg
set_option linter.unusedVariables false
set_option linter.unusedSimpArgs false

/-
  Several at once: the walk of multi.Do.
-/
set_option linter.unusedSimpArgs false
namespace Go.Av
open Go.RowKit
theorem steps_fail {sess zxid : Int} (o : OpS) (l2 : List OpS) : ∀ (l : List OpS) (S : TreeS), (stepsT sess zxid l S).2.2 = 0 → (doT (stepsT sess zxid l S).2.1 o sess zxid).1.err ≠ 0 →
    (stepsT sess zxid (l ++ o :: l2) S).1.length = l.length ∧ (stepsT sess zxid (l ++ o :: l2) S).2.2 = (doT (stepsT sess zxid l S).2.1 o sess zxid).1.err
  | [], S, _, h => by
    simp only [List.nil_append, stepsT] at h ⊢
    rw [if_pos h]
    exact ⟨rfl, rfl⟩
  | q :: l, S, h0, h => by
    unfold stepsT at h0 h
    by_cases hq : (doT S q sess zxid).1.err ≠ 0
    · rw [if_pos hq] at h0; exact absurd h0 hq
    · rw [if_neg hq] at h0 h
      have ih := steps_fail o l2 l (doT S q sess zxid).2 h0 h
      rw [List.cons_append]
      unfold stepsT
      rw [if_neg hq, if_neg hq]
      simp only [List.length_cons]
      exact ⟨by rw [ih.1], ih.2⟩
theorem opcells_len (o : OpS) : o.cells.length = 5 := rfl
end Go.Av
namespace Go.Proofs.YtjeaoopamebgjaaGreatDoor
open Go.RowKit Go.Av
section
variable {w0 w : World} {t K : Nat} {S : TreeS} {P P' : List PRow} {R : List Thing} {rows : List (Value × Bs)}
/-- What a multi leaves. -/
def ManyPost (w0 : World) (t : Nat) (P : List PRow) (R : List Thing) (rows : List (Value × Bs)) (m : ReplyS × TreeS × Bool) (e : Ending) (w' : World) : Prop :=
  ∃ v P', e = .returned (.tuple #[v, .bool m.2.2]) ∧ (∀ q ∈ P, q ∈ P') ∧ ReplyIn P' m.1 v ∧ Sep w0 w' (ThPool w0 P' :: ThTree t m.2.1 P' :: R) rows
def ManyRel (w0 : World) (t b b2 c : Nat) (sess zxid : Int) (S : TreeS) (ops : List OpS) (K : Nat) (P : List PRow) (R : List Thing) (rows : List (Value × Bs)) (k : Nat) (v31 : Value) (w : World) : Prop :=
  ∃ (i : Nat) (P' : List PRow) (xs : List Value) (a : Option Addr) (n c' : Nat), i + k = ops.length ∧ v31 = .int .i64 (i : Int) ∧ (∀ q ∈ P, q ∈ P') ∧ (stepsT sess zxid (ops.take i) S).2.2 = 0 ∧ ResL P' (stepsT sess zxid (ops.take i) S).1 xs ∧
    Sep w0 w (ThCell b2 (.cells #[.int .i64 0, .int .i64 zxid, .int .i64 0, .int .i64 (-1), .slice a n c'] 41 (0, 0)) :: ThRow 11 (.slice a n c') xs :: ThPool w0 P' :: ThTree c (stepsT sess zxid (ops.take i) S).2.1 P' :: ThTree t S P' ::
      ThCell b (.cells #[.int .i64 0, .int .i64 0, .int .i64 0, .int .i64 0, .slice none 0 0] 41 (0, 0)) :: R) rows
set_option maxRecDepth 100000 in
set_option maxHeartbeats 8000000 in
theorem mdo_any (h : Sep w0 w (ThPool w0 P :: ThTree t S P :: R) rows) (hd : DoorN w0) (hB : TreeB K S) (hK : K + 16 ≤ 100000) (sess zxid : Int) (ops : List OpS) (v : Value) (hv : (5, v, ops.flatMap OpS.cells) ∈ P) (hp : ∀ o ∈ ops, o.path.size ≤ 100000) :
    Calls Tryz.prog 14 #[.pointer (some ⟨t, 0, none⟩), .int .i64 sess, .int .i64 zxid, v] w (ManyPost w0 t P R rows (manyT S sess zxid ops)) := by
  obtain ⟨E, hE⟩ := h.poolGet hv
  obtain ⟨a0, n0, c0, rfl, hl0, hn0, hc0, hne⟩ := ReadRow.some hE
  rw [flatG_len opcells_len] at hl0
  obtain rfl : ops.length = n0 := by omega
  have HNE := Lib.hid hne
  have HV := Lib.hid hv
  have HX := Lib.hid h
  have HBB := Lib.hid (show _ ∧ _ from ⟨hB, hK⟩)
  obtain ⟨rr, hrr⟩ : ∃ rr, manyT S sess zxid ops = rr := ⟨_, rfl⟩
  rw [hrr]
  have HRR := Lib.hid hrr
  clear hrr h hE hne hv hl0 hn0 hc0 hB hK
  by_cases h16 : 16 < ops.length
  · have HE := Lib.hid (show rr = (failR 0 2 (-1) 0, S, false) by rw [← HRR.out]; unfold manyT; rw [if_pos h16])
    have q1 : decide (16 < ops.length) = true := decide_eq_true h16
    have q2 : decide (16 < (ops.length : Int)) = true := decide_eq_true (by omega)
    clear h16 HRR
    go_enter Tryz.func14, Tryz.ntmps14
    go_wp2_with (first | ((with_reducible apply sx_loadS HX); (· rfl); (· rfl); (· (first | exact sn_op | exact sn_res | exact sn_stat | exact sn_node | exact sn_reply | exact sn_req | exact sn_tree)); (· (repeat (first | (with_reducible exact List.mem_cons_self ..) | (with_reducible apply List.mem_cons_of_mem)))); (· rfl); simp only [Act.put, List.setIfInBounds_toArray, List.set_cons_zero, List.set_cons_succ, List.drop_zero, List.drop_succ_cons, List.take_succ_cons, List.take_zero, List.toList_toArray, NodeS.cells, OpS.cells, ResS.cells]) | ((with_reducible apply sx_load HX); (· rfl); (· rfl); (· kernel_rfl); (· (repeat (first | (with_reducible exact List.mem_cons_self ..) | (with_reducible apply List.mem_cons_of_mem)))); (· rfl); simp only [Act.put, List.setIfInBounds_toArray, List.set_cons_zero, List.set_cons_succ]) | ((with_reducible apply sx_storeS HX); (· rfl); (· rfl); (· rfl); (· kernel_rfl); (· (repeat (first | (with_reducible exact Rep.here) | (with_reducible apply Rep.there)))); (· rfl); (· rfl); clear HX; intro w HX; simp only [Act.put, List.setIfInBounds_toArray, List.set_cons_zero, List.set_cons_succ, setMany, Nat.reduceAdd, NodeS.cells, OpS.cells, ResS.cells] at HX ⊢) | ((with_reducible apply sx_store1 HX); (· rfl); (· ((conv => lhs; whnf) <;> rfl)); (· rfl); (· rfl); (· kernel_rfl); (· (repeat (first | (with_reducible exact Rep.here) | (with_reducible apply Rep.there)))); (· rfl); (· rfl); clear HX; intro w HX; simp only [Act.put, List.setIfInBounds_toArray, List.set_cons_zero, List.set_cons_succ, NodeS.cells, OpS.cells, ResS.cells] at HX ⊢) | ((with_reducible apply sx_alloc HX); (· rfl); (· (first | exact z_op | exact z_res | exact z_node | exact z_reply | exact z_req)); clear HX; (first | (have hq := b9; clear hq; intro w b10 HX) | (have hq := b8; clear hq; intro w b9 HX) | (have hq := b7; clear hq; intro w b8 HX) | (have hq := b6; clear hq; intro w b7 HX) | (have hq := b5; clear hq; intro w b6 HX) | (have hq := b4; clear hq; intro w b5 HX) | (have hq := b3; clear hq; intro w b4 HX) | (have hq := b2; clear hq; intro w b3 HX) | (have hq := b; clear hq; intro w b2 HX) | intro w b HX); simp only [Act.put, List.setIfInBounds_toArray, List.set_cons_zero, List.set_cons_succ]) | ((with_reducible apply sx_boxS HX); (· rfl); (· rfl); clear HX; (first | (have hq := b9; clear hq; intro w b10 HX) | (have hq := b8; clear hq; intro w b9 HX) | (have hq := b7; clear hq; intro w b8 HX) | (have hq := b6; clear hq; intro w b7 HX) | (have hq := b5; clear hq; intro w b6 HX) | (have hq := b4; clear hq; intro w b5 HX) | (have hq := b3; clear hq; intro w b4 HX) | (have hq := b2; clear hq; intro w b3 HX) | (have hq := b; clear hq; intro w b2 HX) | intro w b HX); simp only [Act.put, List.setIfInBounds_toArray, List.set_cons_zero, List.set_cons_succ]) | ((with_reducible apply sx_box1 HX); (· ((conv => lhs; whnf) <;> rfl)); (· rfl); (· rfl); clear HX; (first | (have hq := b9; clear hq; intro w b10 HX) | (have hq := b8; clear hq; intro w b9 HX) | (have hq := b7; clear hq; intro w b8 HX) | (have hq := b6; clear hq; intro w b7 HX) | (have hq := b5; clear hq; intro w b6 HX) | (have hq := b4; clear hq; intro w b5 HX) | (have hq := b3; clear hq; intro w b4 HX) | (have hq := b2; clear hq; intro w b3 HX) | (have hq := b; clear hq; intro w b2 HX) | intro w b HX); simp only [Act.put, List.setIfInBounds_toArray, List.set_cons_zero, List.set_cons_succ]) | ((with_reducible apply sx_makeMap .string HX); (· rfl); clear HX; intro w mm HX; simp only [Act.put, List.setIfInBounds_toArray, List.set_cons_zero, List.set_cons_succ]) | ((with_reducible apply sx_oneS HX); (· (first | exact sl_str | exact sl_res | exact sl_op)); (· exact ⟨rfl, rfl⟩); (· rfl); (· rfl); clear HX; (first | (have hq := b9; clear hq; intro w b10 HX) | (have hq := b8; clear hq; intro w b9 HX) | (have hq := b7; clear hq; intro w b8 HX) | (have hq := b6; clear hq; intro w b7 HX) | (have hq := b5; clear hq; intro w b6 HX) | (have hq := b4; clear hq; intro w b5 HX) | (have hq := b3; clear hq; intro w b4 HX) | (have hq := b2; clear hq; intro w b3 HX) | (have hq := b; clear hq; intro w b2 HX) | intro w b HX); simp only [Act.put, List.setIfInBounds_toArray, List.set_cons_zero, List.set_cons_succ]) | ((with_reducible apply sx_one1 HX); (· (first | exact sl_str | exact sl_res | exact sl_op)); (· ((conv => lhs; whnf) <;> rfl)); (· rfl); clear HX; (first | (have hq := b9; clear hq; intro w b10 HX) | (have hq := b8; clear hq; intro w b9 HX) | (have hq := b7; clear hq; intro w b8 HX) | (have hq := b6; clear hq; intro w b7 HX) | (have hq := b5; clear hq; intro w b6 HX) | (have hq := b4; clear hq; intro w b5 HX) | (have hq := b3; clear hq; intro w b4 HX) | (have hq := b2; clear hq; intro w b3 HX) | (have hq := b; clear hq; intro w b2 HX) | intro w b HX); simp only [Act.put, List.setIfInBounds_toArray, List.set_cons_zero, List.set_cons_succ]) | ((with_reducible apply sx_app1 HX); (· (first | exact sl_str | exact sl_res | exact sl_op)); (· rfl); (· rfl); (· (repeat (first | (with_reducible exact Rem.here) | (with_reducible apply Rem.there)))); (· (repeat (first | (with_reducible exact List.mem_cons_self ..) | (with_reducible apply List.mem_cons_of_mem)))); (· rfl); (· rfl); (· exact HBD.out); clear HX; intro w av nv cv HX; simp only [Act.put, List.setIfInBounds_toArray, List.set_cons_zero, List.set_cons_succ]))
    refine (rfail_any HX.out.up1 _ _ _ _).mono ?_
    rintro e w ⟨v, P', rfl, hP', ⟨a', n', c', xs', rfl, hrl, hmem⟩, hS⟩
    clear HX
    have HX := Lib.hid hS
    clear hS
    go_wp2_with (first | ((with_reducible apply sx_loadS HX); (· rfl); (· rfl); (· (first | exact sn_op | exact sn_res | exact sn_stat | exact sn_node | exact sn_reply | exact sn_req | exact sn_tree)); (· (repeat (first | (with_reducible exact List.mem_cons_self ..) | (with_reducible apply List.mem_cons_of_mem)))); (· rfl); simp only [Act.put, List.setIfInBounds_toArray, List.set_cons_zero, List.set_cons_succ, List.drop_zero, List.drop_succ_cons, List.take_succ_cons, List.take_zero, List.toList_toArray, NodeS.cells, OpS.cells, ResS.cells]) | ((with_reducible apply sx_load HX); (· rfl); (· rfl); (· kernel_rfl); (· (repeat (first | (with_reducible exact List.mem_cons_self ..) | (with_reducible apply List.mem_cons_of_mem)))); (· rfl); simp only [Act.put, List.setIfInBounds_toArray, List.set_cons_zero, List.set_cons_succ]) | ((with_reducible apply sx_storeS HX); (· rfl); (· rfl); (· rfl); (· kernel_rfl); (· (repeat (first | (with_reducible exact Rep.here) | (with_reducible apply Rep.there)))); (· rfl); (· rfl); clear HX; intro w HX; simp only [Act.put, List.setIfInBounds_toArray, List.set_cons_zero, List.set_cons_succ, setMany, Nat.reduceAdd, NodeS.cells, OpS.cells, ResS.cells] at HX ⊢) | ((with_reducible apply sx_store1 HX); (· rfl); (· ((conv => lhs; whnf) <;> rfl)); (· rfl); (· rfl); (· kernel_rfl); (· (repeat (first | (with_reducible exact Rep.here) | (with_reducible apply Rep.there)))); (· rfl); (· rfl); clear HX; intro w HX; simp only [Act.put, List.setIfInBounds_toArray, List.set_cons_zero, List.set_cons_succ, NodeS.cells, OpS.cells, ResS.cells] at HX ⊢) | ((with_reducible apply sx_alloc HX); (· rfl); (· (first | exact z_op | exact z_res | exact z_node | exact z_reply | exact z_req)); clear HX; (first | (have hq := b9; clear hq; intro w b10 HX) | (have hq := b8; clear hq; intro w b9 HX) | (have hq := b7; clear hq; intro w b8 HX) | (have hq := b6; clear hq; intro w b7 HX) | (have hq := b5; clear hq; intro w b6 HX) | (have hq := b4; clear hq; intro w b5 HX) | (have hq := b3; clear hq; intro w b4 HX) | (have hq := b2; clear hq; intro w b3 HX) | (have hq := b; clear hq; intro w b2 HX) | intro w b HX); simp only [Act.put, List.setIfInBounds_toArray, List.set_cons_zero, List.set_cons_succ]) | ((with_reducible apply sx_boxS HX); (· rfl); (· rfl); clear HX; (first | (have hq := b9; clear hq; intro w b10 HX) | (have hq := b8; clear hq; intro w b9 HX) | (have hq := b7; clear hq; intro w b8 HX) | (have hq := b6; clear hq; intro w b7 HX) | (have hq := b5; clear hq; intro w b6 HX) | (have hq := b4; clear hq; intro w b5 HX) | (have hq := b3; clear hq; intro w b4 HX) | (have hq := b2; clear hq; intro w b3 HX) | (have hq := b; clear hq; intro w b2 HX) | intro w b HX); simp only [Act.put, List.setIfInBounds_toArray, List.set_cons_zero, List.set_cons_succ]) | ((with_reducible apply sx_box1 HX); (· ((conv => lhs; whnf) <;> rfl)); (· rfl); (· rfl); clear HX; (first | (have hq := b9; clear hq; intro w b10 HX) | (have hq := b8; clear hq; intro w b9 HX) | (have hq := b7; clear hq; intro w b8 HX) | (have hq := b6; clear hq; intro w b7 HX) | (have hq := b5; clear hq; intro w b6 HX) | (have hq := b4; clear hq; intro w b5 HX) | (have hq := b3; clear hq; intro w b4 HX) | (have hq := b2; clear hq; intro w b3 HX) | (have hq := b; clear hq; intro w b2 HX) | intro w b HX); simp only [Act.put, List.setIfInBounds_toArray, List.set_cons_zero, List.set_cons_succ]) | ((with_reducible apply sx_makeMap .string HX); (· rfl); clear HX; intro w mm HX; simp only [Act.put, List.setIfInBounds_toArray, List.set_cons_zero, List.set_cons_succ]) | ((with_reducible apply sx_oneS HX); (· (first | exact sl_str | exact sl_res | exact sl_op)); (· exact ⟨rfl, rfl⟩); (· rfl); (· rfl); clear HX; (first | (have hq := b9; clear hq; intro w b10 HX) | (have hq := b8; clear hq; intro w b9 HX) | (have hq := b7; clear hq; intro w b8 HX) | (have hq := b6; clear hq; intro w b7 HX) | (have hq := b5; clear hq; intro w b6 HX) | (have hq := b4; clear hq; intro w b5 HX) | (have hq := b3; clear hq; intro w b4 HX) | (have hq := b2; clear hq; intro w b3 HX) | (have hq := b; clear hq; intro w b2 HX) | intro w b HX); simp only [Act.put, List.setIfInBounds_toArray, List.set_cons_zero, List.set_cons_succ]) | ((with_reducible apply sx_one1 HX); (· (first | exact sl_str | exact sl_res | exact sl_op)); (· ((conv => lhs; whnf) <;> rfl)); (· rfl); clear HX; (first | (have hq := b9; clear hq; intro w b10 HX) | (have hq := b8; clear hq; intro w b9 HX) | (have hq := b7; clear hq; intro w b8 HX) | (have hq := b6; clear hq; intro w b7 HX) | (have hq := b5; clear hq; intro w b6 HX) | (have hq := b4; clear hq; intro w b5 HX) | (have hq := b3; clear hq; intro w b4 HX) | (have hq := b2; clear hq; intro w b3 HX) | (have hq := b; clear hq; intro w b2 HX) | intro w b HX); simp only [Act.put, List.setIfInBounds_toArray, List.set_cons_zero, List.set_cons_succ]) | ((with_reducible apply sx_app1 HX); (· (first | exact sl_str | exact sl_res | exact sl_op)); (· rfl); (· rfl); (· (repeat (first | (with_reducible exact Rem.here) | (with_reducible apply Rem.there)))); (· (repeat (first | (with_reducible exact List.mem_cons_self ..) | (with_reducible apply List.mem_cons_of_mem)))); (· rfl); (· rfl); (· exact HBD.out); clear HX; intro w av nv cv HX; simp only [Act.put, List.setIfInBounds_toArray, List.set_cons_zero, List.set_cons_succ]))
    refine sx_ret2 HX rfl rfl (by (repeat (first | (with_reducible exact List.mem_cons_self ..) | (with_reducible apply List.mem_cons_of_mem)))) (by kernel_rfl) ?_
    rw [HE.out]
    exact ⟨_, P', rfl, hP', ⟨a', n', c', xs', rfl, hrl, hmem⟩, (tree_mono HX.out.cut1.up1 hP').up1⟩
  by_cases h00 : ops.length = 0
  · have HE := Lib.hid (show rr = (failR 0 1 (-1) 0, S, false) by rw [← HRR.out]; unfold manyT; rw [if_neg h16, if_pos h00])
    have q1 : decide (16 < ops.length) = false := decide_eq_false h16
    have q2 : decide (16 < (ops.length : Int)) = false := decide_eq_false (by omega)
    have q3 : ((ops.length : Int) == 0) = true := by rw [beq_iff_eq]; omega
    clear h16 h00 HRR
    go_enter Tryz.func14, Tryz.ntmps14
    go_wp2_with (first | ((with_reducible apply sx_loadS HX); (· rfl); (· rfl); (· (first | exact sn_op | exact sn_res | exact sn_stat | exact sn_node | exact sn_reply | exact sn_req | exact sn_tree)); (· (repeat (first | (with_reducible exact List.mem_cons_self ..) | (with_reducible apply List.mem_cons_of_mem)))); (· rfl); simp only [Act.put, List.setIfInBounds_toArray, List.set_cons_zero, List.set_cons_succ, List.drop_zero, List.drop_succ_cons, List.take_succ_cons, List.take_zero, List.toList_toArray, NodeS.cells, OpS.cells, ResS.cells]) | ((with_reducible apply sx_load HX); (· rfl); (· rfl); (· kernel_rfl); (· (repeat (first | (with_reducible exact List.mem_cons_self ..) | (with_reducible apply List.mem_cons_of_mem)))); (· rfl); simp only [Act.put, List.setIfInBounds_toArray, List.set_cons_zero, List.set_cons_succ]) | ((with_reducible apply sx_storeS HX); (· rfl); (· rfl); (· rfl); (· kernel_rfl); (· (repeat (first | (with_reducible exact Rep.here) | (with_reducible apply Rep.there)))); (· rfl); (· rfl); clear HX; intro w HX; simp only [Act.put, List.setIfInBounds_toArray, List.set_cons_zero, List.set_cons_succ, setMany, Nat.reduceAdd, NodeS.cells, OpS.cells, ResS.cells] at HX ⊢) | ((with_reducible apply sx_store1 HX); (· rfl); (· ((conv => lhs; whnf) <;> rfl)); (· rfl); (· rfl); (· kernel_rfl); (· (repeat (first | (with_reducible exact Rep.here) | (with_reducible apply Rep.there)))); (· rfl); (· rfl); clear HX; intro w HX; simp only [Act.put, List.setIfInBounds_toArray, List.set_cons_zero, List.set_cons_succ, NodeS.cells, OpS.cells, ResS.cells] at HX ⊢) | ((with_reducible apply sx_alloc HX); (· rfl); (· (first | exact z_op | exact z_res | exact z_node | exact z_reply | exact z_req)); clear HX; (first | (have hq := b9; clear hq; intro w b10 HX) | (have hq := b8; clear hq; intro w b9 HX) | (have hq := b7; clear hq; intro w b8 HX) | (have hq := b6; clear hq; intro w b7 HX) | (have hq := b5; clear hq; intro w b6 HX) | (have hq := b4; clear hq; intro w b5 HX) | (have hq := b3; clear hq; intro w b4 HX) | (have hq := b2; clear hq; intro w b3 HX) | (have hq := b; clear hq; intro w b2 HX) | intro w b HX); simp only [Act.put, List.setIfInBounds_toArray, List.set_cons_zero, List.set_cons_succ]) | ((with_reducible apply sx_boxS HX); (· rfl); (· rfl); clear HX; (first | (have hq := b9; clear hq; intro w b10 HX) | (have hq := b8; clear hq; intro w b9 HX) | (have hq := b7; clear hq; intro w b8 HX) | (have hq := b6; clear hq; intro w b7 HX) | (have hq := b5; clear hq; intro w b6 HX) | (have hq := b4; clear hq; intro w b5 HX) | (have hq := b3; clear hq; intro w b4 HX) | (have hq := b2; clear hq; intro w b3 HX) | (have hq := b; clear hq; intro w b2 HX) | intro w b HX); simp only [Act.put, List.setIfInBounds_toArray, List.set_cons_zero, List.set_cons_succ]) | ((with_reducible apply sx_box1 HX); (· ((conv => lhs; whnf) <;> rfl)); (· rfl); (· rfl); clear HX; (first | (have hq := b9; clear hq; intro w b10 HX) | (have hq := b8; clear hq; intro w b9 HX) | (have hq := b7; clear hq; intro w b8 HX) | (have hq := b6; clear hq; intro w b7 HX) | (have hq := b5; clear hq; intro w b6 HX) | (have hq := b4; clear hq; intro w b5 HX) | (have hq := b3; clear hq; intro w b4 HX) | (have hq := b2; clear hq; intro w b3 HX) | (have hq := b; clear hq; intro w b2 HX) | intro w b HX); simp only [Act.put, List.setIfInBounds_toArray, List.set_cons_zero, List.set_cons_succ]) | ((with_reducible apply sx_makeMap .string HX); (· rfl); clear HX; intro w mm HX; simp only [Act.put, List.setIfInBounds_toArray, List.set_cons_zero, List.set_cons_succ]) | ((with_reducible apply sx_oneS HX); (· (first | exact sl_str | exact sl_res | exact sl_op)); (· exact ⟨rfl, rfl⟩); (· rfl); (· rfl); clear HX; (first | (have hq := b9; clear hq; intro w b10 HX) | (have hq := b8; clear hq; intro w b9 HX) | (have hq := b7; clear hq; intro w b8 HX) | (have hq := b6; clear hq; intro w b7 HX) | (have hq := b5; clear hq; intro w b6 HX) | (have hq := b4; clear hq; intro w b5 HX) | (have hq := b3; clear hq; intro w b4 HX) | (have hq := b2; clear hq; intro w b3 HX) | (have hq := b; clear hq; intro w b2 HX) | intro w b HX); simp only [Act.put, List.setIfInBounds_toArray, List.set_cons_zero, List.set_cons_succ]) | ((with_reducible apply sx_one1 HX); (· (first | exact sl_str | exact sl_res | exact sl_op)); (· ((conv => lhs; whnf) <;> rfl)); (· rfl); clear HX; (first | (have hq := b9; clear hq; intro w b10 HX) | (have hq := b8; clear hq; intro w b9 HX) | (have hq := b7; clear hq; intro w b8 HX) | (have hq := b6; clear hq; intro w b7 HX) | (have hq := b5; clear hq; intro w b6 HX) | (have hq := b4; clear hq; intro w b5 HX) | (have hq := b3; clear hq; intro w b4 HX) | (have hq := b2; clear hq; intro w b3 HX) | (have hq := b; clear hq; intro w b2 HX) | intro w b HX); simp only [Act.put, List.setIfInBounds_toArray, List.set_cons_zero, List.set_cons_succ]) | ((with_reducible apply sx_app1 HX); (· (first | exact sl_str | exact sl_res | exact sl_op)); (· rfl); (· rfl); (· (repeat (first | (with_reducible exact Rem.here) | (with_reducible apply Rem.there)))); (· (repeat (first | (with_reducible exact List.mem_cons_self ..) | (with_reducible apply List.mem_cons_of_mem)))); (· rfl); (· rfl); (· exact HBD.out); clear HX; intro w av nv cv HX; simp only [Act.put, List.setIfInBounds_toArray, List.set_cons_zero, List.set_cons_succ]))
    refine (rfail_any HX.out.up1 _ _ _ _).mono ?_
    rintro e w ⟨v, P', rfl, hP', ⟨a', n', c', xs', rfl, hrl, hmem⟩, hS⟩
    clear HX
    have HX := Lib.hid hS
    clear hS
    go_wp2_with (first | ((with_reducible apply sx_loadS HX); (· rfl); (· rfl); (· (first | exact sn_op | exact sn_res | exact sn_stat | exact sn_node | exact sn_reply | exact sn_req | exact sn_tree)); (· (repeat (first | (with_reducible exact List.mem_cons_self ..) | (with_reducible apply List.mem_cons_of_mem)))); (· rfl); simp only [Act.put, List.setIfInBounds_toArray, List.set_cons_zero, List.set_cons_succ, List.drop_zero, List.drop_succ_cons, List.take_succ_cons, List.take_zero, List.toList_toArray, NodeS.cells, OpS.cells, ResS.cells]) | ((with_reducible apply sx_load HX); (· rfl); (· rfl); (· kernel_rfl); (· (repeat (first | (with_reducible exact List.mem_cons_self ..) | (with_reducible apply List.mem_cons_of_mem)))); (· rfl); simp only [Act.put, List.setIfInBounds_toArray, List.set_cons_zero, List.set_cons_succ]) | ((with_reducible apply sx_storeS HX); (· rfl); (· rfl); (· rfl); (· kernel_rfl); (· (repeat (first | (with_reducible exact Rep.here) | (with_reducible apply Rep.there)))); (· rfl); (· rfl); clear HX; intro w HX; simp only [Act.put, List.setIfInBounds_toArray, List.set_cons_zero, List.set_cons_succ, setMany, Nat.reduceAdd, NodeS.cells, OpS.cells, ResS.cells] at HX ⊢) | ((with_reducible apply sx_store1 HX); (· rfl); (· ((conv => lhs; whnf) <;> rfl)); (· rfl); (· rfl); (· kernel_rfl); (· (repeat (first | (with_reducible exact Rep.here) | (with_reducible apply Rep.there)))); (· rfl); (· rfl); clear HX; intro w HX; simp only [Act.put, List.setIfInBounds_toArray, List.set_cons_zero, List.set_cons_succ, NodeS.cells, OpS.cells, ResS.cells] at HX ⊢) | ((with_reducible apply sx_alloc HX); (· rfl); (· (first | exact z_op | exact z_res | exact z_node | exact z_reply | exact z_req)); clear HX; (first | (have hq := b9; clear hq; intro w b10 HX) | (have hq := b8; clear hq; intro w b9 HX) | (have hq := b7; clear hq; intro w b8 HX) | (have hq := b6; clear hq; intro w b7 HX) | (have hq := b5; clear hq; intro w b6 HX) | (have hq := b4; clear hq; intro w b5 HX) | (have hq := b3; clear hq; intro w b4 HX) | (have hq := b2; clear hq; intro w b3 HX) | (have hq := b; clear hq; intro w b2 HX) | intro w b HX); simp only [Act.put, List.setIfInBounds_toArray, List.set_cons_zero, List.set_cons_succ]) | ((with_reducible apply sx_boxS HX); (· rfl); (· rfl); clear HX; (first | (have hq := b9; clear hq; intro w b10 HX) | (have hq := b8; clear hq; intro w b9 HX) | (have hq := b7; clear hq; intro w b8 HX) | (have hq := b6; clear hq; intro w b7 HX) | (have hq := b5; clear hq; intro w b6 HX) | (have hq := b4; clear hq; intro w b5 HX) | (have hq := b3; clear hq; intro w b4 HX) | (have hq := b2; clear hq; intro w b3 HX) | (have hq := b; clear hq; intro w b2 HX) | intro w b HX); simp only [Act.put, List.setIfInBounds_toArray, List.set_cons_zero, List.set_cons_succ]) | ((with_reducible apply sx_box1 HX); (· ((conv => lhs; whnf) <;> rfl)); (· rfl); (· rfl); clear HX; (first | (have hq := b9; clear hq; intro w b10 HX) | (have hq := b8; clear hq; intro w b9 HX) | (have hq := b7; clear hq; intro w b8 HX) | (have hq := b6; clear hq; intro w b7 HX) | (have hq := b5; clear hq; intro w b6 HX) | (have hq := b4; clear hq; intro w b5 HX) | (have hq := b3; clear hq; intro w b4 HX) | (have hq := b2; clear hq; intro w b3 HX) | (have hq := b; clear hq; intro w b2 HX) | intro w b HX); simp only [Act.put, List.setIfInBounds_toArray, List.set_cons_zero, List.set_cons_succ]) | ((with_reducible apply sx_makeMap .string HX); (· rfl); clear HX; intro w mm HX; simp only [Act.put, List.setIfInBounds_toArray, List.set_cons_zero, List.set_cons_succ]) | ((with_reducible apply sx_oneS HX); (· (first | exact sl_str | exact sl_res | exact sl_op)); (· exact ⟨rfl, rfl⟩); (· rfl); (· rfl); clear HX; (first | (have hq := b9; clear hq; intro w b10 HX) | (have hq := b8; clear hq; intro w b9 HX) | (have hq := b7; clear hq; intro w b8 HX) | (have hq := b6; clear hq; intro w b7 HX) | (have hq := b5; clear hq; intro w b6 HX) | (have hq := b4; clear hq; intro w b5 HX) | (have hq := b3; clear hq; intro w b4 HX) | (have hq := b2; clear hq; intro w b3 HX) | (have hq := b; clear hq; intro w b2 HX) | intro w b HX); simp only [Act.put, List.setIfInBounds_toArray, List.set_cons_zero, List.set_cons_succ]) | ((with_reducible apply sx_one1 HX); (· (first | exact sl_str | exact sl_res | exact sl_op)); (· ((conv => lhs; whnf) <;> rfl)); (· rfl); clear HX; (first | (have hq := b9; clear hq; intro w b10 HX) | (have hq := b8; clear hq; intro w b9 HX) | (have hq := b7; clear hq; intro w b8 HX) | (have hq := b6; clear hq; intro w b7 HX) | (have hq := b5; clear hq; intro w b6 HX) | (have hq := b4; clear hq; intro w b5 HX) | (have hq := b3; clear hq; intro w b4 HX) | (have hq := b2; clear hq; intro w b3 HX) | (have hq := b; clear hq; intro w b2 HX) | intro w b HX); simp only [Act.put, List.setIfInBounds_toArray, List.set_cons_zero, List.set_cons_succ]) | ((with_reducible apply sx_app1 HX); (· (first | exact sl_str | exact sl_res | exact sl_op)); (· rfl); (· rfl); (· (repeat (first | (with_reducible exact Rem.here) | (with_reducible apply Rem.there)))); (· (repeat (first | (with_reducible exact List.mem_cons_self ..) | (with_reducible apply List.mem_cons_of_mem)))); (· rfl); (· rfl); (· exact HBD.out); clear HX; intro w av nv cv HX; simp only [Act.put, List.setIfInBounds_toArray, List.set_cons_zero, List.set_cons_succ]))
    refine sx_ret2 HX rfl rfl (by (repeat (first | (with_reducible exact List.mem_cons_self ..) | (with_reducible apply List.mem_cons_of_mem)))) (by kernel_rfl) ?_
    rw [HE.out]
    exact ⟨_, P', rfl, hP', ⟨a', n', c', xs', rfl, hrl, hmem⟩, (tree_mono HX.out.cut1.up1 hP').up1⟩
  have HRQ := Lib.hid (show (if (stepsT sess zxid ops S).2.2 ≠ 0 then (failR 0 (stepsT sess zxid ops S).2.2 (stepsT sess zxid ops S).1.length ops.length, S, false) else (⟨0, zxid, 0, -1, (stepsT sess zxid ops S).1⟩, (stepsT sess zxid ops S).2.1, true)) = rr by rw [← HRR.out]; unfold manyT; rw [if_neg h16, if_neg h00])
  have HL := Lib.hid (show ops.length ≤ 16 by omega)
  have q1 : decide (16 < ops.length) = false := decide_eq_false h16
  have q2 : decide (16 < (ops.length : Int)) = false := decide_eq_false (by omega)
  have q3 : ((ops.length : Int) == 0) = false := by rw [beq_eq_false_iff_ne]; omega
  clear h16 h00 HRR
  go_enter Tryz.func14, Tryz.ntmps14
  go_wp2_with (first | ((with_reducible apply sx_loadS HX); (· rfl); (· rfl); (· (first | exact sn_op | exact sn_res | exact sn_stat | exact sn_node | exact sn_reply | exact sn_req | exact sn_tree)); (· (repeat (first | (with_reducible exact List.mem_cons_self ..) | (with_reducible apply List.mem_cons_of_mem)))); (· rfl); simp only [Act.put, List.setIfInBounds_toArray, List.set_cons_zero, List.set_cons_succ, List.drop_zero, List.drop_succ_cons, List.take_succ_cons, List.take_zero, List.toList_toArray, NodeS.cells, OpS.cells, ResS.cells]) | ((with_reducible apply sx_load HX); (· rfl); (· rfl); (· kernel_rfl); (· (repeat (first | (with_reducible exact List.mem_cons_self ..) | (with_reducible apply List.mem_cons_of_mem)))); (· rfl); simp only [Act.put, List.setIfInBounds_toArray, List.set_cons_zero, List.set_cons_succ]) | ((with_reducible apply sx_storeS HX); (· rfl); (· rfl); (· rfl); (· kernel_rfl); (· (repeat (first | (with_reducible exact Rep.here) | (with_reducible apply Rep.there)))); (· rfl); (· rfl); clear HX; intro w HX; simp only [Act.put, List.setIfInBounds_toArray, List.set_cons_zero, List.set_cons_succ, setMany, Nat.reduceAdd, NodeS.cells, OpS.cells, ResS.cells] at HX ⊢) | ((with_reducible apply sx_store1 HX); (· rfl); (· ((conv => lhs; whnf) <;> rfl)); (· rfl); (· rfl); (· kernel_rfl); (· (repeat (first | (with_reducible exact Rep.here) | (with_reducible apply Rep.there)))); (· rfl); (· rfl); clear HX; intro w HX; simp only [Act.put, List.setIfInBounds_toArray, List.set_cons_zero, List.set_cons_succ, NodeS.cells, OpS.cells, ResS.cells] at HX ⊢) | ((with_reducible apply sx_alloc HX); (· rfl); (· (first | exact z_op | exact z_res | exact z_node | exact z_reply | exact z_req)); clear HX; (first | (have hq := b9; clear hq; intro w b10 HX) | (have hq := b8; clear hq; intro w b9 HX) | (have hq := b7; clear hq; intro w b8 HX) | (have hq := b6; clear hq; intro w b7 HX) | (have hq := b5; clear hq; intro w b6 HX) | (have hq := b4; clear hq; intro w b5 HX) | (have hq := b3; clear hq; intro w b4 HX) | (have hq := b2; clear hq; intro w b3 HX) | (have hq := b; clear hq; intro w b2 HX) | intro w b HX); simp only [Act.put, List.setIfInBounds_toArray, List.set_cons_zero, List.set_cons_succ]) | ((with_reducible apply sx_boxS HX); (· rfl); (· rfl); clear HX; (first | (have hq := b9; clear hq; intro w b10 HX) | (have hq := b8; clear hq; intro w b9 HX) | (have hq := b7; clear hq; intro w b8 HX) | (have hq := b6; clear hq; intro w b7 HX) | (have hq := b5; clear hq; intro w b6 HX) | (have hq := b4; clear hq; intro w b5 HX) | (have hq := b3; clear hq; intro w b4 HX) | (have hq := b2; clear hq; intro w b3 HX) | (have hq := b; clear hq; intro w b2 HX) | intro w b HX); simp only [Act.put, List.setIfInBounds_toArray, List.set_cons_zero, List.set_cons_succ]) | ((with_reducible apply sx_box1 HX); (· ((conv => lhs; whnf) <;> rfl)); (· rfl); (· rfl); clear HX; (first | (have hq := b9; clear hq; intro w b10 HX) | (have hq := b8; clear hq; intro w b9 HX) | (have hq := b7; clear hq; intro w b8 HX) | (have hq := b6; clear hq; intro w b7 HX) | (have hq := b5; clear hq; intro w b6 HX) | (have hq := b4; clear hq; intro w b5 HX) | (have hq := b3; clear hq; intro w b4 HX) | (have hq := b2; clear hq; intro w b3 HX) | (have hq := b; clear hq; intro w b2 HX) | intro w b HX); simp only [Act.put, List.setIfInBounds_toArray, List.set_cons_zero, List.set_cons_succ]) | ((with_reducible apply sx_makeMap .string HX); (· rfl); clear HX; intro w mm HX; simp only [Act.put, List.setIfInBounds_toArray, List.set_cons_zero, List.set_cons_succ]) | ((with_reducible apply sx_oneS HX); (· (first | exact sl_str | exact sl_res | exact sl_op)); (· exact ⟨rfl, rfl⟩); (· rfl); (· rfl); clear HX; (first | (have hq := b9; clear hq; intro w b10 HX) | (have hq := b8; clear hq; intro w b9 HX) | (have hq := b7; clear hq; intro w b8 HX) | (have hq := b6; clear hq; intro w b7 HX) | (have hq := b5; clear hq; intro w b6 HX) | (have hq := b4; clear hq; intro w b5 HX) | (have hq := b3; clear hq; intro w b4 HX) | (have hq := b2; clear hq; intro w b3 HX) | (have hq := b; clear hq; intro w b2 HX) | intro w b HX); simp only [Act.put, List.setIfInBounds_toArray, List.set_cons_zero, List.set_cons_succ]) | ((with_reducible apply sx_one1 HX); (· (first | exact sl_str | exact sl_res | exact sl_op)); (· ((conv => lhs; whnf) <;> rfl)); (· rfl); clear HX; (first | (have hq := b9; clear hq; intro w b10 HX) | (have hq := b8; clear hq; intro w b9 HX) | (have hq := b7; clear hq; intro w b8 HX) | (have hq := b6; clear hq; intro w b7 HX) | (have hq := b5; clear hq; intro w b6 HX) | (have hq := b4; clear hq; intro w b5 HX) | (have hq := b3; clear hq; intro w b4 HX) | (have hq := b2; clear hq; intro w b3 HX) | (have hq := b; clear hq; intro w b2 HX) | intro w b HX); simp only [Act.put, List.setIfInBounds_toArray, List.set_cons_zero, List.set_cons_succ]) | ((with_reducible apply sx_app1 HX); (· (first | exact sl_str | exact sl_res | exact sl_op)); (· rfl); (· rfl); (· (repeat (first | (with_reducible exact Rem.here) | (with_reducible apply Rem.there)))); (· (repeat (first | (with_reducible exact List.mem_cons_self ..) | (with_reducible apply List.mem_cons_of_mem)))); (· rfl); (· rfl); (· exact HBD.out); clear HX; intro w av nv cv HX; simp only [Act.put, List.setIfInBounds_toArray, List.set_cons_zero, List.set_cons_succ]))
  refine (treecopy_any HX.out.up2.up2 (HBB.out.1.ok (by have := HBB.out.2; omega))).mono ?_
  rintro e w ⟨c, P', rfl, hP', hS⟩
  clear HX
  have HX := Lib.hid hS
  have HP := Lib.hid hP'
  clear hS hP'
  go_wp2_with (first | ((with_reducible apply sx_loadS HX); (· rfl); (· rfl); (· (first | exact sn_op | exact sn_res | exact sn_stat | exact sn_node | exact sn_reply | exact sn_req | exact sn_tree)); (· (repeat (first | (with_reducible exact List.mem_cons_self ..) | (with_reducible apply List.mem_cons_of_mem)))); (· rfl); simp only [Act.put, List.setIfInBounds_toArray, List.set_cons_zero, List.set_cons_succ, List.drop_zero, List.drop_succ_cons, List.take_succ_cons, List.take_zero, List.toList_toArray, NodeS.cells, OpS.cells, ResS.cells]) | ((with_reducible apply sx_load HX); (· rfl); (· rfl); (· kernel_rfl); (· (repeat (first | (with_reducible exact List.mem_cons_self ..) | (with_reducible apply List.mem_cons_of_mem)))); (· rfl); simp only [Act.put, List.setIfInBounds_toArray, List.set_cons_zero, List.set_cons_succ]) | ((with_reducible apply sx_storeS HX); (· rfl); (· rfl); (· rfl); (· kernel_rfl); (· (repeat (first | (with_reducible exact Rep.here) | (with_reducible apply Rep.there)))); (· rfl); (· rfl); clear HX; intro w HX; simp only [Act.put, List.setIfInBounds_toArray, List.set_cons_zero, List.set_cons_succ, setMany, Nat.reduceAdd, NodeS.cells, OpS.cells, ResS.cells] at HX ⊢) | ((with_reducible apply sx_store1 HX); (· rfl); (· ((conv => lhs; whnf) <;> rfl)); (· rfl); (· rfl); (· kernel_rfl); (· (repeat (first | (with_reducible exact Rep.here) | (with_reducible apply Rep.there)))); (· rfl); (· rfl); clear HX; intro w HX; simp only [Act.put, List.setIfInBounds_toArray, List.set_cons_zero, List.set_cons_succ, NodeS.cells, OpS.cells, ResS.cells] at HX ⊢) | ((with_reducible apply sx_alloc HX); (· rfl); (· (first | exact z_op | exact z_res | exact z_node | exact z_reply | exact z_req)); clear HX; (first | (have hq := b9; clear hq; intro w b10 HX) | (have hq := b8; clear hq; intro w b9 HX) | (have hq := b7; clear hq; intro w b8 HX) | (have hq := b6; clear hq; intro w b7 HX) | (have hq := b5; clear hq; intro w b6 HX) | (have hq := b4; clear hq; intro w b5 HX) | (have hq := b3; clear hq; intro w b4 HX) | (have hq := b2; clear hq; intro w b3 HX) | (have hq := b; clear hq; intro w b2 HX) | intro w b HX); simp only [Act.put, List.setIfInBounds_toArray, List.set_cons_zero, List.set_cons_succ]) | ((with_reducible apply sx_boxS HX); (· rfl); (· rfl); clear HX; (first | (have hq := b9; clear hq; intro w b10 HX) | (have hq := b8; clear hq; intro w b9 HX) | (have hq := b7; clear hq; intro w b8 HX) | (have hq := b6; clear hq; intro w b7 HX) | (have hq := b5; clear hq; intro w b6 HX) | (have hq := b4; clear hq; intro w b5 HX) | (have hq := b3; clear hq; intro w b4 HX) | (have hq := b2; clear hq; intro w b3 HX) | (have hq := b; clear hq; intro w b2 HX) | intro w b HX); simp only [Act.put, List.setIfInBounds_toArray, List.set_cons_zero, List.set_cons_succ]) | ((with_reducible apply sx_box1 HX); (· ((conv => lhs; whnf) <;> rfl)); (· rfl); (· rfl); clear HX; (first | (have hq := b9; clear hq; intro w b10 HX) | (have hq := b8; clear hq; intro w b9 HX) | (have hq := b7; clear hq; intro w b8 HX) | (have hq := b6; clear hq; intro w b7 HX) | (have hq := b5; clear hq; intro w b6 HX) | (have hq := b4; clear hq; intro w b5 HX) | (have hq := b3; clear hq; intro w b4 HX) | (have hq := b2; clear hq; intro w b3 HX) | (have hq := b; clear hq; intro w b2 HX) | intro w b HX); simp only [Act.put, List.setIfInBounds_toArray, List.set_cons_zero, List.set_cons_succ]) | ((with_reducible apply sx_makeMap .string HX); (· rfl); clear HX; intro w mm HX; simp only [Act.put, List.setIfInBounds_toArray, List.set_cons_zero, List.set_cons_succ]) | ((with_reducible apply sx_oneS HX); (· (first | exact sl_str | exact sl_res | exact sl_op)); (· exact ⟨rfl, rfl⟩); (· rfl); (· rfl); clear HX; (first | (have hq := b9; clear hq; intro w b10 HX) | (have hq := b8; clear hq; intro w b9 HX) | (have hq := b7; clear hq; intro w b8 HX) | (have hq := b6; clear hq; intro w b7 HX) | (have hq := b5; clear hq; intro w b6 HX) | (have hq := b4; clear hq; intro w b5 HX) | (have hq := b3; clear hq; intro w b4 HX) | (have hq := b2; clear hq; intro w b3 HX) | (have hq := b; clear hq; intro w b2 HX) | intro w b HX); simp only [Act.put, List.setIfInBounds_toArray, List.set_cons_zero, List.set_cons_succ]) | ((with_reducible apply sx_one1 HX); (· (first | exact sl_str | exact sl_res | exact sl_op)); (· ((conv => lhs; whnf) <;> rfl)); (· rfl); clear HX; (first | (have hq := b9; clear hq; intro w b10 HX) | (have hq := b8; clear hq; intro w b9 HX) | (have hq := b7; clear hq; intro w b8 HX) | (have hq := b6; clear hq; intro w b7 HX) | (have hq := b5; clear hq; intro w b6 HX) | (have hq := b4; clear hq; intro w b5 HX) | (have hq := b3; clear hq; intro w b4 HX) | (have hq := b2; clear hq; intro w b3 HX) | (have hq := b; clear hq; intro w b2 HX) | intro w b HX); simp only [Act.put, List.setIfInBounds_toArray, List.set_cons_zero, List.set_cons_succ]) | ((with_reducible apply sx_app1 HX); (· (first | exact sl_str | exact sl_res | exact sl_op)); (· rfl); (· rfl); (· (repeat (first | (with_reducible exact Rem.here) | (with_reducible apply Rem.there)))); (· (repeat (first | (with_reducible exact List.mem_cons_self ..) | (with_reducible apply List.mem_cons_of_mem)))); (· rfl); (· rfl); (· exact HBD.out); clear HX; intro w av nv cv HX; simp only [Act.put, List.setIfInBounds_toArray, List.set_cons_zero, List.set_cons_succ]))
  have HST := Lib.hid (show ManyRel w0 t b b2 c sess zxid S ops K P R rows ops.length (.int .i64 (0 : Int)) w from ⟨0, P', [], none, 0, 0, by simp, rfl, HP.out, rfl, .nil, (HX.out.nilRow 11).up1⟩)
  clear HX HP
  go_loopg [31] ops.length (fun k v31 wr => ManyRel w0 t b b2 c sess zxid S ops K P R rows k v31 wr)
  case atStart => exact HST.out
  case round =>
    obtain ⟨i, P9, xs, a, n, c', hik, rfl, hP9, hst, hrl, hS⟩ := hrel
    by_cases hlt : i < ops.length
    case neg =>
      obtain rfl : i = ops.length := by omega
      rw [List.take_length] at hst hrl hS
      have HE := Lib.hid (show rr = (⟨0, zxid, 0, -1, (stepsT sess zxid ops S).1⟩, (stepsT sess zxid ops S).2.1, true) by have := HRQ.out; rw [if_neg (fun hh => hh hst)] at this; exact this.symm)
      have HRL := Lib.hid hrl
      have HPP := Lib.hid hP9
      obtain ⟨mc, gc, c1, c2, c3, hS⟩ := tree_open hS.up3
      obtain ⟨mt, gt, -, -, -, hS⟩ := tree_open hS.up6
      have HC := Lib.hid (show _ ∧ _ ∧ _ from ⟨c1, c2, c3⟩)
      have HX := Lib.hid hS
      clear hst hrl hS hP9 hik hlt c1 c2 c3
      go_wp2_with (first | ((with_reducible apply sx_loadS HX); (· rfl); (· rfl); (· (first | exact sn_op | exact sn_res | exact sn_stat | exact sn_node | exact sn_reply | exact sn_req | exact sn_tree)); (· (repeat (first | (with_reducible exact List.mem_cons_self ..) | (with_reducible apply List.mem_cons_of_mem)))); (· rfl); simp only [Act.put, List.setIfInBounds_toArray, List.set_cons_zero, List.set_cons_succ, List.drop_zero, List.drop_succ_cons, List.take_succ_cons, List.take_zero, List.toList_toArray, NodeS.cells, OpS.cells, ResS.cells]) | ((with_reducible apply sx_load HX); (· rfl); (· rfl); (· kernel_rfl); (· (repeat (first | (with_reducible exact List.mem_cons_self ..) | (with_reducible apply List.mem_cons_of_mem)))); (· rfl); simp only [Act.put, List.setIfInBounds_toArray, List.set_cons_zero, List.set_cons_succ]) | ((with_reducible apply sx_storeS HX); (· rfl); (· rfl); (· rfl); (· kernel_rfl); (· (repeat (first | (with_reducible exact Rep.here) | (with_reducible apply Rep.there)))); (· rfl); (· rfl); clear HX; intro w HX; simp only [Act.put, List.setIfInBounds_toArray, List.set_cons_zero, List.set_cons_succ, setMany, Nat.reduceAdd, NodeS.cells, OpS.cells, ResS.cells] at HX ⊢) | ((with_reducible apply sx_store1 HX); (· rfl); (· ((conv => lhs; whnf) <;> rfl)); (· rfl); (· rfl); (· kernel_rfl); (· (repeat (first | (with_reducible exact Rep.here) | (with_reducible apply Rep.there)))); (· rfl); (· rfl); clear HX; intro w HX; simp only [Act.put, List.setIfInBounds_toArray, List.set_cons_zero, List.set_cons_succ, NodeS.cells, OpS.cells, ResS.cells] at HX ⊢) | ((with_reducible apply sx_alloc HX); (· rfl); (· (first | exact z_op | exact z_res | exact z_node | exact z_reply | exact z_req)); clear HX; (first | (have hq := b9; clear hq; intro w b10 HX) | (have hq := b8; clear hq; intro w b9 HX) | (have hq := b7; clear hq; intro w b8 HX) | (have hq := b6; clear hq; intro w b7 HX) | (have hq := b5; clear hq; intro w b6 HX) | (have hq := b4; clear hq; intro w b5 HX) | (have hq := b3; clear hq; intro w b4 HX) | (have hq := b2; clear hq; intro w b3 HX) | (have hq := b; clear hq; intro w b2 HX) | intro w b HX); simp only [Act.put, List.setIfInBounds_toArray, List.set_cons_zero, List.set_cons_succ]) | ((with_reducible apply sx_boxS HX); (· rfl); (· rfl); clear HX; (first | (have hq := b9; clear hq; intro w b10 HX) | (have hq := b8; clear hq; intro w b9 HX) | (have hq := b7; clear hq; intro w b8 HX) | (have hq := b6; clear hq; intro w b7 HX) | (have hq := b5; clear hq; intro w b6 HX) | (have hq := b4; clear hq; intro w b5 HX) | (have hq := b3; clear hq; intro w b4 HX) | (have hq := b2; clear hq; intro w b3 HX) | (have hq := b; clear hq; intro w b2 HX) | intro w b HX); simp only [Act.put, List.setIfInBounds_toArray, List.set_cons_zero, List.set_cons_succ]) | ((with_reducible apply sx_box1 HX); (· ((conv => lhs; whnf) <;> rfl)); (· rfl); (· rfl); clear HX; (first | (have hq := b9; clear hq; intro w b10 HX) | (have hq := b8; clear hq; intro w b9 HX) | (have hq := b7; clear hq; intro w b8 HX) | (have hq := b6; clear hq; intro w b7 HX) | (have hq := b5; clear hq; intro w b6 HX) | (have hq := b4; clear hq; intro w b5 HX) | (have hq := b3; clear hq; intro w b4 HX) | (have hq := b2; clear hq; intro w b3 HX) | (have hq := b; clear hq; intro w b2 HX) | intro w b HX); simp only [Act.put, List.setIfInBounds_toArray, List.set_cons_zero, List.set_cons_succ]) | ((with_reducible apply sx_makeMap .string HX); (· rfl); clear HX; intro w mm HX; simp only [Act.put, List.setIfInBounds_toArray, List.set_cons_zero, List.set_cons_succ]) | ((with_reducible apply sx_oneS HX); (· (first | exact sl_str | exact sl_res | exact sl_op)); (· exact ⟨rfl, rfl⟩); (· rfl); (· rfl); clear HX; (first | (have hq := b9; clear hq; intro w b10 HX) | (have hq := b8; clear hq; intro w b9 HX) | (have hq := b7; clear hq; intro w b8 HX) | (have hq := b6; clear hq; intro w b7 HX) | (have hq := b5; clear hq; intro w b6 HX) | (have hq := b4; clear hq; intro w b5 HX) | (have hq := b3; clear hq; intro w b4 HX) | (have hq := b2; clear hq; intro w b3 HX) | (have hq := b; clear hq; intro w b2 HX) | intro w b HX); simp only [Act.put, List.setIfInBounds_toArray, List.set_cons_zero, List.set_cons_succ]) | ((with_reducible apply sx_one1 HX); (· (first | exact sl_str | exact sl_res | exact sl_op)); (· ((conv => lhs; whnf) <;> rfl)); (· rfl); clear HX; (first | (have hq := b9; clear hq; intro w b10 HX) | (have hq := b8; clear hq; intro w b9 HX) | (have hq := b7; clear hq; intro w b8 HX) | (have hq := b6; clear hq; intro w b7 HX) | (have hq := b5; clear hq; intro w b6 HX) | (have hq := b4; clear hq; intro w b5 HX) | (have hq := b3; clear hq; intro w b4 HX) | (have hq := b2; clear hq; intro w b3 HX) | (have hq := b; clear hq; intro w b2 HX) | intro w b HX); simp only [Act.put, List.setIfInBounds_toArray, List.set_cons_zero, List.set_cons_succ]) | ((with_reducible apply sx_app1 HX); (· (first | exact sl_str | exact sl_res | exact sl_op)); (· rfl); (· rfl); (· (repeat (first | (with_reducible exact Rem.here) | (with_reducible apply Rem.there)))); (· (repeat (first | (with_reducible exact List.mem_cons_self ..) | (with_reducible apply List.mem_cons_of_mem)))); (· rfl); (· rfl); (· exact HBD.out); clear HX; intro w av nv cv HX; simp only [Act.put, List.setIfInBounds_toArray, List.set_cons_zero, List.set_cons_succ]))
      refine sx_ret2 HX rfl rfl (by (repeat (first | (with_reducible exact List.mem_cons_self ..) | (with_reducible apply List.mem_cons_of_mem)))) (by kernel_rfl) ?_
      obtain ⟨c1, c2, c3⟩ := HC.out
      have h1 : Sep w0 w (ThRow 11 (.slice a n c') xs :: ThPool w0 P9 :: thTree t mc (stepsT sess zxid ops S).2.1.room :: ThMap .string mc (gc.map NodeG.kv) :: ThL (gc.map NodeG.th) :: R) rows := HX.out.pm 10 [7, 8, 0, 4, 5] rfl rfl
      have h2 := tree_shut (P := (11, .slice a n c', xs) :: P9) h1.poolRow.up3.up3.up3 c1 c2 (fun g hg => List.mem_cons_of_mem _ (c3 g hg))
      rw [HE.out]
      exact ⟨_, (11, .slice a n c', xs) :: P9, rfl, fun q hq => List.mem_cons_of_mem _ (HPP.out q hq), ⟨a, n, c', xs, rfl, HRL.out.mono (fun q hq => List.mem_cons_of_mem _ hq), List.mem_cons_self ..⟩, h2.up1⟩
    case pos =>
      obtain ⟨g, off, rfl⟩ := HNE.out (by intro e; have := congrArg List.length e; rw [flatG_len opcells_len] at this; simp at this; omega)
      obtain ⟨E, hE⟩ := hS.up2.poolGet (hP9 _ HV.out)
      have hl := row_load (P := Tryz.prog) (f := OpS.cells) (i := i) hE opcells_len sn_op hlt
      have hsplit : ops = ops.take i ++ ops[i] :: ops.drop (i + 1) := by rw [← List.drop_eq_getElem_cons hlt, List.take_append_drop]
      have htk : ops.take (i + 1) = ops.take i ++ [ops[i]] := List.take_succ_eq_append_getElem hlt
      have hsn := steps_snoc (sess := sess) (zxid := zxid) ops[i] (ops.take i) S hst
      have hfl := steps_fail (sess := sess) (zxid := zxid) ops[i] (ops.drop (i + 1)) (ops.take i) S hst
      have hlen := steps_len (ops.take i) S hst
      have hti : (ops.take i).length = i := by rw [List.length_take]; omega
      rw [hti] at hlen hfl
      rw [← hsplit] at hfl
      rw [← htk] at hsn
      have HTB := Lib.hid (steps_b (sess := sess) (zxid := zxid) (ops.take i) HBB.out.1)
      have HPO := Lib.hid (hp ops[i] (List.getElem_mem hlt))
      obtain ⟨o, ho⟩ : ∃ o, ops[i] = o := ⟨_, rfl⟩
      rw [ho] at hl hsn hfl HPO
      obtain ⟨st, hstt⟩ : ∃ st, stepsT sess zxid (ops.take i) S = st := ⟨_, rfl⟩
      rw [hstt] at hsn hfl hlen hst hrl hS HTB
      obtain ⟨r2, hr2⟩ : ∃ r2, doT st.2.1 o sess zxid = r2 := ⟨_, rfl⟩
      rw [hr2] at hsn hfl
      have HSN := Lib.hid (show _ ∧ _ ∧ _ from ⟨hsn, hfl, hlen⟩)
      have HRL := Lib.hid hrl
      have HR2 := Lib.hid hr2
      have HPP := Lib.hid hP9
      have HX := Lib.hid hS
      have q0 : decide (i < ops.length) = true := decide_eq_true hlt
      have q9 : i ≤ 16 := by have := HL.out; omega
      obtain ⟨kind, path, data, ver, flags⟩ := o
      simp only [OpS.cells] at hl
      clear hE hsplit htk hsn hfl hti hlen hst hrl hS ho hstt hr2 hP9
      go_wp2_with (first | ((with_reducible apply sx_loadS HX); (· rfl); (· rfl); (· (first | exact sn_op | exact sn_res | exact sn_stat | exact sn_node | exact sn_reply | exact sn_req | exact sn_tree)); (· (repeat (first | (with_reducible exact List.mem_cons_self ..) | (with_reducible apply List.mem_cons_of_mem)))); (· rfl); simp only [Act.put, List.setIfInBounds_toArray, List.set_cons_zero, List.set_cons_succ, List.drop_zero, List.drop_succ_cons, List.take_succ_cons, List.take_zero, List.toList_toArray, NodeS.cells, OpS.cells, ResS.cells]) | ((with_reducible apply sx_load HX); (· rfl); (· rfl); (· kernel_rfl); (· (repeat (first | (with_reducible exact List.mem_cons_self ..) | (with_reducible apply List.mem_cons_of_mem)))); (· rfl); simp only [Act.put, List.setIfInBounds_toArray, List.set_cons_zero, List.set_cons_succ]) | ((with_reducible apply sx_storeS HX); (· rfl); (· rfl); (· rfl); (· kernel_rfl); (· (repeat (first | (with_reducible exact Rep.here) | (with_reducible apply Rep.there)))); (· rfl); (· rfl); clear HX; intro w HX; simp only [Act.put, List.setIfInBounds_toArray, List.set_cons_zero, List.set_cons_succ, setMany, Nat.reduceAdd, NodeS.cells, OpS.cells, ResS.cells] at HX ⊢) | ((with_reducible apply sx_store1 HX); (· rfl); (· ((conv => lhs; whnf) <;> rfl)); (· rfl); (· rfl); (· kernel_rfl); (· (repeat (first | (with_reducible exact Rep.here) | (with_reducible apply Rep.there)))); (· rfl); (· rfl); clear HX; intro w HX; simp only [Act.put, List.setIfInBounds_toArray, List.set_cons_zero, List.set_cons_succ, NodeS.cells, OpS.cells, ResS.cells] at HX ⊢) | ((with_reducible apply sx_alloc HX); (· rfl); (· (first | exact z_op | exact z_res | exact z_node | exact z_reply | exact z_req)); clear HX; (first | (have hq := b9; clear hq; intro w b10 HX) | (have hq := b8; clear hq; intro w b9 HX) | (have hq := b7; clear hq; intro w b8 HX) | (have hq := b6; clear hq; intro w b7 HX) | (have hq := b5; clear hq; intro w b6 HX) | (have hq := b4; clear hq; intro w b5 HX) | (have hq := b3; clear hq; intro w b4 HX) | (have hq := b2; clear hq; intro w b3 HX) | (have hq := b; clear hq; intro w b2 HX) | intro w b HX); simp only [Act.put, List.setIfInBounds_toArray, List.set_cons_zero, List.set_cons_succ]) | ((with_reducible apply sx_boxS HX); (· rfl); (· rfl); clear HX; (first | (have hq := b9; clear hq; intro w b10 HX) | (have hq := b8; clear hq; intro w b9 HX) | (have hq := b7; clear hq; intro w b8 HX) | (have hq := b6; clear hq; intro w b7 HX) | (have hq := b5; clear hq; intro w b6 HX) | (have hq := b4; clear hq; intro w b5 HX) | (have hq := b3; clear hq; intro w b4 HX) | (have hq := b2; clear hq; intro w b3 HX) | (have hq := b; clear hq; intro w b2 HX) | intro w b HX); simp only [Act.put, List.setIfInBounds_toArray, List.set_cons_zero, List.set_cons_succ]) | ((with_reducible apply sx_box1 HX); (· ((conv => lhs; whnf) <;> rfl)); (· rfl); (· rfl); clear HX; (first | (have hq := b9; clear hq; intro w b10 HX) | (have hq := b8; clear hq; intro w b9 HX) | (have hq := b7; clear hq; intro w b8 HX) | (have hq := b6; clear hq; intro w b7 HX) | (have hq := b5; clear hq; intro w b6 HX) | (have hq := b4; clear hq; intro w b5 HX) | (have hq := b3; clear hq; intro w b4 HX) | (have hq := b2; clear hq; intro w b3 HX) | (have hq := b; clear hq; intro w b2 HX) | intro w b HX); simp only [Act.put, List.setIfInBounds_toArray, List.set_cons_zero, List.set_cons_succ]) | ((with_reducible apply sx_makeMap .string HX); (· rfl); clear HX; intro w mm HX; simp only [Act.put, List.setIfInBounds_toArray, List.set_cons_zero, List.set_cons_succ]) | ((with_reducible apply sx_oneS HX); (· (first | exact sl_str | exact sl_res | exact sl_op)); (· exact ⟨rfl, rfl⟩); (· rfl); (· rfl); clear HX; (first | (have hq := b9; clear hq; intro w b10 HX) | (have hq := b8; clear hq; intro w b9 HX) | (have hq := b7; clear hq; intro w b8 HX) | (have hq := b6; clear hq; intro w b7 HX) | (have hq := b5; clear hq; intro w b6 HX) | (have hq := b4; clear hq; intro w b5 HX) | (have hq := b3; clear hq; intro w b4 HX) | (have hq := b2; clear hq; intro w b3 HX) | (have hq := b; clear hq; intro w b2 HX) | intro w b HX); simp only [Act.put, List.setIfInBounds_toArray, List.set_cons_zero, List.set_cons_succ]) | ((with_reducible apply sx_one1 HX); (· (first | exact sl_str | exact sl_res | exact sl_op)); (· ((conv => lhs; whnf) <;> rfl)); (· rfl); clear HX; (first | (have hq := b9; clear hq; intro w b10 HX) | (have hq := b8; clear hq; intro w b9 HX) | (have hq := b7; clear hq; intro w b8 HX) | (have hq := b6; clear hq; intro w b7 HX) | (have hq := b5; clear hq; intro w b6 HX) | (have hq := b4; clear hq; intro w b5 HX) | (have hq := b3; clear hq; intro w b4 HX) | (have hq := b2; clear hq; intro w b3 HX) | (have hq := b; clear hq; intro w b2 HX) | intro w b HX); simp only [Act.put, List.setIfInBounds_toArray, List.set_cons_zero, List.set_cons_succ]) | ((with_reducible apply sx_app1 HX); (· (first | exact sl_str | exact sl_res | exact sl_op)); (· rfl); (· rfl); (· (repeat (first | (with_reducible exact Rem.here) | (with_reducible apply Rem.there)))); (· (repeat (first | (with_reducible exact List.mem_cons_self ..) | (with_reducible apply List.mem_cons_of_mem)))); (· rfl); (· rfl); (· exact HBD.out); clear HX; intro w av nv cv HX; simp only [Act.put, List.setIfInBounds_toArray, List.set_cons_zero, List.set_cons_succ]) | ((with_reducible apply sx_loadAt hl); (· rfl); (· rfl); simp only [Act.put, List.setIfInBounds_toArray, List.set_cons_zero, List.set_cons_succ]))
      refine (tdo_any HX.out.up4.up4 hd ⟨kind, path, data, ver, flags⟩ HPO.out sess zxid (HTB.out.ok (by have := HBB.out.2; have := HL.out; rw [List.length_take]; omega))).mono ?_
      rw [HR2.out]
      rintro e w ⟨nv, P2, rfl, hP2, hnv, hx⟩
      clear HX
      have HX := Lib.hid hx
      obtain ⟨E, hE⟩ := Sep.poolGet hx hnv
      obtain ⟨na, nn, nc, rfl, -⟩ := id hE
      have HNV := Lib.hid hnv
      have HP2 := Lib.hid hP2
      clear hx hE hnv hP2
      obtain ⟨r, S3⟩ := r2
      dsimp only at HSN HX HNV ⊢
      simp only [ResS.cells]
      by_cases her : r.err = 0
      · have q4 : (r.err != 0) = false := by rw [her]; rfl
        have HER := Lib.hid her
        have HBD := Lib.hid (show ∀ n, xs.length = n * 11 → n + 1 ≤ 140737488355328 ∧ (n + 1) * 120 ≤ 140737488355328 from fun n hn => by
          have h1 := HRL.out.len
          rw [HSN.out.2.2] at h1
          have := HL.out
          omega)
        clear her
        go_wp2_with (first | ((with_reducible apply sx_loadS HX); (· rfl); (· rfl); (· (first | exact sn_op | exact sn_res | exact sn_stat | exact sn_node | exact sn_reply | exact sn_req | exact sn_tree)); (· (repeat (first | (with_reducible exact List.mem_cons_self ..) | (with_reducible apply List.mem_cons_of_mem)))); (· rfl); simp only [Act.put, List.setIfInBounds_toArray, List.set_cons_zero, List.set_cons_succ, List.drop_zero, List.drop_succ_cons, List.take_succ_cons, List.take_zero, List.toList_toArray, NodeS.cells, OpS.cells, ResS.cells]) | ((with_reducible apply sx_load HX); (· rfl); (· rfl); (· kernel_rfl); (· (repeat (first | (with_reducible exact List.mem_cons_self ..) | (with_reducible apply List.mem_cons_of_mem)))); (· rfl); simp only [Act.put, List.setIfInBounds_toArray, List.set_cons_zero, List.set_cons_succ]) | ((with_reducible apply sx_storeS HX); (· rfl); (· rfl); (· rfl); (· kernel_rfl); (· (repeat (first | (with_reducible exact Rep.here) | (with_reducible apply Rep.there)))); (· rfl); (· rfl); clear HX; intro w HX; simp only [Act.put, List.setIfInBounds_toArray, List.set_cons_zero, List.set_cons_succ, setMany, Nat.reduceAdd, NodeS.cells, OpS.cells, ResS.cells] at HX ⊢) | ((with_reducible apply sx_store1 HX); (· rfl); (· ((conv => lhs; whnf) <;> rfl)); (· rfl); (· rfl); (· kernel_rfl); (· (repeat (first | (with_reducible exact Rep.here) | (with_reducible apply Rep.there)))); (· rfl); (· rfl); clear HX; intro w HX; simp only [Act.put, List.setIfInBounds_toArray, List.set_cons_zero, List.set_cons_succ, NodeS.cells, OpS.cells, ResS.cells] at HX ⊢) | ((with_reducible apply sx_alloc HX); (· rfl); (· (first | exact z_op | exact z_res | exact z_node | exact z_reply | exact z_req)); clear HX; (first | (have hq := b9; clear hq; intro w b10 HX) | (have hq := b8; clear hq; intro w b9 HX) | (have hq := b7; clear hq; intro w b8 HX) | (have hq := b6; clear hq; intro w b7 HX) | (have hq := b5; clear hq; intro w b6 HX) | (have hq := b4; clear hq; intro w b5 HX) | (have hq := b3; clear hq; intro w b4 HX) | (have hq := b2; clear hq; intro w b3 HX) | (have hq := b; clear hq; intro w b2 HX) | intro w b HX); simp only [Act.put, List.setIfInBounds_toArray, List.set_cons_zero, List.set_cons_succ]) | ((with_reducible apply sx_boxS HX); (· rfl); (· rfl); clear HX; (first | (have hq := b9; clear hq; intro w b10 HX) | (have hq := b8; clear hq; intro w b9 HX) | (have hq := b7; clear hq; intro w b8 HX) | (have hq := b6; clear hq; intro w b7 HX) | (have hq := b5; clear hq; intro w b6 HX) | (have hq := b4; clear hq; intro w b5 HX) | (have hq := b3; clear hq; intro w b4 HX) | (have hq := b2; clear hq; intro w b3 HX) | (have hq := b; clear hq; intro w b2 HX) | intro w b HX); simp only [Act.put, List.setIfInBounds_toArray, List.set_cons_zero, List.set_cons_succ]) | ((with_reducible apply sx_box1 HX); (· ((conv => lhs; whnf) <;> rfl)); (· rfl); (· rfl); clear HX; (first | (have hq := b9; clear hq; intro w b10 HX) | (have hq := b8; clear hq; intro w b9 HX) | (have hq := b7; clear hq; intro w b8 HX) | (have hq := b6; clear hq; intro w b7 HX) | (have hq := b5; clear hq; intro w b6 HX) | (have hq := b4; clear hq; intro w b5 HX) | (have hq := b3; clear hq; intro w b4 HX) | (have hq := b2; clear hq; intro w b3 HX) | (have hq := b; clear hq; intro w b2 HX) | intro w b HX); simp only [Act.put, List.setIfInBounds_toArray, List.set_cons_zero, List.set_cons_succ]) | ((with_reducible apply sx_makeMap .string HX); (· rfl); clear HX; intro w mm HX; simp only [Act.put, List.setIfInBounds_toArray, List.set_cons_zero, List.set_cons_succ]) | ((with_reducible apply sx_oneS HX); (· (first | exact sl_str | exact sl_res | exact sl_op)); (· exact ⟨rfl, rfl⟩); (· rfl); (· rfl); clear HX; (first | (have hq := b9; clear hq; intro w b10 HX) | (have hq := b8; clear hq; intro w b9 HX) | (have hq := b7; clear hq; intro w b8 HX) | (have hq := b6; clear hq; intro w b7 HX) | (have hq := b5; clear hq; intro w b6 HX) | (have hq := b4; clear hq; intro w b5 HX) | (have hq := b3; clear hq; intro w b4 HX) | (have hq := b2; clear hq; intro w b3 HX) | (have hq := b; clear hq; intro w b2 HX) | intro w b HX); simp only [Act.put, List.setIfInBounds_toArray, List.set_cons_zero, List.set_cons_succ]) | ((with_reducible apply sx_one1 HX); (· (first | exact sl_str | exact sl_res | exact sl_op)); (· ((conv => lhs; whnf) <;> rfl)); (· rfl); clear HX; (first | (have hq := b9; clear hq; intro w b10 HX) | (have hq := b8; clear hq; intro w b9 HX) | (have hq := b7; clear hq; intro w b8 HX) | (have hq := b6; clear hq; intro w b7 HX) | (have hq := b5; clear hq; intro w b6 HX) | (have hq := b4; clear hq; intro w b5 HX) | (have hq := b3; clear hq; intro w b4 HX) | (have hq := b2; clear hq; intro w b3 HX) | (have hq := b; clear hq; intro w b2 HX) | intro w b HX); simp only [Act.put, List.setIfInBounds_toArray, List.set_cons_zero, List.set_cons_succ]) | ((with_reducible apply sx_app1 HX); (· (first | exact sl_str | exact sl_res | exact sl_op)); (· rfl); (· rfl); (· (repeat (first | (with_reducible exact Rem.here) | (with_reducible apply Rem.there)))); (· (repeat (first | (with_reducible exact List.mem_cons_self ..) | (with_reducible apply List.mem_cons_of_mem)))); (· rfl); (· rfl); (· exact HBD.out); clear HX; intro w av nv cv HX; simp only [Act.put, List.setIfInBounds_toArray, List.set_cons_zero, List.set_cons_succ]))
        go_roundg (ops.length - (i + 1))
        case rel =>
          have h := HSN.out.1
          rw [if_neg (fun hh => hh HER.out)] at h
          have h1 := tree_mono HX.out.up7 HP2.out
          exact ⟨i + 1, P2, _, av, nv, cv, by omega, by go_num, fun q hq => HP2.out q (HPP.out q hq), by rw [h], by rw [h]; exact (HRL.out.mono HP2.out).snoc HNV.out, by rw [h]; exact h1.pm 9 [7, 1, 4, 5, 0, 8] rfl rfl⟩
        case measure => omega
      · have q4 : (r.err != 0) = true := by rw [bne_iff_ne]; exact her
        have h1 := HSN.out.2.1 her
        have HE := Lib.hid (show rr = (failR 0 r.err i ops.length, S, false) by have := HRQ.out; rw [h1.1, h1.2, if_pos her] at this; exact this.symm)
        clear h1 her
        go_wp2_with (first | ((with_reducible apply sx_loadS HX); (· rfl); (· rfl); (· (first | exact sn_op | exact sn_res | exact sn_stat | exact sn_node | exact sn_reply | exact sn_req | exact sn_tree)); (· (repeat (first | (with_reducible exact List.mem_cons_self ..) | (with_reducible apply List.mem_cons_of_mem)))); (· rfl); simp only [Act.put, List.setIfInBounds_toArray, List.set_cons_zero, List.set_cons_succ, List.drop_zero, List.drop_succ_cons, List.take_succ_cons, List.take_zero, List.toList_toArray, NodeS.cells, OpS.cells, ResS.cells]) | ((with_reducible apply sx_load HX); (· rfl); (· rfl); (· kernel_rfl); (· (repeat (first | (with_reducible exact List.mem_cons_self ..) | (with_reducible apply List.mem_cons_of_mem)))); (· rfl); simp only [Act.put, List.setIfInBounds_toArray, List.set_cons_zero, List.set_cons_succ]) | ((with_reducible apply sx_storeS HX); (· rfl); (· rfl); (· rfl); (· kernel_rfl); (· (repeat (first | (with_reducible exact Rep.here) | (with_reducible apply Rep.there)))); (· rfl); (· rfl); clear HX; intro w HX; simp only [Act.put, List.setIfInBounds_toArray, List.set_cons_zero, List.set_cons_succ, setMany, Nat.reduceAdd, NodeS.cells, OpS.cells, ResS.cells] at HX ⊢) | ((with_reducible apply sx_store1 HX); (· rfl); (· ((conv => lhs; whnf) <;> rfl)); (· rfl); (· rfl); (· kernel_rfl); (· (repeat (first | (with_reducible exact Rep.here) | (with_reducible apply Rep.there)))); (· rfl); (· rfl); clear HX; intro w HX; simp only [Act.put, List.setIfInBounds_toArray, List.set_cons_zero, List.set_cons_succ, NodeS.cells, OpS.cells, ResS.cells] at HX ⊢) | ((with_reducible apply sx_alloc HX); (· rfl); (· (first | exact z_op | exact z_res | exact z_node | exact z_reply | exact z_req)); clear HX; (first | (have hq := b9; clear hq; intro w b10 HX) | (have hq := b8; clear hq; intro w b9 HX) | (have hq := b7; clear hq; intro w b8 HX) | (have hq := b6; clear hq; intro w b7 HX) | (have hq := b5; clear hq; intro w b6 HX) | (have hq := b4; clear hq; intro w b5 HX) | (have hq := b3; clear hq; intro w b4 HX) | (have hq := b2; clear hq; intro w b3 HX) | (have hq := b; clear hq; intro w b2 HX) | intro w b HX); simp only [Act.put, List.setIfInBounds_toArray, List.set_cons_zero, List.set_cons_succ]) | ((with_reducible apply sx_boxS HX); (· rfl); (· rfl); clear HX; (first | (have hq := b9; clear hq; intro w b10 HX) | (have hq := b8; clear hq; intro w b9 HX) | (have hq := b7; clear hq; intro w b8 HX) | (have hq := b6; clear hq; intro w b7 HX) | (have hq := b5; clear hq; intro w b6 HX) | (have hq := b4; clear hq; intro w b5 HX) | (have hq := b3; clear hq; intro w b4 HX) | (have hq := b2; clear hq; intro w b3 HX) | (have hq := b; clear hq; intro w b2 HX) | intro w b HX); simp only [Act.put, List.setIfInBounds_toArray, List.set_cons_zero, List.set_cons_succ]) | ((with_reducible apply sx_box1 HX); (· ((conv => lhs; whnf) <;> rfl)); (· rfl); (· rfl); clear HX; (first | (have hq := b9; clear hq; intro w b10 HX) | (have hq := b8; clear hq; intro w b9 HX) | (have hq := b7; clear hq; intro w b8 HX) | (have hq := b6; clear hq; intro w b7 HX) | (have hq := b5; clear hq; intro w b6 HX) | (have hq := b4; clear hq; intro w b5 HX) | (have hq := b3; clear hq; intro w b4 HX) | (have hq := b2; clear hq; intro w b3 HX) | (have hq := b; clear hq; intro w b2 HX) | intro w b HX); simp only [Act.put, List.setIfInBounds_toArray, List.set_cons_zero, List.set_cons_succ]) | ((with_reducible apply sx_makeMap .string HX); (· rfl); clear HX; intro w mm HX; simp only [Act.put, List.setIfInBounds_toArray, List.set_cons_zero, List.set_cons_succ]) | ((with_reducible apply sx_oneS HX); (· (first | exact sl_str | exact sl_res | exact sl_op)); (· exact ⟨rfl, rfl⟩); (· rfl); (· rfl); clear HX; (first | (have hq := b9; clear hq; intro w b10 HX) | (have hq := b8; clear hq; intro w b9 HX) | (have hq := b7; clear hq; intro w b8 HX) | (have hq := b6; clear hq; intro w b7 HX) | (have hq := b5; clear hq; intro w b6 HX) | (have hq := b4; clear hq; intro w b5 HX) | (have hq := b3; clear hq; intro w b4 HX) | (have hq := b2; clear hq; intro w b3 HX) | (have hq := b; clear hq; intro w b2 HX) | intro w b HX); simp only [Act.put, List.setIfInBounds_toArray, List.set_cons_zero, List.set_cons_succ]) | ((with_reducible apply sx_one1 HX); (· (first | exact sl_str | exact sl_res | exact sl_op)); (· ((conv => lhs; whnf) <;> rfl)); (· rfl); clear HX; (first | (have hq := b9; clear hq; intro w b10 HX) | (have hq := b8; clear hq; intro w b9 HX) | (have hq := b7; clear hq; intro w b8 HX) | (have hq := b6; clear hq; intro w b7 HX) | (have hq := b5; clear hq; intro w b6 HX) | (have hq := b4; clear hq; intro w b5 HX) | (have hq := b3; clear hq; intro w b4 HX) | (have hq := b2; clear hq; intro w b3 HX) | (have hq := b; clear hq; intro w b2 HX) | intro w b HX); simp only [Act.put, List.setIfInBounds_toArray, List.set_cons_zero, List.set_cons_succ]) | ((with_reducible apply sx_app1 HX); (· (first | exact sl_str | exact sl_res | exact sl_op)); (· rfl); (· rfl); (· (repeat (first | (with_reducible exact Rem.here) | (with_reducible apply Rem.there)))); (· (repeat (first | (with_reducible exact List.mem_cons_self ..) | (with_reducible apply List.mem_cons_of_mem)))); (· rfl); (· rfl); (· exact HBD.out); clear HX; intro w av nv cv HX; simp only [Act.put, List.setIfInBounds_toArray, List.set_cons_zero, List.set_cons_succ]))
        refine (rfail_any HX.out.up1 _ _ _ _).mono ?_
        rintro e w ⟨v, P', rfl, hP', ⟨a', n', c', xs', rfl, hrl', hmem⟩, hS⟩
        clear HX
        have HX := Lib.hid hS
        clear hS
        go_wp2_with (first | ((with_reducible apply sx_loadS HX); (· rfl); (· rfl); (· (first | exact sn_op | exact sn_res | exact sn_stat | exact sn_node | exact sn_reply | exact sn_req | exact sn_tree)); (· (repeat (first | (with_reducible exact List.mem_cons_self ..) | (with_reducible apply List.mem_cons_of_mem)))); (· rfl); simp only [Act.put, List.setIfInBounds_toArray, List.set_cons_zero, List.set_cons_succ, List.drop_zero, List.drop_succ_cons, List.take_succ_cons, List.take_zero, List.toList_toArray, NodeS.cells, OpS.cells, ResS.cells]) | ((with_reducible apply sx_load HX); (· rfl); (· rfl); (· kernel_rfl); (· (repeat (first | (with_reducible exact List.mem_cons_self ..) | (with_reducible apply List.mem_cons_of_mem)))); (· rfl); simp only [Act.put, List.setIfInBounds_toArray, List.set_cons_zero, List.set_cons_succ]) | ((with_reducible apply sx_storeS HX); (· rfl); (· rfl); (· rfl); (· kernel_rfl); (· (repeat (first | (with_reducible exact Rep.here) | (with_reducible apply Rep.there)))); (· rfl); (· rfl); clear HX; intro w HX; simp only [Act.put, List.setIfInBounds_toArray, List.set_cons_zero, List.set_cons_succ, setMany, Nat.reduceAdd, NodeS.cells, OpS.cells, ResS.cells] at HX ⊢) | ((with_reducible apply sx_store1 HX); (· rfl); (· ((conv => lhs; whnf) <;> rfl)); (· rfl); (· rfl); (· kernel_rfl); (· (repeat (first | (with_reducible exact Rep.here) | (with_reducible apply Rep.there)))); (· rfl); (· rfl); clear HX; intro w HX; simp only [Act.put, List.setIfInBounds_toArray, List.set_cons_zero, List.set_cons_succ, NodeS.cells, OpS.cells, ResS.cells] at HX ⊢) | ((with_reducible apply sx_alloc HX); (· rfl); (· (first | exact z_op | exact z_res | exact z_node | exact z_reply | exact z_req)); clear HX; (first | (have hq := b9; clear hq; intro w b10 HX) | (have hq := b8; clear hq; intro w b9 HX) | (have hq := b7; clear hq; intro w b8 HX) | (have hq := b6; clear hq; intro w b7 HX) | (have hq := b5; clear hq; intro w b6 HX) | (have hq := b4; clear hq; intro w b5 HX) | (have hq := b3; clear hq; intro w b4 HX) | (have hq := b2; clear hq; intro w b3 HX) | (have hq := b; clear hq; intro w b2 HX) | intro w b HX); simp only [Act.put, List.setIfInBounds_toArray, List.set_cons_zero, List.set_cons_succ]) | ((with_reducible apply sx_boxS HX); (· rfl); (· rfl); clear HX; (first | (have hq := b9; clear hq; intro w b10 HX) | (have hq := b8; clear hq; intro w b9 HX) | (have hq := b7; clear hq; intro w b8 HX) | (have hq := b6; clear hq; intro w b7 HX) | (have hq := b5; clear hq; intro w b6 HX) | (have hq := b4; clear hq; intro w b5 HX) | (have hq := b3; clear hq; intro w b4 HX) | (have hq := b2; clear hq; intro w b3 HX) | (have hq := b; clear hq; intro w b2 HX) | intro w b HX); simp only [Act.put, List.setIfInBounds_toArray, List.set_cons_zero, List.set_cons_succ]) | ((with_reducible apply sx_box1 HX); (· ((conv => lhs; whnf) <;> rfl)); (· rfl); (· rfl); clear HX; (first | (have hq := b9; clear hq; intro w b10 HX) | (have hq := b8; clear hq; intro w b9 HX) | (have hq := b7; clear hq; intro w b8 HX) | (have hq := b6; clear hq; intro w b7 HX) | (have hq := b5; clear hq; intro w b6 HX) | (have hq := b4; clear hq; intro w b5 HX) | (have hq := b3; clear hq; intro w b4 HX) | (have hq := b2; clear hq; intro w b3 HX) | (have hq := b; clear hq; intro w b2 HX) | intro w b HX); simp only [Act.put, List.setIfInBounds_toArray, List.set_cons_zero, List.set_cons_succ]) | ((with_reducible apply sx_makeMap .string HX); (· rfl); clear HX; intro w mm HX; simp only [Act.put, List.setIfInBounds_toArray, List.set_cons_zero, List.set_cons_succ]) | ((with_reducible apply sx_oneS HX); (· (first | exact sl_str | exact sl_res | exact sl_op)); (· exact ⟨rfl, rfl⟩); (· rfl); (· rfl); clear HX; (first | (have hq := b9; clear hq; intro w b10 HX) | (have hq := b8; clear hq; intro w b9 HX) | (have hq := b7; clear hq; intro w b8 HX) | (have hq := b6; clear hq; intro w b7 HX) | (have hq := b5; clear hq; intro w b6 HX) | (have hq := b4; clear hq; intro w b5 HX) | (have hq := b3; clear hq; intro w b4 HX) | (have hq := b2; clear hq; intro w b3 HX) | (have hq := b; clear hq; intro w b2 HX) | intro w b HX); simp only [Act.put, List.setIfInBounds_toArray, List.set_cons_zero, List.set_cons_succ]) | ((with_reducible apply sx_one1 HX); (· (first | exact sl_str | exact sl_res | exact sl_op)); (· ((conv => lhs; whnf) <;> rfl)); (· rfl); clear HX; (first | (have hq := b9; clear hq; intro w b10 HX) | (have hq := b8; clear hq; intro w b9 HX) | (have hq := b7; clear hq; intro w b8 HX) | (have hq := b6; clear hq; intro w b7 HX) | (have hq := b5; clear hq; intro w b6 HX) | (have hq := b4; clear hq; intro w b5 HX) | (have hq := b3; clear hq; intro w b4 HX) | (have hq := b2; clear hq; intro w b3 HX) | (have hq := b; clear hq; intro w b2 HX) | intro w b HX); simp only [Act.put, List.setIfInBounds_toArray, List.set_cons_zero, List.set_cons_succ]) | ((with_reducible apply sx_app1 HX); (· (first | exact sl_str | exact sl_res | exact sl_op)); (· rfl); (· rfl); (· (repeat (first | (with_reducible exact Rem.here) | (with_reducible apply Rem.there)))); (· (repeat (first | (with_reducible exact List.mem_cons_self ..) | (with_reducible apply List.mem_cons_of_mem)))); (· rfl); (· rfl); (· exact HBD.out); clear HX; intro w av nv cv HX; simp only [Act.put, List.setIfInBounds_toArray, List.set_cons_zero, List.set_cons_succ]))
        refine sx_ret2 HX rfl rfl (by (repeat (first | (with_reducible exact List.mem_cons_self ..) | (with_reducible apply List.mem_cons_of_mem)))) (by kernel_rfl) ?_
        rw [HE.out]
        have h1 := HX.out.up6
        exact ⟨_, P', rfl, fun q hq => hP' q (HP2.out q (HPP.out q hq)), ⟨a', n', c', xs', rfl, hrl', hmem⟩, (tree_mono h1 (fun q hq => hP' q (HP2.out q hq))).pm 8 [1, 0] rfl rfl⟩
end
end Go.Proofs.YtjeaoopamebgjaaGreatDoor

/-
  Several ops: what the laws of chapter 12 ask of them (plain).
-/
namespace Go.Av
open Go.RowKit
/-- A tree on which Ops were done, whatever came of each. -/
def playT (sess zxid : Int) (l : List OpS) (S : TreeS) : TreeS := l.foldl (fun S o => (doT S o sess zxid).2) S
theorem playT_snoc (sess zxid : Int) (l : List OpS) (o : OpS) (S : TreeS) : playT sess zxid (l ++ [o]) S = (doT (playT sess zxid l S) o sess zxid).2 := by
  unfold playT
  rw [List.foldl_append]
  rfl
theorem playT_take (sess zxid : Int) (l : List OpS) (S : TreeS) {i : Nat} (hi : i < l.length) : playT sess zxid (l.take (i + 1)) S = (doT (playT sess zxid (l.take i) S) l[i] sess zxid).2 := by
  rw [List.take_succ_eq_append_getElem hi, playT_snoc]
theorem playT_b {sess zxid : Int} : ∀ (l : List OpS) {K : Nat} {S : TreeS}, TreeB K S → TreeB (K + l.length) (playT sess zxid l S)
  | [], _, _, h => h
  | o :: l, K, S, h => by
    have := playT_b (sess := sess) (zxid := zxid) l (do_b h o sess zxid)
    rw [List.length_cons, show K + (l.length + 1) = K + 1 + l.length by omega]
    exact this
theorem do_room (S : TreeS) (o : OpS) (sess zxid : Int) : (doT S o sess zxid).2.room = S.room := by
  unfold doT
  split
  · rfl
  · split
    · rfl
    · split
      · unfold createT; split <;> rfl
      · split
        · unfold changeT
          split
          · rfl
          · split
            · rfl
            · split
              · rfl
              · split
                · rfl
                · split <;> rfl
        · rfl
theorem play_room {sess zxid : Int} : ∀ (l : List OpS) (S : TreeS), (playT sess zxid l S).room = S.room
  | [], _ => rfl
  | o :: l, S => (play_room l (doT S o sess zxid).2).trans (do_room S o sess zxid)
/-- A multi that is done. -/
theorem many_ok {S : TreeS} {sess zxid : Int} {ops : List OpS} (h : (manyT S sess zxid ops).2.2 = true) : (stepsT sess zxid ops S).2.2 = 0 ∧ manyT S sess zxid ops = (⟨0, zxid, 0, -1, (stepsT sess zxid ops S).1⟩, (stepsT sess zxid ops S).2.1, true) := by
  unfold manyT at h ⊢
  split
  · rename_i h1; rw [if_pos h1] at h; cases h
  · rename_i h1
    rw [if_neg h1] at h
    split
    · rename_i h2; rw [if_pos h2] at h; cases h
    · rename_i h2
      rw [if_neg h2] at h
      split
      · rename_i h3; rw [if_pos h3] at h; cases h
      · rename_i h3
        exact ⟨by omega, rfl⟩
/-- A multi that is not done. -/
theorem many_no {S : TreeS} {sess zxid : Int} {ops : List OpS} (h : (manyT S sess zxid ops).2.2 = false) : (manyT S sess zxid ops).1.err ≠ 0 ∧ (manyT S sess zxid ops).1.zxid = 0 ∧ (manyT S sess zxid ops).2.1 = S := by
  unfold manyT at h ⊢
  split
  · exact ⟨by show (2 : Int) ≠ 0; decide, rfl, rfl⟩
  · rename_i h1
    rw [if_neg h1] at h
    split
    · exact ⟨by show (1 : Int) ≠ 0; decide, rfl, rfl⟩
    · rename_i h2
      rw [if_neg h2] at h
      split
      · rename_i h3
        exact ⟨h3, rfl, rfl⟩
      · rename_i h3
        rw [if_neg h3] at h
        cases h
theorem many_len {S : TreeS} {sess zxid : Int} {ops : List OpS} (h : (manyT S sess zxid ops).2.2 = true) : (manyT S sess zxid ops).1.err = 0 ∧ (manyT S sess zxid ops).1.rs.length = ops.length := by
  obtain ⟨h1, h2⟩ := many_ok h
  rw [h2]
  exact ⟨rfl, steps_len ops S h1⟩
theorem steps_cons {sess zxid : Int} {q : OpS} {S : TreeS} (l : List OpS) (hq : (doT S q sess zxid).1.err = 0) : stepsT sess zxid (q :: l) S = ((doT S q sess zxid).1 :: (stepsT sess zxid l (doT S q sess zxid).2).1, (stepsT sess zxid l (doT S q sess zxid).2).2) := by
  conv => lhs; unfold stepsT
  rw [if_neg (fun h => h hq)]
theorem steps_cons0 {sess zxid : Int} {q : OpS} {S : TreeS} {l : List OpS} (h : (stepsT sess zxid (q :: l) S).2.2 = 0) : (doT S q sess zxid).1.err = 0 := by
  unfold stepsT at h
  by_cases hq : (doT S q sess zxid).1.err ≠ 0
  · rw [if_pos hq] at h; exact absurd h hq
  · exact Decidable.not_not.1 hq
/-- The first so many of several that are done. -/
theorem steps_app {sess zxid : Int} (l2 : List OpS) : ∀ (l1 : List OpS) (S : TreeS), (stepsT sess zxid (l1 ++ l2) S).2.2 = 0 →
    (stepsT sess zxid l1 S).2.2 = 0 ∧ stepsT sess zxid (l1 ++ l2) S = ((stepsT sess zxid l1 S).1 ++ (stepsT sess zxid l2 (stepsT sess zxid l1 S).2.1).1, (stepsT sess zxid l2 (stepsT sess zxid l1 S).2.1).2)
  | [], S, _ => ⟨rfl, rfl⟩
  | q :: l, S, h => by
    rw [List.cons_append] at h ⊢
    have hq := steps_cons0 h
    rw [steps_cons _ hq] at h
    rw [steps_cons l hq, steps_cons (l ++ l2) hq]
    have ih := steps_app l2 l (doT S q sess zxid).2 h
    refine ⟨ih.1, ?_⟩
    rw [ih.2]
    rfl
theorem steps_at {sess zxid : Int} {l : List OpS} {S : TreeS} (h : (stepsT sess zxid l S).2.2 = 0) {i : Nat} (hi : i < l.length) :
    (doT (stepsT sess zxid (l.take i) S).2.1 l[i] sess zxid).1.err = 0 ∧ (stepsT sess zxid (l.take (i + 1)) S).2.1 = (doT (stepsT sess zxid (l.take i) S).2.1 l[i] sess zxid).2 ∧
      (stepsT sess zxid l S).1[i]? = some (doT (stepsT sess zxid (l.take i) S).2.1 l[i] sess zxid).1 := by
  have hsplit : l = l.take (i + 1) ++ l.drop (i + 1) := (List.take_append_drop _ _).symm
  rw [hsplit] at h
  obtain ⟨h1, h2⟩ := steps_app _ _ _ h
  rw [List.take_succ_eq_append_getElem hi] at h1
  obtain ⟨h3, h4⟩ := steps_app _ _ _ h1
  have hs := steps_snoc (sess := sess) (zxid := zxid) l[i] (l.take i) S h3
  have he : (doT (stepsT sess zxid (l.take i) S).2.1 l[i] sess zxid).1.err = 0 := by
    apply Decidable.byContradiction
    intro hne
    rw [if_pos hne] at hs
    rw [hs] at h1
    exact hne h1
  rw [if_neg (fun hh => hh he), ← List.take_succ_eq_append_getElem hi] at hs
  refine ⟨he, by rw [hs], ?_⟩
  rw [← hsplit] at h2
  rw [h2, hs]
  have hl : (stepsT sess zxid (l.take i) S).1.length = i := by
    rw [steps_len _ _ h3, List.length_take]; omega
  dsimp only
  rw [List.append_assoc, List.getElem?_append_right (by omega), hl, Nat.sub_self]
  rfl
theorem steps_room {sess zxid : Int} : ∀ (l : List OpS) (S : TreeS), (stepsT sess zxid l S).2.1.room = S.room
  | [], _ => rfl
  | o :: l, S => by
    unfold stepsT
    split
    · exact do_room S o sess zxid
    · exact (steps_room l _).trans (do_room S o sess zxid)
/-- A result among others. -/
theorem ResL.at {P : List PRow} {l : List ResS} {xs : List Value} (h : ResL P l xs) : ∀ {i : Nat} (hi : i < l.length), ∃ nv, (1, nv, l[i].names.map sv) ∈ P ∧ ∀ j v, (l[i].cells nv).toList[j]? = some v → xs[i * 11 + j]? = some v := by
  induction h with
  | nil => intro i hi; cases hi
  | @cons r nv rs xs h1 h2 ih =>
    intro i hi
    cases i with
    | zero =>
      refine ⟨nv, h1, fun j v hv => ?_⟩
      have hv : (r.cells nv).toList[j]? = some v := hv
      have hj := (List.getElem?_eq_some_iff.1 hv).1
      rw [Nat.zero_mul, Nat.zero_add, List.getElem?_append_left hj]
      exact hv
    | succ i =>
      obtain ⟨nv', h3, h4⟩ := ih (i := i) (by simpa using hi)
      refine ⟨nv', h3, fun j v hv => ?_⟩
      have hl : (r.cells nv).toList.length = 11 := rfl
      rw [List.getElem?_append_right (by omega), hl, show (i + 1) * 11 + j - 11 = i * 11 + j by omega]
      exact h4 j v hv
end Go.Av

/-
  A slice of Ops that a law is handed, opened: as a row that is read.
-/
namespace Go.Av
open Go.RowKit
instance : Inhabited OpS := ⟨⟨0, ⟨#[]⟩, ⟨#[]⟩, 0, 0⟩⟩
/-- What the walk is told of a slice of Ops. -/
def IsOps (w : World) (a : Option Addr) (len cap : Nat) (l : List OpS) : Prop :=
  l.length = len ∧ len ≤ cap ∧ cap ≤ maxLen ∧ (a = none → cap = 0) ∧
    (∀ x, a = some x → ∀ i, (h : i < l.length) → w.cell? (x.add (i * 5)) = some (.int .i64 l[i].kind) ∧ w.cell? (x.add (i * 5 + 1)) = some (.string l[i].path) ∧ w.cell? (x.add (i * 5 + 2)) = some (.string l[i].data) ∧
      w.cell? (x.add (i * 5 + 3)) = some (.int .i64 l[i].ver) ∧ w.cell? (x.add (i * 5 + 4)) = some (.int .i64 l[i].flags)) ∧ ∀ c ∈ l, c.path.size ≤ maxLen ∧ c.data.size ≤ maxLen
theorem add_twice2 (x : Addr) (i j : Nat) : (x.add i).add j = x.add (i + j) := (Go.Deep.add_add x i j).symm ▸ rfl
theorem IsOps.row {w : World} {a : Option Addr} {len cap : Nat} {l : List OpS} (h : IsOps w a len cap l) : ∃ E, ReadRow w 5 (.slice a len cap) (l.flatMap OpS.cells) E := by
  obtain ⟨h1, h2, h3, h4, h5, h6⟩ := h
  have hlen : (l.flatMap OpS.cells).length = len * 5 := by rw [flatG_len (f := OpS.cells) (K := 5) (fun _ => rfl), h1]
  cases l with
  | nil => exact ⟨[], a, len, cap, rfl, hlen, h2, h3, h4, .inl ⟨rfl, rfl⟩⟩
  | cons o l =>
    cases a with
    | none =>
      have := h4 rfl
      simp at h1
      omega
    | some x =>
      obtain ⟨g0, -⟩ := h5 x rfl 0 (by simp)
      have hs := spotK_of g0
      obtain ⟨bk, off, sp⟩ := x
      rw [Nat.zero_mul] at g0
      have hsp : sp = none := by
        have hz : (⟨bk, off, sp⟩ : Addr).add 0 = ⟨bk, off, sp⟩ := by unfold Addr.add; split <;> simp_all
        rw [hz] at g0
        exact spotK_of g0
      subst hsp
      refine ⟨[bk], _, len, cap, rfl, hlen, h2, h3, h4, .inr ⟨bk, off, rfl, rfl, ?_, fun i v hv => ?_⟩⟩
      · have := World.block_lt_of_cell? w _ g0
        rw [Addr.add_lit] at this
        exact this
      · have hi : i < (o :: l).length * 5 := by
          have := (List.getElem?_eq_some_iff.1 hv).1
          rw [flatG_len (f := OpS.cells) (K := 5) (fun _ => rfl)] at this
          exact this
        have hp : i / 5 < (o :: l).length := by omega
        have hm : i % 5 < 5 := Nat.mod_lt _ (by omega)
        have hat := flatG_at (f := OpS.cells) (K := 5) (fun _ => rfl) (o :: l) hp hm
        rw [show i / 5 * 5 + i % 5 = i by omega, hv] at hat
        obtain ⟨c0, c1, c2, c3, c4⟩ := h5 _ rfl (i / 5) hp
        simp only [Addr.add_lit] at c0 c1 c2 c3 c4
        rcases (show i % 5 = 0 ∨ i % 5 = 1 ∨ i % 5 = 2 ∨ i % 5 = 3 ∨ i % 5 = 4 by omega) with e | e | e | e | e <;> rw [e] at hat <;> simp only [OpS.cells, List.getElem?_cons_zero, List.getElem?_cons_succ, Option.some.injEq] at hat <;> subst hat
        · rw [show off + i = off + i / 5 * 5 by omega]; exact c0
        · rw [show off + i = off + (i / 5 * 5 + 1) by omega]; exact c1
        · rw [show off + i = off + (i / 5 * 5 + 2) by omega]; exact c2
        · rw [show off + i = off + (i / 5 * 5 + 3) by omega]; exact c3
        · rw [show off + i = off + (i / 5 * 5 + 4) by omega]; exact c4
end Go.Av
namespace Go.Proofs.YtjeaoopamebgjaaGreatDoor
open Go.RowKit Go.Av Go.ChangeShapes Go.WideShapes
theorem opCells2 : Tryz.prog.cellsOf 36 = 5 ∧ Tryz.prog.cellsOf 3 = 1 ∧ Tryz.prog.cellsOf 9 = 1 := by
  refine ⟨?_, ?_, ?_⟩ <;> kernel_rfl
set_option maxRecDepth 100000 in
theorem opsj_of {H : Type} {enc : TypeId × Value → H} {w : World} {base : Nat} {held : Bool} {fuel : Nat} {a : Option Addr} {len cap : Nat} {x : DataW H × List MemPlace}
    (h : DataW.trod enc Tryz.prog w base (fun _ => true) held fuel 22 [.slice a len cap] = some x) : ∃ l, IsOps w a len cap l := by
  obtain ⟨c1, c2, c3⟩ := opCells2
  rcases Deep.open_slice Tryz.underlying22 h with ⟨hcs, _⟩ | ⟨x, l, c, m, n, D, Pl, hcs, hb, hl, hm, hmm, hx, hi⟩
  · cases hcs
    exact ⟨[], rfl, Nat.le_refl _, by decide, fun _ => rfl, by simp, by simp⟩
  · cases hcs
    rw [c1] at hi
    have each : ∀ i, i < len → ∃ q : OpS, (w.cell? (x.add (i * 5)) = some (.int .i64 q.kind) ∧ w.cell? (x.add (i * 5 + 1)) = some (.string q.path) ∧ w.cell? (x.add (i * 5 + 2)) = some (.string q.data) ∧
        w.cell? (x.add (i * 5 + 3)) = some (.int .i64 q.ver) ∧ w.cell? (x.add (i * 5 + 4)) = some (.int .i64 q.flags)) ∧ q.path.size ≤ maxLen ∧ q.data.size ≤ maxLen := by
      intro i hil
      obtain ⟨cs', hc, ht⟩ := hi i (by rw [hmm]; split <;> omega)
      obtain ⟨_, hcl, hat⟩ := World.cells?_some hc
      obtain ⟨ys, n', -, -, -, hyl, hf⟩ := DataW.trod_struct Tryz.underlying36 ht
      match cs', hcl with
      | [k0, k1, k2, k3, k4], _ =>
        have f0 : DataW.trod enc Tryz.prog w base (fun _ => true) held n' 3 (List.take (Tryz.prog.cellsOf 3) (List.drop 0 [k0, k1, k2, k3, k4])) = ys[0]? := hf 0 _ rfl
        have f1 : DataW.trod enc Tryz.prog w base (fun _ => true) held n' 9 (List.take (Tryz.prog.cellsOf 9) (List.drop 1 [k0, k1, k2, k3, k4])) = ys[1]? := hf 1 _ rfl
        have f2 : DataW.trod enc Tryz.prog w base (fun _ => true) held n' 9 (List.take (Tryz.prog.cellsOf 9) (List.drop 2 [k0, k1, k2, k3, k4])) = ys[2]? := hf 2 _ rfl
        have f3 : DataW.trod enc Tryz.prog w base (fun _ => true) held n' 3 (List.take (Tryz.prog.cellsOf 3) (List.drop 3 [k0, k1, k2, k3, k4])) = ys[3]? := hf 3 _ rfl
        have f4 : DataW.trod enc Tryz.prog w base (fun _ => true) held n' 3 (List.take (Tryz.prog.cellsOf 3) (List.drop 4 [k0, k1, k2, k3, k4])) = ys[4]? := hf 4 _ rfl
        rw [c2] at f0 f3 f4
        rw [c3] at f1 f2
        have hy : ∀ j, j < 5 → ∃ y, ys[j]? = some y := fun j hj => ⟨ys[j]'(by rw [hyl]; exact hj), List.getElem?_eq_getElem _⟩
        obtain ⟨y0, e0⟩ := hy 0 (by omega)
        obtain ⟨y1, e1⟩ := hy 1 (by omega)
        obtain ⟨y2, e2⟩ := hy 2 (by omega)
        obtain ⟨y3, e3⟩ := hy 3 (by omega)
        obtain ⟨y4, e4⟩ := hy 4 (by omega)
        obtain ⟨n0, g0, -, -⟩ := DataW.trod_int Tryz.underlying3 (f0.trans e0)
        obtain ⟨n1, g1, -, w1⟩ := DataW.trod_string Tryz.underlying9 (f1.trans e1)
        obtain ⟨n2, g2, -, w2⟩ := DataW.trod_string Tryz.underlying9 (f2.trans e2)
        obtain ⟨n3, g3, -, -⟩ := DataW.trod_int Tryz.underlying3 (f3.trans e3)
        obtain ⟨n4, g4, -, -⟩ := DataW.trod_int Tryz.underlying3 (f4.trans e4)
        simp at g0 g1 g2 g3 g4
        subst g0 g1 g2 g3 g4
        refine ⟨⟨n0, n1, n2, n3, n4⟩, ⟨?_, ?_, ?_, ?_, ?_⟩, w1, w2⟩
        · have := hat 0 (by omega); rw [add_twice2] at this; exact this
        · have := hat 1 (by omega); rw [add_twice2] at this; exact this
        · have := hat 2 (by omega); rw [add_twice2] at this; exact this
        · have := hat 3 (by omega); rw [add_twice2] at this; exact this
        · have := hat 4 (by omega); rw [add_twice2] at this; exact this
    obtain ⟨y, hy⟩ := Deep.choose_lt each
    refine ⟨(List.range len).map y, by simp, hl, hm, by simp, ?_, ?_⟩
    · intro x' hx' i hi'
      cases hx'
      simp at hi'
      simpa using (hy i hi').1
    · intro q hq
      obtain ⟨i, hi', rfl⟩ := List.mem_map.1 hq
      exact (hy i (List.mem_range.1 hi')).2
end Go.Proofs.YtjeaoopamebgjaaGreatDoor

/-
  The walk by things: slices of several elements that are written out.
-/
namespace Go.Av
open Go.RowKit
section
variable {P : Program} {ops : Array Oper} {Q : Exit → Act → World → Prop} {a : Act} {w w0 : World} {rest : List Oper} {Ts Ts' : List Thing} {rows : List (Value × Bs)}
  {dst : Option Tmp} {tyy t e : TypeId} {y0 y1 : Operand} {pos : String} {aft : Array Edge} {c0 c1 : List Value} {v0 v1 : Value}
theorem sx_lits (H : Hid (Sep w0 w Ts rows)) {K by_ len : Nat} {parts : Array (Nat × Operand)} (hsl : SliceN P t e K by_) (hK : 0 < K) (hm : len * K ≤ 10000) (hl : 0 < len) (vs : List Value) (hp : (parts.map fun (i, x) => (i, a.eval x)).toList = (vs.zipIdx 0).map fun x => (x.2, x.1)) (hvl : vs.length = len) (hvs : ∀ v ∈ vs, v.cells.size = K)
    (k : ∀ w' b, Hid (Sep w0 w' (ThCell b (.cells (vs.flatMap fun v => v.cells.toList).toArray e (0, 0)) :: Ts) rows) → wpList P ops Q rest (a.put dst (.slice (some ⟨b, 0, none⟩) len len)) w') : wpList P ops Q (⟨dst, .buildSlice t len parts, tyy, pos, aft, none⟩ :: rest) a w := by
  obtain ⟨ii, z, hi, hz, hsz, hzs, -⟩ := hsl.info
  refine Go.Great.wpList_buildSliceTo rfl t e len parts rfl w.heap.size rfl dst rfl hsl.ut _ ?_ (k _ _ (Lib.hid (H.out.newCell _)))
  unfold Program.builtSlice
  have hpos : 0 < len * K := Nat.mul_pos hl hK
  simp only [hi, hz, hsz]
  rw [if_neg (by omega), hp]
  have := Go.Great.fill_whole (s := K) hK vs ((Array.range (len * K)).map (z.cells[· % z.cells.size]!)) hvs (by simp [hvl])
  rw [this]
theorem sx_two (H : Hid (Sep w0 w Ts rows)) {K by_ : Nat} (hsl : SliceN P t e K by_) (hK : Nat.blt 0 K = true ∧ Nat.ble K 1000 = true) (h0 : a.eval y0 = .agg c0.toArray) (h1 : a.eval y1 = .agg c1.toArray) (e0 : c0.length = K) (e1 : c1.length = K)
    (k : ∀ w' b, Hid (Sep w0 w' (ThCell b (.cells (c0 ++ c1).toArray e (0, 0)) :: Ts) rows) → wpList P ops Q rest (a.put dst (.slice (some ⟨b, 0, none⟩) 2 2)) w') : wpList P ops Q (⟨dst, .buildSlice t 2 #[(0, y0), (1, y1)], tyy, pos, aft, none⟩ :: rest) a w := by
  have h2 : K ≤ 1000 := Nat.le_of_ble_eq_true hK.2
  have h3 : 0 < K := by have := hK.1; simpa using this
  refine sx_lits H hsl h3 (by omega) (by omega) [.agg c0.toArray, .agg c1.toArray] (by simp [h0, h1]) rfl (fun v hv => ?_) (fun w' b HX => k w' b ?_)
  · simp only [List.mem_cons, List.not_mem_nil, or_false] at hv
    rcases hv with rfl | rfl <;> simp [Value.cells, e0, e1]
  · simpa [Value.cells] using HX
/-- A slice of one block, read: its cells. -/
theorem cell_row (H : Hid (Sep w0 w Ts rows)) {b K n : Nat} {cs : List Value} {T : TypeId} (hm : ThCell b (.cells cs.toArray T (0, 0)) ∈ Ts) (hl : cs.length = n * K) (hn : n ≤ 1000) : ReadRow w K (.slice (some ⟨b, 0, none⟩) n n) cs [b] :=
  ⟨_, n, n, rfl, hl, Nat.le_refl _, by unfold maxLen; omega, (fun h => by cases h), .inr ⟨b, 0, rfl, rfl, lt_of_heap (Sep.block H hm), fun i x hx => by
    rw [Nat.zero_add]
    exact cell_of (Sep.block H hm) i (by simpa using hx)⟩⟩
/-- A block that is only read from now on. -/
theorem Sep.poolCell {b K n : Nat} {cs : List Value} {T : TypeId} {P : List PRow} {R : List Thing} (h : Sep w0 w (ThCell b (.cells cs.toArray T (0, 0)) :: ThPool w0 P :: R) rows) (hl : cs.length = n * K) (hn : n ≤ 1000) : Sep w0 w (ThPool w0 ((K, .slice (some ⟨b, 0, none⟩) n n, cs) :: P) :: R) rows := by
  obtain ⟨F, hL, hu, hr⟩ := h
  cases hL with
  | @cons _ D _ _ k1 k2 k3 =>
    refine Sep.poolRow (K := K) (v := .slice (some ⟨b, 0, none⟩) n n) (xs := cs) ⟨_, .cons (T := ThRow K _ _) ⟨_, n, n, rfl, hl, Nat.le_refl _, by unfold maxLen; omega, (fun h => by cases h), .inr ⟨b, 0, cs.toArray, T, rfl, k1.2, k1.1, by simp [hl], by simp [← hl]⟩⟩ k2 k3, hu, hr⟩
/-- A block that was just made is a row that is owned. -/
theorem Sep.cellRow {b K n : Nat} {cs : List Value} {T : TypeId} {R : List Thing} (h : Sep w0 w (ThCell b (.cells cs.toArray T (0, 0)) :: R) rows) (hl : cs.length = n * K) (hn : n ≤ 1000) : Sep w0 w (ThRow K (.slice (some ⟨b, 0, none⟩) n n) cs :: R) rows :=
  h.imp fun D hD => ⟨_, n, n, rfl, hl, Nat.le_refl _, by unfold maxLen; omega, (fun h => by cases h), .inr ⟨b, 0, cs.toArray, T, rfl, hD.2, hD.1, by simp [hl], by simp [← hl]⟩⟩
theorem src_row (H : Hid (Sep w0 w Ts rows)) {K by_ : Nat} {tx : TypeId} {va : Value} {ys : List Value} (hsl : SliceN P tx e K by_) (hm : ThRow K va ys ∈ Ts) (h1 : ∀ u ∈ ys, u.oneCell' = true) : ∃ n, ys.length = n * K ∧ Src P K tx va n ys w := by
  obtain ⟨D, hD⟩ := H.out.has hm
  obtain ⟨E, hE, -⟩ := OwnRow.read hD
  exact hE.src hsl.ut h1
/-- append of a row onto a slice that was just made. -/
theorem sx_appC (H : Hid (Sep w0 w Ts rows)) {K by_ n1 : Nat} {s x : Operand} {b : Nat} {cs ys : List Value} {T : TypeId} {av : Option Addr} {nv cv : Nat} (hsl : SliceN P t e K by_) (hs : a.eval s = .slice (some ⟨b, 0, none⟩) n1 n1) (hx : a.eval x = .slice av nv cv)
    (hr : Rem (ThCell b (.cells cs.toArray T (0, 0))) Ts Ts') (hm : ThRow K (.slice av nv cv) ys ∈ Ts') (hcs : cs.length = n1 * K) (hn1 : Nat.ble n1 1000 = true) (h1 : ∀ u ∈ ys, u.oneCell' = true) (hb : ∀ m, ys.length = m * K → (n1 + m) ≤ 140737488355328 ∧ (n1 + m) * by_ ≤ 140737488355328) (hK : 0 < K)
    (k : ∀ w' a' n' c', Hid (Sep w0 w' (ThRow K (.slice a' n' c') (cs ++ ys) :: Ts') rows) → wpList P ops Q rest (a.put dst (.slice a' n' c')) w') :
    wpList P ops Q (⟨dst, .call { callee := .builtin .append, args := #[s, x], argTypes := #[t, t] }, tyy, pos, aft, none⟩ :: rest) a w := by
  have h0 : Sep w0 w (ThRow K (.slice (some ⟨b, 0, none⟩) n1 n1) cs :: Ts') rows := (H.out.perm hr.perm).cellRow hcs (Nat.le_of_ble_eq_true hn1)
  obtain ⟨m, hm1, hsrc⟩ := src_row (Lib.hid h0) hsl (List.mem_cons_of_mem _ hm) h1
  refine sx_app (Lib.hid h0) hsl hs hx .here hsrc (fun n hn => ?_) k
  have : n = n1 := Nat.eq_of_mul_eq_mul_right hK (hn.symm.trans hcs)
  subst this
  exact hb m hm1
end
section
variable {P : Program} {ops : Array Oper} {a a' A : Act} {w : World} {dst : Option Tmp} {ty tyy : TypeId} {x : Operand} {pos : String} {aft : Array Edge} {g : Option (Nat × Bool)} {k : Nat} {v p : Value} {r : List (Nat × Bool)}
theorem yield_loadAt (hl : (Instr.loadAt ty p).run P w = .ok v w) (ho : ops[k]? = some ⟨dst, .load ty x, tyy, pos, aft, g⟩) (hx : a.eval x = p) (hw : Region.wanted ⟨dst, .load ty x, tyy, pos, aft, g⟩ (yielded ops a.tmps) = true) (ha : a' = a.put dst v) (hr : YieldAll P ops (fun W => W = w) r a' A) : YieldAll P ops (fun W => W = w) ((k, true) :: r) a A := by
  refine yieldL ho hw (fun W hW => ?_) ha hr
  subst hW
  unfold execOp
  dsimp only
  rw [hx]
  exact run_val hl
end
section
variable {P : Program} {ops : Array Oper} {S : World → Prop} {a a' A : Act} {w0 : World} {Ts : List Thing} {rows : List (Value × Bs)} {dst : Option Tmp} {ty tyy : TypeId} {x : Operand} {pos : String} {aft : Array Edge} {g : Option (Nat × Bool)} {b i k : Nat} {cs : Array Value} {T : TypeId} {v p : Value} {r : List (Nat × Bool)}
theorem yield_loadH (H : ∀ W, S W → Sep w0 W Ts rows) (ho : ops[k]? = some ⟨dst, .load ty x, tyy, pos, aft, g⟩) (hx : a.eval x = .pointer (some ⟨b, i, none⟩)) (hw : Region.wanted ⟨dst, .load ty x, tyy, pos, aft, g⟩ (yielded ops a.tmps) = true)
    (hs : scalarB P ty = true) (hm : ThCell b (.cells cs T (0, 0)) ∈ Ts) {tl : List Value} (hv : cs.toList.drop i = v :: tl) (ha : a' = a.put dst v) (hr : YieldAll P ops S r a' A) : YieldAll P ops S ((k, true) :: r) a A := by
  refine yieldL ho hw (fun W hW => ?_) ha hr
  unfold execOp
  dsimp only
  rw [hx]
  exact run_val (run_load_scalar hs (cell_of (Sep.block (H W hW) hm) i (drop_cell hv)))
theorem yield_loadSH (H : ∀ W, S W → Sep w0 W Ts rows) {n : Nat} (ho : ops[k]? = some ⟨dst, .load ty x, tyy, pos, aft, g⟩) (hx : a.eval x = .pointer (some ⟨b, i, none⟩)) (hw : Region.wanted ⟨dst, .load ty x, tyy, pos, aft, g⟩ (yielded ops a.tmps) = true)
    (hs : StructN P ty n) (hm : ThCell b (.cells cs T (0, 0)) ∈ Ts) (hn : Nat.ble (i + n) cs.size = true) (ha : a' = a.put dst (.agg ((cs.toList.drop i).take n).toArray)) (hr : YieldAll P ops S r a' A) : YieldAll P ops S ((k, true) :: r) a A := by
  refine yieldL ho hw (fun W hW => ?_) ha hr
  unfold execOp
  dsimp only
  rw [hx]
  exact run_val (run_load_struct hs.1 (Sep.block (H W hW) hm) (Nat.le_of_ble_eq_true hn))
theorem yield_loadAtH (hl : ∀ W, S W → (Instr.loadAt ty p).run P W = .ok v W) (ho : ops[k]? = some ⟨dst, .load ty x, tyy, pos, aft, g⟩) (hx : a.eval x = p) (hw : Region.wanted ⟨dst, .load ty x, tyy, pos, aft, g⟩ (yielded ops a.tmps) = true) (ha : a' = a.put dst v) (hr : YieldAll P ops S r a' A) : YieldAll P ops S ((k, true) :: r) a A := by
  refine yieldL ho hw (fun W hW => ?_) ha hr
  unfold execOp
  dsimp only
  rw [hx]
  exact run_val (hl W hW)
end
end Go.Av

/-
  A tree: the walks of New, Len.
-/
namespace Go.Proofs.YtjeaoopamebgjaaGreatDoor
open Go.RowKit Go.Av
section
variable {w0 w : World} {t : Nat} {S : TreeS} {P P' : List PRow} {R : List Thing} {rows : List (Value × Bs)}
set_option maxRecDepth 100000 in
set_option maxHeartbeats 1000000 in
theorem treenew_any (h : Sep w0 w (ThPool w0 P :: R) rows) (room : Int) (h1 : 1 ≤ room) (h2 : room ≤ 500) :
    Calls Tryz.prog 11 #[.int .i64 room] w fun e w' => ∃ t, e = .returned (.tuple #[.pointer (some ⟨t, 0, none⟩), .int .i64 0]) ∧ Sep w0 w' (ThPool w0 P :: ThTree t ⟨room, []⟩ P :: R) rows := by
  have h3 := (h.newMap .string).newCell (.cells #[.int .i64 room, .map (some w.heap.size)] 81 (0, 0))
  rw [show (w.alloc (.map #[] 0)).heap.size = w.heap.size + 1 by simp] at h3
  have H := Lib.hid h3
  have hmm := @run_makeMap Tryz.prog
  have q1 : decide (room < 1) = false := decide_eq_false (by omega)
  have q2 : decide (500 < room) = false := decide_eq_false (by omega)
  clear h h3
  go_enter Tryz.func11, Tryz.ntmps11
  go_wp2_with fail
  go_ret2
  refine ⟨_, rfl, ?_⟩
  have h4 := Sep.shut (O := TrO (w.heap.size + 1) ⟨room, []⟩ P) (L := trTh (w.heap.size + 1) w.heap.size room []) ⟨w.heap.size, [], rfl, List.Perm.refl _, List.Pairwise.nil, fun g hg => by cases hg⟩ H.out
  exact h4.perm (List.Perm.swap _ _ _)
set_option maxRecDepth 100000 in
theorem treelen_any (h : Sep w0 w (ThTree t S P :: R) rows) : Calls Tryz.prog 23 #[.pointer (some ⟨t, 0, none⟩)] w fun e w' => e = .returned (.int .i64 (S.l.length : Nat)) ∧ Upd w w' [] [] := by
  obtain ⟨m, -, hm1, -, -, hlen⟩ := tree_facts h
  have hl := hlen 3 w rfl
  clear h hlen
  go_enter Tryz.func23, Tryz.ntmps23
  go_wp2_with fail
  go_ret
  exact ⟨rfl, Upd.refl _ _⟩
/-- What is told of a node that is there. -/
def GotPost (w0 : World) (t : Nat) (S : TreeS) (P : List PRow) (R : List Thing) (rows : List (Value × Bs)) (n : NodeS) (e : Ending) (w' : World) : Prop :=
  ∃ nv P', e = .returned (.tuple #[n.val nv, .bool true]) ∧ (∀ q ∈ P, q ∈ P') ∧ (1, nv, n.names.map sv) ∈ P' ∧ Sep w0 w' (ThPool w0 P' :: ThTree t S P' :: R) rows
set_option maxRecDepth 100000 in
set_option maxHeartbeats 4000000 in
theorem treenode_some (h : Sep w0 w (ThPool w0 P :: ThTree t S P :: R) rows) (s : ByteArray) (n : NodeS) (hl : lookT s.data.toList S.l = some n) (hok : NodeOk n) :
    Calls Tryz.prog 19 #[.pointer (some ⟨t, 0, none⟩), .string s] w (GotPost w0 t S P R rows n) := by
  have hA := h.newCell (.cells #[.int .i64 0, .int .i64 0, .int .i64 0, .int .i64 0, .int .i64 0, .int .i64 0, .int .i64 0, .string ⟨#[]⟩, .int .i64 0, .slice none 0 0] 51)
  obtain ⟨m, -, hm1, -, hsome, -⟩ := tree_facts (hA.pick 2 rfl rfl)
  obtain ⟨x, nv, hnv, hb, hk0⟩ := hsome s n hl
  obtain ⟨wA, hwA⟩ : ∃ wA, wA = w.alloc (.cells #[.int .i64 0, .int .i64 0, .int .i64 0, .int .i64 0, .int .i64 0, .int .i64 0, .int .i64 0, .string ⟨#[]⟩, .int .i64 0, .slice none 0 0] 51) := ⟨_, rfl⟩
  rw [← hwA] at hA hm1 hb hk0
  have hk := hk0 wA rfl
  obtain ⟨E, hE⟩ := (hA.pick 1 rfl rfl).poolGet hnv
  have HCP := Lib.hid (copied_any n nv wA E hE hok.few)
  unfold CopPost NodeS.val NodeS.cells at HCP
  obtain ⟨n0, n1, n2, n3, n4, n5, n6, n7, n8, n9⟩ := node_cells hb
  obtain ⟨na, nn, nc, rfl, -⟩ := id hE
  have HA := Lib.hid hA
  have HWA := Lib.hid hwA
  clear h hA hsome hnv hb hk0 hE hl hwA
  go_enter Tryz.func19, Tryz.ntmps19
  go_upto_region 1 with fail
  rw [← HWA.out]
  go_wp2_with fail
  refine HCP.out.mono ?_
  rintro e w2 ⟨v2, D2, rfl, ho2, hu2⟩
  obtain ⟨a2, l2, k2, rfl, -⟩ := id ho2
  have h8 := ((((HA.out.addRow ho2 hu2).pick 2 rfl rfl).perm (List.Perm.swap _ _ _)).poolRow).pick 2 rfl rfl
  have HX := Lib.hid ((tree_mono h8 (P' := (1, .slice a2 l2 k2, n.names.map sv) :: P) (fun q hq => List.mem_cons_of_mem _ hq)).perm ((List.Perm.cons _ (List.Perm.swap _ _ _)).trans (List.perm_middle (l₁ := [_, _])).symm))
  clear h8 ho2 hu2 HCP n0 n1 n2 n3 n4 n5 n6 n7 n8 n9 hk hm1
  have r0 := cell_of HX.out.blk 0 (v := .int .i64 0) rfl
  have g0 := frz_of HX.out.blk 0
  have r1 := cell_of HX.out.blk 1 (v := .int .i64 0) rfl
  have g1 := frz_of HX.out.blk 1
  have r2 := cell_of HX.out.blk 2 (v := .int .i64 0) rfl
  have g2 := frz_of HX.out.blk 2
  have r3 := cell_of HX.out.blk 3 (v := .int .i64 0) rfl
  have g3 := frz_of HX.out.blk 3
  have r4 := cell_of HX.out.blk 4 (v := .int .i64 0) rfl
  have g4 := frz_of HX.out.blk 4
  have r5 := cell_of HX.out.blk 5 (v := .int .i64 0) rfl
  have g5 := frz_of HX.out.blk 5
  have r6 := cell_of HX.out.blk 6 (v := .int .i64 0) rfl
  have g6 := frz_of HX.out.blk 6
  have r7 := cell_of HX.out.blk 7 (v := .string ⟨#[]⟩) rfl
  have g7 := frz_of HX.out.blk 7
  have r8 := cell_of HX.out.blk 8 (v := .int .i64 0) rfl
  have g8 := frz_of HX.out.blk 8
  have r9 := cell_of HX.out.blk 9 (v := .slice none 0 0) rfl
  have g9 := frz_of HX.out.blk 9
  have HF := Lib.hid (HX.out.setAll [.int .i64 n.made, .int .i64 n.changed, .int .i64 n.ver, .int .i64 n.kids, .int .i64 n.owner, .int .i64 (n.data.size : Nat), .int .i64 (n.names.length : Nat), .string n.data, .int .i64 n.next, .slice a2 l2 k2] rfl)
  go_wp2_with fail
  refine bodyPost_ret (ret_cell2 rfl _ rfl HF.out.blk Tryz.underlying51 (by kernel_rfl)) rfl ?_
  exact ⟨.slice a2 l2 k2, _, rfl, fun q hq => List.mem_cons_of_mem _ hq, List.mem_cons_self .., HF.out.drop⟩
set_option maxRecDepth 100000 in
set_option maxHeartbeats 4000000 in
theorem treenode_none (h : Sep w0 w (ThTree t S P :: R) rows) (s : ByteArray) (hl : lookT s.data.toList S.l = none) :
    Calls Tryz.prog 19 #[.pointer (some ⟨t, 0, none⟩), .string s] w fun e w' => e = .returned (.tuple #[.agg #[.int .i64 0, .int .i64 0, .int .i64 0, .int .i64 0, .int .i64 0, .int .i64 0, .int .i64 0, .string ⟨#[]⟩, .int .i64 0, .slice none 0 0], .bool false]) ∧ Upd w w' [] [] := by
  have hu := Upd.alloc0 w (.cells #[.int .i64 0, .int .i64 0, .int .i64 0, .int .i64 0, .int .i64 0, .int .i64 0, .int .i64 0, .string ⟨#[]⟩, .int .i64 0, .slice none 0 0] 51) []
  obtain ⟨m, -, hm1, hnone, -, -⟩ := tree_facts (h.keep hu)
  have hk := hnone s hl _ rfl
  have HU := Lib.hid hu
  clear h hnone hl hu
  go_enter Tryz.func19, Tryz.ntmps19
  go_wp2_with fail
  refine bodyPost_ret (ret_cell2 rfl _ rfl (heap_alloc_new w _) Tryz.underlying51 (by kernel_rfl)) rfl ?_
  exact ⟨rfl, HU.out⟩
end
end Go.Proofs.YtjeaoopamebgjaaGreatDoor

/-
  The laws of chapter 12: what they share: made, awake.
-/
set_option linter.unusedSimpArgs false
namespace Go.Av
open Go.RowKit
def madeO (p : ByteArray) (flags : Int) : OpS := ⟨1, p, ⟨#[]⟩, 0, flags⟩
end Go.Av
namespace Go.Proofs.YtjeaoopamebgjaaGreatDoor
open Go.RowKit Go.Av
section
variable {w0 w : World} {R : List Thing} {rows : List (Value × Bs)}
set_option maxRecDepth 100000 in
theorem made_any (h : Sep w0 w R rows) (p : ByteArray) (flags : Int) : Calls Tryz.prog 18 #[.string p, .int .i64 flags] w fun e w' => e = .returned (madeO p flags).val ∧ Sep w0 w' R rows := by
  have HX := Lib.hid h
  clear h
  go_enter Tryz.func18, Tryz.ntmps18
  go_wp2_with (first | ((with_reducible apply sx_loadS HX); (· rfl); (· rfl); (· (first | exact sn_op | exact sn_res | exact sn_stat | exact sn_node | exact sn_reply | exact sn_req | exact sn_tree)); (· (repeat (first | (with_reducible exact List.mem_cons_self ..) | (with_reducible apply List.mem_cons_of_mem)))); (· rfl); simp only [Act.put, List.setIfInBounds_toArray, List.set_cons_zero, List.set_cons_succ, List.drop_zero, List.drop_succ_cons, List.take_succ_cons, List.take_zero, List.toList_toArray, NodeS.cells, OpS.cells, ResS.cells]) | ((with_reducible apply sx_load HX); (· rfl); (· rfl); (· kernel_rfl); (· (repeat (first | (with_reducible exact List.mem_cons_self ..) | (with_reducible apply List.mem_cons_of_mem)))); (· rfl); simp only [Act.put, List.setIfInBounds_toArray, List.set_cons_zero, List.set_cons_succ]) | ((with_reducible apply sx_storeS HX); (· rfl); (· rfl); (· rfl); (· kernel_rfl); (· (repeat (first | (with_reducible exact Rep.here) | (with_reducible apply Rep.there)))); (· rfl); (· rfl); clear HX; intro w HX; simp only [Act.put, List.setIfInBounds_toArray, List.set_cons_zero, List.set_cons_succ, setMany, Nat.reduceAdd, NodeS.cells, OpS.cells, ResS.cells] at HX ⊢) | ((with_reducible apply sx_store1 HX); (· rfl); (· ((conv => lhs; whnf) <;> rfl)); (· rfl); (· rfl); (· kernel_rfl); (· (repeat (first | (with_reducible exact Rep.here) | (with_reducible apply Rep.there)))); (· rfl); (· rfl); clear HX; intro w HX; simp only [Act.put, List.setIfInBounds_toArray, List.set_cons_zero, List.set_cons_succ, NodeS.cells, OpS.cells, ResS.cells] at HX ⊢) | ((with_reducible apply sx_alloc HX); (· rfl); (· (first | exact z_op | exact z_res | exact z_node | exact z_reply | exact z_req)); clear HX; (first | (have hq := b9; clear hq; intro w b10 HX) | (have hq := b8; clear hq; intro w b9 HX) | (have hq := b7; clear hq; intro w b8 HX) | (have hq := b6; clear hq; intro w b7 HX) | (have hq := b5; clear hq; intro w b6 HX) | (have hq := b4; clear hq; intro w b5 HX) | (have hq := b3; clear hq; intro w b4 HX) | (have hq := b2; clear hq; intro w b3 HX) | (have hq := b; clear hq; intro w b2 HX) | intro w b HX); simp only [Act.put, List.setIfInBounds_toArray, List.set_cons_zero, List.set_cons_succ]) | ((with_reducible apply sx_boxS HX); (· rfl); (· rfl); clear HX; (first | (have hq := b9; clear hq; intro w b10 HX) | (have hq := b8; clear hq; intro w b9 HX) | (have hq := b7; clear hq; intro w b8 HX) | (have hq := b6; clear hq; intro w b7 HX) | (have hq := b5; clear hq; intro w b6 HX) | (have hq := b4; clear hq; intro w b5 HX) | (have hq := b3; clear hq; intro w b4 HX) | (have hq := b2; clear hq; intro w b3 HX) | (have hq := b; clear hq; intro w b2 HX) | intro w b HX); simp only [Act.put, List.setIfInBounds_toArray, List.set_cons_zero, List.set_cons_succ]) | ((with_reducible apply sx_box1 HX); (· ((conv => lhs; whnf) <;> rfl)); (· rfl); (· rfl); clear HX; (first | (have hq := b9; clear hq; intro w b10 HX) | (have hq := b8; clear hq; intro w b9 HX) | (have hq := b7; clear hq; intro w b8 HX) | (have hq := b6; clear hq; intro w b7 HX) | (have hq := b5; clear hq; intro w b6 HX) | (have hq := b4; clear hq; intro w b5 HX) | (have hq := b3; clear hq; intro w b4 HX) | (have hq := b2; clear hq; intro w b3 HX) | (have hq := b; clear hq; intro w b2 HX) | intro w b HX); simp only [Act.put, List.setIfInBounds_toArray, List.set_cons_zero, List.set_cons_succ]) | ((with_reducible apply sx_makeMap .string HX); (· rfl); clear HX; intro w mm HX; simp only [Act.put, List.setIfInBounds_toArray, List.set_cons_zero, List.set_cons_succ]) | ((with_reducible apply sx_oneS HX); (· (first | exact sl_str | exact sl_res | exact sl_op)); (· exact ⟨rfl, rfl⟩); (· rfl); (· rfl); clear HX; (first | (have hq := b9; clear hq; intro w b10 HX) | (have hq := b8; clear hq; intro w b9 HX) | (have hq := b7; clear hq; intro w b8 HX) | (have hq := b6; clear hq; intro w b7 HX) | (have hq := b5; clear hq; intro w b6 HX) | (have hq := b4; clear hq; intro w b5 HX) | (have hq := b3; clear hq; intro w b4 HX) | (have hq := b2; clear hq; intro w b3 HX) | (have hq := b; clear hq; intro w b2 HX) | intro w b HX); simp only [Act.put, List.setIfInBounds_toArray, List.set_cons_zero, List.set_cons_succ]) | ((with_reducible apply sx_one1 HX); (· (first | exact sl_str | exact sl_res | exact sl_op)); (· ((conv => lhs; whnf) <;> rfl)); (· rfl); clear HX; (first | (have hq := b9; clear hq; intro w b10 HX) | (have hq := b8; clear hq; intro w b9 HX) | (have hq := b7; clear hq; intro w b8 HX) | (have hq := b6; clear hq; intro w b7 HX) | (have hq := b5; clear hq; intro w b6 HX) | (have hq := b4; clear hq; intro w b5 HX) | (have hq := b3; clear hq; intro w b4 HX) | (have hq := b2; clear hq; intro w b3 HX) | (have hq := b; clear hq; intro w b2 HX) | intro w b HX); simp only [Act.put, List.setIfInBounds_toArray, List.set_cons_zero, List.set_cons_succ]) | ((with_reducible apply sx_app1 HX); (· (first | exact sl_str | exact sl_res | exact sl_op)); (· rfl); (· rfl); (· (repeat (first | (with_reducible exact Rem.here) | (with_reducible apply Rem.there)))); (· (repeat (first | (with_reducible exact List.mem_cons_self ..) | (with_reducible apply List.mem_cons_of_mem)))); (· rfl); (· rfl); (· exact HBD.out); clear HX; intro w av nv cv HX; simp only [Act.put, List.setIfInBounds_toArray, List.set_cons_zero, List.set_cons_succ]) | ((with_reducible apply sx_two HX); (· (first | exact sl_str | exact sl_res | exact sl_op)); (· exact ⟨rfl, rfl⟩); (· rfl); (· rfl); (· rfl); (· rfl); clear HX; (first | (have hq := b9; clear hq; intro w b10 HX) | (have hq := b8; clear hq; intro w b9 HX) | (have hq := b7; clear hq; intro w b8 HX) | (have hq := b6; clear hq; intro w b7 HX) | (have hq := b5; clear hq; intro w b6 HX) | (have hq := b4; clear hq; intro w b5 HX) | (have hq := b3; clear hq; intro w b4 HX) | (have hq := b2; clear hq; intro w b3 HX) | (have hq := b; clear hq; intro w b2 HX) | intro w b HX); simp only [Act.put, List.setIfInBounds_toArray, List.set_cons_zero, List.set_cons_succ, List.cons_append, List.nil_append] at HX ⊢))
  refine sx_ret HX rfl rfl (by (repeat (first | (with_reducible exact List.mem_cons_self ..) | (with_reducible apply List.mem_cons_of_mem)))) (by kernel_rfl) ?_
  exact ⟨rfl, HX.out.drop⟩
def opA : OpS := madeO ⟨#[47, 97]⟩ 0
def opAB : OpS := madeO ⟨#[47, 97, 47, 98]⟩ 0
theorem awk1 : manyT ⟨10, []⟩ 1 1 [opA, opA] = (failR 0 5 1 2, ⟨10, []⟩, false) := by kernel_rfl
theorem awk2 : (manyT ⟨10, []⟩ 1 2 [opA, opAB]).1.err = 0 ∧ (manyT ⟨10, []⟩ 1 2 [opA, opAB]).1.at_ = -1 ∧ (manyT ⟨10, []⟩ 1 2 [opA, opAB]).1.zxid = 2 ∧ (manyT ⟨10, []⟩ 1 2 [opA, opAB]).1.rs.length = 2 ∧ (manyT ⟨10, []⟩ 1 2 [opA, opAB]).2.1.l.length = 2 ∧ (manyT ⟨10, []⟩ 1 2 [opA, opAB]).2.2 = true :=
  ⟨by kernel_rfl, by kernel_rfl, by kernel_rfl, by kernel_rfl, by kernel_rfl, by kernel_rfl⟩
theorem rep_len {P : List PRow} {w0 w : World} {R : List Thing} {rows : List (Value × Bs)} {rs : List ResS} {a : Option Addr} {n c : Nat} {xs : List Value} (h : Sep w0 w (ThPool w0 P :: R) rows) (hr : ResL P rs xs) (hm : (11, Value.slice a n c, xs) ∈ P) : n = rs.length := by
  obtain ⟨E, hE⟩ := h.poolGet hm
  obtain ⟨a', n', c', e, hl, -⟩ := ReadRow.some hE
  have h1 := hr.len
  simp only [Value.slice.injEq] at e
  obtain ⟨-, rfl, -⟩ := e
  rw [h1] at hl
  omega
/-- A row that is read: its first cell. -/
theorem row_fst {P : List PRow} {w0 w : World} {R : List Thing} {rows : List (Value × Bs)} {K : Nat} {a : Option Addr} {n c : Nat} {x : Value} {xs : List Value} (h : Sep w0 w (ThPool w0 P :: R) rows) (hm : (K, Value.slice a n c, x :: xs) ∈ P) : ∃ g off, a = some ⟨g, off, none⟩ ∧ ∀ i v, (x :: xs)[i]? = some v → w.cell? ⟨g, off + i, none⟩ = some v := by
  obtain ⟨E, hE⟩ := h.poolGet hm
  obtain ⟨a', n', c', e, hl, hn, hc, ha, hr⟩ := hE
  rcases hr with ⟨h0, _⟩ | ⟨g, off, e2, _, _, hcell⟩
  · cases h0
  · injection e with e1 _ _
    subst e1
    exact ⟨g, off, e2, hcell⟩
set_option maxRecDepth 100000 in
set_option maxHeartbeats 4000000 in
theorem awake_any (hd : DoorN w) : Calls Tryz.prog 9 #[] w fun e w' => e = .returned (.bool true) ∧ Upd w w' [] [] := by
  have HX := Lib.hid (Sep.start w).poolNew
  go_enter Tryz.func9, Tryz.ntmps9
  go_wp2_with (first | ((with_reducible apply sx_loadS HX); (· rfl); (· rfl); (· (first | exact sn_op | exact sn_res | exact sn_stat | exact sn_node | exact sn_reply | exact sn_req | exact sn_tree)); (· (repeat (first | (with_reducible exact List.mem_cons_self ..) | (with_reducible apply List.mem_cons_of_mem)))); (· rfl); simp only [Act.put, List.setIfInBounds_toArray, List.set_cons_zero, List.set_cons_succ, List.drop_zero, List.drop_succ_cons, List.take_succ_cons, List.take_zero, List.toList_toArray, NodeS.cells, OpS.cells, ResS.cells]) | ((with_reducible apply sx_load HX); (· rfl); (· rfl); (· kernel_rfl); (· (repeat (first | (with_reducible exact List.mem_cons_self ..) | (with_reducible apply List.mem_cons_of_mem)))); (· rfl); simp only [Act.put, List.setIfInBounds_toArray, List.set_cons_zero, List.set_cons_succ]) | ((with_reducible apply sx_storeS HX); (· rfl); (· rfl); (· rfl); (· kernel_rfl); (· (repeat (first | (with_reducible exact Rep.here) | (with_reducible apply Rep.there)))); (· rfl); (· rfl); clear HX; intro w HX; simp only [Act.put, List.setIfInBounds_toArray, List.set_cons_zero, List.set_cons_succ, setMany, Nat.reduceAdd, NodeS.cells, OpS.cells, ResS.cells] at HX ⊢) | ((with_reducible apply sx_store1 HX); (· rfl); (· ((conv => lhs; whnf) <;> rfl)); (· rfl); (· rfl); (· kernel_rfl); (· (repeat (first | (with_reducible exact Rep.here) | (with_reducible apply Rep.there)))); (· rfl); (· rfl); clear HX; intro w HX; simp only [Act.put, List.setIfInBounds_toArray, List.set_cons_zero, List.set_cons_succ, NodeS.cells, OpS.cells, ResS.cells] at HX ⊢) | ((with_reducible apply sx_alloc HX); (· rfl); (· (first | exact z_op | exact z_res | exact z_node | exact z_reply | exact z_req)); clear HX; (first | (have hq := b9; clear hq; intro w b10 HX) | (have hq := b8; clear hq; intro w b9 HX) | (have hq := b7; clear hq; intro w b8 HX) | (have hq := b6; clear hq; intro w b7 HX) | (have hq := b5; clear hq; intro w b6 HX) | (have hq := b4; clear hq; intro w b5 HX) | (have hq := b3; clear hq; intro w b4 HX) | (have hq := b2; clear hq; intro w b3 HX) | (have hq := b; clear hq; intro w b2 HX) | intro w b HX); simp only [Act.put, List.setIfInBounds_toArray, List.set_cons_zero, List.set_cons_succ]) | ((with_reducible apply sx_boxS HX); (· rfl); (· rfl); clear HX; (first | (have hq := b9; clear hq; intro w b10 HX) | (have hq := b8; clear hq; intro w b9 HX) | (have hq := b7; clear hq; intro w b8 HX) | (have hq := b6; clear hq; intro w b7 HX) | (have hq := b5; clear hq; intro w b6 HX) | (have hq := b4; clear hq; intro w b5 HX) | (have hq := b3; clear hq; intro w b4 HX) | (have hq := b2; clear hq; intro w b3 HX) | (have hq := b; clear hq; intro w b2 HX) | intro w b HX); simp only [Act.put, List.setIfInBounds_toArray, List.set_cons_zero, List.set_cons_succ]) | ((with_reducible apply sx_box1 HX); (· ((conv => lhs; whnf) <;> rfl)); (· rfl); (· rfl); clear HX; (first | (have hq := b9; clear hq; intro w b10 HX) | (have hq := b8; clear hq; intro w b9 HX) | (have hq := b7; clear hq; intro w b8 HX) | (have hq := b6; clear hq; intro w b7 HX) | (have hq := b5; clear hq; intro w b6 HX) | (have hq := b4; clear hq; intro w b5 HX) | (have hq := b3; clear hq; intro w b4 HX) | (have hq := b2; clear hq; intro w b3 HX) | (have hq := b; clear hq; intro w b2 HX) | intro w b HX); simp only [Act.put, List.setIfInBounds_toArray, List.set_cons_zero, List.set_cons_succ]) | ((with_reducible apply sx_makeMap .string HX); (· rfl); clear HX; intro w mm HX; simp only [Act.put, List.setIfInBounds_toArray, List.set_cons_zero, List.set_cons_succ]) | ((with_reducible apply sx_oneS HX); (· (first | exact sl_str | exact sl_res | exact sl_op)); (· exact ⟨rfl, rfl⟩); (· rfl); (· rfl); clear HX; (first | (have hq := b9; clear hq; intro w b10 HX) | (have hq := b8; clear hq; intro w b9 HX) | (have hq := b7; clear hq; intro w b8 HX) | (have hq := b6; clear hq; intro w b7 HX) | (have hq := b5; clear hq; intro w b6 HX) | (have hq := b4; clear hq; intro w b5 HX) | (have hq := b3; clear hq; intro w b4 HX) | (have hq := b2; clear hq; intro w b3 HX) | (have hq := b; clear hq; intro w b2 HX) | intro w b HX); simp only [Act.put, List.setIfInBounds_toArray, List.set_cons_zero, List.set_cons_succ]) | ((with_reducible apply sx_one1 HX); (· (first | exact sl_str | exact sl_res | exact sl_op)); (· ((conv => lhs; whnf) <;> rfl)); (· rfl); clear HX; (first | (have hq := b9; clear hq; intro w b10 HX) | (have hq := b8; clear hq; intro w b9 HX) | (have hq := b7; clear hq; intro w b8 HX) | (have hq := b6; clear hq; intro w b7 HX) | (have hq := b5; clear hq; intro w b6 HX) | (have hq := b4; clear hq; intro w b5 HX) | (have hq := b3; clear hq; intro w b4 HX) | (have hq := b2; clear hq; intro w b3 HX) | (have hq := b; clear hq; intro w b2 HX) | intro w b HX); simp only [Act.put, List.setIfInBounds_toArray, List.set_cons_zero, List.set_cons_succ]) | ((with_reducible apply sx_app1 HX); (· (first | exact sl_str | exact sl_res | exact sl_op)); (· rfl); (· rfl); (· (repeat (first | (with_reducible exact Rem.here) | (with_reducible apply Rem.there)))); (· (repeat (first | (with_reducible exact List.mem_cons_self ..) | (with_reducible apply List.mem_cons_of_mem)))); (· rfl); (· rfl); (· exact HBD.out); clear HX; intro w av nv cv HX; simp only [Act.put, List.setIfInBounds_toArray, List.set_cons_zero, List.set_cons_succ]) | ((with_reducible apply sx_two HX); (· (first | exact sl_str | exact sl_res | exact sl_op)); (· exact ⟨rfl, rfl⟩); (· rfl); (· rfl); (· rfl); (· rfl); clear HX; (first | (have hq := b9; clear hq; intro w b10 HX) | (have hq := b8; clear hq; intro w b9 HX) | (have hq := b7; clear hq; intro w b8 HX) | (have hq := b6; clear hq; intro w b7 HX) | (have hq := b5; clear hq; intro w b6 HX) | (have hq := b4; clear hq; intro w b5 HX) | (have hq := b3; clear hq; intro w b4 HX) | (have hq := b2; clear hq; intro w b3 HX) | (have hq := b; clear hq; intro w b2 HX) | intro w b HX); simp only [Act.put, List.setIfInBounds_toArray, List.set_cons_zero, List.set_cons_succ, List.cons_append, List.nil_append] at HX ⊢))
  refine (treenew_any HX.out 10 (by omega) (by omega)).mono ?_
  rintro e w1 ⟨t, rfl, hx⟩
  clear HX
  have HX := Lib.hid hx
  clear hx
  go_wp2_with (first | ((with_reducible apply sx_loadS HX); (· rfl); (· rfl); (· (first | exact sn_op | exact sn_res | exact sn_stat | exact sn_node | exact sn_reply | exact sn_req | exact sn_tree)); (· (repeat (first | (with_reducible exact List.mem_cons_self ..) | (with_reducible apply List.mem_cons_of_mem)))); (· rfl); simp only [Act.put, List.setIfInBounds_toArray, List.set_cons_zero, List.set_cons_succ, List.drop_zero, List.drop_succ_cons, List.take_succ_cons, List.take_zero, List.toList_toArray, NodeS.cells, OpS.cells, ResS.cells]) | ((with_reducible apply sx_load HX); (· rfl); (· rfl); (· kernel_rfl); (· (repeat (first | (with_reducible exact List.mem_cons_self ..) | (with_reducible apply List.mem_cons_of_mem)))); (· rfl); simp only [Act.put, List.setIfInBounds_toArray, List.set_cons_zero, List.set_cons_succ]) | ((with_reducible apply sx_storeS HX); (· rfl); (· rfl); (· rfl); (· kernel_rfl); (· (repeat (first | (with_reducible exact Rep.here) | (with_reducible apply Rep.there)))); (· rfl); (· rfl); clear HX; intro w HX; simp only [Act.put, List.setIfInBounds_toArray, List.set_cons_zero, List.set_cons_succ, setMany, Nat.reduceAdd, NodeS.cells, OpS.cells, ResS.cells] at HX ⊢) | ((with_reducible apply sx_store1 HX); (· rfl); (· ((conv => lhs; whnf) <;> rfl)); (· rfl); (· rfl); (· kernel_rfl); (· (repeat (first | (with_reducible exact Rep.here) | (with_reducible apply Rep.there)))); (· rfl); (· rfl); clear HX; intro w HX; simp only [Act.put, List.setIfInBounds_toArray, List.set_cons_zero, List.set_cons_succ, NodeS.cells, OpS.cells, ResS.cells] at HX ⊢) | ((with_reducible apply sx_alloc HX); (· rfl); (· (first | exact z_op | exact z_res | exact z_node | exact z_reply | exact z_req)); clear HX; (first | (have hq := b9; clear hq; intro w b10 HX) | (have hq := b8; clear hq; intro w b9 HX) | (have hq := b7; clear hq; intro w b8 HX) | (have hq := b6; clear hq; intro w b7 HX) | (have hq := b5; clear hq; intro w b6 HX) | (have hq := b4; clear hq; intro w b5 HX) | (have hq := b3; clear hq; intro w b4 HX) | (have hq := b2; clear hq; intro w b3 HX) | (have hq := b; clear hq; intro w b2 HX) | intro w b HX); simp only [Act.put, List.setIfInBounds_toArray, List.set_cons_zero, List.set_cons_succ]) | ((with_reducible apply sx_boxS HX); (· rfl); (· rfl); clear HX; (first | (have hq := b9; clear hq; intro w b10 HX) | (have hq := b8; clear hq; intro w b9 HX) | (have hq := b7; clear hq; intro w b8 HX) | (have hq := b6; clear hq; intro w b7 HX) | (have hq := b5; clear hq; intro w b6 HX) | (have hq := b4; clear hq; intro w b5 HX) | (have hq := b3; clear hq; intro w b4 HX) | (have hq := b2; clear hq; intro w b3 HX) | (have hq := b; clear hq; intro w b2 HX) | intro w b HX); simp only [Act.put, List.setIfInBounds_toArray, List.set_cons_zero, List.set_cons_succ]) | ((with_reducible apply sx_box1 HX); (· ((conv => lhs; whnf) <;> rfl)); (· rfl); (· rfl); clear HX; (first | (have hq := b9; clear hq; intro w b10 HX) | (have hq := b8; clear hq; intro w b9 HX) | (have hq := b7; clear hq; intro w b8 HX) | (have hq := b6; clear hq; intro w b7 HX) | (have hq := b5; clear hq; intro w b6 HX) | (have hq := b4; clear hq; intro w b5 HX) | (have hq := b3; clear hq; intro w b4 HX) | (have hq := b2; clear hq; intro w b3 HX) | (have hq := b; clear hq; intro w b2 HX) | intro w b HX); simp only [Act.put, List.setIfInBounds_toArray, List.set_cons_zero, List.set_cons_succ]) | ((with_reducible apply sx_makeMap .string HX); (· rfl); clear HX; intro w mm HX; simp only [Act.put, List.setIfInBounds_toArray, List.set_cons_zero, List.set_cons_succ]) | ((with_reducible apply sx_oneS HX); (· (first | exact sl_str | exact sl_res | exact sl_op)); (· exact ⟨rfl, rfl⟩); (· rfl); (· rfl); clear HX; (first | (have hq := b9; clear hq; intro w b10 HX) | (have hq := b8; clear hq; intro w b9 HX) | (have hq := b7; clear hq; intro w b8 HX) | (have hq := b6; clear hq; intro w b7 HX) | (have hq := b5; clear hq; intro w b6 HX) | (have hq := b4; clear hq; intro w b5 HX) | (have hq := b3; clear hq; intro w b4 HX) | (have hq := b2; clear hq; intro w b3 HX) | (have hq := b; clear hq; intro w b2 HX) | intro w b HX); simp only [Act.put, List.setIfInBounds_toArray, List.set_cons_zero, List.set_cons_succ]) | ((with_reducible apply sx_one1 HX); (· (first | exact sl_str | exact sl_res | exact sl_op)); (· ((conv => lhs; whnf) <;> rfl)); (· rfl); clear HX; (first | (have hq := b9; clear hq; intro w b10 HX) | (have hq := b8; clear hq; intro w b9 HX) | (have hq := b7; clear hq; intro w b8 HX) | (have hq := b6; clear hq; intro w b7 HX) | (have hq := b5; clear hq; intro w b6 HX) | (have hq := b4; clear hq; intro w b5 HX) | (have hq := b3; clear hq; intro w b4 HX) | (have hq := b2; clear hq; intro w b3 HX) | (have hq := b; clear hq; intro w b2 HX) | intro w b HX); simp only [Act.put, List.setIfInBounds_toArray, List.set_cons_zero, List.set_cons_succ]) | ((with_reducible apply sx_app1 HX); (· (first | exact sl_str | exact sl_res | exact sl_op)); (· rfl); (· rfl); (· (repeat (first | (with_reducible exact Rem.here) | (with_reducible apply Rem.there)))); (· (repeat (first | (with_reducible exact List.mem_cons_self ..) | (with_reducible apply List.mem_cons_of_mem)))); (· rfl); (· rfl); (· exact HBD.out); clear HX; intro w av nv cv HX; simp only [Act.put, List.setIfInBounds_toArray, List.set_cons_zero, List.set_cons_succ]) | ((with_reducible apply sx_two HX); (· (first | exact sl_str | exact sl_res | exact sl_op)); (· exact ⟨rfl, rfl⟩); (· rfl); (· rfl); (· rfl); (· rfl); clear HX; (first | (have hq := b9; clear hq; intro w b10 HX) | (have hq := b8; clear hq; intro w b9 HX) | (have hq := b7; clear hq; intro w b8 HX) | (have hq := b6; clear hq; intro w b7 HX) | (have hq := b5; clear hq; intro w b6 HX) | (have hq := b4; clear hq; intro w b5 HX) | (have hq := b3; clear hq; intro w b4 HX) | (have hq := b2; clear hq; intro w b3 HX) | (have hq := b; clear hq; intro w b2 HX) | intro w b HX); simp only [Act.put, List.setIfInBounds_toArray, List.set_cons_zero, List.set_cons_succ, List.cons_append, List.nil_append] at HX ⊢) | (go_at_call 18; refine (made_any HX.out _ _).mono ?_; rintro e w1 ⟨rfl, hx⟩; clear HX; have HX := Lib.hid hx; clear hx; simp only [OpS.val, madeO]))
  have h1 := Sep.poolCell (K := 5) (n := 2) HX.out rfl (by omega)
  have h2 := (tree_mono h1.up1 (P' := (5, .slice (some ⟨b, 0, none⟩) 2 2, [opA, opA].flatMap OpS.cells) :: []) (fun q hq => List.mem_cons_of_mem _ hq)).up1
  have hm := mdo_any h2 hd (tree_new 10 (by omega)) (by omega) 1 1 [opA, opA] _ (List.mem_cons_self ..) (by intro o ho; simp at ho; subst ho; decide)
  rw [awk1] at hm
  refine hm.mono ?_
  clear hm h1 h2
  rintro e w1 ⟨v, P1, rfl, hP1, ⟨a1, n1, c1, xs1, rfl, hrl1, hmem1⟩, hx⟩
  clear HX
  have hn1 : n1 = 2 := rep_len hx hrl1 hmem1
  subst hn1
  have HX := Lib.hid hx
  have HR1 := Lib.hid (show _ ∧ _ from ⟨hrl1, hmem1⟩)
  clear hx hrl1 hmem1 hP1
  simp only [failR]
  go_wp2_with (first | ((with_reducible apply sx_loadS HX); (· rfl); (· rfl); (· (first | exact sn_op | exact sn_res | exact sn_stat | exact sn_node | exact sn_reply | exact sn_req | exact sn_tree)); (· (repeat (first | (with_reducible exact List.mem_cons_self ..) | (with_reducible apply List.mem_cons_of_mem)))); (· rfl); simp only [Act.put, List.setIfInBounds_toArray, List.set_cons_zero, List.set_cons_succ, List.drop_zero, List.drop_succ_cons, List.take_succ_cons, List.take_zero, List.toList_toArray, NodeS.cells, OpS.cells, ResS.cells]) | ((with_reducible apply sx_load HX); (· rfl); (· rfl); (· kernel_rfl); (· (repeat (first | (with_reducible exact List.mem_cons_self ..) | (with_reducible apply List.mem_cons_of_mem)))); (· rfl); simp only [Act.put, List.setIfInBounds_toArray, List.set_cons_zero, List.set_cons_succ]) | ((with_reducible apply sx_storeS HX); (· rfl); (· rfl); (· rfl); (· kernel_rfl); (· (repeat (first | (with_reducible exact Rep.here) | (with_reducible apply Rep.there)))); (· rfl); (· rfl); clear HX; intro w HX; simp only [Act.put, List.setIfInBounds_toArray, List.set_cons_zero, List.set_cons_succ, setMany, Nat.reduceAdd, NodeS.cells, OpS.cells, ResS.cells] at HX ⊢) | ((with_reducible apply sx_store1 HX); (· rfl); (· ((conv => lhs; whnf) <;> rfl)); (· rfl); (· rfl); (· kernel_rfl); (· (repeat (first | (with_reducible exact Rep.here) | (with_reducible apply Rep.there)))); (· rfl); (· rfl); clear HX; intro w HX; simp only [Act.put, List.setIfInBounds_toArray, List.set_cons_zero, List.set_cons_succ, NodeS.cells, OpS.cells, ResS.cells] at HX ⊢) | ((with_reducible apply sx_alloc HX); (· rfl); (· (first | exact z_op | exact z_res | exact z_node | exact z_reply | exact z_req)); clear HX; (first | (have hq := b9; clear hq; intro w b10 HX) | (have hq := b8; clear hq; intro w b9 HX) | (have hq := b7; clear hq; intro w b8 HX) | (have hq := b6; clear hq; intro w b7 HX) | (have hq := b5; clear hq; intro w b6 HX) | (have hq := b4; clear hq; intro w b5 HX) | (have hq := b3; clear hq; intro w b4 HX) | (have hq := b2; clear hq; intro w b3 HX) | (have hq := b; clear hq; intro w b2 HX) | intro w b HX); simp only [Act.put, List.setIfInBounds_toArray, List.set_cons_zero, List.set_cons_succ]) | ((with_reducible apply sx_boxS HX); (· rfl); (· rfl); clear HX; (first | (have hq := b9; clear hq; intro w b10 HX) | (have hq := b8; clear hq; intro w b9 HX) | (have hq := b7; clear hq; intro w b8 HX) | (have hq := b6; clear hq; intro w b7 HX) | (have hq := b5; clear hq; intro w b6 HX) | (have hq := b4; clear hq; intro w b5 HX) | (have hq := b3; clear hq; intro w b4 HX) | (have hq := b2; clear hq; intro w b3 HX) | (have hq := b; clear hq; intro w b2 HX) | intro w b HX); simp only [Act.put, List.setIfInBounds_toArray, List.set_cons_zero, List.set_cons_succ]) | ((with_reducible apply sx_box1 HX); (· ((conv => lhs; whnf) <;> rfl)); (· rfl); (· rfl); clear HX; (first | (have hq := b9; clear hq; intro w b10 HX) | (have hq := b8; clear hq; intro w b9 HX) | (have hq := b7; clear hq; intro w b8 HX) | (have hq := b6; clear hq; intro w b7 HX) | (have hq := b5; clear hq; intro w b6 HX) | (have hq := b4; clear hq; intro w b5 HX) | (have hq := b3; clear hq; intro w b4 HX) | (have hq := b2; clear hq; intro w b3 HX) | (have hq := b; clear hq; intro w b2 HX) | intro w b HX); simp only [Act.put, List.setIfInBounds_toArray, List.set_cons_zero, List.set_cons_succ]) | ((with_reducible apply sx_makeMap .string HX); (· rfl); clear HX; intro w mm HX; simp only [Act.put, List.setIfInBounds_toArray, List.set_cons_zero, List.set_cons_succ]) | ((with_reducible apply sx_oneS HX); (· (first | exact sl_str | exact sl_res | exact sl_op)); (· exact ⟨rfl, rfl⟩); (· rfl); (· rfl); clear HX; (first | (have hq := b9; clear hq; intro w b10 HX) | (have hq := b8; clear hq; intro w b9 HX) | (have hq := b7; clear hq; intro w b8 HX) | (have hq := b6; clear hq; intro w b7 HX) | (have hq := b5; clear hq; intro w b6 HX) | (have hq := b4; clear hq; intro w b5 HX) | (have hq := b3; clear hq; intro w b4 HX) | (have hq := b2; clear hq; intro w b3 HX) | (have hq := b; clear hq; intro w b2 HX) | intro w b HX); simp only [Act.put, List.setIfInBounds_toArray, List.set_cons_zero, List.set_cons_succ]) | ((with_reducible apply sx_one1 HX); (· (first | exact sl_str | exact sl_res | exact sl_op)); (· ((conv => lhs; whnf) <;> rfl)); (· rfl); clear HX; (first | (have hq := b9; clear hq; intro w b10 HX) | (have hq := b8; clear hq; intro w b9 HX) | (have hq := b7; clear hq; intro w b8 HX) | (have hq := b6; clear hq; intro w b7 HX) | (have hq := b5; clear hq; intro w b6 HX) | (have hq := b4; clear hq; intro w b5 HX) | (have hq := b3; clear hq; intro w b4 HX) | (have hq := b2; clear hq; intro w b3 HX) | (have hq := b; clear hq; intro w b2 HX) | intro w b HX); simp only [Act.put, List.setIfInBounds_toArray, List.set_cons_zero, List.set_cons_succ]) | ((with_reducible apply sx_app1 HX); (· (first | exact sl_str | exact sl_res | exact sl_op)); (· rfl); (· rfl); (· (repeat (first | (with_reducible exact Rem.here) | (with_reducible apply Rem.there)))); (· (repeat (first | (with_reducible exact List.mem_cons_self ..) | (with_reducible apply List.mem_cons_of_mem)))); (· rfl); (· rfl); (· exact HBD.out); clear HX; intro w av nv cv HX; simp only [Act.put, List.setIfInBounds_toArray, List.set_cons_zero, List.set_cons_succ]) | ((with_reducible apply sx_two HX); (· (first | exact sl_str | exact sl_res | exact sl_op)); (· exact ⟨rfl, rfl⟩); (· rfl); (· rfl); (· rfl); (· rfl); clear HX; (first | (have hq := b9; clear hq; intro w b10 HX) | (have hq := b8; clear hq; intro w b9 HX) | (have hq := b7; clear hq; intro w b8 HX) | (have hq := b6; clear hq; intro w b7 HX) | (have hq := b5; clear hq; intro w b6 HX) | (have hq := b4; clear hq; intro w b5 HX) | (have hq := b3; clear hq; intro w b4 HX) | (have hq := b2; clear hq; intro w b3 HX) | (have hq := b; clear hq; intro w b2 HX) | intro w b HX); simp only [Act.put, List.setIfInBounds_toArray, List.set_cons_zero, List.set_cons_succ, List.cons_append, List.nil_append] at HX ⊢) | (go_at_call 18; refine (made_any HX.out _ _).mono ?_; rintro e w1 ⟨rfl, hx⟩; clear HX; have HX := Lib.hid hx; clear hx; simp only [OpS.val, madeO]))
  have h1 := Sep.poolCell (K := 5) (n := 2) HX.out.up2.up1 rfl (by omega)
  have h2 := (tree_mono h1.up2 (P' := (5, .slice (some ⟨b3, 0, none⟩) 2 2, [opA, opAB].flatMap OpS.cells) :: P1) (fun q hq => List.mem_cons_of_mem _ hq)).up1
  have hm := mdo_any h2 hd (tree_new 10 (by omega)) (by omega) 1 2 [opA, opAB] _ (List.mem_cons_self ..) (by intro o ho; simp at ho; rcases ho with rfl | rfl <;> decide)
  have f := awk2
  obtain ⟨m, hm0⟩ : ∃ m, manyT ⟨10, []⟩ 1 2 [opA, opAB] = m := ⟨_, rfl⟩
  rw [hm0] at hm f
  obtain ⟨⟨num, zxid, err, at_, rs⟩, S2, ok⟩ := m
  dsimp only at f
  obtain ⟨rfl, rfl, rfl, hrs, hS2, rfl⟩ := f
  refine hm.mono ?_
  clear hm h1 h2 hm0
  rintro e w1 ⟨v, P2, rfl, hP2, ⟨a2, n2, c2, xs2, rfl, hrl2, hmem2⟩, hx⟩
  clear HX
  have hn2 : n2 = 2 := (rep_len hx hrl2 hmem2).trans hrs
  subst hn2
  obtain ⟨hrl1, hmem1⟩ := HR1.out
  have hmem1 := hP2 _ (List.mem_cons_of_mem _ hmem1)
  rw [show (failR 0 5 1 2).rs = [failS 14, failS 5] from rfl] at hrl1
  cases hrl1 with
  | cons h3 h4 =>
  obtain ⟨g, off, rfl, hcell⟩ := row_fst hx hmem1
  have HX := Lib.hid hx
  have HM := Lib.hid hmem1
  have HL := Lib.hid hS2
  clear hx hrl2 hmem2 hP2 h3 h4 hcell hmem1 HR1 hrs hS2
  dsimp only at HX HL ⊢
  go_upto_region 4 with (first | ((with_reducible apply sx_loadS HX); (· rfl); (· rfl); (· (first | exact sn_op | exact sn_res | exact sn_stat | exact sn_node | exact sn_reply | exact sn_req | exact sn_tree)); (· (repeat (first | (with_reducible exact List.mem_cons_self ..) | (with_reducible apply List.mem_cons_of_mem)))); (· rfl); simp only [Act.put, List.setIfInBounds_toArray, List.set_cons_zero, List.set_cons_succ, List.drop_zero, List.drop_succ_cons, List.take_succ_cons, List.take_zero, List.toList_toArray, NodeS.cells, OpS.cells, ResS.cells]) | ((with_reducible apply sx_load HX); (· rfl); (· rfl); (· kernel_rfl); (· (repeat (first | (with_reducible exact List.mem_cons_self ..) | (with_reducible apply List.mem_cons_of_mem)))); (· rfl); simp only [Act.put, List.setIfInBounds_toArray, List.set_cons_zero, List.set_cons_succ]) | ((with_reducible apply sx_storeS HX); (· rfl); (· rfl); (· rfl); (· kernel_rfl); (· (repeat (first | (with_reducible exact Rep.here) | (with_reducible apply Rep.there)))); (· rfl); (· rfl); clear HX; intro w HX; simp only [Act.put, List.setIfInBounds_toArray, List.set_cons_zero, List.set_cons_succ, setMany, Nat.reduceAdd, NodeS.cells, OpS.cells, ResS.cells] at HX ⊢) | ((with_reducible apply sx_store1 HX); (· rfl); (· ((conv => lhs; whnf) <;> rfl)); (· rfl); (· rfl); (· kernel_rfl); (· (repeat (first | (with_reducible exact Rep.here) | (with_reducible apply Rep.there)))); (· rfl); (· rfl); clear HX; intro w HX; simp only [Act.put, List.setIfInBounds_toArray, List.set_cons_zero, List.set_cons_succ, NodeS.cells, OpS.cells, ResS.cells] at HX ⊢) | ((with_reducible apply sx_alloc HX); (· rfl); (· (first | exact z_op | exact z_res | exact z_node | exact z_reply | exact z_req)); clear HX; (first | (have hq := b9; clear hq; intro w b10 HX) | (have hq := b8; clear hq; intro w b9 HX) | (have hq := b7; clear hq; intro w b8 HX) | (have hq := b6; clear hq; intro w b7 HX) | (have hq := b5; clear hq; intro w b6 HX) | (have hq := b4; clear hq; intro w b5 HX) | (have hq := b3; clear hq; intro w b4 HX) | (have hq := b2; clear hq; intro w b3 HX) | (have hq := b; clear hq; intro w b2 HX) | intro w b HX); simp only [Act.put, List.setIfInBounds_toArray, List.set_cons_zero, List.set_cons_succ]) | ((with_reducible apply sx_boxS HX); (· rfl); (· rfl); clear HX; (first | (have hq := b9; clear hq; intro w b10 HX) | (have hq := b8; clear hq; intro w b9 HX) | (have hq := b7; clear hq; intro w b8 HX) | (have hq := b6; clear hq; intro w b7 HX) | (have hq := b5; clear hq; intro w b6 HX) | (have hq := b4; clear hq; intro w b5 HX) | (have hq := b3; clear hq; intro w b4 HX) | (have hq := b2; clear hq; intro w b3 HX) | (have hq := b; clear hq; intro w b2 HX) | intro w b HX); simp only [Act.put, List.setIfInBounds_toArray, List.set_cons_zero, List.set_cons_succ]) | ((with_reducible apply sx_box1 HX); (· ((conv => lhs; whnf) <;> rfl)); (· rfl); (· rfl); clear HX; (first | (have hq := b9; clear hq; intro w b10 HX) | (have hq := b8; clear hq; intro w b9 HX) | (have hq := b7; clear hq; intro w b8 HX) | (have hq := b6; clear hq; intro w b7 HX) | (have hq := b5; clear hq; intro w b6 HX) | (have hq := b4; clear hq; intro w b5 HX) | (have hq := b3; clear hq; intro w b4 HX) | (have hq := b2; clear hq; intro w b3 HX) | (have hq := b; clear hq; intro w b2 HX) | intro w b HX); simp only [Act.put, List.setIfInBounds_toArray, List.set_cons_zero, List.set_cons_succ]) | ((with_reducible apply sx_makeMap .string HX); (· rfl); clear HX; intro w mm HX; simp only [Act.put, List.setIfInBounds_toArray, List.set_cons_zero, List.set_cons_succ]) | ((with_reducible apply sx_oneS HX); (· (first | exact sl_str | exact sl_res | exact sl_op)); (· exact ⟨rfl, rfl⟩); (· rfl); (· rfl); clear HX; (first | (have hq := b9; clear hq; intro w b10 HX) | (have hq := b8; clear hq; intro w b9 HX) | (have hq := b7; clear hq; intro w b8 HX) | (have hq := b6; clear hq; intro w b7 HX) | (have hq := b5; clear hq; intro w b6 HX) | (have hq := b4; clear hq; intro w b5 HX) | (have hq := b3; clear hq; intro w b4 HX) | (have hq := b2; clear hq; intro w b3 HX) | (have hq := b; clear hq; intro w b2 HX) | intro w b HX); simp only [Act.put, List.setIfInBounds_toArray, List.set_cons_zero, List.set_cons_succ]) | ((with_reducible apply sx_one1 HX); (· (first | exact sl_str | exact sl_res | exact sl_op)); (· ((conv => lhs; whnf) <;> rfl)); (· rfl); clear HX; (first | (have hq := b9; clear hq; intro w b10 HX) | (have hq := b8; clear hq; intro w b9 HX) | (have hq := b7; clear hq; intro w b8 HX) | (have hq := b6; clear hq; intro w b7 HX) | (have hq := b5; clear hq; intro w b6 HX) | (have hq := b4; clear hq; intro w b5 HX) | (have hq := b3; clear hq; intro w b4 HX) | (have hq := b2; clear hq; intro w b3 HX) | (have hq := b; clear hq; intro w b2 HX) | intro w b HX); simp only [Act.put, List.setIfInBounds_toArray, List.set_cons_zero, List.set_cons_succ]) | ((with_reducible apply sx_app1 HX); (· (first | exact sl_str | exact sl_res | exact sl_op)); (· rfl); (· rfl); (· (repeat (first | (with_reducible exact Rem.here) | (with_reducible apply Rem.there)))); (· (repeat (first | (with_reducible exact List.mem_cons_self ..) | (with_reducible apply List.mem_cons_of_mem)))); (· rfl); (· rfl); (· exact HBD.out); clear HX; intro w av nv cv HX; simp only [Act.put, List.setIfInBounds_toArray, List.set_cons_zero, List.set_cons_succ]) | ((with_reducible apply sx_two HX); (· (first | exact sl_str | exact sl_res | exact sl_op)); (· exact ⟨rfl, rfl⟩); (· rfl); (· rfl); (· rfl); (· rfl); clear HX; (first | (have hq := b9; clear hq; intro w b10 HX) | (have hq := b8; clear hq; intro w b9 HX) | (have hq := b7; clear hq; intro w b8 HX) | (have hq := b6; clear hq; intro w b7 HX) | (have hq := b5; clear hq; intro w b6 HX) | (have hq := b4; clear hq; intro w b5 HX) | (have hq := b3; clear hq; intro w b4 HX) | (have hq := b2; clear hq; intro w b3 HX) | (have hq := b; clear hq; intro w b2 HX) | intro w b HX); simp only [Act.put, List.setIfInBounds_toArray, List.set_cons_zero, List.set_cons_succ, List.cons_append, List.nil_append] at HX ⊢))
  obtain ⟨g', off', e, hcell⟩ := row_fst HX.out.up1 HM.out
  simp only [Option.some.injEq, Addr.mk.injEq, and_true] at e
  obtain ⟨rfl, rfl⟩ := e
  have hc0 := hcell 0 (.int .i64 14) rfl
  rw [Nat.add_zero] at hc0
  clear hcell
  go_wp2_with (first | ((with_reducible apply sx_loadS HX); (· rfl); (· rfl); (· (first | exact sn_op | exact sn_res | exact sn_stat | exact sn_node | exact sn_reply | exact sn_req | exact sn_tree)); (· (repeat (first | (with_reducible exact List.mem_cons_self ..) | (with_reducible apply List.mem_cons_of_mem)))); (· rfl); simp only [Act.put, List.setIfInBounds_toArray, List.set_cons_zero, List.set_cons_succ, List.drop_zero, List.drop_succ_cons, List.take_succ_cons, List.take_zero, List.toList_toArray, NodeS.cells, OpS.cells, ResS.cells]) | ((with_reducible apply sx_load HX); (· rfl); (· rfl); (· kernel_rfl); (· (repeat (first | (with_reducible exact List.mem_cons_self ..) | (with_reducible apply List.mem_cons_of_mem)))); (· rfl); simp only [Act.put, List.setIfInBounds_toArray, List.set_cons_zero, List.set_cons_succ]) | ((with_reducible apply sx_storeS HX); (· rfl); (· rfl); (· rfl); (· kernel_rfl); (· (repeat (first | (with_reducible exact Rep.here) | (with_reducible apply Rep.there)))); (· rfl); (· rfl); clear HX; intro w HX; simp only [Act.put, List.setIfInBounds_toArray, List.set_cons_zero, List.set_cons_succ, setMany, Nat.reduceAdd, NodeS.cells, OpS.cells, ResS.cells] at HX ⊢) | ((with_reducible apply sx_store1 HX); (· rfl); (· ((conv => lhs; whnf) <;> rfl)); (· rfl); (· rfl); (· kernel_rfl); (· (repeat (first | (with_reducible exact Rep.here) | (with_reducible apply Rep.there)))); (· rfl); (· rfl); clear HX; intro w HX; simp only [Act.put, List.setIfInBounds_toArray, List.set_cons_zero, List.set_cons_succ, NodeS.cells, OpS.cells, ResS.cells] at HX ⊢) | ((with_reducible apply sx_alloc HX); (· rfl); (· (first | exact z_op | exact z_res | exact z_node | exact z_reply | exact z_req)); clear HX; (first | (have hq := b9; clear hq; intro w b10 HX) | (have hq := b8; clear hq; intro w b9 HX) | (have hq := b7; clear hq; intro w b8 HX) | (have hq := b6; clear hq; intro w b7 HX) | (have hq := b5; clear hq; intro w b6 HX) | (have hq := b4; clear hq; intro w b5 HX) | (have hq := b3; clear hq; intro w b4 HX) | (have hq := b2; clear hq; intro w b3 HX) | (have hq := b; clear hq; intro w b2 HX) | intro w b HX); simp only [Act.put, List.setIfInBounds_toArray, List.set_cons_zero, List.set_cons_succ]) | ((with_reducible apply sx_boxS HX); (· rfl); (· rfl); clear HX; (first | (have hq := b9; clear hq; intro w b10 HX) | (have hq := b8; clear hq; intro w b9 HX) | (have hq := b7; clear hq; intro w b8 HX) | (have hq := b6; clear hq; intro w b7 HX) | (have hq := b5; clear hq; intro w b6 HX) | (have hq := b4; clear hq; intro w b5 HX) | (have hq := b3; clear hq; intro w b4 HX) | (have hq := b2; clear hq; intro w b3 HX) | (have hq := b; clear hq; intro w b2 HX) | intro w b HX); simp only [Act.put, List.setIfInBounds_toArray, List.set_cons_zero, List.set_cons_succ]) | ((with_reducible apply sx_box1 HX); (· ((conv => lhs; whnf) <;> rfl)); (· rfl); (· rfl); clear HX; (first | (have hq := b9; clear hq; intro w b10 HX) | (have hq := b8; clear hq; intro w b9 HX) | (have hq := b7; clear hq; intro w b8 HX) | (have hq := b6; clear hq; intro w b7 HX) | (have hq := b5; clear hq; intro w b6 HX) | (have hq := b4; clear hq; intro w b5 HX) | (have hq := b3; clear hq; intro w b4 HX) | (have hq := b2; clear hq; intro w b3 HX) | (have hq := b; clear hq; intro w b2 HX) | intro w b HX); simp only [Act.put, List.setIfInBounds_toArray, List.set_cons_zero, List.set_cons_succ]) | ((with_reducible apply sx_makeMap .string HX); (· rfl); clear HX; intro w mm HX; simp only [Act.put, List.setIfInBounds_toArray, List.set_cons_zero, List.set_cons_succ]) | ((with_reducible apply sx_oneS HX); (· (first | exact sl_str | exact sl_res | exact sl_op)); (· exact ⟨rfl, rfl⟩); (· rfl); (· rfl); clear HX; (first | (have hq := b9; clear hq; intro w b10 HX) | (have hq := b8; clear hq; intro w b9 HX) | (have hq := b7; clear hq; intro w b8 HX) | (have hq := b6; clear hq; intro w b7 HX) | (have hq := b5; clear hq; intro w b6 HX) | (have hq := b4; clear hq; intro w b5 HX) | (have hq := b3; clear hq; intro w b4 HX) | (have hq := b2; clear hq; intro w b3 HX) | (have hq := b; clear hq; intro w b2 HX) | intro w b HX); simp only [Act.put, List.setIfInBounds_toArray, List.set_cons_zero, List.set_cons_succ]) | ((with_reducible apply sx_one1 HX); (· (first | exact sl_str | exact sl_res | exact sl_op)); (· ((conv => lhs; whnf) <;> rfl)); (· rfl); clear HX; (first | (have hq := b9; clear hq; intro w b10 HX) | (have hq := b8; clear hq; intro w b9 HX) | (have hq := b7; clear hq; intro w b8 HX) | (have hq := b6; clear hq; intro w b7 HX) | (have hq := b5; clear hq; intro w b6 HX) | (have hq := b4; clear hq; intro w b5 HX) | (have hq := b3; clear hq; intro w b4 HX) | (have hq := b2; clear hq; intro w b3 HX) | (have hq := b; clear hq; intro w b2 HX) | intro w b HX); simp only [Act.put, List.setIfInBounds_toArray, List.set_cons_zero, List.set_cons_succ]) | ((with_reducible apply sx_app1 HX); (· (first | exact sl_str | exact sl_res | exact sl_op)); (· rfl); (· rfl); (· (repeat (first | (with_reducible exact Rem.here) | (with_reducible apply Rem.there)))); (· (repeat (first | (with_reducible exact List.mem_cons_self ..) | (with_reducible apply List.mem_cons_of_mem)))); (· rfl); (· rfl); (· exact HBD.out); clear HX; intro w av nv cv HX; simp only [Act.put, List.setIfInBounds_toArray, List.set_cons_zero, List.set_cons_succ]) | ((with_reducible apply sx_two HX); (· (first | exact sl_str | exact sl_res | exact sl_op)); (· exact ⟨rfl, rfl⟩); (· rfl); (· rfl); (· rfl); (· rfl); clear HX; (first | (have hq := b9; clear hq; intro w b10 HX) | (have hq := b8; clear hq; intro w b9 HX) | (have hq := b7; clear hq; intro w b8 HX) | (have hq := b6; clear hq; intro w b7 HX) | (have hq := b5; clear hq; intro w b6 HX) | (have hq := b4; clear hq; intro w b5 HX) | (have hq := b3; clear hq; intro w b4 HX) | (have hq := b2; clear hq; intro w b3 HX) | (have hq := b; clear hq; intro w b2 HX) | intro w b HX); simp only [Act.put, List.setIfInBounds_toArray, List.set_cons_zero, List.set_cons_succ, List.cons_append, List.nil_append] at HX ⊢))
  refine (treelen_any HX.out.up2).mono ?_
  rintro e w ⟨rfl, hu⟩
  rw [HL.out]
  replace HX := Lib.hid (HX.out.keep hu)
  clear hu hc0
  go_wp2_with (first | ((with_reducible apply sx_loadS HX); (· rfl); (· rfl); (· (first | exact sn_op | exact sn_res | exact sn_stat | exact sn_node | exact sn_reply | exact sn_req | exact sn_tree)); (· (repeat (first | (with_reducible exact List.mem_cons_self ..) | (with_reducible apply List.mem_cons_of_mem)))); (· rfl); simp only [Act.put, List.setIfInBounds_toArray, List.set_cons_zero, List.set_cons_succ, List.drop_zero, List.drop_succ_cons, List.take_succ_cons, List.take_zero, List.toList_toArray, NodeS.cells, OpS.cells, ResS.cells]) | ((with_reducible apply sx_load HX); (· rfl); (· rfl); (· kernel_rfl); (· (repeat (first | (with_reducible exact List.mem_cons_self ..) | (with_reducible apply List.mem_cons_of_mem)))); (· rfl); simp only [Act.put, List.setIfInBounds_toArray, List.set_cons_zero, List.set_cons_succ]) | ((with_reducible apply sx_storeS HX); (· rfl); (· rfl); (· rfl); (· kernel_rfl); (· (repeat (first | (with_reducible exact Rep.here) | (with_reducible apply Rep.there)))); (· rfl); (· rfl); clear HX; intro w HX; simp only [Act.put, List.setIfInBounds_toArray, List.set_cons_zero, List.set_cons_succ, setMany, Nat.reduceAdd, NodeS.cells, OpS.cells, ResS.cells] at HX ⊢) | ((with_reducible apply sx_store1 HX); (· rfl); (· ((conv => lhs; whnf) <;> rfl)); (· rfl); (· rfl); (· kernel_rfl); (· (repeat (first | (with_reducible exact Rep.here) | (with_reducible apply Rep.there)))); (· rfl); (· rfl); clear HX; intro w HX; simp only [Act.put, List.setIfInBounds_toArray, List.set_cons_zero, List.set_cons_succ, NodeS.cells, OpS.cells, ResS.cells] at HX ⊢) | ((with_reducible apply sx_alloc HX); (· rfl); (· (first | exact z_op | exact z_res | exact z_node | exact z_reply | exact z_req)); clear HX; (first | (have hq := b9; clear hq; intro w b10 HX) | (have hq := b8; clear hq; intro w b9 HX) | (have hq := b7; clear hq; intro w b8 HX) | (have hq := b6; clear hq; intro w b7 HX) | (have hq := b5; clear hq; intro w b6 HX) | (have hq := b4; clear hq; intro w b5 HX) | (have hq := b3; clear hq; intro w b4 HX) | (have hq := b2; clear hq; intro w b3 HX) | (have hq := b; clear hq; intro w b2 HX) | intro w b HX); simp only [Act.put, List.setIfInBounds_toArray, List.set_cons_zero, List.set_cons_succ]) | ((with_reducible apply sx_boxS HX); (· rfl); (· rfl); clear HX; (first | (have hq := b9; clear hq; intro w b10 HX) | (have hq := b8; clear hq; intro w b9 HX) | (have hq := b7; clear hq; intro w b8 HX) | (have hq := b6; clear hq; intro w b7 HX) | (have hq := b5; clear hq; intro w b6 HX) | (have hq := b4; clear hq; intro w b5 HX) | (have hq := b3; clear hq; intro w b4 HX) | (have hq := b2; clear hq; intro w b3 HX) | (have hq := b; clear hq; intro w b2 HX) | intro w b HX); simp only [Act.put, List.setIfInBounds_toArray, List.set_cons_zero, List.set_cons_succ]) | ((with_reducible apply sx_box1 HX); (· ((conv => lhs; whnf) <;> rfl)); (· rfl); (· rfl); clear HX; (first | (have hq := b9; clear hq; intro w b10 HX) | (have hq := b8; clear hq; intro w b9 HX) | (have hq := b7; clear hq; intro w b8 HX) | (have hq := b6; clear hq; intro w b7 HX) | (have hq := b5; clear hq; intro w b6 HX) | (have hq := b4; clear hq; intro w b5 HX) | (have hq := b3; clear hq; intro w b4 HX) | (have hq := b2; clear hq; intro w b3 HX) | (have hq := b; clear hq; intro w b2 HX) | intro w b HX); simp only [Act.put, List.setIfInBounds_toArray, List.set_cons_zero, List.set_cons_succ]) | ((with_reducible apply sx_makeMap .string HX); (· rfl); clear HX; intro w mm HX; simp only [Act.put, List.setIfInBounds_toArray, List.set_cons_zero, List.set_cons_succ]) | ((with_reducible apply sx_oneS HX); (· (first | exact sl_str | exact sl_res | exact sl_op)); (· exact ⟨rfl, rfl⟩); (· rfl); (· rfl); clear HX; (first | (have hq := b9; clear hq; intro w b10 HX) | (have hq := b8; clear hq; intro w b9 HX) | (have hq := b7; clear hq; intro w b8 HX) | (have hq := b6; clear hq; intro w b7 HX) | (have hq := b5; clear hq; intro w b6 HX) | (have hq := b4; clear hq; intro w b5 HX) | (have hq := b3; clear hq; intro w b4 HX) | (have hq := b2; clear hq; intro w b3 HX) | (have hq := b; clear hq; intro w b2 HX) | intro w b HX); simp only [Act.put, List.setIfInBounds_toArray, List.set_cons_zero, List.set_cons_succ]) | ((with_reducible apply sx_one1 HX); (· (first | exact sl_str | exact sl_res | exact sl_op)); (· ((conv => lhs; whnf) <;> rfl)); (· rfl); clear HX; (first | (have hq := b9; clear hq; intro w b10 HX) | (have hq := b8; clear hq; intro w b9 HX) | (have hq := b7; clear hq; intro w b8 HX) | (have hq := b6; clear hq; intro w b7 HX) | (have hq := b5; clear hq; intro w b6 HX) | (have hq := b4; clear hq; intro w b5 HX) | (have hq := b3; clear hq; intro w b4 HX) | (have hq := b2; clear hq; intro w b3 HX) | (have hq := b; clear hq; intro w b2 HX) | intro w b HX); simp only [Act.put, List.setIfInBounds_toArray, List.set_cons_zero, List.set_cons_succ]) | ((with_reducible apply sx_app1 HX); (· (first | exact sl_str | exact sl_res | exact sl_op)); (· rfl); (· rfl); (· (repeat (first | (with_reducible exact Rem.here) | (with_reducible apply Rem.there)))); (· (repeat (first | (with_reducible exact List.mem_cons_self ..) | (with_reducible apply List.mem_cons_of_mem)))); (· rfl); (· rfl); (· exact HBD.out); clear HX; intro w av nv cv HX; simp only [Act.put, List.setIfInBounds_toArray, List.set_cons_zero, List.set_cons_succ]) | ((with_reducible apply sx_two HX); (· (first | exact sl_str | exact sl_res | exact sl_op)); (· exact ⟨rfl, rfl⟩); (· rfl); (· rfl); (· rfl); (· rfl); clear HX; (first | (have hq := b9; clear hq; intro w b10 HX) | (have hq := b8; clear hq; intro w b9 HX) | (have hq := b7; clear hq; intro w b8 HX) | (have hq := b6; clear hq; intro w b7 HX) | (have hq := b5; clear hq; intro w b6 HX) | (have hq := b4; clear hq; intro w b5 HX) | (have hq := b3; clear hq; intro w b4 HX) | (have hq := b2; clear hq; intro w b3 HX) | (have hq := b; clear hq; intro w b2 HX) | intro w b HX); simp only [Act.put, List.setIfInBounds_toArray, List.set_cons_zero, List.set_cons_succ, List.cons_append, List.nil_append] at HX ⊢))
  go_ret
  exact ⟨rfl, Upd.of_below HX.out.below⟩
end
end Go.Proofs.YtjeaoopamebgjaaGreatDoor

/-
  Maps' keys, as the library's contracts take them.
-/
namespace Go.Av
open Go.RowKit Go.Maps Go.Sort

def noRead : Value → Option (DataW Unit × List MemPlace) := fun _ => some (.nil, [])
theorem rg_str {P : Program} {k : TypeId} (hk : P.underlying k = some .string) (s : ByteArray) (hs : s.size ≤ maxLen) (e : MapEntry) (he : e.key = .string s) : WideElems.rd P k noRead e = some (.string s.data.toList, .nil) := by
  simp [WideElems.rd, he, keyOf, hk, mapKey, hs, noRead]

/-- A map of names, as the library's contracts take it. -/
theorem owns_names {P : Program} {w : World} {k : TypeId} {m : Nat} {l : List (ByteArray × Value)} (h : MapIs w .string m (l.map fun x => (.string x.1, x.2))) (hk : P.underlying k = some .string) (hn : l.length ≤ 1000000) (hs : ∀ x ∈ l, x.1.size ≤ maxLen) :
    ∃ D0 : DataW Unit, w.ownsMap P k noRead m l.length D0 ∧ size D0 = l.length ∧ (strKeys D0).Perm (l.map fun x => x.1.data.toList) := by
  obtain ⟨es, clock, h1, h2, h3, h4⟩ := h
  have hlen : es.size = l.length := by
    have := congrArg List.length h4
    simpa using this
  have hall : ∀ e ∈ es.toList, ∃ x ∈ l, e.key = .string x.1 := by
    intro e he
    have hm : kv e ∈ l.map fun x => (Value.string x.1, x.2) := by rw [← h4]; exact List.mem_map_of_mem he
    obtain ⟨x, hx, hxe⟩ := List.mem_map.1 hm
    exact ⟨x, hx, (congrArg Prod.fst hxe).symm⟩
  refine ⟨_, ⟨es, clock, h1, ⟨by rw [hlen]; unfold maxLen; omega, h2, fun e he => ?_⟩, by omega, rfl⟩, ?_, ?_⟩
  · obtain ⟨x, hx, hk'⟩ := hall e he
    exact ⟨_, rg_str hk x.1 (hs x hx) e hk'⟩
  · rw [size_eq, (WideShapes.sorted_perm _).length_eq]
    simpa using hlen
  · have e1 : (es.toList.map (WideElems.rg P k noRead)).map (fun p => strOf p.1) = l.map fun x => x.1.data.toList := by
      have e2 : es.toList.map (fun e => (kv e).1) = l.map fun x => Value.string x.1 := by
        have := congrArg (List.map Prod.fst) h4
        simpa [Function.comp_def] using this
      have e3 : es.toList.map (fun e => strOf (WideElems.rg P k noRead e).1) = (es.toList.map (fun e => (kv e).1)).map fun v => match v with | .string s => s.data.toList | _ => [] := by
        rw [List.map_map]
        refine List.map_congr_left fun e he => ?_
        obtain ⟨x, hx, hk'⟩ := hall e he
        have hke : (kv e).1 = .string x.1 := hk'
        simp [Function.comp, hke, WideElems.rg, rg_str hk x.1 (hs x hx) e hk', strOf]
      rw [List.map_map, Function.comp_def, e3, e2, List.map_map]
      rfl
    rw [← e1]
    exact (WideShapes.sorted_perm _).map _

theorem rg_int {P : Program} {k : TypeId} (hk : P.underlying k = some (.int .i64)) (x : Int) (hx : (Lit.int .i64 x).wf = true) (e : MapEntry) (he : e.key = .int .i64 x) : WideElems.rd P k noRead e = some (.int .i64 x, .nil) := by
  simp [WideElems.rd, he, keyOf, hk, mapKey, hx, noRead]
/-- A map of numbers, as the library's contracts take it. -/
theorem owns_ids {P : Program} {w : World} {k : TypeId} {m : Nat} {l : List (Int × Value)} (h : MapIs w (.int .i64) m (l.map fun x => (.int .i64 x.1, x.2))) (hk : P.underlying k = some (.int .i64)) (hn : l.length ≤ 1000000) (hs : ∀ x ∈ l, (Lit.int .i64 x.1).wf = true) :
    ∃ D0 : DataW Unit, w.ownsMap P k noRead m l.length D0 ∧ Maps.size D0 = l.length ∧ (intKeys D0).Perm (l.map fun x => x.1) := by
  obtain ⟨es, clock, h1, h2, h3, h4⟩ := h
  have hlen : es.size = l.length := by
    have := congrArg List.length h4
    simpa using this
  have hall : ∀ e ∈ es.toList, ∃ x ∈ l, e.key = .int .i64 x.1 := by
    intro e he
    have hm : kv e ∈ l.map fun x => (Value.int .i64 x.1, x.2) := by rw [← h4]; exact List.mem_map_of_mem he
    obtain ⟨x, hx, hxe⟩ := List.mem_map.1 hm
    exact ⟨x, hx, (congrArg Prod.fst hxe).symm⟩
  refine ⟨_, ⟨es, clock, h1, ⟨by rw [hlen]; unfold maxLen; omega, h2, fun e he => ?_⟩, by omega, rfl⟩, ?_, ?_⟩
  · obtain ⟨x, hx, hk'⟩ := hall e he
    exact ⟨_, rg_int hk x.1 (hs x hx) e hk'⟩
  · rw [size_eq, (WideShapes.sorted_perm _).length_eq]
    simpa using hlen
  · have e1 : (es.toList.map (WideElems.rg P k noRead)).map (fun p => Go.intOf p.1) = l.map fun x => x.1 := by
      have e2 : es.toList.map (fun e => (kv e).1) = l.map fun x => Value.int .i64 x.1 := by
        have := congrArg (List.map Prod.fst) h4
        simpa [Function.comp_def] using this
      have e3 : es.toList.map (fun e => Go.intOf (WideElems.rg P k noRead e).1) = (es.toList.map (fun e => (kv e).1)).map fun v => match v with | .int _ q => q | _ => 0 := by
        rw [List.map_map]
        refine List.map_congr_left fun e he => ?_
        obtain ⟨x, hx, hk'⟩ := hall e he
        have hke : (kv e).1 = .int .i64 x.1 := hk'
        simp [Function.comp, hke, WideElems.rg, rg_int hk x.1 (hs x hx) e hk', Go.intOf]
      rw [List.map_map, Function.comp_def, e3, e2, List.map_map]
      rfl
    rw [← e1]
    exact (WideShapes.sorted_perm _).map _
theorem own_of {w : World} {base : Nat} {e : TypeId} {v : Value} {n : Nat} {xs : List Value} (h : w.ownsRow base e 1 v n xs) : ∃ D, OwnRow w 1 v xs D ∧ ∀ b ∈ D, base ≤ b ∧ b < w.heap.size := by
  obtain ⟨hl, ⟨rfl, rfl⟩ | ⟨g, cap, cur, rfl, hg, hh, hn, hc, hs, hx⟩⟩ := h
  · obtain rfl : xs = [] := List.length_eq_zero_iff.1 (by omega)
    exact ⟨[], OwnRow.nil _ _, by simp⟩
  · exact ⟨[g], ⟨_, n, cap, rfl, hl, hn, hc, (fun h => by cases h), .inr ⟨g, 0, cur, e, rfl, rfl, hh, by omega, by simpa using hx⟩⟩, by simpa using ⟨hg, lt_of_heap hh⟩⟩

theorem read_own {w : World} {base : Nat} {e : TypeId} {v : Value} {n : Nat} {xs : List Value} (h : w.ownsRow base e 1 v n xs) : ∃ E, ReadRow w 1 v xs E ∧ ∀ b ∈ E, base ≤ b := by
  obtain ⟨hl, ⟨rfl, rfl⟩ | ⟨g, cap, cur, rfl, hg, hh, hn, hc, hs, hx⟩⟩ := h
  · obtain rfl : xs = [] := List.length_eq_zero_iff.1 (by omega)
    exact ⟨[], ⟨none, 0, 0, rfl, rfl, Nat.le_refl _, by decide, fun _ => rfl, .inl ⟨rfl, rfl⟩⟩, by simp⟩
  · refine ⟨[g], ⟨_, n, cap, rfl, hl, hn, hc, (fun h => by cases h), .inr ⟨g, 0, rfl, rfl, lt_of_heap hh, fun i x hi => ?_⟩⟩, by simpa using hg⟩
    rw [cell_of_row w g (0 + i) cur e _ hh, ← hx] at *
    rw [List.getElem?_take] at hi
    split at hi
    · simpa using hi
    · cases hi

theorem wf_i64 {n : Int} (h1 : -9223372036854775808 ≤ n) (h2 : n ≤ 9223372036854775807) : (Lit.int .i64 n).wf = true := by
  have e1 : IntKind.i64.min = -9223372036854775808 := by decide
  have e2 : IntKind.i64.max = 9223372036854775807 := by decide
  simp only [Lit.wf, Bool.and_eq_true, decide_eq_true_eq, e1, e2]
  omega

end Go.Av

/-
  The library's contracts on 'slices.Sorted(maps.Keys(m))' laid at this program, in plain words (written by the kit's tools).
-/
namespace Go.Proofs
open Go.Shelf
def Tryz.keys37_ren : Go.Shelf.Ren := ⟨fun | 7 => 37 | 10 => 62 | n => n, fun | 23 => 79 | 26 => 9 | 3 => 90 | 28 => 94 | 0 => 0 | 27 => 93 | 33 => 115 | 4 => 4 | n => n, fun | n => n⟩
theorem Tryz.keys37 : Go.Proofs.SlLaysZ.n7 Tryz.prog Tryz.keys37_ren := {
  mixed := by kernel_rfl
  f7 := ⟨Tryz.f37.name, by decide, Tryz.func37.trans (congrArg some (by kernel_rfl))⟩
  f10 := ⟨Tryz.f62.name, by decide, Tryz.func62.trans (congrArg some (by kernel_rfl))⟩
  t0 := Tryz.underlying0
  a0 := Tryz.isAgg0
  z0 := Tryz.sizeOf0
  v0 := Tryz.zeroValue0
  t4 := Tryz.underlying4
  a4 := Tryz.isAgg4
  z4 := Tryz.sizeOf4
  v4 := Tryz.zeroValue4
  t23 := Tryz.underlying79
  a23 := Tryz.isAgg79
  z23 := Tryz.sizeOf79
  v23 := Tryz.zeroValue79
  t26 := Tryz.underlying9
  a26 := Tryz.isAgg9
  z26 := Tryz.sizeOf9
  v26 := Tryz.zeroValue9
  t27 := Tryz.underlying93
  a27 := Tryz.isAgg93
  z27 := Tryz.sizeOf93
  v27 := Tryz.zeroValue93
  t28 := Tryz.underlying94
  a28 := Tryz.isAgg94
  z28 := Tryz.sizeOf94
  v28 := Tryz.zeroValue94
  t33 := Tryz.underlying115
  a33 := Tryz.isAgg115
  z33 := Tryz.sizeOf115
  v33 := Tryz.zeroValue115 }
def Tryz.sorted36_ren : Go.Shelf.Ren := ⟨fun | 6 => 36 | 8 => 60 | 9 => 61 | 11 => 90 | 13 => 92 | 12 => 91 | 23 => 124 | 24 => 125 | 14 => 115 | 15 => 116 | 16 => 117 | 17 => 118 | 18 => 119 | 19 => 120 | 20 => 121 | 21 => 122 | 22 => 123 | 25 => 139 | 26 => 140 | 27 => 141 | 28 => 142 | 29 => 143 | 30 => 144 | 31 => 159 | n => n, fun | 26 => 9 | 28 => 94 | 24 => 29 | 0 => 0 | 3 => 3 | 37 => 137 | 48 => 161 | 50 => 163 | 4 => 4 | 40 => 154 | 39 => 153 | 45 => 106 | 5 => 5 | 9 => 9 | 51 => 178 | 55 => 182 | 57 => 192 | 58 => 193 | 33 => 115 | n => n, fun | n => n⟩
theorem Tryz.sorted36 : Go.Proofs.SlLaysZ.n6 Tryz.prog Tryz.sorted36_ren := {
  mixed := by kernel_rfl
  f6 := ⟨Tryz.f36.name, by decide, Tryz.func36.trans (congrArg some (by kernel_rfl))⟩
  f8 := ⟨Tryz.f60.name, by decide, Tryz.func60.trans (congrArg some (by kernel_rfl))⟩
  f11 := ⟨Tryz.f90.name, by decide, Tryz.func90.trans (congrArg some (by kernel_rfl))⟩
  t0 := Tryz.underlying0
  a0 := Tryz.isAgg0
  z0 := Tryz.sizeOf0
  v0 := Tryz.zeroValue0
  t24 := Tryz.underlying29
  a24 := Tryz.isAgg29
  z24 := Tryz.sizeOf29
  v24 := Tryz.zeroValue29
  t26 := Tryz.underlying9
  a26 := Tryz.isAgg9
  z26 := Tryz.sizeOf9
  v26 := Tryz.zeroValue9
  t28 := Tryz.underlying94
  a28 := Tryz.isAgg94
  z28 := Tryz.sizeOf94
  v28 := Tryz.zeroValue94
  i26 := by kernel_rfl }
def Tryz.sort61_ren : Go.Shelf.Ren := ⟨fun | 6 => 61 | 8 => 92 | 9 => 91 | 19 => 124 | 20 => 125 | 21 => 115 | 22 => 116 | 23 => 117 | 24 => 118 | 25 => 119 | 26 => 120 | 27 => 121 | 28 => 122 | 29 => 123 | 36 => 139 | 31 => 140 | 32 => 141 | 37 => 142 | 38 => 143 | 39 => 144 | 41 => 159 | n => n, fun | 27 => 29 | 29 => 9 | 3 => 3 | 32 => 137 | 26 => 29 | 0 => 0 | 44 => 161 | 46 => 163 | 4 => 4 | 36 => 154 | 35 => 153 | 41 => 106 | 5 => 5 | 9 => 9 | 53 => 178 | 57 => 182 | 63 => 192 | 64 => 193 | n => n, fun | n => n⟩
theorem Tryz.sort61 : Go.Proofs.SlLaysM.n6 Tryz.prog Tryz.sort61_ren := {
  mixed := by kernel_rfl
  f6 := ⟨Tryz.f61.name, by decide, Tryz.func61.trans (congrArg some (by kernel_rfl))⟩
  f8 := Tryz.func92.trans (congrArg some (by kernel_rfl))
  f9 := ⟨Tryz.f91.name, by decide, Tryz.func91.trans (congrArg some (by kernel_rfl))⟩
  f19 := Tryz.func124.trans (congrArg some (by kernel_rfl))
  f20 := Tryz.func125.trans (congrArg some (by kernel_rfl))
  f21 := ⟨Tryz.f115.name, by decide, Tryz.func115.trans (congrArg some (by kernel_rfl))⟩
  f22 := ⟨Tryz.f116.name, by decide, Tryz.func116.trans (congrArg some (by kernel_rfl))⟩
  f23 := ⟨Tryz.f117.name, by decide, Tryz.func117.trans (congrArg some (by kernel_rfl))⟩
  f24 := ⟨Tryz.f118.name, by decide, Tryz.func118.trans (congrArg some (by kernel_rfl))⟩
  f25 := ⟨Tryz.f119.name, by decide, Tryz.func119.trans (congrArg some (by kernel_rfl))⟩
  f26 := ⟨Tryz.f120.name, by decide, Tryz.func120.trans (congrArg some (by kernel_rfl))⟩
  f27 := ⟨Tryz.f121.name, by decide, Tryz.func121.trans (congrArg some (by kernel_rfl))⟩
  f28 := ⟨Tryz.f122.name, by decide, Tryz.func122.trans (congrArg some (by kernel_rfl))⟩
  f29 := ⟨Tryz.f123.name, by decide, Tryz.func123.trans (congrArg some (by kernel_rfl))⟩
  f31 := Tryz.func140.trans (congrArg some (by kernel_rfl))
  f32 := Tryz.func141.trans (congrArg some (by kernel_rfl))
  f36 := ⟨Tryz.f139.name, by decide, Tryz.func139.trans (congrArg some (by kernel_rfl))⟩
  f37 := ⟨Tryz.f142.name, by decide, Tryz.func142.trans (congrArg some (by kernel_rfl))⟩
  f38 := ⟨Tryz.f143.name, by decide, Tryz.func143.trans (congrArg some (by kernel_rfl))⟩
  f39 := ⟨Tryz.f144.name, by decide, Tryz.func144.trans (congrArg some (by kernel_rfl))⟩
  f41 := ⟨Tryz.f159.name, by decide, Tryz.func159.trans (congrArg some (by kernel_rfl))⟩
  t0 := Tryz.underlying0
  a0 := Tryz.isAgg0
  z0 := Tryz.sizeOf0
  v0 := Tryz.zeroValue0
  t3 := Tryz.underlying3
  a3 := Tryz.isAgg3
  z3 := Tryz.sizeOf3
  v3 := Tryz.zeroValue3
  t4 := Tryz.underlying4
  a4 := Tryz.isAgg4
  z4 := Tryz.sizeOf4
  v4 := Tryz.zeroValue4
  t5 := Tryz.underlying5
  a5 := Tryz.isAgg5
  z5 := Tryz.sizeOf5
  v5 := Tryz.zeroValue5
  t9 := Tryz.underlying9
  a9 := Tryz.isAgg9
  z9 := Tryz.sizeOf9
  v9 := Tryz.zeroValue9
  t26 := Tryz.underlying29
  a26 := Tryz.isAgg29
  z26 := Tryz.sizeOf29
  v26 := Tryz.zeroValue29
  t27 := Tryz.underlying29
  a27 := Tryz.isAgg29
  z27 := Tryz.sizeOf29
  v27 := Tryz.zeroValue29
  t29 := Tryz.underlying9
  a29 := Tryz.isAgg9
  z29 := Tryz.sizeOf9
  v29 := Tryz.zeroValue9
  t32 := Tryz.underlying137
  a32 := Tryz.isAgg137
  z32 := Tryz.sizeOf137
  v32 := Tryz.zeroValue137
  t35 := Tryz.underlying153
  a35 := Tryz.isAgg153
  z35 := Tryz.sizeOf153
  v35 := Tryz.zeroValue153
  t36 := Tryz.underlying154
  a36 := Tryz.isAgg154
  z36 := Tryz.sizeOf154
  v36 := Tryz.zeroValue154
  t41 := Tryz.underlying106
  a41 := Tryz.isAgg106
  z41 := Tryz.sizeOf106
  v41 := Tryz.zeroValue106
  t44 := Tryz.underlying161
  a44 := Tryz.isAgg161
  z44 := Tryz.sizeOf161
  v44 := Tryz.zeroValue161
  t46 := Tryz.underlying163
  a46 := Tryz.isAgg163
  z46 := Tryz.sizeOf163
  v46 := Tryz.zeroValue163
  t53 := Tryz.underlying178
  a53 := Tryz.isAgg178
  z53 := Tryz.sizeOf178
  v53 := Tryz.zeroValue178
  t57 := Tryz.underlying182
  a57 := Tryz.isAgg182
  z57 := Tryz.sizeOf182
  v57 := Tryz.zeroValue182
  t63 := Tryz.underlying192
  a63 := Tryz.isAgg192
  z63 := Tryz.sizeOf192
  v63 := Tryz.zeroValue192
  t64 := Tryz.underlying193
  a64 := Tryz.isAgg193
  z64 := Tryz.sizeOf193
  v64 := Tryz.zeroValue193 }
open Go.RowKit Go.Maps Go.Sort Go.Shelf
theorem Tryz.sorts36 (m : Nat) : AnyZ.SortsIn Tryz.prog Tryz.sorted36_ren Fence.wide m :=
  ⟨fun blk off cap ss W hH hblk hsz => callsIn_wide.2 (AnyM.slices_Sort_string Tryz.sort61 blk off cap ss W hH hblk hsz),
   fun p cap W => callsIn_wide.2 (AnyM.slices_Sort_string_none Tryz.sort61 p cap W)⟩

theorem Tryz.maps_Keys_37 (mb : Option Nat) (W : World) : CallsIn Fence.wide 5 Tryz.prog 37 #[.map mb] W fun e w' => e = .returned (.func (.func 62) #[] #[.pointer (some ⟨W.heap.size, 0, none⟩)]) ∧ w' = W.alloc (.cells #[.map mb] 79) :=
  AnyZ.keys_in Tryz.keys37 Fence.wide 5 trivial rfl mb W

set_option maxHeartbeats 1000000 in
theorem Tryz.slices_Sorted_keys_36_37 {H : Type} (b nn : Nat) (D0 : DataW H) (R : Value → Option (DataW H × List MemPlace)) (w : World) (hown : w.ownsMap Tryz.prog 9 R b nn D0) (hmax : Maps.size D0 ≤ maxLen) (hbytes : Maps.size D0 * 16 ≤ 140737488355328) :
    CallsIn Fence.wide 5 Tryz.prog 36 #[.func (.func 62) #[] #[.pointer (some ⟨w.heap.size, 0, none⟩)]] (w.alloc (.cells #[.map (some b)] 79)) fun e w' => ∃ (v : Value) (ss : List (List UInt8)), e = .returned v ∧ ss.Perm (strKeys D0) ∧
      w'.ownsRow (w.alloc (.cells #[.map (some b)] 79)).heap.size 9 1 v ss.length ((ss.mergeSort (fun x y => decide (x ≤ y))).map encStr) ∧ (v = .slice none 0 0 ↔ ss = []) ∧ Below (w.alloc (.cells #[.map (some b)] 79)).heap.size (w.alloc (.cells #[.map (some b)] 79)) w' := by
  have hbl := hown.lt
  have hseq : SeqGives Fence.wide 2 Tryz.prog 62 #[.pointer (some ⟨w.heap.size, 0, none⟩)] encStr (fun ss => ss.Perm (strKeys D0)) (Maps.size D0) (w.alloc (.cells #[.map (some b)] 79)) :=
    AnyZ.keys_gives (ρ := Tryz.keys37_ren) { Tryz.keys37 with } Fence.wide _ trivial rfl (by omega) w.heap.size b nn D0 _ (by simp) (by simp) (by
      obtain ⟨es, clock, hb, Ft, hs, hD⟩ := hown
      exact ⟨es, clock, (Below.heap_alloc _ _ b hbl).trans hb, Ft, hs, hD⟩)
  exact AnyZ.sorted_in Tryz.sorted36 Fence.wide 5 trivial trivial trivial trivial rfl (by omega) (Tryz.sorts36 _) (enters_of Tryz.func61 (by kernel_rfl) rfl) 62 #[.pointer (some ⟨w.heap.size, 0, none⟩)] trivial (enters_of Tryz.func62 (by kernel_rfl) rfl) _ _ hmax hbytes _ hseq

set_option maxHeartbeats 1000000 in
theorem Tryz.slices_Sorted_keys_nil_36_37 (w : World) :
    CallsIn Fence.wide 5 Tryz.prog 36 #[.func (.func 62) #[] #[.pointer (some ⟨w.heap.size, 0, none⟩)]] (w.alloc (.cells #[.map none] 79)) fun e w' => ∃ (v : Value) (ss : List (List UInt8)), e = .returned v ∧ ss = [] ∧
      w'.ownsRow (w.alloc (.cells #[.map none] 79)).heap.size 9 1 v ss.length ((ss.mergeSort (fun x y => decide (x ≤ y))).map encStr) ∧ (v = .slice none 0 0 ↔ ss = []) ∧ Below (w.alloc (.cells #[.map none] 79)).heap.size (w.alloc (.cells #[.map none] 79)) w' := by
  have hseq : SeqGives Fence.wide 2 Tryz.prog 62 #[.pointer (some ⟨w.heap.size, 0, none⟩)] encStr (fun ss : List (List UInt8) => ss = []) 0 (w.alloc (.cells #[.map none] 79)) :=
    AnyZ.keys_gives_nil (ρ := Tryz.keys37_ren) { Tryz.keys37 with } Fence.wide _ trivial rfl w.heap.size _ (by simp) (by simp)
  exact AnyZ.sorted_in Tryz.sorted36 Fence.wide 5 trivial trivial trivial trivial rfl (by omega) (Tryz.sorts36 _) (enters_of Tryz.func61 (by kernel_rfl) rfl) 62 #[.pointer (some ⟨w.heap.size, 0, none⟩)] trivial (enters_of Tryz.func62 (by kernel_rfl) rfl) _ 0 (Nat.zero_le _) (by omega) _ hseq



end Go.Proofs
