/-
  Texts of this claim, laid together.
-/
import Derived.Test.YtjeaoopamebgjaaGreatDoorMg1
import Derived.Lib.SplitLaws
import Derived.Sort.Walk0
import Derived.Shelf.Spec.SearchS
import Derived.Test.YtjeaoopamebgjaaGreatDoorRows
import Derived.Deep.LoopGhost
import Derived.Shelf.Strings.Builder1
import Derived.Shelf.Strings.Builder2
import Derived.Shelf.Strings.OnBuilder
import Derived.Shelf.Small.Bits
import Derived.Shelf.Small.Wraps
import Derived.Shelf.Strings.BuilderF
import Derived.Shelf.Strings.BuilderK
import Derived.Shelf.Utf8.RuneCount
import Derived.Shelf.Strconv.Itoa0
import Derived.Shelf.Strconv.Itoa1
import Derived.Shelf.LaysM
import Derived.Shelf.Strconv.Itoa2
import Derived.Shelf.Strconv.Itoa3
import Derived.Shelf.Strings.Search1
import Derived.Shelf.Strings.Search2
import Derived.Shelf.Strings.Search3
import Derived.Shelf.Strings.Count
import Derived.Shelf.Strings.Shaped
import Derived.Shelf.Strings.Prefix
import Derived.Shelf.Strings.Split
import Derived.Shelf.Strings.SplitShaped
import Derived.Shelf.Unicode.Decode
import Derived.Shelf.Strings.RuneCount
import Derived.Shelf.Strings.Explode
import Derived.Shelf.Bits.Mul64
import Derived.Shelf.Strings.Repeat
import Derived.Shelf.Unicode.DecodeSlow
import Derived.Shelf.Unicode.DecodeAny
import Derived.Ground.Names2Prog
import Derived.Shelf.Slices.ReverseS
import Derived.Shelf.Slices.Clone
import Derived.Shelf.Slices.SearchI
import Derived.Shelf.Slices.Delete
import Derived.Shelf.Slices.Cells
import Derived.Shelf.Slices.Empties
import Derived.Ground.SlgnProg
import Derived.Shelf.SlicesE.Clone
import Derived.Ground.SlgmProg
import Derived.Shelf.SortM.Plain
import Derived.Shelf.SortM.SortNone
import Derived.Test.YtjeaoopamebgjaaGreatDoorProg
set_option linter.unusedVariables false
set_option linter.unusedSimpArgs false

/-
  Steps of a walk by things, under short names: each tries its lemmas at the hypothesis that is called HX.
-/
namespace Go.Av
open Go.RowKit
theorem sWL {G C : Prop} (k : C) (h : C → G := by (intro kk; (first | ((with_reducible apply sx_loadS HX); (· rfl); (· rfl); (· (first | exact sn_op | exact sn_res | exact sn_stat | exact sn_node | exact sn_reply | exact sn_req | exact sn_tree | exact sn_rnode | exact sn_rtree | exact sn_rent | exact sn_act)); (· (repeat (first | (with_reducible exact List.mem_cons_self ..) | (with_reducible apply List.mem_cons_of_mem)))); (· rfl); exact kk) | fail))) : G := h k
theorem sWM {G C : Prop} (k : C) (h : C → G := by (intro kk; (first | ((with_reducible apply sx_load HX); (· rfl); (· rfl); (· kernel_rfl); (· (repeat (first | (with_reducible exact List.mem_cons_self ..) | (with_reducible apply List.mem_cons_of_mem)))); (· rfl); exact kk) | fail))) : G := h k
theorem sWS {G C : Prop} (k : C) (h : C → G := by (intro kk; (first | ((with_reducible apply sx_storeS HX); (· rfl); (· rfl); (· rfl); (· kernel_rfl); (· (repeat (first | (with_reducible exact Rep.here) | (with_reducible apply Rep.there)))); (· rfl); (· rfl); exact kk) | fail))) : G := h k
theorem sWT {G C : Prop} (k : C) (h : C → G := by (intro kk; (first | ((with_reducible apply sx_store1 HX); (· rfl); (· ((conv => lhs; whnf) <;> rfl)); (· rfl); (· rfl); (· kernel_rfl); (· (repeat (first | (with_reducible exact Rep.here) | (with_reducible apply Rep.there)))); (· rfl); (· rfl); exact kk) | fail))) : G := h k
theorem sWA {G C : Prop} (k : C) (h : C → G := by (intro kk; (first | ((with_reducible apply sx_alloc HX); (· rfl); (· (first | exact z_op | exact z_res | exact z_node | exact z_reply | exact z_req | exact z_rnode | exact z_rreply)); exact kk) | ((with_reducible apply sx_boxS HX); (· rfl); (· rfl); exact kk) | ((with_reducible apply sx_box1 HX); (· ((conv => lhs; whnf) <;> rfl)); (· rfl); (· rfl); exact kk) | ((with_reducible apply sx_oneS HX); (· (first | exact sl_str | exact sl_res | exact sl_op | exact sl_ent)); (· exact ⟨rfl, rfl⟩); (· rfl); (· rfl); exact kk) | ((with_reducible apply sx_one1 HX); (· (first | exact sl_str | exact sl_res | exact sl_op | exact sl_ent)); (· ((conv => lhs; whnf) <;> rfl)); (· rfl); exact kk) | fail))) : G := h k
theorem sWN {G C : Prop} (k : C) (h : C → G := by (intro kk; (first | ((with_reducible apply sx_makeMap .string HX); (· rfl); exact kk) | fail))) : G := h k
theorem sWP {G C : Prop} (k : C) (h : C → G := by (intro kk; (first | ((with_reducible apply sx_app1 HX); (· (first | exact sl_str | exact sl_res | exact sl_op | exact sl_ent)); (· rfl); (· rfl); (· (repeat (first | (with_reducible exact Rem.here) | (with_reducible apply Rem.there)))); (· (repeat (first | (with_reducible exact List.mem_cons_self ..) | (with_reducible apply List.mem_cons_of_mem)))); (· rfl); (· rfl); (· exact HBD.out); exact kk) | fail))) : G := h k
theorem sWD {G C : Prop} (k : C) (h : C → G := by (intro kk; (first | ((with_reducible apply sx_two HX); (· (first | exact sl_str | exact sl_res | exact sl_op | exact sl_ent)); (· exact ⟨rfl, rfl⟩); (· rfl); (· rfl); (· rfl); (· rfl); exact kk) | fail))) : G := h k
theorem yD {G C : Prop} (k : C) (h : C → G := by (intro kk; (first | ((apply yield_loadS); (· exact HX); (· (simp only [List.getElem?_toArray, List.getElem?_cons_succ, List.getElem?_cons_zero]; try rfl)); (· rfl); (· rfl); (· (first | exact sn_op | exact sn_res | exact sn_stat | exact sn_node | exact sn_reply | exact sn_req | exact sn_tree | exact sn_rnode | exact sn_rtree | exact sn_rent | exact sn_act)); (· (repeat (first | (with_reducible exact List.mem_cons_self ..) | (with_reducible apply List.mem_cons_of_mem)))); (· rfl); (· (simp only [Act.put, List.setIfInBounds_toArray, List.set_cons_zero, List.set_cons_succ, List.drop_zero, List.drop_succ_cons, List.take_succ_cons, List.take_zero, List.toList_toArray, NodeS.cells, OpS.cells, ResS.cells]; try rfl)); exact kk) | ((apply yield_load); (· exact HX); (· (simp only [List.getElem?_toArray, List.getElem?_cons_succ, List.getElem?_cons_zero]; try rfl)); (· rfl); (· rfl); (· kernel_rfl); (· (repeat (first | (with_reducible exact List.mem_cons_self ..) | (with_reducible apply List.mem_cons_of_mem)))); (· rfl); (· (simp only [Act.put, List.setIfInBounds_toArray, List.set_cons_zero, List.set_cons_succ, List.drop_zero, List.drop_succ_cons, List.take_succ_cons, List.take_zero, List.toList_toArray, NodeS.cells, OpS.cells, ResS.cells]; try rfl)); exact kk) | ((apply yield_loadAt); (· exact hl); (· (simp only [List.getElem?_toArray, List.getElem?_cons_succ, List.getElem?_cons_zero]; try rfl)); (· rfl); (· rfl); (· (simp only [Act.put, List.setIfInBounds_toArray, List.set_cons_zero, List.set_cons_succ, List.drop_zero, List.drop_succ_cons, List.take_succ_cons, List.take_zero, List.toList_toArray, NodeS.cells, OpS.cells, ResS.cells]; try rfl)); exact kk) | ((apply yield_loadAt); (· exact hl2); (· (simp only [List.getElem?_toArray, List.getElem?_cons_succ, List.getElem?_cons_zero]; try rfl)); (· rfl); (· rfl); (· (simp only [Act.put, List.setIfInBounds_toArray, List.set_cons_zero, List.set_cons_succ, List.drop_zero, List.drop_succ_cons, List.take_succ_cons, List.take_zero, List.toList_toArray, NodeS.cells, OpS.cells, ResS.cells]; try rfl)); exact kk) | ((apply yield_loadAt); (· exact hl3); (· (simp only [List.getElem?_toArray, List.getElem?_cons_succ, List.getElem?_cons_zero]; try rfl)); (· rfl); (· rfl); (· (simp only [Act.put, List.setIfInBounds_toArray, List.set_cons_zero, List.set_cons_succ, List.drop_zero, List.drop_succ_cons, List.take_succ_cons, List.take_zero, List.toList_toArray, NodeS.cells, OpS.cells, ResS.cells]; try rfl)); exact kk) | ((apply yield_loadAt); (· exact hl4); (· (simp only [List.getElem?_toArray, List.getElem?_cons_succ, List.getElem?_cons_zero]; try rfl)); (· rfl); (· rfl); (· (simp only [Act.put, List.setIfInBounds_toArray, List.set_cons_zero, List.set_cons_succ, List.drop_zero, List.drop_succ_cons, List.take_succ_cons, List.take_zero, List.toList_toArray, NodeS.cells, OpS.cells, ResS.cells]; try rfl)); exact kk) | ((apply yieldN); (· (simp only [List.getElem?_toArray, List.getElem?_cons_succ, List.getElem?_cons_zero]; try rfl)); (· rfl); (· (simp only [Act.put, List.setIfInBounds_toArray, List.set_cons_zero, List.set_cons_succ, List.drop_zero, List.drop_succ_cons, List.take_succ_cons, List.take_zero, List.toList_toArray, NodeS.cells, OpS.cells, ResS.cells]; try rfl)); exact kk) | ((first | apply yieldP | apply yieldL); (· (simp only [List.getElem?_toArray, List.getElem?_cons_succ, List.getElem?_cons_zero]; try rfl)); (· rfl); (· (intros; go_simp; try with_reducible rfl)); (· (simp only [Act.put, List.setIfInBounds_toArray, List.set_cons_zero, List.set_cons_succ, List.drop_zero, List.drop_succ_cons, List.take_succ_cons, List.take_zero, List.toList_toArray, NodeS.cells, OpS.cells, ResS.cells]; try rfl)); exact kk) | fail))) : G := h k
theorem yE {G C : Prop} (k : C) (h : C → G := by (intro kk; (first | ((apply yield_loadSH); (· exact KEEPX); (· (simp only [List.getElem?_toArray, List.getElem?_cons_succ, List.getElem?_cons_zero]; try rfl)); (· rfl); (· rfl); (· (first | exact sn_op | exact sn_res | exact sn_stat | exact sn_node | exact sn_reply | exact sn_req | exact sn_tree | exact sn_rnode | exact sn_rtree | exact sn_rent | exact sn_act)); (· (repeat (first | (with_reducible exact List.mem_cons_self ..) | (with_reducible apply List.mem_cons_of_mem)))); (· rfl); (· (simp only [Act.put, List.setIfInBounds_toArray, List.set_cons_zero, List.set_cons_succ, List.drop_zero, List.drop_succ_cons, List.take_succ_cons, List.take_zero, List.toList_toArray, NodeS.cells, OpS.cells, ResS.cells]; try rfl)); exact kk) | ((apply yield_loadH); (· exact KEEPX); (· (simp only [List.getElem?_toArray, List.getElem?_cons_succ, List.getElem?_cons_zero]; try rfl)); (· rfl); (· rfl); (· kernel_rfl); (· (repeat (first | (with_reducible exact List.mem_cons_self ..) | (with_reducible apply List.mem_cons_of_mem)))); (· rfl); (· (simp only [Act.put, List.setIfInBounds_toArray, List.set_cons_zero, List.set_cons_succ, List.drop_zero, List.drop_succ_cons, List.take_succ_cons, List.take_zero, List.toList_toArray, NodeS.cells, OpS.cells, ResS.cells]; try rfl)); exact kk) | ((apply yield_loadAtH); (· exact hl); (· (simp only [List.getElem?_toArray, List.getElem?_cons_succ, List.getElem?_cons_zero]; try rfl)); (· rfl); (· rfl); (· (simp only [Act.put, List.setIfInBounds_toArray, List.set_cons_zero, List.set_cons_succ, List.drop_zero, List.drop_succ_cons, List.take_succ_cons, List.take_zero, List.toList_toArray, NodeS.cells, OpS.cells, ResS.cells]; try rfl)); exact kk) | ((apply yield_loadAtH); (· exact hl2); (· (simp only [List.getElem?_toArray, List.getElem?_cons_succ, List.getElem?_cons_zero]; try rfl)); (· rfl); (· rfl); (· (simp only [Act.put, List.setIfInBounds_toArray, List.set_cons_zero, List.set_cons_succ, List.drop_zero, List.drop_succ_cons, List.take_succ_cons, List.take_zero, List.toList_toArray, NodeS.cells, OpS.cells, ResS.cells]; try rfl)); exact kk) | ((apply yield_loadAtH); (· exact hl3); (· (simp only [List.getElem?_toArray, List.getElem?_cons_succ, List.getElem?_cons_zero]; try rfl)); (· rfl); (· rfl); (· (simp only [Act.put, List.setIfInBounds_toArray, List.set_cons_zero, List.set_cons_succ, List.drop_zero, List.drop_succ_cons, List.take_succ_cons, List.take_zero, List.toList_toArray, NodeS.cells, OpS.cells, ResS.cells]; try rfl)); exact kk) | ((apply yield_loadAtH); (· exact hl4); (· (simp only [List.getElem?_toArray, List.getElem?_cons_succ, List.getElem?_cons_zero]; try rfl)); (· rfl); (· rfl); (· (simp only [Act.put, List.setIfInBounds_toArray, List.set_cons_zero, List.set_cons_succ, List.drop_zero, List.drop_succ_cons, List.take_succ_cons, List.take_zero, List.toList_toArray, NodeS.cells, OpS.cells, ResS.cells]; try rfl)); exact kk) | ((apply yieldN); (· (simp only [List.getElem?_toArray, List.getElem?_cons_succ, List.getElem?_cons_zero]; try rfl)); (· rfl); (· (simp only [Act.put, List.setIfInBounds_toArray, List.set_cons_zero, List.set_cons_succ, List.drop_zero, List.drop_succ_cons, List.take_succ_cons, List.take_zero, List.toList_toArray, NodeS.cells, OpS.cells, ResS.cells]; try rfl)); exact kk) | ((first | apply yieldP | apply yieldL); (· (simp only [List.getElem?_toArray, List.getElem?_cons_succ, List.getElem?_cons_zero]; try rfl)); (· rfl); (· (intros; go_simp; try with_reducible rfl)); (· (simp only [Act.put, List.setIfInBounds_toArray, List.set_cons_zero, List.set_cons_succ, List.drop_zero, List.drop_succ_cons, List.take_succ_cons, List.take_zero, List.toList_toArray, NodeS.cells, OpS.cells, ResS.cells]; try rfl)); exact kk) | fail))) : G := h k
theorem yDp {G C : Prop} (k : C) (h : C → G := by (intro kk; (first | ((apply yield_loadS); (· exact HX); (· (simp only [List.getElem?_toArray, List.getElem?_cons_succ, List.getElem?_cons_zero]; try rfl)); (· rfl); (· rfl); (· (first | exact sn_op | exact sn_res | exact sn_stat | exact sn_node | exact sn_reply | exact sn_req | exact sn_tree | exact sn_rnode | exact sn_rtree | exact sn_rent | exact sn_act)); (· (repeat (first | (with_reducible exact List.mem_cons_self ..) | (with_reducible apply List.mem_cons_of_mem)))); (· rfl); (· (simp only [Act.put, List.setIfInBounds_toArray, List.set_cons_zero, List.set_cons_succ, List.drop_zero, List.drop_succ_cons, List.take_succ_cons, List.take_zero, List.toList_toArray]; try rfl)); exact kk) | ((apply yield_load); (· exact HX); (· (simp only [List.getElem?_toArray, List.getElem?_cons_succ, List.getElem?_cons_zero]; try rfl)); (· rfl); (· rfl); (· kernel_rfl); (· (repeat (first | (with_reducible exact List.mem_cons_self ..) | (with_reducible apply List.mem_cons_of_mem)))); (· rfl); (· (simp only [Act.put, List.setIfInBounds_toArray, List.set_cons_zero, List.set_cons_succ, List.drop_zero, List.drop_succ_cons, List.take_succ_cons, List.take_zero, List.toList_toArray]; try rfl)); exact kk) | ((apply yield_loadAt); (· exact hl); (· (simp only [List.getElem?_toArray, List.getElem?_cons_succ, List.getElem?_cons_zero]; try rfl)); (· rfl); (· rfl); (· (simp only [Act.put, List.setIfInBounds_toArray, List.set_cons_zero, List.set_cons_succ, List.drop_zero, List.drop_succ_cons, List.take_succ_cons, List.take_zero, List.toList_toArray]; try rfl)); exact kk) | ((apply yield_loadAt); (· exact hl2); (· (simp only [List.getElem?_toArray, List.getElem?_cons_succ, List.getElem?_cons_zero]; try rfl)); (· rfl); (· rfl); (· (simp only [Act.put, List.setIfInBounds_toArray, List.set_cons_zero, List.set_cons_succ, List.drop_zero, List.drop_succ_cons, List.take_succ_cons, List.take_zero, List.toList_toArray]; try rfl)); exact kk) | ((apply yield_loadAt); (· exact hl3); (· (simp only [List.getElem?_toArray, List.getElem?_cons_succ, List.getElem?_cons_zero]; try rfl)); (· rfl); (· rfl); (· (simp only [Act.put, List.setIfInBounds_toArray, List.set_cons_zero, List.set_cons_succ, List.drop_zero, List.drop_succ_cons, List.take_succ_cons, List.take_zero, List.toList_toArray]; try rfl)); exact kk) | ((apply yield_loadAt); (· exact hl4); (· (simp only [List.getElem?_toArray, List.getElem?_cons_succ, List.getElem?_cons_zero]; try rfl)); (· rfl); (· rfl); (· (simp only [Act.put, List.setIfInBounds_toArray, List.set_cons_zero, List.set_cons_succ, List.drop_zero, List.drop_succ_cons, List.take_succ_cons, List.take_zero, List.toList_toArray]; try rfl)); exact kk) | ((apply yieldN); (· (simp only [List.getElem?_toArray, List.getElem?_cons_succ, List.getElem?_cons_zero]; try rfl)); (· rfl); (· (simp only [Act.put, List.setIfInBounds_toArray, List.set_cons_zero, List.set_cons_succ, List.drop_zero, List.drop_succ_cons, List.take_succ_cons, List.take_zero, List.toList_toArray]; try rfl)); exact kk) | ((first | apply yieldP | apply yieldL); (· (simp only [List.getElem?_toArray, List.getElem?_cons_succ, List.getElem?_cons_zero]; try rfl)); (· rfl); (· (intros; go_simp; try with_reducible rfl)); (· (simp only [Act.put, List.setIfInBounds_toArray, List.set_cons_zero, List.set_cons_succ, List.drop_zero, List.drop_succ_cons, List.take_succ_cons, List.take_zero, List.toList_toArray]; try rfl)); exact kk) | fail))) : G := h k
theorem yEp {G C : Prop} (k : C) (h : C → G := by (intro kk; (first | ((apply yield_loadSH); (· exact KEEPX); (· (simp only [List.getElem?_toArray, List.getElem?_cons_succ, List.getElem?_cons_zero]; try rfl)); (· rfl); (· rfl); (· (first | exact sn_op | exact sn_res | exact sn_stat | exact sn_node | exact sn_reply | exact sn_req | exact sn_tree | exact sn_rnode | exact sn_rtree | exact sn_rent | exact sn_act)); (· (repeat (first | (with_reducible exact List.mem_cons_self ..) | (with_reducible apply List.mem_cons_of_mem)))); (· rfl); (· (simp only [Act.put, List.setIfInBounds_toArray, List.set_cons_zero, List.set_cons_succ, List.drop_zero, List.drop_succ_cons, List.take_succ_cons, List.take_zero, List.toList_toArray]; try rfl)); exact kk) | ((apply yield_loadH); (· exact KEEPX); (· (simp only [List.getElem?_toArray, List.getElem?_cons_succ, List.getElem?_cons_zero]; try rfl)); (· rfl); (· rfl); (· kernel_rfl); (· (repeat (first | (with_reducible exact List.mem_cons_self ..) | (with_reducible apply List.mem_cons_of_mem)))); (· rfl); (· (simp only [Act.put, List.setIfInBounds_toArray, List.set_cons_zero, List.set_cons_succ, List.drop_zero, List.drop_succ_cons, List.take_succ_cons, List.take_zero, List.toList_toArray]; try rfl)); exact kk) | ((apply yield_loadAtH); (· exact hl); (· (simp only [List.getElem?_toArray, List.getElem?_cons_succ, List.getElem?_cons_zero]; try rfl)); (· rfl); (· rfl); (· (simp only [Act.put, List.setIfInBounds_toArray, List.set_cons_zero, List.set_cons_succ, List.drop_zero, List.drop_succ_cons, List.take_succ_cons, List.take_zero, List.toList_toArray]; try rfl)); exact kk) | ((apply yield_loadAtH); (· exact hl2); (· (simp only [List.getElem?_toArray, List.getElem?_cons_succ, List.getElem?_cons_zero]; try rfl)); (· rfl); (· rfl); (· (simp only [Act.put, List.setIfInBounds_toArray, List.set_cons_zero, List.set_cons_succ, List.drop_zero, List.drop_succ_cons, List.take_succ_cons, List.take_zero, List.toList_toArray]; try rfl)); exact kk) | ((apply yield_loadAtH); (· exact hl3); (· (simp only [List.getElem?_toArray, List.getElem?_cons_succ, List.getElem?_cons_zero]; try rfl)); (· rfl); (· rfl); (· (simp only [Act.put, List.setIfInBounds_toArray, List.set_cons_zero, List.set_cons_succ, List.drop_zero, List.drop_succ_cons, List.take_succ_cons, List.take_zero, List.toList_toArray]; try rfl)); exact kk) | ((apply yield_loadAtH); (· exact hl4); (· (simp only [List.getElem?_toArray, List.getElem?_cons_succ, List.getElem?_cons_zero]; try rfl)); (· rfl); (· rfl); (· (simp only [Act.put, List.setIfInBounds_toArray, List.set_cons_zero, List.set_cons_succ, List.drop_zero, List.drop_succ_cons, List.take_succ_cons, List.take_zero, List.toList_toArray]; try rfl)); exact kk) | ((apply yieldN); (· (simp only [List.getElem?_toArray, List.getElem?_cons_succ, List.getElem?_cons_zero]; try rfl)); (· rfl); (· (simp only [Act.put, List.setIfInBounds_toArray, List.set_cons_zero, List.set_cons_succ, List.drop_zero, List.drop_succ_cons, List.take_succ_cons, List.take_zero, List.toList_toArray]; try rfl)); exact kk) | ((first | apply yieldP | apply yieldL); (· (simp only [List.getElem?_toArray, List.getElem?_cons_succ, List.getElem?_cons_zero]; try rfl)); (· rfl); (· (intros; go_simp; try with_reducible rfl)); (· (simp only [Act.put, List.setIfInBounds_toArray, List.set_cons_zero, List.set_cons_succ, List.drop_zero, List.drop_succ_cons, List.take_succ_cons, List.take_zero, List.toList_toArray]; try rfl)); exact kk) | fail))) : G := h k
end Go.Av

/-
  Paths in plain words.
-/
namespace Go.Av
open Go.RowKit

def okCh (c : UInt8) : Bool := !(decide (c < 33) || decide (126 < c))
/-- May it be a name? -/
def nameS (l : Bs) : Bool := l.all okCh && decide (1 ≤ l.length) && decide (l.length ≤ 40) && !(l == [46]) && !(l == [46, 46])
/-- Cut at each '/'. -/
def cutS : Bs → List Bs
  | [] => [[]]
  | c :: r => if c = 47 then [] :: cutS r else match cutS r with | [] => [[c]] | x :: t => (c :: x) :: t
def goodP (p : Bs) : Bool := match p with
  | [] => false
  | c :: r => decide (c = 47) && decide (r.length + 1 ≤ 200) && (cutS r).all nameS && decide ((cutS r).length ≤ 8)
def partsP (p : Bs) : List Bs := if goodP p then cutS (p.drop 1) else []
def topP (p : Bs) : Bs := match partsP p with | [] => [] | x :: _ => x
def nameP (p : Bs) : Bs := match (partsP p).getLast? with | none => [] | some x => x

theorem cutS_ne : ∀ l : Bs, cutS l ≠ []
  | [] => by simp [cutS]
  | c :: r => by
    unfold cutS
    split
    · simp
    · split <;> simp
theorem cutS_len : ∀ l : Bs, (cutS l).length = l.count 47 + 1
  | [] => rfl
  | c :: r => by
    have ih := cutS_len r
    unfold cutS
    by_cases hc : c = 47
    · rw [if_pos hc, List.length_cons, ih, hc, List.count_cons_self]
    · rw [if_neg hc, List.count_cons_of_ne hc, ← ih]
      split
      · rename_i h; exact absurd h (cutS_ne r)
      · rename_i h; rw [h]; rfl

open Go.Lib in
theorem splitK_cut : ∀ (l : Bs) (k : Nat), l.count 47 ≤ k → splitK [47] 0 k l = cutS l
  | [], k, _ => by
    cases k with
    | zero => rfl
    | succ k => rfl
  | c :: r, k, hk => by
    by_cases hc : c = 47
    · subst hc
      rw [List.count_cons_self] at hk
      obtain ⟨k', rfl⟩ : ∃ k', k = k' + 1 := ⟨k - 1, by omega⟩
      have hi : index (47 :: r) [47] = 0 := by simp [index, List.isPrefixOf]
      rw [splitK, hi]
      simp only [show ((0 : Int) == -1) = false from rfl, Bool.false_eq_true, if_false]
      rw [cutS, if_pos rfl]
      have := splitK_cut r k' (by omega)
      simpa using this
    · rw [List.count_cons_of_ne hc] at hk
      have hi : index (c :: r) [47] = if index r [47] == -1 then -1 else index r [47] + 1 := by
        rw [index, if_neg]
        simp [List.isPrefixOf]
        exact fun e => hc e.symm
      have ih := splitK_cut r k hk
      rw [cutS, if_neg hc, ← ih]
      rcases index_spec r [47] with ⟨h1, _⟩ | ⟨i, h1, h2, h3, h4⟩
      · rw [h1] at hi
        simp only [BEq.rfl, if_true] at hi
        cases k with
        | zero => rfl
        | succ k => simp [splitK, hi, h1]
      · have hp : 0 < k := by
          have hc1 : r.count 47 ≠ 0 := by
            intro h0
            have hm := index_spec r [47]
            have hz : Lib.count r [47] = 0 := by rw [count_one]; exact h0
            have h5 := count_hit (s := r) (sub := [47]) (i := i) (by simp) h1
            omega
          omega
        obtain ⟨k', rfl⟩ : ∃ k', k = k' + 1 := ⟨k - 1, by omega⟩
        have hne : (index r [47] == -1) = false := by rw [h1, beq_eq_false_iff_ne]; omega
        rw [hne] at hi
        simp only [Bool.false_eq_true, if_false] at hi
        have hne2 : (index (c :: r) [47] == -1) = false := by rw [hi, h1, beq_eq_false_iff_ne]; omega
        rw [splitK, splitK, hne, hne2]
        simp only [Bool.false_eq_true, if_false, List.length_singleton, Nat.add_zero]
        rw [hi, h1]
        have e1 : ((i : Int) + 1).toNat = i + 1 := by omega
        have e2 : (i : Int).toNat = i := by omega
        rw [e1, e2, List.take_succ_cons, List.drop_succ_cons]
open Go.Lib in
theorem split_cut (s : ByteArray) : (splitB ⟨#[47]⟩ 0 (countB s ⟨#[47]⟩) s).map (fun b => b.data.toList) = cutS s.data.toList := by
  rw [splitB_data]
  exact splitK_cut _ _ (by unfold countB; rw [show (⟨#[47]⟩ : ByteArray).data.toList = [47] from rfl, count_one]; exact Nat.le_refl _)
open Go.Lib in
theorem count_cut (s : ByteArray) : countB s ⟨#[47]⟩ + 1 = (cutS s.data.toList).length := by
  rw [cutS_len]
  unfold countB
  rw [show (⟨#[47]⟩ : ByteArray).data.toList = [47] from rfl, count_one]
theorem goodP_len {p : Bs} (h : goodP p = true) : p.length ≤ 200 := by
  cases p with
  | nil => simp
  | cons c r =>
    unfold goodP at h
    simp only [Bool.and_eq_true, decide_eq_true_eq] at h
    simpa using h.1.1.2
end Go.Av

/-
  Names that rise, in plain words: a name's place, laid in, taken out.
-/
namespace Go.Av
open Go.RowKit
/-- How many stand ahead of a name. -/
def placeS (l : List Bs) (s : Bs) : Nat := (l.takeWhile fun y => decide (y < s)).length
def insS (l : List Bs) (s : Bs) : List Bs := l.take (placeS l s) ++ s :: l.drop (placeS l s)
def delS (l : List Bs) (s : Bs) : List Bs := l.take (placeS l s) ++ l.drop (placeS l s + 1)
def hasS (l : List Bs) (s : Bs) : Bool := decide (l[placeS l s]? = some s)
def RiseS (l : List Bs) : Prop := l.Pairwise (· < ·)

theorem placeS_le (l : List Bs) (s : Bs) : placeS l s ≤ l.length := by
  unfold placeS
  exact (List.takeWhile_sublist _).length_le
theorem place_cons_lt {x s : Bs} {l : List Bs} (h : x < s) : placeS (x :: l) s = placeS l s + 1 := by
  unfold placeS
  rw [List.takeWhile_cons_of_pos (by simpa using h)]
  rfl
theorem place_cons_ge {x s : Bs} {l : List Bs} (h : ¬ x < s) : placeS (x :: l) s = 0 := by
  unfold placeS
  rw [List.takeWhile_cons_of_neg (by simpa using h)]
  rfl
theorem place_lt : ∀ {l : List Bs} {s : Bs} {j : Nat} (hj : j < l.length), j < placeS l s → l[j] < s
  | x :: l, s, j, hj, h => by
    by_cases hx : x < s
    · rw [place_cons_lt hx] at h
      cases j with
      | zero => exact hx
      | succ j => exact place_lt (l := l) (by simpa using hj) (by omega)
    · rw [place_cons_ge hx] at h; omega
theorem place_ge : ∀ {l : List Bs} {s : Bs}, RiseS l → ∀ {j : Nat} (hj : j < l.length), placeS l s ≤ j → ¬ l[j] < s
  | x :: l, s, hr, j, hj, h => by
    have hr2 := List.pairwise_cons.1 hr
    by_cases hx : x < s
    · rw [place_cons_lt hx] at h
      cases j with
      | zero => omega
      | succ j => exact place_ge (l := l) hr2.2 (by simpa using hj) (by omega)
    · cases j with
      | zero => exact hx
      | succ j => exact fun hl => hx (List.lt_trans (hr2.1 _ (List.getElem_mem (by simpa using hj))) hl)
/-- A place that parts what is less from what is not is that place. -/
theorem place_of {l : List Bs} {s : Bs} {k : Nat} (hk : k ≤ l.length) (h1 : ∀ j (hj : j < l.length), j < k → l[j] < s) (h2 : ∀ h : k < l.length, ¬ l[k] < s) : placeS l s = k := by
  have hp := placeS_le l s
  by_cases h : placeS l s < k
  · have hl : placeS l s < l.length := by omega
    exfalso
    have hx := h1 _ hl h
    have : ∀ (l : List Bs) (hl : placeS l s < l.length), ¬ l[placeS l s] < s := by
      intro l
      induction l with
      | nil => intro hl; simp at hl
      | cons x l ih =>
        intro hl
        by_cases hx : x < s
        · have e := place_cons_lt (l := l) hx
          have : placeS l s < l.length := by rw [e] at hl; simpa using hl
          have := ih this
          simp only [e, List.getElem_cons_succ]
          exact this
        · have e := place_cons_ge (l := l) hx
          simp only [e, List.getElem_cons_zero]
          exact hx
    exact this l hl hx
  · by_cases h' : k < placeS l s
    · have hl : k < l.length := by omega
      exact absurd (place_lt hl h') (h2 hl)
    · omega
theorem has_mem {l : List Bs} {s : Bs} (hr : RiseS l) : hasS l s = true ↔ s ∈ l := by
  unfold hasS
  rw [decide_eq_true_eq]
  constructor
  · exact fun h => List.mem_of_getElem? h
  · intro h
    obtain ⟨j, hj, rfl⟩ := List.getElem_of_mem h
    have : placeS l l[j] = j := place_of (Nat.le_of_lt hj) (fun i hi hij => List.pairwise_iff_getElem.1 hr i j hi hj hij) (fun _ => List.lt_irrefl _)
    rw [this, List.getElem?_eq_getElem hj]
theorem not_lt_gt {a b : Bs} (h : ¬ a < b) (hne : a ≠ b) : b < a := by
  rcases (List.not_lt.1 h : b ≤ a) with h2
  exact Classical.byContradiction fun h3 => hne (List.le_antisymm (List.not_lt.1 h3) h2)
theorem ins_rise {l : List Bs} {s : Bs} (hr : RiseS l) (hn : hasS l s = false) : RiseS (insS l s) := by
  have hne : s ∉ l := fun h => by rw [(has_mem hr).2 h] at hn; cases hn
  unfold insS RiseS
  rw [List.pairwise_append]
  refine ⟨List.Pairwise.sublist (List.take_sublist _ _) hr, ?_, fun a ha b hb => ?_⟩
  · rw [List.pairwise_cons]
    refine ⟨fun b hb => ?_, List.Pairwise.sublist (List.drop_sublist _ _) hr⟩
    obtain ⟨j, hj, rfl⟩ := List.getElem_of_mem hb
    rw [List.getElem_drop]
    rw [List.length_drop] at hj
    have hj2 : placeS l s + j < l.length := by omega
    exact not_lt_gt (place_ge hr hj2 (by omega)) fun e => hne (e ▸ List.getElem_mem hj2)
  · have h1 : a < s := by
      obtain ⟨j, hj, rfl⟩ := List.getElem_of_mem ha
      rw [List.getElem_take]
      rw [List.length_take] at hj
      exact place_lt (by omega) (by omega)
    rcases List.mem_cons.1 hb with rfl | hb
    · exact h1
    · obtain ⟨i, hi, rfl⟩ := List.getElem_of_mem ha
      obtain ⟨j, hj, rfl⟩ := List.getElem_of_mem hb
      rw [List.getElem_take, List.getElem_drop]
      rw [List.length_take] at hi
      rw [List.length_drop] at hj
      exact List.pairwise_iff_getElem.1 hr _ _ _ _ (by omega)
theorem del_rise {l : List Bs} {s : Bs} (hr : RiseS l) : RiseS (delS l s) := by
  unfold delS
  have : (l.take (placeS l s) ++ l.drop (placeS l s + 1)).Sublist l := by
    conv => rhs; rw [← List.take_append_drop (placeS l s) l]
    exact (List.Sublist.refl _).append (List.drop_sublist_drop_left _ (Nat.le_succ _))
  exact List.Pairwise.sublist this hr
theorem ins_len (l : List Bs) (s : Bs) : (insS l s).length = l.length + 1 := by
  have := placeS_le l s
  unfold insS
  simp only [List.length_append, List.length_take, List.length_cons, List.length_drop]
  omega
theorem del_len {l : List Bs} {s : Bs} (h : hasS l s = true) : (delS l s).length + 1 = l.length := by
  have hp : placeS l s < l.length := by
    unfold hasS at h
    rw [decide_eq_true_eq] at h
    exact (List.getElem?_eq_some_iff.1 h).1
  unfold delS
  simp only [List.length_append, List.length_take, List.length_drop]
  omega
/-- The library's halving finds a name's place. -/
theorem bs_place {l : List Bs} {s : Bs} (hr : RiseS l) (less : Nat → Bool) (h : ∀ j (hj : j < l.length), less j = decide (l[j] < s)) (n : Nat) (hn : n = l.length) : Lib.bsGo less n 0 n = placeS l s := by
  subst hn
  have hp := placeS_le l s
  rw [show Lib.bsGo less l.length 0 l.length = Lib.bsGo (fun t => decide (t < placeS l s)) l.length 0 l.length from ?_]
  · exact Lib.bsGo_spec _ (placeS l s) (fun t ht => by simpa using ht) (fun t ht => by simpa using ht) _ _ _ (by omega) (by omega) hp
  · have : ∀ (f lo hi : Nat), hi ≤ l.length → Lib.bsGo less f lo hi = Lib.bsGo (fun t => decide (t < placeS l s)) f lo hi := by
      intro f
      induction f with
      | zero => intro lo hi _; rfl
      | succ f ih =>
        intro lo hi hhi
        unfold Lib.bsGo
        by_cases hlt : lo < hi
        · rw [if_pos hlt, if_pos hlt]
          have hm : (lo + hi) / 2 < l.length := by omega
          have : less ((lo + hi) / 2) = decide ((lo + hi) / 2 < placeS l s) := by
            rw [h _ hm]
            apply decide_eq_decide.2
            constructor
            · intro hx
              exact Classical.byContradiction fun hc => place_ge hr hm (by omega) hx
            · exact fun hx => place_lt hm hx
          rw [this, ih _ _ hhi, ih _ _ (by omega)]
        · rw [if_neg hlt, if_neg hlt]
    exact this _ _ _ (Nat.le_refl _)
end Go.Av

/-
  Rows of bytes, slices of such rows: what the walks share.
-/
namespace Go.Proofs.YtjeaoopamebgjaaGreatDoor
open Go.RowKit Go.Av

theorem row_cell {w : World} {a : Option Addr} {n c : Nat} {xs : List Value} {E : List Nat} (h : ReadRow w 1 (.slice a n c) xs E) : n = xs.length ∧ n ≤ c ∧ c ≤ maxLen ∧ (0 < n → ∃ x : Addr, a = some x ∧ x.spot = none ∧ ∀ (i : Nat) u, xs[i]? = some u → w.cell? (x.add i) = some u) := by
  obtain ⟨a', n', c', hv, hl, hn, hc, ha, hr⟩ := h
  cases hv
  refine ⟨by simpa using hl.symm, hn, hc, fun h0 => ?_⟩
  rcases hr with ⟨h1, _⟩ | ⟨g, off, h1, h2, h3, h4⟩
  · subst h1; simp at hl; omega
  · exact ⟨⟨g, off, none⟩, h1, rfl, fun i u hu => by rw [Addr.add_lit]; exact h4 i u hu⟩
/-- A new slice of bytes is handed back. -/
def NewBytes (w : World) (b : Bs) (e : Ending) (w' : World) : Prop := ∃ v' D', e = .returned v' ∧ OwnRow w' 1 v' (b.map bv) D' ∧ Upd w w' [] D'
/-- What was appended is the object's; nothing else has turned. -/
def AppPost (w : World) (D : List Nat) (l : Bs) (e : Ending) (w' : World) : Prop := ∃ v D', e = .returned v ∧ OwnRow w' 1 v (l.map bv) D' ∧ Upd w w' D D'
/-- A slice that an object owns of rows of bytes that are read alone: the rows' bytes ls, all blocks D. -/
def RecsAt (w : World) (v : Value) (ls : List Bs) (D : List Nat) : Prop :=
  ∃ (rows : List (Value × Bs × List Nat)) (D0 : List Nat), rows.map (·.2.1) = ls ∧ D = D0 ++ rows.flatMap (·.2.2) ∧ OwnRow w 1 v (rows.map (·.1)) D0 ∧
    ∀ r ∈ rows, ReadRow w 1 r.1 (r.2.1.map bv) r.2.2 ∧ ∀ x ∈ r.2.2, x ∉ D0
theorem RecsAt.frame {w w' : World} {v : Value} {ls : List Bs} {D : List Nat} (h : RecsAt w v ls D) (hs : Same w w' D) : RecsAt w' v ls D := by
  obtain ⟨rows, D0, h1, h2, h3, h4⟩ := h
  refine ⟨rows, D0, h1, h2, h3.frame (fun b hb => hs b (by rw [h2]; simp [hb])), fun r hr => ⟨(h4 r hr).1.frame (fun b hb => hs b (by rw [h2]; simp only [List.mem_append, List.mem_flatMap]; exact .inr ⟨r, hr, hb⟩)), (h4 r hr).2⟩⟩
theorem RecsAt.lt {w : World} {v : Value} {ls : List Bs} {D : List Nat} (h : RecsAt w v ls D) : ∀ b ∈ D, b < w.heap.size := by
  obtain ⟨rows, D0, h1, h2, h3, h4⟩ := h
  intro b hb
  rw [h2] at hb
  simp only [List.mem_append, List.mem_flatMap] at hb
  rcases hb with hb | ⟨r, hr, hb⟩
  · exact h3.lt b hb
  · exact (h4 r hr).1.lt b hb
theorem RecsAt.nil (w : World) : RecsAt w (.slice none 0 0) [] [] := ⟨[], [], rfl, rfl, OwnRow.nil _ _, by simp⟩
theorem cell_new (w : World) (v : Value) (T : TypeId) (fr : Nat × Nat) : ReadRow (w.alloc (.cells #[v] T fr)) 1 (.slice (some ⟨w.heap.size, 0, none⟩) 1 1) [v] [w.heap.size] :=
  ⟨_, 1, 1, rfl, rfl, Nat.le_refl _, by decide, by simp, .inr ⟨w.heap.size, 0, rfl, rfl, by simp, fun i x hx => by
    have hh : (w.alloc (.cells #[v] T fr)).heap[w.heap.size]? = some (.cells #[v] T fr) := heap_alloc_new w _
    rw [cell_of_row _ _ _ _ _ _ hh]
    simpa using hx⟩⟩
/-- One more row behind. -/
theorem recs_push {w1 w2 w3 : World} {rows : List (Value × Bs × List Nat)} {D0 D1 D3 E1 : List Nat} {v1 v3 : Value} {l1 : Bs}
    (h3 : ∀ r ∈ rows, ReadRow w1 1 r.1 (r.2.1.map bv) r.2.2 ∧ ∀ x ∈ r.2.2, x ∉ D0) (hlt : ∀ b ∈ D0, b < w1.heap.size) (hu1 : Upd w1 w2 [] D1) (hr1 : ReadRow w2 1 v1 (l1.map bv) E1) (hE : ∀ b ∈ E1, b ∈ D1)
    (hu2 : Upd w2 w3 D0 D3) (ho : OwnRow w3 1 v3 (rows.map (·.1) ++ [v1]) D3) :
    RecsAt w3 v3 (rows.map (·.2.1) ++ [l1]) (D3 ++ (rows ++ [(v1, l1, E1)]).flatMap (·.2.2)) ∧ Upd w1 w3 (D0 ++ rows.flatMap (·.2.2)) (D3 ++ (rows ++ [(v1, l1, E1)]).flatMap (·.2.2)) := by
  have hsz := hu1.size
  have hnew : ∀ b ∈ E1, w1.heap.size ≤ b ∧ b < w2.heap.size := fun b hb => by
    rcases hu1.new b (hE b hb) with h | h
    · cases h
    · exact h
  have hD3 : ∀ b ∈ D3, b ∈ D0 ∨ w2.heap.size ≤ b ∧ b < w3.heap.size := hu2.new
  constructor
  · refine ⟨rows ++ [(v1, l1, E1)], D3, by simp, rfl, by simpa using ho, fun r hr => ?_⟩
    rcases List.mem_append.1 hr with hr | hr
    · obtain ⟨h4, h5⟩ := h3 r hr
      have h6 := h4.frame (hu1.same h4.lt (by simp))
      refine ⟨h6.frame (hu2.same h6.lt h5), fun x hx hd => ?_⟩
      rcases hD3 x hd with h | h
      · exact h5 x hx h
      · have := h6.lt x hx; omega
    · obtain rfl := List.mem_singleton.1 hr
      have hn : ∀ x ∈ E1, x ∉ D0 := fun x hx hd => by have := hnew x hx; have := hlt x hd; omega
      refine ⟨hr1.frame (hu2.same hr1.lt hn), fun x hx hd => ?_⟩
      rcases hD3 x hd with h | h
      · exact hn x hx h
      · have := hnew x hx; omega
  · refine ⟨hu2.os.trans hu1.os, hu2.tape.trans hu1.tape, hu2.output.trans hu1.output, Nat.le_trans hu1.size hu2.size, fun b hb hn => ?_, fun b hb => ?_⟩
    · simp only [List.mem_append, not_or] at hn
      rw [hu2.keep b (by omega) hn.1, hu1.keep b hb (by simp)]
    · simp only [List.mem_append, List.flatMap_append, List.flatMap_cons, List.flatMap_nil, List.append_nil] at hb ⊢
      have h3s := hu2.size
      rcases hb with hb | hb | hb
      · rcases hD3 b hb with h | h
        · exact .inl (.inl h)
        · exact .inr ⟨by omega, h.2⟩
      · exact .inl (.inr hb)
      · have := hnew b hb
        exact .inr ⟨this.1, by omega⟩
theorem RecsAt.slice {w : World} {v : Value} {ls : List Bs} {D : List Nat} (h : RecsAt w v ls D) : ∃ a c, v = .slice a ls.length c ∧ ls.length ≤ c ∧ c ≤ maxLen := by
  obtain ⟨rows, D0, h1, h2, ⟨a, n, c, hv, hl, hn, hc, _⟩, h4⟩ := h
  have : ls.length = n := by rw [← h1]; simpa using hl
  subst this
  exact ⟨a, c, hv, hn, hc⟩
theorem ownCell {w : World} {a : Option Addr} {n c : Nat} {xs : List Value} {D : List Nat} (h : OwnRow w 1 (.slice a n c) xs D) {i : Nat} {x : Value} (hx : xs[i]? = some x) :
    ∃ y : Addr, a = some y ∧ y.spot = none ∧ w.cell? (y.add i) = some x := by
  obtain ⟨E, hr, _⟩ := h.read
  obtain ⟨hn, _, _, hc⟩ := row_cell hr
  obtain ⟨y, hy, hs, hcc⟩ := hc (by have := (List.getElem?_eq_some_iff.1 hx).1; omega)
  exact ⟨y, hy, hs, hcc i x hx⟩
/-- A record's slice. -/
theorem recsCell {w : World} {a : Option Addr} {n c : Nat} {ls : List Bs} {D : List Nat} (h : RecsAt w (.slice a n c) ls D) {i : Nat} {l : Bs} (hl : ls[i]? = some l) :
    ∃ (y : Addr) (v : Value) (E : List Nat), a = some y ∧ y.spot = none ∧ w.cell? (y.add i) = some v ∧ ReadRow w 1 v (l.map bv) E ∧ ∀ x ∈ E, x ∈ D := by
  obtain ⟨rows, D0, rfl, rfl, ho, hr⟩ := h
  rw [List.getElem?_map] at hl
  cases hq : rows[i]? with
  | none => rw [hq] at hl; cases hl
  | some q =>
    rw [hq] at hl
    simp only [Option.map_some, Option.some.injEq] at hl
    subst hl
    have hm := List.mem_of_getElem? hq
    obtain ⟨y, hy, hs, hc⟩ := ownCell ho (i := i) (x := q.1) (by rw [List.getElem?_map, hq]; rfl)
    exact ⟨y, q.1, q.2.2, hy, hs, hc, (hr q hm).1, fun x hx => by simp only [List.mem_append, List.mem_flatMap]; exact .inr ⟨q, hm, hx⟩⟩
theorem upd_cell {w w' : World} {D' : List Nat} (hu : Upd w w' [] D') {a : Addr} {v : Value} (hc : w.cell? a = some v) : w'.cell? a = some v := by
  have hlt : a.block < w.heap.size := by
    cases hh : w.heap[a.block]? with
    | none => rw [World.cell?, hh] at hc; cases hc
    | some o => exact lt_of_heap hh
  rw [World.cell?_of_block (hu.keep _ hlt (by simp))]; exact hc
theorem RecsAt.take {w : World} {a : Option Addr} {n c : Nat} {ls : List Bs} {D : List Nat} (h : RecsAt w (.slice a n c) ls D) {k : Nat} (hk : k ≤ n) : ∃ D', RecsAt w (.slice a k c) (ls.take k) D' ∧ ∀ x ∈ D', x ∈ D := by
  obtain ⟨rows, D0, rfl, rfl, ho, hr⟩ := h
  have h1 := (ho.take hk).1
  rw [Nat.mul_one] at h1
  refine ⟨D0 ++ (rows.take k).flatMap (·.2.2), ⟨rows.take k, D0, by rw [List.map_take], rfl, by rw [List.map_take]; exact h1, fun r hh => hr r (List.mem_of_mem_take hh)⟩, fun x hx => ?_⟩
  simp only [List.mem_append, List.mem_flatMap] at hx ⊢
  rcases hx with hx | ⟨q, hq, hx⟩
  · exact .inl hx
  · exact .inr ⟨q, List.mem_of_mem_take hq, hx⟩
end Go.Proofs.YtjeaoopamebgjaaGreatDoor

/-
  Sizes of types.
-/
namespace Go.Proofs.YtjeaoopamebgjaaGreatDoor
open Go.RowKit
theorem info5 : (Tryz.prog.info? 5).map (fun i => (i.zero, i.size, i.bytes)) = some (some (.int .u8 0), 1, 1) := by kernel_rfl
theorem infoB : (Tryz.prog.info? 166).map (fun i => (i.zero, i.size, i.bytes)) = some (some (.slice none 0 0), 1, 24) := by kernel_rfl
theorem infoI : (Tryz.prog.info? 3).map (fun i => (i.zero, i.size, i.bytes)) = some (some (.int .i64 0), 1, 8) := by kernel_rfl
end Go.Proofs.YtjeaoopamebgjaaGreatDoor

/-
  The walks of paths: a name.
-/
namespace Go.Proofs.YtjeaoopamebgjaaGreatDoor
open Go.RowKit Go.Av

set_option maxHeartbeats 1000000 in
theorem name_any (s : ByteArray) (w : World) (hs : s.size ≤ maxLen) :
    Calls Tryz.prog 96 #[.string s] w fun e w' => e = .returned (.bool (nameS s.data.toList)) ∧ w' = w := by
  unfold maxLen at hs
  go_enter Tryz.func96, Tryz.ntmps96
  go_wp2_with fail
  go_loop [6] (fun i => ∃ p : Nat, p ≤ s.size ∧ i = .int .i64 p ∧ (s.data.toList.take p).all okCh = true) (fun i => s.size - (intOf i).toNat)
  case atStart => exact ⟨0, Nat.zero_le _, rfl, rfl⟩
  case round =>
    obtain ⟨p, hp, rfl, ha⟩ := hrel
    by_cases hlt : p < s.size
    · have hts : s.data.toList.take (p + 1) = s.data.toList.take p ++ [s[p]] := by
        rw [List.take_succ_eq_append_getElem (by simpa using hlt)]; rfl
      have hok : okCh s[p] = !(decide ((s[p].toNat : Int) < 33) || decide (126 < (s[p].toNat : Int))) := by
        unfold okCh
        congr 2
        · rw [decide_eq_decide, UInt8.lt_iff_toNat_lt, show (33 : UInt8).toNat = 33 from rfl]; omega
        · rw [decide_eq_decide, UInt8.lt_iff_toNat_lt, show (126 : UInt8).toNat = 126 from rfl]; omega
      have hmem : s[p] ∈ s.data.toList := by
        have : s.data.toList[p]'(by simpa using hlt) = s[p] := rfl
        rw [← this]; exact List.getElem_mem _
      have HX := Lib.hid (show _ ∧ _ ∧ _ ∧ _ from ⟨hts, ha, hok, hmem⟩)
      clear hts ha hok hmem
      have hno : okCh s[p] = false → nameS s.data.toList = false := fun h => by
        unfold nameS
        have : s.data.toList.all okCh = false := List.all_eq_false.2 ⟨_, HX.out.2.2.2, by simp [h]⟩
        rw [this]; rfl
      have HN := Lib.hid hno
      clear hno
      by_cases h1 : (s[p].toNat : Int) < 33
      · go_wp2_with fail
        go_ret
        rw [HN.out (by rw [HX.out.2.2.1]; simp [h1])]
        exact ⟨rfl, rfl⟩
      by_cases h2 : 126 < (s[p].toNat : Int)
      · go_wp2_with fail
        go_ret
        rw [HN.out (by rw [HX.out.2.2.1]; simp [h2])]
        exact ⟨rfl, rfl⟩
      go_wp2_with fail
      go_round
      case rel =>
        refine ⟨p + 1, by omega, by go_num, ?_⟩
        rw [HX.out.1, List.all_append, HX.out.2.1, List.all_cons, HX.out.2.2.1]
        simp [h1, h2]
      case measure => simp [intOf]; omega
    obtain rfl : p = s.size := by omega
    rw [List.take_of_length_le (by simp)] at ha
    have hsz : s.size = s.data.toList.length := by simp
    have HA := Lib.hid (show _ ∧ _ from ⟨ha, hsz⟩)
    clear ha hsz
    have hT : s.toList = s.data.toList := Go.Lib.toList_data s
    have hnm : nameS s.data.toList = (decide (1 ≤ s.size) && decide (s.size ≤ 40) && !(s.toList == [46]) && !(s.toList == [46, 46])) := by
      unfold nameS
      rw [HA.out.1, ← HA.out.2, hT]
      rfl
    have HN := Lib.hid hnm
    clear hnm hT
    by_cases h1 : (1 : Int) ≤ s.size
    case neg =>
      go_wp2_with fail
      go_ret
      rw [HN.out, show decide (1 ≤ s.size) = false from decide_eq_false (by omega)]
      exact ⟨rfl, rfl⟩
    by_cases h2 : (s.size : Int) ≤ 40
    case neg =>
      go_wp2_with fail
      go_ret
      rw [HN.out, show decide (s.size ≤ 40) = false from decide_eq_false (by omega), Bool.and_false]
      exact ⟨rfl, rfl⟩
    have hd1 : decide (1 ≤ s.size) = true := decide_eq_true (by omega)
    have hd2 : decide (s.size ≤ 40) = true := decide_eq_true (by omega)
    have HD := Lib.hid (show _ ∧ _ from ⟨hd1, hd2⟩)
    clear hd1 hd2
    go_wp2_with fail
    all_goals
      go_ret
      refine ⟨?_, rfl⟩
      rw [HN.out, HD.out.1, HD.out.2]
      simp [*]
end Go.Proofs.YtjeaoopamebgjaaGreatDoor

/-
  DERIVED: THE SHELF's CONTRACTS AT THIS DUMP, IN PLAIN WORDS (tools/lay-plain.mjs out of 'TryzShelf.lean', which tools/lay-shelf.mjs wrote): THE SAME DECLARATIONS UNDER THE SAME NAMES: 'import', 'namespace', 'open', 'def', 'theorem' AND NOTHING ELSE: no command of the shelf's: FOR A HAND-IN. Each laying: the table of numbers ('.._ren') and one theorem, a field a fact of the dump's own or the kernel's comparison; each contract: ONE APPLICATION.
-/
namespace Go.Proofs
open Go.Shelf
def Tryz.lays170_ren : Go.Shelf.Ren := ⟨fun | 170 => 156 | n => n, fun | 70 => 165 | 3 => 3 | 0 => 0 | 72 => 168 | 37 => 166 | 5 => 5 | n => n, fun | n => n⟩
theorem Tryz.lays170 : Go.Proofs.Lays.n170 Tryz.prog Tryz.lays170_ren := {
  mixed := by kernel_rfl
  f170 := Tryz.func156.trans (congrArg some (by kernel_rfl))
  t0 := Tryz.underlying0
  a0 := Tryz.isAgg0
  z0 := Tryz.sizeOf0
  v0 := Tryz.zeroValue0
  t3 := Tryz.underlying3
  a3 := Tryz.isAgg3
  z3 := Tryz.sizeOf3
  v3 := Tryz.zeroValue3
  t37 := Tryz.underlying166
  a37 := Tryz.isAgg166
  z37 := Tryz.sizeOf166
  v37 := Tryz.zeroValue166
  t70 := Tryz.underlying165
  a70 := Tryz.isAgg165
  z70 := Tryz.sizeOf165
  v70 := Tryz.zeroValue165
  t72 := Tryz.underlying168
  a72 := Tryz.isAgg168
  z72 := Tryz.sizeOf168
  v72 := Tryz.zeroValue168 }
open Go.RowKit in
/-- (*strings.Builder).Len: "Len returns the number of accumulated bytes; b.Len() == len(b.String()).": the world is as it was. (LAID: no walk: one application.) -/
theorem Tryz.Builder_Len (B b : Nat) (bs : List Value) (w : World) (h : Lib.IsBuilder 168 5 B b bs w) :
    Calls Tryz.prog 156 #[.pointer (some ⟨b, 0, none⟩)] w fun e w' => e = .returned (.int .i64 bs.length) ∧ w' = w := Any.Builder_Len Tryz.lays170 B b bs w h
def Tryz.lays169_ren : Go.Shelf.Ren := ⟨fun | 169 => 133 | n => n, fun | 70 => 165 | 9 => 9 | 0 => 0 | 72 => 168 | 37 => 166 | 127 => 188 | 3 => 3 | 5 => 5 | n => n, fun | n => n⟩
theorem Tryz.lays169 : Go.Proofs.Lays.n169 Tryz.prog Tryz.lays169_ren := {
  mixed := by kernel_rfl
  f169 := Tryz.func133.trans (congrArg some (by kernel_rfl))
  t0 := Tryz.underlying0
  a0 := Tryz.isAgg0
  z0 := Tryz.sizeOf0
  v0 := Tryz.zeroValue0
  t3 := Tryz.underlying3
  a3 := Tryz.isAgg3
  z3 := Tryz.sizeOf3
  v3 := Tryz.zeroValue3
  t9 := Tryz.underlying9
  a9 := Tryz.isAgg9
  z9 := Tryz.sizeOf9
  v9 := Tryz.zeroValue9
  t37 := Tryz.underlying166
  a37 := Tryz.isAgg166
  z37 := Tryz.sizeOf166
  v37 := Tryz.zeroValue166
  t70 := Tryz.underlying165
  a70 := Tryz.isAgg165
  z70 := Tryz.sizeOf165
  v70 := Tryz.zeroValue165
  t72 := Tryz.underlying168
  a72 := Tryz.isAgg168
  z72 := Tryz.sizeOf168
  v72 := Tryz.zeroValue168
  t127 := Tryz.underlying188
  a127 := Tryz.isAgg188
  z127 := Tryz.sizeOf188
  v127 := Tryz.zeroValue188 }
theorem Tryz.Builder_Extra_169 : Builder.Extra Tryz.prog Tryz.lays169_ren := {
  sizeBuilder := by kernel_rfl
  liesBuilder := by kernel_rfl
  t5 := Tryz.underlying5
  a5 := Tryz.isAgg5
  z5 := Tryz.sizeOf5
  v5 := Tryz.zeroValue5
  infoByte := by kernel_rfl
  cellsByte := by kernel_rfl
  sizeByte := by kernel_rfl
  neB5 := by decide }
open Go.RowKit in
/-- (*strings.Builder).String: "String returns the accumulated string.": OF A BUILDER THAT HOLDS AT LEAST ONE BYTE. ✋ THE MODEL FREEZES THOSE BYTES IN THE BUFFER (unsafe.String): a later write INTO them ends the model's run without an answer; a later append BEHIND them goes on. The statement's order of evaluation is drawn: one draw. (LAID: no walk: one application.) -/
theorem Tryz.Builder_String (B b : Nat) (l : List UInt8) (w : World) (h : Lib.IsBuilder 168 5 B b (Lib.byteCells l) w) (h0 : l ≠ []) :
    Calls Tryz.prog 133 #[.pointer (some ⟨b, 0, none⟩)] w fun e w' => e = .returned (.string ⟨l.toArray⟩) ∧ Below B w w' := Any.Builder_String Tryz.lays169 Tryz.Builder_Extra_169 B b l w h h0
open Go.RowKit in
/-- (*strings.Builder).String OF A BUILDER THAT HOLDS NO BYTE: the empty string. (Its buffer is nil, or a row of which it has taken nothing yet; where that row has NO capacity the model lays one new block for unsafe.SliceData's 'some address'.) One draw. (LAID: no walk: one application.) -/
theorem Tryz.Builder_String_empty (B b : Nat) (w : World) (h : Lib.IsBuilder 168 5 B b [] w) (hBw : B ≤ w.heap.size) :
    Calls Tryz.prog 133 #[.pointer (some ⟨b, 0, none⟩)] w fun e w' => e = .returned (.string ⟨#[]⟩) ∧ Below B w w' := Any.Builder_String_empty Tryz.lays169 Tryz.Builder_Extra_169 B b w h hBw
open Go.RowKit in
/-- (*strings.Builder).String: "String returns the accumulated string.": WHATEVER THE BUILDER HOLDS. (LAID: no walk: one application.) -/
theorem Tryz.Builder_String_any (B b : Nat) (l : List UInt8) (w : World) (h : Lib.IsBuilder 168 5 B b (Lib.byteCells l) w) (hBw : B ≤ w.heap.size) :
    Calls Tryz.prog 133 #[.pointer (some ⟨b, 0, none⟩)] w fun e w' => e = .returned (.string ⟨l.toArray⟩) ∧ Below B w w' := Any.Builder_String_any Tryz.lays169 Tryz.Builder_Extra_169 B b l w h hBw
def Tryz.lays241_ren : Go.Shelf.Ren := ⟨fun | 241 => 152 | 277 => 166 | n => n, fun | 70 => 165 | 3 => 3 | 0 => 0 | 72 => 168 | 37 => 166 | 5 => 5 | n => n, fun | n => n⟩
theorem Tryz.lays241 : Go.Proofs.Lays.n241 Tryz.prog Tryz.lays241_ren := {
  mixed := by kernel_rfl
  f241 := Tryz.func152.trans (congrArg some (by kernel_rfl))
  f277 := Tryz.func166.trans (congrArg some (by kernel_rfl))
  t0 := Tryz.underlying0
  a0 := Tryz.isAgg0
  z0 := Tryz.sizeOf0
  v0 := Tryz.zeroValue0
  t3 := Tryz.underlying3
  a3 := Tryz.isAgg3
  z3 := Tryz.sizeOf3
  v3 := Tryz.zeroValue3
  t37 := Tryz.underlying166
  a37 := Tryz.isAgg166
  z37 := Tryz.sizeOf166
  v37 := Tryz.zeroValue166
  t70 := Tryz.underlying165
  a70 := Tryz.isAgg165
  z70 := Tryz.sizeOf165
  v70 := Tryz.zeroValue165
  t72 := Tryz.underlying168
  a72 := Tryz.isAgg168
  z72 := Tryz.sizeOf168
  v72 := Tryz.zeroValue168 }
theorem Tryz.Builder_Extra_241 : Builder.Extra Tryz.prog Tryz.lays241_ren := {
  sizeBuilder := by kernel_rfl
  liesBuilder := by kernel_rfl
  t5 := Tryz.underlying5
  a5 := Tryz.isAgg5
  z5 := Tryz.sizeOf5
  v5 := Tryz.zeroValue5
  infoByte := by kernel_rfl
  cellsByte := by kernel_rfl
  sizeByte := by kernel_rfl
  neB5 := by decide }
open Go.RowKit in
/-- (*strings.Builder).grow (no doc but "grow copies the buffer to a new, larger buffer so that there are at least n bytes of capacity beyond len(b.buf)."): AT A BUILDER WITHOUT A BUFFER: a new row of whatever bytes for its buffer, none of them its own yet. Three draws. (LAID: no walk: one application.) -/
theorem Tryz.Builder_grow_fresh (B b n : Nat) (w : World) (hB : B ≤ b) (hbk : w.heap[b]? = some (.cells #[.pointer (some ⟨b, 0, none⟩), .slice none 0 0] 168 (0, 0))) (hBw : B ≤ w.heap.size) (hn : n ≤ 281474976710656) :
    Calls Tryz.prog 152 #[.pointer (some ⟨b, 0, none⟩), .int .i64 n] w fun e w' => e = .returned (.tuple #[]) ∧ (Lib.BuilderAt 168 5 B b (.pointer (some ⟨b, 0, none⟩)) [] w' ∧ Below B w w') := Any.Builder_grow_fresh Tryz.lays241 Tryz.Builder_Extra_241 B b n w hB hbk hBw hn
def Tryz.lays165_ren : Go.Shelf.Ren := ⟨fun | 165 => 131 | 240 => 151 | 241 => 152 | 276 => 165 | 277 => 166 | n => n, fun | 70 => 165 | 3 => 3 | 0 => 0 | 4 => 4 | 9 => 9 | 20 => 20 | 72 => 168 | 37 => 166 | 164 => 195 | 5 => 5 | n => n, fun | n => n⟩
theorem Tryz.lays165 : Go.Proofs.Lays.n165 Tryz.prog Tryz.lays165_ren := {
  mixed := by kernel_rfl
  f165 := Tryz.func131.trans (congrArg some (by kernel_rfl))
  f240 := Tryz.func151.trans (congrArg some (by kernel_rfl))
  f241 := Tryz.func152.trans (congrArg some (by kernel_rfl))
  f276 := Tryz.func165.trans (congrArg some (by kernel_rfl))
  f277 := Tryz.func166.trans (congrArg some (by kernel_rfl))
  t0 := Tryz.underlying0
  a0 := Tryz.isAgg0
  z0 := Tryz.sizeOf0
  v0 := Tryz.zeroValue0
  t3 := Tryz.underlying3
  a3 := Tryz.isAgg3
  z3 := Tryz.sizeOf3
  v3 := Tryz.zeroValue3
  t4 := Tryz.underlying4
  a4 := Tryz.isAgg4
  z4 := Tryz.sizeOf4
  v4 := Tryz.zeroValue4
  t9 := Tryz.underlying9
  a9 := Tryz.isAgg9
  z9 := Tryz.sizeOf9
  v9 := Tryz.zeroValue9
  t20 := Tryz.underlying20
  a20 := Tryz.isAgg20
  z20 := Tryz.sizeOf20
  v20 := Tryz.zeroValue20
  t37 := Tryz.underlying166
  a37 := Tryz.isAgg166
  z37 := Tryz.sizeOf166
  v37 := Tryz.zeroValue166
  t70 := Tryz.underlying165
  a70 := Tryz.isAgg165
  z70 := Tryz.sizeOf165
  v70 := Tryz.zeroValue165
  t72 := Tryz.underlying168
  a72 := Tryz.isAgg168
  z72 := Tryz.sizeOf168
  v72 := Tryz.zeroValue168
  t164 := Tryz.underlying195
  a164 := Tryz.isAgg195
  z164 := Tryz.sizeOf195
  v164 := Tryz.zeroValue195 }
theorem Tryz.Builder_Extra_165 : Builder.Extra Tryz.prog Tryz.lays165_ren := {
  sizeBuilder := by kernel_rfl
  liesBuilder := by kernel_rfl
  t5 := Tryz.underlying5
  a5 := Tryz.isAgg5
  z5 := Tryz.sizeOf5
  v5 := Tryz.zeroValue5
  infoByte := by kernel_rfl
  cellsByte := by kernel_rfl
  sizeByte := by kernel_rfl
  neB5 := by decide }
open Go.RowKit in
/-- (*strings.Builder).Grow AT A BUILDER THAT HAS NOT BEEN WRITTEN ('var b strings.Builder; b.Grow(n)'): "Grow grows b's capacity, if necessary, to guarantee space for another n bytes.": it holds no byte behind it as before it. (LAID: no walk: one application.) -/
theorem Tryz.Builder_Grow_fresh (B b n : Nat) (w : World) (hB : B ≤ b) (hbk : w.heap[b]? = some (.cells #[.pointer none, .slice none 0 0] 168 (0, 0))) (hBw : B ≤ w.heap.size) (hn : n ≤ 281474976710656) :
    Calls Tryz.prog 131 #[.pointer (some ⟨b, 0, none⟩), .int .i64 n] w fun e w' => e = .returned (.tuple #[]) ∧ (Lib.BuilderAt 168 5 B b (.pointer (some ⟨b, 0, none⟩)) [] w' ∧ Below B w w') := Any.Builder_Grow_fresh Tryz.lays165 Tryz.Builder_Extra_165 B b n w hB hbk hBw hn
def Tryz.lays156_ren : Go.Shelf.Ren := ⟨fun | 156 => 98 | 165 => 131 | 166 => 132 | 169 => 133 | 240 => 151 | 241 => 152 | 276 => 165 | 277 => 166 | n => n, fun | 31 => 29 | 9 => 9 | 3 => 3 | 4 => 4 | 0 => 0 | 20 => 20 | 72 => 168 | 76 => 171 | 70 => 165 | 37 => 166 | 75 => 170 | 127 => 188 | 164 => 195 | 5 => 5 | 80 => 173 | n => n, fun | n => n⟩
theorem Tryz.lays156 : Go.Proofs.Lays.n156 Tryz.prog Tryz.lays156_ren := {
  mixed := by kernel_rfl
  f156 := Tryz.func98.trans (congrArg some (by kernel_rfl))
  f165 := Tryz.func131.trans (congrArg some (by kernel_rfl))
  f166 := Tryz.func132.trans (congrArg some (by kernel_rfl))
  f169 := Tryz.func133.trans (congrArg some (by kernel_rfl))
  f240 := Tryz.func151.trans (congrArg some (by kernel_rfl))
  f241 := Tryz.func152.trans (congrArg some (by kernel_rfl))
  f276 := Tryz.func165.trans (congrArg some (by kernel_rfl))
  f277 := Tryz.func166.trans (congrArg some (by kernel_rfl))
  t0 := Tryz.underlying0
  a0 := Tryz.isAgg0
  z0 := Tryz.sizeOf0
  v0 := Tryz.zeroValue0
  t3 := Tryz.underlying3
  a3 := Tryz.isAgg3
  z3 := Tryz.sizeOf3
  v3 := Tryz.zeroValue3
  t4 := Tryz.underlying4
  a4 := Tryz.isAgg4
  z4 := Tryz.sizeOf4
  v4 := Tryz.zeroValue4
  t9 := Tryz.underlying9
  a9 := Tryz.isAgg9
  z9 := Tryz.sizeOf9
  v9 := Tryz.zeroValue9
  t20 := Tryz.underlying20
  a20 := Tryz.isAgg20
  z20 := Tryz.sizeOf20
  v20 := Tryz.zeroValue20
  t31 := Tryz.underlying29
  a31 := Tryz.isAgg29
  z31 := Tryz.sizeOf29
  v31 := Tryz.zeroValue29
  t37 := Tryz.underlying166
  a37 := Tryz.isAgg166
  z37 := Tryz.sizeOf166
  v37 := Tryz.zeroValue166
  t70 := Tryz.underlying165
  a70 := Tryz.isAgg165
  z70 := Tryz.sizeOf165
  v70 := Tryz.zeroValue165
  t72 := Tryz.underlying168
  a72 := Tryz.isAgg168
  z72 := Tryz.sizeOf168
  v72 := Tryz.zeroValue168
  t75 := Tryz.underlying170
  a75 := Tryz.isAgg170
  z75 := Tryz.sizeOf170
  v75 := Tryz.zeroValue170
  t76 := Tryz.underlying171
  a76 := Tryz.isAgg171
  z76 := Tryz.sizeOf171
  v76 := Tryz.zeroValue171
  t127 := Tryz.underlying188
  a127 := Tryz.isAgg188
  z127 := Tryz.sizeOf188
  v127 := Tryz.zeroValue188
  t164 := Tryz.underlying195
  a164 := Tryz.isAgg195
  z164 := Tryz.sizeOf195
  v164 := Tryz.zeroValue195 }
theorem Tryz.Builder_Extra_156 : Builder.Extra Tryz.prog Tryz.lays156_ren := {
  sizeBuilder := by kernel_rfl
  liesBuilder := by kernel_rfl
  t5 := Tryz.underlying5
  a5 := Tryz.isAgg5
  z5 := Tryz.sizeOf5
  v5 := Tryz.zeroValue5
  infoByte := by kernel_rfl
  cellsByte := by kernel_rfl
  sizeByte := by kernel_rfl
  neB5 := by decide }
open Go.RowKit in
/-- No element: the empty string; the world is as it was. (Whatever the slice's address and capacity: a nil slice too.) (LAID: no walk: one application.) -/
theorem Tryz.strings_Join_none (a : Option Addr) (c : Nat) (sep : ByteArray) (w : World) :
    Calls Tryz.prog 98 #[.slice a 0 c, .string sep] w fun e w' => e = .returned (.string ⟨#[]⟩) ∧ w' = w := Any.strings_Join_none Tryz.lays156 Tryz.Builder_Extra_156 a c sep w
open Go.RowKit in
/-- strings.Join: "Join concatenates the elements of its first argument to create a single string. The separator string sep is placed between elements in the resulting string.": HOWEVER MANY ELEMENTS. Below the heap's end the world is as it was. (LAID: no walk: one application.) -/
theorem Tryz.strings_Join (bk o c : Nat) (xs : List ByteArray) (sep : ByteArray) (w : World) (hcells : ∀ (j : Nat) x, xs[j]? = some x → w.cell? ⟨bk, o + j, none⟩ = some (.string x)) (hbk : bk < w.heap.size) (hN : xs.length ≤ 140737488355328) (hcap : xs.length ≤ c) (hlen : (Lib.join (xs.map (·.data.toList)) sep.data.toList).length ≤ 140737488355328) :
    Calls Tryz.prog 98 #[.slice (some ⟨bk, o, none⟩) xs.length c, .string sep] w fun e w' => e = .returned (.string ⟨(Lib.join (xs.map (·.data.toList)) sep.data.toList).toArray⟩) ∧ Below w.heap.size w w' := Any.strings_Join Tryz.lays156 Tryz.Builder_Extra_156 bk o c xs sep w hcells hbk hN hcap hlen
def Tryz.lays128_ren : Go.Shelf.Ren := ⟨fun | 128 => 124 | n => n, fun | 51 => 161 | 3 => 3 | 4 => 4 | 46 => 137 | 5 => 5 | 9 => 9 | n => n, fun | n => n⟩
theorem Tryz.lays128 : Go.Proofs.Lays.n128 Tryz.prog Tryz.lays128_ren := {
  mixed := by kernel_rfl
  f128 := Tryz.func124.trans (congrArg some (by kernel_rfl))
  t3 := Tryz.underlying3
  a3 := Tryz.isAgg3
  z3 := Tryz.sizeOf3
  v3 := Tryz.zeroValue3
  t4 := Tryz.underlying4
  a4 := Tryz.isAgg4
  z4 := Tryz.sizeOf4
  v4 := Tryz.zeroValue4
  t5 := Tryz.underlying5
  a5 := Tryz.isAgg5
  z5 := Tryz.sizeOf5
  v5 := Tryz.zeroValue5
  t9 := Tryz.underlying9
  a9 := Tryz.isAgg9
  z9 := Tryz.sizeOf9
  v9 := Tryz.zeroValue9
  t46 := Tryz.underlying137
  a46 := Tryz.isAgg137
  z46 := Tryz.sizeOf137
  v46 := Tryz.zeroValue137
  t51 := Tryz.underlying161
  a51 := Tryz.isAgg161
  z51 := Tryz.sizeOf161
  v51 := Tryz.zeroValue161 }
/-- bits.Len32: "Len32 returns the minimum number of bits required to represent x; the result is 0 for x == 0.": IT RETURNS 'Lib.bitLen x'; the world is as it was. ('h0', 'h1': x is a uint32.) (LAID: no walk: one application.) -/
theorem Tryz.bits_Len32 (x : Int) (w : World) (h0 : 0 ≤ x) (h1 : x ≤ 4294967295) :
    Calls Tryz.prog 124 #[.int .u32 x] w fun e w' => e = .returned (.int .i64 (Lib.bitLen x.toNat)) ∧ w' = w := Any.bits_Len32 Tryz.lays128 x w h0 h1
def Tryz.lays125_ren : Go.Shelf.Ren := ⟨fun | 125 => 92 | 128 => 124 | 129 => 125 | n => n, fun | 46 => 137 | 3 => 3 | 51 => 161 | 53 => 163 | 4 => 4 | 5 => 5 | 9 => 9 | n => n, fun | n => n⟩
theorem Tryz.lays125 : Go.Proofs.Lays.n125 Tryz.prog Tryz.lays125_ren := {
  mixed := by kernel_rfl
  f125 := Tryz.func92.trans (congrArg some (by kernel_rfl))
  f128 := Tryz.func124.trans (congrArg some (by kernel_rfl))
  f129 := Tryz.func125.trans (congrArg some (by kernel_rfl))
  t3 := Tryz.underlying3
  a3 := Tryz.isAgg3
  z3 := Tryz.sizeOf3
  v3 := Tryz.zeroValue3
  t4 := Tryz.underlying4
  a4 := Tryz.isAgg4
  z4 := Tryz.sizeOf4
  v4 := Tryz.zeroValue4
  t5 := Tryz.underlying5
  a5 := Tryz.isAgg5
  z5 := Tryz.sizeOf5
  v5 := Tryz.zeroValue5
  t9 := Tryz.underlying9
  a9 := Tryz.isAgg9
  z9 := Tryz.sizeOf9
  v9 := Tryz.zeroValue9
  t46 := Tryz.underlying137
  a46 := Tryz.isAgg137
  z46 := Tryz.sizeOf137
  v46 := Tryz.zeroValue137
  t51 := Tryz.underlying161
  a51 := Tryz.isAgg161
  z51 := Tryz.sizeOf161
  v51 := Tryz.zeroValue161
  t53 := Tryz.underlying163
  a53 := Tryz.isAgg163
  z53 := Tryz.sizeOf163
  v53 := Tryz.zeroValue163 }
/-- bits.Len: "Len returns the minimum number of bits required to represent x; the result is 0 for x == 0.": IT RETURNS 'Lib.bitLen x'; the world is as it was. (A uint has 64 bits in the model.) ITS CALLEE bits.Len64 IS MET BY ITS OWN CONTRACT OFF THE SHELF (lay that first). (LAID: no walk: one application.) -/
theorem Tryz.bits_Len (x : Int) (w : World) (h0 : 0 ≤ x) (h1 : x ≤ 18446744073709551615) :
    Calls Tryz.prog 92 #[.int .u64 x] w fun e w' => e = .returned (.int .i64 (Lib.bitLen x.toNat)) ∧ w' = w := Any.bits_Len Tryz.lays125 x w h0 h1
def Tryz.lays210_ren : Go.Shelf.Ren := ⟨fun | 210 => 127 | 206 => 146 | n => n, fun | 9 => 9 | 4 => 4 | 3 => 3 | n => n, fun | n => n⟩
theorem Tryz.lays210 : Go.Proofs.Lays.n210 Tryz.prog Tryz.lays210_ren := {
  mixed := by kernel_rfl
  f206 := Tryz.func146.trans (congrArg some (by kernel_rfl))
  f210 := Tryz.func127.trans (congrArg some (by kernel_rfl))
  t3 := Tryz.underlying3
  a3 := Tryz.isAgg3
  z3 := Tryz.sizeOf3
  v3 := Tryz.zeroValue3
  t4 := Tryz.underlying4
  a4 := Tryz.isAgg4
  z4 := Tryz.sizeOf4
  v4 := Tryz.zeroValue4
  t9 := Tryz.underlying9
  a9 := Tryz.isAgg9
  z9 := Tryz.sizeOf9
  v9 := Tryz.zeroValue9 }
open Go.RowKit in
/-- internal/stringslite.CutPrefix (what strings.CutPrefix calls). (LAID: no walk: one application.) -/
theorem Tryz.stringslite_CutPrefix (s p : ByteArray) (w : World) :
    Calls Tryz.prog 127 #[.string s, .string p] w fun e w' => e = .returned (.tuple #[.string ⟨(Lib.trimPrefix s.data.toList p.data.toList).toArray⟩, .bool (Lib.hasPrefix s.data.toList p.data.toList)]) ∧ w' = w := Any.stringslite_CutPrefix Tryz.lays210 s p w
def Tryz.lays103_ren : Go.Shelf.Ren := ⟨fun | 103 => 95 | 210 => 127 | 206 => 146 | n => n, fun | 9 => 9 | 4 => 4 | 24 => 119 | 3 => 3 | n => n, fun | n => n⟩
theorem Tryz.lays103 : Go.Proofs.Lays.n103 Tryz.prog Tryz.lays103_ren := {
  mixed := by kernel_rfl
  f103 := Tryz.func95.trans (congrArg some (by kernel_rfl))
  f206 := Tryz.func146.trans (congrArg some (by kernel_rfl))
  f210 := Tryz.func127.trans (congrArg some (by kernel_rfl))
  t3 := Tryz.underlying3
  a3 := Tryz.isAgg3
  z3 := Tryz.sizeOf3
  v3 := Tryz.zeroValue3
  t4 := Tryz.underlying4
  a4 := Tryz.isAgg4
  z4 := Tryz.sizeOf4
  v4 := Tryz.zeroValue4
  t9 := Tryz.underlying9
  a9 := Tryz.isAgg9
  z9 := Tryz.sizeOf9
  v9 := Tryz.zeroValue9
  t24 := Tryz.underlying119
  a24 := Tryz.isAgg119
  z24 := Tryz.sizeOf119
  v24 := Tryz.zeroValue119 }
open Go.RowKit in
/-- strings.CutPrefix: "CutPrefix returns s without the provided leading prefix string and reports whether it found the prefix. If s doesn't start with prefix, CutPrefix returns s, false. If prefix is the empty string, CutPrefix returns s, true.": IT RETURNS '(Lib.trimPrefix s p, Lib.hasPrefix s p)'; the world is as it was. (LAID: no walk: one application.) -/
theorem Tryz.strings_CutPrefix (s p : ByteArray) (w : World) :
    Calls Tryz.prog 95 #[.string s, .string p] w fun e w' => e = .returned (.tuple #[.string ⟨(Lib.trimPrefix s.data.toList p.data.toList).toArray⟩, .bool (Lib.hasPrefix s.data.toList p.data.toList)]) ∧ w' = w := Any.strings_CutPrefix Tryz.lays103 s p w
def Tryz.lays215_ren : Go.Shelf.Ren := ⟨fun | 215 => 64 | n => n, fun | 3 => 3 | 4 => 4 | n => n, fun | n => n⟩
theorem Tryz.lays215 : Go.Proofs.Lays.n215 Tryz.prog Tryz.lays215_ren := {
  mixed := by kernel_rfl
  f215 := Tryz.func64.trans (congrArg some (by kernel_rfl))
  t3 := Tryz.underlying3
  a3 := Tryz.isAgg3
  z3 := Tryz.sizeOf3
  v3 := Tryz.zeroValue3
  t4 := Tryz.underlying4
  a4 := Tryz.isAgg4
  z4 := Tryz.sizeOf4
  v4 := Tryz.zeroValue4 }
open Go.RowKit in
/-- cmp.isNaN at int: 'x != x': false. (LAID: no walk: one application.) -/
theorem Tryz.cmp_isNaN_int (x : Int) (w : World) :
    Calls Tryz.prog 64 #[.int .i64 x] w fun e w' => e = .returned (.bool false) ∧ w' = w := Any.cmp_isNaN_int Tryz.lays215 x w
def Tryz.lays122_ren : Go.Shelf.Ren := ⟨fun | 122 => 40 | 215 => 64 | n => n, fun | 3 => 3 | 4 => 4 | n => n, fun | n => n⟩
theorem Tryz.lays122 : Go.Proofs.Lays.n122 Tryz.prog Tryz.lays122_ren := {
  mixed := by kernel_rfl
  f122 := Tryz.func40.trans (congrArg some (by kernel_rfl))
  f215 := Tryz.func64.trans (congrArg some (by kernel_rfl))
  t3 := Tryz.underlying3
  a3 := Tryz.isAgg3
  z3 := Tryz.sizeOf3
  v3 := Tryz.zeroValue3
  t4 := Tryz.underlying4
  a4 := Tryz.isAgg4
  z4 := Tryz.sizeOf4
  v4 := Tryz.zeroValue4 }
open Go.RowKit in
/-- cmp.Compare at int: "Compare returns -1 if x is less than y, 0 if x equals y, +1 if x is greater than y.": IT RETURNS 'Lib.compareInt x y'; the world is as it was. (LAID: no walk: one application.) -/
theorem Tryz.cmp_Compare_int (x y : Int) (w : World) :
    Calls Tryz.prog 40 #[.int .i64 x, .int .i64 y] w fun e w' => e = .returned (.int .i64 (Lib.compareInt x y)) ∧ w' = w := Any.cmp_Compare_int Tryz.lays122 x y w
open Go.RowKit in
/-- (*strings.Builder).Len: "Len returns the number of accumulated bytes; b.Len() == len(b.String()).": the world is as it was. (THE FORM '_f': 'Lib.IsBuilderF'.) (LAID: no walk: one application.) -/
theorem Tryz.Builder_Len_f (B b : Nat) (bs : List Value) (w : World) (h : Lib.IsBuilderF 168 5 B b bs w) :
    Calls Tryz.prog 156 #[.pointer (some ⟨b, 0, none⟩)] w fun e w' => e = .returned (.int .i64 bs.length) ∧ w' = w := Any.Builder_Len_f Tryz.lays170 B b bs w h
open Go.RowKit in
/-- (*strings.Builder).String: "String returns the accumulated string.": OF A BUILDER THAT HOLDS AT LEAST ONE BYTE. ✋ THE MODEL FREEZES THOSE BYTES IN THE BUFFER (unsafe.String): a later write INTO them ends the model's run without an answer; a later append BEHIND them goes on. The statement's order of evaluation is drawn: one draw. THE FORM '_f': IT SAYS BESIDES THAT THE BUILDER IS A BUILDER STILL ('Lib.IsBuilderF', the same bytes): SO IT CAN BE WRITTEN ON: 'b.WriteString(b.String()[:k])'. (LAID: no walk: one application.) -/
theorem Tryz.Builder_String_f (B b : Nat) (l : List UInt8) (w : World) (h : Lib.IsBuilderF 168 5 B b (Lib.byteCells l) w) (h0 : l ≠ []) :
    Calls Tryz.prog 133 #[.pointer (some ⟨b, 0, none⟩)] w fun e w' => e = .returned (.string ⟨l.toArray⟩) ∧ (Lib.IsBuilderF 168 5 B b (Lib.byteCells l) w' ∧ Below B w w') := Any.Builder_String_f Tryz.lays169 Tryz.Builder_Extra_169 B b l w h h0
open Go.RowKit in
/-- (*strings.Builder).String OF A BUILDER THAT HOLDS NO BYTE: the empty string; THE FORM '_f': a builder still. (LAID: no walk: one application.) -/
theorem Tryz.Builder_String_empty_f (B b : Nat) (w : World) (h : Lib.IsBuilderF 168 5 B b [] w) (hBw : B ≤ w.heap.size) :
    Calls Tryz.prog 133 #[.pointer (some ⟨b, 0, none⟩)] w fun e w' => e = .returned (.string ⟨#[]⟩) ∧ (Lib.IsBuilderF 168 5 B b [] w' ∧ Below B w w') := Any.Builder_String_empty_f Tryz.lays169 Tryz.Builder_Extra_169 B b w h hBw
open Go.RowKit in
/-- (*strings.Builder).String: "String returns the accumulated string.": WHATEVER THE BUILDER HOLDS; THE FORM '_f': OF A BUILDER THAT MAY HAVE BEEN READ BEFORE; AND IT IS A BUILDER STILL, holding the same bytes: it can be written on. (LAID: no walk: one application.) -/
theorem Tryz.Builder_String_any_f (B b : Nat) (l : List UInt8) (w : World) (h : Lib.IsBuilderF 168 5 B b (Lib.byteCells l) w) (hBw : B ≤ w.heap.size) :
    Calls Tryz.prog 133 #[.pointer (some ⟨b, 0, none⟩)] w fun e w' => e = .returned (.string ⟨l.toArray⟩) ∧ (Lib.IsBuilderF 168 5 B b (Lib.byteCells l) w' ∧ Below B w w') := Any.Builder_String_any_f Tryz.lays169 Tryz.Builder_Extra_169 B b l w h hBw
open Go.RowKit in
/-- (*strings.Builder).String: "String returns the accumulated string.": OF A BUILDER THAT HOLDS AT LEAST ONE BYTE. ✋ THE MODEL FREEZES THOSE BYTES IN THE BUFFER (unsafe.String): a later write INTO them ends the model's run without an answer; a later append BEHIND them goes on. The statement's order of evaluation is drawn: one draw. THE FORM '_k': OVER 'Lib.IsBuilderF' (a builder that 'String()' may have read), AND WITH THE FRAME THAT REACHES ABOVE THE BUILDER: 'Lib.OthersKept': every block that is not b and is no row of uint8's stands as it stood: the iterator of a range among them. (LAID: no walk: one application.) -/
theorem Tryz.Builder_String_k (B b : Nat) (l : List UInt8) (w : World) (h : Lib.IsBuilderF 168 5 B b (Lib.byteCells l) w) (h0 : l ≠ []) :
    Calls Tryz.prog 133 #[.pointer (some ⟨b, 0, none⟩)] w fun e w' => e = .returned (.string ⟨l.toArray⟩) ∧ (Lib.IsBuilderF 168 5 B b (Lib.byteCells l) w' ∧ Below B w w' ∧ Lib.OthersKept 5 (some b) w w') := Any.Builder_String_k Tryz.lays169 Tryz.Builder_Extra_169 B b l w h h0
open Go.RowKit in
/-- (*strings.Builder).String OF A BUILDER THAT HOLDS NO BYTE: the empty string; THE FORM '_k': OVER 'Lib.IsBuilderF' (a builder that 'String()' may have read), AND WITH THE FRAME THAT REACHES ABOVE THE BUILDER: 'Lib.OthersKept': every block that is not b and is no row of uint8's stands as it stood: the iterator of a range among them. (LAID: no walk: one application.) -/
theorem Tryz.Builder_String_empty_k (B b : Nat) (w : World) (h : Lib.IsBuilderF 168 5 B b [] w) (hBw : B ≤ w.heap.size) :
    Calls Tryz.prog 133 #[.pointer (some ⟨b, 0, none⟩)] w fun e w' => e = .returned (.string ⟨#[]⟩) ∧ (Lib.IsBuilderF 168 5 B b [] w' ∧ Below B w w' ∧ Lib.OthersKept 5 (some b) w w') := Any.Builder_String_empty_k Tryz.lays169 Tryz.Builder_Extra_169 B b w h hBw
open Go.RowKit in
/-- (*strings.Builder).String: "String returns the accumulated string.": WHATEVER THE BUILDER HOLDS; THE FORM '_k': OVER 'Lib.IsBuilderF' (a builder that 'String()' may have read), AND WITH THE FRAME THAT REACHES ABOVE THE BUILDER: 'Lib.OthersKept': every block that is not b and is no row of uint8's stands as it stood: the iterator of a range among them. (LAID: no walk: one application.) -/
theorem Tryz.Builder_String_any_k (B b : Nat) (l : List UInt8) (w : World) (h : Lib.IsBuilderF 168 5 B b (Lib.byteCells l) w) (hBw : B ≤ w.heap.size) :
    Calls Tryz.prog 133 #[.pointer (some ⟨b, 0, none⟩)] w fun e w' => e = .returned (.string ⟨l.toArray⟩) ∧ (Lib.IsBuilderF 168 5 B b (Lib.byteCells l) w' ∧ Below B w w' ∧ Lib.OthersKept 5 (some b) w w') := Any.Builder_String_any_k Tryz.lays169 Tryz.Builder_Extra_169 B b l w h hBw
def Tryz.lays195_ren : Go.Shelf.Ren := ⟨fun | 195 => 147 | n => n, fun | 9 => 9 | 3 => 3 | 0 => 0 | 4 => 4 | n => n, fun | n => n⟩
theorem Tryz.lays195 : Go.Proofs.Lays.n195 Tryz.prog Tryz.lays195_ren := {
  mixed := by kernel_rfl
  f195 := Tryz.func147.trans (congrArg some (by kernel_rfl))
  t0 := Tryz.underlying0
  a0 := Tryz.isAgg0
  z0 := Tryz.sizeOf0
  v0 := Tryz.zeroValue0
  t3 := Tryz.underlying3
  a3 := Tryz.isAgg3
  z3 := Tryz.sizeOf3
  v3 := Tryz.zeroValue3
  t4 := Tryz.underlying4
  a4 := Tryz.isAgg4
  z4 := Tryz.sizeOf4
  v4 := Tryz.zeroValue4
  t9 := Tryz.underlying9
  a9 := Tryz.isAgg9
  z9 := Tryz.sizeOf9
  v9 := Tryz.zeroValue9 }
open Go.RowKit in
/-- unicode/utf8.RuneCountInString: "RuneCountInString is like RuneCount but its input is a string." ("RuneCount returns the number of runes in p. Erroneous and short encodings are treated as single runes of width 1 byte."): EVERY STRING, valid UTF-8 or not: 'Lib.runeCount s' (plain Lean over the model's own 'Utf8.decode'; 'Lib.runeCount_le': at most len(s); 'Lib.runeCount_ascii': on ASCII: len(s)). THE ONE CONDITION: len(s) below 2^63 - 1 (the counter does not wrap): the form's reach pays it. THE WORLD BEHIND THE CALL: ONE BLOCK MORE: the model's iterator over s, at its end: all else as it was. (LAID: no walk: one application.) -/
theorem Tryz.utf8_RuneCountInString (s : ByteArray) (w : World) (hs : s.size < 9223372036854775807) :
    Calls Tryz.prog 147 #[.string s] w fun e w' => e = .returned (.int .i64 (Lib.runeCount s)) ∧ ∃ pos, w' = w.iter s pos := Any.utf8_RuneCountInString Tryz.lays195 s w hs
def Tryz.lays129_ren : Go.Shelf.Ren := ⟨fun | 129 => 125 | n => n, fun | 53 => 163 | 3 => 3 | 4 => 4 | 46 => 137 | 5 => 5 | 9 => 9 | n => n, fun | n => n⟩
theorem Tryz.lays129 : Go.Proofs.Lays.n129 Tryz.prog Tryz.lays129_ren := {
  mixed := by kernel_rfl
  f129 := Tryz.func125.trans (congrArg some (by kernel_rfl))
  t3 := Tryz.underlying3
  a3 := Tryz.isAgg3
  z3 := Tryz.sizeOf3
  v3 := Tryz.zeroValue3
  t4 := Tryz.underlying4
  a4 := Tryz.isAgg4
  z4 := Tryz.sizeOf4
  v4 := Tryz.zeroValue4
  t5 := Tryz.underlying5
  a5 := Tryz.isAgg5
  z5 := Tryz.sizeOf5
  v5 := Tryz.zeroValue5
  t9 := Tryz.underlying9
  a9 := Tryz.isAgg9
  z9 := Tryz.sizeOf9
  v9 := Tryz.zeroValue9
  t46 := Tryz.underlying137
  a46 := Tryz.isAgg137
  z46 := Tryz.sizeOf137
  v46 := Tryz.zeroValue137
  t53 := Tryz.underlying163
  a53 := Tryz.isAgg163
  z53 := Tryz.sizeOf163
  v53 := Tryz.zeroValue163 }
/-- bits.Len64: "Len64 returns the minimum number of bits required to represent x; the result is 0 for x == 0.": IT RETURNS 'Lib.bitLen x'; the world is as it was. ('h0', 'h1': x is a uint64.) (LAID: no walk: one application.) -/
theorem Tryz.bits_Len64 (x : Int) (w : World) (h0 : 0 ≤ x) (h1 : x ≤ 18446744073709551615) :
    Calls Tryz.prog 125 #[.int .u64 x] w fun e w' => e = .returned (.int .i64 (Lib.bitLen x.toNat)) ∧ w' = w := Any.bits_Len64 Tryz.lays129 x w h0 h1
def Tryz.lays317_ren : Go.Shelf.Ren := ⟨fun | 317 => 178 | n => n, fun | 3 => 3 | 46 => 137 | n => n, fun | n => n⟩
theorem Tryz.lays317 : Go.Proofs.Lays.n317 Tryz.prog Tryz.lays317_ren := {
  mixed := by kernel_rfl
  f317 := Tryz.func178.trans (congrArg some (by kernel_rfl))
  t3 := Tryz.underlying3
  a3 := Tryz.isAgg3
  z3 := Tryz.sizeOf3
  v3 := Tryz.zeroValue3
  t46 := Tryz.underlying137
  a46 := Tryz.isAgg137
  z46 := Tryz.sizeOf137
  v46 := Tryz.zeroValue137 }
open Go.Lib in
/-- internal/strconv.log10Pow2: "log10Pow2(x) returns ⌊log₁₀ 2**x⌋ = ⌊x * log₁₀ 2⌋.": '(x * 78913) >> 18', at an x up to 64 (a length in bits). The world is as it was. (LAID: no walk: one application.) -/
theorem Tryz.internal_strconv_log10Pow2 (x : Nat) (h : x ≤ 64) (w : World) :
    Calls Tryz.prog 178 #[.int .i64 x] w fun e w' => e = .returned (.int .i64 (Lib.l10 x)) ∧ w' = w := Any.internal_strconv_log10Pow2 Tryz.lays317 x h w
def Tryz.lays318_ren : Go.Shelf.Ren := ⟨fun | 318 => 179 | n => n, fun | 3 => 3 | 4 => 4 | n => n, fun | n => n⟩
theorem Tryz.lays318 : Go.Proofs.Lays.n318 Tryz.prog Tryz.lays318_ren := {
  mixed := by kernel_rfl
  f318 := Tryz.func179.trans (congrArg some (by kernel_rfl))
  t3 := Tryz.underlying3
  a3 := Tryz.isAgg3
  z3 := Tryz.sizeOf3
  v3 := Tryz.zeroValue3
  t4 := Tryz.underlying4
  a4 := Tryz.isAgg4
  z4 := Tryz.sizeOf4
  v4 := Tryz.zeroValue4 }
open Go.Lib in
/-- internal/strconv.bool2: "bool2 converts b to an integer: 1 for true, 0 for false." The world is as it was. (LAID: no walk: one application.) -/
theorem Tryz.internal_strconv_bool2_int (b : Bool) (w : World) :
    Calls Tryz.prog 179 #[.bool b] w fun e w' => e = .returned (.int .i64 (if b then 1 else 0)) ∧ w' = w := Any.internal_strconv_bool2_int Tryz.lays318 b w
def Tryz.lays283_ren : Go.Shelf.Ren := ⟨fun | 283 => 173 | n => n, fun | 3 => 3 | 9 => 9 | 4 => 4 | n => n, fun | n => n⟩
theorem Tryz.lays283 : Go.Proofs.Lays.n283 Tryz.prog Tryz.lays283_ren := {
  mixed := by kernel_rfl
  f283 := Tryz.func173.trans (congrArg some (by kernel_rfl))
  t3 := Tryz.underlying3
  a3 := Tryz.isAgg3
  z3 := Tryz.sizeOf3
  v3 := Tryz.zeroValue3
  t4 := Tryz.underlying4
  a4 := Tryz.isAgg4
  z4 := Tryz.sizeOf4
  v4 := Tryz.zeroValue4
  t9 := Tryz.underlying9
  a9 := Tryz.isAgg9
  z9 := Tryz.sizeOf9
  v9 := Tryz.zeroValue9 }
open Go.Lib in
/-- internal/strconv.small: "small returns the string for an i with 0 <= i < nSmalls.": i's decimal numeral. The world is as it was. (LAID: no walk: one application.) -/
theorem Tryz.internal_strconv_small (i : Nat) (h : i < 100) (w : World) :
    Calls Tryz.prog 173 #[.int .i64 i] w fun e w' => e = .returned (.string ⟨(Lib.decDigits i).toArray⟩) ∧ w' = w := Any.internal_strconv_small Tryz.lays283 i h w
def Tryz.laysM284_ren : Go.Shelf.Ren := ⟨fun | 284 => 174 | 129 => 125 | 317 => 178 | 318 => 179 | n => n, fun | 53 => 163 | 3 => 3 | 212 => 213 | 0 => 0 | 4 => 4 | 46 => 137 | 5 => 5 | 9 => 9 | n => n, fun | 17 => 3 | n => n⟩
theorem Tryz.laysM284 : Go.Proofs.LaysM.n284 Tryz.prog Tryz.laysM284_ren := {
  mixed := by kernel_rfl
  f129 := Tryz.func125.trans (congrArg some (by kernel_rfl))
  f284 := Tryz.func174.trans (congrArg some (by kernel_rfl))
  f317 := Tryz.func178.trans (congrArg some (by kernel_rfl))
  f318 := Tryz.func179.trans (congrArg some (by kernel_rfl))
  t0 := Tryz.underlying0
  a0 := Tryz.isAgg0
  z0 := Tryz.sizeOf0
  v0 := Tryz.zeroValue0
  t3 := Tryz.underlying3
  a3 := Tryz.isAgg3
  z3 := Tryz.sizeOf3
  v3 := Tryz.zeroValue3
  t4 := Tryz.underlying4
  a4 := Tryz.isAgg4
  z4 := Tryz.sizeOf4
  v4 := Tryz.zeroValue4
  t5 := Tryz.underlying5
  a5 := Tryz.isAgg5
  z5 := Tryz.sizeOf5
  v5 := Tryz.zeroValue5
  t9 := Tryz.underlying9
  a9 := Tryz.isAgg9
  z9 := Tryz.sizeOf9
  v9 := Tryz.zeroValue9
  t46 := Tryz.underlying137
  a46 := Tryz.isAgg137
  z46 := Tryz.sizeOf137
  v46 := Tryz.zeroValue137
  t53 := Tryz.underlying163
  a53 := Tryz.isAgg163
  z53 := Tryz.sizeOf163
  v53 := Tryz.zeroValue163
  t212 := Tryz.underlying213
  a212 := Tryz.isAgg213
  z212 := Tryz.sizeOf213
  v212 := Tryz.zeroValue213
  g17 := by kernel_rfl
  i0 := by kernel_rfl
  i3 := by kernel_rfl
  i4 := by kernel_rfl
  i5 := by kernel_rfl
  i9 := by kernel_rfl
  i46 := by kernel_rfl
  i53 := by kernel_rfl
  i212 := by kernel_rfl
  m17 := by kernel_rfl }
open Go.Lib in
/-- internal/strconv.numDigits, at a d that is not 0: THE NUMBER OF d's DECIMAL DIGITS. The world is as it was. (LAID: no walk: one application.) -/
theorem Tryz.internal_strconv_numDigits (u : Nat) (h1 : 1 ≤ u) (h2 : u < 18446744073709551616) (w : World) (htab : Lib.TabIs Tryz.prog w "internal/strconv.uint64pow10" .u64 Lib.pow10Tab) :
    Calls Tryz.prog 174 #[.int .u64 u] w fun e w' => e = .returned (.int .i64 (Lib.nDigits u)) ∧ w' = w := Any.internal_strconv_numDigits Tryz.laysM284 u h1 h2 w htab
def Tryz.lays285_ren : Go.Shelf.Ren := ⟨fun | 285 => 175 | n => n, fun | 37 => 166 | 53 => 163 | 3 => 3 | 4 => 4 | 51 => 161 | 9 => 9 | 5 => 5 | 0 => 0 | n => n, fun | n => n⟩
theorem Tryz.lays285 : Go.Proofs.Lays.n285 Tryz.prog Tryz.lays285_ren := {
  mixed := by kernel_rfl
  f285 := Tryz.func175.trans (congrArg some (by kernel_rfl))
  t0 := Tryz.underlying0
  a0 := Tryz.isAgg0
  z0 := Tryz.sizeOf0
  v0 := Tryz.zeroValue0
  t3 := Tryz.underlying3
  a3 := Tryz.isAgg3
  z3 := Tryz.sizeOf3
  v3 := Tryz.zeroValue3
  t4 := Tryz.underlying4
  a4 := Tryz.isAgg4
  z4 := Tryz.sizeOf4
  v4 := Tryz.zeroValue4
  t5 := Tryz.underlying5
  a5 := Tryz.isAgg5
  z5 := Tryz.sizeOf5
  v5 := Tryz.zeroValue5
  t9 := Tryz.underlying9
  a9 := Tryz.isAgg9
  z9 := Tryz.sizeOf9
  v9 := Tryz.zeroValue9
  t37 := Tryz.underlying166
  a37 := Tryz.isAgg166
  z37 := Tryz.sizeOf166
  v37 := Tryz.zeroValue166
  t51 := Tryz.underlying161
  a51 := Tryz.isAgg161
  z51 := Tryz.sizeOf161
  v51 := Tryz.zeroValue161
  t53 := Tryz.underlying163
  a53 := Tryz.isAgg163
  z53 := Tryz.sizeOf163
  v53 := Tryz.zeroValue163 }
open Go.RowKit Go.Sort Go.Lib in
/-- internal/strconv.formatBase10: "formatBase10 formats the decimal representation of u into a. The caller is responsible for ensuring that a is big enough to hold u. If a is too big, leading zeros will be filled in as needed.": THE ROW HOLDS u's DIGITS ('FmtInv .. 0 ..': every place t holds 'dg u (len - 1 - t)'); all else is as it was but for the count of draws. (LAID: no walk: one application.) -/
theorem Tryz.internal_strconv_formatBase10 (blk off cap : Nat) (u : Nat) (d : Array UInt8) (w : World) (hH : Holds (fun (b : UInt8) => Value.int .u8 (b.toNat : Int)) w blk off d) (hu : u < 10 ^ d.size) (hu64 : u < 18446744073709551616) (hsz : d.size < 4611686018427387904) :
    Calls Tryz.prog 175 #[.slice (some ⟨blk, off, none⟩) d.size cap, .int .u64 u] w fun e w' =>
      e = .returned (.tuple #[]) ∧ ∃ (n v' : Nat) (dk : Array UInt8), w' = (putRow (fun (b : UInt8) => Value.int .u8 (b.toNat : Int)) w blk off dk).drewN n ∧ FmtInv d.size u 0 v' dk := Any.internal_strconv_formatBase10 Tryz.lays285 blk off cap u d w hH hu hu64 hsz
def Tryz.laysM246_ren : Go.Shelf.Ren := ⟨fun | 246 => 167 | 283 => 173 | 284 => 174 | 285 => 175 | 286 => 176 | 129 => 125 | 317 => 178 | 318 => 179 | 319 => 180 | 320 => 181 | 337 => 182 | 338 => 183 | n => n, fun | 2 => 2 | 3 => 3 | 9 => 9 | 4 => 4 | 171 => 208 | 0 => 0 | 53 => 163 | 37 => 166 | 5 => 5 | 173 => 210 | 212 => 213 | 51 => 161 | 20 => 20 | 213 => 214 | 46 => 137 | 232 => 215 | 233 => 216 | n => n, fun | 17 => 3 | 18 => 4 | 19 => 5 | n => n⟩
theorem Tryz.laysM246 : Go.Proofs.LaysM.n246 Tryz.prog Tryz.laysM246_ren := {
  mixed := by kernel_rfl
  f129 := Tryz.func125.trans (congrArg some (by kernel_rfl))
  f246 := Tryz.func167.trans (congrArg some (by kernel_rfl))
  f283 := Tryz.func173.trans (congrArg some (by kernel_rfl))
  f284 := Tryz.func174.trans (congrArg some (by kernel_rfl))
  f285 := Tryz.func175.trans (congrArg some (by kernel_rfl))
  f286 := Tryz.func176.trans (congrArg some (by kernel_rfl))
  f317 := Tryz.func178.trans (congrArg some (by kernel_rfl))
  f318 := Tryz.func179.trans (congrArg some (by kernel_rfl))
  f319 := Tryz.func180.trans (congrArg some (by kernel_rfl))
  f320 := Tryz.func181.trans (congrArg some (by kernel_rfl))
  f337 := Tryz.func182.trans (congrArg some (by kernel_rfl))
  f338 := Tryz.func183.trans (congrArg some (by kernel_rfl))
  t0 := Tryz.underlying0
  a0 := Tryz.isAgg0
  z0 := Tryz.sizeOf0
  v0 := Tryz.zeroValue0
  t2 := Tryz.underlying2
  a2 := Tryz.isAgg2
  z2 := Tryz.sizeOf2
  v2 := Tryz.zeroValue2
  t3 := Tryz.underlying3
  a3 := Tryz.isAgg3
  z3 := Tryz.sizeOf3
  v3 := Tryz.zeroValue3
  t4 := Tryz.underlying4
  a4 := Tryz.isAgg4
  z4 := Tryz.sizeOf4
  v4 := Tryz.zeroValue4
  t5 := Tryz.underlying5
  a5 := Tryz.isAgg5
  z5 := Tryz.sizeOf5
  v5 := Tryz.zeroValue5
  t9 := Tryz.underlying9
  a9 := Tryz.isAgg9
  z9 := Tryz.sizeOf9
  v9 := Tryz.zeroValue9
  t20 := Tryz.underlying20
  a20 := Tryz.isAgg20
  z20 := Tryz.sizeOf20
  v20 := Tryz.zeroValue20
  t37 := Tryz.underlying166
  a37 := Tryz.isAgg166
  z37 := Tryz.sizeOf166
  v37 := Tryz.zeroValue166
  t46 := Tryz.underlying137
  a46 := Tryz.isAgg137
  z46 := Tryz.sizeOf137
  v46 := Tryz.zeroValue137
  t51 := Tryz.underlying161
  a51 := Tryz.isAgg161
  z51 := Tryz.sizeOf161
  v51 := Tryz.zeroValue161
  t53 := Tryz.underlying163
  a53 := Tryz.isAgg163
  z53 := Tryz.sizeOf163
  v53 := Tryz.zeroValue163
  t171 := Tryz.underlying208
  a171 := Tryz.isAgg208
  z171 := Tryz.sizeOf208
  v171 := Tryz.zeroValue208
  t173 := Tryz.underlying210
  a173 := Tryz.isAgg210
  z173 := Tryz.sizeOf210
  v173 := Tryz.zeroValue210
  t212 := Tryz.underlying213
  a212 := Tryz.isAgg213
  z212 := Tryz.sizeOf213
  v212 := Tryz.zeroValue213
  t213 := Tryz.underlying214
  a213 := Tryz.isAgg214
  z213 := Tryz.sizeOf214
  t232 := Tryz.underlying215
  a232 := Tryz.isAgg215
  z232 := Tryz.sizeOf215
  v232 := Tryz.zeroValue215
  t233 := Tryz.underlying216
  a233 := Tryz.isAgg216
  z233 := Tryz.sizeOf216
  v233 := Tryz.zeroValue216
  g17 := by kernel_rfl
  g18 := by kernel_rfl
  g19 := by kernel_rfl
  i0 := by kernel_rfl
  i2 := by kernel_rfl
  i3 := by kernel_rfl
  i4 := by kernel_rfl
  i5 := by kernel_rfl
  i9 := by kernel_rfl
  i20 := by kernel_rfl
  i37 := by kernel_rfl
  i46 := by kernel_rfl
  i51 := by kernel_rfl
  i53 := by kernel_rfl
  i171 := by kernel_rfl
  i173 := by kernel_rfl
  i212 := by kernel_rfl
  i232 := by kernel_rfl
  i233 := by kernel_rfl
  m17 := by kernel_rfl
  m18 := by kernel_rfl
  m19 := by kernel_rfl }
open Go.RowKit Go.Sort Go.Lib in
/-- internal/strconv.FormatInt: "FormatInt returns the string representation of i in the given base": AT BASE 10: i's decimal numeral, for every int64. The world behind the call: the world before it, new blocks behind the heap, draws. (LAID: no walk: one application.) -/
theorem Tryz.internal_strconv_FormatInt_10 (n : Int) (h0 : -9223372036854775808 ≤ n) (h1 : n ≤ 9223372036854775807) (w : World) (htab : Lib.TabIs Tryz.prog w "internal/strconv.uint64pow10" .u64 Lib.pow10Tab) :
    Calls Tryz.prog 167 #[.int .i64 n, .int .i64 10] w fun e w' => e = .returned (.string ⟨(Lib.itoa n).toArray⟩) ∧ ∃ k os, w' = grow (w.drewN k) os := Any.internal_strconv_FormatInt_10 Tryz.laysM246 n h0 h1 w htab
def Tryz.lays246_ren : Go.Shelf.Ren := ⟨fun | 246 => 167 | 283 => 173 | 284 => 174 | 285 => 175 | 286 => 176 | 129 => 125 | 317 => 178 | 318 => 179 | 319 => 180 | 320 => 181 | 337 => 182 | 338 => 183 | n => n, fun | 2 => 2 | 3 => 3 | 9 => 9 | 4 => 4 | 171 => 208 | 0 => 0 | 53 => 163 | 37 => 166 | 5 => 5 | 173 => 210 | 212 => 213 | 51 => 161 | 20 => 20 | 213 => 214 | 46 => 137 | 232 => 215 | 233 => 216 | n => n, fun | 17 => 3 | 18 => 4 | 19 => 5 | n => n⟩
theorem Tryz.lays246 : Go.Proofs.Lays.n246 Tryz.prog Tryz.lays246_ren := {
  mixed := by kernel_rfl
  f129 := Tryz.func125.trans (congrArg some (by kernel_rfl))
  f246 := Tryz.func167.trans (congrArg some (by kernel_rfl))
  f283 := Tryz.func173.trans (congrArg some (by kernel_rfl))
  f284 := Tryz.func174.trans (congrArg some (by kernel_rfl))
  f285 := Tryz.func175.trans (congrArg some (by kernel_rfl))
  f286 := Tryz.func176.trans (congrArg some (by kernel_rfl))
  f317 := Tryz.func178.trans (congrArg some (by kernel_rfl))
  f318 := Tryz.func179.trans (congrArg some (by kernel_rfl))
  f319 := Tryz.func180.trans (congrArg some (by kernel_rfl))
  f320 := Tryz.func181.trans (congrArg some (by kernel_rfl))
  f337 := Tryz.func182.trans (congrArg some (by kernel_rfl))
  f338 := Tryz.func183.trans (congrArg some (by kernel_rfl))
  t0 := Tryz.underlying0
  a0 := Tryz.isAgg0
  z0 := Tryz.sizeOf0
  v0 := Tryz.zeroValue0
  t2 := Tryz.underlying2
  a2 := Tryz.isAgg2
  z2 := Tryz.sizeOf2
  v2 := Tryz.zeroValue2
  t3 := Tryz.underlying3
  a3 := Tryz.isAgg3
  z3 := Tryz.sizeOf3
  v3 := Tryz.zeroValue3
  t4 := Tryz.underlying4
  a4 := Tryz.isAgg4
  z4 := Tryz.sizeOf4
  v4 := Tryz.zeroValue4
  t5 := Tryz.underlying5
  a5 := Tryz.isAgg5
  z5 := Tryz.sizeOf5
  v5 := Tryz.zeroValue5
  t9 := Tryz.underlying9
  a9 := Tryz.isAgg9
  z9 := Tryz.sizeOf9
  v9 := Tryz.zeroValue9
  t20 := Tryz.underlying20
  a20 := Tryz.isAgg20
  z20 := Tryz.sizeOf20
  v20 := Tryz.zeroValue20
  t37 := Tryz.underlying166
  a37 := Tryz.isAgg166
  z37 := Tryz.sizeOf166
  v37 := Tryz.zeroValue166
  t46 := Tryz.underlying137
  a46 := Tryz.isAgg137
  z46 := Tryz.sizeOf137
  v46 := Tryz.zeroValue137
  t51 := Tryz.underlying161
  a51 := Tryz.isAgg161
  z51 := Tryz.sizeOf161
  v51 := Tryz.zeroValue161
  t53 := Tryz.underlying163
  a53 := Tryz.isAgg163
  z53 := Tryz.sizeOf163
  v53 := Tryz.zeroValue163
  t171 := Tryz.underlying208
  a171 := Tryz.isAgg208
  z171 := Tryz.sizeOf208
  v171 := Tryz.zeroValue208
  t173 := Tryz.underlying210
  a173 := Tryz.isAgg210
  z173 := Tryz.sizeOf210
  v173 := Tryz.zeroValue210
  t212 := Tryz.underlying213
  a212 := Tryz.isAgg213
  z212 := Tryz.sizeOf213
  v212 := Tryz.zeroValue213
  t213 := Tryz.underlying214
  a213 := Tryz.isAgg214
  z213 := Tryz.sizeOf214
  t232 := Tryz.underlying215
  a232 := Tryz.isAgg215
  z232 := Tryz.sizeOf215
  v232 := Tryz.zeroValue215
  t233 := Tryz.underlying216
  a233 := Tryz.isAgg216
  z233 := Tryz.sizeOf216
  v233 := Tryz.zeroValue216
  g17 := by kernel_rfl
  g18 := by kernel_rfl
  g19 := by kernel_rfl }
open Go.RowKit Go.Sort Go.Lib in
/-- THE ROAD WITHOUT THE TABLE: 0 <= i < 100: two constants are read, nothing is laid: no premise on the world, and the world is as it was. (LAID: no walk: one application.) -/
theorem Tryz.internal_strconv_FormatInt_10_small (i : Nat) (hi : i < 100) (w : World) :
    Calls Tryz.prog 167 #[.int .i64 i, .int .i64 10] w fun e w' => e = .returned (.string ⟨(Lib.decDigits i).toArray⟩) ∧ w' = w := Any.internal_strconv_FormatInt_10_small Tryz.lays246 i hi w
def Tryz.laysM243_ren : Go.Shelf.Ren := ⟨fun | 243 => 153 | 246 => 167 | 283 => 173 | 284 => 174 | 285 => 175 | 286 => 176 | 129 => 125 | 317 => 178 | 318 => 179 | 319 => 180 | 320 => 181 | 337 => 182 | 338 => 183 | n => n, fun | 3 => 3 | 9 => 9 | 2 => 2 | 4 => 4 | 171 => 208 | 0 => 0 | 53 => 163 | 37 => 166 | 5 => 5 | 173 => 210 | 212 => 213 | 51 => 161 | 20 => 20 | 213 => 214 | 46 => 137 | 232 => 215 | 233 => 216 | n => n, fun | 17 => 3 | 18 => 4 | 19 => 5 | n => n⟩
theorem Tryz.laysM243 : Go.Proofs.LaysM.n243 Tryz.prog Tryz.laysM243_ren := {
  mixed := by kernel_rfl
  f129 := Tryz.func125.trans (congrArg some (by kernel_rfl))
  f243 := Tryz.func153.trans (congrArg some (by kernel_rfl))
  f246 := Tryz.func167.trans (congrArg some (by kernel_rfl))
  f283 := Tryz.func173.trans (congrArg some (by kernel_rfl))
  f284 := Tryz.func174.trans (congrArg some (by kernel_rfl))
  f285 := Tryz.func175.trans (congrArg some (by kernel_rfl))
  f286 := Tryz.func176.trans (congrArg some (by kernel_rfl))
  f317 := Tryz.func178.trans (congrArg some (by kernel_rfl))
  f318 := Tryz.func179.trans (congrArg some (by kernel_rfl))
  f319 := Tryz.func180.trans (congrArg some (by kernel_rfl))
  f320 := Tryz.func181.trans (congrArg some (by kernel_rfl))
  f337 := Tryz.func182.trans (congrArg some (by kernel_rfl))
  f338 := Tryz.func183.trans (congrArg some (by kernel_rfl))
  t0 := Tryz.underlying0
  a0 := Tryz.isAgg0
  z0 := Tryz.sizeOf0
  v0 := Tryz.zeroValue0
  t2 := Tryz.underlying2
  a2 := Tryz.isAgg2
  z2 := Tryz.sizeOf2
  v2 := Tryz.zeroValue2
  t3 := Tryz.underlying3
  a3 := Tryz.isAgg3
  z3 := Tryz.sizeOf3
  v3 := Tryz.zeroValue3
  t4 := Tryz.underlying4
  a4 := Tryz.isAgg4
  z4 := Tryz.sizeOf4
  v4 := Tryz.zeroValue4
  t5 := Tryz.underlying5
  a5 := Tryz.isAgg5
  z5 := Tryz.sizeOf5
  v5 := Tryz.zeroValue5
  t9 := Tryz.underlying9
  a9 := Tryz.isAgg9
  z9 := Tryz.sizeOf9
  v9 := Tryz.zeroValue9
  t20 := Tryz.underlying20
  a20 := Tryz.isAgg20
  z20 := Tryz.sizeOf20
  v20 := Tryz.zeroValue20
  t37 := Tryz.underlying166
  a37 := Tryz.isAgg166
  z37 := Tryz.sizeOf166
  v37 := Tryz.zeroValue166
  t46 := Tryz.underlying137
  a46 := Tryz.isAgg137
  z46 := Tryz.sizeOf137
  v46 := Tryz.zeroValue137
  t51 := Tryz.underlying161
  a51 := Tryz.isAgg161
  z51 := Tryz.sizeOf161
  v51 := Tryz.zeroValue161
  t53 := Tryz.underlying163
  a53 := Tryz.isAgg163
  z53 := Tryz.sizeOf163
  v53 := Tryz.zeroValue163
  t171 := Tryz.underlying208
  a171 := Tryz.isAgg208
  z171 := Tryz.sizeOf208
  v171 := Tryz.zeroValue208
  t173 := Tryz.underlying210
  a173 := Tryz.isAgg210
  z173 := Tryz.sizeOf210
  v173 := Tryz.zeroValue210
  t212 := Tryz.underlying213
  a212 := Tryz.isAgg213
  z212 := Tryz.sizeOf213
  v212 := Tryz.zeroValue213
  t213 := Tryz.underlying214
  a213 := Tryz.isAgg214
  z213 := Tryz.sizeOf214
  t232 := Tryz.underlying215
  a232 := Tryz.isAgg215
  z232 := Tryz.sizeOf215
  v232 := Tryz.zeroValue215
  t233 := Tryz.underlying216
  a233 := Tryz.isAgg216
  z233 := Tryz.sizeOf216
  v233 := Tryz.zeroValue216
  g17 := by kernel_rfl
  g18 := by kernel_rfl
  g19 := by kernel_rfl
  i0 := by kernel_rfl
  i2 := by kernel_rfl
  i3 := by kernel_rfl
  i4 := by kernel_rfl
  i5 := by kernel_rfl
  i9 := by kernel_rfl
  i20 := by kernel_rfl
  i37 := by kernel_rfl
  i46 := by kernel_rfl
  i51 := by kernel_rfl
  i53 := by kernel_rfl
  i171 := by kernel_rfl
  i173 := by kernel_rfl
  i212 := by kernel_rfl
  i232 := by kernel_rfl
  i233 := by kernel_rfl
  m17 := by kernel_rfl
  m18 := by kernel_rfl
  m19 := by kernel_rfl }
open Go.RowKit Go.Sort Go.Lib in
/-- internal/strconv.Itoa: "Itoa is equivalent to FormatInt(int64(i), 10).": i's decimal numeral, for every int. (LAID: no walk: one application.) -/
theorem Tryz.internal_strconv_Itoa (n : Int) (h0 : -9223372036854775808 ≤ n) (h1 : n ≤ 9223372036854775807) (w : World) (htab : Lib.TabIs Tryz.prog w "internal/strconv.uint64pow10" .u64 Lib.pow10Tab) :
    Calls Tryz.prog 153 #[.int .i64 n] w fun e w' => e = .returned (.string ⟨(Lib.itoa n).toArray⟩) ∧ ∃ k os, w' = grow (w.drewN k) os := Any.internal_strconv_Itoa Tryz.laysM243 n h0 h1 w htab
def Tryz.lays243_ren : Go.Shelf.Ren := ⟨fun | 243 => 153 | 246 => 167 | 283 => 173 | 284 => 174 | 285 => 175 | 286 => 176 | 129 => 125 | 317 => 178 | 318 => 179 | 319 => 180 | 320 => 181 | 337 => 182 | 338 => 183 | n => n, fun | 3 => 3 | 9 => 9 | 2 => 2 | 4 => 4 | 171 => 208 | 0 => 0 | 53 => 163 | 37 => 166 | 5 => 5 | 173 => 210 | 212 => 213 | 51 => 161 | 20 => 20 | 213 => 214 | 46 => 137 | 232 => 215 | 233 => 216 | n => n, fun | 17 => 3 | 18 => 4 | 19 => 5 | n => n⟩
theorem Tryz.lays243 : Go.Proofs.Lays.n243 Tryz.prog Tryz.lays243_ren := {
  mixed := by kernel_rfl
  f129 := Tryz.func125.trans (congrArg some (by kernel_rfl))
  f243 := Tryz.func153.trans (congrArg some (by kernel_rfl))
  f246 := Tryz.func167.trans (congrArg some (by kernel_rfl))
  f283 := Tryz.func173.trans (congrArg some (by kernel_rfl))
  f284 := Tryz.func174.trans (congrArg some (by kernel_rfl))
  f285 := Tryz.func175.trans (congrArg some (by kernel_rfl))
  f286 := Tryz.func176.trans (congrArg some (by kernel_rfl))
  f317 := Tryz.func178.trans (congrArg some (by kernel_rfl))
  f318 := Tryz.func179.trans (congrArg some (by kernel_rfl))
  f319 := Tryz.func180.trans (congrArg some (by kernel_rfl))
  f320 := Tryz.func181.trans (congrArg some (by kernel_rfl))
  f337 := Tryz.func182.trans (congrArg some (by kernel_rfl))
  f338 := Tryz.func183.trans (congrArg some (by kernel_rfl))
  t0 := Tryz.underlying0
  a0 := Tryz.isAgg0
  z0 := Tryz.sizeOf0
  v0 := Tryz.zeroValue0
  t2 := Tryz.underlying2
  a2 := Tryz.isAgg2
  z2 := Tryz.sizeOf2
  v2 := Tryz.zeroValue2
  t3 := Tryz.underlying3
  a3 := Tryz.isAgg3
  z3 := Tryz.sizeOf3
  v3 := Tryz.zeroValue3
  t4 := Tryz.underlying4
  a4 := Tryz.isAgg4
  z4 := Tryz.sizeOf4
  v4 := Tryz.zeroValue4
  t5 := Tryz.underlying5
  a5 := Tryz.isAgg5
  z5 := Tryz.sizeOf5
  v5 := Tryz.zeroValue5
  t9 := Tryz.underlying9
  a9 := Tryz.isAgg9
  z9 := Tryz.sizeOf9
  v9 := Tryz.zeroValue9
  t20 := Tryz.underlying20
  a20 := Tryz.isAgg20
  z20 := Tryz.sizeOf20
  v20 := Tryz.zeroValue20
  t37 := Tryz.underlying166
  a37 := Tryz.isAgg166
  z37 := Tryz.sizeOf166
  v37 := Tryz.zeroValue166
  t46 := Tryz.underlying137
  a46 := Tryz.isAgg137
  z46 := Tryz.sizeOf137
  v46 := Tryz.zeroValue137
  t51 := Tryz.underlying161
  a51 := Tryz.isAgg161
  z51 := Tryz.sizeOf161
  v51 := Tryz.zeroValue161
  t53 := Tryz.underlying163
  a53 := Tryz.isAgg163
  z53 := Tryz.sizeOf163
  v53 := Tryz.zeroValue163
  t171 := Tryz.underlying208
  a171 := Tryz.isAgg208
  z171 := Tryz.sizeOf208
  v171 := Tryz.zeroValue208
  t173 := Tryz.underlying210
  a173 := Tryz.isAgg210
  z173 := Tryz.sizeOf210
  v173 := Tryz.zeroValue210
  t212 := Tryz.underlying213
  a212 := Tryz.isAgg213
  z212 := Tryz.sizeOf213
  v212 := Tryz.zeroValue213
  t213 := Tryz.underlying214
  a213 := Tryz.isAgg214
  z213 := Tryz.sizeOf214
  t232 := Tryz.underlying215
  a232 := Tryz.isAgg215
  z232 := Tryz.sizeOf215
  v232 := Tryz.zeroValue215
  t233 := Tryz.underlying216
  a233 := Tryz.isAgg216
  z233 := Tryz.sizeOf216
  v233 := Tryz.zeroValue216
  g17 := by kernel_rfl
  g18 := by kernel_rfl
  g19 := by kernel_rfl }
open Go.RowKit Go.Sort Go.Lib in
/-- THE ROAD WITHOUT THE TABLE: 0 <= i < 100. (LAID: no walk: one application.) -/
theorem Tryz.internal_strconv_Itoa_small (i : Nat) (hi : i < 100) (w : World) :
    Calls Tryz.prog 153 #[.int .i64 i] w fun e w' => e = .returned (.string ⟨(Lib.decDigits i).toArray⟩) ∧ w' = w := Any.internal_strconv_Itoa_small Tryz.lays243 i hi w
def Tryz.laysM171_ren : Go.Shelf.Ren := ⟨fun | 171 => 136 | 243 => 153 | 246 => 167 | 283 => 173 | 284 => 174 | 285 => 175 | 286 => 176 | 129 => 125 | 317 => 178 | 318 => 179 | 319 => 180 | 320 => 181 | 337 => 182 | 338 => 183 | n => n, fun | 3 => 3 | 9 => 9 | 2 => 2 | 4 => 4 | 171 => 208 | 0 => 0 | 53 => 163 | 37 => 166 | 5 => 5 | 173 => 210 | 212 => 213 | 51 => 161 | 20 => 20 | 213 => 214 | 46 => 137 | 232 => 215 | 233 => 216 | n => n, fun | 17 => 3 | 18 => 4 | 19 => 5 | n => n⟩
theorem Tryz.laysM171 : Go.Proofs.LaysM.n171 Tryz.prog Tryz.laysM171_ren := {
  mixed := by kernel_rfl
  f129 := Tryz.func125.trans (congrArg some (by kernel_rfl))
  f171 := Tryz.func136.trans (congrArg some (by kernel_rfl))
  f243 := Tryz.func153.trans (congrArg some (by kernel_rfl))
  f246 := Tryz.func167.trans (congrArg some (by kernel_rfl))
  f283 := Tryz.func173.trans (congrArg some (by kernel_rfl))
  f284 := Tryz.func174.trans (congrArg some (by kernel_rfl))
  f285 := Tryz.func175.trans (congrArg some (by kernel_rfl))
  f286 := Tryz.func176.trans (congrArg some (by kernel_rfl))
  f317 := Tryz.func178.trans (congrArg some (by kernel_rfl))
  f318 := Tryz.func179.trans (congrArg some (by kernel_rfl))
  f319 := Tryz.func180.trans (congrArg some (by kernel_rfl))
  f320 := Tryz.func181.trans (congrArg some (by kernel_rfl))
  f337 := Tryz.func182.trans (congrArg some (by kernel_rfl))
  f338 := Tryz.func183.trans (congrArg some (by kernel_rfl))
  t0 := Tryz.underlying0
  a0 := Tryz.isAgg0
  z0 := Tryz.sizeOf0
  v0 := Tryz.zeroValue0
  t2 := Tryz.underlying2
  a2 := Tryz.isAgg2
  z2 := Tryz.sizeOf2
  v2 := Tryz.zeroValue2
  t3 := Tryz.underlying3
  a3 := Tryz.isAgg3
  z3 := Tryz.sizeOf3
  v3 := Tryz.zeroValue3
  t4 := Tryz.underlying4
  a4 := Tryz.isAgg4
  z4 := Tryz.sizeOf4
  v4 := Tryz.zeroValue4
  t5 := Tryz.underlying5
  a5 := Tryz.isAgg5
  z5 := Tryz.sizeOf5
  v5 := Tryz.zeroValue5
  t9 := Tryz.underlying9
  a9 := Tryz.isAgg9
  z9 := Tryz.sizeOf9
  v9 := Tryz.zeroValue9
  t20 := Tryz.underlying20
  a20 := Tryz.isAgg20
  z20 := Tryz.sizeOf20
  v20 := Tryz.zeroValue20
  t37 := Tryz.underlying166
  a37 := Tryz.isAgg166
  z37 := Tryz.sizeOf166
  v37 := Tryz.zeroValue166
  t46 := Tryz.underlying137
  a46 := Tryz.isAgg137
  z46 := Tryz.sizeOf137
  v46 := Tryz.zeroValue137
  t51 := Tryz.underlying161
  a51 := Tryz.isAgg161
  z51 := Tryz.sizeOf161
  v51 := Tryz.zeroValue161
  t53 := Tryz.underlying163
  a53 := Tryz.isAgg163
  z53 := Tryz.sizeOf163
  v53 := Tryz.zeroValue163
  t171 := Tryz.underlying208
  a171 := Tryz.isAgg208
  z171 := Tryz.sizeOf208
  v171 := Tryz.zeroValue208
  t173 := Tryz.underlying210
  a173 := Tryz.isAgg210
  z173 := Tryz.sizeOf210
  v173 := Tryz.zeroValue210
  t212 := Tryz.underlying213
  a212 := Tryz.isAgg213
  z212 := Tryz.sizeOf213
  v212 := Tryz.zeroValue213
  t213 := Tryz.underlying214
  a213 := Tryz.isAgg214
  z213 := Tryz.sizeOf214
  t232 := Tryz.underlying215
  a232 := Tryz.isAgg215
  z232 := Tryz.sizeOf215
  v232 := Tryz.zeroValue215
  t233 := Tryz.underlying216
  a233 := Tryz.isAgg216
  z233 := Tryz.sizeOf216
  v233 := Tryz.zeroValue216
  g17 := by kernel_rfl
  g18 := by kernel_rfl
  g19 := by kernel_rfl
  i0 := by kernel_rfl
  i2 := by kernel_rfl
  i3 := by kernel_rfl
  i4 := by kernel_rfl
  i5 := by kernel_rfl
  i9 := by kernel_rfl
  i20 := by kernel_rfl
  i37 := by kernel_rfl
  i46 := by kernel_rfl
  i51 := by kernel_rfl
  i53 := by kernel_rfl
  i171 := by kernel_rfl
  i173 := by kernel_rfl
  i212 := by kernel_rfl
  i232 := by kernel_rfl
  i233 := by kernel_rfl
  m17 := by kernel_rfl
  m18 := by kernel_rfl
  m19 := by kernel_rfl }
open Go.RowKit Go.Sort Go.Lib in
/-- strconv.Itoa: "Itoa is equivalent to FormatInt(int64(i), 10).": i's DECIMAL NUMERAL ('Lib.itoa': a '-' where i is negative, then the digits), FOR EVERY int. The world behind the call: the world before it, new blocks behind the heap (the library's 'var a [24]byte'), draws. (LAID: no walk: one application.) -/
theorem Tryz.strconv_Itoa (n : Int) (h0 : -9223372036854775808 ≤ n) (h1 : n ≤ 9223372036854775807) (w : World) (htab : Lib.TabIs Tryz.prog w "internal/strconv.uint64pow10" .u64 Lib.pow10Tab) :
    Calls Tryz.prog 136 #[.int .i64 n] w fun e w' => e = .returned (.string ⟨(Lib.itoa n).toArray⟩) ∧ ∃ k os, w' = grow (w.drewN k) os := Any.strconv_Itoa Tryz.laysM171 n h0 h1 w htab
def Tryz.lays171_ren : Go.Shelf.Ren := ⟨fun | 171 => 136 | 243 => 153 | 246 => 167 | 283 => 173 | 284 => 174 | 285 => 175 | 286 => 176 | 129 => 125 | 317 => 178 | 318 => 179 | 319 => 180 | 320 => 181 | 337 => 182 | 338 => 183 | n => n, fun | 3 => 3 | 9 => 9 | 2 => 2 | 4 => 4 | 171 => 208 | 0 => 0 | 53 => 163 | 37 => 166 | 5 => 5 | 173 => 210 | 212 => 213 | 51 => 161 | 20 => 20 | 213 => 214 | 46 => 137 | 232 => 215 | 233 => 216 | n => n, fun | 17 => 3 | 18 => 4 | 19 => 5 | n => n⟩
theorem Tryz.lays171 : Go.Proofs.Lays.n171 Tryz.prog Tryz.lays171_ren := {
  mixed := by kernel_rfl
  f129 := Tryz.func125.trans (congrArg some (by kernel_rfl))
  f171 := Tryz.func136.trans (congrArg some (by kernel_rfl))
  f243 := Tryz.func153.trans (congrArg some (by kernel_rfl))
  f246 := Tryz.func167.trans (congrArg some (by kernel_rfl))
  f283 := Tryz.func173.trans (congrArg some (by kernel_rfl))
  f284 := Tryz.func174.trans (congrArg some (by kernel_rfl))
  f285 := Tryz.func175.trans (congrArg some (by kernel_rfl))
  f286 := Tryz.func176.trans (congrArg some (by kernel_rfl))
  f317 := Tryz.func178.trans (congrArg some (by kernel_rfl))
  f318 := Tryz.func179.trans (congrArg some (by kernel_rfl))
  f319 := Tryz.func180.trans (congrArg some (by kernel_rfl))
  f320 := Tryz.func181.trans (congrArg some (by kernel_rfl))
  f337 := Tryz.func182.trans (congrArg some (by kernel_rfl))
  f338 := Tryz.func183.trans (congrArg some (by kernel_rfl))
  t0 := Tryz.underlying0
  a0 := Tryz.isAgg0
  z0 := Tryz.sizeOf0
  v0 := Tryz.zeroValue0
  t2 := Tryz.underlying2
  a2 := Tryz.isAgg2
  z2 := Tryz.sizeOf2
  v2 := Tryz.zeroValue2
  t3 := Tryz.underlying3
  a3 := Tryz.isAgg3
  z3 := Tryz.sizeOf3
  v3 := Tryz.zeroValue3
  t4 := Tryz.underlying4
  a4 := Tryz.isAgg4
  z4 := Tryz.sizeOf4
  v4 := Tryz.zeroValue4
  t5 := Tryz.underlying5
  a5 := Tryz.isAgg5
  z5 := Tryz.sizeOf5
  v5 := Tryz.zeroValue5
  t9 := Tryz.underlying9
  a9 := Tryz.isAgg9
  z9 := Tryz.sizeOf9
  v9 := Tryz.zeroValue9
  t20 := Tryz.underlying20
  a20 := Tryz.isAgg20
  z20 := Tryz.sizeOf20
  v20 := Tryz.zeroValue20
  t37 := Tryz.underlying166
  a37 := Tryz.isAgg166
  z37 := Tryz.sizeOf166
  v37 := Tryz.zeroValue166
  t46 := Tryz.underlying137
  a46 := Tryz.isAgg137
  z46 := Tryz.sizeOf137
  v46 := Tryz.zeroValue137
  t51 := Tryz.underlying161
  a51 := Tryz.isAgg161
  z51 := Tryz.sizeOf161
  v51 := Tryz.zeroValue161
  t53 := Tryz.underlying163
  a53 := Tryz.isAgg163
  z53 := Tryz.sizeOf163
  v53 := Tryz.zeroValue163
  t171 := Tryz.underlying208
  a171 := Tryz.isAgg208
  z171 := Tryz.sizeOf208
  v171 := Tryz.zeroValue208
  t173 := Tryz.underlying210
  a173 := Tryz.isAgg210
  z173 := Tryz.sizeOf210
  v173 := Tryz.zeroValue210
  t212 := Tryz.underlying213
  a212 := Tryz.isAgg213
  z212 := Tryz.sizeOf213
  v212 := Tryz.zeroValue213
  t213 := Tryz.underlying214
  a213 := Tryz.isAgg214
  z213 := Tryz.sizeOf214
  t232 := Tryz.underlying215
  a232 := Tryz.isAgg215
  z232 := Tryz.sizeOf215
  v232 := Tryz.zeroValue215
  t233 := Tryz.underlying216
  a233 := Tryz.isAgg216
  z233 := Tryz.sizeOf216
  v233 := Tryz.zeroValue216
  g17 := by kernel_rfl
  g18 := by kernel_rfl
  g19 := by kernel_rfl }
open Go.RowKit Go.Sort Go.Lib in
/-- THE ROAD WITHOUT THE TABLE: 0 <= i < 100: NO PREMISE ON THE WORLD, AND THE WORLD IS AS IT WAS: a row that keeps its argument in that range need list no table ('laid = []'). (LAID: no walk: one application.) -/
theorem Tryz.strconv_Itoa_small (i : Nat) (hi : i < 100) (w : World) :
    Calls Tryz.prog 136 #[.int .i64 i] w fun e w' => e = .returned (.string ⟨(Lib.decDigits i).toArray⟩) ∧ w' = w := Any.strconv_Itoa_small Tryz.lays171 i hi w
def Tryz.lays217_ren : Go.Shelf.Ren := ⟨fun | 217 => 161 | 266 => 171 | n => n, fun | 9 => 9 | 5 => 5 | 3 => 3 | n => n, fun | n => n⟩
theorem Tryz.lays217 : Go.Proofs.Lays.n217 Tryz.prog Tryz.lays217_ren := {
  mixed := by kernel_rfl
  f217 := Tryz.func161.trans (congrArg some (by kernel_rfl))
  f266 := Tryz.func171.trans (congrArg some (by kernel_rfl))
  t3 := Tryz.underlying3
  a3 := Tryz.isAgg3
  z3 := Tryz.sizeOf3
  v3 := Tryz.zeroValue3
  t5 := Tryz.underlying5
  a5 := Tryz.isAgg5
  z5 := Tryz.sizeOf5
  v5 := Tryz.zeroValue5
  t9 := Tryz.underlying9
  a9 := Tryz.isAgg9
  z9 := Tryz.sizeOf9
  v9 := Tryz.zeroValue9 }
open Go.RowKit Go.Lib in
/-- internal/stringslite.IndexByte (what strings.IndexByte calls): IT RETURNS 'Lib.indexByte s c'; the world is as it was. (LAID: no walk: one application.) -/
theorem Tryz.stringslite_IndexByte (s : ByteArray) (c : Int) (w : World) :
    Calls Tryz.prog 161 #[.string s, .int .u8 c] w fun e w' => e = .returned (.int .i64 (Lib.indexByte s.data.toList c.toNat.toUInt8)) ∧ w' = w := Any.stringslite_IndexByte Tryz.lays217 s c w
def Tryz.lays224_ren : Go.Shelf.Ren := ⟨fun | 224 => 163 | n => n, fun | 3 => 3 | n => n, fun | n => n⟩
theorem Tryz.lays224 : Go.Proofs.Lays.n224 Tryz.prog Tryz.lays224_ren := {
  mixed := by kernel_rfl
  f224 := Tryz.func163.trans (congrArg some (by kernel_rfl))
  t3 := Tryz.underlying3
  a3 := Tryz.isAgg3
  z3 := Tryz.sizeOf3
  v3 := Tryz.zeroValue3 }
open Go.RowKit Go.Lib in
/-- internal/bytealg.Cutover: "Cutover reports the number of failures of IndexByte we should tolerate before switching over to Index. n is the number of bytes processed so far.": on amd64: (n + 16) / 8. (LAID: no walk: one application.) -/
theorem Tryz.bytealg_Cutover (n : Int) (h0 : 0 ≤ n) (h1 : n < 4611686018427387904) (w : World) :
    Calls Tryz.prog 163 #[.int .i64 n] w fun e w' => e = .returned (.int .i64 ((n + 16) / 8)) ∧ w' = w := Any.bytealg_Cutover Tryz.lays224 n h0 h1 w
def Tryz.lays314_ren : Go.Shelf.Ren := ⟨fun | 314 => 172 | n => n, fun | 9 => 9 | 51 => 161 | 3 => 3 | 4 => 4 | 5 => 5 | 46 => 137 | n => n, fun | n => n⟩
theorem Tryz.lays314 : Go.Proofs.Lays.n314 Tryz.prog Tryz.lays314_ren := {
  mixed := by kernel_rfl
  f314 := Tryz.func172.trans (congrArg some (by kernel_rfl))
  t3 := Tryz.underlying3
  a3 := Tryz.isAgg3
  z3 := Tryz.sizeOf3
  v3 := Tryz.zeroValue3
  t4 := Tryz.underlying4
  a4 := Tryz.isAgg4
  z4 := Tryz.sizeOf4
  v4 := Tryz.zeroValue4
  t5 := Tryz.underlying5
  a5 := Tryz.isAgg5
  z5 := Tryz.sizeOf5
  v5 := Tryz.zeroValue5
  t9 := Tryz.underlying9
  a9 := Tryz.isAgg9
  z9 := Tryz.sizeOf9
  v9 := Tryz.zeroValue9
  t46 := Tryz.underlying137
  a46 := Tryz.isAgg137
  z46 := Tryz.sizeOf137
  v46 := Tryz.zeroValue137
  t51 := Tryz.underlying161
  a51 := Tryz.isAgg161
  z51 := Tryz.sizeOf161
  v51 := Tryz.zeroValue161 }
open Go.RowKit Go.Lib in
/-- hashStr: "returns the hash and the appropriate multiplicative factor for use in Rabin-Karp algorithm": THE HASH OF ALL OF sep, AND 16777619 ^ len(sep), both in uint32. (LAID: no walk: one application.) -/
theorem Tryz.bytealg_hashStr (sep : ByteArray) (hs : sep.size < 4294967281) (w : World) :
    Calls Tryz.prog 172 #[.string sep] w fun e w' => e = .returned (.tuple #[.int .u32 (RK.H sep.data.toList % 4294967296), .int .u32 (16777619 ^ sep.size % 4294967296)]) ∧ w' = w := Any.bytealg_hashStr Tryz.lays314 sep hs w
def Tryz.lays267_ren : Go.Shelf.Ren := ⟨fun | 267 => 164 | 314 => 172 | n => n, fun | 9 => 9 | 3 => 3 | 146 => 199 | 51 => 161 | 4 => 4 | 5 => 5 | 46 => 137 | n => n, fun | n => n⟩
theorem Tryz.lays267 : Go.Proofs.Lays.n267 Tryz.prog Tryz.lays267_ren := {
  mixed := by kernel_rfl
  f267 := Tryz.func164.trans (congrArg some (by kernel_rfl))
  f314 := Tryz.func172.trans (congrArg some (by kernel_rfl))
  t3 := Tryz.underlying3
  a3 := Tryz.isAgg3
  z3 := Tryz.sizeOf3
  v3 := Tryz.zeroValue3
  t4 := Tryz.underlying4
  a4 := Tryz.isAgg4
  z4 := Tryz.sizeOf4
  v4 := Tryz.zeroValue4
  t5 := Tryz.underlying5
  a5 := Tryz.isAgg5
  z5 := Tryz.sizeOf5
  v5 := Tryz.zeroValue5
  t9 := Tryz.underlying9
  a9 := Tryz.isAgg9
  z9 := Tryz.sizeOf9
  v9 := Tryz.zeroValue9
  t46 := Tryz.underlying137
  a46 := Tryz.isAgg137
  z46 := Tryz.sizeOf137
  v46 := Tryz.zeroValue137
  t51 := Tryz.underlying161
  a51 := Tryz.isAgg161
  z51 := Tryz.sizeOf161
  v51 := Tryz.zeroValue161
  t146 := Tryz.underlying199
  a146 := Tryz.isAgg199
  z146 := Tryz.sizeOf199
  v146 := Tryz.zeroValue199 }
open Go.RowKit Go.Lib in
theorem Tryz.bytealg_IndexRabinKarp (s sep : ByteArray) (h1 : 1 ≤ sep.size) (h2 : sep.size ≤ s.size) (hs : s.size < 4294967281) (w : World) :
    Calls Tryz.prog 164 #[.string s, .string sep] w fun e w' => e = .returned (.int .i64 (Lib.index s.data.toList sep.data.toList)) ∧ w' = w := Any.bytealg_IndexRabinKarp Tryz.lays267 s sep h1 h2 hs w
def Tryz.lays219_ren : Go.Shelf.Ren := ⟨fun | 219 => 150 | 217 => 161 | 225 => 162 | 224 => 163 | 267 => 164 | 266 => 171 | 314 => 172 | n => n, fun | 9 => 9 | 3 => 3 | 4 => 4 | 5 => 5 | 46 => 137 | 146 => 199 | 51 => 161 | n => n, fun | 1 => 0 | n => n⟩
theorem Tryz.lays219 : Go.Proofs.Lays.n219 Tryz.prog Tryz.lays219_ren := {
  mixed := by kernel_rfl
  f217 := Tryz.func161.trans (congrArg some (by kernel_rfl))
  f219 := Tryz.func150.trans (congrArg some (by kernel_rfl))
  f224 := Tryz.func163.trans (congrArg some (by kernel_rfl))
  f225 := Tryz.func162.trans (congrArg some (by kernel_rfl))
  f266 := Tryz.func171.trans (congrArg some (by kernel_rfl))
  f267 := Tryz.func164.trans (congrArg some (by kernel_rfl))
  f314 := Tryz.func172.trans (congrArg some (by kernel_rfl))
  t3 := Tryz.underlying3
  a3 := Tryz.isAgg3
  z3 := Tryz.sizeOf3
  v3 := Tryz.zeroValue3
  t4 := Tryz.underlying4
  a4 := Tryz.isAgg4
  z4 := Tryz.sizeOf4
  v4 := Tryz.zeroValue4
  t5 := Tryz.underlying5
  a5 := Tryz.isAgg5
  z5 := Tryz.sizeOf5
  v5 := Tryz.zeroValue5
  t9 := Tryz.underlying9
  a9 := Tryz.isAgg9
  z9 := Tryz.sizeOf9
  v9 := Tryz.zeroValue9
  t46 := Tryz.underlying137
  a46 := Tryz.isAgg137
  z46 := Tryz.sizeOf137
  v46 := Tryz.zeroValue137
  t51 := Tryz.underlying161
  a51 := Tryz.isAgg161
  z51 := Tryz.sizeOf161
  v51 := Tryz.zeroValue161
  t146 := Tryz.underlying199
  a146 := Tryz.isAgg199
  z146 := Tryz.sizeOf199
  v146 := Tryz.zeroValue199
  g1 := by kernel_rfl }
open Go.RowKit Go.Lib in
/-- internal/stringslite.Index (what strings.Index calls) AT A substr OF ONE BYTE c: IT RETURNS 'Lib.indexByte s c'; the world is as it was. (LAID: no walk: one application.) -/
theorem Tryz.stringslite_Index_one (s : ByteArray) (c : UInt8) (w : World) :
    Calls Tryz.prog 150 #[.string s, .string ⟨#[c]⟩] w fun e w' => e = .returned (.int .i64 (Lib.indexByte s.data.toList c)) ∧ w' = w := Any.stringslite_Index_one Tryz.lays219 s c w
open Go.RowKit Go.Lib in
/-- internal/stringslite.Index (what strings.Index calls) AT A substr OF WHATEVER LENGTH: IT RETURNS 'Lib.index s substr'; the world is as it was. 'm': what internal/bytealg.MaxLen holds: whatever. (LAID: no walk: one application.) -/
theorem Tryz.stringslite_Index (s sub : ByteArray) (m : Int) (w : World) (hs : s.size < 4294967281) (hm : w.cell? ⟨0, 0, none⟩ = some (.int .i64 m)) :
    Calls Tryz.prog 150 #[.string s, .string sub] w fun e w' => e = .returned (.int .i64 (Lib.index s.data.toList sub.data.toList)) ∧ w' = w := Any.stringslite_Index Tryz.lays219 s sub m w hs hm
def Tryz.lays143_ren : Go.Shelf.Ren := ⟨fun | 143 => 130 | 219 => 150 | 217 => 161 | 225 => 162 | 224 => 163 | 267 => 164 | 266 => 171 | 314 => 172 | n => n, fun | 9 => 9 | 3 => 3 | 4 => 4 | 5 => 5 | 46 => 137 | 146 => 199 | 51 => 161 | n => n, fun | 1 => 0 | n => n⟩
theorem Tryz.lays143 : Go.Proofs.Lays.n143 Tryz.prog Tryz.lays143_ren := {
  mixed := by kernel_rfl
  f143 := Tryz.func130.trans (congrArg some (by kernel_rfl))
  f217 := Tryz.func161.trans (congrArg some (by kernel_rfl))
  f219 := Tryz.func150.trans (congrArg some (by kernel_rfl))
  f224 := Tryz.func163.trans (congrArg some (by kernel_rfl))
  f225 := Tryz.func162.trans (congrArg some (by kernel_rfl))
  f266 := Tryz.func171.trans (congrArg some (by kernel_rfl))
  f267 := Tryz.func164.trans (congrArg some (by kernel_rfl))
  f314 := Tryz.func172.trans (congrArg some (by kernel_rfl))
  t3 := Tryz.underlying3
  a3 := Tryz.isAgg3
  z3 := Tryz.sizeOf3
  v3 := Tryz.zeroValue3
  t4 := Tryz.underlying4
  a4 := Tryz.isAgg4
  z4 := Tryz.sizeOf4
  v4 := Tryz.zeroValue4
  t5 := Tryz.underlying5
  a5 := Tryz.isAgg5
  z5 := Tryz.sizeOf5
  v5 := Tryz.zeroValue5
  t9 := Tryz.underlying9
  a9 := Tryz.isAgg9
  z9 := Tryz.sizeOf9
  v9 := Tryz.zeroValue9
  t46 := Tryz.underlying137
  a46 := Tryz.isAgg137
  z46 := Tryz.sizeOf137
  v46 := Tryz.zeroValue137
  t51 := Tryz.underlying161
  a51 := Tryz.isAgg161
  z51 := Tryz.sizeOf161
  v51 := Tryz.zeroValue161
  t146 := Tryz.underlying199
  a146 := Tryz.isAgg199
  z146 := Tryz.sizeOf199
  v146 := Tryz.zeroValue199
  g1 := by kernel_rfl }
open Go.RowKit Go.Lib in
/-- strings.Index: "Index returns the index of the first instance of substr in s, or -1 if substr is not present in s.": AT A substr OF ONE BYTE c: IT RETURNS 'Lib.indexByte s c'; the world is as it was. (LAID: no walk: one application.) -/
theorem Tryz.strings_Index_one (s : ByteArray) (c : UInt8) (w : World) :
    Calls Tryz.prog 130 #[.string s, .string ⟨#[c]⟩] w fun e w' => e = .returned (.int .i64 (Lib.indexByte s.data.toList c)) ∧ w' = w := Any.strings_Index_one Tryz.lays143 s c w
open Go.RowKit Go.Lib in
/-- strings.Index: "Index returns the index of the first instance of substr in s, or -1 if substr is not present in s.": IT RETURNS 'Lib.index s substr'; the world is as it was. (LAID: no walk: one application.) -/
theorem Tryz.strings_Index (s sub : ByteArray) (m : Int) (w : World) (hs : s.size < 4294967281) (hm : w.cell? ⟨0, 0, none⟩ = some (.int .i64 m)) :
    Calls Tryz.prog 130 #[.string s, .string sub] w fun e w' => e = .returned (.int .i64 (Lib.index s.data.toList sub.data.toList)) ∧ w' = w := Any.strings_Index Tryz.lays143 s sub m w hs hm
def Tryz.lays138_ren : Go.Shelf.Ren := ⟨fun | 138 => 129 | 195 => 147 | 218 => 149 | 143 => 130 | 219 => 150 | 217 => 161 | 225 => 162 | 224 => 163 | 267 => 164 | 266 => 171 | 314 => 172 | n => n, fun | 9 => 9 | 3 => 3 | 4 => 4 | 5 => 5 | 0 => 0 | 46 => 137 | 146 => 199 | 51 => 161 | n => n, fun | 1 => 0 | n => n⟩
theorem Tryz.lays138 : Go.Proofs.Lays.n138 Tryz.prog Tryz.lays138_ren := {
  mixed := by kernel_rfl
  f138 := Tryz.func129.trans (congrArg some (by kernel_rfl))
  f143 := Tryz.func130.trans (congrArg some (by kernel_rfl))
  f195 := Tryz.func147.trans (congrArg some (by kernel_rfl))
  f217 := Tryz.func161.trans (congrArg some (by kernel_rfl))
  f218 := Tryz.func149.trans (congrArg some (by kernel_rfl))
  f219 := Tryz.func150.trans (congrArg some (by kernel_rfl))
  f224 := Tryz.func163.trans (congrArg some (by kernel_rfl))
  f225 := Tryz.func162.trans (congrArg some (by kernel_rfl))
  f266 := Tryz.func171.trans (congrArg some (by kernel_rfl))
  f267 := Tryz.func164.trans (congrArg some (by kernel_rfl))
  f314 := Tryz.func172.trans (congrArg some (by kernel_rfl))
  t0 := Tryz.underlying0
  a0 := Tryz.isAgg0
  z0 := Tryz.sizeOf0
  v0 := Tryz.zeroValue0
  t3 := Tryz.underlying3
  a3 := Tryz.isAgg3
  z3 := Tryz.sizeOf3
  v3 := Tryz.zeroValue3
  t4 := Tryz.underlying4
  a4 := Tryz.isAgg4
  z4 := Tryz.sizeOf4
  v4 := Tryz.zeroValue4
  t5 := Tryz.underlying5
  a5 := Tryz.isAgg5
  z5 := Tryz.sizeOf5
  v5 := Tryz.zeroValue5
  t9 := Tryz.underlying9
  a9 := Tryz.isAgg9
  z9 := Tryz.sizeOf9
  v9 := Tryz.zeroValue9
  t46 := Tryz.underlying137
  a46 := Tryz.isAgg137
  z46 := Tryz.sizeOf137
  v46 := Tryz.zeroValue137
  t51 := Tryz.underlying161
  a51 := Tryz.isAgg161
  z51 := Tryz.sizeOf161
  v51 := Tryz.zeroValue161
  t146 := Tryz.underlying199
  a146 := Tryz.isAgg199
  z146 := Tryz.sizeOf199
  v146 := Tryz.zeroValue199
  g1 := by kernel_rfl }
open Go.RowKit Go.Lib in
/-- strings.Count AT A substr OF ONE BYTE ('hp'): "Count counts the number of non-overlapping instances of substr in s.": IT RETURNS 'Lib.countByte s (that byte)'; the world is as it was. ✋ NO CONTRACT HERE YET at an empty substr (utf8.RuneCountInString) or at a longer one (a loop over strings.Index). (LAID: no walk: one application.) -/
theorem Tryz.strings_Count_one (s : ByteArray) (c : UInt8) (w : World) :
    Calls Tryz.prog 129 #[.string s, .string ⟨#[c]⟩] w fun e w' => e = .returned (.int .i64 (Lib.countByte s.data.toList c)) ∧ w' = w := Any.strings_Count_one Tryz.lays138 s c w
open Go.RowKit Go.Lib in
/-- strings.Count AT A substr OF TWO BYTES OR MORE: "Count counts the number of non-overlapping instances of substr in s.": IT RETURNS 'Lib.count s substr'; the world is as it was. (LAID: no walk: one application.) -/
theorem Tryz.strings_Count (s sub : ByteArray) (m : Int) (w : World) (hs : s.size < 4294967281) (hm : w.cell? ⟨0, 0, none⟩ = some (.int .i64 m)) (h2 : 2 ≤ sub.size) :
    Calls Tryz.prog 129 #[.string s, .string sub] w fun e w' => e = .returned (.int .i64 (Lib.countB s sub)) ∧ w' = w := Any.strings_Count Tryz.lays138 s sub m w hs hm h2
def Tryz.laysM219_ren : Go.Shelf.Ren := ⟨fun | 219 => 150 | 217 => 161 | 225 => 162 | 224 => 163 | 267 => 164 | 266 => 171 | 314 => 172 | n => n, fun | 9 => 9 | 3 => 3 | 4 => 4 | 5 => 5 | 46 => 137 | 146 => 199 | 51 => 161 | n => n, fun | 1 => 0 | n => n⟩
theorem Tryz.laysM219 : Go.Proofs.LaysM.n219 Tryz.prog Tryz.laysM219_ren := {
  mixed := by kernel_rfl
  f217 := Tryz.func161.trans (congrArg some (by kernel_rfl))
  f219 := Tryz.func150.trans (congrArg some (by kernel_rfl))
  f224 := Tryz.func163.trans (congrArg some (by kernel_rfl))
  f225 := Tryz.func162.trans (congrArg some (by kernel_rfl))
  f266 := Tryz.func171.trans (congrArg some (by kernel_rfl))
  f267 := Tryz.func164.trans (congrArg some (by kernel_rfl))
  f314 := Tryz.func172.trans (congrArg some (by kernel_rfl))
  t3 := Tryz.underlying3
  a3 := Tryz.isAgg3
  z3 := Tryz.sizeOf3
  v3 := Tryz.zeroValue3
  t4 := Tryz.underlying4
  a4 := Tryz.isAgg4
  z4 := Tryz.sizeOf4
  v4 := Tryz.zeroValue4
  t5 := Tryz.underlying5
  a5 := Tryz.isAgg5
  z5 := Tryz.sizeOf5
  v5 := Tryz.zeroValue5
  t9 := Tryz.underlying9
  a9 := Tryz.isAgg9
  z9 := Tryz.sizeOf9
  v9 := Tryz.zeroValue9
  t46 := Tryz.underlying137
  a46 := Tryz.isAgg137
  z46 := Tryz.sizeOf137
  v46 := Tryz.zeroValue137
  t51 := Tryz.underlying161
  a51 := Tryz.isAgg161
  z51 := Tryz.sizeOf161
  v51 := Tryz.zeroValue161
  t146 := Tryz.underlying199
  a146 := Tryz.isAgg199
  z146 := Tryz.sizeOf199
  v146 := Tryz.zeroValue199
  g1 := by kernel_rfl
  i3 := by kernel_rfl
  i4 := by kernel_rfl
  i5 := by kernel_rfl
  i9 := by kernel_rfl
  i46 := by kernel_rfl
  i51 := by kernel_rfl
  i146 := by kernel_rfl
  m1 := by kernel_rfl
  s1_3 := fun w h => Go.Proofs.cell_of_shapedOpen_int (zero := #[.int .i64 0]) (t := 3) h (of_decide_eq_true (by kernel_rfl)) (by kernel_rfl) rfl (by kernel_rfl) (by kernel_rfl) Tryz.underlying3 }
open Go.RowKit Go.Lib in
theorem Tryz.stringslite_Index_shaped (s sub : ByteArray) (w : World) (h : w.ShapedOpen Tryz.prog) (hs : s.size < 4294967281) :
    Calls Tryz.prog 150 #[.string s, .string sub] w fun e w' => e = .returned (.int .i64 (Lib.index s.data.toList sub.data.toList)) ∧ w' = w := Any.stringslite_Index_shaped Tryz.laysM219 s sub w h hs
def Tryz.laysM143_ren : Go.Shelf.Ren := ⟨fun | 143 => 130 | 219 => 150 | 217 => 161 | 225 => 162 | 224 => 163 | 267 => 164 | 266 => 171 | 314 => 172 | n => n, fun | 9 => 9 | 3 => 3 | 4 => 4 | 5 => 5 | 46 => 137 | 146 => 199 | 51 => 161 | n => n, fun | 1 => 0 | n => n⟩
theorem Tryz.laysM143 : Go.Proofs.LaysM.n143 Tryz.prog Tryz.laysM143_ren := {
  mixed := by kernel_rfl
  f143 := Tryz.func130.trans (congrArg some (by kernel_rfl))
  f217 := Tryz.func161.trans (congrArg some (by kernel_rfl))
  f219 := Tryz.func150.trans (congrArg some (by kernel_rfl))
  f224 := Tryz.func163.trans (congrArg some (by kernel_rfl))
  f225 := Tryz.func162.trans (congrArg some (by kernel_rfl))
  f266 := Tryz.func171.trans (congrArg some (by kernel_rfl))
  f267 := Tryz.func164.trans (congrArg some (by kernel_rfl))
  f314 := Tryz.func172.trans (congrArg some (by kernel_rfl))
  t3 := Tryz.underlying3
  a3 := Tryz.isAgg3
  z3 := Tryz.sizeOf3
  v3 := Tryz.zeroValue3
  t4 := Tryz.underlying4
  a4 := Tryz.isAgg4
  z4 := Tryz.sizeOf4
  v4 := Tryz.zeroValue4
  t5 := Tryz.underlying5
  a5 := Tryz.isAgg5
  z5 := Tryz.sizeOf5
  v5 := Tryz.zeroValue5
  t9 := Tryz.underlying9
  a9 := Tryz.isAgg9
  z9 := Tryz.sizeOf9
  v9 := Tryz.zeroValue9
  t46 := Tryz.underlying137
  a46 := Tryz.isAgg137
  z46 := Tryz.sizeOf137
  v46 := Tryz.zeroValue137
  t51 := Tryz.underlying161
  a51 := Tryz.isAgg161
  z51 := Tryz.sizeOf161
  v51 := Tryz.zeroValue161
  t146 := Tryz.underlying199
  a146 := Tryz.isAgg199
  z146 := Tryz.sizeOf199
  v146 := Tryz.zeroValue199
  g1 := by kernel_rfl
  i3 := by kernel_rfl
  i4 := by kernel_rfl
  i5 := by kernel_rfl
  i9 := by kernel_rfl
  i46 := by kernel_rfl
  i51 := by kernel_rfl
  i146 := by kernel_rfl
  m1 := by kernel_rfl
  s1_3 := fun w h => Go.Proofs.cell_of_shapedOpen_int (zero := #[.int .i64 0]) (t := 3) h (of_decide_eq_true (by kernel_rfl)) (by kernel_rfl) rfl (by kernel_rfl) (by kernel_rfl) Tryz.underlying3 }
open Go.RowKit Go.Lib in
theorem Tryz.strings_Index_shaped (s sub : ByteArray) (w : World) (h : w.ShapedOpen Tryz.prog) (hs : s.size < 4294967281) :
    Calls Tryz.prog 130 #[.string s, .string sub] w fun e w' => e = .returned (.int .i64 (Lib.index s.data.toList sub.data.toList)) ∧ w' = w := Any.strings_Index_shaped Tryz.laysM143 s sub w h hs
def Tryz.laysM138_ren : Go.Shelf.Ren := ⟨fun | 138 => 129 | 195 => 147 | 218 => 149 | 143 => 130 | 219 => 150 | 217 => 161 | 225 => 162 | 224 => 163 | 267 => 164 | 266 => 171 | 314 => 172 | n => n, fun | 9 => 9 | 3 => 3 | 4 => 4 | 5 => 5 | 0 => 0 | 46 => 137 | 146 => 199 | 51 => 161 | n => n, fun | 1 => 0 | n => n⟩
theorem Tryz.laysM138 : Go.Proofs.LaysM.n138 Tryz.prog Tryz.laysM138_ren := {
  mixed := by kernel_rfl
  f138 := Tryz.func129.trans (congrArg some (by kernel_rfl))
  f143 := Tryz.func130.trans (congrArg some (by kernel_rfl))
  f195 := Tryz.func147.trans (congrArg some (by kernel_rfl))
  f217 := Tryz.func161.trans (congrArg some (by kernel_rfl))
  f218 := Tryz.func149.trans (congrArg some (by kernel_rfl))
  f219 := Tryz.func150.trans (congrArg some (by kernel_rfl))
  f224 := Tryz.func163.trans (congrArg some (by kernel_rfl))
  f225 := Tryz.func162.trans (congrArg some (by kernel_rfl))
  f266 := Tryz.func171.trans (congrArg some (by kernel_rfl))
  f267 := Tryz.func164.trans (congrArg some (by kernel_rfl))
  f314 := Tryz.func172.trans (congrArg some (by kernel_rfl))
  t0 := Tryz.underlying0
  a0 := Tryz.isAgg0
  z0 := Tryz.sizeOf0
  v0 := Tryz.zeroValue0
  t3 := Tryz.underlying3
  a3 := Tryz.isAgg3
  z3 := Tryz.sizeOf3
  v3 := Tryz.zeroValue3
  t4 := Tryz.underlying4
  a4 := Tryz.isAgg4
  z4 := Tryz.sizeOf4
  v4 := Tryz.zeroValue4
  t5 := Tryz.underlying5
  a5 := Tryz.isAgg5
  z5 := Tryz.sizeOf5
  v5 := Tryz.zeroValue5
  t9 := Tryz.underlying9
  a9 := Tryz.isAgg9
  z9 := Tryz.sizeOf9
  v9 := Tryz.zeroValue9
  t46 := Tryz.underlying137
  a46 := Tryz.isAgg137
  z46 := Tryz.sizeOf137
  v46 := Tryz.zeroValue137
  t51 := Tryz.underlying161
  a51 := Tryz.isAgg161
  z51 := Tryz.sizeOf161
  v51 := Tryz.zeroValue161
  t146 := Tryz.underlying199
  a146 := Tryz.isAgg199
  z146 := Tryz.sizeOf199
  v146 := Tryz.zeroValue199
  g1 := by kernel_rfl
  i0 := by kernel_rfl
  i3 := by kernel_rfl
  i4 := by kernel_rfl
  i5 := by kernel_rfl
  i9 := by kernel_rfl
  i46 := by kernel_rfl
  i51 := by kernel_rfl
  i146 := by kernel_rfl
  m1 := by kernel_rfl
  s1_3 := fun w h => Go.Proofs.cell_of_shapedOpen_int (zero := #[.int .i64 0]) (t := 3) h (of_decide_eq_true (by kernel_rfl)) (by kernel_rfl) rfl (by kernel_rfl) (by kernel_rfl) Tryz.underlying3 }
open Go.RowKit Go.Lib in
theorem Tryz.strings_Count_shaped (s sub : ByteArray) (w : World) (h : w.ShapedOpen Tryz.prog) (hs : s.size < 4294967281) (h2 : 2 ≤ sub.size) :
    Calls Tryz.prog 129 #[.string s, .string sub] w fun e w' => e = .returned (.int .i64 (Lib.countB s sub)) ∧ w' = w := Any.strings_Count_shaped Tryz.laysM138 s sub w h hs h2
def Tryz.lays206_ren : Go.Shelf.Ren := ⟨fun | 206 => 146 | n => n, fun | 9 => 9 | 4 => 4 | 3 => 3 | n => n, fun | n => n⟩
theorem Tryz.lays206 : Go.Proofs.Lays.n206 Tryz.prog Tryz.lays206_ren := {
  mixed := by kernel_rfl
  f206 := Tryz.func146.trans (congrArg some (by kernel_rfl))
  t3 := Tryz.underlying3
  a3 := Tryz.isAgg3
  z3 := Tryz.sizeOf3
  v3 := Tryz.zeroValue3
  t4 := Tryz.underlying4
  a4 := Tryz.isAgg4
  z4 := Tryz.sizeOf4
  v4 := Tryz.zeroValue4
  t9 := Tryz.underlying9
  a9 := Tryz.isAgg9
  z9 := Tryz.sizeOf9
  v9 := Tryz.zeroValue9 }
open Go.RowKit Go.Lib in
/-- internal/stringslite.HasPrefix (what strings.HasPrefix calls). (LAID: no walk: one application.) -/
theorem Tryz.stringslite_HasPrefix (s p : ByteArray) (w : World) :
    Calls Tryz.prog 146 #[.string s, .string p] w fun e w' => e = .returned (.bool (Lib.hasPrefix s.data.toList p.data.toList)) ∧ w' = w := Any.stringslite_HasPrefix Tryz.lays206 s p w
def Tryz.lays99_ren : Go.Shelf.Ren := ⟨fun | 99 => 155 | 206 => 146 | n => n, fun | 9 => 9 | 4 => 4 | 3 => 3 | n => n, fun | n => n⟩
theorem Tryz.lays99 : Go.Proofs.Lays.n99 Tryz.prog Tryz.lays99_ren := {
  mixed := by kernel_rfl
  f99 := Tryz.func155.trans (congrArg some (by kernel_rfl))
  f206 := Tryz.func146.trans (congrArg some (by kernel_rfl))
  t3 := Tryz.underlying3
  a3 := Tryz.isAgg3
  z3 := Tryz.sizeOf3
  v3 := Tryz.zeroValue3
  t4 := Tryz.underlying4
  a4 := Tryz.isAgg4
  z4 := Tryz.sizeOf4
  v4 := Tryz.zeroValue4
  t9 := Tryz.underlying9
  a9 := Tryz.isAgg9
  z9 := Tryz.sizeOf9
  v9 := Tryz.zeroValue9 }
open Go.RowKit Go.Lib in
/-- strings.HasPrefix: "HasPrefix reports whether the string s begins with prefix.": IT RETURNS 'Lib.hasPrefix s prefix'; the world is as it was. (LAID: no walk: one application.) -/
theorem Tryz.strings_HasPrefix (s p : ByteArray) (w : World) :
    Calls Tryz.prog 155 #[.string s, .string p] w fun e w' => e = .returned (.bool (Lib.hasPrefix s.data.toList p.data.toList)) ∧ w' = w := Any.strings_HasPrefix Tryz.lays99 s p w
open Go.RowKit Go.Lib in
/-- strings.Count at whatever sep that is not empty: the two roads under one statement. (LAID: no walk: one application.) -/
theorem Tryz.strings_Count_any (s sep : ByteArray) (m : Int) (w : World) (hs : s.size < 4294967281) (hm : w.cell? ⟨0, 0, none⟩ = some (.int .i64 m)) (h1 : 1 ≤ sep.size) :
    Calls Tryz.prog 129 #[.string s, .string sep] w fun e w' => e = .returned (.int .i64 (Lib.countB s sep)) ∧ w' = w := Any.strings_Count_any Tryz.lays138 s sep m w hs hm h1
def Tryz.lays221_ren : Go.Shelf.Ren := ⟨fun | 221 => 97 | 268 => 128 | 138 => 129 | 143 => 130 | 195 => 147 | 197 => 148 | 218 => 149 | 219 => 150 | 260 => 160 | 217 => 161 | 225 => 162 | 224 => 163 | 267 => 164 | 266 => 171 | 314 => 172 | n => n, fun | 9 => 9 | 3 => 3 | 31 => 29 | 4 => 4 | 0 => 0 | 105 => 185 | 21 => 21 | 5 => 5 | 46 => 137 | 119 => 203 | 139 => 206 | 138 => 205 | 146 => 199 | 51 => 161 | n => n, fun | 1 => 0 | 3 => 1 | 4 => 2 | n => n⟩
theorem Tryz.lays221 : Go.Proofs.Lays.n221 Tryz.prog Tryz.lays221_ren := {
  mixed := by kernel_rfl
  f138 := Tryz.func129.trans (congrArg some (by kernel_rfl))
  f143 := Tryz.func130.trans (congrArg some (by kernel_rfl))
  f195 := Tryz.func147.trans (congrArg some (by kernel_rfl))
  f197 := Tryz.func148.trans (congrArg some (by kernel_rfl))
  f217 := Tryz.func161.trans (congrArg some (by kernel_rfl))
  f218 := Tryz.func149.trans (congrArg some (by kernel_rfl))
  f219 := Tryz.func150.trans (congrArg some (by kernel_rfl))
  f221 := Tryz.func97.trans (congrArg some (by kernel_rfl))
  f224 := Tryz.func163.trans (congrArg some (by kernel_rfl))
  f225 := Tryz.func162.trans (congrArg some (by kernel_rfl))
  f260 := Tryz.func160.trans (congrArg some (by kernel_rfl))
  f266 := Tryz.func171.trans (congrArg some (by kernel_rfl))
  f267 := Tryz.func164.trans (congrArg some (by kernel_rfl))
  f268 := Tryz.func128.trans (congrArg some (by kernel_rfl))
  f314 := Tryz.func172.trans (congrArg some (by kernel_rfl))
  t0 := Tryz.underlying0
  a0 := Tryz.isAgg0
  z0 := Tryz.sizeOf0
  v0 := Tryz.zeroValue0
  t3 := Tryz.underlying3
  a3 := Tryz.isAgg3
  z3 := Tryz.sizeOf3
  v3 := Tryz.zeroValue3
  t4 := Tryz.underlying4
  a4 := Tryz.isAgg4
  z4 := Tryz.sizeOf4
  v4 := Tryz.zeroValue4
  t5 := Tryz.underlying5
  a5 := Tryz.isAgg5
  z5 := Tryz.sizeOf5
  v5 := Tryz.zeroValue5
  t9 := Tryz.underlying9
  a9 := Tryz.isAgg9
  z9 := Tryz.sizeOf9
  v9 := Tryz.zeroValue9
  t21 := Tryz.underlying21
  a21 := Tryz.isAgg21
  z21 := Tryz.sizeOf21
  v21 := Tryz.zeroValue21
  t31 := Tryz.underlying29
  a31 := Tryz.isAgg29
  z31 := Tryz.sizeOf29
  v31 := Tryz.zeroValue29
  t46 := Tryz.underlying137
  a46 := Tryz.isAgg137
  z46 := Tryz.sizeOf137
  v46 := Tryz.zeroValue137
  t51 := Tryz.underlying161
  a51 := Tryz.isAgg161
  z51 := Tryz.sizeOf161
  v51 := Tryz.zeroValue161
  t105 := Tryz.underlying185
  a105 := Tryz.isAgg185
  z105 := Tryz.sizeOf185
  v105 := Tryz.zeroValue185
  t119 := Tryz.underlying203
  a119 := Tryz.isAgg203
  z119 := Tryz.sizeOf203
  t138 := Tryz.underlying205
  a138 := Tryz.isAgg205
  z138 := Tryz.sizeOf205
  v138 := Tryz.zeroValue205
  t139 := Tryz.underlying206
  a139 := Tryz.isAgg206
  z139 := Tryz.sizeOf206
  v139 := Tryz.zeroValue206
  t146 := Tryz.underlying199
  a146 := Tryz.isAgg199
  z146 := Tryz.sizeOf199
  v146 := Tryz.zeroValue199
  g1 := by kernel_rfl
  g3 := by kernel_rfl
  g4 := by kernel_rfl }
open Go.RowKit Go.Lib in
theorem Tryz.strings_genSplit (s sep : ByteArray) (sv : Nat) (n : Int) (N : Nat) (m : Int) (w : World) (hs : s.size < 4294967281) (hm : w.cell? ⟨0, 0, none⟩ = some (.int .i64 m)) (h1 : 1 ≤ sep.size) (hsv : sv ≤ sep.size) (hn0 : n ≠ 0) (hn63 : n ≤ 9223372036854775807) (hN : (N : Int) = min (if n < 0 then (Lib.countB s sep : Int) + 1 else n) ((s.size : Int) + 1)) :
    Calls Tryz.prog 97 #[.string s, .string sep, .int .i64 sv, .int .i64 n] w fun e w' =>
      e = .returned (.slice (some ⟨w.heap.size, 0, none⟩) (Lib.splitB sep sv (N - 1) s).length N) ∧ w' = w.alloc (.cells (Lib.cellsOf (Lib.splitB sep sv (N - 1) s) N) 9) := Any.strings_genSplit Tryz.lays221 (by kernel_rfl) s sep sv n N m w hs hm h1 hsv hn0 hn63 hN
def Tryz.lays146_ren : Go.Shelf.Ren := ⟨fun | 146 => 66 | 221 => 97 | 268 => 128 | 138 => 129 | 143 => 130 | 195 => 147 | 197 => 148 | 218 => 149 | 219 => 150 | 260 => 160 | 217 => 161 | 225 => 162 | 224 => 163 | 267 => 164 | 266 => 171 | 314 => 172 | n => n, fun | 9 => 9 | 31 => 29 | 3 => 3 | 4 => 4 | 0 => 0 | 105 => 185 | 21 => 21 | 5 => 5 | 46 => 137 | 119 => 203 | 139 => 206 | 138 => 205 | 146 => 199 | 51 => 161 | n => n, fun | 1 => 0 | 3 => 1 | 4 => 2 | n => n⟩
theorem Tryz.lays146 : Go.Proofs.Lays.n146 Tryz.prog Tryz.lays146_ren := {
  mixed := by kernel_rfl
  f138 := Tryz.func129.trans (congrArg some (by kernel_rfl))
  f143 := Tryz.func130.trans (congrArg some (by kernel_rfl))
  f146 := Tryz.func66.trans (congrArg some (by kernel_rfl))
  f195 := Tryz.func147.trans (congrArg some (by kernel_rfl))
  f197 := Tryz.func148.trans (congrArg some (by kernel_rfl))
  f217 := Tryz.func161.trans (congrArg some (by kernel_rfl))
  f218 := Tryz.func149.trans (congrArg some (by kernel_rfl))
  f219 := Tryz.func150.trans (congrArg some (by kernel_rfl))
  f221 := Tryz.func97.trans (congrArg some (by kernel_rfl))
  f224 := Tryz.func163.trans (congrArg some (by kernel_rfl))
  f225 := Tryz.func162.trans (congrArg some (by kernel_rfl))
  f260 := Tryz.func160.trans (congrArg some (by kernel_rfl))
  f266 := Tryz.func171.trans (congrArg some (by kernel_rfl))
  f267 := Tryz.func164.trans (congrArg some (by kernel_rfl))
  f268 := Tryz.func128.trans (congrArg some (by kernel_rfl))
  f314 := Tryz.func172.trans (congrArg some (by kernel_rfl))
  t0 := Tryz.underlying0
  a0 := Tryz.isAgg0
  z0 := Tryz.sizeOf0
  v0 := Tryz.zeroValue0
  t3 := Tryz.underlying3
  a3 := Tryz.isAgg3
  z3 := Tryz.sizeOf3
  v3 := Tryz.zeroValue3
  t4 := Tryz.underlying4
  a4 := Tryz.isAgg4
  z4 := Tryz.sizeOf4
  v4 := Tryz.zeroValue4
  t5 := Tryz.underlying5
  a5 := Tryz.isAgg5
  z5 := Tryz.sizeOf5
  v5 := Tryz.zeroValue5
  t9 := Tryz.underlying9
  a9 := Tryz.isAgg9
  z9 := Tryz.sizeOf9
  v9 := Tryz.zeroValue9
  t21 := Tryz.underlying21
  a21 := Tryz.isAgg21
  z21 := Tryz.sizeOf21
  v21 := Tryz.zeroValue21
  t31 := Tryz.underlying29
  a31 := Tryz.isAgg29
  z31 := Tryz.sizeOf29
  v31 := Tryz.zeroValue29
  t46 := Tryz.underlying137
  a46 := Tryz.isAgg137
  z46 := Tryz.sizeOf137
  v46 := Tryz.zeroValue137
  t51 := Tryz.underlying161
  a51 := Tryz.isAgg161
  z51 := Tryz.sizeOf161
  v51 := Tryz.zeroValue161
  t105 := Tryz.underlying185
  a105 := Tryz.isAgg185
  z105 := Tryz.sizeOf185
  v105 := Tryz.zeroValue185
  t119 := Tryz.underlying203
  a119 := Tryz.isAgg203
  z119 := Tryz.sizeOf203
  t138 := Tryz.underlying205
  a138 := Tryz.isAgg205
  z138 := Tryz.sizeOf205
  v138 := Tryz.zeroValue205
  t139 := Tryz.underlying206
  a139 := Tryz.isAgg206
  z139 := Tryz.sizeOf206
  v139 := Tryz.zeroValue206
  t146 := Tryz.underlying199
  a146 := Tryz.isAgg199
  z146 := Tryz.sizeOf199
  v146 := Tryz.zeroValue199
  g1 := by kernel_rfl
  g3 := by kernel_rfl
  g4 := by kernel_rfl }
open Go.RowKit Go.Lib in
/-- strings.Split. (LAID: no walk: one application.) -/
theorem Tryz.strings_Split (s sep : ByteArray) (m : Int) (w : World) (hs : s.size < 4294967281) (hm : w.cell? ⟨0, 0, none⟩ = some (.int .i64 m)) (h1 : 1 ≤ sep.size) :
    Calls Tryz.prog 66 #[.string s, .string sep] w fun e w' =>
      e = .returned (.slice (some ⟨w.heap.size, 0, none⟩) (Lib.countB s sep + 1) (Lib.countB s sep + 1)) ∧ w' = w.alloc (.cells ((Lib.splitB sep 0 (Lib.countB s sep) s).map Value.string).toArray 9) := Any.strings_Split Tryz.lays146 (by kernel_rfl) s sep m w hs hm h1
def Tryz.laysM146_ren : Go.Shelf.Ren := ⟨fun | 146 => 66 | 221 => 97 | 268 => 128 | 138 => 129 | 143 => 130 | 195 => 147 | 197 => 148 | 218 => 149 | 219 => 150 | 260 => 160 | 217 => 161 | 225 => 162 | 224 => 163 | 267 => 164 | 266 => 171 | 314 => 172 | n => n, fun | 9 => 9 | 31 => 29 | 3 => 3 | 4 => 4 | 0 => 0 | 105 => 185 | 21 => 21 | 5 => 5 | 46 => 137 | 119 => 203 | 139 => 206 | 138 => 205 | 146 => 199 | 51 => 161 | n => n, fun | 1 => 0 | 3 => 1 | 4 => 2 | n => n⟩
theorem Tryz.laysM146 : Go.Proofs.LaysM.n146 Tryz.prog Tryz.laysM146_ren := {
  mixed := by kernel_rfl
  f138 := Tryz.func129.trans (congrArg some (by kernel_rfl))
  f143 := Tryz.func130.trans (congrArg some (by kernel_rfl))
  f146 := Tryz.func66.trans (congrArg some (by kernel_rfl))
  f195 := Tryz.func147.trans (congrArg some (by kernel_rfl))
  f197 := Tryz.func148.trans (congrArg some (by kernel_rfl))
  f217 := Tryz.func161.trans (congrArg some (by kernel_rfl))
  f218 := Tryz.func149.trans (congrArg some (by kernel_rfl))
  f219 := Tryz.func150.trans (congrArg some (by kernel_rfl))
  f221 := Tryz.func97.trans (congrArg some (by kernel_rfl))
  f224 := Tryz.func163.trans (congrArg some (by kernel_rfl))
  f225 := Tryz.func162.trans (congrArg some (by kernel_rfl))
  f260 := Tryz.func160.trans (congrArg some (by kernel_rfl))
  f266 := Tryz.func171.trans (congrArg some (by kernel_rfl))
  f267 := Tryz.func164.trans (congrArg some (by kernel_rfl))
  f268 := Tryz.func128.trans (congrArg some (by kernel_rfl))
  f314 := Tryz.func172.trans (congrArg some (by kernel_rfl))
  t0 := Tryz.underlying0
  a0 := Tryz.isAgg0
  z0 := Tryz.sizeOf0
  v0 := Tryz.zeroValue0
  t3 := Tryz.underlying3
  a3 := Tryz.isAgg3
  z3 := Tryz.sizeOf3
  v3 := Tryz.zeroValue3
  t4 := Tryz.underlying4
  a4 := Tryz.isAgg4
  z4 := Tryz.sizeOf4
  v4 := Tryz.zeroValue4
  t5 := Tryz.underlying5
  a5 := Tryz.isAgg5
  z5 := Tryz.sizeOf5
  v5 := Tryz.zeroValue5
  t9 := Tryz.underlying9
  a9 := Tryz.isAgg9
  z9 := Tryz.sizeOf9
  v9 := Tryz.zeroValue9
  t21 := Tryz.underlying21
  a21 := Tryz.isAgg21
  z21 := Tryz.sizeOf21
  v21 := Tryz.zeroValue21
  t31 := Tryz.underlying29
  a31 := Tryz.isAgg29
  z31 := Tryz.sizeOf29
  v31 := Tryz.zeroValue29
  t46 := Tryz.underlying137
  a46 := Tryz.isAgg137
  z46 := Tryz.sizeOf137
  v46 := Tryz.zeroValue137
  t51 := Tryz.underlying161
  a51 := Tryz.isAgg161
  z51 := Tryz.sizeOf161
  v51 := Tryz.zeroValue161
  t105 := Tryz.underlying185
  a105 := Tryz.isAgg185
  z105 := Tryz.sizeOf185
  v105 := Tryz.zeroValue185
  t119 := Tryz.underlying203
  a119 := Tryz.isAgg203
  z119 := Tryz.sizeOf203
  t138 := Tryz.underlying205
  a138 := Tryz.isAgg205
  z138 := Tryz.sizeOf205
  v138 := Tryz.zeroValue205
  t139 := Tryz.underlying206
  a139 := Tryz.isAgg206
  z139 := Tryz.sizeOf206
  v139 := Tryz.zeroValue206
  t146 := Tryz.underlying199
  a146 := Tryz.isAgg199
  z146 := Tryz.sizeOf199
  v146 := Tryz.zeroValue199
  g1 := by kernel_rfl
  g3 := by kernel_rfl
  g4 := by kernel_rfl
  i0 := by kernel_rfl
  i3 := by kernel_rfl
  i4 := by kernel_rfl
  i5 := by kernel_rfl
  i9 := by kernel_rfl
  i21 := by kernel_rfl
  i31 := by kernel_rfl
  i46 := by kernel_rfl
  i51 := by kernel_rfl
  i105 := by kernel_rfl
  i138 := by kernel_rfl
  i139 := by kernel_rfl
  i146 := by kernel_rfl
  m1 := by kernel_rfl
  s1_3 := fun w h => Go.Proofs.cell_of_shapedOpen_int (zero := #[.int .i64 0]) (t := 3) h (of_decide_eq_true (by kernel_rfl)) (by kernel_rfl) rfl (by kernel_rfl) (by kernel_rfl) Tryz.underlying3
  m3 := by kernel_rfl
  m4 := by kernel_rfl }
open Go.RowKit Go.Lib in
/-- strings.Split, sep not empty. (LAID: no walk: one application.) -/
theorem Tryz.strings_Split_shaped (s sep : ByteArray) (w : World) (h : w.ShapedOpen Tryz.prog) (hs : s.size < 4294967281) (h1 : 1 ≤ sep.size) :
    Calls Tryz.prog 66 #[.string s, .string sep] w fun e w' =>
      e = .returned (.slice (some ⟨w.heap.size, 0, none⟩) (Lib.countB s sep + 1) (Lib.countB s sep + 1)) ∧ w' = w.alloc (.cells ((Lib.splitB sep 0 (Lib.countB s sep) s).map Value.string).toArray 9) := Any.strings_Split_shaped Tryz.laysM146 s sep w h hs h1
def Tryz.lays197_ren : Go.Shelf.Ren := ⟨fun | 197 => 148 | 260 => 160 | n => n, fun | 9 => 9 | 21 => 21 | 3 => 3 | 4 => 4 | 5 => 5 | 105 => 185 | 119 => 203 | 0 => 0 | 46 => 137 | 139 => 206 | 138 => 205 | n => n, fun | 3 => 1 | 4 => 2 | n => n⟩
theorem Tryz.lays197 : Go.Proofs.Lays.n197 Tryz.prog Tryz.lays197_ren := {
  mixed := by kernel_rfl
  f197 := Tryz.func148.trans (congrArg some (by kernel_rfl))
  f260 := Tryz.func160.trans (congrArg some (by kernel_rfl))
  t0 := Tryz.underlying0
  a0 := Tryz.isAgg0
  z0 := Tryz.sizeOf0
  v0 := Tryz.zeroValue0
  t3 := Tryz.underlying3
  a3 := Tryz.isAgg3
  z3 := Tryz.sizeOf3
  v3 := Tryz.zeroValue3
  t4 := Tryz.underlying4
  a4 := Tryz.isAgg4
  z4 := Tryz.sizeOf4
  v4 := Tryz.zeroValue4
  t5 := Tryz.underlying5
  a5 := Tryz.isAgg5
  z5 := Tryz.sizeOf5
  v5 := Tryz.zeroValue5
  t9 := Tryz.underlying9
  a9 := Tryz.isAgg9
  z9 := Tryz.sizeOf9
  v9 := Tryz.zeroValue9
  t21 := Tryz.underlying21
  a21 := Tryz.isAgg21
  z21 := Tryz.sizeOf21
  v21 := Tryz.zeroValue21
  t46 := Tryz.underlying137
  a46 := Tryz.isAgg137
  z46 := Tryz.sizeOf137
  v46 := Tryz.zeroValue137
  t105 := Tryz.underlying185
  a105 := Tryz.isAgg185
  z105 := Tryz.sizeOf185
  v105 := Tryz.zeroValue185
  t119 := Tryz.underlying203
  a119 := Tryz.isAgg203
  z119 := Tryz.sizeOf203
  t138 := Tryz.underlying205
  a138 := Tryz.isAgg205
  z138 := Tryz.sizeOf205
  v138 := Tryz.zeroValue205
  t139 := Tryz.underlying206
  a139 := Tryz.isAgg206
  z139 := Tryz.sizeOf206
  v139 := Tryz.zeroValue206
  g3 := by kernel_rfl
  g4 := by kernel_rfl }
open Go.RowKit Go.Lib in
/-- unicode/utf8.DecodeRuneInString: "DecodeRuneInString is like DecodeRune but its input is a string.": ("DecodeRune unpacks the first UTF-8 encoding in p and returns the rune and its width in bytes."): WHERE s BEGINS WITH AN ASCII BYTE x: (x, 1). (LAID: no walk: one application.) -/
theorem Tryz.utf8_DecodeRuneInString_ascii (s : ByteArray) (x : UInt8) (w : World) (h0 : s.data.toList[0]? = some x) (hx : x.toNat < 128) :
    Calls Tryz.prog 148 #[.string s] w fun e w' => e = .returned (.tuple #[.int .i32 x.toNat, .int .i64 1]) ∧ w' = w := Any.utf8_DecodeRuneInString_ascii Tryz.lays197 s x w h0 hx
open Go.RowKit Go.Lib in
theorem Tryz.utf8_RuneCountInString_ascii (s : ByteArray) (w : World) (hs : s.size < 4294967281) (hascii : ∀ (j : Nat) b, s.data.toList[j]? = some b → b.toNat < 128) :
    Calls Tryz.prog 147 #[.string s] w fun e w' => e = .returned (.int .i64 s.size) ∧ w' = w.iter s s.size := Any.utf8_RuneCountInString_ascii Tryz.lays195 s w hs hascii
def Tryz.lays268_ren : Go.Shelf.Ren := ⟨fun | 268 => 128 | 195 => 147 | 197 => 148 | 260 => 160 | n => n, fun | 9 => 9 | 3 => 3 | 31 => 29 | 4 => 4 | 105 => 185 | 21 => 21 | 0 => 0 | 5 => 5 | 119 => 203 | 46 => 137 | 139 => 206 | 138 => 205 | n => n, fun | 3 => 1 | 4 => 2 | n => n⟩
theorem Tryz.lays268 : Go.Proofs.Lays.n268 Tryz.prog Tryz.lays268_ren := {
  mixed := by kernel_rfl
  f195 := Tryz.func147.trans (congrArg some (by kernel_rfl))
  f197 := Tryz.func148.trans (congrArg some (by kernel_rfl))
  f260 := Tryz.func160.trans (congrArg some (by kernel_rfl))
  f268 := Tryz.func128.trans (congrArg some (by kernel_rfl))
  t0 := Tryz.underlying0
  a0 := Tryz.isAgg0
  z0 := Tryz.sizeOf0
  v0 := Tryz.zeroValue0
  t3 := Tryz.underlying3
  a3 := Tryz.isAgg3
  z3 := Tryz.sizeOf3
  v3 := Tryz.zeroValue3
  t4 := Tryz.underlying4
  a4 := Tryz.isAgg4
  z4 := Tryz.sizeOf4
  v4 := Tryz.zeroValue4
  t5 := Tryz.underlying5
  a5 := Tryz.isAgg5
  z5 := Tryz.sizeOf5
  v5 := Tryz.zeroValue5
  t9 := Tryz.underlying9
  a9 := Tryz.isAgg9
  z9 := Tryz.sizeOf9
  v9 := Tryz.zeroValue9
  t21 := Tryz.underlying21
  a21 := Tryz.isAgg21
  z21 := Tryz.sizeOf21
  v21 := Tryz.zeroValue21
  t31 := Tryz.underlying29
  a31 := Tryz.isAgg29
  z31 := Tryz.sizeOf29
  v31 := Tryz.zeroValue29
  t46 := Tryz.underlying137
  a46 := Tryz.isAgg137
  z46 := Tryz.sizeOf137
  v46 := Tryz.zeroValue137
  t105 := Tryz.underlying185
  a105 := Tryz.isAgg185
  z105 := Tryz.sizeOf185
  v105 := Tryz.zeroValue185
  t119 := Tryz.underlying203
  a119 := Tryz.isAgg203
  z119 := Tryz.sizeOf203
  t138 := Tryz.underlying205
  a138 := Tryz.isAgg205
  z138 := Tryz.sizeOf205
  v138 := Tryz.zeroValue205
  t139 := Tryz.underlying206
  a139 := Tryz.isAgg206
  z139 := Tryz.sizeOf206
  v139 := Tryz.zeroValue206
  g3 := by kernel_rfl
  g4 := by kernel_rfl }
open Go.RowKit Go.Lib in
theorem Tryz.strings_explode_all (s : ByteArray) (n : Int) (w : World) (hn : n < 0) (hs : s.size < 4294967281) (hascii : ∀ (j : Nat) b, s.data.toList[j]? = some b → b.toNat < 128) :
    Calls Tryz.prog 128 #[.string s, .int .i64 n] w fun e w' =>
      e = .returned (.slice (some ⟨(w.iter s s.size).heap.size, 0, none⟩) s.size s.size) ∧ w' = (w.iter s s.size).alloc (.cells ((Lib.charsB s).map Value.string).toArray 9) := Any.strings_explode_all Tryz.lays268 (by kernel_rfl) s n w hn hs hascii
open Go.RowKit Go.Lib in
/-- strings.genSplit at sep == "", n < 0: 'return explode(s, n)'. (LAID: no walk: one application.) -/
theorem Tryz.strings_genSplit_chars (s sep : ByteArray) (sv n : Int) (w : World) (h0 : sep.size = 0) (hn : n < 0) (hs : s.size < 4294967281) (hascii : ∀ (j : Nat) b, s.data.toList[j]? = some b → b.toNat < 128) :
    Calls Tryz.prog 97 #[.string s, .string sep, .int .i64 sv, .int .i64 n] w fun e w' =>
      e = .returned (.slice (some ⟨(w.iter s s.size).heap.size, 0, none⟩) s.size s.size) ∧ w' = (w.iter s s.size).alloc (.cells ((Lib.charsB s).map Value.string).toArray 9) := Any.strings_genSplit_chars Tryz.lays221 (by kernel_rfl) s sep sv n w h0 hn hs hascii
open Go.RowKit Go.Lib in
/-- strings.Split(s, ""), s ASCII: a piece a byte. (LAID: no walk: one application.) -/
theorem Tryz.strings_Split_chars (s sep : ByteArray) (w : World) (h0 : sep.size = 0) (hs : s.size < 4294967281) (hascii : ∀ (j : Nat) b, s.data.toList[j]? = some b → b.toNat < 128) :
    Calls Tryz.prog 66 #[.string s, .string sep] w fun e w' =>
      e = .returned (.slice (some ⟨(w.iter s s.size).heap.size, 0, none⟩) s.size s.size) ∧ w' = (w.iter s s.size).alloc (.cells ((Lib.charsB s).map Value.string).toArray 9) := Any.strings_Split_chars Tryz.lays146 (by kernel_rfl) s sep w h0 hs hascii
def Tryz.lays264_ren : Go.Shelf.Ren := ⟨fun | 264 => 169 | n => n, fun | 53 => 163 | 46 => 137 | n => n, fun | n => n⟩
theorem Tryz.lays264 : Go.Proofs.Lays.n264 Tryz.prog Tryz.lays264_ren := {
  mixed := by kernel_rfl
  f264 := Tryz.func169.trans (congrArg some (by kernel_rfl))
  t46 := Tryz.underlying137
  a46 := Tryz.isAgg137
  z46 := Tryz.sizeOf137
  v46 := Tryz.zeroValue137
  t53 := Tryz.underlying163
  a53 := Tryz.isAgg163
  z53 := Tryz.sizeOf163
  v53 := Tryz.zeroValue163 }
open Go.RowKit Go.Lib in
theorem Tryz.bits_Mul64 (x y : Nat) (hx : x < 18446744073709551616) (hy : y < 18446744073709551616) (w : World) :
    Calls Tryz.prog 169 #[.int .u64 x, .int .u64 y] w fun e w' => e = .returned (.tuple #[.int .u64 ((x * y / 18446744073709551616 : Nat) : Int), .int .u64 ((x * y % 18446744073709551616 : Nat) : Int)]) ∧ w' = w := Any.bits_Mul64 Tryz.lays264 x y hx hy w
def Tryz.lays212_ren : Go.Shelf.Ren := ⟨fun | 212 => 154 | 263 => 168 | 264 => 169 | n => n, fun | 46 => 137 | 51 => 161 | 146 => 199 | 53 => 163 | 148 => 201 | n => n, fun | n => n⟩
theorem Tryz.lays212 : Go.Proofs.Lays.n212 Tryz.prog Tryz.lays212_ren := {
  mixed := by kernel_rfl
  f212 := Tryz.func154.trans (congrArg some (by kernel_rfl))
  f263 := Tryz.func168.trans (congrArg some (by kernel_rfl))
  f264 := Tryz.func169.trans (congrArg some (by kernel_rfl))
  t46 := Tryz.underlying137
  a46 := Tryz.isAgg137
  z46 := Tryz.sizeOf137
  v46 := Tryz.zeroValue137
  t51 := Tryz.underlying161
  a51 := Tryz.isAgg161
  z51 := Tryz.sizeOf161
  v51 := Tryz.zeroValue161
  t53 := Tryz.underlying163
  a53 := Tryz.isAgg163
  z53 := Tryz.sizeOf163
  v53 := Tryz.zeroValue163
  t146 := Tryz.underlying199
  a146 := Tryz.isAgg199
  z146 := Tryz.sizeOf199
  v146 := Tryz.zeroValue199
  t148 := Tryz.underlying201
  a148 := Tryz.isAgg201
  z148 := Tryz.sizeOf201
  v148 := Tryz.zeroValue201 }
open Go.RowKit Go.Lib in
/-- math/bits.Mul: "Mul returns the full-width product of x and y": on a machine of 64 bits: Mul64's. (LAID: no walk: one application.) -/
theorem Tryz.bits_Mul (x y : Nat) (hx : x < 18446744073709551616) (hy : y < 18446744073709551616) (w : World) :
    Calls Tryz.prog 154 #[.int .u64 x, .int .u64 y] w fun e w' => e = .returned (.tuple #[.int .u64 ((x * y / 18446744073709551616 : Nat) : Int), .int .u64 ((x * y % 18446744073709551616 : Nat) : Int)]) ∧ w' = w := Any.bits_Mul Tryz.lays212 x y hx hy w
def Tryz.lays105_ren : Go.Shelf.Ren := ⟨fun | 105 => 137 | 212 => 154 | 99 => 155 | 165 => 131 | 166 => 132 | 170 => 156 | 169 => 133 | 263 => 168 | 264 => 169 | 206 => 146 | 240 => 151 | 241 => 152 | 276 => 165 | 277 => 166 | n => n, fun | 9 => 9 | 3 => 3 | 4 => 4 | 20 => 20 | 0 => 0 | 46 => 137 | 109 => 189 | 5 => 5 | 72 => 168 | 76 => 171 | 51 => 161 | 146 => 199 | 53 => 163 | 148 => 201 | 70 => 165 | 37 => 166 | 75 => 170 | 127 => 188 | 164 => 195 | 80 => 173 | n => n, fun | n => n⟩
theorem Tryz.lays105 : Go.Proofs.Lays.n105 Tryz.prog Tryz.lays105_ren := {
  mixed := by kernel_rfl
  f99 := Tryz.func155.trans (congrArg some (by kernel_rfl))
  f105 := Tryz.func137.trans (congrArg some (by kernel_rfl))
  f165 := Tryz.func131.trans (congrArg some (by kernel_rfl))
  f166 := Tryz.func132.trans (congrArg some (by kernel_rfl))
  f169 := Tryz.func133.trans (congrArg some (by kernel_rfl))
  f170 := Tryz.func156.trans (congrArg some (by kernel_rfl))
  f206 := Tryz.func146.trans (congrArg some (by kernel_rfl))
  f212 := Tryz.func154.trans (congrArg some (by kernel_rfl))
  f240 := Tryz.func151.trans (congrArg some (by kernel_rfl))
  f241 := Tryz.func152.trans (congrArg some (by kernel_rfl))
  f263 := Tryz.func168.trans (congrArg some (by kernel_rfl))
  f264 := Tryz.func169.trans (congrArg some (by kernel_rfl))
  f276 := Tryz.func165.trans (congrArg some (by kernel_rfl))
  f277 := Tryz.func166.trans (congrArg some (by kernel_rfl))
  t0 := Tryz.underlying0
  a0 := Tryz.isAgg0
  z0 := Tryz.sizeOf0
  v0 := Tryz.zeroValue0
  t3 := Tryz.underlying3
  a3 := Tryz.isAgg3
  z3 := Tryz.sizeOf3
  v3 := Tryz.zeroValue3
  t4 := Tryz.underlying4
  a4 := Tryz.isAgg4
  z4 := Tryz.sizeOf4
  v4 := Tryz.zeroValue4
  t5 := Tryz.underlying5
  a5 := Tryz.isAgg5
  z5 := Tryz.sizeOf5
  v5 := Tryz.zeroValue5
  t9 := Tryz.underlying9
  a9 := Tryz.isAgg9
  z9 := Tryz.sizeOf9
  v9 := Tryz.zeroValue9
  t20 := Tryz.underlying20
  a20 := Tryz.isAgg20
  z20 := Tryz.sizeOf20
  v20 := Tryz.zeroValue20
  t37 := Tryz.underlying166
  a37 := Tryz.isAgg166
  z37 := Tryz.sizeOf166
  v37 := Tryz.zeroValue166
  t46 := Tryz.underlying137
  a46 := Tryz.isAgg137
  z46 := Tryz.sizeOf137
  v46 := Tryz.zeroValue137
  t51 := Tryz.underlying161
  a51 := Tryz.isAgg161
  z51 := Tryz.sizeOf161
  v51 := Tryz.zeroValue161
  t53 := Tryz.underlying163
  a53 := Tryz.isAgg163
  z53 := Tryz.sizeOf163
  v53 := Tryz.zeroValue163
  t70 := Tryz.underlying165
  a70 := Tryz.isAgg165
  z70 := Tryz.sizeOf165
  v70 := Tryz.zeroValue165
  t72 := Tryz.underlying168
  a72 := Tryz.isAgg168
  z72 := Tryz.sizeOf168
  v72 := Tryz.zeroValue168
  t75 := Tryz.underlying170
  a75 := Tryz.isAgg170
  z75 := Tryz.sizeOf170
  v75 := Tryz.zeroValue170
  t76 := Tryz.underlying171
  a76 := Tryz.isAgg171
  z76 := Tryz.sizeOf171
  v76 := Tryz.zeroValue171
  t109 := Tryz.underlying189
  a109 := Tryz.isAgg189
  z109 := Tryz.sizeOf189
  v109 := Tryz.zeroValue189
  t127 := Tryz.underlying188
  a127 := Tryz.isAgg188
  z127 := Tryz.sizeOf188
  v127 := Tryz.zeroValue188
  t146 := Tryz.underlying199
  a146 := Tryz.isAgg199
  z146 := Tryz.sizeOf199
  v146 := Tryz.zeroValue199
  t148 := Tryz.underlying201
  a148 := Tryz.isAgg201
  z148 := Tryz.sizeOf201
  v148 := Tryz.zeroValue201
  t164 := Tryz.underlying195
  a164 := Tryz.isAgg195
  z164 := Tryz.sizeOf195
  v164 := Tryz.zeroValue195 }
theorem Tryz.Builder_Extra_105 : Builder.Extra Tryz.prog Tryz.lays105_ren := {
  sizeBuilder := by kernel_rfl
  liesBuilder := by kernel_rfl
  t5 := Tryz.underlying5
  a5 := Tryz.isAgg5
  z5 := Tryz.sizeOf5
  v5 := Tryz.zeroValue5
  infoByte := by kernel_rfl
  cellsByte := by kernel_rfl
  sizeByte := by kernel_rfl
  neB5 := by decide }
open Go.RowKit Go.Lib in
/-- THE MAIN CASE: at least two copies of a string that is not empty. (LAID: no walk: one application.) -/
theorem Tryz.strings_Repeat_main (s : ByteArray) (c : Nat) (w : World) (hc2 : 2 ≤ c) (hc : c ≤ 9223372036854775807) (hlen : s.size * c ≤ 140737488355328) (h0 : 0 < s.size) :
    Calls Tryz.prog 137 #[.string s, .int .i64 c] w fun e w' => e = .returned (.string ⟨(Lib.repeatL s.data.toList c).toArray⟩) ∧ Below w.heap.size w w' := Any.strings_Repeat_main Tryz.lays105 Tryz.Builder_Extra_105 s c w hc2 hc hlen h0
open Go.RowKit Go.Lib in
theorem Tryz.strings_Repeat_zero (s : ByteArray) (w : World) :
    Calls Tryz.prog 137 #[.string s, .int .i64 0] w fun e w' => e = .returned (.string ⟨#[]⟩) ∧ w' = w := Any.strings_Repeat_zero Tryz.lays105 s w
open Go.RowKit Go.Lib in
theorem Tryz.strings_Repeat_one (s : ByteArray) (w : World) :
    Calls Tryz.prog 137 #[.string s, .int .i64 1] w fun e w' => e = .returned (.string s) ∧ w' = w := Any.strings_Repeat_one Tryz.lays105 s w
open Go.RowKit Go.Lib in
/-- Copies of the empty string. (LAID: no walk: one application.) -/
theorem Tryz.strings_Repeat_empty (s : ByteArray) (c : Nat) (w : World) (hc2 : 2 ≤ c) (hc : c ≤ 9223372036854775807) (h0 : s.size = 0) :
    Calls Tryz.prog 137 #[.string s, .int .i64 c] w fun e w' => e = .returned (.string ⟨#[]⟩) ∧ w' = w := Any.strings_Repeat_empty Tryz.lays105 s c w hc2 hc h0
open Go.RowKit Go.Lib in
/-- count < 0: "It panics if count is negative". (LAID: no walk: one application.) -/
theorem Tryz.strings_Repeat_negative (s : ByteArray) (c : Int) (w : World) (hc : c < 0) :
    Calls Tryz.prog 137 #[.string s, .int .i64 c] w fun e w' => e = .panicked [{ v := repeatPanic Tryz.lays105_ren "strings: negative Repeat count", recovered := false }] ∧ w' = w := Any.strings_Repeat_negative Tryz.lays105 s c w hc
open Go.RowKit Go.Lib in
/-- len(s) * count is no int: ".. or if the result of (len(s) * count) overflows". (LAID: no walk: one application.) -/
theorem Tryz.strings_Repeat_overflow (s : ByteArray) (c : Nat) (w : World) (hc : c ≤ 9223372036854775807) (hs : s.size ≤ 9223372036854775807) (hbig : 9223372036854775807 < s.size * c) :
    Calls Tryz.prog 137 #[.string s, .int .i64 c] w fun e w' => e = .panicked [{ v := repeatPanic Tryz.lays105_ren "strings: Repeat output length overflow", recovered := false }] ∧ w' = w := Any.strings_Repeat_overflow Tryz.lays105 s c w hc hs hbig
open Go.RowKit Go.Lib in
/-- **strings.Repeat: count ≥ 0, the result within one allocation: count copies of s.** (LAID: no walk: one application.) -/
theorem Tryz.strings_Repeat (s : ByteArray) (c : Nat) (w : World) (hc : c ≤ 9223372036854775807) (hlen : s.size * c ≤ 140737488355328) :
    Calls Tryz.prog 137 #[.string s, .int .i64 c] w fun e w' => e = .returned (.string ⟨(Lib.repeatL s.data.toList c).toArray⟩) ∧ Below w.heap.size w w' := Any.strings_Repeat Tryz.lays105 Tryz.Builder_Extra_105 s c w hc hlen
def Tryz.lays260_ren : Go.Shelf.Ren := ⟨fun | 260 => 160 | n => n, fun | 9 => 9 | 21 => 21 | 3 => 3 | 4 => 4 | 5 => 5 | 119 => 203 | 0 => 0 | 46 => 137 | 139 => 206 | 138 => 205 | n => n, fun | 3 => 1 | 4 => 2 | n => n⟩
theorem Tryz.lays260 : Go.Proofs.Lays.n260 Tryz.prog Tryz.lays260_ren := {
  mixed := by kernel_rfl
  f260 := Tryz.func160.trans (congrArg some (by kernel_rfl))
  t0 := Tryz.underlying0
  a0 := Tryz.isAgg0
  z0 := Tryz.sizeOf0
  v0 := Tryz.zeroValue0
  t3 := Tryz.underlying3
  a3 := Tryz.isAgg3
  z3 := Tryz.sizeOf3
  v3 := Tryz.zeroValue3
  t4 := Tryz.underlying4
  a4 := Tryz.isAgg4
  z4 := Tryz.sizeOf4
  v4 := Tryz.zeroValue4
  t5 := Tryz.underlying5
  a5 := Tryz.isAgg5
  z5 := Tryz.sizeOf5
  v5 := Tryz.zeroValue5
  t9 := Tryz.underlying9
  a9 := Tryz.isAgg9
  z9 := Tryz.sizeOf9
  v9 := Tryz.zeroValue9
  t21 := Tryz.underlying21
  a21 := Tryz.isAgg21
  z21 := Tryz.sizeOf21
  v21 := Tryz.zeroValue21
  t46 := Tryz.underlying137
  a46 := Tryz.isAgg137
  z46 := Tryz.sizeOf137
  v46 := Tryz.zeroValue137
  t119 := Tryz.underlying203
  a119 := Tryz.isAgg203
  z119 := Tryz.sizeOf203
  t138 := Tryz.underlying205
  a138 := Tryz.isAgg205
  z138 := Tryz.sizeOf205
  v138 := Tryz.zeroValue205
  t139 := Tryz.underlying206
  a139 := Tryz.isAgg206
  z139 := Tryz.sizeOf206
  v139 := Tryz.zeroValue206
  g3 := by kernel_rfl
  g4 := by kernel_rfl }
open Go.RowKit Go.Lib in
theorem Tryz.utf8_decodeRuneInStringSlow (s : ByteArray) (w : World) (hT : Lib.Utf8Tabs 1 2 w) :
    Calls Tryz.prog 160 #[.string s] w fun e w' => e = .returned (.tuple #[.int .i32 (Lib.decodeGo s).1, .int .i64 (Lib.decodeGo s).2]) ∧ Below w.heap.size w w' := Any.utf8_decodeRuneInStringSlow Tryz.lays260 s w hT
open Go.RowKit Go.Lib in
/-- **unicode/utf8.DecodeRuneInString AT EVERY STRING.** (LAID: no walk: one application.) -/
theorem Tryz.utf8_DecodeRuneInString (s : ByteArray) (w : World) (hT : Lib.Utf8Tabs 1 2 w) :
    Calls Tryz.prog 148 #[.string s] w fun e w' => e = .returned (.tuple #[.int .i32 (Lib.decodeGo s).1, .int .i64 (Lib.decodeGo s).2]) ∧ Below w.heap.size w w' := Any.utf8_DecodeRuneInString Tryz.lays197 s w hT
def Tryz.laysNm217_ren : Go.Shelf.Ren := ⟨fun | 17 => 177 | n => n, fun | 24 => 29 | 9 => 9 | 3 => 3 | 4 => 4 | 0 => 0 | n => n, fun | n => n⟩
theorem Tryz.laysNm217 : Go.Proofs.Lays2.n17 Tryz.prog Tryz.laysNm217_ren := {
  mixed := by kernel_rfl
  f17 := Tryz.func177.trans (congrArg some (by kernel_rfl))
  t0 := Tryz.underlying0
  a0 := Tryz.isAgg0
  z0 := Tryz.sizeOf0
  v0 := Tryz.zeroValue0
  t3 := Tryz.underlying3
  a3 := Tryz.isAgg3
  z3 := Tryz.sizeOf3
  v3 := Tryz.zeroValue3
  t4 := Tryz.underlying4
  a4 := Tryz.isAgg4
  z4 := Tryz.sizeOf4
  v4 := Tryz.zeroValue4
  t9 := Tryz.underlying9
  a9 := Tryz.isAgg9
  z9 := Tryz.sizeOf9
  v9 := Tryz.zeroValue9
  t24 := Tryz.underlying29
  a24 := Tryz.isAgg29
  z24 := Tryz.sizeOf29
  v24 := Tryz.zeroValue29 }
open Go.RowKit Go.Lib Go.Sort in
/-- slices.Reverse at []string, over an array: Go's loop from the two ends inward is walked; it makes 'Sort.reverseLoop 0 (len - 1)', which is 'Array.reverse' (Derived/Lib/SlicesMore.lean). (LAID: no walk: one application.) -/
theorem Tryz.slices_Reverse_string_arr (blk off cap : Nat) (d : Array (List UInt8)) (w : World) (hH : Holds encStr w blk off d) (hsz : d.size ≤ 9223372036854775807) :
    Calls Tryz.prog 177 #[.slice (some ⟨blk, off, none⟩) d.size cap] w fun e w' => e = .returned (.tuple #[]) ∧ ∃ n, w' = putRow encStr (Sort.ahead w n) blk off d.reverse := Any.slices_Reverse_string_arr Tryz.laysNm217 blk off cap d w hH hsz
open Go.RowKit Go.Lib Go.Sort in
/-- slices.Reverse at []string: "Reverse reverses the elements of the slice in place.": THE SLICE's CELLS HOLD 'zs.reverse' BEHIND THE CALL; all else is as it was, but for the count of draws (the exchange 's[i], s[j] = s[j], s[i]' draws its order, once a round). IN THE WORDS OF slices.Sort's CONTRACT: 'Holds': the cells hold zs and none is frozen; 'putRow': the world with those cells holding another array. A slice of length 0 that is not nil is among them ('zs = []'); nil: '.._nil'. (LAID: no walk: one application.) -/
theorem Tryz.slices_Reverse_string (blk off cap : Nat) (zs : List (List UInt8)) (w : World) (hH : Holds encStr w blk off zs.toArray) (hsz : zs.length ≤ 9223372036854775807) :
    Calls Tryz.prog 177 #[.slice (some ⟨blk, off, none⟩) zs.length cap] w fun e w' => e = .returned (.tuple #[]) ∧ ∃ n, w' = putRow encStr (Sort.ahead w n) blk off zs.reverse.toArray := Any.slices_Reverse_string Tryz.laysNm217 blk off cap zs w hH hsz
open Go.RowKit Go.Lib Go.Sort in
/-- The same at a slice of length 0, a nil one too: nothing is read, nothing written, nothing drawn. (LAID: no walk: one application.) -/
theorem Tryz.slices_Reverse_string_empty (a : Option Addr) (cap : Nat) (w : World) :
    Calls Tryz.prog 177 #[.slice a 0 cap] w fun e w' => e = .returned (.tuple #[]) ∧ w' = w := Any.slices_Reverse_string_empty Tryz.laysNm217 a cap w
def Tryz.laysNm216_ren : Go.Shelf.Ren := ⟨fun | 16 => 59 | n => n, fun | 24 => 29 | 9 => 9 | 4 => 4 | n => n, fun | n => n⟩
theorem Tryz.laysNm216 : Go.Proofs.Lays2.n16 Tryz.prog Tryz.laysNm216_ren := {
  mixed := by kernel_rfl
  f16 := Tryz.func59.trans (congrArg some (by kernel_rfl))
  t4 := Tryz.underlying4
  a4 := Tryz.isAgg4
  z4 := Tryz.sizeOf4
  v4 := Tryz.zeroValue4
  t9 := Tryz.underlying9
  a9 := Tryz.isAgg9
  z9 := Tryz.sizeOf9
  v9 := Tryz.zeroValue9
  t24 := Tryz.underlying29
  a24 := Tryz.isAgg29
  z24 := Tryz.sizeOf29
  v24 := Tryz.zeroValue29
  i9 := by kernel_rfl }
open Go.RowKit Go.Lib in
/-- slices.Clone at []string: "Clone returns a copy of the slice. The elements are copied using assignment, so this is a shallow clone. The result may have additional unused capacity. The result preserves the nilness of s.": OF A SLICE THAT IS NOT nil IT RETURNS A SLICE THAT IS NOT nil, OF THE SAME ELEMENTS, IN MEMORY OF THE CALL's OWN: in the how-to's words (6f): 'w'.ownsRow B e 1 v' n cells': v' begins at the head of a row among the blocks from B on (B: the heap's size at the call), not frozen, whose first cells are the elements · 'Below B w w'': below B all is as it was. The capacity is whatever the run-time gives. 'zs': what the cells behind the slice's address hold; 'zs.take n': its elements. (LAID: no walk: one application.) -/
theorem Tryz.slices_Clone_string (b off n c : Nat) (zs : List ByteArray) (w : World) (hz : n ≤ zs.length) (hbig : n * 16 ≤ 140737488355328) (hc : ∀ j, j < zs.length → w.cell? ⟨b, off + j, none⟩ = some (.string (zs.getD j ByteArray.empty))) :
    Calls Tryz.prog 59 #[.slice (some ⟨b, off, none⟩) n c] w fun e w' => ∃ v', e = .returned v' ∧ w'.ownsRow w.heap.size 9 1 v' n ((zs.take n).map (Value.string)) ∧ v' ≠ .slice none 0 0 ∧ Below w.heap.size w w' := Any.slices_Clone_string Tryz.laysNm216 b off n c zs w hz hbig hc
open Go.RowKit Go.Lib in
/-- The same at nil: nil comes back; the world is as it was. (LAID: no walk: one application.) -/
theorem Tryz.slices_Clone_string_nil (n c : Nat) (w : World) :
    Calls Tryz.prog 59 #[.slice none n c] w fun e w' => e = .returned (.slice none 0 0) ∧ w' = w := Any.slices_Clone_string_nil Tryz.laysNm216 n c w
open Go.RowKit Go.Lib in
/-- The same at a slice of length 0 that is not nil, WHATEVER ITS ADDRESS (no cell is asked for): a slice that is not nil and owns nothing comes back. (LAID: no walk: one application.) -/
theorem Tryz.slices_Clone_string_zero (a : Addr) (c : Nat) (w : World) :
    Calls Tryz.prog 59 #[.slice (some a) 0 c] w fun e w' => ∃ v', e = .returned v' ∧ w'.ownsRow w.heap.size 9 1 v' 0 [] ∧ v' ≠ .slice none 0 0 ∧ Below w.heap.size w w' := Any.slices_Clone_string_zero Tryz.laysNm216 a c w
def Tryz.laysNm237_ren : Go.Shelf.Ren := ⟨fun | 37 => 64 | n => n, fun | 3 => 3 | 4 => 4 | n => n, fun | n => n⟩
theorem Tryz.laysNm237 : Go.Proofs.Lays2.n37 Tryz.prog Tryz.laysNm237_ren := {
  mixed := by kernel_rfl
  f37 := Tryz.func64.trans (congrArg some (by kernel_rfl))
  t3 := Tryz.underlying3
  a3 := Tryz.isAgg3
  z3 := Tryz.sizeOf3
  v3 := Tryz.zeroValue3
  t4 := Tryz.underlying4
  a4 := Tryz.isAgg4
  z4 := Tryz.sizeOf4
  v4 := Tryz.zeroValue4 }
open Go.RowKit Go.Lib in
/-- cmp.isNaN[int]: 'x != x': false. (LAID: no walk: one application.) -/
theorem Tryz.cmp_isNaN_int2 (x : Int) (w : World) :
    Calls Tryz.prog 64 #[.int .i64 x] w fun e w' => e = .returned (.bool false) ∧ w' = w := Any.cmp_isNaN_int2 Tryz.laysNm237 x w
def Tryz.laysNm224_ren : Go.Shelf.Ren := ⟨fun | 24 => 100 | n => n, fun | 24 => 29 | 9 => 9 | 3 => 3 | 4 => 4 | 0 => 0 | n => n, fun | n => n⟩
theorem Tryz.laysNm224 : Go.Proofs.Lays2.n24 Tryz.prog Tryz.laysNm224_ren := {
  mixed := by kernel_rfl
  f24 := Tryz.func100.trans (congrArg some (by kernel_rfl))
  t0 := Tryz.underlying0
  a0 := Tryz.isAgg0
  z0 := Tryz.sizeOf0
  v0 := Tryz.zeroValue0
  t3 := Tryz.underlying3
  a3 := Tryz.isAgg3
  z3 := Tryz.sizeOf3
  v3 := Tryz.zeroValue3
  t4 := Tryz.underlying4
  a4 := Tryz.isAgg4
  z4 := Tryz.sizeOf4
  v4 := Tryz.zeroValue4
  t9 := Tryz.underlying9
  a9 := Tryz.isAgg9
  z9 := Tryz.sizeOf9
  v9 := Tryz.zeroValue9
  t24 := Tryz.underlying29
  a24 := Tryz.isAgg29
  z24 := Tryz.sizeOf29
  v24 := Tryz.zeroValue29
  i9 := by kernel_rfl }
open Go.RowKit Go.Lib Go.Sort in
/-- slices.Delete at []string, over an array. (LAID: no walk: one application.) -/
theorem Tryz.slices_Delete_string_arr (blk off cap i j : Nat) (d : Array (List UInt8)) (w : World) (hH : Holds encStr w blk off d) (hcap : d.size ≤ cap) (hm : cap ≤ 9223372036854775807) (hij : i ≤ j) (hj : j ≤ d.size) :
    Calls Tryz.prog 100 #[.slice (some ⟨blk, off, none⟩) d.size cap, .int .i64 i, .int .i64 j] w fun e w' => e = .returned (.slice (some ⟨blk, off, none⟩) (d.size - (j - i)) cap) ∧ ∃ q, w' = putRow encStr (Sort.ahead w q) blk off (d.toList.take i ++ d.toList.drop j ++ List.replicate (j - i) []).toArray := Any.slices_Delete_string_arr Tryz.laysNm224 blk off cap i j d w hH hcap hm hij hj
open Go.RowKit Go.Lib Go.Sort in
/-- slices.Delete at []string: "Delete modifies s in place by removing the elements s[i:j], and returns the modified slice. Delete panics if j > len(s) or s[i:j] is not a valid slice of s. Delete is O(len(s)-i), so if many items must be deleted, it is better to make a single call deleting them all together than to delete one at a time. Delete zeroes the elements s[len(s)-(j-i):len(s)]. If the result is empty, it has the same nilness as s.": FOR i ≤ j ≤ len(s) IT RETURNS THE SLICE CUT TO len(s) - (j - i) ELEMENTS; ITS CELLS HOLD what stood ahead of i, what stood from j on, then j - i zero values; all else is as it was, but for the count of draws. IN THE WORDS OF slices.Sort's CONTRACT ('Holds', 'putRow'). It asks 'zs.length ≤ cap ≤ 2^63 - 1' (every slice's). (Outside i ≤ j ≤ len(s) it panics: no contract here.) (LAID: no walk: one application.) -/
theorem Tryz.slices_Delete_string (blk off cap i j : Nat) (zs : List (List UInt8)) (w : World) (hH : Holds encStr w blk off zs.toArray) (hcap : zs.length ≤ cap) (hm : cap ≤ 9223372036854775807) (hij : i ≤ j) (hj : j ≤ zs.length) :
    Calls Tryz.prog 100 #[.slice (some ⟨blk, off, none⟩) zs.length cap, .int .i64 i, .int .i64 j] w fun e w' => e = .returned (.slice (some ⟨blk, off, none⟩) (zs.length - (j - i)) cap) ∧ ∃ q, w' = putRow encStr (Sort.ahead w q) blk off (zs.take i ++ zs.drop j ++ List.replicate (j - i) []).toArray := Any.slices_Delete_string Tryz.laysNm224 blk off cap i j zs w hH hcap hm hij hj
open Go.RowKit Go.Lib Go.Sort in
/-- slices.Reverse at []string, of an argument. (LAID: no walk: one application.) -/
theorem Tryz.slices_Reverse_string_cells (b off n c : Nat) (Sx : Nat → ByteArray) (w : World) (hbig : n ≤ 9223372036854775807) (hc : ∀ i, i < n → w.cell? ⟨b, off + i, none⟩ = some (.string (Sx i))) (hf : ∀ j, j < n → w.frozen? ⟨b, off + j, none⟩ = false) :
    Calls Tryz.prog 177 #[.slice (some ⟨b, off, none⟩) n c] w fun e w' => e = .returned (.tuple #[]) ∧ ∃ q, w' = (w.drewN q).setCells b off ((Lib.strsOf Sx n).reverse.map encStr) := Any.slices_Reverse_string_cells Tryz.laysNm217 b off n c Sx w hbig hc hf
open Go.RowKit Go.Lib Go.Sort in
/-- slices.Delete at []string, of an argument, for i ≤ j ≤ n. (LAID: no walk: one application.) -/
theorem Tryz.slices_Delete_string_cells (b off n c i j : Nat) (Sx : Nat → ByteArray) (w : World) (hcap : n ≤ c) (hm : c ≤ 9223372036854775807) (hij : i ≤ j) (hj : j ≤ n) (hc : ∀ i, i < n → w.cell? ⟨b, off + i, none⟩ = some (.string (Sx i))) (hf : ∀ j, j < n → w.frozen? ⟨b, off + j, none⟩ = false) :
    Calls Tryz.prog 100 #[.slice (some ⟨b, off, none⟩) n c, .int .i64 i, .int .i64 j] w fun e w' => e = .returned (.slice (some ⟨b, off, none⟩) (n - (j - i)) c) ∧ ∃ q, w' = (w.drewN q).setCells b off (((Lib.strsOf Sx n).take i ++ (Lib.strsOf Sx n).drop j ++ List.replicate (j - i) []).map encStr) := Any.slices_Delete_string_cells Tryz.laysNm224 b off n c i j Sx w hcap hm hij hj hc hf
open Go.RowKit Go.Lib in
/-- slices.Delete at []string of no element ('Delete(s, 0, 0)'): s comes back; the world is as it was. (LAID: no walk: one application.) -/
theorem Tryz.slices_Delete_string_empty (a : Option Addr) (c : Nat) (w : World) :
    Calls Tryz.prog 100 #[.slice a 0 c, .int .i64 0, .int .i64 0] w fun e w' => e = .returned (.slice a 0 c) ∧ w' = w := Any.slices_Delete_string_empty Tryz.laysNm224 a c w
def Tryz.laysSlE041_f59_ren : Go.Shelf.Ren := ⟨fun | 41 => 59 | n => n, fun | 22 => 29 | 23 => 9 | 4 => 4 | n => n, fun | n => n⟩
theorem Tryz.laysSlE041_f59 : Go.Proofs.SlLaysE0.n41 Tryz.prog Tryz.laysSlE041_f59_ren := {
  mixed := by kernel_rfl
  f41 := ⟨Tryz.f59.name, by decide, Tryz.func59.trans (congrArg some (by kernel_rfl))⟩
  t4 := Tryz.underlying4
  a4 := Tryz.isAgg4
  z4 := Tryz.sizeOf4
  v4 := Tryz.zeroValue4
  t22 := Tryz.underlying29
  a22 := Tryz.isAgg29
  z22 := Tryz.sizeOf29
  v22 := Tryz.zeroValue29 }
open Go.RowKit Go.Lib in
/-- slices.Clone: "Clone returns a copy of the slice. The elements are copied using assignment, so this is a shallow clone. The result may have additional unused capacity. The result preserves the nilness of s.": OF A SLICE THAT IS NOT nil IT RETURNS A SLICE THAT IS NOT nil, OF THE SAME CELLS, IN MEMORY OF THE CALL's OWN ('ownsRow': the how-to's 6f); below the heap's size at the call all is as it was. (LAID AT THE INSTANCE 'slices.Clone[[]string,string]': no walk: one application.) -/
theorem Tryz.slices_Clone (i0 : TypeInfo) (z : Value) (size bytes : Nat) (hi : Tryz.prog.info? 9 = some i0) (hz0 : i0.zero = some z) (hz1 : i0.size = size) (hz2 : i0.bytes = bytes) (hzs : z.cells.size = size) (hsz : 0 < size) (z23 : ∀ w, (Go.sizeOf 9).run Tryz.prog w = .ok size w) (b off n c : Nat) (news : List Value) (w : World) (hl : news.length = n * size) (hn : n ≤ maxLen) (hbig : n * bytes ≤ 140737488355328) (hc : ∀ j u, news[j]? = some u → w.cell? ⟨b, off + j, none⟩ = some u) (h1 : ∀ u ∈ news, u.oneCell' = true) :
    Calls Tryz.prog 59 #[.slice (some ⟨b, off, none⟩) n c] w fun e w' => ∃ v', e = .returned v' ∧ w'.ownsRow w.heap.size 9 size v' n news ∧ v' ≠ .slice none 0 0 ∧ Below w.heap.size w w' := AnyE.slices_Clone Tryz.laysSlE041_f59 i0 z size bytes hi hz0 hz1 hz2 hzs hsz z23 b off n c news w hl hn hbig hc h1
open Go.RowKit Go.Lib in
/-- The same at nil: nil comes back; the world is as it was; nothing is asked of the element's type. (LAID AT THE INSTANCE 'slices.Clone[[]string,string]': no walk: one application.) -/
theorem Tryz.slices_Clone_nil (n c : Nat) (w : World) :
    Calls Tryz.prog 59 #[.slice none n c] w fun e w' => e = .returned (.slice none 0 0) ∧ w' = w := AnyE.slices_Clone_nil Tryz.laysSlE041_f59 n c w
def Tryz.laysSlM6_f61_ren : Go.Shelf.Ren := ⟨fun | 6 => 61 | 8 => 92 | 9 => 91 | 19 => 124 | 20 => 125 | 21 => 115 | 22 => 116 | 23 => 117 | 24 => 118 | 25 => 119 | 26 => 120 | 27 => 121 | 28 => 122 | 29 => 123 | 36 => 139 | 31 => 140 | 32 => 141 | 37 => 142 | 38 => 143 | 39 => 144 | 41 => 159 | n => n, fun | 27 => 29 | 29 => 9 | 3 => 3 | 32 => 137 | 26 => 29 | 0 => 0 | 44 => 161 | 46 => 163 | 4 => 4 | 36 => 154 | 35 => 153 | 41 => 106 | 5 => 5 | 9 => 9 | 53 => 178 | 57 => 182 | 63 => 192 | 64 => 193 | n => n, fun | n => n⟩
theorem Tryz.laysSlM6_f61 : Go.Proofs.SlLaysM.n6 Tryz.prog Tryz.laysSlM6_f61_ren := {
  mixed := by kernel_rfl
  f6 := ⟨Tryz.f61.name, by decide, Tryz.func61.trans (congrArg some (by kernel_rfl))⟩
  f8 := Tryz.func92.trans (congrArg some (by kernel_rfl))
  f9 := ⟨Tryz.f91.name, by decide, Tryz.func91.trans (congrArg some (by kernel_rfl))⟩
  f19 := Tryz.func124.trans (congrArg some (by kernel_rfl))
  f20 := Tryz.func125.trans (congrArg some (by kernel_rfl))
  f21 := ⟨Tryz.f115.name, by decide, Tryz.func115.trans (congrArg some (by kernel_rfl))⟩
  f22 := ⟨Tryz.f116.name, by decide, Tryz.func116.trans (congrArg some (by kernel_rfl))⟩
  f23 := ⟨Tryz.f117.name, by decide, Tryz.func117.trans (congrArg some (by kernel_rfl))⟩
  f24 := ⟨Tryz.f118.name, by decide, Tryz.func118.trans (congrArg some (by kernel_rfl))⟩
  f25 := ⟨Tryz.f119.name, by decide, Tryz.func119.trans (congrArg some (by kernel_rfl))⟩
  f26 := ⟨Tryz.f120.name, by decide, Tryz.func120.trans (congrArg some (by kernel_rfl))⟩
  f27 := ⟨Tryz.f121.name, by decide, Tryz.func121.trans (congrArg some (by kernel_rfl))⟩
  f28 := ⟨Tryz.f122.name, by decide, Tryz.func122.trans (congrArg some (by kernel_rfl))⟩
  f29 := ⟨Tryz.f123.name, by decide, Tryz.func123.trans (congrArg some (by kernel_rfl))⟩
  f31 := Tryz.func140.trans (congrArg some (by kernel_rfl))
  f32 := Tryz.func141.trans (congrArg some (by kernel_rfl))
  f36 := ⟨Tryz.f139.name, by decide, Tryz.func139.trans (congrArg some (by kernel_rfl))⟩
  f37 := ⟨Tryz.f142.name, by decide, Tryz.func142.trans (congrArg some (by kernel_rfl))⟩
  f38 := ⟨Tryz.f143.name, by decide, Tryz.func143.trans (congrArg some (by kernel_rfl))⟩
  f39 := ⟨Tryz.f144.name, by decide, Tryz.func144.trans (congrArg some (by kernel_rfl))⟩
  f41 := ⟨Tryz.f159.name, by decide, Tryz.func159.trans (congrArg some (by kernel_rfl))⟩
  t0 := Tryz.underlying0
  a0 := Tryz.isAgg0
  z0 := Tryz.sizeOf0
  v0 := Tryz.zeroValue0
  t3 := Tryz.underlying3
  a3 := Tryz.isAgg3
  z3 := Tryz.sizeOf3
  v3 := Tryz.zeroValue3
  t4 := Tryz.underlying4
  a4 := Tryz.isAgg4
  z4 := Tryz.sizeOf4
  v4 := Tryz.zeroValue4
  t5 := Tryz.underlying5
  a5 := Tryz.isAgg5
  z5 := Tryz.sizeOf5
  v5 := Tryz.zeroValue5
  t9 := Tryz.underlying9
  a9 := Tryz.isAgg9
  z9 := Tryz.sizeOf9
  v9 := Tryz.zeroValue9
  t26 := Tryz.underlying29
  a26 := Tryz.isAgg29
  z26 := Tryz.sizeOf29
  v26 := Tryz.zeroValue29
  t27 := Tryz.underlying29
  a27 := Tryz.isAgg29
  z27 := Tryz.sizeOf29
  v27 := Tryz.zeroValue29
  t29 := Tryz.underlying9
  a29 := Tryz.isAgg9
  z29 := Tryz.sizeOf9
  v29 := Tryz.zeroValue9
  t32 := Tryz.underlying137
  a32 := Tryz.isAgg137
  z32 := Tryz.sizeOf137
  v32 := Tryz.zeroValue137
  t35 := Tryz.underlying153
  a35 := Tryz.isAgg153
  z35 := Tryz.sizeOf153
  v35 := Tryz.zeroValue153
  t36 := Tryz.underlying154
  a36 := Tryz.isAgg154
  z36 := Tryz.sizeOf154
  v36 := Tryz.zeroValue154
  t41 := Tryz.underlying106
  a41 := Tryz.isAgg106
  z41 := Tryz.sizeOf106
  v41 := Tryz.zeroValue106
  t44 := Tryz.underlying161
  a44 := Tryz.isAgg161
  z44 := Tryz.sizeOf161
  v44 := Tryz.zeroValue161
  t46 := Tryz.underlying163
  a46 := Tryz.isAgg163
  z46 := Tryz.sizeOf163
  v46 := Tryz.zeroValue163
  t53 := Tryz.underlying178
  a53 := Tryz.isAgg178
  z53 := Tryz.sizeOf178
  v53 := Tryz.zeroValue178
  t57 := Tryz.underlying182
  a57 := Tryz.isAgg182
  z57 := Tryz.sizeOf182
  v57 := Tryz.zeroValue182
  t63 := Tryz.underlying192
  a63 := Tryz.isAgg192
  z63 := Tryz.sizeOf192
  v63 := Tryz.zeroValue192
  t64 := Tryz.underlying193
  a64 := Tryz.isAgg193
  z64 := Tryz.sizeOf193
  v64 := Tryz.zeroValue193 }
open Go.Sort Go.RowKit in
theorem Tryz.slices_Sort_string (blk off cap : Nat) (ss : List (List UInt8)) (w : World) (hH : Holds encStr w blk off ss.toArray) (hblk : blk < w.heap.size) (hsz : ss.length < 4611686018427387904) :
    Calls Tryz.prog 61 #[.slice (some ⟨blk, off, none⟩) ss.length cap] w fun e w' =>
      e = .returned (.tuple #[]) ∧ ∃ n os, w' = grow (putRow encStr (Sort.ahead w n) blk off (ss.mergeSort fun x y => decide (x ≤ y)).toArray) os := AnyM.slices_Sort_string Tryz.laysSlM6_f61 blk off cap ss w hH hblk hsz
open Go.RowKit Go.Sort in
/-- .. and plain. (LAID AT THE INSTANCE 'slices.Sort[[]string,string]': no walk: one application.) -/
theorem Tryz.slices_Sort_string_none (p : Option Addr) (cap : Nat) (w : World) :
    Calls Tryz.prog 61 #[.slice p 0 cap] w fun e w' => e = .returned (.tuple #[]) ∧ w' = w := AnyM.slices_Sort_string_none Tryz.laysSlM6_f61 p cap w
end Go.Proofs
