/-
  Nodes: in plain words, in memory; the walks of stat's functions.
-/
import Derived.Test.YtjeaoopamebgjaaDoorNamesW
import Derived.Test.YtjeaoopamebgjaaDoorOpA
import Derived.Test.YtjeaoopamebgjaaDoorRetA
namespace Go.Av
open Go.RowKit
structure NodeS where
  made : Int
  changed : Int
  ver : Int
  kids : Int
  owner : Int
  data : ByteArray
  next : Int
  names : List Bs
def moreS (n : Int) : Int := if 2147483647 ≤ n then n else n + 1
def newS (zxid owner : Int) (data : ByteArray) : NodeS := ⟨zxid, zxid, 0, 0, owner, data, 0, []⟩
def writeS (n : NodeS) (zxid : Int) (data : ByteArray) : NodeS := { n with data := data, changed := zxid, ver := moreS n.ver }
def addS (n : NodeS) (s : Bs) : NodeS := if hasS n.names s then n else { n with names := insS n.names s, kids := moreS n.kids, next := moreS n.next }
def remS (n : NodeS) (s : Bs) : NodeS := if hasS n.names s then { n with names := delS n.names s, kids := moreS n.kids } else n
def NodeS.stat (n : NodeS) : Value := .agg #[.int .i64 n.made, .int .i64 n.changed, .int .i64 n.ver, .int .i64 n.kids, .int .i64 n.owner, .int .i64 (n.data.size : Nat), .int .i64 (n.names.length : Nat)]
def NodeS.cells (n : NodeS) (nv : Value) : Array Value := #[.int .i64 n.made, .int .i64 n.changed, .int .i64 n.ver, .int .i64 n.kids, .int .i64 n.owner, .int .i64 (n.data.size : Nat), .int .i64 (n.names.length : Nat), .string n.data, .int .i64 n.next, nv]
def NodeS.val (n : NodeS) (nv : Value) : Value := .agg (n.cells nv)
theorem Sep.oneS {w w' : World} {v : Value} {xs : List Value} {size : Nat} {rows : List (Value × Bs)} (h : Sep w w' [ThRow size v xs] rows) : ∃ D, OwnRow w' size v xs D ∧ Upd w w' [] D := by
  obtain ⟨D, hl, hu, -⟩ := h
  cases hl with
  | @cons _ D _ E h1 h2 h3 =>
    cases h3 with
    | nil => exact ⟨D, h1, by simpa using hu⟩
/-- What is true of every node. -/
structure NodeOk (n : NodeS) : Prop where
  ver : 0 ≤ n.ver ∧ n.ver ≤ 2147483647
  kids : 0 ≤ n.kids ∧ n.kids ≤ 2147483647
  next : 0 ≤ n.next ∧ n.next ≤ 2147483647
  rise : RiseS n.names
  few : n.names.length ≤ 100000
  data : n.data.size ≤ 100000
theorem more_bd {n : Int} (h : 0 ≤ n ∧ n ≤ 2147483647) : 0 ≤ moreS n ∧ moreS n ≤ 2147483647 := by unfold moreS; split <;> omega
end Go.Av
namespace Go.Proofs.YtjeaoopamebgjaaDoor
open Go.RowKit Go.Av
set_option maxRecDepth 100000 in
theorem more_any (n : Int) (w : World) (h : -9223372036854775808 ≤ n) : Calls Tryd.prog 38 #[.int .i64 n] w fun e w' => e = .returned (.int .i64 (moreS n)) ∧ w' = w := by
  unfold moreS
  by_cases h1 : 2147483647 ≤ n
  · rw [if_pos h1]
    go_enter Tryd.func38, Tryd.ntmps38
    go_wp2_with fail
    go_ret
    exact ⟨rfl, rfl⟩
  · rw [if_neg h1]
    have q1 : decide (2147483647 ≤ n) = false := decide_eq_false h1
    go_enter Tryd.func38, Tryd.ntmps38
    go_wp2_with fail
    go_ret
    exact ⟨by first | rfl | go_num, rfl⟩
set_option maxRecDepth 100000 in
theorem statnew_any (zxid owner : Int) (data : ByteArray) (w : World) (hd : data.size ≤ 100000) : Calls Tryd.prog 24 #[.int .i64 zxid, .int .i64 owner, .string data] w fun e w' => e = .returned ((newS zxid owner data).val (.slice none 0 0)) ∧ Upd w w' [] [] := by
  go_enter Tryd.func24, Tryd.ntmps24
  go_wp2_with fail
  refine bodyPost_ret (ret_cell rfl _ rfl (heap_alloc_new w _) Tryd.underlying51 (by kernel_rfl)) rfl ?_
  exact ⟨rfl, Upd.alloc0 _ _ _⟩
set_option maxRecDepth 100000 in
theorem ephemeral_any (x : Nat) (n : NodeS) (nv : Value) (w : World) (h : w.heap[x]? = some (.cells (n.cells nv) 51 (0, 0))) : Calls Tryd.prog 34 #[.pointer (some ⟨x, 0, none⟩)] w fun e w' => e = .returned (.bool (n.owner != 0)) ∧ w' = w := by
  have c4 := cell_of h 4 (v := .int .i64 n.owner) rfl
  clear h
  go_enter Tryd.func34, Tryd.ntmps34
  go_wp2_with fail
  go_ret
  exact ⟨rfl, rfl⟩
section
variable {w0 w : World} {x : Nat} {n : NodeS} {nv : Value} {P : List PRow} {R : List Thing} {rows : List (Value × Bs)}
set_option maxRecDepth 100000 in
theorem write_any (h : Sep w0 w (ThCell x (.cells (n.cells nv) 51 (0, 0)) :: R) rows) (zxid : Int) (data : ByteArray) (hv : 0 ≤ n.ver) (hd : data.size ≤ 100000) :
    Calls Tryd.prog 28 #[.pointer (some ⟨x, 0, none⟩), .int .i64 zxid, .string data] w fun e w' => e = .returned (.tuple #[]) ∧ Sep w0 w' (ThCell x (.cells ((writeS n zxid data).cells nv) 51 (0, 0)) :: R) rows := by
  have hm := more_any n.ver
  have hb := h.blk
  have c1 := cell_of hb 1 (v := .int .i64 n.changed) rfl
  have c2 := cell_of hb 2 (v := .int .i64 n.ver) rfl
  have c5 := cell_of hb 5 (v := .int .i64 (n.data.size : Nat)) rfl
  have c7 := cell_of hb 7 (v := .string n.data) rfl
  have f1 := frz_of hb 1
  have f2 := frz_of hb 2
  have f5 := frz_of hb 5
  have f7 := frz_of hb 7
  have HS := Lib.hid ((((h.set 7 (.string data)).set 1 (.int .i64 zxid)).set 5 (.int .i64 (data.size : Nat))).set 2 (.int .i64 (moreS n.ver)))
  have HM := Lib.hid (fun w => hm w (by omega))
  obtain ⟨made, changed, ver, kids, owner, dat, next, names⟩ := n
  dsimp only at *
  clear h hm hb
  go_enter Tryd.func28, Tryd.ntmps28
  go_wp2_with fail
  refine (HM.out _).mono ?_
  rintro e w1 ⟨rfl, rfl⟩
  go_wp2_with fail
  go_end0
  exact ⟨rfl, HS.out⟩
/-- What a call that lays a name into a node, or takes one out, leaves. -/
def NodePost (w0 : World) (x : Nat) (n : NodeS) (P : List PRow) (R : List Thing) (rows : List (Value × Bs)) (b : Bool) (e : Ending) (w' : World) : Prop :=
  e = .returned (.bool b) ∧ ∃ nv P', (∀ r ∈ P, r ∈ P') ∧ (1, nv, n.names.map sv) ∈ P' ∧ Sep w0 w' (ThCell x (.cells (n.cells nv) 51 (0, 0)) :: ThPool P' :: R) rows
set_option maxRecDepth 100000 in
set_option maxHeartbeats 1000000 in
theorem add_any (h : Sep w0 w (ThCell x (.cells (n.cells nv) 51 (0, 0)) :: ThPool P :: R) rows) (s : ByteArray) (hok : NodeOk n) (hnv : (1, nv, n.names.map sv) ∈ P) :
    Calls Tryd.prog 35 #[.pointer (some ⟨x, 0, none⟩), .string s] w (NodePost w0 x (addS n s.data.toList) P R rows (!hasS n.names s.data.toList)) := by
  have hb := h.blk
  obtain ⟨E, hE⟩ := (h.perm (List.Perm.swap _ _ _)).poolGet hnv
  have c9 := cell_of hb 9 (v := nv) rfl
  obtain ⟨na, nn, nc, rfl, -⟩ := id hE
  have HSE := Lib.hid (search_any _ _ E w s hE hok.rise (by have := hok.few; omega))
  have HCL := Lib.hid (fun w' (hu : Upd w w' [] []) => cloneS_any _ n.names E w' (hE.frame (hu.same hE.lt (by simp))) (by have := hok.few; omega))
  have H := Lib.hid h
  have HOK := Lib.hid hok
  have HNV := Lib.hid hnv
  clear h hb hE hok hnv
  go_enter Tryd.func35, Tryd.ntmps35
  go_wp2_with fail
  refine HSE.out.mono ?_
  rintro e w1 ⟨rfl, hu1⟩
  have HU1 := Lib.hid hu1
  have H1 := Lib.hid (H.out.keep hu1)
  have c9 := cell_of (H.out.keep hu1).blk 9 (v := .slice na nn nc) rfl
  clear hu1 H HSE
  have hpl := placeS_le n.names s.data.toList
  cases hh : hasS n.names s.data.toList with
  | true =>
    have HN := Lib.hid (show addS n s.data.toList = n by unfold addS; rw [if_pos hh])
    have HB := Lib.hid hh
    clear hh HCL
    go_wp2_with fail
    go_ret
    rw [HN.out, HB.out]
    exact ⟨rfl, _, P, fun _ h => h, HNV.out, H1.out⟩
  | false =>
  have HN := Lib.hid (show addS n s.data.toList = { n with names := insS n.names s.data.toList, kids := moreS n.kids, next := moreS n.next } by unfold addS; rw [if_neg (by rw [hh]; decide)])
  have HB := Lib.hid hh
  clear hh
  go_wp2_with fail
  refine (HCL.out w1 HU1.out).mono ?_
  rintro e w2 ⟨v2, D2, rfl, ho2, hu2⟩
  obtain ⟨a2, n2, k2, rfl, -⟩ := id ho2
  have hu3 := hu2.trans (Upd.alloc0 w2 (.cells #[.string s] 9) D2)
  have hin := insert_any _ n.names D2 (w2.alloc (.cells #[.string s] 9)) (placeS n.names s.data.toList) s.data.toList w2.heap.size 9 (ho2.frame ((Upd.alloc0 w2 _ []).same ho2.lt (by simp))) hpl (by have := HOK.out.few; omega) (heap_alloc_new w2 _) (fun hb => by have := ho2.lt _ hb; omega)
  have HIN := Lib.hid hin
  have HU3 := Lib.hid hu3
  have c9' := upd_cell (hu3.mono (fun _ h => h) (fun b hb => (hu3.new b hb).elim (fun h => by cases h) (fun _ => .inl hb)) : Upd w1 _ [] D2) c9
  clear ho2 hu2 hu3 hin HCL c9 hpl
  go_wp2_with fail
  refine HIN.out.mono ?_
  rintro e w3 ⟨v3, D3, rfl, ho3, hu3⟩
  have hS := (H1.out.addRow ho3 (HU3.out.trans hu3)).perm (List.Perm.swap _ _ _)
  have hS2 : Sep w0 w3 (ThCell x (.cells (n.cells (.slice na nn nc)) 51 (0, 0)) :: ThPool ((1, v3, (insS n.names s.data.toList).map sv) :: P) :: R) rows :=
    ((hS.perm (List.Perm.swap _ _ _ |>.trans ((List.Perm.swap _ _ _).cons _))).poolRow).perm (List.Perm.swap _ _ _)
  obtain ⟨a3, n3, k3, rfl, hl3⟩ := ho3.len
  rw [List.length_map, Nat.mul_one] at hl3
  have hb3 := hS2.blk
  have d9 := cell_of hb3 9 (v := .slice na nn nc) rfl
  have d6 := cell_of hb3 6 (v := .int .i64 (n.names.length : Nat)) rfl
  have f9 := frz_of hb3 9
  have f6 := frz_of hb3 6
  have hs6 := (hS2.set 9 (.slice a3 n3 k3)).set 6 (.int .i64 (n3 : Nat))
  have HS6 := Lib.hid hs6
  have hb6 := hs6.drew.blk
  have HB6 := Lib.hid hb6
  have HL3 := Lib.hid hl3
  have HM1 := Lib.hid (fun w => more_any n.kids w (by have := HOK.out.kids; omega))
  have HM2 := Lib.hid (fun w => more_any n.next w (by have := HOK.out.next; omega))
  clear ho3 hu3 hS hS2 hb3 hs6 hb6 HIN HU3 c9' hl3
  go_wp2_with fail
  obtain ⟨w6, hw6⟩ : ∃ z, z = (w3.setCell ⟨x, 9, none⟩ (.slice a3 n3 k3)).setCell ⟨x, 6, none⟩ (.int .i64 (n3 : Nat)) := ⟨_, rfl⟩
  rw [← hw6] at HS6 HB6 ⊢
  clear hw6 d9 d6 f9 f6
  have e3 := cell_of HB6.out 3 (v := .int .i64 n.kids) rfl
  have e8 := cell_of HB6.out 8 (v := .int .i64 n.next) rfl
  refine wp_region_M (fun W => W.cell? ⟨x, 3, none⟩ = some (.int .i64 n.kids) ∧ W.cell? ⟨x, 8, none⟩ = some (.int .i64 n.next)) 13 (by kernel_rfl) ?_
  refine wpAnyM_take (by kernel_rfl) (by intro c a d v w h; cases d <;> exact h) [(0, false), (1, false), (2, false), (3, false), (4, false), (5, false), (6, true), (8, false), (9, false), (10, false), (11, true)] (fuel := 9) (by kernel_rfl) ?_
  apply Exists.intro; refine ⟨?_, ⟨e3, e8⟩, ?_⟩
  · iterate 11 ((first | (apply yieldN; (· (simp only [List.getElem?_toArray, List.getElem?_cons_succ, List.getElem?_cons_zero]; try rfl)); (· rfl)) | ((first | apply yieldP | apply yieldL); (· (simp only [List.getElem?_toArray, List.getElem?_cons_succ, List.getElem?_cons_zero]; try rfl)); (· rfl); (· (intros; go_simp; try with_reducible rfl)))); (· (simp only [Act.put, List.setIfInBounds_toArray, List.set_cons_zero, List.set_cons_succ]; try rfl)))
    exact rfl
  refine wpAnyM_one (fuel := 8) (i := 7) (by kernel_rfl) (by rfl) (fun K hK => ?_)    -- CALL
  go_wp2_with fail
  refine (HM1.out _).mono ?_
  rintro e w7 ⟨rfl, hw7⟩
  subst hw7
  go_wp2_with fail
  refine hK _ _ ⟨e3, e8⟩ ?_
  clear hK
  refine wpAnyM_one (fuel := 7) (i := 12) (by kernel_rfl) (by rfl) (fun K hK => ?_)    -- CALL
  go_wp2_with fail
  refine (HM2.out _).mono ?_
  rintro e w7 ⟨rfl, hw7⟩
  subst hw7
  go_wp2_with fail
  refine hK _ _ ⟨e3, e8⟩ ?_
  clear hK
  refine wpAnyM_of_any _ _ _ _ (by decide) ?_
  refine wpAny_list [13, 14, 15, 16, 17, 18, 19] (fuel := 0) (by kernel_rfl) ?_
  simp only [List.filterMap_cons, List.filterMap_nil, List.getElem?_toArray, List.getElem?_cons_succ, List.getElem?_cons_zero]
  have f3 := frz_of HS6.out.blk 3
  have f8 := frz_of (HS6.out.set 3 (.int .i64 (moreS n.kids))).drew.blk 8
  have f8b := frz_of (HS6.out.set 3 (.int .i64 (moreS n.kids))).blk 8
  have f8c := frz_of HS6.out.blk 8
  have g8b := cell_of HS6.out.blk 8 (v := .int .i64 n.next) rfl
  have g3b := cell_of HS6.out.blk 3 (v := .int .i64 n.kids) rfl
  have g8 := cell_of (HS6.out.set 3 (.int .i64 (moreS n.kids))).drew.blk 8 (v := .int .i64 n.next) rfl
  have HFIN := Lib.hid ((HS6.out.set 3 (.int .i64 (moreS n.kids))).drew.set 8 (.int .i64 (moreS n.next)))
  clear e3 e8
  go_wp2_with fail
  go_ret
  rw [HN.out, HB.out]
  refine ⟨rfl, .slice a3 n3 k3, _, fun r hr => List.mem_cons_of_mem _ hr, List.mem_cons_self .., ?_⟩
  have e := HL3.out
  subst e
  exact HFIN.out
set_option maxRecDepth 100000 in
set_option maxHeartbeats 1000000 in
theorem remove_any (h : Sep w0 w (ThCell x (.cells (n.cells nv) 51 (0, 0)) :: ThPool P :: R) rows) (s : ByteArray) (hok : NodeOk n) (hnv : (1, nv, n.names.map sv) ∈ P) :
    Calls Tryd.prog 37 #[.pointer (some ⟨x, 0, none⟩), .string s] w (NodePost w0 x (remS n s.data.toList) P R rows (hasS n.names s.data.toList)) := by
  have hb := h.blk
  obtain ⟨E, hE⟩ := (h.perm (List.Perm.swap _ _ _)).poolGet hnv
  have c9 := cell_of hb 9 (v := nv) rfl
  obtain ⟨na, nn, nc, rfl, -⟩ := id hE
  have HSE := Lib.hid (search_any _ _ E w s hE hok.rise (by have := hok.few; omega))
  have HCL := Lib.hid (fun w' (hu : Upd w w' [] []) => cloneS_any _ n.names E w' (hE.frame (hu.same hE.lt (by simp))) (by have := hok.few; omega))
  have H := Lib.hid h
  have HOK := Lib.hid hok
  have HNV := Lib.hid hnv
  clear h hb hE hok hnv
  go_enter Tryd.func37, Tryd.ntmps37
  go_wp2_with fail
  refine HSE.out.mono ?_
  rintro e w1 ⟨rfl, hu1⟩
  have HU1 := Lib.hid hu1
  have H1 := Lib.hid (H.out.keep hu1)
  have c9 := cell_of (H.out.keep hu1).blk 9 (v := .slice na nn nc) rfl
  clear hu1 H HSE
  cases hh : hasS n.names s.data.toList with
  | false =>
    have HN := Lib.hid (show remS n s.data.toList = n by unfold remS; rw [if_neg (by rw [hh]; decide)])
    have HB := Lib.hid hh
    clear hh HCL
    go_wp2_with fail
    go_ret
    rw [HN.out, HB.out]
    exact ⟨rfl, _, P, fun _ h => h, HNV.out, H1.out⟩
  | true =>
  have hpl : placeS n.names s.data.toList < n.names.length := by
    have := hh
    unfold hasS at this
    rw [decide_eq_true_eq] at this
    exact (List.getElem?_eq_some_iff.1 this).1
  have hfew := HOK.out.few
  have HN := Lib.hid (show remS n s.data.toList = { n with names := delS n.names s.data.toList, kids := moreS n.kids } by unfold remS; rw [if_pos hh])
  have HB := Lib.hid hh
  clear hh
  go_wp2_with fail
  refine (HCL.out w1 HU1.out).mono ?_
  rintro e w2 ⟨v2, D2, rfl, ho2, hu2⟩
  obtain ⟨a2, n2, k2, rfl, -⟩ := id ho2
  have hin := delete_any _ n.names D2 w2 (placeS n.names s.data.toList) ho2 hpl (by omega)
  rw [show ((placeS n.names s.data.toList + 1 : Nat) : Int) = ((placeS n.names s.data.toList : Nat) : Int) + 1 by omega] at hin
  have HIN := Lib.hid hin
  have HU3 := Lib.hid hu2
  have c9' := upd_cell (hu2.mono (fun _ h => h) (fun b hb => (hu2.new b hb).elim (fun h => by cases h) (fun _ => .inl hb)) : Upd w1 _ [] D2) c9
  clear ho2 hu2 hin HCL c9
  go_wp2_with fail
  refine HIN.out.mono ?_
  rintro e w3 ⟨v3, D3, rfl, ho3, hu3⟩
  have hS := (H1.out.addRow ho3 (HU3.out.trans hu3)).perm (List.Perm.swap _ _ _)
  have hS2 : Sep w0 w3 (ThCell x (.cells (n.cells (.slice na nn nc)) 51 (0, 0)) :: ThPool ((1, v3, (delS n.names s.data.toList).map sv) :: P) :: R) rows :=
    ((hS.perm (List.Perm.swap _ _ _ |>.trans ((List.Perm.swap _ _ _).cons _))).poolRow).perm (List.Perm.swap _ _ _)
  obtain ⟨a3, n3, k3, rfl, hl3⟩ := ho3.len
  rw [List.length_map, Nat.mul_one] at hl3
  have hb3 := hS2.blk
  have d9 := cell_of hb3 9 (v := .slice na nn nc) rfl
  have d6 := cell_of hb3 6 (v := .int .i64 (n.names.length : Nat)) rfl
  have d3 := cell_of hb3 3 (v := .int .i64 n.kids) rfl
  have f9 := frz_of hb3 9
  have f6 := frz_of hb3 6
  have f3 := frz_of hb3 3
  have HFIN := Lib.hid (((hS2.set 9 (.slice a3 n3 k3)).set 6 (.int .i64 (n3 : Nat))).set 3 (.int .i64 (moreS n.kids)))
  have HL3 := Lib.hid hl3
  have HM1 := Lib.hid (fun w => more_any n.kids w (by have := HOK.out.kids; omega))
  clear ho3 hu3 hS hS2 hb3 HIN HU3 c9' hl3 hfew hpl
  go_wp2_with fail
  refine (HM1.out _).mono ?_
  rintro e w7 ⟨rfl, hw7⟩
  subst hw7
  go_wp2_with fail
  go_ret
  rw [HN.out, HB.out]
  refine ⟨rfl, .slice a3 n3 k3, _, fun r hr => List.mem_cons_of_mem _ hr, List.mem_cons_self .., ?_⟩
  have e := HL3.out
  subst e
  exact HFIN.out
end
/-- A node's copy: its names in a row of their own. -/
def CopPost (w : World) (n : NodeS) (e : Ending) (w' : World) : Prop := ∃ nv D, e = .returned (n.val nv) ∧ OwnRow w' 1 nv (n.names.map sv) D ∧ Upd w w' [] D
set_option maxRecDepth 100000 in
set_option maxHeartbeats 1000000 in
theorem copied_any (n : NodeS) (nv : Value) (w : World) (E : List Nat) (h : ReadRow w 1 nv (n.names.map sv) E) (hl : n.names.length ≤ 100000) :
    Calls Tryd.prog 12 #[n.val nv] w (CopPost w n) := by
  have hu0 := (Upd.alloc0 w (.cells (n.cells nv) 51) []).trans (Upd.alloc0 _ (.cells #[.int .i64 0, .int .i64 0, .int .i64 0, .int .i64 0, .int .i64 0, .int .i64 0, .int .i64 0, .string ⟨#[]⟩, .int .i64 0, .slice none 0 0] 51) [])
  have HCL := Lib.hid (cloneS_any nv n.names E _ (h.frame (hu0.same h.lt (by simp))) (by omega))
  obtain ⟨na, nn, nc, rfl, -⟩ := id h
  obtain ⟨made, changed, ver, kids, owner, dat, next, names⟩ := n
  unfold NodeS.val NodeS.cells at *
  dsimp only at *
  clear h
  go_enter Tryd.func12, Tryd.ntmps12
  go_wp2_with fail
  refine HCL.out.mono ?_
  rintro e w2 ⟨v2, D2, rfl, ho2, hu2⟩
  obtain ⟨a2, n2, k2, rfl, -⟩ := id ho2
  have h0 := ((Sep.start w).newCell (.cells #[.int .i64 made, .int .i64 changed, .int .i64 ver, .int .i64 kids, .int .i64 owner, .int .i64 (dat.size : Nat), .int .i64 (names.length : Nat), .string dat, .int .i64 next, .slice na nn nc] 51)).newCell (.cells #[.int .i64 0, .int .i64 0, .int .i64 0, .int .i64 0, .int .i64 0, .int .i64 0, .int .i64 0, .string ⟨#[]⟩, .int .i64 0, .slice none 0 0] 51)
  have h1 := h0.addRow ho2 hu2
  rw [show (w.alloc (.cells #[.int .i64 made, .int .i64 changed, .int .i64 ver, .int .i64 kids, .int .i64 owner, .int .i64 (dat.size : Nat), .int .i64 (names.length : Nat), .string dat, .int .i64 next, .slice na nn nc] 51)).heap.size = w.heap.size + 1 by simp] at h1
  obtain ⟨b1, hb1⟩ : ∃ b1, b1 = w.heap.size := ⟨_, rfl⟩
  obtain ⟨b2, hb2⟩ : ∃ b2, b2 = w.heap.size + 1 := ⟨_, rfl⟩
  rw [← hb2, ← hb1] at h1
  have hb12 : b2 ≠ b1 := by omega
  rw [← hb2, ← hb1]
  clear h0 hu2 ho2 HCL hu0 hb1 hb2
  have h2 := (h1.perm ((List.Perm.swap _ _ _).cons _)).perm (List.Perm.swap _ _ _)
  have e1 := h2.blk
  have e2 := (h1.perm (List.Perm.swap _ _ _)).blk
  have c0 := cell_of e1 0 (v := .int .i64 made) rfl
  have c1 := cell_of e1 1 (v := .int .i64 changed) rfl
  have c2 := cell_of e1 2 (v := .int .i64 ver) rfl
  have c3 := cell_of e1 3 (v := .int .i64 kids) rfl
  have c4 := cell_of e1 4 (v := .int .i64 owner) rfl
  have c5 := cell_of e1 5 (v := .int .i64 (dat.size : Nat)) rfl
  have c6 := cell_of e1 6 (v := .int .i64 (names.length : Nat)) rfl
  have c7 := cell_of e1 7 (v := .string dat) rfl
  have c8 := cell_of e1 8 (v := .int .i64 next) rfl
  have c9 := cell_of e1 9 (v := .slice na nn nc) rfl
  have f9 := frz_of e1 9
  have d0 := cell_of e2 0 (v := .int .i64 0) rfl
  have d1 := cell_of e2 1 (v := .int .i64 0) rfl
  have d2 := cell_of e2 2 (v := .int .i64 0) rfl
  have d3 := cell_of e2 3 (v := .int .i64 0) rfl
  have d4 := cell_of e2 4 (v := .int .i64 0) rfl
  have d5 := cell_of e2 5 (v := .int .i64 0) rfl
  have d6 := cell_of e2 6 (v := .int .i64 0) rfl
  have d7 := cell_of e2 7 (v := .string ⟨#[]⟩) rfl
  have d8 := cell_of e2 8 (v := .int .i64 0) rfl
  have d9 := cell_of e2 9 (v := .slice none 0 0) rfl
  have g0 := frz_of e2 0
  have g1 := frz_of e2 1
  have g2 := frz_of e2 2
  have g3 := frz_of e2 3
  have g4 := frz_of e2 4
  have g5 := frz_of e2 5
  have g6 := frz_of e2 6
  have g7 := frz_of e2 7
  have g8 := frz_of e2 8
  have g9 := frz_of e2 9
  have hA := h2.set 9 (.slice a2 n2 k2)
  simp only [List.setIfInBounds_toArray, List.set_cons_succ, List.set_cons_zero] at hA
  have hB := (((((((((((hA.pick 2 rfl rfl).set 0 (.int .i64 made)).set 1 (.int .i64 changed)).set 2 (.int .i64 ver)).set 3 (.int .i64 kids)).set 4 (.int .i64 owner)).set 5 (.int .i64 (dat.size : Nat))).set 6 (.int .i64 (names.length : Nat))).set 7 (.string dat)).set 8 (.int .i64 next)).set 9 (.slice a2 n2 k2))
  simp only [List.setIfInBounds_toArray, List.set_cons_succ, List.set_cons_zero] at hB
  have H := Lib.hid hB
  clear h1 h2 e1 e2 hA hB
  go_wp2_with fail
  refine bodyPost_ret (ret_cell rfl _ rfl H.out.blk Tryd.underlying51 (by kernel_rfl)) rfl ?_
  obtain ⟨D, ho, hu⟩ := (H.out.drop.drop).oneS
  exact ⟨_, D, rfl, ho, hu⟩
end Go.Proofs.YtjeaoopamebgjaaDoor
