/-
  A tree: the walks of Do, Try, Copy.
-/
import Derived.Test.YtjeaoopamebgjaaDoorTreeI
import Derived.Test.YtjeaoopamebgjaaDoorSxM
namespace Go.Proofs.YtjeaoopamebgjaaDoor
open Go.RowKit Go.Av
section
variable {w0 w : World} {t : Nat} {S : TreeS} {P P' : List PRow} {R : List Thing} {rows : List (Value × Bs)}
set_option maxRecDepth 100000 in
theorem tdo_any (h : Sep w0 w (ThPool P :: ThTree t S P :: R) rows) (hd : DoorN w0) (o : OpS) (hp : o.path.size ≤ 100000) (sess zxid : Int) (hok : ∀ e ∈ S.l, NodeOk e.2) :
    Calls Tryd.prog 11 #[.pointer (some ⟨t, 0, none⟩), o.val, .int .i64 sess, .int .i64 zxid] w (ResPost w0 t (doT S o sess zxid).2 P R rows (doT S o sess zxid).1) := by
  have HX := Lib.hid h
  clear h
  obtain ⟨kind, path, data, ver, flags⟩ := o
  unfold OpS.val
  dsimp only at hp ⊢
  obtain ⟨rr, hrr⟩ : ∃ rr, doT S ⟨kind, path, data, ver, flags⟩ sess zxid = rr := ⟨_, rfl⟩
  rw [hrr]
  have HR := Lib.hid hrr
  clear hrr
  go_enter Tryd.func11, Tryd.ntmps11
  go_wp2_with (first | (refine sx_loadS HX rfl rfl (by (first | exact sn_op | exact sn_res | exact sn_stat | exact sn_node | exact sn_reply | exact sn_req)) (by (repeat (first | (with_reducible exact List.mem_cons_self ..) | (with_reducible apply List.mem_cons_of_mem)))) rfl ?_; simp only [Act.put, List.setIfInBounds_toArray, List.set_cons_zero, List.set_cons_succ, List.drop_zero, List.drop_succ_cons, List.take_succ_cons, List.take_zero, List.toList_toArray, NodeS.cells]) | (refine sx_load HX rfl rfl (by kernel_rfl) (by (repeat (first | (with_reducible exact List.mem_cons_self ..) | (with_reducible apply List.mem_cons_of_mem)))) rfl ?_; simp only [Act.put, List.setIfInBounds_toArray, List.set_cons_zero, List.set_cons_succ]) | (refine sx_storeS HX rfl rfl rfl (by kernel_rfl) (by (repeat (first | (with_reducible exact Rep.here) | (with_reducible apply Rep.there)))) rfl rfl ?_; clear HX; intro w HX; simp only [Act.put, List.setIfInBounds_toArray, List.set_cons_zero, List.set_cons_succ, setMany, Nat.reduceAdd, NodeS.cells] at HX ⊢) | (refine sx_store1 HX rfl rfl rfl rfl (by kernel_rfl) (by (repeat (first | (with_reducible exact Rep.here) | (with_reducible apply Rep.there)))) rfl rfl ?_; clear HX; intro w HX; simp only [Act.put, List.setIfInBounds_toArray, List.set_cons_zero, List.set_cons_succ, NodeS.cells] at HX ⊢) | (refine sx_alloc HX rfl (by (first | exact z_op | exact z_res | exact z_node | exact z_reply | exact z_req)) ?_; clear HX; intro w b HX; simp only [Act.put, List.setIfInBounds_toArray, List.set_cons_zero, List.set_cons_succ]) | (refine sx_boxS HX rfl rfl ?_; clear HX; intro w b HX; simp only [Act.put, List.setIfInBounds_toArray, List.set_cons_zero, List.set_cons_succ]) | (refine sx_box1 HX rfl rfl rfl ?_; clear HX; intro w b HX; simp only [Act.put, List.setIfInBounds_toArray, List.set_cons_zero, List.set_cons_succ]) | (refine sx_makeMap .string HX rfl ?_; clear HX; intro w mm HX; simp only [Act.put, List.setIfInBounds_toArray, List.set_cons_zero, List.set_cons_succ]))
  refine (do_any (HX.out.perm (perm22 _ _ _ _ _)) hd ⟨kind, path, data, ver, flags⟩ hp sess zxid false hok).mono ?_
  rw [HR.out]
  rintro e w ⟨nv, P', rfl, hP', hnv, hx⟩
  clear HX
  have HX := Lib.hid hx
  obtain ⟨E, hE⟩ := Sep.poolGet hx hnv
  obtain ⟨na, nn, nc, rfl, -⟩ := id hE
  clear hx hE
  simp only [ResS.cells]
  go_wp2_with (first | (refine sx_loadS HX rfl rfl (by (first | exact sn_op | exact sn_res | exact sn_stat | exact sn_node | exact sn_reply | exact sn_req)) (by (repeat (first | (with_reducible exact List.mem_cons_self ..) | (with_reducible apply List.mem_cons_of_mem)))) rfl ?_; simp only [Act.put, List.setIfInBounds_toArray, List.set_cons_zero, List.set_cons_succ, List.drop_zero, List.drop_succ_cons, List.take_succ_cons, List.take_zero, List.toList_toArray, NodeS.cells]) | (refine sx_load HX rfl rfl (by kernel_rfl) (by (repeat (first | (with_reducible exact List.mem_cons_self ..) | (with_reducible apply List.mem_cons_of_mem)))) rfl ?_; simp only [Act.put, List.setIfInBounds_toArray, List.set_cons_zero, List.set_cons_succ]) | (refine sx_storeS HX rfl rfl rfl (by kernel_rfl) (by (repeat (first | (with_reducible exact Rep.here) | (with_reducible apply Rep.there)))) rfl rfl ?_; clear HX; intro w HX; simp only [Act.put, List.setIfInBounds_toArray, List.set_cons_zero, List.set_cons_succ, setMany, Nat.reduceAdd, NodeS.cells] at HX ⊢) | (refine sx_store1 HX rfl rfl rfl rfl (by kernel_rfl) (by (repeat (first | (with_reducible exact Rep.here) | (with_reducible apply Rep.there)))) rfl rfl ?_; clear HX; intro w HX; simp only [Act.put, List.setIfInBounds_toArray, List.set_cons_zero, List.set_cons_succ, NodeS.cells] at HX ⊢) | (refine sx_alloc HX rfl (by (first | exact z_op | exact z_res | exact z_node | exact z_reply | exact z_req)) ?_; clear HX; intro w b HX; simp only [Act.put, List.setIfInBounds_toArray, List.set_cons_zero, List.set_cons_succ]) | (refine sx_boxS HX rfl rfl ?_; clear HX; intro w b HX; simp only [Act.put, List.setIfInBounds_toArray, List.set_cons_zero, List.set_cons_succ]) | (refine sx_box1 HX rfl rfl rfl ?_; clear HX; intro w b HX; simp only [Act.put, List.setIfInBounds_toArray, List.set_cons_zero, List.set_cons_succ]) | (refine sx_makeMap .string HX rfl ?_; clear HX; intro w mm HX; simp only [Act.put, List.setIfInBounds_toArray, List.set_cons_zero, List.set_cons_succ]))
  refine sx_ret HX rfl rfl (by (repeat (first | (with_reducible exact List.mem_cons_self ..) | (with_reducible apply List.mem_cons_of_mem)))) (by kernel_rfl) ?_
  have h9 := HX.out.cut2.cut2
  exact ⟨_, P', rfl, hP', hnv, h9⟩
/-- What Copy leaves. -/
def TwoPost (w0 : World) (t : Nat) (S : TreeS) (P : List PRow) (R : List Thing) (rows : List (Value × Bs)) (e : Ending) (w' : World) : Prop :=
  ∃ c P', e = .returned (.pointer (some ⟨c, 0, none⟩)) ∧ (∀ r ∈ P, r ∈ P') ∧ Sep w0 w' (ThPool P' :: ThTree c S P' :: ThTree t S P' :: R) rows
def CopyRel (w0 : World) (t m r c mc : Nat) (S : TreeS) (P : List PRow) (R : List Thing) (rows : List (Value × Bs)) (gs : List NodeG) (k : Nat) (w : World) : Prop :=
  ∃ (left done : List NodeG) (P' : List PRow), left.length = k ∧ (done.map NodeG.ent ++ left.map NodeG.ent).Perm (gs.map NodeG.ent) ∧ (∀ g ∈ left, g ∈ gs) ∧ (∀ q ∈ P, q ∈ P') ∧ (∀ g ∈ done, (1, g.nv, g.n.names.map sv) ∈ P') ∧
    Sep w0 w (ThIter .string m r (gs.map NodeG.kv) (left.map NodeG.kv) :: ThL (gs.map NodeG.th) :: thTree t m S.room :: thTree c mc S.room :: ThMap .string mc (done.map NodeG.kv) :: ThL (done.map NodeG.th) :: ThPool P' :: R) rows
theorem copy_key {done gs : List NodeG} {g : NodeG} {l1 l2 : List NodeG} (hp : (done.map NodeG.ent ++ (l1 ++ g :: l2).map NodeG.ent).Perm (gs.map NodeG.ent)) (hn : (gs.map NodeG.key).Nodup) : (∀ q ∈ done.map NodeG.kv, q.1 ≠ sv g.key) ∧
    ∀ g' : NodeG, g'.ent = g.ent → ((done ++ [g']).map NodeG.ent ++ (l1 ++ l2).map NodeG.ent).Perm (gs.map NodeG.ent) := by
  constructor
  · intro q hq e
    obtain ⟨x, hx, rfl⟩ := List.mem_map.1 hq
    have h1 : ((done.map NodeG.ent ++ (l1 ++ g :: l2).map NodeG.ent).map (·.1)).Nodup := by
      refine ((hp.map (·.1)).nodup_iff).2 ?_
      rw [List.map_map]
      exact hn
    rw [List.map_append, List.nodup_append] at h1
    exact h1.2.2 x.key (List.mem_map.2 ⟨x.ent, List.mem_map_of_mem hx, rfl⟩) g.key (List.mem_map.2 ⟨g.ent, List.mem_map_of_mem (by simp), rfl⟩) (sv_inj e)
  · intro g' hg'
    refine List.Perm.trans ?_ hp
    simp only [List.map_append, List.map_cons, List.map_nil, hg', List.append_assoc]
    refine List.Perm.append_left _ ?_
    rw [List.singleton_append]
    exact List.perm_middle.symm
set_option maxRecDepth 100000 in
set_option maxHeartbeats 4000000 in
theorem treecopy_any (h : Sep w0 w (ThPool P :: ThTree t S P :: R) rows) (hok : ∀ e ∈ S.l, NodeOk e.2) :
    Calls Tryd.prog 10 #[.pointer (some ⟨t, 0, none⟩)] w (TwoPost w0 t S P R rows) := by
  obtain ⟨m, gs, hperm, hrise, hgs, hS⟩ := tree_open (h.perm (List.Perm.swap _ _ _))
  have HPM := Lib.hid hperm
  have HRI := Lib.hid hrise
  have HGS := Lib.hid hgs
  have HOK := Lib.hid (show ∀ g ∈ gs, NodeOk g.n from fun g hg => hok g.ent (hperm.mem_iff.1 (List.mem_map_of_mem hg)))
  have HND := Lib.hid (keys_nodup hperm hrise)
  have HX := Lib.hid hS
  clear h hperm hrise hgs hS hok
  go_enter Tryd.func10, Tryd.ntmps10
  go_upto_region 2 with (first | (refine sx_loadS HX rfl rfl (by (first | exact sn_op | exact sn_res | exact sn_stat | exact sn_node | exact sn_reply | exact sn_req)) (by (repeat (first | (with_reducible exact List.mem_cons_self ..) | (with_reducible apply List.mem_cons_of_mem)))) rfl ?_; simp only [Act.put, List.setIfInBounds_toArray, List.set_cons_zero, List.set_cons_succ, List.drop_zero, List.drop_succ_cons, List.take_succ_cons, List.take_zero, List.toList_toArray, NodeS.cells]) | (refine sx_load HX rfl rfl (by kernel_rfl) (by (repeat (first | (with_reducible exact List.mem_cons_self ..) | (with_reducible apply List.mem_cons_of_mem)))) rfl ?_; simp only [Act.put, List.setIfInBounds_toArray, List.set_cons_zero, List.set_cons_succ]) | (refine sx_storeS HX rfl rfl rfl (by kernel_rfl) (by (repeat (first | (with_reducible exact Rep.here) | (with_reducible apply Rep.there)))) rfl rfl ?_; clear HX; intro w HX; simp only [Act.put, List.setIfInBounds_toArray, List.set_cons_zero, List.set_cons_succ, setMany, Nat.reduceAdd, NodeS.cells] at HX ⊢) | (refine sx_store1 HX rfl rfl rfl rfl (by kernel_rfl) (by (repeat (first | (with_reducible exact Rep.here) | (with_reducible apply Rep.there)))) rfl rfl ?_; clear HX; intro w HX; simp only [Act.put, List.setIfInBounds_toArray, List.set_cons_zero, List.set_cons_succ, NodeS.cells] at HX ⊢) | (refine sx_alloc HX rfl (by (first | exact z_op | exact z_res | exact z_node | exact z_reply | exact z_req)) ?_; clear HX; intro w b HX; simp only [Act.put, List.setIfInBounds_toArray, List.set_cons_zero, List.set_cons_succ]) | (refine sx_boxS HX rfl rfl ?_; clear HX; intro w b HX; simp only [Act.put, List.setIfInBounds_toArray, List.set_cons_zero, List.set_cons_succ]) | (refine sx_box1 HX rfl rfl rfl ?_; clear HX; intro w b HX; simp only [Act.put, List.setIfInBounds_toArray, List.set_cons_zero, List.set_cons_succ]) | (refine sx_makeMap .string HX rfl ?_; clear HX; intro w mm HX; simp only [Act.put, List.setIfInBounds_toArray, List.set_cons_zero, List.set_cons_succ]))
  obtain ⟨r, w9, hrun, h9⟩ := it_start (P := Tryd.prog) HX.out.up3 Tryd.underlying43
  have HST := Lib.hid (show CopyRel w0 t m r b mm S P R rows gs gs.length w9 from ⟨gs, [], P, rfl, by simp, fun _ h => h, fun _ h => h, by simp, (thl_nil h9).up3.up3.up4.up5.up5⟩)
  go_wp2_with (first | (refine sx_loadS HX rfl rfl (by (first | exact sn_op | exact sn_res | exact sn_stat | exact sn_node | exact sn_reply | exact sn_req)) (by (repeat (first | (with_reducible exact List.mem_cons_self ..) | (with_reducible apply List.mem_cons_of_mem)))) rfl ?_; simp only [Act.put, List.setIfInBounds_toArray, List.set_cons_zero, List.set_cons_succ, List.drop_zero, List.drop_succ_cons, List.take_succ_cons, List.take_zero, List.toList_toArray, NodeS.cells]) | (refine sx_load HX rfl rfl (by kernel_rfl) (by (repeat (first | (with_reducible exact List.mem_cons_self ..) | (with_reducible apply List.mem_cons_of_mem)))) rfl ?_; simp only [Act.put, List.setIfInBounds_toArray, List.set_cons_zero, List.set_cons_succ]) | (refine sx_storeS HX rfl rfl rfl (by kernel_rfl) (by (repeat (first | (with_reducible exact Rep.here) | (with_reducible apply Rep.there)))) rfl rfl ?_; clear HX; intro w HX; simp only [Act.put, List.setIfInBounds_toArray, List.set_cons_zero, List.set_cons_succ, setMany, Nat.reduceAdd, NodeS.cells] at HX ⊢) | (refine sx_store1 HX rfl rfl rfl rfl (by kernel_rfl) (by (repeat (first | (with_reducible exact Rep.here) | (with_reducible apply Rep.there)))) rfl rfl ?_; clear HX; intro w HX; simp only [Act.put, List.setIfInBounds_toArray, List.set_cons_zero, List.set_cons_succ, NodeS.cells] at HX ⊢) | (refine sx_alloc HX rfl (by (first | exact z_op | exact z_res | exact z_node | exact z_reply | exact z_req)) ?_; clear HX; intro w b HX; simp only [Act.put, List.setIfInBounds_toArray, List.set_cons_zero, List.set_cons_succ]) | (refine sx_boxS HX rfl rfl ?_; clear HX; intro w b HX; simp only [Act.put, List.setIfInBounds_toArray, List.set_cons_zero, List.set_cons_succ]) | (refine sx_box1 HX rfl rfl rfl ?_; clear HX; intro w b HX; simp only [Act.put, List.setIfInBounds_toArray, List.set_cons_zero, List.set_cons_succ]) | (refine sx_makeMap .string HX rfl ?_; clear HX; intro w mm HX; simp only [Act.put, List.setIfInBounds_toArray, List.set_cons_zero, List.set_cons_succ]))
  clear HX hrun h9
  go_loopg [4] gs.length (fun k _ wr => CopyRel w0 t m r b mm S P R rows gs k wr)
  case atStart => exact HST.out
  case round =>
    obtain ⟨left, done, P', hk, hpm, hin, hP', hdn, hS⟩ := hrel
    rcases it_next (P := Tryd.prog) NodeG.kv hS with ⟨rfl, hn⟩ | ⟨l1, g, l2, w1, rfl, hn, h1, hen⟩
    · have HF := Lib.hid (show _ ∧ _ ∧ _ from ⟨hpm, hP', hdn⟩)
      have HX := Lib.hid hS
      clear hpm hP' hdn hS hk hin
      go_wp2_with (first | (refine sx_loadS HX rfl rfl (by (first | exact sn_op | exact sn_res | exact sn_stat | exact sn_node | exact sn_reply | exact sn_req)) (by (repeat (first | (with_reducible exact List.mem_cons_self ..) | (with_reducible apply List.mem_cons_of_mem)))) rfl ?_; simp only [Act.put, List.setIfInBounds_toArray, List.set_cons_zero, List.set_cons_succ, List.drop_zero, List.drop_succ_cons, List.take_succ_cons, List.take_zero, List.toList_toArray, NodeS.cells]) | (refine sx_load HX rfl rfl (by kernel_rfl) (by (repeat (first | (with_reducible exact List.mem_cons_self ..) | (with_reducible apply List.mem_cons_of_mem)))) rfl ?_; simp only [Act.put, List.setIfInBounds_toArray, List.set_cons_zero, List.set_cons_succ]) | (refine sx_storeS HX rfl rfl rfl (by kernel_rfl) (by (repeat (first | (with_reducible exact Rep.here) | (with_reducible apply Rep.there)))) rfl rfl ?_; clear HX; intro w HX; simp only [Act.put, List.setIfInBounds_toArray, List.set_cons_zero, List.set_cons_succ, setMany, Nat.reduceAdd, NodeS.cells] at HX ⊢) | (refine sx_store1 HX rfl rfl rfl rfl (by kernel_rfl) (by (repeat (first | (with_reducible exact Rep.here) | (with_reducible apply Rep.there)))) rfl rfl ?_; clear HX; intro w HX; simp only [Act.put, List.setIfInBounds_toArray, List.set_cons_zero, List.set_cons_succ, NodeS.cells] at HX ⊢) | (refine sx_alloc HX rfl (by (first | exact z_op | exact z_res | exact z_node | exact z_reply | exact z_req)) ?_; clear HX; intro w b HX; simp only [Act.put, List.setIfInBounds_toArray, List.set_cons_zero, List.set_cons_succ]) | (refine sx_boxS HX rfl rfl ?_; clear HX; intro w b HX; simp only [Act.put, List.setIfInBounds_toArray, List.set_cons_zero, List.set_cons_succ]) | (refine sx_box1 HX rfl rfl rfl ?_; clear HX; intro w b HX; simp only [Act.put, List.setIfInBounds_toArray, List.set_cons_zero, List.set_cons_succ]) | (refine sx_makeMap .string HX rfl ?_; clear HX; intro w mm HX; simp only [Act.put, List.setIfInBounds_toArray, List.set_cons_zero, List.set_cons_succ]))
      go_ret
      obtain ⟨hpm, hP', hdn⟩ := HF.out
      have h5 := it_end HX.out
      have h6 := tree_shut (t := t) (P := P') h5.up2 HPM.out HRI.out (fun g hg => hP' _ (HGS.out g hg))
      have h7 := tree_shut (t := b) (S := S) (P := P') h6.up3.up3.up3 (by simpa using hpm.trans HPM.out) HRI.out hdn
      exact ⟨b, P', rfl, hP', h7.up2⟩
    · have hg := hin g (by simp)
      obtain ⟨a1, a2, hgs⟩ := List.append_of_mem hg
      have HF := Lib.hid (show _ ∧ _ ∧ _ ∧ _ ∧ _ from ⟨hpm, hP', hdn, hk, hin⟩)
      rw [hgs] at h1
      have HX := Lib.hid (show Sep w0 w1 (thNode g.blk g.n g.nv :: _) rows from thl_out (f := NodeG.th) h1.up1)
      have HG := Lib.hid hgs
      have hnv := hP' _ (HGS.out g hg)
      have hok := HOK.out g hg
      clear hS h1 hpm hP' hdn hk hin hgs hg
      have HNV := Lib.hid hnv
      clear hnv
      simp only [NodeG.kv] at hn hen
      go_wp2_with (first | (refine sx_loadS HX rfl rfl (by (first | exact sn_op | exact sn_res | exact sn_stat | exact sn_node | exact sn_reply | exact sn_req)) (by (repeat (first | (with_reducible exact List.mem_cons_self ..) | (with_reducible apply List.mem_cons_of_mem)))) rfl ?_; simp only [Act.put, List.setIfInBounds_toArray, List.set_cons_zero, List.set_cons_succ, List.drop_zero, List.drop_succ_cons, List.take_succ_cons, List.take_zero, List.toList_toArray, NodeS.cells]) | (refine sx_load HX rfl rfl (by kernel_rfl) (by (repeat (first | (with_reducible exact List.mem_cons_self ..) | (with_reducible apply List.mem_cons_of_mem)))) rfl ?_; simp only [Act.put, List.setIfInBounds_toArray, List.set_cons_zero, List.set_cons_succ]) | (refine sx_storeS HX rfl rfl rfl (by kernel_rfl) (by (repeat (first | (with_reducible exact Rep.here) | (with_reducible apply Rep.there)))) rfl rfl ?_; clear HX; intro w HX; simp only [Act.put, List.setIfInBounds_toArray, List.set_cons_zero, List.set_cons_succ, setMany, Nat.reduceAdd, NodeS.cells] at HX ⊢) | (refine sx_store1 HX rfl rfl rfl rfl (by kernel_rfl) (by (repeat (first | (with_reducible exact Rep.here) | (with_reducible apply Rep.there)))) rfl rfl ?_; clear HX; intro w HX; simp only [Act.put, List.setIfInBounds_toArray, List.set_cons_zero, List.set_cons_succ, NodeS.cells] at HX ⊢) | (refine sx_alloc HX rfl (by (first | exact z_op | exact z_res | exact z_node | exact z_reply | exact z_req)) ?_; clear HX; intro w b HX; simp only [Act.put, List.setIfInBounds_toArray, List.set_cons_zero, List.set_cons_succ]) | (refine sx_boxS HX rfl rfl ?_; clear HX; intro w b HX; simp only [Act.put, List.setIfInBounds_toArray, List.set_cons_zero, List.set_cons_succ]) | (refine sx_box1 HX rfl rfl rfl ?_; clear HX; intro w b HX; simp only [Act.put, List.setIfInBounds_toArray, List.set_cons_zero, List.set_cons_succ]) | (refine sx_makeMap .string HX rfl ?_; clear HX; intro w mm HX; simp only [Act.put, List.setIfInBounds_toArray, List.set_cons_zero, List.set_cons_succ]))
      obtain ⟨E, hE⟩ := HX.out.up7.poolGet HNV.out
      refine (copied_any g.n g.nv w1 E hE (by have := hok.few; omega)).mono ?_
      rintro e w ⟨v2, D2, rfl, ho2, hu2⟩
      obtain ⟨a2', n2, k2, rfl, -⟩ := id ho2
      replace HX := Lib.hid (HX.out.addRow ho2 hu2)
      clear ho2 hu2 hE
      simp only [NodeS.val, NodeS.cells]
      go_upto_region 6 with (first | (refine sx_loadS HX rfl rfl (by (first | exact sn_op | exact sn_res | exact sn_stat | exact sn_node | exact sn_reply | exact sn_req)) (by (repeat (first | (with_reducible exact List.mem_cons_self ..) | (with_reducible apply List.mem_cons_of_mem)))) rfl ?_; simp only [Act.put, List.setIfInBounds_toArray, List.set_cons_zero, List.set_cons_succ, List.drop_zero, List.drop_succ_cons, List.take_succ_cons, List.take_zero, List.toList_toArray, NodeS.cells]) | (refine sx_load HX rfl rfl (by kernel_rfl) (by (repeat (first | (with_reducible exact List.mem_cons_self ..) | (with_reducible apply List.mem_cons_of_mem)))) rfl ?_; simp only [Act.put, List.setIfInBounds_toArray, List.set_cons_zero, List.set_cons_succ]) | (refine sx_storeS HX rfl rfl rfl (by kernel_rfl) (by (repeat (first | (with_reducible exact Rep.here) | (with_reducible apply Rep.there)))) rfl rfl ?_; clear HX; intro w HX; simp only [Act.put, List.setIfInBounds_toArray, List.set_cons_zero, List.set_cons_succ, setMany, Nat.reduceAdd, NodeS.cells] at HX ⊢) | (refine sx_store1 HX rfl rfl rfl rfl (by kernel_rfl) (by (repeat (first | (with_reducible exact Rep.here) | (with_reducible apply Rep.there)))) rfl rfl ?_; clear HX; intro w HX; simp only [Act.put, List.setIfInBounds_toArray, List.set_cons_zero, List.set_cons_succ, NodeS.cells] at HX ⊢) | (refine sx_alloc HX rfl (by (first | exact z_op | exact z_res | exact z_node | exact z_reply | exact z_req)) ?_; clear HX; intro w b HX; simp only [Act.put, List.setIfInBounds_toArray, List.set_cons_zero, List.set_cons_succ]) | (refine sx_boxS HX rfl rfl ?_; clear HX; intro w b HX; simp only [Act.put, List.setIfInBounds_toArray, List.set_cons_zero, List.set_cons_succ]) | (refine sx_box1 HX rfl rfl rfl ?_; clear HX; intro w b HX; simp only [Act.put, List.setIfInBounds_toArray, List.set_cons_zero, List.set_cons_succ]) | (refine sx_makeMap .string HX rfl ?_; clear HX; intro w mm HX; simp only [Act.put, List.setIfInBounds_toArray, List.set_cons_zero, List.set_cons_succ]))
      obtain ⟨hkey, hadd⟩ := copy_key HF.out.1 HND.out
      obtain ⟨w9, hrun9, h9⟩ := Sep.mapAdd (P := Tryd.prog) (key := sv g.key) (v := .pointer (some ⟨b, 0, none⟩)) HX.out.up7 Tryd.underlying43 Tryd.underlying9 trivial hkey
      have HAD := Lib.hid hadd
      have H9 := Lib.hid h9
      clear hkey hadd h9
      go_wp2_with (first | (refine sx_loadS HX rfl rfl (by (first | exact sn_op | exact sn_res | exact sn_stat | exact sn_node | exact sn_reply | exact sn_req)) (by (repeat (first | (with_reducible exact List.mem_cons_self ..) | (with_reducible apply List.mem_cons_of_mem)))) rfl ?_; simp only [Act.put, List.setIfInBounds_toArray, List.set_cons_zero, List.set_cons_succ, List.drop_zero, List.drop_succ_cons, List.take_succ_cons, List.take_zero, List.toList_toArray, NodeS.cells]) | (refine sx_load HX rfl rfl (by kernel_rfl) (by (repeat (first | (with_reducible exact List.mem_cons_self ..) | (with_reducible apply List.mem_cons_of_mem)))) rfl ?_; simp only [Act.put, List.setIfInBounds_toArray, List.set_cons_zero, List.set_cons_succ]) | (refine sx_storeS HX rfl rfl rfl (by kernel_rfl) (by (repeat (first | (with_reducible exact Rep.here) | (with_reducible apply Rep.there)))) rfl rfl ?_; clear HX; intro w HX; simp only [Act.put, List.setIfInBounds_toArray, List.set_cons_zero, List.set_cons_succ, setMany, Nat.reduceAdd, NodeS.cells] at HX ⊢) | (refine sx_store1 HX rfl rfl rfl rfl (by kernel_rfl) (by (repeat (first | (with_reducible exact Rep.here) | (with_reducible apply Rep.there)))) rfl rfl ?_; clear HX; intro w HX; simp only [Act.put, List.setIfInBounds_toArray, List.set_cons_zero, List.set_cons_succ, NodeS.cells] at HX ⊢) | (refine sx_alloc HX rfl (by (first | exact z_op | exact z_res | exact z_node | exact z_reply | exact z_req)) ?_; clear HX; intro w b HX; simp only [Act.put, List.setIfInBounds_toArray, List.set_cons_zero, List.set_cons_succ]) | (refine sx_boxS HX rfl rfl ?_; clear HX; intro w b HX; simp only [Act.put, List.setIfInBounds_toArray, List.set_cons_zero, List.set_cons_succ]) | (refine sx_box1 HX rfl rfl rfl ?_; clear HX; intro w b HX; simp only [Act.put, List.setIfInBounds_toArray, List.set_cons_zero, List.set_cons_succ]) | (refine sx_makeMap .string HX rfl ?_; clear HX; intro w mm HX; simp only [Act.put, List.setIfInBounds_toArray, List.set_cons_zero, List.set_cons_succ]))
      go_roundg (l1 ++ l2).length
      case rel =>
        obtain ⟨hpm, hP', hdn, hk, hin⟩ := HF.out
        have h1 := (H9.out.up2.up9.up1).poolRow
        have h2 := thl_add (f := NodeG.th) (g := ⟨b, g.key, g.n, .slice a2' n2 k2⟩) (h1.up8.up3)
        have h3 := thl_in (f := NodeG.th) (g := g) (h2.up3.up4.up1)
        rw [← HG.out] at h3
        refine ⟨l1 ++ l2, done ++ [⟨b, g.key, g.n, .slice a2' n2 k2⟩], (1, .slice a2' n2 k2, g.n.names.map sv) :: P', rfl, HAD.out _ rfl, fun x hx => hin x ?_, fun q hq => List.mem_cons_of_mem _ (hP' q hq), fun x hx => ?_, ?_⟩
        · rcases List.mem_append.1 hx with h | h <;> simp [h]
        · rcases List.mem_append.1 hx with h | h
          · exact List.mem_cons_of_mem _ (hdn x h)
          · rw [List.mem_singleton.1 h]; exact List.mem_cons_self ..
        · have e : (done ++ [(⟨b, g.key, g.n, .slice a2' n2 k2⟩ : NodeG)]).map NodeG.kv = done.map NodeG.kv ++ [(sv g.key, .pointer (some ⟨b, 0, none⟩))] := by simp [NodeG.kv]
          rw [e]
          exact h3.pm 7 [4, 0, 5, 6, 3, 1, 2] rfl rfl
      case measure =>
        obtain ⟨_, _, _, hk, _⟩ := HF.out
        simp at hk ⊢; omega
end
end Go.Proofs.YtjeaoopamebgjaaDoor
