/-
  A tree: store, delete; the walks of New, wrong, place.
-/
import Derived.Test.YtjeaoopamebgjaaDoorTreeA
namespace Go.Av
open Go.RowKit
def endT (S : TreeS) (p : Bs) : Int × Bs := if (lookT p S.l).isSome = true then (5, []) else if S.room ≤ S.l.length then (9, []) else (0, p)
/-- Where a create goes, what is wrong with it first. -/
def placeT (S : TreeS) (o : OpS) : Int × Bs := match parentP o.p with
  | none => endT S o.p
  | some up => match lookT up S.l with
    | none => (4, [])
    | some n => if n.owner ≠ 0 then (8, []) else if seqF o.flags = true then (match numberP o.p n.next with | none => (1, []) | some q => endT S q) else endT S o.p
theorem del_ent {l1 l2 : List NodeG} {g : NodeG} (hn : ((l1 ++ g :: l2).map NodeG.key).Nodup) : (l1 ++ l2).map NodeG.ent = delT g.key ((l1 ++ g :: l2).map NodeG.ent) := by
  have hne : ∀ x ∈ l1 ++ l2, x.key ≠ g.key := by
    simp only [List.map_append, List.map_cons, List.nodup_append, List.nodup_cons, List.mem_map, List.mem_cons] at hn
    obtain ⟨-, ⟨h2, -⟩, h3⟩ := hn
    intro x hx e
    rcases List.mem_append.1 hx with hx | hx
    · exact h3 _ ⟨x, hx, rfl⟩ _ (.inl rfl) e
    · exact h2 ⟨x, hx, e⟩
  have h1 : ∀ l : List NodeG, (∀ x ∈ l, x ∈ l1 ++ l2) → (l.map NodeG.ent).filter (fun e => decide (e.1 ≠ g.key)) = l.map NodeG.ent := fun l hl => List.filter_eq_self.2 fun e he => by
    obtain ⟨x, hx, rfl⟩ := List.mem_map.1 he
    exact decide_eq_true (hne x (hl x hx))
  unfold delT
  rw [List.map_append, List.map_append, List.map_cons, List.filter_append, List.filter_cons, h1 l1 (fun x hx => by simp [hx]), h1 l2 (fun x hx => by simp [hx]), if_neg (by simp [NodeG.ent])]
theorem delT_none {p : Bs} {l : NoL} (h : lookT p l = none) : delT p l = l := List.filter_eq_self.2 fun e he => by simpa using look_not.1 h e he
end Go.Av
namespace Go.Proofs.YtjeaoopamebgjaaDoor
open Go.RowKit Go.Av
section
variable {w0 w : World} {t : Nat} {S : TreeS} {P P' : List PRow} {R : List Thing} {rows : List (Value × Bs)}
/-- Another node at a path. -/
theorem tree_set {b : Nat} {n n0 : NodeS} {nv : Value} (h : Sep w0 w (ThCell b (.cells (n.cells nv) 51 (0, 0)) :: ThPool P :: ThTree t S P :: R) rows) (hnv : (1, nv, n.names.map sv) ∈ P) (s : ByteArray) (hl : lookT s.data.toList S.l = some n0) :
    ∃ m w', w.cell? ⟨t, 1, none⟩ = some (.map (some m)) ∧ (Instr.mapUpdate 43 (.map (some m)) (.string s) (.pointer (some ⟨b, 0, none⟩))).run Tryd.prog w = .ok () w' ∧ Sep w0 w' (ThPool P :: ThTree t { S with l := setT s.data.toList n S.l } P :: R) rows := by
  have h0 := h.pick 2 rfl rfl
  obtain ⟨L, ⟨m, gs, rfl, h1, h2, h3⟩, hS⟩ := h0.opens
  have hc := hS.block (b := t) (o := .cells #[.int .i64 S.room, .map (some m)] 45 (0, 0)) (by simp [trTh])
  have hm := (look_mem (rise_nodup h2)).1 hl
  obtain ⟨g, hg, he⟩ := List.mem_map.1 (h1.mem_iff.2 hm)
  obtain ⟨l1, l2, rfl⟩ := List.append_of_mem hg
  obtain ⟨hk1, hk2⟩ := Prod.mk.inj he
  have hnd := keys_nodup h1 h2
  have h4 := hS.perm (List.Perm.swap _ _ _)
  have hkv : (l1 ++ g :: l2).map NodeG.kv = l1.map NodeG.kv ++ (.string s, .pointer (some ⟨g.blk, 0, none⟩)) :: l2.map NodeG.kv := by
    rw [List.map_append, List.map_cons]
    unfold NodeG.kv
    rw [hk1]
    rfl
  rw [hkv] at h4
  obtain ⟨w', hrun, hM, hU⟩ := mp_old (P := Tryd.prog) (v := .pointer (some ⟨b, 0, none⟩)) h4.mapIs Tryd.underlying43 Tryd.underlying9 (show MapKept.IsKey .string (.string s) from trivial)
  have h5 := (h4.mapTo hU hM).perm (List.Perm.swap _ _ _)
  refine ⟨m, w', cell_of hc 1 rfl, hrun, ?_⟩
  refine (Sep.shut (O := TrO t { S with l := setT s.data.toList n S.l } P) (L := trTh t m S.room (l1 ++ ⟨b, s.data.toList, n, nv⟩ :: l2)) ⟨m, _, rfl, ?_, setT_rise h2, fun x hx => ?_⟩ ?_).perm (List.Perm.swap _ _ _)
  · rw [set_ent (g := g) (g' := ⟨b, s.data.toList, n, nv⟩) hk1.symm hnd, hk1]
    exact h1.map _
  · rcases List.mem_append.1 hx with hx | hx
    · exact h3 x (by simp [hx])
    · rcases List.mem_cons.1 hx with rfl | hx
      · exact hnv
      · exact h3 x (by simp [hx])
  · have hkv2 : (l1 ++ (⟨b, s.data.toList, n, nv⟩ : NodeG) :: l2).map NodeG.kv = l1.map NodeG.kv ++ (.string s, .pointer (some ⟨b, 0, none⟩)) :: l2.map NodeG.kv := by simp [NodeG.kv, sv_data]
    unfold trTh
    rw [hkv2]
    -- the old node is let go
    have h6 : Sep w0 w' (NodeG.th g :: ThCell t (.cells #[.int .i64 S.room, .map (some m)] 45 (0, 0)) :: ThMap .string m (l1.map NodeG.kv ++ (.string s, .pointer (some ⟨b, 0, none⟩)) :: l2.map NodeG.kv) :: ((l1 ++ l2).map NodeG.th ++ (ThCell b (.cells (n.cells nv) 51 (0, 0)) :: (ThPool P :: R)))) rows :=
      h5.perm (perm_out [_, _] l1 l2 g _)
    have h7 := h6.drop
    refine h7.perm (List.Perm.cons _ (List.Perm.cons _ ?_))
    show ((l1 ++ l2).map NodeG.th ++ (NodeG.th ⟨b, s.data.toList, n, nv⟩ :: (ThPool P :: R))).Perm ((l1 ++ (⟨b, s.data.toList, n, nv⟩ : NodeG) :: l2).map NodeG.th ++ (ThPool P :: R))
    have := perm_out [] l1 l2 ⟨b, s.data.toList, n, nv⟩ (ThPool P :: R)
    exact List.perm_middle.trans this.symm
theorem tree_del {n0 : NodeS} (h : Sep w0 w (ThPool P :: ThTree t S P :: R) rows) (s : ByteArray) (hl : lookT s.data.toList S.l = some n0) :
    ∃ m w', w.cell? ⟨t, 1, none⟩ = some (.map (some m)) ∧ (∀ ty, (Builtin.delete_ #[43, 9] ty #[.map (some m), .string s]).run Tryd.prog w = .ok (.tuple #[]) w') ∧ Sep w0 w' (ThPool P :: ThTree t { S with l := delT s.data.toList S.l } P :: R) rows := by
  have h0 := h.pick 1 rfl rfl
  obtain ⟨L, ⟨m, gs, rfl, h1, h2, h3⟩, hS⟩ := h0.opens
  have hc := hS.block (b := t) (o := .cells #[.int .i64 S.room, .map (some m)] 45 (0, 0)) (by simp [trTh])
  have hm := (look_mem (rise_nodup h2)).1 hl
  obtain ⟨g, hg, he⟩ := List.mem_map.1 (h1.mem_iff.2 hm)
  obtain ⟨l1, l2, rfl⟩ := List.append_of_mem hg
  obtain ⟨hk1, hk2⟩ := Prod.mk.inj he
  have hnd := keys_nodup h1 h2
  have h4 := hS.perm (List.Perm.swap _ _ _)
  have hkv : (l1 ++ g :: l2).map NodeG.kv = l1.map NodeG.kv ++ (.string s, .pointer (some ⟨g.blk, 0, none⟩)) :: l2.map NodeG.kv := by
    rw [List.map_append, List.map_cons]
    unfold NodeG.kv
    rw [hk1]
    rfl
  rw [hkv] at h4
  obtain ⟨w', hrun, hM, hU⟩ := mp_del (P := Tryd.prog) h4.mapIs Tryd.underlying43 Tryd.underlying9 (show MapKept.IsKey .string (.string s) from trivial) 9 0
  have h5 := (h4.mapTo hU hM).perm (List.Perm.swap _ _ _)
  refine ⟨m, w', cell_of hc 1 rfl, fun _ => hrun, ?_⟩
  refine (Sep.shut (O := TrO t { S with l := delT s.data.toList S.l } P) (L := trTh t m S.room (l1 ++ l2)) ⟨m, _, rfl, ?_, delT_rise h2, fun x hx => h3 x (by
    rcases List.mem_append.1 hx with hx | hx
    · simp [hx]
    · simp [hx])⟩ ?_).perm (List.Perm.swap _ _ _)
  · rw [del_ent hnd, hk1]
    exact h1.filter _
  · unfold trTh
    rw [List.map_append (f := NodeG.kv)]
    have h6 : Sep w0 w' (NodeG.th g :: ThCell t (.cells #[.int .i64 S.room, .map (some m)] 45 (0, 0)) :: ThMap .string m (l1.map NodeG.kv ++ l2.map NodeG.kv) :: ((l1 ++ l2).map NodeG.th ++ (ThPool P :: R))) rows :=
      h5.perm (perm_out [_, _] l1 l2 g _)
    exact h6.drop
theorem tree_delN (h : Sep w0 w (ThPool P :: ThTree t S P :: R) rows) (s : ByteArray) (hl : lookT s.data.toList S.l = none) :
    ∃ m w', w.cell? ⟨t, 1, none⟩ = some (.map (some m)) ∧ (∀ ty, (Builtin.delete_ #[43, 9] ty #[.map (some m), .string s]).run Tryd.prog w = .ok (.tuple #[]) w') ∧ Sep w0 w' (ThPool P :: ThTree t S P :: R) rows := by
  have h0 := h.pick 1 rfl rfl
  obtain ⟨L, ⟨m, gs, rfl, h1, h2, h3⟩, hS⟩ := h0.opens
  have hc := hS.block (b := t) (o := .cells #[.int .i64 S.room, .map (some m)] 45 (0, 0)) (by simp [trTh])
  have h4 := hS.perm (List.Perm.swap _ _ _)
  obtain ⟨w', hrun, hM, hU⟩ := mp_delN (P := Tryd.prog) h4.mapIs Tryd.underlying43 Tryd.underlying9 (show MapKept.IsKey .string (.string s) from trivial) (fun q hq e => by
    obtain ⟨g, hg, rfl⟩ := List.mem_map.1 hq
    exact look_not.1 hl g.ent (h1.mem_iff.1 (List.mem_map_of_mem hg)) (sv_inj (b := s.data.toList) e)) 9 0
  have h5 := (h4.mapTo hU hM).perm (List.Perm.swap _ _ _)
  exact ⟨m, w', cell_of hc 1 rfl, fun _ => hrun, (Sep.shut (O := TrO t S P) (L := trTh t m S.room gs) ⟨m, _, rfl, h1, h2, h3⟩ h5).perm (List.Perm.swap _ _ _)⟩
theorem tree_rise (h : Sep w0 w (ThTree t S P :: R) rows) : (S.l.map (·.1)).Nodup := by
  obtain ⟨L, ⟨m, gs, rfl, h1, h2, h3⟩, hS⟩ := h.opens
  exact rise_nodup h2
set_option maxRecDepth 100000 in
set_option maxHeartbeats 4000000 in
theorem place_any (h : Sep w0 w (ThTree t S P :: R) rows) (hd : DoorN w) (o : OpS) (hp : o.path.size ≤ 100000) (h0 : 0 ≤ o.flags) (h3 : o.flags ≤ 3) (hok : ∀ e ∈ S.l, NodeOk e.2) :
    Calls Tryd.prog 23 #[.pointer (some ⟨t, 0, none⟩), o.val] w fun e w' => e = .returned (.tuple #[sv (placeT S o).2, .int .i64 (placeT S o).1]) ∧ Upd w w' [] [] := by
  have hu0 := Upd.alloc0 w (.cells #[.int .i64 o.kind, .string o.path, .string o.data, .int .i64 o.ver, .int .i64 o.flags] 25) []
  have HPA := Lib.hid (parent_any o.path _ (hd.upd hu0).1 (by unfold maxLen; omega))
  have HA := Lib.hid (show ∀ w' : World, Upd (w.alloc (.cells #[.int .i64 o.kind, .string o.path, .string o.data, .int .i64 o.ver, .int .i64 o.flags] 25)) w' [] [] → OpAt w' w.heap.size o from fun w' hu => opAt_new w o hu)
  obtain ⟨rr, hrr⟩ : ∃ rr, placeT S o = rr := ⟨_, rfl⟩
  have HR := Lib.hid hrr
  unfold placeT at HR
  rw [hrr]
  have HU0 := Lib.hid hu0
  have HH := Lib.hid (show _ ∧ _ from ⟨h, hd⟩)
  obtain ⟨kind, path, data, ver, flags⟩ := o
  unfold OpS.val
  unfold OpS.p at HR
  unfold OpAt at HA
  dsimp only at HPA HA HR hp h0 h3 ⊢
  have hsb := seq_bit h0 h3
  have hsb2 : (bits .and .i64 flags 2 != 0) = seqF flags := by
    rw [show (bits .and .i64 flags 2 != 0) = !(bits .and .i64 flags 2 == 0) from rfl, hsb, Bool.not_not]
  clear hrr hu0 h hd hsb
  cases hpp : parentP path.data.toList with
  | none =>
    rw [hpp] at HR HPA
    have HR := Lib.hid (show endT S path.data.toList = rr from HR.out)
    clear hpp
    go_enter Tryd.func23, Tryd.ntmps23
    go_wp2_with fail
    refine HPA.out.mono ?_
    rintro e w1 ⟨rfl, hu1⟩
    obtain ⟨o0, o1, o2, o3, o4⟩ := HA.out _ hu1
    have HU := Lib.hid (HU0.out.trans hu1)
    obtain ⟨m, c0, c1, hnone, hsome, hlen⟩ := tree_facts (HH.out.1.keep (HU0.out.trans hu1))
    have HF := Lib.hid (show _ ∧ _ from ⟨hnone, hsome⟩)
    have HLN := Lib.hid hlen
    clear hu1 hnone hsome hlen HPA
    obtain ⟨lo, hlo⟩ : ∃ lo, lookT (path).data.toList S.l = lo := ⟨_, rfl⟩
    cases lo with
    | some n1 =>
      obtain ⟨x1, nv1, -, hb1, hk0⟩ := HF.out.2 path n1 hlo
      have hk1 := hk0 w1 rfl
      clear hk0
      have HE := Lib.hid (show rr = (5, []) by rw [← HR.out]; unfold endT; rw [if_pos (show (lookT (path).data.toList S.l).isSome = true by rw [hlo]; rfl)])
      clear hb1 hlo HR
      go_wp2_with fail
      go_ret2
      rw [HE.out]
      exact ⟨rfl, HU.out⟩
    | none =>
      have hk1 := HF.out.1 path hlo w1 rfl
      have HR2 := Lib.hid (show (if S.room ≤ S.l.length then (9, []) else (0, (path).data.toList)) = rr by rw [← HR.out]; unfold endT; rw [if_neg (show ¬ (lookT (path).data.toList S.l).isSome = true by rw [hlo]; decide)])
      clear hlo HR
      go_wp2_with fail
      by_cases hrm : S.room ≤ S.l.length
      case' pos =>
        have HE := Lib.hid (show rr = (9, []) by rw [← HR2.out, if_pos hrm])
        have q9 : decide (S.room ≤ ((S.l.length : Nat) : Int)) = true := decide_eq_true hrm
      case' neg =>
        have HE := Lib.hid (show rr = (0, (path).data.toList) by rw [← HR2.out, if_neg hrm])
        have q9 : decide (S.room ≤ ((S.l.length : Nat) : Int)) = false := decide_eq_false hrm
      all_goals
        clear hrm HR2
        refine wp_region_M (fun W => W.cell? ⟨t, 0, none⟩ = some (.int .i64 S.room) ∧ W.cell? ⟨t, 1, none⟩ = some (.map (some m))) 11 (by kernel_rfl) ?_
        refine wpAnyM_take (by kernel_rfl) (by intro c a d v w h; cases d <;> exact h) [(0, false), (1, false), (2, false), (3, true), (5, false), (6, false), (7, false), (8, true)] (fuel := 3) (by kernel_rfl) ?_
        apply Exists.intro; refine ⟨?_, ⟨c0, c1⟩, ?_⟩
        · iterate 8 ((first | (apply yieldN; (· (simp only [List.getElem?_toArray, List.getElem?_cons_succ, List.getElem?_cons_zero]; try rfl)); (· rfl)) | ((first | apply yieldP | apply yieldL); (· (simp only [List.getElem?_toArray, List.getElem?_cons_succ, List.getElem?_cons_zero]; try rfl)); (· rfl); (· (intros; go_simp; try with_reducible rfl)))); (· (simp only [Act.put, List.setIfInBounds_toArray, List.set_cons_zero, List.set_cons_succ]; try rfl)))
          exact rfl
        refine wpAnyM_one (fuel := 2) (i := 4) (by kernel_rfl) (by rfl) (fun K hK => ?_)
        have hln := HLN.out 3 w1.drew rfl
        go_wp2_with fail
        refine hK _ _ ⟨c0, c1⟩ ?_
        clear hK
        refine wpAnyM_take (by kernel_rfl) (by intro c a d v w h; cases d <;> exact h) [(9, false), (10, false)] (fuel := 0) (by kernel_rfl) ?_
        apply Exists.intro; refine ⟨?_, ⟨c0, c1⟩, ?_⟩
        · iterate 2 ((first | (apply yieldN; (· (simp only [List.getElem?_toArray, List.getElem?_cons_succ, List.getElem?_cons_zero]; try rfl)); (· rfl)) | ((first | apply yieldP | apply yieldL); (· (simp only [List.getElem?_toArray, List.getElem?_cons_succ, List.getElem?_cons_zero]; try rfl)); (· rfl); (· (intros; go_simp; try with_reducible rfl)))); (· (simp only [Act.put, List.setIfInBounds_toArray, List.set_cons_zero, List.set_cons_succ]; try rfl)))
          exact rfl
        refine wpAnyM_done (by kernel_rfl) ?_ _
        go_wp2_with fail
        go_ret2
        rw [HE.out]
        exact ⟨rfl, HU.out.drew⟩
  | some up =>
    rw [hpp] at HR HPA
    obtain ⟨us, hus⟩ : ∃ us : ByteArray, us = ⟨up.toArray⟩ := ⟨_, rfl⟩
    have hup : us.data.toList = up := by rw [hus]
    have HPA := Lib.hid (show Calls Tryd.prog _ _ _ (fun e w' => e = .returned (.tuple #[.string us, .bool true]) ∧ _) from by rw [hus]; exact HPA.out)
    have HUP := Lib.hid hup
    clear hpp hus hup
    go_enter Tryd.func23, Tryd.ntmps23
    go_wp2_with fail
    refine HPA.out.mono ?_
    rintro e w1 ⟨rfl, hu1⟩
    obtain ⟨o0, o1, o2, o3, o4⟩ := HA.out _ hu1
    have HU := Lib.hid (HU0.out.trans hu1)
    obtain ⟨m, c0, c1, hnone, hsome, hlen⟩ := tree_facts (HH.out.1.keep (HU0.out.trans hu1))
    have HF := Lib.hid (show _ ∧ _ from ⟨hnone, hsome⟩)
    have HLN := Lib.hid hlen
    clear hu1 hnone hsome hlen HPA
    cases hlu : lookT up S.l with
    | none =>
      have hk := HF.out.1 us (by rw [HUP.out]; exact hlu) w1 rfl
      have HE := Lib.hid (show rr = (4, []) by rw [← HR.out]; simp only [hlu])
      clear hlu HR
      go_wp2_with fail
      go_ret2
      rw [HE.out]
      exact ⟨rfl, HU.out⟩
    | some n =>
    obtain ⟨x, nv, -, hb, hk0⟩ := HF.out.2 us n (by rw [HUP.out]; exact hlu)
    have hk := hk0 w1 rfl
    have HEP := Lib.hid (ephemeral_any x n nv w1 hb)
    have n8 := cell_of hb 8 (v := .int .i64 n.next) rfl
    have HOK := Lib.hid (hok _ ((look_mem (tree_rise HH.out.1)).1 hlu))
    have HR2 := Lib.hid (show (if n.owner ≠ 0 then (8, []) else if seqF flags = true then (match numberP path.data.toList n.next with | none => (1, []) | some q => endT S q) else endT S path.data.toList) = rr by rw [← HR.out]; simp only [hlu])
    clear hlu HR hk0 hb
    go_wp2_with fail
    refine HEP.out.mono ?_
    rintro e w2 ⟨rfl, hw2⟩
    subst hw2
    clear HEP
    by_cases how : n.owner = 0
    case neg =>
      have HE := Lib.hid (show rr = (8, []) by rw [← HR2.out, if_pos how])
      have q1 : (n.owner != 0) = true := by rw [bne_iff_ne]; exact how
      clear how HR2
      go_wp2_with fail
      go_ret2
      rw [HE.out]
      exact ⟨rfl, HU.out⟩
    case pos =>
    have q1 : (n.owner != 0) = false := by rw [how]; rfl
    have HR3 := Lib.hid (show (if seqF flags = true then (match numberP path.data.toList n.next with | none => (1, []) | some q => endT S q) else endT S path.data.toList) = rr by have := HR2.out; rw [if_neg (by rw [how]; simp)] at this; exact this)
    clear how HR2
    cases hsq : seqF flags with
    | false =>
      rw [hsq] at hsb2
      have HR := Lib.hid (show endT S path.data.toList = rr by have := HR3.out; rw [hsq] at this; exact this)
      clear hsq HR3
      obtain ⟨lo, hlo⟩ : ∃ lo, lookT (path).data.toList S.l = lo := ⟨_, rfl⟩
      cases lo with
      | some n1 =>
        obtain ⟨x1, nv1, -, hb1, hk0⟩ := HF.out.2 path n1 hlo
        have hk1 := hk0 w2 rfl
        clear hk0
        have HE := Lib.hid (show rr = (5, []) by rw [← HR.out]; unfold endT; rw [if_pos (show (lookT (path).data.toList S.l).isSome = true by rw [hlo]; rfl)])
        clear hb1 hlo HR
        go_wp2_with fail
        go_ret2
        rw [HE.out]
        exact ⟨rfl, HU.out⟩
      | none =>
        have hk1 := HF.out.1 path hlo w2 rfl
        have HR2 := Lib.hid (show (if S.room ≤ S.l.length then (9, []) else (0, (path).data.toList)) = rr by rw [← HR.out]; unfold endT; rw [if_neg (show ¬ (lookT (path).data.toList S.l).isSome = true by rw [hlo]; decide)])
        clear hlo HR
        go_wp2_with fail
        by_cases hrm : S.room ≤ S.l.length
        case' pos =>
          have HE := Lib.hid (show rr = (9, []) by rw [← HR2.out, if_pos hrm])
          have q9 : decide (S.room ≤ ((S.l.length : Nat) : Int)) = true := decide_eq_true hrm
        case' neg =>
          have HE := Lib.hid (show rr = (0, (path).data.toList) by rw [← HR2.out, if_neg hrm])
          have q9 : decide (S.room ≤ ((S.l.length : Nat) : Int)) = false := decide_eq_false hrm
        all_goals
          clear hrm HR2
          refine wp_region_M (fun W => W.cell? ⟨t, 0, none⟩ = some (.int .i64 S.room) ∧ W.cell? ⟨t, 1, none⟩ = some (.map (some m))) 11 (by kernel_rfl) ?_
          refine wpAnyM_take (by kernel_rfl) (by intro c a d v w h; cases d <;> exact h) [(0, false), (1, false), (2, false), (3, true), (5, false), (6, false), (7, false), (8, true)] (fuel := 3) (by kernel_rfl) ?_
          apply Exists.intro; refine ⟨?_, ⟨c0, c1⟩, ?_⟩
          · iterate 8 ((first | (apply yieldN; (· (simp only [List.getElem?_toArray, List.getElem?_cons_succ, List.getElem?_cons_zero]; try rfl)); (· rfl)) | ((first | apply yieldP | apply yieldL); (· (simp only [List.getElem?_toArray, List.getElem?_cons_succ, List.getElem?_cons_zero]; try rfl)); (· rfl); (· (intros; go_simp; try with_reducible rfl)))); (· (simp only [Act.put, List.setIfInBounds_toArray, List.set_cons_zero, List.set_cons_succ]; try rfl)))
            exact rfl
          refine wpAnyM_one (fuel := 2) (i := 4) (by kernel_rfl) (by rfl) (fun K hK => ?_)
          have hln := HLN.out 3 w2.drew rfl
          go_wp2_with fail
          refine hK _ _ ⟨c0, c1⟩ ?_
          clear hK
          refine wpAnyM_take (by kernel_rfl) (by intro c a d v w h; cases d <;> exact h) [(9, false), (10, false)] (fuel := 0) (by kernel_rfl) ?_
          apply Exists.intro; refine ⟨?_, ⟨c0, c1⟩, ?_⟩
          · iterate 2 ((first | (apply yieldN; (· (simp only [List.getElem?_toArray, List.getElem?_cons_succ, List.getElem?_cons_zero]; try rfl)); (· rfl)) | ((first | apply yieldP | apply yieldL); (· (simp only [List.getElem?_toArray, List.getElem?_cons_succ, List.getElem?_cons_zero]; try rfl)); (· rfl); (· (intros; go_simp; try with_reducible rfl)))); (· (simp only [Act.put, List.setIfInBounds_toArray, List.set_cons_zero, List.set_cons_succ]; try rfl)))
            exact rfl
          refine wpAnyM_done (by kernel_rfl) ?_ _
          go_wp2_with fail
          go_ret2
          rw [HE.out]
          exact ⟨rfl, HU.out.drew⟩
    | true =>
    rw [hsq] at hsb2
    have HR4 := Lib.hid (show (match numberP path.data.toList n.next with | none => (1, []) | some q => endT S q) = rr by have := HR3.out; rw [hsq] at this; exact this)
    have hnn := HOK.out.next
    have HNU := Lib.hid (number_any path n.next w2 (HH.out.2.upd HU.out) hp (by omega) (by omega))
    clear hsq HR3 hnn
    cases hnb : numberP path.data.toList n.next with
    | none =>
      have HE := Lib.hid (show rr = (1, []) by rw [← HR4.out, hnb])
      rw [hnb] at HNU
      have HNU := Lib.hid (show Calls Tryd.prog _ _ _ (fun e w' => e = .returned (.tuple #[.string ⟨#[]⟩, .int .i64 1]) ∧ _) from HNU.out)
      clear hnb HR4
      go_wp2_with fail
      refine HNU.out.mono ?_
      rintro e w3 ⟨rfl, hu2⟩
      have HU2 := Lib.hid (HU.out.trans hu2)
      clear hu2
      go_wp2_with fail
      go_ret2
      rw [HE.out]
      exact ⟨rfl, HU2.out⟩
    | some q =>
      obtain ⟨qs, hqs⟩ : ∃ qs : ByteArray, qs = ⟨q.toArray⟩ := ⟨_, rfl⟩
      have HR := Lib.hid (show endT S qs.data.toList = rr by rw [← HR4.out, hnb, hqs])
      rw [hnb] at HNU
      have HNU := Lib.hid (show Calls Tryd.prog _ _ _ (fun e w' => e = .returned (.tuple #[.string qs, .int .i64 0]) ∧ _) from by rw [hqs]; exact HNU.out)
      clear hnb HR4 hqs
      go_wp2_with fail
      refine HNU.out.mono ?_
      rintro e w3 ⟨rfl, hu2⟩
      have HU := Lib.hid (HU.out.trans hu2)
      obtain ⟨m2, d0, d1, hnone, hsome, hlen⟩ := tree_facts (HH.out.1.keep HU.out)
      obtain rfl : m = m2 := by
        have := (upd_cell hu2 c1).symm.trans d1
        injection this with this
        injection this with this
        injection this with this
      have HF := Lib.hid (show _ ∧ _ from ⟨hnone, hsome⟩)
      have HLN := Lib.hid hlen
      have c0 := d0
      have c1 := d1
      clear hu2 hnone hsome hlen d0 d1 HNU
      obtain ⟨lo, hlo⟩ : ∃ lo, lookT (qs).data.toList S.l = lo := ⟨_, rfl⟩
      cases lo with
      | some n1 =>
        obtain ⟨x1, nv1, -, hb1, hk0⟩ := HF.out.2 qs n1 hlo
        have hk1 := hk0 w3 rfl
        clear hk0
        have HE := Lib.hid (show rr = (5, []) by rw [← HR.out]; unfold endT; rw [if_pos (show (lookT (qs).data.toList S.l).isSome = true by rw [hlo]; rfl)])
        clear hb1 hlo HR
        go_wp2_with fail
        go_ret2
        rw [HE.out]
        exact ⟨rfl, HU.out⟩
      | none =>
        have hk1 := HF.out.1 qs hlo w3 rfl
        have HR2 := Lib.hid (show (if S.room ≤ S.l.length then (9, []) else (0, (qs).data.toList)) = rr by rw [← HR.out]; unfold endT; rw [if_neg (show ¬ (lookT (qs).data.toList S.l).isSome = true by rw [hlo]; decide)])
        clear hlo HR
        go_wp2_with fail
        by_cases hrm : S.room ≤ S.l.length
        case' pos =>
          have HE := Lib.hid (show rr = (9, []) by rw [← HR2.out, if_pos hrm])
          have q9 : decide (S.room ≤ ((S.l.length : Nat) : Int)) = true := decide_eq_true hrm
        case' neg =>
          have HE := Lib.hid (show rr = (0, (qs).data.toList) by rw [← HR2.out, if_neg hrm])
          have q9 : decide (S.room ≤ ((S.l.length : Nat) : Int)) = false := decide_eq_false hrm
        all_goals
          clear hrm HR2
          refine wp_region_M (fun W => W.cell? ⟨t, 0, none⟩ = some (.int .i64 S.room) ∧ W.cell? ⟨t, 1, none⟩ = some (.map (some m))) 11 (by kernel_rfl) ?_
          refine wpAnyM_take (by kernel_rfl) (by intro c a d v w h; cases d <;> exact h) [(0, false), (1, false), (2, false), (3, true), (5, false), (6, false), (7, false), (8, true)] (fuel := 3) (by kernel_rfl) ?_
          apply Exists.intro; refine ⟨?_, ⟨c0, c1⟩, ?_⟩
          · iterate 8 ((first | (apply yieldN; (· (simp only [List.getElem?_toArray, List.getElem?_cons_succ, List.getElem?_cons_zero]; try rfl)); (· rfl)) | ((first | apply yieldP | apply yieldL); (· (simp only [List.getElem?_toArray, List.getElem?_cons_succ, List.getElem?_cons_zero]; try rfl)); (· rfl); (· (intros; go_simp; try with_reducible rfl)))); (· (simp only [Act.put, List.setIfInBounds_toArray, List.set_cons_zero, List.set_cons_succ]; try rfl)))
            exact rfl
          refine wpAnyM_one (fuel := 2) (i := 4) (by kernel_rfl) (by rfl) (fun K hK => ?_)
          have hln := HLN.out 3 w3.drew rfl
          go_wp2_with fail
          refine hK _ _ ⟨c0, c1⟩ ?_
          clear hK
          refine wpAnyM_take (by kernel_rfl) (by intro c a d v w h; cases d <;> exact h) [(9, false), (10, false)] (fuel := 0) (by kernel_rfl) ?_
          apply Exists.intro; refine ⟨?_, ⟨c0, c1⟩, ?_⟩
          · iterate 2 ((first | (apply yieldN; (· (simp only [List.getElem?_toArray, List.getElem?_cons_succ, List.getElem?_cons_zero]; try rfl)); (· rfl)) | ((first | apply yieldP | apply yieldL); (· (simp only [List.getElem?_toArray, List.getElem?_cons_succ, List.getElem?_cons_zero]; try rfl)); (· rfl); (· (intros; go_simp; try with_reducible rfl)))); (· (simp only [Act.put, List.setIfInBounds_toArray, List.set_cons_zero, List.set_cons_succ]; try rfl)))
            exact rfl
          refine wpAnyM_done (by kernel_rfl) ?_ _
          go_wp2_with fail
          go_ret2
          rw [HE.out]
          exact ⟨rfl, HU.out.drew⟩
end
end Go.Proofs.YtjeaoopamebgjaaDoor
