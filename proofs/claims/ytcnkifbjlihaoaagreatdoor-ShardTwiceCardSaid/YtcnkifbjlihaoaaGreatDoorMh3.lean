/-
  Texts of this claim, laid together.
-/
import Derived.Test.YtcnkifbjlihaoaaGreatDoorMh2
import Derived.Deep.DeepCutAuto
import Derived.Lib.ItoaWalk
set_option linter.unusedVariables false
set_option linter.unusedSimpArgs false

namespace Go.Av
open Go.RowKit
def endT (S : TreeS) (p : Bs) : Int × Bs := if (yal' p S.l).isSome = true then (5, []) else if S.room ≤ S.l.length then (9, []) else (0, p)
def ya4' (S : TreeS) (o : OpS) : Int × Bs := match yat' o.p with
 | none => endT S o.p
 | some up => match yal' up S.l with
  | none => (4, [])
  | some n => if n.owner ≠ 0 then (8, []) else if seqF o.flags = true then (match yb0' o.p n.next with | none => (1, []) | some q => endT S q) else endT S o.p
theorem yys' {l1 l2 : List NodeG} {g : NodeG} (hn : ((l1 ++ g :: l2).map NodeG.key).Nodup) : (l1 ++ l2).map NodeG.ent = delT g.key ((l1 ++ g :: l2).map NodeG.ent) := by
 have hne : ∀ x ∈ l1 ++ l2, x.key ≠ g.key := by
  simp only [List.map_append, List.map_cons, List.nodup_append, List.nodup_cons, List.mem_map, List.mem_cons] at hn
  obtain ⟨-, ⟨h2, -⟩, h3⟩ := hn
  intro x hx e
  rcases List.mem_append.1 hx with hx | hx
  ·exact h3 _ ⟨x, hx, rfl⟩ _ (.inl rfl) e
  ·exact h2 ⟨x, hx, e⟩
 have h1 : ∀ l : List NodeG, (∀ x ∈ l, x ∈ l1 ++ l2) → (l.map NodeG.ent).filter (fun e => decide (e.1 ≠ g.key)) = l.map NodeG.ent := fun l hl => List.filter_eq_self.2 fun e he => by
  obtain ⟨x, hx, rfl⟩ := List.mem_map.1 he
  exact decide_eq_true (hne x (hl x hx))
 unfold delT
 rw [List.map_append, List.map_append, List.map_cons, List.filter_append, List.filter_cons, h1 l1 (fun x hx => by simp [hx]), h1 l2 (fun x hx => by simp [hx]), if_neg (by simp [NodeG.ent])]
theorem yl7' {p : Bs} {l : NoL} (h : yal' p l = none) : delT p l = l := List.filter_eq_self.2 fun e he => by simpa using ydn'.1 h e he
end Go.Av
namespace Go.Proofs.YtcnkifbjlihaoaaGreatDoor
open Go.RowKit Go.Av
section
variable {w0 w : World} {t : Nat} {S : TreeS} {P P' : List PRow} {R : List Thing} {rows : List (Value × Bs)}
theorem yw4' {b : Nat} {n n0 : NodeS} {nv : Value} (h : Sep w0 w (yac' b (.cells (n.cells nv) 172 (0, 0)) :: yab' w0 P :: yaj' t S P :: R) rows) (hnv : (1, nv, n.names.map sv) ∈ P) (s : ByteArray) (hl : yal' s.data.toList S.l = some n0) :
  ∃ m w', w.cell? ⟨t, 1, none⟩ = some (.map (some m)) ∧ (Instr.mapUpdate 210 (.map (some m)) (.string s) (.pointer (some ⟨b, 0, none⟩))).run Tryz.prog w = .ok () w' ∧ Sep w0 w' (yab' w0 P :: yaj' t { S with l := setT s.data.toList n S.l } P :: R) rows := by
 have h0 := h.pick 2 rfl rfl
 obtain ⟨L, ⟨m, gs, rfl, h1, h2, h3⟩, hS⟩ := h0.opens
 have hc := hS.block (b := t) (o := .cells #[.int .i64 S.room, .map (some m)] 213 (0, 0)) (by simp [trTh])
 have hm := (ybm' (ybh' h2)).1 hl
 obtain ⟨g, hg, he⟩ := List.mem_map.1 (h1.mem_iff.2 hm)
 obtain ⟨l1, l2, rfl⟩ := List.append_of_mem hg
 obtain ⟨hk1, hk2⟩ := Prod.mk.inj he
 have hnd := yej' h1 h2
 have h4 := hS.perm (List.Perm.swap _ _ _)
 have hkv : (l1 ++ g :: l2).map NodeG.kv = l1.map NodeG.kv ++ (.string s, .pointer (some ⟨g.blk, 0, none⟩)) :: l2.map NodeG.kv := by
  rw [List.map_append, List.map_cons]
  unfold NodeG.kv
  rw [hk1]
  rfl
 rw [hkv] at h4
 obtain ⟨w', hrun, hM, hU⟩ := yxr' (P := Tryz.prog) (v := .pointer (some ⟨b, 0, none⟩)) h4.mapIs Tryz.underlying210 Tryz.underlying9 (show MapKept.IsKey .string (.string s) from trivial)
 have h5 := (h4.mapTo hU hM).perm (List.Perm.swap _ _ _)
 refine ⟨m, w', yaa' hc 1 rfl, hrun, ?_⟩
 refine (Sep.shut (O := TrO t { S with l := setT s.data.toList n S.l } P) (L := trTh t m S.room (l1 ++ ⟨b, s.data.toList, n, nv⟩ :: l2)) ⟨m, _, rfl, ?_, yg1' h2, fun x hx => ?_⟩ ?_).perm (List.Perm.swap _ _ _)
 ·rw [yor' (g := g) (g' := ⟨b, s.data.toList, n, nv⟩) hk1.symm hnd, hk1]
  exact h1.map _
 ·rcases List.mem_append.1 hx with hx | hx
  ·exact h3 x (by simp [hx])
  ·rcases List.mem_cons.1 hx with rfl | hx
   ·exact hnv
   ·exact h3 x (by simp [hx])
 ·have hkv2 : (l1 ++ (⟨b, s.data.toList, n, nv⟩ : NodeG) :: l2).map NodeG.kv = l1.map NodeG.kv ++ (.string s, .pointer (some ⟨b, 0, none⟩)) :: l2.map NodeG.kv := by simp [NodeG.kv, yt8']
  unfold trTh
  rw [hkv2]
  -- the old node is let go
  have h6 : Sep w0 w' (NodeG.th g :: yac' t (.cells #[.int .i64 S.room, .map (some m)] 213 (0, 0)) :: yam' .string m (l1.map NodeG.kv ++ (.string s, .pointer (some ⟨b, 0, none⟩)) :: l2.map NodeG.kv) :: ((l1 ++ l2).map NodeG.th ++ (yac' b (.cells (n.cells nv) 172 (0, 0)) :: (yab' w0 P :: R)))) rows :=
   h5.perm (ygt' [_, _] l1 l2 g _)
  have h7 := h6.drop
  refine h7.perm (List.Perm.cons _ (List.Perm.cons _ ?_))
  show ((l1 ++ l2).map NodeG.th ++ (NodeG.th ⟨b, s.data.toList, n, nv⟩ :: (yab' w0 P :: R))).Perm ((l1 ++ (⟨b, s.data.toList, n, nv⟩ : NodeG) :: l2).map NodeG.th ++ (yab' w0 P :: R))
  have := ygt' [] l1 l2 ⟨b, s.data.toList, n, nv⟩ (yab' w0 P :: R)
  exact List.perm_middle.trans this.symm
theorem yw0' {n0 : NodeS} (h : Sep w0 w (yab' w0 P :: yaj' t S P :: R) rows) (s : ByteArray) (hl : yal' s.data.toList S.l = some n0) :
  ∃ m w', w.cell? ⟨t, 1, none⟩ = some (.map (some m)) ∧ (∀ ty, (Builtin.delete_ #[210, 9] ty #[.map (some m), .string s]).run Tryz.prog w = .ok (.tuple #[]) w') ∧ Sep w0 w' (yab' w0 P :: yaj' t { S with l := delT s.data.toList S.l } P :: R) rows := by
 have h0 := h.pick 1 rfl rfl
 obtain ⟨L, ⟨m, gs, rfl, h1, h2, h3⟩, hS⟩ := h0.opens
 have hc := hS.block (b := t) (o := .cells #[.int .i64 S.room, .map (some m)] 213 (0, 0)) (by simp [trTh])
 have hm := (ybm' (ybh' h2)).1 hl
 obtain ⟨g, hg, he⟩ := List.mem_map.1 (h1.mem_iff.2 hm)
 obtain ⟨l1, l2, rfl⟩ := List.append_of_mem hg
 obtain ⟨hk1, hk2⟩ := Prod.mk.inj he
 have hnd := yej' h1 h2
 have h4 := hS.perm (List.Perm.swap _ _ _)
 have hkv : (l1 ++ g :: l2).map NodeG.kv = l1.map NodeG.kv ++ (.string s, .pointer (some ⟨g.blk, 0, none⟩)) :: l2.map NodeG.kv := by
  rw [List.map_append, List.map_cons]
  unfold NodeG.kv
  rw [hk1]
  rfl
 rw [hkv] at h4
 obtain ⟨w', hrun, hM, hU⟩ := yxq' (P := Tryz.prog) h4.mapIs Tryz.underlying210 Tryz.underlying9 (show MapKept.IsKey .string (.string s) from trivial) 9 0
 have h5 := (h4.mapTo hU hM).perm (List.Perm.swap _ _ _)
 refine ⟨m, w', yaa' hc 1 rfl, fun _ => hrun, ?_⟩
 refine (Sep.shut (O := TrO t { S with l := delT s.data.toList S.l } P) (L := trTh t m S.room (l1 ++ l2)) ⟨m, _, rfl, ?_, yl8' h2, fun x hx => h3 x (by
  rcases List.mem_append.1 hx with hx | hx
  ·simp [hx]
  ·simp [hx])⟩ ?_).perm (List.Perm.swap _ _ _)
 ·rw [yys' hnd, hk1]
  exact h1.filter _
 ·unfold trTh
  rw [List.map_append (f := NodeG.kv)]
  have h6 : Sep w0 w' (NodeG.th g :: yac' t (.cells #[.int .i64 S.room, .map (some m)] 213 (0, 0)) :: yam' .string m (l1.map NodeG.kv ++ l2.map NodeG.kv) :: ((l1 ++ l2).map NodeG.th ++ (yab' w0 P :: R))) rows :=
   h5.perm (ygt' [_, _] l1 l2 g _)
  exact h6.drop
theorem yuj' (h : Sep w0 w (yab' w0 P :: yaj' t S P :: R) rows) (s : ByteArray) (hl : yal' s.data.toList S.l = none) :
  ∃ m w', w.cell? ⟨t, 1, none⟩ = some (.map (some m)) ∧ (∀ ty, (Builtin.delete_ #[210, 9] ty #[.map (some m), .string s]).run Tryz.prog w = .ok (.tuple #[]) w') ∧ Sep w0 w' (yab' w0 P :: yaj' t S P :: R) rows := by
 have h0 := h.pick 1 rfl rfl
 obtain ⟨L, ⟨m, gs, rfl, h1, h2, h3⟩, hS⟩ := h0.opens
 have hc := hS.block (b := t) (o := .cells #[.int .i64 S.room, .map (some m)] 213 (0, 0)) (by simp [trTh])
 have h4 := hS.perm (List.Perm.swap _ _ _)
 obtain ⟨w', hrun, hM, hU⟩ := yy9' (P := Tryz.prog) h4.mapIs Tryz.underlying210 Tryz.underlying9 (show MapKept.IsKey .string (.string s) from trivial) (fun q hq e => by
  obtain ⟨g, hg, rfl⟩ := List.mem_map.1 hq
  exact ydn'.1 hl g.ent (h1.mem_iff.1 (List.mem_map_of_mem hg)) (yg6' (b := s.data.toList) e)) 9 0
 have h5 := (h4.mapTo hU hM).perm (List.Perm.swap _ _ _)
 exact ⟨m, w', yaa' hc 1 rfl, fun _ => hrun, (Sep.shut (O := TrO t S P) (L := trTh t m S.room gs) ⟨m, _, rfl, h1, h2, h3⟩ h5).perm (List.Perm.swap _ _ _)⟩
theorem yc8' (h : Sep w0 w (yaj' t S P :: R) rows) : (S.l.map (·.1)).Nodup := by
 obtain ⟨L, ⟨m, gs, rfl, h1, h2, h3⟩, hS⟩ := h.opens
 exact ybh' h2
set_option maxRecDepth 100000 in
set_option maxHeartbeats 4000000 in
theorem yte' (h : Sep w0 w (yaj' t S P :: R) rows) (hd : DoorN w) (o : OpS) (hp : o.path.size ≤ 100000) (h0 : 0 ≤ o.flags) (h3 : o.flags ≤ 3) (hok : ∀ e ∈ S.l, NodeOk e.2) :
  Calls Tryz.prog 260 #[.pointer (some ⟨t, 0, none⟩), o.val] w fun e w' => e = .returned (.tuple #[sv (ya4' S o).2, .int .i64 (ya4' S o).1]) ∧ Upd w w' [] [] := by
 have hu0 := Upd.alloc0 w (.cells #[.int .i64 o.kind, .string o.path, .string o.data, .int .i64 o.ver, .int .i64 o.flags] 89) []
 have HPA := Lib.hid (ydo' o.path _ (hd.upd hu0).1 (by unfold maxLen; omega))
 have HA := Lib.hid (show ∀ w' : World, Upd (w.alloc (.cells #[.int .i64 o.kind, .string o.path, .string o.data, .int .i64 o.ver, .int .i64 o.flags] 89)) w' [] [] → OpAt w' w.heap.size o from fun w' hu => yim' w o hu)
 obtain ⟨rr, hrr⟩ : ∃ rr, ya4' S o = rr := ⟨_, rfl⟩
 have HR := Lib.hid hrr
 unfold ya4' at HR
 rw [hrr]
 have HU0 := Lib.hid hu0
 have HH := Lib.hid (show _ ∧ _ from ⟨h, hd⟩)
 obtain ⟨kind, path, data, ver, flags⟩ := o
 unfold OpS.val
 unfold OpS.p at HR
 unfold OpAt at HA
 dsimp only at HPA HA HR hp h0 h3 ⊢
 have hsb := ytz' h0 h3
 have hsb2 : (bits .and .i64 flags 2 != 0) = seqF flags := by
  rw [show (bits .and .i64 flags 2 != 0) = !(bits .and .i64 flags 2 == 0) from rfl, hsb, Bool.not_not]
 clear hrr hu0 h hd hsb
 cases hpp : yat' path.data.toList with
 | none =>
  rw [hpp] at HR HPA
  have HR := Lib.hid (show endT S path.data.toList = rr from HR.out)
  clear hpp
  go_enter Tryz.func260, Tryz.ntmps260
  go_wp2_with fail
  refine HPA.out.mono ?_
  rintro e w1 ⟨rfl, hu1⟩
  obtain ⟨o0, o1, o2, o3, o4⟩ := HA.out _ hu1
  have HU := Lib.hid (HU0.out.trans hu1)
  obtain ⟨m, c0, c1, hnone, hsome, hlen⟩ := ycy' (HH.out.1.keep (HU0.out.trans hu1))
  have HF := Lib.hid (show _ ∧ _ from ⟨hnone, hsome⟩)
  have HLN := Lib.hid hlen
  clear hu1 hnone hsome hlen HPA
  obtain ⟨lo, hlo⟩ : ∃ lo, yal' (path).data.toList S.l = lo := ⟨_, rfl⟩
  cases lo with
  | some n1 =>
   obtain ⟨x1, nv1, -, hb1, hk0⟩ := HF.out.2 path n1 hlo
   have hk1 := hk0 w1 rfl
   clear hk0
   have HE := Lib.hid (show rr = (5, []) by rw [← HR.out]; unfold endT; rw [if_pos (show (yal' (path).data.toList S.l).isSome = true by rw [hlo]; rfl)])
   clear hb1 hlo HR
   go_wp2_with fail
   go_ret2
   rw [HE.out]
   exact ⟨rfl, HU.out⟩
  | none =>
   have hk1 := HF.out.1 path hlo w1 rfl
   have HR2 := Lib.hid (show (if S.room ≤ S.l.length then (9, []) else (0, (path).data.toList)) = rr by rw [← HR.out]; unfold endT; rw [if_neg (show ¬ (yal' (path).data.toList S.l).isSome = true by rw [hlo]; decide)])
   clear hlo HR
   go_wp2_with fail
   by_cases hrm : S.room ≤ S.l.length
   case' pos =>
    have HE := Lib.hid (show rr = (9, []) by rw [← HR2.out, if_pos hrm])
    have q9 : decide (S.room ≤ ((S.l.length : Nat) : Int)) = true := decide_eq_true hrm
   case' neg =>
    have HE := Lib.hid (show rr = (0, (path).data.toList) by rw [← HR2.out, if_neg hrm])
    have q9 : decide (S.room ≤ ((S.l.length : Nat) : Int)) = false := decide_eq_false hrm
   all_goals
    clear hrm HR2
    refine yao' (fun W => W.cell? ⟨t, 0, none⟩ = some (.int .i64 S.room) ∧ W.cell? ⟨t, 1, none⟩ = some (.map (some m))) 11 (by kernel_rfl) ?_
    refine rT [(0, false), (1, false), (2, false), (3, true), (5, false), (6, false), (7, false), (8, true)] 3 ?_
    apply Exists.intro; refine ⟨?_, ⟨c0, c1⟩, ?_⟩
    ·iterate 8 ((first | (apply yca'; (· (simp only [k_i, k_j, k_k]; try rfl)); (· rfl)) | ((first | apply yax' | apply yas'); (· (simp only [k_i, k_j, k_k]; try rfl)); (· rfl); (· (intros; go_simp; try with_reducible rfl)))); (· (simp only [Act.put, k_a, k_b, k_c]; try rfl)))
     exact rfl
    refine ya0' (fuel := 2) (i := 4) (by kernel_rfl) (by rfl) (fun K hK => ?_)
    have hln := HLN.out 3 w1.drew rfl
    go_wp2_with fail
    refine hK _ _ ⟨c0, c1⟩ ?_
    clear hK
    refine rT [(9, false), (10, false)] 0 ?_
    apply Exists.intro; refine ⟨?_, ⟨c0, c1⟩, ?_⟩
    ·iterate 2 ((first | (apply yca'; (· (simp only [k_i, k_j, k_k]; try rfl)); (· rfl)) | ((first | apply yax' | apply yas'); (· (simp only [k_i, k_j, k_k]; try rfl)); (· rfl); (· (intros; go_simp; try with_reducible rfl)))); (· (simp only [Act.put, k_a, k_b, k_c]; try rfl)))
     exact rfl
    refine yag' (by kernel_rfl) ?_ _
    go_wp2_with fail
    go_ret2
    rw [HE.out]
    exact ⟨rfl, HU.out.drew⟩
 | some up =>
  rw [hpp] at HR HPA
  obtain ⟨us, hus⟩ : ∃ us : ByteArray, us = ⟨up.toArray⟩ := ⟨_, rfl⟩
  have hup : us.data.toList = up := by rw [hus]
  have HPA := Lib.hid (show Calls Tryz.prog _ _ _ (fun e w' => e = .returned (.tuple #[.string us, .bool true]) ∧ _) from by rw [hus]; exact HPA.out)
  have HUP := Lib.hid hup
  clear hpp hus hup
  go_enter Tryz.func260, Tryz.ntmps260
  go_wp2_with fail
  refine HPA.out.mono ?_
  rintro e w1 ⟨rfl, hu1⟩
  obtain ⟨o0, o1, o2, o3, o4⟩ := HA.out _ hu1
  have HU := Lib.hid (HU0.out.trans hu1)
  obtain ⟨m, c0, c1, hnone, hsome, hlen⟩ := ycy' (HH.out.1.keep (HU0.out.trans hu1))
  have HF := Lib.hid (show _ ∧ _ from ⟨hnone, hsome⟩)
  have HLN := Lib.hid hlen
  clear hu1 hnone hsome hlen HPA
  cases hlu : yal' up S.l with
  | none =>
   have hk := HF.out.1 us (by rw [HUP.out]; exact hlu) w1 rfl
   have HE := Lib.hid (show rr = (4, []) by rw [← HR.out]; simp only [hlu])
   clear hlu HR
   go_wp2_with fail
   go_ret2
   rw [HE.out]
   exact ⟨rfl, HU.out⟩
  | some n =>
  obtain ⟨x, nv, -, hb, hk0⟩ := HF.out.2 us n (by rw [HUP.out]; exact hlu)
  have hk := hk0 w1 rfl
  have HEP := Lib.hid (yk5' x n nv w1 hb)
  have n8 := yaa' hb 8 (v := .int .i64 n.next) rfl
  have HOK := Lib.hid (hok _ ((ybm' (yc8' HH.out.1)).1 hlu))
  have HR2 := Lib.hid (show (if n.owner ≠ 0 then (8, []) else if seqF flags = true then (match yb0' path.data.toList n.next with | none => (1, []) | some q => endT S q) else endT S path.data.toList) = rr by rw [← HR.out]; simp only [hlu])
  clear hlu HR hk0 hb
  go_wp2_with fail
  refine HEP.out.mono ?_
  rintro e w2 ⟨rfl, hw2⟩
  subst hw2
  clear HEP
  by_cases how : n.owner = 0
  case neg =>
   have HE := Lib.hid (show rr = (8, []) by rw [← HR2.out, if_pos how])
   have q1 : (n.owner != 0) = true := by rw [bne_iff_ne]; exact how
   clear how HR2
   go_wp2_with fail
   go_ret2
   rw [HE.out]
   exact ⟨rfl, HU.out⟩
  case pos =>
  have q1 : (n.owner != 0) = false := by rw [how]; rfl
  have HR3 := Lib.hid (show (if seqF flags = true then (match yb0' path.data.toList n.next with | none => (1, []) | some q => endT S q) else endT S path.data.toList) = rr by have := HR2.out; rw [if_neg (by rw [how]; simp)] at this; exact this)
  clear how HR2
  cases hsq : seqF flags with
  | false =>
   rw [hsq] at hsb2
   have HR := Lib.hid (show endT S path.data.toList = rr by have := HR3.out; rw [hsq] at this; exact this)
   clear hsq HR3
   obtain ⟨lo, hlo⟩ : ∃ lo, yal' (path).data.toList S.l = lo := ⟨_, rfl⟩
   cases lo with
   | some n1 =>
    obtain ⟨x1, nv1, -, hb1, hk0⟩ := HF.out.2 path n1 hlo
    have hk1 := hk0 w2 rfl
    clear hk0
    have HE := Lib.hid (show rr = (5, []) by rw [← HR.out]; unfold endT; rw [if_pos (show (yal' (path).data.toList S.l).isSome = true by rw [hlo]; rfl)])
    clear hb1 hlo HR
    go_wp2_with fail
    go_ret2
    rw [HE.out]
    exact ⟨rfl, HU.out⟩
   | none =>
    have hk1 := HF.out.1 path hlo w2 rfl
    have HR2 := Lib.hid (show (if S.room ≤ S.l.length then (9, []) else (0, (path).data.toList)) = rr by rw [← HR.out]; unfold endT; rw [if_neg (show ¬ (yal' (path).data.toList S.l).isSome = true by rw [hlo]; decide)])
    clear hlo HR
    go_wp2_with fail
    by_cases hrm : S.room ≤ S.l.length
    case' pos =>
     have HE := Lib.hid (show rr = (9, []) by rw [← HR2.out, if_pos hrm])
     have q9 : decide (S.room ≤ ((S.l.length : Nat) : Int)) = true := decide_eq_true hrm
    case' neg =>
     have HE := Lib.hid (show rr = (0, (path).data.toList) by rw [← HR2.out, if_neg hrm])
     have q9 : decide (S.room ≤ ((S.l.length : Nat) : Int)) = false := decide_eq_false hrm
    all_goals
     clear hrm HR2
     refine yao' (fun W => W.cell? ⟨t, 0, none⟩ = some (.int .i64 S.room) ∧ W.cell? ⟨t, 1, none⟩ = some (.map (some m))) 11 (by kernel_rfl) ?_
     refine rT [(0, false), (1, false), (2, false), (3, true), (5, false), (6, false), (7, false), (8, true)] 3 ?_
     apply Exists.intro; refine ⟨?_, ⟨c0, c1⟩, ?_⟩
     ·iterate 8 ((first | (apply yca'; (· (simp only [k_i, k_j, k_k]; try rfl)); (· rfl)) | ((first | apply yax' | apply yas'); (· (simp only [k_i, k_j, k_k]; try rfl)); (· rfl); (· (intros; go_simp; try with_reducible rfl)))); (· (simp only [Act.put, k_a, k_b, k_c]; try rfl)))
      exact rfl
     refine ya0' (fuel := 2) (i := 4) (by kernel_rfl) (by rfl) (fun K hK => ?_)
     have hln := HLN.out 3 w2.drew rfl
     go_wp2_with fail
     refine hK _ _ ⟨c0, c1⟩ ?_
     clear hK
     refine rT [(9, false), (10, false)] 0 ?_
     apply Exists.intro; refine ⟨?_, ⟨c0, c1⟩, ?_⟩
     ·iterate 2 ((first | (apply yca'; (· (simp only [k_i, k_j, k_k]; try rfl)); (· rfl)) | ((first | apply yax' | apply yas'); (· (simp only [k_i, k_j, k_k]; try rfl)); (· rfl); (· (intros; go_simp; try with_reducible rfl)))); (· (simp only [Act.put, k_a, k_b, k_c]; try rfl)))
      exact rfl
     refine yag' (by kernel_rfl) ?_ _
     go_wp2_with fail
     go_ret2
     rw [HE.out]
     exact ⟨rfl, HU.out.drew⟩
  | true =>
  rw [hsq] at hsb2
  have HR4 := Lib.hid (show (match yb0' path.data.toList n.next with | none => (1, []) | some q => endT S q) = rr by have := HR3.out; rw [hsq] at this; exact this)
  have hnn := HOK.out.next
  have HNU := Lib.hid (yj7' path n.next w2 (HH.out.2.upd HU.out) hp (by omega) (by omega))
  clear hsq HR3 hnn
  cases hnb : yb0' path.data.toList n.next with
  | none =>
   have HE := Lib.hid (show rr = (1, []) by rw [← HR4.out, hnb])
   rw [hnb] at HNU
   have HNU := Lib.hid (show Calls Tryz.prog _ _ _ (fun e w' => e = .returned (.tuple #[.string ⟨#[]⟩, .int .i64 1]) ∧ _) from HNU.out)
   clear hnb HR4
   go_wp2_with fail
   refine HNU.out.mono ?_
   rintro e w3 ⟨rfl, hu2⟩
   have HU2 := Lib.hid (HU.out.trans hu2)
   clear hu2
   go_wp2_with fail
   go_ret2
   rw [HE.out]
   exact ⟨rfl, HU2.out⟩
  | some q =>
   obtain ⟨qs, hqs⟩ : ∃ qs : ByteArray, qs = ⟨q.toArray⟩ := ⟨_, rfl⟩
   have HR := Lib.hid (show endT S qs.data.toList = rr by rw [← HR4.out, hnb, hqs])
   rw [hnb] at HNU
   have HNU := Lib.hid (show Calls Tryz.prog _ _ _ (fun e w' => e = .returned (.tuple #[.string qs, .int .i64 0]) ∧ _) from by rw [hqs]; exact HNU.out)
   clear hnb HR4 hqs
   go_wp2_with fail
   refine HNU.out.mono ?_
   rintro e w3 ⟨rfl, hu2⟩
   have HU := Lib.hid (HU.out.trans hu2)
   obtain ⟨m2, d0, d1, hnone, hsome, hlen⟩ := ycy' (HH.out.1.keep HU.out)
   obtain rfl : m = m2 := by
    have := (yaw' hu2 c1).symm.trans d1
    injection this with this
    injection this with this
    injection this with this
   have HF := Lib.hid (show _ ∧ _ from ⟨hnone, hsome⟩)
   have HLN := Lib.hid hlen
   have c0 := d0
   have c1 := d1
   clear hu2 hnone hsome hlen d0 d1 HNU
   obtain ⟨lo, hlo⟩ : ∃ lo, yal' (qs).data.toList S.l = lo := ⟨_, rfl⟩
   cases lo with
   | some n1 =>
    obtain ⟨x1, nv1, -, hb1, hk0⟩ := HF.out.2 qs n1 hlo
    have hk1 := hk0 w3 rfl
    clear hk0
    have HE := Lib.hid (show rr = (5, []) by rw [← HR.out]; unfold endT; rw [if_pos (show (yal' (qs).data.toList S.l).isSome = true by rw [hlo]; rfl)])
    clear hb1 hlo HR
    go_wp2_with fail
    go_ret2
    rw [HE.out]
    exact ⟨rfl, HU.out⟩
   | none =>
    have hk1 := HF.out.1 qs hlo w3 rfl
    have HR2 := Lib.hid (show (if S.room ≤ S.l.length then (9, []) else (0, (qs).data.toList)) = rr by rw [← HR.out]; unfold endT; rw [if_neg (show ¬ (yal' (qs).data.toList S.l).isSome = true by rw [hlo]; decide)])
    clear hlo HR
    go_wp2_with fail
    by_cases hrm : S.room ≤ S.l.length
    case' pos =>
     have HE := Lib.hid (show rr = (9, []) by rw [← HR2.out, if_pos hrm])
     have q9 : decide (S.room ≤ ((S.l.length : Nat) : Int)) = true := decide_eq_true hrm
    case' neg =>
     have HE := Lib.hid (show rr = (0, (qs).data.toList) by rw [← HR2.out, if_neg hrm])
     have q9 : decide (S.room ≤ ((S.l.length : Nat) : Int)) = false := decide_eq_false hrm
    all_goals
     clear hrm HR2
     refine yao' (fun W => W.cell? ⟨t, 0, none⟩ = some (.int .i64 S.room) ∧ W.cell? ⟨t, 1, none⟩ = some (.map (some m))) 11 (by kernel_rfl) ?_
     refine rT [(0, false), (1, false), (2, false), (3, true), (5, false), (6, false), (7, false), (8, true)] 3 ?_
     apply Exists.intro; refine ⟨?_, ⟨c0, c1⟩, ?_⟩
     ·iterate 8 ((first | (apply yca'; (· (simp only [k_i, k_j, k_k]; try rfl)); (· rfl)) | ((first | apply yax' | apply yas'); (· (simp only [k_i, k_j, k_k]; try rfl)); (· rfl); (· (intros; go_simp; try with_reducible rfl)))); (· (simp only [Act.put, k_a, k_b, k_c]; try rfl)))
      exact rfl
     refine ya0' (fuel := 2) (i := 4) (by kernel_rfl) (by rfl) (fun K hK => ?_)
     have hln := HLN.out 3 w3.drew rfl
     go_wp2_with fail
     refine hK _ _ ⟨c0, c1⟩ ?_
     clear hK
     refine rT [(9, false), (10, false)] 0 ?_
     apply Exists.intro; refine ⟨?_, ⟨c0, c1⟩, ?_⟩
     ·iterate 2 ((first | (apply yca'; (· (simp only [k_i, k_j, k_k]; try rfl)); (· rfl)) | ((first | apply yax' | apply yas'); (· (simp only [k_i, k_j, k_k]; try rfl)); (· rfl); (· (intros; go_simp; try with_reducible rfl)))); (· (simp only [Act.put, k_a, k_b, k_c]; try rfl)))
      exact rfl
     refine yag' (by kernel_rfl) ?_ _
     go_wp2_with fail
     go_ret2
     rw [HE.out]
     exact ⟨rfl, HU.out.drew⟩
end
end Go.Proofs.YtcnkifbjlihaoaaGreatDoor

namespace Go.Av
open Go.RowKit
def atUp (p : Bs) (f : NodeS → NodeS) (l : NoL) : NoL := match yat' p with
 | none => l
 | some up => match yal' up l with
  | none => l
  | some m => setT up (f m) l
def layT (p : Bs) (n : NodeS) (l : NoL) : NoL := atUp p (fun m => addS m (ye8' p)) (insT p n l)
def remT (p : Bs) (l : NoL) : NoL := atUp p (fun m => remS m (ye8' p)) (delT p l)
end Go.Av
namespace Go.Proofs.YtcnkifbjlihaoaaGreatDoor
open Go.RowKit Go.Av
def yo5' (w0 : World) (t : Nat) (S : TreeS) (P : List PRow) (R : List Thing) (rows : List (Value × Bs)) (v : Value) (e : Ending) (w' : World) : Prop :=
 e = .returned v ∧ ∃ P', (∀ r ∈ P, r ∈ P') ∧ Sep w0 w' (yab' w0 P' :: yaj' t S P' :: R) rows
section
variable {w0 w : World} {t : Nat} {S : TreeS} {P P' : List PRow} {R : List Thing} {rows : List (Value × Bs)}
theorem yg7' (h : Sep w0 w (yab' w0 P :: yaj' t S P :: R) rows) : ∃ m, w.cell? ⟨t, 1, none⟩ = some (.map (some m)) ∧ ∀ s : ByteArray, yal' s.data.toList S.l = none → ∀ W : World, W.heap = w.heap → (Instr.lookup 210 (.map (some m)) (.string s) false).run Tryz.prog W = .ok (.pointer none) W := by
 obtain ⟨m, -, h1, h2, -, -⟩ := ycy' (h.perm (List.Perm.swap _ _ _))
 exact ⟨m, h1, h2⟩
set_option maxRecDepth 100000 in
set_option maxHeartbeats 4000000 in
theorem ysq' (h : Sep w0 w (yab' w0 P :: yaj' t S P :: R) rows) (hd : DoorN w0) (s : ByteArray) (hs : s.size ≤ 100000) (n : NodeS) (nv : Value) (hnv : (1, nv, n.names.map sv) ∈ P) (hl : yal' s.data.toList S.l = none) (hok : ∀ e ∈ insT s.data.toList n S.l, NodeOk e.2) :
  Calls Tryz.prog 262 #[.pointer (some ⟨t, 0, none⟩), .string s, n.val nv] w (yo5' w0 t { S with l := layT s.data.toList n S.l } P R rows (.tuple #[])) := by
 have h1 := h.newCell (.cells (n.cells nv) 172 (0, 0))
 obtain ⟨m, w2, hc1, hrun, h2⟩ := yw1' h1 hnv s hl
 obtain ⟨m', hc2, hno⟩ := yg7' h2
 have HL := Lib.hid (show layT s.data.toList n S.l = atUp s.data.toList (fun m => addS m (ye8' s.data.toList)) (insT s.data.toList n S.l) from rfl)
 obtain ⟨L, hL⟩ : ∃ L, insT s.data.toList n S.l = L := ⟨_, rfl⟩
 rw [hL] at h2 hno hok HL
 have HPA := Lib.hid (ydo' s w2 (hd.sep h2).1 (by unfold maxLen; omega))
 have HNA := Lib.hid (fun w hd => ymr' s w hd (by unfold maxLen; omega))
 have H2 := Lib.hid h2
 have HNO := Lib.hid hno
 have HD := Lib.hid hd
 unfold atUp at HL
 obtain ⟨S', hS'⟩ : ∃ S', ({ S with l := layT s.data.toList n S.l } : TreeS) = S' := ⟨_, rfl⟩
 have HS' := Lib.hid hS'
 rw [hS']
 obtain ⟨made, changed, ver, kids, owner, dat, next, names⟩ := n
 unfold NodeS.val NodeS.cells
 unfold NodeS.cells at hc1 hrun
 dsimp only at hc1 hrun ⊢
 clear h h1 hnv hl h2 hno hd hL hS'
 cases hpp : yat' s.data.toList with
 | none =>
  rw [hpp] at HL HPA
  have HE := Lib.hid (show S' = { S with l := L } by rw [← HS'.out, HL.out])
  clear hpp HL HS'
  go_enter Tryz.func262, Tryz.ntmps262
  go_wp2_with fail
  refine HPA.out.mono ?_
  rintro e w3 ⟨rfl, hu3⟩
  have H3 := Lib.hid (H2.out.keep hu3)
  clear hu3
  go_wp2_with fail
  go_end0
  rw [HE.out]
  exact ⟨rfl, P, fun _ h => h, H3.out⟩
 | some up =>
  rw [hpp] at HL HPA
  obtain ⟨us, hus⟩ : ∃ us : ByteArray, us = ⟨up.toArray⟩ := ⟨_, rfl⟩
  have hup : us.data.toList = up := by rw [hus]
  have HPA := Lib.hid (show Calls Tryz.prog _ _ _ (fun e w' => e = .returned (.tuple #[.string us, .bool true]) ∧ _) from by rw [hus]; exact HPA.out)
  have HUP := Lib.hid hup
  have HL := Lib.hid (show _ = (match yal' up L with | none => L | some m => setT up _ L) from HL.out)
  clear hpp hus hup
  go_enter Tryz.func262, Tryz.ntmps262
  go_wp2_with fail
  refine HPA.out.mono ?_
  rintro e w3 ⟨rfl, hu3⟩
  have H3 := Lib.hid (H2.out.keep hu3)
  clear hu3 HPA
  cases hlu : yal' up L with
  | none =>
   have HE := Lib.hid (show S' = { S with l := L } by rw [← HS'.out, HL.out]; simp only [hlu])
   obtain ⟨m3, hm3, hno3⟩ := yg7' H3.out
   have hk := hno3 us (by rw [HUP.out]; exact hlu) w3 rfl
   clear hlu HL HS' hno3
   go_wp2_with fail
   go_end0
   rw [HE.out]
   exact ⟨rfl, P, fun _ h => h, H3.out⟩
  | some k =>
   have HE := Lib.hid (show S' = { S with l := setT up (addS k (ye8' s.data.toList)) L } by rw [← HS'.out, HL.out]; simp only [hlu])
   obtain ⟨x, kv, X, m3, hkv, hSx, ⟨hm3, hlk⟩, back⟩ := ykt' H3.out hlu
   have HOK := Lib.hid (hok _ ((ybm' (yc8' (H3.out.perm (List.Perm.swap _ _ _)))).1 hlu))
   have hk := hlk w3 _ (Upd.refl w3 []) us HUP.out
   have hk' := hlk w3.drew _ (Upd.refl w3 []).drew us HUP.out
   have HB := Lib.hid (show _ ∧ _ ∧ _ from ⟨hkv, hlk, back⟩)
   have HX := Lib.hid hSx.drew
   have HNA2 := Lib.hid (HNA.out w3.drew ((HD.out.sep H3.out).upd ((Upd.refl w3 []).drew)).1)
   clear hlu HL HS' hkv hlk back hSx
   go_wp2_with fail
   refine yao' (fun W => W.cell? ⟨t, 1, none⟩ = some (.map (some m3)) ∧ (Instr.lookup 210 (.map (some m3)) (.string us) false).run Tryz.prog W = .ok (.pointer (some ⟨x, 0, none⟩)) W) 9 (by kernel_rfl) ?_
   refine rT [(0, false), (1, false), (2, false), (3, true), (4, false), (5, true), (6, false)] 2 ?_
   apply Exists.intro; refine ⟨?_, ⟨hm3, hk'⟩, ?_⟩
   ·iterate 7 ((first | (apply yca'; (· (simp only [k_i, k_j, k_k]; try rfl)); (· rfl)) | ((first | apply yax' | apply yas'); (· (simp only [k_i, k_j, k_k]; try rfl)); (· rfl); (· (intros; go_simp; try with_reducible rfl)))); (· (simp only [Act.put, k_a, k_b, k_c]; try rfl)))
    exact rfl
   refine ya0' (fuel := 1) (i := 7) (by kernel_rfl) (by rfl) (fun K hK => ?_)
   go_wp2_with fail
   refine HNA2.out.mono ?_
   rintro e w4 ⟨rfl, hu4⟩
   have HX4 := Lib.hid (HX.out.keep hu4)
   have hm4 := yaw' hu4 hm3
   have hk4 := HB.out.2.1 w4 _ ((Upd.refl w3 []).drew.trans hu4) us HUP.out
   clear hm3 hk hk' hu4 HNA2 HX
   go_wp2_with fail
   refine hK _ _ ⟨hm4, hk4⟩ ?_
   clear hK
   refine ya0' (fuel := 0) (i := 8) (by kernel_rfl) (by rfl) (fun K hK => ?_)
   go_wp2_with fail
   refine (yyh' HX4.out ⟨(ye8' s.data.toList).toArray⟩ HOK.out HB.out.1).mono ?_
   rintro e w5 ⟨rfl, nv5, P5, hP5, hnv5, hS5⟩
   obtain ⟨h5, hm5, hlk5⟩ := HB.out.2.2 w5 _ nv5 P5 hP5 hnv5 hS5
   have H5 := Lib.hid h5
   have HP5 := Lib.hid hP5
   have hk5 := hlk5 w5 _ (Upd.refl w5 []) us HUP.out
   clear hS5 hnv5 hP5 h5 hlk5 hm4 hk4
   go_wp2_with fail
   refine hK _ _ ⟨hm5, hk5⟩ ?_
   clear hK
   refine yag' (by kernel_rfl) ?_ _
   go_wp2_with fail
   go_end0
   rw [HE.out]
   exact ⟨rfl, P5, HP5.out, H5.out⟩
theorem yui' (h : Sep w0 w (yab' w0 P :: yaj' t S P :: R) rows) (s : ByteArray) :
  ∃ m w', w.cell? ⟨t, 1, none⟩ = some (.map (some m)) ∧ (∀ ty, (Builtin.delete_ #[210, 9] ty #[.map (some m), .string s]).run Tryz.prog w = .ok (.tuple #[]) w') ∧ Sep w0 w' (yab' w0 P :: yaj' t { S with l := delT s.data.toList S.l } P :: R) rows := by
 cases hl : yal' s.data.toList S.l with
 | some n0 => exact yw0' h s hl
 | none =>
  rw [yl7' hl]
  exact yuj' h s hl
set_option maxRecDepth 100000 in
set_option maxHeartbeats 4000000 in
theorem yf3' (h : Sep w0 w (yab' w0 P :: yaj' t S P :: R) rows) (hd : DoorN w0) (s : ByteArray) (hs : s.size ≤ 100000) (hok : ∀ e ∈ S.l, NodeOk e.2) :
  Calls Tryz.prog 157 #[.pointer (some ⟨t, 0, none⟩), .string s] w (yo5' w0 t { S with l := remT s.data.toList S.l } P R rows (.tuple #[])) := by
 obtain ⟨m, w2, hc1, hrun, h2⟩ := yui' h s
 obtain ⟨m', hc2, hno⟩ := yg7' h2
 have HL := Lib.hid (show remT s.data.toList S.l = atUp s.data.toList (fun m => remS m (ye8' s.data.toList)) (delT s.data.toList S.l) from rfl)
 have hok : ∀ e ∈ delT s.data.toList S.l, NodeOk e.2 := fun e he => hok e (by unfold delT at he; exact (List.mem_filter.1 he).1)
 obtain ⟨L, hL⟩ : ∃ L, delT s.data.toList S.l = L := ⟨_, rfl⟩
 rw [hL] at h2 hno hok HL
 have HPA := Lib.hid (ydo' s w2 (hd.sep h2).1 (by unfold maxLen; omega))
 have HNA := Lib.hid (fun w hd => ymr' s w hd (by unfold maxLen; omega))
 have H2 := Lib.hid h2
 have HNO := Lib.hid hno
 have HD := Lib.hid hd
 unfold atUp at HL
 obtain ⟨S', hS'⟩ : ∃ S', ({ S with l := remT s.data.toList S.l } : TreeS) = S' := ⟨_, rfl⟩
 have HS' := Lib.hid hS'
 rw [hS']
 clear h h2 hno hd hL hS'
 cases hpp : yat' s.data.toList with
 | none =>
  rw [hpp] at HL HPA
  have HE := Lib.hid (show S' = { S with l := L } by rw [← HS'.out, HL.out])
  clear hpp HL HS'
  go_enter Tryz.func157, Tryz.ntmps157
  go_wp2_with fail
  refine HPA.out.mono ?_
  rintro e w3 ⟨rfl, hu3⟩
  have H3 := Lib.hid (H2.out.keep hu3)
  clear hu3
  go_wp2_with fail
  go_end0
  rw [HE.out]
  exact ⟨rfl, P, fun _ h => h, H3.out⟩
 | some up =>
  rw [hpp] at HL HPA
  obtain ⟨us, hus⟩ : ∃ us : ByteArray, us = ⟨up.toArray⟩ := ⟨_, rfl⟩
  have hup : us.data.toList = up := by rw [hus]
  have HPA := Lib.hid (show Calls Tryz.prog _ _ _ (fun e w' => e = .returned (.tuple #[.string us, .bool true]) ∧ _) from by rw [hus]; exact HPA.out)
  have HUP := Lib.hid hup
  have HL := Lib.hid (show _ = (match yal' up L with | none => L | some m => setT up _ L) from HL.out)
  clear hpp hus hup
  go_enter Tryz.func157, Tryz.ntmps157
  go_wp2_with fail
  refine HPA.out.mono ?_
  rintro e w3 ⟨rfl, hu3⟩
  have H3 := Lib.hid (H2.out.keep hu3)
  clear hu3 HPA
  cases hlu : yal' up L with
  | none =>
   have HE := Lib.hid (show S' = { S with l := L } by rw [← HS'.out, HL.out]; simp only [hlu])
   obtain ⟨m3, hm3, hno3⟩ := yg7' H3.out
   have hk := hno3 us (by rw [HUP.out]; exact hlu) w3 rfl
   clear hlu HL HS' hno3
   go_wp2_with fail
   go_end0
   rw [HE.out]
   exact ⟨rfl, P, fun _ h => h, H3.out⟩
  | some k =>
   have HE := Lib.hid (show S' = { S with l := setT up (remS k (ye8' s.data.toList)) L } by rw [← HS'.out, HL.out]; simp only [hlu])
   obtain ⟨x, kv, X, m3, hkv, hSx, ⟨hm3, hlk⟩, back⟩ := ykt' H3.out hlu
   have HOK := Lib.hid (hok _ ((ybm' (yc8' (H3.out.perm (List.Perm.swap _ _ _)))).1 hlu))
   have hk := hlk w3 _ (Upd.refl w3 []) us HUP.out
   have hk' := hlk w3.drew _ (Upd.refl w3 []).drew us HUP.out
   have HB := Lib.hid (show _ ∧ _ ∧ _ from ⟨hkv, hlk, back⟩)
   have HX := Lib.hid hSx.drew
   have HNA2 := Lib.hid (HNA.out w3.drew ((HD.out.sep H3.out).upd ((Upd.refl w3 []).drew)).1)
   clear hlu HL HS' hkv hlk back hSx
   go_wp2_with fail
   refine yao' (fun W => W.cell? ⟨t, 1, none⟩ = some (.map (some m3)) ∧ (Instr.lookup 210 (.map (some m3)) (.string us) false).run Tryz.prog W = .ok (.pointer (some ⟨x, 0, none⟩)) W) 9 (by kernel_rfl) ?_
   refine rT [(0, false), (1, false), (2, false), (3, true), (4, false), (5, true), (6, false)] 2 ?_
   apply Exists.intro; refine ⟨?_, ⟨hm3, hk'⟩, ?_⟩
   ·iterate 7 ((first | (apply yca'; (· (simp only [k_i, k_j, k_k]; try rfl)); (· rfl)) | ((first | apply yax' | apply yas'); (· (simp only [k_i, k_j, k_k]; try rfl)); (· rfl); (· (intros; go_simp; try with_reducible rfl)))); (· (simp only [Act.put, k_a, k_b, k_c]; try rfl)))
    exact rfl
   refine ya0' (fuel := 1) (i := 7) (by kernel_rfl) (by rfl) (fun K hK => ?_)
   go_wp2_with fail
   refine HNA2.out.mono ?_
   rintro e w4 ⟨rfl, hu4⟩
   have HX4 := Lib.hid (HX.out.keep hu4)
   have hm4 := yaw' hu4 hm3
   have hk4 := HB.out.2.1 w4 _ ((Upd.refl w3 []).drew.trans hu4) us HUP.out
   clear hm3 hk hk' hu4 HNA2 HX
   go_wp2_with fail
   refine hK _ _ ⟨hm4, hk4⟩ ?_
   clear hK
   refine ya0' (fuel := 0) (i := 8) (by kernel_rfl) (by rfl) (fun K hK => ?_)
   go_wp2_with fail
   refine (yq6' HX4.out ⟨(ye8' s.data.toList).toArray⟩ HOK.out HB.out.1).mono ?_
   rintro e w5 ⟨rfl, nv5, P5, hP5, hnv5, hS5⟩
   obtain ⟨h5, hm5, hlk5⟩ := HB.out.2.2 w5 _ nv5 P5 hP5 hnv5 hS5
   have H5 := Lib.hid h5
   have HP5 := Lib.hid hP5
   have hk5 := hlk5 w5 _ (Upd.refl w5 []) us HUP.out
   clear hS5 hnv5 hP5 h5 hlk5 hm4 hk4
   go_wp2_with fail
   refine hK _ _ ⟨hm5, hk5⟩ ?_
   clear hK
   refine yag' (by kernel_rfl) ?_ _
   go_wp2_with fail
   go_end0
   rw [HE.out]
   exact ⟨rfl, P5, HP5.out, H5.out⟩
end
end Go.Proofs.YtcnkifbjlihaoaaGreatDoor

namespace Go.Av
open Go.RowKit
structure StatS where
 made : Int
 changed : Int
 ver : Int
 kids : Int
 owner : Int
 len : Int
 cnt : Int
def NodeS.st (n : NodeS) : StatS := ⟨n.made, n.changed, n.ver, n.kids, n.owner, (n.data.size : Nat), (n.names.length : Nat)⟩
def noSt : StatS := ⟨0, 0, 0, 0, 0, 0, 0⟩
structure ResS where
 err : Int
 path : ByteArray
 data : ByteArray
 names : List Bs
 st : StatS
def ResS.cells (r : ResS) (nv : Value) : Array Value := #[.int .i64 r.err, .string r.path, .string r.data, nv, .int .i64 r.st.made, .int .i64 r.st.changed, .int .i64 r.st.ver, .int .i64 r.st.kids, .int .i64 r.st.owner, .int .i64 r.st.len, .int .i64 r.st.cnt]
def yb3' (e : Int) : ResS := ⟨e, ⟨#[]⟩, ⟨#[]⟩, [], noSt⟩
def ephF (f : Int) : Bool := f == 1 || f == 3
def yn1' (o : OpS) (sess zxid : Int) : NodeS := newS zxid (if ephF o.flags then sess else 0) o.data
def yb1' (S : TreeS) (o : OpS) (sess zxid : Int) : ResS × TreeS :=
 if (ya4' S o).1 ≠ 0 then (yb3' (ya4' S o).1, S) else
  (⟨0, ⟨(ya4' S o).2.toArray⟩, ⟨#[]⟩, [], (yn1' o sess zxid).st⟩, { S with l := layT (ya4' S o).2 (yn1' o sess zxid) S.l })
def yf4' (o : OpS) (n : NodeS) : Bool := o.ver != -1 && o.ver != n.ver
theorem yyv' {f : Int} (h0 : 0 ≤ f) (h3 : f ≤ 3) : (bits .and .i64 f 1 != 0) = ephF f := by
 rcases (show f = 0 ∨ f = 1 ∨ f = 2 ∨ f = 3 by omega) with rfl | rfl | rfl | rfl <;> decide
theorem ykb' {S : TreeS} {o : OpS} (h : (ya4' S o).1 = 0) : yal' (ya4' S o).2 S.l = none ∧ (ya4' S o).2.length ≤ max 200 o.path.size := by
 have hend : ∀ p, (endT S p).1 = 0 → endT S p = (0, p) ∧ yal' p S.l = none := fun p h => by
  unfold endT at h ⊢
  split at h
  ·cases h
  ·rename_i h1
   split at h
   ·cases h
   ·rename_i h2
    rw [if_neg h1, if_neg h2]
    refine ⟨rfl, ?_⟩
    cases hl : yal' p S.l with
    | none => rfl
    | some _ => rw [hl] at h1; exact absurd rfl h1
 have hsz : o.p.length = o.path.size := by unfold OpS.p; simp
 unfold ya4' at h ⊢
 cases hup : yat' o.p with
 | none =>
  simp only [hup] at h ⊢
  obtain ⟨e1, e2⟩ := hend _ h
  rw [e1]
  exact ⟨e2, by show o.p.length ≤ _; omega⟩
 | some up =>
  simp only [hup] at h ⊢
  cases hn : yal' up S.l with
  | none => simp only [hn] at h; exact absurd h (by decide)
  | some n =>
   simp only [hn] at h ⊢
   by_cases how : n.owner ≠ 0
   ·rw [if_pos how] at h; exact absurd h (by decide)
   rw [if_neg how] at h ⊢
   by_cases hsq : seqF o.flags = true
   ·rw [if_pos hsq] at h ⊢
    cases hq : yb0' o.p n.next with
    | none => simp only [hq] at h; exact absurd h (by decide)
    | some q =>
     simp only [hq] at h ⊢
     obtain ⟨e1, e2⟩ := hend _ h
     rw [e1]
     exact ⟨e2, by have := yqy' hq; show q.length ≤ _; omega⟩
   ·rw [if_neg hsq] at h ⊢
    obtain ⟨e1, e2⟩ := hend _ h
    rw [e1]
    exact ⟨e2, by show o.p.length ≤ _; omega⟩
end Go.Av
namespace Go.Proofs.YtcnkifbjlihaoaaGreatDoor
open Go.RowKit Go.Av
set_option maxRecDepth 100000 in
theorem yd4' (x : Int) (w : World) : Calls Tryz.prog 213 #[.int .i64 x] w fun e w' => e = .returned (.agg ((yb3' x).cells (.slice none 0 0))) ∧ Upd w w' [] [] := by
 go_enter Tryz.func213, Tryz.ntmps213
 go_wp2_with fail
 refine bodyPost_ret (ycj' rfl _ rfl (heap_alloc_new w _) Tryz.underlying115 (by kernel_rfl)) rfl ?_
 exact ⟨rfl, Upd.alloc0 _ _ _⟩
set_option maxRecDepth 100000 in
theorem yur' (o : OpS) (x : Nat) (n : NodeS) (nv : Value) (w : World) (h : w.heap[x]? = some (.cells (n.cells nv) 172 (0, 0))) :
  Calls Tryz.prog 263 #[o.val, .pointer (some ⟨x, 0, none⟩)] w fun e w' => e = .returned (.bool (yf4' o n)) ∧ Upd w w' [] [] := by
 have hu0 := Upd.alloc0 w (.cells #[.int .i64 o.kind, .string o.path, .string o.data, .int .i64 o.ver, .int .i64 o.flags] 89) []
 obtain ⟨o0, o1, o2, o3, o4⟩ := yim' w o (Upd.refl (w.alloc (.cells #[.int .i64 o.kind, .string o.path, .string o.data, .int .i64 o.ver, .int .i64 o.flags] 89)) [])
 have n2 := yaw' hu0 (yaa' h 2 (v := .int .i64 n.ver) rfl)
 have HU := Lib.hid hu0
 obtain ⟨kind, path, data, ver, flags⟩ := o
 unfold OpS.val yf4'
 dsimp only at o0 o1 o2 o3 o4 n2 HU ⊢
 obtain ⟨z1, h1⟩ : ∃ z, (ver != -1) = z := ⟨_, rfl⟩
 obtain ⟨z2, h2⟩ : ∃ z, (ver != n.ver) = z := ⟨_, rfl⟩
 rw [h1, h2]
 clear h hu0
 obtain ⟨wb, hwb⟩ : ∃ z, z = w.alloc (.cells #[.int .i64 kind, .string path, .string data, .int .i64 ver, .int .i64 flags] 89) := ⟨_, rfl⟩
 rw [← hwb] at o0 o1 o2 o3 o4 n2 HU
 cases z1
 all_goals
  go_enter Tryz.func263, Tryz.ntmps263
  go_wp2_with fail
  rw [← hwb]
  refine yao' (fun W => W.cell? ⟨w.heap.size, 3, none⟩ = some (.int .i64 ver) ∧ W.cell? ⟨x, 2, none⟩ = some (.int .i64 n.ver)) 14 (by kernel_rfl) ?_
  refine rT [(0, false), (1, true), (2, false), (3, false), (4, false), (5, true), (6, false), (7, false), (8, false), (9, false), (10, true), (11, false), (12, false), (13, false)] 0 ?_
  apply Exists.intro; refine ⟨?_, ⟨o3, n2⟩, ?_⟩
  ·iterate 14 ((first | (apply yca'; (· (simp only [k_i, k_j, k_k]; try rfl)); (· rfl)) | ((first | apply yax' | apply yas'); (· (simp only [k_i, k_j, k_k]; try rfl)); (· rfl); (· (intros; go_simp; try with_reducible rfl)))); (· (simp only [Act.put, k_a, k_b, k_c]; try rfl)))
   exact rfl
  refine yag' (by kernel_rfl) ?_ _
  go_wp2_with fail
  go_ret
  exact ⟨rfl, HU.out.drew⟩
end Go.Proofs.YtcnkifbjlihaoaaGreatDoor

namespace Go.Proofs.YtcnkifbjlihaoaaGreatDoor
open Go.RowKit Go.Av
def yhf' (w0 : World) (t : Nat) (S : TreeS) (P : List PRow) (R : List Thing) (rows : List (Value × Bs)) (r : ResS) (e : Ending) (w' : World) : Prop :=
 ∃ nv P', e = .returned (.agg (r.cells nv)) ∧ (∀ q ∈ P, q ∈ P') ∧ (1, nv, r.names.map sv) ∈ P' ∧ Sep w0 w' (yab' w0 P' :: yaj' t S P' :: R) rows
abbrev yew' (o : OpS) : Array Value := #[.int .i64 o.kind, .string o.path, .string o.data, .int .i64 o.ver, .int .i64 o.flags]
section
variable {w0 w : World} {t : Nat} {S : TreeS} {P P' : List PRow} {R : List Thing} {rows : List (Value × Bs)}
theorem yid' (a b p q : Thing) (R : List Thing) : (a :: b :: p :: q :: R).Perm (p :: q :: a :: b :: R) := (List.perm_append_comm (l₁ := [a, b]) (l₂ := [p, q])).append_right R
set_option maxRecDepth 100000 in
set_option maxHeartbeats 4000000 in
theorem yqk' (h : Sep w0 w (yab' w0 P :: yaj' t S P :: R) rows) (hd : DoorN w0) (o : OpS) (hp : o.path.size ≤ 100000) (hdt : o.data.size ≤ 100000) (h0 : 0 ≤ o.flags) (h3 : o.flags ≤ 3) (hok : ∀ e ∈ S.l, NodeOk e.2) (sess zxid : Int) (only : Bool) :
  Calls Tryz.prog 214 #[.pointer (some ⟨t, 0, none⟩), o.val, .int .i64 sess, .int .i64 zxid, .bool only] w (yhf' w0 t (if only then S else (yb1' S o sess zxid).2) P R rows (yb1' S o sess zxid).1) := by
 have hA := ((h.newCell (.cells (yew' o) 89)).newCell (.cells ((yb3' 0).cells (.slice none 0 0)) 115)).perm (yid' _ _ _ _ _)
 have HPL := Lib.hid (yte' (hA.perm (List.Perm.swap _ _ _)) (hd.sep h |>.upd ((Upd.alloc0 w _ []).trans (Upd.alloc0 _ _ []))) o hp h0 h3 hok)
 have HA := Lib.hid hA
 have HZ := Lib.hid (fun h => ykb' (S := S) (o := o) h)
 obtain ⟨cr, hcr⟩ : ∃ cr, yb1' S o sess zxid = cr := ⟨_, rfl⟩
 have HCR := Lib.hid hcr
 unfold yb1' at HCR
 rw [hcr]
 obtain ⟨S', hS'⟩ : ∃ S', (if only = true then S else cr.2) = S' := ⟨_, rfl⟩
 have HS' := Lib.hid hS'
 rw [hS']
 clear hS'
 obtain ⟨pl, hpl⟩ : ∃ pl, ya4' S o = pl := ⟨_, rfl⟩
 rw [hpl] at HPL HCR HZ
 obtain ⟨pe, pp⟩ := pl
 have hlo : ∀ W, Upd (w.alloc (.cells (yew' o) 89)) W [] [] → OpAt W w.heap.size o := fun W hu => yim' w o hu
 have HB := Lib.hid (show (w.alloc (.cells (yew' o) 89)).heap.size = w.heap.size + 1 by simp)
 obtain ⟨kind, path, data, ver, flags⟩ := o
 unfold OpS.val
 have heb := yyv' h0 h3
 unfold OpAt at hlo
 unfold yew' ResS.cells yb3' noSt at HA HPL
 unfold yew' at hlo HB
 dsimp only at HA HPL HCR HZ hlo HB hp hdt h0 h3 heb ⊢
 rw [HB.out] at HA
 have HLO := Lib.hid hlo
 clear h hA hcr hpl hlo
 go_enter Tryz.func214, Tryz.ntmps214
 obtain ⟨o0, o1, o2, o3, o4⟩ := HLO.out _ (Upd.alloc0 _ (.cells #[.int .i64 0, .string ⟨#[]⟩, .string ⟨#[]⟩, .slice none 0 0, .int .i64 0, .int .i64 0, .int .i64 0, .int .i64 0, .int .i64 0, .int .i64 0, .int .i64 0] 115) [])
 go_wp2_with fail
 refine HPL.out.mono ?_
 rintro e w1 ⟨rfl, hu1⟩
 have H1 := Lib.hid (HA.out.keep hu1)
 clear HPL HA HLO o0 o1 o2 o3 o4 hu1
 obtain ⟨b6, hb6⟩ : ∃ b6, b6 = w.heap.size := ⟨_, rfl⟩
 obtain ⟨b10, hb10⟩ : ∃ b10, b10 = w.heap.size + 1 := ⟨_, rfl⟩
 rw [← hb10, ← hb6] at H1 ⊢
 clear hb6 hb10 HB
 have e10 := H1.out.block (b := b10) (o := .cells #[.int .i64 0, .string ⟨#[]⟩, .string ⟨#[]⟩, .slice none 0 0, .int .i64 0, .int .i64 0, .int .i64 0, .int .i64 0, .int .i64 0, .int .i64 0, .int .i64 0] 115 (0, 0)) (by simp)
 have e6 := H1.out.block (b := b6) (o := .cells #[.int .i64 kind, .string path, .string data, .int .i64 ver, .int .i64 flags] 89 (0, 0)) (by simp)
 by_cases hpe : pe = 0
 case neg =>
  have hq : (pe != 0) = true := by rw [bne_iff_ne]; exact hpe
  have HC := Lib.hid (show cr = (yb3' pe, S) by rw [← HCR.out, if_pos hpe])
  have HFL := Lib.hid (show Calls Tryz.prog _ _ _ (fun e w' => e = .returned (.agg #[.int .i64 pe, .string ⟨#[]⟩, .string ⟨#[]⟩, .slice none 0 0, .int .i64 0, .int .i64 0, .int .i64 0, .int .i64 0, .int .i64 0, .int .i64 0, .int .i64 0]) ∧ _) from yd4' pe w1)
  clear hpe HCR HZ e10
  go_wp2_with fail
  refine HFL.out.mono ?_
  rintro e w2 ⟨rfl, hu2⟩
  have H2 := Lib.hid ((H1.out.keep hu2).pick 2 rfl rfl)
  clear hu2 HFL e6
  have r0 := yaa' H2.out.blk 0 (v := .int .i64 0) rfl
  have g0 := yad' H2.out.blk 0
  have r1 := yaa' H2.out.blk 1 (v := .string ⟨#[]⟩) rfl
  have g1 := yad' H2.out.blk 1
  have r2 := yaa' H2.out.blk 2 (v := .string ⟨#[]⟩) rfl
  have g2 := yad' H2.out.blk 2
  have r3 := yaa' H2.out.blk 3 (v := .slice none 0 0) rfl
  have g3 := yad' H2.out.blk 3
  have r4 := yaa' H2.out.blk 4 (v := .int .i64 0) rfl
  have g4 := yad' H2.out.blk 4
  have r5 := yaa' H2.out.blk 5 (v := .int .i64 0) rfl
  have g5 := yad' H2.out.blk 5
  have r6 := yaa' H2.out.blk 6 (v := .int .i64 0) rfl
  have g6 := yad' H2.out.blk 6
  have r7 := yaa' H2.out.blk 7 (v := .int .i64 0) rfl
  have g7 := yad' H2.out.blk 7
  have r8 := yaa' H2.out.blk 8 (v := .int .i64 0) rfl
  have g8 := yad' H2.out.blk 8
  have r9 := yaa' H2.out.blk 9 (v := .int .i64 0) rfl
  have g9 := yad' H2.out.blk 9
  have r10 := yaa' H2.out.blk 10 (v := .int .i64 0) rfl
  have g10 := yad' H2.out.blk 10
  have HF := Lib.hid (H2.out.setAll [.int .i64 pe, .string ⟨#[]⟩, .string ⟨#[]⟩, .slice none 0 0, .int .i64 0, .int .i64 0, .int .i64 0, .int .i64 0, .int .i64 0, .int .i64 0, .int .i64 0] rfl)
  go_wp2_with fail
  refine bodyPost_ret (ycj' rfl _ rfl HF.out.blk Tryz.underlying115 (by kernel_rfl)) rfl ?_
  have hS := (HF.out.drop.pick 2 rfl rfl).drop
  rw [← HS'.out, HC.out]
  refine ⟨.slice none 0 0, (1, .slice none 0 0, []) :: P, rfl, fun q hq => k_n _ hq, k_s, ?_⟩
  have h5 := (yaz' ((hS.poolNil 1).perm (List.Perm.swap _ _ _)) (P' := (1, .slice none 0 0, []) :: P) (fun q hq => k_n _ hq)).perm (List.Perm.swap _ _ _)
  cases only <;> exact h5
 case pos =>
  subst hpe
  obtain ⟨hlk, hpl⟩ := HZ.out rfl
  obtain ⟨ps, hps⟩ : ∃ ps : ByteArray, ps = ⟨pp.toArray⟩ := ⟨_, rfl⟩
  have hpp : ps.data.toList = pp := by rw [hps]
  have hpz : ps.size ≤ 100000 := by
   rw [hps]
   show pp.toArray.size ≤ _
   rw [List.size_toArray]
   omega
  have HPV := Lib.hid (show sv pp = .string ps by rw [hps]; rfl)
  have HLK := Lib.hid (show yal' ps.data.toList S.l = none by rw [hpp]; exact hlk)
  have HC := Lib.hid (show cr = (⟨0, ps, ⟨#[]⟩, [], (newS zxid (if ephF flags then sess else 0) data).st⟩, { S with l := layT ps.data.toList (newS zxid (if ephF flags then sess else 0) data) S.l }) by
   rw [← HCR.out, if_neg (by simp), hpp, hps]
   rfl)
  rw [HPV.out]
  have HOK := Lib.hid (show ∀ ow, ∀ e ∈ insT ps.data.toList (newS zxid ow data) S.l, NodeOk e.2 from fun ow e he => by
   rcases List.mem_cons.1 ((ydt' _ _ _).mem_iff.1 he) with rfl | he
   ·exact ⟨by simp [newS], by simp [newS], by simp [newS], by simp [newS, yig'], by simp [newS], hdt⟩
   ·exact hok e he)
  have HD := Lib.hid hd
  clear hlk hpl hps hpp HCR HZ HPV e10 hok hd
  cases hef : ephF flags
  case' false =>
   rw [hef] at heb HC
   have HC := Lib.hid (show cr = (⟨0, ps, ⟨#[]⟩, [], (newS zxid 0 data).st⟩, { S with l := layT ps.data.toList (newS zxid 0 data) S.l }) from HC.out)
   have HNW := Lib.hid (show Calls Tryz.prog _ _ _ (fun e w' => e = .returned (.agg #[.int .i64 zxid, .int .i64 zxid, .int .i64 0, .int .i64 0, .int .i64 0, .int .i64 (data.size : Nat), .int .i64 (0 : Nat), .string data, .int .i64 0, .slice none 0 0]) ∧ _) from yjf' zxid 0 data w1 hdt)
  case' true =>
   rw [hef] at heb HC
   have HC := Lib.hid (show cr = (⟨0, ps, ⟨#[]⟩, [], (newS zxid sess data).st⟩, { S with l := layT ps.data.toList (newS zxid sess data) S.l }) from HC.out)
   have HNW := Lib.hid (show Calls Tryz.prog _ _ _ (fun e w' => e = .returned (.agg #[.int .i64 zxid, .int .i64 zxid, .int .i64 0, .int .i64 0, .int .i64 sess, .int .i64 (data.size : Nat), .int .i64 (0 : Nat), .string data, .int .i64 0, .slice none 0 0]) ∧ _) from yjf' zxid sess data w1 hdt)
  case false =>
   have o4 := yaa' e6 4 (v := .int .i64 flags) rfl
   have o2 := yaa' e6 2 (v := .string data) rfl
   clear hef
   go_wp2_with fail
   refine HNW.out.mono ?_
   rintro e w2 ⟨rfl, hu2⟩
   have h3' := (H1.out.keep hu2).newCell (.cells #[.int .i64 zxid, .int .i64 zxid, .int .i64 0, .int .i64 0, .int .i64 0, .int .i64 (data.size : Nat), .int .i64 0, .string data, .int .i64 0, .slice none 0 0] 172)
   have h4' := (yaz' (((h3'.pick 1 rfl rfl).poolNil 1).pick 2 rfl rfl) (P' := (1, .slice none 0 0, []) :: P) (fun q hq => k_n _ hq)).perm (List.Perm.swap _ _ _)
   obtain ⟨b14, hb14⟩ : ∃ b14, b14 = w2.heap.size := ⟨_, rfl⟩
   rw [← hb14] at h4'
   have H4 := Lib.hid h4'
   have HB14 := Lib.hid hb14
   clear hu2 HNW o4 o2 e6 h3' h4' hb14
   cases only with
   | true =>
    have HS2 := Lib.hid (show S = S' from HS'.out)
    obtain ⟨PX, hPX⟩ : ∃ PX, PX = (1, .slice none 0 0, []) :: P := ⟨_, rfl⟩
    have HPX := Lib.hid (show ∀ q ∈ P, q ∈ PX from fun q hq => by rw [hPX]; exact k_n _ hq)
    have HNX := Lib.hid (show (1, .slice none 0 0, []) ∈ PX by rw [hPX]; exact k_s)
    rw [← hPX, HS2.out] at H4
    have HX := H4
    have hb := HB14.out
    clear hPX HB14
    subst hb
    have HNB := HX.out.block (b := w2.heap.size) (o := .cells #[.int .i64 zxid, .int .i64 zxid, .int .i64 0, .int .i64 0, .int .i64 0, .int .i64 (data.size : Nat), .int .i64 0, .string data, .int .i64 0, .slice none 0 0] 172 (0, 0)) (by simp)
    have n0 := yaa' HNB 0 (v := .int .i64 zxid) rfl
    have n1 := yaa' HNB 1 (v := .int .i64 zxid) rfl
    have n2 := yaa' HNB 2 (v := .int .i64 0) rfl
    have n3 := yaa' HNB 3 (v := .int .i64 0) rfl
    have n4 := yaa' HNB 4 (v := .int .i64 0) rfl
    have n5 := yaa' HNB 5 (v := .int .i64 (data.size : Nat)) rfl
    have n6 := yaa' HNB 6 (v := .int .i64 0) rfl
    have HY := Lib.hid (HX.out.pick 3 rfl rfl)
    clear HNB
    have r0 := yaa' HY.out.blk 0 (v := .int .i64 0) rfl
    have g0 := yad' HY.out.blk 0
    have r1 := yaa' HY.out.blk 1 (v := .string ⟨#[]⟩) rfl
    have g1 := yad' HY.out.blk 1
    have r2 := yaa' HY.out.blk 2 (v := .string ⟨#[]⟩) rfl
    have g2 := yad' HY.out.blk 2
    have r3 := yaa' HY.out.blk 3 (v := .slice none 0 0) rfl
    have g3 := yad' HY.out.blk 3
    have r4 := yaa' HY.out.blk 4 (v := .int .i64 0) rfl
    have g4 := yad' HY.out.blk 4
    have r5 := yaa' HY.out.blk 5 (v := .int .i64 0) rfl
    have g5 := yad' HY.out.blk 5
    have r6 := yaa' HY.out.blk 6 (v := .int .i64 0) rfl
    have g6 := yad' HY.out.blk 6
    have r7 := yaa' HY.out.blk 7 (v := .int .i64 0) rfl
    have g7 := yad' HY.out.blk 7
    have r8 := yaa' HY.out.blk 8 (v := .int .i64 0) rfl
    have g8 := yad' HY.out.blk 8
    have r9 := yaa' HY.out.blk 9 (v := .int .i64 0) rfl
    have g9 := yad' HY.out.blk 9
    have r10 := yaa' HY.out.blk 10 (v := .int .i64 0) rfl
    have g10 := yad' HY.out.blk 10
    have HF := Lib.hid (HY.out.setAll [.int .i64 0, .string ps, .string ⟨#[]⟩, .slice none 0 0, .int .i64 zxid, .int .i64 zxid, .int .i64 0, .int .i64 0, .int .i64 0, .int .i64 (data.size : Nat), .int .i64 0] rfl)
    go_wp2_with fail
    refine bodyPost_ret (ycj' rfl _ rfl HF.out.blk Tryz.underlying115 (by kernel_rfl)) rfl ?_
    rw [HC.out]
    exact ⟨.slice none 0 0, PX, rfl, HPX.out, HNX.out, ((HF.out.drop.pick 2 rfl rfl).drop.pick 2 rfl rfl).drop⟩
   | false =>
    have HS2 := Lib.hid (show cr.2 = S' from HS'.out)
    have HLY := Lib.hid (ysq' H4.out HD.out ps hpz (newS zxid 0 data) (.slice none 0 0) k_s HLK.out (HOK.out 0))
    go_wp2_with fail
    refine HLY.out.mono ?_
    rintro e w3 ⟨rfl, PX, hPX, hX⟩
    have HX := Lib.hid hX
    have HPX := Lib.hid (show ∀ q ∈ P, q ∈ PX from fun q hq => hPX q (k_n _ hq))
    have HNX := Lib.hid (show (1, .slice none 0 0, []) ∈ PX from hPX _ k_s)
    have HSE := Lib.hid (show S' = { S with l := layT ps.data.toList (newS zxid 0 data) S.l } by rw [← HS2.out]; exact congrArg Prod.snd HC.out)
    rw [← HSE.out] at HX
    rw [← HB14.out]
    clear hX hPX HLY
    have HNB := HX.out.block (b := b14) (o := .cells #[.int .i64 zxid, .int .i64 zxid, .int .i64 0, .int .i64 0, .int .i64 0, .int .i64 (data.size : Nat), .int .i64 0, .string data, .int .i64 0, .slice none 0 0] 172 (0, 0)) (by simp)
    have n0 := yaa' HNB 0 (v := .int .i64 zxid) rfl
    have n1 := yaa' HNB 1 (v := .int .i64 zxid) rfl
    have n2 := yaa' HNB 2 (v := .int .i64 0) rfl
    have n3 := yaa' HNB 3 (v := .int .i64 0) rfl
    have n4 := yaa' HNB 4 (v := .int .i64 0) rfl
    have n5 := yaa' HNB 5 (v := .int .i64 (data.size : Nat)) rfl
    have n6 := yaa' HNB 6 (v := .int .i64 0) rfl
    have HY := Lib.hid (HX.out.pick 3 rfl rfl)
    clear HNB
    have r0 := yaa' HY.out.blk 0 (v := .int .i64 0) rfl
    have g0 := yad' HY.out.blk 0
    have r1 := yaa' HY.out.blk 1 (v := .string ⟨#[]⟩) rfl
    have g1 := yad' HY.out.blk 1
    have r2 := yaa' HY.out.blk 2 (v := .string ⟨#[]⟩) rfl
    have g2 := yad' HY.out.blk 2
    have r3 := yaa' HY.out.blk 3 (v := .slice none 0 0) rfl
    have g3 := yad' HY.out.blk 3
    have r4 := yaa' HY.out.blk 4 (v := .int .i64 0) rfl
    have g4 := yad' HY.out.blk 4
    have r5 := yaa' HY.out.blk 5 (v := .int .i64 0) rfl
    have g5 := yad' HY.out.blk 5
    have r6 := yaa' HY.out.blk 6 (v := .int .i64 0) rfl
    have g6 := yad' HY.out.blk 6
    have r7 := yaa' HY.out.blk 7 (v := .int .i64 0) rfl
    have g7 := yad' HY.out.blk 7
    have r8 := yaa' HY.out.blk 8 (v := .int .i64 0) rfl
    have g8 := yad' HY.out.blk 8
    have r9 := yaa' HY.out.blk 9 (v := .int .i64 0) rfl
    have g9 := yad' HY.out.blk 9
    have r10 := yaa' HY.out.blk 10 (v := .int .i64 0) rfl
    have g10 := yad' HY.out.blk 10
    have HF := Lib.hid (HY.out.setAll [.int .i64 0, .string ps, .string ⟨#[]⟩, .slice none 0 0, .int .i64 zxid, .int .i64 zxid, .int .i64 0, .int .i64 0, .int .i64 0, .int .i64 (data.size : Nat), .int .i64 0] rfl)
    go_wp2_with fail
    refine bodyPost_ret (ycj' rfl _ rfl HF.out.blk Tryz.underlying115 (by kernel_rfl)) rfl ?_
    rw [HC.out]
    exact ⟨.slice none 0 0, PX, rfl, HPX.out, HNX.out, ((HF.out.drop.pick 2 rfl rfl).drop.pick 2 rfl rfl).drop⟩
  case true =>
   have o4 := yaa' e6 4 (v := .int .i64 flags) rfl
   have o2 := yaa' e6 2 (v := .string data) rfl
   clear hef
   go_wp2_with fail
   refine HNW.out.mono ?_
   rintro e w2 ⟨rfl, hu2⟩
   have h3' := (H1.out.keep hu2).newCell (.cells #[.int .i64 zxid, .int .i64 zxid, .int .i64 0, .int .i64 0, .int .i64 sess, .int .i64 (data.size : Nat), .int .i64 0, .string data, .int .i64 0, .slice none 0 0] 172)
   have h4' := (yaz' (((h3'.pick 1 rfl rfl).poolNil 1).pick 2 rfl rfl) (P' := (1, .slice none 0 0, []) :: P) (fun q hq => k_n _ hq)).perm (List.Perm.swap _ _ _)
   obtain ⟨b14, hb14⟩ : ∃ b14, b14 = w2.heap.size := ⟨_, rfl⟩
   rw [← hb14] at h4'
   have H4 := Lib.hid h4'
   have HB14 := Lib.hid hb14
   clear hu2 HNW o4 o2 e6 h3' h4' hb14
   cases only with
   | true =>
    have HS2 := Lib.hid (show S = S' from HS'.out)
    obtain ⟨PX, hPX⟩ : ∃ PX, PX = (1, .slice none 0 0, []) :: P := ⟨_, rfl⟩
    have HPX := Lib.hid (show ∀ q ∈ P, q ∈ PX from fun q hq => by rw [hPX]; exact k_n _ hq)
    have HNX := Lib.hid (show (1, .slice none 0 0, []) ∈ PX by rw [hPX]; exact k_s)
    rw [← hPX, HS2.out] at H4
    have HX := H4
    have hb := HB14.out
    clear hPX HB14
    subst hb
    have HNB := HX.out.block (b := w2.heap.size) (o := .cells #[.int .i64 zxid, .int .i64 zxid, .int .i64 0, .int .i64 0, .int .i64 sess, .int .i64 (data.size : Nat), .int .i64 0, .string data, .int .i64 0, .slice none 0 0] 172 (0, 0)) (by simp)
    have n0 := yaa' HNB 0 (v := .int .i64 zxid) rfl
    have n1 := yaa' HNB 1 (v := .int .i64 zxid) rfl
    have n2 := yaa' HNB 2 (v := .int .i64 0) rfl
    have n3 := yaa' HNB 3 (v := .int .i64 0) rfl
    have n4 := yaa' HNB 4 (v := .int .i64 sess) rfl
    have n5 := yaa' HNB 5 (v := .int .i64 (data.size : Nat)) rfl
    have n6 := yaa' HNB 6 (v := .int .i64 0) rfl
    have HY := Lib.hid (HX.out.pick 3 rfl rfl)
    clear HNB
    have r0 := yaa' HY.out.blk 0 (v := .int .i64 0) rfl
    have g0 := yad' HY.out.blk 0
    have r1 := yaa' HY.out.blk 1 (v := .string ⟨#[]⟩) rfl
    have g1 := yad' HY.out.blk 1
    have r2 := yaa' HY.out.blk 2 (v := .string ⟨#[]⟩) rfl
    have g2 := yad' HY.out.blk 2
    have r3 := yaa' HY.out.blk 3 (v := .slice none 0 0) rfl
    have g3 := yad' HY.out.blk 3
    have r4 := yaa' HY.out.blk 4 (v := .int .i64 0) rfl
    have g4 := yad' HY.out.blk 4
    have r5 := yaa' HY.out.blk 5 (v := .int .i64 0) rfl
    have g5 := yad' HY.out.blk 5
    have r6 := yaa' HY.out.blk 6 (v := .int .i64 0) rfl
    have g6 := yad' HY.out.blk 6
    have r7 := yaa' HY.out.blk 7 (v := .int .i64 0) rfl
    have g7 := yad' HY.out.blk 7
    have r8 := yaa' HY.out.blk 8 (v := .int .i64 0) rfl
    have g8 := yad' HY.out.blk 8
    have r9 := yaa' HY.out.blk 9 (v := .int .i64 0) rfl
    have g9 := yad' HY.out.blk 9
    have r10 := yaa' HY.out.blk 10 (v := .int .i64 0) rfl
    have g10 := yad' HY.out.blk 10
    have HF := Lib.hid (HY.out.setAll [.int .i64 0, .string ps, .string ⟨#[]⟩, .slice none 0 0, .int .i64 zxid, .int .i64 zxid, .int .i64 0, .int .i64 0, .int .i64 sess, .int .i64 (data.size : Nat), .int .i64 0] rfl)
    go_wp2_with fail
    refine bodyPost_ret (ycj' rfl _ rfl HF.out.blk Tryz.underlying115 (by kernel_rfl)) rfl ?_
    rw [HC.out]
    exact ⟨.slice none 0 0, PX, rfl, HPX.out, HNX.out, ((HF.out.drop.pick 2 rfl rfl).drop.pick 2 rfl rfl).drop⟩
   | false =>
    have HS2 := Lib.hid (show cr.2 = S' from HS'.out)
    have HLY := Lib.hid (ysq' H4.out HD.out ps hpz (newS zxid sess data) (.slice none 0 0) k_s HLK.out (HOK.out sess))
    go_wp2_with fail
    refine HLY.out.mono ?_
    rintro e w3 ⟨rfl, PX, hPX, hX⟩
    have HX := Lib.hid hX
    have HPX := Lib.hid (show ∀ q ∈ P, q ∈ PX from fun q hq => hPX q (k_n _ hq))
    have HNX := Lib.hid (show (1, .slice none 0 0, []) ∈ PX from hPX _ k_s)
    have HSE := Lib.hid (show S' = { S with l := layT ps.data.toList (newS zxid sess data) S.l } by rw [← HS2.out]; exact congrArg Prod.snd HC.out)
    rw [← HSE.out] at HX
    rw [← HB14.out]
    clear hX hPX HLY
    have HNB := HX.out.block (b := b14) (o := .cells #[.int .i64 zxid, .int .i64 zxid, .int .i64 0, .int .i64 0, .int .i64 sess, .int .i64 (data.size : Nat), .int .i64 0, .string data, .int .i64 0, .slice none 0 0] 172 (0, 0)) (by simp)
    have n0 := yaa' HNB 0 (v := .int .i64 zxid) rfl
    have n1 := yaa' HNB 1 (v := .int .i64 zxid) rfl
    have n2 := yaa' HNB 2 (v := .int .i64 0) rfl
    have n3 := yaa' HNB 3 (v := .int .i64 0) rfl
    have n4 := yaa' HNB 4 (v := .int .i64 sess) rfl
    have n5 := yaa' HNB 5 (v := .int .i64 (data.size : Nat)) rfl
    have n6 := yaa' HNB 6 (v := .int .i64 0) rfl
    have HY := Lib.hid (HX.out.pick 3 rfl rfl)
    clear HNB
    have r0 := yaa' HY.out.blk 0 (v := .int .i64 0) rfl
    have g0 := yad' HY.out.blk 0
    have r1 := yaa' HY.out.blk 1 (v := .string ⟨#[]⟩) rfl
    have g1 := yad' HY.out.blk 1
    have r2 := yaa' HY.out.blk 2 (v := .string ⟨#[]⟩) rfl
    have g2 := yad' HY.out.blk 2
    have r3 := yaa' HY.out.blk 3 (v := .slice none 0 0) rfl
    have g3 := yad' HY.out.blk 3
    have r4 := yaa' HY.out.blk 4 (v := .int .i64 0) rfl
    have g4 := yad' HY.out.blk 4
    have r5 := yaa' HY.out.blk 5 (v := .int .i64 0) rfl
    have g5 := yad' HY.out.blk 5
    have r6 := yaa' HY.out.blk 6 (v := .int .i64 0) rfl
    have g6 := yad' HY.out.blk 6
    have r7 := yaa' HY.out.blk 7 (v := .int .i64 0) rfl
    have g7 := yad' HY.out.blk 7
    have r8 := yaa' HY.out.blk 8 (v := .int .i64 0) rfl
    have g8 := yad' HY.out.blk 8
    have r9 := yaa' HY.out.blk 9 (v := .int .i64 0) rfl
    have g9 := yad' HY.out.blk 9
    have r10 := yaa' HY.out.blk 10 (v := .int .i64 0) rfl
    have g10 := yad' HY.out.blk 10
    have HF := Lib.hid (HY.out.setAll [.int .i64 0, .string ps, .string ⟨#[]⟩, .slice none 0 0, .int .i64 zxid, .int .i64 zxid, .int .i64 0, .int .i64 0, .int .i64 sess, .int .i64 (data.size : Nat), .int .i64 0] rfl)
    go_wp2_with fail
    refine bodyPost_ret (ycj' rfl _ rfl HF.out.blk Tryz.underlying115 (by kernel_rfl)) rfl ?_
    rw [HC.out]
    exact ⟨.slice none 0 0, PX, rfl, HPX.out, HNX.out, ((HF.out.drop.pick 2 rfl rfl).drop.pick 2 rfl rfl).drop⟩
end
end Go.Proofs.YtcnkifbjlihaoaaGreatDoor

namespace Go.Av
def yi9' (S : TreeS) (o : OpS) : ResS := match yal' o.p S.l with
 | none => yb3' 4
 | some n => ⟨0, o.path, if o.kind == 5 then n.data else ⟨#[]⟩, if o.kind == 7 then n.names else [], n.st⟩
end Go.Av
namespace Go.Proofs.YtcnkifbjlihaoaaGreatDoor
open Go.RowKit Go.Av
theorem yj6' {W : World} {x : Nat} {n : NodeS} {nv : Value} (hb : W.heap[x]? = some (.cells (n.cells nv) 172 (0, 0))) :
  W.cell? ⟨x, 0, none⟩ = some (.int .i64 n.made) ∧ W.cell? ⟨x, 1, none⟩ = some (.int .i64 n.changed) ∧ W.cell? ⟨x, 2, none⟩ = some (.int .i64 n.ver) ∧ W.cell? ⟨x, 3, none⟩ = some (.int .i64 n.kids) ∧ W.cell? ⟨x, 4, none⟩ = some (.int .i64 n.owner) ∧ W.cell? ⟨x, 5, none⟩ = some (.int .i64 (n.data.size : Nat)) ∧ W.cell? ⟨x, 6, none⟩ = some (.int .i64 (n.names.length : Nat)) ∧ W.cell? ⟨x, 7, none⟩ = some (.string n.data) ∧ W.cell? ⟨x, 8, none⟩ = some (.int .i64 n.next) ∧ W.cell? ⟨x, 9, none⟩ = some nv :=
 ⟨yaa' hb 0 rfl, yaa' hb 1 rfl, yaa' hb 2 rfl, yaa' hb 3 rfl, yaa' hb 4 rfl, yaa' hb 5 rfl, yaa' hb 6 rfl, yaa' hb 7 rfl, yaa' hb 8 rfl, yaa' hb 9 rfl⟩
section
variable {w0 w : World} {t : Nat} {S : TreeS} {P P' : List PRow} {R : List Thing} {rows : List (Value × Bs)}
set_option maxRecDepth 100000 in
set_option maxHeartbeats 4000000 in
theorem ywj' (h : Sep w0 w (yab' w0 P :: yaj' t S P :: R) rows) (o : OpS) (hok : ∀ e ∈ S.l, NodeOk e.2) :
  Calls Tryz.prog 216 #[.pointer (some ⟨t, 0, none⟩), o.val] w (yhf' w0 t S P R rows (yi9' S o)) := by
 have hA := ((h.newCell (.cells (yew' o) 89)).newCell (.cells ((yb3' 0).cells (.slice none 0 0)) 115)).perm (yid' _ _ _ _ _)
 obtain ⟨m, -, hm1, hnone, hsome, -⟩ := ycy' (hA.perm (List.Perm.swap _ _ _))
 have HB := Lib.hid (show (w.alloc (.cells (yew' o) 89)).heap.size = w.heap.size + 1 by simp)
 obtain ⟨rr, hrr⟩ : ∃ rr, yi9' S o = rr := ⟨_, rfl⟩
 have HR := Lib.hid hrr
 unfold yi9' at HR
 rw [hrr]
 have hno := hnone o.path
 have hso := hsome o.path
 have HRI := Lib.hid (yc8' (hA.perm (List.Perm.swap _ _ _)))
 obtain ⟨kind, path, data, ver, flags⟩ := o
 unfold OpS.val
 unfold OpS.p at HR
 unfold yew' ResS.cells yb3' noSt at hA hm1 hno hso
 unfold yew' at HB
 dsimp only at hA hm1 hno hso HB HR ⊢
 rw [HB.out] at hA
 have HA := Lib.hid hA
 clear h hA hrr hnone hsome
 obtain ⟨wA, hwA⟩ : ∃ wA, wA = (w.alloc (.cells #[.int .i64 kind, .string path, .string data, .int .i64 ver, .int .i64 flags] 89)).alloc (.cells #[.int .i64 0, .string ⟨#[]⟩, .string ⟨#[]⟩, .slice none 0 0, .int .i64 0, .int .i64 0, .int .i64 0, .int .i64 0, .int .i64 0, .int .i64 0, .int .i64 0] 115) := ⟨_, rfl⟩
 rw [← hwA] at HA hm1 hno hso
 have HWA := Lib.hid hwA
 clear hwA
 have e3 := HA.out.block (b := w.heap.size) (o := .cells #[.int .i64 kind, .string path, .string data, .int .i64 ver, .int .i64 flags] 89 (0, 0)) (by simp)
 have o1 := yaa' e3 1 (v := .string path) rfl
 have HE3 := Lib.hid e3
 clear e3
 cases hlk : yal' path.data.toList S.l with
 | none =>
  have hk := hno hlk wA rfl
  have hkd := hno hlk wA.drew rfl
  have HC := Lib.hid (show rr = yb3' 4 by rw [← HR.out, hlk])
  have HFL := Lib.hid (show Calls Tryz.prog _ _ _ (fun e w' => e = .returned (.agg #[.int .i64 4, .string ⟨#[]⟩, .string ⟨#[]⟩, .slice none 0 0, .int .i64 0, .int .i64 0, .int .i64 0, .int .i64 0, .int .i64 0, .int .i64 0, .int .i64 0]) ∧ _) from yd4' 4 wA.drew)
  clear hlk HR hno hso
  go_enter Tryz.func216, Tryz.ntmps216
  go_wp2_with fail
  rw [← HWA.out]
  refine yao' (fun W => W.cell? ⟨t, 1, none⟩ = some (.map (some m)) ∧ W.cell? ⟨w.heap.size, 1, none⟩ = some (.string path) ∧ (Instr.lookup 210 (.map (some m)) (.string path) false).run Tryz.prog W = .ok (.pointer none) W) 8 (by kernel_rfl) ?_
  refine rT [(0, false), (1, false), (2, false), (3, true), (4, false), (5, true), (6, true), (7, false)] 0 ?_
  apply Exists.intro; refine ⟨?_, ⟨hm1, o1, hkd⟩, ?_⟩
  ·iterate 8 ((first | (apply yca'; (· (simp only [k_i, k_j, k_k]; try rfl)); (· rfl)) | ((first | apply yax' | apply yas'); (· (simp only [k_i, k_j, k_k]; try rfl)); (· rfl); (· (intros; go_simp; try with_reducible rfl)))); (· (simp only [Act.put, k_a, k_b, k_c]; try rfl)))
   exact rfl
  refine yag' (by kernel_rfl) ?_ _
  go_wp2_with fail
  refine HFL.out.mono ?_
  rintro e w2 ⟨rfl, hu2⟩
  have H2 := Lib.hid ((HA.out.drew.keep hu2).pick 2 rfl rfl)
  clear hu2 HFL o1 hm1 hk hkd
  have r0 := yaa' H2.out.blk 0 (v := .int .i64 0) rfl
  have g0 := yad' H2.out.blk 0
  have r1 := yaa' H2.out.blk 1 (v := .string ⟨#[]⟩) rfl
  have g1 := yad' H2.out.blk 1
  have r2 := yaa' H2.out.blk 2 (v := .string ⟨#[]⟩) rfl
  have g2 := yad' H2.out.blk 2
  have r3 := yaa' H2.out.blk 3 (v := .slice none 0 0) rfl
  have g3 := yad' H2.out.blk 3
  have r4 := yaa' H2.out.blk 4 (v := .int .i64 0) rfl
  have g4 := yad' H2.out.blk 4
  have r5 := yaa' H2.out.blk 5 (v := .int .i64 0) rfl
  have g5 := yad' H2.out.blk 5
  have r6 := yaa' H2.out.blk 6 (v := .int .i64 0) rfl
  have g6 := yad' H2.out.blk 6
  have r7 := yaa' H2.out.blk 7 (v := .int .i64 0) rfl
  have g7 := yad' H2.out.blk 7
  have r8 := yaa' H2.out.blk 8 (v := .int .i64 0) rfl
  have g8 := yad' H2.out.blk 8
  have r9 := yaa' H2.out.blk 9 (v := .int .i64 0) rfl
  have g9 := yad' H2.out.blk 9
  have r10 := yaa' H2.out.blk 10 (v := .int .i64 0) rfl
  have g10 := yad' H2.out.blk 10
  have HF := Lib.hid (H2.out.setAll [.int .i64 4, .string ⟨#[]⟩, .string ⟨#[]⟩, .slice none 0 0, .int .i64 0, .int .i64 0, .int .i64 0, .int .i64 0, .int .i64 0, .int .i64 0, .int .i64 0] rfl)
  go_wp2_with fail
  refine bodyPost_ret (ycj' rfl _ rfl HF.out.blk Tryz.underlying115 (by kernel_rfl)) rfl ?_
  have hS := (HF.out.drop.pick 2 rfl rfl).drop
  rw [HC.out]
  exact ⟨.slice none 0 0, (1, .slice none 0 0, []) :: P, rfl, fun q hq => k_n _ hq, k_s, (yaz' ((hS.poolNil 1).perm (List.Perm.swap _ _ _)) (P' := (1, .slice none 0 0, []) :: P) (fun q hq => k_n _ hq)).perm (List.Perm.swap _ _ _)⟩
 | some n =>
  obtain ⟨x, nv, hnv, hb, hk0⟩ := hso n hlk
  have hkd := hk0 wA.drew rfl
  have HNC := Lib.hid (yj6' (W := wA.drew) hb)
  obtain ⟨n0, n1, n2, n3, n4, n5, n6, n7, n8, n9⟩ := HNC.out
  have HC := Lib.hid (show (⟨0, path, if kind == 5 then n.data else ⟨#[]⟩, if kind == 7 then n.names else [], n.st⟩ : ResS) = rr by rw [← HR.out, hlk])
  have HOK := Lib.hid (hok _ ((ybm' HRI.out).1 hlk))
  have HNV := Lib.hid hnv
  have HBN := Lib.hid hb
  clear hlk HR hno hso hk0 hnv hb
  go_enter Tryz.func216, Tryz.ntmps216
  go_wp2_with fail
  rw [← HWA.out]
  refine yao' (fun W => W.cell? ⟨t, 1, none⟩ = some (.map (some m)) ∧ W.cell? ⟨w.heap.size, 1, none⟩ = some (.string path) ∧ (Instr.lookup 210 (.map (some m)) (.string path) false).run Tryz.prog W = .ok (.pointer (some ⟨x, 0, none⟩)) W) 8 (by kernel_rfl) ?_
  refine rT [(0, false), (1, false), (2, false), (3, true), (4, false), (5, true), (6, true), (7, false)] 0 ?_
  apply Exists.intro; refine ⟨?_, ⟨hm1, o1, hkd⟩, ?_⟩
  ·iterate 8 ((first | (apply yca'; (· (simp only [k_i, k_j, k_k]; try rfl)); (· rfl)) | ((first | apply yax' | apply yas'); (· (simp only [k_i, k_j, k_k]; try rfl)); (· rfl); (· (intros; go_simp; try with_reducible rfl)))); (· (simp only [Act.put, k_a, k_b, k_c]; try rfl)))
   exact rfl
  refine yag' (by kernel_rfl) ?_ _
  go_wp2_with fail
  refine yao' (fun W => W.cell? ⟨w.heap.size, 1, none⟩ = some (.string path) ∧ W.cell? ⟨x, 0, none⟩ = some (.int .i64 n.made) ∧ W.cell? ⟨x, 1, none⟩ = some (.int .i64 n.changed) ∧ W.cell? ⟨x, 2, none⟩ = some (.int .i64 n.ver) ∧ W.cell? ⟨x, 3, none⟩ = some (.int .i64 n.kids) ∧ W.cell? ⟨x, 4, none⟩ = some (.int .i64 n.owner) ∧ W.cell? ⟨x, 5, none⟩ = some (.int .i64 (n.data.size : Nat)) ∧ W.cell? ⟨x, 6, none⟩ = some (.int .i64 (n.names.length : Nat))) 8 (by kernel_rfl) ?_
  refine rT [(0, false), (1, true), (2, false), (3, false), (4, false), (5, true), (6, false)] 2 ?_
  apply Exists.intro; refine ⟨?_, ⟨o1, n0, n1, n2, n3, n4, n5, n6⟩, ?_⟩
  ·iterate 7 ((first | (apply yca'; (· (simp only [k_i, k_j, k_k]; try rfl)); (· rfl)) | ((first | apply yax' | apply yas'); (· (simp only [k_i, k_j, k_k]; try rfl)); (· rfl); (· (intros; go_simp; try with_reducible rfl)))); (· (simp only [Act.put, k_a, k_b, k_c]; try rfl)))
   exact rfl
  refine ya0' (fuel := 1) (i := 7) (by kernel_rfl) (by rfl) (fun K hK => ?_)    -- alloc
  go_wp2_with fail
  have hu6 := ((Upd.alloc0 wA (.cells #[.int .i64 0, .string ⟨#[]⟩, .string ⟨#[]⟩, .slice none 0 0, .int .i64 0, .int .i64 0, .int .i64 0, .int .i64 0, .int .i64 0, .int .i64 0, .int .i64 0] 115) []).drew).drew
  have h6 := ((HA.out.newCell (.cells #[.int .i64 0, .string ⟨#[]⟩, .string ⟨#[]⟩, .slice none 0 0, .int .i64 0, .int .i64 0, .int .i64 0, .int .i64 0, .int .i64 0, .int .i64 0, .int .i64 0] 115)).drew).drew
  obtain ⟨b6, hb6⟩ : ∃ b6, b6 = wA.heap.size := ⟨_, rfl⟩
  obtain ⟨w6, hw6⟩ : ∃ w6, w6 = ((wA.alloc (.cells #[.int .i64 0, .string ⟨#[]⟩, .string ⟨#[]⟩, .slice none 0 0, .int .i64 0, .int .i64 0, .int .i64 0, .int .i64 0, .int .i64 0, .int .i64 0, .int .i64 0] 115)).drew).drew := ⟨_, rfl⟩
  have HLT := Lib.hid (show x < b6 by rw [hb6]; exact ya6' HBN.out)
  have HLT10 := Lib.hid (show w.heap.size + 1 < b6 by rw [hb6]; exact ya6' (HA.out.block (b := w.heap.size + 1) (o := .cells #[.int .i64 0, .string ⟨#[]⟩, .string ⟨#[]⟩, .slice none 0 0, .int .i64 0, .int .i64 0, .int .i64 0, .int .i64 0, .int .i64 0, .int .i64 0, .int .i64 0] 115 (0, 0)) (by simp)))
  have HSZ := Lib.hid (show b6 < w6.heap.size by rw [hw6, hb6]; show _ < (wA.alloc _).heap.size; simp)
  rw [← hw6] at hu6 h6 ⊢
  rw [← hb6] at h6 ⊢
  refine hK _ _ ⟨yaw' hu6 o1, yaw' hu6 n0, yaw' hu6 n1, yaw' hu6 n2, yaw' hu6 n3, yaw' hu6 n4, yaw' hu6 n5, yaw' hu6 n6⟩ ?_
  clear hK
  have c0 := yaw' hu6 (yaa' HE3.out 0 (v := .int .i64 kind) rfl)
  have c7 := yaw' hu6 n7
  have c9 := yaw' hu6 n9
  have H6 := Lib.hid h6
  clear hw6 hb6 hu6 h6 hkd hm1 o1 n0 n1 n2 n3 n4 n5 n6 n7 n8 n9 HNC HBN
  have r0 := yaa' H6.out.blk 0 (v := .int .i64 0) rfl
  have g0 := yad' H6.out.blk 0
  have r1 := yaa' H6.out.blk 1 (v := .string ⟨#[]⟩) rfl
  have g1 := yad' H6.out.blk 1
  have r2 := yaa' H6.out.blk 2 (v := .string ⟨#[]⟩) rfl
  have g2 := yad' H6.out.blk 2
  have r3 := yaa' H6.out.blk 3 (v := .slice none 0 0) rfl
  have g3 := yad' H6.out.blk 3
  have r4 := yaa' H6.out.blk 4 (v := .int .i64 0) rfl
  have g4 := yad' H6.out.blk 4
  have r5 := yaa' H6.out.blk 5 (v := .int .i64 0) rfl
  have g5 := yad' H6.out.blk 5
  have r6 := yaa' H6.out.blk 6 (v := .int .i64 0) rfl
  have g6 := yad' H6.out.blk 6
  have r7 := yaa' H6.out.blk 7 (v := .int .i64 0) rfl
  have g7 := yad' H6.out.blk 7
  have r8 := yaa' H6.out.blk 8 (v := .int .i64 0) rfl
  have g8 := yad' H6.out.blk 8
  have r9 := yaa' H6.out.blk 9 (v := .int .i64 0) rfl
  have g9 := yad' H6.out.blk 9
  have r10 := yaa' H6.out.blk 10 (v := .int .i64 0) rfl
  have g10 := yad' H6.out.blk 10
  have H7 := Lib.hid (H6.out.setAll [.int .i64 0, .string path, .string ⟨#[]⟩, .slice none 0 0, .int .i64 n.made, .int .i64 n.changed, .int .i64 n.ver, .int .i64 n.kids, .int .i64 n.owner, .int .i64 (n.data.size : Nat), .int .i64 (n.names.length : Nat)] rfl)
  have HU7 := Lib.hid (ycc' w6 b6 0 [.int .i64 0, .string path, .string ⟨#[]⟩, .slice none 0 0, .int .i64 n.made, .int .i64 n.changed, .int .i64 n.ver, .int .i64 n.kids, .int .i64 n.owner, .int .i64 (n.data.size : Nat), .int .i64 (n.names.length : Nat)])
  refine rL [8] 0 ?_
  simp only [List.filterMap_cons, List.filterMap_nil, k_i, k_j, k_k]
  go_upto_region 5 with fail
  go_name_world w7 hw7
  have H7 := Lib.hid (show Sep w0 w7 _ rows from by rw [← hw7]; exact H7.out)
  have HU7 := Lib.hid (show Upd w6 w7 [b6] [b6] from by rw [← hw7]; exact HU7.out)
  have c7 := (World.cell?_of_block (w := w6) (w' := w7) (a := ⟨x, 7, none⟩) (HU7.out.keep x (Nat.lt_trans HLT.out HSZ.out) (by have := HLT.out; simp; omega))).trans c7
  have c9 := (World.cell?_of_block (w := w6) (w' := w7) (a := ⟨x, 9, none⟩) (HU7.out.keep x (Nat.lt_trans HLT.out HSZ.out) (by have := HLT.out; simp; omega))).trans c9
  clear hw7 c0 r0 r1 r2 r3 r4 r5 r6 r7 r8 r9 r10 g0 g1 g2 g3 g4 g5 g6 g7 g8 g9 g10
  have e3 := H7.out.block (b := w.heap.size) (o := .cells #[.int .i64 kind, .string path, .string data, .int .i64 ver, .int .i64 flags] 89 (0, 0)) (by simp)
  have c0 := yaa' e3 0 (v := .int .i64 kind) rfl
  clear e3
  have r0 := yaa' H7.out.blk 0 (v := .int .i64 0) rfl
  have r1 := yaa' H7.out.blk 1 (v := .string path) rfl
  have r2 := yaa' H7.out.blk 2 (v := .string ⟨#[]⟩) rfl
  have r3 := yaa' H7.out.blk 3 (v := .slice none 0 0) rfl
  have r4 := yaa' H7.out.blk 4 (v := .int .i64 n.made) rfl
  have r5 := yaa' H7.out.blk 5 (v := .int .i64 n.changed) rfl
  have r6 := yaa' H7.out.blk 6 (v := .int .i64 n.ver) rfl
  have r7 := yaa' H7.out.blk 7 (v := .int .i64 n.kids) rfl
  have r8 := yaa' H7.out.blk 8 (v := .int .i64 n.owner) rfl
  have r9 := yaa' H7.out.blk 9 (v := .int .i64 (n.data.size : Nat)) rfl
  have r10 := yaa' H7.out.blk 10 (v := .int .i64 (n.names.length : Nat)) rfl
  by_cases hk5 : kind = 5
  ·subst hk5
   have g2 := yad' H7.out.blk 2
   have HX := H7
   have HY := Lib.hid (H7.out.set 2 (.string n.data))
   have HBT := (HX.out.pick 3 rfl rfl).blk
   have hne1 : w.heap.size + 1 ≠ b6 := by have := HLT10.out; omega
   have hne2 : b6 ≠ w.heap.size + 1 := by have := HLT10.out; omega
   have s0 := yaa' HBT 0 (v := .int .i64 0) rfl
   have t0 := yad' HBT 0
   have s1 := yaa' HBT 1 (v := .string ⟨#[]⟩) rfl
   have t1 := yad' HBT 1
   have s2 := yaa' HBT 2 (v := .string ⟨#[]⟩) rfl
   have t2 := yad' HBT 2
   have s3 := yaa' HBT 3 (v := .slice none 0 0) rfl
   have t3 := yad' HBT 3
   have s4 := yaa' HBT 4 (v := .int .i64 0) rfl
   have t4 := yad' HBT 4
   have s5 := yaa' HBT 5 (v := .int .i64 0) rfl
   have t5 := yad' HBT 5
   have s6 := yaa' HBT 6 (v := .int .i64 0) rfl
   have t6 := yad' HBT 6
   have s7 := yaa' HBT 7 (v := .int .i64 0) rfl
   have t7 := yad' HBT 7
   have s8 := yaa' HBT 8 (v := .int .i64 0) rfl
   have t8 := yad' HBT 8
   have s9 := yaa' HBT 9 (v := .int .i64 0) rfl
   have t9 := yad' HBT 9
   have s10 := yaa' HBT 10 (v := .int .i64 0) rfl
   have t10 := yad' HBT 10
   have HF := Lib.hid ((HY.out.pick 3 rfl rfl).setAll [.int .i64 0, .string path, .string n.data, (.slice none 0 0), .int .i64 n.made, .int .i64 n.changed, .int .i64 n.ver, .int .i64 n.kids, .int .i64 n.owner, .int .i64 (n.data.size : Nat), .int .i64 (n.names.length : Nat)] rfl)
   clear HBT
   go_wp2_with fail
   refine bodyPost_ret (ycj' rfl _ rfl HF.out.blk Tryz.underlying115 (by kernel_rfl)) rfl ?_
   have hS := (HF.out.drop.drop.pick 2 rfl rfl).drop
   rw [← HC.out]
   exact ⟨.slice none 0 0, (1, .slice none 0 0, []) :: P, rfl, fun q hq => k_n _ hq, k_s, (yaz' ((hS.poolNil 1).perm (List.Perm.swap _ _ _)) (P' := (1, .slice none 0 0, []) :: P) (fun q hq => k_n _ hq)).perm (List.Perm.swap _ _ _)⟩
  by_cases hk7 : kind = 7
  ·subst hk7
   have HC := Lib.hid (show (⟨0, path, ⟨#[]⟩, n.names, n.st⟩ : ResS) = rr from HC.out)
   obtain ⟨E, hE⟩ := (H7.out.pick 1 rfl rfl).poolGet HNV.out
   obtain ⟨na, nn, nc, rfl, -⟩ := id hE
   have HCL := Lib.hid (yef' _ n.names E w7 hE (by have := HOK.out.few; omega))
   clear hE
   go_wp2_with fail
   refine HCL.out.mono ?_
   rintro e w8 ⟨v2, D2, rfl, ho2, hu2⟩
   obtain ⟨a2, n2, k2, rfl, -⟩ := id ho2
   have h8 := ((((H7.out.addRow ho2 hu2).pick 2 rfl rfl).perm (List.Perm.swap _ _ _)).poolRow).pick 2 rfl rfl
   have HX := Lib.hid ((yaz' h8 (P' := (1, .slice a2 n2 k2, n.names.map sv) :: P) (fun q hq => k_n _ hq)).perm ((List.Perm.cons _ (List.Perm.swap _ _ _)).trans (List.perm_middle (l₁ := [_, _])).symm))
   clear r0 r1 r2 r3 r4 r5 r6 r7 r8 r9 r10 c0 c7 c9 h8 ho2 hu2 HCL
   have r0 := yaa' HX.out.blk 0 (v := .int .i64 0) rfl
   have r1 := yaa' HX.out.blk 1 (v := .string path) rfl
   have r2 := yaa' HX.out.blk 2 (v := .string ⟨#[]⟩) rfl
   have r3 := yaa' HX.out.blk 3 (v := .slice none 0 0) rfl
   have r4 := yaa' HX.out.blk 4 (v := .int .i64 n.made) rfl
   have r5 := yaa' HX.out.blk 5 (v := .int .i64 n.changed) rfl
   have r6 := yaa' HX.out.blk 6 (v := .int .i64 n.ver) rfl
   have r7 := yaa' HX.out.blk 7 (v := .int .i64 n.kids) rfl
   have r8 := yaa' HX.out.blk 8 (v := .int .i64 n.owner) rfl
   have r9 := yaa' HX.out.blk 9 (v := .int .i64 (n.data.size : Nat)) rfl
   have r10 := yaa' HX.out.blk 10 (v := .int .i64 (n.names.length : Nat)) rfl
   have g3 := yad' HX.out.blk 3
   have HY := Lib.hid (HX.out.set 3 (.slice a2 n2 k2))
   have HBT := (HX.out.pick 3 rfl rfl).blk
   have hne1 : w.heap.size + 1 ≠ b6 := by have := HLT10.out; omega
   have hne2 : b6 ≠ w.heap.size + 1 := by have := HLT10.out; omega
   have s0 := yaa' HBT 0 (v := .int .i64 0) rfl
   have t0 := yad' HBT 0
   have s1 := yaa' HBT 1 (v := .string ⟨#[]⟩) rfl
   have t1 := yad' HBT 1
   have s2 := yaa' HBT 2 (v := .string ⟨#[]⟩) rfl
   have t2 := yad' HBT 2
   have s3 := yaa' HBT 3 (v := .slice none 0 0) rfl
   have t3 := yad' HBT 3
   have s4 := yaa' HBT 4 (v := .int .i64 0) rfl
   have t4 := yad' HBT 4
   have s5 := yaa' HBT 5 (v := .int .i64 0) rfl
   have t5 := yad' HBT 5
   have s6 := yaa' HBT 6 (v := .int .i64 0) rfl
   have t6 := yad' HBT 6
   have s7 := yaa' HBT 7 (v := .int .i64 0) rfl
   have t7 := yad' HBT 7
   have s8 := yaa' HBT 8 (v := .int .i64 0) rfl
   have t8 := yad' HBT 8
   have s9 := yaa' HBT 9 (v := .int .i64 0) rfl
   have t9 := yad' HBT 9
   have s10 := yaa' HBT 10 (v := .int .i64 0) rfl
   have t10 := yad' HBT 10
   have HF := Lib.hid ((HY.out.pick 3 rfl rfl).setAll [.int .i64 0, .string path, .string ⟨#[]⟩, (.slice a2 n2 k2), .int .i64 n.made, .int .i64 n.changed, .int .i64 n.ver, .int .i64 n.kids, .int .i64 n.owner, .int .i64 (n.data.size : Nat), .int .i64 (n.names.length : Nat)] rfl)
   clear HBT
   go_wp2_with fail
   refine bodyPost_ret (ycj' rfl _ rfl HF.out.blk Tryz.underlying115 (by kernel_rfl)) rfl ?_
   have hS := (HF.out.drop.drop.pick 2 rfl rfl).drop
   rw [← HC.out]
   exact ⟨.slice a2 n2 k2, _, rfl, fun q hq => k_n _ hq, k_s, hS⟩
  have q5 : (kind == 5) = false := by rw [beq_eq_false_iff_ne]; exact hk5
  have q7 : (kind == 7) = false := by rw [beq_eq_false_iff_ne]; exact hk7
  have HX := H7
  have HY := H7
  have HC := Lib.hid (show (⟨0, path, ⟨#[]⟩, [], n.st⟩ : ResS) = rr by have := HC.out; rw [q5, q7] at this; exact this)
  have HBT := (HX.out.pick 3 rfl rfl).blk
  have hne1 : w.heap.size + 1 ≠ b6 := by have := HLT10.out; omega
  have hne2 : b6 ≠ w.heap.size + 1 := by have := HLT10.out; omega
  have s0 := yaa' HBT 0 (v := .int .i64 0) rfl
  have t0 := yad' HBT 0
  have s1 := yaa' HBT 1 (v := .string ⟨#[]⟩) rfl
  have t1 := yad' HBT 1
  have s2 := yaa' HBT 2 (v := .string ⟨#[]⟩) rfl
  have t2 := yad' HBT 2
  have s3 := yaa' HBT 3 (v := .slice none 0 0) rfl
  have t3 := yad' HBT 3
  have s4 := yaa' HBT 4 (v := .int .i64 0) rfl
  have t4 := yad' HBT 4
  have s5 := yaa' HBT 5 (v := .int .i64 0) rfl
  have t5 := yad' HBT 5
  have s6 := yaa' HBT 6 (v := .int .i64 0) rfl
  have t6 := yad' HBT 6
  have s7 := yaa' HBT 7 (v := .int .i64 0) rfl
  have t7 := yad' HBT 7
  have s8 := yaa' HBT 8 (v := .int .i64 0) rfl
  have t8 := yad' HBT 8
  have s9 := yaa' HBT 9 (v := .int .i64 0) rfl
  have t9 := yad' HBT 9
  have s10 := yaa' HBT 10 (v := .int .i64 0) rfl
  have t10 := yad' HBT 10
  have HF := Lib.hid ((HY.out.pick 3 rfl rfl).setAll [.int .i64 0, .string path, .string ⟨#[]⟩, (.slice none 0 0), .int .i64 n.made, .int .i64 n.changed, .int .i64 n.ver, .int .i64 n.kids, .int .i64 n.owner, .int .i64 (n.data.size : Nat), .int .i64 (n.names.length : Nat)] rfl)
  clear HBT
  go_wp2_with fail
  refine bodyPost_ret (ycj' rfl _ rfl HF.out.blk Tryz.underlying115 (by kernel_rfl)) rfl ?_
  have hS := (HF.out.drop.drop.pick 2 rfl rfl).drop
  rw [← HC.out]
  exact ⟨.slice none 0 0, (1, .slice none 0 0, []) :: P, rfl, fun q hq => k_n _ hq, k_s, (yaz' ((hS.poolNil 1).perm (List.Perm.swap _ _ _)) (P' := (1, .slice none 0 0, []) :: P) (fun q hq => k_n _ hq)).perm (List.Perm.swap _ _ _)⟩
end
end Go.Proofs.YtcnkifbjlihaoaaGreatDoor

namespace Go.Av
open Go.RowKit
def ThL (N : List Thing) : Thing := Bun (fun L => L = N)
section
variable {w0 w : World} {R N : List Thing} {rows : List (Value × Bs)}
theorem Sep.opensL (h : Sep w0 w (ThL N :: R) rows) : Sep w0 w (N ++ R) rows := by
 obtain ⟨L, hL, h'⟩ := h.opens
 subst hL
 exact h'
theorem Sep.shutL (h : Sep w0 w (N ++ R) rows) : Sep w0 w (ThL N :: R) rows := Sep.shut (O := fun L => L = N) rfl h
end
theorem yfp' (A N R : List Thing) : (A ++ (N ++ R)).Perm (N ++ (A ++ R)) := by
 rw [← List.append_assoc, ← List.append_assoc]
 exact List.perm_append_comm.append_right R
theorem ynd' {p : Bs} {n : NodeS} {l : NoL} (hn : (l.map (·.1)).Nodup) (h : yal' p l = some n) : setT p n l = l := by
 unfold setT
 conv => rhs; rw [← List.map_id l]
 apply List.map_congr_left
 intro e he
 by_cases hp : e.1 = p
 ·rw [if_pos hp]
  have h1 : (p, e.2) ∈ l := by rw [← hp]; exact he
  have h2 := (ybm' hn).2 h1
  rw [h] at h2
  injection h2 with h2
  subst h2
  rfl
 ·rw [if_neg hp]; rfl
end Go.Av
namespace Go.Proofs.YtcnkifbjlihaoaaGreatDoor
open Go.RowKit Go.Av
section
variable {w0 w : World} {t : Nat} {S : TreeS} {P P' : List PRow} {R : List Thing} {rows : List (Value × Bs)}
abbrev yc7' (t m : Nat) (room : Int) : Thing := yac' t (.cells #[.int .i64 room, .map (some m)] 213 (0, 0))
abbrev yf2' (x : Nat) (n : NodeS) (nv : Value) : Thing := yac' x (.cells (n.cells nv) 172 (0, 0))
theorem yuh' (h : Sep w0 w (yaj' t S P :: R) rows) {p : Bs} {n : NodeS} (hl : yal' p S.l = some n) :
  ∃ m x nv kvs N, (1, nv, n.names.map sv) ∈ P ∧ (sv p, Value.pointer (some ⟨x, 0, none⟩)) ∈ kvs ∧ Sep w0 w (yf2' x n nv :: yc7' t m S.room :: yam' .string m kvs :: ThL N :: R) rows ∧
   ∀ w' n' nv' P' R', (∀ r ∈ P, r ∈ P') → (1, nv', n'.names.map sv) ∈ P' → Sep w0 w' (yf2' x n' nv' :: yc7' t m S.room :: yam' .string m kvs :: ThL N :: R') rows → Sep w0 w' (yaj' t { S with l := setT p n' S.l } P' :: R') rows := by
 obtain ⟨L, ⟨m, gs, rfl, h1, h2, h3⟩, hS⟩ := h.opens
 have hm := (ybm' (ybh' h2)).1 hl
 obtain ⟨g, hg, he⟩ := List.mem_map.1 (h1.mem_iff.2 hm)
 obtain ⟨l1, l2, rfl⟩ := List.append_of_mem hg
 obtain ⟨hk1, hk2⟩ := Prod.mk.inj he
 have hk1 : g.key = p := hk1
 have hk2 : g.n = n := hk2
 subst hk1 hk2
 have hnd := yej' h1 h2
 have e : ∀ (g : NodeG) (R : List Thing), (NodeG.th g :: yc7' t m S.room :: yam' .string m ((l1 ++ g :: l2).map NodeG.kv) :: ((l1 ++ l2).map NodeG.th ++ R)).Perm (trTh t m S.room (l1 ++ g :: l2) ++ R) := fun g R => by
  unfold trTh
  exact (ygt' [yc7' t m S.room, yam' .string m ((l1 ++ g :: l2).map NodeG.kv)] l1 l2 g R).symm
 refine ⟨m, g.blk, g.nv, (l1 ++ g :: l2).map NodeG.kv, (l1 ++ l2).map NodeG.th, h3 g hg, List.mem_map.2 ⟨g, hg, rfl⟩, ?_, fun w' n' nv' P' R' hP hnv hS' => ?_⟩
 ·have h5 := hS.perm (e g R).symm
  exact (Sep.shutL (N := (l1 ++ l2).map NodeG.th) (h5.perm (yfp' [NodeG.th g, yc7' t m S.room, yam' .string m ((l1 ++ g :: l2).map NodeG.kv)] _ R))).perm (List.perm_middle (l₁ := [_, _, _])).symm
 ·refine Sep.shut (O := TrO t { S with l := setT g.key n' S.l } P') (L := trTh t m S.room (l1 ++ ⟨g.blk, g.key, n', nv'⟩ :: l2)) ⟨m, _, rfl, ?_, yg1' h2, fun x hx => ?_⟩ ?_
  ·rw [yor' (g := g) (g' := ⟨g.blk, g.key, n', nv'⟩) rfl hnd]
   exact h1.map _
  ·rcases List.mem_append.1 hx with hx | hx
   ·exact hP _ (h3 x (by simp [hx]))
   ·rcases List.mem_cons.1 hx with rfl | hx
    ·exact hnv
    ·exact hP _ (h3 x (by simp [hx]))
  ·have h6 := (hS'.perm (List.perm_middle (l₁ := [_, _, _]))).opensL
   have h7 : Sep w0 w' (yf2' g.blk n' nv' :: yc7' t m S.room :: yam' .string m ((l1 ++ g :: l2).map NodeG.kv) :: ((l1 ++ l2).map NodeG.th ++ R')) rows := h6.perm (yfp' [_, _, _] _ R').symm
   have hkv : (l1 ++ (⟨g.blk, g.key, n', nv'⟩ : NodeG) :: l2).map NodeG.kv = (l1 ++ g :: l2).map NodeG.kv := by simp [NodeG.kv]
   have h9 := e ⟨g.blk, g.key, n', nv'⟩ R'
   rw [hkv] at h9
   exact h7.perm h9
theorem yw3' (h : Sep w0 w (yaj' t S P :: R) rows) {p : Bs} (hl : yal' p S.l = none) :
  ∃ m kvs N, (∀ e ∈ kvs, e.1 ≠ sv p) ∧ Sep w0 w (yc7' t m S.room :: yam' .string m kvs :: ThL N :: R) rows ∧
   ∀ w' P' R', (∀ r ∈ P, r ∈ P') → Sep w0 w' (yc7' t m S.room :: yam' .string m kvs :: ThL N :: R') rows → Sep w0 w' (yaj' t S P' :: R') rows := by
 obtain ⟨L, ⟨m, gs, rfl, h1, h2, h3⟩, hS⟩ := h.opens
 refine ⟨m, gs.map NodeG.kv, gs.map NodeG.th, fun q hq e => ?_, ?_, fun w' P' R' hP hS' => ?_⟩
 ·obtain ⟨g, hg, rfl⟩ := List.mem_map.1 hq
  exact ydn'.1 hl g.ent (h1.mem_iff.1 (List.mem_map_of_mem hg)) (yg6' e)
 ·refine (Sep.shutL (N := gs.map NodeG.th) (R := yc7' t m S.room :: yam' .string m (gs.map NodeG.kv) :: R) (hS.perm ?_)).perm (List.perm_middle (l₁ := [_, _])).symm
  exact yfp' [_, _] _ R
 ·refine Sep.shut (O := TrO t S P') (L := trTh t m S.room gs) ⟨m, gs, rfl, h1, h2, fun g hg => hP _ (h3 g hg)⟩ ?_
  have h6 := (hS'.perm (List.perm_middle (l₁ := [_, _]))).opensL
  exact h6.perm (yfp' [_, _] _ R').symm
theorem ypg' {Ts : List Thing} {m x : Nat} {kvs : List (Value × Value)} (H : Hid (Sep w0 w Ts rows)) (s : ByteArray) (hm : yam' .string m kvs ∈ Ts) (hk : (sv s.data.toList, Value.pointer (some ⟨x, 0, none⟩)) ∈ kvs) :
  (Instr.lookup 210 (.map (some m)) (.string s) false).run Tryz.prog w = .ok (.pointer (some ⟨x, 0, none⟩)) w := by
 obtain ⟨E, hM, -⟩ := H.out.has hm
 exact yf8' hM Tryz.underlying210 Tryz.underlying9 (key := .string s) trivial hk false
theorem ysw' {Ts : List Thing} {m : Nat} {kvs : List (Value × Value)} (H : Hid (Sep w0 w Ts rows)) (s : ByteArray) (hm : yam' .string m kvs ∈ Ts) (hk : ∀ e ∈ kvs, e.1 ≠ sv s.data.toList) :
  (Instr.lookup 210 (.map (some m)) (.string s) false).run Tryz.prog w = .ok (.pointer none) w := by
 obtain ⟨E, hM, -⟩ := H.out.has hm
 exact yfq' hM Tryz.underlying210 Tryz.underlying9 (key := .string s) trivial hk (yp6' _) false
end
end Go.Proofs.YtcnkifbjlihaoaaGreatDoor

namespace Go.Av
def yby' (S : TreeS) (o : OpS) (zxid : Int) : ResS × TreeS := match yal' o.p S.l with
 | none => (yb3' 4, S)
 | some n =>
  if yf4' o n = true then (yb3' 6, S)
  else if o.kind = 2 ∧ 0 < n.names.length then (yb3' 7, S)
  else if o.kind = 2 then (⟨0, o.path, ⟨#[]⟩, [], noSt⟩, { S with l := remT o.p S.l })
  else if o.kind = 3 then (⟨0, o.path, ⟨#[]⟩, [], (ycu' n zxid o.data).st⟩, { S with l := setT o.p (ycu' n zxid o.data) S.l })
  else (⟨0, o.path, ⟨#[]⟩, [], noSt⟩, S)
end Go.Av
namespace Go.Proofs.YtcnkifbjlihaoaaGreatDoor
open Go.RowKit Go.Av
section
variable {w0 w : World} {t : Nat} {S : TreeS} {P P' : List PRow} {R : List Thing} {rows : List (Value × Bs)}
theorem ydw' {S' : TreeS} {r : ResS} (hr : r.names = []) (h : Sep w0 w (yab' w0 P :: yaj' t S' P :: R) rows) : yhf' w0 t S' P R rows r (.returned (.agg (r.cells (.slice none 0 0)))) w :=
 ⟨.slice none 0 0, (1, .slice none 0 0, []) :: P, rfl, fun q hq => k_n _ hq, by rw [hr]; exact k_s, (yaz' ((h.poolNil 1).perm (List.Perm.swap _ _ _)) (P' := (1, .slice none 0 0, []) :: P) (fun q hq => k_n _ hq)).perm (List.Perm.swap _ _ _)⟩
set_option maxRecDepth 100000 in
set_option maxHeartbeats 4000000 in
theorem yhg' (h : Sep w0 w (yab' w0 P :: yaj' t S P :: R) rows) (hd : DoorN w0) (o : OpS) (hp : o.path.size ≤ 100000) (hdt : o.data.size ≤ 100000) (zxid : Int) (only : Bool) (hok : ∀ e ∈ S.l, NodeOk e.2) :
  Calls Tryz.prog 215 #[.pointer (some ⟨t, 0, none⟩), o.val, .int .i64 zxid, .bool only] w (yhf' w0 t (if only then S else (yby' S o zxid).2) P R rows (yby' S o zxid).1) := by
 have HND := Lib.hid (yc8' (h.perm (List.Perm.swap _ _ _)))
 obtain ⟨kind, path, data, ver, flags⟩ := o
 unfold OpS.val
 dsimp only at hp hdt ⊢
 have hsw : Sep w0 w (yaj' t S P :: yab' w0 P :: R) rows := h.perm (List.Perm.swap _ _ _)
 obtain ⟨rr, hrr⟩ : ∃ rr, yby' S ⟨kind, path, data, ver, flags⟩ zxid = rr := ⟨_, rfl⟩
 rw [hrr]
 obtain ⟨S', hS'⟩ : ∃ S', (if only = true then S else rr.2) = S' := ⟨_, rfl⟩
 rw [hS']
 have HS' := Lib.hid hS'
 clear hS' h
 cases hlk : yal' path.data.toList S.l with
 | none =>
  have HE := Lib.hid (show rr = (yb3' 4, S) by rw [← hrr]; unfold yby' OpS.p; simp only [hlk])
  obtain ⟨m, kvs, N, hk, hS, back⟩ := yw3' hsw hlk
  have HX := Lib.hid hS
  have HB := Lib.hid back
  have HK := Lib.hid hk
  clear hk hS back hlk hsw hrr
  go_enter Tryz.func215, Tryz.ntmps215
  go_wp2_with (first | refine v1 ?_ | (refine vS ?_; clear HX; intro w HX) | (refine vA ?_; clear HX; (first | (have hq := b; clear hq; intro w b2 HX) | intro w b HX)))
  refine yao' (fun W => W = w.drew) 8 (by kernel_rfl) ?_
  replace HX := Lib.hid HX.out.drew
  generalize w.drew = w at HX ⊢
  have hkd := ysw' HX path (by (repeat (first | (with_reducible exact k_s) | (with_reducible apply k_m)))) HK.out
  refine rT [(0, false), (1, false), (2, false), (3, true), (4, false), (5, true), (6, true), (7, false)] 0 ?_
  apply Exists.intro; refine ⟨?_, rfl, ?_⟩
  ·iterate 8 (refine yD ?_)
   exact rfl
  refine yag' (by kernel_rfl) ?_ _
  clear hkd
  go_wp2_with (first | refine v1 ?_ | (refine vS ?_; clear HX; intro w HX) | (refine vA ?_; clear HX; (first | (have hq := b; clear hq; intro w b2 HX) | intro w b HX)))
  refine (yd4' _ _).mono ?_
  rintro e w ⟨rfl, hu⟩
  replace HX := Lib.hid (HX.out.keep hu)
  clear hu
  simp only [ResS.cells, yb3', noSt]
  go_wp2_with (first | refine v1 ?_ | (refine vS ?_; clear HX; intro w HX) | (refine vA ?_; clear HX; (first | (have hq := b; clear hq; intro w b2 HX) | intro w b HX)))
  refine ya9' HX rfl rfl (by (repeat (first | (with_reducible exact k_s) | (with_reducible apply k_m)))) (by kernel_rfl) ?_
  have h9 := (HB.out _ P _ (fun _ h => h) (HX.out.drop.drop)).perm (List.Perm.swap _ _ _)
  rw [← HS'.out, HE.out]
  refine ydw' rfl ?_
  cases only <;> exact h9
 | some n =>
  have HRX := Lib.hid (show (if yf4' ⟨kind, path, data, ver, flags⟩ n = true then (yb3' 6, S)
   else if kind = 2 ∧ 0 < n.names.length then (yb3' 7, S)
   else if kind = 2 then (⟨0, path, ⟨#[]⟩, [], noSt⟩, { S with l := remT path.data.toList S.l })
   else if kind = 3 then (⟨0, path, ⟨#[]⟩, [], (ycu' n zxid data).st⟩, { S with l := setT path.data.toList (ycu' n zxid data) S.l })
   else (⟨0, path, ⟨#[]⟩, [], noSt⟩, S)) = rr by rw [← hrr]; unfold yby' OpS.p; simp only [hlk])
  obtain ⟨m, x, nv, kvs, N, hnv, hk, hS, back⟩ := yuh' hsw hlk
  have HB := Lib.hid (show ∀ w' P' R', (∀ r ∈ P, r ∈ P') → Sep w0 w' (yf2' x n nv :: yc7' t m S.room :: yam' .string m kvs :: ThL N :: R') rows → Sep w0 w' (yaj' t S P' :: R') rows from fun w' P' R' hP hh => by
   have := back w' n nv P' R' hP (hP _ hnv) hh
   rw [ynd' HND.out hlk] at this
   exact this)
  obtain ⟨E, hE⟩ := (hS.pick 4 rfl rfl).poolGet hnv
  obtain ⟨na, nn, nc, rfl, hnn, -⟩ := id hE
  rw [List.length_map, Nat.mul_one] at hnn
  subst hnn
  have HX := Lib.hid hS
  have HK := Lib.hid hk
  have HNV := Lib.hid hnv
  have HLK := Lib.hid hlk
  have HOK := Lib.hid (hok _ ((ybm' HND.out).1 hlk))
  obtain ⟨wr, hwr⟩ : ∃ z, yf4' ⟨kind, path, data, ver, flags⟩ n = z := ⟨_, rfl⟩
  rw [hwr] at HRX
  have HWR := Lib.hid hwr
  clear hk hS back hlk hsw hrr hnv hE hwr
  go_enter Tryz.func215, Tryz.ntmps215
  go_wp2_with (first | refine v1 ?_ | (refine vS ?_; clear HX; intro w HX) | (refine vA ?_; clear HX; (first | (have hq := b; clear hq; intro w b2 HX) | intro w b HX)))
  refine yao' (fun W => W = w.drew) 8 (by kernel_rfl) ?_
  replace HX := Lib.hid HX.out.drew
  generalize w.drew = w at HX ⊢
  have hkd := ypg' HX path (by (repeat (first | (with_reducible exact k_s) | (with_reducible apply k_m)))) HK.out
  refine rT [(0, false), (1, false), (2, false), (3, true), (4, false), (5, true), (6, true), (7, false)] 0 ?_
  apply Exists.intro; refine ⟨?_, rfl, ?_⟩
  ·iterate 8 (refine yD ?_)
   exact rfl
  refine yag' (by kernel_rfl) ?_ _
  clear hkd
  go_wp2_with (first | refine v1 ?_ | (refine vS ?_; clear HX; intro w HX) | (refine vA ?_; clear HX; (first | (have hq := b; clear hq; intro w b2 HX) | intro w b HX)))
  refine (yur' ⟨kind, path, data, ver, flags⟩ x n _ _ (HX.out.block (by (repeat (first | (with_reducible exact k_s) | (with_reducible apply k_m)))))).mono ?_
  rintro e w ⟨rfl, hu⟩
  rw [HWR.out]
  replace HX := Lib.hid (HX.out.keep hu)
  clear hu
  cases wr with
  | true =>
   have HE := Lib.hid (show rr = (yb3' 6, S) from HRX.out.symm)
   go_wp2_with (first | refine v1 ?_ | (refine vS ?_; clear HX; intro w HX) | (refine vA ?_; clear HX; (first | (have hq := b; clear hq; intro w b2 HX) | intro w b HX)))
   refine (yd4' _ _).mono ?_
   rintro e w ⟨rfl, hu⟩
   replace HX := Lib.hid (HX.out.keep hu)
   clear hu
   simp only [ResS.cells, yb3', noSt]
   go_wp2_with (first | refine v1 ?_ | (refine vS ?_; clear HX; intro w HX) | (refine vA ?_; clear HX; (first | (have hq := b; clear hq; intro w b2 HX) | intro w b HX)))
   refine ya9' HX rfl rfl (by (repeat (first | (with_reducible exact k_s) | (with_reducible apply k_m)))) (by kernel_rfl) ?_
   have h9 := (HB.out _ P _ (fun _ h => h) (HX.out.drop.drop)).perm (List.Perm.swap _ _ _)
   rw [← HS'.out, HE.out]
   refine ydw' rfl ?_
   cases only <;> exact h9
  | false =>
   have HRY := Lib.hid (show (if kind = 2 ∧ 0 < n.names.length then (yb3' 7, S)
    else if kind = 2 then (⟨0, path, ⟨#[]⟩, [], noSt⟩, { S with l := remT path.data.toList S.l })
    else if kind = 3 then (⟨0, path, ⟨#[]⟩, [], (ycu' n zxid data).st⟩, { S with l := setT path.data.toList (ycu' n zxid data) S.l })
    else (⟨0, path, ⟨#[]⟩, [], noSt⟩, S)) = rr from HRX.out)
   clear HRX
   by_cases hk2 : kind = 2
   ·subst hk2
    by_cases hl7 : 0 < n.names.length
    ·have HE := Lib.hid (show rr = (yb3' 7, S) by rw [← HRY.out, if_pos ⟨rfl, hl7⟩])
     have q7 : decide (0 < ((n.names.length : Nat) : Int)) = true := decide_eq_true (by omega)
     have q7' : decide (0 < n.names.length) = true := decide_eq_true hl7
     clear HRY hl7
     go_wp2_with (first | refine v1 ?_ | (refine vS ?_; clear HX; intro w HX) | (refine vA ?_; clear HX; (first | (have hq := b; clear hq; intro w b2 HX) | intro w b HX)))
     refine (yd4' _ _).mono ?_
     rintro e w ⟨rfl, hu⟩
     replace HX := Lib.hid (HX.out.keep hu)
     clear hu
     simp only [ResS.cells, yb3', noSt]
     go_wp2_with (first | refine v1 ?_ | (refine vS ?_; clear HX; intro w HX) | (refine vA ?_; clear HX; (first | (have hq := b; clear hq; intro w b2 HX) | intro w b HX)))
     refine ya9' HX rfl rfl (by (repeat (first | (with_reducible exact k_s) | (with_reducible apply k_m)))) (by kernel_rfl) ?_
     have h9 := (HB.out _ P _ (fun _ h => h) (HX.out.drop.drop)).perm (List.Perm.swap _ _ _)
     rw [← HS'.out, HE.out]
     refine ydw' rfl ?_
     cases only <;> exact h9
    ·have HE := Lib.hid (show rr = (⟨0, path, ⟨#[]⟩, [], noSt⟩, { S with l := remT path.data.toList S.l }) by rw [← HRY.out, if_neg (fun h => hl7 h.2), if_pos rfl])
     have q7 : decide (0 < ((n.names.length : Nat) : Int)) = false := decide_eq_false (by omega)
     have q7' : decide (0 < n.names.length) = false := decide_eq_false hl7
     clear HRY hl7
     cases only with
     | true =>
      go_wp2_with (first | refine v1 ?_ | (refine vS ?_; clear HX; intro w HX) | (refine vA ?_; clear HX; (first | (have hq := b; clear hq; intro w b2 HX) | intro w b HX)))
      refine ya9' HX rfl rfl (by (repeat (first | (with_reducible exact k_s) | (with_reducible apply k_m)))) (by kernel_rfl) ?_
      have h9 := (HB.out _ P _ (fun _ h => h) (HX.out.drop.drop.drop)).perm (List.Perm.swap _ _ _)
      rw [← HS'.out, HE.out]
      exact ydw' (r := ⟨0, path, ⟨#[]⟩, [], noSt⟩) rfl h9
     | false =>
      go_wp2_with (first | refine v1 ?_ | (refine vS ?_; clear HX; intro w HX) | (refine vA ?_; clear HX; (first | (have hq := b; clear hq; intro w b2 HX) | intro w b HX)))
      have h8 := HB.out _ P _ (fun _ h => h) HX.out.back3x
      have h9 := Sep.up4 h8
      clear h8
      refine (yf3' h9 hd path hp hok).mono ?_
      rintro e w ⟨rfl, P', hP', h8⟩
      clear HX h9
      have HX := Lib.hid h8
      clear h8
      go_wp2_with (first | refine v1 ?_ | (refine vS ?_; clear HX; intro w HX) | (refine vA ?_; clear HX; (first | (have hq := b; clear hq; intro w b2 HX) | intro w b HX)))
      refine ya9' HX rfl rfl (by (repeat (first | (with_reducible exact k_s) | (with_reducible apply k_m)))) (by kernel_rfl) ?_
      have h9 := HX.out.cut2.cut2.cut2
      rw [← HS'.out, HE.out]
      obtain ⟨nv', P9, h1, h2, h3, h4⟩ := ydw' (r := ⟨0, path, ⟨#[]⟩, [], noSt⟩) rfl h9
      exact ⟨nv', P9, h1, fun r hr => h2 r (hP' r hr), h3, h4⟩
   have HRZ := Lib.hid (show (if kind = 3 then (⟨0, path, ⟨#[]⟩, [], (ycu' n zxid data).st⟩, { S with l := setT path.data.toList (ycu' n zxid data) S.l })
    else (⟨0, path, ⟨#[]⟩, [], noSt⟩, S) : ResS × TreeS) = rr by have := HRY.out; rw [if_neg (fun h => hk2 h.1), if_neg hk2] at this; exact this)
   have q2 : (kind == 2) = false := by rw [beq_eq_false_iff_ne]; exact hk2
   clear HRY hk2
   by_cases hk3 : kind = 3
   ·subst hk3
    have HE := Lib.hid (show rr = (⟨0, path, ⟨#[]⟩, [], (ycu' n zxid data).st⟩, { S with l := setT path.data.toList (ycu' n zxid data) S.l }) by rw [← HRZ.out, if_pos rfl])
    clear HRZ
    go_wp2_with (first | refine v1 ?_ | (refine vS ?_; clear HX; intro w HX) | (refine vA ?_; clear HX; (first | (have hq := b; clear hq; intro w b2 HX) | intro w b HX)))
    obtain ⟨E, hE⟩ := (HX.out.pick 7 rfl rfl).poolGet HNV.out
    refine (yhh' n _ w E hE (by have := HOK.out.few; omega)).mono ?_
    rintro e w ⟨v2, D2, rfl, ho2, hu2⟩
    obtain ⟨a2, n2, k2, rfl, -⟩ := id ho2
    replace HX := Lib.hid (HX.out.addRow ho2 hu2)
    clear ho2 hu2 hE
    simp only [NodeS.val, NodeS.cells]
    go_wp2_with (first | refine v1 ?_ | (refine vS ?_; clear HX; intro w HX) | (refine vA ?_; clear HX; (first | (have hq := b; clear hq; intro w b2 HX) | intro w b HX)))
    refine (yuq' (n := n) (nv := .slice a2 n2 k2) HX.out zxid data HOK.out.ver.1 hdt).mono ?_
    rintro e w ⟨rfl, hx9⟩
    replace HX := Lib.hid hx9
    clear hx9
    cases only with
    | true =>
     go_wp2_with (first | refine v1 ?_ | (refine vS ?_; clear HX; intro w HX) | (refine vA ?_; clear HX; (first | (have hq := b; clear hq; intro w b2 HX) | intro w b HX)))
     refine ya9' HX rfl rfl (by (repeat (first | (with_reducible exact k_s) | (with_reducible apply k_m)))) (by kernel_rfl) ?_
     have h8 := HB.out _ P _ (fun _ h => h) HX.out.back5x
     have h9 := Sep.up1 h8.cut1.cut1.cut1.cut1.cut1
     rw [← HS'.out, HE.out]
     exact ydw' (r := ⟨0, path, ⟨#[]⟩, [], (ycu' n zxid data).st⟩) rfl h9
    | false =>
     have h8 := (HB.out _ P _ (fun _ h => h) HX.out.back5x)
     have h9 := (Sep.up6 (Sep.up2 h8)).perm (List.Perm.swap _ _ _)
     have h10 := (yaz' (Sep.up1 h9.poolRow) (P' := (1, .slice a2 n2 k2, n.names.map sv) :: P) (fun q hq => k_n _ hq)).up1.up2
     replace HX := Lib.hid h10
     clear h8 h9 h10
     go_wp2_with (first | refine v1 ?_ | (refine vS ?_; clear HX; intro w HX) | (refine vA ?_; clear HX; (first | (have hq := b; clear hq; intro w b2 HX) | intro w b HX)))
     refine yao' (fun W => W = w.drew) 6 (by kernel_rfl) ?_
     replace HX := Lib.hid HX.out.drew
     generalize w.drew = w at HX ⊢
     obtain ⟨m9, w9, hc9, hrun9, h9⟩ := yw4' HX.out k_s path HLK.out
     refine rT [(0, false), (1, false), (2, false), (3, true), (4, false), (5, true)] 1 ?_
     apply Exists.intro; refine ⟨?_, rfl, ?_⟩
     ·iterate 6 (refine yD ?_)
      exact rfl
     refine yoy' (fuel := 0) (i := 6) (by rfl) (by kernel_rfl) (by rfl) (fun K hK => ?_)    -- mapUpdate
     replace HX := Lib.hid h9
     clear h9
     go_wp2_with fail
     refine yag' (by kernel_rfl) ?_ _
     go_wp2_with (first | refine v1 ?_ | (refine vS ?_; clear HX; intro w HX) | (refine vA ?_; clear HX; (first | (have hq := b; clear hq; intro w b2 HX) | intro w b HX)))
     refine ya9' HX rfl rfl (by (repeat (first | (with_reducible exact k_s) | (with_reducible apply k_m)))) (by kernel_rfl) ?_
     have h9 := HX.out.cut2.cut2.cut2
     rw [← HS'.out, HE.out]
     obtain ⟨nv', P9, h1, h2, h3, h4⟩ := ydw' (r := ⟨0, path, ⟨#[]⟩, [], (ycu' n zxid data).st⟩) rfl h9
     exact ⟨nv', P9, h1, fun r hr => h2 r (k_n _ hr), h3, h4⟩
   have q3 : (kind == 3) = false := by rw [beq_eq_false_iff_ne]; exact hk3
   have HE := Lib.hid (show rr = (⟨0, path, ⟨#[]⟩, [], noSt⟩, S) by rw [← HRZ.out, if_neg hk3])
   clear HRZ hk3
   go_wp2_with (first | refine v1 ?_ | (refine vS ?_; clear HX; intro w HX) | (refine vA ?_; clear HX; (first | (have hq := b; clear hq; intro w b2 HX) | intro w b HX)))
   refine ya9' HX rfl rfl (by (repeat (first | (with_reducible exact k_s) | (with_reducible apply k_m)))) (by kernel_rfl) ?_
   have h9 := (HB.out _ P _ (fun _ h => h) (HX.out.drop.drop.drop)).perm (List.Perm.swap _ _ _)
   rw [← HS'.out, HE.out]
   refine ydw' (r := ⟨0, path, ⟨#[]⟩, [], noSt⟩) rfl ?_
   cases only <;> exact h9
end
end Go.Proofs.YtcnkifbjlihaoaaGreatDoor

namespace Go.Av
def doT (S : TreeS) (o : OpS) (sess zxid : Int) : ResS × TreeS :=
 if yb5' o ≠ 0 then (yb3' (yb5' o), S)
 else if sess < 1 ∨ zxid < 0 then (yb3' 1, S)
 else if o.kind = 1 then yb1' S o sess zxid
 else if o.kind = 2 ∨ o.kind = 3 ∨ o.kind = 4 then yby' S o zxid
 else (yi9' S o, S)
theorem ydm' {o : OpS} (h : yb5' o = 0) : yea' o = true ∧ o.data.size ≤ 1000 ∧ ownS o = true ∧ numS o = true := by
 unfold yb5' at h
 by_cases h1 : yea' o = false
 ·rw [if_pos h1] at h; omega
 rw [if_neg h1] at h
 by_cases h2 : 1000 < o.data.size
 ·rw [if_pos h2] at h; omega
 rw [if_neg h2] at h
 by_cases h3 : ownS o = false ∨ numS o = false
 ·rw [if_pos h3] at h; omega
 refine ⟨by simpa using h1, by omega, ?_, ?_⟩
 ·cases hh : ownS o with
  | true => rfl
  | false => exact absurd (.inl hh) h3
 ·cases hh : numS o with
  | true => rfl
  | false => exact absurd (.inr hh) h3
theorem yc2' {o : OpS} (h : yea' o = true) : 1 ≤ o.kind ∧ o.kind ≤ 7 ∧ ybn' o.p = true ∧ -1 ≤ o.ver ∧ 0 ≤ o.flags ∧ o.flags ≤ 3 := by
 unfold yea' at h
 simp only [Bool.and_eq_true, decide_eq_true_eq] at h
 exact ⟨h.1, h.2.1, h.2.2.1, h.2.2.2.1, h.2.2.2.2.1, h.2.2.2.2.2⟩
end Go.Av
namespace Go.Proofs.YtcnkifbjlihaoaaGreatDoor
open Go.RowKit Go.Av
section
variable {w0 w : World} {t : Nat} {S : TreeS} {P P' : List PRow} {R : List Thing} {rows : List (Value × Bs)}
set_option maxRecDepth 100000 in
set_option maxHeartbeats 4000000 in
theorem y0g' (h : Sep w0 w (yab' w0 P :: yaj' t S P :: R) rows) (hd : DoorN w0) (o : OpS) (hp : o.path.size ≤ 100000) (sess zxid : Int) (only : Bool) (hok : ∀ e ∈ S.l, NodeOk e.2) :
  Calls Tryz.prog 182 #[.pointer (some ⟨t, 0, none⟩), o.val, .int .i64 sess, .int .i64 zxid, .bool only] w (yhf' w0 t (if only then S else (doT S o sess zxid).2) P R rows (doT S o sess zxid).1) := by
 have HG := Lib.hid (fun w hw => yj8' o w hw hp)
 have HO := Lib.hid (show o = ⟨o.kind, o.path, o.data, o.ver, o.flags⟩ from rfl)
 have HD := Lib.hid hd
 obtain ⟨rr, hrr⟩ : ∃ rr, doT S o sess zxid = rr := ⟨_, rfl⟩
 rw [hrr]
 obtain ⟨S', hS'⟩ : ∃ S', (if only = true then S else rr.2) = S' := ⟨_, rfl⟩
 rw [hS']
 have HS' := Lib.hid hS'
 have HX := Lib.hid h
 clear hS' h hd
 unfold doT at hrr
 obtain ⟨e0, he0⟩ : ∃ e0, yb5' o = e0 := ⟨_, rfl⟩
 rw [he0] at HG hrr
 have HRR := Lib.hid hrr
 have HE0 := Lib.hid he0
 clear hrr he0
 obtain ⟨kind, path, data, ver, flags⟩ := o
 unfold OpS.val at HG ⊢
 dsimp only at hp HRR HG ⊢
 go_enter Tryz.func182, Tryz.ntmps182
 go_wp2_with (first | refine v1 ?_ | (refine vS ?_; clear HX; intro w HX) | (refine vA ?_; clear HX; (first | (have hq := b; clear hq; intro w b2 HX) | intro w b HX)))
 refine (HG.out _ (HD.out.sep HX.out)).mono ?_
 rintro e w ⟨rfl, hu⟩
 replace HX := Lib.hid (HX.out.keep hu)
 clear hu HG
 by_cases h0 : e0 = 0
 case neg =>
  have HE := Lib.hid (show rr = (yb3' e0, S) by rw [← HRR.out, if_pos h0])
  have q0 : (e0 != 0) = true := by rw [bne_iff_ne]; exact h0
  clear HRR h0
  go_wp2_with (first | refine v1 ?_ | (refine vS ?_; clear HX; intro w HX) | (refine vA ?_; clear HX; (first | (have hq := b; clear hq; intro w b2 HX) | intro w b HX)))
  refine (yd4' _ _).mono ?_
  rintro e w ⟨rfl, hu⟩
  replace HX := Lib.hid (HX.out.keep hu)
  clear hu
  simp only [ResS.cells, yb3', noSt]
  go_wp2_with (first | refine v1 ?_ | (refine vS ?_; clear HX; intro w HX) | (refine vA ?_; clear HX; (first | (have hq := b; clear hq; intro w b2 HX) | intro w b HX)))
  refine ya9' HX rfl rfl (by (repeat (first | (with_reducible exact k_s) | (with_reducible apply k_m)))) (by kernel_rfl) ?_
  rw [← HS'.out, HE.out]
  refine ydw' rfl ?_
  cases only <;> exact HX.out.drop.drop
 case pos =>
 subst h0
 have HR2 := Lib.hid (show (if sess < 1 ∨ zxid < 0 then (yb3' 1, S) else if kind = 1 then yb1' S ⟨kind, path, data, ver, flags⟩ sess zxid else if kind = 2 ∨ kind = 3 ∨ kind = 4 then yby' S ⟨kind, path, data, ver, flags⟩ zxid else (yi9' S ⟨kind, path, data, ver, flags⟩, S)) = rr by have := HRR.out; rw [if_neg (fun h => h rfl)] at this; exact this)
 clear HRR
 by_cases hs : sess < 1 ∨ zxid < 0
 ·have HE := Lib.hid (show rr = (yb3' 1, S) by rw [← HR2.out, if_pos hs])
  clear HR2
  by_cases h1 : sess < 1
  ·have q1 : decide (sess < 1) = true := decide_eq_true h1
   clear h1 hs
   go_wp2_with (first | refine v1 ?_ | (refine vS ?_; clear HX; intro w HX) | (refine vA ?_; clear HX; (first | (have hq := b; clear hq; intro w b2 HX) | intro w b HX)))
   refine (yd4' _ _).mono ?_
   rintro e w ⟨rfl, hu⟩
   replace HX := Lib.hid (HX.out.keep hu)
   clear hu
   simp only [ResS.cells, yb3', noSt]
   go_wp2_with (first | refine v1 ?_ | (refine vS ?_; clear HX; intro w HX) | (refine vA ?_; clear HX; (first | (have hq := b; clear hq; intro w b2 HX) | intro w b HX)))
   refine ya9' HX rfl rfl (by (repeat (first | (with_reducible exact k_s) | (with_reducible apply k_m)))) (by kernel_rfl) ?_
   rw [← HS'.out, HE.out]
   refine ydw' rfl ?_
   cases only <;> exact HX.out.drop.drop
  ·have q1 : decide (sess < 1) = false := decide_eq_false h1
   have q2 : decide (zxid < 0) = true := decide_eq_true (hs.resolve_left h1)
   clear h1 hs
   go_wp2_with (first | refine v1 ?_ | (refine vS ?_; clear HX; intro w HX) | (refine vA ?_; clear HX; (first | (have hq := b; clear hq; intro w b2 HX) | intro w b HX)))
   refine (yd4' _ _).mono ?_
   rintro e w ⟨rfl, hu⟩
   replace HX := Lib.hid (HX.out.keep hu)
   clear hu
   simp only [ResS.cells, yb3', noSt]
   go_wp2_with (first | refine v1 ?_ | (refine vS ?_; clear HX; intro w HX) | (refine vA ?_; clear HX; (first | (have hq := b; clear hq; intro w b2 HX) | intro w b HX)))
   refine ya9' HX rfl rfl (by (repeat (first | (with_reducible exact k_s) | (with_reducible apply k_m)))) (by kernel_rfl) ?_
   rw [← HS'.out, HE.out]
   refine ydw' rfl ?_
   cases only <;> exact HX.out.drop.drop
 have q1 : decide (sess < 1) = false := decide_eq_false (fun h => hs (.inl h))
 have q2 : decide (zxid < 0) = false := decide_eq_false (fun h => hs (.inr h))
 have HR3 := Lib.hid (show (if kind = 1 then yb1' S ⟨kind, path, data, ver, flags⟩ sess zxid else if kind = 2 ∨ kind = 3 ∨ kind = 4 then yby' S ⟨kind, path, data, ver, flags⟩ zxid else (yi9' S ⟨kind, path, data, ver, flags⟩, S)) = rr by have := HR2.out; rw [if_neg hs] at this; exact this)
 have HGO := Lib.hid (ydm' HE0.out)
 have HFO := Lib.hid (yc2' HGO.out.1)
 clear HR2 hs
 by_cases hk1 : kind = 1
 ·subst hk1
  have HE := Lib.hid (show rr = yb1' S ⟨1, path, data, ver, flags⟩ sess zxid by have := HR3.out; rw [if_pos rfl] at this; exact this.symm)
  clear HR3
  go_wp2_with (first | refine v1 ?_ | (refine vS ?_; clear HX; intro w HX) | (refine vA ?_; clear HX; (first | (have hq := b; clear hq; intro w b2 HX) | intro w b HX)))
  refine (yqk' (HX.out.perm (yid' _ _ _ _ _)) HD.out ⟨1, path, data, ver, flags⟩ hp (Nat.le_trans HGO.out.2.1 (by decide)) HFO.out.2.2.2.2.1 HFO.out.2.2.2.2.2 hok sess zxid only).mono ?_
  rintro e w ⟨nv, P', rfl, hP', hnv, hx⟩
  replace HX := Lib.hid hx
  obtain ⟨E, hE⟩ := Sep.poolGet hx hnv
  obtain ⟨na, nn, nc, rfl, -⟩ := id hE
  clear hx hE
  simp only [ResS.cells]
  go_wp2_with (first | refine v1 ?_ | (refine vS ?_; clear HX; intro w HX) | (refine vA ?_; clear HX; (first | (have hq := b; clear hq; intro w b2 HX) | intro w b HX)))
  refine ya9' HX rfl rfl (by (repeat (first | (with_reducible exact k_s) | (with_reducible apply k_m)))) (by kernel_rfl) ?_
  rw [← HS'.out, HE.out]
  have h9 := HX.out.cut2.cut2
  exact ⟨_, P', rfl, hP', hnv, by cases only <;> exact h9⟩
 have q3 : (kind == 1) = false := by rw [beq_eq_false_iff_ne]; exact hk1
 have HR4 := Lib.hid (show (if kind = 2 ∨ kind = 3 ∨ kind = 4 then yby' S ⟨kind, path, data, ver, flags⟩ zxid else (yi9' S ⟨kind, path, data, ver, flags⟩, S)) = rr by have := HR3.out; rw [if_neg hk1] at this; exact this)
 clear HR3 hk1
 by_cases hk : kind = 2 ∨ kind = 3 ∨ kind = 4
 ·have HE := Lib.hid (show rr = yby' S ⟨kind, path, data, ver, flags⟩ zxid by have := HR4.out; rw [if_pos hk] at this; exact this.symm)
  clear HR4
  rcases hk with rfl | rfl | rfl
  ·skip
   go_wp2_with (first | refine v1 ?_ | (refine vS ?_; clear HX; intro w HX) | (refine vA ?_; clear HX; (first | (have hq := b; clear hq; intro w b2 HX) | intro w b HX)))
   refine (yhg' (HX.out.perm (yid' _ _ _ _ _)) HD.out ⟨2, path, data, ver, flags⟩ hp (Nat.le_trans HGO.out.2.1 (by decide)) zxid only hok).mono ?_
   rintro e w ⟨nv, P', rfl, hP', hnv, hx⟩
   replace HX := Lib.hid hx
   obtain ⟨E, hE⟩ := Sep.poolGet hx hnv
   obtain ⟨na, nn, nc, rfl, -⟩ := id hE
   clear hx hE
   simp only [ResS.cells]
   go_wp2_with (first | refine v1 ?_ | (refine vS ?_; clear HX; intro w HX) | (refine vA ?_; clear HX; (first | (have hq := b; clear hq; intro w b2 HX) | intro w b HX)))
   refine ya9' HX rfl rfl (by (repeat (first | (with_reducible exact k_s) | (with_reducible apply k_m)))) (by kernel_rfl) ?_
   rw [← HS'.out, HE.out]
   have h9 := HX.out.cut2.cut2
   exact ⟨_, P', rfl, hP', hnv, by cases only <;> exact h9⟩
  ·skip
   go_wp2_with (first | refine v1 ?_ | (refine vS ?_; clear HX; intro w HX) | (refine vA ?_; clear HX; (first | (have hq := b; clear hq; intro w b2 HX) | intro w b HX)))
   refine (yhg' (HX.out.perm (yid' _ _ _ _ _)) HD.out ⟨3, path, data, ver, flags⟩ hp (Nat.le_trans HGO.out.2.1 (by decide)) zxid only hok).mono ?_
   rintro e w ⟨nv, P', rfl, hP', hnv, hx⟩
   replace HX := Lib.hid hx
   obtain ⟨E, hE⟩ := Sep.poolGet hx hnv
   obtain ⟨na, nn, nc, rfl, -⟩ := id hE
   clear hx hE
   simp only [ResS.cells]
   go_wp2_with (first | refine v1 ?_ | (refine vS ?_; clear HX; intro w HX) | (refine vA ?_; clear HX; (first | (have hq := b; clear hq; intro w b2 HX) | intro w b HX)))
   refine ya9' HX rfl rfl (by (repeat (first | (with_reducible exact k_s) | (with_reducible apply k_m)))) (by kernel_rfl) ?_
   rw [← HS'.out, HE.out]
   have h9 := HX.out.cut2.cut2
   exact ⟨_, P', rfl, hP', hnv, by cases only <;> exact h9⟩
  ·skip
   go_wp2_with (first | refine v1 ?_ | (refine vS ?_; clear HX; intro w HX) | (refine vA ?_; clear HX; (first | (have hq := b; clear hq; intro w b2 HX) | intro w b HX)))
   refine (yhg' (HX.out.perm (yid' _ _ _ _ _)) HD.out ⟨4, path, data, ver, flags⟩ hp (Nat.le_trans HGO.out.2.1 (by decide)) zxid only hok).mono ?_
   rintro e w ⟨nv, P', rfl, hP', hnv, hx⟩
   replace HX := Lib.hid hx
   obtain ⟨E, hE⟩ := Sep.poolGet hx hnv
   obtain ⟨na, nn, nc, rfl, -⟩ := id hE
   clear hx hE
   simp only [ResS.cells]
   go_wp2_with (first | refine v1 ?_ | (refine vS ?_; clear HX; intro w HX) | (refine vA ?_; clear HX; (first | (have hq := b; clear hq; intro w b2 HX) | intro w b HX)))
   refine ya9' HX rfl rfl (by (repeat (first | (with_reducible exact k_s) | (with_reducible apply k_m)))) (by kernel_rfl) ?_
   rw [← HS'.out, HE.out]
   have h9 := HX.out.cut2.cut2
   exact ⟨_, P', rfl, hP', hnv, by cases only <;> exact h9⟩
 have HE := Lib.hid (show rr = (yi9' S ⟨kind, path, data, ver, flags⟩, S) by have := HR4.out; rw [if_neg hk] at this; exact this.symm)
 have q4 : (kind == 2) = false := by rw [beq_eq_false_iff_ne]; exact fun h => hk (.inl h)
 have q5 : (kind == 3) = false := by rw [beq_eq_false_iff_ne]; exact fun h => hk (.inr (.inl h))
 have q6 : (kind == 4) = false := by rw [beq_eq_false_iff_ne]; exact fun h => hk (.inr (.inr h))
 clear HR4 hk
 go_wp2_with (first | refine v1 ?_ | (refine vS ?_; clear HX; intro w HX) | (refine vA ?_; clear HX; (first | (have hq := b; clear hq; intro w b2 HX) | intro w b HX)))
 refine (ywj' (HX.out.perm (yid' _ _ _ _ _)) ⟨kind, path, data, ver, flags⟩ hok).mono ?_
 rintro e w ⟨nv, P', rfl, hP', hnv, hx⟩
 replace HX := Lib.hid hx
 obtain ⟨E, hE⟩ := Sep.poolGet hx hnv
 obtain ⟨na, nn, nc, rfl, -⟩ := id hE
 clear hx hE
 simp only [ResS.cells]
 go_wp2_with (first | refine v1 ?_ | (refine vS ?_; clear HX; intro w HX) | (refine vA ?_; clear HX; (first | (have hq := b; clear hq; intro w b2 HX) | intro w b HX)))
 refine ya9' HX rfl rfl (by (repeat (first | (with_reducible exact k_s) | (with_reducible apply k_m)))) (by kernel_rfl) ?_
 rw [← HS'.out, HE.out]
 have h9 := HX.out.cut2.cut2
 exact ⟨_, P', rfl, hP', hnv, by cases only <;> exact h9⟩
end
end Go.Proofs.YtcnkifbjlihaoaaGreatDoor

namespace Go.Av
open Go.RowKit
def yd3' (d : TypeDesc) (m r : Nat) (l left : List (Value × Value)) : Thing :=
 ⟨fun w D => RangeIs w d m r l left ∧ m ≠ r ∧ D = [m, r], fun h hs => ⟨h.1.frame (hs _ (by simp [h.2.2])) (hs _ (by simp [h.2.2])), h.2⟩, fun h x hx => by
  rw [h.2.2] at hx
  obtain ⟨es, clock, seen, a1, a2, a3, a4, a5, a6⟩ := h.1
  rcases List.mem_cons.1 hx with rfl | hx
  ·exact ya6' a1
  ·rw [List.mem_singleton] at hx; subst hx; exact ya6' a5⟩
section
variable {P : Program} {w0 w : World} {R : List Thing} {rows : List (Value × Bs)} {d : TypeDesc} {m r : Nat} {l : List (Value × Value)}
theorem yfo' {t k e : TypeId} (h : Sep w0 w (yam' d m l :: R) rows) (ht : P.underlying t = some (.map k e)) :
  ∃ r w', (Instr.range t (.map (some m))).run P w = .ok (.pointer (some ⟨r, 0, none⟩)) w' ∧ Sep w0 w' (yd3' d m r l l :: R) rows := by
 obtain ⟨D, hP, _, back⟩ := h.use
 obtain ⟨o, hrun, hR⟩ := yv4' (P := P) hP.1 ht
 have hlt := hP.1.lt
 refine ⟨w.heap.size, w.alloc o, hrun, back (w.alloc o) [m, w.heap.size] (yd3' d m w.heap.size l l) ?_ ⟨hR, by omega, rfl⟩⟩
 rw [hP.2]
 exact (Upd.alloc1 w o [m]).mono (fun _ h => h) (fun b hb => by
  simp only [List.mem_cons, List.not_mem_nil, or_false] at hb ⊢
  rcases hb with h | h <;> simp [h])
theorem yhp' {α : Type} (ent : α → Value × Value) {left : List α} (h : Sep w0 w (yd3' d m r l (left.map ent) :: R) rows) :
  (left = [] ∧ ∀ ty, (Instr.next (.pointer (some ⟨r, 0, none⟩)) false ty).run P w = .ok (.tuple #[.bool false]) w) ∨
  ∃ l1 g l2 w', left = l1 ++ g :: l2 ∧ (∀ ty, (Instr.next (.pointer (some ⟨r, 0, none⟩)) false ty).run P w = .ok (.tuple #[.bool true, (ent g).1, (ent g).2]) w') ∧ Sep w0 w' (yd3' d m r l ((l1 ++ l2).map ent) :: R) rows ∧
   (Instr.entry (.pointer (some ⟨r, 0, none⟩))).run P w' = .ok (.tuple #[(ent g).1, (ent g).2]) w' := by
 obtain ⟨D, hP, _, back⟩ := h.use
 obtain ⟨hR, hne, rfl⟩ := hP
 rcases yza' (P := P) ent hR hne with ⟨h0, hn⟩ | ⟨l1, g, l2, w', h0, hn, hR', hu, he⟩
 ·exact .inl ⟨h0, hn⟩
 ·exact .inr ⟨l1, g, l2, w', h0, hn, back w' [m, r] (yd3' d m r l ((l1 ++ l2).map ent)) (hu.mono (by simp) (fun b hb => .inr hb)) ⟨hR', hne, rfl⟩, he⟩
theorem yei' {left : List (Value × Value)} (h : Sep w0 w (yd3' d m r l left :: R) rows) : Sep w0 w (yam' d m l :: R) rows := by
 obtain ⟨D, hP, _, back⟩ := h.use
 obtain ⟨⟨es, clock, seen, a1, a2, a3, a4, a5, a6⟩, hne, rfl⟩ := hP
 exact back w [m] (yam' d m l) (Upd.mono (Upd.refl w [m, r]) (fun _ h => h) (fun b hb => .inr (by simp at hb; simp [hb]))) ⟨⟨es, clock, a1, a2, a3, a4⟩, rfl⟩
theorem yz3' {α : Type} {f : α → Thing} {l1 l2 : List α} {g : α} (h : Sep w0 w (ThL ((l1 ++ g :: l2).map f) :: R) rows) : Sep w0 w (f g :: ThL ((l1 ++ l2).map f) :: R) rows := by
 have h1 := h.opensL
 have h2 : Sep w0 w (((l1 ++ l2).map f) ++ (f g :: R)) rows := h1.perm (by
  simp only [List.map_append, List.map_cons, List.append_assoc, List.cons_append]
  refine List.Perm.append_left _ ?_
  exact List.perm_middle.symm)
 exact h2.shutL.perm (List.Perm.swap _ _ _)
theorem yx0' {α : Type} {f : α → Thing} {l1 l2 : List α} {g : α} (h : Sep w0 w (f g :: ThL ((l1 ++ l2).map f) :: R) rows) : Sep w0 w (ThL ((l1 ++ g :: l2).map f) :: R) rows := by
 have h1 := (h.perm (List.Perm.swap _ _ _)).opensL
 refine Sep.shutL (h1.perm ?_)
 simp only [List.map_append, List.map_cons, List.append_assoc, List.cons_append]
 refine List.Perm.append_left _ ?_
 exact List.perm_middle
theorem yz1' {α : Type} {f : α → Thing} {l1 : List α} {g : α} (h : Sep w0 w (f g :: ThL (l1.map f) :: R) rows) : Sep w0 w (ThL ((l1 ++ [g]).map f) :: R) rows := by
 have h2 : Sep w0 w (f g :: ThL ((l1 ++ []).map f) :: R) rows := by rw [List.append_nil]; exact h
 exact yx0' h2
theorem yz2' (h : Sep w0 w R rows) : Sep w0 w (ThL [] :: R) rows := Sep.shutL (N := []) h
theorem Sep.mapAdd {t k e : TypeId} {key v : Value} (h : Sep w0 w (yam' d m l :: R) rows) (ht : P.underlying t = some (.map k e)) (hd : P.underlying k = some d) (hk : MapKept.IsKey d key) (hn : ∀ p ∈ l, p.1 ≠ key) :
  ∃ w', (Instr.mapUpdate t (.map (some m)) key v).run P w = .ok () w' ∧ Sep w0 w' (yam' d m (l ++ [(key, v)]) :: R) rows := by
 obtain ⟨w', hrun, hM, hU⟩ := ys3' (P := P) (v := v) h.mapIs ht hd hk hn
 exact ⟨w', hrun, h.mapTo hU hM⟩
end
end Go.Av
namespace Go.Proofs.YtcnkifbjlihaoaaGreatDoor
open Go.RowKit Go.Av
section
variable {w0 w : World} {t m : Nat} {S : TreeS} {P P' : List PRow} {R : List Thing} {rows : List (Value × Bs)} {gs : List NodeG}
theorem yg8' (h : Sep w0 w (yaj' t S P :: R) rows) :
  ∃ (m : Nat) (gs : List NodeG), (gs.map NodeG.ent).Perm S.l ∧ yda' S.l ∧ (∀ g ∈ gs, (1, g.nv, g.n.names.map sv) ∈ P) ∧ Sep w0 w (yc7' t m S.room :: yam' .string m (gs.map NodeG.kv) :: ThL (gs.map NodeG.th) :: R) rows := by
 obtain ⟨L, ⟨m, gs, rfl, h1, h2, h3⟩, hS⟩ := h.opens
 exact ⟨m, gs, h1, h2, h3, (Sep.shutL (N := gs.map NodeG.th) (R := yc7' t m S.room :: yam' .string m (gs.map NodeG.kv) :: R) (hS.perm (yfp' [_, _] _ R))).perm (List.perm_middle (l₁ := [_, _])).symm⟩
theorem yg9' (h : Sep w0 w (yc7' t m S.room :: yam' .string m (gs.map NodeG.kv) :: ThL (gs.map NodeG.th) :: R) rows) (h1 : (gs.map NodeG.ent).Perm S.l) (h2 : yda' S.l) (h3 : ∀ g ∈ gs, (1, g.nv, g.n.names.map sv) ∈ P) : Sep w0 w (yaj' t S P :: R) rows := by
 refine Sep.shut (O := TrO t S P) (L := trTh t m S.room gs) ⟨m, gs, rfl, h1, h2, h3⟩ ?_
 have h6 := (h.perm (List.perm_middle (l₁ := [_, _]))).opensL
 exact h6.perm (yfp' [_, _] _ R).symm
end
end Go.Proofs.YtcnkifbjlihaoaaGreatDoor

namespace Go.Proofs.YtcnkifbjlihaoaaGreatDoor
open Go.RowKit Go.Av
section
variable {w0 w : World} {t : Nat} {S : TreeS} {P P' : List PRow} {R : List Thing} {rows : List (Value × Bs)}
set_option maxRecDepth 100000 in
theorem yz0' (h : Sep w0 w (yab' w0 P :: yaj' t S P :: R) rows) (hd : DoorN w0) (o : OpS) (hp : o.path.size ≤ 100000) (sess zxid : Int) (hok : ∀ e ∈ S.l, NodeOk e.2) :
  Calls Tryz.prog 145 #[.pointer (some ⟨t, 0, none⟩), o.val, .int .i64 sess, .int .i64 zxid] w (yhf' w0 t (doT S o sess zxid).2 P R rows (doT S o sess zxid).1) := by
 have HX := Lib.hid h
 clear h
 obtain ⟨kind, path, data, ver, flags⟩ := o
 unfold OpS.val
 dsimp only at hp ⊢
 obtain ⟨rr, hrr⟩ : ∃ rr, doT S ⟨kind, path, data, ver, flags⟩ sess zxid = rr := ⟨_, rfl⟩
 rw [hrr]
 have HR := Lib.hid hrr
 clear hrr
 go_enter Tryz.func145, Tryz.ntmps145
 go_wp2_with (first | refine v1 ?_ | (refine vS ?_; clear HX; intro w HX) | (refine vA ?_; clear HX; (first | (have hq := b; clear hq; intro w b2 HX) | intro w b HX)))
 refine (y0g' (HX.out.perm (yid' _ _ _ _ _)) hd ⟨kind, path, data, ver, flags⟩ hp sess zxid false hok).mono ?_
 rw [HR.out]
 rintro e w ⟨nv, P', rfl, hP', hnv, hx⟩
 replace HX := Lib.hid hx
 obtain ⟨E, hE⟩ := Sep.poolGet hx hnv
 obtain ⟨na, nn, nc, rfl, -⟩ := id hE
 clear hx hE
 simp only [ResS.cells]
 go_wp2_with (first | refine v1 ?_ | (refine vS ?_; clear HX; intro w HX) | (refine vA ?_; clear HX; (first | (have hq := b; clear hq; intro w b2 HX) | intro w b HX)))
 refine ya9' HX rfl rfl (by (repeat (first | (with_reducible exact k_s) | (with_reducible apply k_m)))) (by kernel_rfl) ?_
 have h9 := HX.out.cut2.cut2
 exact ⟨_, P', rfl, hP', hnv, h9⟩
def yyf' (w0 : World) (t : Nat) (S : TreeS) (P : List PRow) (R : List Thing) (rows : List (Value × Bs)) (e : Ending) (w' : World) : Prop :=
 ∃ c P', e = .returned (.pointer (some ⟨c, 0, none⟩)) ∧ (∀ r ∈ P, r ∈ P') ∧ Sep w0 w' (yab' w0 P' :: yaj' c S P' :: yaj' t S P' :: R) rows
def yrm' (w0 : World) (t m r c mc : Nat) (S : TreeS) (P : List PRow) (R : List Thing) (rows : List (Value × Bs)) (gs : List NodeG) (k : Nat) (w : World) : Prop :=
 ∃ (left done : List NodeG) (P' : List PRow), left.length = k ∧ (done.map NodeG.ent ++ left.map NodeG.ent).Perm (gs.map NodeG.ent) ∧ (∀ g ∈ left, g ∈ gs) ∧ (∀ q ∈ P, q ∈ P') ∧ (∀ g ∈ done, (1, g.nv, g.n.names.map sv) ∈ P') ∧
  Sep w0 w (yd3' .string m r (gs.map NodeG.kv) (left.map NodeG.kv) :: ThL (gs.map NodeG.th) :: yc7' t m S.room :: yc7' c mc S.room :: yam' .string mc (done.map NodeG.kv) :: ThL (done.map NodeG.th) :: yab' w0 P' :: R) rows
theorem yu3' {done gs : List NodeG} {g : NodeG} {l1 l2 : List NodeG} (hp : (done.map NodeG.ent ++ (l1 ++ g :: l2).map NodeG.ent).Perm (gs.map NodeG.ent)) (hn : (gs.map NodeG.key).Nodup) : (∀ q ∈ done.map NodeG.kv, q.1 ≠ sv g.key) ∧
  ∀ g' : NodeG, g'.ent = g.ent → ((done ++ [g']).map NodeG.ent ++ (l1 ++ l2).map NodeG.ent).Perm (gs.map NodeG.ent) := by
 constructor
 ·intro q hq e
  obtain ⟨x, hx, rfl⟩ := List.mem_map.1 hq
  have h1 : ((done.map NodeG.ent ++ (l1 ++ g :: l2).map NodeG.ent).map (·.1)).Nodup := by
   refine ((hp.map (·.1)).nodup_iff).2 ?_
   rw [List.map_map]
   exact hn
  rw [List.map_append, List.nodup_append] at h1
  exact h1.2.2 x.key (List.mem_map.2 ⟨x.ent, List.mem_map_of_mem hx, rfl⟩) g.key (List.mem_map.2 ⟨g.ent, List.mem_map_of_mem (by simp), rfl⟩) (yg6' e)
 ·intro g' hg'
  refine List.Perm.trans ?_ hp
  simp only [List.map_append, List.map_cons, List.map_nil, hg', List.append_assoc]
  refine List.Perm.append_left _ ?_
  rw [List.singleton_append]
  exact List.perm_middle.symm
set_option maxRecDepth 100000 in
set_option maxHeartbeats 4000000 in
theorem yd8' (h : Sep w0 w (yab' w0 P :: yaj' t S P :: R) rows) (hok : ∀ e ∈ S.l, NodeOk e.2) :
  Calls Tryz.prog 70 #[.pointer (some ⟨t, 0, none⟩)] w (yyf' w0 t S P R rows) := by
 obtain ⟨m, gs, hperm, hrise, hgs, hS⟩ := yg8' (h.perm (List.Perm.swap _ _ _))
 have HPM := Lib.hid hperm
 have HRI := Lib.hid hrise
 have HGS := Lib.hid hgs
 have HOK := Lib.hid (show ∀ g ∈ gs, NodeOk g.n from fun g hg => hok g.ent (hperm.mem_iff.1 (List.mem_map_of_mem hg)))
 have HND := Lib.hid (yej' hperm hrise)
 have HX := Lib.hid hS
 clear h hperm hrise hgs hS hok
 go_enter Tryz.func70, Tryz.ntmps70
 go_upto_region 2 with (first | refine v1 ?_ | (refine vS ?_; clear HX; intro w HX) | (refine vA ?_; clear HX; (first | (have hq := b2; clear hq; intro w b3 HX) | (have hq := b; clear hq; intro w b2 HX) | intro w b HX)) | (refine vN ?_; clear HX; intro w mm HX))
 obtain ⟨r, w9, hrun, h9⟩ := yfo' (P := Tryz.prog) HX.out.up3 Tryz.underlying210
 have HST := Lib.hid (show yrm' w0 t m r b mm S P R rows gs gs.length w9 from ⟨gs, [], P, rfl, by simp, fun _ h => h, fun _ h => h, by simp, (yz2' h9).up3.up3.up4.up5.up5⟩)
 go_wp2_with (first | refine v1 ?_ | (refine vS ?_; clear HX; intro w HX) | (refine vA ?_; clear HX; (first | (have hq := b2; clear hq; intro w b3 HX) | (have hq := b; clear hq; intro w b2 HX) | intro w b HX)) | (refine vN ?_; clear HX; intro w mm HX))
 clear HX hrun h9
 go_loopg [4] gs.length (fun k _ wr => yrm' w0 t m r b mm S P R rows gs k wr)
 case atStart => exact HST.out
 case round =>
  obtain ⟨left, done, P', hk, hpm, hin, hP', hdn, hS⟩ := hrel
  rcases yhp' (P := Tryz.prog) NodeG.kv hS with ⟨rfl, hn⟩ | ⟨l1, g, l2, w1, rfl, hn, h1, hen⟩
  ·have HF := Lib.hid (show _ ∧ _ ∧ _ from ⟨hpm, hP', hdn⟩)
   have HX := Lib.hid hS
   clear hpm hP' hdn hS hk hin
   go_wp2_with (first | refine v1 ?_ | (refine vS ?_; clear HX; intro w HX) | (refine vA ?_; clear HX; (first | (have hq := b2; clear hq; intro w b3 HX) | (have hq := b; clear hq; intro w b2 HX) | intro w b HX)) | (refine vN ?_; clear HX; intro w mm HX))
   go_ret
   obtain ⟨hpm, hP', hdn⟩ := HF.out
   have h5 := yei' HX.out
   have h6 := yg9' (t := t) (P := P') h5.up2 HPM.out HRI.out (fun g hg => hP' _ (HGS.out g hg))
   have h7 := yg9' (t := b) (S := S) (P := P') h6.up3.up3.up3 (by simpa using hpm.trans HPM.out) HRI.out hdn
   exact ⟨b, P', rfl, hP', h7.up2⟩
  ·have hg := hin g (by simp)
   obtain ⟨a1, a2, hgs⟩ := List.append_of_mem hg
   have HF := Lib.hid (show _ ∧ _ ∧ _ ∧ _ ∧ _ from ⟨hpm, hP', hdn, hk, hin⟩)
   rw [hgs] at h1
   have HX := Lib.hid (show Sep w0 w1 (yf2' g.blk g.n g.nv :: _) rows from yz3' (f := NodeG.th) h1.up1)
   have HG := Lib.hid hgs
   have hnv := hP' _ (HGS.out g hg)
   have hok := HOK.out g hg
   clear hS h1 hpm hP' hdn hk hin hgs hg
   have HNV := Lib.hid hnv
   clear hnv
   simp only [NodeG.kv] at hn hen
   go_wp2_with (first | refine v1 ?_ | (refine vS ?_; clear HX; intro w HX) | (refine vA ?_; clear HX; (first | (have hq := b2; clear hq; intro w b3 HX) | (have hq := b; clear hq; intro w b2 HX) | intro w b HX)) | (refine vN ?_; clear HX; intro w mm HX))
   obtain ⟨E, hE⟩ := HX.out.up7.poolGet HNV.out
   refine (yhh' g.n g.nv w1 E hE (by have := hok.few; omega)).mono ?_
   rintro e w ⟨v2, D2, rfl, ho2, hu2⟩
   obtain ⟨a2', n2, k2, rfl, -⟩ := id ho2
   replace HX := Lib.hid (HX.out.addRow ho2 hu2)
   clear ho2 hu2 hE
   simp only [NodeS.val, NodeS.cells]
   go_upto_region 6 with (first | refine v1 ?_ | (refine vS ?_; clear HX; intro w HX) | (refine vA ?_; clear HX; (first | (have hq := b2; clear hq; intro w b3 HX) | (have hq := b; clear hq; intro w b2 HX) | intro w b HX)) | (refine vN ?_; clear HX; intro w mm HX))
   obtain ⟨hkey, hadd⟩ := yu3' HF.out.1 HND.out
   obtain ⟨w9, hrun9, h9⟩ := Sep.mapAdd (P := Tryz.prog) (key := sv g.key) (v := .pointer (some ⟨b2, 0, none⟩)) HX.out.up7 Tryz.underlying210 Tryz.underlying9 trivial hkey
   have HAD := Lib.hid hadd
   have H9 := Lib.hid h9
   clear hkey hadd h9
   go_wp2_with (first | refine v1 ?_ | (refine vS ?_; clear HX; intro w HX) | (refine vA ?_; clear HX; (first | (have hq := b2; clear hq; intro w b3 HX) | (have hq := b; clear hq; intro w b2 HX) | intro w b HX)) | (refine vN ?_; clear HX; intro w mm HX))
   go_roundg (l1 ++ l2).length
   case rel =>
    obtain ⟨hpm, hP', hdn, hk, hin⟩ := HF.out
    have h1 := (H9.out.up2.up9.up1).poolRow
    have h2 := yz1' (f := NodeG.th) (g := ⟨b2, g.key, g.n, .slice a2' n2 k2⟩) (h1.up8.up3)
    have h3 := yx0' (f := NodeG.th) (g := g) (h2.up3.up4.up1)
    rw [← HG.out] at h3
    refine ⟨l1 ++ l2, done ++ [⟨b2, g.key, g.n, .slice a2' n2 k2⟩], (1, .slice a2' n2 k2, g.n.names.map sv) :: P', rfl, HAD.out _ rfl, fun x hx => hin x ?_, fun q hq => k_n _ (hP' q hq), fun x hx => ?_, ?_⟩
    ·rcases List.mem_append.1 hx with h | h <;> simp [h]
    ·rcases List.mem_append.1 hx with h | h
     ·exact k_n _ (hdn x h)
     ·rw [List.mem_singleton.1 h]; exact k_s
    ·have e : (done ++ [(⟨b2, g.key, g.n, .slice a2' n2 k2⟩ : NodeG)]).map NodeG.kv = done.map NodeG.kv ++ [(sv g.key, .pointer (some ⟨b2, 0, none⟩))] := by simp [NodeG.kv]
     rw [e]
     exact h3.pm 7 [4, 0, 5, 6, 3, 1, 2] rfl rfl
   case measure =>
    obtain ⟨_, _, _, hk, _⟩ := HF.out
    simp at hk ⊢; omega
end
end Go.Proofs.YtcnkifbjlihaoaaGreatDoor

namespace Go.Av
open Go.RowKit
structure ReplyS where
 num : Int
 zxid : Int
 err : Int
 at_ : Int
 rs : List ResS
inductive ResL (P : List PRow) : List ResS → List Value → Prop
 | nil : ResL P [] []
 | cons {r : ResS} {nv : Value} {rs : List ResS} {xs : List Value} : (1, nv, r.names.map sv) ∈ P → ResL P rs xs → ResL P (r :: rs) ((r.cells nv).toList ++ xs)
theorem ResL.mono {P P' : List PRow} {rs : List ResS} {xs : List Value} (h : ResL P rs xs) (hP : ∀ r ∈ P, r ∈ P') : ResL P' rs xs := by
 induction h with
 | nil => exact .nil
 | cons h1 _ ih => exact .cons (hP _ h1) ih
theorem ResL.snoc {P : List PRow} {rs : List ResS} {xs : List Value} {r : ResS} {nv : Value} (h : ResL P rs xs) (hr : (1, nv, r.names.map sv) ∈ P) : ResL P (rs ++ [r]) (xs ++ (r.cells nv).toList) := by
 induction h with
 | nil => simpa using ResL.cons hr ResL.nil
 | cons h1 _ ih =>
  rw [List.cons_append, List.append_assoc]
  exact .cons h1 ih
theorem ResL.len {P : List PRow} {rs : List ResS} {xs : List Value} (h : ResL P rs xs) : xs.length = rs.length * 11 := by
 induction h with
 | nil => rfl
 | cons _ _ ih => simp only [List.length_append, List.length_cons, ih]; simp [ResS.cells]; omega
def yf5' (P : List PRow) (r : ReplyS) (v : Value) : Prop := ∃ a n c xs, v = .agg #[.int .i64 r.num, .int .i64 r.zxid, .int .i64 r.err, .int .i64 r.at_, .slice a n c] ∧ ResL P r.rs xs ∧ (11, Value.slice a n c, xs) ∈ P
def yf0' (e at_ : Int) (n : Nat) : List ResS := (List.range n).map fun (i : Nat) => yb3' (if (i : Int) = at_ then e else 14)
def yeg' (num e at_ n : Int) : ReplyS := ⟨num, 0, e, at_, if n < 0 ∨ 16 < n then [] else yf0' e at_ n.toNat⟩
theorem yn5' (e at_ : Int) (n : Nat) : yf0' e at_ (n + 1) = yf0' e at_ n ++ [yb3' (if (n : Int) = at_ then e else 14)] := by
 unfold yf0'
 rw [List.range_succ, List.map_append]
 rfl
theorem yj0' (e at_ : Int) (n : Nat) : (yf0' e at_ n).length = n := by simp [yf0']
end Go.Av
namespace Go.Proofs.YtcnkifbjlihaoaaGreatDoor
open Go.RowKit Go.Av
section
variable {w0 w : World} {P P' : List PRow} {R : List Thing} {rows : List (Value × Bs)}
def yrs' (w0 : World) (P : List PRow) (R : List Thing) (rows : List (Value × Bs)) (r : ReplyS) (e : Ending) (w' : World) : Prop :=
 ∃ v P', e = .returned v ∧ (∀ q ∈ P, q ∈ P') ∧ yf5' P' r v ∧ Sep w0 w' (yab' w0 P' :: R) rows
def yro' (w0 : World) (b8 b9 : Nat) (num e at_ : Int) (n : Nat) (P : List PRow) (R : List Thing) (rows : List (Value × Bs)) (k : Nat) (v24 : Value) (w : World) : Prop :=
 ∃ (i : Nat) (xs : List Value) (a : Option Addr) (n' c : Nat), i + k = n ∧ v24 = .int .i64 (i : Int) ∧ ResL ((1, .slice none 0 0, []) :: P) (yf0' e at_ i) xs ∧
  Sep w0 w (yac' b9 (.cells #[.int .i64 num, .int .i64 0, .int .i64 e, .int .i64 at_, .slice a n' c] 39 (0, 0)) :: yaf' 11 (.slice a n' c) xs :: yac' b8 (.cells #[.int .i64 0, .int .i64 0, .int .i64 0, .int .i64 0, .slice none 0 0] 39 (0, 0)) :: yab' w0 ((1, .slice none 0 0, []) :: P) :: R) rows
set_option maxRecDepth 100000 in
set_option maxHeartbeats 4000000 in
theorem yep' (h : Sep w0 w (yab' w0 P :: R) rows) (num e at_ n : Int) :
  Calls Tryz.prog 61 #[.int .i64 num, .int .i64 e, .int .i64 at_, .int .i64 n] w (yrs' w0 P R rows (yeg' num e at_ n)) := by
 obtain ⟨rr, hrr⟩ : ∃ rr, yeg' num e at_ n = rr := ⟨_, rfl⟩
 rw [hrr]
 have HR := Lib.hid hrr
 have HX := Lib.hid (h.poolNil 1)
 clear hrr h
 by_cases hn : n < 0 ∨ 16 < n
 ·have HE := Lib.hid (show rr = ⟨num, 0, e, at_, []⟩ by rw [← HR.out]; unfold yeg'; rw [if_pos hn])
  have fin : ∀ w b8 b9, Hid (Sep w0 w (yac' b9 (.cells #[.int .i64 num, .int .i64 0, .int .i64 e, .int .i64 at_, .slice none 0 0] 39 (0, 0)) :: yac' b8 (.cells #[.int .i64 num, .int .i64 0, .int .i64 e, .int .i64 at_, .slice none 0 0] 39 (0, 0)) :: yab' w0 ((1, .slice none 0 0, []) :: P) :: R) rows) → yrs' w0 P R rows rr (.returned (.agg #[.int .i64 num, .int .i64 0, .int .i64 e, .int .i64 at_, .slice none 0 0])) w := fun w b8 b9 HX => by
   have h1 := HX.out.drop.drop.poolNil 11
   rw [HE.out]
   exact ⟨_, _, rfl, fun q hq => k_n _ (k_n _ hq), ⟨none, 0, 0, [], rfl, .nil, k_s⟩, h1⟩
  have FIN := Lib.hid fin
  clear fin HR
  by_cases h1 : n < 0
  ·have q1 : decide (n < 0) = true := decide_eq_true h1
   clear h1 hn
   go_enter Tryz.func61, Tryz.ntmps61
   go_wp2_with (first | refine v1 ?_ | (refine vS ?_; clear HX; intro w HX) | (refine sWA ?_; clear HX; (first | (have hq := b9; clear hq; intro w b10 HX) | (have hq := b8; clear hq; intro w b9 HX) | (have hq := b7; clear hq; intro w b8 HX) | (have hq := b6; clear hq; intro w b7 HX) | (have hq := b5; clear hq; intro w b6 HX) | (have hq := b4; clear hq; intro w b5 HX) | (have hq := b3; clear hq; intro w b4 HX) | (have hq := b2; clear hq; intro w b3 HX) | (have hq := b; clear hq; intro w b2 HX) | intro w b HX); simp only [Act.put, k_a, k_b, k_c]) | (refine vP ?_; clear HX; intro w av nv cv HX))
   refine ya9' HX rfl rfl (by (repeat (first | (with_reducible exact k_s) | (with_reducible apply k_m)))) (by kernel_rfl) ?_
   exact FIN.out _ _ _ HX
  ·have q1 : decide (n < 0) = false := decide_eq_false h1
   have q2 : decide (16 < n) = true := decide_eq_true (hn.resolve_left h1)
   clear h1 hn
   go_enter Tryz.func61, Tryz.ntmps61
   go_wp2_with (first | refine v1 ?_ | (refine vS ?_; clear HX; intro w HX) | (refine sWA ?_; clear HX; (first | (have hq := b9; clear hq; intro w b10 HX) | (have hq := b8; clear hq; intro w b9 HX) | (have hq := b7; clear hq; intro w b8 HX) | (have hq := b6; clear hq; intro w b7 HX) | (have hq := b5; clear hq; intro w b6 HX) | (have hq := b4; clear hq; intro w b5 HX) | (have hq := b3; clear hq; intro w b4 HX) | (have hq := b2; clear hq; intro w b3 HX) | (have hq := b; clear hq; intro w b2 HX) | intro w b HX); simp only [Act.put, k_a, k_b, k_c]) | (refine vP ?_; clear HX; intro w av nv cv HX))
   refine ya9' HX rfl rfl (by (repeat (first | (with_reducible exact k_s) | (with_reducible apply k_m)))) (by kernel_rfl) ?_
   exact FIN.out _ _ _ HX
 obtain ⟨m, rfl⟩ : ∃ m : Nat, n = (m : Int) := ⟨n.toNat, by omega⟩
 have HM := Lib.hid (show m ≤ 16 by omega)
 have HE := Lib.hid (show rr = ⟨num, 0, e, at_, yf0' e at_ m⟩ by rw [← HR.out]; unfold yeg'; rw [if_neg hn]; rfl)
 have q1 : decide ((m : Int) < 0) = false := decide_eq_false (fun h => hn (.inl h))
 have q2 : decide (16 < (m : Int)) = false := decide_eq_false (fun h => hn (.inr h))
 have q3 : decide (16 < m) = false := decide_eq_false (fun h => hn (.inr (by omega)))
 clear hn HR
 go_enter Tryz.func61, Tryz.ntmps61
 go_wp2_with (first | refine v1 ?_ | (refine vS ?_; clear HX; intro w HX) | (refine sWA ?_; clear HX; (first | (have hq := b9; clear hq; intro w b10 HX) | (have hq := b8; clear hq; intro w b9 HX) | (have hq := b7; clear hq; intro w b8 HX) | (have hq := b6; clear hq; intro w b7 HX) | (have hq := b5; clear hq; intro w b6 HX) | (have hq := b4; clear hq; intro w b5 HX) | (have hq := b3; clear hq; intro w b4 HX) | (have hq := b2; clear hq; intro w b3 HX) | (have hq := b; clear hq; intro w b2 HX) | intro w b HX); simp only [Act.put, k_a, k_b, k_c]) | (refine vP ?_; clear HX; intro w av nv cv HX))
 have HST := Lib.hid (show yro' w0 b b2 num e at_ m P R rows m (.int .i64 (0 : Int)) w from ⟨0, [], none, 0, 0, by simp, rfl, .nil, (HX.out.nilRow 11).up1⟩)
 clear HX
 go_loopg [24] m (fun k v24 wr => yro' w0 b b2 num e at_ m P R rows k v24 wr)
 case atStart => exact HST.out
 case round =>
  obtain ⟨i, xs, a, n', c, hik, rfl, hrl, hS⟩ := hrel
  have HRL := Lib.hid hrl
  have HX := Lib.hid hS
  clear hrl hS
  by_cases hlt : i < m
  case neg =>
   obtain rfl : i = m := by omega
   clear hlt hik
   go_wp2_with (first | refine v1 ?_ | (refine vS ?_; clear HX; intro w HX) | (refine sWA ?_; clear HX; (first | (have hq := b9; clear hq; intro w b10 HX) | (have hq := b8; clear hq; intro w b9 HX) | (have hq := b7; clear hq; intro w b8 HX) | (have hq := b6; clear hq; intro w b7 HX) | (have hq := b5; clear hq; intro w b6 HX) | (have hq := b4; clear hq; intro w b5 HX) | (have hq := b3; clear hq; intro w b4 HX) | (have hq := b2; clear hq; intro w b3 HX) | (have hq := b; clear hq; intro w b2 HX) | intro w b HX); simp only [Act.put, k_a, k_b, k_c]) | (refine vP ?_; clear HX; intro w av nv cv HX))
   refine ya9' HX rfl rfl (by (repeat (first | (with_reducible exact k_s) | (with_reducible apply k_m)))) (by kernel_rfl) ?_
   have h2 := (HX.out.drop.cut1).poolRow
   rw [HE.out]
   exact ⟨_, _, rfl, fun q hq => k_n _ (k_n _ hq), ⟨a, n', c, xs, rfl, HRL.out.mono (fun q hq => k_n _ hq), k_s⟩, h2⟩
  case pos =>
   have HLN := Lib.hid (show xs.length = i * 11 by have := HRL.out.len; rw [yj0'] at this; exact this)
   have HBD := Lib.hid (show ∀ n, xs.length = n * 11 → n + 1 ≤ 140737488355328 ∧ (n + 1) * 120 ≤ 140737488355328 from fun n hn => by
    have := HLN.out
    have := HM.out
    omega)
   have HRN := Lib.hid (show ResL ((1, .slice none 0 0, []) :: P) (yf0' e at_ (i + 1)) (xs ++ ((yb3' (if (i : Int) = at_ then e else 14)).cells (.slice none 0 0)).toList) by rw [yn5']; exact HRL.out.snoc k_s)
   have q0 : decide (i < m) = true := decide_eq_true hlt
   have q9 : i ≤ 16 := by have := HM.out; omega
   by_cases hat : (i : Int) = at_
   case' pos =>
    have q4 : ((i : Int) == at_) = true := by rw [beq_iff_eq]; exact hat
    rw [if_pos hat] at HRN
   case' neg =>
    have q4 : ((i : Int) == at_) = false := by rw [beq_eq_false_iff_ne]; exact hat
    rw [if_neg hat] at HRN
   all_goals
    clear hat
    go_wp2_with (first | refine v1 ?_ | (refine vS ?_; clear HX; intro w HX) | (refine sWA ?_; clear HX; (first | (have hq := b9; clear hq; intro w b10 HX) | (have hq := b8; clear hq; intro w b9 HX) | (have hq := b7; clear hq; intro w b8 HX) | (have hq := b6; clear hq; intro w b7 HX) | (have hq := b5; clear hq; intro w b6 HX) | (have hq := b4; clear hq; intro w b5 HX) | (have hq := b3; clear hq; intro w b4 HX) | (have hq := b2; clear hq; intro w b3 HX) | (have hq := b; clear hq; intro w b2 HX) | intro w b HX); simp only [Act.put, k_a, k_b, k_c]) | (refine vP ?_; clear HX; intro w av nv cv HX))
    go_roundg (m - (i + 1))
    case rel =>
     exact ⟨i + 1, _, av, nv, cv, by omega, by go_num, HRN.out, HX.out.pm 6 [3, 0, 4, 5] rfl rfl⟩
    case measure => omega
end
end Go.Proofs.YtcnkifbjlihaoaaGreatDoor

namespace Go.Av
open Go.RowKit
structure NodeB (K : Nat) (n : NodeS) : Prop where
 ver : 0 ≤ n.ver ∧ n.ver ≤ 2147483647
 kids : 0 ≤ n.kids ∧ n.kids ≤ 2147483647
 next : 0 ≤ n.next ∧ n.next ≤ 2147483647
 rise : yig' n.names
 few : n.names.length ≤ K
 data : n.data.size ≤ 1000
theorem NodeB.ok {K : Nat} {n : NodeS} (h : NodeB K n) (hK : K ≤ 100000) : NodeOk n := ⟨h.ver, h.kids, h.next, h.rise, by have := h.few; omega, by have := h.data; omega⟩
theorem NodeB.mono {K K' : Nat} {n : NodeS} (h : NodeB K n) (hK : K ≤ K') : NodeB K' n := ⟨h.ver, h.kids, h.next, h.rise, by have := h.few; omega, h.data⟩
structure TreeB (K : Nat) (S : TreeS) : Prop where
 rise : yda' S.l
 keys : ∀ e ∈ S.l, e.1.length ≤ 200
 nodes : ∀ e ∈ S.l, NodeB K e.2
 len : (S.l.length : Int) ≤ S.room
 room : 1 ≤ S.room ∧ S.room ≤ 500
theorem TreeB.ok {K : Nat} {S : TreeS} (h : TreeB K S) (hK : K ≤ 100000) : ∀ e ∈ S.l, NodeOk e.2 := fun e he => (h.nodes e he).ok hK
theorem TreeB.mono {K K' : Nat} {S : TreeS} (h : TreeB K S) (hK : K ≤ K') : TreeB K' S := ⟨h.rise, h.keys, fun e he => (h.nodes e he).mono hK, h.len, h.room⟩
theorem TreeB.many {K : Nat} {S : TreeS} (h : TreeB K S) : S.l.length ≤ 500 := by have := h.len; have := h.room; omega
theorem yw2' (room : Int) (h : 1 ≤ room ∧ room ≤ 500) : TreeB 0 ⟨room, []⟩ := ⟨List.Pairwise.nil, by simp, by simp, by simpa using (by omega : (0 : Int) ≤ room), h⟩
theorem y0o' (zxid owner : Int) {data : ByteArray} (h : data.size ≤ 1000) (K : Nat) : NodeB K (newS zxid owner data) := ⟨by simp [newS], by simp [newS], by simp [newS], List.Pairwise.nil, by simp [newS], h⟩
theorem yw9' {K : Nat} {n : NodeS} (hn : NodeB K n) (zxid : Int) {data : ByteArray} (h : data.size ≤ 1000) : NodeB K (ycu' n zxid data) := ⟨yle' hn.ver, hn.kids, hn.next, hn.rise, hn.few, h⟩
theorem yxl' {K : Nat} {n : NodeS} (hn : NodeB K n) (s : Bs) : NodeB (K + 1) (addS n s) := by
 unfold addS
 split
 ·exact hn.mono (by omega)
 ·rename_i hh
  refine ⟨hn.ver, yle' hn.kids, yle' hn.next, ypc' hn.rise (by simpa using hh), ?_, hn.data⟩
  have := hn.few
  show (insS n.names s).length ≤ _
  have h2 := yy1' n.names s
  omega
theorem y0x' {K : Nat} {n : NodeS} (hn : NodeB K n) (s : Bs) : NodeB K (remS n s) := by
 unfold remS
 split
 ·rename_i hh
  refine ⟨hn.ver, yle' hn.kids, hn.next, yvc' hn.rise, ?_, hn.data⟩
  have := hn.few
  show (delS n.names s).length ≤ _
  have h2 := yyt' hh
  omega
 ·exact hn
theorem yoc' {p : Bs} {n : NodeS} {l : NoL} {e : Bs × NodeS} (h : e ∈ setT p n l) : (e = (p, n) ∧ ∃ n0, (p, n0) ∈ l) ∨ e ∈ l := by
 obtain ⟨x, hx, hxe⟩ := List.mem_map.1 h
 split at hxe
 ·rename_i hp
  subst hxe
  exact .inl ⟨by rw [hp], x.2, by rw [← hp]; exact hx⟩
 ·subst hxe; exact .inr hx
theorem yi3' {p : Bs} {n : NodeS} {l : NoL} {e : Bs × NodeS} (h : e ∈ insT p n l) : e = (p, n) ∨ e ∈ l := by
 have := (ydt' p n l).mem_iff.1 h
 simpa using this
theorem yld' {p : Bs} {l : NoL} {e : Bs × NodeS} (h : e ∈ delT p l) : e ∈ l := (List.mem_filter.1 h).1
theorem yer' (p : Bs) (f : NodeS → NodeS) (l : NoL) : (atUp p f l).length = l.length := by
 unfold atUp
 split
 ·rfl
 ·split
  ·rfl
  ·exact yfv' _ _ _
theorem ygm' (p : Bs) (f : NodeS → NodeS) (l : NoL) : (atUp p f l).map (·.1) = l.map (·.1) := by
 unfold atUp
 split
 ·rfl
 ·split
  ·rfl
  ·exact yjc' _ _ _
theorem yii' {p : Bs} {f : NodeS → NodeS} {l : NoL} (hn : (l.map (·.1)).Nodup) {e : Bs × NodeS} (h : e ∈ atUp p f l) : e ∈ l ∨ ∃ n, (e.1, n) ∈ l ∧ e.2 = f n := by
 unfold atUp at h
 split at h
 ·exact .inl h
 ·split at h
  ·exact .inl h
  ·rename_i m hm
   rcases yoc' h with ⟨rfl, _⟩ | h
   ·exact .inr ⟨m, (ybm' hn).1 hm, rfl⟩
   ·exact .inl h
theorem y06' {K : Nat} {S : TreeS} (h : TreeB K S) {p : Bs} {n : NodeS} (hp : p.length ≤ 200) (hn : NodeB K n) (hno : yal' p S.l = none) (hl : (S.l.length : Int) < S.room) : TreeB (K + 1) { S with l := layT p n S.l } := by
 have hr := yiz' (n := n) h.rise hno
 refine ⟨?_, fun e he => ?_, fun e he => ?_, ?_, h.room⟩
 ·show yda' (atUp _ _ _)
  unfold yda'
  rw [ygm']
  exact hr
 ·rcases yii' (ybh' hr) he with h1 | ⟨m, h1, -⟩
  ·rcases yi3' h1 with rfl | h2
   ·exact hp
   ·exact h.keys e h2
  ·rcases yi3' h1 with h2 | h2
   ·injection h2 with h2; rw [h2]; exact hp
   ·exact h.keys (e.1, m) h2
 ·rcases yii' (ybh' hr) he with h1 | ⟨m, h1, h2⟩
  ·rcases yi3' h1 with rfl | h2
   ·exact hn.mono (by omega)
   ·exact (h.nodes e h2).mono (by omega)
  ·rw [h2]
   rcases yi3' h1 with h3 | h3
   ·injection h3 with h3 h4
    subst h4
    exact yxl' hn _
   ·exact yxl' (h.nodes _ h3) _
 ·show ((atUp _ _ _).length : Int) ≤ S.room
  rw [yer', yk7']
  omega
theorem y0y' {K : Nat} {S : TreeS} (h : TreeB K S) (p : Bs) : TreeB K { S with l := remT p S.l } := by
 have hr := yl8' (p := p) h.rise
 refine ⟨?_, fun e he => ?_, fun e he => ?_, ?_, h.room⟩
 ·show yda' (atUp _ _ _)
  unfold yda'
  rw [ygm']
  exact hr
 ·rcases yii' (ybh' hr) he with h1 | ⟨m, h1, -⟩
  ·exact h.keys e (yld' h1)
  ·exact h.keys (e.1, m) (yld' h1)
 ·rcases yii' (ybh' hr) he with h1 | ⟨m, h1, h2⟩
  ·exact h.nodes e (yld' h1)
  ·rw [h2]; exact y0x' (h.nodes _ (yld' h1)) _
 ·show ((atUp _ _ _).length : Int) ≤ S.room
  rw [yer']
  have h1 : (delT p S.l).length ≤ S.l.length := List.length_filter_le _ _
  have := h.len
  omega
theorem y1a' {K : Nat} {S : TreeS} (h : TreeB K S) {p : Bs} {n : NodeS} (hn : NodeB K n) : TreeB K { S with l := setT p n S.l } := by
 refine ⟨yg1' h.rise, fun e he => ?_, fun e he => ?_, ?_, h.room⟩
 ·rcases yoc' he with ⟨rfl, n0, h1⟩ | h1
  ·exact h.keys (p, n0) h1
  ·exact h.keys e h1
 ·rcases yoc' he with ⟨rfl, -⟩ | h1
  ·exact hn
  ·exact h.nodes e h1
 ·show ((setT _ _ _).length : Int) ≤ S.room
  rw [yfv']
  exact h.len
theorem ytf' {S : TreeS} {o : OpS} (h : (ya4' S o).1 = 0) : (S.l.length : Int) < S.room := by
 have hend : ∀ p, (endT S p).1 = 0 → (S.l.length : Int) < S.room := fun p hp => by
  unfold endT at hp
  split at hp
  ·exact absurd hp (by decide)
  ·split at hp
   ·exact absurd hp (by decide)
   ·omega
 unfold ya4' at h
 split at h
 ·exact hend _ h
 ·split at h
  ·exact absurd h (by decide)
  ·split at h
   ·exact absurd h (by decide)
   ·split at h
    ·split at h
     ·exact absurd h (by decide)
     ·exact hend _ h
    ·exact hend _ h
theorem yu6' {K : Nat} {S : TreeS} (h : TreeB K S) {o : OpS} (hg : yb5' o = 0) (sess zxid : Int) : TreeB (K + 1) (yb1' S o sess zxid).2 := by
 obtain ⟨h1, h2, -, -⟩ := ydm' hg
 have hp := yb8' (yc2' h1).2.2.1
 unfold yb1'
 split
 ·exact h.mono (by omega)
 ·rename_i hz
  have hz : (ya4' S o).1 = 0 := by omega
  obtain ⟨h3, h4⟩ := ykb' hz
  have hps : o.path.size = o.p.length := by unfold OpS.p; exact (Array.length_toList).symm
  exact y06' h (by omega) (y0o' _ _ h2 K) h3 (ytf' hz)
theorem yu0' {K : Nat} {S : TreeS} (h : TreeB K S) {o : OpS} (hg : yb5' o = 0) (zxid : Int) : TreeB K (yby' S o zxid).2 := by
 obtain ⟨-, h2, -, -⟩ := ydm' hg
 unfold yby'
 split
 ·exact h
 ·rename_i n hn
  split
  ·exact h
  ·split
   ·exact h
   ·split
    ·exact y0y' h _
    ·split
     ·exact y1a' h (yw9' (h.nodes _ ((ybm' (ybh' h.rise)).1 hn)) zxid h2)
     ·exact h
theorem do_b {K : Nat} {S : TreeS} (h : TreeB K S) (o : OpS) (sess zxid : Int) : TreeB (K + 1) (doT S o sess zxid).2 := by
 unfold doT
 split
 ·exact h.mono (by omega)
 ·rename_i hg
  have hg : yb5' o = 0 := by omega
  split
  ·exact h.mono (by omega)
  ·split
   ·exact yu6' h hg sess zxid
   ·split
    ·exact (yu0' h hg zxid).mono (by omega)
    ·exact h.mono (by omega)
def yaq' (sess zxid : Int) : List OpS → TreeS → List ResS × TreeS × Int
 | [], S => ([], S, 0)
 | o :: l, S => if (doT S o sess zxid).1.err ≠ 0 then ([], (doT S o sess zxid).2, (doT S o sess zxid).1.err) else
   ((doT S o sess zxid).1 :: (yaq' sess zxid l (doT S o sess zxid).2).1, (yaq' sess zxid l (doT S o sess zxid).2).2)
def ybv' (S : TreeS) (sess zxid : Int) (ops : List OpS) : ReplyS × TreeS × Bool :=
 if 16 < ops.length then (yeg' 0 2 (-1) 0, S, false)
 else if ops.length = 0 then (yeg' 0 1 (-1) 0, S, false)
 else if (yaq' sess zxid ops S).2.2 ≠ 0 then (yeg' 0 (yaq' sess zxid ops S).2.2 (yaq' sess zxid ops S).1.length ops.length, S, false)
 else (⟨0, zxid, 0, -1, (yaq' sess zxid ops S).1⟩, (yaq' sess zxid ops S).2.1, true)
theorem you' {sess zxid : Int} : ∀ (l : List OpS) {K : Nat} {S : TreeS}, TreeB K S → TreeB (K + l.length) (yaq' sess zxid l S).2.1
 | [], K, S, h => h
 | o :: l, K, S, h => by
  have h1 := do_b h o sess zxid
  unfold yaq'
  split
  ·exact h1.mono (by simp)
  ·have := you' (sess := sess) (zxid := zxid) l h1
   simp only [List.length_cons]
   rw [show K + (l.length + 1) = K + 1 + l.length by omega]
   exact this
theorem ysz' {K : Nat} {S : TreeS} (h : TreeB K S) (sess zxid : Int) (ops : List OpS) : TreeB (K + 16) (ybv' S sess zxid ops).2.1 := by
 unfold ybv'
 split
 ·exact h.mono (by omega)
 ·split
  ·exact h.mono (by omega)
  ·split
   ·exact h.mono (by omega)
   ·exact (you' ops h).mono (by omega)
theorem ykp' {sess zxid : Int} (o : OpS) : ∀ (l : List OpS) (S : TreeS), (yaq' sess zxid l S).2.2 = 0 →
  yaq' sess zxid (l ++ [o]) S = if (doT (yaq' sess zxid l S).2.1 o sess zxid).1.err ≠ 0 then ((yaq' sess zxid l S).1, (doT (yaq' sess zxid l S).2.1 o sess zxid).2, (doT (yaq' sess zxid l S).2.1 o sess zxid).1.err)
   else ((yaq' sess zxid l S).1 ++ [(doT (yaq' sess zxid l S).2.1 o sess zxid).1], (doT (yaq' sess zxid l S).2.1 o sess zxid).2, 0)
 | [], S, _ => by
  simp only [List.nil_append, yaq']
  split <;> rename_i hq <;> simp [hq]
 | q :: l, S, h => by
  unfold yaq' at h
  by_cases hq : (doT S q sess zxid).1.err ≠ 0
  ·rw [if_pos hq] at h; exact absurd h hq
  ·rw [if_neg hq] at h
   have ih := ykp' o l (doT S q sess zxid).2 h
   rw [List.cons_append]
   conv => lhs; unfold yaq'
   rw [if_neg hq, ih]
   conv => rhs; unfold yaq'
   rw [if_neg hq]
   dsimp only
   split <;> rfl
theorem yg4' {sess zxid : Int} : ∀ (l : List OpS) (S : TreeS), (yaq' sess zxid l S).2.2 = 0 → (yaq' sess zxid l S).1.length = l.length
 | [], _, _ => rfl
 | q :: l, S, h => by
  unfold yaq' at h ⊢
  by_cases hq : (doT S q sess zxid).1.err ≠ 0
  ·rw [if_pos hq] at h; exact absurd h hq
  ·rw [if_neg hq] at h ⊢
   simp only [List.length_cons]
   rw [yg4' l _ h]
end Go.Av

namespace Go.Av
open Go.RowKit
theorem ykm' {sess zxid : Int} (o : OpS) (l2 : List OpS) : ∀ (l : List OpS) (S : TreeS), (yaq' sess zxid l S).2.2 = 0 → (doT (yaq' sess zxid l S).2.1 o sess zxid).1.err ≠ 0 →
  (yaq' sess zxid (l ++ o :: l2) S).1.length = l.length ∧ (yaq' sess zxid (l ++ o :: l2) S).2.2 = (doT (yaq' sess zxid l S).2.1 o sess zxid).1.err
 | [], S, _, h => by
  simp only [List.nil_append, yaq'] at h ⊢
  rw [if_pos h]
  exact ⟨rfl, rfl⟩
 | q :: l, S, h0, h => by
  unfold yaq' at h0 h
  by_cases hq : (doT S q sess zxid).1.err ≠ 0
  ·rw [if_pos hq] at h0; exact absurd h0 hq
  ·rw [if_neg hq] at h0 h
   have ih := ykm' o l2 l (doT S q sess zxid).2 h0 h
   rw [List.cons_append]
   unfold yaq'
   rw [if_neg hq, if_neg hq]
   simp only [List.length_cons]
   exact ⟨by rw [ih.1], ih.2⟩
theorem yak' (o : OpS) : o.cells.length = 5 := rfl
end Go.Av
namespace Go.Proofs.YtcnkifbjlihaoaaGreatDoor
open Go.RowKit Go.Av
section
variable {w0 w : World} {t K : Nat} {S : TreeS} {P P' : List PRow} {R : List Thing} {rows : List (Value × Bs)}
def yuw' (w0 : World) (t : Nat) (P : List PRow) (R : List Thing) (rows : List (Value × Bs)) (m : ReplyS × TreeS × Bool) (e : Ending) (w' : World) : Prop :=
 ∃ v P', e = .returned (.tuple #[v, .bool m.2.2]) ∧ (∀ q ∈ P, q ∈ P') ∧ yf5' P' m.1 v ∧ Sep w0 w' (yab' w0 P' :: yaj' t m.2.1 P' :: R) rows
def yrp' (w0 : World) (t b b2 c : Nat) (sess zxid : Int) (S : TreeS) (ops : List OpS) (K : Nat) (P : List PRow) (R : List Thing) (rows : List (Value × Bs)) (k : Nat) (v31 : Value) (w : World) : Prop :=
 ∃ (i : Nat) (P' : List PRow) (xs : List Value) (a : Option Addr) (n c' : Nat), i + k = ops.length ∧ v31 = .int .i64 (i : Int) ∧ (∀ q ∈ P, q ∈ P') ∧ (yaq' sess zxid (ops.take i) S).2.2 = 0 ∧ ResL P' (yaq' sess zxid (ops.take i) S).1 xs ∧
  Sep w0 w (yac' b2 (.cells #[.int .i64 0, .int .i64 zxid, .int .i64 0, .int .i64 (-1), .slice a n c'] 39 (0, 0)) :: yaf' 11 (.slice a n c') xs :: yab' w0 P' :: yaj' c (yaq' sess zxid (ops.take i) S).2.1 P' :: yaj' t S P' ::
   yac' b (.cells #[.int .i64 0, .int .i64 0, .int .i64 0, .int .i64 0, .slice none 0 0] 39 (0, 0)) :: R) rows
set_option maxRecDepth 100000 in
set_option maxHeartbeats 8000000 in
theorem yhs' (h : Sep w0 w (yab' w0 P :: yaj' t S P :: R) rows) (hd : DoorN w0) (hB : TreeB K S) (hK : K + 16 ≤ 100000) (sess zxid : Int) (ops : List OpS) (v : Value) (hv : (5, v, ops.flatMap OpS.cells) ∈ P) (hp : ∀ o ∈ ops, o.path.size ≤ 100000) :
  Calls Tryz.prog 69 #[.pointer (some ⟨t, 0, none⟩), .int .i64 sess, .int .i64 zxid, v] w (yuw' w0 t P R rows (ybv' S sess zxid ops)) := by
 obtain ⟨E, hE⟩ := h.poolGet hv
 obtain ⟨a0, n0, c0, rfl, hl0, hn0, hc0, hne⟩ := ReadRow.some hE
 rw [yav' yak'] at hl0
 obtain rfl : ops.length = n0 := by omega
 have HNE := Lib.hid hne
 have HV := Lib.hid hv
 have HX := Lib.hid h
 have HBB := Lib.hid (show _ ∧ _ from ⟨hB, hK⟩)
 obtain ⟨rr, hrr⟩ : ∃ rr, ybv' S sess zxid ops = rr := ⟨_, rfl⟩
 rw [hrr]
 have HRR := Lib.hid hrr
 clear hrr h hE hne hv hl0 hn0 hc0 hB hK
 by_cases h16 : 16 < ops.length
 ·have HE := Lib.hid (show rr = (yeg' 0 2 (-1) 0, S, false) by rw [← HRR.out]; unfold ybv'; rw [if_pos h16])
  have q1 : decide (16 < ops.length) = true := decide_eq_true h16
  have q2 : decide (16 < (ops.length : Int)) = true := decide_eq_true (by omega)
  clear h16 HRR
  go_enter Tryz.func69, Tryz.ntmps69
  go_wp2_with (first | refine v1 ?_ | (refine vS ?_; clear HX; intro w HX) | (refine vA ?_; clear HX; (first | (have hq := b2; clear hq; intro w b3 HX) | (have hq := b; clear hq; intro w b2 HX) | intro w b HX)) | (refine vP ?_; clear HX; intro w av nv cv HX))
  refine (yep' HX.out.up1 _ _ _ _).mono ?_
  rintro e w ⟨v, P', rfl, hP', ⟨a', n', c', xs', rfl, hrl, hmem⟩, hS⟩
  replace HX := Lib.hid hS
  clear hS
  go_wp2_with (first | refine v1 ?_ | (refine vS ?_; clear HX; intro w HX) | (refine vA ?_; clear HX; (first | (have hq := b2; clear hq; intro w b3 HX) | (have hq := b; clear hq; intro w b2 HX) | intro w b HX)) | (refine vP ?_; clear HX; intro w av nv cv HX))
  refine ydx' HX rfl rfl (by (repeat (first | (with_reducible exact k_s) | (with_reducible apply k_m)))) (by kernel_rfl) ?_
  rw [HE.out]
  exact ⟨_, P', rfl, hP', ⟨a', n', c', xs', rfl, hrl, hmem⟩, (yaz' HX.out.cut1.up1 hP').up1⟩
 by_cases h00 : ops.length = 0
 ·have HE := Lib.hid (show rr = (yeg' 0 1 (-1) 0, S, false) by rw [← HRR.out]; unfold ybv'; rw [if_neg h16, if_pos h00])
  have q1 : decide (16 < ops.length) = false := decide_eq_false h16
  have q2 : decide (16 < (ops.length : Int)) = false := decide_eq_false (by omega)
  have q3 : ((ops.length : Int) == 0) = true := by rw [beq_iff_eq]; omega
  clear h16 h00 HRR
  go_enter Tryz.func69, Tryz.ntmps69
  go_wp2_with (first | refine v1 ?_ | (refine vS ?_; clear HX; intro w HX) | (refine vA ?_; clear HX; (first | (have hq := b2; clear hq; intro w b3 HX) | (have hq := b; clear hq; intro w b2 HX) | intro w b HX)) | (refine vP ?_; clear HX; intro w av nv cv HX))
  refine (yep' HX.out.up1 _ _ _ _).mono ?_
  rintro e w ⟨v, P', rfl, hP', ⟨a', n', c', xs', rfl, hrl, hmem⟩, hS⟩
  replace HX := Lib.hid hS
  clear hS
  go_wp2_with (first | refine v1 ?_ | (refine vS ?_; clear HX; intro w HX) | (refine vA ?_; clear HX; (first | (have hq := b2; clear hq; intro w b3 HX) | (have hq := b; clear hq; intro w b2 HX) | intro w b HX)) | (refine vP ?_; clear HX; intro w av nv cv HX))
  refine ydx' HX rfl rfl (by (repeat (first | (with_reducible exact k_s) | (with_reducible apply k_m)))) (by kernel_rfl) ?_
  rw [HE.out]
  exact ⟨_, P', rfl, hP', ⟨a', n', c', xs', rfl, hrl, hmem⟩, (yaz' HX.out.cut1.up1 hP').up1⟩
 have HRQ := Lib.hid (show (if (yaq' sess zxid ops S).2.2 ≠ 0 then (yeg' 0 (yaq' sess zxid ops S).2.2 (yaq' sess zxid ops S).1.length ops.length, S, false) else (⟨0, zxid, 0, -1, (yaq' sess zxid ops S).1⟩, (yaq' sess zxid ops S).2.1, true)) = rr by rw [← HRR.out]; unfold ybv'; rw [if_neg h16, if_neg h00])
 have HL := Lib.hid (show ops.length ≤ 16 by omega)
 have q1 : decide (16 < ops.length) = false := decide_eq_false h16
 have q2 : decide (16 < (ops.length : Int)) = false := decide_eq_false (by omega)
 have q3 : ((ops.length : Int) == 0) = false := by rw [beq_eq_false_iff_ne]; omega
 clear h16 h00 HRR
 go_enter Tryz.func69, Tryz.ntmps69
 go_wp2_with (first | refine v1 ?_ | (refine vS ?_; clear HX; intro w HX) | (refine vA ?_; clear HX; (first | (have hq := b2; clear hq; intro w b3 HX) | (have hq := b; clear hq; intro w b2 HX) | intro w b HX)) | (refine vP ?_; clear HX; intro w av nv cv HX))
 refine (yd8' HX.out.up2.up2 (HBB.out.1.ok (by have := HBB.out.2; omega))).mono ?_
 rintro e w ⟨c, P', rfl, hP', hS⟩
 replace HX := Lib.hid hS
 have HP := Lib.hid hP'
 clear hS hP'
 go_wp2_with (first | refine v1 ?_ | (refine vS ?_; clear HX; intro w HX) | (refine vA ?_; clear HX; (first | (have hq := b2; clear hq; intro w b3 HX) | (have hq := b; clear hq; intro w b2 HX) | intro w b HX)) | (refine vP ?_; clear HX; intro w av nv cv HX))
 have HST := Lib.hid (show yrp' w0 t b b2 c sess zxid S ops K P R rows ops.length (.int .i64 (0 : Int)) w from ⟨0, P', [], none, 0, 0, by simp, rfl, HP.out, rfl, .nil, (HX.out.nilRow 11).up1⟩)
 clear HX HP
 go_loopg [31] ops.length (fun k v31 wr => yrp' w0 t b b2 c sess zxid S ops K P R rows k v31 wr)
 case atStart => exact HST.out
 case round =>
  obtain ⟨i, P9, xs, a, n, c', hik, rfl, hP9, hst, hrl, hS⟩ := hrel
  by_cases hlt : i < ops.length
  case neg =>
   obtain rfl : i = ops.length := by omega
   rw [List.take_length] at hst hrl hS
   have HE := Lib.hid (show rr = (⟨0, zxid, 0, -1, (yaq' sess zxid ops S).1⟩, (yaq' sess zxid ops S).2.1, true) by have := HRQ.out; rw [if_neg (fun hh => hh hst)] at this; exact this.symm)
   have HRL := Lib.hid hrl
   have HPP := Lib.hid hP9
   obtain ⟨mc, gc, c1, c2, c3, hS⟩ := yg8' hS.up3
   obtain ⟨mt, gt, -, -, -, hS⟩ := yg8' hS.up6
   have HC := Lib.hid (show _ ∧ _ ∧ _ from ⟨c1, c2, c3⟩)
   have HX := Lib.hid hS
   clear hst hrl hS hP9 hik hlt c1 c2 c3
   go_wp2_with (first | refine v1 ?_ | (refine vS ?_; clear HX; intro w HX) | (refine vA ?_; clear HX; (first | (have hq := b2; clear hq; intro w b3 HX) | (have hq := b; clear hq; intro w b2 HX) | intro w b HX)) | (refine vP ?_; clear HX; intro w av nv cv HX))
   refine ydx' HX rfl rfl (by (repeat (first | (with_reducible exact k_s) | (with_reducible apply k_m)))) (by kernel_rfl) ?_
   obtain ⟨c1, c2, c3⟩ := HC.out
   have h1 : Sep w0 w (yaf' 11 (.slice a n c') xs :: yab' w0 P9 :: yc7' t mc (yaq' sess zxid ops S).2.1.room :: yam' .string mc (gc.map NodeG.kv) :: ThL (gc.map NodeG.th) :: R) rows := HX.out.pm 10 [7, 8, 0, 4, 5] rfl rfl
   have h2 := yg9' (P := (11, .slice a n c', xs) :: P9) h1.poolRow.up3.up3.up3 c1 c2 (fun g hg => k_n _ (c3 g hg))
   rw [HE.out]
   exact ⟨_, (11, .slice a n c', xs) :: P9, rfl, fun q hq => k_n _ (HPP.out q hq), ⟨a, n, c', xs, rfl, HRL.out.mono (fun q hq => k_n _ hq), k_s⟩, h2.up1⟩
  case pos =>
   obtain ⟨g, off, rfl⟩ := HNE.out (by intro e; have := congrArg List.length e; rw [yav' yak'] at this; simp at this; omega)
   obtain ⟨E, hE⟩ := hS.up2.poolGet (hP9 _ HV.out)
   have hl := ycs' (P := Tryz.prog) (f := OpS.cells) (i := i) hE yak' sn_op hlt
   have hsplit : ops = ops.take i ++ ops[i] :: ops.drop (i + 1) := by rw [← List.drop_eq_getElem_cons hlt, List.take_append_drop]
   have htk : ops.take (i + 1) = ops.take i ++ [ops[i]] := List.take_succ_eq_append_getElem hlt
   have hsn := ykp' (sess := sess) (zxid := zxid) ops[i] (ops.take i) S hst
   have hfl := ykm' (sess := sess) (zxid := zxid) ops[i] (ops.drop (i + 1)) (ops.take i) S hst
   have hlen := yg4' (ops.take i) S hst
   have hti : (ops.take i).length = i := by rw [List.length_take]; omega
   rw [hti] at hlen hfl
   rw [← hsplit] at hfl
   rw [← htk] at hsn
   have HTB := Lib.hid (you' (sess := sess) (zxid := zxid) (ops.take i) HBB.out.1)
   have HPO := Lib.hid (hp ops[i] (List.getElem_mem hlt))
   obtain ⟨o, ho⟩ : ∃ o, ops[i] = o := ⟨_, rfl⟩
   rw [ho] at hl hsn hfl HPO
   obtain ⟨st, hstt⟩ : ∃ st, yaq' sess zxid (ops.take i) S = st := ⟨_, rfl⟩
   rw [hstt] at hsn hfl hlen hst hrl hS HTB
   obtain ⟨r2, hr2⟩ : ∃ r2, doT st.2.1 o sess zxid = r2 := ⟨_, rfl⟩
   rw [hr2] at hsn hfl
   have HSN := Lib.hid (show _ ∧ _ ∧ _ from ⟨hsn, hfl, hlen⟩)
   have HRL := Lib.hid hrl
   have HR2 := Lib.hid hr2
   have HPP := Lib.hid hP9
   have HX := Lib.hid hS
   have q0 : decide (i < ops.length) = true := decide_eq_true hlt
   have q9 : i ≤ 16 := by have := HL.out; omega
   obtain ⟨kind, path, data, ver, flags⟩ := o
   simp only [OpS.cells] at hl
   clear hE hsplit htk hsn hfl hti hlen hst hrl hS ho hstt hr2 hP9
   go_wp2_with (first | refine v1 ?_ | (refine vS ?_; clear HX; intro w HX) | (refine vA ?_; clear HX; (first | (have hq := b2; clear hq; intro w b3 HX) | (have hq := b; clear hq; intro w b2 HX) | intro w b HX)) | (refine vP ?_; clear HX; intro w av nv cv HX) | ((with_reducible apply yau' hl); (· rfl); (· rfl); simp only [Act.put, k_a, k_b, k_c]))
   refine (yz0' HX.out.up4.up4 hd ⟨kind, path, data, ver, flags⟩ HPO.out sess zxid (HTB.out.ok (by have := HBB.out.2; have := HL.out; rw [List.length_take]; omega))).mono ?_
   rw [HR2.out]
   rintro e w ⟨nv, P2, rfl, hP2, hnv, hx⟩
   replace HX := Lib.hid hx
   obtain ⟨E, hE⟩ := Sep.poolGet hx hnv
   obtain ⟨na, nn, nc, rfl, -⟩ := id hE
   have HNV := Lib.hid hnv
   have HP2 := Lib.hid hP2
   clear hx hE hnv hP2
   obtain ⟨r, S3⟩ := r2
   dsimp only at HSN HX HNV ⊢
   simp only [ResS.cells]
   by_cases her : r.err = 0
   ·have q4 : (r.err != 0) = false := by rw [her]; rfl
    have HER := Lib.hid her
    have HBD := Lib.hid (show ∀ n, xs.length = n * 11 → n + 1 ≤ 140737488355328 ∧ (n + 1) * 120 ≤ 140737488355328 from fun n hn => by
     have h1 := HRL.out.len
     rw [HSN.out.2.2] at h1
     have := HL.out
     omega)
    clear her
    go_wp2_with (first | refine v1 ?_ | (refine vS ?_; clear HX; intro w HX) | (refine vA ?_; clear HX; (first | (have hq := b2; clear hq; intro w b3 HX) | (have hq := b; clear hq; intro w b2 HX) | intro w b HX)) | (refine vP ?_; clear HX; intro w av nv cv HX))
    go_roundg (ops.length - (i + 1))
    case rel =>
     have h := HSN.out.1
     rw [if_neg (fun hh => hh HER.out)] at h
     have h1 := yaz' HX.out.up7 HP2.out
     exact ⟨i + 1, P2, _, av, nv, cv, by omega, by go_num, fun q hq => HP2.out q (HPP.out q hq), by rw [h], by rw [h]; exact (HRL.out.mono HP2.out).snoc HNV.out, by rw [h]; exact h1.pm 9 [7, 1, 4, 5, 0, 8] rfl rfl⟩
    case measure => omega
   ·have q4 : (r.err != 0) = true := by rw [bne_iff_ne]; exact her
    have h1 := HSN.out.2.1 her
    have HE := Lib.hid (show rr = (yeg' 0 r.err i ops.length, S, false) by have := HRQ.out; rw [h1.1, h1.2, if_pos her] at this; exact this.symm)
    clear h1 her
    go_wp2_with (first | refine v1 ?_ | (refine vS ?_; clear HX; intro w HX) | (refine vA ?_; clear HX; (first | (have hq := b2; clear hq; intro w b3 HX) | (have hq := b; clear hq; intro w b2 HX) | intro w b HX)) | (refine vP ?_; clear HX; intro w av nv cv HX))
    refine (yep' HX.out.up1 _ _ _ _).mono ?_
    rintro e w ⟨v, P', rfl, hP', ⟨a', n', c', xs', rfl, hrl', hmem⟩, hS⟩
    replace HX := Lib.hid hS
    clear hS
    go_wp2_with (first | refine v1 ?_ | (refine vS ?_; clear HX; intro w HX) | (refine vA ?_; clear HX; (first | (have hq := b2; clear hq; intro w b3 HX) | (have hq := b; clear hq; intro w b2 HX) | intro w b HX)) | (refine vP ?_; clear HX; intro w av nv cv HX))
    refine ydx' HX rfl rfl (by (repeat (first | (with_reducible exact k_s) | (with_reducible apply k_m)))) (by kernel_rfl) ?_
    rw [HE.out]
    have h1 := HX.out.up6
    exact ⟨_, P', rfl, fun q hq => hP' q (HP2.out q (HPP.out q hq)), ⟨a', n', c', xs', rfl, hrl', hmem⟩, (yaz' h1 (fun q hq => hP' q (HP2.out q hq))).pm 8 [1, 0] rfl rfl⟩
end
end Go.Proofs.YtcnkifbjlihaoaaGreatDoor

namespace Go.Av
open Go.RowKit
def y09' (sess zxid : Int) (l : List OpS) (S : TreeS) : TreeS := l.foldl (fun S o => (doT S o sess zxid).2) S
theorem yhj' (S : TreeS) (o : OpS) (sess zxid : Int) : (doT S o sess zxid).2.room = S.room := by
 unfold doT
 split
 ·rfl
 ·split
  ·rfl
  ·split
   ·unfold yb1'; split <;> rfl
   ·split
    ·unfold yby'
     split
     ·rfl
     ·split
      ·rfl
      ·split
       ·rfl
       ·split
        ·rfl
        ·split <;> rfl
    ·rfl
theorem yem' {sess zxid : Int} : ∀ (l : List OpS) (S : TreeS), (y09' sess zxid l S).room = S.room
 | [], _ => rfl
 | o :: l, S => (yem' l (doT S o sess zxid).2).trans (yhj' S o sess zxid)
theorem yhz' {sess zxid : Int} {q : OpS} {S : TreeS} (l : List OpS) (hq : (doT S q sess zxid).1.err = 0) : yaq' sess zxid (q :: l) S = ((doT S q sess zxid).1 :: (yaq' sess zxid l (doT S q sess zxid).2).1, (yaq' sess zxid l (doT S q sess zxid).2).2) := by
 conv => lhs; unfold yaq'
 rw [if_neg (fun h => h hq)]
theorem yjg' {sess zxid : Int} {q : OpS} {S : TreeS} {l : List OpS} (h : (yaq' sess zxid (q :: l) S).2.2 = 0) : (doT S q sess zxid).1.err = 0 := by
 unfold yaq' at h
 by_cases hq : (doT S q sess zxid).1.err ≠ 0
 ·rw [if_pos hq] at h; exact absurd h hq
 ·exact Decidable.not_not.1 hq
theorem yko' {sess zxid : Int} : ∀ (l : List OpS) (S : TreeS), (yaq' sess zxid l S).2.1.room = S.room
 | [], _ => rfl
 | o :: l, S => by
  unfold yaq'
  split
  ·exact yhj' S o sess zxid
  ·exact (yko' l _).trans (yhj' S o sess zxid)
theorem ResL.at {P : List PRow} {l : List ResS} {xs : List Value} (h : ResL P l xs) : ∀ {i : Nat} (hi : i < l.length), ∃ nv, (1, nv, l[i].names.map sv) ∈ P ∧ ∀ j v, (l[i].cells nv).toList[j]? = some v → xs[i * 11 + j]? = some v := by
 induction h with
 | nil => intro i hi; cases hi
 | @cons r nv rs xs h1 h2 ih =>
  intro i hi
  cases i with
  | zero =>
   refine ⟨nv, h1, fun j v hv => ?_⟩
   have hv : (r.cells nv).toList[j]? = some v := hv
   have hj := (List.getElem?_eq_some_iff.1 hv).1
   rw [Nat.zero_mul, Nat.zero_add, List.getElem?_append_left hj]
   exact hv
  | succ i =>
   obtain ⟨nv', h3, h4⟩ := ih (i := i) (by simpa using hi)
   refine ⟨nv', h3, fun j v hv => ?_⟩
   have hl : (r.cells nv).toList.length = 11 := rfl
   rw [List.getElem?_append_right (by omega), hl, show (i + 1) * 11 + j - 11 = i * 11 + j by omega]
   exact h4 j v hv
end Go.Av
