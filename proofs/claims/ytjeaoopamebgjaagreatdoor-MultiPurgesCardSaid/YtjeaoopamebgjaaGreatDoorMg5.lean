/-
  Texts of this claim, laid together.
-/
import Derived.Test.YtjeaoopamebgjaaGreatDoorMg4
import Derived.Deep.DeepCutAuto
import Derived.Sort.KeysCollected
import Derived.Lib.SlKeysI
import Derived.Shelf.SlIter.Nil
import Derived.Shelf.SortM.Plain
import Derived.Shelf.SortM.SortNone
import Derived.Ground.GgzProg
import Derived.Ground.SlgmProg
import Derived.Test.YtjeaoopamebgjaaGreatDoorProg
set_option linter.unusedVariables false
set_option linter.unusedSimpArgs false

/-
  A tree: what stays true of it; several ops, one behind the other (plain).
-/
namespace Go.Av
open Go.RowKit
/-- A node with at most K names. -/
structure NodeB (K : Nat) (n : NodeS) : Prop where
  ver : 0 ≤ n.ver ∧ n.ver ≤ 2147483647
  kids : 0 ≤ n.kids ∧ n.kids ≤ 2147483647
  next : 0 ≤ n.next ∧ n.next ≤ 2147483647
  rise : RiseS n.names
  few : n.names.length ≤ K
  data : n.data.size ≤ 1000
theorem NodeB.ok {K : Nat} {n : NodeS} (h : NodeB K n) (hK : K ≤ 100000) : NodeOk n := ⟨h.ver, h.kids, h.next, h.rise, by have := h.few; omega, by have := h.data; omega⟩
theorem NodeB.mono {K K' : Nat} {n : NodeS} (h : NodeB K n) (hK : K ≤ K') : NodeB K' n := ⟨h.ver, h.kids, h.next, h.rise, by have := h.few; omega, h.data⟩
structure TreeB (K : Nat) (S : TreeS) : Prop where
  rise : RiseT S.l
  keys : ∀ e ∈ S.l, e.1.length ≤ 200
  nodes : ∀ e ∈ S.l, NodeB K e.2
  len : (S.l.length : Int) ≤ S.room
  room : 1 ≤ S.room ∧ S.room ≤ 500
theorem TreeB.ok {K : Nat} {S : TreeS} (h : TreeB K S) (hK : K ≤ 100000) : ∀ e ∈ S.l, NodeOk e.2 := fun e he => (h.nodes e he).ok hK
theorem TreeB.mono {K K' : Nat} {S : TreeS} (h : TreeB K S) (hK : K ≤ K') : TreeB K' S := ⟨h.rise, h.keys, fun e he => (h.nodes e he).mono hK, h.len, h.room⟩
theorem TreeB.many {K : Nat} {S : TreeS} (h : TreeB K S) : S.l.length ≤ 500 := by have := h.len; have := h.room; omega
theorem tree_new (room : Int) (h : 1 ≤ room ∧ room ≤ 500) : TreeB 0 ⟨room, []⟩ := ⟨List.Pairwise.nil, by simp, by simp, by simpa using (by omega : (0 : Int) ≤ room), h⟩
theorem newS_b (zxid owner : Int) {data : ByteArray} (h : data.size ≤ 1000) (K : Nat) : NodeB K (newS zxid owner data) := ⟨by simp [newS], by simp [newS], by simp [newS], List.Pairwise.nil, by simp [newS], h⟩
theorem writeS_b {K : Nat} {n : NodeS} (hn : NodeB K n) (zxid : Int) {data : ByteArray} (h : data.size ≤ 1000) : NodeB K (writeS n zxid data) := ⟨more_bd hn.ver, hn.kids, hn.next, hn.rise, hn.few, h⟩
theorem addS_b {K : Nat} {n : NodeS} (hn : NodeB K n) (s : Bs) : NodeB (K + 1) (addS n s) := by
  unfold addS
  split
  · exact hn.mono (by omega)
  · rename_i hh
    refine ⟨hn.ver, more_bd hn.kids, more_bd hn.next, ins_rise hn.rise (by simpa using hh), ?_, hn.data⟩
    have := hn.few
    show (insS n.names s).length ≤ _
    have h2 := ins_len n.names s
    omega
theorem remS_b {K : Nat} {n : NodeS} (hn : NodeB K n) (s : Bs) : NodeB K (remS n s) := by
  unfold remS
  split
  · rename_i hh
    refine ⟨hn.ver, more_bd hn.kids, hn.next, del_rise hn.rise, ?_, hn.data⟩
    have := hn.few
    show (delS n.names s).length ≤ _
    have h2 := del_len hh
    omega
  · exact hn
theorem mem_set {p : Bs} {n : NodeS} {l : NoL} {e : Bs × NodeS} (h : e ∈ setT p n l) : (e = (p, n) ∧ ∃ n0, (p, n0) ∈ l) ∨ e ∈ l := by
  obtain ⟨x, hx, hxe⟩ := List.mem_map.1 h
  split at hxe
  · rename_i hp
    subst hxe
    exact .inl ⟨by rw [hp], x.2, by rw [← hp]; exact hx⟩
  · subst hxe; exact .inr hx
theorem mem_ins {p : Bs} {n : NodeS} {l : NoL} {e : Bs × NodeS} (h : e ∈ insT p n l) : e = (p, n) ∨ e ∈ l := by
  have := (insT_perm p n l).mem_iff.1 h
  simpa using this
theorem mem_del {p : Bs} {l : NoL} {e : Bs × NodeS} (h : e ∈ delT p l) : e ∈ l := (List.mem_filter.1 h).1
theorem atUp_len (p : Bs) (f : NodeS → NodeS) (l : NoL) : (atUp p f l).length = l.length := by
  unfold atUp
  split
  · rfl
  · split
    · rfl
    · exact setT_len _ _ _
theorem atUp_keys (p : Bs) (f : NodeS → NodeS) (l : NoL) : (atUp p f l).map (·.1) = l.map (·.1) := by
  unfold atUp
  split
  · rfl
  · split
    · rfl
    · exact setT_keys _ _ _
theorem atUp_mem {p : Bs} {f : NodeS → NodeS} {l : NoL} (hn : (l.map (·.1)).Nodup) {e : Bs × NodeS} (h : e ∈ atUp p f l) : e ∈ l ∨ ∃ n, (e.1, n) ∈ l ∧ e.2 = f n := by
  unfold atUp at h
  split at h
  · exact .inl h
  · split at h
    · exact .inl h
    · rename_i m hm
      rcases mem_set h with ⟨rfl, _⟩ | h
      · exact .inr ⟨m, (look_mem hn).1 hm, rfl⟩
      · exact .inl h
theorem lay_b {K : Nat} {S : TreeS} (h : TreeB K S) {p : Bs} {n : NodeS} (hp : p.length ≤ 200) (hn : NodeB K n) (hno : lookT p S.l = none) (hl : (S.l.length : Int) < S.room) : TreeB (K + 1) { S with l := layT p n S.l } := by
  have hr := insT_rise (n := n) h.rise hno
  refine ⟨?_, fun e he => ?_, fun e he => ?_, ?_, h.room⟩
  · show RiseT (atUp _ _ _)
    unfold RiseT
    rw [atUp_keys]
    exact hr
  · rcases atUp_mem (rise_nodup hr) he with h1 | ⟨m, h1, -⟩
    · rcases mem_ins h1 with rfl | h2
      · exact hp
      · exact h.keys e h2
    · rcases mem_ins h1 with h2 | h2
      · injection h2 with h2; rw [h2]; exact hp
      · exact h.keys (e.1, m) h2
  · rcases atUp_mem (rise_nodup hr) he with h1 | ⟨m, h1, h2⟩
    · rcases mem_ins h1 with rfl | h2
      · exact hn.mono (by omega)
      · exact (h.nodes e h2).mono (by omega)
    · rw [h2]
      rcases mem_ins h1 with h3 | h3
      · injection h3 with h3 h4
        subst h4
        exact addS_b hn _
      · exact addS_b (h.nodes _ h3) _
  · show ((atUp _ _ _).length : Int) ≤ S.room
    rw [atUp_len, insT_len]
    omega
theorem rem_b {K : Nat} {S : TreeS} (h : TreeB K S) (p : Bs) : TreeB K { S with l := remT p S.l } := by
  have hr := delT_rise (p := p) h.rise
  refine ⟨?_, fun e he => ?_, fun e he => ?_, ?_, h.room⟩
  · show RiseT (atUp _ _ _)
    unfold RiseT
    rw [atUp_keys]
    exact hr
  · rcases atUp_mem (rise_nodup hr) he with h1 | ⟨m, h1, -⟩
    · exact h.keys e (mem_del h1)
    · exact h.keys (e.1, m) (mem_del h1)
  · rcases atUp_mem (rise_nodup hr) he with h1 | ⟨m, h1, h2⟩
    · exact h.nodes e (mem_del h1)
    · rw [h2]; exact remS_b (h.nodes _ (mem_del h1)) _
  · show ((atUp _ _ _).length : Int) ≤ S.room
    rw [atUp_len]
    have h1 : (delT p S.l).length ≤ S.l.length := List.length_filter_le _ _
    have := h.len
    omega
theorem set_b {K : Nat} {S : TreeS} (h : TreeB K S) {p : Bs} {n : NodeS} (hn : NodeB K n) : TreeB K { S with l := setT p n S.l } := by
  refine ⟨setT_rise h.rise, fun e he => ?_, fun e he => ?_, ?_, h.room⟩
  · rcases mem_set he with ⟨rfl, n0, h1⟩ | h1
    · exact h.keys (p, n0) h1
    · exact h.keys e h1
  · rcases mem_set he with ⟨rfl, -⟩ | h1
    · exact hn
    · exact h.nodes e h1
  · show ((setT _ _ _).length : Int) ≤ S.room
    rw [setT_len]
    exact h.len
theorem place_end {S : TreeS} {o : OpS} (h : (placeT S o).1 = 0) : (S.l.length : Int) < S.room := by
  have hend : ∀ p, (endT S p).1 = 0 → (S.l.length : Int) < S.room := fun p hp => by
    unfold endT at hp
    split at hp
    · exact absurd hp (by decide)
    · split at hp
      · exact absurd hp (by decide)
      · omega
  unfold placeT at h
  split at h
  · exact hend _ h
  · split at h
    · exact absurd h (by decide)
    · split at h
      · exact absurd h (by decide)
      · split at h
        · split at h
          · exact absurd h (by decide)
          · exact hend _ h
        · exact hend _ h
theorem create_b {K : Nat} {S : TreeS} (h : TreeB K S) {o : OpS} (hg : goodE o = 0) (sess zxid : Int) : TreeB (K + 1) (createT S o sess zxid).2 := by
  obtain ⟨h1, h2, -, -⟩ := goodE_ok hg
  have hp := goodP_len (formed_ok h1).2.2.1
  unfold createT
  split
  · exact h.mono (by omega)
  · rename_i hz
    have hz : (placeT S o).1 = 0 := by omega
    obtain ⟨h3, h4⟩ := place_zero hz
    have hps : o.path.size = o.p.length := by unfold OpS.p; exact (Array.length_toList).symm
    exact lay_b h (by omega) (newS_b _ _ h2 K) h3 (place_end hz)
theorem change_b {K : Nat} {S : TreeS} (h : TreeB K S) {o : OpS} (hg : goodE o = 0) (zxid : Int) : TreeB K (changeT S o zxid).2 := by
  obtain ⟨-, h2, -, -⟩ := goodE_ok hg
  unfold changeT
  split
  · exact h
  · rename_i n hn
    split
    · exact h
    · split
      · exact h
      · split
        · exact rem_b h _
        · split
          · exact set_b h (writeS_b (h.nodes _ ((look_mem (rise_nodup h.rise)).1 hn)) zxid h2)
          · exact h
/-- An op leaves a tree. -/
theorem do_b {K : Nat} {S : TreeS} (h : TreeB K S) (o : OpS) (sess zxid : Int) : TreeB (K + 1) (doT S o sess zxid).2 := by
  unfold doT
  split
  · exact h.mono (by omega)
  · rename_i hg
    have hg : goodE o = 0 := by omega
    split
    · exact h.mono (by omega)
    · split
      · exact create_b h hg sess zxid
      · split
        · exact (change_b h hg zxid).mono (by omega)
        · exact h.mono (by omega)
/-- Several ops, one behind the other, up to the first that fails: the answers, the tree, the error. -/
def stepsT (sess zxid : Int) : List OpS → TreeS → List ResS × TreeS × Int
  | [], S => ([], S, 0)
  | o :: l, S => if (doT S o sess zxid).1.err ≠ 0 then ([], (doT S o sess zxid).2, (doT S o sess zxid).1.err) else
      ((doT S o sess zxid).1 :: (stepsT sess zxid l (doT S o sess zxid).2).1, (stepsT sess zxid l (doT S o sess zxid).2).2)
/-- Several at once. -/
def manyT (S : TreeS) (sess zxid : Int) (ops : List OpS) : ReplyS × TreeS × Bool :=
  if 16 < ops.length then (failR 0 2 (-1) 0, S, false)
  else if ops.length = 0 then (failR 0 1 (-1) 0, S, false)
  else if (stepsT sess zxid ops S).2.2 ≠ 0 then (failR 0 (stepsT sess zxid ops S).2.2 (stepsT sess zxid ops S).1.length ops.length, S, false)
  else (⟨0, zxid, 0, -1, (stepsT sess zxid ops S).1⟩, (stepsT sess zxid ops S).2.1, true)
theorem steps_b {sess zxid : Int} : ∀ (l : List OpS) {K : Nat} {S : TreeS}, TreeB K S → TreeB (K + l.length) (stepsT sess zxid l S).2.1
  | [], K, S, h => h
  | o :: l, K, S, h => by
    have h1 := do_b h o sess zxid
    unfold stepsT
    split
    · exact h1.mono (by simp)
    · have := steps_b (sess := sess) (zxid := zxid) l h1
      simp only [List.length_cons]
      rw [show K + (l.length + 1) = K + 1 + l.length by omega]
      exact this
theorem many_b {K : Nat} {S : TreeS} (h : TreeB K S) (sess zxid : Int) (ops : List OpS) : TreeB (K + 16) (manyT S sess zxid ops).2.1 := by
  unfold manyT
  split
  · exact h.mono (by omega)
  · split
    · exact h.mono (by omega)
    · split
      · exact h.mono (by omega)
      · exact (steps_b ops h).mono (by omega)
/-- One more op. -/
theorem steps_snoc {sess zxid : Int} (o : OpS) : ∀ (l : List OpS) (S : TreeS), (stepsT sess zxid l S).2.2 = 0 →
    stepsT sess zxid (l ++ [o]) S = if (doT (stepsT sess zxid l S).2.1 o sess zxid).1.err ≠ 0 then ((stepsT sess zxid l S).1, (doT (stepsT sess zxid l S).2.1 o sess zxid).2, (doT (stepsT sess zxid l S).2.1 o sess zxid).1.err)
      else ((stepsT sess zxid l S).1 ++ [(doT (stepsT sess zxid l S).2.1 o sess zxid).1], (doT (stepsT sess zxid l S).2.1 o sess zxid).2, 0)
  | [], S, _ => by
    simp only [List.nil_append, stepsT]
    split <;> rename_i hq <;> simp [hq]
  | q :: l, S, h => by
    unfold stepsT at h
    by_cases hq : (doT S q sess zxid).1.err ≠ 0
    · rw [if_pos hq] at h; exact absurd h hq
    · rw [if_neg hq] at h
      have ih := steps_snoc o l (doT S q sess zxid).2 h
      rw [List.cons_append]
      conv => lhs; unfold stepsT
      rw [if_neg hq, ih]
      conv => rhs; unfold stepsT
      rw [if_neg hq]
      dsimp only
      split <;> rfl
theorem steps_len {sess zxid : Int} : ∀ (l : List OpS) (S : TreeS), (stepsT sess zxid l S).2.2 = 0 → (stepsT sess zxid l S).1.length = l.length
  | [], _, _ => rfl
  | q :: l, S, h => by
    unfold stepsT at h ⊢
    by_cases hq : (doT S q sess zxid).1.err ≠ 0
    · rw [if_pos hq] at h; exact absurd h hq
    · rw [if_neg hq] at h ⊢
      simp only [List.length_cons]
      rw [steps_len l _ h]
end Go.Av

/-
  Several at once: the walk of multi.Do.
-/
set_option linter.unusedSimpArgs false
namespace Go.Av
open Go.RowKit
theorem steps_fail {sess zxid : Int} (o : OpS) (l2 : List OpS) : ∀ (l : List OpS) (S : TreeS), (stepsT sess zxid l S).2.2 = 0 → (doT (stepsT sess zxid l S).2.1 o sess zxid).1.err ≠ 0 →
    (stepsT sess zxid (l ++ o :: l2) S).1.length = l.length ∧ (stepsT sess zxid (l ++ o :: l2) S).2.2 = (doT (stepsT sess zxid l S).2.1 o sess zxid).1.err
  | [], S, _, h => by
    simp only [List.nil_append, stepsT] at h ⊢
    rw [if_pos h]
    exact ⟨rfl, rfl⟩
  | q :: l, S, h0, h => by
    unfold stepsT at h0 h
    by_cases hq : (doT S q sess zxid).1.err ≠ 0
    · rw [if_pos hq] at h0; exact absurd h0 hq
    · rw [if_neg hq] at h0 h
      have ih := steps_fail o l2 l (doT S q sess zxid).2 h0 h
      rw [List.cons_append]
      unfold stepsT
      rw [if_neg hq, if_neg hq]
      simp only [List.length_cons]
      exact ⟨by rw [ih.1], ih.2⟩
theorem opcells_len (o : OpS) : o.cells.length = 5 := rfl
end Go.Av
namespace Go.Proofs.YtjeaoopamebgjaaGreatDoor
open Go.RowKit Go.Av
section
variable {w0 w : World} {t K : Nat} {S : TreeS} {P P' : List PRow} {R : List Thing} {rows : List (Value × Bs)}
/-- What a multi leaves. -/
def ManyPost (w0 : World) (t : Nat) (P : List PRow) (R : List Thing) (rows : List (Value × Bs)) (m : ReplyS × TreeS × Bool) (e : Ending) (w' : World) : Prop :=
  ∃ v P', e = .returned (.tuple #[v, .bool m.2.2]) ∧ (∀ q ∈ P, q ∈ P') ∧ ReplyIn P' m.1 v ∧ Sep w0 w' (ThPool w0 P' :: ThTree t m.2.1 P' :: R) rows
def ManyRel (w0 : World) (t b b2 c : Nat) (sess zxid : Int) (S : TreeS) (ops : List OpS) (K : Nat) (P : List PRow) (R : List Thing) (rows : List (Value × Bs)) (k : Nat) (v31 : Value) (w : World) : Prop :=
  ∃ (i : Nat) (P' : List PRow) (xs : List Value) (a : Option Addr) (n c' : Nat), i + k = ops.length ∧ v31 = .int .i64 (i : Int) ∧ (∀ q ∈ P, q ∈ P') ∧ (stepsT sess zxid (ops.take i) S).2.2 = 0 ∧ ResL P' (stepsT sess zxid (ops.take i) S).1 xs ∧
    Sep w0 w (ThCell b2 (.cells #[.int .i64 0, .int .i64 zxid, .int .i64 0, .int .i64 (-1), .slice a n c'] 41 (0, 0)) :: ThRow 11 (.slice a n c') xs :: ThPool w0 P' :: ThTree c (stepsT sess zxid (ops.take i) S).2.1 P' :: ThTree t S P' ::
      ThCell b (.cells #[.int .i64 0, .int .i64 0, .int .i64 0, .int .i64 0, .slice none 0 0] 41 (0, 0)) :: R) rows
set_option maxRecDepth 100000 in
set_option maxHeartbeats 8000000 in
theorem mdo_any (h : Sep w0 w (ThPool w0 P :: ThTree t S P :: R) rows) (hd : DoorN w0) (hB : TreeB K S) (hK : K + 16 ≤ 100000) (sess zxid : Int) (ops : List OpS) (v : Value) (hv : (5, v, ops.flatMap OpS.cells) ∈ P) (hp : ∀ o ∈ ops, o.path.size ≤ 100000) :
    Calls Tryz.prog 14 #[.pointer (some ⟨t, 0, none⟩), .int .i64 sess, .int .i64 zxid, v] w (ManyPost w0 t P R rows (manyT S sess zxid ops)) := by
  obtain ⟨E, hE⟩ := h.poolGet hv
  obtain ⟨a0, n0, c0, rfl, hl0, hn0, hc0, hne⟩ := ReadRow.some hE
  rw [flatG_len opcells_len] at hl0
  obtain rfl : ops.length = n0 := by omega
  have HNE := Lib.hid hne
  have HV := Lib.hid hv
  have HX := Lib.hid h
  have HBB := Lib.hid (show _ ∧ _ from ⟨hB, hK⟩)
  obtain ⟨rr, hrr⟩ : ∃ rr, manyT S sess zxid ops = rr := ⟨_, rfl⟩
  rw [hrr]
  have HRR := Lib.hid hrr
  clear hrr h hE hne hv hl0 hn0 hc0 hB hK
  by_cases h16 : 16 < ops.length
  · have HE := Lib.hid (show rr = (failR 0 2 (-1) 0, S, false) by rw [← HRR.out]; unfold manyT; rw [if_pos h16])
    have q1 : decide (16 < ops.length) = true := decide_eq_true h16
    have q2 : decide (16 < (ops.length : Int)) = true := decide_eq_true (by omega)
    clear h16 HRR
    go_enter Tryz.func14, Tryz.ntmps14
    go_wp2_with (first | (refine sWL ?_; simp only [Act.put, List.setIfInBounds_toArray, List.set_cons_zero, List.set_cons_succ, List.drop_zero, List.drop_succ_cons, List.take_succ_cons, List.take_zero, List.toList_toArray, NodeS.cells, OpS.cells, ResS.cells]) | (refine sWM ?_; simp only [Act.put, List.setIfInBounds_toArray, List.set_cons_zero, List.set_cons_succ]) | (refine sWS ?_; clear HX; intro w HX; simp only [Act.put, List.setIfInBounds_toArray, List.set_cons_zero, List.set_cons_succ, setMany, Nat.reduceAdd, NodeS.cells, OpS.cells, ResS.cells] at HX ⊢) | (refine sWT ?_; clear HX; intro w HX; simp only [Act.put, List.setIfInBounds_toArray, List.set_cons_zero, List.set_cons_succ, NodeS.cells, OpS.cells, ResS.cells] at HX ⊢) | (refine sWA ?_; clear HX; (first | (have hq := b9; clear hq; intro w b10 HX) | (have hq := b8; clear hq; intro w b9 HX) | (have hq := b7; clear hq; intro w b8 HX) | (have hq := b6; clear hq; intro w b7 HX) | (have hq := b5; clear hq; intro w b6 HX) | (have hq := b4; clear hq; intro w b5 HX) | (have hq := b3; clear hq; intro w b4 HX) | (have hq := b2; clear hq; intro w b3 HX) | (have hq := b; clear hq; intro w b2 HX) | intro w b HX); simp only [Act.put, List.setIfInBounds_toArray, List.set_cons_zero, List.set_cons_succ]) | (refine sWN ?_; clear HX; intro w mm HX; simp only [Act.put, List.setIfInBounds_toArray, List.set_cons_zero, List.set_cons_succ]) | (refine sWP ?_; clear HX; intro w av nv cv HX; simp only [Act.put, List.setIfInBounds_toArray, List.set_cons_zero, List.set_cons_succ]))
    refine (rfail_any HX.out.up1 _ _ _ _).mono ?_
    rintro e w ⟨v, P', rfl, hP', ⟨a', n', c', xs', rfl, hrl, hmem⟩, hS⟩
    clear HX
    have HX := Lib.hid hS
    clear hS
    go_wp2_with (first | (refine sWL ?_; simp only [Act.put, List.setIfInBounds_toArray, List.set_cons_zero, List.set_cons_succ, List.drop_zero, List.drop_succ_cons, List.take_succ_cons, List.take_zero, List.toList_toArray, NodeS.cells, OpS.cells, ResS.cells]) | (refine sWM ?_; simp only [Act.put, List.setIfInBounds_toArray, List.set_cons_zero, List.set_cons_succ]) | (refine sWS ?_; clear HX; intro w HX; simp only [Act.put, List.setIfInBounds_toArray, List.set_cons_zero, List.set_cons_succ, setMany, Nat.reduceAdd, NodeS.cells, OpS.cells, ResS.cells] at HX ⊢) | (refine sWT ?_; clear HX; intro w HX; simp only [Act.put, List.setIfInBounds_toArray, List.set_cons_zero, List.set_cons_succ, NodeS.cells, OpS.cells, ResS.cells] at HX ⊢) | (refine sWA ?_; clear HX; (first | (have hq := b9; clear hq; intro w b10 HX) | (have hq := b8; clear hq; intro w b9 HX) | (have hq := b7; clear hq; intro w b8 HX) | (have hq := b6; clear hq; intro w b7 HX) | (have hq := b5; clear hq; intro w b6 HX) | (have hq := b4; clear hq; intro w b5 HX) | (have hq := b3; clear hq; intro w b4 HX) | (have hq := b2; clear hq; intro w b3 HX) | (have hq := b; clear hq; intro w b2 HX) | intro w b HX); simp only [Act.put, List.setIfInBounds_toArray, List.set_cons_zero, List.set_cons_succ]) | (refine sWN ?_; clear HX; intro w mm HX; simp only [Act.put, List.setIfInBounds_toArray, List.set_cons_zero, List.set_cons_succ]) | (refine sWP ?_; clear HX; intro w av nv cv HX; simp only [Act.put, List.setIfInBounds_toArray, List.set_cons_zero, List.set_cons_succ]))
    refine sx_ret2 HX rfl rfl (by (repeat (first | (with_reducible exact List.mem_cons_self ..) | (with_reducible apply List.mem_cons_of_mem)))) (by kernel_rfl) ?_
    rw [HE.out]
    exact ⟨_, P', rfl, hP', ⟨a', n', c', xs', rfl, hrl, hmem⟩, (tree_mono HX.out.cut1.up1 hP').up1⟩
  by_cases h00 : ops.length = 0
  · have HE := Lib.hid (show rr = (failR 0 1 (-1) 0, S, false) by rw [← HRR.out]; unfold manyT; rw [if_neg h16, if_pos h00])
    have q1 : decide (16 < ops.length) = false := decide_eq_false h16
    have q2 : decide (16 < (ops.length : Int)) = false := decide_eq_false (by omega)
    have q3 : ((ops.length : Int) == 0) = true := by rw [beq_iff_eq]; omega
    clear h16 h00 HRR
    go_enter Tryz.func14, Tryz.ntmps14
    go_wp2_with (first | (refine sWL ?_; simp only [Act.put, List.setIfInBounds_toArray, List.set_cons_zero, List.set_cons_succ, List.drop_zero, List.drop_succ_cons, List.take_succ_cons, List.take_zero, List.toList_toArray, NodeS.cells, OpS.cells, ResS.cells]) | (refine sWM ?_; simp only [Act.put, List.setIfInBounds_toArray, List.set_cons_zero, List.set_cons_succ]) | (refine sWS ?_; clear HX; intro w HX; simp only [Act.put, List.setIfInBounds_toArray, List.set_cons_zero, List.set_cons_succ, setMany, Nat.reduceAdd, NodeS.cells, OpS.cells, ResS.cells] at HX ⊢) | (refine sWT ?_; clear HX; intro w HX; simp only [Act.put, List.setIfInBounds_toArray, List.set_cons_zero, List.set_cons_succ, NodeS.cells, OpS.cells, ResS.cells] at HX ⊢) | (refine sWA ?_; clear HX; (first | (have hq := b9; clear hq; intro w b10 HX) | (have hq := b8; clear hq; intro w b9 HX) | (have hq := b7; clear hq; intro w b8 HX) | (have hq := b6; clear hq; intro w b7 HX) | (have hq := b5; clear hq; intro w b6 HX) | (have hq := b4; clear hq; intro w b5 HX) | (have hq := b3; clear hq; intro w b4 HX) | (have hq := b2; clear hq; intro w b3 HX) | (have hq := b; clear hq; intro w b2 HX) | intro w b HX); simp only [Act.put, List.setIfInBounds_toArray, List.set_cons_zero, List.set_cons_succ]) | (refine sWN ?_; clear HX; intro w mm HX; simp only [Act.put, List.setIfInBounds_toArray, List.set_cons_zero, List.set_cons_succ]) | (refine sWP ?_; clear HX; intro w av nv cv HX; simp only [Act.put, List.setIfInBounds_toArray, List.set_cons_zero, List.set_cons_succ]))
    refine (rfail_any HX.out.up1 _ _ _ _).mono ?_
    rintro e w ⟨v, P', rfl, hP', ⟨a', n', c', xs', rfl, hrl, hmem⟩, hS⟩
    clear HX
    have HX := Lib.hid hS
    clear hS
    go_wp2_with (first | (refine sWL ?_; simp only [Act.put, List.setIfInBounds_toArray, List.set_cons_zero, List.set_cons_succ, List.drop_zero, List.drop_succ_cons, List.take_succ_cons, List.take_zero, List.toList_toArray, NodeS.cells, OpS.cells, ResS.cells]) | (refine sWM ?_; simp only [Act.put, List.setIfInBounds_toArray, List.set_cons_zero, List.set_cons_succ]) | (refine sWS ?_; clear HX; intro w HX; simp only [Act.put, List.setIfInBounds_toArray, List.set_cons_zero, List.set_cons_succ, setMany, Nat.reduceAdd, NodeS.cells, OpS.cells, ResS.cells] at HX ⊢) | (refine sWT ?_; clear HX; intro w HX; simp only [Act.put, List.setIfInBounds_toArray, List.set_cons_zero, List.set_cons_succ, NodeS.cells, OpS.cells, ResS.cells] at HX ⊢) | (refine sWA ?_; clear HX; (first | (have hq := b9; clear hq; intro w b10 HX) | (have hq := b8; clear hq; intro w b9 HX) | (have hq := b7; clear hq; intro w b8 HX) | (have hq := b6; clear hq; intro w b7 HX) | (have hq := b5; clear hq; intro w b6 HX) | (have hq := b4; clear hq; intro w b5 HX) | (have hq := b3; clear hq; intro w b4 HX) | (have hq := b2; clear hq; intro w b3 HX) | (have hq := b; clear hq; intro w b2 HX) | intro w b HX); simp only [Act.put, List.setIfInBounds_toArray, List.set_cons_zero, List.set_cons_succ]) | (refine sWN ?_; clear HX; intro w mm HX; simp only [Act.put, List.setIfInBounds_toArray, List.set_cons_zero, List.set_cons_succ]) | (refine sWP ?_; clear HX; intro w av nv cv HX; simp only [Act.put, List.setIfInBounds_toArray, List.set_cons_zero, List.set_cons_succ]))
    refine sx_ret2 HX rfl rfl (by (repeat (first | (with_reducible exact List.mem_cons_self ..) | (with_reducible apply List.mem_cons_of_mem)))) (by kernel_rfl) ?_
    rw [HE.out]
    exact ⟨_, P', rfl, hP', ⟨a', n', c', xs', rfl, hrl, hmem⟩, (tree_mono HX.out.cut1.up1 hP').up1⟩
  have HRQ := Lib.hid (show (if (stepsT sess zxid ops S).2.2 ≠ 0 then (failR 0 (stepsT sess zxid ops S).2.2 (stepsT sess zxid ops S).1.length ops.length, S, false) else (⟨0, zxid, 0, -1, (stepsT sess zxid ops S).1⟩, (stepsT sess zxid ops S).2.1, true)) = rr by rw [← HRR.out]; unfold manyT; rw [if_neg h16, if_neg h00])
  have HL := Lib.hid (show ops.length ≤ 16 by omega)
  have q1 : decide (16 < ops.length) = false := decide_eq_false h16
  have q2 : decide (16 < (ops.length : Int)) = false := decide_eq_false (by omega)
  have q3 : ((ops.length : Int) == 0) = false := by rw [beq_eq_false_iff_ne]; omega
  clear h16 h00 HRR
  go_enter Tryz.func14, Tryz.ntmps14
  go_wp2_with (first | (refine sWL ?_; simp only [Act.put, List.setIfInBounds_toArray, List.set_cons_zero, List.set_cons_succ, List.drop_zero, List.drop_succ_cons, List.take_succ_cons, List.take_zero, List.toList_toArray, NodeS.cells, OpS.cells, ResS.cells]) | (refine sWM ?_; simp only [Act.put, List.setIfInBounds_toArray, List.set_cons_zero, List.set_cons_succ]) | (refine sWS ?_; clear HX; intro w HX; simp only [Act.put, List.setIfInBounds_toArray, List.set_cons_zero, List.set_cons_succ, setMany, Nat.reduceAdd, NodeS.cells, OpS.cells, ResS.cells] at HX ⊢) | (refine sWT ?_; clear HX; intro w HX; simp only [Act.put, List.setIfInBounds_toArray, List.set_cons_zero, List.set_cons_succ, NodeS.cells, OpS.cells, ResS.cells] at HX ⊢) | (refine sWA ?_; clear HX; (first | (have hq := b9; clear hq; intro w b10 HX) | (have hq := b8; clear hq; intro w b9 HX) | (have hq := b7; clear hq; intro w b8 HX) | (have hq := b6; clear hq; intro w b7 HX) | (have hq := b5; clear hq; intro w b6 HX) | (have hq := b4; clear hq; intro w b5 HX) | (have hq := b3; clear hq; intro w b4 HX) | (have hq := b2; clear hq; intro w b3 HX) | (have hq := b; clear hq; intro w b2 HX) | intro w b HX); simp only [Act.put, List.setIfInBounds_toArray, List.set_cons_zero, List.set_cons_succ]) | (refine sWN ?_; clear HX; intro w mm HX; simp only [Act.put, List.setIfInBounds_toArray, List.set_cons_zero, List.set_cons_succ]) | (refine sWP ?_; clear HX; intro w av nv cv HX; simp only [Act.put, List.setIfInBounds_toArray, List.set_cons_zero, List.set_cons_succ]))
  refine (treecopy_any HX.out.up2.up2 (HBB.out.1.ok (by have := HBB.out.2; omega))).mono ?_
  rintro e w ⟨c, P', rfl, hP', hS⟩
  clear HX
  have HX := Lib.hid hS
  have HP := Lib.hid hP'
  clear hS hP'
  go_wp2_with (first | (refine sWL ?_; simp only [Act.put, List.setIfInBounds_toArray, List.set_cons_zero, List.set_cons_succ, List.drop_zero, List.drop_succ_cons, List.take_succ_cons, List.take_zero, List.toList_toArray, NodeS.cells, OpS.cells, ResS.cells]) | (refine sWM ?_; simp only [Act.put, List.setIfInBounds_toArray, List.set_cons_zero, List.set_cons_succ]) | (refine sWS ?_; clear HX; intro w HX; simp only [Act.put, List.setIfInBounds_toArray, List.set_cons_zero, List.set_cons_succ, setMany, Nat.reduceAdd, NodeS.cells, OpS.cells, ResS.cells] at HX ⊢) | (refine sWT ?_; clear HX; intro w HX; simp only [Act.put, List.setIfInBounds_toArray, List.set_cons_zero, List.set_cons_succ, NodeS.cells, OpS.cells, ResS.cells] at HX ⊢) | (refine sWA ?_; clear HX; (first | (have hq := b9; clear hq; intro w b10 HX) | (have hq := b8; clear hq; intro w b9 HX) | (have hq := b7; clear hq; intro w b8 HX) | (have hq := b6; clear hq; intro w b7 HX) | (have hq := b5; clear hq; intro w b6 HX) | (have hq := b4; clear hq; intro w b5 HX) | (have hq := b3; clear hq; intro w b4 HX) | (have hq := b2; clear hq; intro w b3 HX) | (have hq := b; clear hq; intro w b2 HX) | intro w b HX); simp only [Act.put, List.setIfInBounds_toArray, List.set_cons_zero, List.set_cons_succ]) | (refine sWN ?_; clear HX; intro w mm HX; simp only [Act.put, List.setIfInBounds_toArray, List.set_cons_zero, List.set_cons_succ]) | (refine sWP ?_; clear HX; intro w av nv cv HX; simp only [Act.put, List.setIfInBounds_toArray, List.set_cons_zero, List.set_cons_succ]))
  have HST := Lib.hid (show ManyRel w0 t b b2 c sess zxid S ops K P R rows ops.length (.int .i64 (0 : Int)) w from ⟨0, P', [], none, 0, 0, by simp, rfl, HP.out, rfl, .nil, (HX.out.nilRow 11).up1⟩)
  clear HX HP
  go_loopg [31] ops.length (fun k v31 wr => ManyRel w0 t b b2 c sess zxid S ops K P R rows k v31 wr)
  case atStart => exact HST.out
  case round =>
    obtain ⟨i, P9, xs, a, n, c', hik, rfl, hP9, hst, hrl, hS⟩ := hrel
    by_cases hlt : i < ops.length
    case neg =>
      obtain rfl : i = ops.length := by omega
      rw [List.take_length] at hst hrl hS
      have HE := Lib.hid (show rr = (⟨0, zxid, 0, -1, (stepsT sess zxid ops S).1⟩, (stepsT sess zxid ops S).2.1, true) by have := HRQ.out; rw [if_neg (fun hh => hh hst)] at this; exact this.symm)
      have HRL := Lib.hid hrl
      have HPP := Lib.hid hP9
      obtain ⟨mc, gc, c1, c2, c3, hS⟩ := tree_open hS.up3
      obtain ⟨mt, gt, -, -, -, hS⟩ := tree_open hS.up6
      have HC := Lib.hid (show _ ∧ _ ∧ _ from ⟨c1, c2, c3⟩)
      have HX := Lib.hid hS
      clear hst hrl hS hP9 hik hlt c1 c2 c3
      go_wp2_with (first | (refine sWL ?_; simp only [Act.put, List.setIfInBounds_toArray, List.set_cons_zero, List.set_cons_succ, List.drop_zero, List.drop_succ_cons, List.take_succ_cons, List.take_zero, List.toList_toArray, NodeS.cells, OpS.cells, ResS.cells]) | (refine sWM ?_; simp only [Act.put, List.setIfInBounds_toArray, List.set_cons_zero, List.set_cons_succ]) | (refine sWS ?_; clear HX; intro w HX; simp only [Act.put, List.setIfInBounds_toArray, List.set_cons_zero, List.set_cons_succ, setMany, Nat.reduceAdd, NodeS.cells, OpS.cells, ResS.cells] at HX ⊢) | (refine sWT ?_; clear HX; intro w HX; simp only [Act.put, List.setIfInBounds_toArray, List.set_cons_zero, List.set_cons_succ, NodeS.cells, OpS.cells, ResS.cells] at HX ⊢) | (refine sWA ?_; clear HX; (first | (have hq := b9; clear hq; intro w b10 HX) | (have hq := b8; clear hq; intro w b9 HX) | (have hq := b7; clear hq; intro w b8 HX) | (have hq := b6; clear hq; intro w b7 HX) | (have hq := b5; clear hq; intro w b6 HX) | (have hq := b4; clear hq; intro w b5 HX) | (have hq := b3; clear hq; intro w b4 HX) | (have hq := b2; clear hq; intro w b3 HX) | (have hq := b; clear hq; intro w b2 HX) | intro w b HX); simp only [Act.put, List.setIfInBounds_toArray, List.set_cons_zero, List.set_cons_succ]) | (refine sWN ?_; clear HX; intro w mm HX; simp only [Act.put, List.setIfInBounds_toArray, List.set_cons_zero, List.set_cons_succ]) | (refine sWP ?_; clear HX; intro w av nv cv HX; simp only [Act.put, List.setIfInBounds_toArray, List.set_cons_zero, List.set_cons_succ]))
      refine sx_ret2 HX rfl rfl (by (repeat (first | (with_reducible exact List.mem_cons_self ..) | (with_reducible apply List.mem_cons_of_mem)))) (by kernel_rfl) ?_
      obtain ⟨c1, c2, c3⟩ := HC.out
      have h1 : Sep w0 w (ThRow 11 (.slice a n c') xs :: ThPool w0 P9 :: thTree t mc (stepsT sess zxid ops S).2.1.room :: ThMap .string mc (gc.map NodeG.kv) :: ThL (gc.map NodeG.th) :: R) rows := HX.out.pm 10 [7, 8, 0, 4, 5] rfl rfl
      have h2 := tree_shut (P := (11, .slice a n c', xs) :: P9) h1.poolRow.up3.up3.up3 c1 c2 (fun g hg => List.mem_cons_of_mem _ (c3 g hg))
      rw [HE.out]
      exact ⟨_, (11, .slice a n c', xs) :: P9, rfl, fun q hq => List.mem_cons_of_mem _ (HPP.out q hq), ⟨a, n, c', xs, rfl, HRL.out.mono (fun q hq => List.mem_cons_of_mem _ hq), List.mem_cons_self ..⟩, h2.up1⟩
    case pos =>
      obtain ⟨g, off, rfl⟩ := HNE.out (by intro e; have := congrArg List.length e; rw [flatG_len opcells_len] at this; simp at this; omega)
      obtain ⟨E, hE⟩ := hS.up2.poolGet (hP9 _ HV.out)
      have hl := row_load (P := Tryz.prog) (f := OpS.cells) (i := i) hE opcells_len sn_op hlt
      have hsplit : ops = ops.take i ++ ops[i] :: ops.drop (i + 1) := by rw [← List.drop_eq_getElem_cons hlt, List.take_append_drop]
      have htk : ops.take (i + 1) = ops.take i ++ [ops[i]] := List.take_succ_eq_append_getElem hlt
      have hsn := steps_snoc (sess := sess) (zxid := zxid) ops[i] (ops.take i) S hst
      have hfl := steps_fail (sess := sess) (zxid := zxid) ops[i] (ops.drop (i + 1)) (ops.take i) S hst
      have hlen := steps_len (ops.take i) S hst
      have hti : (ops.take i).length = i := by rw [List.length_take]; omega
      rw [hti] at hlen hfl
      rw [← hsplit] at hfl
      rw [← htk] at hsn
      have HTB := Lib.hid (steps_b (sess := sess) (zxid := zxid) (ops.take i) HBB.out.1)
      have HPO := Lib.hid (hp ops[i] (List.getElem_mem hlt))
      obtain ⟨o, ho⟩ : ∃ o, ops[i] = o := ⟨_, rfl⟩
      rw [ho] at hl hsn hfl HPO
      obtain ⟨st, hstt⟩ : ∃ st, stepsT sess zxid (ops.take i) S = st := ⟨_, rfl⟩
      rw [hstt] at hsn hfl hlen hst hrl hS HTB
      obtain ⟨r2, hr2⟩ : ∃ r2, doT st.2.1 o sess zxid = r2 := ⟨_, rfl⟩
      rw [hr2] at hsn hfl
      have HSN := Lib.hid (show _ ∧ _ ∧ _ from ⟨hsn, hfl, hlen⟩)
      have HRL := Lib.hid hrl
      have HR2 := Lib.hid hr2
      have HPP := Lib.hid hP9
      have HX := Lib.hid hS
      have q0 : decide (i < ops.length) = true := decide_eq_true hlt
      have q9 : i ≤ 16 := by have := HL.out; omega
      obtain ⟨kind, path, data, ver, flags⟩ := o
      simp only [OpS.cells] at hl
      clear hE hsplit htk hsn hfl hti hlen hst hrl hS ho hstt hr2 hP9
      go_wp2_with (first | (refine sWL ?_; simp only [Act.put, List.setIfInBounds_toArray, List.set_cons_zero, List.set_cons_succ, List.drop_zero, List.drop_succ_cons, List.take_succ_cons, List.take_zero, List.toList_toArray, NodeS.cells, OpS.cells, ResS.cells]) | (refine sWM ?_; simp only [Act.put, List.setIfInBounds_toArray, List.set_cons_zero, List.set_cons_succ]) | (refine sWS ?_; clear HX; intro w HX; simp only [Act.put, List.setIfInBounds_toArray, List.set_cons_zero, List.set_cons_succ, setMany, Nat.reduceAdd, NodeS.cells, OpS.cells, ResS.cells] at HX ⊢) | (refine sWT ?_; clear HX; intro w HX; simp only [Act.put, List.setIfInBounds_toArray, List.set_cons_zero, List.set_cons_succ, NodeS.cells, OpS.cells, ResS.cells] at HX ⊢) | (refine sWA ?_; clear HX; (first | (have hq := b9; clear hq; intro w b10 HX) | (have hq := b8; clear hq; intro w b9 HX) | (have hq := b7; clear hq; intro w b8 HX) | (have hq := b6; clear hq; intro w b7 HX) | (have hq := b5; clear hq; intro w b6 HX) | (have hq := b4; clear hq; intro w b5 HX) | (have hq := b3; clear hq; intro w b4 HX) | (have hq := b2; clear hq; intro w b3 HX) | (have hq := b; clear hq; intro w b2 HX) | intro w b HX); simp only [Act.put, List.setIfInBounds_toArray, List.set_cons_zero, List.set_cons_succ]) | (refine sWN ?_; clear HX; intro w mm HX; simp only [Act.put, List.setIfInBounds_toArray, List.set_cons_zero, List.set_cons_succ]) | (refine sWP ?_; clear HX; intro w av nv cv HX; simp only [Act.put, List.setIfInBounds_toArray, List.set_cons_zero, List.set_cons_succ]) | ((with_reducible apply sx_loadAt hl); (· rfl); (· rfl); simp only [Act.put, List.setIfInBounds_toArray, List.set_cons_zero, List.set_cons_succ]))
      refine (tdo_any HX.out.up4.up4 hd ⟨kind, path, data, ver, flags⟩ HPO.out sess zxid (HTB.out.ok (by have := HBB.out.2; have := HL.out; rw [List.length_take]; omega))).mono ?_
      rw [HR2.out]
      rintro e w ⟨nv, P2, rfl, hP2, hnv, hx⟩
      clear HX
      have HX := Lib.hid hx
      obtain ⟨E, hE⟩ := Sep.poolGet hx hnv
      obtain ⟨na, nn, nc, rfl, -⟩ := id hE
      have HNV := Lib.hid hnv
      have HP2 := Lib.hid hP2
      clear hx hE hnv hP2
      obtain ⟨r, S3⟩ := r2
      dsimp only at HSN HX HNV ⊢
      simp only [ResS.cells]
      by_cases her : r.err = 0
      · have q4 : (r.err != 0) = false := by rw [her]; rfl
        have HER := Lib.hid her
        have HBD := Lib.hid (show ∀ n, xs.length = n * 11 → n + 1 ≤ 140737488355328 ∧ (n + 1) * 120 ≤ 140737488355328 from fun n hn => by
          have h1 := HRL.out.len
          rw [HSN.out.2.2] at h1
          have := HL.out
          omega)
        clear her
        go_wp2_with (first | (refine sWL ?_; simp only [Act.put, List.setIfInBounds_toArray, List.set_cons_zero, List.set_cons_succ, List.drop_zero, List.drop_succ_cons, List.take_succ_cons, List.take_zero, List.toList_toArray, NodeS.cells, OpS.cells, ResS.cells]) | (refine sWM ?_; simp only [Act.put, List.setIfInBounds_toArray, List.set_cons_zero, List.set_cons_succ]) | (refine sWS ?_; clear HX; intro w HX; simp only [Act.put, List.setIfInBounds_toArray, List.set_cons_zero, List.set_cons_succ, setMany, Nat.reduceAdd, NodeS.cells, OpS.cells, ResS.cells] at HX ⊢) | (refine sWT ?_; clear HX; intro w HX; simp only [Act.put, List.setIfInBounds_toArray, List.set_cons_zero, List.set_cons_succ, NodeS.cells, OpS.cells, ResS.cells] at HX ⊢) | (refine sWA ?_; clear HX; (first | (have hq := b9; clear hq; intro w b10 HX) | (have hq := b8; clear hq; intro w b9 HX) | (have hq := b7; clear hq; intro w b8 HX) | (have hq := b6; clear hq; intro w b7 HX) | (have hq := b5; clear hq; intro w b6 HX) | (have hq := b4; clear hq; intro w b5 HX) | (have hq := b3; clear hq; intro w b4 HX) | (have hq := b2; clear hq; intro w b3 HX) | (have hq := b; clear hq; intro w b2 HX) | intro w b HX); simp only [Act.put, List.setIfInBounds_toArray, List.set_cons_zero, List.set_cons_succ]) | (refine sWN ?_; clear HX; intro w mm HX; simp only [Act.put, List.setIfInBounds_toArray, List.set_cons_zero, List.set_cons_succ]) | (refine sWP ?_; clear HX; intro w av nv cv HX; simp only [Act.put, List.setIfInBounds_toArray, List.set_cons_zero, List.set_cons_succ]))
        go_roundg (ops.length - (i + 1))
        case rel =>
          have h := HSN.out.1
          rw [if_neg (fun hh => hh HER.out)] at h
          have h1 := tree_mono HX.out.up7 HP2.out
          exact ⟨i + 1, P2, _, av, nv, cv, by omega, by go_num, fun q hq => HP2.out q (HPP.out q hq), by rw [h], by rw [h]; exact (HRL.out.mono HP2.out).snoc HNV.out, by rw [h]; exact h1.pm 9 [7, 1, 4, 5, 0, 8] rfl rfl⟩
        case measure => omega
      · have q4 : (r.err != 0) = true := by rw [bne_iff_ne]; exact her
        have h1 := HSN.out.2.1 her
        have HE := Lib.hid (show rr = (failR 0 r.err i ops.length, S, false) by have := HRQ.out; rw [h1.1, h1.2, if_pos her] at this; exact this.symm)
        clear h1 her
        go_wp2_with (first | (refine sWL ?_; simp only [Act.put, List.setIfInBounds_toArray, List.set_cons_zero, List.set_cons_succ, List.drop_zero, List.drop_succ_cons, List.take_succ_cons, List.take_zero, List.toList_toArray, NodeS.cells, OpS.cells, ResS.cells]) | (refine sWM ?_; simp only [Act.put, List.setIfInBounds_toArray, List.set_cons_zero, List.set_cons_succ]) | (refine sWS ?_; clear HX; intro w HX; simp only [Act.put, List.setIfInBounds_toArray, List.set_cons_zero, List.set_cons_succ, setMany, Nat.reduceAdd, NodeS.cells, OpS.cells, ResS.cells] at HX ⊢) | (refine sWT ?_; clear HX; intro w HX; simp only [Act.put, List.setIfInBounds_toArray, List.set_cons_zero, List.set_cons_succ, NodeS.cells, OpS.cells, ResS.cells] at HX ⊢) | (refine sWA ?_; clear HX; (first | (have hq := b9; clear hq; intro w b10 HX) | (have hq := b8; clear hq; intro w b9 HX) | (have hq := b7; clear hq; intro w b8 HX) | (have hq := b6; clear hq; intro w b7 HX) | (have hq := b5; clear hq; intro w b6 HX) | (have hq := b4; clear hq; intro w b5 HX) | (have hq := b3; clear hq; intro w b4 HX) | (have hq := b2; clear hq; intro w b3 HX) | (have hq := b; clear hq; intro w b2 HX) | intro w b HX); simp only [Act.put, List.setIfInBounds_toArray, List.set_cons_zero, List.set_cons_succ]) | (refine sWN ?_; clear HX; intro w mm HX; simp only [Act.put, List.setIfInBounds_toArray, List.set_cons_zero, List.set_cons_succ]) | (refine sWP ?_; clear HX; intro w av nv cv HX; simp only [Act.put, List.setIfInBounds_toArray, List.set_cons_zero, List.set_cons_succ]))
        refine (rfail_any HX.out.up1 _ _ _ _).mono ?_
        rintro e w ⟨v, P', rfl, hP', ⟨a', n', c', xs', rfl, hrl', hmem⟩, hS⟩
        clear HX
        have HX := Lib.hid hS
        clear hS
        go_wp2_with (first | (refine sWL ?_; simp only [Act.put, List.setIfInBounds_toArray, List.set_cons_zero, List.set_cons_succ, List.drop_zero, List.drop_succ_cons, List.take_succ_cons, List.take_zero, List.toList_toArray, NodeS.cells, OpS.cells, ResS.cells]) | (refine sWM ?_; simp only [Act.put, List.setIfInBounds_toArray, List.set_cons_zero, List.set_cons_succ]) | (refine sWS ?_; clear HX; intro w HX; simp only [Act.put, List.setIfInBounds_toArray, List.set_cons_zero, List.set_cons_succ, setMany, Nat.reduceAdd, NodeS.cells, OpS.cells, ResS.cells] at HX ⊢) | (refine sWT ?_; clear HX; intro w HX; simp only [Act.put, List.setIfInBounds_toArray, List.set_cons_zero, List.set_cons_succ, NodeS.cells, OpS.cells, ResS.cells] at HX ⊢) | (refine sWA ?_; clear HX; (first | (have hq := b9; clear hq; intro w b10 HX) | (have hq := b8; clear hq; intro w b9 HX) | (have hq := b7; clear hq; intro w b8 HX) | (have hq := b6; clear hq; intro w b7 HX) | (have hq := b5; clear hq; intro w b6 HX) | (have hq := b4; clear hq; intro w b5 HX) | (have hq := b3; clear hq; intro w b4 HX) | (have hq := b2; clear hq; intro w b3 HX) | (have hq := b; clear hq; intro w b2 HX) | intro w b HX); simp only [Act.put, List.setIfInBounds_toArray, List.set_cons_zero, List.set_cons_succ]) | (refine sWN ?_; clear HX; intro w mm HX; simp only [Act.put, List.setIfInBounds_toArray, List.set_cons_zero, List.set_cons_succ]) | (refine sWP ?_; clear HX; intro w av nv cv HX; simp only [Act.put, List.setIfInBounds_toArray, List.set_cons_zero, List.set_cons_succ]))
        refine sx_ret2 HX rfl rfl (by (repeat (first | (with_reducible exact List.mem_cons_self ..) | (with_reducible apply List.mem_cons_of_mem)))) (by kernel_rfl) ?_
        rw [HE.out]
        have h1 := HX.out.up6
        exact ⟨_, P', rfl, fun q hq => hP' q (HP2.out q (HPP.out q hq)), ⟨a', n', c', xs', rfl, hrl', hmem⟩, (tree_mono h1 (fun q hq => hP' q (HP2.out q hq))).pm 8 [1, 0] rfl rfl⟩
end
end Go.Proofs.YtjeaoopamebgjaaGreatDoor

/-
  A tree: the walks of New, Len.
-/
namespace Go.Proofs.YtjeaoopamebgjaaGreatDoor
open Go.RowKit Go.Av
section
variable {w0 w : World} {t : Nat} {S : TreeS} {P P' : List PRow} {R : List Thing} {rows : List (Value × Bs)}
set_option maxRecDepth 100000 in
set_option maxHeartbeats 1000000 in
theorem treenew_any (h : Sep w0 w (ThPool w0 P :: R) rows) (room : Int) (h1 : 1 ≤ room) (h2 : room ≤ 500) :
    Calls Tryz.prog 11 #[.int .i64 room] w fun e w' => ∃ t, e = .returned (.tuple #[.pointer (some ⟨t, 0, none⟩), .int .i64 0]) ∧ Sep w0 w' (ThPool w0 P :: ThTree t ⟨room, []⟩ P :: R) rows := by
  have h3 := (h.newMap .string).newCell (.cells #[.int .i64 room, .map (some w.heap.size)] 81 (0, 0))
  rw [show (w.alloc (.map #[] 0)).heap.size = w.heap.size + 1 by simp] at h3
  have H := Lib.hid h3
  have hmm := @run_makeMap Tryz.prog
  have q1 : decide (room < 1) = false := decide_eq_false (by omega)
  have q2 : decide (500 < room) = false := decide_eq_false (by omega)
  clear h h3
  go_enter Tryz.func11, Tryz.ntmps11
  go_wp2_with fail
  go_ret2
  refine ⟨_, rfl, ?_⟩
  have h4 := Sep.shut (O := TrO (w.heap.size + 1) ⟨room, []⟩ P) (L := trTh (w.heap.size + 1) w.heap.size room []) ⟨w.heap.size, [], rfl, List.Perm.refl _, List.Pairwise.nil, fun g hg => by cases hg⟩ H.out
  exact h4.perm (List.Perm.swap _ _ _)
set_option maxRecDepth 100000 in
theorem treelen_any (h : Sep w0 w (ThTree t S P :: R) rows) : Calls Tryz.prog 23 #[.pointer (some ⟨t, 0, none⟩)] w fun e w' => e = .returned (.int .i64 (S.l.length : Nat)) ∧ Upd w w' [] [] := by
  obtain ⟨m, -, hm1, -, -, hlen⟩ := tree_facts h
  have hl := hlen 3 w rfl
  clear h hlen
  go_enter Tryz.func23, Tryz.ntmps23
  go_wp2_with fail
  go_ret
  exact ⟨rfl, Upd.refl _ _⟩
/-- What is told of a node that is there. -/
def GotPost (w0 : World) (t : Nat) (S : TreeS) (P : List PRow) (R : List Thing) (rows : List (Value × Bs)) (n : NodeS) (e : Ending) (w' : World) : Prop :=
  ∃ nv P', e = .returned (.tuple #[n.val nv, .bool true]) ∧ (∀ q ∈ P, q ∈ P') ∧ (1, nv, n.names.map sv) ∈ P' ∧ Sep w0 w' (ThPool w0 P' :: ThTree t S P' :: R) rows
set_option maxRecDepth 100000 in
set_option maxHeartbeats 4000000 in
theorem treenode_some (h : Sep w0 w (ThPool w0 P :: ThTree t S P :: R) rows) (s : ByteArray) (n : NodeS) (hl : lookT s.data.toList S.l = some n) (hok : NodeOk n) :
    Calls Tryz.prog 19 #[.pointer (some ⟨t, 0, none⟩), .string s] w (GotPost w0 t S P R rows n) := by
  have hA := h.newCell (.cells #[.int .i64 0, .int .i64 0, .int .i64 0, .int .i64 0, .int .i64 0, .int .i64 0, .int .i64 0, .string ⟨#[]⟩, .int .i64 0, .slice none 0 0] 51)
  obtain ⟨m, -, hm1, -, hsome, -⟩ := tree_facts (hA.pick 2 rfl rfl)
  obtain ⟨x, nv, hnv, hb, hk0⟩ := hsome s n hl
  obtain ⟨wA, hwA⟩ : ∃ wA, wA = w.alloc (.cells #[.int .i64 0, .int .i64 0, .int .i64 0, .int .i64 0, .int .i64 0, .int .i64 0, .int .i64 0, .string ⟨#[]⟩, .int .i64 0, .slice none 0 0] 51) := ⟨_, rfl⟩
  rw [← hwA] at hA hm1 hb hk0
  have hk := hk0 wA rfl
  obtain ⟨E, hE⟩ := (hA.pick 1 rfl rfl).poolGet hnv
  have HCP := Lib.hid (copied_any n nv wA E hE hok.few)
  unfold CopPost NodeS.val NodeS.cells at HCP
  obtain ⟨n0, n1, n2, n3, n4, n5, n6, n7, n8, n9⟩ := node_cells hb
  obtain ⟨na, nn, nc, rfl, -⟩ := id hE
  have HA := Lib.hid hA
  have HWA := Lib.hid hwA
  clear h hA hsome hnv hb hk0 hE hl hwA
  go_enter Tryz.func19, Tryz.ntmps19
  go_upto_region 1 with fail
  rw [← HWA.out]
  go_wp2_with fail
  refine HCP.out.mono ?_
  rintro e w2 ⟨v2, D2, rfl, ho2, hu2⟩
  obtain ⟨a2, l2, k2, rfl, -⟩ := id ho2
  have h8 := ((((HA.out.addRow ho2 hu2).pick 2 rfl rfl).perm (List.Perm.swap _ _ _)).poolRow).pick 2 rfl rfl
  have HX := Lib.hid ((tree_mono h8 (P' := (1, .slice a2 l2 k2, n.names.map sv) :: P) (fun q hq => List.mem_cons_of_mem _ hq)).perm ((List.Perm.cons _ (List.Perm.swap _ _ _)).trans (List.perm_middle (l₁ := [_, _])).symm))
  clear h8 ho2 hu2 HCP n0 n1 n2 n3 n4 n5 n6 n7 n8 n9 hk hm1
  have r0 := cell_of HX.out.blk 0 (v := .int .i64 0) rfl
  have g0 := frz_of HX.out.blk 0
  have r1 := cell_of HX.out.blk 1 (v := .int .i64 0) rfl
  have g1 := frz_of HX.out.blk 1
  have r2 := cell_of HX.out.blk 2 (v := .int .i64 0) rfl
  have g2 := frz_of HX.out.blk 2
  have r3 := cell_of HX.out.blk 3 (v := .int .i64 0) rfl
  have g3 := frz_of HX.out.blk 3
  have r4 := cell_of HX.out.blk 4 (v := .int .i64 0) rfl
  have g4 := frz_of HX.out.blk 4
  have r5 := cell_of HX.out.blk 5 (v := .int .i64 0) rfl
  have g5 := frz_of HX.out.blk 5
  have r6 := cell_of HX.out.blk 6 (v := .int .i64 0) rfl
  have g6 := frz_of HX.out.blk 6
  have r7 := cell_of HX.out.blk 7 (v := .string ⟨#[]⟩) rfl
  have g7 := frz_of HX.out.blk 7
  have r8 := cell_of HX.out.blk 8 (v := .int .i64 0) rfl
  have g8 := frz_of HX.out.blk 8
  have r9 := cell_of HX.out.blk 9 (v := .slice none 0 0) rfl
  have g9 := frz_of HX.out.blk 9
  have HF := Lib.hid (HX.out.setAll [.int .i64 n.made, .int .i64 n.changed, .int .i64 n.ver, .int .i64 n.kids, .int .i64 n.owner, .int .i64 (n.data.size : Nat), .int .i64 (n.names.length : Nat), .string n.data, .int .i64 n.next, .slice a2 l2 k2] rfl)
  go_wp2_with fail
  refine bodyPost_ret (ret_cell2 rfl _ rfl HF.out.blk Tryz.underlying51 (by kernel_rfl)) rfl ?_
  exact ⟨.slice a2 l2 k2, _, rfl, fun q hq => List.mem_cons_of_mem _ hq, List.mem_cons_self .., HF.out.drop⟩
set_option maxRecDepth 100000 in
set_option maxHeartbeats 4000000 in
theorem treenode_none (h : Sep w0 w (ThTree t S P :: R) rows) (s : ByteArray) (hl : lookT s.data.toList S.l = none) :
    Calls Tryz.prog 19 #[.pointer (some ⟨t, 0, none⟩), .string s] w fun e w' => e = .returned (.tuple #[.agg #[.int .i64 0, .int .i64 0, .int .i64 0, .int .i64 0, .int .i64 0, .int .i64 0, .int .i64 0, .string ⟨#[]⟩, .int .i64 0, .slice none 0 0], .bool false]) ∧ Upd w w' [] [] := by
  have hu := Upd.alloc0 w (.cells #[.int .i64 0, .int .i64 0, .int .i64 0, .int .i64 0, .int .i64 0, .int .i64 0, .int .i64 0, .string ⟨#[]⟩, .int .i64 0, .slice none 0 0] 51) []
  obtain ⟨m, -, hm1, hnone, -, -⟩ := tree_facts (h.keep hu)
  have hk := hnone s hl _ rfl
  have HU := Lib.hid hu
  clear h hnone hl hu
  go_enter Tryz.func19, Tryz.ntmps19
  go_wp2_with fail
  refine bodyPost_ret (ret_cell2 rfl _ rfl (heap_alloc_new w _) Tryz.underlying51 (by kernel_rfl)) rfl ?_
  exact ⟨rfl, HU.out⟩
end
end Go.Proofs.YtjeaoopamebgjaaGreatDoor

/-
  The laws of chapter 12: what they share: made, awake.
-/
set_option linter.unusedSimpArgs false
namespace Go.Av
open Go.RowKit
def madeO (p : ByteArray) (flags : Int) : OpS := ⟨1, p, ⟨#[]⟩, 0, flags⟩
end Go.Av
namespace Go.Proofs.YtjeaoopamebgjaaGreatDoor
open Go.RowKit Go.Av
section
variable {w0 w : World} {R : List Thing} {rows : List (Value × Bs)}
set_option maxRecDepth 100000 in
theorem made_any (h : Sep w0 w R rows) (p : ByteArray) (flags : Int) : Calls Tryz.prog 18 #[.string p, .int .i64 flags] w fun e w' => e = .returned (madeO p flags).val ∧ Sep w0 w' R rows := by
  have HX := Lib.hid h
  clear h
  go_enter Tryz.func18, Tryz.ntmps18
  go_wp2_with (first | (refine sWL ?_; simp only [Act.put, List.setIfInBounds_toArray, List.set_cons_zero, List.set_cons_succ, List.drop_zero, List.drop_succ_cons, List.take_succ_cons, List.take_zero, List.toList_toArray, NodeS.cells, OpS.cells, ResS.cells]) | (refine sWM ?_; simp only [Act.put, List.setIfInBounds_toArray, List.set_cons_zero, List.set_cons_succ]) | (refine sWS ?_; clear HX; intro w HX; simp only [Act.put, List.setIfInBounds_toArray, List.set_cons_zero, List.set_cons_succ, setMany, Nat.reduceAdd, NodeS.cells, OpS.cells, ResS.cells] at HX ⊢) | (refine sWT ?_; clear HX; intro w HX; simp only [Act.put, List.setIfInBounds_toArray, List.set_cons_zero, List.set_cons_succ, NodeS.cells, OpS.cells, ResS.cells] at HX ⊢) | (refine sWA ?_; clear HX; (first | (have hq := b9; clear hq; intro w b10 HX) | (have hq := b8; clear hq; intro w b9 HX) | (have hq := b7; clear hq; intro w b8 HX) | (have hq := b6; clear hq; intro w b7 HX) | (have hq := b5; clear hq; intro w b6 HX) | (have hq := b4; clear hq; intro w b5 HX) | (have hq := b3; clear hq; intro w b4 HX) | (have hq := b2; clear hq; intro w b3 HX) | (have hq := b; clear hq; intro w b2 HX) | intro w b HX); simp only [Act.put, List.setIfInBounds_toArray, List.set_cons_zero, List.set_cons_succ]) | (refine sWN ?_; clear HX; intro w mm HX; simp only [Act.put, List.setIfInBounds_toArray, List.set_cons_zero, List.set_cons_succ]) | (refine sWP ?_; clear HX; intro w av nv cv HX; simp only [Act.put, List.setIfInBounds_toArray, List.set_cons_zero, List.set_cons_succ]) | (refine sWD ?_; clear HX; (first | (have hq := b9; clear hq; intro w b10 HX) | (have hq := b8; clear hq; intro w b9 HX) | (have hq := b7; clear hq; intro w b8 HX) | (have hq := b6; clear hq; intro w b7 HX) | (have hq := b5; clear hq; intro w b6 HX) | (have hq := b4; clear hq; intro w b5 HX) | (have hq := b3; clear hq; intro w b4 HX) | (have hq := b2; clear hq; intro w b3 HX) | (have hq := b; clear hq; intro w b2 HX) | intro w b HX); simp only [Act.put, List.setIfInBounds_toArray, List.set_cons_zero, List.set_cons_succ, List.cons_append, List.nil_append] at HX ⊢))
  refine sx_ret HX rfl rfl (by (repeat (first | (with_reducible exact List.mem_cons_self ..) | (with_reducible apply List.mem_cons_of_mem)))) (by kernel_rfl) ?_
  exact ⟨rfl, HX.out.drop⟩
def opA : OpS := madeO ⟨#[47, 97]⟩ 0
def opAB : OpS := madeO ⟨#[47, 97, 47, 98]⟩ 0
theorem awk1 : manyT ⟨10, []⟩ 1 1 [opA, opA] = (failR 0 5 1 2, ⟨10, []⟩, false) := by kernel_rfl
theorem awk2 : (manyT ⟨10, []⟩ 1 2 [opA, opAB]).1.err = 0 ∧ (manyT ⟨10, []⟩ 1 2 [opA, opAB]).1.at_ = -1 ∧ (manyT ⟨10, []⟩ 1 2 [opA, opAB]).1.zxid = 2 ∧ (manyT ⟨10, []⟩ 1 2 [opA, opAB]).1.rs.length = 2 ∧ (manyT ⟨10, []⟩ 1 2 [opA, opAB]).2.1.l.length = 2 ∧ (manyT ⟨10, []⟩ 1 2 [opA, opAB]).2.2 = true :=
  ⟨by kernel_rfl, by kernel_rfl, by kernel_rfl, by kernel_rfl, by kernel_rfl, by kernel_rfl⟩
theorem rep_len {P : List PRow} {w0 w : World} {R : List Thing} {rows : List (Value × Bs)} {rs : List ResS} {a : Option Addr} {n c : Nat} {xs : List Value} (h : Sep w0 w (ThPool w0 P :: R) rows) (hr : ResL P rs xs) (hm : (11, Value.slice a n c, xs) ∈ P) : n = rs.length := by
  obtain ⟨E, hE⟩ := h.poolGet hm
  obtain ⟨a', n', c', e, hl, -⟩ := ReadRow.some hE
  have h1 := hr.len
  simp only [Value.slice.injEq] at e
  obtain ⟨-, rfl, -⟩ := e
  rw [h1] at hl
  omega
/-- A row that is read: its first cell. -/
theorem row_fst {P : List PRow} {w0 w : World} {R : List Thing} {rows : List (Value × Bs)} {K : Nat} {a : Option Addr} {n c : Nat} {x : Value} {xs : List Value} (h : Sep w0 w (ThPool w0 P :: R) rows) (hm : (K, Value.slice a n c, x :: xs) ∈ P) : ∃ g off, a = some ⟨g, off, none⟩ ∧ ∀ i v, (x :: xs)[i]? = some v → w.cell? ⟨g, off + i, none⟩ = some v := by
  obtain ⟨E, hE⟩ := h.poolGet hm
  obtain ⟨a', n', c', e, hl, hn, hc, ha, hr⟩ := hE
  rcases hr with ⟨h0, _⟩ | ⟨g, off, e2, _, _, hcell⟩
  · cases h0
  · injection e with e1 _ _
    subst e1
    exact ⟨g, off, e2, hcell⟩
set_option maxRecDepth 100000 in
set_option maxHeartbeats 4000000 in
theorem awake_any (hd : DoorN w) : Calls Tryz.prog 9 #[] w fun e w' => e = .returned (.bool true) ∧ Upd w w' [] [] := by
  have HX := Lib.hid (Sep.start w).poolNew
  go_enter Tryz.func9, Tryz.ntmps9
  go_wp2_with (first | (refine sWL ?_; simp only [Act.put, List.setIfInBounds_toArray, List.set_cons_zero, List.set_cons_succ, List.drop_zero, List.drop_succ_cons, List.take_succ_cons, List.take_zero, List.toList_toArray, NodeS.cells, OpS.cells, ResS.cells]) | (refine sWM ?_; simp only [Act.put, List.setIfInBounds_toArray, List.set_cons_zero, List.set_cons_succ]) | (refine sWS ?_; clear HX; intro w HX; simp only [Act.put, List.setIfInBounds_toArray, List.set_cons_zero, List.set_cons_succ, setMany, Nat.reduceAdd, NodeS.cells, OpS.cells, ResS.cells] at HX ⊢) | (refine sWT ?_; clear HX; intro w HX; simp only [Act.put, List.setIfInBounds_toArray, List.set_cons_zero, List.set_cons_succ, NodeS.cells, OpS.cells, ResS.cells] at HX ⊢) | (refine sWA ?_; clear HX; (first | (have hq := b9; clear hq; intro w b10 HX) | (have hq := b8; clear hq; intro w b9 HX) | (have hq := b7; clear hq; intro w b8 HX) | (have hq := b6; clear hq; intro w b7 HX) | (have hq := b5; clear hq; intro w b6 HX) | (have hq := b4; clear hq; intro w b5 HX) | (have hq := b3; clear hq; intro w b4 HX) | (have hq := b2; clear hq; intro w b3 HX) | (have hq := b; clear hq; intro w b2 HX) | intro w b HX); simp only [Act.put, List.setIfInBounds_toArray, List.set_cons_zero, List.set_cons_succ]) | (refine sWN ?_; clear HX; intro w mm HX; simp only [Act.put, List.setIfInBounds_toArray, List.set_cons_zero, List.set_cons_succ]) | (refine sWP ?_; clear HX; intro w av nv cv HX; simp only [Act.put, List.setIfInBounds_toArray, List.set_cons_zero, List.set_cons_succ]) | (refine sWD ?_; clear HX; (first | (have hq := b9; clear hq; intro w b10 HX) | (have hq := b8; clear hq; intro w b9 HX) | (have hq := b7; clear hq; intro w b8 HX) | (have hq := b6; clear hq; intro w b7 HX) | (have hq := b5; clear hq; intro w b6 HX) | (have hq := b4; clear hq; intro w b5 HX) | (have hq := b3; clear hq; intro w b4 HX) | (have hq := b2; clear hq; intro w b3 HX) | (have hq := b; clear hq; intro w b2 HX) | intro w b HX); simp only [Act.put, List.setIfInBounds_toArray, List.set_cons_zero, List.set_cons_succ, List.cons_append, List.nil_append] at HX ⊢))
  refine (treenew_any HX.out 10 (by omega) (by omega)).mono ?_
  rintro e w1 ⟨t, rfl, hx⟩
  clear HX
  have HX := Lib.hid hx
  clear hx
  go_wp2_with (first | (refine sWL ?_; simp only [Act.put, List.setIfInBounds_toArray, List.set_cons_zero, List.set_cons_succ, List.drop_zero, List.drop_succ_cons, List.take_succ_cons, List.take_zero, List.toList_toArray, NodeS.cells, OpS.cells, ResS.cells]) | (refine sWM ?_; simp only [Act.put, List.setIfInBounds_toArray, List.set_cons_zero, List.set_cons_succ]) | (refine sWS ?_; clear HX; intro w HX; simp only [Act.put, List.setIfInBounds_toArray, List.set_cons_zero, List.set_cons_succ, setMany, Nat.reduceAdd, NodeS.cells, OpS.cells, ResS.cells] at HX ⊢) | (refine sWT ?_; clear HX; intro w HX; simp only [Act.put, List.setIfInBounds_toArray, List.set_cons_zero, List.set_cons_succ, NodeS.cells, OpS.cells, ResS.cells] at HX ⊢) | (refine sWA ?_; clear HX; (first | (have hq := b9; clear hq; intro w b10 HX) | (have hq := b8; clear hq; intro w b9 HX) | (have hq := b7; clear hq; intro w b8 HX) | (have hq := b6; clear hq; intro w b7 HX) | (have hq := b5; clear hq; intro w b6 HX) | (have hq := b4; clear hq; intro w b5 HX) | (have hq := b3; clear hq; intro w b4 HX) | (have hq := b2; clear hq; intro w b3 HX) | (have hq := b; clear hq; intro w b2 HX) | intro w b HX); simp only [Act.put, List.setIfInBounds_toArray, List.set_cons_zero, List.set_cons_succ]) | (refine sWN ?_; clear HX; intro w mm HX; simp only [Act.put, List.setIfInBounds_toArray, List.set_cons_zero, List.set_cons_succ]) | (refine sWP ?_; clear HX; intro w av nv cv HX; simp only [Act.put, List.setIfInBounds_toArray, List.set_cons_zero, List.set_cons_succ]) | (refine sWD ?_; clear HX; (first | (have hq := b9; clear hq; intro w b10 HX) | (have hq := b8; clear hq; intro w b9 HX) | (have hq := b7; clear hq; intro w b8 HX) | (have hq := b6; clear hq; intro w b7 HX) | (have hq := b5; clear hq; intro w b6 HX) | (have hq := b4; clear hq; intro w b5 HX) | (have hq := b3; clear hq; intro w b4 HX) | (have hq := b2; clear hq; intro w b3 HX) | (have hq := b; clear hq; intro w b2 HX) | intro w b HX); simp only [Act.put, List.setIfInBounds_toArray, List.set_cons_zero, List.set_cons_succ, List.cons_append, List.nil_append] at HX ⊢) | (go_at_call 18; refine (made_any HX.out _ _).mono ?_; rintro e w1 ⟨rfl, hx⟩; clear HX; have HX := Lib.hid hx; clear hx; simp only [OpS.val, madeO]))
  have h1 := Sep.poolCell (K := 5) (n := 2) HX.out rfl (by omega)
  have h2 := (tree_mono h1.up1 (P' := (5, .slice (some ⟨b, 0, none⟩) 2 2, [opA, opA].flatMap OpS.cells) :: []) (fun q hq => List.mem_cons_of_mem _ hq)).up1
  have hm := mdo_any h2 hd (tree_new 10 (by omega)) (by omega) 1 1 [opA, opA] _ (List.mem_cons_self ..) (by intro o ho; simp at ho; subst ho; decide)
  rw [awk1] at hm
  refine hm.mono ?_
  clear hm h1 h2
  rintro e w1 ⟨v, P1, rfl, hP1, ⟨a1, n1, c1, xs1, rfl, hrl1, hmem1⟩, hx⟩
  clear HX
  have hn1 : n1 = 2 := rep_len hx hrl1 hmem1
  subst hn1
  have HX := Lib.hid hx
  have HR1 := Lib.hid (show _ ∧ _ from ⟨hrl1, hmem1⟩)
  clear hx hrl1 hmem1 hP1
  simp only [failR]
  go_wp2_with (first | (refine sWL ?_; simp only [Act.put, List.setIfInBounds_toArray, List.set_cons_zero, List.set_cons_succ, List.drop_zero, List.drop_succ_cons, List.take_succ_cons, List.take_zero, List.toList_toArray, NodeS.cells, OpS.cells, ResS.cells]) | (refine sWM ?_; simp only [Act.put, List.setIfInBounds_toArray, List.set_cons_zero, List.set_cons_succ]) | (refine sWS ?_; clear HX; intro w HX; simp only [Act.put, List.setIfInBounds_toArray, List.set_cons_zero, List.set_cons_succ, setMany, Nat.reduceAdd, NodeS.cells, OpS.cells, ResS.cells] at HX ⊢) | (refine sWT ?_; clear HX; intro w HX; simp only [Act.put, List.setIfInBounds_toArray, List.set_cons_zero, List.set_cons_succ, NodeS.cells, OpS.cells, ResS.cells] at HX ⊢) | (refine sWA ?_; clear HX; (first | (have hq := b9; clear hq; intro w b10 HX) | (have hq := b8; clear hq; intro w b9 HX) | (have hq := b7; clear hq; intro w b8 HX) | (have hq := b6; clear hq; intro w b7 HX) | (have hq := b5; clear hq; intro w b6 HX) | (have hq := b4; clear hq; intro w b5 HX) | (have hq := b3; clear hq; intro w b4 HX) | (have hq := b2; clear hq; intro w b3 HX) | (have hq := b; clear hq; intro w b2 HX) | intro w b HX); simp only [Act.put, List.setIfInBounds_toArray, List.set_cons_zero, List.set_cons_succ]) | (refine sWN ?_; clear HX; intro w mm HX; simp only [Act.put, List.setIfInBounds_toArray, List.set_cons_zero, List.set_cons_succ]) | (refine sWP ?_; clear HX; intro w av nv cv HX; simp only [Act.put, List.setIfInBounds_toArray, List.set_cons_zero, List.set_cons_succ]) | (refine sWD ?_; clear HX; (first | (have hq := b9; clear hq; intro w b10 HX) | (have hq := b8; clear hq; intro w b9 HX) | (have hq := b7; clear hq; intro w b8 HX) | (have hq := b6; clear hq; intro w b7 HX) | (have hq := b5; clear hq; intro w b6 HX) | (have hq := b4; clear hq; intro w b5 HX) | (have hq := b3; clear hq; intro w b4 HX) | (have hq := b2; clear hq; intro w b3 HX) | (have hq := b; clear hq; intro w b2 HX) | intro w b HX); simp only [Act.put, List.setIfInBounds_toArray, List.set_cons_zero, List.set_cons_succ, List.cons_append, List.nil_append] at HX ⊢) | (go_at_call 18; refine (made_any HX.out _ _).mono ?_; rintro e w1 ⟨rfl, hx⟩; clear HX; have HX := Lib.hid hx; clear hx; simp only [OpS.val, madeO]))
  have h1 := Sep.poolCell (K := 5) (n := 2) HX.out.up2.up1 rfl (by omega)
  have h2 := (tree_mono h1.up2 (P' := (5, .slice (some ⟨b3, 0, none⟩) 2 2, [opA, opAB].flatMap OpS.cells) :: P1) (fun q hq => List.mem_cons_of_mem _ hq)).up1
  have hm := mdo_any h2 hd (tree_new 10 (by omega)) (by omega) 1 2 [opA, opAB] _ (List.mem_cons_self ..) (by intro o ho; simp at ho; rcases ho with rfl | rfl <;> decide)
  have f := awk2
  obtain ⟨m, hm0⟩ : ∃ m, manyT ⟨10, []⟩ 1 2 [opA, opAB] = m := ⟨_, rfl⟩
  rw [hm0] at hm f
  obtain ⟨⟨num, zxid, err, at_, rs⟩, S2, ok⟩ := m
  dsimp only at f
  obtain ⟨rfl, rfl, rfl, hrs, hS2, rfl⟩ := f
  refine hm.mono ?_
  clear hm h1 h2 hm0
  rintro e w1 ⟨v, P2, rfl, hP2, ⟨a2, n2, c2, xs2, rfl, hrl2, hmem2⟩, hx⟩
  clear HX
  have hn2 : n2 = 2 := (rep_len hx hrl2 hmem2).trans hrs
  subst hn2
  obtain ⟨hrl1, hmem1⟩ := HR1.out
  have hmem1 := hP2 _ (List.mem_cons_of_mem _ hmem1)
  rw [show (failR 0 5 1 2).rs = [failS 14, failS 5] from rfl] at hrl1
  cases hrl1 with
  | cons h3 h4 =>
  obtain ⟨g, off, rfl, hcell⟩ := row_fst hx hmem1
  have HX := Lib.hid hx
  have HM := Lib.hid hmem1
  have HL := Lib.hid hS2
  clear hx hrl2 hmem2 hP2 h3 h4 hcell hmem1 HR1 hrs hS2
  dsimp only at HX HL ⊢
  go_upto_region 4 with (first | (refine sWL ?_; simp only [Act.put, List.setIfInBounds_toArray, List.set_cons_zero, List.set_cons_succ, List.drop_zero, List.drop_succ_cons, List.take_succ_cons, List.take_zero, List.toList_toArray, NodeS.cells, OpS.cells, ResS.cells]) | (refine sWM ?_; simp only [Act.put, List.setIfInBounds_toArray, List.set_cons_zero, List.set_cons_succ]) | (refine sWS ?_; clear HX; intro w HX; simp only [Act.put, List.setIfInBounds_toArray, List.set_cons_zero, List.set_cons_succ, setMany, Nat.reduceAdd, NodeS.cells, OpS.cells, ResS.cells] at HX ⊢) | (refine sWT ?_; clear HX; intro w HX; simp only [Act.put, List.setIfInBounds_toArray, List.set_cons_zero, List.set_cons_succ, NodeS.cells, OpS.cells, ResS.cells] at HX ⊢) | (refine sWA ?_; clear HX; (first | (have hq := b9; clear hq; intro w b10 HX) | (have hq := b8; clear hq; intro w b9 HX) | (have hq := b7; clear hq; intro w b8 HX) | (have hq := b6; clear hq; intro w b7 HX) | (have hq := b5; clear hq; intro w b6 HX) | (have hq := b4; clear hq; intro w b5 HX) | (have hq := b3; clear hq; intro w b4 HX) | (have hq := b2; clear hq; intro w b3 HX) | (have hq := b; clear hq; intro w b2 HX) | intro w b HX); simp only [Act.put, List.setIfInBounds_toArray, List.set_cons_zero, List.set_cons_succ]) | (refine sWN ?_; clear HX; intro w mm HX; simp only [Act.put, List.setIfInBounds_toArray, List.set_cons_zero, List.set_cons_succ]) | (refine sWP ?_; clear HX; intro w av nv cv HX; simp only [Act.put, List.setIfInBounds_toArray, List.set_cons_zero, List.set_cons_succ]) | (refine sWD ?_; clear HX; (first | (have hq := b9; clear hq; intro w b10 HX) | (have hq := b8; clear hq; intro w b9 HX) | (have hq := b7; clear hq; intro w b8 HX) | (have hq := b6; clear hq; intro w b7 HX) | (have hq := b5; clear hq; intro w b6 HX) | (have hq := b4; clear hq; intro w b5 HX) | (have hq := b3; clear hq; intro w b4 HX) | (have hq := b2; clear hq; intro w b3 HX) | (have hq := b; clear hq; intro w b2 HX) | intro w b HX); simp only [Act.put, List.setIfInBounds_toArray, List.set_cons_zero, List.set_cons_succ, List.cons_append, List.nil_append] at HX ⊢))
  obtain ⟨g', off', e, hcell⟩ := row_fst HX.out.up1 HM.out
  simp only [Option.some.injEq, Addr.mk.injEq, and_true] at e
  obtain ⟨rfl, rfl⟩ := e
  have hc0 := hcell 0 (.int .i64 14) rfl
  rw [Nat.add_zero] at hc0
  clear hcell
  go_wp2_with (first | (refine sWL ?_; simp only [Act.put, List.setIfInBounds_toArray, List.set_cons_zero, List.set_cons_succ, List.drop_zero, List.drop_succ_cons, List.take_succ_cons, List.take_zero, List.toList_toArray, NodeS.cells, OpS.cells, ResS.cells]) | (refine sWM ?_; simp only [Act.put, List.setIfInBounds_toArray, List.set_cons_zero, List.set_cons_succ]) | (refine sWS ?_; clear HX; intro w HX; simp only [Act.put, List.setIfInBounds_toArray, List.set_cons_zero, List.set_cons_succ, setMany, Nat.reduceAdd, NodeS.cells, OpS.cells, ResS.cells] at HX ⊢) | (refine sWT ?_; clear HX; intro w HX; simp only [Act.put, List.setIfInBounds_toArray, List.set_cons_zero, List.set_cons_succ, NodeS.cells, OpS.cells, ResS.cells] at HX ⊢) | (refine sWA ?_; clear HX; (first | (have hq := b9; clear hq; intro w b10 HX) | (have hq := b8; clear hq; intro w b9 HX) | (have hq := b7; clear hq; intro w b8 HX) | (have hq := b6; clear hq; intro w b7 HX) | (have hq := b5; clear hq; intro w b6 HX) | (have hq := b4; clear hq; intro w b5 HX) | (have hq := b3; clear hq; intro w b4 HX) | (have hq := b2; clear hq; intro w b3 HX) | (have hq := b; clear hq; intro w b2 HX) | intro w b HX); simp only [Act.put, List.setIfInBounds_toArray, List.set_cons_zero, List.set_cons_succ]) | (refine sWN ?_; clear HX; intro w mm HX; simp only [Act.put, List.setIfInBounds_toArray, List.set_cons_zero, List.set_cons_succ]) | (refine sWP ?_; clear HX; intro w av nv cv HX; simp only [Act.put, List.setIfInBounds_toArray, List.set_cons_zero, List.set_cons_succ]) | (refine sWD ?_; clear HX; (first | (have hq := b9; clear hq; intro w b10 HX) | (have hq := b8; clear hq; intro w b9 HX) | (have hq := b7; clear hq; intro w b8 HX) | (have hq := b6; clear hq; intro w b7 HX) | (have hq := b5; clear hq; intro w b6 HX) | (have hq := b4; clear hq; intro w b5 HX) | (have hq := b3; clear hq; intro w b4 HX) | (have hq := b2; clear hq; intro w b3 HX) | (have hq := b; clear hq; intro w b2 HX) | intro w b HX); simp only [Act.put, List.setIfInBounds_toArray, List.set_cons_zero, List.set_cons_succ, List.cons_append, List.nil_append] at HX ⊢))
  refine (treelen_any HX.out.up2).mono ?_
  rintro e w ⟨rfl, hu⟩
  rw [HL.out]
  replace HX := Lib.hid (HX.out.keep hu)
  clear hu hc0
  go_wp2_with (first | (refine sWL ?_; simp only [Act.put, List.setIfInBounds_toArray, List.set_cons_zero, List.set_cons_succ, List.drop_zero, List.drop_succ_cons, List.take_succ_cons, List.take_zero, List.toList_toArray, NodeS.cells, OpS.cells, ResS.cells]) | (refine sWM ?_; simp only [Act.put, List.setIfInBounds_toArray, List.set_cons_zero, List.set_cons_succ]) | (refine sWS ?_; clear HX; intro w HX; simp only [Act.put, List.setIfInBounds_toArray, List.set_cons_zero, List.set_cons_succ, setMany, Nat.reduceAdd, NodeS.cells, OpS.cells, ResS.cells] at HX ⊢) | (refine sWT ?_; clear HX; intro w HX; simp only [Act.put, List.setIfInBounds_toArray, List.set_cons_zero, List.set_cons_succ, NodeS.cells, OpS.cells, ResS.cells] at HX ⊢) | (refine sWA ?_; clear HX; (first | (have hq := b9; clear hq; intro w b10 HX) | (have hq := b8; clear hq; intro w b9 HX) | (have hq := b7; clear hq; intro w b8 HX) | (have hq := b6; clear hq; intro w b7 HX) | (have hq := b5; clear hq; intro w b6 HX) | (have hq := b4; clear hq; intro w b5 HX) | (have hq := b3; clear hq; intro w b4 HX) | (have hq := b2; clear hq; intro w b3 HX) | (have hq := b; clear hq; intro w b2 HX) | intro w b HX); simp only [Act.put, List.setIfInBounds_toArray, List.set_cons_zero, List.set_cons_succ]) | (refine sWN ?_; clear HX; intro w mm HX; simp only [Act.put, List.setIfInBounds_toArray, List.set_cons_zero, List.set_cons_succ]) | (refine sWP ?_; clear HX; intro w av nv cv HX; simp only [Act.put, List.setIfInBounds_toArray, List.set_cons_zero, List.set_cons_succ]) | (refine sWD ?_; clear HX; (first | (have hq := b9; clear hq; intro w b10 HX) | (have hq := b8; clear hq; intro w b9 HX) | (have hq := b7; clear hq; intro w b8 HX) | (have hq := b6; clear hq; intro w b7 HX) | (have hq := b5; clear hq; intro w b6 HX) | (have hq := b4; clear hq; intro w b5 HX) | (have hq := b3; clear hq; intro w b4 HX) | (have hq := b2; clear hq; intro w b3 HX) | (have hq := b; clear hq; intro w b2 HX) | intro w b HX); simp only [Act.put, List.setIfInBounds_toArray, List.set_cons_zero, List.set_cons_succ, List.cons_append, List.nil_append] at HX ⊢))
  go_ret
  exact ⟨rfl, Upd.of_below HX.out.below⟩
end
end Go.Proofs.YtjeaoopamebgjaaGreatDoor

/-
  Several ops: what the laws of chapter 12 ask of them (plain).
-/
namespace Go.Av
open Go.RowKit
/-- A tree on which Ops were done, whatever came of each. -/
def playT (sess zxid : Int) (l : List OpS) (S : TreeS) : TreeS := l.foldl (fun S o => (doT S o sess zxid).2) S
theorem playT_snoc (sess zxid : Int) (l : List OpS) (o : OpS) (S : TreeS) : playT sess zxid (l ++ [o]) S = (doT (playT sess zxid l S) o sess zxid).2 := by
  unfold playT
  rw [List.foldl_append]
  rfl
theorem playT_take (sess zxid : Int) (l : List OpS) (S : TreeS) {i : Nat} (hi : i < l.length) : playT sess zxid (l.take (i + 1)) S = (doT (playT sess zxid (l.take i) S) l[i] sess zxid).2 := by
  rw [List.take_succ_eq_append_getElem hi, playT_snoc]
theorem playT_b {sess zxid : Int} : ∀ (l : List OpS) {K : Nat} {S : TreeS}, TreeB K S → TreeB (K + l.length) (playT sess zxid l S)
  | [], _, _, h => h
  | o :: l, K, S, h => by
    have := playT_b (sess := sess) (zxid := zxid) l (do_b h o sess zxid)
    rw [List.length_cons, show K + (l.length + 1) = K + 1 + l.length by omega]
    exact this
theorem do_room (S : TreeS) (o : OpS) (sess zxid : Int) : (doT S o sess zxid).2.room = S.room := by
  unfold doT
  split
  · rfl
  · split
    · rfl
    · split
      · unfold createT; split <;> rfl
      · split
        · unfold changeT
          split
          · rfl
          · split
            · rfl
            · split
              · rfl
              · split
                · rfl
                · split <;> rfl
        · rfl
theorem play_room {sess zxid : Int} : ∀ (l : List OpS) (S : TreeS), (playT sess zxid l S).room = S.room
  | [], _ => rfl
  | o :: l, S => (play_room l (doT S o sess zxid).2).trans (do_room S o sess zxid)
/-- A multi that is done. -/
theorem many_ok {S : TreeS} {sess zxid : Int} {ops : List OpS} (h : (manyT S sess zxid ops).2.2 = true) : (stepsT sess zxid ops S).2.2 = 0 ∧ manyT S sess zxid ops = (⟨0, zxid, 0, -1, (stepsT sess zxid ops S).1⟩, (stepsT sess zxid ops S).2.1, true) := by
  unfold manyT at h ⊢
  split
  · rename_i h1; rw [if_pos h1] at h; cases h
  · rename_i h1
    rw [if_neg h1] at h
    split
    · rename_i h2; rw [if_pos h2] at h; cases h
    · rename_i h2
      rw [if_neg h2] at h
      split
      · rename_i h3; rw [if_pos h3] at h; cases h
      · rename_i h3
        exact ⟨by omega, rfl⟩
/-- A multi that is not done. -/
theorem many_no {S : TreeS} {sess zxid : Int} {ops : List OpS} (h : (manyT S sess zxid ops).2.2 = false) : (manyT S sess zxid ops).1.err ≠ 0 ∧ (manyT S sess zxid ops).1.zxid = 0 ∧ (manyT S sess zxid ops).2.1 = S := by
  unfold manyT at h ⊢
  split
  · exact ⟨by show (2 : Int) ≠ 0; decide, rfl, rfl⟩
  · rename_i h1
    rw [if_neg h1] at h
    split
    · exact ⟨by show (1 : Int) ≠ 0; decide, rfl, rfl⟩
    · rename_i h2
      rw [if_neg h2] at h
      split
      · rename_i h3
        exact ⟨h3, rfl, rfl⟩
      · rename_i h3
        rw [if_neg h3] at h
        cases h
theorem many_len {S : TreeS} {sess zxid : Int} {ops : List OpS} (h : (manyT S sess zxid ops).2.2 = true) : (manyT S sess zxid ops).1.err = 0 ∧ (manyT S sess zxid ops).1.rs.length = ops.length := by
  obtain ⟨h1, h2⟩ := many_ok h
  rw [h2]
  exact ⟨rfl, steps_len ops S h1⟩
theorem steps_cons {sess zxid : Int} {q : OpS} {S : TreeS} (l : List OpS) (hq : (doT S q sess zxid).1.err = 0) : stepsT sess zxid (q :: l) S = ((doT S q sess zxid).1 :: (stepsT sess zxid l (doT S q sess zxid).2).1, (stepsT sess zxid l (doT S q sess zxid).2).2) := by
  conv => lhs; unfold stepsT
  rw [if_neg (fun h => h hq)]
theorem steps_cons0 {sess zxid : Int} {q : OpS} {S : TreeS} {l : List OpS} (h : (stepsT sess zxid (q :: l) S).2.2 = 0) : (doT S q sess zxid).1.err = 0 := by
  unfold stepsT at h
  by_cases hq : (doT S q sess zxid).1.err ≠ 0
  · rw [if_pos hq] at h; exact absurd h hq
  · exact Decidable.not_not.1 hq
/-- The first so many of several that are done. -/
theorem steps_app {sess zxid : Int} (l2 : List OpS) : ∀ (l1 : List OpS) (S : TreeS), (stepsT sess zxid (l1 ++ l2) S).2.2 = 0 →
    (stepsT sess zxid l1 S).2.2 = 0 ∧ stepsT sess zxid (l1 ++ l2) S = ((stepsT sess zxid l1 S).1 ++ (stepsT sess zxid l2 (stepsT sess zxid l1 S).2.1).1, (stepsT sess zxid l2 (stepsT sess zxid l1 S).2.1).2)
  | [], S, _ => ⟨rfl, rfl⟩
  | q :: l, S, h => by
    rw [List.cons_append] at h ⊢
    have hq := steps_cons0 h
    rw [steps_cons _ hq] at h
    rw [steps_cons l hq, steps_cons (l ++ l2) hq]
    have ih := steps_app l2 l (doT S q sess zxid).2 h
    refine ⟨ih.1, ?_⟩
    rw [ih.2]
    rfl
theorem steps_at {sess zxid : Int} {l : List OpS} {S : TreeS} (h : (stepsT sess zxid l S).2.2 = 0) {i : Nat} (hi : i < l.length) :
    (doT (stepsT sess zxid (l.take i) S).2.1 l[i] sess zxid).1.err = 0 ∧ (stepsT sess zxid (l.take (i + 1)) S).2.1 = (doT (stepsT sess zxid (l.take i) S).2.1 l[i] sess zxid).2 ∧
      (stepsT sess zxid l S).1[i]? = some (doT (stepsT sess zxid (l.take i) S).2.1 l[i] sess zxid).1 := by
  have hsplit : l = l.take (i + 1) ++ l.drop (i + 1) := (List.take_append_drop _ _).symm
  rw [hsplit] at h
  obtain ⟨h1, h2⟩ := steps_app _ _ _ h
  rw [List.take_succ_eq_append_getElem hi] at h1
  obtain ⟨h3, h4⟩ := steps_app _ _ _ h1
  have hs := steps_snoc (sess := sess) (zxid := zxid) l[i] (l.take i) S h3
  have he : (doT (stepsT sess zxid (l.take i) S).2.1 l[i] sess zxid).1.err = 0 := by
    apply Decidable.byContradiction
    intro hne
    rw [if_pos hne] at hs
    rw [hs] at h1
    exact hne h1
  rw [if_neg (fun hh => hh he), ← List.take_succ_eq_append_getElem hi] at hs
  refine ⟨he, by rw [hs], ?_⟩
  rw [← hsplit] at h2
  rw [h2, hs]
  have hl : (stepsT sess zxid (l.take i) S).1.length = i := by
    rw [steps_len _ _ h3, List.length_take]; omega
  dsimp only
  rw [List.append_assoc, List.getElem?_append_right (by omega), hl, Nat.sub_self]
  rfl
theorem steps_room {sess zxid : Int} : ∀ (l : List OpS) (S : TreeS), (stepsT sess zxid l S).2.1.room = S.room
  | [], _ => rfl
  | o :: l, S => by
    unfold stepsT
    split
    · exact do_room S o sess zxid
    · exact (steps_room l _).trans (do_room S o sess zxid)
/-- A result among others. -/
theorem ResL.at {P : List PRow} {l : List ResS} {xs : List Value} (h : ResL P l xs) : ∀ {i : Nat} (hi : i < l.length), ∃ nv, (1, nv, l[i].names.map sv) ∈ P ∧ ∀ j v, (l[i].cells nv).toList[j]? = some v → xs[i * 11 + j]? = some v := by
  induction h with
  | nil => intro i hi; cases hi
  | @cons r nv rs xs h1 h2 ih =>
    intro i hi
    cases i with
    | zero =>
      refine ⟨nv, h1, fun j v hv => ?_⟩
      have hv : (r.cells nv).toList[j]? = some v := hv
      have hj := (List.getElem?_eq_some_iff.1 hv).1
      rw [Nat.zero_mul, Nat.zero_add, List.getElem?_append_left hj]
      exact hv
    | succ i =>
      obtain ⟨nv', h3, h4⟩ := ih (i := i) (by simpa using hi)
      refine ⟨nv', h3, fun j v hv => ?_⟩
      have hl : (r.cells nv).toList.length = 11 := rfl
      rw [List.getElem?_append_right (by omega), hl, show (i + 1) * 11 + j - 11 = i * 11 + j by omega]
      exact h4 j v hv
end Go.Av

/-
  Requests: op.May, multi.Request.
-/
set_option linter.unusedSimpArgs false
namespace Go.Av
open Go.RowKit
def readsS (k : Int) : Bool := k == 5 || (k == 6 || k == 7)
/-- What is wrong with the first op that is not good. -/
def firstE (l : List OpS) : Int := match l.find? (fun o => goodE o != 0) with
  | none => 0
  | some o => goodE o
/-- What is wrong with a request first. -/
def mayS (sess num : Int) (l : List OpS) : Int :=
  if sess < 1 ∨ num < 1 ∨ l.length = 0 then 1 else if 16 < l.length then 2 else if firstE l ≠ 0 then firstE l
  else if 1 < l.length ∧ (l.any fun o => readsS o.kind) = true then 1 else 0
/-- A request that is done. -/
def requestT (S : TreeS) (sess num zxid : Int) (ops : List OpS) : ReplyS × TreeS :=
  if mayS sess num ops ≠ 0 then (failR num (mayS sess num ops) (-1) 0, S)
  else (⟨num, zxid, (manyT S sess zxid ops).1.err, (manyT S sess zxid ops).1.at_, (manyT S sess zxid ops).1.rs⟩, (manyT S sess zxid ops).2.1)
theorem firstE_take {l : List OpS} (h : ∀ o ∈ l, goodE o = 0) : firstE l = 0 := by
  unfold firstE
  rw [List.find?_eq_none.2 fun o ho => by simp [h o ho]]
theorem firstE_at {l : List OpS} {i : Nat} (hi : i < l.length) (h : ∀ o ∈ l.take i, goodE o = 0) (hb : goodE l[i] ≠ 0) : firstE l = goodE l[i] := by
  have hs : l = l.take i ++ l[i] :: l.drop (i + 1) := by rw [← List.drop_eq_getElem_cons hi, List.take_append_drop]
  obtain ⟨o, ho⟩ : ∃ o, l[i] = o := ⟨_, rfl⟩
  rw [ho] at hb hs ⊢
  obtain ⟨T, hT⟩ : ∃ T, l.take i = T := ⟨_, rfl⟩
  obtain ⟨D, hD⟩ : ∃ D, l.drop (i + 1) = D := ⟨_, rfl⟩
  rw [hT] at h hs
  rw [hD] at hs
  rw [hs]
  unfold firstE
  rw [List.find?_append, List.find?_eq_none.2 fun o ho => by simp [h o ho]]
  rw [List.find?_cons]
  have : (goodE o != 0) = true := by rw [bne_iff_ne]; exact hb
  rw [this]
  rfl
theorem mayS_ops {sess num : Int} {l : List OpS} (h : mayS sess num l = 0) : l.length ≤ 16 ∧ 0 < l.length := by
  unfold mayS at h
  split at h
  · cases h
  · split at h
    · cases h
    · omega
end Go.Av
namespace Go.Proofs.YtjeaoopamebgjaaGreatDoor
open Go.RowKit Go.Av
section
variable {w0 w : World} {t : Nat} {S : TreeS} {P P' : List PRow} {R : List Thing} {rows : List (Value × Bs)}
set_option maxRecDepth 100000 in
theorem reads_any (k : Int) (w : World) : Calls Tryz.prog 72 #[.int .i64 k] w fun e w' => e = .returned (.bool (readsS k)) ∧ w' = w := by
  unfold readsS
  obtain ⟨b1, h1⟩ : ∃ b, (k == 5) = b := ⟨_, rfl⟩
  obtain ⟨b2, h2⟩ : ∃ b, (k == 6) = b := ⟨_, rfl⟩
  obtain ⟨b3, h3⟩ : ∃ b, (k == 7) = b := ⟨_, rfl⟩
  rw [h1, h2, h3]
  cases b1 <;> cases b2
  all_goals
    go_enter Tryz.func72, Tryz.ntmps72
    go_wp2
    go_ret
    exact ⟨rfl, rfl⟩
set_option maxRecDepth 100000 in
theorem may1_any (h : Sep w0 w R rows) (o : OpS) : Calls Tryz.prog 71 #[o.val] w fun e w' => e = .returned (.bool (readsS o.kind)) ∧ Sep w0 w' R rows := by
  have HX := Lib.hid h
  clear h
  unfold OpS.val
  go_enter Tryz.func71, Tryz.ntmps71
  go_wp2_with (first | (refine sWL ?_; simp only [Act.put, List.setIfInBounds_toArray, List.set_cons_zero, List.set_cons_succ, List.drop_zero, List.drop_succ_cons, List.take_succ_cons, List.take_zero, List.toList_toArray, NodeS.cells, OpS.cells, ResS.cells]) | (refine sWM ?_; simp only [Act.put, List.setIfInBounds_toArray, List.set_cons_zero, List.set_cons_succ]) | (refine sWS ?_; clear HX; intro w HX; simp only [Act.put, List.setIfInBounds_toArray, List.set_cons_zero, List.set_cons_succ, setMany, Nat.reduceAdd, NodeS.cells, OpS.cells, ResS.cells] at HX ⊢) | (refine sWT ?_; clear HX; intro w HX; simp only [Act.put, List.setIfInBounds_toArray, List.set_cons_zero, List.set_cons_succ, NodeS.cells, OpS.cells, ResS.cells] at HX ⊢) | (refine sWA ?_; clear HX; (first | (have hq := b9; clear hq; intro w b10 HX) | (have hq := b8; clear hq; intro w b9 HX) | (have hq := b7; clear hq; intro w b8 HX) | (have hq := b6; clear hq; intro w b7 HX) | (have hq := b5; clear hq; intro w b6 HX) | (have hq := b4; clear hq; intro w b5 HX) | (have hq := b3; clear hq; intro w b4 HX) | (have hq := b2; clear hq; intro w b3 HX) | (have hq := b; clear hq; intro w b2 HX) | intro w b HX); simp only [Act.put, List.setIfInBounds_toArray, List.set_cons_zero, List.set_cons_succ]) | (refine sWN ?_; clear HX; intro w mm HX; simp only [Act.put, List.setIfInBounds_toArray, List.set_cons_zero, List.set_cons_succ]) | (refine sWP ?_; clear HX; intro w av nv cv HX; simp only [Act.put, List.setIfInBounds_toArray, List.set_cons_zero, List.set_cons_succ]))
  refine (reads_any _ _).mono ?_
  rintro e w1 ⟨rfl, rfl⟩
  go_wp2_with (first | (refine sWL ?_; simp only [Act.put, List.setIfInBounds_toArray, List.set_cons_zero, List.set_cons_succ, List.drop_zero, List.drop_succ_cons, List.take_succ_cons, List.take_zero, List.toList_toArray, NodeS.cells, OpS.cells, ResS.cells]) | (refine sWM ?_; simp only [Act.put, List.setIfInBounds_toArray, List.set_cons_zero, List.set_cons_succ]) | (refine sWS ?_; clear HX; intro w HX; simp only [Act.put, List.setIfInBounds_toArray, List.set_cons_zero, List.set_cons_succ, setMany, Nat.reduceAdd, NodeS.cells, OpS.cells, ResS.cells] at HX ⊢) | (refine sWT ?_; clear HX; intro w HX; simp only [Act.put, List.setIfInBounds_toArray, List.set_cons_zero, List.set_cons_succ, NodeS.cells, OpS.cells, ResS.cells] at HX ⊢) | (refine sWA ?_; clear HX; (first | (have hq := b9; clear hq; intro w b10 HX) | (have hq := b8; clear hq; intro w b9 HX) | (have hq := b7; clear hq; intro w b8 HX) | (have hq := b6; clear hq; intro w b7 HX) | (have hq := b5; clear hq; intro w b6 HX) | (have hq := b4; clear hq; intro w b5 HX) | (have hq := b3; clear hq; intro w b4 HX) | (have hq := b2; clear hq; intro w b3 HX) | (have hq := b; clear hq; intro w b2 HX) | intro w b HX); simp only [Act.put, List.setIfInBounds_toArray, List.set_cons_zero, List.set_cons_succ]) | (refine sWN ?_; clear HX; intro w mm HX; simp only [Act.put, List.setIfInBounds_toArray, List.set_cons_zero, List.set_cons_succ]) | (refine sWP ?_; clear HX; intro w av nv cv HX; simp only [Act.put, List.setIfInBounds_toArray, List.set_cons_zero, List.set_cons_succ]))
  go_ret
  exact ⟨rfl, HX.out.drop⟩
abbrev may1V : Value := .func (.func 71) #[] #[]
def IdxPost (w0 : World) (P : List PRow) (R : List Thing) (rows : List (Value × Bs)) (b : Bool) (e : Ending) (w' : World) : Prop :=
  ∃ r : Int, e = .returned (.int .i64 r) ∧ decide (0 ≤ r) = b ∧ Sep w0 w' (ThPool w0 P :: R) rows
set_option maxRecDepth 100000 in
set_option maxHeartbeats 2000000 in
theorem idxop_any (h : Sep w0 w (ThPool w0 P :: R) rows) (l : List OpS) (v : Value) (hv : (5, v, l.flatMap OpS.cells) ∈ P) (hn : l.length ≤ 100000) :
    Calls Tryz.prog 102 #[v, may1V] w (IdxPost w0 P R rows (l.any fun o => readsS o.kind)) := by
  obtain ⟨E, hE⟩ := h.poolGet hv
  obtain ⟨a, n, c, rfl, hl0, -, -, hne⟩ := ReadRow.some hE
  rw [flatG_len opcells_len] at hl0
  obtain rfl : l.length = n := by omega
  have HNE := Lib.hid hne
  have HV := Lib.hid hv
  have HX := Lib.hid h
  clear h hE hne hv hl0
  go_enter Tryz.func102, Tryz.ntmps102
  go_wp2_with (first | (refine sWL ?_; simp only [Act.put, List.setIfInBounds_toArray, List.set_cons_zero, List.set_cons_succ, List.drop_zero, List.drop_succ_cons, List.take_succ_cons, List.take_zero, List.toList_toArray, NodeS.cells, OpS.cells, ResS.cells]) | (refine sWM ?_; simp only [Act.put, List.setIfInBounds_toArray, List.set_cons_zero, List.set_cons_succ]) | (refine sWS ?_; clear HX; intro w HX; simp only [Act.put, List.setIfInBounds_toArray, List.set_cons_zero, List.set_cons_succ, setMany, Nat.reduceAdd, NodeS.cells, OpS.cells, ResS.cells] at HX ⊢) | (refine sWT ?_; clear HX; intro w HX; simp only [Act.put, List.setIfInBounds_toArray, List.set_cons_zero, List.set_cons_succ, NodeS.cells, OpS.cells, ResS.cells] at HX ⊢) | (refine sWA ?_; clear HX; (first | (have hq := b9; clear hq; intro w b10 HX) | (have hq := b8; clear hq; intro w b9 HX) | (have hq := b7; clear hq; intro w b8 HX) | (have hq := b6; clear hq; intro w b7 HX) | (have hq := b5; clear hq; intro w b6 HX) | (have hq := b4; clear hq; intro w b5 HX) | (have hq := b3; clear hq; intro w b4 HX) | (have hq := b2; clear hq; intro w b3 HX) | (have hq := b; clear hq; intro w b2 HX) | intro w b HX); simp only [Act.put, List.setIfInBounds_toArray, List.set_cons_zero, List.set_cons_succ]) | (refine sWN ?_; clear HX; intro w mm HX; simp only [Act.put, List.setIfInBounds_toArray, List.set_cons_zero, List.set_cons_succ]) | (refine sWP ?_; clear HX; intro w av nv cv HX; simp only [Act.put, List.setIfInBounds_toArray, List.set_cons_zero, List.set_cons_succ]))
  go_loopg [8] l.length (fun k v wr => ∃ i : Nat, i + k = l.length ∧ v = .int .i64 (i : Int) ∧ (∀ o ∈ l.take i, readsS o.kind = false) ∧ Sep w0 wr (ThPool w0 P :: R) rows)
  case atStart => exact ⟨0, by simp, rfl, by simp, HX.out⟩
  case round =>
    rename World => w
    obtain ⟨i, hik, rfl, hno, hS⟩ := hrel
    clear HX
    have HX := Lib.hid hS
    have HNO := Lib.hid hno
    clear hS hno
    by_cases hlt : i < l.length
    case neg =>
      obtain rfl : i = l.length := by omega
      clear hlt hik
      go_wp2_with (first | (refine sWL ?_; simp only [Act.put, List.setIfInBounds_toArray, List.set_cons_zero, List.set_cons_succ, List.drop_zero, List.drop_succ_cons, List.take_succ_cons, List.take_zero, List.toList_toArray, NodeS.cells, OpS.cells, ResS.cells]) | (refine sWM ?_; simp only [Act.put, List.setIfInBounds_toArray, List.set_cons_zero, List.set_cons_succ]) | (refine sWS ?_; clear HX; intro w HX; simp only [Act.put, List.setIfInBounds_toArray, List.set_cons_zero, List.set_cons_succ, setMany, Nat.reduceAdd, NodeS.cells, OpS.cells, ResS.cells] at HX ⊢) | (refine sWT ?_; clear HX; intro w HX; simp only [Act.put, List.setIfInBounds_toArray, List.set_cons_zero, List.set_cons_succ, NodeS.cells, OpS.cells, ResS.cells] at HX ⊢) | (refine sWA ?_; clear HX; (first | (have hq := b9; clear hq; intro w b10 HX) | (have hq := b8; clear hq; intro w b9 HX) | (have hq := b7; clear hq; intro w b8 HX) | (have hq := b6; clear hq; intro w b7 HX) | (have hq := b5; clear hq; intro w b6 HX) | (have hq := b4; clear hq; intro w b5 HX) | (have hq := b3; clear hq; intro w b4 HX) | (have hq := b2; clear hq; intro w b3 HX) | (have hq := b; clear hq; intro w b2 HX) | intro w b HX); simp only [Act.put, List.setIfInBounds_toArray, List.set_cons_zero, List.set_cons_succ]) | (refine sWN ?_; clear HX; intro w mm HX; simp only [Act.put, List.setIfInBounds_toArray, List.set_cons_zero, List.set_cons_succ]) | (refine sWP ?_; clear HX; intro w av nv cv HX; simp only [Act.put, List.setIfInBounds_toArray, List.set_cons_zero, List.set_cons_succ]))
      go_ret
      have h1 := HNO.out
      rw [List.take_length] at h1
      exact ⟨-1, rfl, by rw [List.any_eq_false.2 fun o ho => by simp [h1 o ho]]; rfl, HX.out⟩
    case pos =>
      obtain ⟨g, off, rfl⟩ := HNE.out (by intro e; have := congrArg List.length e; rw [flatG_len opcells_len] at this; simp at this; omega)
      obtain ⟨E, hE⟩ := HX.out.poolGet HV.out
      have hl := row_load (P := Tryz.prog) (f := OpS.cells) (i := i) hE opcells_len sn_op hlt
      have HTK := Lib.hid (show l.take (i + 1) = l.take i ++ [l[i]] from List.take_succ_eq_append_getElem hlt)
      have HIN := Lib.hid (show l[i] ∈ l from List.getElem_mem hlt)
      obtain ⟨o, ho⟩ : ∃ o, l[i] = o := ⟨_, rfl⟩
      rw [ho] at hl HTK HIN
      have q0 : decide (i < l.length) = true := decide_eq_true hlt
      clear hE ho
      go_wp2_with (first | (refine sWL ?_; simp only [Act.put, List.setIfInBounds_toArray, List.set_cons_zero, List.set_cons_succ, List.drop_zero, List.drop_succ_cons, List.take_succ_cons, List.take_zero, List.toList_toArray, NodeS.cells, OpS.cells, ResS.cells]) | (refine sWM ?_; simp only [Act.put, List.setIfInBounds_toArray, List.set_cons_zero, List.set_cons_succ]) | (refine sWS ?_; clear HX; intro w HX; simp only [Act.put, List.setIfInBounds_toArray, List.set_cons_zero, List.set_cons_succ, setMany, Nat.reduceAdd, NodeS.cells, OpS.cells, ResS.cells] at HX ⊢) | (refine sWT ?_; clear HX; intro w HX; simp only [Act.put, List.setIfInBounds_toArray, List.set_cons_zero, List.set_cons_succ, NodeS.cells, OpS.cells, ResS.cells] at HX ⊢) | (refine sWA ?_; clear HX; (first | (have hq := b9; clear hq; intro w b10 HX) | (have hq := b8; clear hq; intro w b9 HX) | (have hq := b7; clear hq; intro w b8 HX) | (have hq := b6; clear hq; intro w b7 HX) | (have hq := b5; clear hq; intro w b6 HX) | (have hq := b4; clear hq; intro w b5 HX) | (have hq := b3; clear hq; intro w b4 HX) | (have hq := b2; clear hq; intro w b3 HX) | (have hq := b; clear hq; intro w b2 HX) | intro w b HX); simp only [Act.put, List.setIfInBounds_toArray, List.set_cons_zero, List.set_cons_succ]) | (refine sWN ?_; clear HX; intro w mm HX; simp only [Act.put, List.setIfInBounds_toArray, List.set_cons_zero, List.set_cons_succ]) | (refine sWP ?_; clear HX; intro w av nv cv HX; simp only [Act.put, List.setIfInBounds_toArray, List.set_cons_zero, List.set_cons_succ]) | ((with_reducible apply sx_loadAt hl); (· rfl); (· rfl); simp only [Act.put, List.setIfInBounds_toArray, List.set_cons_zero, List.set_cons_succ]))
      refine (may1_any HX.out o).mono ?_
      obtain ⟨b, hb⟩ : ∃ b, readsS o.kind = b := ⟨_, rfl⟩
      rw [hb]
      rintro e w ⟨rfl, hx⟩
      clear HX hl
      have HX := Lib.hid hx
      clear hx
      cases b with
      | true =>
        go_wp2_with (first | (refine sWL ?_; simp only [Act.put, List.setIfInBounds_toArray, List.set_cons_zero, List.set_cons_succ, List.drop_zero, List.drop_succ_cons, List.take_succ_cons, List.take_zero, List.toList_toArray, NodeS.cells, OpS.cells, ResS.cells]) | (refine sWM ?_; simp only [Act.put, List.setIfInBounds_toArray, List.set_cons_zero, List.set_cons_succ]) | (refine sWS ?_; clear HX; intro w HX; simp only [Act.put, List.setIfInBounds_toArray, List.set_cons_zero, List.set_cons_succ, setMany, Nat.reduceAdd, NodeS.cells, OpS.cells, ResS.cells] at HX ⊢) | (refine sWT ?_; clear HX; intro w HX; simp only [Act.put, List.setIfInBounds_toArray, List.set_cons_zero, List.set_cons_succ, NodeS.cells, OpS.cells, ResS.cells] at HX ⊢) | (refine sWA ?_; clear HX; (first | (have hq := b9; clear hq; intro w b10 HX) | (have hq := b8; clear hq; intro w b9 HX) | (have hq := b7; clear hq; intro w b8 HX) | (have hq := b6; clear hq; intro w b7 HX) | (have hq := b5; clear hq; intro w b6 HX) | (have hq := b4; clear hq; intro w b5 HX) | (have hq := b3; clear hq; intro w b4 HX) | (have hq := b2; clear hq; intro w b3 HX) | (have hq := b; clear hq; intro w b2 HX) | intro w b HX); simp only [Act.put, List.setIfInBounds_toArray, List.set_cons_zero, List.set_cons_succ]) | (refine sWN ?_; clear HX; intro w mm HX; simp only [Act.put, List.setIfInBounds_toArray, List.set_cons_zero, List.set_cons_succ]) | (refine sWP ?_; clear HX; intro w av nv cv HX; simp only [Act.put, List.setIfInBounds_toArray, List.set_cons_zero, List.set_cons_succ]))
        go_ret
        refine ⟨(i : Int), rfl, ?_, HX.out⟩
        rw [List.any_eq_true.2 ⟨o, HIN.out, hb⟩]
        exact decide_eq_true (by omega)
      | false =>
        have HB := Lib.hid hb
        clear hb
        go_wp2_with (first | (refine sWL ?_; simp only [Act.put, List.setIfInBounds_toArray, List.set_cons_zero, List.set_cons_succ, List.drop_zero, List.drop_succ_cons, List.take_succ_cons, List.take_zero, List.toList_toArray, NodeS.cells, OpS.cells, ResS.cells]) | (refine sWM ?_; simp only [Act.put, List.setIfInBounds_toArray, List.set_cons_zero, List.set_cons_succ]) | (refine sWS ?_; clear HX; intro w HX; simp only [Act.put, List.setIfInBounds_toArray, List.set_cons_zero, List.set_cons_succ, setMany, Nat.reduceAdd, NodeS.cells, OpS.cells, ResS.cells] at HX ⊢) | (refine sWT ?_; clear HX; intro w HX; simp only [Act.put, List.setIfInBounds_toArray, List.set_cons_zero, List.set_cons_succ, NodeS.cells, OpS.cells, ResS.cells] at HX ⊢) | (refine sWA ?_; clear HX; (first | (have hq := b9; clear hq; intro w b10 HX) | (have hq := b8; clear hq; intro w b9 HX) | (have hq := b7; clear hq; intro w b8 HX) | (have hq := b6; clear hq; intro w b7 HX) | (have hq := b5; clear hq; intro w b6 HX) | (have hq := b4; clear hq; intro w b5 HX) | (have hq := b3; clear hq; intro w b4 HX) | (have hq := b2; clear hq; intro w b3 HX) | (have hq := b; clear hq; intro w b2 HX) | intro w b HX); simp only [Act.put, List.setIfInBounds_toArray, List.set_cons_zero, List.set_cons_succ]) | (refine sWN ?_; clear HX; intro w mm HX; simp only [Act.put, List.setIfInBounds_toArray, List.set_cons_zero, List.set_cons_succ]) | (refine sWP ?_; clear HX; intro w av nv cv HX; simp only [Act.put, List.setIfInBounds_toArray, List.set_cons_zero, List.set_cons_succ]))
        go_roundg (l.length - (i + 1))
        case rel => exact ⟨i + 1, by omega, by go_num, by
          rw [HTK.out]
          intro q hq
          rcases List.mem_append.1 hq with hq | hq
          · exact HNO.out q hq
          · rw [List.mem_singleton] at hq; rw [hq]; exact HB.out, HX.out⟩
        case measure => omega
set_option maxRecDepth 100000 in
theorem contop_any (h : Sep w0 w (ThPool w0 P :: R) rows) (l : List OpS) (v : Value) (hv : (5, v, l.flatMap OpS.cells) ∈ P) (hn : l.length ≤ 100000) :
    Calls Tryz.prog 70 #[v, may1V] w fun e w' => e = .returned (.bool (l.any fun o => readsS o.kind)) ∧ Sep w0 w' (ThPool w0 P :: R) rows := by
  have HC := Lib.hid (idxop_any h l v hv hn)
  clear h hv hn
  obtain ⟨b, hb⟩ : ∃ b, (l.any fun o => readsS o.kind) = b := ⟨_, rfl⟩
  rw [hb] at HC ⊢
  clear hb
  go_enter Tryz.func70, Tryz.ntmps70
  go_wp2_with fail
  refine HC.out.mono ?_
  rintro e w ⟨r, rfl, hr, hS⟩
  have HX := Lib.hid hS
  clear hS HC
  go_wp2_with fail
  go_ret
  refine ⟨?_, HX.out⟩
  rw [← hr]
  rfl
set_option maxRecDepth 100000 in
set_option maxHeartbeats 4000000 in
theorem may_any (h : Sep w0 w (ThPool w0 P :: R) rows) (hd : DoorN w0) (sess num : Int) (l : List OpS) (v : Value) (hv : (5, v, l.flatMap OpS.cells) ∈ P) (hp : ∀ o ∈ l, o.path.size ≤ 100000) :
    Calls Tryz.prog 43 #[.agg #[.int .i64 sess, .int .i64 num, v]] w fun e w' => e = .returned (.int .i64 (mayS sess num l)) ∧ Sep w0 w' (ThPool w0 P :: R) rows := by
  obtain ⟨E, hE⟩ := h.poolGet hv
  obtain ⟨a, n, c, rfl, hl0, -, -, hne⟩ := ReadRow.some hE
  rw [flatG_len opcells_len] at hl0
  obtain rfl : l.length = n := by omega
  have HNE := Lib.hid hne
  have HV := Lib.hid hv
  have HX := Lib.hid h
  have HPS := Lib.hid hp
  clear h hE hne hv hl0 hp
  obtain ⟨m, hm⟩ : ∃ m, mayS sess num l = m := ⟨_, rfl⟩
  rw [hm]
  have HM := Lib.hid hm
  clear hm
  by_cases h1 : sess < 1 ∨ num < 1 ∨ l.length = 0
  · obtain rfl : m = 1 := by rw [← HM.out]; unfold mayS; rw [if_pos h1]
    by_cases h2 : sess < 1
    · have q1 : decide (sess < 1) = true := decide_eq_true h2
      go_enter Tryz.func43, Tryz.ntmps43
      go_wp2_with (first | (refine sWL ?_; simp only [Act.put, List.setIfInBounds_toArray, List.set_cons_zero, List.set_cons_succ, List.drop_zero, List.drop_succ_cons, List.take_succ_cons, List.take_zero, List.toList_toArray, NodeS.cells, OpS.cells, ResS.cells]) | (refine sWM ?_; simp only [Act.put, List.setIfInBounds_toArray, List.set_cons_zero, List.set_cons_succ]) | (refine sWS ?_; clear HX; intro w HX; simp only [Act.put, List.setIfInBounds_toArray, List.set_cons_zero, List.set_cons_succ, setMany, Nat.reduceAdd, NodeS.cells, OpS.cells, ResS.cells] at HX ⊢) | (refine sWT ?_; clear HX; intro w HX; simp only [Act.put, List.setIfInBounds_toArray, List.set_cons_zero, List.set_cons_succ, NodeS.cells, OpS.cells, ResS.cells] at HX ⊢) | (refine sWA ?_; clear HX; (first | (have hq := b9; clear hq; intro w b10 HX) | (have hq := b8; clear hq; intro w b9 HX) | (have hq := b7; clear hq; intro w b8 HX) | (have hq := b6; clear hq; intro w b7 HX) | (have hq := b5; clear hq; intro w b6 HX) | (have hq := b4; clear hq; intro w b5 HX) | (have hq := b3; clear hq; intro w b4 HX) | (have hq := b2; clear hq; intro w b3 HX) | (have hq := b; clear hq; intro w b2 HX) | intro w b HX); simp only [Act.put, List.setIfInBounds_toArray, List.set_cons_zero, List.set_cons_succ]) | (refine sWN ?_; clear HX; intro w mm HX; simp only [Act.put, List.setIfInBounds_toArray, List.set_cons_zero, List.set_cons_succ]) | (refine sWP ?_; clear HX; intro w av nv cv HX; simp only [Act.put, List.setIfInBounds_toArray, List.set_cons_zero, List.set_cons_succ]))
      go_ret
      exact ⟨rfl, HX.out.drop⟩
    · have q1 : decide (sess < 1) = false := decide_eq_false h2
      by_cases h3 : num < 1
      · have q2 : decide (num < 1) = true := decide_eq_true h3
        go_enter Tryz.func43, Tryz.ntmps43
        go_wp2_with (first | (refine sWL ?_; simp only [Act.put, List.setIfInBounds_toArray, List.set_cons_zero, List.set_cons_succ, List.drop_zero, List.drop_succ_cons, List.take_succ_cons, List.take_zero, List.toList_toArray, NodeS.cells, OpS.cells, ResS.cells]) | (refine sWM ?_; simp only [Act.put, List.setIfInBounds_toArray, List.set_cons_zero, List.set_cons_succ]) | (refine sWS ?_; clear HX; intro w HX; simp only [Act.put, List.setIfInBounds_toArray, List.set_cons_zero, List.set_cons_succ, setMany, Nat.reduceAdd, NodeS.cells, OpS.cells, ResS.cells] at HX ⊢) | (refine sWT ?_; clear HX; intro w HX; simp only [Act.put, List.setIfInBounds_toArray, List.set_cons_zero, List.set_cons_succ, NodeS.cells, OpS.cells, ResS.cells] at HX ⊢) | (refine sWA ?_; clear HX; (first | (have hq := b9; clear hq; intro w b10 HX) | (have hq := b8; clear hq; intro w b9 HX) | (have hq := b7; clear hq; intro w b8 HX) | (have hq := b6; clear hq; intro w b7 HX) | (have hq := b5; clear hq; intro w b6 HX) | (have hq := b4; clear hq; intro w b5 HX) | (have hq := b3; clear hq; intro w b4 HX) | (have hq := b2; clear hq; intro w b3 HX) | (have hq := b; clear hq; intro w b2 HX) | intro w b HX); simp only [Act.put, List.setIfInBounds_toArray, List.set_cons_zero, List.set_cons_succ]) | (refine sWN ?_; clear HX; intro w mm HX; simp only [Act.put, List.setIfInBounds_toArray, List.set_cons_zero, List.set_cons_succ]) | (refine sWP ?_; clear HX; intro w av nv cv HX; simp only [Act.put, List.setIfInBounds_toArray, List.set_cons_zero, List.set_cons_succ]))
        go_ret
        exact ⟨rfl, HX.out.drop⟩
      · have q2 : decide (num < 1) = false := decide_eq_false h3
        have h4 : l.length = 0 := by omega
        have q3 : ((l.length : Int) == 0) = true := by rw [h4]; rfl
        go_enter Tryz.func43, Tryz.ntmps43
        go_wp2_with (first | (refine sWL ?_; simp only [Act.put, List.setIfInBounds_toArray, List.set_cons_zero, List.set_cons_succ, List.drop_zero, List.drop_succ_cons, List.take_succ_cons, List.take_zero, List.toList_toArray, NodeS.cells, OpS.cells, ResS.cells]) | (refine sWM ?_; simp only [Act.put, List.setIfInBounds_toArray, List.set_cons_zero, List.set_cons_succ]) | (refine sWS ?_; clear HX; intro w HX; simp only [Act.put, List.setIfInBounds_toArray, List.set_cons_zero, List.set_cons_succ, setMany, Nat.reduceAdd, NodeS.cells, OpS.cells, ResS.cells] at HX ⊢) | (refine sWT ?_; clear HX; intro w HX; simp only [Act.put, List.setIfInBounds_toArray, List.set_cons_zero, List.set_cons_succ, NodeS.cells, OpS.cells, ResS.cells] at HX ⊢) | (refine sWA ?_; clear HX; (first | (have hq := b9; clear hq; intro w b10 HX) | (have hq := b8; clear hq; intro w b9 HX) | (have hq := b7; clear hq; intro w b8 HX) | (have hq := b6; clear hq; intro w b7 HX) | (have hq := b5; clear hq; intro w b6 HX) | (have hq := b4; clear hq; intro w b5 HX) | (have hq := b3; clear hq; intro w b4 HX) | (have hq := b2; clear hq; intro w b3 HX) | (have hq := b; clear hq; intro w b2 HX) | intro w b HX); simp only [Act.put, List.setIfInBounds_toArray, List.set_cons_zero, List.set_cons_succ]) | (refine sWN ?_; clear HX; intro w mm HX; simp only [Act.put, List.setIfInBounds_toArray, List.set_cons_zero, List.set_cons_succ]) | (refine sWP ?_; clear HX; intro w av nv cv HX; simp only [Act.put, List.setIfInBounds_toArray, List.set_cons_zero, List.set_cons_succ]))
        go_ret
        exact ⟨rfl, HX.out.drop⟩
  have q1 : decide (sess < 1) = false := decide_eq_false (fun hh => h1 (.inl hh))
  have q2 : decide (num < 1) = false := decide_eq_false (fun hh => h1 (.inr (.inl hh)))
  have q3 : ((l.length : Int) == 0) = false := by rw [beq_eq_false_iff_ne]; omega
  by_cases h2 : 16 < l.length
  · obtain rfl : m = 2 := by rw [← HM.out]; unfold mayS; rw [if_neg h1, if_pos h2]
    have q4 : decide (16 < l.length) = true := decide_eq_true h2
    have q5 : decide (16 < (l.length : Int)) = true := decide_eq_true (by omega)
    go_enter Tryz.func43, Tryz.ntmps43
    go_wp2_with (first | (refine sWL ?_; simp only [Act.put, List.setIfInBounds_toArray, List.set_cons_zero, List.set_cons_succ, List.drop_zero, List.drop_succ_cons, List.take_succ_cons, List.take_zero, List.toList_toArray, NodeS.cells, OpS.cells, ResS.cells]) | (refine sWM ?_; simp only [Act.put, List.setIfInBounds_toArray, List.set_cons_zero, List.set_cons_succ]) | (refine sWS ?_; clear HX; intro w HX; simp only [Act.put, List.setIfInBounds_toArray, List.set_cons_zero, List.set_cons_succ, setMany, Nat.reduceAdd, NodeS.cells, OpS.cells, ResS.cells] at HX ⊢) | (refine sWT ?_; clear HX; intro w HX; simp only [Act.put, List.setIfInBounds_toArray, List.set_cons_zero, List.set_cons_succ, NodeS.cells, OpS.cells, ResS.cells] at HX ⊢) | (refine sWA ?_; clear HX; (first | (have hq := b9; clear hq; intro w b10 HX) | (have hq := b8; clear hq; intro w b9 HX) | (have hq := b7; clear hq; intro w b8 HX) | (have hq := b6; clear hq; intro w b7 HX) | (have hq := b5; clear hq; intro w b6 HX) | (have hq := b4; clear hq; intro w b5 HX) | (have hq := b3; clear hq; intro w b4 HX) | (have hq := b2; clear hq; intro w b3 HX) | (have hq := b; clear hq; intro w b2 HX) | intro w b HX); simp only [Act.put, List.setIfInBounds_toArray, List.set_cons_zero, List.set_cons_succ]) | (refine sWN ?_; clear HX; intro w mm HX; simp only [Act.put, List.setIfInBounds_toArray, List.set_cons_zero, List.set_cons_succ]) | (refine sWP ?_; clear HX; intro w av nv cv HX; simp only [Act.put, List.setIfInBounds_toArray, List.set_cons_zero, List.set_cons_succ]))
    go_ret
    exact ⟨rfl, HX.out.drop⟩
  have q4 : decide (16 < l.length) = false := decide_eq_false h2
  have q5 : decide (16 < (l.length : Int)) = false := decide_eq_false (by omega)
  have HMM := Lib.hid (show (if firstE l ≠ 0 then firstE l else if 1 < l.length ∧ (l.any fun o => readsS o.kind) = true then 1 else 0) = m by rw [← HM.out]; unfold mayS; rw [if_neg h1, if_neg h2])
  have hl1 : 1 ≤ l.length ∧ l.length ≤ 16 := by omega
  clear HM
  go_enter Tryz.func43, Tryz.ntmps43
  go_wp2_with (first | (refine sWL ?_; simp only [Act.put, List.setIfInBounds_toArray, List.set_cons_zero, List.set_cons_succ, List.drop_zero, List.drop_succ_cons, List.take_succ_cons, List.take_zero, List.toList_toArray, NodeS.cells, OpS.cells, ResS.cells]) | (refine sWM ?_; simp only [Act.put, List.setIfInBounds_toArray, List.set_cons_zero, List.set_cons_succ]) | (refine sWS ?_; clear HX; intro w HX; simp only [Act.put, List.setIfInBounds_toArray, List.set_cons_zero, List.set_cons_succ, setMany, Nat.reduceAdd, NodeS.cells, OpS.cells, ResS.cells] at HX ⊢) | (refine sWT ?_; clear HX; intro w HX; simp only [Act.put, List.setIfInBounds_toArray, List.set_cons_zero, List.set_cons_succ, NodeS.cells, OpS.cells, ResS.cells] at HX ⊢) | (refine sWA ?_; clear HX; (first | (have hq := b9; clear hq; intro w b10 HX) | (have hq := b8; clear hq; intro w b9 HX) | (have hq := b7; clear hq; intro w b8 HX) | (have hq := b6; clear hq; intro w b7 HX) | (have hq := b5; clear hq; intro w b6 HX) | (have hq := b4; clear hq; intro w b5 HX) | (have hq := b3; clear hq; intro w b4 HX) | (have hq := b2; clear hq; intro w b3 HX) | (have hq := b; clear hq; intro w b2 HX) | intro w b HX); simp only [Act.put, List.setIfInBounds_toArray, List.set_cons_zero, List.set_cons_succ]) | (refine sWN ?_; clear HX; intro w mm HX; simp only [Act.put, List.setIfInBounds_toArray, List.set_cons_zero, List.set_cons_succ]) | (refine sWP ?_; clear HX; intro w av nv cv HX; simp only [Act.put, List.setIfInBounds_toArray, List.set_cons_zero, List.set_cons_succ]))
  clear q1 q2 q3 q4 q5 h1 h2
  have HST := HX
  go_loopg [29] l.length (fun k v wr => ∃ i : Nat, i + k = l.length ∧ v = .int .i64 (i : Int) ∧ (∀ o ∈ l.take i, goodE o = 0) ∧ Sep w0 wr (ThCell b (.cells #[.int .i64 sess, .int .i64 num, .slice a l.length c] 65 (0, 0)) :: ThPool w0 P :: R) rows)
  case atStart => exact ⟨0, by simp, rfl, by simp, HX.out⟩
  case round =>
    rename World => w
    obtain ⟨i, hik, rfl, hok, hS⟩ := hrel
    clear HX HST
    have HX := Lib.hid hS
    have HOK := Lib.hid hok
    clear hS hok
    by_cases hlt : i < l.length
    case neg =>
      obtain rfl : i = l.length := by omega
      clear hlt hik
      have hf : firstE l = 0 := firstE_take (by have := HOK.out; rwa [List.take_length] at this)
      have hmm := HMM.out
      rw [if_neg (fun hh => hh hf)] at hmm
      by_cases h3 : 1 < l.length
      · have q1 : decide (1 < l.length) = true := decide_eq_true h3
        have q2 : decide (1 < (l.length : Int)) = true := decide_eq_true (by omega)
        have HMM2 := Lib.hid hmm
        clear hmm hf HMM
        go_wp2_with (first | (refine sWL ?_; simp only [Act.put, List.setIfInBounds_toArray, List.set_cons_zero, List.set_cons_succ, List.drop_zero, List.drop_succ_cons, List.take_succ_cons, List.take_zero, List.toList_toArray, NodeS.cells, OpS.cells, ResS.cells]) | (refine sWM ?_; simp only [Act.put, List.setIfInBounds_toArray, List.set_cons_zero, List.set_cons_succ]) | (refine sWS ?_; clear HX; intro w HX; simp only [Act.put, List.setIfInBounds_toArray, List.set_cons_zero, List.set_cons_succ, setMany, Nat.reduceAdd, NodeS.cells, OpS.cells, ResS.cells] at HX ⊢) | (refine sWT ?_; clear HX; intro w HX; simp only [Act.put, List.setIfInBounds_toArray, List.set_cons_zero, List.set_cons_succ, NodeS.cells, OpS.cells, ResS.cells] at HX ⊢) | (refine sWA ?_; clear HX; (first | (have hq := b9; clear hq; intro w b10 HX) | (have hq := b8; clear hq; intro w b9 HX) | (have hq := b7; clear hq; intro w b8 HX) | (have hq := b6; clear hq; intro w b7 HX) | (have hq := b5; clear hq; intro w b6 HX) | (have hq := b4; clear hq; intro w b5 HX) | (have hq := b3; clear hq; intro w b4 HX) | (have hq := b2; clear hq; intro w b3 HX) | (have hq := b; clear hq; intro w b2 HX) | intro w b HX); simp only [Act.put, List.setIfInBounds_toArray, List.set_cons_zero, List.set_cons_succ]) | (refine sWN ?_; clear HX; intro w mm HX; simp only [Act.put, List.setIfInBounds_toArray, List.set_cons_zero, List.set_cons_succ]) | (refine sWP ?_; clear HX; intro w av nv cv HX; simp only [Act.put, List.setIfInBounds_toArray, List.set_cons_zero, List.set_cons_succ]))
        refine (contop_any HX.out.up1 l _ HV.out (by omega)).mono ?_
        obtain ⟨bb, hbb⟩ : ∃ bb, (l.any fun o => readsS o.kind) = bb := ⟨_, rfl⟩
        rw [hbb] at HMM2 ⊢
        rintro e w ⟨rfl, hx⟩
        clear HX
        have HX := Lib.hid hx
        clear hx
        cases bb with
        | true =>
          obtain rfl : m = 1 := by rw [← HMM2.out, if_pos ⟨h3, rfl⟩]
          go_wp2_with (first | (refine sWL ?_; simp only [Act.put, List.setIfInBounds_toArray, List.set_cons_zero, List.set_cons_succ, List.drop_zero, List.drop_succ_cons, List.take_succ_cons, List.take_zero, List.toList_toArray, NodeS.cells, OpS.cells, ResS.cells]) | (refine sWM ?_; simp only [Act.put, List.setIfInBounds_toArray, List.set_cons_zero, List.set_cons_succ]) | (refine sWS ?_; clear HX; intro w HX; simp only [Act.put, List.setIfInBounds_toArray, List.set_cons_zero, List.set_cons_succ, setMany, Nat.reduceAdd, NodeS.cells, OpS.cells, ResS.cells] at HX ⊢) | (refine sWT ?_; clear HX; intro w HX; simp only [Act.put, List.setIfInBounds_toArray, List.set_cons_zero, List.set_cons_succ, NodeS.cells, OpS.cells, ResS.cells] at HX ⊢) | (refine sWA ?_; clear HX; (first | (have hq := b9; clear hq; intro w b10 HX) | (have hq := b8; clear hq; intro w b9 HX) | (have hq := b7; clear hq; intro w b8 HX) | (have hq := b6; clear hq; intro w b7 HX) | (have hq := b5; clear hq; intro w b6 HX) | (have hq := b4; clear hq; intro w b5 HX) | (have hq := b3; clear hq; intro w b4 HX) | (have hq := b2; clear hq; intro w b3 HX) | (have hq := b; clear hq; intro w b2 HX) | intro w b HX); simp only [Act.put, List.setIfInBounds_toArray, List.set_cons_zero, List.set_cons_succ]) | (refine sWN ?_; clear HX; intro w mm HX; simp only [Act.put, List.setIfInBounds_toArray, List.set_cons_zero, List.set_cons_succ]) | (refine sWP ?_; clear HX; intro w av nv cv HX; simp only [Act.put, List.setIfInBounds_toArray, List.set_cons_zero, List.set_cons_succ]))
          go_ret
          exact ⟨rfl, HX.out.cut1⟩
        | false =>
          obtain rfl : m = 0 := by rw [← HMM2.out, if_neg (fun hh => by cases hh.2)]
          go_wp2_with (first | (refine sWL ?_; simp only [Act.put, List.setIfInBounds_toArray, List.set_cons_zero, List.set_cons_succ, List.drop_zero, List.drop_succ_cons, List.take_succ_cons, List.take_zero, List.toList_toArray, NodeS.cells, OpS.cells, ResS.cells]) | (refine sWM ?_; simp only [Act.put, List.setIfInBounds_toArray, List.set_cons_zero, List.set_cons_succ]) | (refine sWS ?_; clear HX; intro w HX; simp only [Act.put, List.setIfInBounds_toArray, List.set_cons_zero, List.set_cons_succ, setMany, Nat.reduceAdd, NodeS.cells, OpS.cells, ResS.cells] at HX ⊢) | (refine sWT ?_; clear HX; intro w HX; simp only [Act.put, List.setIfInBounds_toArray, List.set_cons_zero, List.set_cons_succ, NodeS.cells, OpS.cells, ResS.cells] at HX ⊢) | (refine sWA ?_; clear HX; (first | (have hq := b9; clear hq; intro w b10 HX) | (have hq := b8; clear hq; intro w b9 HX) | (have hq := b7; clear hq; intro w b8 HX) | (have hq := b6; clear hq; intro w b7 HX) | (have hq := b5; clear hq; intro w b6 HX) | (have hq := b4; clear hq; intro w b5 HX) | (have hq := b3; clear hq; intro w b4 HX) | (have hq := b2; clear hq; intro w b3 HX) | (have hq := b; clear hq; intro w b2 HX) | intro w b HX); simp only [Act.put, List.setIfInBounds_toArray, List.set_cons_zero, List.set_cons_succ]) | (refine sWN ?_; clear HX; intro w mm HX; simp only [Act.put, List.setIfInBounds_toArray, List.set_cons_zero, List.set_cons_succ]) | (refine sWP ?_; clear HX; intro w av nv cv HX; simp only [Act.put, List.setIfInBounds_toArray, List.set_cons_zero, List.set_cons_succ]))
          go_ret
          exact ⟨rfl, HX.out.cut1⟩
      · have q1 : decide (1 < l.length) = false := decide_eq_false h3
        have q2 : decide (1 < (l.length : Int)) = false := decide_eq_false (by omega)
        obtain rfl : m = 0 := by rw [← hmm, if_neg (fun hh => h3 hh.1)]
        go_wp2_with (first | (refine sWL ?_; simp only [Act.put, List.setIfInBounds_toArray, List.set_cons_zero, List.set_cons_succ, List.drop_zero, List.drop_succ_cons, List.take_succ_cons, List.take_zero, List.toList_toArray, NodeS.cells, OpS.cells, ResS.cells]) | (refine sWM ?_; simp only [Act.put, List.setIfInBounds_toArray, List.set_cons_zero, List.set_cons_succ]) | (refine sWS ?_; clear HX; intro w HX; simp only [Act.put, List.setIfInBounds_toArray, List.set_cons_zero, List.set_cons_succ, setMany, Nat.reduceAdd, NodeS.cells, OpS.cells, ResS.cells] at HX ⊢) | (refine sWT ?_; clear HX; intro w HX; simp only [Act.put, List.setIfInBounds_toArray, List.set_cons_zero, List.set_cons_succ, NodeS.cells, OpS.cells, ResS.cells] at HX ⊢) | (refine sWA ?_; clear HX; (first | (have hq := b9; clear hq; intro w b10 HX) | (have hq := b8; clear hq; intro w b9 HX) | (have hq := b7; clear hq; intro w b8 HX) | (have hq := b6; clear hq; intro w b7 HX) | (have hq := b5; clear hq; intro w b6 HX) | (have hq := b4; clear hq; intro w b5 HX) | (have hq := b3; clear hq; intro w b4 HX) | (have hq := b2; clear hq; intro w b3 HX) | (have hq := b; clear hq; intro w b2 HX) | intro w b HX); simp only [Act.put, List.setIfInBounds_toArray, List.set_cons_zero, List.set_cons_succ]) | (refine sWN ?_; clear HX; intro w mm HX; simp only [Act.put, List.setIfInBounds_toArray, List.set_cons_zero, List.set_cons_succ]) | (refine sWP ?_; clear HX; intro w av nv cv HX; simp only [Act.put, List.setIfInBounds_toArray, List.set_cons_zero, List.set_cons_succ]))
        go_ret
        exact ⟨rfl, HX.out.drop⟩
    case pos =>
      obtain ⟨g, off, rfl⟩ := HNE.out (by intro e; have := congrArg List.length e; rw [flatG_len opcells_len] at this; simp at this; omega)
      obtain ⟨E, hE⟩ := HX.out.up1.poolGet HV.out
      have hl := row_load (P := Tryz.prog) (f := OpS.cells) (i := i) hE opcells_len sn_op hlt
      have HTK := Lib.hid (show l.take (i + 1) = l.take i ++ [l[i]] from List.take_succ_eq_append_getElem hlt)
      have HPO := Lib.hid (HPS.out l[i] (List.getElem_mem hlt))
      have HFE := Lib.hid (fun hb => firstE_at hlt HOK.out hb)
      obtain ⟨o, ho⟩ : ∃ o, l[i] = o := ⟨_, rfl⟩
      rw [ho] at hl HTK HPO HFE
      have q0 : decide (i < l.length) = true := decide_eq_true hlt
      obtain ⟨kind, path, data, ver, flags⟩ := o
      simp only [OpS.cells] at hl
      clear hE ho
      go_wp2_with (first | (refine sWL ?_; simp only [Act.put, List.setIfInBounds_toArray, List.set_cons_zero, List.set_cons_succ, List.drop_zero, List.drop_succ_cons, List.take_succ_cons, List.take_zero, List.toList_toArray, NodeS.cells, OpS.cells, ResS.cells]) | (refine sWM ?_; simp only [Act.put, List.setIfInBounds_toArray, List.set_cons_zero, List.set_cons_succ]) | (refine sWS ?_; clear HX; intro w HX; simp only [Act.put, List.setIfInBounds_toArray, List.set_cons_zero, List.set_cons_succ, setMany, Nat.reduceAdd, NodeS.cells, OpS.cells, ResS.cells] at HX ⊢) | (refine sWT ?_; clear HX; intro w HX; simp only [Act.put, List.setIfInBounds_toArray, List.set_cons_zero, List.set_cons_succ, NodeS.cells, OpS.cells, ResS.cells] at HX ⊢) | (refine sWA ?_; clear HX; (first | (have hq := b9; clear hq; intro w b10 HX) | (have hq := b8; clear hq; intro w b9 HX) | (have hq := b7; clear hq; intro w b8 HX) | (have hq := b6; clear hq; intro w b7 HX) | (have hq := b5; clear hq; intro w b6 HX) | (have hq := b4; clear hq; intro w b5 HX) | (have hq := b3; clear hq; intro w b4 HX) | (have hq := b2; clear hq; intro w b3 HX) | (have hq := b; clear hq; intro w b2 HX) | intro w b HX); simp only [Act.put, List.setIfInBounds_toArray, List.set_cons_zero, List.set_cons_succ]) | (refine sWN ?_; clear HX; intro w mm HX; simp only [Act.put, List.setIfInBounds_toArray, List.set_cons_zero, List.set_cons_succ]) | (refine sWP ?_; clear HX; intro w av nv cv HX; simp only [Act.put, List.setIfInBounds_toArray, List.set_cons_zero, List.set_cons_succ]) | ((with_reducible apply sx_loadAt hl); (· rfl); (· rfl); simp only [Act.put, List.setIfInBounds_toArray, List.set_cons_zero, List.set_cons_succ]))
      obtain ⟨ge, hge⟩ : ∃ ge, goodE ⟨kind, path, data, ver, flags⟩ = ge := ⟨_, rfl⟩
      have hgo := opgood_any ⟨kind, path, data, ver, flags⟩ _ (hd.sep HX.out) HPO.out
      rw [hge] at hgo HFE
      refine hgo.mono ?_
      rintro e w1 ⟨rfl, hu⟩
      replace HX := Lib.hid (HX.out.keep hu)
      have HGE := Lib.hid hge
      clear hu hgo hl hge
      by_cases h0 : ge = 0
      · have q1 : (ge != 0) = false := by rw [h0]; rfl
        go_wp2_with (first | (refine sWL ?_; simp only [Act.put, List.setIfInBounds_toArray, List.set_cons_zero, List.set_cons_succ, List.drop_zero, List.drop_succ_cons, List.take_succ_cons, List.take_zero, List.toList_toArray, NodeS.cells, OpS.cells, ResS.cells]) | (refine sWM ?_; simp only [Act.put, List.setIfInBounds_toArray, List.set_cons_zero, List.set_cons_succ]) | (refine sWS ?_; clear HX; intro w HX; simp only [Act.put, List.setIfInBounds_toArray, List.set_cons_zero, List.set_cons_succ, setMany, Nat.reduceAdd, NodeS.cells, OpS.cells, ResS.cells] at HX ⊢) | (refine sWT ?_; clear HX; intro w HX; simp only [Act.put, List.setIfInBounds_toArray, List.set_cons_zero, List.set_cons_succ, NodeS.cells, OpS.cells, ResS.cells] at HX ⊢) | (refine sWA ?_; clear HX; (first | (have hq := b9; clear hq; intro w b10 HX) | (have hq := b8; clear hq; intro w b9 HX) | (have hq := b7; clear hq; intro w b8 HX) | (have hq := b6; clear hq; intro w b7 HX) | (have hq := b5; clear hq; intro w b6 HX) | (have hq := b4; clear hq; intro w b5 HX) | (have hq := b3; clear hq; intro w b4 HX) | (have hq := b2; clear hq; intro w b3 HX) | (have hq := b; clear hq; intro w b2 HX) | intro w b HX); simp only [Act.put, List.setIfInBounds_toArray, List.set_cons_zero, List.set_cons_succ]) | (refine sWN ?_; clear HX; intro w mm HX; simp only [Act.put, List.setIfInBounds_toArray, List.set_cons_zero, List.set_cons_succ]) | (refine sWP ?_; clear HX; intro w av nv cv HX; simp only [Act.put, List.setIfInBounds_toArray, List.set_cons_zero, List.set_cons_succ]))
        go_roundg (l.length - (i + 1))
        case rel => exact ⟨i + 1, by omega, by go_num, by
          rw [HTK.out]
          intro q hq
          rcases List.mem_append.1 hq with hq | hq
          · exact HOK.out q hq
          · rw [List.mem_singleton] at hq; rw [hq, HGE.out, h0], HX.out.drop⟩
        case measure => omega
      · have q1 : (ge != 0) = true := by rw [bne_iff_ne]; exact h0
        obtain rfl : m = ge := by
          have := HMM.out
          rw [HFE.out h0, if_pos h0] at this
          exact this.symm
        go_wp2_with (first | (refine sWL ?_; simp only [Act.put, List.setIfInBounds_toArray, List.set_cons_zero, List.set_cons_succ, List.drop_zero, List.drop_succ_cons, List.take_succ_cons, List.take_zero, List.toList_toArray, NodeS.cells, OpS.cells, ResS.cells]) | (refine sWM ?_; simp only [Act.put, List.setIfInBounds_toArray, List.set_cons_zero, List.set_cons_succ]) | (refine sWS ?_; clear HX; intro w HX; simp only [Act.put, List.setIfInBounds_toArray, List.set_cons_zero, List.set_cons_succ, setMany, Nat.reduceAdd, NodeS.cells, OpS.cells, ResS.cells] at HX ⊢) | (refine sWT ?_; clear HX; intro w HX; simp only [Act.put, List.setIfInBounds_toArray, List.set_cons_zero, List.set_cons_succ, NodeS.cells, OpS.cells, ResS.cells] at HX ⊢) | (refine sWA ?_; clear HX; (first | (have hq := b9; clear hq; intro w b10 HX) | (have hq := b8; clear hq; intro w b9 HX) | (have hq := b7; clear hq; intro w b8 HX) | (have hq := b6; clear hq; intro w b7 HX) | (have hq := b5; clear hq; intro w b6 HX) | (have hq := b4; clear hq; intro w b5 HX) | (have hq := b3; clear hq; intro w b4 HX) | (have hq := b2; clear hq; intro w b3 HX) | (have hq := b; clear hq; intro w b2 HX) | intro w b HX); simp only [Act.put, List.setIfInBounds_toArray, List.set_cons_zero, List.set_cons_succ]) | (refine sWN ?_; clear HX; intro w mm HX; simp only [Act.put, List.setIfInBounds_toArray, List.set_cons_zero, List.set_cons_succ]) | (refine sWP ?_; clear HX; intro w av nv cv HX; simp only [Act.put, List.setIfInBounds_toArray, List.set_cons_zero, List.set_cons_succ]))
        go_ret
        exact ⟨rfl, HX.out.drop.drop⟩
/-- What a request leaves. -/
def ReqPost (w0 : World) (t : Nat) (P : List PRow) (R : List Thing) (rows : List (Value × Bs)) (m : ReplyS × TreeS) (e : Ending) (w' : World) : Prop :=
  ∃ v P', e = .returned v ∧ (∀ q ∈ P, q ∈ P') ∧ ReplyIn P' m.1 v ∧ Sep w0 w' (ThPool w0 P' :: ThTree t m.2 P' :: R) rows
set_option maxRecDepth 100000 in
set_option maxHeartbeats 4000000 in
theorem request_any {K : Nat} (h : Sep w0 w (ThPool w0 P :: ThTree t S P :: R) rows) (hd : DoorN w0) (hB : TreeB K S) (hK : K + 16 ≤ 100000) (sess num zxid : Int) (ops : List OpS) (v : Value) (hv : (5, v, ops.flatMap OpS.cells) ∈ P) (hp : ∀ o ∈ ops, o.path.size ≤ 100000) :
    Calls Tryz.prog 24 #[.pointer (some ⟨t, 0, none⟩), .agg #[.int .i64 sess, .int .i64 num, v], .int .i64 zxid] w (ReqPost w0 t P R rows (requestT S sess num zxid ops)) := by
  obtain ⟨E, hE⟩ := h.poolGet hv
  obtain ⟨a, n, c, rfl, -⟩ := ReadRow.some hE
  have HV := Lib.hid hv
  have HX := Lib.hid h
  have HPS := Lib.hid hp
  have HB := Lib.hid (show _ ∧ _ from ⟨hB, hK⟩)
  obtain ⟨rr, hrr⟩ : ∃ rr, requestT S sess num zxid ops = rr := ⟨_, rfl⟩
  rw [hrr]
  have HRR := Lib.hid hrr
  clear h hE hv hp hB hK hrr
  obtain ⟨me, hme⟩ : ∃ me, mayS sess num ops = me := ⟨_, rfl⟩
  have HME := Lib.hid hme
  clear hme
  go_enter Tryz.func24, Tryz.ntmps24
  go_wp2_with (first | (refine sWL ?_; simp only [Act.put, List.setIfInBounds_toArray, List.set_cons_zero, List.set_cons_succ, List.drop_zero, List.drop_succ_cons, List.take_succ_cons, List.take_zero, List.toList_toArray, NodeS.cells, OpS.cells, ResS.cells]) | (refine sWM ?_; simp only [Act.put, List.setIfInBounds_toArray, List.set_cons_zero, List.set_cons_succ]) | (refine sWS ?_; clear HX; intro w HX; simp only [Act.put, List.setIfInBounds_toArray, List.set_cons_zero, List.set_cons_succ, setMany, Nat.reduceAdd, NodeS.cells, OpS.cells, ResS.cells] at HX ⊢) | (refine sWT ?_; clear HX; intro w HX; simp only [Act.put, List.setIfInBounds_toArray, List.set_cons_zero, List.set_cons_succ, NodeS.cells, OpS.cells, ResS.cells] at HX ⊢) | (refine sWA ?_; clear HX; (first | (have hq := b9; clear hq; intro w b10 HX) | (have hq := b8; clear hq; intro w b9 HX) | (have hq := b7; clear hq; intro w b8 HX) | (have hq := b6; clear hq; intro w b7 HX) | (have hq := b5; clear hq; intro w b6 HX) | (have hq := b4; clear hq; intro w b5 HX) | (have hq := b3; clear hq; intro w b4 HX) | (have hq := b2; clear hq; intro w b3 HX) | (have hq := b; clear hq; intro w b2 HX) | intro w b HX); simp only [Act.put, List.setIfInBounds_toArray, List.set_cons_zero, List.set_cons_succ]) | (refine sWN ?_; clear HX; intro w mm HX; simp only [Act.put, List.setIfInBounds_toArray, List.set_cons_zero, List.set_cons_succ]) | (refine sWP ?_; clear HX; intro w av nv cv HX; simp only [Act.put, List.setIfInBounds_toArray, List.set_cons_zero, List.set_cons_succ]))
  refine (may_any HX.out.up2 hd sess num ops _ HV.out HPS.out).mono ?_
  rw [HME.out]
  rintro e w ⟨rfl, hx⟩
  clear HX
  have HX := Lib.hid hx
  clear hx
  by_cases h0 : me = 0
  · have q1 : (me != 0) = false := by rw [h0]; rfl
    have HE := Lib.hid (show rr = (⟨num, zxid, (manyT S sess zxid ops).1.err, (manyT S sess zxid ops).1.at_, (manyT S sess zxid ops).1.rs⟩, (manyT S sess zxid ops).2.1) by rw [← HRR.out]; unfold requestT; rw [if_neg (fun hh => hh (HME.out.trans h0))])
    clear h0
    go_wp2_with (first | (refine sWL ?_; simp only [Act.put, List.setIfInBounds_toArray, List.set_cons_zero, List.set_cons_succ, List.drop_zero, List.drop_succ_cons, List.take_succ_cons, List.take_zero, List.toList_toArray, NodeS.cells, OpS.cells, ResS.cells]) | (refine sWM ?_; simp only [Act.put, List.setIfInBounds_toArray, List.set_cons_zero, List.set_cons_succ]) | (refine sWS ?_; clear HX; intro w HX; simp only [Act.put, List.setIfInBounds_toArray, List.set_cons_zero, List.set_cons_succ, setMany, Nat.reduceAdd, NodeS.cells, OpS.cells, ResS.cells] at HX ⊢) | (refine sWT ?_; clear HX; intro w HX; simp only [Act.put, List.setIfInBounds_toArray, List.set_cons_zero, List.set_cons_succ, NodeS.cells, OpS.cells, ResS.cells] at HX ⊢) | (refine sWA ?_; clear HX; (first | (have hq := b9; clear hq; intro w b10 HX) | (have hq := b8; clear hq; intro w b9 HX) | (have hq := b7; clear hq; intro w b8 HX) | (have hq := b6; clear hq; intro w b7 HX) | (have hq := b5; clear hq; intro w b6 HX) | (have hq := b4; clear hq; intro w b5 HX) | (have hq := b3; clear hq; intro w b4 HX) | (have hq := b2; clear hq; intro w b3 HX) | (have hq := b; clear hq; intro w b2 HX) | intro w b HX); simp only [Act.put, List.setIfInBounds_toArray, List.set_cons_zero, List.set_cons_succ]) | (refine sWN ?_; clear HX; intro w mm HX; simp only [Act.put, List.setIfInBounds_toArray, List.set_cons_zero, List.set_cons_succ]) | (refine sWP ?_; clear HX; intro w av nv cv HX; simp only [Act.put, List.setIfInBounds_toArray, List.set_cons_zero, List.set_cons_succ]))
    refine (mdo_any HX.out.up3.up1 hd HB.out.1 HB.out.2 sess zxid ops _ HV.out HPS.out).mono ?_
    obtain ⟨⟨⟨n1, z1, e1, a1, rs1⟩, S1, ok1⟩, hm1⟩ : ∃ m1, manyT S sess zxid ops = m1 := ⟨_, rfl⟩
    rw [hm1] at HE ⊢
    rintro e w ⟨v, P', rfl, hP', ⟨a9, n9, c9, xs9, rfl, hrl9, hmem9⟩, hx⟩
    clear HX hm1
    have HX := Lib.hid hx
    have HPN := Lib.hid (show _ ∧ _ ∧ _ from ⟨hP', hrl9, hmem9⟩)
    clear hx hP' hrl9 hmem9
    dsimp only at HX HE HPN ⊢
    go_wp2_with (first | (refine sWL ?_; simp only [Act.put, List.setIfInBounds_toArray, List.set_cons_zero, List.set_cons_succ, List.drop_zero, List.drop_succ_cons, List.take_succ_cons, List.take_zero, List.toList_toArray, NodeS.cells, OpS.cells, ResS.cells]) | (refine sWM ?_; simp only [Act.put, List.setIfInBounds_toArray, List.set_cons_zero, List.set_cons_succ]) | (refine sWS ?_; clear HX; intro w HX; simp only [Act.put, List.setIfInBounds_toArray, List.set_cons_zero, List.set_cons_succ, setMany, Nat.reduceAdd, NodeS.cells, OpS.cells, ResS.cells] at HX ⊢) | (refine sWT ?_; clear HX; intro w HX; simp only [Act.put, List.setIfInBounds_toArray, List.set_cons_zero, List.set_cons_succ, NodeS.cells, OpS.cells, ResS.cells] at HX ⊢) | (refine sWA ?_; clear HX; (first | (have hq := b9; clear hq; intro w b10 HX) | (have hq := b8; clear hq; intro w b9 HX) | (have hq := b7; clear hq; intro w b8 HX) | (have hq := b6; clear hq; intro w b7 HX) | (have hq := b5; clear hq; intro w b6 HX) | (have hq := b4; clear hq; intro w b5 HX) | (have hq := b3; clear hq; intro w b4 HX) | (have hq := b2; clear hq; intro w b3 HX) | (have hq := b; clear hq; intro w b2 HX) | intro w b HX); simp only [Act.put, List.setIfInBounds_toArray, List.set_cons_zero, List.set_cons_succ]) | (refine sWN ?_; clear HX; intro w mm HX; simp only [Act.put, List.setIfInBounds_toArray, List.set_cons_zero, List.set_cons_succ]) | (refine sWP ?_; clear HX; intro w av nv cv HX; simp only [Act.put, List.setIfInBounds_toArray, List.set_cons_zero, List.set_cons_succ]))
    refine sx_ret HX rfl rfl (by (repeat (first | (with_reducible exact List.mem_cons_self ..) | (with_reducible apply List.mem_cons_of_mem)))) (by kernel_rfl) ?_
    rw [HE.out]
    exact ⟨_, P', rfl, HPN.out.1, ⟨a9, n9, c9, xs9, rfl, HPN.out.2.1, HPN.out.2.2⟩, HX.out.pm 5 [1, 2] rfl rfl⟩
  · have q1 : (me != 0) = true := by rw [bne_iff_ne]; exact h0
    have HE := Lib.hid (show rr = (failR num me (-1) 0, S) by rw [← HRR.out]; unfold requestT; rw [HME.out, if_pos h0])
    clear h0
    go_wp2_with (first | (refine sWL ?_; simp only [Act.put, List.setIfInBounds_toArray, List.set_cons_zero, List.set_cons_succ, List.drop_zero, List.drop_succ_cons, List.take_succ_cons, List.take_zero, List.toList_toArray, NodeS.cells, OpS.cells, ResS.cells]) | (refine sWM ?_; simp only [Act.put, List.setIfInBounds_toArray, List.set_cons_zero, List.set_cons_succ]) | (refine sWS ?_; clear HX; intro w HX; simp only [Act.put, List.setIfInBounds_toArray, List.set_cons_zero, List.set_cons_succ, setMany, Nat.reduceAdd, NodeS.cells, OpS.cells, ResS.cells] at HX ⊢) | (refine sWT ?_; clear HX; intro w HX; simp only [Act.put, List.setIfInBounds_toArray, List.set_cons_zero, List.set_cons_succ, NodeS.cells, OpS.cells, ResS.cells] at HX ⊢) | (refine sWA ?_; clear HX; (first | (have hq := b9; clear hq; intro w b10 HX) | (have hq := b8; clear hq; intro w b9 HX) | (have hq := b7; clear hq; intro w b8 HX) | (have hq := b6; clear hq; intro w b7 HX) | (have hq := b5; clear hq; intro w b6 HX) | (have hq := b4; clear hq; intro w b5 HX) | (have hq := b3; clear hq; intro w b4 HX) | (have hq := b2; clear hq; intro w b3 HX) | (have hq := b; clear hq; intro w b2 HX) | intro w b HX); simp only [Act.put, List.setIfInBounds_toArray, List.set_cons_zero, List.set_cons_succ]) | (refine sWN ?_; clear HX; intro w mm HX; simp only [Act.put, List.setIfInBounds_toArray, List.set_cons_zero, List.set_cons_succ]) | (refine sWP ?_; clear HX; intro w av nv cv HX; simp only [Act.put, List.setIfInBounds_toArray, List.set_cons_zero, List.set_cons_succ]))
    refine (rfail_any HX.out _ _ _ _).mono ?_
    rintro e w ⟨v, P', rfl, hP', ⟨a', n', c', xs', rfl, hrl, hmem⟩, hx⟩
    clear HX
    have HX := Lib.hid hx
    have HPN := Lib.hid (show _ ∧ _ ∧ _ from ⟨hP', hrl, hmem⟩)
    clear hx hP' hrl hmem
    dsimp only at HX ⊢
    go_wp2_with (first | (refine sWL ?_; simp only [Act.put, List.setIfInBounds_toArray, List.set_cons_zero, List.set_cons_succ, List.drop_zero, List.drop_succ_cons, List.take_succ_cons, List.take_zero, List.toList_toArray, NodeS.cells, OpS.cells, ResS.cells]) | (refine sWM ?_; simp only [Act.put, List.setIfInBounds_toArray, List.set_cons_zero, List.set_cons_succ]) | (refine sWS ?_; clear HX; intro w HX; simp only [Act.put, List.setIfInBounds_toArray, List.set_cons_zero, List.set_cons_succ, setMany, Nat.reduceAdd, NodeS.cells, OpS.cells, ResS.cells] at HX ⊢) | (refine sWT ?_; clear HX; intro w HX; simp only [Act.put, List.setIfInBounds_toArray, List.set_cons_zero, List.set_cons_succ, NodeS.cells, OpS.cells, ResS.cells] at HX ⊢) | (refine sWA ?_; clear HX; (first | (have hq := b9; clear hq; intro w b10 HX) | (have hq := b8; clear hq; intro w b9 HX) | (have hq := b7; clear hq; intro w b8 HX) | (have hq := b6; clear hq; intro w b7 HX) | (have hq := b5; clear hq; intro w b6 HX) | (have hq := b4; clear hq; intro w b5 HX) | (have hq := b3; clear hq; intro w b4 HX) | (have hq := b2; clear hq; intro w b3 HX) | (have hq := b; clear hq; intro w b2 HX) | intro w b HX); simp only [Act.put, List.setIfInBounds_toArray, List.set_cons_zero, List.set_cons_succ]) | (refine sWN ?_; clear HX; intro w mm HX; simp only [Act.put, List.setIfInBounds_toArray, List.set_cons_zero, List.set_cons_succ]) | (refine sWP ?_; clear HX; intro w av nv cv HX; simp only [Act.put, List.setIfInBounds_toArray, List.set_cons_zero, List.set_cons_succ]))
    refine sx_ret HX rfl rfl (by (repeat (first | (with_reducible exact List.mem_cons_self ..) | (with_reducible apply List.mem_cons_of_mem)))) (by kernel_rfl) ?_
    rw [HE.out]
    exact ⟨_, P', rfl, HPN.out.1, ⟨a', n', c', xs', rfl, HPN.out.2.1, HPN.out.2.2⟩, (tree_mono HX.out.up3 HPN.out.1).pm 4 [1, 0] rfl rfl⟩
end
end Go.Proofs.YtjeaoopamebgjaaGreatDoor

/-
  Maps' keys, as the library's contracts take them.
-/
namespace Go.Av
open Go.RowKit Go.Maps Go.Sort

def noRead : Value → Option (DataW Unit × List MemPlace) := fun _ => some (.nil, [])
theorem rg_str {P : Program} {k : TypeId} (hk : P.underlying k = some .string) (s : ByteArray) (hs : s.size ≤ maxLen) (e : MapEntry) (he : e.key = .string s) : WideElems.rd P k noRead e = some (.string s.data.toList, .nil) := by
  simp [WideElems.rd, he, keyOf, hk, mapKey, hs, noRead]

/-- A map of names, as the library's contracts take it. -/
theorem owns_names {P : Program} {w : World} {k : TypeId} {m : Nat} {l : List (ByteArray × Value)} (h : MapIs w .string m (l.map fun x => (.string x.1, x.2))) (hk : P.underlying k = some .string) (hn : l.length ≤ 1000000) (hs : ∀ x ∈ l, x.1.size ≤ maxLen) :
    ∃ D0 : DataW Unit, w.ownsMap P k noRead m l.length D0 ∧ size D0 = l.length ∧ (strKeys D0).Perm (l.map fun x => x.1.data.toList) := by
  obtain ⟨es, clock, h1, h2, h3, h4⟩ := h
  have hlen : es.size = l.length := by
    have := congrArg List.length h4
    simpa using this
  have hall : ∀ e ∈ es.toList, ∃ x ∈ l, e.key = .string x.1 := by
    intro e he
    have hm : kv e ∈ l.map fun x => (Value.string x.1, x.2) := by rw [← h4]; exact List.mem_map_of_mem he
    obtain ⟨x, hx, hxe⟩ := List.mem_map.1 hm
    exact ⟨x, hx, (congrArg Prod.fst hxe).symm⟩
  refine ⟨_, ⟨es, clock, h1, ⟨by rw [hlen]; unfold maxLen; omega, h2, fun e he => ?_⟩, by omega, rfl⟩, ?_, ?_⟩
  · obtain ⟨x, hx, hk'⟩ := hall e he
    exact ⟨_, rg_str hk x.1 (hs x hx) e hk'⟩
  · rw [size_eq, (WideShapes.sorted_perm _).length_eq]
    simpa using hlen
  · have e1 : (es.toList.map (WideElems.rg P k noRead)).map (fun p => strOf p.1) = l.map fun x => x.1.data.toList := by
      have e2 : es.toList.map (fun e => (kv e).1) = l.map fun x => Value.string x.1 := by
        have := congrArg (List.map Prod.fst) h4
        simpa [Function.comp_def] using this
      have e3 : es.toList.map (fun e => strOf (WideElems.rg P k noRead e).1) = (es.toList.map (fun e => (kv e).1)).map fun v => match v with | .string s => s.data.toList | _ => [] := by
        rw [List.map_map]
        refine List.map_congr_left fun e he => ?_
        obtain ⟨x, hx, hk'⟩ := hall e he
        have hke : (kv e).1 = .string x.1 := hk'
        simp [Function.comp, hke, WideElems.rg, rg_str hk x.1 (hs x hx) e hk', strOf]
      rw [List.map_map, Function.comp_def, e3, e2, List.map_map]
      rfl
    rw [← e1]
    exact (WideShapes.sorted_perm _).map _

theorem rg_int {P : Program} {k : TypeId} (hk : P.underlying k = some (.int .i64)) (x : Int) (hx : (Lit.int .i64 x).wf = true) (e : MapEntry) (he : e.key = .int .i64 x) : WideElems.rd P k noRead e = some (.int .i64 x, .nil) := by
  simp [WideElems.rd, he, keyOf, hk, mapKey, hx, noRead]
/-- A map of numbers, as the library's contracts take it. -/
theorem owns_ids {P : Program} {w : World} {k : TypeId} {m : Nat} {l : List (Int × Value)} (h : MapIs w (.int .i64) m (l.map fun x => (.int .i64 x.1, x.2))) (hk : P.underlying k = some (.int .i64)) (hn : l.length ≤ 1000000) (hs : ∀ x ∈ l, (Lit.int .i64 x.1).wf = true) :
    ∃ D0 : DataW Unit, w.ownsMap P k noRead m l.length D0 ∧ Maps.size D0 = l.length ∧ (intKeys D0).Perm (l.map fun x => x.1) := by
  obtain ⟨es, clock, h1, h2, h3, h4⟩ := h
  have hlen : es.size = l.length := by
    have := congrArg List.length h4
    simpa using this
  have hall : ∀ e ∈ es.toList, ∃ x ∈ l, e.key = .int .i64 x.1 := by
    intro e he
    have hm : kv e ∈ l.map fun x => (Value.int .i64 x.1, x.2) := by rw [← h4]; exact List.mem_map_of_mem he
    obtain ⟨x, hx, hxe⟩ := List.mem_map.1 hm
    exact ⟨x, hx, (congrArg Prod.fst hxe).symm⟩
  refine ⟨_, ⟨es, clock, h1, ⟨by rw [hlen]; unfold maxLen; omega, h2, fun e he => ?_⟩, by omega, rfl⟩, ?_, ?_⟩
  · obtain ⟨x, hx, hk'⟩ := hall e he
    exact ⟨_, rg_int hk x.1 (hs x hx) e hk'⟩
  · rw [size_eq, (WideShapes.sorted_perm _).length_eq]
    simpa using hlen
  · have e1 : (es.toList.map (WideElems.rg P k noRead)).map (fun p => Go.intOf p.1) = l.map fun x => x.1 := by
      have e2 : es.toList.map (fun e => (kv e).1) = l.map fun x => Value.int .i64 x.1 := by
        have := congrArg (List.map Prod.fst) h4
        simpa [Function.comp_def] using this
      have e3 : es.toList.map (fun e => Go.intOf (WideElems.rg P k noRead e).1) = (es.toList.map (fun e => (kv e).1)).map fun v => match v with | .int _ q => q | _ => 0 := by
        rw [List.map_map]
        refine List.map_congr_left fun e he => ?_
        obtain ⟨x, hx, hk'⟩ := hall e he
        have hke : (kv e).1 = .int .i64 x.1 := hk'
        simp [Function.comp, hke, WideElems.rg, rg_int hk x.1 (hs x hx) e hk', Go.intOf]
      rw [List.map_map, Function.comp_def, e3, e2, List.map_map]
      rfl
    rw [← e1]
    exact (WideShapes.sorted_perm _).map _
theorem own_of {w : World} {base : Nat} {e : TypeId} {v : Value} {n : Nat} {xs : List Value} (h : w.ownsRow base e 1 v n xs) : ∃ D, OwnRow w 1 v xs D ∧ ∀ b ∈ D, base ≤ b ∧ b < w.heap.size := by
  obtain ⟨hl, ⟨rfl, rfl⟩ | ⟨g, cap, cur, rfl, hg, hh, hn, hc, hs, hx⟩⟩ := h
  · obtain rfl : xs = [] := List.length_eq_zero_iff.1 (by omega)
    exact ⟨[], OwnRow.nil _ _, by simp⟩
  · exact ⟨[g], ⟨_, n, cap, rfl, hl, hn, hc, (fun h => by cases h), .inr ⟨g, 0, cur, e, rfl, rfl, hh, by omega, by simpa using hx⟩⟩, by simpa using ⟨hg, lt_of_heap hh⟩⟩

theorem read_own {w : World} {base : Nat} {e : TypeId} {v : Value} {n : Nat} {xs : List Value} (h : w.ownsRow base e 1 v n xs) : ∃ E, ReadRow w 1 v xs E ∧ ∀ b ∈ E, base ≤ b := by
  obtain ⟨hl, ⟨rfl, rfl⟩ | ⟨g, cap, cur, rfl, hg, hh, hn, hc, hs, hx⟩⟩ := h
  · obtain rfl : xs = [] := List.length_eq_zero_iff.1 (by omega)
    exact ⟨[], ⟨none, 0, 0, rfl, rfl, Nat.le_refl _, by decide, fun _ => rfl, .inl ⟨rfl, rfl⟩⟩, by simp⟩
  · refine ⟨[g], ⟨_, n, cap, rfl, hl, hn, hc, (fun h => by cases h), .inr ⟨g, 0, rfl, rfl, lt_of_heap hh, fun i x hi => ?_⟩⟩, by simpa using hg⟩
    rw [cell_of_row w g (0 + i) cur e _ hh, ← hx] at *
    rw [List.getElem?_take] at hi
    split at hi
    · simpa using hi
    · cases hi

theorem wf_i64 {n : Int} (h1 : -9223372036854775808 ≤ n) (h2 : n ≤ 9223372036854775807) : (Lit.int .i64 n).wf = true := by
  have e1 : IntKind.i64.min = -9223372036854775808 := by decide
  have e2 : IntKind.i64.max = 9223372036854775807 := by decide
  simp only [Lit.wf, Bool.and_eq_true, decide_eq_true_eq, e1, e2]
  omega

end Go.Av

/-
  The library's contracts on 'slices.Sorted(maps.Keys(m))' laid at this program, in plain words (written by the kit's tools).
-/
namespace Go.Proofs
open Go.Shelf
def Tryz.keys37_ren : Go.Shelf.Ren := ⟨fun | 7 => 37 | 10 => 62 | n => n, fun | 23 => 79 | 26 => 9 | 3 => 90 | 28 => 94 | 0 => 0 | 27 => 93 | 33 => 115 | 4 => 4 | n => n, fun | n => n⟩
theorem Tryz.keys37 : Go.Proofs.SlLaysZ.n7 Tryz.prog Tryz.keys37_ren := {
  mixed := by kernel_rfl
  f7 := ⟨Tryz.f37.name, by decide, Tryz.func37.trans (congrArg some (by kernel_rfl))⟩
  f10 := ⟨Tryz.f62.name, by decide, Tryz.func62.trans (congrArg some (by kernel_rfl))⟩
  t0 := Tryz.underlying0
  a0 := Tryz.isAgg0
  z0 := Tryz.sizeOf0
  v0 := Tryz.zeroValue0
  t4 := Tryz.underlying4
  a4 := Tryz.isAgg4
  z4 := Tryz.sizeOf4
  v4 := Tryz.zeroValue4
  t23 := Tryz.underlying79
  a23 := Tryz.isAgg79
  z23 := Tryz.sizeOf79
  v23 := Tryz.zeroValue79
  t26 := Tryz.underlying9
  a26 := Tryz.isAgg9
  z26 := Tryz.sizeOf9
  v26 := Tryz.zeroValue9
  t27 := Tryz.underlying93
  a27 := Tryz.isAgg93
  z27 := Tryz.sizeOf93
  v27 := Tryz.zeroValue93
  t28 := Tryz.underlying94
  a28 := Tryz.isAgg94
  z28 := Tryz.sizeOf94
  v28 := Tryz.zeroValue94
  t33 := Tryz.underlying115
  a33 := Tryz.isAgg115
  z33 := Tryz.sizeOf115
  v33 := Tryz.zeroValue115 }
def Tryz.sorted36_ren : Go.Shelf.Ren := ⟨fun | 6 => 36 | 8 => 60 | 9 => 61 | 11 => 90 | 13 => 92 | 12 => 91 | 23 => 124 | 24 => 125 | 14 => 115 | 15 => 116 | 16 => 117 | 17 => 118 | 18 => 119 | 19 => 120 | 20 => 121 | 21 => 122 | 22 => 123 | 25 => 139 | 26 => 140 | 27 => 141 | 28 => 142 | 29 => 143 | 30 => 144 | 31 => 159 | n => n, fun | 26 => 9 | 28 => 94 | 24 => 29 | 0 => 0 | 3 => 3 | 37 => 137 | 48 => 161 | 50 => 163 | 4 => 4 | 40 => 154 | 39 => 153 | 45 => 106 | 5 => 5 | 9 => 9 | 51 => 178 | 55 => 182 | 57 => 192 | 58 => 193 | 33 => 115 | n => n, fun | n => n⟩
theorem Tryz.sorted36 : Go.Proofs.SlLaysZ.n6 Tryz.prog Tryz.sorted36_ren := {
  mixed := by kernel_rfl
  f6 := ⟨Tryz.f36.name, by decide, Tryz.func36.trans (congrArg some (by kernel_rfl))⟩
  f8 := ⟨Tryz.f60.name, by decide, Tryz.func60.trans (congrArg some (by kernel_rfl))⟩
  f11 := ⟨Tryz.f90.name, by decide, Tryz.func90.trans (congrArg some (by kernel_rfl))⟩
  t0 := Tryz.underlying0
  a0 := Tryz.isAgg0
  z0 := Tryz.sizeOf0
  v0 := Tryz.zeroValue0
  t24 := Tryz.underlying29
  a24 := Tryz.isAgg29
  z24 := Tryz.sizeOf29
  v24 := Tryz.zeroValue29
  t26 := Tryz.underlying9
  a26 := Tryz.isAgg9
  z26 := Tryz.sizeOf9
  v26 := Tryz.zeroValue9
  t28 := Tryz.underlying94
  a28 := Tryz.isAgg94
  z28 := Tryz.sizeOf94
  v28 := Tryz.zeroValue94
  i26 := by kernel_rfl }
def Tryz.sort61_ren : Go.Shelf.Ren := ⟨fun | 6 => 61 | 8 => 92 | 9 => 91 | 19 => 124 | 20 => 125 | 21 => 115 | 22 => 116 | 23 => 117 | 24 => 118 | 25 => 119 | 26 => 120 | 27 => 121 | 28 => 122 | 29 => 123 | 36 => 139 | 31 => 140 | 32 => 141 | 37 => 142 | 38 => 143 | 39 => 144 | 41 => 159 | n => n, fun | 27 => 29 | 29 => 9 | 3 => 3 | 32 => 137 | 26 => 29 | 0 => 0 | 44 => 161 | 46 => 163 | 4 => 4 | 36 => 154 | 35 => 153 | 41 => 106 | 5 => 5 | 9 => 9 | 53 => 178 | 57 => 182 | 63 => 192 | 64 => 193 | n => n, fun | n => n⟩
theorem Tryz.sort61 : Go.Proofs.SlLaysM.n6 Tryz.prog Tryz.sort61_ren := {
  mixed := by kernel_rfl
  f6 := ⟨Tryz.f61.name, by decide, Tryz.func61.trans (congrArg some (by kernel_rfl))⟩
  f8 := Tryz.func92.trans (congrArg some (by kernel_rfl))
  f9 := ⟨Tryz.f91.name, by decide, Tryz.func91.trans (congrArg some (by kernel_rfl))⟩
  f19 := Tryz.func124.trans (congrArg some (by kernel_rfl))
  f20 := Tryz.func125.trans (congrArg some (by kernel_rfl))
  f21 := ⟨Tryz.f115.name, by decide, Tryz.func115.trans (congrArg some (by kernel_rfl))⟩
  f22 := ⟨Tryz.f116.name, by decide, Tryz.func116.trans (congrArg some (by kernel_rfl))⟩
  f23 := ⟨Tryz.f117.name, by decide, Tryz.func117.trans (congrArg some (by kernel_rfl))⟩
  f24 := ⟨Tryz.f118.name, by decide, Tryz.func118.trans (congrArg some (by kernel_rfl))⟩
  f25 := ⟨Tryz.f119.name, by decide, Tryz.func119.trans (congrArg some (by kernel_rfl))⟩
  f26 := ⟨Tryz.f120.name, by decide, Tryz.func120.trans (congrArg some (by kernel_rfl))⟩
  f27 := ⟨Tryz.f121.name, by decide, Tryz.func121.trans (congrArg some (by kernel_rfl))⟩
  f28 := ⟨Tryz.f122.name, by decide, Tryz.func122.trans (congrArg some (by kernel_rfl))⟩
  f29 := ⟨Tryz.f123.name, by decide, Tryz.func123.trans (congrArg some (by kernel_rfl))⟩
  f31 := Tryz.func140.trans (congrArg some (by kernel_rfl))
  f32 := Tryz.func141.trans (congrArg some (by kernel_rfl))
  f36 := ⟨Tryz.f139.name, by decide, Tryz.func139.trans (congrArg some (by kernel_rfl))⟩
  f37 := ⟨Tryz.f142.name, by decide, Tryz.func142.trans (congrArg some (by kernel_rfl))⟩
  f38 := ⟨Tryz.f143.name, by decide, Tryz.func143.trans (congrArg some (by kernel_rfl))⟩
  f39 := ⟨Tryz.f144.name, by decide, Tryz.func144.trans (congrArg some (by kernel_rfl))⟩
  f41 := ⟨Tryz.f159.name, by decide, Tryz.func159.trans (congrArg some (by kernel_rfl))⟩
  t0 := Tryz.underlying0
  a0 := Tryz.isAgg0
  z0 := Tryz.sizeOf0
  v0 := Tryz.zeroValue0
  t3 := Tryz.underlying3
  a3 := Tryz.isAgg3
  z3 := Tryz.sizeOf3
  v3 := Tryz.zeroValue3
  t4 := Tryz.underlying4
  a4 := Tryz.isAgg4
  z4 := Tryz.sizeOf4
  v4 := Tryz.zeroValue4
  t5 := Tryz.underlying5
  a5 := Tryz.isAgg5
  z5 := Tryz.sizeOf5
  v5 := Tryz.zeroValue5
  t9 := Tryz.underlying9
  a9 := Tryz.isAgg9
  z9 := Tryz.sizeOf9
  v9 := Tryz.zeroValue9
  t26 := Tryz.underlying29
  a26 := Tryz.isAgg29
  z26 := Tryz.sizeOf29
  v26 := Tryz.zeroValue29
  t27 := Tryz.underlying29
  a27 := Tryz.isAgg29
  z27 := Tryz.sizeOf29
  v27 := Tryz.zeroValue29
  t29 := Tryz.underlying9
  a29 := Tryz.isAgg9
  z29 := Tryz.sizeOf9
  v29 := Tryz.zeroValue9
  t32 := Tryz.underlying137
  a32 := Tryz.isAgg137
  z32 := Tryz.sizeOf137
  v32 := Tryz.zeroValue137
  t35 := Tryz.underlying153
  a35 := Tryz.isAgg153
  z35 := Tryz.sizeOf153
  v35 := Tryz.zeroValue153
  t36 := Tryz.underlying154
  a36 := Tryz.isAgg154
  z36 := Tryz.sizeOf154
  v36 := Tryz.zeroValue154
  t41 := Tryz.underlying106
  a41 := Tryz.isAgg106
  z41 := Tryz.sizeOf106
  v41 := Tryz.zeroValue106
  t44 := Tryz.underlying161
  a44 := Tryz.isAgg161
  z44 := Tryz.sizeOf161
  v44 := Tryz.zeroValue161
  t46 := Tryz.underlying163
  a46 := Tryz.isAgg163
  z46 := Tryz.sizeOf163
  v46 := Tryz.zeroValue163
  t53 := Tryz.underlying178
  a53 := Tryz.isAgg178
  z53 := Tryz.sizeOf178
  v53 := Tryz.zeroValue178
  t57 := Tryz.underlying182
  a57 := Tryz.isAgg182
  z57 := Tryz.sizeOf182
  v57 := Tryz.zeroValue182
  t63 := Tryz.underlying192
  a63 := Tryz.isAgg192
  z63 := Tryz.sizeOf192
  v63 := Tryz.zeroValue192
  t64 := Tryz.underlying193
  a64 := Tryz.isAgg193
  z64 := Tryz.sizeOf193
  v64 := Tryz.zeroValue193 }
open Go.RowKit Go.Maps Go.Sort Go.Shelf
theorem Tryz.sorts36 (m : Nat) : AnyZ.SortsIn Tryz.prog Tryz.sorted36_ren Fence.wide m :=
  ⟨fun blk off cap ss W hH hblk hsz => callsIn_wide.2 (AnyM.slices_Sort_string Tryz.sort61 blk off cap ss W hH hblk hsz),
   fun p cap W => callsIn_wide.2 (AnyM.slices_Sort_string_none Tryz.sort61 p cap W)⟩

theorem Tryz.maps_Keys_37 (mb : Option Nat) (W : World) : CallsIn Fence.wide 5 Tryz.prog 37 #[.map mb] W fun e w' => e = .returned (.func (.func 62) #[] #[.pointer (some ⟨W.heap.size, 0, none⟩)]) ∧ w' = W.alloc (.cells #[.map mb] 79) :=
  AnyZ.keys_in Tryz.keys37 Fence.wide 5 trivial rfl mb W

set_option maxHeartbeats 1000000 in
theorem Tryz.slices_Sorted_keys_36_37 {H : Type} (b nn : Nat) (D0 : DataW H) (R : Value → Option (DataW H × List MemPlace)) (w : World) (hown : w.ownsMap Tryz.prog 9 R b nn D0) (hmax : Maps.size D0 ≤ maxLen) (hbytes : Maps.size D0 * 16 ≤ 140737488355328) :
    CallsIn Fence.wide 5 Tryz.prog 36 #[.func (.func 62) #[] #[.pointer (some ⟨w.heap.size, 0, none⟩)]] (w.alloc (.cells #[.map (some b)] 79)) fun e w' => ∃ (v : Value) (ss : List (List UInt8)), e = .returned v ∧ ss.Perm (strKeys D0) ∧
      w'.ownsRow (w.alloc (.cells #[.map (some b)] 79)).heap.size 9 1 v ss.length ((ss.mergeSort (fun x y => decide (x ≤ y))).map encStr) ∧ (v = .slice none 0 0 ↔ ss = []) ∧ Below (w.alloc (.cells #[.map (some b)] 79)).heap.size (w.alloc (.cells #[.map (some b)] 79)) w' := by
  have hbl := hown.lt
  have hseq : SeqGives Fence.wide 2 Tryz.prog 62 #[.pointer (some ⟨w.heap.size, 0, none⟩)] encStr (fun ss => ss.Perm (strKeys D0)) (Maps.size D0) (w.alloc (.cells #[.map (some b)] 79)) :=
    AnyZ.keys_gives (ρ := Tryz.keys37_ren) { Tryz.keys37 with } Fence.wide _ trivial rfl (by omega) w.heap.size b nn D0 _ (by simp) (by simp) (by
      obtain ⟨es, clock, hb, Ft, hs, hD⟩ := hown
      exact ⟨es, clock, (Below.heap_alloc _ _ b hbl).trans hb, Ft, hs, hD⟩)
  exact AnyZ.sorted_in Tryz.sorted36 Fence.wide 5 trivial trivial trivial trivial rfl (by omega) (Tryz.sorts36 _) (enters_of Tryz.func61 (by kernel_rfl) rfl) 62 #[.pointer (some ⟨w.heap.size, 0, none⟩)] trivial (enters_of Tryz.func62 (by kernel_rfl) rfl) _ _ hmax hbytes _ hseq

set_option maxHeartbeats 1000000 in
theorem Tryz.slices_Sorted_keys_nil_36_37 (w : World) :
    CallsIn Fence.wide 5 Tryz.prog 36 #[.func (.func 62) #[] #[.pointer (some ⟨w.heap.size, 0, none⟩)]] (w.alloc (.cells #[.map none] 79)) fun e w' => ∃ (v : Value) (ss : List (List UInt8)), e = .returned v ∧ ss = [] ∧
      w'.ownsRow (w.alloc (.cells #[.map none] 79)).heap.size 9 1 v ss.length ((ss.mergeSort (fun x y => decide (x ≤ y))).map encStr) ∧ (v = .slice none 0 0 ↔ ss = []) ∧ Below (w.alloc (.cells #[.map none] 79)).heap.size (w.alloc (.cells #[.map none] 79)) w' := by
  have hseq : SeqGives Fence.wide 2 Tryz.prog 62 #[.pointer (some ⟨w.heap.size, 0, none⟩)] encStr (fun ss : List (List UInt8) => ss = []) 0 (w.alloc (.cells #[.map none] 79)) :=
    AnyZ.keys_gives_nil (ρ := Tryz.keys37_ren) { Tryz.keys37 with } Fence.wide _ trivial rfl w.heap.size _ (by simp) (by simp)
  exact AnyZ.sorted_in Tryz.sorted36 Fence.wide 5 trivial trivial trivial trivial rfl (by omega) (Tryz.sorts36 _) (enters_of Tryz.func61 (by kernel_rfl) rfl) 62 #[.pointer (some ⟨w.heap.size, 0, none⟩)] trivial (enters_of Tryz.func62 (by kernel_rfl) rfl) _ 0 (Nat.zero_le _) (by omega) _ hseq



end Go.Proofs

/-
  A tree: the walks of Paths, Of.
-/
set_option linter.unusedSimpArgs false
namespace Go.Av
open Go.RowKit Go.Sort Go.Maps
theorem rise_sorted {l ss : List Bs} (hr : l.Pairwise (· < ·)) (hp : ss.Perm l) : ss.mergeSort (fun x y => decide (x ≤ y)) = l := by
  refine (mergeSort_of_perm hp).trans ?_
  refine List.mergeSort_of_pairwise (List.Pairwise.imp (fun h => ?_) hr)
  simp only [leB, decide_eq_true_eq]
  exact List.le_of_lt h
/-- The paths of a session's nodes. -/
def ofT (S : TreeS) (sess : Int) : List Bs := (S.l.filter fun e => decide (0 < sess) && e.2.owner == sess).map (·.1)
end Go.Av
namespace Go.Proofs.YtjeaoopamebgjaaGreatDoor
open Go.RowKit Go.Av Go.Maps Go.Sort
section
variable {w0 w : World} {t : Nat} {S : TreeS} {P P' : List PRow} {R : List Thing} {rows : List (Value × Bs)}
/-- A list of texts, answered. -/
def ListPost (w0 : World) (t : Nat) (S : TreeS) (P : List PRow) (R : List Thing) (rows : List (Value × Bs)) (l : List Bs) (e : Ending) (w' : World) : Prop :=
  ∃ v P', e = .returned v ∧ (∀ r ∈ P, r ∈ P') ∧ (1, v, l.map sv) ∈ P' ∧ Sep w0 w' (ThPool w0 P' :: ThTree t S P' :: R) rows
set_option maxRecDepth 100000 in
set_option maxHeartbeats 4000000 in
theorem paths_any (h : Sep w0 w (ThPool w0 P :: ThTree t S P :: R) rows) (hn : S.l.length ≤ 100000) (hk : ∀ e ∈ S.l, e.1.length ≤ 100000) :
    Calls Tryz.prog 20 #[.pointer (some ⟨t, 0, none⟩)] w (ListPost w0 t S P R rows (S.l.map (·.1))) := by
  obtain ⟨m, gs, hperm, hrise, hgs, hS⟩ := tree_open (h.perm (List.Perm.swap _ _ _))
  obtain ⟨D, hM, -⟩ := hS.has (T := ThMap .string m (gs.map NodeG.kv)) (by simp)
  have hgl : gs.length = S.l.length := by rw [← hperm.length_eq, List.length_map]
  obtain ⟨D0, ho, hz, hp⟩ := owns_names (P := Tryz.prog) (k := 9) (l := gs.map fun g => (⟨g.key.toArray⟩, Value.pointer (some ⟨g.blk, 0, none⟩))) (by rw [List.map_map]; exact hM) Tryz.underlying9 (by simp; omega) (by
    intro x hx
    obtain ⟨g, hg, rfl⟩ := List.mem_map.1 hx
    have := hk g.ent (hperm.mem_iff.1 (List.mem_map_of_mem hg))
    unfold maxLen
    show g.key.toArray.size ≤ _
    simp only [List.size_toArray]
    have h2 : g.ent.1 = g.key := rfl
    rw [h2] at this
    omega)
  rw [List.length_map] at hz
  have HP := Lib.hid (show (strKeys D0).Perm (S.l.map (·.1)) from hp.trans (by
    rw [List.map_map]
    have := hperm.map (·.1)
    rw [List.map_map] at this
    exact this))
  have HRI := Lib.hid hrise
  have HC := Lib.hid (show _ ∧ _ ∧ _ from ⟨hperm, hrise, hgs⟩)
  have HX := Lib.hid hS
  have cK := callsIn_wide.1 (Tryz.maps_Keys_37 (some m) w)
  have cS := callsIn_wide.1 (Tryz.slices_Sorted_keys_36_37 m _ D0 noRead w ho (by rw [hz]; unfold maxLen; omega) (by rw [hz]; omega))
  have CK := Lib.hid cK
  have CS := Lib.hid cS
  clear cK cS ho hz hp h hperm hrise hgs hS hM
  go_enter Tryz.func20, Tryz.ntmps20
  go_wp2_with (first | (refine sWL ?_; simp only [Act.put, List.setIfInBounds_toArray, List.set_cons_zero, List.set_cons_succ, List.drop_zero, List.drop_succ_cons, List.take_succ_cons, List.take_zero, List.toList_toArray, NodeS.cells, OpS.cells, ResS.cells]) | (refine sWM ?_; simp only [Act.put, List.setIfInBounds_toArray, List.set_cons_zero, List.set_cons_succ]) | (refine sWS ?_; clear HX; intro w HX; simp only [Act.put, List.setIfInBounds_toArray, List.set_cons_zero, List.set_cons_succ, setMany, Nat.reduceAdd, NodeS.cells, OpS.cells, ResS.cells] at HX ⊢) | (refine sWT ?_; clear HX; intro w HX; simp only [Act.put, List.setIfInBounds_toArray, List.set_cons_zero, List.set_cons_succ, NodeS.cells, OpS.cells, ResS.cells] at HX ⊢) | (refine sWA ?_; clear HX; (first | (have hq := b9; clear hq; intro w b10 HX) | (have hq := b8; clear hq; intro w b9 HX) | (have hq := b7; clear hq; intro w b8 HX) | (have hq := b6; clear hq; intro w b7 HX) | (have hq := b5; clear hq; intro w b6 HX) | (have hq := b4; clear hq; intro w b5 HX) | (have hq := b3; clear hq; intro w b4 HX) | (have hq := b2; clear hq; intro w b3 HX) | (have hq := b; clear hq; intro w b2 HX) | intro w b HX); simp only [Act.put, List.setIfInBounds_toArray, List.set_cons_zero, List.set_cons_succ]) | (refine sWN ?_; clear HX; intro w mm HX; simp only [Act.put, List.setIfInBounds_toArray, List.set_cons_zero, List.set_cons_succ]) | (refine sWP ?_; clear HX; intro w av nv cv HX; simp only [Act.put, List.setIfInBounds_toArray, List.set_cons_zero, List.set_cons_succ]) | (go_at_call 37; go_must (refine CK.out.mono ?_); rintro e w1 ⟨rfl, rfl⟩) | (go_at_call 36; go_must (refine CS.out.mono ?_); rintro e w1 ⟨v, ss, rfl, hS, hrow, hnil, hb⟩))
  go_ret
  obtain ⟨E, hr, hE⟩ := read_own hrow
  have hss : ss.mergeSort (fun x y => decide (x ≤ y)) = S.l.map (·.1) := rise_sorted HRI.out (hS.trans HP.out)
  rw [hss] at hr
  have hsz : w.heap.size ≤ (w.alloc (.cells #[.map (some m)] 79)).heap.size := by simp
  have h1 := (HX.out.up3).poolRead hr (fun b hb => Nat.le_trans hsz (hE b hb)) ((Upd.alloc0 w _ []).trans (Upd.of_below hb))
  obtain ⟨hperm, hrise, hgs⟩ := HC.out
  have h2 := tree_shut (S := S) (P := (1, v, (S.l.map (·.1)).map sv) :: P) (h1.up3.up3.up3) hperm hrise (fun g hg => List.mem_cons_of_mem _ (hgs g hg))
  exact ⟨v, _, rfl, fun q hq => List.mem_cons_of_mem _ hq, List.mem_cons_self .., h2.up1⟩
theorem take_of {S : TreeS} {sess : Int} {i : Nat} (hi : i < S.l.length) : ofT ⟨S.room, S.l.take (i + 1)⟩ sess = ofT ⟨S.room, S.l.take i⟩ sess ++ (if decide (0 < sess) && S.l[i].2.owner == sess then [S.l[i].1] else []) := by
  unfold ofT
  dsimp only
  rw [List.take_succ_eq_append_getElem hi, List.filter_append, List.map_append]
  congr 1
  cases hq : (decide (0 < sess) && S.l[i].2.owner == sess) <;> simp [List.filter_cons, hq]
/-- A list of its own that is answered. -/
def RowPost (w0 : World) (t : Nat) (S : TreeS) (P : List PRow) (R : List Thing) (rows : List (Value × Bs)) (l : List Bs) (e : Ending) (w' : World) : Prop :=
  ∃ v P', e = .returned v ∧ (∀ r ∈ P, r ∈ P') ∧ Sep w0 w' (ThRow 1 v (l.map sv) :: ThPool w0 P' :: ThTree t S P' :: R) rows
def OfRel (w0 : World) (t : Nat) (S : TreeS) (P : List PRow) (R : List Thing) (rows : List (Value × Bs)) (sess : Int) (k : Nat) (v5 v11 : Value) (w : World) : Prop :=
  ∃ (i : Nat) (a : Option Addr) (n c : Nat), i + k = S.l.length ∧ v11 = .int .i64 (i : Int) ∧ v5 = .slice a n c ∧ Sep w0 w (ThRow 1 (.slice a n c) ((ofT ⟨S.room, S.l.take i⟩ sess).map sv) :: ThPool w0 P :: ThTree t S P :: R) rows
set_option maxRecDepth 100000 in
set_option maxHeartbeats 4000000 in
theorem tofRow_any (h : Sep w0 w (ThPool w0 P :: ThTree t S P :: R) rows) (sess : Int) (hn : S.l.length ≤ 100000) (hk : ∀ e ∈ S.l, e.1.length ≤ 100000) :
    Calls Tryz.prog 21 #[.pointer (some ⟨t, 0, none⟩), .int .i64 sess] w (RowPost w0 t S P R rows (ofT S sess)) := by
  have HN := Lib.hid hn
  have HK := Lib.hid hk
  have HX := Lib.hid h
  clear hn hk h
  go_enter Tryz.func21, Tryz.ntmps21
  go_wp2_with (first | (refine sWL ?_; simp only [Act.put, List.setIfInBounds_toArray, List.set_cons_zero, List.set_cons_succ, List.drop_zero, List.drop_succ_cons, List.take_succ_cons, List.take_zero, List.toList_toArray, NodeS.cells, OpS.cells, ResS.cells]) | (refine sWM ?_; simp only [Act.put, List.setIfInBounds_toArray, List.set_cons_zero, List.set_cons_succ]) | (refine sWS ?_; clear HX; intro w HX; simp only [Act.put, List.setIfInBounds_toArray, List.set_cons_zero, List.set_cons_succ, setMany, Nat.reduceAdd, NodeS.cells, OpS.cells, ResS.cells] at HX ⊢) | (refine sWT ?_; clear HX; intro w HX; simp only [Act.put, List.setIfInBounds_toArray, List.set_cons_zero, List.set_cons_succ, NodeS.cells, OpS.cells, ResS.cells] at HX ⊢) | (refine sWA ?_; clear HX; (first | (have hq := b9; clear hq; intro w b10 HX) | (have hq := b8; clear hq; intro w b9 HX) | (have hq := b7; clear hq; intro w b8 HX) | (have hq := b6; clear hq; intro w b7 HX) | (have hq := b5; clear hq; intro w b6 HX) | (have hq := b4; clear hq; intro w b5 HX) | (have hq := b3; clear hq; intro w b4 HX) | (have hq := b2; clear hq; intro w b3 HX) | (have hq := b; clear hq; intro w b2 HX) | intro w b HX); simp only [Act.put, List.setIfInBounds_toArray, List.set_cons_zero, List.set_cons_succ]) | (refine sWN ?_; clear HX; intro w mm HX; simp only [Act.put, List.setIfInBounds_toArray, List.set_cons_zero, List.set_cons_succ]) | (refine sWP ?_; clear HX; intro w av nv cv HX; simp only [Act.put, List.setIfInBounds_toArray, List.set_cons_zero, List.set_cons_succ]))
  refine (paths_any HX.out HN.out HK.out).mono ?_
  rintro e w ⟨v, P', rfl, hP', hv, hS⟩
  obtain ⟨E, hE⟩ := hS.poolGet hv
  obtain ⟨a0, n0, c0, rfl, hl0, hn0, hc0, hne⟩ := ReadRow.some hE
  rw [List.length_map, List.length_map, Nat.mul_one] at hl0
  subst hl0
  clear HX
  have HX := Lib.hid hS
  have HNE := Lib.hid hne
  have HV := Lib.hid hv
  have HPP := Lib.hid hP'
  clear hS hE hne hv hP' hn0 hc0
  have HST := Lib.hid (show OfRel w0 t S P' R rows sess S.l.length (.slice none 0 0) (.int .i64 (0 : Int)) w from ⟨0, none, 0, 0, by simp, rfl, rfl, HX.out.nilRow 1⟩)
  clear HX
  go_wp2_with (first | (refine sWL ?_; simp only [Act.put, List.setIfInBounds_toArray, List.set_cons_zero, List.set_cons_succ, List.drop_zero, List.drop_succ_cons, List.take_succ_cons, List.take_zero, List.toList_toArray, NodeS.cells, OpS.cells, ResS.cells]) | (refine sWM ?_; simp only [Act.put, List.setIfInBounds_toArray, List.set_cons_zero, List.set_cons_succ]) | (refine sWS ?_; clear HX; intro w HX; simp only [Act.put, List.setIfInBounds_toArray, List.set_cons_zero, List.set_cons_succ, setMany, Nat.reduceAdd, NodeS.cells, OpS.cells, ResS.cells] at HX ⊢) | (refine sWT ?_; clear HX; intro w HX; simp only [Act.put, List.setIfInBounds_toArray, List.set_cons_zero, List.set_cons_succ, NodeS.cells, OpS.cells, ResS.cells] at HX ⊢) | (refine sWA ?_; clear HX; (first | (have hq := b9; clear hq; intro w b10 HX) | (have hq := b8; clear hq; intro w b9 HX) | (have hq := b7; clear hq; intro w b8 HX) | (have hq := b6; clear hq; intro w b7 HX) | (have hq := b5; clear hq; intro w b6 HX) | (have hq := b4; clear hq; intro w b5 HX) | (have hq := b3; clear hq; intro w b4 HX) | (have hq := b2; clear hq; intro w b3 HX) | (have hq := b; clear hq; intro w b2 HX) | intro w b HX); simp only [Act.put, List.setIfInBounds_toArray, List.set_cons_zero, List.set_cons_succ]) | (refine sWN ?_; clear HX; intro w mm HX; simp only [Act.put, List.setIfInBounds_toArray, List.set_cons_zero, List.set_cons_succ]) | (refine sWP ?_; clear HX; intro w av nv cv HX; simp only [Act.put, List.setIfInBounds_toArray, List.set_cons_zero, List.set_cons_succ]))
  go_loopg [5, 11] S.l.length (fun k v5 v11 wr => OfRel w0 t S P' R rows sess k v5 v11 wr)
  case atStart => exact HST.out
  case round =>
    obtain ⟨i, a, n, c, hik, rfl, rfl, hS⟩ := hrel
    have HIK := Lib.hid hik
    by_cases hlt : i < S.l.length
    case neg =>
      obtain rfl : i = S.l.length := by omega
      have HX := Lib.hid hS
      clear hS hlt hik
      go_wp2_with (first | (refine sWL ?_; simp only [Act.put, List.setIfInBounds_toArray, List.set_cons_zero, List.set_cons_succ, List.drop_zero, List.drop_succ_cons, List.take_succ_cons, List.take_zero, List.toList_toArray, NodeS.cells, OpS.cells, ResS.cells]) | (refine sWM ?_; simp only [Act.put, List.setIfInBounds_toArray, List.set_cons_zero, List.set_cons_succ]) | (refine sWS ?_; clear HX; intro w HX; simp only [Act.put, List.setIfInBounds_toArray, List.set_cons_zero, List.set_cons_succ, setMany, Nat.reduceAdd, NodeS.cells, OpS.cells, ResS.cells] at HX ⊢) | (refine sWT ?_; clear HX; intro w HX; simp only [Act.put, List.setIfInBounds_toArray, List.set_cons_zero, List.set_cons_succ, NodeS.cells, OpS.cells, ResS.cells] at HX ⊢) | (refine sWA ?_; clear HX; (first | (have hq := b9; clear hq; intro w b10 HX) | (have hq := b8; clear hq; intro w b9 HX) | (have hq := b7; clear hq; intro w b8 HX) | (have hq := b6; clear hq; intro w b7 HX) | (have hq := b5; clear hq; intro w b6 HX) | (have hq := b4; clear hq; intro w b5 HX) | (have hq := b3; clear hq; intro w b4 HX) | (have hq := b2; clear hq; intro w b3 HX) | (have hq := b; clear hq; intro w b2 HX) | intro w b HX); simp only [Act.put, List.setIfInBounds_toArray, List.set_cons_zero, List.set_cons_succ]) | (refine sWN ?_; clear HX; intro w mm HX; simp only [Act.put, List.setIfInBounds_toArray, List.set_cons_zero, List.set_cons_succ]) | (refine sWP ?_; clear HX; intro w av nv cv HX; simp only [Act.put, List.setIfInBounds_toArray, List.set_cons_zero, List.set_cons_succ]))
      go_ret
      have h1 := HX.out
      rw [List.take_length] at h1
      exact ⟨_, P', rfl, HPP.out, h1⟩
    case pos =>
      have hmem : S.l[i] ∈ S.l := List.getElem_mem hlt
      have hlook : lookT S.l[i].1 S.l = some S.l[i].2 := (look_mem (tree_rise hS.up2)).2 hmem
      have hnd := tree_rise hS.up2
      obtain ⟨g, off, rfl⟩ := HNE.out (by intro e; rw [List.map_map, List.map_eq_nil_iff] at e; rw [e] at hlt; simp at hlt)
      obtain ⟨E, hE⟩ := hS.up1.poolGet HV.out
      have hl := row_load1 (P := Tryz.prog) (ty := 9) (i := i) (v := sv S.l[i].1) hE (by kernel_rfl) (by simp [hlt])
      obtain ⟨m, x, nv, kvs, N, hnv, hkv, hS2, back⟩ := tree_at hS.up2 hlook
      have HB := Lib.hid (show ∀ w' R', Sep w0 w' (thNode x S.l[i].2 nv :: thTree t m S.room :: ThMap .string m kvs :: ThL N :: R') rows → Sep w0 w' (ThTree t S P' :: R') rows from fun w' R' hh => by
        have := back w' S.l[i].2 nv P' R' (fun _ h => h) hnv hh
        rw [setT_same hnd hlook] at this
        exact this)
      have HT := Lib.hid (take_of (sess := sess) hlt)
      obtain ⟨en, hen⟩ : ∃ en, S.l[i] = en := ⟨_, rfl⟩
      rw [hen] at HT hl hS2 hkv HB
      obtain ⟨ps, hps⟩ : ∃ ps : ByteArray, ps = ⟨en.1.toArray⟩ := ⟨_, rfl⟩
      have hpv : sv en.1 = .string ps := by rw [hps]; rfl
      have hpl : ps.data.toList = en.1 := by rw [hps]
      rw [hpv] at hl hkv
      have hlk := look_hit (Lib.hid hS2) ps (by (repeat (first | (with_reducible exact List.mem_cons_self ..) | (with_reducible apply List.mem_cons_of_mem)))) (by rw [hpl, hpv]; exact hkv)
      have HX := Lib.hid hS2
      have HPV := Lib.hid hpv
      have q0 : decide (i < S.l.length) = true := decide_eq_true hlt
      have q9 : i ≤ 100000 := by have := HN.out; omega
      obtain ⟨zs, hzs⟩ : ∃ z, decide (0 < sess) = z := ⟨_, rfl⟩
      obtain ⟨zo, hzo⟩ : ∃ z, (en.2.owner == sess) = z := ⟨_, rfl⟩
      rw [hzs, hzo] at HT
      clear hS hS2 hlook hnd hE back hen hps hpv hpl hkv hnv hmem
      cases zs with
      | false =>
        go_wp2_with (first | (refine sWL ?_; simp only [Act.put, List.setIfInBounds_toArray, List.set_cons_zero, List.set_cons_succ, List.drop_zero, List.drop_succ_cons, List.take_succ_cons, List.take_zero, List.toList_toArray, NodeS.cells, OpS.cells, ResS.cells]) | (refine sWM ?_; simp only [Act.put, List.setIfInBounds_toArray, List.set_cons_zero, List.set_cons_succ]) | (refine sWS ?_; clear HX; intro w HX; simp only [Act.put, List.setIfInBounds_toArray, List.set_cons_zero, List.set_cons_succ, setMany, Nat.reduceAdd, NodeS.cells, OpS.cells, ResS.cells] at HX ⊢) | (refine sWT ?_; clear HX; intro w HX; simp only [Act.put, List.setIfInBounds_toArray, List.set_cons_zero, List.set_cons_succ, NodeS.cells, OpS.cells, ResS.cells] at HX ⊢) | (refine sWA ?_; clear HX; (first | (have hq := b9; clear hq; intro w b10 HX) | (have hq := b8; clear hq; intro w b9 HX) | (have hq := b7; clear hq; intro w b8 HX) | (have hq := b6; clear hq; intro w b7 HX) | (have hq := b5; clear hq; intro w b6 HX) | (have hq := b4; clear hq; intro w b5 HX) | (have hq := b3; clear hq; intro w b4 HX) | (have hq := b2; clear hq; intro w b3 HX) | (have hq := b; clear hq; intro w b2 HX) | intro w b HX); simp only [Act.put, List.setIfInBounds_toArray, List.set_cons_zero, List.set_cons_succ]) | (refine sWN ?_; clear HX; intro w mm HX; simp only [Act.put, List.setIfInBounds_toArray, List.set_cons_zero, List.set_cons_succ]) | (refine sWP ?_; clear HX; intro w av nv cv HX; simp only [Act.put, List.setIfInBounds_toArray, List.set_cons_zero, List.set_cons_succ]) | ((with_reducible apply sx_loadAt hl); (· rfl); (· rfl); simp only [Act.put, List.setIfInBounds_toArray, List.set_cons_zero, List.set_cons_succ]))
        go_roundg (S.l.length - (i + 1))
        case rel =>
          have h2 := HB.out _ _ HX.out
          refine ⟨i + 1, a, n, c, by omega, by go_num, rfl, ?_⟩
          rw [HT.out]
          simp only [Bool.false_and, Bool.false_eq_true, if_false, List.append_nil]
          exact Sep.pm h2 3 [1, 2, 0] rfl rfl
        case measure => omega
      | true =>
        cases zo with
        | false =>
          go_wp2_with (first | (refine sWL ?_; simp only [Act.put, List.setIfInBounds_toArray, List.set_cons_zero, List.set_cons_succ, List.drop_zero, List.drop_succ_cons, List.take_succ_cons, List.take_zero, List.toList_toArray, NodeS.cells, OpS.cells, ResS.cells]) | (refine sWM ?_; simp only [Act.put, List.setIfInBounds_toArray, List.set_cons_zero, List.set_cons_succ]) | (refine sWS ?_; clear HX; intro w HX; simp only [Act.put, List.setIfInBounds_toArray, List.set_cons_zero, List.set_cons_succ, setMany, Nat.reduceAdd, NodeS.cells, OpS.cells, ResS.cells] at HX ⊢) | (refine sWT ?_; clear HX; intro w HX; simp only [Act.put, List.setIfInBounds_toArray, List.set_cons_zero, List.set_cons_succ, NodeS.cells, OpS.cells, ResS.cells] at HX ⊢) | (refine sWA ?_; clear HX; (first | (have hq := b9; clear hq; intro w b10 HX) | (have hq := b8; clear hq; intro w b9 HX) | (have hq := b7; clear hq; intro w b8 HX) | (have hq := b6; clear hq; intro w b7 HX) | (have hq := b5; clear hq; intro w b6 HX) | (have hq := b4; clear hq; intro w b5 HX) | (have hq := b3; clear hq; intro w b4 HX) | (have hq := b2; clear hq; intro w b3 HX) | (have hq := b; clear hq; intro w b2 HX) | intro w b HX); simp only [Act.put, List.setIfInBounds_toArray, List.set_cons_zero, List.set_cons_succ]) | (refine sWN ?_; clear HX; intro w mm HX; simp only [Act.put, List.setIfInBounds_toArray, List.set_cons_zero, List.set_cons_succ]) | (refine sWP ?_; clear HX; intro w av nv cv HX; simp only [Act.put, List.setIfInBounds_toArray, List.set_cons_zero, List.set_cons_succ]) | ((with_reducible apply sx_loadAt hl); (· rfl); (· rfl); simp only [Act.put, List.setIfInBounds_toArray, List.set_cons_zero, List.set_cons_succ]))
          go_roundg (S.l.length - (i + 1))
          case rel =>
            have h2 := HB.out _ _ HX.out
            refine ⟨i + 1, a, n, c, by omega, by go_num, rfl, ?_⟩
            rw [HT.out]
            simp only [Bool.and_false, Bool.false_eq_true, if_false, List.append_nil]
            exact Sep.pm h2 3 [1, 2, 0] rfl rfl
          case measure => omega
        | true =>
          have HBD := Lib.hid (show ∀ n, ((ofT ⟨S.room, S.l.take i⟩ sess).map sv).length = n * 1 → n + 1 ≤ 140737488355328 ∧ (n + 1) * 16 ≤ 140737488355328 from fun n hn => by
            have h1 : (ofT ⟨S.room, S.l.take i⟩ sess).length ≤ S.l.length := by
              unfold ofT
              rw [List.length_map]
              exact Nat.le_trans (List.length_filter_le _ _) (by simp; omega)
            have h2 := HN.out
            rw [List.length_map] at hn
            omega)
          go_wp2_with (first | (refine sWL ?_; simp only [Act.put, List.setIfInBounds_toArray, List.set_cons_zero, List.set_cons_succ, List.drop_zero, List.drop_succ_cons, List.take_succ_cons, List.take_zero, List.toList_toArray, NodeS.cells, OpS.cells, ResS.cells]) | (refine sWM ?_; simp only [Act.put, List.setIfInBounds_toArray, List.set_cons_zero, List.set_cons_succ]) | (refine sWS ?_; clear HX; intro w HX; simp only [Act.put, List.setIfInBounds_toArray, List.set_cons_zero, List.set_cons_succ, setMany, Nat.reduceAdd, NodeS.cells, OpS.cells, ResS.cells] at HX ⊢) | (refine sWT ?_; clear HX; intro w HX; simp only [Act.put, List.setIfInBounds_toArray, List.set_cons_zero, List.set_cons_succ, NodeS.cells, OpS.cells, ResS.cells] at HX ⊢) | (refine sWA ?_; clear HX; (first | (have hq := b9; clear hq; intro w b10 HX) | (have hq := b8; clear hq; intro w b9 HX) | (have hq := b7; clear hq; intro w b8 HX) | (have hq := b6; clear hq; intro w b7 HX) | (have hq := b5; clear hq; intro w b6 HX) | (have hq := b4; clear hq; intro w b5 HX) | (have hq := b3; clear hq; intro w b4 HX) | (have hq := b2; clear hq; intro w b3 HX) | (have hq := b; clear hq; intro w b2 HX) | intro w b HX); simp only [Act.put, List.setIfInBounds_toArray, List.set_cons_zero, List.set_cons_succ]) | (refine sWN ?_; clear HX; intro w mm HX; simp only [Act.put, List.setIfInBounds_toArray, List.set_cons_zero, List.set_cons_succ]) | (refine sWP ?_; clear HX; intro w av nv cv HX; simp only [Act.put, List.setIfInBounds_toArray, List.set_cons_zero, List.set_cons_succ]) | ((with_reducible apply sx_loadAt hl); (· rfl); (· rfl); simp only [Act.put, List.setIfInBounds_toArray, List.set_cons_zero, List.set_cons_succ]))
          go_roundg (S.l.length - (i + 1))
          case rel =>
            have h1 := HX.out.cut1
            have h2 := HB.out _ _ (h1.up4.up4.up4.up4)
            refine ⟨i + 1, av, nv, cv, by omega, by go_num, rfl, ?_⟩
            rw [HT.out]
            simp only [Bool.and_self, if_true, List.map_append, List.map_cons, List.map_nil, HPV.out]
            exact Sep.pm h2 3 [1, 2, 0] rfl rfl
          case measure => omega
theorem tof_any (h : Sep w0 w (ThPool w0 P :: ThTree t S P :: R) rows) (sess : Int) (hn : S.l.length ≤ 100000) (hk : ∀ e ∈ S.l, e.1.length ≤ 100000) :
    Calls Tryz.prog 21 #[.pointer (some ⟨t, 0, none⟩), .int .i64 sess] w (ListPost w0 t S P R rows (ofT S sess)) :=
  (tofRow_any h sess hn hk).mono fun e w' ⟨v, P', he, hP, hS⟩ =>
    ⟨v, (1, v, (ofT S sess).map sv) :: P', he, fun q hq => List.mem_cons_of_mem _ (hP q hq), List.mem_cons_self .., (tree_mono hS.poolRow.up1 (P' := (1, v, (ofT S sess).map sv) :: P') (fun q hq => List.mem_cons_of_mem _ hq)).up1⟩
end
end Go.Proofs.YtjeaoopamebgjaaGreatDoor
