/-
  A tree: what stays true of it; several ops, one behind the other (plain).
-/
import Derived.Test.YtjeaoopamebgjaaDoorRepA
namespace Go.Av
open Go.RowKit
/-- A node with at most K names. -/
structure NodeB (K : Nat) (n : NodeS) : Prop where
  ver : 0 ≤ n.ver ∧ n.ver ≤ 2147483647
  kids : 0 ≤ n.kids ∧ n.kids ≤ 2147483647
  next : 0 ≤ n.next ∧ n.next ≤ 2147483647
  rise : RiseS n.names
  few : n.names.length ≤ K
  data : n.data.size ≤ 1000
theorem NodeB.ok {K : Nat} {n : NodeS} (h : NodeB K n) (hK : K ≤ 100000) : NodeOk n := ⟨h.ver, h.kids, h.next, h.rise, by have := h.few; omega, by have := h.data; omega⟩
theorem NodeB.mono {K K' : Nat} {n : NodeS} (h : NodeB K n) (hK : K ≤ K') : NodeB K' n := ⟨h.ver, h.kids, h.next, h.rise, by have := h.few; omega, h.data⟩
structure TreeB (K : Nat) (S : TreeS) : Prop where
  rise : RiseT S.l
  keys : ∀ e ∈ S.l, e.1.length ≤ 200
  nodes : ∀ e ∈ S.l, NodeB K e.2
  len : (S.l.length : Int) ≤ S.room
  room : 1 ≤ S.room ∧ S.room ≤ 500
theorem TreeB.ok {K : Nat} {S : TreeS} (h : TreeB K S) (hK : K ≤ 100000) : ∀ e ∈ S.l, NodeOk e.2 := fun e he => (h.nodes e he).ok hK
theorem TreeB.mono {K K' : Nat} {S : TreeS} (h : TreeB K S) (hK : K ≤ K') : TreeB K' S := ⟨h.rise, h.keys, fun e he => (h.nodes e he).mono hK, h.len, h.room⟩
theorem TreeB.many {K : Nat} {S : TreeS} (h : TreeB K S) : S.l.length ≤ 500 := by have := h.len; have := h.room; omega
theorem tree_new (room : Int) (h : 1 ≤ room ∧ room ≤ 500) : TreeB 0 ⟨room, []⟩ := ⟨List.Pairwise.nil, by simp, by simp, by simpa using (by omega : (0 : Int) ≤ room), h⟩
theorem newS_b (zxid owner : Int) {data : ByteArray} (h : data.size ≤ 1000) (K : Nat) : NodeB K (newS zxid owner data) := ⟨by simp [newS], by simp [newS], by simp [newS], List.Pairwise.nil, by simp [newS], h⟩
theorem writeS_b {K : Nat} {n : NodeS} (hn : NodeB K n) (zxid : Int) {data : ByteArray} (h : data.size ≤ 1000) : NodeB K (writeS n zxid data) := ⟨more_bd hn.ver, hn.kids, hn.next, hn.rise, hn.few, h⟩
theorem addS_b {K : Nat} {n : NodeS} (hn : NodeB K n) (s : Bs) : NodeB (K + 1) (addS n s) := by
  unfold addS
  split
  · exact hn.mono (by omega)
  · rename_i hh
    refine ⟨hn.ver, more_bd hn.kids, more_bd hn.next, ins_rise hn.rise (by simpa using hh), ?_, hn.data⟩
    have := hn.few
    show (insS n.names s).length ≤ _
    have h2 := ins_len n.names s
    omega
theorem remS_b {K : Nat} {n : NodeS} (hn : NodeB K n) (s : Bs) : NodeB K (remS n s) := by
  unfold remS
  split
  · rename_i hh
    refine ⟨hn.ver, more_bd hn.kids, hn.next, del_rise hn.rise, ?_, hn.data⟩
    have := hn.few
    show (delS n.names s).length ≤ _
    have h2 := del_len hh
    omega
  · exact hn
theorem mem_set {p : Bs} {n : NodeS} {l : NoL} {e : Bs × NodeS} (h : e ∈ setT p n l) : (e = (p, n) ∧ ∃ n0, (p, n0) ∈ l) ∨ e ∈ l := by
  obtain ⟨x, hx, hxe⟩ := List.mem_map.1 h
  split at hxe
  · rename_i hp
    subst hxe
    exact .inl ⟨by rw [hp], x.2, by rw [← hp]; exact hx⟩
  · subst hxe; exact .inr hx
theorem mem_ins {p : Bs} {n : NodeS} {l : NoL} {e : Bs × NodeS} (h : e ∈ insT p n l) : e = (p, n) ∨ e ∈ l := by
  have := (insT_perm p n l).mem_iff.1 h
  simpa using this
theorem mem_del {p : Bs} {l : NoL} {e : Bs × NodeS} (h : e ∈ delT p l) : e ∈ l := (List.mem_filter.1 h).1
theorem atUp_len (p : Bs) (f : NodeS → NodeS) (l : NoL) : (atUp p f l).length = l.length := by
  unfold atUp
  split
  · rfl
  · split
    · rfl
    · exact setT_len _ _ _
theorem atUp_keys (p : Bs) (f : NodeS → NodeS) (l : NoL) : (atUp p f l).map (·.1) = l.map (·.1) := by
  unfold atUp
  split
  · rfl
  · split
    · rfl
    · exact setT_keys _ _ _
theorem atUp_mem {p : Bs} {f : NodeS → NodeS} {l : NoL} (hn : (l.map (·.1)).Nodup) {e : Bs × NodeS} (h : e ∈ atUp p f l) : e ∈ l ∨ ∃ n, (e.1, n) ∈ l ∧ e.2 = f n := by
  unfold atUp at h
  split at h
  · exact .inl h
  · split at h
    · exact .inl h
    · rename_i m hm
      rcases mem_set h with ⟨rfl, _⟩ | h
      · exact .inr ⟨m, (look_mem hn).1 hm, rfl⟩
      · exact .inl h
theorem lay_b {K : Nat} {S : TreeS} (h : TreeB K S) {p : Bs} {n : NodeS} (hp : p.length ≤ 200) (hn : NodeB K n) (hno : lookT p S.l = none) (hl : (S.l.length : Int) < S.room) : TreeB (K + 1) { S with l := layT p n S.l } := by
  have hr := insT_rise (n := n) h.rise hno
  refine ⟨?_, fun e he => ?_, fun e he => ?_, ?_, h.room⟩
  · show RiseT (atUp _ _ _)
    unfold RiseT
    rw [atUp_keys]
    exact hr
  · rcases atUp_mem (rise_nodup hr) he with h1 | ⟨m, h1, -⟩
    · rcases mem_ins h1 with rfl | h2
      · exact hp
      · exact h.keys e h2
    · rcases mem_ins h1 with h2 | h2
      · injection h2 with h2; rw [h2]; exact hp
      · exact h.keys (e.1, m) h2
  · rcases atUp_mem (rise_nodup hr) he with h1 | ⟨m, h1, h2⟩
    · rcases mem_ins h1 with rfl | h2
      · exact hn.mono (by omega)
      · exact (h.nodes e h2).mono (by omega)
    · rw [h2]
      rcases mem_ins h1 with h3 | h3
      · injection h3 with h3 h4
        subst h4
        exact addS_b hn _
      · exact addS_b (h.nodes _ h3) _
  · show ((atUp _ _ _).length : Int) ≤ S.room
    rw [atUp_len, insT_len]
    omega
theorem rem_b {K : Nat} {S : TreeS} (h : TreeB K S) (p : Bs) : TreeB K { S with l := remT p S.l } := by
  have hr := delT_rise (p := p) h.rise
  refine ⟨?_, fun e he => ?_, fun e he => ?_, ?_, h.room⟩
  · show RiseT (atUp _ _ _)
    unfold RiseT
    rw [atUp_keys]
    exact hr
  · rcases atUp_mem (rise_nodup hr) he with h1 | ⟨m, h1, -⟩
    · exact h.keys e (mem_del h1)
    · exact h.keys (e.1, m) (mem_del h1)
  · rcases atUp_mem (rise_nodup hr) he with h1 | ⟨m, h1, h2⟩
    · exact h.nodes e (mem_del h1)
    · rw [h2]; exact remS_b (h.nodes _ (mem_del h1)) _
  · show ((atUp _ _ _).length : Int) ≤ S.room
    rw [atUp_len]
    have h1 : (delT p S.l).length ≤ S.l.length := List.length_filter_le _ _
    have := h.len
    omega
theorem set_b {K : Nat} {S : TreeS} (h : TreeB K S) {p : Bs} {n : NodeS} (hn : NodeB K n) : TreeB K { S with l := setT p n S.l } := by
  refine ⟨setT_rise h.rise, fun e he => ?_, fun e he => ?_, ?_, h.room⟩
  · rcases mem_set he with ⟨rfl, n0, h1⟩ | h1
    · exact h.keys (p, n0) h1
    · exact h.keys e h1
  · rcases mem_set he with ⟨rfl, -⟩ | h1
    · exact hn
    · exact h.nodes e h1
  · show ((setT _ _ _).length : Int) ≤ S.room
    rw [setT_len]
    exact h.len
theorem place_end {S : TreeS} {o : OpS} (h : (placeT S o).1 = 0) : (S.l.length : Int) < S.room := by
  have hend : ∀ p, (endT S p).1 = 0 → (S.l.length : Int) < S.room := fun p hp => by
    unfold endT at hp
    split at hp
    · exact absurd hp (by decide)
    · split at hp
      · exact absurd hp (by decide)
      · omega
  unfold placeT at h
  split at h
  · exact hend _ h
  · split at h
    · exact absurd h (by decide)
    · split at h
      · exact absurd h (by decide)
      · split at h
        · split at h
          · exact absurd h (by decide)
          · exact hend _ h
        · exact hend _ h
theorem create_b {K : Nat} {S : TreeS} (h : TreeB K S) {o : OpS} (hg : goodE o = 0) (sess zxid : Int) : TreeB (K + 1) (createT S o sess zxid).2 := by
  obtain ⟨h1, h2, -, -⟩ := goodE_ok hg
  have hp := goodP_len (formed_ok h1).2.2.1
  unfold createT
  split
  · exact h.mono (by omega)
  · rename_i hz
    have hz : (placeT S o).1 = 0 := by omega
    obtain ⟨h3, h4⟩ := place_zero hz
    have hps : o.path.size = o.p.length := by unfold OpS.p; exact (Array.length_toList).symm
    exact lay_b h (by omega) (newS_b _ _ h2 K) h3 (place_end hz)
theorem change_b {K : Nat} {S : TreeS} (h : TreeB K S) {o : OpS} (hg : goodE o = 0) (zxid : Int) : TreeB K (changeT S o zxid).2 := by
  obtain ⟨-, h2, -, -⟩ := goodE_ok hg
  unfold changeT
  split
  · exact h
  · rename_i n hn
    split
    · exact h
    · split
      · exact h
      · split
        · exact rem_b h _
        · split
          · exact set_b h (writeS_b (h.nodes _ ((look_mem (rise_nodup h.rise)).1 hn)) zxid h2)
          · exact h
/-- An op leaves a tree. -/
theorem do_b {K : Nat} {S : TreeS} (h : TreeB K S) (o : OpS) (sess zxid : Int) : TreeB (K + 1) (doT S o sess zxid).2 := by
  unfold doT
  split
  · exact h.mono (by omega)
  · rename_i hg
    have hg : goodE o = 0 := by omega
    split
    · exact h.mono (by omega)
    · split
      · exact create_b h hg sess zxid
      · split
        · exact (change_b h hg zxid).mono (by omega)
        · exact h.mono (by omega)
/-- Several ops, one behind the other, up to the first that fails: the answers, the tree, the error. -/
def stepsT (sess zxid : Int) : List OpS → TreeS → List ResS × TreeS × Int
  | [], S => ([], S, 0)
  | o :: l, S => if (doT S o sess zxid).1.err ≠ 0 then ([], (doT S o sess zxid).2, (doT S o sess zxid).1.err) else
      ((doT S o sess zxid).1 :: (stepsT sess zxid l (doT S o sess zxid).2).1, (stepsT sess zxid l (doT S o sess zxid).2).2)
/-- Several at once. -/
def manyT (S : TreeS) (sess zxid : Int) (ops : List OpS) : ReplyS × TreeS × Bool :=
  if 16 < ops.length then (failR 0 2 (-1) 0, S, false)
  else if ops.length = 0 then (failR 0 1 (-1) 0, S, false)
  else if (stepsT sess zxid ops S).2.2 ≠ 0 then (failR 0 (stepsT sess zxid ops S).2.2 (stepsT sess zxid ops S).1.length ops.length, S, false)
  else (⟨0, zxid, 0, -1, (stepsT sess zxid ops S).1⟩, (stepsT sess zxid ops S).2.1, true)
theorem steps_b {sess zxid : Int} : ∀ (l : List OpS) {K : Nat} {S : TreeS}, TreeB K S → TreeB (K + l.length) (stepsT sess zxid l S).2.1
  | [], K, S, h => h
  | o :: l, K, S, h => by
    have h1 := do_b h o sess zxid
    unfold stepsT
    split
    · exact h1.mono (by simp)
    · have := steps_b (sess := sess) (zxid := zxid) l h1
      simp only [List.length_cons]
      rw [show K + (l.length + 1) = K + 1 + l.length by omega]
      exact this
theorem many_b {K : Nat} {S : TreeS} (h : TreeB K S) (sess zxid : Int) (ops : List OpS) : TreeB (K + 16) (manyT S sess zxid ops).2.1 := by
  unfold manyT
  split
  · exact h.mono (by omega)
  · split
    · exact h.mono (by omega)
    · split
      · exact h.mono (by omega)
      · exact (steps_b ops h).mono (by omega)
/-- One more op. -/
theorem steps_snoc {sess zxid : Int} (o : OpS) : ∀ (l : List OpS) (S : TreeS), (stepsT sess zxid l S).2.2 = 0 →
    stepsT sess zxid (l ++ [o]) S = if (doT (stepsT sess zxid l S).2.1 o sess zxid).1.err ≠ 0 then ((stepsT sess zxid l S).1, (doT (stepsT sess zxid l S).2.1 o sess zxid).2, (doT (stepsT sess zxid l S).2.1 o sess zxid).1.err)
      else ((stepsT sess zxid l S).1 ++ [(doT (stepsT sess zxid l S).2.1 o sess zxid).1], (doT (stepsT sess zxid l S).2.1 o sess zxid).2, 0)
  | [], S, _ => by
    simp only [List.nil_append, stepsT]
    split <;> rename_i hq <;> simp [hq]
  | q :: l, S, h => by
    unfold stepsT at h
    by_cases hq : (doT S q sess zxid).1.err ≠ 0
    · rw [if_pos hq] at h; exact absurd h hq
    · rw [if_neg hq] at h
      have ih := steps_snoc o l (doT S q sess zxid).2 h
      rw [List.cons_append]
      conv => lhs; unfold stepsT
      rw [if_neg hq, ih]
      conv => rhs; unfold stepsT
      rw [if_neg hq]
      dsimp only
      split <;> rfl
theorem steps_len {sess zxid : Int} : ∀ (l : List OpS) (S : TreeS), (stepsT sess zxid l S).2.2 = 0 → (stepsT sess zxid l S).1.length = l.length
  | [], _, _ => rfl
  | q :: l, S, h => by
    unfold stepsT at h ⊢
    by_cases hq : (doT S q sess zxid).1.err ≠ 0
    · rw [if_pos hq] at h; exact absurd h hq
    · rw [if_neg hq] at h ⊢
      simp only [List.length_cons]
      rw [steps_len l _ h]
end Go.Av
