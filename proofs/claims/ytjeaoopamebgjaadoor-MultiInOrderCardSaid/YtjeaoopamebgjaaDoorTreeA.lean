/-
  A tree of nodes: in plain words (a list that rises by paths), and in memory.
-/
import Derived.Test.YtjeaoopamebgjaaDoorStatA
namespace Go.Av
open Go.RowKit
abbrev NoL := List (Bs × NodeS)
structure TreeS where
  room : Int
  l : NoL
def lookT (p : Bs) (l : NoL) : Option NodeS := (l.find? fun e => decide (e.1 = p)).map (·.2)
def setT (p : Bs) (n : NodeS) (l : NoL) : NoL := l.map fun e => if e.1 = p then (e.1, n) else e
def insT (p : Bs) (n : NodeS) (l : NoL) : NoL := l.takeWhile (fun e => decide (e.1 < p)) ++ (p, n) :: l.dropWhile (fun e => decide (e.1 < p))
def delT (p : Bs) (l : NoL) : NoL := l.filter fun e => decide (e.1 ≠ p)
def RiseT (l : NoL) : Prop := (l.map (·.1)).Pairwise (· < ·)
theorem rise_nodup {l : NoL} (h : RiseT l) : (l.map (·.1)).Nodup := by
  refine List.Pairwise.imp (fun hab e => ?_) h
  rw [e] at hab
  exact List.lt_irrefl _ hab
theorem look_mem {p : Bs} {l : NoL} (hn : (l.map (·.1)).Nodup) {n : NodeS} : lookT p l = some n ↔ (p, n) ∈ l := by
  induction l with
  | nil => simp [lookT]
  | cons e l ih =>
    rw [List.map_cons, List.nodup_cons] at hn
    unfold lookT at ih ⊢
    by_cases he : e.1 = p
    · rw [List.find?_cons_of_pos (by simpa using he)]
      simp only [Option.map_some, Option.some.injEq, List.mem_cons]
      constructor
      · intro h; left; rw [← h, ← he]
      · rintro (h | h)
        · rw [← h]
        · exact absurd (List.mem_map_of_mem (f := (·.1)) h) (by rw [← he] ; exact hn.1)
    · rw [List.find?_cons_of_neg (by simpa using he), ih hn.2]
      simp only [List.mem_cons]
      constructor
      · exact .inr
      · rintro (h | h)
        · exact absurd (by rw [← h]) he
        · exact h
theorem look_not {p : Bs} {l : NoL} : lookT p l = none ↔ ∀ e ∈ l, e.1 ≠ p := by
  unfold lookT
  rw [Option.map_eq_none_iff, List.find?_eq_none]
  constructor
  · intro h e he; simpa using h e he
  · intro h e he; simpa using h e he
theorem insT_perm (p : Bs) (n : NodeS) (l : NoL) : (insT p n l).Perm ((p, n) :: l) := by
  unfold insT
  refine List.perm_middle.trans ?_
  rw [List.takeWhile_append_dropWhile]
theorem setT_keys (p : Bs) (n : NodeS) (l : NoL) : (setT p n l).map (·.1) = l.map (·.1) := by
  unfold setT
  rw [List.map_map]
  apply List.map_congr_left
  intro e _
  simp only [Function.comp]
  split <;> rfl
theorem insT_keys (p : Bs) (n : NodeS) (l : NoL) : (insT p n l).map (·.1) = insS (l.map (·.1)) p := by
  unfold insT insS placeS
  induction l with
  | nil => rfl
  | cons e l ih =>
    by_cases he : e.1 < p
    · have h1 : decide (e.1 < p) = true := by simpa using he
      simp only [List.takeWhile_cons, h1, if_true, List.dropWhile_cons, List.map_cons, List.cons_append, List.length_cons, List.take_succ_cons, List.drop_succ_cons]
      congr 1
    · have h1 : decide (e.1 < p) = false := by simpa using he
      simp [h1]
theorem delT_keys (p : Bs) (l : NoL) : (delT p l).map (·.1) = (l.map (·.1)).filter fun k => decide (k ≠ p) := by
  unfold delT
  rw [List.filter_map]
  rfl
theorem insT_rise {p : Bs} {n : NodeS} {l : NoL} (h : RiseT l) (hn : lookT p l = none) : RiseT (insT p n l) := by
  unfold RiseT
  rw [insT_keys]
  refine ins_rise h ?_
  cases hh : hasS (l.map (·.1)) p with
  | false => rfl
  | true =>
    obtain ⟨e, he, hep⟩ := List.mem_map.1 ((has_mem h).1 hh)
    exact absurd hep (look_not.1 hn e he)
theorem setT_rise {p : Bs} {n : NodeS} {l : NoL} (h : RiseT l) : RiseT (setT p n l) := by unfold RiseT; rw [setT_keys]; exact h
theorem delT_rise {p : Bs} {l : NoL} (h : RiseT l) : RiseT (delT p l) := by
  unfold RiseT
  rw [delT_keys]
  exact List.Pairwise.sublist (List.filter_sublist ..) h
theorem insT_len (p : Bs) (n : NodeS) (l : NoL) : (insT p n l).length = l.length + 1 := by rw [(insT_perm p n l).length_eq]; rfl
theorem setT_len (p : Bs) (n : NodeS) (l : NoL) : (setT p n l).length = l.length := by unfold setT; rw [List.length_map]

structure NodeG where
  blk : Nat
  key : Bs
  n : NodeS
  nv : Value
def NodeG.ent (g : NodeG) : Bs × NodeS := (g.key, g.n)
def NodeG.kv (g : NodeG) : Value × Value := (sv g.key, .pointer (some ⟨g.blk, 0, none⟩))
end Go.Av
namespace Go.Proofs.YtjeaoopamebgjaaDoor
open Go.RowKit Go.Av
def NodeG.th (g : NodeG) : Thing := ThCell g.blk (.cells (g.n.cells g.nv) 51 (0, 0))
def trTh (t m : Nat) (room : Int) (gs : List NodeG) : List Thing := ThCell t (.cells #[.int .i64 room, .map (some m)] 45 (0, 0)) :: ThMap .string m (gs.map NodeG.kv) :: gs.map NodeG.th
/-- What the program's tree is in memory. -/
def TrO (t : Nat) (S : TreeS) (P : List PRow) (L : List Thing) : Prop := ∃ m gs, L = trTh t m S.room gs ∧ (gs.map NodeG.ent).Perm S.l ∧ RiseT S.l ∧ ∀ g ∈ gs, (1, g.nv, g.n.names.map sv) ∈ P
def ThTree (t : Nat) (S : TreeS) (P : List PRow) : Thing := Bun (TrO t S P)
theorem zeroNode (w : World) : (zeroValue 49).run Tryd.prog w = .ok (.pointer none) w := by kernel_rfl
theorem sv_inj {a b : Bs} (h : sv a = sv b) : a = b := by
  unfold sv at h
  injection h with h
  injection h with h
  exact congrArg Array.toList h
section
variable {w0 w : World} {t : Nat} {S : TreeS} {P P' : List PRow} {R : List Thing} {rows : List (Value × Bs)}
theorem tree_mono (h : Sep w0 w (ThTree t S P :: R) rows) (hP : ∀ r ∈ P, r ∈ P') : Sep w0 w (ThTree t S P' :: R) rows := by
  obtain ⟨L, ⟨m, gs, rfl, h1, h2, h3⟩, hS⟩ := h.opens
  exact Sep.shut (O := TrO t S P') ⟨m, gs, rfl, h1, h2, fun g hg => hP _ (h3 g hg)⟩ hS
theorem keys_nodup {gs : List NodeG} {l : NoL} (hp : (gs.map NodeG.ent).Perm l) (hr : RiseT l) : (gs.map NodeG.key).Nodup := by
  have h1 : ((gs.map NodeG.ent).map (·.1)).Nodup := (hp.map (·.1)).nodup_iff.2 (rise_nodup hr)
  rw [List.map_map] at h1
  exact h1
/-- What its calls read. -/
theorem tree_facts (h : Sep w0 w (ThTree t S P :: R) rows) : ∃ m, w.cell? ⟨t, 0, none⟩ = some (.int .i64 S.room) ∧ w.cell? ⟨t, 1, none⟩ = some (.map (some m)) ∧
    (∀ s : ByteArray, lookT s.data.toList S.l = none → ∀ W : World, W.heap = w.heap → (Instr.lookup 43 (.map (some m)) (.string s) false).run Tryd.prog W = .ok (.pointer none) W) ∧
    (∀ (s : ByteArray) (n : NodeS), lookT s.data.toList S.l = some n → ∃ x nv, (1, nv, n.names.map sv) ∈ P ∧ w.heap[x]? = some (.cells (n.cells nv) 51 (0, 0)) ∧ ∀ W : World, W.heap = w.heap → (Instr.lookup 43 (.map (some m)) (.string s) false).run Tryd.prog W = .ok (.pointer (some ⟨x, 0, none⟩)) W) ∧
    (∀ ty, ∀ W : World, W.heap = w.heap → (Builtin.len_ #[43] ty #[.map (some m)]).run Tryd.prog W = .ok (.int .i64 (S.l.length : Nat)) W) := by
  obtain ⟨L, ⟨m, gs, rfl, h1, h2, h3⟩, hS⟩ := h.opens
  have hc := hS.block (b := t) (o := .cells #[.int .i64 S.room, .map (some m)] 45 (0, 0)) (by simp [trTh])
  obtain ⟨E, hM, -⟩ := hS.has (T := ThMap .string m (gs.map NodeG.kv)) (by simp [trTh])
  refine ⟨m, cell_of hc 0 rfl, cell_of hc 1 rfl, fun s hn W hW => ?_, fun s n hn => ?_, fun ty W hW => ?_⟩
  · have hM' := hM.frame (w' := W) (by rw [hW])
    refine mp_lookN hM' Tryd.underlying43 Tryd.underlying9 (key := .string s) trivial (fun q hq e => ?_) (zeroNode _) false
    obtain ⟨g, hg, rfl⟩ := List.mem_map.1 hq
    exact look_not.1 hn g.ent (h1.mem_iff.1 (List.mem_map_of_mem hg)) (sv_inj (b := s.data.toList) e)
  · have hm := (look_mem (rise_nodup h2)).1 hn
    obtain ⟨g, hg, he⟩ := List.mem_map.1 (h1.mem_iff.2 hm)
    have hgk : g.key = s.data.toList ∧ g.n = n := Prod.mk.inj he
    refine ⟨g.blk, g.nv, by rw [← hgk.2]; exact h3 g hg, ?_, fun W hW => ?_⟩
    · have := hS.block (b := g.blk) (o := .cells (g.n.cells g.nv) 51 (0, 0)) (by
        simp only [trTh, List.cons_append, List.mem_cons, List.mem_append]
        exact .inr (.inr (.inl (List.mem_map.2 ⟨g, hg, rfl⟩))))
      rw [hgk.2] at this
      exact this
    · have hM' := hM.frame (w' := W) (by rw [hW])
      refine mp_look hM' Tryd.underlying43 Tryd.underlying9 (key := .string s) trivial ?_ false
      refine List.mem_map.2 ⟨g, hg, ?_⟩
      unfold NodeG.kv
      rw [hgk.1]
      rfl
  · have hM' := hM.frame (w' := W) (by rw [hW])
    have := mp_len (P := Tryd.prog) hM' Tryd.underlying43 ty
    rw [List.length_map] at this
    rw [← h1.length_eq, List.length_map]
    exact this
theorem perm_out (H : List Thing) (l1 l2 : List NodeG) (g : NodeG) (R : List Thing) : (H ++ ((l1 ++ g :: l2).map NodeG.th ++ R)).Perm (NodeG.th g :: (H ++ ((l1 ++ l2).map NodeG.th ++ R))) := by
  simp only [List.map_append, List.map_cons, List.append_assoc, List.cons_append]
  rw [← List.append_assoc H, ← List.append_assoc H]
  exact List.perm_middle
theorem set_ent {l1 l2 : List NodeG} {g g' : NodeG} (hk : g'.key = g.key) (hn : ((l1 ++ g :: l2).map NodeG.key).Nodup) : (l1 ++ g' :: l2).map NodeG.ent = setT g.key g'.n ((l1 ++ g :: l2).map NodeG.ent) := by
  have hne : ∀ x ∈ l1 ++ l2, x.key ≠ g.key := by
    simp only [List.map_append, List.map_cons, List.nodup_append, List.nodup_cons, List.mem_map, List.mem_cons] at hn
    obtain ⟨-, ⟨h2, -⟩, h3⟩ := hn
    intro x hx e
    rcases List.mem_append.1 hx with hx | hx
    · exact h3 _ ⟨x, hx, rfl⟩ _ (.inl rfl) e
    · exact h2 ⟨x, hx, e⟩
  unfold setT
  simp only [List.map_append, List.map_cons, List.map_map]
  have h1 : ∀ l : List NodeG, (∀ x ∈ l, x ∈ l1 ++ l2) → l.map NodeG.ent = l.map ((fun e : Bs × NodeS => if e.1 = g.key then (e.1, g'.n) else e) ∘ NodeG.ent) := fun l hl => List.map_congr_left fun x hx => by
    simp only [Function.comp]
    rw [if_neg (show ¬ x.ent.1 = g.key from hne x (hl x hx))]
  rw [← h1 l1 (fun x hx => by simp [hx]), ← h1 l2 (fun x hx => by simp [hx]), if_pos (show g.ent.1 = g.key from rfl)]
  unfold NodeG.ent
  rw [hk]
/-- A path's node is found where it is. -/
def NodeLook (w : World) (t m x : Nat) (p : Bs) : Prop := w.cell? ⟨t, 1, none⟩ = some (.map (some m)) ∧ ∀ (W : World) (D' : List Nat), Upd w W [] D' → ∀ s : ByteArray, s.data.toList = p → (Instr.lookup 43 (.map (some m)) (.string s) false).run Tryd.prog W = .ok (.pointer (some ⟨x, 0, none⟩)) W
theorem node_look {A : List Thing} {m x : Nat} {p : Bs} {r : Value} {kvs : List (Value × Value)} (hS : Sep w0 w A rows) (hc : ThCell t (.cells #[r, .map (some m)] 45 (0, 0)) ∈ A) (hm : ThMap .string m kvs ∈ A) (hk : (sv p, Value.pointer (some ⟨x, 0, none⟩)) ∈ kvs) : NodeLook w t m x p := by
  obtain ⟨E, hM, -⟩ := hS.has hm
  refine ⟨cell_of (hS.block hc) 1 rfl, fun W D' hu s hs => ?_⟩
  have hM' := hM.frame (w' := W) (hu.keep m hM.lt (by simp))
  refine mp_look hM' Tryd.underlying43 Tryd.underlying9 (key := .string s) trivial ?_ false
  rw [← hs] at hk
  exact hk
/-- A node by itself, and laid back. -/
theorem tree_focus (h : Sep w0 w (ThPool P :: ThTree t S P :: R) rows) {p : Bs} {n : NodeS} (hl : lookT p S.l = some n) :
    ∃ x nv X m, (1, nv, n.names.map sv) ∈ P ∧ Sep w0 w (ThCell x (.cells (n.cells nv) 51 (0, 0)) :: ThPool P :: X) rows ∧ NodeLook w t m x p ∧
      ∀ w' n' nv' P', (∀ r ∈ P, r ∈ P') → (1, nv', n'.names.map sv) ∈ P' → Sep w0 w' (ThCell x (.cells (n'.cells nv') 51 (0, 0)) :: ThPool P' :: X) rows → Sep w0 w' (ThPool P' :: ThTree t { S with l := setT p n' S.l } P' :: R) rows ∧ NodeLook w' t m x p := by
  have h0 := h.perm (List.Perm.swap _ _ _)
  obtain ⟨L, ⟨m, gs, rfl, h1, h2, h3⟩, hS⟩ := h0.opens
  have hm := (look_mem (rise_nodup h2)).1 hl
  obtain ⟨g, hg, he⟩ := List.mem_map.1 (h1.mem_iff.2 hm)
  obtain ⟨l1, l2, rfl⟩ := List.append_of_mem hg
  have hgk : g.key = p ∧ g.n = n := Prod.mk.inj he
  obtain ⟨hk1, hk2⟩ := hgk
  subst hk1 hk2
  have hnd := keys_nodup h1 h2
  let H : List Thing := [ThCell t (.cells #[.int .i64 S.room, .map (some m)] 45 (0, 0)), ThMap .string m ((l1 ++ g :: l2).map NodeG.kv)]
  have e : ∀ (g : NodeG) (Q : List PRow), (H ++ ((l1 ++ g :: l2).map NodeG.th ++ (ThPool Q :: R))).Perm (NodeG.th g :: ThPool Q :: (H ++ ((l1 ++ l2).map NodeG.th ++ R))) := fun g Q => by
    refine (perm_out H l1 l2 g _).trans (List.Perm.cons _ ?_)
    rw [← List.append_assoc, ← List.append_assoc]
    exact List.perm_middle
  have hkm : (sv g.key, Value.pointer (some ⟨g.blk, 0, none⟩)) ∈ (l1 ++ g :: l2).map NodeG.kv := List.mem_map.2 ⟨g, hg, rfl⟩
  refine ⟨g.blk, g.nv, H ++ ((l1 ++ l2).map NodeG.th ++ R), m, h3 g hg, hS.perm (e g P), ?_, fun w' n' nv' P' hP hnv hS' => ⟨?_, ?_⟩⟩
  · exact node_look (r := .int .i64 S.room) (kvs := (l1 ++ g :: l2).map NodeG.kv) hS (by simp [trTh]) (by simp [trTh]) hkm
  · have h5 := hS'.perm (e ⟨g.blk, g.key, n', nv'⟩ P').symm
    refine (Sep.shut (O := TrO t { S with l := setT g.key n' S.l } P') (L := trTh t m S.room (l1 ++ ⟨g.blk, g.key, n', nv'⟩ :: l2)) ⟨m, _, rfl, ?_, setT_rise h2, fun x hx => ?_⟩ ?_).perm (List.Perm.swap _ _ _)
    · rw [set_ent (g := g) (g' := ⟨g.blk, g.key, n', nv'⟩) rfl hnd]
      exact h1.map _
    · rcases List.mem_append.1 hx with hx | hx
      · exact hP _ (h3 x (by simp [hx]))
      · rcases List.mem_cons.1 hx with rfl | hx
        · exact hnv
        · exact hP _ (h3 x (by simp [hx]))
    · have hkv : (l1 ++ (⟨g.blk, g.key, n', nv'⟩ : NodeG) :: l2).map NodeG.kv = (l1 ++ g :: l2).map NodeG.kv := by simp [NodeG.kv]
      unfold trTh
      rw [hkv]
      exact h5
  · exact node_look (r := .int .i64 S.room) (kvs := (l1 ++ g :: l2).map NodeG.kv) hS' (by simp [H]) (by simp [H]) hkm
/-- A node more, at a path where none is. -/
theorem tree_ins {b : Nat} {n : NodeS} {nv : Value} (h : Sep w0 w (ThCell b (.cells (n.cells nv) 51 (0, 0)) :: ThPool P :: ThTree t S P :: R) rows) (hnv : (1, nv, n.names.map sv) ∈ P) (s : ByteArray) (hl : lookT s.data.toList S.l = none) :
    ∃ m w', w.cell? ⟨t, 1, none⟩ = some (.map (some m)) ∧ (Instr.mapUpdate 43 (.map (some m)) (.string s) (.pointer (some ⟨b, 0, none⟩))).run Tryd.prog w = .ok () w' ∧ Sep w0 w' (ThPool P :: ThTree t { S with l := insT s.data.toList n S.l } P :: R) rows := by
  have h0 := h.pick 2 rfl rfl
  obtain ⟨L, ⟨m, gs, rfl, h1, h2, h3⟩, hS⟩ := h0.opens
  have hc := hS.block (b := t) (o := .cells #[.int .i64 S.room, .map (some m)] 45 (0, 0)) (by simp [trTh])
  have h4 := hS.perm (List.Perm.swap _ _ _)
  obtain ⟨w', hrun, hM, hU⟩ := mp_new (P := Tryd.prog) h4.mapIs Tryd.underlying43 Tryd.underlying9 (key := .string s) (v := .pointer (some ⟨b, 0, none⟩)) trivial (fun q hq e => by
    obtain ⟨g, hg, rfl⟩ := List.mem_map.1 hq
    exact look_not.1 hl g.ent (h1.mem_iff.1 (List.mem_map_of_mem hg)) (sv_inj (b := s.data.toList) e))
  have h5 := (h4.mapTo hU hM).perm (List.Perm.swap _ _ _)
  refine ⟨m, w', cell_of hc 1 rfl, hrun, ?_⟩
  refine (Sep.shut (O := TrO t { S with l := insT s.data.toList n S.l } P) (L := trTh t m S.room (gs ++ [⟨b, s.data.toList, n, nv⟩])) ⟨m, _, rfl, ?_, insT_rise h2 hl, fun x hx => ?_⟩ ?_).perm (List.Perm.swap _ _ _)
  · refine List.Perm.trans ?_ (insT_perm _ _ _).symm
    rw [List.map_append]
    refine List.perm_append_comm.trans ?_
    exact List.Perm.cons _ h1
  · rcases List.mem_append.1 hx with hx | hx
    · exact h3 x hx
    · rw [List.mem_singleton.1 hx]; exact hnv
  · have hkv : (gs ++ [(⟨b, s.data.toList, n, nv⟩ : NodeG)]).map NodeG.kv = gs.map NodeG.kv ++ [(.string s, .pointer (some ⟨b, 0, none⟩))] := by simp [NodeG.kv, sv_data]
    unfold trTh
    rw [hkv]
    refine h5.perm ?_
    refine List.Perm.cons _ (List.Perm.cons _ ?_)
    show ((gs.map NodeG.th) ++ (ThCell b (.cells (n.cells nv) 51 (0, 0)) :: (ThPool P :: R))).Perm (((gs ++ [(⟨b, s.data.toList, n, nv⟩ : NodeG)]).map NodeG.th) ++ (ThPool P :: R))
    rw [List.map_append, List.append_assoc]
    exact List.Perm.refl _
end
end Go.Proofs.YtjeaoopamebgjaaDoor
