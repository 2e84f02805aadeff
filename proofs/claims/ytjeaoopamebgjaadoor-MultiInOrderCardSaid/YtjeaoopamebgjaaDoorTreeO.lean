/-
  A tree, opened: its cell, its map, one node, all the others as one thing; and closed again.
-/
import Derived.Test.YtjeaoopamebgjaaDoorTreeF
import Derived.Test.YtjeaoopamebgjaaDoorZs
namespace Go.Av
open Go.RowKit
/-- Some things as one. -/
def ThL (N : List Thing) : Thing := Bun (fun L => L = N)
section
variable {w0 w : World} {R N : List Thing} {rows : List (Value × Bs)}
theorem Sep.opensL (h : Sep w0 w (ThL N :: R) rows) : Sep w0 w (N ++ R) rows := by
  obtain ⟨L, hL, h'⟩ := h.opens
  subst hL
  exact h'
theorem Sep.shutL (h : Sep w0 w (N ++ R) rows) : Sep w0 w (ThL N :: R) rows := Sep.shut (O := fun L => L = N) rfl h
end
theorem mid_perm (A N R : List Thing) : (A ++ (N ++ R)).Perm (N ++ (A ++ R)) := by
  rw [← List.append_assoc, ← List.append_assoc]
  exact List.perm_append_comm.append_right R
theorem setT_same {p : Bs} {n : NodeS} {l : NoL} (hn : (l.map (·.1)).Nodup) (h : lookT p l = some n) : setT p n l = l := by
  unfold setT
  conv => rhs; rw [← List.map_id l]
  apply List.map_congr_left
  intro e he
  by_cases hp : e.1 = p
  · rw [if_pos hp]
    have h1 : (p, e.2) ∈ l := by rw [← hp]; exact he
    have h2 := (look_mem hn).2 h1
    rw [h] at h2
    injection h2 with h2
    subst h2
    rfl
  · rw [if_neg hp]; rfl
end Go.Av
namespace Go.Proofs.YtjeaoopamebgjaaDoor
open Go.RowKit Go.Av
section
variable {w0 w : World} {t : Nat} {S : TreeS} {P P' : List PRow} {R : List Thing} {rows : List (Value × Bs)}
abbrev thTree (t m : Nat) (room : Int) : Thing := ThCell t (.cells #[.int .i64 room, .map (some m)] 45 (0, 0))
abbrev thNode (x : Nat) (n : NodeS) (nv : Value) : Thing := ThCell x (.cells (n.cells nv) 51 (0, 0))
/-- A tree opened at one path's node. -/
theorem tree_at (h : Sep w0 w (ThTree t S P :: R) rows) {p : Bs} {n : NodeS} (hl : lookT p S.l = some n) :
    ∃ m x nv kvs N, (1, nv, n.names.map sv) ∈ P ∧ (sv p, Value.pointer (some ⟨x, 0, none⟩)) ∈ kvs ∧ Sep w0 w (thNode x n nv :: thTree t m S.room :: ThMap .string m kvs :: ThL N :: R) rows ∧
      ∀ w' n' nv' P' R', (∀ r ∈ P, r ∈ P') → (1, nv', n'.names.map sv) ∈ P' → Sep w0 w' (thNode x n' nv' :: thTree t m S.room :: ThMap .string m kvs :: ThL N :: R') rows → Sep w0 w' (ThTree t { S with l := setT p n' S.l } P' :: R') rows := by
  obtain ⟨L, ⟨m, gs, rfl, h1, h2, h3⟩, hS⟩ := h.opens
  have hm := (look_mem (rise_nodup h2)).1 hl
  obtain ⟨g, hg, he⟩ := List.mem_map.1 (h1.mem_iff.2 hm)
  obtain ⟨l1, l2, rfl⟩ := List.append_of_mem hg
  obtain ⟨hk1, hk2⟩ := Prod.mk.inj he
  have hk1 : g.key = p := hk1
  have hk2 : g.n = n := hk2
  subst hk1 hk2
  have hnd := keys_nodup h1 h2
  have e : ∀ (g : NodeG) (R : List Thing), (NodeG.th g :: thTree t m S.room :: ThMap .string m ((l1 ++ g :: l2).map NodeG.kv) :: ((l1 ++ l2).map NodeG.th ++ R)).Perm (trTh t m S.room (l1 ++ g :: l2) ++ R) := fun g R => by
    unfold trTh
    exact (perm_out [thTree t m S.room, ThMap .string m ((l1 ++ g :: l2).map NodeG.kv)] l1 l2 g R).symm
  refine ⟨m, g.blk, g.nv, (l1 ++ g :: l2).map NodeG.kv, (l1 ++ l2).map NodeG.th, h3 g hg, List.mem_map.2 ⟨g, hg, rfl⟩, ?_, fun w' n' nv' P' R' hP hnv hS' => ?_⟩
  · have h5 := hS.perm (e g R).symm
    exact (Sep.shutL (N := (l1 ++ l2).map NodeG.th) (h5.perm (mid_perm [NodeG.th g, thTree t m S.room, ThMap .string m ((l1 ++ g :: l2).map NodeG.kv)] _ R))).perm (List.perm_middle (l₁ := [_, _, _])).symm
  · refine Sep.shut (O := TrO t { S with l := setT g.key n' S.l } P') (L := trTh t m S.room (l1 ++ ⟨g.blk, g.key, n', nv'⟩ :: l2)) ⟨m, _, rfl, ?_, setT_rise h2, fun x hx => ?_⟩ ?_
    · rw [set_ent (g := g) (g' := ⟨g.blk, g.key, n', nv'⟩) rfl hnd]
      exact h1.map _
    · rcases List.mem_append.1 hx with hx | hx
      · exact hP _ (h3 x (by simp [hx]))
      · rcases List.mem_cons.1 hx with rfl | hx
        · exact hnv
        · exact hP _ (h3 x (by simp [hx]))
    · have h6 := (hS'.perm (List.perm_middle (l₁ := [_, _, _]))).opensL
      have h7 : Sep w0 w' (thNode g.blk n' nv' :: thTree t m S.room :: ThMap .string m ((l1 ++ g :: l2).map NodeG.kv) :: ((l1 ++ l2).map NodeG.th ++ R')) rows := h6.perm (mid_perm [_, _, _] _ R').symm
      have hkv : (l1 ++ (⟨g.blk, g.key, n', nv'⟩ : NodeG) :: l2).map NodeG.kv = (l1 ++ g :: l2).map NodeG.kv := by simp [NodeG.kv]
      have h9 := e ⟨g.blk, g.key, n', nv'⟩ R'
      rw [hkv] at h9
      exact h7.perm h9
/-- A tree opened, where a path has no node. -/
theorem tree_off (h : Sep w0 w (ThTree t S P :: R) rows) {p : Bs} (hl : lookT p S.l = none) :
    ∃ m kvs N, (∀ e ∈ kvs, e.1 ≠ sv p) ∧ Sep w0 w (thTree t m S.room :: ThMap .string m kvs :: ThL N :: R) rows ∧
      ∀ w' P' R', (∀ r ∈ P, r ∈ P') → Sep w0 w' (thTree t m S.room :: ThMap .string m kvs :: ThL N :: R') rows → Sep w0 w' (ThTree t S P' :: R') rows := by
  obtain ⟨L, ⟨m, gs, rfl, h1, h2, h3⟩, hS⟩ := h.opens
  refine ⟨m, gs.map NodeG.kv, gs.map NodeG.th, fun q hq e => ?_, ?_, fun w' P' R' hP hS' => ?_⟩
  · obtain ⟨g, hg, rfl⟩ := List.mem_map.1 hq
    exact look_not.1 hl g.ent (h1.mem_iff.1 (List.mem_map_of_mem hg)) (sv_inj e)
  · refine (Sep.shutL (N := gs.map NodeG.th) (R := thTree t m S.room :: ThMap .string m (gs.map NodeG.kv) :: R) (hS.perm ?_)).perm (List.perm_middle (l₁ := [_, _])).symm
    exact mid_perm [_, _] _ R
  · refine Sep.shut (O := TrO t S P') (L := trTh t m S.room gs) ⟨m, gs, rfl, h1, h2, fun g hg => hP _ (h3 g hg)⟩ ?_
    have h6 := (hS'.perm (List.perm_middle (l₁ := [_, _]))).opensL
    exact h6.perm (mid_perm [_, _] _ R').symm
/-- What a look-up tells. -/
theorem look_hit {Ts : List Thing} {m x : Nat} {kvs : List (Value × Value)} (H : Hid (Sep w0 w Ts rows)) (s : ByteArray) (hm : ThMap .string m kvs ∈ Ts) (hk : (sv s.data.toList, Value.pointer (some ⟨x, 0, none⟩)) ∈ kvs) :
    (Instr.lookup 43 (.map (some m)) (.string s) false).run Tryd.prog w = .ok (.pointer (some ⟨x, 0, none⟩)) w := by
  obtain ⟨E, hM, -⟩ := H.out.has hm
  exact mp_look hM Tryd.underlying43 Tryd.underlying9 (key := .string s) trivial hk false
theorem look_miss {Ts : List Thing} {m : Nat} {kvs : List (Value × Value)} (H : Hid (Sep w0 w Ts rows)) (s : ByteArray) (hm : ThMap .string m kvs ∈ Ts) (hk : ∀ e ∈ kvs, e.1 ≠ sv s.data.toList) :
    (Instr.lookup 43 (.map (some m)) (.string s) false).run Tryd.prog w = .ok (.pointer none) w := by
  obtain ⟨E, hM, -⟩ := H.out.has hm
  exact mp_lookN hM Tryd.underlying43 Tryd.underlying9 (key := .string s) trivial hk (zeroNode _) false
/-- A key's value is another one. -/
theorem Sep.mapSet {m : Nat} {k1 k2 : List (Value × Value)} {key u v : Value} (h : Sep w0 w (ThMap .string m (k1 ++ (key, u) :: k2) :: R) rows) (hkey : MapKept.IsKey .string key) :
    ∃ w', (Instr.mapUpdate 43 (.map (some m)) key v).run Tryd.prog w = .ok () w' ∧ Sep w0 w' (ThMap .string m (k1 ++ (key, v) :: k2) :: R) rows := by
  obtain ⟨w', hrun, hM, hU⟩ := mp_old (P := Tryd.prog) (v := v) h.mapIs Tryd.underlying43 Tryd.underlying9 hkey
  exact ⟨w', hrun, h.mapTo hU hM⟩
end
end Go.Proofs.YtjeaoopamebgjaaDoor
