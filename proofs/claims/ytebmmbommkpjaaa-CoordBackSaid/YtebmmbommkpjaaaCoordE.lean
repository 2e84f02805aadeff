/-
  Decisions: Abort, Vote, Done.
-/
import Derived.Test.YtebmmbommkpjaaaCoordD
namespace Go.Proofs.Ytebmmbommkpjaaa
open Go.RowKit Go.Av

def EntG.upd (g : EntG) (x : EntS) : EntG := { g with x := x }
section
variable {w0 w : World} {c m : Nat} {S : CoS} {l1 l2 : List EntG} {g : EntG} {R : List Thing} {rows : List (Value × Bs)}

theorem wf_turn {x : EntS} (hwf : ∀ e ∈ (l1 ++ g :: l2).map EntG.ent, okE e) (hx : x.wf) : ∀ e ∈ (l1 ++ g.upd x :: l2).map EntG.ent, okE e := by
  intro e he
  have hg := (hwf g.ent (by simp)).2
  simp only [List.map_append, List.map_cons, List.mem_append, List.mem_cons] at he hwf
  rcases he with he | rfl | he
  · exact hwf e (.inl he)
  · exact ⟨hx, hg⟩
  · exact hwf e (.inr (.inr he))
theorem CoF.wf (h : CoF w0 w c m l1 g l2 R rows) : g.x.wf := (h.1 g.ent (by simp)).1
theorem CoF.setDec (h : CoF w0 w c m l1 g l2 R rows) (v : Int) : CoF w0 (w.setCell ⟨g.p, 2, none⟩ (.int .i64 v)) c m l1 (g.upd { g.x with dec := v }) l2 R rows := by
  have hw := h.wf
  have := h.2.set 2 (.int .i64 v)
  refine ⟨wf_turn h.1 hw, ?_⟩
  simp only [List.map_append, List.map_cons] at this ⊢
  exact this
theorem CoF.setVote (h : CoF w0 w c m l1 g l2 R rows) {i : Nat} (hi : i < g.x.votes.length) :
    ∃ y n c', g.vv = .slice (some y) n c' ∧ n = g.x.votes.length ∧ n ≤ c' ∧ c' ≤ 2 ^ 63 - 1 ∧ y.spot = none ∧ w.cell? (y.add i) = some (.int .i64 g.x.votes[i]) ∧ w.frozen? (y.add i) = false ∧
      ∀ v, CoF w0 (w.setCell (y.add i) (.int .i64 v)) c m l1 (g.upd { g.x with votes := g.x.votes.set i v }) l2 R rows := by
  have hw := h.wf
  obtain ⟨hwf, hS⟩ := h
  have h2 := hS.perm (List.perm_middle (l₁ := [_, _]))
  obtain ⟨id, p, vs, vv, vo, x⟩ := g
  obtain ⟨a, n, c', hv, hl, hn, hc⟩ := h2.rowLen
  simp only at hv
  subst hv
  rw [List.length_map, Nat.mul_one] at hl
  have hl' : x.votes.length = n := hl
  have hi' : i < x.votes.length := hi
  have hin : i < n := by omega
  obtain ⟨y, rfl, hsp, hcell⟩ := h2.rowCell (i := i) (x := iv x.votes[i]) (by rw [List.getElem?_map, List.getElem?_eq_getElem hi]; rfl)
  refine ⟨y, n, c', rfl, hl.symm, hn, hc, hsp, hcell, (h2.rowSet (i := i) hin (iv 0)).1, fun v => ⟨wf_turn hwf ⟨by simpa using hw.1, hw.2⟩, ?_⟩⟩
  obtain ⟨-, -, -, h5⟩ := h2.rowSet (i := i) hin (iv v)
  rw [show (x.votes.map iv).set i (iv v) = (x.votes.set i v).map iv by rw [List.map_set]] at h5
  have h6 := h5.perm (List.perm_middle (l₁ := [_, _])).symm
  simp only [List.map_append, List.map_cons] at h6 ⊢
  exact h6
theorem CoF.setOwes (h : CoF w0 w c m l1 g l2 R rows) (q : Int → Bool) :
    ∃ R', Sep w0 w (ThRow 1 g.vo (g.x.owes.map iv) :: R') rows ∧ ThCell g.p (.cells #[g.vs, g.vv, .int .i64 g.x.dec, g.vo] 69 (0, 0)) ∈ R' ∧ (∀ T ∈ R, T ∈ R') ∧
      ∀ (w' : World) v, Sep w0 w' (ThRow 1 v ((g.x.owes.filter q).map iv) :: R') rows → w'.heap[g.p]? = some (.cells #[g.vs, g.vv, .int .i64 g.x.dec, g.vo] 69 (0, 0)) ∧
        CoF w0 (w'.setCell ⟨g.p, 3, none⟩ v) c m l1 ({ g with vo := v, x := { g.x with owes := g.x.owes.filter q } }) l2 R rows := by
  have hw := h.wf
  obtain ⟨hwf, hS⟩ := h
  have h2 := hS.perm (List.perm_middle (l₁ := [_, _, _]))
  refine ⟨_, h2, by simp, fun T hT => by simp [hT], fun w' v h3 => ?_⟩
  have h4 := h3.perm (List.perm_middle (l₁ := [_, _, _])).symm
  have hg := (hwf g.ent (by simp)).2
  refine ⟨h4.blk, fun e he => ?_, ?_⟩
  · simp only [List.map_append, List.map_cons, List.mem_append, List.mem_cons] at he hwf
    rcases he with he | rfl | he
    · exact hwf e (.inl he)
    · exact ⟨⟨hw.1, hw.2.1, Nat.le_trans (List.length_filter_le _ _) hw.2.2⟩, hg⟩
    · exact hwf e (.inr (.inr he))
  · have h5 := h4.set 3 v
    simp only [List.map_append, List.map_cons] at h5 ⊢
    exact h5

def putS (id : Int) (φ : EntS → EntS) (S : CoS) : CoS := S.map fun e => if e.1 = id then (e.1, φ e.2) else e
theorem put_mid {id : Int} {S1 S2 : CoS} {x : EntS} (φ : EntS → EntS) (h1 : ∀ e ∈ S1, e.1 ≠ id) (h2 : ∀ e ∈ S2, e.1 ≠ id) : putS id φ (S1 ++ (id, x) :: S2) = S1 ++ (id, φ x) :: S2 := by
  unfold putS
  rw [List.map_append, List.map_cons]
  congr 1
  · rw [List.map_congr_left (g := _root_.id) (fun e he => by simp [h1 e he]), List.map_id]
  · rw [if_pos rfl, List.map_congr_left (g := _root_.id) (fun e he => by simp [h2 e he]), List.map_id]
/-- Ids stand once. -/
theorem CoF.once (h : CoF w0 w c m l1 g l2 R rows) : (∀ e ∈ l1.map EntG.ent, e.1 ≠ g.id) ∧ ∀ e ∈ l2.map EntG.ent, e.1 ≠ g.id := by
  obtain ⟨E, hM, -⟩ := h.2.has (T := ThMap (.int .i64) m ((l1 ++ g :: l2).map EntG.kv)) (by simp [coHead])
  have hn := hM.nodup
  rw [List.map_map, List.map_append, List.map_cons, List.nodup_append, List.nodup_cons] at hn
  obtain ⟨-, ⟨h3, -⟩, h5⟩ := hn
  refine ⟨fun e he heq => ?_, fun e he heq => ?_⟩
  · obtain ⟨q, hq, rfl⟩ := List.mem_map.1 he
    refine h5 _ (List.mem_map_of_mem hq) _ (List.mem_cons_self ..) ?_
    simp only [Function.comp, EntG.kv]
    rw [show q.id = g.id from heq]
  · obtain ⟨q, hq, rfl⟩ := List.mem_map.1 he
    refine h3 ?_
    have : q.id = g.id := heq
    simp only [Function.comp, EntG.kv, List.mem_map]
    exact ⟨q, hq, by rw [this]⟩
theorem CoF.put (h : CoF w0 w c m l1 g l2 R rows) {x : EntS} (φ : EntS → EntS) (hx : φ g.x = x) : (l1 ++ g.upd x :: l2).map EntG.ent = putS g.id φ ((l1 ++ g :: l2).map EntG.ent) := by
  obtain ⟨h1, h2⟩ := h.once
  rw [List.map_append, List.map_cons, List.map_append, List.map_cons, show g.ent = (g.id, g.x) from rfl, put_mid φ h1 h2, hx]
  rfl

def abortF (x : EntS) : EntS := if x.dec = 0 then { x with dec := 2 } else x
def abortS (S : CoS) (id : Int) : Bool × Int × CoS := match lookS id S with | none => (false, 4, S) | some x => ((abortF x).dec == 1, 0, putS id abortF S)

set_option maxRecDepth 100000 in
set_option maxHeartbeats 400000 in
theorem abort_any (h : Co w0 w c S R rows) (id : Int) :
    Calls Try.prog 19 #[.pointer (some ⟨c, 0, none⟩), .int .i64 id] w fun e w' => e = .returned (.tuple #[.bool (abortS S id).1, .int .i64 (abortS S id).2.1]) ∧ Co w0 w' c (abortS S id).2.2 R rows := by
  unfold abortS
  cases hx : lookS id S with
  | none =>
    obtain ⟨m, hc, hl⟩ := h.absent hx
    have hl := hl w rfl
    have H := Lib.hid h
    clear h hx
    go_enter Try.func19, Try.ntmps19
    go_wp2_with fail
    go_ret2
    exact ⟨rfl, H.out⟩
  | some x =>
    obtain ⟨m, l1, g, l2, rfl, rfl, hF, -, hSS⟩ := h.take hx
    obtain ⟨hc, hl, hp⟩ := hF.facts
    have hl := hl w rfl
    have c2 := cell_of hp 2 rfl
    have y2 := frz_of hp 2
    show Calls _ _ _ _ (fun e w' => e = .returned (.tuple #[.bool ((abortF g.x).dec == 1), .int .i64 0]) ∧ Co w0 w' c (putS g.id abortF S) R rows)
    by_cases hd : g.x.dec = 0
    · have hS2 := (hF.setDec 2).back
      rw [hF.put abortF (by unfold abortF; rw [if_pos hd]), ← hSS] at hS2
      have H := Lib.hid hS2
      have e1 : ((abortF g.x).dec == 1) = false := by unfold abortF; rw [if_pos hd]; rfl
      rw [e1]
      rw [show (#[g.vs, g.vv, Value.int .i64 g.x.dec, g.vo] : Array Value)[2] = .int .i64 0 by simp [hd]] at c2
      clear h hx hF hSS hp hS2 hd e1
      go_enter Try.func19, Try.ntmps19
      go_wp2_with fail
      go_ret2
      exact ⟨rfl, H.out⟩
    · have hS2 := hF.back
      have hput := hF.put (x := g.x) abortF (by unfold abortF; rw [if_neg hd])
      rw [show g.upd g.x = g from rfl, ← hSS] at hput
      rw [← hSS] at hS2
      rw [← hput]
      have H := Lib.hid hS2
      have e1 : ((abortF g.x).dec == 1) = (g.x.dec == 1) := by unfold abortF; rw [if_neg hd]
      rw [e1]
      have hd' : (g.x.dec == 0) = false := by simp [hd]
      clear h hx hF hSS hp hS2 hd e1 hput
      go_enter Try.func19, Try.ntmps19
      go_wp2_with fail
      go_ret2
      exact ⟨rfl, H.out⟩
end
end Go.Proofs.Ytebmmbommkpjaaa
