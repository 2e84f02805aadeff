/-
  Decisions in memory: an entry taken up, laid back; the calls that change none.
-/
import Derived.Test.YtebmmbommkpjaaaCoordC
namespace Go.Proofs.Ytebmmbommkpjaaa
open Go.RowKit Go.Av

structure EntS where
  shards : List Int
  votes : List Int
  dec : Int
  owes : List Int
def EntS.wf (x : EntS) : Prop := x.votes.length = x.shards.length ∧ x.shards.length ≤ 4 ∧ x.owes.length ≤ 4
def okE (e : Int × EntS) : Prop := e.2.wf ∧ 1 ≤ e.1 ∧ e.1 ≤ 9223372036854775807
structure EntG where
  id : Int
  p : Nat
  vs : Value
  vv : Value
  vo : Value
  x : EntS
def EntG.th (g : EntG) : List Thing :=
  [ThCell g.p (.cells #[g.vs, g.vv, .int .i64 g.x.dec, g.vo] 69 (0, 0)), ThRow 1 g.vs (g.x.shards.map iv), ThRow 1 g.vv (g.x.votes.map iv), ThRow 1 g.vo (g.x.owes.map iv)]
def EntG.kv (g : EntG) : Value × Value := (.int .i64 g.id, .pointer (some ⟨g.p, 0, none⟩))
def EntG.ent (g : EntG) : Int × EntS := (g.id, g.x)
abbrev CoS := List (Int × EntS)
def coHead (c m : Nat) (kvs : List (Value × Value)) : List Thing := [ThCell c (.cells #[.map (some m)] 64 (0, 0)), ThMap (.int .i64) m kvs]
/-- All that is to be decided, in memory. -/
def Co (w0 w : World) (c : Nat) (S : CoS) (R : List Thing) (rows : List (Value × Bs)) : Prop :=
  ∃ (m : Nat) (gs : List EntG), gs.map EntG.ent = S ∧ (∀ e ∈ S, okE e) ∧ Sep w0 w (coHead c m (gs.map EntG.kv) ++ (gs.flatMap EntG.th ++ R)) rows
/-- One entry taken up. -/
def CoF (w0 w : World) (c m : Nat) (l1 : List EntG) (g : EntG) (l2 : List EntG) (R : List Thing) (rows : List (Value × Bs)) : Prop :=
  (∀ e ∈ (l1 ++ g :: l2).map EntG.ent, okE e) ∧ Sep w0 w (g.th ++ (coHead c m ((l1 ++ g :: l2).map EntG.kv) ++ ((l1 ++ l2).flatMap EntG.th ++ R))) rows

theorem zeroEnt (w : World) : (zeroValue 66).run Try.prog w = .ok (.pointer none) w := by kernel_rfl

theorem perm_focus (P : List Thing) (l1 l2 : List EntG) (g : EntG) (R : List Thing) : (P ++ ((l1 ++ g :: l2).flatMap EntG.th ++ R)).Perm (g.th ++ (P ++ ((l1 ++ l2).flatMap EntG.th ++ R))) := by
  simp only [List.flatMap_append, List.flatMap_cons, List.append_assoc]
  refine (List.Perm.append_left P (List.perm_append_comm_assoc _ _ _)).trans ?_
  exact List.perm_append_comm_assoc _ _ _

def lookS (id : Int) (S : CoS) : Option EntS := (S.find? fun e => decide (e.1 = id)).map (·.2)
theorem look_some {id : Int} {S : CoS} {x : EntS} (h : lookS id S = some x) : ∃ S1 S2, S = S1 ++ (id, x) :: S2 ∧ ∀ e ∈ S1, e.1 ≠ id := by
  unfold lookS at h
  cases hf : S.find? (fun e => decide (e.1 = id)) with
  | none => rw [hf] at h; cases h
  | some e =>
    rw [hf] at h
    cases h
    obtain ⟨hp, S1, S2, hS, hb⟩ := List.find?_eq_some_iff_append.1 hf
    have he : e.1 = id := by simpa using hp
    subst he
    exact ⟨S1, S2, hS, fun q hq => by simpa using hb q hq⟩
theorem look_none {id : Int} {S : CoS} (h : lookS id S = none) : ∀ e ∈ S, e.1 ≠ id := by
  unfold lookS at h
  rw [Option.map_eq_none_iff, List.find?_eq_none] at h
  exact fun e he => by simpa using h e he
theorem look_mid {id : Int} {S1 S2 : CoS} {x : EntS} (h : ∀ e ∈ S1, e.1 ≠ id) : lookS id (S1 ++ (id, x) :: S2) = some x := by
  unfold lookS
  rw [List.find?_append, List.find?_eq_none.2 (fun e he => by simpa using h e he)]
  simp

section
variable {w0 w : World} {c m : Nat} {S : CoS} {l1 l2 : List EntG} {g : EntG} {R : List Thing} {rows : List (Value × Bs)}

theorem Co.take (h : Co w0 w c S R rows) {id : Int} {x : EntS} (hx : lookS id S = some x) :
    ∃ m l1 g l2, g.id = id ∧ g.x = x ∧ CoF w0 w c m l1 g l2 R rows ∧ (∀ e ∈ l1.map EntG.ent, e.1 ≠ id) ∧ S = (l1 ++ g :: l2).map EntG.ent := by
  obtain ⟨m, gs, rfl, hwf, hS⟩ := h
  obtain ⟨S1, S2, hS12, hb⟩ := look_some hx
  obtain ⟨l1, l2', h1, h2, h3⟩ := List.map_eq_append_iff.1 hS12
  obtain ⟨g, l2, h4, h5, h6⟩ := List.map_eq_cons_iff.1 h3
  subst h1 h4
  have hg : g.id = id ∧ g.x = x := by unfold EntG.ent at h5; cases h5; exact ⟨rfl, rfl⟩
  refine ⟨m, l1, g, l2, hg.1, hg.2, ⟨hwf, ?_⟩, by rw [h2]; exact hb, rfl⟩
  have := hS.perm (perm_focus (coHead c m ((l1 ++ g :: l2).map EntG.kv)) l1 l2 g R)
  exact this
theorem CoF.back (h : CoF w0 w c m l1 g l2 R rows) : Co w0 w c ((l1 ++ g :: l2).map EntG.ent) R rows := by
  obtain ⟨hwf, hS⟩ := h
  exact ⟨m, l1 ++ g :: l2, rfl, hwf, hS.perm (perm_focus (coHead c m ((l1 ++ g :: l2).map EntG.kv)) l1 l2 g R).symm⟩
theorem Co.below (h : Co w0 w c S R rows) : Below w0.heap.size w0 w := by
  obtain ⟨m, gs, _, _, hS⟩ := h
  exact hS.below
theorem Co.keep (h : Co w0 w c S R rows) {w' : World} {D' : List Nat} (hu : Upd w w' [] D') : Co w0 w' c S R rows := by
  obtain ⟨m, gs, h1, h2, hS⟩ := h
  exact ⟨m, gs, h1, h2, hS.keep hu⟩

/-- What an entry's calls read. -/
theorem CoF.facts (h : CoF w0 w c m l1 g l2 R rows) : w.cell? ⟨c, 0, none⟩ = some (.map (some m)) ∧
    (∀ W : World, W.heap = w.heap → (Instr.lookup 62 (.map (some m)) (.int .i64 g.id) false).run Try.prog W = .ok (.pointer (some ⟨g.p, 0, none⟩)) W) ∧
    w.heap[g.p]? = some (.cells #[g.vs, g.vv, .int .i64 g.x.dec, g.vo] 69 (0, 0)) := by
  obtain ⟨hwf, hS⟩ := h
  have hc := hS.block (b := c) (o := .cells #[.map (some m)] 64 (0, 0)) (by simp [coHead])
  have hp := hS.block (b := g.p) (o := .cells #[g.vs, g.vv, .int .i64 g.x.dec, g.vo] 69 (0, 0)) (by simp [EntG.th])
  obtain ⟨E, hM, -⟩ := hS.has (T := ThMap (.int .i64) m ((l1 ++ g :: l2).map EntG.kv)) (by simp [coHead])
  refine ⟨cell_of hc 0 rfl, fun W hW => ?_, hp⟩
  have hM' := hM.frame (w' := W) (by rw [hW])
  exact mp_look hM' Try.underlying62 Try.underlying2 (show MapKept.IsKey (.int .i64) (.int .i64 g.id) from rfl) (by simp [EntG.kv]) false
theorem Co.absent (h : Co w0 w c S R rows) {id : Int} (hx : lookS id S = none) : ∃ m, w.cell? ⟨c, 0, none⟩ = some (.map (some m)) ∧
    ∀ W : World, W.heap = w.heap → (Instr.lookup 62 (.map (some m)) (.int .i64 id) false).run Try.prog W = .ok (.pointer none) W := by
  obtain ⟨m, gs, rfl, hwf, hS⟩ := h
  have hn := look_none hx
  have hc := hS.block (b := c) (o := .cells #[.map (some m)] 64 (0, 0)) (by simp [coHead])
  obtain ⟨E, hM, -⟩ := hS.has (T := ThMap (.int .i64) m (gs.map EntG.kv)) (by simp [coHead])
  refine ⟨m, cell_of hc 0 rfl, fun W hW => ?_⟩
  have hM' := hM.frame (w' := W) (by rw [hW])
  refine mp_lookN hM' Try.underlying62 Try.underlying2 (show MapKept.IsKey (.int .i64) (.int .i64 id) from rfl) (fun q hq => ?_) (zeroEnt _) false
  obtain ⟨g, hg, rfl⟩ := List.mem_map.1 hq
  intro e
  unfold EntG.kv at e
  simp only [Value.int.injEq, true_and] at e
  exact hn (g.ent) (List.mem_map_of_mem hg) e

set_option maxHeartbeats 400000 in
theorem new_coord (h : Sep w0 w R rows) : Calls Try.prog 11 #[] w fun e w' => ∃ c, e = .returned (.pointer (some ⟨c, 0, none⟩)) ∧ Co w0 w' c [] R rows := by
  have h1 := (h.newMap (.int .i64)).newCell (.cells #[.map (some w.heap.size)] 64 (0, 0))
  have H := Lib.hid h1
  clear h h1
  have hmm := @run_makeMap Try.prog
  go_enter Try.func11, Try.ntmps11
  go_wp2_with fail
  go_ret
  exact ⟨_, rfl, _, [], rfl, by simp, by simpa [coHead] using H.out⟩

def findR (c : CoS) (id k : Int) (p : Nat) : Value := match lookS id c with
  | none => .tuple #[.pointer none, .int .i64 (-1)]
  | some x => .tuple #[.pointer (some ⟨p, 0, none⟩), .int .i64 (idxS k x.shards)]

set_option maxHeartbeats 400000 in
theorem find_no (h : Co w0 w c S R rows) (id k : Int) (hx : lookS id S = none) :
    Calls Try.prog 35 #[.pointer (some ⟨c, 0, none⟩), .int .i64 id, .int .i64 k] w fun e w' => e = .returned (.tuple #[.pointer none, .int .i64 (-1)]) ∧ w' = w := by
  obtain ⟨m, hc, hl⟩ := h.absent hx
  have hl := hl w rfl
  clear h hx
  go_enter Try.func35, Try.ntmps35
  go_wp2_with fail
  go_ret2
  exact ⟨rfl, rfl⟩
set_option maxHeartbeats 400000 in
theorem find_yes (h : CoF w0 w c m l1 g l2 R rows) (k : Int) :
    Calls Try.prog 35 #[.pointer (some ⟨c, 0, none⟩), .int .i64 g.id, .int .i64 k] w fun e w' => e = .returned (.tuple #[.pointer (some ⟨g.p, 0, none⟩), .int .i64 (idxS k g.x.shards)]) ∧ w' = w := by
  obtain ⟨hc, hl, hp⟩ := h.facts
  have hl := hl w rfl
  have c0 := cell_of hp 0 rfl
  obtain ⟨E, hE⟩ := (h.2.perm (List.perm_middle (l₁ := [_]))).readRow
  have HE := Lib.hid hE
  clear h hp hE
  go_enter Try.func35, Try.ntmps35
  go_wp2_with fail
  refine (index_any _ _ k E w HE.out).mono ?_
  rintro e w1 ⟨rfl, rfl⟩
  go_wp2_with fail
  go_ret2
  exact ⟨rfl, rfl⟩

def decS (S : CoS) (id : Int) : Bool × Bool := match lookS id S with | none => (false, false) | some x => (x.dec == 1, x.dec != 0)
set_option maxRecDepth 100000 in
set_option maxHeartbeats 400000 in
theorem decision_any (h : Co w0 w c S R rows) (id : Int) :
    Calls Try.prog 18 #[.pointer (some ⟨c, 0, none⟩), .int .i64 id] w fun e w' => e = .returned (.tuple #[.bool (decS S id).1, .bool (decS S id).2]) ∧ Co w0 w' c S R rows := by
  unfold decS
  cases hx : lookS id S with
  | none =>
    obtain ⟨m, hc, hl⟩ := h.absent hx
    have hl := hl w rfl
    have H := Lib.hid h
    clear h hx
    go_enter Try.func18, Try.ntmps18
    go_wp2_with fail
    go_ret2
    exact ⟨rfl, H.out⟩
  | some x =>
    obtain ⟨m, l1, g, l2, rfl, rfl, hF, -, hSS⟩ := h.take hx
    obtain ⟨hc, hl, hp⟩ := hF.facts
    have hl := hl w rfl
    have c2 := cell_of hp 2 rfl
    have H := Lib.hid h
    obtain ⟨b1, hb1⟩ : ∃ b, (g.x.dec == 1) = b := ⟨_, rfl⟩
    obtain ⟨b2, hb2⟩ : ∃ b, (g.x.dec != 0) = b := ⟨_, rfl⟩
    show Calls _ _ _ _ (fun e w' => e = .returned (.tuple #[.bool (g.x.dec == 1), .bool (g.x.dec != 0)]) ∧ _)
    rw [hb1, hb2]
    clear h hx hF hSS hp
    go_enter Try.func18, Try.ntmps18
    go_wp2_with fail
    refine wp_region_M (fun W => W.cell? ⟨g.p, 2, none⟩ = some (.int .i64 g.x.dec)) 12 (by kernel_rfl) ?_
    refine wpAnyM_take (by kernel_rfl) (by intro c a d v w h; cases d <;> exact h) [(0, false), (1, false), (2, false), (3, true), (4, false), (5, false), (6, false), (7, false), (8, true), (9, false), (10, false), (11, false)] (fuel := 0) (by kernel_rfl) ?_
    apply Exists.intro; refine ⟨?_, c2, ?_⟩
    · iterate 12 ((first | (apply yieldN; (· (simp only [List.getElem?_toArray, List.getElem?_cons_succ, List.getElem?_cons_zero]; try rfl)); (· rfl)) | ((first | apply yieldP | apply yieldL); (· (simp only [List.getElem?_toArray, List.getElem?_cons_succ, List.getElem?_cons_zero]; try rfl)); (· rfl); (· (intros; go_simp; try with_reducible rfl)))); (· (simp only [Act.put, List.setIfInBounds_toArray, List.set_cons_zero, List.set_cons_succ]; try rfl)))
      exact rfl
    refine wpAnyM_done (by kernel_rfl) ?_ _
    go_wp2_with fail
    go_ret2
    exact ⟨rfl, H.out.keep (Upd.refl w []).drew⟩

def owesS (S : CoS) (id : Int) : List Int := match lookS id S with | none => [] | some x => x.owes
set_option maxHeartbeats 400000 in
theorem owes_any (h : Co w0 w c S R rows) (id : Int) :
    Calls Try.prog 16 #[.pointer (some ⟨c, 0, none⟩), .int .i64 id] w fun e w' => ∃ v D, e = .returned v ∧ OwnRow w' 1 v ((owesS S id).map iv) D ∧ Upd w w' [] D := by
  unfold owesS
  cases hx : lookS id S with
  | none =>
    obtain ⟨m, hc, hl⟩ := h.absent hx
    have hl := hl w rfl
    clear h hx
    go_enter Try.func16, Try.ntmps16
    go_wp2_with fail
    go_ret
    exact ⟨_, [], rfl, OwnRow.nil _ _, Upd.refl _ _⟩
  | some x =>
    obtain ⟨m, l1, g, l2, rfl, rfl, hF, -, hSS⟩ := h.take hx
    obtain ⟨hc, hl, hp⟩ := hF.facts
    have hl := hl w rfl
    have c3 := cell_of hp 3 rfl
    obtain ⟨E, hE⟩ := (hF.2.perm (List.perm_middle (l₁ := [_, _, _]))).readRow
    have hlen : g.x.owes.length ≤ 4 := (hF.1 g.ent (by simp)).1.2.2
    have HE := Lib.hid hE
    clear h hx hF hSS hp hE
    go_enter Try.func16, Try.ntmps16
    go_wp2_with fail
    refine (cloneI_any _ _ E w HE.out (by omega)).mono ?_
    rintro e w1 ⟨v, D, rfl, ho, hu⟩
    have HO := Lib.hid (show _ ∧ _ from ⟨ho, hu⟩)
    clear ho hu
    go_wp2_with fail
    go_ret
    exact ⟨_, D, rfl, HO.out.1, HO.out.2⟩
end
end Go.Proofs.Ytebmmbommkpjaaa
