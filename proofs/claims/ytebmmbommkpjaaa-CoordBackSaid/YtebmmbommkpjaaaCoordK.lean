/-
  Decisions: an act of any kind; two that stand side by side.
-/
import Derived.Test.YtebmmbommkpjaaaActIn
namespace Go.Proofs.Ytebmmbommkpjaaa
open Go.RowKit Go.Av

/-- What an act does to what is kept. -/
def stepS (S : CoS) (op id : Int) (l : List Int) (sh : Int) (yes : Bool) : CoS :=
  if op = 0 then (beginS S id l).2 else if op = 1 then (voteS S id sh yes).2 else if op = 2 then (doneS S id sh).2 else if op = 3 then (abortS S id).2.2 else S

theorem Co.cellR {w0 w : World} {c : Nat} {S : CoS} {R : List Thing} {rows : List (Value × Bs)} {q : Nat} {o : Obj} (h : Co w0 w c S (ThCell q o :: R) rows) : w.heap[q]? = some o := by
  obtain ⟨m, gs, h1, h2, hS⟩ := h
  obtain ⟨E, hP, -⟩ := hS.has (T := ThCell q o) (by simp)
  exact hP

set_option maxRecDepth 100000 in
set_option maxHeartbeats 4000000 in
theorem step_any {w0 w : World} {c : Nat} {S : CoS} {R : List Thing} {rows : List (Value × Bs)} (h : Co w0 w c S R rows) (op id : Int) (v : Value) (l : List Int) (E : List Nat) (sh : Int) (yes : Bool) (hid : id ≤ 9223372036854775807) (hv : ReadRow w 1 v (l.map iv) E) :
    Calls Try.prog 20 #[.pointer (some ⟨c, 0, none⟩), .agg #[.int .i64 op, .int .i64 id, v, .int .i64 sh, .bool yes]] w fun e w' => e = .returned (.bool true) ∧ Co w0 w' c (stepS S op id l sh yes) R rows := by
  obtain ⟨aS, nS, cS, rfl, -⟩ := _root_.id hv
  have h0 := h.newCell (.cells #[.int .i64 op, .int .i64 id, .slice aS nS cS, .int .i64 sh, .bool yes] 40 (0, 0))
  have hv1 := hv.frame ((Upd.alloc0 w (.cells #[.int .i64 op, .int .i64 id, .slice aS nS cS, .int .i64 sh, .bool yes] 40 (0, 0)) []).same hv.lt (by simp))
  have k0 := cell_of h0.cellR 0 rfl
  have k1 := cell_of h0.cellR 1 rfl
  have k2 := cell_of h0.cellR 2 rfl
  have k3 := cell_of h0.cellR 3 rfl
  have k4 := cell_of h0.cellR 4 rfl
  have hb := begin_any h0 id _ l E hid hv1
  have hvo := vote_any h0 id sh yes
  have hdo := done_any h0 id sh
  have hab := abort_any h0 id
  have H0 := Lib.hid h0
  have HB := Lib.hid hb
  have HV := Lib.hid hvo
  have HD := Lib.hid hdo
  have HA := Lib.hid hab
  clear h h0 hv hv1 hb hvo hdo hab
  unfold stepS
  by_cases e0 : op = 0
  · rw [if_pos e0]
    subst e0
    clear HV HD HA
    go_enter Try.func20, Try.ntmps20
    go_wp2_with fail
    refine HB.out.mono ?_
    rintro e w2 ⟨rfl, H⟩
    have H := Lib.hid H.dropR
    go_wp2_with fail
    go_ret
    exact ⟨rfl, H.out⟩
  rw [if_neg e0]
  have b0 : ((op : Int) == 0) = false := beq_eq_false_iff_ne.2 e0
  clear e0 HB
  by_cases e1 : op = 1
  · rw [if_pos e1]
    subst e1
    clear HD HA
    go_enter Try.func20, Try.ntmps20
    go_wp2_with fail
    refine HV.out.mono ?_
    rintro e w2 ⟨rfl, H⟩
    have H := Lib.hid H.dropR
    go_wp2_with fail
    go_ret
    exact ⟨rfl, H.out⟩
  rw [if_neg e1]
  have b1 : ((op : Int) == 1) = false := beq_eq_false_iff_ne.2 e1
  clear e1 HV
  by_cases e2 : op = 2
  · rw [if_pos e2]
    subst e2
    clear HA
    go_enter Try.func20, Try.ntmps20
    go_wp2_with fail
    refine HD.out.mono ?_
    rintro e w2 ⟨rfl, H⟩
    have H := Lib.hid H.dropR
    go_wp2_with fail
    go_ret
    exact ⟨rfl, H.out⟩
  rw [if_neg e2]
  have b2 : ((op : Int) == 2) = false := beq_eq_false_iff_ne.2 e2
  clear e2 HD
  by_cases e3 : op = 3
  · rw [if_pos e3]
    subst e3
    go_enter Try.func20, Try.ntmps20
    go_wp2_with fail
    refine HA.out.mono ?_
    rintro e w2 ⟨rfl, H⟩
    have H := Lib.hid H.dropR
    go_wp2_with fail
    go_ret
    exact ⟨rfl, H.out⟩
  rw [if_neg e3]
  have b3 : ((op : Int) == 3) = false := beq_eq_false_iff_ne.2 e3
  have HN := Lib.hid H0.out.dropR
  clear e3 HA
  go_enter Try.func20, Try.ntmps20
  go_wp2_with fail
  go_ret
  exact ⟨rfl, HN.out⟩

theorem look_put (id id' : Int) (φ : EntS → EntS) (S : CoS) : lookS id (putS id' φ S) = if id = id' then (lookS id S).map φ else lookS id S := by
  unfold lookS putS
  induction S with
  | nil => simp
  | cons e S ih =>
    rw [List.map_cons, List.find?_cons, List.find?_cons]
    by_cases h1 : e.1 = id'
    · rw [if_pos h1]
      by_cases h2 : e.1 = id
      · have h3 : id = id' := h2.symm.trans h1
        simp [h2, h3]
      · simp only [h2, decide_false]
        exact ih
    · rw [if_neg h1]
      by_cases h2 : e.1 = id
      · have h3 : id ≠ id' := fun h => h1 (h2.trans h)
        simp [h2, h3]
      · simp only [h2, decide_false]
        exact ih
theorem look_app (id : Int) (S T : CoS) : lookS id (S ++ T) = match lookS id S with | some x => some x | none => lookS id T := by
  unfold lookS
  rw [List.find?_append]
  cases S.find? (fun e => decide (e.1 = id)) <;> rfl
theorem step_other (S : CoS) (op id z : Int) (l : List Int) (sh : Int) (yes : Bool) (h : id ≠ z) : lookS z (stepS S op id l sh yes) = lookS z S := by
  have hz : z ≠ id := fun e => h e.symm
  unfold stepS
  split
  · unfold beginS
    split
    · rfl
    · split
      · rfl
      · rw [look_app]
        cases lookS z S with
        | some x => rfl
        | none => simp [lookS, h]
  split
  · unfold voteS
    split
    · rfl
    · split
      · rfl
      · rw [look_put, if_neg hz]
  split
  · unfold doneS
    split
    · rfl
    · split
      · rfl
      · split
        · rfl
        · rw [look_put, if_neg hz]
  split
  · unfold abortS
    split
    · rfl
    · rw [look_put, if_neg hz]
  rfl
theorem step_alike (S T : CoS) (op id : Int) (l : List Int) (sh : Int) (yes : Bool) (h : lookS id S = lookS id T) (hop : op ≠ 0) : lookS id (stepS S op id l sh yes) = lookS id (stepS T op id l sh yes) := by
  unfold stepS
  rw [if_neg hop, if_neg hop]
  split
  · unfold voteS
    rw [← h]
    cases hx : lookS id S with
    | none => exact h
    | some x =>
      dsimp only
      cases idxF sh x.shards with
      | none => exact h
      | some i => dsimp only; rw [look_put, look_put, if_pos rfl, if_pos rfl, h]
  split
  · unfold doneS
    rw [← h]
    cases hx : lookS id S with
    | none => exact h
    | some x =>
      dsimp only
      cases idxF sh x.shards with
      | none => exact h
      | some i =>
        dsimp only
        split
        · exact h
        · rw [look_put, look_put, if_pos rfl, if_pos rfl, h]
  split
  · unfold abortS
    rw [← h]
    cases hx : lookS id S with
    | none => exact h
    | some x => dsimp only; rw [look_put, look_put, if_pos rfl, if_pos rfl, h]
  exact h
theorem decS_of (S T : CoS) (id : Int) (h : lookS id S = lookS id T) : decS S id = decS T id ∧ owesS S id = owesS T id := by
  unfold decS owesS
  rw [h]
  exact ⟨rfl, rfl⟩

/-- Two that stand side by side. -/
def Two (w0 w : World) (c : Nat) (S : CoS) (d : Nat) (T : CoS) (R : List Thing) (rows : List (Value × Bs)) : Prop :=
  ∃ (m : Nat) (gs : List EntG), gs.map EntG.ent = T ∧ (∀ e ∈ T, okE e) ∧ Co w0 w c S (coHead d m (gs.map EntG.kv) ++ (gs.flatMap EntG.th ++ R)) rows
section
variable {w0 w : World} {c d : Nat} {S T : CoS} {R : List Thing} {rows : List (Value × Bs)}
theorem Two.flip (h : Two w0 w c S d T R rows) : Two w0 w d T c S R rows := by
  obtain ⟨m, gs, h1, h2, m', gs', h1', h2', hS⟩ := h
  refine ⟨m', gs', h1', h2', m, gs, h1, h2, hS.perm ?_⟩
  simpa only [List.append_assoc] using List.perm_append_comm_assoc (coHead c m' (gs'.map EntG.kv) ++ gs'.flatMap EntG.th) (coHead d m (gs.map EntG.kv) ++ gs.flatMap EntG.th) R
theorem Two.use (h : Two w0 w c S d T R rows) : ∃ R', Co w0 w c S R' rows ∧ ∀ w' S', Co w0 w' c S' R' rows → Two w0 w' c S' d T R rows := by
  obtain ⟨m, gs, h1, h2, h3⟩ := h
  exact ⟨_, h3, fun w' S' h' => ⟨m, gs, h1, h2, h'⟩⟩
theorem Two.below (h : Two w0 w c S d T R rows) : Below w0.heap.size w0 w := by
  obtain ⟨R', h1, -⟩ := h.use
  exact h1.below
theorem Two.keep (h : Two w0 w c S d T R rows) {w' : World} {D' : List Nat} (hu : Upd w w' [] D') : Two w0 w' c S d T R rows := by
  obtain ⟨R', h1, h2⟩ := h.use
  exact h2 _ _ (h1.keep hu)
theorem two_perm (A B R : List Thing) (x : Thing) : (x :: (A ++ (B ++ R))).Perm (A ++ (B ++ (x :: R))) := by
  have := List.perm_middle (a := x) (l₁ := A ++ B) (l₂ := R)
  simpa only [List.append_assoc] using this.symm
theorem Two.newCell (h : Two w0 w c S d T R rows) (o : Obj) : Two w0 (w.alloc o) c S d T (ThCell w.heap.size o :: R) rows := by
  obtain ⟨m, gs, h1, h2, h3⟩ := h
  exact ⟨m, gs, h1, h2, (h3.newCell o).permR (two_perm _ _ _ _)⟩
theorem Two.dropR {x : Thing} (h : Two w0 w c S d T (x :: R) rows) : Two w0 w c S d T R rows := by
  obtain ⟨m, gs, h1, h2, h3⟩ := h
  exact ⟨m, gs, h1, h2, (h3.permR (two_perm _ _ _ _).symm).dropR⟩
theorem Two.cellR {q : Nat} {o : Obj} (h : Two w0 w c S d T (ThCell q o :: R) rows) : w.heap[q]? = some o := by
  obtain ⟨m, gs, h1, h2, h3⟩ := h
  exact (h3.permR (two_perm _ _ _ _).symm).cellR
theorem Two.setR {q : Nat} {cs : Array Value} {A : TypeId} (h : Two w0 w c S d T (ThCell q (.cells cs A (0, 0)) :: R) rows) (i : Nat) (v : Value) :
    Two w0 (w.setCell ⟨q, i, none⟩ v) c S d T (ThCell q (.cells (cs.setIfInBounds i v) A (0, 0)) :: R) rows := by
  obtain ⟨m, gs, h1, h2, h3⟩ := h
  obtain ⟨m', gs', h1', h2', hS⟩ := h3.permR (two_perm _ _ _ _).symm
  refine ⟨m, gs, h1, h2, Co.permR ⟨m', gs', h1', h2', ?_⟩ (two_perm _ _ _ _)⟩
  exact ((hS.perm (perm_last _ _ _ _).symm).set i v).perm (perm_last _ _ _ _)
end
/-- A second one is made. -/
theorem two_new {w0 w : World} {c : Nat} {S : CoS} {rows : List (Value × Bs)} (h : Co w0 w c S [] rows) :
    Calls Try.prog 11 #[] w fun e w' => ∃ d, e = .returned (.pointer (some ⟨d, 0, none⟩)) ∧ Two w0 w' d [] c S [] rows := by
  obtain ⟨m, gs, h1, h2, hS⟩ := h
  refine (new_coord hS).mono ?_
  rintro e w' ⟨d, rfl, h3⟩
  exact ⟨d, rfl, m, gs, h1, h2, h3⟩
end Go.Proofs.Ytebmmbommkpjaaa
