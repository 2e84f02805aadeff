/-
  Texts of this claim, laid together.
-/
import Derived.Test.YtjeaoopamebgjaaGreatDoorMg6
import Derived.HandedShaped
import Derived.Handed
import Derived.Lib.LaidTab
import Derived.Deep.Matrix
import Derived.Deep.Slices
import Derived.ChangeSame
set_option linter.unusedVariables false
set_option linter.unusedSimpArgs false

/-
  Purge: a session's nodes, the deepest first (multi.Purge).
-/
set_option linter.unusedSimpArgs false
namespace Go.Av
open Go.RowKit
def deepP (p : Bs) : Nat := (partsP p).length
/-- The deepest first; those that are alike as they stood. -/
def purgeS (l : List Bs) : List Bs := [8, 7, 6, 5, 4, 3, 2, 1].flatMap fun d => l.filter fun p => deepP p == d
theorem flat_perm {α : Type} (k : α → Nat) : ∀ (ds : List Nat) (l : List α), ds.Nodup → (∀ x ∈ l, k x ∈ ds) → (ds.flatMap fun d => l.filter fun x => k x == d).Perm l
  | [], l, _, h => by
    cases l with
    | nil => exact .refl _
    | cons x l => exact absurd (h x (List.mem_cons_self ..)) (by simp)
  | d :: ds, l, hn, h => by
    rw [List.flatMap_cons]
    have hne : ∀ d' ∈ ds, d' ≠ d := fun d' hd e => (List.nodup_cons.1 hn).1 (e ▸ hd)
    have he : (ds.flatMap fun d' => l.filter fun x => k x == d') = ds.flatMap fun d' => (l.filter fun x => !(k x == d)).filter fun x => k x == d' := by
      rw [List.flatMap_def, List.flatMap_def]
      congr 1
      apply List.map_congr_left
      intro d' hd
      rw [List.filter_filter]
      apply List.filter_congr
      intro x _
      have := hne d' hd
      by_cases hx : k x = d'
      · have h2 : ¬ k x = d := by omega
        simp [hx, this]
      · simp [hx]
    rw [he]
    refine ((flat_perm k ds (l.filter fun x => !(k x == d)) (List.nodup_cons.1 hn).2 (fun x hx => ?_)).append_left _).trans (List.filter_append_perm _ l)
    have h1 := List.mem_filter.1 hx
    have h2 := h x h1.1
    simp at h1
    rcases List.mem_cons.1 h2 with h3 | h3
    · exact absurd h3 h1.2
    · exact h3
theorem sorted_eq (f : Nat → Bs) (n : Nat) (τ : Nat → Nat) (hp : PermF 0 n (fun i => i) τ) (hb : InBlk (fun i => -(deepP (f i) : Int)) τ 0 n) :
    (((List.range n).map τ).map f).Perm ((List.range n).map f) ∧ ((∀ i, i < n → 1 ≤ deepP (f i) ∧ deepP (f i) ≤ 8) → ((List.range n).map τ).map f = purgeS ((List.range n).map f)) := by
  have hpm : ((List.range n).map τ).Perm (List.range n) := by
    have := hp.all n (Nat.le_refl _)
    rwa [List.map_id'] at this
  refine ⟨hpm.map f, fun hd => ?_⟩
  have he : (List.range n).map τ = [8, 7, 6, 5, 4, 3, 2, 1].flatMap fun d => (List.range n).filter fun i => deepP (f i) == d := by
    refine lex_sorted_eq (K := fun i => -(deepP (f i) : Int)) (hpm.trans (flat_perm (fun i => deepP (f i)) _ _ (by decide) (fun i hi => ?_)).symm) ?_ ?_
    · have := hd i (List.mem_range.1 hi)
      simp
      omega
    · rw [List.pairwise_map]
      refine List.Pairwise.imp_of_mem ?_ List.pairwise_lt_range
      intro i j hi hj hij
      exact hb.sort i j (Nat.zero_le _) hij (List.mem_range.1 hj)
    · rw [List.pairwise_flatMap]
      refine ⟨fun d _ => ?_, ?_⟩
      · refine List.Pairwise.imp_of_mem ?_ (List.pairwise_lt_range.filter _)
        intro i j hi hj hij
        have h1 := (List.mem_filter.1 hi).2
        have h2 := (List.mem_filter.1 hj).2
        simp at h1 h2
        exact .inr ⟨show -(deepP (f i) : Int) = -(deepP (f j) : Int) by rw [h1, h2], hij⟩
      · have : ([8, 7, 6, 5, 4, 3, 2, 1] : List Nat).Pairwise (fun a b => b < a) := by decide
        refine this.imp ?_
        intro a b hab x hx y hy
        have h1 := (List.mem_filter.1 hx).2
        have h2 := (List.mem_filter.1 hy).2
        simp at h1 h2
        exact .inl (show -(deepP (f x) : Int) < -(deepP (f y) : Int) by rw [h1, h2]; omega)
  rw [he]
  unfold purgeS
  rw [List.map_flatMap]
  rw [List.flatMap_def, List.flatMap_def]
  congr 1
  apply List.map_congr_left
  intro d _
  rw [List.filter_map]
  rfl
/-- A tree from which nodes were let go. -/
def purT (l : List Bs) (S : TreeS) : TreeS := l.foldl (fun S p => { S with l := remT p S.l }) S
theorem purT_b {K : Nat} : ∀ (l : List Bs) {S : TreeS}, TreeB K S → TreeB K (purT l S)
  | [], _, h => h
  | p :: l, S, h => purT_b l (rem_b h p)
theorem purT_take {l : List Bs} {S : TreeS} {i : Nat} (hi : i < l.length) : purT (l.take (i + 1)) S = { purT (l.take i) S with l := remT l[i] (purT (l.take i) S).l } := by
  rw [List.take_succ_eq_append_getElem hi]
  unfold purT
  rw [List.foldl_append]
  rfl
end Go.Av
namespace Go.Proofs.YtjeaoopamebgjaaGreatDoor
open Go.RowKit Go.Av
section
variable {w0 w : World} {t : Nat} {S : TreeS} {P P' : List PRow} {R : List Thing} {rows : List (Value × Bs)}
set_option maxRecDepth 100000 in
theorem cmpc_any (a b : Int) (w : World) : Calls Tryz.prog 40 #[.int .i64 a, .int .i64 b] w fun e w' => (∃ r : Int, e = .returned (.int .i64 r) ∧ (r < 0 ↔ a < b)) ∧ w' = w := by
  have qa : (a != a) = false := by simp
  have qb : (b != b) = false := by simp
  rcases Int.lt_trichotomy a b with h | h | h
  · have q1 : decide (a < b) = true := decide_eq_true h
    go_enter Tryz.func40, Tryz.ntmps40
    go_wp2
    go_ret
    exact ⟨⟨_, rfl, by omega⟩, rfl⟩
  · subst h
    have q1 : decide (a < a) = false := decide_eq_false (by omega)
    go_enter Tryz.func40, Tryz.ntmps40
    go_wp2
    go_ret
    exact ⟨⟨_, rfl, by omega⟩, rfl⟩
  · have q1 : decide (a < b) = false := decide_eq_false (by omega)
    have q2 : decide (b < a) = true := decide_eq_true h
    go_enter Tryz.func40, Tryz.ntmps40
    go_wp2
    go_ret
    exact ⟨⟨_, rfl, by omega⟩, rfl⟩
set_option maxRecDepth 100000 in
theorem less_any (hd : DoorN w0) : LessC w0 (fun p => -(deepP p : Int)) (fun p => p.length ≤ 100000) := by
  intro x y w R rows hx hy h
  have HX := Lib.hid h
  have hpy := parts_any ⟨y.toArray⟩
  have hpx := parts_any ⟨x.toArray⟩
  have HPY := Lib.hid (fun w hw => hpy w hw (by show y.toArray.size ≤ _; rw [List.size_toArray]; unfold maxLen; omega))
  have HPX := Lib.hid (fun w hw => hpx w hw (by show x.toArray.size ≤ _; rw [List.size_toArray]; unfold maxLen; omega))
  clear h hpx hpy
  unfold sv
  go_enter Tryz.func39, Tryz.ntmps39
  go_wp2_with fail
  refine (HPY.out w (hd.1.sep HX.out)).mono ?_
  rintro e w ⟨v, D, rfl, ho, hu⟩
  obtain ⟨a, n, c, rfl, hl, hn, hc, -⟩ := id ho
  rw [List.length_map, Nat.mul_one] at hl
  have hx2 := HX.out.keep (hu.mono (fun _ h => h) (fun b hb => by cases hb) : Upd _ w [] [])
  clear HX HPY
  have HX := Lib.hid hx2
  clear hx2 ho hu
  go_wp2_with fail
  refine (HPX.out w (hd.1.sep HX.out)).mono ?_
  rintro e w ⟨v, D, rfl, ho, hu⟩
  obtain ⟨a2, n2, c2, rfl, hl2, hn2, hc2, -⟩ := id ho
  rw [List.length_map, Nat.mul_one] at hl2
  have hx2 := HX.out.keep (hu.mono (fun _ h => h) (fun b hb => by cases hb) : Upd _ w [] [])
  clear HX HPX
  have HX := Lib.hid hx2
  clear hx2 ho hu
  go_wp2_with fail
  refine (cmpc_any _ _ _).mono ?_
  rintro e w1 ⟨⟨r, rfl, hr⟩, rfl⟩
  go_wp2_with fail
  go_ret
  refine ⟨r, rfl, hr.trans ?_, HX.out⟩
  have e1 : (partsP y).length = n := hl
  have e2 : (partsP x).length = n2 := hl2
  show (n : Int) < (n2 : Int) ↔ -((partsP x).length : Int) < -((partsP y).length : Int)
  omega
set_option maxRecDepth 100000 in
theorem insertion_nil (a : Option Addr) (c : Nat) (fv : Value) (w : World) : Calls Tryz.prog 93 #[.slice a 0 c, .int .i64 0, .int .i64 0, fv] w fun e w' => e = .returned (.tuple #[]) ∧ w' = w := by
  go_enter Tryz.func93, Tryz.ntmps93
  go_wp2
  refine wp_loop_rounds 1 ?_
  rw [rounds_succ]
  go_wp2
  go_end0
  exact ⟨rfl, rfl⟩
set_option maxRecDepth 100000 in
theorem stable_nil (a : Option Addr) (c : Nat) (fv : Value) (w : World) : Calls Tryz.prog 63 #[.slice a 0 c, .int .i64 0, fv] w fun e w' => e = .returned (.tuple #[]) ∧ w' = w := by
  go_enter Tryz.func63, Tryz.ntmps63
  go_wp2
  refine wp_loop_rounds 1 ?_
  rw [rounds_succ]
  go_wp2_with fail
  refine (insertion_nil a c fv _).mono ?_
  rintro e w1 ⟨rfl, rfl⟩
  go_wp2_with fail
  refine wp_loop_rounds 1 ?_
  rw [rounds_succ]
  go_wp2
  go_end0
  exact ⟨rfl, rfl⟩
set_option maxRecDepth 100000 in
theorem sortStable_nil (a : Option Addr) (c : Nat) (fv : Value) (w : World) : Calls Tryz.prog 38 #[.slice a 0 c, fv] w fun e w' => e = .returned (.tuple #[]) ∧ w' = w := by
  go_enter Tryz.func38, Tryz.ntmps38
  go_wp2_with fail
  refine (stable_nil a c fv _).mono ?_
  rintro e w1 ⟨rfl, rfl⟩
  go_wp2_with fail
  go_end0
  exact ⟨rfl, rfl⟩
/-- What the sort leaves of a session's paths. -/
def DeepPost (w0 : World) (v : Value) (l : List Bs) (R : List Thing) (rows : List (Value × Bs)) (e : Ending) (w' : World) : Prop :=
  e = .returned (.tuple #[]) ∧ ∃ l', l'.Perm l ∧ ((∀ p ∈ l, 1 ≤ deepP p ∧ deepP p ≤ 8) → l' = purgeS l) ∧ Sep w0 w' (ThRow 1 v (l'.map sv) :: R) rows
theorem deep_any (hd : DoorN w0) {v : Value} {l : List Bs} (h : Sep w0 w (ThRow 1 v (l.map sv) :: R) rows) (hl : ∀ p ∈ l, p.length ≤ 100000) (hn : l.length ≤ 100000) :
    Calls Tryz.prog 38 #[v, lessV] w (DeepPost w0 v l R rows) := by
  obtain ⟨a, n, c, rfl, h1, h2, h3⟩ := h.rowLen
  rw [List.length_map, Nat.mul_one] at h1
  by_cases h0 : n = 0
  · subst h0
    refine (sortStable_nil a c lessV w).mono ?_
    rintro e w1 ⟨rfl, rfl⟩
    have : l = [] := List.eq_nil_of_length_eq_zero h1
    subst this
    exact ⟨rfl, [], .refl _, fun _ => rfl, h⟩
  · have hsome : ∃ g off, a = some ⟨g, off, none⟩ := by
      obtain ⟨y, hy, hs, -⟩ := h.rowCell (i := 0) (x := sv (l[0]'(by omega))) (by rw [List.getElem?_map, List.getElem?_eq_getElem (by omega)]; rfl)
      obtain ⟨g, off, sp⟩ := y
      simp only at hs
      subst hs
      exact ⟨g, off, hy⟩
    obtain ⟨g, off, rfl⟩ := hsome
    have hc : l.map sv = cellsF n (strF (fun i => l.getD i []) fun i => i) := by
      apply List.ext_getElem
      · simp [cellsF, h1]
      · intro i g1 g2
        simp only [List.length_map] at g1
        simp [cellsF, strF, g1]
    have hb : (List.range n).map (fun i => l.getD i []) = l := by
      apply List.ext_getElem
      · simp [h1]
      · intro i g1 g2
        simp [g2]
    rw [hc] at h
    refine (sortStable_any (ok := fun p => p.length ≤ 100000) (less_any hd) (fun i => ?_) (by omega) w h).mono ?_
    · rw [List.getD_eq_getElem?_getD]
      cases hg : l[i]? with
      | none => simp
      | some p => exact hl p (List.mem_of_getElem? hg)
    · rintro e w1 ⟨τ, rfl, ⟨hp, hbk⟩, hS⟩
      obtain ⟨e1, e2⟩ := sorted_eq (fun i => l.getD i []) n τ hp hbk
      rw [hb] at e1 e2
      refine ⟨rfl, _, e1, fun hh => e2 (fun i hi => ?_), ?_⟩
      · have : l.getD i [] = l[i]'(by omega) := by rw [List.getD_eq_getElem?_getD, List.getElem?_eq_getElem (by omega)]; rfl
        show 1 ≤ deepP (l.getD i []) ∧ deepP (l.getD i []) ≤ 8
        rw [this]
        exact hh _ (List.getElem_mem _)
      · have : (((List.range n).map τ).map fun i => l.getD i []).map sv = cellsF n (strF (fun i => l.getD i []) τ) := by
          simp [cellsF, strF, Function.comp_def]
        rw [this]
        exact hS
/-- What a purge leaves. -/
def PurPost (w0 : World) (t : Nat) (S : TreeS) (P : List PRow) (R : List Thing) (rows : List (Value × Bs)) (l : List Bs) (e : Ending) (w' : World) : Prop :=
  ∃ l', l'.Perm l ∧ ((∀ p ∈ l, 1 ≤ deepP p ∧ deepP p ≤ 8) → l' = purgeS l) ∧ RowPost w0 t (purT l' S) P R rows l' e w'
def PurRel (w0 : World) (t : Nat) (S : TreeS) (P : List PRow) (R : List Thing) (rows : List (Value × Bs)) (v : Value) (l : List Bs) (k : Nat) (vi : Value) (w : World) : Prop :=
  ∃ (i : Nat) (P' : List PRow), i + k = l.length ∧ vi = .int .i64 (i : Int) ∧ (∀ r ∈ P, r ∈ P') ∧ Sep w0 w (ThPool w0 P' :: ThTree t (purT (l.take i) S) P' :: ThRow 1 v (l.map sv) :: R) rows
set_option maxRecDepth 100000 in
set_option maxHeartbeats 4000000 in
theorem purge_any {K : Nat} (h : Sep w0 w (ThPool w0 P :: ThTree t S P :: R) rows) (hd : DoorN w0) (hB : TreeB K S) (hK : K ≤ 100000) (sess : Int) :
    Calls Tryz.prog 22 #[.pointer (some ⟨t, 0, none⟩), .int .i64 sess] w (PurPost w0 t S P R rows (ofT S sess)) := by
  have HX := Lib.hid h
  have HB := Lib.hid (show _ ∧ _ from ⟨hB, hK⟩)
  clear h hB hK
  go_enter Tryz.func22, Tryz.ntmps22
  go_wp2_with (first | (refine sWL ?_; simp only [Act.put, List.setIfInBounds_toArray, List.set_cons_zero, List.set_cons_succ, List.drop_zero, List.drop_succ_cons, List.take_succ_cons, List.take_zero, List.toList_toArray, NodeS.cells, OpS.cells, ResS.cells]) | (refine sWM ?_; simp only [Act.put, List.setIfInBounds_toArray, List.set_cons_zero, List.set_cons_succ]) | (refine sWS ?_; clear HX; intro w HX; simp only [Act.put, List.setIfInBounds_toArray, List.set_cons_zero, List.set_cons_succ, setMany, Nat.reduceAdd, NodeS.cells, OpS.cells, ResS.cells] at HX ⊢) | (refine sWT ?_; clear HX; intro w HX; simp only [Act.put, List.setIfInBounds_toArray, List.set_cons_zero, List.set_cons_succ, NodeS.cells, OpS.cells, ResS.cells] at HX ⊢) | (refine sWA ?_; clear HX; (first | (have hq := b9; clear hq; intro w b10 HX) | (have hq := b8; clear hq; intro w b9 HX) | (have hq := b7; clear hq; intro w b8 HX) | (have hq := b6; clear hq; intro w b7 HX) | (have hq := b5; clear hq; intro w b6 HX) | (have hq := b4; clear hq; intro w b5 HX) | (have hq := b3; clear hq; intro w b4 HX) | (have hq := b2; clear hq; intro w b3 HX) | (have hq := b; clear hq; intro w b2 HX) | intro w b HX); simp only [Act.put, List.setIfInBounds_toArray, List.set_cons_zero, List.set_cons_succ]) | (refine sWN ?_; clear HX; intro w mm HX; simp only [Act.put, List.setIfInBounds_toArray, List.set_cons_zero, List.set_cons_succ]) | (refine sWP ?_; clear HX; intro w av nv cv HX; simp only [Act.put, List.setIfInBounds_toArray, List.set_cons_zero, List.set_cons_succ]))
  refine (tofRow_any HX.out sess (by have := HB.out.1.many; omega) (fun e he => by have := HB.out.1.keys e he; omega)).mono ?_
  rintro e w ⟨v, P', rfl, hP', hS⟩
  obtain ⟨a0, n0, c0, rfl, hl0, hn0, hc0⟩ := hS.rowLen
  rw [List.length_map, Nat.mul_one] at hl0
  clear HX
  have HX := Lib.hid hS
  have HP := Lib.hid hP'
  clear hS hP'
  go_wp2_with (first | (refine sWL ?_; simp only [Act.put, List.setIfInBounds_toArray, List.set_cons_zero, List.set_cons_succ, List.drop_zero, List.drop_succ_cons, List.take_succ_cons, List.take_zero, List.toList_toArray, NodeS.cells, OpS.cells, ResS.cells]) | (refine sWM ?_; simp only [Act.put, List.setIfInBounds_toArray, List.set_cons_zero, List.set_cons_succ]) | (refine sWS ?_; clear HX; intro w HX; simp only [Act.put, List.setIfInBounds_toArray, List.set_cons_zero, List.set_cons_succ, setMany, Nat.reduceAdd, NodeS.cells, OpS.cells, ResS.cells] at HX ⊢) | (refine sWT ?_; clear HX; intro w HX; simp only [Act.put, List.setIfInBounds_toArray, List.set_cons_zero, List.set_cons_succ, NodeS.cells, OpS.cells, ResS.cells] at HX ⊢) | (refine sWA ?_; clear HX; (first | (have hq := b9; clear hq; intro w b10 HX) | (have hq := b8; clear hq; intro w b9 HX) | (have hq := b7; clear hq; intro w b8 HX) | (have hq := b6; clear hq; intro w b7 HX) | (have hq := b5; clear hq; intro w b6 HX) | (have hq := b4; clear hq; intro w b5 HX) | (have hq := b3; clear hq; intro w b4 HX) | (have hq := b2; clear hq; intro w b3 HX) | (have hq := b; clear hq; intro w b2 HX) | intro w b HX); simp only [Act.put, List.setIfInBounds_toArray, List.set_cons_zero, List.set_cons_succ]) | (refine sWN ?_; clear HX; intro w mm HX; simp only [Act.put, List.setIfInBounds_toArray, List.set_cons_zero, List.set_cons_succ]) | (refine sWP ?_; clear HX; intro w av nv cv HX; simp only [Act.put, List.setIfInBounds_toArray, List.set_cons_zero, List.set_cons_succ]))
  refine (deep_any hd HX.out (fun p hp => ?_) ?_).mono ?_
  · obtain ⟨e, he, rfl⟩ := List.mem_map.1 hp
    have := HB.out.1.keys e (List.mem_filter.1 he).1
    omega
  · have h1 : (ofT S sess).length ≤ S.l.length := by unfold ofT; rw [List.length_map]; exact List.length_filter_le _ _
    have := HB.out.1.many
    omega
  rintro e w ⟨rfl, l', hp, hpu, hS⟩
  have hlen := hp.length_eq
  have hkey : ∀ p ∈ l', p.length ≤ 200 := fun p hpm => by
    obtain ⟨e, he, rfl⟩ := List.mem_map.1 (hp.mem_iff.1 hpm)
    exact HB.out.1.keys e (List.mem_filter.1 he).1
  have h500 : l'.length ≤ 500 := by
    have h1 : (ofT S sess).length ≤ S.l.length := by unfold ofT; rw [List.length_map]; exact List.length_filter_le _ _
    have := HB.out.1.many
    omega
  have HPU := Lib.hid (show _ ∧ _ ∧ _ from ⟨hp, hpu, hkey⟩)
  rw [← hl0] at hn0 HX
  rw [← hl0]
  rw [← hlen] at hn0
  rw [← hl0] at hS
  rw [← hlen] at hS ⊢
  clear HX hp hpu hkey hl0 hlen
  have HX := Lib.hid hS
  clear hS
  go_wp2_with (first | (refine sWL ?_; simp only [Act.put, List.setIfInBounds_toArray, List.set_cons_zero, List.set_cons_succ, List.drop_zero, List.drop_succ_cons, List.take_succ_cons, List.take_zero, List.toList_toArray, NodeS.cells, OpS.cells, ResS.cells]) | (refine sWM ?_; simp only [Act.put, List.setIfInBounds_toArray, List.set_cons_zero, List.set_cons_succ]) | (refine sWS ?_; clear HX; intro w HX; simp only [Act.put, List.setIfInBounds_toArray, List.set_cons_zero, List.set_cons_succ, setMany, Nat.reduceAdd, NodeS.cells, OpS.cells, ResS.cells] at HX ⊢) | (refine sWT ?_; clear HX; intro w HX; simp only [Act.put, List.setIfInBounds_toArray, List.set_cons_zero, List.set_cons_succ, NodeS.cells, OpS.cells, ResS.cells] at HX ⊢) | (refine sWA ?_; clear HX; (first | (have hq := b9; clear hq; intro w b10 HX) | (have hq := b8; clear hq; intro w b9 HX) | (have hq := b7; clear hq; intro w b8 HX) | (have hq := b6; clear hq; intro w b7 HX) | (have hq := b5; clear hq; intro w b6 HX) | (have hq := b4; clear hq; intro w b5 HX) | (have hq := b3; clear hq; intro w b4 HX) | (have hq := b2; clear hq; intro w b3 HX) | (have hq := b; clear hq; intro w b2 HX) | intro w b HX); simp only [Act.put, List.setIfInBounds_toArray, List.set_cons_zero, List.set_cons_succ]) | (refine sWN ?_; clear HX; intro w mm HX; simp only [Act.put, List.setIfInBounds_toArray, List.set_cons_zero, List.set_cons_succ]) | (refine sWP ?_; clear HX; intro w av nv cv HX; simp only [Act.put, List.setIfInBounds_toArray, List.set_cons_zero, List.set_cons_succ]))
  have HST := Lib.hid (show PurRel w0 t S P' R rows (.slice a0 l'.length c0) l' l'.length (.int .i64 (0 : Int)) _ from ⟨0, P', by simp, rfl, fun q hq => hq, HX.out.pm 3 [1, 2, 0] rfl rfl⟩)
  clear HX
  go_loopg [15] l'.length (fun k v wr => PurRel w0 t S P' R rows (.slice a0 l'.length c0) l' k v wr)
  case atStart => exact HST.out
  case round =>
    rename World => w
    obtain ⟨i, P2, hik, rfl, hP2, hS⟩ := hrel
    clear HST
    have HX := Lib.hid hS
    have HP2 := Lib.hid hP2
    clear hS hP2
    by_cases hlt : i < l'.length
    case neg =>
      obtain rfl : i = l'.length := by omega
      clear hlt hik
      go_wp2_with (first | (refine sWL ?_; simp only [Act.put, List.setIfInBounds_toArray, List.set_cons_zero, List.set_cons_succ, List.drop_zero, List.drop_succ_cons, List.take_succ_cons, List.take_zero, List.toList_toArray, NodeS.cells, OpS.cells, ResS.cells]) | (refine sWM ?_; simp only [Act.put, List.setIfInBounds_toArray, List.set_cons_zero, List.set_cons_succ]) | (refine sWS ?_; clear HX; intro w HX; simp only [Act.put, List.setIfInBounds_toArray, List.set_cons_zero, List.set_cons_succ, setMany, Nat.reduceAdd, NodeS.cells, OpS.cells, ResS.cells] at HX ⊢) | (refine sWT ?_; clear HX; intro w HX; simp only [Act.put, List.setIfInBounds_toArray, List.set_cons_zero, List.set_cons_succ, NodeS.cells, OpS.cells, ResS.cells] at HX ⊢) | (refine sWA ?_; clear HX; (first | (have hq := b9; clear hq; intro w b10 HX) | (have hq := b8; clear hq; intro w b9 HX) | (have hq := b7; clear hq; intro w b8 HX) | (have hq := b6; clear hq; intro w b7 HX) | (have hq := b5; clear hq; intro w b6 HX) | (have hq := b4; clear hq; intro w b5 HX) | (have hq := b3; clear hq; intro w b4 HX) | (have hq := b2; clear hq; intro w b3 HX) | (have hq := b; clear hq; intro w b2 HX) | intro w b HX); simp only [Act.put, List.setIfInBounds_toArray, List.set_cons_zero, List.set_cons_succ]) | (refine sWN ?_; clear HX; intro w mm HX; simp only [Act.put, List.setIfInBounds_toArray, List.set_cons_zero, List.set_cons_succ]) | (refine sWP ?_; clear HX; intro w av nv cv HX; simp only [Act.put, List.setIfInBounds_toArray, List.set_cons_zero, List.set_cons_succ]))
      go_ret
      have h1 := HX.out.up2
      rw [List.take_length] at h1
      exact ⟨l', HPU.out.1, HPU.out.2.1, _, P2, rfl, fun q hq => HP2.out q (HP.out q hq), h1⟩
    case pos =>
      obtain ⟨y, hy, hs, -⟩ := HX.out.up2.rowCell (i := i) (x := sv l'[i]) (by simp [hlt])
      obtain ⟨g, off, sp⟩ := y
      simp only at hs
      subst hs hy
      obtain ⟨D, hD⟩ := HX.out.up2.fst
      obtain ⟨E, hE, -⟩ := OwnRow.read hD
      have hl := row_load1 (P := Tryz.prog) (ty := 9) (i := i) (v := sv l'[i]) hE (by kernel_rfl) (by simp [hlt])
      have HTK := Lib.hid (purT_take (S := S) hlt)
      have HBI := Lib.hid (purT_b (l'.take i) HB.out.1)
      have hps := HPU.out.2.2 _ (List.getElem_mem hlt)
      obtain ⟨p, hp⟩ : ∃ p, l'[i] = p := ⟨_, rfl⟩
      rw [hp] at hl HTK hps
      have q0 : decide (i < l'.length) = true := decide_eq_true hlt
      have HPS := Lib.hid hps
      unfold sv at hl
      clear hD hE hp hps
      go_wp2_with (first | (refine sWL ?_; simp only [Act.put, List.setIfInBounds_toArray, List.set_cons_zero, List.set_cons_succ, List.drop_zero, List.drop_succ_cons, List.take_succ_cons, List.take_zero, List.toList_toArray, NodeS.cells, OpS.cells, ResS.cells]) | (refine sWM ?_; simp only [Act.put, List.setIfInBounds_toArray, List.set_cons_zero, List.set_cons_succ]) | (refine sWS ?_; clear HX; intro w HX; simp only [Act.put, List.setIfInBounds_toArray, List.set_cons_zero, List.set_cons_succ, setMany, Nat.reduceAdd, NodeS.cells, OpS.cells, ResS.cells] at HX ⊢) | (refine sWT ?_; clear HX; intro w HX; simp only [Act.put, List.setIfInBounds_toArray, List.set_cons_zero, List.set_cons_succ, NodeS.cells, OpS.cells, ResS.cells] at HX ⊢) | (refine sWA ?_; clear HX; (first | (have hq := b9; clear hq; intro w b10 HX) | (have hq := b8; clear hq; intro w b9 HX) | (have hq := b7; clear hq; intro w b8 HX) | (have hq := b6; clear hq; intro w b7 HX) | (have hq := b5; clear hq; intro w b6 HX) | (have hq := b4; clear hq; intro w b5 HX) | (have hq := b3; clear hq; intro w b4 HX) | (have hq := b2; clear hq; intro w b3 HX) | (have hq := b; clear hq; intro w b2 HX) | intro w b HX); simp only [Act.put, List.setIfInBounds_toArray, List.set_cons_zero, List.set_cons_succ]) | (refine sWN ?_; clear HX; intro w mm HX; simp only [Act.put, List.setIfInBounds_toArray, List.set_cons_zero, List.set_cons_succ]) | (refine sWP ?_; clear HX; intro w av nv cv HX; simp only [Act.put, List.setIfInBounds_toArray, List.set_cons_zero, List.set_cons_succ]) | ((with_reducible apply sx_loadAt hl); (· rfl); (· rfl); simp only [Act.put, List.setIfInBounds_toArray, List.set_cons_zero, List.set_cons_succ]))
      refine (treeRemove_any HX.out hd ⟨p.toArray⟩ (by show p.toArray.size ≤ _; rw [List.size_toArray]; have := HPS.out; omega) (HBI.out.ok HB.out.2)).mono ?_
      rintro e w ⟨rfl, P3, hP3, hx⟩
      clear HX hl
      have HX := Lib.hid hx
      have HP3 := Lib.hid hP3
      clear hx hP3
      go_wp2_with (first | (refine sWL ?_; simp only [Act.put, List.setIfInBounds_toArray, List.set_cons_zero, List.set_cons_succ, List.drop_zero, List.drop_succ_cons, List.take_succ_cons, List.take_zero, List.toList_toArray, NodeS.cells, OpS.cells, ResS.cells]) | (refine sWM ?_; simp only [Act.put, List.setIfInBounds_toArray, List.set_cons_zero, List.set_cons_succ]) | (refine sWS ?_; clear HX; intro w HX; simp only [Act.put, List.setIfInBounds_toArray, List.set_cons_zero, List.set_cons_succ, setMany, Nat.reduceAdd, NodeS.cells, OpS.cells, ResS.cells] at HX ⊢) | (refine sWT ?_; clear HX; intro w HX; simp only [Act.put, List.setIfInBounds_toArray, List.set_cons_zero, List.set_cons_succ, NodeS.cells, OpS.cells, ResS.cells] at HX ⊢) | (refine sWA ?_; clear HX; (first | (have hq := b9; clear hq; intro w b10 HX) | (have hq := b8; clear hq; intro w b9 HX) | (have hq := b7; clear hq; intro w b8 HX) | (have hq := b6; clear hq; intro w b7 HX) | (have hq := b5; clear hq; intro w b6 HX) | (have hq := b4; clear hq; intro w b5 HX) | (have hq := b3; clear hq; intro w b4 HX) | (have hq := b2; clear hq; intro w b3 HX) | (have hq := b; clear hq; intro w b2 HX) | intro w b HX); simp only [Act.put, List.setIfInBounds_toArray, List.set_cons_zero, List.set_cons_succ]) | (refine sWN ?_; clear HX; intro w mm HX; simp only [Act.put, List.setIfInBounds_toArray, List.set_cons_zero, List.set_cons_succ]) | (refine sWP ?_; clear HX; intro w av nv cv HX; simp only [Act.put, List.setIfInBounds_toArray, List.set_cons_zero, List.set_cons_succ]))
      go_roundg (l'.length - (i + 1))
      case rel => exact ⟨i + 1, P3, by omega, by go_num, fun q hq => HP3.out q (HP2.out q hq), by rw [HTK.out]; exact HX.out⟩
      case measure => omega
end
end Go.Proofs.YtjeaoopamebgjaaGreatDoor

/-
  MultiKnown: the walk.
-/
set_option linter.unusedSimpArgs false
namespace Go.Av
open Go.RowKit
section
variable {P : Program} {ops : Array Oper} {Q : Exit → Act → World → Prop} {a : Act} {w w0 : World} {rest : List Oper} {Ts : List Thing} {rows : List (Value × Bs)} {dst : Option Tmp} {tyy t e : TypeId} {pos : String} {aft : Array Edge} {g : Option (Nat × Bool)}
/-- make with a length that is known. -/
theorem sx_make {K by_ n : Nat} {l c : Operand} {kl kc : IntKind} (H : Hid (Sep w0 w Ts rows)) (hsl : SliceN P t e K by_) {zs : Array Value} (hz : zeroB P e zs) (hl : a.eval l = .int kl (n : Int)) (hc : a.eval c = .int kc (n : Int)) (hn : n * K ≤ 16777216 ∧ by_ * n ≤ 281474976710656 ∧ n ≤ 1000)
    (hw : Region.wanted ⟨dst, .makeSlice t l c, tyy, pos, aft, g⟩ (yielded ops a.tmps) = true)
    (k : ∀ w' b, Hid (Sep w0 w' (ThCell b (.cells (madeCells zs (n * K)) e (0, 0)) :: Ts) rows) → wpList P ops Q rest (a.put dst (.slice (some ⟨b, 0, none⟩) n n)) w') : wpList P ops Q (⟨dst, .makeSlice t l c, tyy, pos, aft, g⟩ :: rest) a w := by
  obtain ⟨ii, z, hi, hzz, hsz, hzs, hb⟩ := hsl.info
  have hr := run_makeSlice (P := P) w t e ii z hsl.ut hi hzz kl kc (n : Int) (n : Int) (by omega) (Int.le_refl _) (by rw [Int.toNat_natCast, hsz]; exact hn.1) (by
    have h2 : ((by_ * n : Nat) : Int) ≤ 281474976710656 := by have := hn.2.1; omega
    rw [Int.natCast_mul] at h2
    rw [hb]
    exact h2) (by have := hn.2.2; omega)
  rw [Int.toNat_natCast, hsz] at hr
  have hzc : z.cells = zs := by
    unfold zeroB at hz
    rw [hi] at hz
    simp [hzz] at hz
    exact hz
  rw [hzc] at hr
  refine wpList_ran hw ?_ (k _ _ (Lib.hid (H.out.newCell _)))
  unfold execOp
  dsimp only
  rw [hl, hc]
  exact run_val hr
end
def zeroO : OpS := ⟨0, ⟨#[]⟩, ⟨#[]⟩, 0, 0⟩
def kA : ByteArray := ⟨#[47, 97]⟩
def kE : ByteArray := ⟨#[47, 97, 47, 101]⟩
def kF : ByteArray := ⟨#[47, 102]⟩
def ops3 : List OpS := [madeO kA 0, madeO kE 1, madeO kF 1]
def getF : OpS := ⟨5, kF, ⟨#[]⟩, 0, 0⟩
def kS3 : TreeS := (manyT ⟨10, []⟩ 5 1 ops3).2.1
def kL : List Bs := [[47, 97, 47, 101], [47, 102]]
def vO (p : ByteArray) (f : Int) : Value := .agg #[.int .i64 1, .string p, .string ⟨#[]⟩, .int .i64 0, .int .i64 f]
theorem kn1 : manyT ⟨10, []⟩ 1 1 [] = (failR 0 1 (-1) 0, ⟨10, []⟩, false) := by kernel_rfl
theorem kn2 : manyT ⟨10, []⟩ 1 1 (List.replicate 17 zeroO) = (failR 0 2 (-1) 0, ⟨10, []⟩, false) := by kernel_rfl
theorem kn3 : requestT ⟨10, []⟩ 1 4 9 [] = (failR 4 1 (-1) 0, ⟨10, []⟩) := by kernel_rfl
theorem kn5 : ofT kS3 5 = kL := by kernel_rfl
theorem kn5b : purgeS kL = kL := by kernel_rfl
theorem kn5c : (kL.all fun p => decide (1 ≤ deepP p ∧ deepP p ≤ 8)) = true := by kernel_rfl
theorem kn6 : (purT kL kS3).l.length = 1 := by kernel_rfl
theorem kn7 : (requestT (purT kL kS3) 1 7 9 [getF]).1.num = 7 ∧ (requestT (purT kL kS3) 1 7 9 [getF]).1.zxid = 9 ∧ (requestT (purT kL kS3) 1 7 9 [getF]).1.err = 4 := ⟨by kernel_rfl, by kernel_rfl, by kernel_rfl⟩
theorem kn8 (S : TreeS) : (requestT S 1 7 9 [getF]).2 = S := by
  have hg : goodE getF = 0 := by kernel_rfl
  have hm : mayS 1 7 [getF] = 0 := by kernel_rfl
  unfold requestT
  rw [hm, if_neg (by decide)]
  have hd : (doT S getF 1 9).2 = S := by
    unfold doT
    rw [hg, if_neg (by decide), if_neg (by decide), if_neg (show ¬ getF.kind = 1 by decide), if_neg (show ¬ (getF.kind = 2 ∨ getF.kind = 3 ∨ getF.kind = 4) by decide)]
  have hs : (stepsT 1 9 [getF] S).2.1 = S := by
    unfold stepsT
    split
    · exact hd
    · exact hd
  show (manyT S 1 9 [getF]).2.1 = S
  cases hb : (manyT S 1 9 [getF]).2.2 with
  | false => exact (many_no hb).2.2
  | true => rw [(many_ok hb).2]; exact hs
theorem made17 : (madeCells #[.int .i64 0, .string ⟨#[]⟩, .string ⟨#[]⟩, .int .i64 0, .int .i64 0] (17 * 5)) = ((List.replicate 17 zeroO).flatMap OpS.cells).toArray := by kernel_rfl
end Go.Av
namespace Go.Proofs.YtjeaoopamebgjaaGreatDoor
open Go.RowKit Go.Av
section
set_option maxRecDepth 100000 in
set_option maxHeartbeats 8000000 in
theorem multiKnown_walk (W : World) (hd : DoorN W) : Calls Tryz.prog 7 #[] W fun e w' => e = .returned (.bool true) ∧ Below W.heap.size W w' := by
  go_enter Tryz.func7, Tryz.ntmps7
  go_wp2_with fail
  refine (awake_any hd).mono ?_
  rintro e w ⟨rfl, hu⟩
  have HX := Lib.hid (((Sep.start W).keep hu).poolNew.poolNil 5)
  clear hu
  go_wp2_with (first | (refine sWL ?_; simp only [Act.put, List.setIfInBounds_toArray, List.set_cons_zero, List.set_cons_succ, List.drop_zero, List.drop_succ_cons, List.take_succ_cons, List.take_zero, List.toList_toArray, NodeS.cells, OpS.cells, ResS.cells]) | (refine sWM ?_; simp only [Act.put, List.setIfInBounds_toArray, List.set_cons_zero, List.set_cons_succ]) | (refine sWS ?_; clear HX; intro w HX; simp only [Act.put, List.setIfInBounds_toArray, List.set_cons_zero, List.set_cons_succ, setMany, Nat.reduceAdd, NodeS.cells, OpS.cells, ResS.cells] at HX ⊢) | (refine sWT ?_; clear HX; intro w HX; simp only [Act.put, List.setIfInBounds_toArray, List.set_cons_zero, List.set_cons_succ, NodeS.cells, OpS.cells, ResS.cells] at HX ⊢) | (refine sWA ?_; clear HX; (first | (have hq := b9; clear hq; intro w b10 HX) | (have hq := b8; clear hq; intro w b9 HX) | (have hq := b7; clear hq; intro w b8 HX) | (have hq := b6; clear hq; intro w b7 HX) | (have hq := b5; clear hq; intro w b6 HX) | (have hq := b4; clear hq; intro w b5 HX) | (have hq := b3; clear hq; intro w b4 HX) | (have hq := b2; clear hq; intro w b3 HX) | (have hq := b; clear hq; intro w b2 HX) | intro w b HX); simp only [Act.put, List.setIfInBounds_toArray, List.set_cons_zero, List.set_cons_succ]) | (refine sWN ?_; clear HX; intro w mm HX; simp only [Act.put, List.setIfInBounds_toArray, List.set_cons_zero, List.set_cons_succ]) | (refine sWP ?_; clear HX; intro w av nv cv HX; simp only [Act.put, List.setIfInBounds_toArray, List.set_cons_zero, List.set_cons_succ]))
  refine (treenew_any HX.out 10 (by omega) (by omega)).mono ?_
  rintro e w ⟨t, rfl, hx⟩
  clear HX
  have HX := Lib.hid hx
  clear hx
  go_wp2_with (first | (refine sWL ?_; simp only [Act.put, List.setIfInBounds_toArray, List.set_cons_zero, List.set_cons_succ, List.drop_zero, List.drop_succ_cons, List.take_succ_cons, List.take_zero, List.toList_toArray, NodeS.cells, OpS.cells, ResS.cells]) | (refine sWM ?_; simp only [Act.put, List.setIfInBounds_toArray, List.set_cons_zero, List.set_cons_succ]) | (refine sWS ?_; clear HX; intro w HX; simp only [Act.put, List.setIfInBounds_toArray, List.set_cons_zero, List.set_cons_succ, setMany, Nat.reduceAdd, NodeS.cells, OpS.cells, ResS.cells] at HX ⊢) | (refine sWT ?_; clear HX; intro w HX; simp only [Act.put, List.setIfInBounds_toArray, List.set_cons_zero, List.set_cons_succ, NodeS.cells, OpS.cells, ResS.cells] at HX ⊢) | (refine sWA ?_; clear HX; (first | (have hq := b9; clear hq; intro w b10 HX) | (have hq := b8; clear hq; intro w b9 HX) | (have hq := b7; clear hq; intro w b8 HX) | (have hq := b6; clear hq; intro w b7 HX) | (have hq := b5; clear hq; intro w b6 HX) | (have hq := b4; clear hq; intro w b5 HX) | (have hq := b3; clear hq; intro w b4 HX) | (have hq := b2; clear hq; intro w b3 HX) | (have hq := b; clear hq; intro w b2 HX) | intro w b HX); simp only [Act.put, List.setIfInBounds_toArray, List.set_cons_zero, List.set_cons_succ]) | (refine sWN ?_; clear HX; intro w mm HX; simp only [Act.put, List.setIfInBounds_toArray, List.set_cons_zero, List.set_cons_succ]) | (refine sWP ?_; clear HX; intro w av nv cv HX; simp only [Act.put, List.setIfInBounds_toArray, List.set_cons_zero, List.set_cons_succ]))
  have hm := mdo_any HX.out hd (tree_new 10 (by omega)) (by omega) 1 1 [] _ (List.mem_cons_self ..) (by simp)
  rw [kn1] at hm
  refine hm.mono ?_
  clear hm
  rintro e w ⟨v, P1, rfl, hP1, ⟨a1, n1, c1, x1, rfl, hr1, hm1⟩, hx⟩
  clear HX
  have HX := Lib.hid hx
  have HP1 := Lib.hid hP1
  clear hx hP1 hr1 hm1
  dsimp only [failR] at HX ⊢
  go_wp2_with (first | (refine sWL ?_; simp only [Act.put, List.setIfInBounds_toArray, List.set_cons_zero, List.set_cons_succ, List.drop_zero, List.drop_succ_cons, List.take_succ_cons, List.take_zero, List.toList_toArray, NodeS.cells, OpS.cells, ResS.cells]) | (refine sWM ?_; simp only [Act.put, List.setIfInBounds_toArray, List.set_cons_zero, List.set_cons_succ]) | (refine sWS ?_; clear HX; intro w HX; simp only [Act.put, List.setIfInBounds_toArray, List.set_cons_zero, List.set_cons_succ, setMany, Nat.reduceAdd, NodeS.cells, OpS.cells, ResS.cells] at HX ⊢) | (refine sWT ?_; clear HX; intro w HX; simp only [Act.put, List.setIfInBounds_toArray, List.set_cons_zero, List.set_cons_succ, NodeS.cells, OpS.cells, ResS.cells] at HX ⊢) | (refine sWA ?_; clear HX; (first | (have hq := b9; clear hq; intro w b10 HX) | (have hq := b8; clear hq; intro w b9 HX) | (have hq := b7; clear hq; intro w b8 HX) | (have hq := b6; clear hq; intro w b7 HX) | (have hq := b5; clear hq; intro w b6 HX) | (have hq := b4; clear hq; intro w b5 HX) | (have hq := b3; clear hq; intro w b4 HX) | (have hq := b2; clear hq; intro w b3 HX) | (have hq := b; clear hq; intro w b2 HX) | intro w b HX); simp only [Act.put, List.setIfInBounds_toArray, List.set_cons_zero, List.set_cons_succ]) | (refine sWN ?_; clear HX; intro w mm HX; simp only [Act.put, List.setIfInBounds_toArray, List.set_cons_zero, List.set_cons_succ]) | (refine sWP ?_; clear HX; intro w av nv cv HX; simp only [Act.put, List.setIfInBounds_toArray, List.set_cons_zero, List.set_cons_succ]) | (refine sx_make (n := 17) HX sl_op z_op rfl rfl (by decide) rfl ?_; clear HX; intro w b2 HX; simp only [Act.put, List.setIfInBounds_toArray, List.set_cons_zero, List.set_cons_succ]; rw [made17] at HX))
  have h1 := (tree_mono (P' := (5, Value.slice (some ⟨b2, 0, none⟩) 17 17, (List.replicate 17 zeroO).flatMap OpS.cells) :: P1) (Sep.poolCell (K := 5) (n := 17) HX.out.up2.up1 (by decide) (by decide)).up2 (fun r hr => List.mem_cons_of_mem _ hr)).up1
  clear HX
  have HX := Lib.hid h1
  clear h1
  have hm := mdo_any HX.out hd (tree_new 10 (by omega)) (by omega) 1 1 (List.replicate 17 zeroO) _ (List.mem_cons_self ..) (fun o ho => by rw [List.mem_replicate] at ho; rw [ho.2]; decide)
  rw [kn2] at hm
  refine hm.mono ?_
  clear hm
  rintro e w ⟨v, P2, rfl, hP2, ⟨a2, n2, c2, x2, rfl, hr2, hm2⟩, hx⟩
  clear HX
  have HX := Lib.hid hx
  have HP2 := Lib.hid hP2
  clear hx hP2 hr2 hm2
  dsimp only [failR] at HX ⊢
  go_wp2_with (first | (refine sWL ?_; simp only [Act.put, List.setIfInBounds_toArray, List.set_cons_zero, List.set_cons_succ, List.drop_zero, List.drop_succ_cons, List.take_succ_cons, List.take_zero, List.toList_toArray, NodeS.cells, OpS.cells, ResS.cells]) | (refine sWM ?_; simp only [Act.put, List.setIfInBounds_toArray, List.set_cons_zero, List.set_cons_succ]) | (refine sWS ?_; clear HX; intro w HX; simp only [Act.put, List.setIfInBounds_toArray, List.set_cons_zero, List.set_cons_succ, setMany, Nat.reduceAdd, NodeS.cells, OpS.cells, ResS.cells] at HX ⊢) | (refine sWT ?_; clear HX; intro w HX; simp only [Act.put, List.setIfInBounds_toArray, List.set_cons_zero, List.set_cons_succ, NodeS.cells, OpS.cells, ResS.cells] at HX ⊢) | (refine sWA ?_; clear HX; (first | (have hq := b9; clear hq; intro w b10 HX) | (have hq := b8; clear hq; intro w b9 HX) | (have hq := b7; clear hq; intro w b8 HX) | (have hq := b6; clear hq; intro w b7 HX) | (have hq := b5; clear hq; intro w b6 HX) | (have hq := b4; clear hq; intro w b5 HX) | (have hq := b3; clear hq; intro w b4 HX) | (have hq := b2; clear hq; intro w b3 HX) | (have hq := b; clear hq; intro w b2 HX) | intro w b HX); simp only [Act.put, List.setIfInBounds_toArray, List.set_cons_zero, List.set_cons_succ]) | (refine sWN ?_; clear HX; intro w mm HX; simp only [Act.put, List.setIfInBounds_toArray, List.set_cons_zero, List.set_cons_succ]) | (refine sWP ?_; clear HX; intro w av nv cv HX; simp only [Act.put, List.setIfInBounds_toArray, List.set_cons_zero, List.set_cons_succ]))
  have hm := request_any HX.out.up2.up2 hd (tree_new 10 (by omega)) (by omega) 1 4 9 [] (.slice none 0 0) (HP2.out _ (List.mem_cons_of_mem _ (HP1.out _ (List.mem_cons_self ..)))) (by simp)
  rw [kn3] at hm
  refine hm.mono ?_
  clear hm
  rintro e w ⟨v, P3, rfl, hP3, ⟨a3, n3, c3, x3, rfl, hr3, hm3⟩, hx⟩
  clear HX
  have HX := Lib.hid hx
  clear hx hP3 hr3 hm3
  dsimp only [failR] at HX ⊢
  go_wp2_with (first | (refine sWL ?_; simp only [Act.put, List.setIfInBounds_toArray, List.set_cons_zero, List.set_cons_succ, List.drop_zero, List.drop_succ_cons, List.take_succ_cons, List.take_zero, List.toList_toArray, NodeS.cells, OpS.cells, ResS.cells]) | (refine sWM ?_; simp only [Act.put, List.setIfInBounds_toArray, List.set_cons_zero, List.set_cons_succ]) | (refine sWS ?_; clear HX; intro w HX; simp only [Act.put, List.setIfInBounds_toArray, List.set_cons_zero, List.set_cons_succ, setMany, Nat.reduceAdd, NodeS.cells, OpS.cells, ResS.cells] at HX ⊢) | (refine sWT ?_; clear HX; intro w HX; simp only [Act.put, List.setIfInBounds_toArray, List.set_cons_zero, List.set_cons_succ, NodeS.cells, OpS.cells, ResS.cells] at HX ⊢) | (refine sWA ?_; clear HX; (first | (have hq := b9; clear hq; intro w b10 HX) | (have hq := b8; clear hq; intro w b9 HX) | (have hq := b7; clear hq; intro w b8 HX) | (have hq := b6; clear hq; intro w b7 HX) | (have hq := b5; clear hq; intro w b6 HX) | (have hq := b4; clear hq; intro w b5 HX) | (have hq := b3; clear hq; intro w b4 HX) | (have hq := b2; clear hq; intro w b3 HX) | (have hq := b; clear hq; intro w b2 HX) | intro w b HX); simp only [Act.put, List.setIfInBounds_toArray, List.set_cons_zero, List.set_cons_succ]) | (refine sWN ?_; clear HX; intro w mm HX; simp only [Act.put, List.setIfInBounds_toArray, List.set_cons_zero, List.set_cons_succ]) | (refine sWP ?_; clear HX; intro w av nv cv HX; simp only [Act.put, List.setIfInBounds_toArray, List.set_cons_zero, List.set_cons_succ]))
  refine (made_any HX.out _ _).mono ?_
  rintro e w ⟨rfl, hx⟩
  clear HX
  have HX := Lib.hid hx
  clear hx
  go_wp2_with (first | (refine sWL ?_; simp only [Act.put, List.setIfInBounds_toArray, List.set_cons_zero, List.set_cons_succ, List.drop_zero, List.drop_succ_cons, List.take_succ_cons, List.take_zero, List.toList_toArray, NodeS.cells, OpS.cells, ResS.cells]) | (refine sWM ?_; simp only [Act.put, List.setIfInBounds_toArray, List.set_cons_zero, List.set_cons_succ]) | (refine sWS ?_; clear HX; intro w HX; simp only [Act.put, List.setIfInBounds_toArray, List.set_cons_zero, List.set_cons_succ, setMany, Nat.reduceAdd, NodeS.cells, OpS.cells, ResS.cells] at HX ⊢) | (refine sWT ?_; clear HX; intro w HX; simp only [Act.put, List.setIfInBounds_toArray, List.set_cons_zero, List.set_cons_succ, NodeS.cells, OpS.cells, ResS.cells] at HX ⊢) | (refine sWA ?_; clear HX; (first | (have hq := b9; clear hq; intro w b10 HX) | (have hq := b8; clear hq; intro w b9 HX) | (have hq := b7; clear hq; intro w b8 HX) | (have hq := b6; clear hq; intro w b7 HX) | (have hq := b5; clear hq; intro w b6 HX) | (have hq := b4; clear hq; intro w b5 HX) | (have hq := b3; clear hq; intro w b4 HX) | (have hq := b2; clear hq; intro w b3 HX) | (have hq := b; clear hq; intro w b2 HX) | intro w b HX); simp only [Act.put, List.setIfInBounds_toArray, List.set_cons_zero, List.set_cons_succ]) | (refine sWN ?_; clear HX; intro w mm HX; simp only [Act.put, List.setIfInBounds_toArray, List.set_cons_zero, List.set_cons_succ]) | (refine sWP ?_; clear HX; intro w av nv cv HX; simp only [Act.put, List.setIfInBounds_toArray, List.set_cons_zero, List.set_cons_succ]))
  refine (made_any HX.out _ _).mono ?_
  rintro e w ⟨rfl, hx⟩
  clear HX
  have HX := Lib.hid hx
  clear hx
  go_wp2_with (first | (refine sWL ?_; simp only [Act.put, List.setIfInBounds_toArray, List.set_cons_zero, List.set_cons_succ, List.drop_zero, List.drop_succ_cons, List.take_succ_cons, List.take_zero, List.toList_toArray, NodeS.cells, OpS.cells, ResS.cells]) | (refine sWM ?_; simp only [Act.put, List.setIfInBounds_toArray, List.set_cons_zero, List.set_cons_succ]) | (refine sWS ?_; clear HX; intro w HX; simp only [Act.put, List.setIfInBounds_toArray, List.set_cons_zero, List.set_cons_succ, setMany, Nat.reduceAdd, NodeS.cells, OpS.cells, ResS.cells] at HX ⊢) | (refine sWT ?_; clear HX; intro w HX; simp only [Act.put, List.setIfInBounds_toArray, List.set_cons_zero, List.set_cons_succ, NodeS.cells, OpS.cells, ResS.cells] at HX ⊢) | (refine sWA ?_; clear HX; (first | (have hq := b9; clear hq; intro w b10 HX) | (have hq := b8; clear hq; intro w b9 HX) | (have hq := b7; clear hq; intro w b8 HX) | (have hq := b6; clear hq; intro w b7 HX) | (have hq := b5; clear hq; intro w b6 HX) | (have hq := b4; clear hq; intro w b5 HX) | (have hq := b3; clear hq; intro w b4 HX) | (have hq := b2; clear hq; intro w b3 HX) | (have hq := b; clear hq; intro w b2 HX) | intro w b HX); simp only [Act.put, List.setIfInBounds_toArray, List.set_cons_zero, List.set_cons_succ]) | (refine sWN ?_; clear HX; intro w mm HX; simp only [Act.put, List.setIfInBounds_toArray, List.set_cons_zero, List.set_cons_succ]) | (refine sWP ?_; clear HX; intro w av nv cv HX; simp only [Act.put, List.setIfInBounds_toArray, List.set_cons_zero, List.set_cons_succ]))
  refine (made_any HX.out _ _).mono ?_
  rintro e w ⟨rfl, hx⟩
  clear HX
  have HX := Lib.hid hx
  clear hx
  simp only [OpS.val, madeO]
  go_wp2_with (first | (refine sWL ?_; simp only [Act.put, List.setIfInBounds_toArray, List.set_cons_zero, List.set_cons_succ, List.drop_zero, List.drop_succ_cons, List.take_succ_cons, List.take_zero, List.toList_toArray, NodeS.cells, OpS.cells, ResS.cells]) | (refine sWM ?_; simp only [Act.put, List.setIfInBounds_toArray, List.set_cons_zero, List.set_cons_succ]) | (refine sWS ?_; clear HX; intro w HX; simp only [Act.put, List.setIfInBounds_toArray, List.set_cons_zero, List.set_cons_succ, setMany, Nat.reduceAdd, NodeS.cells, OpS.cells, ResS.cells] at HX ⊢) | (refine sWT ?_; clear HX; intro w HX; simp only [Act.put, List.setIfInBounds_toArray, List.set_cons_zero, List.set_cons_succ, NodeS.cells, OpS.cells, ResS.cells] at HX ⊢) | (refine sWA ?_; clear HX; (first | (have hq := b9; clear hq; intro w b10 HX) | (have hq := b8; clear hq; intro w b9 HX) | (have hq := b7; clear hq; intro w b8 HX) | (have hq := b6; clear hq; intro w b7 HX) | (have hq := b5; clear hq; intro w b6 HX) | (have hq := b4; clear hq; intro w b5 HX) | (have hq := b3; clear hq; intro w b4 HX) | (have hq := b2; clear hq; intro w b3 HX) | (have hq := b; clear hq; intro w b2 HX) | intro w b HX); simp only [Act.put, List.setIfInBounds_toArray, List.set_cons_zero, List.set_cons_succ]) | (refine sWN ?_; clear HX; intro w mm HX; simp only [Act.put, List.setIfInBounds_toArray, List.set_cons_zero, List.set_cons_succ]) | (refine sWP ?_; clear HX; intro w av nv cv HX; simp only [Act.put, List.setIfInBounds_toArray, List.set_cons_zero, List.set_cons_succ]))
  have h1 : Sep W (w.alloc (.cells (ops3.flatMap OpS.cells).toArray 36)) (ThCell w.heap.size (.cells (ops3.flatMap OpS.cells).toArray 36 (0, 0)) :: _) [] := HX.out.newCell _
  have h2 := (tree_mono (P' := (5, Value.slice (some ⟨w.heap.size, 0, none⟩) 3 3, ops3.flatMap OpS.cells) :: P3) (Sep.poolCell (K := 5) (n := 3) h1.up2.up1 (by decide) (by decide)).up2 (fun r hr => List.mem_cons_of_mem _ hr)).up1
  have hm := mdo_any h2 hd (tree_new 10 (by omega)) (by omega) 5 1 ops3 _ (List.mem_cons_self ..) (fun o ho => by
    unfold ops3 at ho
    simp only [List.mem_cons, List.not_mem_nil, or_false] at ho
    rcases ho with rfl | rfl | rfl <;> decide)
  refine hm.mono ?_
  clear hm h1 h2
  rintro e w1 ⟨v, P4, rfl, hP4, ⟨a4, n4, c4, x4, rfl, hr4, hm4⟩, hx⟩
  clear HX
  have HX := Lib.hid (show Sep W w1 (ThPool W P4 :: ThTree t kS3 P4 :: _) [] from hx)
  have hB : TreeB (0 + 16) kS3 := many_b (tree_new 10 (by omega)) 5 1 ops3
  clear hx hP4 hr4 hm4
  go_wp2_with (first | (refine sWL ?_; simp only [Act.put, List.setIfInBounds_toArray, List.set_cons_zero, List.set_cons_succ, List.drop_zero, List.drop_succ_cons, List.take_succ_cons, List.take_zero, List.toList_toArray, NodeS.cells, OpS.cells, ResS.cells]) | (refine sWM ?_; simp only [Act.put, List.setIfInBounds_toArray, List.set_cons_zero, List.set_cons_succ]) | (refine sWS ?_; clear HX; intro w HX; simp only [Act.put, List.setIfInBounds_toArray, List.set_cons_zero, List.set_cons_succ, setMany, Nat.reduceAdd, NodeS.cells, OpS.cells, ResS.cells] at HX ⊢) | (refine sWT ?_; clear HX; intro w HX; simp only [Act.put, List.setIfInBounds_toArray, List.set_cons_zero, List.set_cons_succ, NodeS.cells, OpS.cells, ResS.cells] at HX ⊢) | (refine sWA ?_; clear HX; (first | (have hq := b9; clear hq; intro w b10 HX) | (have hq := b8; clear hq; intro w b9 HX) | (have hq := b7; clear hq; intro w b8 HX) | (have hq := b6; clear hq; intro w b7 HX) | (have hq := b5; clear hq; intro w b6 HX) | (have hq := b4; clear hq; intro w b5 HX) | (have hq := b3; clear hq; intro w b4 HX) | (have hq := b2; clear hq; intro w b3 HX) | (have hq := b; clear hq; intro w b2 HX) | intro w b HX); simp only [Act.put, List.setIfInBounds_toArray, List.set_cons_zero, List.set_cons_succ]) | (refine sWN ?_; clear HX; intro w mm HX; simp only [Act.put, List.setIfInBounds_toArray, List.set_cons_zero, List.set_cons_succ]) | (refine sWP ?_; clear HX; intro w av nv cv HX; simp only [Act.put, List.setIfInBounds_toArray, List.set_cons_zero, List.set_cons_succ]))
  refine (purge_any HX.out hd hB (by omega) 5).mono ?_
  rw [kn5]
  rintro e w2 ⟨l', -, hl', v', P5, rfl, hP5, hx⟩
  obtain rfl : l' = kL := (hl' (fun p hp => of_decide_eq_true (List.all_eq_true.1 kn5c p hp))).trans kn5b
  obtain ⟨pa, pn, pc, rfl, hpl, -, -⟩ := hx.rowLen
  obtain rfl : pn = 2 := by simp [kL] at hpl; omega
  have hx2 := (tree_mono (P' := (1, Value.slice pa 2 pc, kL.map sv) :: P5) hx.poolRow.up1 (fun r hr => List.mem_cons_of_mem _ hr)).up1
  have hB2 := purT_b kL hB
  obtain ⟨S4, hS4⟩ : ∃ S4, purT kL kS3 = S4 := ⟨_, rfl⟩
  have k7 := kn7
  have k6 := kn6
  rw [hS4] at hx2 hB2 k7 k6
  clear HX
  have HX := Lib.hid hx2
  clear hx hx2 hP5 hl' hpl hB hS4
  go_wp2_with (first | (refine sWL ?_; simp only [Act.put, List.setIfInBounds_toArray, List.set_cons_zero, List.set_cons_succ, List.drop_zero, List.drop_succ_cons, List.take_succ_cons, List.take_zero, List.toList_toArray, NodeS.cells, OpS.cells, ResS.cells]) | (refine sWM ?_; simp only [Act.put, List.setIfInBounds_toArray, List.set_cons_zero, List.set_cons_succ]) | (refine sWS ?_; clear HX; intro w HX; simp only [Act.put, List.setIfInBounds_toArray, List.set_cons_zero, List.set_cons_succ, setMany, Nat.reduceAdd, NodeS.cells, OpS.cells, ResS.cells] at HX ⊢) | (refine sWT ?_; clear HX; intro w HX; simp only [Act.put, List.setIfInBounds_toArray, List.set_cons_zero, List.set_cons_succ, NodeS.cells, OpS.cells, ResS.cells] at HX ⊢) | (refine sWA ?_; clear HX; (first | (have hq := b9; clear hq; intro w b10 HX) | (have hq := b8; clear hq; intro w b9 HX) | (have hq := b7; clear hq; intro w b8 HX) | (have hq := b6; clear hq; intro w b7 HX) | (have hq := b5; clear hq; intro w b6 HX) | (have hq := b4; clear hq; intro w b5 HX) | (have hq := b3; clear hq; intro w b4 HX) | (have hq := b2; clear hq; intro w b3 HX) | (have hq := b; clear hq; intro w b2 HX) | intro w b HX); simp only [Act.put, List.setIfInBounds_toArray, List.set_cons_zero, List.set_cons_succ]) | (refine sWN ?_; clear HX; intro w mm HX; simp only [Act.put, List.setIfInBounds_toArray, List.set_cons_zero, List.set_cons_succ]) | (refine sWP ?_; clear HX; intro w av nv cv HX; simp only [Act.put, List.setIfInBounds_toArray, List.set_cons_zero, List.set_cons_succ]))
  have h1 := (tree_mono (P' := (5, Value.slice (some ⟨b5, 0, none⟩) 1 1, [getF].flatMap OpS.cells) :: (1, Value.slice pa 2 pc, kL.map sv) :: P5) (Sep.poolCell (K := 5) (n := 1) HX.out rfl (by decide)).up1 (fun r hr => List.mem_cons_of_mem _ hr)).up1
  have hm := request_any h1 hd hB2 (by omega) 1 7 9 [getF] _ (List.mem_cons_self ..) (fun o ho => by rw [List.mem_singleton] at ho; rw [ho]; decide)
  obtain ⟨⟨⟨rn, rz, re, ra, rrs⟩, S5⟩, hm5⟩ : ∃ m5, requestT S4 1 7 9 [getF] = m5 := ⟨_, rfl⟩
  have hS5 : S5 = S4 := by
    have := kn8 S4
    rw [hm5] at this
    exact this
  rw [hm5] at hm k7
  dsimp only at k7
  obtain ⟨rfl, rfl, rfl⟩ := k7
  subst hS5
  refine hm.mono ?_
  clear hm h1 hm5 hB2
  rintro e w ⟨v, P6, rfl, hP6, ⟨a6, n6, c6, x6, rfl, hr6, hm6⟩, hx⟩
  clear HX
  have HX := Lib.hid hx
  have HP6 := Lib.hid hP6
  clear hx hP6 hr6 hm6
  dsimp only at HX ⊢
  go_wp2_with (first | (refine sWL ?_; simp only [Act.put, List.setIfInBounds_toArray, List.set_cons_zero, List.set_cons_succ, List.drop_zero, List.drop_succ_cons, List.take_succ_cons, List.take_zero, List.toList_toArray, NodeS.cells, OpS.cells, ResS.cells]) | (refine sWM ?_; simp only [Act.put, List.setIfInBounds_toArray, List.set_cons_zero, List.set_cons_succ]) | (refine sWS ?_; clear HX; intro w HX; simp only [Act.put, List.setIfInBounds_toArray, List.set_cons_zero, List.set_cons_succ, setMany, Nat.reduceAdd, NodeS.cells, OpS.cells, ResS.cells] at HX ⊢) | (refine sWT ?_; clear HX; intro w HX; simp only [Act.put, List.setIfInBounds_toArray, List.set_cons_zero, List.set_cons_succ, NodeS.cells, OpS.cells, ResS.cells] at HX ⊢) | (refine sWA ?_; clear HX; (first | (have hq := b9; clear hq; intro w b10 HX) | (have hq := b8; clear hq; intro w b9 HX) | (have hq := b7; clear hq; intro w b8 HX) | (have hq := b6; clear hq; intro w b7 HX) | (have hq := b5; clear hq; intro w b6 HX) | (have hq := b4; clear hq; intro w b5 HX) | (have hq := b3; clear hq; intro w b4 HX) | (have hq := b2; clear hq; intro w b3 HX) | (have hq := b; clear hq; intro w b2 HX) | intro w b HX); simp only [Act.put, List.setIfInBounds_toArray, List.set_cons_zero, List.set_cons_succ]) | (refine sWN ?_; clear HX; intro w mm HX; simp only [Act.put, List.setIfInBounds_toArray, List.set_cons_zero, List.set_cons_succ]) | (refine sWP ?_; clear HX; intro w av nv cv HX; simp only [Act.put, List.setIfInBounds_toArray, List.set_cons_zero, List.set_cons_succ]))
  have h1 : Sep W (w.alloc (.cells (kL.map sv).toArray 9)) (ThCell w.heap.size (.cells (kL.map sv).toArray 9 (0, 0)) :: _) [] := HX.out.newCell _
  have h2 := Sep.poolCell (K := 1) (n := 2) h1.up2.up1 rfl (by decide)
  refine (sames_any h2 _ _ kL (List.mem_cons_of_mem _ (HP6.out _ (List.mem_cons_of_mem _ (List.mem_cons_self ..)))) (List.mem_cons_self ..)).mono ?_
  clear h1 h2
  rintro e w3 ⟨rfl, hx⟩
  clear HX
  have HX := Lib.hid hx
  clear hx
  go_wp2_with (first | (refine sWL ?_; simp only [Act.put, List.setIfInBounds_toArray, List.set_cons_zero, List.set_cons_succ, List.drop_zero, List.drop_succ_cons, List.take_succ_cons, List.take_zero, List.toList_toArray, NodeS.cells, OpS.cells, ResS.cells]) | (refine sWM ?_; simp only [Act.put, List.setIfInBounds_toArray, List.set_cons_zero, List.set_cons_succ]) | (refine sWS ?_; clear HX; intro w HX; simp only [Act.put, List.setIfInBounds_toArray, List.set_cons_zero, List.set_cons_succ, setMany, Nat.reduceAdd, NodeS.cells, OpS.cells, ResS.cells] at HX ⊢) | (refine sWT ?_; clear HX; intro w HX; simp only [Act.put, List.setIfInBounds_toArray, List.set_cons_zero, List.set_cons_succ, NodeS.cells, OpS.cells, ResS.cells] at HX ⊢) | (refine sWA ?_; clear HX; (first | (have hq := b9; clear hq; intro w b10 HX) | (have hq := b8; clear hq; intro w b9 HX) | (have hq := b7; clear hq; intro w b8 HX) | (have hq := b6; clear hq; intro w b7 HX) | (have hq := b5; clear hq; intro w b6 HX) | (have hq := b4; clear hq; intro w b5 HX) | (have hq := b3; clear hq; intro w b4 HX) | (have hq := b2; clear hq; intro w b3 HX) | (have hq := b; clear hq; intro w b2 HX) | intro w b HX); simp only [Act.put, List.setIfInBounds_toArray, List.set_cons_zero, List.set_cons_succ]) | (refine sWN ?_; clear HX; intro w mm HX; simp only [Act.put, List.setIfInBounds_toArray, List.set_cons_zero, List.set_cons_succ]) | (refine sWP ?_; clear HX; intro w av nv cv HX; simp only [Act.put, List.setIfInBounds_toArray, List.set_cons_zero, List.set_cons_succ]))
  refine (treelen_any HX.out.up2).mono ?_
  rintro e w4 ⟨rfl, hu⟩
  replace HX := Lib.hid (HX.out.keep hu)
  rw [k6]
  clear hu
  go_wp2_with (first | (refine sWL ?_; simp only [Act.put, List.setIfInBounds_toArray, List.set_cons_zero, List.set_cons_succ, List.drop_zero, List.drop_succ_cons, List.take_succ_cons, List.take_zero, List.toList_toArray, NodeS.cells, OpS.cells, ResS.cells]) | (refine sWM ?_; simp only [Act.put, List.setIfInBounds_toArray, List.set_cons_zero, List.set_cons_succ]) | (refine sWS ?_; clear HX; intro w HX; simp only [Act.put, List.setIfInBounds_toArray, List.set_cons_zero, List.set_cons_succ, setMany, Nat.reduceAdd, NodeS.cells, OpS.cells, ResS.cells] at HX ⊢) | (refine sWT ?_; clear HX; intro w HX; simp only [Act.put, List.setIfInBounds_toArray, List.set_cons_zero, List.set_cons_succ, NodeS.cells, OpS.cells, ResS.cells] at HX ⊢) | (refine sWA ?_; clear HX; (first | (have hq := b9; clear hq; intro w b10 HX) | (have hq := b8; clear hq; intro w b9 HX) | (have hq := b7; clear hq; intro w b8 HX) | (have hq := b6; clear hq; intro w b7 HX) | (have hq := b5; clear hq; intro w b6 HX) | (have hq := b4; clear hq; intro w b5 HX) | (have hq := b3; clear hq; intro w b4 HX) | (have hq := b2; clear hq; intro w b3 HX) | (have hq := b; clear hq; intro w b2 HX) | intro w b HX); simp only [Act.put, List.setIfInBounds_toArray, List.set_cons_zero, List.set_cons_succ]) | (refine sWN ?_; clear HX; intro w mm HX; simp only [Act.put, List.setIfInBounds_toArray, List.set_cons_zero, List.set_cons_succ]) | (refine sWP ?_; clear HX; intro w av nv cv HX; simp only [Act.put, List.setIfInBounds_toArray, List.set_cons_zero, List.set_cons_succ]))
  go_ret
  exact ⟨rfl, HX.out.below⟩
end
end Go.Proofs.YtjeaoopamebgjaaGreatDoor

/-
  A row whose world bears variables that are laid, and has its shape: both are kept for the walk.
-/
namespace Go.Av
variable {H : Type} {enc : TypeId × Value → H}
theorem handed_both {a : Assume} {C : Checked} {os : Os} {f : FuncId} {fn : Func} {s : ChangeSpec} {conds : List PathCond} {apart fresh handsOn again : Bool} {X : World → Array Value → Prop}
    (hX : ∀ (w w' : World) (args : Array Value), w.heap = w'.heap → X w args → X w' args)
    (own : ownKnob C.prog.godebug = none) (started : os.Started) (noInit : C.prog.inits.idxOf? f = none) (hfn : C.prog.funcs[f]? = some fn)
    (witness : ∃ (w : World) (tape : Tape) (i : Input), w.os = os ∧ (w.forCall tape i).Shaped C.prog ∧ i.vars = [] ∧ Input.okWide C.prog (w.forCall tape i) .any w.heap.size f i ∧
      ((s.pre enc C.prog fn conds apart (w.forCall tape i).memory i.args ∧ X (w.forCall tape i).memory i.args) ∧ sizedMet enc C.prog fn (OpenSpec.ofChange s) apart (w.forCall tape i).memory i.args) ∧ a.holds C.prog (lone (Frame.enter C.prog f i.args .normal) [] (w.forCall tape i)))
    (contract : ∀ (W : World) (base : Nat) (args : Array Value) (ds gs : List (DataW H)) (before : List MemPlace),
      (∀ (j : Nat) t v, fn.params[j]? = some t → args[j]? = some v → Value.okWide C.prog W .any base t v) →
      DataW.Whole enc C.prog fn.params.toList s.vars apart W args.toList ds gs before →
      W.ShapedOpen C.prog → X W args →
      Calls C.prog f args W fun e W' => ∃ v, e = .returned v ∧ s.post enc C.prog fn apart fresh handsOn again W args v W') :
    ReturnsInHanded a C os f .any (fun w args => (s.pre enc C.prog fn conds apart w args ∧ X w args) ∧ sizedMet enc C.prog fn (OpenSpec.ofChange s) apart w args) (s.post enc C.prog fn apart fresh handsOn again) := by
  refine returnsInHanded_of_calls own started noInit witness ?_
  intro w tape i _ hsh _ hok hpre hholds
  obtain ⟨_, _, _, fn', hfn', _, _, _, _, hval⟩ := hok
  have e : fn' = fn := Option.some.inj (hfn'.symm.trans hfn)
  subst e
  obtain ⟨⟨⟨ds, gs, before, hw, hc⟩, hx⟩, hz⟩ := hpre
  have hw' := DataW.Whole.of_heap (w' := w.forCall tape i) (by rfl) hw
  refine (contract (w.forCall tape i) w.heap.size i.args ds gs before hval hw' hsh (hX _ _ _ (by rfl) hx)).mono fun e W' ⟨v, he, hp⟩ => ?_
  subst he
  exact ChangeSpec.post_blind hp
end Go.Av
namespace Go.Proofs.YtjeaoopamebgjaaGreatDoor
open Go.Av
theorem door_of {W : World} (h : W.ShapedOpen Tryz.prog) : Door W := Tryz.laysM146.s1_3 W h
end Go.Proofs.YtjeaoopamebgjaaGreatDoor

/-
  A row whose world bears the library's tables and has its shape: what the walks ask of the door.
-/
namespace Go.Av
theorem laid_tail {P : Program} {w : World} {x : String × DataW Unit} {rest : List (String × DataW Unit)} (h : ∃ ps, DataW.LaidVars P w (x :: rest) ps) : ∃ ps, DataW.LaidVars P w rest ps := by
  obtain ⟨ps, g, t, cs, fuel, p, q, -, -, -, -, h1, h2⟩ := h
  exact ⟨q, by assumption⟩
theorem tab_head {P : Program} {W : World} {name : String} {k : IntKind} {zs : List Int} {rest : List (String × DataW Unit)} {g : Nat} {t e : TypeId} {n : Nat}
    (hg : P.globalNamed name = some g) (hty : (P.globals[g]?).map (·.type) = some t) (ht : P.underlying t = some (.array n e)) (he : P.underlying e = some (.int k)) (hce : P.cellsOf e = 1) (hct : P.cellsOf t = n)
    (h : ∃ ps, DataW.LaidVars P W ((name, Lib.tabData k zs) :: rest) ps) : Lib.TabIs P W name k zs := by
  obtain ⟨ps, g', t', cs, fuel, p, q, hg', ht', hvar, hd, _, _⟩ := h
  obtain rfl := Option.some.inj (hg.symm.trans hg')
  obtain rfl := Option.some.inj (hty.symm.trans ht')
  unfold Lib.TabIs
  rw [hvar, ← Lib.cells_of_tab ht he hce hct hd]
end Go.Av
namespace Go.Proofs.YtjeaoopamebgjaaGreatDoor
open Go.Av
theorem doorN_of {W : World} {a b c : String × DataW Unit} {r : List (String × DataW Unit)} (h : W.ShapedOpen Tryz.prog) (hc : c = ("internal/strconv.uint64pow10", Lib.tabData .u64 Lib.pow10Tab)) (hl : laidMet Tryz.prog (a :: b :: c :: r) W) : DoorN W := by
  subst hc
  obtain ⟨ps, h1, -⟩ := hl
  refine ⟨door_of h, ?_⟩
  exact tab_head (g := 3) (by kernel_rfl) (by kernel_rfl) Tryz.underlying213 Tryz.underlying163 (by kernel_rfl) (by kernel_rfl) (laid_tail (laid_tail ⟨ps, h1⟩))
end Go.Proofs.YtjeaoopamebgjaaGreatDoor

/-
  A slice of Ops that a law is handed, opened: as a row that is read.
-/
namespace Go.Av
open Go.RowKit
instance : Inhabited OpS := ⟨⟨0, ⟨#[]⟩, ⟨#[]⟩, 0, 0⟩⟩
/-- What the walk is told of a slice of Ops. -/
def IsOps (w : World) (a : Option Addr) (len cap : Nat) (l : List OpS) : Prop :=
  l.length = len ∧ len ≤ cap ∧ cap ≤ maxLen ∧ (a = none → cap = 0) ∧
    (∀ x, a = some x → ∀ i, (h : i < l.length) → w.cell? (x.add (i * 5)) = some (.int .i64 l[i].kind) ∧ w.cell? (x.add (i * 5 + 1)) = some (.string l[i].path) ∧ w.cell? (x.add (i * 5 + 2)) = some (.string l[i].data) ∧
      w.cell? (x.add (i * 5 + 3)) = some (.int .i64 l[i].ver) ∧ w.cell? (x.add (i * 5 + 4)) = some (.int .i64 l[i].flags)) ∧ ∀ c ∈ l, c.path.size ≤ maxLen ∧ c.data.size ≤ maxLen
theorem add_twice2 (x : Addr) (i j : Nat) : (x.add i).add j = x.add (i + j) := (Go.Deep.add_add x i j).symm ▸ rfl
theorem IsOps.row {w : World} {a : Option Addr} {len cap : Nat} {l : List OpS} (h : IsOps w a len cap l) : ∃ E, ReadRow w 5 (.slice a len cap) (l.flatMap OpS.cells) E := by
  obtain ⟨h1, h2, h3, h4, h5, h6⟩ := h
  have hlen : (l.flatMap OpS.cells).length = len * 5 := by rw [flatG_len (f := OpS.cells) (K := 5) (fun _ => rfl), h1]
  cases l with
  | nil => exact ⟨[], a, len, cap, rfl, hlen, h2, h3, h4, .inl ⟨rfl, rfl⟩⟩
  | cons o l =>
    cases a with
    | none =>
      have := h4 rfl
      simp at h1
      omega
    | some x =>
      obtain ⟨g0, -⟩ := h5 x rfl 0 (by simp)
      have hs := spotK_of g0
      obtain ⟨bk, off, sp⟩ := x
      rw [Nat.zero_mul] at g0
      have hsp : sp = none := by
        have hz : (⟨bk, off, sp⟩ : Addr).add 0 = ⟨bk, off, sp⟩ := by unfold Addr.add; split <;> simp_all
        rw [hz] at g0
        exact spotK_of g0
      subst hsp
      refine ⟨[bk], _, len, cap, rfl, hlen, h2, h3, h4, .inr ⟨bk, off, rfl, rfl, ?_, fun i v hv => ?_⟩⟩
      · have := World.block_lt_of_cell? w _ g0
        rw [Addr.add_lit] at this
        exact this
      · have hi : i < (o :: l).length * 5 := by
          have := (List.getElem?_eq_some_iff.1 hv).1
          rw [flatG_len (f := OpS.cells) (K := 5) (fun _ => rfl)] at this
          exact this
        have hp : i / 5 < (o :: l).length := by omega
        have hm : i % 5 < 5 := Nat.mod_lt _ (by omega)
        have hat := flatG_at (f := OpS.cells) (K := 5) (fun _ => rfl) (o :: l) hp hm
        rw [show i / 5 * 5 + i % 5 = i by omega, hv] at hat
        obtain ⟨c0, c1, c2, c3, c4⟩ := h5 _ rfl (i / 5) hp
        simp only [Addr.add_lit] at c0 c1 c2 c3 c4
        rcases (show i % 5 = 0 ∨ i % 5 = 1 ∨ i % 5 = 2 ∨ i % 5 = 3 ∨ i % 5 = 4 by omega) with e | e | e | e | e <;> rw [e] at hat <;> simp only [OpS.cells, List.getElem?_cons_zero, List.getElem?_cons_succ, Option.some.injEq] at hat <;> subst hat
        · rw [show off + i = off + i / 5 * 5 by omega]; exact c0
        · rw [show off + i = off + (i / 5 * 5 + 1) by omega]; exact c1
        · rw [show off + i = off + (i / 5 * 5 + 2) by omega]; exact c2
        · rw [show off + i = off + (i / 5 * 5 + 3) by omega]; exact c3
        · rw [show off + i = off + (i / 5 * 5 + 4) by omega]; exact c4
end Go.Av
namespace Go.Proofs.YtjeaoopamebgjaaGreatDoor
open Go.RowKit Go.Av Go.ChangeShapes Go.WideShapes
theorem opCells2 : Tryz.prog.cellsOf 36 = 5 ∧ Tryz.prog.cellsOf 3 = 1 ∧ Tryz.prog.cellsOf 9 = 1 := by
  refine ⟨?_, ?_, ?_⟩ <;> kernel_rfl
set_option maxRecDepth 100000 in
theorem opsj_of {H : Type} {enc : TypeId × Value → H} {w : World} {base : Nat} {held : Bool} {fuel : Nat} {a : Option Addr} {len cap : Nat} {x : DataW H × List MemPlace}
    (h : DataW.trod enc Tryz.prog w base (fun _ => true) held fuel 22 [.slice a len cap] = some x) : ∃ l, IsOps w a len cap l := by
  obtain ⟨c1, c2, c3⟩ := opCells2
  rcases Deep.open_slice Tryz.underlying22 h with ⟨hcs, _⟩ | ⟨x, l, c, m, n, D, Pl, hcs, hb, hl, hm, hmm, hx, hi⟩
  · cases hcs
    exact ⟨[], rfl, Nat.le_refl _, by decide, fun _ => rfl, by simp, by simp⟩
  · cases hcs
    rw [c1] at hi
    have each : ∀ i, i < len → ∃ q : OpS, (w.cell? (x.add (i * 5)) = some (.int .i64 q.kind) ∧ w.cell? (x.add (i * 5 + 1)) = some (.string q.path) ∧ w.cell? (x.add (i * 5 + 2)) = some (.string q.data) ∧
        w.cell? (x.add (i * 5 + 3)) = some (.int .i64 q.ver) ∧ w.cell? (x.add (i * 5 + 4)) = some (.int .i64 q.flags)) ∧ q.path.size ≤ maxLen ∧ q.data.size ≤ maxLen := by
      intro i hil
      obtain ⟨cs', hc, ht⟩ := hi i (by rw [hmm]; split <;> omega)
      obtain ⟨_, hcl, hat⟩ := World.cells?_some hc
      obtain ⟨ys, n', -, -, -, hyl, hf⟩ := DataW.trod_struct Tryz.underlying36 ht
      match cs', hcl with
      | [k0, k1, k2, k3, k4], _ =>
        have f0 : DataW.trod enc Tryz.prog w base (fun _ => true) held n' 3 (List.take (Tryz.prog.cellsOf 3) (List.drop 0 [k0, k1, k2, k3, k4])) = ys[0]? := hf 0 _ rfl
        have f1 : DataW.trod enc Tryz.prog w base (fun _ => true) held n' 9 (List.take (Tryz.prog.cellsOf 9) (List.drop 1 [k0, k1, k2, k3, k4])) = ys[1]? := hf 1 _ rfl
        have f2 : DataW.trod enc Tryz.prog w base (fun _ => true) held n' 9 (List.take (Tryz.prog.cellsOf 9) (List.drop 2 [k0, k1, k2, k3, k4])) = ys[2]? := hf 2 _ rfl
        have f3 : DataW.trod enc Tryz.prog w base (fun _ => true) held n' 3 (List.take (Tryz.prog.cellsOf 3) (List.drop 3 [k0, k1, k2, k3, k4])) = ys[3]? := hf 3 _ rfl
        have f4 : DataW.trod enc Tryz.prog w base (fun _ => true) held n' 3 (List.take (Tryz.prog.cellsOf 3) (List.drop 4 [k0, k1, k2, k3, k4])) = ys[4]? := hf 4 _ rfl
        rw [c2] at f0 f3 f4
        rw [c3] at f1 f2
        have hy : ∀ j, j < 5 → ∃ y, ys[j]? = some y := fun j hj => ⟨ys[j]'(by rw [hyl]; exact hj), List.getElem?_eq_getElem _⟩
        obtain ⟨y0, e0⟩ := hy 0 (by omega)
        obtain ⟨y1, e1⟩ := hy 1 (by omega)
        obtain ⟨y2, e2⟩ := hy 2 (by omega)
        obtain ⟨y3, e3⟩ := hy 3 (by omega)
        obtain ⟨y4, e4⟩ := hy 4 (by omega)
        obtain ⟨n0, g0, -, -⟩ := DataW.trod_int Tryz.underlying3 (f0.trans e0)
        obtain ⟨n1, g1, -, w1⟩ := DataW.trod_string Tryz.underlying9 (f1.trans e1)
        obtain ⟨n2, g2, -, w2⟩ := DataW.trod_string Tryz.underlying9 (f2.trans e2)
        obtain ⟨n3, g3, -, -⟩ := DataW.trod_int Tryz.underlying3 (f3.trans e3)
        obtain ⟨n4, g4, -, -⟩ := DataW.trod_int Tryz.underlying3 (f4.trans e4)
        simp at g0 g1 g2 g3 g4
        subst g0 g1 g2 g3 g4
        refine ⟨⟨n0, n1, n2, n3, n4⟩, ⟨?_, ?_, ?_, ?_, ?_⟩, w1, w2⟩
        · have := hat 0 (by omega); rw [add_twice2] at this; exact this
        · have := hat 1 (by omega); rw [add_twice2] at this; exact this
        · have := hat 2 (by omega); rw [add_twice2] at this; exact this
        · have := hat 3 (by omega); rw [add_twice2] at this; exact this
        · have := hat 4 (by omega); rw [add_twice2] at this; exact this
    obtain ⟨y, hy⟩ := Deep.choose_lt each
    refine ⟨(List.range len).map y, by simp, hl, hm, by simp, ?_, ?_⟩
    · intro x' hx' i hi'
      cases hx'
      simp at hi'
      simpa using (hy i hi').1
    · intro q hq
      obtain ⟨i, hi', rfl⟩ := List.mem_map.1 hq
      exact (hy i (List.mem_range.1 hi')).2
end Go.Proofs.YtjeaoopamebgjaaGreatDoor

/-
  A slice of acts of chapter 12 that a law is handed: as a row that is read.
-/
namespace Go.Av
open Go.RowKit
structure MAct where
  op : Int
  sess : Int
  zxid : Int
  num : Int
  v : Value
  ops : List OpS
def MAct.cells (a : MAct) : List Value := [.int .i64 a.op, .int .i64 a.sess, .int .i64 a.zxid, .int .i64 a.num, a.v]
instance : Inhabited MAct := ⟨⟨0, 0, 0, 0, .bool false, []⟩⟩
/-- What the walk is told of a slice of acts. -/
def IsMActs (w : World) (a : Option Addr) (len cap : Nat) (l : List MAct) : Prop :=
  l.length = len ∧ len ≤ cap ∧ cap ≤ maxLen ∧ (a = none → cap = 0) ∧
    (∀ x, a = some x → ∀ i, (h : i < l.length) → w.cell? (x.add (i * 5)) = some (.int .i64 l[i].op) ∧ w.cell? (x.add (i * 5 + 1)) = some (.int .i64 l[i].sess) ∧ w.cell? (x.add (i * 5 + 2)) = some (.int .i64 l[i].zxid) ∧
      w.cell? (x.add (i * 5 + 3)) = some (.int .i64 l[i].num) ∧ w.cell? (x.add (i * 5 + 4)) = some l[i].v) ∧ ∀ c ∈ l, ∃ E, ReadRow w 5 c.v (c.ops.flatMap OpS.cells) E
theorem IsMActs.row {w : World} {a : Option Addr} {len cap : Nat} {l : List MAct} (h : IsMActs w a len cap l) : ∃ E, ReadRow w 5 (.slice a len cap) (l.flatMap MAct.cells) E := by
  obtain ⟨h1, h2, h3, h4, h5, h6⟩ := h
  have hlen : (l.flatMap MAct.cells).length = len * 5 := by rw [flatG_len (f := MAct.cells) (K := 5) (fun _ => rfl), h1]
  cases l with
  | nil => exact ⟨[], a, len, cap, rfl, hlen, h2, h3, h4, .inl ⟨rfl, rfl⟩⟩
  | cons o l =>
    cases a with
    | none =>
      have := h4 rfl
      simp at h1
      omega
    | some x =>
      obtain ⟨g0, -⟩ := h5 x rfl 0 (by simp)
      have hs := spotK_of g0
      obtain ⟨bk, off, sp⟩ := x
      rw [Nat.zero_mul] at g0
      have hsp : sp = none := by
        have hz : (⟨bk, off, sp⟩ : Addr).add 0 = ⟨bk, off, sp⟩ := by unfold Addr.add; split <;> simp_all
        rw [hz] at g0
        exact spotK_of g0
      subst hsp
      refine ⟨[bk], _, len, cap, rfl, hlen, h2, h3, h4, .inr ⟨bk, off, rfl, rfl, ?_, fun i v hv => ?_⟩⟩
      · have := World.block_lt_of_cell? w _ g0
        rw [Addr.add_lit] at this
        exact this
      · have hi : i < (o :: l).length * 5 := by
          have := (List.getElem?_eq_some_iff.1 hv).1
          rw [flatG_len (f := MAct.cells) (K := 5) (fun _ => rfl)] at this
          exact this
        have hp : i / 5 < (o :: l).length := by omega
        have hm : i % 5 < 5 := Nat.mod_lt _ (by omega)
        have hat := flatG_at (f := MAct.cells) (K := 5) (fun _ => rfl) (o :: l) hp hm
        rw [show i / 5 * 5 + i % 5 = i by omega, hv] at hat
        obtain ⟨c0, c1, c2, c3, c4⟩ := h5 _ rfl (i / 5) hp
        simp only [Addr.add_lit] at c0 c1 c2 c3 c4
        rcases (show i % 5 = 0 ∨ i % 5 = 1 ∨ i % 5 = 2 ∨ i % 5 = 3 ∨ i % 5 = 4 by omega) with e | e | e | e | e <;> rw [e] at hat <;> simp only [MAct.cells, List.getElem?_cons_zero, List.getElem?_cons_succ, Option.some.injEq] at hat <;> subst hat
        · rw [show off + i = off + i / 5 * 5 by omega]; exact c0
        · rw [show off + i = off + (i / 5 * 5 + 1) by omega]; exact c1
        · rw [show off + i = off + (i / 5 * 5 + 2) by omega]; exact c2
        · rw [show off + i = off + (i / 5 * 5 + 3) by omega]; exact c3
        · rw [show off + i = off + (i / 5 * 5 + 4) by omega]; exact c4
theorem mact_len (a : MAct) : a.cells.length = 5 := rfl
end Go.Av
namespace Go.Proofs.YtjeaoopamebgjaaGreatDoor
open Go.RowKit Go.Av Go.ChangeShapes Go.WideShapes
theorem mactCells : Tryz.prog.cellsOf 57 = 5 ∧ Tryz.prog.cellsOf 3 = 1 ∧ Tryz.prog.cellsOf 2 = 1 ∧ Tryz.prog.cellsOf 22 = 1 := by
  refine ⟨?_, ?_, ?_, ?_⟩ <;> kernel_rfl
theorem opsrow_of {H : Type} {enc : TypeId × Value → H} {w : World} {base : Nat} {held : Bool} {fuel : Nat} {c : Value} {x : DataW H × List MemPlace}
    (h : DataW.trod enc Tryz.prog w base (fun _ => true) held fuel 22 [c] = some x) : ∃ (l : List OpS) (E : List Nat), ReadRow w 5 c (l.flatMap OpS.cells) E := by
  have hs : ∃ a n m, c = .slice a n m := by
    rcases Deep.open_slice Tryz.underlying22 h with ⟨hcs, _⟩ | ⟨x, l, c', m, n, D, Pl, hcs, _⟩
    · cases hcs
      exact ⟨_, _, _, rfl⟩
    · cases hcs
      exact ⟨_, _, _, rfl⟩
  obtain ⟨a, n, m, rfl⟩ := hs
  obtain ⟨l, hl⟩ := opsj_of h
  obtain ⟨E, hE⟩ := hl.row
  exact ⟨l, E, hE⟩
set_option maxRecDepth 100000 in
theorem macts_of {H : Type} {enc : TypeId × Value → H} {w : World} {base : Nat} {held : Bool} {fuel : Nat} {a : Option Addr} {len cap : Nat} {x : DataW H × List MemPlace}
    (h : DataW.trod enc Tryz.prog w base (fun _ => true) held fuel 55 [.slice a len cap] = some x) : ∃ l, IsMActs w a len cap l := by
  obtain ⟨c1, c2, c3, c4⟩ := mactCells
  rcases Deep.open_slice Tryz.underlying55 h with ⟨hcs, _⟩ | ⟨x, l, c, m, n, D, Pl, hcs, hb, hl, hm, hmm, hx, hi⟩
  · cases hcs
    exact ⟨[], rfl, Nat.le_refl _, by decide, fun _ => rfl, by simp, by simp⟩
  · cases hcs
    rw [c1] at hi
    have each : ∀ i, i < len → ∃ q : MAct, (w.cell? (x.add (i * 5)) = some (.int .i64 q.op) ∧ w.cell? (x.add (i * 5 + 1)) = some (.int .i64 q.sess) ∧ w.cell? (x.add (i * 5 + 2)) = some (.int .i64 q.zxid) ∧
        w.cell? (x.add (i * 5 + 3)) = some (.int .i64 q.num) ∧ w.cell? (x.add (i * 5 + 4)) = some q.v) ∧ ∃ E, ReadRow w 5 q.v (q.ops.flatMap OpS.cells) E := by
      intro i hil
      obtain ⟨cs', hc, ht⟩ := hi i (by rw [hmm]; split <;> omega)
      obtain ⟨_, hcl, hat⟩ := World.cells?_some hc
      obtain ⟨ys, n', -, -, -, hyl, hf⟩ := DataW.trod_struct Tryz.underlying57 ht
      match cs', hcl with
      | [k0, k1, k2, k3, k4], _ =>
        have f0 : DataW.trod enc Tryz.prog w base (fun _ => true) held n' 3 (List.take (Tryz.prog.cellsOf 3) (List.drop 0 [k0, k1, k2, k3, k4])) = ys[0]? := hf 0 _ rfl
        have f1 : DataW.trod enc Tryz.prog w base (fun _ => true) held n' 2 (List.take (Tryz.prog.cellsOf 2) (List.drop 1 [k0, k1, k2, k3, k4])) = ys[1]? := hf 1 _ rfl
        have f2 : DataW.trod enc Tryz.prog w base (fun _ => true) held n' 2 (List.take (Tryz.prog.cellsOf 2) (List.drop 2 [k0, k1, k2, k3, k4])) = ys[2]? := hf 2 _ rfl
        have f3 : DataW.trod enc Tryz.prog w base (fun _ => true) held n' 2 (List.take (Tryz.prog.cellsOf 2) (List.drop 3 [k0, k1, k2, k3, k4])) = ys[3]? := hf 3 _ rfl
        have f4 : DataW.trod enc Tryz.prog w base (fun _ => true) held n' 22 (List.take (Tryz.prog.cellsOf 22) (List.drop 4 [k0, k1, k2, k3, k4])) = ys[4]? := hf 4 _ rfl
        rw [c2] at f0
        rw [c3] at f1 f2 f3
        rw [c4] at f4
        have hy : ∀ j, j < 5 → ∃ y, ys[j]? = some y := fun j hj => ⟨ys[j]'(by rw [hyl]; exact hj), List.getElem?_eq_getElem _⟩
        obtain ⟨y0, e0⟩ := hy 0 (by omega)
        obtain ⟨y1, e1⟩ := hy 1 (by omega)
        obtain ⟨y2, e2⟩ := hy 2 (by omega)
        obtain ⟨y3, e3⟩ := hy 3 (by omega)
        obtain ⟨y4, e4⟩ := hy 4 (by omega)
        obtain ⟨n0, g0, -, -⟩ := DataW.trod_int Tryz.underlying3 (f0.trans e0)
        obtain ⟨n1, g1, -, -⟩ := DataW.trod_int Tryz.underlying2 (f1.trans e1)
        obtain ⟨n2, g2, -, -⟩ := DataW.trod_int Tryz.underlying2 (f2.trans e2)
        obtain ⟨n3, g3, -, -⟩ := DataW.trod_int Tryz.underlying2 (f3.trans e3)
        have g4 : DataW.trod enc Tryz.prog w base (fun _ => true) held n' 22 [k4] = some y4 := f4.trans e4
        obtain ⟨ops, E, hE⟩ := opsrow_of g4
        simp at g0 g1 g2 g3
        subst g0 g1 g2 g3
        refine ⟨⟨n0, n1, n2, n3, k4, ops⟩, ⟨?_, ?_, ?_, ?_, ?_⟩, E, hE⟩
        · have := hat 0 (by omega); rw [add_twice2] at this; exact this
        · have := hat 1 (by omega); rw [add_twice2] at this; exact this
        · have := hat 2 (by omega); rw [add_twice2] at this; exact this
        · have := hat 3 (by omega); rw [add_twice2] at this; exact this
        · have := hat 4 (by omega); rw [add_twice2] at this; exact this
    obtain ⟨y, hy⟩ := Deep.choose_lt each
    refine ⟨(List.range len).map y, by simp, hl, hm, by simp, ?_, ?_⟩
    · intro x' hx' i hi'
      cases hx'
      simp at hi'
      simpa using (hy i hi').1
    · intro q hq
      obtain ⟨i, hi', rfl⟩ := List.mem_map.1 hq
      exact (hy i (List.mem_range.1 hi')).2
end Go.Proofs.YtjeaoopamebgjaaGreatDoor

/-
  What the laws of chapter 12 share on multiz: long, nodes alike, trees alike, a tree as the document's own.
-/
set_option linter.unusedSimpArgs false
namespace Go.Proofs.YtjeaoopamebgjaaGreatDoor
open Go.RowKit Go.Av
section
variable {w0 w : World} {b t : Nat} {S : TreeS} {P P' : List PRow} {R : List Thing} {rows : List (Value × Bs)}
set_option maxRecDepth 100000 in
set_option maxHeartbeats 2000000 in
theorem samen_any (h : Sep w0 w (ThPool w0 P :: R) rows) (n : NodeS) (va vb : Value) (ha : (1, va, n.names.map sv) ∈ P) (hb : (1, vb, n.names.map sv) ∈ P) :
    Calls Tryz.prog 34 #[n.val va, n.val vb] w fun e w' => e = .returned (.bool true) ∧ Sep w0 w' (ThPool w0 P :: R) rows := by
  obtain ⟨E, hE⟩ := h.poolGet ha
  obtain ⟨a1, n1, c1, rfl, -⟩ := ReadRow.some hE
  obtain ⟨E2, hE2⟩ := h.poolGet hb
  obtain ⟨a2, n2, c2, rfl, -⟩ := ReadRow.some hE2
  have HA := Lib.hid ha
  have HB := Lib.hid hb
  have HX := Lib.hid h
  have hq := beq_self_str n.data
  have hq2 : (n.data.toList == n.data.toList) = true := by simp
  clear h ha hb hE hE2
  unfold NodeS.val NodeS.cells
  go_enter Tryz.func34, Tryz.ntmps34
  go_wp2_with (first | (refine sWL ?_; simp only [Act.put, List.setIfInBounds_toArray, List.set_cons_zero, List.set_cons_succ, List.drop_zero, List.drop_succ_cons, List.take_succ_cons, List.take_zero, List.toList_toArray, NodeS.cells, OpS.cells, ResS.cells]) | (refine sWM ?_; simp only [Act.put, List.setIfInBounds_toArray, List.set_cons_zero, List.set_cons_succ]) | (refine sWS ?_; clear HX; intro w HX; simp only [Act.put, List.setIfInBounds_toArray, List.set_cons_zero, List.set_cons_succ, setMany, Nat.reduceAdd, NodeS.cells, OpS.cells, ResS.cells] at HX ⊢) | (refine sWT ?_; clear HX; intro w HX; simp only [Act.put, List.setIfInBounds_toArray, List.set_cons_zero, List.set_cons_succ, NodeS.cells, OpS.cells, ResS.cells] at HX ⊢) | (refine sWA ?_; clear HX; (first | (have hq := b9; clear hq; intro w b10 HX) | (have hq := b8; clear hq; intro w b9 HX) | (have hq := b7; clear hq; intro w b8 HX) | (have hq := b6; clear hq; intro w b7 HX) | (have hq := b5; clear hq; intro w b6 HX) | (have hq := b4; clear hq; intro w b5 HX) | (have hq := b3; clear hq; intro w b4 HX) | (have hq := b2; clear hq; intro w b3 HX) | (have hq := b; clear hq; intro w b2 HX) | intro w b HX); simp only [Act.put, List.setIfInBounds_toArray, List.set_cons_zero, List.set_cons_succ]) | (refine sWN ?_; clear HX; intro w mm HX; simp only [Act.put, List.setIfInBounds_toArray, List.set_cons_zero, List.set_cons_succ]) | (refine sWP ?_; clear HX; intro w av nv cv HX; simp only [Act.put, List.setIfInBounds_toArray, List.set_cons_zero, List.set_cons_succ]))
  refine (sames_any HX.out.up2 _ _ n.names HA.out HB.out).mono ?_
  rintro e w ⟨rfl, hx⟩
  clear HX
  have HX := Lib.hid hx
  clear hx
  go_wp2_with (first | (refine sWL ?_; simp only [Act.put, List.setIfInBounds_toArray, List.set_cons_zero, List.set_cons_succ, List.drop_zero, List.drop_succ_cons, List.take_succ_cons, List.take_zero, List.toList_toArray, NodeS.cells, OpS.cells, ResS.cells]) | (refine sWM ?_; simp only [Act.put, List.setIfInBounds_toArray, List.set_cons_zero, List.set_cons_succ]) | (refine sWS ?_; clear HX; intro w HX; simp only [Act.put, List.setIfInBounds_toArray, List.set_cons_zero, List.set_cons_succ, setMany, Nat.reduceAdd, NodeS.cells, OpS.cells, ResS.cells] at HX ⊢) | (refine sWT ?_; clear HX; intro w HX; simp only [Act.put, List.setIfInBounds_toArray, List.set_cons_zero, List.set_cons_succ, NodeS.cells, OpS.cells, ResS.cells] at HX ⊢) | (refine sWA ?_; clear HX; (first | (have hq := b9; clear hq; intro w b10 HX) | (have hq := b8; clear hq; intro w b9 HX) | (have hq := b7; clear hq; intro w b8 HX) | (have hq := b6; clear hq; intro w b7 HX) | (have hq := b5; clear hq; intro w b6 HX) | (have hq := b4; clear hq; intro w b5 HX) | (have hq := b3; clear hq; intro w b4 HX) | (have hq := b2; clear hq; intro w b3 HX) | (have hq := b; clear hq; intro w b2 HX) | intro w b HX); simp only [Act.put, List.setIfInBounds_toArray, List.set_cons_zero, List.set_cons_succ]) | (refine sWN ?_; clear HX; intro w mm HX; simp only [Act.put, List.setIfInBounds_toArray, List.set_cons_zero, List.set_cons_succ]) | (refine sWP ?_; clear HX; intro w av nv cv HX; simp only [Act.put, List.setIfInBounds_toArray, List.set_cons_zero, List.set_cons_succ]))
  go_ret
  exact ⟨rfl, HX.out.cut1.cut1⟩
set_option maxRecDepth 100000 in
theorem nd_any (h : Sep w0 w R rows) (n : NodeS) (a : Option Addr) (m c : Nat) : Calls Tryz.prog 32 #[n.val (.slice a m c)] w fun e w' => e = .returned (n.val (.slice a m c)) ∧ Sep w0 w' R rows := by
  have HX := Lib.hid h
  clear h
  unfold NodeS.val NodeS.cells
  go_enter Tryz.func32, Tryz.ntmps32
  go_wp2_with (first | (refine sWL ?_; simp only [Act.put, List.setIfInBounds_toArray, List.set_cons_zero, List.set_cons_succ, List.drop_zero, List.drop_succ_cons, List.take_succ_cons, List.take_zero, List.toList_toArray, NodeS.cells, OpS.cells, ResS.cells]) | (refine sWM ?_; simp only [Act.put, List.setIfInBounds_toArray, List.set_cons_zero, List.set_cons_succ]) | (refine sWS ?_; clear HX; intro w HX; simp only [Act.put, List.setIfInBounds_toArray, List.set_cons_zero, List.set_cons_succ, setMany, Nat.reduceAdd, NodeS.cells, OpS.cells, ResS.cells] at HX ⊢) | (refine sWT ?_; clear HX; intro w HX; simp only [Act.put, List.setIfInBounds_toArray, List.set_cons_zero, List.set_cons_succ, NodeS.cells, OpS.cells, ResS.cells] at HX ⊢) | (refine sWA ?_; clear HX; (first | (have hq := b9; clear hq; intro w b10 HX) | (have hq := b8; clear hq; intro w b9 HX) | (have hq := b7; clear hq; intro w b8 HX) | (have hq := b6; clear hq; intro w b7 HX) | (have hq := b5; clear hq; intro w b6 HX) | (have hq := b4; clear hq; intro w b5 HX) | (have hq := b3; clear hq; intro w b4 HX) | (have hq := b2; clear hq; intro w b3 HX) | (have hq := b; clear hq; intro w b2 HX) | intro w b HX); simp only [Act.put, List.setIfInBounds_toArray, List.set_cons_zero, List.set_cons_succ]) | (refine sWN ?_; clear HX; intro w mm HX; simp only [Act.put, List.setIfInBounds_toArray, List.set_cons_zero, List.set_cons_succ]) | (refine sWP ?_; clear HX; intro w av nv cv HX; simp only [Act.put, List.setIfInBounds_toArray, List.set_cons_zero, List.set_cons_succ]))
  refine sx_ret HX rfl rfl (by (repeat (first | (with_reducible exact List.mem_cons_self ..) | (with_reducible apply List.mem_cons_of_mem)))) (by kernel_rfl) ?_
  exact ⟨rfl, HX.out.drop.drop⟩
/-- Ops that are long. -/
def longS (l : List OpS) : Bool := decide (20 < l.length) || l.any fun o => decide (300 < o.path.size) || decide (1100 < o.data.size)
set_option maxRecDepth 100000 in
set_option maxHeartbeats 2000000 in
theorem long_any (h : Sep w0 w (ThPool w0 P :: R) rows) (l : List OpS) (v : Value) (hv : (5, v, l.flatMap OpS.cells) ∈ P) :
    Calls Tryz.prog 10 #[v] w fun e w' => e = .returned (.bool (longS l)) ∧ Sep w0 w' (ThPool w0 P :: R) rows := by
  obtain ⟨E, hE⟩ := h.poolGet hv
  obtain ⟨a1, n1, c1, rfl, hl1, hn1, hc1, hne1⟩ := ReadRow.some hE
  rw [flatG_len opcells_len] at hl1
  obtain rfl : l.length = n1 := by omega
  have HV := Lib.hid hv
  have HN := Lib.hid hne1
  have HX := Lib.hid h
  clear h hv hE hne1 hn1 hc1 hl1
  by_cases h20 : 20 < l.length
  · have HE := Lib.hid (show longS l = true by unfold longS; rw [decide_eq_true h20]; rfl)
    have q1 : decide (20 < l.length) = true := decide_eq_true h20
    have q2 : decide (20 < (l.length : Int)) = true := decide_eq_true (by omega)
    clear h20
    go_enter Tryz.func10, Tryz.ntmps10
    go_wp2_with (first | (refine sWL ?_; simp only [Act.put, List.setIfInBounds_toArray, List.set_cons_zero, List.set_cons_succ, List.drop_zero, List.drop_succ_cons, List.take_succ_cons, List.take_zero, List.toList_toArray, NodeS.cells, OpS.cells, ResS.cells]) | (refine sWM ?_; simp only [Act.put, List.setIfInBounds_toArray, List.set_cons_zero, List.set_cons_succ]) | (refine sWS ?_; clear HX; intro w HX; simp only [Act.put, List.setIfInBounds_toArray, List.set_cons_zero, List.set_cons_succ, setMany, Nat.reduceAdd, NodeS.cells, OpS.cells, ResS.cells] at HX ⊢) | (refine sWT ?_; clear HX; intro w HX; simp only [Act.put, List.setIfInBounds_toArray, List.set_cons_zero, List.set_cons_succ, NodeS.cells, OpS.cells, ResS.cells] at HX ⊢) | (refine sWA ?_; clear HX; (first | (have hq := b9; clear hq; intro w b10 HX) | (have hq := b8; clear hq; intro w b9 HX) | (have hq := b7; clear hq; intro w b8 HX) | (have hq := b6; clear hq; intro w b7 HX) | (have hq := b5; clear hq; intro w b6 HX) | (have hq := b4; clear hq; intro w b5 HX) | (have hq := b3; clear hq; intro w b4 HX) | (have hq := b2; clear hq; intro w b3 HX) | (have hq := b; clear hq; intro w b2 HX) | intro w b HX); simp only [Act.put, List.setIfInBounds_toArray, List.set_cons_zero, List.set_cons_succ]) | (refine sWN ?_; clear HX; intro w mm HX; simp only [Act.put, List.setIfInBounds_toArray, List.set_cons_zero, List.set_cons_succ]) | (refine sWP ?_; clear HX; intro w av nv cv HX; simp only [Act.put, List.setIfInBounds_toArray, List.set_cons_zero, List.set_cons_succ]))
    go_ret
    rw [HE.out]
    exact ⟨rfl, HX.out⟩
  have HE := Lib.hid (show longS l = l.any fun o => decide (300 < o.path.size) || decide (1100 < o.data.size) by unfold longS; rw [decide_eq_false h20]; rfl)
  have HL := Lib.hid (show l.length ≤ 20 by omega)
  have q1 : decide (20 < l.length) = false := decide_eq_false h20
  have q2 : decide (20 < (l.length : Int)) = false := decide_eq_false (by omega)
  clear h20
  go_enter Tryz.func10, Tryz.ntmps10
  go_wp2_with (first | (refine sWL ?_; simp only [Act.put, List.setIfInBounds_toArray, List.set_cons_zero, List.set_cons_succ, List.drop_zero, List.drop_succ_cons, List.take_succ_cons, List.take_zero, List.toList_toArray, NodeS.cells, OpS.cells, ResS.cells]) | (refine sWM ?_; simp only [Act.put, List.setIfInBounds_toArray, List.set_cons_zero, List.set_cons_succ]) | (refine sWS ?_; clear HX; intro w HX; simp only [Act.put, List.setIfInBounds_toArray, List.set_cons_zero, List.set_cons_succ, setMany, Nat.reduceAdd, NodeS.cells, OpS.cells, ResS.cells] at HX ⊢) | (refine sWT ?_; clear HX; intro w HX; simp only [Act.put, List.setIfInBounds_toArray, List.set_cons_zero, List.set_cons_succ, NodeS.cells, OpS.cells, ResS.cells] at HX ⊢) | (refine sWA ?_; clear HX; (first | (have hq := b9; clear hq; intro w b10 HX) | (have hq := b8; clear hq; intro w b9 HX) | (have hq := b7; clear hq; intro w b8 HX) | (have hq := b6; clear hq; intro w b7 HX) | (have hq := b5; clear hq; intro w b6 HX) | (have hq := b4; clear hq; intro w b5 HX) | (have hq := b3; clear hq; intro w b4 HX) | (have hq := b2; clear hq; intro w b3 HX) | (have hq := b; clear hq; intro w b2 HX) | intro w b HX); simp only [Act.put, List.setIfInBounds_toArray, List.set_cons_zero, List.set_cons_succ]) | (refine sWN ?_; clear HX; intro w mm HX; simp only [Act.put, List.setIfInBounds_toArray, List.set_cons_zero, List.set_cons_succ]) | (refine sWP ?_; clear HX; intro w av nv cv HX; simp only [Act.put, List.setIfInBounds_toArray, List.set_cons_zero, List.set_cons_succ]))
  go_loopg [3] l.length (fun k v3 wr => ∃ i : Nat, i + k = l.length ∧ v3 = .int .i64 (i : Int) ∧ ((l.take i).any fun o => decide (300 < o.path.size) || decide (1100 < o.data.size)) = false ∧ Sep w0 wr (ThPool w0 P :: R) rows)
  case atStart => exact ⟨0, by omega, rfl, rfl, HX.out⟩
  case round =>
    rename World => w
    obtain ⟨i, hik, rfl, hno, hS⟩ := hrel
    clear HX
    have HX := Lib.hid hS
    clear hS
    by_cases hlt : i < l.length
    case neg =>
      obtain rfl : i = l.length := by omega
      rw [List.take_length] at hno
      have HE2 := Lib.hid (HE.out.trans hno)
      clear hlt hik hno
      go_wp2_with (first | (refine sWL ?_; simp only [Act.put, List.setIfInBounds_toArray, List.set_cons_zero, List.set_cons_succ, List.drop_zero, List.drop_succ_cons, List.take_succ_cons, List.take_zero, List.toList_toArray, NodeS.cells, OpS.cells, ResS.cells]) | (refine sWM ?_; simp only [Act.put, List.setIfInBounds_toArray, List.set_cons_zero, List.set_cons_succ]) | (refine sWS ?_; clear HX; intro w HX; simp only [Act.put, List.setIfInBounds_toArray, List.set_cons_zero, List.set_cons_succ, setMany, Nat.reduceAdd, NodeS.cells, OpS.cells, ResS.cells] at HX ⊢) | (refine sWT ?_; clear HX; intro w HX; simp only [Act.put, List.setIfInBounds_toArray, List.set_cons_zero, List.set_cons_succ, NodeS.cells, OpS.cells, ResS.cells] at HX ⊢) | (refine sWA ?_; clear HX; (first | (have hq := b9; clear hq; intro w b10 HX) | (have hq := b8; clear hq; intro w b9 HX) | (have hq := b7; clear hq; intro w b8 HX) | (have hq := b6; clear hq; intro w b7 HX) | (have hq := b5; clear hq; intro w b6 HX) | (have hq := b4; clear hq; intro w b5 HX) | (have hq := b3; clear hq; intro w b4 HX) | (have hq := b2; clear hq; intro w b3 HX) | (have hq := b; clear hq; intro w b2 HX) | intro w b HX); simp only [Act.put, List.setIfInBounds_toArray, List.set_cons_zero, List.set_cons_succ]) | (refine sWN ?_; clear HX; intro w mm HX; simp only [Act.put, List.setIfInBounds_toArray, List.set_cons_zero, List.set_cons_succ]) | (refine sWP ?_; clear HX; intro w av nv cv HX; simp only [Act.put, List.setIfInBounds_toArray, List.set_cons_zero, List.set_cons_succ]))
      go_ret
      rw [HE2.out]
      exact ⟨rfl, HX.out⟩
    case pos =>
      obtain ⟨g1, o1, rfl⟩ := HN.out (by intro e; have := congrArg List.length e; rw [flatG_len opcells_len] at this; simp at this; omega)
      obtain ⟨E, hE⟩ := HX.out.poolGet HV.out
      have hx : ∀ j v, (OpS.cells l[i])[j]? = some v → (l.flatMap OpS.cells)[i * 5 + j]? = some v := fun j v hj => by
        rw [flatG_at opcells_len l hlt (by have := (List.getElem?_eq_some_iff.1 hj).1; exact this)]
        exact hj
      have hl := row_fld (P := Tryz.prog) (ty := 9) hE (by kernel_rfl) (hx 1 _ rfl)
      have hl2 := row_fld (P := Tryz.prog) (ty := 9) hE (by kernel_rfl) (hx 2 _ rfl)
      have HT := Lib.hid (show l.take (i + 1) = l.take i ++ [l[i]] from List.take_succ_eq_append_getElem hlt)
      have HM := Lib.hid (List.getElem_mem hlt)
      obtain ⟨o, ho⟩ : ∃ o, l[i] = o := ⟨_, rfl⟩
      rw [ho] at hl hl2 HT HM
      have HNO := Lib.hid hno
      have q0 : decide (i < l.length) = true := decide_eq_true hlt
      have q9 : i ≤ 20 := by have := HL.out; omega
      clear hE hx ho hno
      obtain ⟨z1, h1⟩ : ∃ z, decide (300 < o.path.size) = z := ⟨_, rfl⟩
      obtain ⟨z2, h2⟩ : ∃ z, decide (1100 < o.data.size) = z := ⟨_, rfl⟩
      have h1' : decide (300 < (o.path.size : Int)) = z1 := by rw [← h1]; exact decide_eq_decide.2 (by omega)
      have h2' : decide (1100 < (o.data.size : Int)) = z2 := by rw [← h2]; exact decide_eq_decide.2 (by omega)
      by_cases hz : z1 = true ∨ z2 = true
      · have HE2 := Lib.hid (show longS l = true by
          rw [HE.out]
          refine List.any_eq_true.2 ⟨o, HM.out, ?_⟩
          rw [h1, h2]
          rcases hz with h | h <;> simp [h])
        cases z1 <;> cases z2
        case false.false => exact absurd hz (by simp)
        all_goals
          clear hz
          go_wp2_with (first | (refine sWL ?_; simp only [Act.put, List.setIfInBounds_toArray, List.set_cons_zero, List.set_cons_succ, List.drop_zero, List.drop_succ_cons, List.take_succ_cons, List.take_zero, List.toList_toArray, NodeS.cells, OpS.cells, ResS.cells]) | (refine sWM ?_; simp only [Act.put, List.setIfInBounds_toArray, List.set_cons_zero, List.set_cons_succ]) | (refine sWS ?_; clear HX; intro w HX; simp only [Act.put, List.setIfInBounds_toArray, List.set_cons_zero, List.set_cons_succ, setMany, Nat.reduceAdd, NodeS.cells, OpS.cells, ResS.cells] at HX ⊢) | (refine sWT ?_; clear HX; intro w HX; simp only [Act.put, List.setIfInBounds_toArray, List.set_cons_zero, List.set_cons_succ, NodeS.cells, OpS.cells, ResS.cells] at HX ⊢) | (refine sWA ?_; clear HX; (first | (have hq := b9; clear hq; intro w b10 HX) | (have hq := b8; clear hq; intro w b9 HX) | (have hq := b7; clear hq; intro w b8 HX) | (have hq := b6; clear hq; intro w b7 HX) | (have hq := b5; clear hq; intro w b6 HX) | (have hq := b4; clear hq; intro w b5 HX) | (have hq := b3; clear hq; intro w b4 HX) | (have hq := b2; clear hq; intro w b3 HX) | (have hq := b; clear hq; intro w b2 HX) | intro w b HX); simp only [Act.put, List.setIfInBounds_toArray, List.set_cons_zero, List.set_cons_succ]) | (refine sWN ?_; clear HX; intro w mm HX; simp only [Act.put, List.setIfInBounds_toArray, List.set_cons_zero, List.set_cons_succ]) | (refine sWP ?_; clear HX; intro w av nv cv HX; simp only [Act.put, List.setIfInBounds_toArray, List.set_cons_zero, List.set_cons_succ]) | ((with_reducible apply sx_loadAt hl); (· rfl); (· rfl); simp only [Act.put, List.setIfInBounds_toArray, List.set_cons_zero, List.set_cons_succ]) | ((with_reducible apply sx_loadAt hl2); (· rfl); (· rfl); simp only [Act.put, List.setIfInBounds_toArray, List.set_cons_zero, List.set_cons_succ]))
          go_ret
          rw [HE2.out]
          exact ⟨rfl, HX.out⟩
      · have HN2 := Lib.hid (show ((l.take (i + 1)).any fun o => decide (300 < o.path.size) || decide (1100 < o.data.size)) = false by
          rw [HT.out, List.any_append, HNO.out]
          simp only [List.any_cons, List.any_nil, Bool.or_false, Bool.false_or]
          rw [h1, h2]
          cases z1 <;> cases z2 <;> simp_all)
        obtain rfl : z1 = false := by cases z1 <;> simp_all
        obtain rfl : z2 = false := by cases z2 <;> simp_all
        clear hz
        go_wp2_with (first | (refine sWL ?_; simp only [Act.put, List.setIfInBounds_toArray, List.set_cons_zero, List.set_cons_succ, List.drop_zero, List.drop_succ_cons, List.take_succ_cons, List.take_zero, List.toList_toArray, NodeS.cells, OpS.cells, ResS.cells]) | (refine sWM ?_; simp only [Act.put, List.setIfInBounds_toArray, List.set_cons_zero, List.set_cons_succ]) | (refine sWS ?_; clear HX; intro w HX; simp only [Act.put, List.setIfInBounds_toArray, List.set_cons_zero, List.set_cons_succ, setMany, Nat.reduceAdd, NodeS.cells, OpS.cells, ResS.cells] at HX ⊢) | (refine sWT ?_; clear HX; intro w HX; simp only [Act.put, List.setIfInBounds_toArray, List.set_cons_zero, List.set_cons_succ, NodeS.cells, OpS.cells, ResS.cells] at HX ⊢) | (refine sWA ?_; clear HX; (first | (have hq := b9; clear hq; intro w b10 HX) | (have hq := b8; clear hq; intro w b9 HX) | (have hq := b7; clear hq; intro w b8 HX) | (have hq := b6; clear hq; intro w b7 HX) | (have hq := b5; clear hq; intro w b6 HX) | (have hq := b4; clear hq; intro w b5 HX) | (have hq := b3; clear hq; intro w b4 HX) | (have hq := b2; clear hq; intro w b3 HX) | (have hq := b; clear hq; intro w b2 HX) | intro w b HX); simp only [Act.put, List.setIfInBounds_toArray, List.set_cons_zero, List.set_cons_succ]) | (refine sWN ?_; clear HX; intro w mm HX; simp only [Act.put, List.setIfInBounds_toArray, List.set_cons_zero, List.set_cons_succ]) | (refine sWP ?_; clear HX; intro w av nv cv HX; simp only [Act.put, List.setIfInBounds_toArray, List.set_cons_zero, List.set_cons_succ]) | ((with_reducible apply sx_loadAt hl); (· rfl); (· rfl); simp only [Act.put, List.setIfInBounds_toArray, List.set_cons_zero, List.set_cons_succ]) | ((with_reducible apply sx_loadAt hl2); (· rfl); (· rfl); simp only [Act.put, List.setIfInBounds_toArray, List.set_cons_zero, List.set_cons_succ]))
        go_roundg (l.length - (i + 1))
        case rel => exact ⟨i + 1, by omega, by go_num, HN2.out, HX.out⟩
        case measure => omega
end
end Go.Proofs.YtjeaoopamebgjaaGreatDoor

/-
  The laws of chapter 12 on multiz: a tree as the document's own; trees alike.
-/
set_option linter.unusedSimpArgs false
namespace Go.Proofs.YtjeaoopamebgjaaGreatDoor
open Go.RowKit Go.Av
section
variable {w0 w : World} {b t : Nat} {S : TreeS} {P P' : List PRow} {R : List Thing} {rows : List (Value × Bs)}
/-- A tree as the document's own. -/
def OwnPost (w0 : World) (t : Nat) (S : TreeS) (P : List PRow) (R : List Thing) (rows : List (Value × Bs)) (e : Ending) (w' : World) : Prop :=
  ∃ b P', e = .returned (.pointer (some ⟨b, 0, none⟩)) ∧ (∀ r ∈ P, r ∈ P') ∧ Sep w0 w' (ThPool w0 P' :: ThTree t S P' :: ThRt b S P' :: R) rows
def OwnRel (w0 : World) (t b : Nat) (S : TreeS) (P : List PRow) (R : List Thing) (rows : List (Value × Bs)) (k : Nat) (v7 : Value) (w : World) : Prop :=
  ∃ (i : Nat) (P' : List PRow) (xs : List Value) (a : Option Addr) (n c : Nat), i + k = S.l.length ∧ v7 = .int .i64 (i : Int) ∧ (∀ q ∈ P, q ∈ P') ∧ EntL P' (S.l.take i) xs ∧
    Sep w0 w (ThCell b (.cells #[.int .i64 S.room, .slice a n c] 69 (0, 0)) :: ThRow 11 (.slice a n c) xs :: ThPool w0 P' :: ThTree t S P' :: R) rows
set_option maxRecDepth 100000 in
set_option maxHeartbeats 4000000 in
theorem ownt_any (h : Sep w0 w (ThPool w0 P :: ThTree t S P :: R) rows) (room : Int) (hr : room = S.room) (hB : ∀ e ∈ S.l, NodeOk e.2) (hn : S.l.length ≤ 1000) (hk : ∀ e ∈ S.l, e.1.length ≤ 100000) :
    Calls Tryz.prog 13 #[.pointer (some ⟨t, 0, none⟩), .int .i64 room] w (OwnPost w0 t S P R rows) := by
  subst hr
  have HB := Lib.hid hB
  have HN := Lib.hid hn
  have HK := Lib.hid hk
  have HX := Lib.hid h
  clear hB hn hk h
  go_enter Tryz.func13, Tryz.ntmps13
  go_wp2_with (first | (refine sWL ?_; simp only [Act.put, List.setIfInBounds_toArray, List.set_cons_zero, List.set_cons_succ, List.drop_zero, List.drop_succ_cons, List.take_succ_cons, List.take_zero, List.toList_toArray, NodeS.cells, OpS.cells, ResS.cells]) | (refine sWM ?_; simp only [Act.put, List.setIfInBounds_toArray, List.set_cons_zero, List.set_cons_succ]) | (refine sWS ?_; clear HX; intro w HX; simp only [Act.put, List.setIfInBounds_toArray, List.set_cons_zero, List.set_cons_succ, setMany, Nat.reduceAdd, NodeS.cells, OpS.cells, ResS.cells] at HX ⊢) | (refine sWT ?_; clear HX; intro w HX; simp only [Act.put, List.setIfInBounds_toArray, List.set_cons_zero, List.set_cons_succ, NodeS.cells, OpS.cells, ResS.cells] at HX ⊢) | (refine sWA ?_; clear HX; (first | (have hq := b9; clear hq; intro w b10 HX) | (have hq := b8; clear hq; intro w b9 HX) | (have hq := b7; clear hq; intro w b8 HX) | (have hq := b6; clear hq; intro w b7 HX) | (have hq := b5; clear hq; intro w b6 HX) | (have hq := b4; clear hq; intro w b5 HX) | (have hq := b3; clear hq; intro w b4 HX) | (have hq := b2; clear hq; intro w b3 HX) | (have hq := b; clear hq; intro w b2 HX) | intro w b HX); simp only [Act.put, List.setIfInBounds_toArray, List.set_cons_zero, List.set_cons_succ]) | (refine sWN ?_; clear HX; intro w mm HX; simp only [Act.put, List.setIfInBounds_toArray, List.set_cons_zero, List.set_cons_succ]) | (refine sWP ?_; clear HX; intro w av nv cv HX; simp only [Act.put, List.setIfInBounds_toArray, List.set_cons_zero, List.set_cons_succ]))
  refine (paths_any HX.out.up2.up2 (by have := HN.out; omega) HK.out).mono ?_
  rintro e w ⟨v, P', rfl, hP', hv, hS⟩
  obtain ⟨E, hE⟩ := hS.poolGet hv
  obtain ⟨a0, n0, c0, rfl, hl0, hn0, hc0, hne⟩ := ReadRow.some hE
  rw [List.length_map, List.length_map, Nat.mul_one] at hl0
  subst hl0
  clear HX
  have HX := Lib.hid hS
  have HNE := Lib.hid hne
  have HV := Lib.hid hv
  have HPP := Lib.hid hP'
  clear hS hE hne hv hP' hn0 hc0
  go_wp2_with (first | (refine sWL ?_; simp only [Act.put, List.setIfInBounds_toArray, List.set_cons_zero, List.set_cons_succ, List.drop_zero, List.drop_succ_cons, List.take_succ_cons, List.take_zero, List.toList_toArray, NodeS.cells, OpS.cells, ResS.cells]) | (refine sWM ?_; simp only [Act.put, List.setIfInBounds_toArray, List.set_cons_zero, List.set_cons_succ]) | (refine sWS ?_; clear HX; intro w HX; simp only [Act.put, List.setIfInBounds_toArray, List.set_cons_zero, List.set_cons_succ, setMany, Nat.reduceAdd, NodeS.cells, OpS.cells, ResS.cells] at HX ⊢) | (refine sWT ?_; clear HX; intro w HX; simp only [Act.put, List.setIfInBounds_toArray, List.set_cons_zero, List.set_cons_succ, NodeS.cells, OpS.cells, ResS.cells] at HX ⊢) | (refine sWA ?_; clear HX; (first | (have hq := b9; clear hq; intro w b10 HX) | (have hq := b8; clear hq; intro w b9 HX) | (have hq := b7; clear hq; intro w b8 HX) | (have hq := b6; clear hq; intro w b7 HX) | (have hq := b5; clear hq; intro w b6 HX) | (have hq := b4; clear hq; intro w b5 HX) | (have hq := b3; clear hq; intro w b4 HX) | (have hq := b2; clear hq; intro w b3 HX) | (have hq := b; clear hq; intro w b2 HX) | intro w b HX); simp only [Act.put, List.setIfInBounds_toArray, List.set_cons_zero, List.set_cons_succ]) | (refine sWN ?_; clear HX; intro w mm HX; simp only [Act.put, List.setIfInBounds_toArray, List.set_cons_zero, List.set_cons_succ]) | (refine sWP ?_; clear HX; intro w av nv cv HX; simp only [Act.put, List.setIfInBounds_toArray, List.set_cons_zero, List.set_cons_succ]))
  have HST := Lib.hid (show OwnRel w0 t b S P' R rows S.l.length (.int .i64 (0 : Int)) w from ⟨0, P', [], none, 0, 0, by omega, rfl, fun _ h => h, .nil, (HX.out.up2.nilRow 11).up1⟩)
  clear HX
  go_loopg [7] S.l.length (fun k v7 wr => OwnRel w0 t b S P' R rows k v7 wr)
  case atStart => exact HST.out
  case round =>
    rename World => w
    obtain ⟨i, P2, xs, a, n, c, hik, rfl, hP2, hel, hS⟩ := hrel
    have HP2 := Lib.hid hP2
    have HEL := Lib.hid hel
    have HX := Lib.hid hS
    clear hS hP2 hel
    by_cases hlt : i < S.l.length
    case neg =>
      obtain rfl : i = S.l.length := by omega
      clear hlt hik
      go_wp2_with (first | (refine sWL ?_; simp only [Act.put, List.setIfInBounds_toArray, List.set_cons_zero, List.set_cons_succ, List.drop_zero, List.drop_succ_cons, List.take_succ_cons, List.take_zero, List.toList_toArray, NodeS.cells, OpS.cells, ResS.cells]) | (refine sWM ?_; simp only [Act.put, List.setIfInBounds_toArray, List.set_cons_zero, List.set_cons_succ]) | (refine sWS ?_; clear HX; intro w HX; simp only [Act.put, List.setIfInBounds_toArray, List.set_cons_zero, List.set_cons_succ, setMany, Nat.reduceAdd, NodeS.cells, OpS.cells, ResS.cells] at HX ⊢) | (refine sWT ?_; clear HX; intro w HX; simp only [Act.put, List.setIfInBounds_toArray, List.set_cons_zero, List.set_cons_succ, NodeS.cells, OpS.cells, ResS.cells] at HX ⊢) | (refine sWA ?_; clear HX; (first | (have hq := b9; clear hq; intro w b10 HX) | (have hq := b8; clear hq; intro w b9 HX) | (have hq := b7; clear hq; intro w b8 HX) | (have hq := b6; clear hq; intro w b7 HX) | (have hq := b5; clear hq; intro w b6 HX) | (have hq := b4; clear hq; intro w b5 HX) | (have hq := b3; clear hq; intro w b4 HX) | (have hq := b2; clear hq; intro w b3 HX) | (have hq := b; clear hq; intro w b2 HX) | intro w b HX); simp only [Act.put, List.setIfInBounds_toArray, List.set_cons_zero, List.set_cons_succ]) | (refine sWN ?_; clear HX; intro w mm HX; simp only [Act.put, List.setIfInBounds_toArray, List.set_cons_zero, List.set_cons_succ]) | (refine sWP ?_; clear HX; intro w av nv cv HX; simp only [Act.put, List.setIfInBounds_toArray, List.set_cons_zero, List.set_cons_succ]))
      go_ret
      have h1 := HEL.out
      rw [List.take_length] at h1
      exact ⟨b, P2, rfl, fun q hq => HP2.out q (HPP.out q hq), (rt_shut HX.out h1).up2.up2⟩
    case pos =>
      have hmem : S.l[i] ∈ S.l := List.getElem_mem hlt
      have hlook : lookT S.l[i].1 S.l = some S.l[i].2 := (look_mem (tree_rise HX.out.up3)).2 hmem
      obtain ⟨g, off, rfl⟩ := HNE.out (by intro e; rw [List.map_map, List.map_eq_nil_iff] at e; rw [e] at hlt; simp at hlt)
      have HT := Lib.hid (show S.l.take (i + 1) = S.l.take i ++ [S.l[i]] from List.take_succ_eq_append_getElem hlt)
      have hxx : ((S.l.map (·.1)).map sv)[i]? = some (sv S.l[i].1) := by simp [hlt]
      have hok := HB.out _ hmem
      obtain ⟨⟨p, nd⟩, hen⟩ : ∃ en, S.l[i] = en := ⟨_, rfl⟩
      rw [hen] at HT hlook hxx hok
      dsimp only at hlook hxx hok
      obtain ⟨ps, hps⟩ : ∃ ps : ByteArray, ps = ⟨p.toArray⟩ := ⟨_, rfl⟩
      have hpv : sv p = .string ps := by rw [hps]; rfl
      have hpl : ps.data.toList = p := by rw [hps]
      rw [hpv] at hxx
      rw [← hpl] at hlook
      have HXX := Lib.hid hxx
      have HLK := Lib.hid hlook
      have HPV := Lib.hid hpv
      have q0 : decide (i < S.l.length) = true := decide_eq_true hlt
      have q9 : i ≤ 1000 := by have := HN.out; omega
      obtain ⟨E, hE⟩ := HX.out.up2.poolGet (HP2.out _ HV.out)
      have hl := row_load1 (P := Tryz.prog) (ty := 9) (i := i) hE (by kernel_rfl) hxx
      clear hmem hlook hxx hen hps hpv hpl hE
      go_wp2_with (first | (refine sWL ?_; simp only [Act.put, List.setIfInBounds_toArray, List.set_cons_zero, List.set_cons_succ, List.drop_zero, List.drop_succ_cons, List.take_succ_cons, List.take_zero, List.toList_toArray, NodeS.cells, OpS.cells, ResS.cells]) | (refine sWM ?_; simp only [Act.put, List.setIfInBounds_toArray, List.set_cons_zero, List.set_cons_succ]) | (refine sWS ?_; clear HX; intro w HX; simp only [Act.put, List.setIfInBounds_toArray, List.set_cons_zero, List.set_cons_succ, setMany, Nat.reduceAdd, NodeS.cells, OpS.cells, ResS.cells] at HX ⊢) | (refine sWT ?_; clear HX; intro w HX; simp only [Act.put, List.setIfInBounds_toArray, List.set_cons_zero, List.set_cons_succ, NodeS.cells, OpS.cells, ResS.cells] at HX ⊢) | (refine sWA ?_; clear HX; (first | (have hq := b9; clear hq; intro w b10 HX) | (have hq := b8; clear hq; intro w b9 HX) | (have hq := b7; clear hq; intro w b8 HX) | (have hq := b6; clear hq; intro w b7 HX) | (have hq := b5; clear hq; intro w b6 HX) | (have hq := b4; clear hq; intro w b5 HX) | (have hq := b3; clear hq; intro w b4 HX) | (have hq := b2; clear hq; intro w b3 HX) | (have hq := b; clear hq; intro w b2 HX) | intro w b HX); simp only [Act.put, List.setIfInBounds_toArray, List.set_cons_zero, List.set_cons_succ]) | (refine sWN ?_; clear HX; intro w mm HX; simp only [Act.put, List.setIfInBounds_toArray, List.set_cons_zero, List.set_cons_succ]) | (refine sWP ?_; clear HX; intro w av nv cv HX; simp only [Act.put, List.setIfInBounds_toArray, List.set_cons_zero, List.set_cons_succ]) | ((with_reducible apply sx_loadAt hl); (· rfl); (· rfl); simp only [Act.put, List.setIfInBounds_toArray, List.set_cons_zero, List.set_cons_succ]))
      refine (treenode_some HX.out.up3.up3 ps nd HLK.out hok).mono ?_
      rintro e w ⟨nv, P3, rfl, hP3, hnv, hS⟩
      obtain ⟨E, hE⟩ := hS.poolGet hnv
      obtain ⟨na, nn, nc, rfl, -⟩ := id hE
      clear HX hl
      have HX := Lib.hid hS
      have HNV := Lib.hid hnv
      have HP3 := Lib.hid hP3
      clear hS hnv hP3 hE
      simp only [NodeS.val, NodeS.cells]
      go_upto_region 7 with (first | (refine sWL ?_; simp only [Act.put, List.setIfInBounds_toArray, List.set_cons_zero, List.set_cons_succ, List.drop_zero, List.drop_succ_cons, List.take_succ_cons, List.take_zero, List.toList_toArray, NodeS.cells, OpS.cells, ResS.cells]) | (refine sWM ?_; simp only [Act.put, List.setIfInBounds_toArray, List.set_cons_zero, List.set_cons_succ]) | (refine sWS ?_; clear HX; intro w HX; simp only [Act.put, List.setIfInBounds_toArray, List.set_cons_zero, List.set_cons_succ, setMany, Nat.reduceAdd, NodeS.cells, OpS.cells, ResS.cells] at HX ⊢) | (refine sWT ?_; clear HX; intro w HX; simp only [Act.put, List.setIfInBounds_toArray, List.set_cons_zero, List.set_cons_succ, NodeS.cells, OpS.cells, ResS.cells] at HX ⊢) | (refine sWA ?_; clear HX; (first | (have hq := b9; clear hq; intro w b10 HX) | (have hq := b8; clear hq; intro w b9 HX) | (have hq := b7; clear hq; intro w b8 HX) | (have hq := b6; clear hq; intro w b7 HX) | (have hq := b5; clear hq; intro w b6 HX) | (have hq := b4; clear hq; intro w b5 HX) | (have hq := b3; clear hq; intro w b4 HX) | (have hq := b2; clear hq; intro w b3 HX) | (have hq := b; clear hq; intro w b2 HX) | intro w b HX); simp only [Act.put, List.setIfInBounds_toArray, List.set_cons_zero, List.set_cons_succ]) | (refine sWN ?_; clear HX; intro w mm HX; simp only [Act.put, List.setIfInBounds_toArray, List.set_cons_zero, List.set_cons_succ]) | (refine sWP ?_; clear HX; intro w av nv cv HX; simp only [Act.put, List.setIfInBounds_toArray, List.set_cons_zero, List.set_cons_succ]))
      refine wp_region_M (fun W => Sep w0 W [thNode b2 nd (.slice na nn nc), ThCell b (.cells #[.int .i64 S.room, .slice a n c] 69 (0, 0)), ThPool w0 P3] rows) 14 (by kernel_rfl) ?_
      have KEEPX : ∀ W, Sep w0 W [thNode b2 nd (.slice na nn nc), ThCell b (.cells #[.int .i64 S.room, .slice a n c] 69 (0, 0)), ThPool w0 P3] rows → Sep w0 W [thNode b2 nd (.slice na nn nc), ThCell b (.cells #[.int .i64 S.room, .slice a n c] 69 (0, 0)), ThPool w0 P3] rows := fun _ h => h
      replace HX := Lib.hid HX.out.drew
      have hl : ∀ W, Sep w0 W [thNode b2 nd (.slice na nn nc), ThCell b (.cells #[.int .i64 S.room, .slice a n c] 69 (0, 0)), ThPool w0 P3] rows → (Instr.loadAt 9 (.pointer (some ⟨g, off + i, none⟩))).run Tryz.prog W = .ok (.string ps) W := fun W hW => by
        obtain ⟨E, hE⟩ := (Sep.up2 hW).poolGet (HP3.out _ (HP2.out _ HV.out))
        exact row_load1 hE (by kernel_rfl) HXX.out
      have HSUB := Lib.hid (show ∀ W A, Sep w0 W (thNode b2 nd (.slice na nn nc) :: ThPool w0 P3 :: ThTree t S P3 :: ThCell b (.cells #[.int .i64 S.room, .slice a n c] 69 (0, 0)) :: A) rows → Sep w0 W [thNode b2 nd (.slice na nn nc), ThCell b (.cells #[.int .i64 S.room, .slice a n c] 69 (0, 0)), ThPool w0 P3] rows from fun W A h => (h.take (A := [_, _, _, _])).pm 4 [0, 3, 1] rfl rfl)
      refine wpAnyM_take (by kernel_rfl) (by intro c a d v w h; cases d <;> exact h) [(0, false), (1, false), (2, false), (3, false), (4, true), (5, false), (6, false), (7, false), (8, true), (9, true)] (fuel := 7) (by kernel_rfl) ?_
      apply Exists.intro; refine ⟨?_, (HSUB.out _ _ HX.out), ?_⟩
      · iterate 10 (refine yE ?_)
        exact rfl
      clear hl
      refine wpAnyM_one (fuel := 6) (i := 10) (by kernel_rfl) (by (simp only [List.getElem?_toArray, List.getElem?_cons_succ, List.getElem?_cons_zero]; try rfl)) (fun K hK => ?_)    -- CALL
      go_wp2_with fail
      refine (nd_any HX.out nd _ _ _).mono ?_
      rintro e w ⟨rfl, hx⟩
      clear HX
      have HX := Lib.hid hx
      clear hx
      simp only [NodeS.val, NodeS.cells]
      go_wp2_with fail
      refine hK _ _ (HSUB.out _ _ HX.out) ?_
      clear hK
      refine wpAnyM_take (by kernel_rfl) (by intro c a d v w h; cases d <;> exact h) [(11, false)] (fuel := 5) (by kernel_rfl) ?_
      apply Exists.intro; refine ⟨?_, (HSUB.out _ _ HX.out), ?_⟩
      · iterate 1 (refine yE ?_)
        exact rfl
      refine wpAnyM_one (fuel := 4) (i := 12) (by kernel_rfl) (by (simp only [List.getElem?_toArray, List.getElem?_cons_succ, List.getElem?_cons_zero]; try rfl)) (fun K hK => ?_)    -- buildSlice
      go_wp2_with (first | (refine sWL ?_; simp only [Act.put, List.setIfInBounds_toArray, List.set_cons_zero, List.set_cons_succ, List.drop_zero, List.drop_succ_cons, List.take_succ_cons, List.take_zero, List.toList_toArray, NodeS.cells, OpS.cells, ResS.cells]) | (refine sWM ?_; simp only [Act.put, List.setIfInBounds_toArray, List.set_cons_zero, List.set_cons_succ]) | (refine sWS ?_; clear HX; intro w HX; simp only [Act.put, List.setIfInBounds_toArray, List.set_cons_zero, List.set_cons_succ, setMany, Nat.reduceAdd, NodeS.cells, OpS.cells, ResS.cells] at HX ⊢) | (refine sWT ?_; clear HX; intro w HX; simp only [Act.put, List.setIfInBounds_toArray, List.set_cons_zero, List.set_cons_succ, NodeS.cells, OpS.cells, ResS.cells] at HX ⊢) | (refine sWA ?_; clear HX; (first | (have hq := b9; clear hq; intro w b10 HX) | (have hq := b8; clear hq; intro w b9 HX) | (have hq := b7; clear hq; intro w b8 HX) | (have hq := b6; clear hq; intro w b7 HX) | (have hq := b5; clear hq; intro w b6 HX) | (have hq := b4; clear hq; intro w b5 HX) | (have hq := b3; clear hq; intro w b4 HX) | (have hq := b2; clear hq; intro w b3 HX) | (have hq := b; clear hq; intro w b2 HX) | intro w b HX); simp only [Act.put, List.setIfInBounds_toArray, List.set_cons_zero, List.set_cons_succ]) | (refine sWN ?_; clear HX; intro w mm HX; simp only [Act.put, List.setIfInBounds_toArray, List.set_cons_zero, List.set_cons_succ]) | (refine sWP ?_; clear HX; intro w av nv cv HX; simp only [Act.put, List.setIfInBounds_toArray, List.set_cons_zero, List.set_cons_succ]))
      refine hK _ _ (HSUB.out _ _ HX.out.drop) ?_
      clear hK
      have HBD := Lib.hid (show ∀ n, xs.length = n * 11 → n + 1 ≤ 140737488355328 ∧ (n + 1) * 120 ≤ 140737488355328 from fun n hn => by
        have h1 := HEL.out.len
        rw [List.length_take] at h1
        have := HN.out
        omega)
      refine wpAnyM_one (fuel := 3) (i := 13) (by kernel_rfl) (by (simp only [List.getElem?_toArray, List.getElem?_cons_succ, List.getElem?_cons_zero]; try rfl)) (fun K hK => ?_)    -- b:append
      go_wp2_with (first | (refine sWL ?_; simp only [Act.put, List.setIfInBounds_toArray, List.set_cons_zero, List.set_cons_succ, List.drop_zero, List.drop_succ_cons, List.take_succ_cons, List.take_zero, List.toList_toArray, NodeS.cells, OpS.cells, ResS.cells]) | (refine sWM ?_; simp only [Act.put, List.setIfInBounds_toArray, List.set_cons_zero, List.set_cons_succ]) | (refine sWS ?_; clear HX; intro w HX; simp only [Act.put, List.setIfInBounds_toArray, List.set_cons_zero, List.set_cons_succ, setMany, Nat.reduceAdd, NodeS.cells, OpS.cells, ResS.cells] at HX ⊢) | (refine sWT ?_; clear HX; intro w HX; simp only [Act.put, List.setIfInBounds_toArray, List.set_cons_zero, List.set_cons_succ, NodeS.cells, OpS.cells, ResS.cells] at HX ⊢) | (refine sWA ?_; clear HX; (first | (have hq := b9; clear hq; intro w b10 HX) | (have hq := b8; clear hq; intro w b9 HX) | (have hq := b7; clear hq; intro w b8 HX) | (have hq := b6; clear hq; intro w b7 HX) | (have hq := b5; clear hq; intro w b6 HX) | (have hq := b4; clear hq; intro w b5 HX) | (have hq := b3; clear hq; intro w b4 HX) | (have hq := b2; clear hq; intro w b3 HX) | (have hq := b; clear hq; intro w b2 HX) | intro w b HX); simp only [Act.put, List.setIfInBounds_toArray, List.set_cons_zero, List.set_cons_succ]) | (refine sWN ?_; clear HX; intro w mm HX; simp only [Act.put, List.setIfInBounds_toArray, List.set_cons_zero, List.set_cons_succ]) | (refine sWP ?_; clear HX; intro w av nv cv HX; simp only [Act.put, List.setIfInBounds_toArray, List.set_cons_zero, List.set_cons_succ]))
      refine hK _ _ (HSUB.out _ _ HX.out.drop.drop) ?_
      clear hK
      refine wpAnyM_of_any _ _ _ _ (by decide) ?_
      refine wpAny_list [14, 15, 16] (fuel := 0) (by kernel_rfl) ?_
      simp only [List.filterMap_cons, List.filterMap_nil, List.getElem?_toArray, List.getElem?_cons_succ, List.getElem?_cons_zero]
      go_step
      go_step
      go_step
      go_step
      (with_reducible apply sx_store1 HX)
      · rfl
      · ((conv => lhs; whnf) <;> rfl)
      · rfl
      · rfl
      · kernel_rfl
      · (repeat (first | (with_reducible exact Rep.here) | (with_reducible apply Rep.there)))
      · rfl
      · rfl
      clear HX; intro w HX
      simp only [Act.put, List.setIfInBounds_toArray, List.set_cons_zero, List.set_cons_succ, NodeS.cells, OpS.cells, ResS.cells] at HX ⊢
      go_wp2_with (first | (refine sWL ?_; simp only [Act.put, List.setIfInBounds_toArray, List.set_cons_zero, List.set_cons_succ, List.drop_zero, List.drop_succ_cons, List.take_succ_cons, List.take_zero, List.toList_toArray, NodeS.cells, OpS.cells, ResS.cells]) | (refine sWM ?_; simp only [Act.put, List.setIfInBounds_toArray, List.set_cons_zero, List.set_cons_succ]) | (refine sWS ?_; clear HX; intro w HX; simp only [Act.put, List.setIfInBounds_toArray, List.set_cons_zero, List.set_cons_succ, setMany, Nat.reduceAdd, NodeS.cells, OpS.cells, ResS.cells] at HX ⊢) | (refine sWT ?_; clear HX; intro w HX; simp only [Act.put, List.setIfInBounds_toArray, List.set_cons_zero, List.set_cons_succ, NodeS.cells, OpS.cells, ResS.cells] at HX ⊢) | (refine sWA ?_; clear HX; (first | (have hq := b9; clear hq; intro w b10 HX) | (have hq := b8; clear hq; intro w b9 HX) | (have hq := b7; clear hq; intro w b8 HX) | (have hq := b6; clear hq; intro w b7 HX) | (have hq := b5; clear hq; intro w b6 HX) | (have hq := b4; clear hq; intro w b5 HX) | (have hq := b3; clear hq; intro w b4 HX) | (have hq := b2; clear hq; intro w b3 HX) | (have hq := b; clear hq; intro w b2 HX) | intro w b HX); simp only [Act.put, List.setIfInBounds_toArray, List.set_cons_zero, List.set_cons_succ]) | (refine sWN ?_; clear HX; intro w mm HX; simp only [Act.put, List.setIfInBounds_toArray, List.set_cons_zero, List.set_cons_succ]) | (refine sWP ?_; clear HX; intro w av nv cv HX; simp only [Act.put, List.setIfInBounds_toArray, List.set_cons_zero, List.set_cons_succ]))
      go_roundg (S.l.length - (i + 1))
      case rel =>
        refine ⟨i + 1, P3, _, av, nv, cv, by omega, by go_num, fun q hq => HP3.out q (HP2.out q hq), by rw [HT.out]; exact (HEL.out.mono HP3.out).snoc HNV.out, ?_⟩
        rw [HPV.out]
        exact HX.out.pm 6 [5, 0, 3, 4] rfl rfl
      case measure => omega
end
end Go.Proofs.YtjeaoopamebgjaaGreatDoor

/-
  The laws of chapter 12 on multiz: trees alike.
-/
set_option linter.unusedSimpArgs false
namespace Go.Av
open Go.RowKit
/-- The parts of an entry's cells. -/
theorem EntL.parts {P : List PRow} {l : NoL} {xs : List Value} (h : EntL P l xs) {i : Nat} (hi : i < l.length) : ∃ nv, (1, nv, l[i].2.names.map sv) ∈ P ∧ xs[i * 11]? = some (sv l[i].1) ∧ ∀ j v, (l[i].2.cells nv).toList[j]? = some v → xs[i * 11 + 1 + j]? = some v := by
  obtain ⟨nv, h1, h2⟩ := h.at hi
  refine ⟨nv, h1, h2 0 _ rfl, fun j v hv => ?_⟩
  rw [show i * 11 + 1 + j = i * 11 + (j + 1) by omega]
  exact h2 (j + 1) v hv
end Go.Av
namespace Go.Proofs.YtjeaoopamebgjaaGreatDoor
open Go.RowKit Go.Av
section
variable {w0 w : World} {b b2 : Nat} {S : TreeS} {P P' : List PRow} {R : List Thing} {rows : List (Value × Bs)}
theorem own_read {a : Option Addr} {n c K : Nat} {xs : List Value} (h : Sep w0 w (ThRow K (.slice a n c) xs :: R) rows) : ∃ E, ReadRow w K (.slice a n c) xs E := by
  obtain ⟨D, hD⟩ := h.fst
  obtain ⟨E, hE, -⟩ := OwnRow.read hD
  exact ⟨E, hE⟩
set_option maxRecDepth 100000 in
set_option maxHeartbeats 4000000 in
theorem samet_any (h : Sep w0 w (ThPool w0 P :: ThRt b S P :: ThRt b2 S P :: R) rows) (hn : S.l.length ≤ 100000) :
    Calls Tryz.prog 15 #[.pointer (some ⟨b, 0, none⟩), .pointer (some ⟨b2, 0, none⟩)] w fun e w' => e = .returned (.bool true) ∧ Sep w0 w' (ThPool w0 P :: ThRt b S P :: ThRt b2 S P :: R) rows := by
  obtain ⟨a1, n1, c1, xs1, he1, rfl, hS⟩ := rt_open h.up1
  obtain ⟨a2, n2, c2, xs2, he2, rfl, hS⟩ := rt_open hS.up3
  have HX := Lib.hid hS
  have HE1 := Lib.hid he1
  have HE2 := Lib.hid he2
  have HN := Lib.hid hn
  have HFIN := Lib.hid (show ∀ W, Sep w0 W (ThCell b2 (.cells #[.int .i64 S.room, .slice a2 S.l.length c2] 69 (0, 0)) :: ThRow 11 (.slice a2 S.l.length c2) xs2 :: ThCell b (.cells #[.int .i64 S.room, .slice a1 S.l.length c1] 69 (0, 0)) :: ThRow 11 (.slice a1 S.l.length c1) xs1 :: ThPool w0 P :: R) rows → Sep w0 W (ThPool w0 P :: ThRt b S P :: ThRt b2 S P :: R) rows from fun W hW => by
    have h1 := rt_shut hW he2
    have h2 := rt_shut (Sep.up2 (Sep.up2 h1)) he1
    exact Sep.pm h2 3 [2, 0, 1] rfl rfl)
  clear h hS he1 he2 hn
  go_enter Tryz.func15, Tryz.ntmps15
  go_wp2_with (first | (refine sWL ?_; simp only [Act.put, List.setIfInBounds_toArray, List.set_cons_zero, List.set_cons_succ, List.drop_zero, List.drop_succ_cons, List.take_succ_cons, List.take_zero, List.toList_toArray, NodeS.cells, OpS.cells, ResS.cells]) | (refine sWM ?_; simp only [Act.put, List.setIfInBounds_toArray, List.set_cons_zero, List.set_cons_succ]) | (refine sWS ?_; clear HX; intro w HX; simp only [Act.put, List.setIfInBounds_toArray, List.set_cons_zero, List.set_cons_succ, setMany, Nat.reduceAdd, NodeS.cells, OpS.cells, ResS.cells] at HX ⊢) | (refine sWT ?_; clear HX; intro w HX; simp only [Act.put, List.setIfInBounds_toArray, List.set_cons_zero, List.set_cons_succ, NodeS.cells, OpS.cells, ResS.cells] at HX ⊢) | (refine sWA ?_; clear HX; (first | (have hq := b9; clear hq; intro w b10 HX) | (have hq := b8; clear hq; intro w b9 HX) | (have hq := b7; clear hq; intro w b8 HX) | (have hq := b6; clear hq; intro w b7 HX) | (have hq := b5; clear hq; intro w b6 HX) | (have hq := b4; clear hq; intro w b5 HX) | (have hq := b3; clear hq; intro w b4 HX) | (have hq := b2; clear hq; intro w b3 HX) | (have hq := b; clear hq; intro w b2 HX) | intro w b HX); simp only [Act.put, List.setIfInBounds_toArray, List.set_cons_zero, List.set_cons_succ]) | (refine sWN ?_; clear HX; intro w mm HX; simp only [Act.put, List.setIfInBounds_toArray, List.set_cons_zero, List.set_cons_succ]) | (refine sWP ?_; clear HX; intro w av nv cv HX; simp only [Act.put, List.setIfInBounds_toArray, List.set_cons_zero, List.set_cons_succ]))
  refine wp_region_M (fun W => W = w.drew) 11 (by kernel_rfl) ?_
  replace HX := Lib.hid HX.out.drew
  generalize w.drew = w at HX ⊢
  refine wpAnyM_take (by kernel_rfl) (by intro c a d v w h; cases d <;> exact h) [(0, false), (1, false), (2, false), (3, true), (4, false), (5, false), (6, false), (7, false), (8, true), (9, false), (10, false)] (fuel := 0) (by kernel_rfl) ?_
  apply Exists.intro; refine ⟨?_, rfl, ?_⟩
  · iterate 11 (refine yD ?_)
    exact rfl
  refine wpAnyM_done (by kernel_rfl) ?_ _
  go_wp2_with (first | (refine sWL ?_; simp only [Act.put, List.setIfInBounds_toArray, List.set_cons_zero, List.set_cons_succ, List.drop_zero, List.drop_succ_cons, List.take_succ_cons, List.take_zero, List.toList_toArray, NodeS.cells, OpS.cells, ResS.cells]) | (refine sWM ?_; simp only [Act.put, List.setIfInBounds_toArray, List.set_cons_zero, List.set_cons_succ]) | (refine sWS ?_; clear HX; intro w HX; simp only [Act.put, List.setIfInBounds_toArray, List.set_cons_zero, List.set_cons_succ, setMany, Nat.reduceAdd, NodeS.cells, OpS.cells, ResS.cells] at HX ⊢) | (refine sWT ?_; clear HX; intro w HX; simp only [Act.put, List.setIfInBounds_toArray, List.set_cons_zero, List.set_cons_succ, NodeS.cells, OpS.cells, ResS.cells] at HX ⊢) | (refine sWA ?_; clear HX; (first | (have hq := b9; clear hq; intro w b10 HX) | (have hq := b8; clear hq; intro w b9 HX) | (have hq := b7; clear hq; intro w b8 HX) | (have hq := b6; clear hq; intro w b7 HX) | (have hq := b5; clear hq; intro w b6 HX) | (have hq := b4; clear hq; intro w b5 HX) | (have hq := b3; clear hq; intro w b4 HX) | (have hq := b2; clear hq; intro w b3 HX) | (have hq := b; clear hq; intro w b2 HX) | intro w b HX); simp only [Act.put, List.setIfInBounds_toArray, List.set_cons_zero, List.set_cons_succ]) | (refine sWN ?_; clear HX; intro w mm HX; simp only [Act.put, List.setIfInBounds_toArray, List.set_cons_zero, List.set_cons_succ]) | (refine sWP ?_; clear HX; intro w av nv cv HX; simp only [Act.put, List.setIfInBounds_toArray, List.set_cons_zero, List.set_cons_succ]))
  go_loopg [5] S.l.length (fun k v5 wr => ∃ i : Nat, i + k = S.l.length ∧ v5 = .int .i64 (i : Int) ∧ Sep w0 wr (ThCell b2 (.cells #[.int .i64 S.room, .slice a2 S.l.length c2] 69 (0, 0)) :: ThRow 11 (.slice a2 S.l.length c2) xs2 :: ThCell b (.cells #[.int .i64 S.room, .slice a1 S.l.length c1] 69 (0, 0)) :: ThRow 11 (.slice a1 S.l.length c1) xs1 :: ThPool w0 P :: R) rows)
  case atStart => exact ⟨0, by omega, rfl, HX.out⟩
  case round =>
    rename World => w
    obtain ⟨i, hik, rfl, hS⟩ := hrel
    clear HX
    have HX := Lib.hid hS
    clear hS
    by_cases hlt : i < S.l.length
    case neg =>
      obtain rfl : i = S.l.length := by omega
      clear hlt hik
      go_wp2_with (first | (refine sWL ?_; simp only [Act.put, List.setIfInBounds_toArray, List.set_cons_zero, List.set_cons_succ, List.drop_zero, List.drop_succ_cons, List.take_succ_cons, List.take_zero, List.toList_toArray, NodeS.cells, OpS.cells, ResS.cells]) | (refine sWM ?_; simp only [Act.put, List.setIfInBounds_toArray, List.set_cons_zero, List.set_cons_succ]) | (refine sWS ?_; clear HX; intro w HX; simp only [Act.put, List.setIfInBounds_toArray, List.set_cons_zero, List.set_cons_succ, setMany, Nat.reduceAdd, NodeS.cells, OpS.cells, ResS.cells] at HX ⊢) | (refine sWT ?_; clear HX; intro w HX; simp only [Act.put, List.setIfInBounds_toArray, List.set_cons_zero, List.set_cons_succ, NodeS.cells, OpS.cells, ResS.cells] at HX ⊢) | (refine sWA ?_; clear HX; (first | (have hq := b9; clear hq; intro w b10 HX) | (have hq := b8; clear hq; intro w b9 HX) | (have hq := b7; clear hq; intro w b8 HX) | (have hq := b6; clear hq; intro w b7 HX) | (have hq := b5; clear hq; intro w b6 HX) | (have hq := b4; clear hq; intro w b5 HX) | (have hq := b3; clear hq; intro w b4 HX) | (have hq := b2; clear hq; intro w b3 HX) | (have hq := b; clear hq; intro w b2 HX) | intro w b HX); simp only [Act.put, List.setIfInBounds_toArray, List.set_cons_zero, List.set_cons_succ]) | (refine sWN ?_; clear HX; intro w mm HX; simp only [Act.put, List.setIfInBounds_toArray, List.set_cons_zero, List.set_cons_succ]) | (refine sWP ?_; clear HX; intro w av nv cv HX; simp only [Act.put, List.setIfInBounds_toArray, List.set_cons_zero, List.set_cons_succ]))
      go_ret
      exact ⟨rfl, HFIN.out _ HX.out⟩
    case pos =>
      obtain ⟨nv1, m1, p1, k1⟩ := HE1.out.parts hlt
      obtain ⟨nv2, m2, p2, k2⟩ := HE2.out.parts hlt
      obtain ⟨E, hE⟩ := own_read HX.out.up3
      obtain ⟨_, _, _, e, _, _, _, hne⟩ := ReadRow.some hE
      simp only [Value.slice.injEq] at e
      obtain ⟨rfl, rfl, rfl⟩ := e
      obtain ⟨g1, o1, rfl⟩ := hne (by intro e; rw [e] at p1; cases p1)
      obtain ⟨E2, hE2⟩ := own_read HX.out.up1
      obtain ⟨_, _, _, e, _, _, _, hne⟩ := ReadRow.some hE2
      simp only [Value.slice.injEq] at e
      obtain ⟨rfl, rfl, rfl⟩ := e
      obtain ⟨g2, o2, rfl⟩ := hne (by intro e; rw [e] at p2; cases p2)
      obtain ⟨⟨p, nd⟩, hen⟩ : ∃ en, S.l[i] = en := ⟨_, rfl⟩
      rw [hen] at m1 p1 k1 m2 p2 k2
      dsimp only at m1 p1 k1 m2 p2 k2
      obtain ⟨ps, hps⟩ : ∃ ps : ByteArray, ps = ⟨p.toArray⟩ := ⟨_, rfl⟩
      have hpv : sv p = .string ps := by rw [hps]; rfl
      rw [hpv] at p1 p2
      have hql := beq_self_str ps
      have q0 : decide (i < S.l.length) = true := decide_eq_true hlt
      have q9 : i ≤ 100000 := by have := HN.out; omega
      have HM := Lib.hid (show _ ∧ _ from ⟨m1, m2⟩)
      have hl : ∀ W, Sep w0 W (ThCell b2 (.cells #[.int .i64 S.room, .slice (some ⟨g2, o2, none⟩) S.l.length c2] 69 (0, 0)) :: ThRow 11 (.slice (some ⟨g2, o2, none⟩) S.l.length c2) xs2 :: ThCell b (.cells #[.int .i64 S.room, .slice (some ⟨g1, o1, none⟩) S.l.length c1] 69 (0, 0)) :: ThRow 11 (.slice (some ⟨g1, o1, none⟩) S.l.length c1) xs1 :: ThPool w0 P :: R) rows → (Instr.loadAt 9 (.pointer (some ⟨g1, o1 + i * 11, none⟩))).run Tryz.prog W = .ok (.string ps) W := fun W hW => by
        obtain ⟨E, hE⟩ := own_read (Sep.up3 hW)
        exact row_fld0 hE (by kernel_rfl) p1
      have hl2 : ∀ W, Sep w0 W (ThCell b2 (.cells #[.int .i64 S.room, .slice (some ⟨g2, o2, none⟩) S.l.length c2] 69 (0, 0)) :: ThRow 11 (.slice (some ⟨g2, o2, none⟩) S.l.length c2) xs2 :: ThCell b (.cells #[.int .i64 S.room, .slice (some ⟨g1, o1, none⟩) S.l.length c1] 69 (0, 0)) :: ThRow 11 (.slice (some ⟨g1, o1, none⟩) S.l.length c1) xs1 :: ThPool w0 P :: R) rows → (Instr.loadAt 9 (.pointer (some ⟨g2, o2 + i * 11, none⟩))).run Tryz.prog W = .ok (.string ps) W := fun W hW => by
        obtain ⟨E, hE⟩ := own_read (Sep.up1 hW)
        exact row_fld0 hE (by kernel_rfl) p2
      have hl3 : ∀ W, Sep w0 W (ThCell b2 (.cells #[.int .i64 S.room, .slice (some ⟨g2, o2, none⟩) S.l.length c2] 69 (0, 0)) :: ThRow 11 (.slice (some ⟨g2, o2, none⟩) S.l.length c2) xs2 :: ThCell b (.cells #[.int .i64 S.room, .slice (some ⟨g1, o1, none⟩) S.l.length c1] 69 (0, 0)) :: ThRow 11 (.slice (some ⟨g1, o1, none⟩) S.l.length c1) xs1 :: ThPool w0 P :: R) rows → (Instr.loadAt 84 (.pointer (some ⟨g1, o1 + i * 11 + 1, none⟩))).run Tryz.prog W = .ok (.agg (nd.cells nv1)) W := fun W hW => by
        obtain ⟨E, hE⟩ := own_read (Sep.up3 hW)
        exact row_part hE sn_rnode rfl (by simp [NodeS.cells]) k1
      have hl4 : ∀ W, Sep w0 W (ThCell b2 (.cells #[.int .i64 S.room, .slice (some ⟨g2, o2, none⟩) S.l.length c2] 69 (0, 0)) :: ThRow 11 (.slice (some ⟨g2, o2, none⟩) S.l.length c2) xs2 :: ThCell b (.cells #[.int .i64 S.room, .slice (some ⟨g1, o1, none⟩) S.l.length c1] 69 (0, 0)) :: ThRow 11 (.slice (some ⟨g1, o1, none⟩) S.l.length c1) xs1 :: ThPool w0 P :: R) rows → (Instr.loadAt 84 (.pointer (some ⟨g2, o2 + i * 11 + 1, none⟩))).run Tryz.prog W = .ok (.agg (nd.cells nv2)) W := fun W hW => by
        obtain ⟨E, hE⟩ := own_read (Sep.up1 hW)
        exact row_part hE sn_rnode rfl (by simp [NodeS.cells]) k2
      clear m1 m2 p1 p2 k1 k2 hne hE hE2 hen hps hpv
      go_wp2_with (first | (refine sWL ?_; simp only [Act.put, List.setIfInBounds_toArray, List.set_cons_zero, List.set_cons_succ, List.drop_zero, List.drop_succ_cons, List.take_succ_cons, List.take_zero, List.toList_toArray, NodeS.cells, OpS.cells, ResS.cells]) | (refine sWM ?_; simp only [Act.put, List.setIfInBounds_toArray, List.set_cons_zero, List.set_cons_succ]) | (refine sWS ?_; clear HX; intro w HX; simp only [Act.put, List.setIfInBounds_toArray, List.set_cons_zero, List.set_cons_succ, setMany, Nat.reduceAdd, NodeS.cells, OpS.cells, ResS.cells] at HX ⊢) | (refine sWT ?_; clear HX; intro w HX; simp only [Act.put, List.setIfInBounds_toArray, List.set_cons_zero, List.set_cons_succ, NodeS.cells, OpS.cells, ResS.cells] at HX ⊢) | (refine sWA ?_; clear HX; (first | (have hq := b9; clear hq; intro w b10 HX) | (have hq := b8; clear hq; intro w b9 HX) | (have hq := b7; clear hq; intro w b8 HX) | (have hq := b6; clear hq; intro w b7 HX) | (have hq := b5; clear hq; intro w b6 HX) | (have hq := b4; clear hq; intro w b5 HX) | (have hq := b3; clear hq; intro w b4 HX) | (have hq := b2; clear hq; intro w b3 HX) | (have hq := b; clear hq; intro w b2 HX) | intro w b HX); simp only [Act.put, List.setIfInBounds_toArray, List.set_cons_zero, List.set_cons_succ]) | (refine sWN ?_; clear HX; intro w mm HX; simp only [Act.put, List.setIfInBounds_toArray, List.set_cons_zero, List.set_cons_succ]) | (refine sWP ?_; clear HX; intro w av nv cv HX; simp only [Act.put, List.setIfInBounds_toArray, List.set_cons_zero, List.set_cons_succ]))
      refine wp_region_M (fun W => Sep w0 W (ThCell b2 (.cells #[.int .i64 S.room, .slice (some ⟨g2, o2, none⟩) S.l.length c2] 69 (0, 0)) :: ThRow 11 (.slice (some ⟨g2, o2, none⟩) S.l.length c2) xs2 :: ThCell b (.cells #[.int .i64 S.room, .slice (some ⟨g1, o1, none⟩) S.l.length c1] 69 (0, 0)) :: ThRow 11 (.slice (some ⟨g1, o1, none⟩) S.l.length c1) xs1 :: ThPool w0 P :: R) rows) 37 (by kernel_rfl) ?_
      have KEEPX : ∀ W, Sep w0 W (ThCell b2 (.cells #[.int .i64 S.room, .slice (some ⟨g2, o2, none⟩) S.l.length c2] 69 (0, 0)) :: ThRow 11 (.slice (some ⟨g2, o2, none⟩) S.l.length c2) xs2 :: ThCell b (.cells #[.int .i64 S.room, .slice (some ⟨g1, o1, none⟩) S.l.length c1] 69 (0, 0)) :: ThRow 11 (.slice (some ⟨g1, o1, none⟩) S.l.length c1) xs1 :: ThPool w0 P :: R) rows → Sep w0 W (ThCell b2 (.cells #[.int .i64 S.room, .slice (some ⟨g2, o2, none⟩) S.l.length c2] 69 (0, 0)) :: ThRow 11 (.slice (some ⟨g2, o2, none⟩) S.l.length c2) xs2 :: ThCell b (.cells #[.int .i64 S.room, .slice (some ⟨g1, o1, none⟩) S.l.length c1] 69 (0, 0)) :: ThRow 11 (.slice (some ⟨g1, o1, none⟩) S.l.length c1) xs1 :: ThPool w0 P :: R) rows := fun _ h => h
      replace HX := Lib.hid HX.out.drew
      refine wpAnyM_take (by kernel_rfl) (by intro c a d v w h; cases d <;> exact h) [(0, false), (1, false), (2, false), (3, true), (4, false), (5, false), (6, false), (7, true), (8, false), (9, false), (10, false), (11, true), (12, false), (13, false), (14, false), (15, true), (16, false), (17, false), (18, false), (19, false), (20, false), (21, true), (22, false), (23, false), (24, false), (25, true), (26, false), (27, false), (28, false), (29, true), (30, false), (31, false), (32, false), (33, true)] (fuel := 3) (by kernel_rfl) ?_
      apply Exists.intro; refine ⟨?_, HX.out, ?_⟩
      · iterate 34 (refine yE ?_)
        exact rfl
      clear hl hl2 hl3 hl4
      refine wpAnyM_one (fuel := 2) (i := 34) (by kernel_rfl) (by (simp only [List.getElem?_toArray, List.getElem?_cons_succ, List.getElem?_cons_zero]; try rfl)) (fun K hK => ?_)    -- CALL
      go_wp2_with fail
      refine (samen_any HX.out.up4 nd nv1 nv2 HM.out.1 HM.out.2).mono ?_
      rintro e w ⟨rfl, hx⟩
      have hy : Sep w0 w (ThCell b2 (.cells #[.int .i64 S.room, .slice (some ⟨g2, o2, none⟩) S.l.length c2] 69 (0, 0)) :: ThRow 11 (.slice (some ⟨g2, o2, none⟩) S.l.length c2) xs2 :: ThCell b (.cells #[.int .i64 S.room, .slice (some ⟨g1, o1, none⟩) S.l.length c1] 69 (0, 0)) :: ThRow 11 (.slice (some ⟨g1, o1, none⟩) S.l.length c1) xs1 :: ThPool w0 P :: R) rows := hx.pm 5 [1, 2, 3, 4, 0] rfl rfl
      clear HX hx
      have HX := Lib.hid hy
      clear hy
      go_wp2_with fail
      refine hK _ _ HX.out ?_
      clear hK
      refine wpAnyM_take (by kernel_rfl) (by intro c a d v w h; cases d <;> exact h) [(35, false), (36, false)] (fuel := 0) (by kernel_rfl) ?_
      apply Exists.intro; refine ⟨?_, HX.out, ?_⟩
      · iterate 2 (refine yE ?_)
        exact rfl
      refine wpAnyM_done (by kernel_rfl) ?_ _
      go_wp2_with (first | (refine sWL ?_; simp only [Act.put, List.setIfInBounds_toArray, List.set_cons_zero, List.set_cons_succ, List.drop_zero, List.drop_succ_cons, List.take_succ_cons, List.take_zero, List.toList_toArray, NodeS.cells, OpS.cells, ResS.cells]) | (refine sWM ?_; simp only [Act.put, List.setIfInBounds_toArray, List.set_cons_zero, List.set_cons_succ]) | (refine sWS ?_; clear HX; intro w HX; simp only [Act.put, List.setIfInBounds_toArray, List.set_cons_zero, List.set_cons_succ, setMany, Nat.reduceAdd, NodeS.cells, OpS.cells, ResS.cells] at HX ⊢) | (refine sWT ?_; clear HX; intro w HX; simp only [Act.put, List.setIfInBounds_toArray, List.set_cons_zero, List.set_cons_succ, NodeS.cells, OpS.cells, ResS.cells] at HX ⊢) | (refine sWA ?_; clear HX; (first | (have hq := b9; clear hq; intro w b10 HX) | (have hq := b8; clear hq; intro w b9 HX) | (have hq := b7; clear hq; intro w b8 HX) | (have hq := b6; clear hq; intro w b7 HX) | (have hq := b5; clear hq; intro w b6 HX) | (have hq := b4; clear hq; intro w b5 HX) | (have hq := b3; clear hq; intro w b4 HX) | (have hq := b2; clear hq; intro w b3 HX) | (have hq := b; clear hq; intro w b2 HX) | intro w b HX); simp only [Act.put, List.setIfInBounds_toArray, List.set_cons_zero, List.set_cons_succ]) | (refine sWN ?_; clear HX; intro w mm HX; simp only [Act.put, List.setIfInBounds_toArray, List.set_cons_zero, List.set_cons_succ]) | (refine sWP ?_; clear HX; intro w av nv cv HX; simp only [Act.put, List.setIfInBounds_toArray, List.set_cons_zero, List.set_cons_succ]))
      go_roundg (S.l.length - (i + 1))
      case rel => exact ⟨i + 1, by omega, by go_num, HX.out⟩
      case measure => omega
end
end Go.Proofs.YtjeaoopamebgjaaGreatDoor

/-
  Results that are alike are told so.
-/
set_option linter.unusedSimpArgs false
namespace Go.Proofs.YtjeaoopamebgjaaGreatDoor
open Go.RowKit Go.Av
section
variable {w0 w : World} {P P' : List PRow} {R : List Thing} {rows : List (Value × Bs)}
set_option maxRecDepth 100000 in
set_option maxHeartbeats 2000000 in
theorem one_any (h : Sep w0 w (ThPool w0 P :: R) rows) (r : ResS) (va vb : Value) (ha : (1, va, r.names.map sv) ∈ P) (hb : (1, vb, r.names.map sv) ∈ P) :
    Calls Tryz.prog 17 #[.agg (r.cells va), .agg (r.cells vb)] w fun e w' => e = .returned (.bool true) ∧ Sep w0 w' (ThPool w0 P :: R) rows := by
  obtain ⟨E, hE⟩ := h.poolGet ha
  obtain ⟨a1, n1, c1, rfl, -⟩ := ReadRow.some hE
  obtain ⟨E2, hE2⟩ := h.poolGet hb
  obtain ⟨a2, n2, c2, rfl, -⟩ := ReadRow.some hE2
  have HA := Lib.hid ha
  have HB := Lib.hid hb
  have HX := Lib.hid h
  have hq := beq_self_str r.data
  have hq2 : (r.data.toList == r.data.toList) = true := by simp
  have hq3 := beq_self_str r.path
  have hq4 : (r.path.toList == r.path.toList) = true := by simp
  clear h ha hb hE hE2
  unfold ResS.cells
  go_enter Tryz.func17, Tryz.ntmps17
  go_wp2_with (first | (refine sWL ?_; simp only [Act.put, List.setIfInBounds_toArray, List.set_cons_zero, List.set_cons_succ, List.drop_zero, List.drop_succ_cons, List.take_succ_cons, List.take_zero, List.toList_toArray, NodeS.cells, OpS.cells, ResS.cells]) | (refine sWM ?_; simp only [Act.put, List.setIfInBounds_toArray, List.set_cons_zero, List.set_cons_succ]) | (refine sWS ?_; clear HX; intro w HX; simp only [Act.put, List.setIfInBounds_toArray, List.set_cons_zero, List.set_cons_succ, setMany, Nat.reduceAdd, NodeS.cells, OpS.cells, ResS.cells] at HX ⊢) | (refine sWT ?_; clear HX; intro w HX; simp only [Act.put, List.setIfInBounds_toArray, List.set_cons_zero, List.set_cons_succ, NodeS.cells, OpS.cells, ResS.cells] at HX ⊢) | (refine sWA ?_; clear HX; (first | (have hq := b9; clear hq; intro w b10 HX) | (have hq := b8; clear hq; intro w b9 HX) | (have hq := b7; clear hq; intro w b8 HX) | (have hq := b6; clear hq; intro w b7 HX) | (have hq := b5; clear hq; intro w b6 HX) | (have hq := b4; clear hq; intro w b5 HX) | (have hq := b3; clear hq; intro w b4 HX) | (have hq := b2; clear hq; intro w b3 HX) | (have hq := b; clear hq; intro w b2 HX) | intro w b HX); simp only [Act.put, List.setIfInBounds_toArray, List.set_cons_zero, List.set_cons_succ]) | (refine sWN ?_; clear HX; intro w mm HX; simp only [Act.put, List.setIfInBounds_toArray, List.set_cons_zero, List.set_cons_succ]) | (refine sWP ?_; clear HX; intro w av nv cv HX; simp only [Act.put, List.setIfInBounds_toArray, List.set_cons_zero, List.set_cons_succ]))
  refine (sames_any HX.out.up2 _ _ r.names HA.out HB.out).mono ?_
  rintro e w ⟨rfl, hx⟩
  clear HX
  have HX := Lib.hid hx
  clear hx
  go_wp2_with (first | (refine sWL ?_; simp only [Act.put, List.setIfInBounds_toArray, List.set_cons_zero, List.set_cons_succ, List.drop_zero, List.drop_succ_cons, List.take_succ_cons, List.take_zero, List.toList_toArray, NodeS.cells, OpS.cells, ResS.cells]) | (refine sWM ?_; simp only [Act.put, List.setIfInBounds_toArray, List.set_cons_zero, List.set_cons_succ]) | (refine sWS ?_; clear HX; intro w HX; simp only [Act.put, List.setIfInBounds_toArray, List.set_cons_zero, List.set_cons_succ, setMany, Nat.reduceAdd, NodeS.cells, OpS.cells, ResS.cells] at HX ⊢) | (refine sWT ?_; clear HX; intro w HX; simp only [Act.put, List.setIfInBounds_toArray, List.set_cons_zero, List.set_cons_succ, NodeS.cells, OpS.cells, ResS.cells] at HX ⊢) | (refine sWA ?_; clear HX; (first | (have hq := b9; clear hq; intro w b10 HX) | (have hq := b8; clear hq; intro w b9 HX) | (have hq := b7; clear hq; intro w b8 HX) | (have hq := b6; clear hq; intro w b7 HX) | (have hq := b5; clear hq; intro w b6 HX) | (have hq := b4; clear hq; intro w b5 HX) | (have hq := b3; clear hq; intro w b4 HX) | (have hq := b2; clear hq; intro w b3 HX) | (have hq := b; clear hq; intro w b2 HX) | intro w b HX); simp only [Act.put, List.setIfInBounds_toArray, List.set_cons_zero, List.set_cons_succ]) | (refine sWN ?_; clear HX; intro w mm HX; simp only [Act.put, List.setIfInBounds_toArray, List.set_cons_zero, List.set_cons_succ]) | (refine sWP ?_; clear HX; intro w av nv cv HX; simp only [Act.put, List.setIfInBounds_toArray, List.set_cons_zero, List.set_cons_succ]))
  go_ret
  exact ⟨rfl, HX.out.cut1.cut1⟩
theorem long_len {l : List OpS} (h : longS l = false) : l.length ≤ 20 ∧ ∀ o ∈ l, o.path.size ≤ 300 := by
  unfold longS at h
  rw [Bool.or_eq_false_iff] at h
  refine ⟨by have := of_decide_eq_false h.1; omega, fun o ho => ?_⟩
  have := List.any_eq_false.1 h.2 o ho
  simp at this
  omega
end
end Go.Proofs.YtjeaoopamebgjaaGreatDoor

/-
  What a purge leaves (plain).
-/
namespace Go.Av
open Go.RowKit
theorem remS_owner (n : NodeS) (s : Bs) : (remS n s).owner = n.owner := by
  unfold remS
  split <;> rfl
/-- What stays behind a purge. -/
theorem purT_mem {K : Nat} : ∀ (l : List Bs) {S : TreeS}, TreeB K S → (purT l S).l.map (·.1) = (S.l.map (·.1)).filter (fun k => decide (k ∉ l)) ∧ ∀ e ∈ (purT l S).l, ∃ n, (e.1, n) ∈ S.l ∧ n.owner = e.2.owner
  | [], S, h => ⟨by
      rw [List.filter_eq_self.2 (by simp)]
      rfl, fun e he => ⟨e.2, he, rfl⟩⟩
  | p :: l, S, h => by
    obtain ⟨h1, h2⟩ := purT_mem l (rem_b h p)
    have hk : ({ S with l := remT p S.l } : TreeS).l.map (·.1) = (S.l.map (·.1)).filter fun k => decide (k ≠ p) := by
      show (atUp _ _ _).map (·.1) = _
      rw [atUp_keys, delT_keys]
    refine ⟨?_, fun e he => ?_⟩
    · show (purT l { S with l := remT p S.l }).l.map (·.1) = _
      rw [h1, hk, List.filter_filter]
      apply List.filter_congr
      intro x _
      by_cases hx : x = p
      · simp [hx]
      · simp [hx]
    · obtain ⟨n, h3, h4⟩ := h2 e he
      have hr := delT_rise (p := p) h.rise
      rcases atUp_mem (rise_nodup hr) h3 with h5 | ⟨m, h5, h6⟩
      · exact ⟨n, mem_del h5, h4⟩
      · refine ⟨m, mem_del h5, ?_⟩
        rw [← h4]
        have h6 : n = remS m (nameP p) := h6
        rw [h6, remS_owner]
theorem of_mem {S : TreeS} {sess : Int} {p : Bs} : p ∈ ofT S sess ↔ ∃ n, (p, n) ∈ S.l ∧ 0 < sess ∧ n.owner = sess := by
  unfold ofT
  rw [List.mem_map]
  constructor
  · rintro ⟨⟨k, n⟩, he, rfl⟩
    have := List.mem_filter.1 he
    simp at this
    exact ⟨n, this.1, this.2⟩
  · rintro ⟨n, h1, h2, h3⟩
    exact ⟨(p, n), List.mem_filter.2 ⟨h1, by simp [h2, h3]⟩, rfl⟩
/-- Behind a purge nothing is the session's; the others are there. -/
theorem purged {K : Nat} {S : TreeS} (h : TreeB K S) {sess : Int} (hs : 0 < sess) {l : List Bs} (hl : l.Perm (ofT S sess)) :
    ofT (purT l S) sess = [] ∧ ((purT l S).l.length : Int) = (S.l.length : Int) - ((ofT S sess).length : Int) ∧ ∀ k ∈ S.l.map (·.1), ((lookT k (purT l S).l).isSome = true ↔ k ∉ l) := by
  obtain ⟨h1, h2⟩ := purT_mem l h
  have hn := rise_nodup h.rise
  have hin : ∀ e ∈ S.l, (e.1 ∈ l ↔ (decide (0 < sess) && e.2.owner == sess) = true) := fun e he => by
    rw [hl.mem_iff, of_mem]
    constructor
    · rintro ⟨n, g1, g2, g3⟩
      have e1 := (look_mem hn).2 g1
      have e2 := (look_mem hn).2 (show (e.1, e.2) ∈ S.l from he)
      rw [e1] at e2
      injection e2 with e2
      rw [← e2]
      simp [g2, g3]
    · intro hq
      simp at hq
      exact ⟨e.2, he, hq.1, hq.2⟩
  refine ⟨?_, ?_, fun k hk => ?_⟩
  · rw [List.eq_nil_iff_forall_not_mem]
    intro p hp
    obtain ⟨n, g1, g2, g3⟩ := of_mem.1 hp
    obtain ⟨n0, g4, g5⟩ := h2 _ g1
    have g6 : p ∈ l := (hin (p, n0) g4).2 (by simp [hs, g5, g3])
    have g7 : p ∈ (purT l S).l.map (·.1) := List.mem_map.2 ⟨_, g1, rfl⟩
    rw [h1] at g7
    have := (List.mem_filter.1 g7).2
    simp at this
    exact this g6
  · have e1 : (purT l S).l.length = ((S.l.map (·.1)).filter fun k => decide (k ∉ l)).length := by rw [← h1, List.length_map]
    rw [e1, List.filter_map, List.length_map]
    have e2 : (S.l.filter ((fun k => decide (k ∉ l)) ∘ fun e => e.1)) = S.l.filter fun e => !(decide (0 < sess) && e.2.owner == sess) := by
      apply List.filter_congr
      intro e he
      have := hin e he
      show decide (e.1 ∉ l) = _
      cases hq : (decide (0 < sess) && e.2.owner == sess) with
      | true => rw [hq] at this; simp [this.2 rfl]
      | false =>
        rw [hq] at this
        have : e.1 ∉ l := fun hh => by have := this.1 hh; cases this
        simp [this]
    rw [e2]
    unfold ofT
    rw [List.length_map]
    have := List.length_eq_countP_add_countP (fun e : Bs × NodeS => decide (0 < sess) && e.2.owner == sess) (l := S.l)
    rw [List.countP_eq_length_filter, List.countP_eq_length_filter] at this
    have e3 : (S.l.filter fun e => decide ¬(decide (0 < sess) && e.2.owner == sess) = true) = S.l.filter fun e => !(decide (0 < sess) && e.2.owner == sess) := by
      apply List.filter_congr
      intro e _
      cases (decide (0 < sess) && e.2.owner == sess) <;> rfl
    rw [e3] at this
    omega
  · have hm : k ∈ (purT l S).l.map (·.1) ↔ k ∉ l := by
      rw [h1, List.mem_filter]
      simp [hk]
    rw [← hm]
    constructor
    · intro hh
      obtain ⟨n, hq⟩ := Option.isSome_iff_exists.1 hh
      exact List.mem_map.2 ⟨_, (look_mem (rise_nodup (purT_b l h).rise)).1 hq, rfl⟩
    · intro hh
      obtain ⟨e, he, rfl⟩ := List.mem_map.1 hh
      exact Option.isSome_iff_exists.2 ⟨e.2, (look_mem (rise_nodup (purT_b l h).rise)).2 he⟩
end Go.Av
