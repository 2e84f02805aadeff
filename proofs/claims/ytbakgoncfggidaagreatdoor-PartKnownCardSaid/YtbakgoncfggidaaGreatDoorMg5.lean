/-
  Texts of this claim, laid together.
-/
import Derived.Test.YtbakgoncfggidaaGreatDoorMg4
set_option linter.unusedVariables false
set_option linter.unusedSimpArgs false

namespace Go.Av
open Go.RowKit
def deepP (p : Bs) : Nat := (partsP p).length
def purgeS (l : List Bs) : List Bs := [8, 7, 6, 5, 4, 3, 2, 1].flatMap fun d => l.filter fun p => deepP p == d
theorem flat_perm {α : Type} (k : α → Nat) : ∀ (ds : List Nat) (l : List α), ds.Nodup → (∀ x ∈ l, k x ∈ ds) → (ds.flatMap fun d => l.filter fun x => k x == d).Perm l
  | [], l, _, h => by
    cases l with
    | nil => exact .refl _
    | cons x l => exact absurd (h x k_s) (by simp)
  | d :: ds, l, hn, h => by
    rw [List.flatMap_cons]
    have hne : ∀ d' ∈ ds, d' ≠ d := fun d' hd e => (List.nodup_cons.1 hn).1 (e ▸ hd)
    have he : (ds.flatMap fun d' => l.filter fun x => k x == d') = ds.flatMap fun d' => (l.filter fun x => !(k x == d)).filter fun x => k x == d' := by
      rw [List.flatMap_def, List.flatMap_def]
      congr 1
      apply List.map_congr_left
      intro d' hd
      rw [List.filter_filter]
      apply List.filter_congr
      intro x _
      have := hne d' hd
      by_cases hx : k x = d'
      · have h2 : ¬ k x = d := by omega
        simp [hx, this]
      · simp [hx]
    rw [he]
    refine ((flat_perm k ds (l.filter fun x => !(k x == d)) (List.nodup_cons.1 hn).2 (fun x hx => ?_)).append_left _).trans (List.filter_append_perm _ l)
    have h1 := List.mem_filter.1 hx
    have h2 := h x h1.1
    simp at h1
    rcases List.mem_cons.1 h2 with h3 | h3
    · exact absurd h3 h1.2
    · exact h3
theorem sorted_eq (f : Nat → Bs) (n : Nat) (τ : Nat → Nat) (hp : PermF 0 n (fun i => i) τ) (hb : InBlk (fun i => -(deepP (f i) : Int)) τ 0 n) :
    (((List.range n).map τ).map f).Perm ((List.range n).map f) ∧ ((∀ i, i < n → 1 ≤ deepP (f i) ∧ deepP (f i) ≤ 8) → ((List.range n).map τ).map f = purgeS ((List.range n).map f)) := by
  have hpm : ((List.range n).map τ).Perm (List.range n) := by
    have := hp.all n (Nat.le_refl _)
    rwa [List.map_id'] at this
  refine ⟨hpm.map f, fun hd => ?_⟩
  have he : (List.range n).map τ = [8, 7, 6, 5, 4, 3, 2, 1].flatMap fun d => (List.range n).filter fun i => deepP (f i) == d := by
    refine lex_sorted_eq (K := fun i => -(deepP (f i) : Int)) (hpm.trans (flat_perm (fun i => deepP (f i)) _ _ (by decide) (fun i hi => ?_)).symm) ?_ ?_
    · have := hd i (List.mem_range.1 hi)
      simp
      omega
    · rw [List.pairwise_map]
      refine List.Pairwise.imp_of_mem ?_ List.pairwise_lt_range
      intro i j hi hj hij
      exact hb.sort i j (Nat.zero_le _) hij (List.mem_range.1 hj)
    · rw [List.pairwise_flatMap]
      refine ⟨fun d _ => ?_, ?_⟩
      · refine List.Pairwise.imp_of_mem ?_ (List.pairwise_lt_range.filter _)
        intro i j hi hj hij
        have h1 := (List.mem_filter.1 hi).2
        have h2 := (List.mem_filter.1 hj).2
        simp at h1 h2
        exact .inr ⟨show -(deepP (f i) : Int) = -(deepP (f j) : Int) by rw [h1, h2], hij⟩
      · have : ([8, 7, 6, 5, 4, 3, 2, 1] : List Nat).Pairwise (fun a b => b < a) := by decide
        refine this.imp ?_
        intro a b hab x hx y hy
        have h1 := (List.mem_filter.1 hx).2
        have h2 := (List.mem_filter.1 hy).2
        simp at h1 h2
        exact .inl (show -(deepP (f x) : Int) < -(deepP (f y) : Int) by rw [h1, h2]; omega)
  rw [he]
  unfold purgeS
  rw [List.map_flatMap]
  rw [List.flatMap_def, List.flatMap_def]
  congr 1
  apply List.map_congr_left
  intro d _
  rw [List.filter_map]
  rfl
def purT (l : List Bs) (S : TreeS) : TreeS := l.foldl (fun S p => { S with l := remT p S.l }) S
theorem purT_b {K : Nat} : ∀ (l : List Bs) {S : TreeS}, TreeB K S → TreeB K (purT l S)
  | [], _, h => h
  | p :: l, S, h => purT_b l (rem_b h p)
theorem purT_take {l : List Bs} {S : TreeS} {i : Nat} (hi : i < l.length) : purT (l.take (i + 1)) S = { purT (l.take i) S with l := remT l[i] (purT (l.take i) S).l } := by
  rw [List.take_succ_eq_append_getElem hi]
  unfold purT
  rw [List.foldl_append]
  rfl
end Go.Av
namespace Go.Proofs.YtbakgoncfggidaaGreatDoor
open Go.RowKit Go.Av
section
variable {w0 w : World} {t : Nat} {S : TreeS} {P P' : List PRow} {R : List Thing} {rows : List (Value × Bs)}
set_option maxRecDepth 100000 in
theorem cmpc_any (a b : Int) (w : World) : Calls Tryz.prog 157 #[.int .i64 a, .int .i64 b] w fun e w' => (∃ r : Int, e = .returned (.int .i64 r) ∧ (r < 0 ↔ a < b)) ∧ w' = w := by
  have qa : (a != a) = false := by simp
  have qb : (b != b) = false := by simp
  rcases Int.lt_trichotomy a b with h | h | h
  · have q1 : decide (a < b) = true := decide_eq_true h
    go_enter Tryz.func157, Tryz.ntmps157
    go_wp2
    go_ret
    exact ⟨⟨_, rfl, by omega⟩, rfl⟩
  · subst h
    have q1 : decide (a < a) = false := decide_eq_false (by omega)
    go_enter Tryz.func157, Tryz.ntmps157
    go_wp2
    go_ret
    exact ⟨⟨_, rfl, by omega⟩, rfl⟩
  · have q1 : decide (a < b) = false := decide_eq_false (by omega)
    have q2 : decide (b < a) = true := decide_eq_true h
    go_enter Tryz.func157, Tryz.ntmps157
    go_wp2
    go_ret
    exact ⟨⟨_, rfl, by omega⟩, rfl⟩
set_option maxRecDepth 100000 in
theorem less_any (hd : DoorN w0) : LessC w0 (fun p => -(deepP p : Int)) (fun p => p.length ≤ 100000) := by
  intro x y w R rows hx hy h
  have HX := Lib.hid h
  have hpy := parts_any ⟨y.toArray⟩
  have hpx := parts_any ⟨x.toArray⟩
  have HPY := Lib.hid (fun w hw => hpy w hw (by show y.toArray.size ≤ _; rw [List.size_toArray]; unfold maxLen; omega))
  have HPX := Lib.hid (fun w hw => hpx w hw (by show x.toArray.size ≤ _; rw [List.size_toArray]; unfold maxLen; omega))
  clear h hpx hpy
  unfold sv
  go_enter Tryz.func156, Tryz.ntmps156
  go_wp2_with fail
  refine (HPY.out w (hd.1.sep HX.out)).mono ?_
  rintro e w ⟨v, D, rfl, ho, hu⟩
  obtain ⟨a, n, c, rfl, hl, hn, hc, -⟩ := id ho
  rw [List.length_map, Nat.mul_one] at hl
  have hx2 := HX.out.keep (hu.mono (fun _ h => h) (fun b hb => by cases hb) : Upd _ w [] [])
  clear HX HPY
  have HX := Lib.hid hx2
  clear hx2 ho hu
  go_wp2_with fail
  refine (HPX.out w (hd.1.sep HX.out)).mono ?_
  rintro e w ⟨v, D, rfl, ho, hu⟩
  obtain ⟨a2, n2, c2, rfl, hl2, hn2, hc2, -⟩ := id ho
  rw [List.length_map, Nat.mul_one] at hl2
  have hx2 := HX.out.keep (hu.mono (fun _ h => h) (fun b hb => by cases hb) : Upd _ w [] [])
  clear HX HPX
  have HX := Lib.hid hx2
  clear hx2 ho hu
  go_wp2_with fail
  refine (cmpc_any _ _ _).mono ?_
  rintro e w1 ⟨⟨r, rfl, hr⟩, rfl⟩
  go_wp2_with fail
  go_ret
  refine ⟨r, rfl, hr.trans ?_, HX.out⟩
  have e1 : (partsP y).length = n := hl
  have e2 : (partsP x).length = n2 := hl2
  show (n : Int) < (n2 : Int) ↔ -((partsP x).length : Int) < -((partsP y).length : Int)
  omega
set_option maxRecDepth 100000 in
theorem insertion_nil (a : Option Addr) (c : Nat) (fv : Value) (w : World) : Calls Tryz.prog 230 #[.slice a 0 c, .int .i64 0, .int .i64 0, fv] w fun e w' => e = .returned (.tuple #[]) ∧ w' = w := by
  go_enter Tryz.func230, Tryz.ntmps230
  go_wp2
  refine wp_loop_rounds 1 ?_
  rw [rounds_succ]
  go_wp2
  go_end0
  exact ⟨rfl, rfl⟩
set_option maxRecDepth 100000 in
theorem stable_nil (a : Option Addr) (c : Nat) (fv : Value) (w : World) : Calls Tryz.prog 194 #[.slice a 0 c, .int .i64 0, fv] w fun e w' => e = .returned (.tuple #[]) ∧ w' = w := by
  go_enter Tryz.func194, Tryz.ntmps194
  go_wp2
  refine wp_loop_rounds 1 ?_
  rw [rounds_succ]
  go_wp2_with fail
  refine (insertion_nil a c fv _).mono ?_
  rintro e w1 ⟨rfl, rfl⟩
  go_wp2_with fail
  refine wp_loop_rounds 1 ?_
  rw [rounds_succ]
  go_wp2
  go_end0
  exact ⟨rfl, rfl⟩
set_option maxRecDepth 100000 in
theorem sortStable_nil (a : Option Addr) (c : Nat) (fv : Value) (w : World) : Calls Tryz.prog 155 #[.slice a 0 c, fv] w fun e w' => e = .returned (.tuple #[]) ∧ w' = w := by
  go_enter Tryz.func155, Tryz.ntmps155
  go_wp2_with fail
  refine (stable_nil a c fv _).mono ?_
  rintro e w1 ⟨rfl, rfl⟩
  go_wp2_with fail
  go_end0
  exact ⟨rfl, rfl⟩
def DeepPost (w0 : World) (v : Value) (l : List Bs) (R : List Thing) (rows : List (Value × Bs)) (e : Ending) (w' : World) : Prop :=
  e = .returned (.tuple #[]) ∧ ∃ l', l'.Perm l ∧ ((∀ p ∈ l, 1 ≤ deepP p ∧ deepP p ≤ 8) → l' = purgeS l) ∧ Sep w0 w' (ThRow 1 v (l'.map sv) :: R) rows
theorem deep_any (hd : DoorN w0) {v : Value} {l : List Bs} (h : Sep w0 w (ThRow 1 v (l.map sv) :: R) rows) (hl : ∀ p ∈ l, p.length ≤ 100000) (hn : l.length ≤ 100000) :
    Calls Tryz.prog 155 #[v, lessV] w (DeepPost w0 v l R rows) := by
  obtain ⟨a, n, c, rfl, h1, h2, h3⟩ := h.rowLen
  rw [List.length_map, Nat.mul_one] at h1
  by_cases h0 : n = 0
  · subst h0
    refine (sortStable_nil a c lessV w).mono ?_
    rintro e w1 ⟨rfl, rfl⟩
    have : l = [] := List.eq_nil_of_length_eq_zero h1
    subst this
    exact ⟨rfl, [], .refl _, fun _ => rfl, h⟩
  · have hsome : ∃ g off, a = some ⟨g, off, none⟩ := by
      obtain ⟨y, hy, hs, -⟩ := h.rowCell (i := 0) (x := sv (l[0]'(by omega))) (by rw [List.getElem?_map, List.getElem?_eq_getElem (by omega)]; rfl)
      obtain ⟨g, off, sp⟩ := y
      simp only at hs
      subst hs
      exact ⟨g, off, hy⟩
    obtain ⟨g, off, rfl⟩ := hsome
    have hc : l.map sv = cellsF n (strF (fun i => l.getD i []) fun i => i) := by
      apply List.ext_getElem
      · simp [cellsF, h1]
      · intro i g1 g2
        simp only [List.length_map] at g1
        simp [cellsF, strF, g1]
    have hb : (List.range n).map (fun i => l.getD i []) = l := by
      apply List.ext_getElem
      · simp [h1]
      · intro i g1 g2
        simp [g2]
    rw [hc] at h
    refine (sortStable_any (ok := fun p => p.length ≤ 100000) (less_any hd) (fun i => ?_) (by omega) w h).mono ?_
    · rw [List.getD_eq_getElem?_getD]
      cases hg : l[i]? with
      | none => simp
      | some p => exact hl p (List.mem_of_getElem? hg)
    · rintro e w1 ⟨τ, rfl, ⟨hp, hbk⟩, hS⟩
      obtain ⟨e1, e2⟩ := sorted_eq (fun i => l.getD i []) n τ hp hbk
      rw [hb] at e1 e2
      refine ⟨rfl, _, e1, fun hh => e2 (fun i hi => ?_), ?_⟩
      · have : l.getD i [] = l[i]'(by omega) := by rw [List.getD_eq_getElem?_getD, List.getElem?_eq_getElem (by omega)]; rfl
        show 1 ≤ deepP (l.getD i []) ∧ deepP (l.getD i []) ≤ 8
        rw [this]
        exact hh _ (List.getElem_mem _)
      · have : (((List.range n).map τ).map fun i => l.getD i []).map sv = cellsF n (strF (fun i => l.getD i []) τ) := by
          simp [cellsF, strF, Function.comp_def]
        rw [this]
        exact hS
def PurPost (w0 : World) (t : Nat) (S : TreeS) (P : List PRow) (R : List Thing) (rows : List (Value × Bs)) (l : List Bs) (e : Ending) (w' : World) : Prop :=
  ∃ l', l'.Perm l ∧ ((∀ p ∈ l, 1 ≤ deepP p ∧ deepP p ≤ 8) → l' = purgeS l) ∧ RowPost w0 t (purT l' S) P R rows l' e w'
def PurRel (w0 : World) (t : Nat) (S : TreeS) (P : List PRow) (R : List Thing) (rows : List (Value × Bs)) (v : Value) (l : List Bs) (k : Nat) (vi : Value) (w : World) : Prop :=
  ∃ (i : Nat) (P' : List PRow), i + k = l.length ∧ vi = .int .i64 (i : Int) ∧ (∀ r ∈ P, r ∈ P') ∧ Sep w0 w (ThPool w0 P' :: ThTree t (purT (l.take i) S) P' :: ThRow 1 v (l.map sv) :: R) rows
set_option maxRecDepth 100000 in
set_option maxHeartbeats 4000000 in
theorem purge_any {K : Nat} (h : Sep w0 w (ThPool w0 P :: ThTree t S P :: R) rows) (hd : DoorN w0) (hB : TreeB K S) (hK : K ≤ 100000) (sess : Int) :
    Calls Tryz.prog 80 #[.pointer (some ⟨t, 0, none⟩), .int .i64 sess] w (PurPost w0 t S P R rows (ofT S sess)) := by
  have HX := Lib.hid h
  have HB := Lib.hid (show _ ∧ _ from ⟨hB, hK⟩)
  clear h hB hK
  go_enter Tryz.func80, Tryz.ntmps80
  go_wp2_with (first | refine vL ?_ | refine vM ?_ | (refine vS ?_; clear HX; intro w HX) | (refine vA ?_; clear HX; (first | (have hq := b; clear hq; intro w b2 HX) | intro w b HX)) | ((first | (refine sWN ?_; clear HX; intro w mm HX) | (refine sWP ?_; clear HX; intro w av nv cv HX)); simp only [Act.put, k_a, k_b, k_c]))
  refine (tofRow_any HX.out sess (by have := HB.out.1.many; omega) (fun e he => by have := HB.out.1.keys e he; omega)).mono ?_
  rintro e w ⟨v, P', rfl, hP', hS⟩
  obtain ⟨a0, n0, c0, rfl, hl0, hn0, hc0⟩ := hS.rowLen
  rw [List.length_map, Nat.mul_one] at hl0
  clear HX
  have HX := Lib.hid hS
  have HP := Lib.hid hP'
  clear hS hP'
  go_wp2_with (first | refine vL ?_ | refine vM ?_ | (refine vS ?_; clear HX; intro w HX) | (refine vA ?_; clear HX; (first | (have hq := b; clear hq; intro w b2 HX) | intro w b HX)) | ((first | (refine sWN ?_; clear HX; intro w mm HX) | (refine sWP ?_; clear HX; intro w av nv cv HX)); simp only [Act.put, k_a, k_b, k_c]))
  refine (deep_any hd HX.out (fun p hp => ?_) ?_).mono ?_
  · obtain ⟨e, he, rfl⟩ := List.mem_map.1 hp
    have := HB.out.1.keys e (List.mem_filter.1 he).1
    omega
  · have h1 : (ofT S sess).length ≤ S.l.length := by unfold ofT; rw [List.length_map]; exact List.length_filter_le _ _
    have := HB.out.1.many
    omega
  rintro e w ⟨rfl, l', hp, hpu, hS⟩
  have hlen := hp.length_eq
  have hkey : ∀ p ∈ l', p.length ≤ 200 := fun p hpm => by
    obtain ⟨e, he, rfl⟩ := List.mem_map.1 (hp.mem_iff.1 hpm)
    exact HB.out.1.keys e (List.mem_filter.1 he).1
  have h500 : l'.length ≤ 500 := by
    have h1 : (ofT S sess).length ≤ S.l.length := by unfold ofT; rw [List.length_map]; exact List.length_filter_le _ _
    have := HB.out.1.many
    omega
  have HPU := Lib.hid (show _ ∧ _ ∧ _ from ⟨hp, hpu, hkey⟩)
  rw [← hl0] at hn0 HX
  rw [← hl0]
  rw [← hlen] at hn0
  rw [← hl0] at hS
  rw [← hlen] at hS ⊢
  clear HX hp hpu hkey hl0 hlen
  have HX := Lib.hid hS
  clear hS
  go_wp2_with (first | refine vL ?_ | refine vM ?_ | (refine vS ?_; clear HX; intro w HX) | (refine vA ?_; clear HX; (first | (have hq := b; clear hq; intro w b2 HX) | intro w b HX)) | ((first | (refine sWN ?_; clear HX; intro w mm HX) | (refine sWP ?_; clear HX; intro w av nv cv HX)); simp only [Act.put, k_a, k_b, k_c]))
  have HST := Lib.hid (show PurRel w0 t S P' R rows (.slice a0 l'.length c0) l' l'.length (.int .i64 (0 : Int)) _ from ⟨0, P', by simp, rfl, fun q hq => hq, HX.out.pm 3 [1, 2, 0] rfl rfl⟩)
  clear HX
  go_loopg [15] l'.length (fun k v wr => PurRel w0 t S P' R rows (.slice a0 l'.length c0) l' k v wr)
  case atStart => exact HST.out
  case round =>
    rename World => w
    obtain ⟨i, P2, hik, rfl, hP2, hS⟩ := hrel
    clear HST
    have HX := Lib.hid hS
    have HP2 := Lib.hid hP2
    clear hS hP2
    by_cases hlt : i < l'.length
    case neg =>
      obtain rfl : i = l'.length := by omega
      clear hlt hik
      go_wp2_with (first | refine vL ?_ | refine vM ?_ | (refine vS ?_; clear HX; intro w HX) | (refine vA ?_; clear HX; (first | (have hq := b; clear hq; intro w b2 HX) | intro w b HX)) | ((first | (refine sWN ?_; clear HX; intro w mm HX) | (refine sWP ?_; clear HX; intro w av nv cv HX)); simp only [Act.put, k_a, k_b, k_c]))
      go_ret
      have h1 := HX.out.up2
      rw [List.take_length] at h1
      exact ⟨l', HPU.out.1, HPU.out.2.1, _, P2, rfl, fun q hq => HP2.out q (HP.out q hq), h1⟩
    case pos =>
      obtain ⟨y, hy, hs, -⟩ := HX.out.up2.rowCell (i := i) (x := sv l'[i]) (by simp [hlt])
      obtain ⟨g, off, sp⟩ := y
      simp only at hs
      subst hs hy
      obtain ⟨D, hD⟩ := HX.out.up2.fst
      obtain ⟨E, hE, -⟩ := OwnRow.read hD
      have hl := row_load1 (P := Tryz.prog) (ty := 9) (i := i) (v := sv l'[i]) hE (by kernel_rfl) (by simp [hlt])
      have HTK := Lib.hid (purT_take (S := S) hlt)
      have HBI := Lib.hid (purT_b (l'.take i) HB.out.1)
      have hps := HPU.out.2.2 _ (List.getElem_mem hlt)
      obtain ⟨p, hp⟩ : ∃ p, l'[i] = p := ⟨_, rfl⟩
      rw [hp] at hl HTK hps
      have q0 : decide (i < l'.length) = true := decide_eq_true hlt
      have HPS := Lib.hid hps
      unfold sv at hl
      clear hD hE hp hps
      go_wp2_with (first | refine vL ?_ | refine vM ?_ | (refine vS ?_; clear HX; intro w HX) | (refine vA ?_; clear HX; (first | (have hq := b; clear hq; intro w b2 HX) | intro w b HX)) | ((first | (refine sWN ?_; clear HX; intro w mm HX) | (refine sWP ?_; clear HX; intro w av nv cv HX)); simp only [Act.put, k_a, k_b, k_c]) | ((with_reducible apply sx_loadAt hl); (· rfl); (· rfl); simp only [Act.put, k_a, k_b, k_c]))
      refine (treeRemove_any HX.out hd ⟨p.toArray⟩ (by show p.toArray.size ≤ _; rw [List.size_toArray]; have := HPS.out; omega) (HBI.out.ok HB.out.2)).mono ?_
      rintro e w ⟨rfl, P3, hP3, hx⟩
      clear HX hl
      have HX := Lib.hid hx
      have HP3 := Lib.hid hP3
      clear hx hP3
      go_wp2_with (first | refine vL ?_ | refine vM ?_ | (refine vS ?_; clear HX; intro w HX) | (refine vA ?_; clear HX; (first | (have hq := b; clear hq; intro w b2 HX) | intro w b HX)) | ((first | (refine sWN ?_; clear HX; intro w mm HX) | (refine sWP ?_; clear HX; intro w av nv cv HX)); simp only [Act.put, k_a, k_b, k_c]))
      go_roundg (l'.length - (i + 1))
      case rel => exact ⟨i + 1, P3, by omega, by go_num, fun q hq => HP3.out q (HP2.out q hq), by rw [HTK.out]; exact HX.out⟩
      case measure => omega
end
end Go.Proofs.YtbakgoncfggidaaGreatDoor

namespace Go.Av
open Go.RowKit
structure WaitS where
  sess : Int
  ops : List OpS
  close : Bool
  fails : Bool
abbrev HeldL := List (Bs × Int)
abbrev WaitL := List (Int × WaitS)
structure PartS where
  t : TreeS
  held : HeldL
  zxid : Int
  wait : WaitL
  decided : List Int
  closed : List Int
def createsS (l : List OpS) : Nat := (l.filter fun o => o.kind == 1).length
def firstC (l : List OpS) : Nat := if createsS l = 0 then 0 else l.findIdx fun o => o.kind == 1
def wantedW (W : WaitL) : Nat := (W.map fun e => if e.2.fails then 0 else createsS e.2.ops).sum
def wantsS (o : OpS) : List Bs := match parentP o.p with
  | none => [o.p]
  | some up => if o.kind == 1 && seqF o.flags then [o.p, up] else [o.p]
def nearS (p q : Bs) : Bool := decide (q = p) || (decide (q = (parentP p).getD []) || decide (parentP q = some p))
def blocksS (H : HeldL) (who : Int) (p : Bs) : Bool := goodP p && H.any fun e => e.2 != who && nearS p e.1
def setH (H : HeldL) (p : Bs) (who : Int) : HeldL := if (H.any fun e => decide (e.1 = p)) then H.map (fun e => if e.1 = p then (p, who) else e) else H ++ [(p, who)]
def wrongH (H : HeldL) (who : Int) (ps : List Bs) : Option Bs := match ps.find? (fun p => !goodP p) with
  | some p => some p
  | none => ps.find? fun p => blocksS H who p
def takeH (H : HeldL) (who : Int) (ps : List Bs) : HeldL := if (wrongH H who ps).isSome then H else ps.foldl (fun H p => setH H p who) H
def freeH (H : HeldL) (who : Int) : HeldL := H.filter fun e => e.2 != who
def closingW (W : WaitL) (sess : Int) : Bool := W.any fun e => e.2.close && e.2.sess == sess
def usesW (W : WaitL) (sess : Int) : Bool := W.any fun e => e.2.sess == sess
def blockAt (H : HeldL) (id : Int) (ops : List OpS) : Option Nat := ops.findIdx? fun o => (wantsS o).any fun p => blocksS H id p
def busyS (S : PartS) (id sess : Int) (ops : List OpS) : Int × Int :=
  if sess ∈ S.closed then (11, -1)
  else if closingW S.wait sess = true then (12, -1)
  else match blockAt S.held id ops with
    | some i => (12, i)
    | none => if 0 < createsS ops ∧ 0 < wantedW S.wait ∧ S.t.room < wantedW S.wait + S.t.l.length + createsS ops then (12, firstC ops) else (0, -1)
def localS (S : PartS) (sess num : Int) (ops : List OpS) : ReplyS × PartS :=
  if mayS sess num ops ≠ 0 then (failR num (mayS sess num ops) (-1) 0, S)
  else if (busyS S 0 sess ops).1 ≠ 0 then ({ failR num (busyS S 0 sess ops).1 (busyS S 0 sess ops).2 ops.length with zxid := S.zxid + 1 }, { S with zxid := S.zxid + 1 })
  else ((requestT S.t sess num (S.zxid + 1) ops).1, { S with zxid := S.zxid + 1, t := (requestT S.t sess num (S.zxid + 1) ops).2 })
def hasW (W : WaitL) (id : Int) : Bool := W.any fun e => e.1 == id
def knownS (S : PartS) (id sess : Int) : Bool := decide (id < 1) || (decide (sess < 1) || (hasW S.wait id || decide (id ∈ S.decided)))
def takeOps (H : HeldL) (id : Int) (ops : List OpS) : HeldL := ops.foldl (fun H o => takeH H id (wantsS o)) H
def prepS (S : PartS) (id sess : Int) (ops : List OpS) : (Int × Int) × PartS :=
  if knownS S id sess = true then ((1, -1), S)
  else if mayS sess 1 ops ≠ 0 then ((mayS sess 1 ops, -1), S)
  else if (busyS S id sess ops).1 ≠ 0 then (busyS S id sess ops, S)
  else (if (manyT S.t sess S.zxid ops).2.2 = true then (0, -1) else ((manyT S.t sess S.zxid ops).1.err, (manyT S.t sess S.zxid ops).1.at_),
    { S with held := takeOps S.held id ops, wait := S.wait ++ [(id, ⟨sess, ops, false, !(manyT S.t sess S.zxid ops).2.2⟩)] })
def closeS (S : PartS) (id sess : Int) : Int × PartS :=
  if knownS S id sess = true then (1, S)
  else if sess ∈ S.closed then (11, S)
  else if usesW S.wait sess = true then (12, S)
  else if (wrongH S.held id (ofT S.t sess)).isSome = true then (12, S)
  else (0, { S with held := takeH S.held id (ofT S.t sess), wait := S.wait ++ [(id, ⟨sess, [], true, false⟩)] })
def lookW (W : WaitL) (id : Int) : Option WaitS := (W.find? fun e => e.1 == id).map (·.2)
def delW (W : WaitL) (id : Int) : WaitL := W.filter fun e => e.1 != id
def decideS (S : PartS) (id : Int) (commit : Bool) : (List ResS × Int) × PartS := match lookW S.wait id with
  | none => (([], 4), S)
  | some x =>
    if (!commit || x.fails) = true then (([], 0), { S with zxid := S.zxid + 1, held := freeH S.held id, wait := delW S.wait id, decided := S.decided ++ [id] })
    else if x.close = true then (([], 0), { S with zxid := S.zxid + 1, held := freeH S.held id, wait := delW S.wait id, decided := S.decided ++ [id], t := purT (purgeS (ofT S.t x.sess)) S.t, closed := if x.sess ∈ S.closed then S.closed else S.closed ++ [x.sess] })
    else (((manyT S.t x.sess (S.zxid + 1) x.ops).1.rs, 0), { S with zxid := S.zxid + 1, held := freeH S.held id, wait := delW S.wait id, decided := S.decided ++ [id], t := (manyT S.t x.sess (S.zxid + 1) x.ops).2.1 })
end Go.Av

namespace Go.Av
theorem beq_dec (a b : Bs) : (a == b) = decide (a = b) := by
  by_cases h : a = b
  · subst h; simp
  · rw [decide_eq_false h, beq_eq_false_iff_ne]; exact h
end Go.Av
namespace Go.Proofs.YtbakgoncfggidaaGreatDoor
open Go.RowKit Go.Av
def hkv (e : Bs × Int) : Value × Value := (sv e.1, .int .i64 e.2)
def LkO (l : Nat) (H : HeldL) (L : List Thing) : Prop := ∃ m, L = [ThCell l (.cells #[.map (some m)] 232 (0, 0)), ThMap .string m (H.map hkv)]
def ThLk (l : Nat) (H : HeldL) : Thing := Bun (LkO l H)
section
variable {w0 w : World} {l : Nat} {H : HeldL} {R : List Thing} {rows : List (Value × Bs)}
theorem lk_open (h : Sep w0 w (ThLk l H :: R) rows) : ∃ m, Sep w0 w (ThCell l (.cells #[.map (some m)] 232 (0, 0)) :: ThMap .string m (H.map hkv) :: R) rows := by
  obtain ⟨L, ⟨m, rfl⟩, hS⟩ := h.opens
  exact ⟨m, hS⟩
theorem lk_shut {m : Nat} (h : Sep w0 w (ThCell l (.cells #[.map (some m)] 232 (0, 0)) :: ThMap .string m (H.map hkv) :: R) rows) : Sep w0 w (ThLk l H :: R) rows :=
  Sep.shut (O := LkO l H) ⟨m, rfl⟩ h
def BlkRel (w0 : World) (l m r : Nat) (H : HeldL) (R : List Thing) (rows : List (Value × Bs)) (f : Bs × Int → Bool) (k : Nat) (w : World) : Prop :=
  ∃ left : HeldL, left.length = k ∧ (∀ e ∈ left, e ∈ H) ∧ (∀ e ∈ H, e ∈ left ∨ f e = false) ∧ Sep w0 w (ThIter .string m r (H.map hkv) (left.map hkv) :: ThCell l (.cells #[.map (some m)] 232 (0, 0)) :: R) rows
set_option maxRecDepth 100000 in
set_option maxHeartbeats 8000000 in
theorem blocks_any (h : Sep w0 w (ThLk l H :: R) rows) (hd : DoorN w0) (who : Int) (p : ByteArray) (hp : p.size ≤ 100000) (hH : ∀ e ∈ H, e.1.length ≤ 100000) :
    Calls Tryz.prog 150 #[.pointer (some ⟨l, 0, none⟩), .int .i64 who, .string p] w fun e w' => e = .returned (.bool (blocksS H who p.data.toList)) ∧ Sep w0 w' (ThLk l H :: R) rows := by
  have HX := Lib.hid h
  have HH := Lib.hid hH
  clear h hH
  obtain ⟨res, hres⟩ : ∃ res, blocksS H who p.data.toList = res := ⟨_, rfl⟩
  rw [hres]
  have HRES := Lib.hid hres
  clear hres
  go_enter Tryz.func150, Tryz.ntmps150
  go_wp2_with (first | go_skip | refine uK ?_ | refine uL ?_ | refine uM ?_ | (refine uS ?_; clear HX; intro w HX) | (refine uA ?_; clear HX; (first | (have hq := b; clear hq; intro w b2 HX) | intro w b HX)) | (refine tWN ?_; clear HX; intro w mm HX; simp only [Act.put, k_a, k_b, k_c]) | (refine tWP ?_; clear HX; intro w av nv cv HX; simp only [Act.put, k_a, k_b, k_c]))
  refine (good_any p _ (hd.sep HX.out).1 (by unfold maxLen; omega)).mono ?_
  obtain ⟨g, hg⟩ : ∃ g, goodP p.data.toList = g := ⟨_, rfl⟩
  rw [hg]
  rintro e w1 ⟨rfl, hu⟩
  replace HX := Lib.hid (HX.out.keep hu)
  clear hu
  cases g with
  | false =>
    obtain rfl : res = false := by rw [← HRES.out]; unfold blocksS; rw [hg]; rfl
    clear hg HRES
    go_wp2_with (first | go_skip | refine uK ?_ | refine uL ?_ | refine uM ?_ | (refine uS ?_; clear HX; intro w HX) | (refine uA ?_; clear HX; (first | (have hq := b; clear hq; intro w b2 HX) | intro w b HX)) | (refine tWN ?_; clear HX; intro w mm HX; simp only [Act.put, k_a, k_b, k_c]) | (refine tWP ?_; clear HX; intro w av nv cv HX; simp only [Act.put, k_a, k_b, k_c]))
    go_ret
    exact ⟨rfl, HX.out⟩
  | true =>
    have HR0 := Lib.hid (show res = H.any fun e => e.2 != who && nearS p.data.toList e.1 by rw [← HRES.out]; unfold blocksS; rw [hg]; rfl)
    clear hg HRES
    go_wp2_with (first | go_skip | refine uK ?_ | refine uL ?_ | refine uM ?_ | (refine uS ?_; clear HX; intro w HX) | (refine uA ?_; clear HX; (first | (have hq := b; clear hq; intro w b2 HX) | intro w b HX)) | (refine tWN ?_; clear HX; intro w mm HX; simp only [Act.put, k_a, k_b, k_c]) | (refine tWP ?_; clear HX; intro w av nv cv HX; simp only [Act.put, k_a, k_b, k_c]))
    refine (parent_any p _ (hd.sep HX.out).1 (by unfold maxLen; omega)).mono ?_
    obtain ⟨pp, hpp⟩ : ∃ pp, parentP p.data.toList = pp := ⟨_, rfl⟩
    rw [hpp]
    rintro e w1 ⟨rfl, hu⟩
    replace HX := Lib.hid (HX.out.keep hu)
    have HPP := Lib.hid hpp
    clear hu hpp
    obtain ⟨up, hup⟩ : ∃ up : ByteArray, up = ⟨(pp.getD []).toArray⟩ := ⟨_, rfl⟩
    have hupv : sv (pp.getD []) = .string up := by rw [hup]; rfl
    obtain ⟨zz, hzz⟩ : ∃ zz, pp.isSome = zz := ⟨_, rfl⟩
    rw [hupv, hzz]
    have HUP := Lib.hid (show up.data.toList = pp.getD [] by rw [hup])
    clear hup hupv hzz
    obtain ⟨m, hS⟩ := lk_open HX.out
    clear HX
    have HX := Lib.hid hS
    clear hS
    go_upto_region 4 with (first | go_skip | refine uK ?_ | refine uL ?_ | refine uM ?_ | (refine uS ?_; clear HX; intro w HX) | (refine uA ?_; clear HX; (first | (have hq := b; clear hq; intro w b2 HX) | intro w b HX)) | (refine tWN ?_; clear HX; intro w mm HX; simp only [Act.put, k_a, k_b, k_c]) | (refine tWP ?_; clear HX; intro w av nv cv HX; simp only [Act.put, k_a, k_b, k_c]))
    obtain ⟨r, w9, hrun, h9⟩ := it_start (P := Tryz.prog) HX.out.up1 Tryz.underlying230
    have HST := Lib.hid (show BlkRel w0 l m r H R rows (fun e => e.2 != who && nearS p.data.toList e.1) H.length w9 from ⟨H, rfl, fun _ h => h, fun e he => .inl he, h9⟩)
    go_wp2_with (first | go_skip | refine uK ?_ | refine uL ?_ | refine uM ?_ | (refine uS ?_; clear HX; intro w HX) | (refine uA ?_; clear HX; (first | (have hq := b; clear hq; intro w b2 HX) | intro w b HX)) | (refine tWN ?_; clear HX; intro w mm HX; simp only [Act.put, k_a, k_b, k_c]) | (refine tWP ?_; clear HX; intro w av nv cv HX; simp only [Act.put, k_a, k_b, k_c]))
    clear HX hrun h9
    go_loopg [9, 10, 11, 12] H.length (fun k _ _ _ _ wr => BlkRel w0 l m r H R rows (fun e => e.2 != who && nearS p.data.toList e.1) k wr)
    case atStart => exact HST.out
    case round =>
      obtain ⟨left, hk, hin, hall, hS⟩ := hrel
      clear HST
      rcases it_next (P := Tryz.prog) hkv hS with ⟨rfl, hn⟩ | ⟨l1, ge, l2, w1, rfl, hn, h1, hen⟩
      · have HX := Lib.hid hS
        obtain rfl : res = false := by
          rw [HR0.out, List.any_eq_false]
          intro e he
          rcases hall e he with h | h
          · cases h
          · exact fun hh => by have h' : (e.2 != who && nearS p.data.toList e.1) = false := h; rw [h'] at hh; cases hh
        clear hS hk hin hall
        go_wp2_with (first | go_skip | refine uK ?_ | refine uL ?_ | refine uM ?_ | (refine uS ?_; clear HX; intro w HX) | (refine uA ?_; clear HX; (first | (have hq := b; clear hq; intro w b2 HX) | intro w b HX)) | (refine tWN ?_; clear HX; intro w mm HX; simp only [Act.put, k_a, k_b, k_c]) | (refine tWP ?_; clear HX; intro w av nv cv HX; simp only [Act.put, k_a, k_b, k_c]))
        go_ret
        exact ⟨rfl, lk_shut (it_end HX.out).up1⟩
      · have HX := Lib.hid h1
        have hge := hin ge (by simp)
        have HGE := Lib.hid (HH.out ge hge)
        have HR := Lib.hid (show (ge.2 != who && nearS p.data.toList ge.1) = true → true = res from fun hf => by rw [HR0.out]; exact (List.any_eq_true.2 ⟨ge, hge, hf⟩).symm)
        have HF := Lib.hid (show _ ∧ _ ∧ _ from ⟨hk, hin, hall⟩)
        clear hS h1 hk hin hall hge
        obtain ⟨q, x⟩ := ge
        dsimp only [hkv] at hn hen HGE HR HX
        obtain ⟨qs, hqs⟩ : ∃ qs : ByteArray, qs = ⟨q.toArray⟩ := ⟨_, rfl⟩
        have hqv : sv q = .string qs := by rw [hqs]; rfl
        have HQ := Lib.hid (show qs.data.toList = q by rw [hqs])
        rw [hqv] at hn hen
        clear hqs hqv
        by_cases hx : x = who
        · have q1 : (x == who) = true := by rw [hx]; exact beq_self_eq_true _
          have HFE := Lib.hid (show (x != who && nearS p.data.toList q) = false by rw [hx]; simp)
          clear hx HR
          go_wp2_with (first | go_skip | refine uK ?_ | refine uL ?_ | refine uM ?_ | (refine uS ?_; clear HX; intro w HX) | (refine uA ?_; clear HX; (first | (have hq := b; clear hq; intro w b2 HX) | intro w b HX)) | (refine tWN ?_; clear HX; intro w mm HX; simp only [Act.put, k_a, k_b, k_c]) | (refine tWP ?_; clear HX; intro w av nv cv HX; simp only [Act.put, k_a, k_b, k_c]))
          go_roundg (l1 ++ l2).length
          case rel =>
            obtain ⟨hk, hin, hall⟩ := HF.out
            refine ⟨l1 ++ l2, rfl, fun x hx => hin x ?_, fun x hx => ?_, HX.out⟩
            · rcases List.mem_append.1 hx with h | h <;> simp [h]
            · rcases hall x hx with h | h
              · rcases List.mem_append.1 h with h | h
                · exact .inl (List.mem_append_left _ h)
                · rcases List.mem_cons.1 h with rfl | h
                  · exact .inr HFE.out
                  · exact .inl (List.mem_append_right _ h)
              · exact .inr h
          case measure =>
            obtain ⟨hk, hin, hall⟩ := HF.out
            simp at hk ⊢; omega
        · have q1 : (x == who) = false := by rw [beq_eq_false_iff_ne]; exact hx
          have HXW := Lib.hid (show (x != who) = true by rw [bne_iff_ne]; exact hx)
          clear hx
          go_wp2_with (first | go_skip | refine uK ?_ | refine uL ?_ | refine uM ?_ | (refine uS ?_; clear HX; intro w HX) | (refine uA ?_; clear HX; (first | (have hq := b; clear hq; intro w b2 HX) | intro w b HX)) | (refine tWN ?_; clear HX; intro w mm HX; simp only [Act.put, k_a, k_b, k_c]) | (refine tWP ?_; clear HX; intro w av nv cv HX; simp only [Act.put, k_a, k_b, k_c]))
          refine (parent_any qs _ (hd.sep HX.out).1 (by rw [show qs.size = qs.data.toList.length by simp, HQ.out]; unfold maxLen; have := HGE.out; omega)).mono ?_
          rw [HQ.out]
          obtain ⟨z1, hz1⟩ : ∃ z, (qs.toList == p.toList) = z := ⟨_, rfl⟩
          obtain ⟨z2, hz2⟩ : ∃ z, (qs.toList == up.toList) = z := ⟨_, rfl⟩
          have e1 : decide (q = p.data.toList) = z1 := by rw [← hz1, strK_eq, HQ.out]; exact (beq_dec ..).symm
          have e2 : decide (q = (parentP p.data.toList).getD []) = z2 := by rw [← hz2, strK_eq, HQ.out, HUP.out, HPP.out]; exact (beq_dec ..).symm
          have HNR := Lib.hid (show nearS p.data.toList q = (z1 || (z2 || decide (parentP q = some p.data.toList))) by unfold nearS; rw [e1, e2])
          clear e1 e2
          cases hpq : parentP q with
          | none =>
            rintro e w1 ⟨rfl, hu⟩
            replace HX := Lib.hid (HX.out.keep hu)
            have HPQ := Lib.hid hpq
            clear hu hpq
            dsimp only [Option.isSome, Option.getD]
            unfold sv
            cases z1 with
            | true =>
              have HFE := Lib.hid (show (x != who && nearS p.data.toList q) = true by rw [HXW.out, HNR.out]; rfl)
              obtain rfl : res = true := (HR.out HFE.out).symm
              go_wp2_with (first | go_skip | refine uK ?_ | refine uL ?_ | refine uM ?_ | (refine uS ?_; clear HX; intro w HX) | (refine uA ?_; clear HX; (first | (have hq := b; clear hq; intro w b2 HX) | intro w b HX)) | (refine tWN ?_; clear HX; intro w mm HX; simp only [Act.put, k_a, k_b, k_c]) | (refine tWP ?_; clear HX; intro w av nv cv HX; simp only [Act.put, k_a, k_b, k_c]))
              go_ret
              exact ⟨rfl, lk_shut (it_end HX.out).up1⟩
            | false =>
              cases z2 with
              | true =>
                have HFE := Lib.hid (show (x != who && nearS p.data.toList q) = true by rw [HXW.out, HNR.out]; rfl)
                obtain rfl : res = true := (HR.out HFE.out).symm
                go_wp2_with (first | go_skip | refine uK ?_ | refine uL ?_ | refine uM ?_ | (refine uS ?_; clear HX; intro w HX) | (refine uA ?_; clear HX; (first | (have hq := b; clear hq; intro w b2 HX) | intro w b HX)) | (refine tWN ?_; clear HX; intro w mm HX; simp only [Act.put, k_a, k_b, k_c]) | (refine tWP ?_; clear HX; intro w av nv cv HX; simp only [Act.put, k_a, k_b, k_c]))
                go_ret
                exact ⟨rfl, lk_shut (it_end HX.out).up1⟩
              | false =>
                have HFE := Lib.hid (show (x != who && nearS p.data.toList q) = false by rw [HXW.out, HNR.out, HPQ.out]; rfl)
                go_wp2_with (first | go_skip | refine uK ?_ | refine uL ?_ | refine uM ?_ | (refine uS ?_; clear HX; intro w HX) | (refine uA ?_; clear HX; (first | (have hq := b; clear hq; intro w b2 HX) | intro w b HX)) | (refine tWN ?_; clear HX; intro w mm HX; simp only [Act.put, k_a, k_b, k_c]) | (refine tWP ?_; clear HX; intro w av nv cv HX; simp only [Act.put, k_a, k_b, k_c]))
                go_roundg (l1 ++ l2).length
                case rel =>
                  obtain ⟨hk, hin, hall⟩ := HF.out
                  refine ⟨l1 ++ l2, rfl, fun x hx => hin x ?_, fun x hx => ?_, HX.out⟩
                  · rcases List.mem_append.1 hx with h | h <;> simp [h]
                  · rcases hall x hx with h | h
                    · rcases List.mem_append.1 h with h | h
                      · exact .inl (List.mem_append_left _ h)
                      · rcases List.mem_cons.1 h with rfl | h
                        · exact .inr HFE.out
                        · exact .inl (List.mem_append_right _ h)
                    · exact .inr h
                case measure =>
                  obtain ⟨hk, hin, hall⟩ := HF.out
                  simp at hk ⊢; omega
          | some u =>
            rintro e w1 ⟨rfl, hu⟩
            replace HX := Lib.hid (HX.out.keep hu)
            have HPQ := Lib.hid hpq
            clear hu hpq
            dsimp only [Option.isSome, Option.getD]
            unfold sv
            obtain ⟨us, hus⟩ : ∃ us : ByteArray, us = ⟨u.toArray⟩ := ⟨_, rfl⟩
            have HU := Lib.hid (show us.data.toList = u by rw [hus])
            rw [← hus]
            clear hus
            obtain ⟨z4, hz4⟩ : ∃ z, (us.toList == p.toList) = z := ⟨_, rfl⟩
            have e4 : decide (some u = some p.data.toList) = z4 := by rw [← hz4, strK_eq, HU.out]; exact (by rw [beq_dec]; exact decide_eq_decide.2 ⟨fun h => Option.some.inj h, fun h => congrArg some h⟩)
            have HN4 := Lib.hid (show nearS p.data.toList q = (z1 || (z2 || z4)) by rw [HNR.out, HPQ.out, e4])
            clear e4
            cases z1 with
            | true =>
              have HFE := Lib.hid (show (x != who && nearS p.data.toList q) = true by rw [HXW.out, HN4.out]; rfl)
              obtain rfl : res = true := (HR.out HFE.out).symm
              go_wp2_with (first | go_skip | refine uK ?_ | refine uL ?_ | refine uM ?_ | (refine uS ?_; clear HX; intro w HX) | (refine uA ?_; clear HX; (first | (have hq := b; clear hq; intro w b2 HX) | intro w b HX)) | (refine tWN ?_; clear HX; intro w mm HX; simp only [Act.put, k_a, k_b, k_c]) | (refine tWP ?_; clear HX; intro w av nv cv HX; simp only [Act.put, k_a, k_b, k_c]))
              go_ret
              exact ⟨rfl, lk_shut (it_end HX.out).up1⟩
            | false =>
              cases z2 with
              | true =>
                have HFE := Lib.hid (show (x != who && nearS p.data.toList q) = true by rw [HXW.out, HN4.out]; rfl)
                obtain rfl : res = true := (HR.out HFE.out).symm
                go_wp2_with (first | go_skip | refine uK ?_ | refine uL ?_ | refine uM ?_ | (refine uS ?_; clear HX; intro w HX) | (refine uA ?_; clear HX; (first | (have hq := b; clear hq; intro w b2 HX) | intro w b HX)) | (refine tWN ?_; clear HX; intro w mm HX; simp only [Act.put, k_a, k_b, k_c]) | (refine tWP ?_; clear HX; intro w av nv cv HX; simp only [Act.put, k_a, k_b, k_c]))
                go_ret
                exact ⟨rfl, lk_shut (it_end HX.out).up1⟩
              | false =>
                cases z4 with
                | true =>
                  have HFE := Lib.hid (show (x != who && nearS p.data.toList q) = true by rw [HXW.out, HN4.out]; rfl)
                  obtain rfl : res = true := (HR.out HFE.out).symm
                  go_wp2_with (first | go_skip | refine uK ?_ | refine uL ?_ | refine uM ?_ | (refine uS ?_; clear HX; intro w HX) | (refine uA ?_; clear HX; (first | (have hq := b; clear hq; intro w b2 HX) | intro w b HX)) | (refine tWN ?_; clear HX; intro w mm HX; simp only [Act.put, k_a, k_b, k_c]) | (refine tWP ?_; clear HX; intro w av nv cv HX; simp only [Act.put, k_a, k_b, k_c]))
                  go_ret
                  exact ⟨rfl, lk_shut (it_end HX.out).up1⟩
                | false =>
                  have HFE := Lib.hid (show (x != who && nearS p.data.toList q) = false by rw [HXW.out, HN4.out]; rfl)
                  go_wp2_with (first | go_skip | refine uK ?_ | refine uL ?_ | refine uM ?_ | (refine uS ?_; clear HX; intro w HX) | (refine uA ?_; clear HX; (first | (have hq := b; clear hq; intro w b2 HX) | intro w b HX)) | (refine tWN ?_; clear HX; intro w mm HX; simp only [Act.put, k_a, k_b, k_c]) | (refine tWP ?_; clear HX; intro w av nv cv HX; simp only [Act.put, k_a, k_b, k_c]))
                  go_roundg (l1 ++ l2).length
                  case rel =>
                    obtain ⟨hk, hin, hall⟩ := HF.out
                    refine ⟨l1 ++ l2, rfl, fun x hx => hin x ?_, fun x hx => ?_, HX.out⟩
                    · rcases List.mem_append.1 hx with h | h <;> simp [h]
                    · rcases hall x hx with h | h
                      · rcases List.mem_append.1 h with h | h
                        · exact .inl (List.mem_append_left _ h)
                        · rcases List.mem_cons.1 h with rfl | h
                          · exact .inr HFE.out
                          · exact .inl (List.mem_append_right _ h)
                      · exact .inr h
                  case measure =>
                    obtain ⟨hk, hin, hall⟩ := HF.out
                    simp at hk ⊢; omega
end
end Go.Proofs.YtbakgoncfggidaaGreatDoor

namespace Go.Av
open Go.RowKit Go.MapKept Go.ChangeMaps
section
variable {P : Program} {w w0 : World} {d : TypeDesc} {m r : Nat} {t k e : TypeId} {R : List Thing} {rows : List (Value × Bs)}
theorem mp_rangeDel {l1 l2 left : List (Value × Value)} {key v0 : Value} (h : RangeIs w d m r (l1 ++ (key, v0) :: l2) left) (hne : m ≠ r) (hk : MapKept.IsKey d key) (hl : ∀ p ∈ left, p.1 ≠ key) (ht : P.underlying t = some (.map k e)) (hd : P.underlying k = some d) (tk ty : TypeId) :
    ∃ w', (Builtin.delete_ #[t, tk] ty #[.map (some m), key]).run P w = .ok (.tuple #[]) w' ∧ RangeIs w' d m r (l1 ++ l2) left ∧ Upd w w' [m] [m] := by
  obtain ⟨es, clock, seen, a1, a2, a3, a4, a5, a6⟩ := h
  have hM : MapIs w d m (l1 ++ (key, v0) :: l2) := ⟨es, clock, a1, a2, a3, a4⟩
  have hnd := hM.nodup
  rcases MapKept.findNow_spec hk es.toList 0 a3 with ⟨b1, b2⟩ | ⟨j, e', b1, b2, b3⟩
  · exfalso
    have hm : (key, v0) ∈ es.toList.map kv := by rw [a4]; simp
    obtain ⟨e', he', heq⟩ := List.mem_map.1 hm
    exact b2 e' he' (congrArg Prod.fst heq)
  · have hjs : j < es.size := by
      have := (List.getElem?_eq_some_iff.1 b2).1
      simpa using this
    have hlist : (es.eraseIdxIfInBounds j).toList = es.toList.take j ++ es.toList.drop (j + 1) := by
      rw [Array.eraseIdxIfInBounds, dif_pos hjs, Array.toList_eraseIdx, eraseIdx_at b2]
    refine ⟨setBlock w m (.map (es.eraseIdxIfInBounds j) clock), ?_, ⟨_, clock, seen, (heap_set a1).1, MapKept.stamped_erase a2 _, ?_, ?_, ?_, ?_⟩, upd_setBlock w m _ _ a1⟩
    · simp [Builtin.delete_, run_underlying ht, MapKept.run_getObj_map a1, MapKept.run_checkKey hd hk, MapKept.run_findKey hd b1, MapKept.run_setObj_map _ a1, Result.andThen, setBlock]
    · intro x hx
      rw [hlist] at hx
      refine a3 x ?_
      rcases List.mem_append.1 hx with hx | hx
      · exact List.mem_of_mem_take hx
      · exact List.mem_of_mem_drop hx
    · have hs := split_at b2
      have hsp : l1 ++ (key, v0) :: l2 = (es.toList.take j).map kv ++ (key, e'.val) :: (es.toList.drop (j + 1)).map kv := by
        rw [← a4]
        conv => lhs; rw [hs]
        simp [kv, b3]
      obtain ⟨r1, _, r3⟩ := parts_eq hnd hsp
      rw [hlist, List.map_append, r1, r3]
    · exact ((heap_set a1).2 _ (Ne.symm hne)).trans a5
    · rw [← a6]
      have hsee : seen.contains e'.born = true := by
        cases hc : seen.contains e'.born with
        | true => rfl
        | false =>
          exfalso
          refine hl (kv e') ?_ b3
          rw [← a6]
          refine List.mem_map.2 ⟨e', ?_, rfl⟩
          simp only [leftOf, Array.toList_filter, List.mem_filter]
          exact ⟨List.mem_of_getElem? b2, by rw [hc]; rfl⟩
      simp only [leftOf, Array.toList_filter]
      rw [hlist]
      conv => rhs; rw [split_at b2]
      rw [List.filter_append, List.filter_append, List.filter_cons, hsee]
      rfl
theorem it_del {l1 l2 left : List (Value × Value)} {key v0 : Value} (h : Sep w0 w (ThIter d m r (l1 ++ (key, v0) :: l2) left :: R) rows) (hk : MapKept.IsKey d key) (hl : ∀ p ∈ left, p.1 ≠ key) (ht : P.underlying t = some (.map k e)) (hd : P.underlying k = some d) :
    ∃ w', (∀ tk ty, (Builtin.delete_ #[t, tk] ty #[.map (some m), key]).run P w = .ok (.tuple #[]) w') ∧ Sep w0 w' (ThIter d m r (l1 ++ l2) left :: R) rows := by
  obtain ⟨D, hP, _, back⟩ := h.use
  obtain ⟨hR, hne, rfl⟩ := hP
  obtain ⟨w', hrun, hR', hU⟩ := mp_rangeDel (P := P) hR hne hk hl ht hd 0 0
  exact ⟨w', fun _ _ => hrun, back w' [m, r] (ThIter d m r (l1 ++ l2) left) (hU.mono (fun b hb => by simp at hb; simp [hb]) (fun b hb => .inr hb)) ⟨hR', hne, rfl⟩⟩
theorem Sep.mapOld {l1 l2 : List (Value × Value)} {key v0 v : Value} (h : Sep w0 w (ThMap d m (l1 ++ (key, v0) :: l2) :: R) rows) (ht : P.underlying t = some (.map k e)) (hd : P.underlying k = some d) (hk : MapKept.IsKey d key) :
    ∃ w', (Instr.mapUpdate t (.map (some m)) key v).run P w = .ok () w' ∧ Sep w0 w' (ThMap d m (l1 ++ (key, v) :: l2) :: R) rows := by
  obtain ⟨w', hrun, hM, hU⟩ := mp_old (P := P) (v := v) h.mapIs ht hd hk
  exact ⟨w', hrun, h.mapTo hU hM⟩
end
theorem find_at {α : Type} {f : α → Bool} {l : List α} {i : Nat} (hi : i < l.length) (h : ∀ x ∈ l.take i, f x = false) (hf : f l[i] = true) : l.find? f = some l[i] := by
  have hs : l = l.take i ++ l[i] :: l.drop (i + 1) := by rw [← List.drop_eq_getElem_cons hi, List.take_append_drop]
  obtain ⟨o, ho⟩ : ∃ o, l[i] = o := ⟨_, rfl⟩
  rw [ho] at hf hs ⊢
  obtain ⟨T, hT⟩ : ∃ T, l.take i = T := ⟨_, rfl⟩
  obtain ⟨D, hD⟩ : ∃ D, l.drop (i + 1) = D := ⟨_, rfl⟩
  rw [hT] at h hs
  rw [hD] at hs
  rw [hs, List.find?_append, List.find?_eq_none.2 fun o ho => by simp [h o ho], List.find?_cons, hf]
  rfl
theorem filter_out {α : Type} [DecidableEq α] {f f' : α → Bool} {g : α} : ∀ {H : List α}, H.Nodup → g ∈ H → f g = true → f' g = false → (∀ x ∈ H, x ≠ g → f' x = f x) → ∃ c1 c2, H.filter f = c1 ++ g :: c2 ∧ H.filter f' = c1 ++ c2
  | [], _, h, _, _, _ => by cases h
  | y :: H, hn, hg, h1, h2, h3 => by
    rw [List.nodup_cons] at hn
    by_cases hy : y = g
    · subst hy
      refine ⟨[], H.filter f, by rw [List.filter_cons, h1]; rfl, ?_⟩
      rw [List.filter_cons, h2]
      refine List.filter_congr (fun x hx => h3 x (k_n _ hx) (fun e => hn.1 (e ▸ hx)))
    · rcases List.mem_cons.1 hg with hg | hg
      · exact absurd hg.symm hy
      obtain ⟨c1, c2, e1, e2⟩ := filter_out hn.2 hg h1 h2 (fun x hx => h3 x (k_n _ hx))
      have hf := h3 y k_s hy
      rw [List.filter_cons, List.filter_cons, hf]
      cases f y with
      | true => exact ⟨y :: c1, c2, by rw [e1]; rfl, by rw [e2]; rfl⟩
      | false => exact ⟨c1, c2, e1, e2⟩
theorem setH_old {H1 H2 : HeldL} {p : Bs} {x who : Int} (hn : ((H1 ++ (p, x) :: H2).map (·.1)).Nodup) : setH (H1 ++ (p, x) :: H2) p who = H1 ++ (p, who) :: H2 := by
  have h1 : ((H1 ++ (p, x) :: H2).any fun e => decide (e.1 = p)) = true := List.any_eq_true.2 ⟨(p, x), by simp, by simp⟩
  rw [List.map_append, List.map_cons, List.nodup_append] at hn
  obtain ⟨-, h3, h4⟩ := hn
  rw [List.nodup_cons] at h3
  unfold setH
  rw [if_pos h1, List.map_append, List.map_cons]
  have ha : ∀ L : HeldL, (∀ e ∈ L, e.1 ≠ p) → L.map (fun e => if e.1 = p then (p, who) else e) = L := fun L hL => by
    conv => rhs; rw [← List.map_id L]
    exact List.map_congr_left fun e he => by rw [if_neg (hL e he)]; rfl
  rw [ha H1 (fun e he h => h4 e.1 (List.mem_map_of_mem he) p k_s h), ha H2 (fun e he h => h3.1 (List.mem_map.2 ⟨e, he, h⟩))]
  simp
theorem setH_new {H : HeldL} {p : Bs} {who : Int} (hn : ∀ e ∈ H, e.1 ≠ p) : setH H p who = H ++ [(p, who)] := by
  unfold setH
  rw [if_neg]
  rw [List.any_eq_true]
  rintro ⟨e, he, h⟩
  exact hn e he (by simpa using h)
theorem setH_len (H : HeldL) (p : Bs) (who : Int) : (setH H p who).length ≤ H.length + 1 := by
  unfold setH
  split
  · rw [List.length_map]; omega
  · rw [List.length_append]; simp
theorem setH_keys {H : HeldL} {p : Bs} {who : Int} {e : Bs × Int} (h : e ∈ setH H p who) : e = (p, who) ∨ e ∈ H := by
  unfold setH at h
  split at h
  · obtain ⟨x, hx, rfl⟩ := List.mem_map.1 h
    by_cases hp : x.1 = p
    · rw [if_pos hp]; exact .inl rfl
    · rw [if_neg hp]; exact .inr hx
  · rcases List.mem_append.1 h with h | h
    · exact .inr h
    · exact .inl (List.mem_singleton.1 h)
end Go.Av
namespace Go.Proofs.YtbakgoncfggidaaGreatDoor
open Go.RowKit Go.Av
section
variable {w0 w : World} {l : Nat} {H : HeldL} {P P' : List PRow} {R : List Thing} {rows : List (Value × Bs)}
theorem held_nodup {d : TypeDesc} {m : Nat} (h : Sep w0 w (ThMap d m (H.map hkv) :: R) rows) : (H.map (·.1)).Nodup := by
  have h1 := h.mapIs.nodup
  rw [List.map_map] at h1
  rw [List.nodup_iff_pairwise_ne, List.pairwise_map] at h1 ⊢
  exact List.Pairwise.imp (fun hab e => hab (congrArg sv e)) h1
theorem lk_put {m : Nat} (h : Sep w0 w (ThMap .string m (H.map hkv) :: R) rows) (p : Bs) (who : Int) :
    ∃ w', (Instr.mapUpdate 230 (.map (some m)) (sv p) (.int .i64 who)).run Tryz.prog w = .ok () w' ∧ Sep w0 w' (ThMap .string m ((setH H p who).map hkv) :: R) rows := by
  by_cases hin : ∃ e ∈ H, e.1 = p
  · obtain ⟨⟨q, x⟩, he, rfl⟩ := hin
    obtain ⟨H1, H2, rfl⟩ := List.append_of_mem he
    have hn := held_nodup h
    rw [setH_old hn]
    rw [List.map_append, List.map_cons] at h ⊢
    exact Sep.mapOld (P := Tryz.prog) h Tryz.underlying230 Tryz.underlying9 trivial
  · have hn : ∀ e ∈ H, e.1 ≠ p := fun e he h => hin ⟨e, he, h⟩
    rw [setH_new hn, List.map_append]
    exact Sep.mapAdd (P := Tryz.prog) h Tryz.underlying230 Tryz.underlying9 trivial (fun q hq e => by
      obtain ⟨x, hx, rfl⟩ := List.mem_map.1 hq
      exact hn x hx (sv_inj e))
set_option maxRecDepth 100000 in
set_option maxHeartbeats 4000000 in
theorem wrong17_any (h : Sep w0 w (ThPool w0 P :: ThLk l H :: R) rows) (hd : DoorN w0) (who : Int) (ps : List Bs) (v : Value) (hv : (1, v, ps.map sv) ∈ P) (hp : ∀ p ∈ ps, p.length ≤ 100000) (hH : ∀ e ∈ H, e.1.length ≤ 100000) (hn : ps.length ≤ 100000) :
    Calls Tryz.prog 153 #[.pointer (some ⟨l, 0, none⟩), .int .i64 who, v] w fun e w' => e = .returned (.tuple #[sv ((wrongH H who ps).getD []), .bool (wrongH H who ps).isSome]) ∧ Sep w0 w' (ThPool w0 P :: ThLk l H :: R) rows := by
  obtain ⟨E, hE⟩ := h.poolGet hv
  obtain ⟨a, n, c, rfl, hl0, -, -, hne⟩ := ReadRow.some hE
  rw [List.length_map, Nat.mul_one] at hl0
  subst hl0
  have HNE := Lib.hid hne
  have HV := Lib.hid (show _ ∧ _ ∧ _ ∧ _ from ⟨hv, hp, hH, hn⟩)
  have HX := Lib.hid h
  obtain ⟨wr, hwr⟩ : ∃ wr, wrongH H who ps = wr := ⟨_, rfl⟩
  rw [hwr]
  have HWR := Lib.hid hwr
  clear h hE hne hv hp hH hwr
  go_enter Tryz.func153, Tryz.ntmps153
  go_wp2_with (first | go_skip | refine uK ?_ | refine uL ?_ | refine uM ?_ | (refine uS ?_; clear HX; intro w HX) | (refine uA ?_; clear HX; (first | (have hq := b3; clear hq; intro w b4 HX) | (have hq := b2; clear hq; intro w b3 HX) | (have hq := b; clear hq; intro w b2 HX) | intro w b HX)) | (refine tWN ?_; clear HX; intro w mm HX; simp only [Act.put, k_a, k_b, k_c]) | (refine tWP ?_; clear HX; intro w av nv cv HX; simp only [Act.put, k_a, k_b, k_c]))
  have HST := HX
  clear HX
  go_loopg [9, 14] ps.length (fun k _ v14 wr => ∃ i : Nat, i + k = ps.length ∧ v14 = .int .i64 (i : Int) ∧ (∀ p ∈ ps.take i, goodP p = true) ∧ Sep w0 wr (ThPool w0 P :: ThLk l H :: R) rows)
  case atStart => exact ⟨0, by simp, rfl, by simp, HST.out⟩
  case round =>
    rename World => w
    obtain ⟨i, hik, rfl, hgd, hS⟩ := hrel
    clear HST
    have HX := Lib.hid hS
    have HGD := Lib.hid hgd
    clear hS hgd
    by_cases hlt : i < ps.length
    case neg =>
      obtain rfl : i = ps.length := by omega
      rw [List.take_length] at HGD
      have HW2 := Lib.hid (show wr = ps.find? fun p => blocksS H who p by rw [← HWR.out]; unfold wrongH; rw [List.find?_eq_none.2 (fun p hp => by rw [HGD.out p hp]; simp)])
      clear hlt hik HWR
      go_wp2_with (first | go_skip | refine uK ?_ | refine uL ?_ | refine uM ?_ | (refine uS ?_; clear HX; intro w HX) | (refine uA ?_; clear HX; (first | (have hq := b3; clear hq; intro w b4 HX) | (have hq := b2; clear hq; intro w b3 HX) | (have hq := b; clear hq; intro w b2 HX) | intro w b HX)) | (refine tWN ?_; clear HX; intro w mm HX; simp only [Act.put, k_a, k_b, k_c]) | (refine tWP ?_; clear HX; intro w av nv cv HX; simp only [Act.put, k_a, k_b, k_c]))
      have HST := HX
      clear HX
      go_loopg [11, 25] ps.length (fun k _ v14 wr => ∃ i : Nat, i + k = ps.length ∧ v14 = .int .i64 (i : Int) ∧ (∀ p ∈ ps.take i, blocksS H who p = false) ∧ Sep w0 wr (ThPool w0 P :: ThLk l H :: R) rows)
      case atStart => exact ⟨0, by simp, rfl, by simp, HST.out⟩
      case round =>
        rename World => w
        obtain ⟨i, hik, rfl, hbl, hS⟩ := hrel
        clear HST
        have HX := Lib.hid hS
        have HBL := Lib.hid hbl
        clear hS hbl
        by_cases hlt : i < ps.length
        case neg =>
          obtain rfl : i = ps.length := by omega
          rw [List.take_length] at HBL
          obtain rfl : wr = none := by rw [HW2.out, List.find?_eq_none]; intro p hp; rw [HBL.out p hp]; exact Bool.false_ne_true
          clear hlt hik
          go_wp2_with (first | go_skip | refine uK ?_ | refine uL ?_ | refine uM ?_ | (refine uS ?_; clear HX; intro w HX) | (refine uA ?_; clear HX; (first | (have hq := b3; clear hq; intro w b4 HX) | (have hq := b2; clear hq; intro w b3 HX) | (have hq := b; clear hq; intro w b2 HX) | intro w b HX)) | (refine tWN ?_; clear HX; intro w mm HX; simp only [Act.put, k_a, k_b, k_c]) | (refine tWP ?_; clear HX; intro w av nv cv HX; simp only [Act.put, k_a, k_b, k_c]))
          go_ret2
          exact ⟨rfl, HX.out⟩
        case pos =>
          obtain ⟨g, off, rfl⟩ := HNE.out (by intro e; rw [List.map_eq_nil_iff] at e; rw [e] at hlt; simp at hlt)
          obtain ⟨E, hE⟩ := HX.out.poolGet HV.out.1
          have hl := row_load1 (P := Tryz.prog) (ty := 9) (i := i) (v := sv ps[i]) hE (by kernel_rfl) (by simp [hlt])
          have HTK := Lib.hid (show ps.take (i + 1) = ps.take i ++ [ps[i]] from List.take_succ_eq_append_getElem hlt)
          have HPS := Lib.hid (HV.out.2.1 ps[i] (List.getElem_mem hlt))
          have hfd := find_at (f := fun p => blocksS H who p) hlt HBL.out
          have q0 : decide (i < ps.length) = true := decide_eq_true hlt
          obtain ⟨p, hp⟩ : ∃ p, ps[i] = p := ⟨_, rfl⟩
          rw [hp] at hl HTK HPS hfd
          have HFD := Lib.hid hfd
          unfold sv at hl
          clear hE hp hfd
          go_wp2_with (first | go_skip | refine uK ?_ | refine uL ?_ | refine uM ?_ | (refine uS ?_; clear HX; intro w HX) | (refine uA ?_; clear HX; (first | (have hq := b3; clear hq; intro w b4 HX) | (have hq := b2; clear hq; intro w b3 HX) | (have hq := b; clear hq; intro w b2 HX) | intro w b HX)) | (refine tWN ?_; clear HX; intro w mm HX; simp only [Act.put, k_a, k_b, k_c]) | (refine tWP ?_; clear HX; intro w av nv cv HX; simp only [Act.put, k_a, k_b, k_c]) | ((with_reducible apply sx_loadAt hl); (· rfl); (· rfl); simp only [Act.put, k_a, k_b, k_c]))
          refine (blocks_any HX.out.up1 hd who ⟨p.toArray⟩ (by show p.toArray.size ≤ _; rw [List.size_toArray]; exact HPS.out) HV.out.2.2.1).mono ?_
          have e1 : (⟨p.toArray⟩ : ByteArray).data.toList = p := rfl
          rw [e1]
          obtain ⟨zb, hzb⟩ : ∃ zb, blocksS H who p = zb := ⟨_, rfl⟩
          rw [hzb]
          have HZB := Lib.hid hzb
          rintro e w ⟨rfl, hx⟩
          clear HX hl e1 hzb
          have HX := Lib.hid hx.up1
          clear hx
          cases zb with
          | true =>
            obtain rfl : wr = some p := by rw [HW2.out]; exact HFD.out HZB.out
            go_wp2_with (first | go_skip | refine uK ?_ | refine uL ?_ | refine uM ?_ | (refine uS ?_; clear HX; intro w HX) | (refine uA ?_; clear HX; (first | (have hq := b3; clear hq; intro w b4 HX) | (have hq := b2; clear hq; intro w b3 HX) | (have hq := b; clear hq; intro w b2 HX) | intro w b HX)) | (refine tWN ?_; clear HX; intro w mm HX; simp only [Act.put, k_a, k_b, k_c]) | (refine tWP ?_; clear HX; intro w av nv cv HX; simp only [Act.put, k_a, k_b, k_c]))
            go_ret2
            exact ⟨rfl, HX.out⟩
          | false =>
            go_wp2_with (first | go_skip | refine uK ?_ | refine uL ?_ | refine uM ?_ | (refine uS ?_; clear HX; intro w HX) | (refine uA ?_; clear HX; (first | (have hq := b3; clear hq; intro w b4 HX) | (have hq := b2; clear hq; intro w b3 HX) | (have hq := b; clear hq; intro w b2 HX) | intro w b HX)) | (refine tWN ?_; clear HX; intro w mm HX; simp only [Act.put, k_a, k_b, k_c]) | (refine tWP ?_; clear HX; intro w av nv cv HX; simp only [Act.put, k_a, k_b, k_c]))
            go_roundg (ps.length - (i + 1))
            case rel => exact ⟨i + 1, by omega, by go_num, by
              rw [HTK.out]
              intro q hq
              rcases List.mem_append.1 hq with hq | hq
              · exact HBL.out q hq
              · rw [List.mem_singleton] at hq; rw [hq]; exact HZB.out, HX.out⟩
            case measure => omega
    case pos =>
      obtain ⟨g, off, rfl⟩ := HNE.out (by intro e; rw [List.map_eq_nil_iff] at e; rw [e] at hlt; simp at hlt)
      obtain ⟨E, hE⟩ := HX.out.poolGet HV.out.1
      have hl := row_load1 (P := Tryz.prog) (ty := 9) (i := i) (v := sv ps[i]) hE (by kernel_rfl) (by simp [hlt])
      have HTK := Lib.hid (show ps.take (i + 1) = ps.take i ++ [ps[i]] from List.take_succ_eq_append_getElem hlt)
      have HPS := Lib.hid (HV.out.2.1 ps[i] (List.getElem_mem hlt))
      have hfd := find_at (f := fun p => !goodP p) hlt (fun p hp => by rw [HGD.out p hp]; rfl)
      have q0 : decide (i < ps.length) = true := decide_eq_true hlt
      obtain ⟨p, hp⟩ : ∃ p, ps[i] = p := ⟨_, rfl⟩
      rw [hp] at hl HTK HPS hfd
      have HFD := Lib.hid hfd
      unfold sv at hl
      clear hE hp hfd
      go_wp2_with (first | go_skip | refine uK ?_ | refine uL ?_ | refine uM ?_ | (refine uS ?_; clear HX; intro w HX) | (refine uA ?_; clear HX; (first | (have hq := b3; clear hq; intro w b4 HX) | (have hq := b2; clear hq; intro w b3 HX) | (have hq := b; clear hq; intro w b2 HX) | intro w b HX)) | (refine tWN ?_; clear HX; intro w mm HX; simp only [Act.put, k_a, k_b, k_c]) | (refine tWP ?_; clear HX; intro w av nv cv HX; simp only [Act.put, k_a, k_b, k_c]) | ((with_reducible apply sx_loadAt hl); (· rfl); (· rfl); simp only [Act.put, k_a, k_b, k_c]))
      refine (good_any ⟨p.toArray⟩ _ (hd.sep HX.out).1 (by show p.toArray.size ≤ _; rw [List.size_toArray]; unfold maxLen; have := HPS.out; omega)).mono ?_
      have e1 : (⟨p.toArray⟩ : ByteArray).data.toList = p := rfl
      rw [e1]
      obtain ⟨zb, hzb⟩ : ∃ zb, goodP p = zb := ⟨_, rfl⟩
      rw [hzb]
      have HZB := Lib.hid hzb
      rintro e w ⟨rfl, hu⟩
      replace HX := Lib.hid (HX.out.keep hu)
      clear hl e1 hzb hu
      cases zb with
      | false =>
        obtain rfl : wr = some p := by rw [← HWR.out]; unfold wrongH; rw [HFD.out (by rw [HZB.out]; rfl)]
        go_wp2_with (first | go_skip | refine uK ?_ | refine uL ?_ | refine uM ?_ | (refine uS ?_; clear HX; intro w HX) | (refine uA ?_; clear HX; (first | (have hq := b3; clear hq; intro w b4 HX) | (have hq := b2; clear hq; intro w b3 HX) | (have hq := b; clear hq; intro w b2 HX) | intro w b HX)) | (refine tWN ?_; clear HX; intro w mm HX; simp only [Act.put, k_a, k_b, k_c]) | (refine tWP ?_; clear HX; intro w av nv cv HX; simp only [Act.put, k_a, k_b, k_c]))
        go_ret2
        exact ⟨rfl, HX.out⟩
      | true =>
        go_wp2_with (first | go_skip | refine uK ?_ | refine uL ?_ | refine uM ?_ | (refine uS ?_; clear HX; intro w HX) | (refine uA ?_; clear HX; (first | (have hq := b3; clear hq; intro w b4 HX) | (have hq := b2; clear hq; intro w b3 HX) | (have hq := b; clear hq; intro w b2 HX) | intro w b HX)) | (refine tWN ?_; clear HX; intro w mm HX; simp only [Act.put, k_a, k_b, k_c]) | (refine tWP ?_; clear HX; intro w av nv cv HX; simp only [Act.put, k_a, k_b, k_c]))
        go_roundg (ps.length - (i + 1))
        case rel => exact ⟨i + 1, by omega, by go_num, by
          rw [HTK.out]
          intro q hq
          rcases List.mem_append.1 hq with hq | hq
          · exact HGD.out q hq
          · rw [List.mem_singleton] at hq; rw [hq]; exact HZB.out, HX.out⟩
        case measure => omega
end
end Go.Proofs.YtbakgoncfggidaaGreatDoor

namespace Go.Av
theorem foldH_len (who : Int) : ∀ (ps : List Bs) (H : HeldL), (ps.foldl (fun H p => setH H p who) H).length ≤ H.length + ps.length
  | [], H => by simp
  | p :: ps, H => by
    have h1 := foldH_len who ps (setH H p who)
    have h2 := setH_len H p who
    rw [List.foldl_cons, List.length_cons]
    omega
theorem foldH_keys {who : Int} {e : Bs × Int} : ∀ (ps : List Bs) (H : HeldL), e ∈ ps.foldl (fun H p => setH H p who) H → (e.1 ∈ ps ∧ e.2 = who) ∨ e ∈ H
  | [], H, h => .inr h
  | p :: ps, H, h => by
    rcases foldH_keys ps (setH H p who) h with h | h
    · exact .inl ⟨k_n _ h.1, h.2⟩
    · rcases setH_keys h with h | h
      · exact .inl ⟨by rw [h]; exact k_s, by rw [h]⟩
      · exact .inr h
end Go.Av
namespace Go.Proofs.YtbakgoncfggidaaGreatDoor
open Go.RowKit Go.Av
section
variable {w0 w : World} {l : Nat} {H : HeldL} {P P' : List PRow} {R : List Thing} {rows : List (Value × Bs)}
set_option maxRecDepth 100000 in
set_option maxHeartbeats 4000000 in
theorem take_any (h : Sep w0 w (ThPool w0 P :: ThLk l H :: R) rows) (hd : DoorN w0) (who : Int) (ps : List Bs) (v : Value) (hv : (1, v, ps.map sv) ∈ P) (hp : ∀ p ∈ ps, p.length ≤ 100000) (hH : ∀ e ∈ H, e.1.length ≤ 100000) (hn : ps.length ≤ 100000) :
    Calls Tryz.prog 74 #[.pointer (some ⟨l, 0, none⟩), .int .i64 who, v] w fun e w' => e = .returned (.tuple #[sv ((wrongH H who ps).getD []), .bool (!(wrongH H who ps).isSome)]) ∧ Sep w0 w' (ThPool w0 P :: ThLk l (takeH H who ps) :: R) rows := by
  obtain ⟨E, hE⟩ := h.poolGet hv
  obtain ⟨a, n, c, rfl, hl0, -, -, hne⟩ := ReadRow.some hE
  rw [List.length_map, Nat.mul_one] at hl0
  subst hl0
  have HNE := Lib.hid hne
  have HV := Lib.hid (show _ ∧ _ ∧ _ ∧ _ from ⟨hv, hp, hH, hn⟩)
  have HX := Lib.hid h
  clear h hE hne hv hp hH
  obtain ⟨wr, hwr⟩ : ∃ wr, wrongH H who ps = wr := ⟨_, rfl⟩
  obtain ⟨H', hH'⟩ : ∃ H', takeH H who ps = H' := ⟨_, rfl⟩
  rw [hwr, hH']
  have HTH := Lib.hid (show H' = if wr.isSome then H else ps.foldl (fun H p => setH H p who) H by rw [← hH', ← hwr]; rfl)
  have HWR := Lib.hid hwr
  clear hwr hH'
  go_enter Tryz.func74, Tryz.ntmps74
  go_wp2_with (first | go_skip | refine uK ?_ | refine uL ?_ | refine uM ?_ | (refine uS ?_; clear HX; intro w HX) | (refine uA ?_; clear HX; (first | (have hq := b; clear hq; intro w b2 HX) | intro w b HX)) | (refine tWN ?_; clear HX; intro w mm HX; simp only [Act.put, k_a, k_b, k_c]) | (refine tWP ?_; clear HX; intro w av nv cv HX; simp only [Act.put, k_a, k_b, k_c]))
  refine (wrong17_any HX.out hd who ps _ HV.out.1 HV.out.2.1 HV.out.2.2.1 HV.out.2.2.2).mono ?_
  rw [HWR.out]
  rintro e w ⟨rfl, hx⟩
  clear HX
  have HX := Lib.hid hx
  clear hx
  cases wr with
  | some p =>
    obtain rfl : H' = H := HTH.out
    dsimp only [Option.isSome, Option.getD]
    unfold sv
    go_wp2_with (first | go_skip | refine uK ?_ | refine uL ?_ | refine uM ?_ | (refine uS ?_; clear HX; intro w HX) | (refine uA ?_; clear HX; (first | (have hq := b; clear hq; intro w b2 HX) | intro w b HX)) | (refine tWN ?_; clear HX; intro w mm HX; simp only [Act.put, k_a, k_b, k_c]) | (refine tWP ?_; clear HX; intro w av nv cv HX; simp only [Act.put, k_a, k_b, k_c]))
    go_ret2
    exact ⟨rfl, HX.out⟩
  | none =>
    have HTI := Lib.hid (show H' = ps.foldl (fun H p => setH H p who) H from HTH.out)
    clear HTH
    dsimp only [Option.isSome, Option.getD]
    unfold sv
    go_wp2_with (first | go_skip | refine uK ?_ | refine uL ?_ | refine uM ?_ | (refine uS ?_; clear HX; intro w HX) | (refine uA ?_; clear HX; (first | (have hq := b; clear hq; intro w b2 HX) | intro w b HX)) | (refine tWN ?_; clear HX; intro w mm HX; simp only [Act.put, k_a, k_b, k_c]) | (refine tWP ?_; clear HX; intro w av nv cv HX; simp only [Act.put, k_a, k_b, k_c]))
    have HST := HX
    clear HX
    go_loopg [11, 23] ps.length (fun k _ v23 wr => ∃ i : Nat, i + k = ps.length ∧ v23 = .int .i64 (i : Int) ∧ Sep w0 wr (ThPool w0 P :: ThLk l ((ps.take i).foldl (fun H p => setH H p who) H) :: R) rows)
    case atStart => exact ⟨0, by simp, rfl, HST.out⟩
    case round =>
      rename World => w
      obtain ⟨i, hik, rfl, hS⟩ := hrel
      clear HST
      by_cases hlt : i < ps.length
      case neg =>
        obtain rfl : i = ps.length := by omega
        rw [List.take_length, ← HTI.out] at hS
        have HX := Lib.hid hS
        clear hS hlt hik
        go_wp2_with (first | go_skip | refine uK ?_ | refine uL ?_ | refine uM ?_ | (refine uS ?_; clear HX; intro w HX) | (refine uA ?_; clear HX; (first | (have hq := b; clear hq; intro w b2 HX) | intro w b HX)) | (refine tWN ?_; clear HX; intro w mm HX; simp only [Act.put, k_a, k_b, k_c]) | (refine tWP ?_; clear HX; intro w av nv cv HX; simp only [Act.put, k_a, k_b, k_c]))
        go_ret2
        exact ⟨rfl, HX.out⟩
      case pos =>
        obtain ⟨g, off, rfl⟩ := HNE.out (by intro e; rw [List.map_eq_nil_iff] at e; rw [e] at hlt; simp at hlt)
        obtain ⟨E, hE⟩ := hS.poolGet HV.out.1
        have hl := row_load1 (P := Tryz.prog) (ty := 9) (i := i) (v := sv ps[i]) hE (by kernel_rfl) (by simp [hlt])
        have HTK := Lib.hid (show (ps.take (i + 1)).foldl (fun H p => setH H p who) H = setH ((ps.take i).foldl (fun H p => setH H p who) H) ps[i] who by rw [List.take_succ_eq_append_getElem hlt, List.foldl_append]; rfl)
        have q0 : decide (i < ps.length) = true := decide_eq_true hlt
        obtain ⟨p, hp⟩ : ∃ p, ps[i] = p := ⟨_, rfl⟩
        rw [hp] at hl HTK
        obtain ⟨Hi, hHi⟩ : ∃ Hi, (ps.take i).foldl (fun H p => setH H p who) H = Hi := ⟨_, rfl⟩
        rw [hHi] at hS HTK
        obtain ⟨m, hS⟩ := lk_open hS.up1
        obtain ⟨w9, hrun, h9⟩ := lk_put hS.up1 p who
        have HX := Lib.hid hS
        have H9 := Lib.hid h9
        unfold sv at hl hrun
        clear hE hp hHi hS h9
        go_wp2_with (first | go_skip | refine uK ?_ | refine uL ?_ | refine uM ?_ | (refine uS ?_; clear HX; intro w HX) | (refine uA ?_; clear HX; (first | (have hq := b; clear hq; intro w b2 HX) | intro w b HX)) | (refine tWN ?_; clear HX; intro w mm HX; simp only [Act.put, k_a, k_b, k_c]) | (refine tWP ?_; clear HX; intro w av nv cv HX; simp only [Act.put, k_a, k_b, k_c]) | ((with_reducible apply sx_loadAt hl); (· rfl); (· rfl); simp only [Act.put, k_a, k_b, k_c]))
        go_roundg (ps.length - (i + 1))
        case rel => exact ⟨i + 1, by omega, by go_num, by rw [HTK.out]; exact (lk_shut H9.out.up1).up1⟩
        case measure => omega
def FreRel (w0 : World) (l m r : Nat) (H : HeldL) (R : List Thing) (rows : List (Value × Bs)) (who : Int) (k : Nat) (v5 : Value) (w : World) : Prop :=
  ∃ (left : HeldL) (n : Nat), left.length = k ∧ left.Nodup ∧ (∀ e ∈ left, e ∈ H) ∧ n + left.length ≤ H.length ∧ v5 = .int .i64 (n : Int) ∧
    Sep w0 w (ThIter .string m r ((H.filter fun e => decide (e ∈ left) || e.2 != who).map hkv) (left.map hkv) :: ThCell l (.cells #[.map (some m)] 232 (0, 0)) :: R) rows
def FrePost (w0 : World) (l : Nat) (H : HeldL) (R : List Thing) (rows : List (Value × Bs)) (e : Ending) (w' : World) : Prop :=
  ∃ n : Int, e = .returned (.int .i64 n) ∧ Sep w0 w' (ThLk l H :: R) rows
set_option maxRecDepth 100000 in
set_option maxHeartbeats 4000000 in
theorem free_any (h : Sep w0 w (ThLk l H :: R) rows) (who : Int) (hn : H.length ≤ 100000) :
    Calls Tryz.prog 79 #[.pointer (some ⟨l, 0, none⟩), .int .i64 who] w (FrePost w0 l (freeH H who) R rows) := by
  obtain ⟨m, hS⟩ := lk_open h
  have hk := held_nodup hS.up1
  have hnd : H.Nodup := by
    rw [List.nodup_iff_pairwise_ne, List.pairwise_map] at hk
    rw [List.nodup_iff_pairwise_ne]
    exact List.Pairwise.imp (fun hab e => hab (congrArg Prod.fst e)) hk
  have HK := Lib.hid (show _ ∧ _ ∧ _ from ⟨hk, hnd, hn⟩)
  have HX := Lib.hid hS
  clear h hS hk hnd hn
  go_enter Tryz.func79, Tryz.ntmps79
  go_upto_region 2 with (first | go_skip | refine uK ?_ | refine uL ?_ | refine uM ?_ | (refine uS ?_; clear HX; intro w HX) | (refine uA ?_; clear HX; (first | (have hq := b; clear hq; intro w b2 HX) | intro w b HX)) | (refine tWN ?_; clear HX; intro w mm HX; simp only [Act.put, k_a, k_b, k_c]) | (refine tWP ?_; clear HX; intro w av nv cv HX; simp only [Act.put, k_a, k_b, k_c]))
  obtain ⟨r, w9, hrun, h9⟩ := it_start (P := Tryz.prog) HX.out.up1 Tryz.underlying230
  have HST := Lib.hid (show FreRel w0 l m r H R rows who H.length (.int .i64 (0 : Int)) w9 from ⟨H, 0, rfl, HK.out.2.1, fun _ h => h, by omega, rfl, by rw [List.filter_eq_self.2 (fun e he => by simp [he])]; exact h9⟩)
  go_wp2_with (first | go_skip | refine uK ?_ | refine uL ?_ | refine uM ?_ | (refine uS ?_; clear HX; intro w HX) | (refine uA ?_; clear HX; (first | (have hq := b; clear hq; intro w b2 HX) | intro w b HX)) | (refine tWN ?_; clear HX; intro w mm HX; simp only [Act.put, k_a, k_b, k_c]) | (refine tWP ?_; clear HX; intro w av nv cv HX; simp only [Act.put, k_a, k_b, k_c]))
  clear HX hrun h9
  go_loopg [5, 6, 7] H.length (fun k v5 _ _ wr => FreRel w0 l m r H R rows who k v5 wr)
  case atStart => exact HST.out
  case round =>
    obtain ⟨left, n, hk, hnd, hin, hn, rfl, hS⟩ := hrel
    clear HST
    rcases it_next (P := Tryz.prog) hkv hS with ⟨rfl, hnx⟩ | ⟨l1, ge, l2, w1, rfl, hnx, h1, hen⟩
    · have HX := Lib.hid hS
      clear hS hk hnd hin hn
      go_wp2_with (first | go_skip | refine uK ?_ | refine uL ?_ | refine uM ?_ | (refine uS ?_; clear HX; intro w HX) | (refine uA ?_; clear HX; (first | (have hq := b; clear hq; intro w b2 HX) | intro w b HX)) | (refine tWN ?_; clear HX; intro w mm HX; simp only [Act.put, k_a, k_b, k_c]) | (refine tWP ?_; clear HX; intro w av nv cv HX; simp only [Act.put, k_a, k_b, k_c]))
      go_ret
      have h5 := it_end HX.out
      have e5 : (H.filter fun e => decide (e ∈ ([] : HeldL)) || e.2 != who) = freeH H who := by
        unfold freeH
        exact List.filter_congr (fun x _ => by simp)
      rw [e5] at h5
      exact ⟨_, rfl, lk_shut h5.up1⟩
    · have hge := hin ge (by simp)
      rw [List.nodup_append] at hnd
      obtain ⟨n1, n2, n3⟩ := hnd
      rw [List.nodup_cons] at n2
      have hnot : ge ∉ l1 ++ l2 := fun hm => by
        rcases List.mem_append.1 hm with hm | hm
        · exact n3 _ hm _ k_s rfl
        · exact n2.1 hm
      have hnd2 : (l1 ++ l2).Nodup := List.nodup_append.2 ⟨n1, n2.2, fun a ha b hb => n3 a ha b (k_n _ hb)⟩
      have HF := Lib.hid (show _ ∧ _ ∧ _ ∧ _ from ⟨hk, hnd2, fun e (he : e ∈ l1 ++ l2) => hin e (by rcases List.mem_append.1 he with h | h <;> simp [h]), hn⟩)
      have hlen : n + (l1 ++ l2).length + 1 ≤ H.length := by simp at hn ⊢; omega
      have HLN := Lib.hid (show n ≤ 100000 ∧ n + (l1 ++ l2).length + 1 ≤ H.length from ⟨by have := HK.out.2.2; omega, hlen⟩)
      have hothers : ∀ x ∈ H, x ≠ ge → (decide (x ∈ l1 ++ l2) || x.2 != who) = (decide (x ∈ l1 ++ ge :: l2) || x.2 != who) := fun x _ hx => by
        have : (x ∈ l1 ++ l2) ↔ (x ∈ l1 ++ ge :: l2) := by simp [hx]
        simp [this]
      by_cases hx : ge.2 = who
      · obtain ⟨c1, c2, e1, e2⟩ := filter_out (f := fun e => decide (e ∈ l1 ++ ge :: l2) || e.2 != who) (f' := fun e => decide (e ∈ l1 ++ l2) || e.2 != who) HK.out.2.1 hge (by simp) (by rw [hx]; simp only [bne_self_eq_false, Bool.or_false]; exact decide_eq_false hnot) hothers
        rw [e1, List.map_append, List.map_cons] at h1
        obtain ⟨w9, hrun, h9⟩ := it_del (P := Tryz.prog) (key := (hkv ge).1) (v0 := (hkv ge).2) h1 trivial (fun p hp e => by
          obtain ⟨x, hx2, rfl⟩ := List.mem_map.1 hp
          have hxe : x.1 = ge.1 := sv_inj e
          have hxH := HF.out.2.2.1 x hx2
          exact hnot ((nodup_inj (f := fun e : Bs × Int => e.1) HK.out.1 hxH hge hxe) ▸ hx2)) Tryz.underlying230 Tryz.underlying9
        rw [← List.map_append, ← e2] at h9
        have HX := Lib.hid h1
        have H9 := Lib.hid h9
        clear hS h1 h9 hk hin hge hnot n1 n2 n3 hnd2 hn hlen hothers e1 e2
        obtain ⟨q, x⟩ := ge
        dsimp only [hkv] at hnx hen hrun hx HX
        have q1 : (x == who) = true := by rw [hx]; exact beq_self_eq_true _
        have q9 : n ≤ 100000 := HLN.out.1
        clear hx
        go_wp2_with (first | go_skip | refine uK ?_ | refine uL ?_ | refine uM ?_ | (refine uS ?_; clear HX; intro w HX) | (refine uA ?_; clear HX; (first | (have hq := b; clear hq; intro w b2 HX) | intro w b HX)) | (refine tWN ?_; clear HX; intro w mm HX; simp only [Act.put, k_a, k_b, k_c]) | (refine tWP ?_; clear HX; intro w av nv cv HX; simp only [Act.put, k_a, k_b, k_c]))
        go_roundg (l1 ++ l2).length
        case rel => exact ⟨l1 ++ l2, n + 1, rfl, HF.out.2.1, HF.out.2.2.1, by have := HLN.out.2; omega, by go_num, H9.out⟩
        case measure =>
          have := HF.out.1
          simp at this ⊢; omega
      · have e2 : (H.filter fun e => decide (e ∈ l1 ++ ge :: l2) || e.2 != who) = H.filter fun e => decide (e ∈ l1 ++ l2) || e.2 != who := List.filter_congr (fun x hxH => by
          by_cases hxg : x = ge
          · subst hxg
            have : (x.2 != who) = true := by rw [bne_iff_ne]; exact hx
            simp [this]
          · exact (hothers x hxH hxg).symm)
        rw [e2] at h1
        have HX := Lib.hid h1
        clear hS h1 hk hin hge hnot n1 n2 n3 hnd2 hn hlen hothers e2
        obtain ⟨q, x⟩ := ge
        dsimp only [hkv] at hnx hen hx HX
        have q1 : (x == who) = false := by rw [beq_eq_false_iff_ne]; exact hx
        clear hx
        go_wp2_with (first | go_skip | refine uK ?_ | refine uL ?_ | refine uM ?_ | (refine uS ?_; clear HX; intro w HX) | (refine uA ?_; clear HX; (first | (have hq := b; clear hq; intro w b2 HX) | intro w b HX)) | (refine tWN ?_; clear HX; intro w mm HX; simp only [Act.put, k_a, k_b, k_c]) | (refine tWP ?_; clear HX; intro w av nv cv HX; simp only [Act.put, k_a, k_b, k_c]))
        go_roundg (l1 ++ l2).length
        case rel => exact ⟨l1 ++ l2, n, rfl, HF.out.2.1, HF.out.2.2.1, by have := HLN.out.2; omega, rfl, HX.out⟩
        case measure =>
          have := HF.out.1
          simp at this ⊢; omega
set_option maxRecDepth 100000 in
theorem locklen_any (h : Sep w0 w (ThLk l H :: R) rows) : Calls Tryz.prog 83 #[.pointer (some ⟨l, 0, none⟩)] w fun e w' => e = .returned (.int .i64 (H.length : Nat)) ∧ Sep w0 w' (ThLk l H :: R) rows := by
  obtain ⟨m, hS⟩ := lk_open h
  have hlen := fun ty => mp_len (P := Tryz.prog) hS.up1.mapIs Tryz.underlying230 ty
  rw [List.length_map] at hlen
  have HX := Lib.hid hS
  clear h hS
  go_enter Tryz.func83, Tryz.ntmps83
  go_wp2_with (first | go_skip | refine uK ?_ | refine uL ?_ | refine uM ?_ | (refine uS ?_; clear HX; intro w HX) | (refine uA ?_; clear HX; (first | (have hq := b; clear hq; intro w b2 HX) | intro w b HX)) | (refine tWN ?_; clear HX; intro w mm HX; simp only [Act.put, k_a, k_b, k_c]) | (refine tWP ?_; clear HX; intro w av nv cv HX; simp only [Act.put, k_a, k_b, k_c]))
  go_ret
  exact ⟨rfl, lk_shut HX.out⟩
set_option maxRecDepth 100000 in
theorem locknew_any (h : Sep w0 w R rows) : Calls Tryz.prog 67 #[] w fun e w' => ∃ l, e = .returned (.pointer (some ⟨l, 0, none⟩)) ∧ Sep w0 w' (ThLk l [] :: R) rows := by
  have HX := Lib.hid h
  clear h
  go_enter Tryz.func67, Tryz.ntmps67
  go_wp2_with (first | go_skip | refine uK ?_ | refine uL ?_ | refine uM ?_ | (refine uS ?_; clear HX; intro w HX) | (refine uA ?_; clear HX; (first | (have hq := b; clear hq; intro w b2 HX) | intro w b HX)) | (refine tWN ?_; clear HX; intro w mm HX; simp only [Act.put, k_a, k_b, k_c]) | (refine tWP ?_; clear HX; intro w av nv cv HX; simp only [Act.put, k_a, k_b, k_c]))
  go_ret
  exact ⟨_, rfl, lk_shut HX.out⟩
end
end Go.Proofs.YtbakgoncfggidaaGreatDoor

namespace Go.Av
open Go.RowKit
structure WaitG where
  id : Int
  x : WaitS
  v : Value
def WaitG.kv (g : WaitG) : Value × Value := (.int .i64 g.id, .agg #[.int .i64 g.x.sess, g.v, .bool g.x.close, .bool g.x.fails])
def WaitG.ent (g : WaitG) : Int × WaitS := (g.id, g.x)
def ikv (i : Int) : Value × Value := (.int .i64 i, .bool true)
theorem creates_app (a b : List OpS) : createsS (a ++ b) = createsS a + createsS b := by unfold createsS; rw [List.filter_append, List.length_append]
theorem creates_one (o : OpS) : createsS [o] = if o.kind = 1 then 1 else 0 := by
  unfold createsS
  by_cases h : o.kind = 1
  · rw [if_pos h]; simp [h]
  · rw [if_neg h]; simp [h]
theorem creates_len (l : List OpS) : createsS l ≤ l.length := List.length_filter_le _ _
theorem first_none {l : List OpS} (h : createsS l = 0) : firstC l = 0 := by unfold firstC; rw [if_pos h]
theorem first_keep {a : List OpS} (o : OpS) (h : createsS a ≠ 0) : firstC (a ++ [o]) = firstC a := by
  unfold firstC
  rw [if_neg h, if_neg (by rw [creates_app]; omega), List.findIdx_append, if_pos]
  unfold createsS at h
  obtain ⟨x, hx⟩ := List.exists_mem_of_length_pos (Nat.pos_of_ne_zero h)
  obtain ⟨h1, h2⟩ := List.mem_filter.1 hx
  exact List.findIdx_lt_length_of_exists ⟨x, h1, h2⟩
theorem first_here {a : List OpS} {o : OpS} (h : createsS a = 0) (ho : o.kind = 1) : firstC (a ++ [o]) = a.length := by
  have hn : ∀ x ∈ a, (x.kind == 1) = false := fun x hx => by
    cases hh : (x.kind == 1) with
    | false => rfl
    | true =>
      have : x ∈ a.filter fun o => o.kind == 1 := List.mem_filter.2 ⟨hx, hh⟩
      unfold createsS at h
      rw [List.eq_nil_of_length_eq_zero h] at this
      cases this
  unfold firstC
  rw [if_neg (by rw [creates_app, creates_one, if_pos ho]; omega), List.findIdx_append, if_neg]
  · simp [ho]
  · have : List.findIdx (fun o => o.kind == 1) a = a.length := List.findIdx_eq_length.2 hn
    omega
end Go.Av
namespace Go.Proofs.YtbakgoncfggidaaGreatDoor
open Go.RowKit Go.Av
theorem sn_x1 : StructN Tryz.prog 128 7 := ⟨by kernel_rfl⟩
theorem sn_x2 : StructN Tryz.prog 139 4 := ⟨by kernel_rfl⟩
theorem z_x2 : zeroB Tryz.prog 139 #[.int .i64 0, .slice none 0 0, .bool false, .bool false] := by unfold zeroB; kernel_rfl
abbrev ptCells (room : Int) (t lk : Nat) (zxid : Int) (mw md mc : Nat) : Array Value := #[.int .i64 room, .pointer (some ⟨t, 0, none⟩), .pointer (some ⟨lk, 0, none⟩), .int .i64 zxid, .map (some mw), .map (some md), .map (some mc)]
def PtO (b : Nat) (S : PartS) (P : List PRow) (L : List Thing) : Prop :=
  ∃ (t lk mw md mc : Nat) (gs : List WaitG), L = [ThCell b (.cells (ptCells S.t.room t lk S.zxid mw md mc) 128 (0, 0)), ThTree t S.t P, ThLk lk S.held, ThMap (.int .i64) mw (gs.map WaitG.kv), ThMap (.int .i64) md (S.decided.map ikv), ThMap (.int .i64) mc (S.closed.map ikv)] ∧
    gs.map WaitG.ent = S.wait ∧ ∀ g ∈ gs, (5, g.v, g.x.ops.flatMap OpS.cells) ∈ P
def ThPart (b : Nat) (S : PartS) (P : List PRow) : Thing := Bun (PtO b S P)
section
variable {w0 w : World} {b : Nat} {S : PartS} {P P' : List PRow} {R : List Thing} {rows : List (Value × Bs)}
theorem pt_open (h : Sep w0 w (ThPart b S P :: R) rows) : ∃ (t lk mw md mc : Nat) (gs : List WaitG), gs.map WaitG.ent = S.wait ∧ (∀ g ∈ gs, (5, g.v, g.x.ops.flatMap OpS.cells) ∈ P) ∧
    Sep w0 w (ThCell b (.cells (ptCells S.t.room t lk S.zxid mw md mc) 128 (0, 0)) :: ThTree t S.t P :: ThLk lk S.held :: ThMap (.int .i64) mw (gs.map WaitG.kv) :: ThMap (.int .i64) md (S.decided.map ikv) :: ThMap (.int .i64) mc (S.closed.map ikv) :: R) rows := by
  obtain ⟨L, ⟨t, lk, mw, md, mc, gs, rfl, h1, h2⟩, hS⟩ := h.opens
  exact ⟨t, lk, mw, md, mc, gs, h1, h2, hS⟩
theorem pt_shut {t lk mw md mc : Nat} {gs : List WaitG} (h : Sep w0 w (ThCell b (.cells (ptCells S.t.room t lk S.zxid mw md mc) 128 (0, 0)) :: ThTree t S.t P :: ThLk lk S.held :: ThMap (.int .i64) mw (gs.map WaitG.kv) :: ThMap (.int .i64) md (S.decided.map ikv) :: ThMap (.int .i64) mc (S.closed.map ikv) :: R) rows)
    (h1 : gs.map WaitG.ent = S.wait) (h2 : ∀ g ∈ gs, (5, g.v, g.x.ops.flatMap OpS.cells) ∈ P) : Sep w0 w (ThPart b S P :: R) rows :=
  Sep.shut (O := PtO b S P) ⟨t, lk, mw, md, mc, gs, rfl, h1, h2⟩ h
theorem pt_mono (h : Sep w0 w (ThPart b S P :: R) rows) (hP : ∀ r ∈ P, r ∈ P') : Sep w0 w (ThPart b S P' :: R) rows := by
  obtain ⟨t, lk, mw, md, mc, gs, h1, h2, hS⟩ := pt_open h
  exact pt_shut (tree_mono hS.up1 hP).up1 h1 (fun g hg => hP _ (h2 g hg))
set_option maxRecDepth 100000 in
set_option maxHeartbeats 4000000 in
theorem creates_any (h : Sep w0 w (ThPool w0 P :: R) rows) (l : List OpS) (v : Value) (hv : (5, v, l.flatMap OpS.cells) ∈ P) (hn : l.length ≤ 100000) :
    Calls Tryz.prog 84 #[v] w fun e w' => e = .returned (.tuple #[.int .i64 (createsS l : Nat), .int .i64 (firstC l : Nat)]) ∧ Sep w0 w' (ThPool w0 P :: R) rows := by
  obtain ⟨E, hE⟩ := h.poolGet hv
  obtain ⟨a, n, c, rfl, hl0, -, -, hne⟩ := ReadRow.some hE
  rw [flatG_len opcells_len] at hl0
  obtain rfl : l.length = n := by omega
  have HNE := Lib.hid hne
  have HV := Lib.hid hv
  have HX := Lib.hid h
  have HN := Lib.hid hn
  clear h hE hne hv hl0
  go_enter Tryz.func84, Tryz.ntmps84
  go_wp2_with (first | go_skip | refine uK ?_ | refine uL ?_ | refine uM ?_ | (refine uS ?_; clear HX; intro w HX) | (refine uA ?_; clear HX; (first | (have hq := b; clear hq; intro w b2 HX) | intro w b HX)) | (refine tWN ?_; clear HX; intro w mm HX; simp only [Act.put, k_a, k_b, k_c]) | (refine tWP ?_; clear HX; intro w av nv cv HX; simp only [Act.put, k_a, k_b, k_c]))
  have HST := HX
  clear HX
  go_loopg [2, 3, 8] l.length (fun k v2 v3 v8 wr => ∃ i : Nat, i + k = l.length ∧ v2 = .int .i64 (createsS (l.take i) : Nat) ∧ v3 = .int .i64 (firstC (l.take i) : Nat) ∧ v8 = .int .i64 (i : Int) ∧ Sep w0 wr (ThPool w0 P :: R) rows)
  case atStart => exact ⟨0, by simp, rfl, rfl, rfl, HST.out⟩
  case round =>
    rename World => w
    obtain ⟨i, hik, rfl, rfl, rfl, hS⟩ := hrel
    clear HST
    have HX := Lib.hid hS
    clear hS
    by_cases hlt : i < l.length
    case neg =>
      obtain rfl : i = l.length := by omega
      rw [List.take_length]
      clear hlt hik
      go_wp2_with (first | go_skip | refine uK ?_ | refine uL ?_ | refine uM ?_ | (refine uS ?_; clear HX; intro w HX) | (refine uA ?_; clear HX; (first | (have hq := b; clear hq; intro w b2 HX) | intro w b HX)) | (refine tWN ?_; clear HX; intro w mm HX; simp only [Act.put, k_a, k_b, k_c]) | (refine tWP ?_; clear HX; intro w av nv cv HX; simp only [Act.put, k_a, k_b, k_c]))
      go_ret2
      exact ⟨rfl, HX.out⟩
    case pos =>
      obtain ⟨g, off, rfl⟩ := HNE.out (by intro e; have := congrArg List.length e; rw [flatG_len opcells_len] at this; simp at this; omega)
      obtain ⟨E, hE⟩ := HX.out.poolGet HV.out
      have hl := row_load (P := Tryz.prog) (f := OpS.cells) (i := i) hE opcells_len sn_op hlt
      have htk : l.take (i + 1) = l.take i ++ [l[i]] := List.take_succ_eq_append_getElem hlt
      have hcn := creates_len (l.take i)
      have hti : (l.take i).length = i := by rw [List.length_take]; omega
      have q0 : decide (i < l.length) = true := decide_eq_true hlt
      obtain ⟨o, ho⟩ : ∃ o, l[i] = o := ⟨_, rfl⟩
      rw [ho] at hl htk
      have hca : createsS (l.take (i + 1)) = createsS (l.take i) + (if o.kind = 1 then 1 else 0) := by rw [htk, creates_app, creates_one]
      obtain ⟨kind, path, data, ver, flags⟩ := o
      simp only [OpS.cells] at hl
      dsimp only at hca
      by_cases hk : kind = 1
      · have q1 : (kind != 1) = false := by rw [hk]; rfl
        rw [if_pos hk] at hca
        by_cases h0 : createsS (l.take i) = 0
        · have hfi := first_here (o := ⟨kind, path, data, ver, flags⟩) h0 hk
          rw [← htk, hti] at hfi
          rw [h0, first_none h0]
          have HFI := Lib.hid (show _ ∧ _ from ⟨hca, hfi⟩)
          clear hE ho hfi hk hca hcn htk
          go_wp2_with (first | go_skip | refine uK ?_ | refine uL ?_ | refine uM ?_ | (refine uS ?_; clear HX; intro w HX) | (refine uA ?_; clear HX; (first | (have hq := b; clear hq; intro w b2 HX) | intro w b HX)) | (refine tWN ?_; clear HX; intro w mm HX; simp only [Act.put, k_a, k_b, k_c]) | (refine tWP ?_; clear HX; intro w av nv cv HX; simp only [Act.put, k_a, k_b, k_c]) | ((with_reducible apply sx_loadAt hl); (· rfl); (· rfl); simp only [Act.put, k_a, k_b, k_c]))
          go_roundg (l.length - (i + 1))
          case rel => exact ⟨i + 1, by omega, by rw [HFI.out.1, h0]; rfl, by rw [HFI.out.2], by go_num, HX.out.drop⟩
          case measure => omega
        · have hfi := first_keep ⟨kind, path, data, ver, flags⟩ h0
          rw [← htk] at hfi
          have HFI := Lib.hid (show _ ∧ _ from ⟨hca, hfi⟩)
          obtain ⟨cc, hcc⟩ : ∃ cc, createsS (l.take i) = cc := ⟨_, rfl⟩
          rw [hcc] at h0 HFI hcn ⊢
          have q2 : ((cc : Int) == 0) = false := by rw [beq_eq_false_iff_ne]; omega
          have q3 : cc ≤ 100000 := by have := HN.out; omega
          clear hE ho hfi hk hca hcn htk hcc
          go_wp2_with (first | go_skip | refine uK ?_ | refine uL ?_ | refine uM ?_ | (refine uS ?_; clear HX; intro w HX) | (refine uA ?_; clear HX; (first | (have hq := b; clear hq; intro w b2 HX) | intro w b HX)) | (refine tWN ?_; clear HX; intro w mm HX; simp only [Act.put, k_a, k_b, k_c]) | (refine tWP ?_; clear HX; intro w av nv cv HX; simp only [Act.put, k_a, k_b, k_c]) | ((with_reducible apply sx_loadAt hl); (· rfl); (· rfl); simp only [Act.put, k_a, k_b, k_c]))
          go_roundg (l.length - (i + 1))
          case rel => exact ⟨i + 1, by omega, by rw [HFI.out.1]; go_num, by rw [HFI.out.2], by go_num, HX.out.drop⟩
          case measure => omega
      · have q1 : (kind != 1) = true := by rw [bne_iff_ne]; exact hk
        rw [if_neg hk, Nat.add_zero] at hca
        have hfi : firstC (l.take (i + 1)) = firstC (l.take i) := by
          by_cases h0 : createsS (l.take i) = 0
          · rw [first_none h0, first_none (by rw [hca]; exact h0)]
          · rw [htk]; exact first_keep _ h0
        have HFI := Lib.hid (show _ ∧ _ from ⟨hca, hfi⟩)
        clear hE ho hfi hk hca hcn htk
        go_wp2_with (first | go_skip | refine uK ?_ | refine uL ?_ | refine uM ?_ | (refine uS ?_; clear HX; intro w HX) | (refine uA ?_; clear HX; (first | (have hq := b; clear hq; intro w b2 HX) | intro w b HX)) | (refine tWN ?_; clear HX; intro w mm HX; simp only [Act.put, k_a, k_b, k_c]) | (refine tWP ?_; clear HX; intro w av nv cv HX; simp only [Act.put, k_a, k_b, k_c]) | ((with_reducible apply sx_loadAt hl); (· rfl); (· rfl); simp only [Act.put, k_a, k_b, k_c]))
        go_roundg (l.length - (i + 1))
        case rel => exact ⟨i + 1, by omega, by rw [HFI.out.1]; rfl, by rw [HFI.out.2], by go_num, HX.out.drop⟩
        case measure => omega
end
end Go.Proofs.YtbakgoncfggidaaGreatDoor

namespace Go.Av
open Go.RowKit
theorem seq_bitp {f : Int} (h0 : 0 ≤ f) (h3 : f ≤ 3) : (bits .and .i64 f 2 != 0) = seqF f := by
  rcases (show f = 0 ∨ f = 1 ∨ f = 2 ∨ f = 3 by omega) with rfl | rfl | rfl | rfl <;> decide
end Go.Av
namespace Go.Proofs.YtbakgoncfggidaaGreatDoor
open Go.RowKit Go.Av
section
variable {w0 w : World} {b : Nat} {S : PartS} {P P' : List PRow} {R : List Thing} {rows : List (Value × Bs)}
def WntPost (w0 : World) (l : List Bs) (R : List Thing) (rows : List (Value × Bs)) (e : Ending) (w' : World) : Prop :=
  ∃ v, e = .returned v ∧ Sep w0 w' (ThRow 1 v (l.map sv) :: R) rows
set_option maxRecDepth 100000 in
set_option maxHeartbeats 4000000 in
theorem wants_any (h : Sep w0 w R rows) (hd : DoorN w0) (o : OpS) (hp : o.path.size ≤ 100000) (h0 : 0 ≤ o.flags) (h3 : o.flags ≤ 3) :
    Calls Tryz.prog 75 #[o.val] w (WntPost w0 (wantsS o) R rows) := by
  have hsq := seq_bitp h0 h3
  obtain ⟨ws, hws⟩ : ∃ ws, wantsS o = ws := ⟨_, rfl⟩
  rw [hws]
  have HWS := Lib.hid hws
  have HX := Lib.hid h
  clear h hws h0 h3
  obtain ⟨kind, path, data, ver, flags⟩ := o
  unfold OpS.val
  dsimp only at hp hsq ⊢
  obtain ⟨zs, hzs⟩ : ∃ z, seqF flags = z := ⟨_, rfl⟩
  rw [hzs] at hsq
  have HZS := Lib.hid hzs
  clear hzs
  have HBD := Lib.hid (show ∀ n, [sv path.data.toList].length = n * 1 → n + 1 ≤ 140737488355328 ∧ (n + 1) * 16 ≤ 140737488355328 from fun n hn => by simp at hn; omega)
  go_enter Tryz.func75, Tryz.ntmps75
  go_upto_region 2 with (first | go_skip | refine uK ?_ | refine uL ?_ | refine uM ?_ | (refine uS ?_; clear HX; intro w HX) | (refine uA ?_; clear HX; (first | (have hq := b; clear hq; intro w b2 HX) | intro w b HX)) | (refine tWN ?_; clear HX; intro w mm HX; simp only [Act.put, k_a, k_b, k_c]) | (refine tWP ?_; clear HX; intro w av nv cv HX; simp only [Act.put, k_a, k_b, k_c]))
  have h9 := HX.out.cellRow (K := 1) (n := 1) (cs := [Value.string path]) rfl (by omega)
  clear HX
  have HX := Lib.hid h9
  clear h9
  go_wp2_with (first | go_skip | refine uK ?_ | refine uL ?_ | refine uM ?_ | (refine uS ?_; clear HX; intro w HX) | (refine uA ?_; clear HX; (first | (have hq := b; clear hq; intro w b2 HX) | intro w b HX)) | (refine tWN ?_; clear HX; intro w mm HX; simp only [Act.put, k_a, k_b, k_c]) | (refine tWP ?_; clear HX; intro w av nv cv HX; simp only [Act.put, k_a, k_b, k_c]))
  refine (parent_any path _ (hd.sep HX.out).1 (by unfold maxLen; omega)).mono ?_
  cases hpa : parentP path.data.toList with
  | none =>
    rintro e w1 ⟨rfl, hu⟩
    replace HX := Lib.hid (HX.out.keep hu)
    obtain rfl : ws = [path.data.toList] := by rw [← HWS.out]; unfold wantsS; rw [show parentP (OpS.p ⟨kind, path, data, ver, flags⟩) = none from hpa]; rfl
    clear hu hpa
    dsimp only [Option.isSome, Option.getD]
    unfold sv
    go_wp2_with (first | go_skip | refine uK ?_ | refine uL ?_ | refine uM ?_ | (refine uS ?_; clear HX; intro w HX) | (refine uA ?_; clear HX; (first | (have hq := b; clear hq; intro w b2 HX) | intro w b HX)) | (refine tWN ?_; clear HX; intro w mm HX; simp only [Act.put, k_a, k_b, k_c]) | (refine tWP ?_; clear HX; intro w av nv cv HX; simp only [Act.put, k_a, k_b, k_c]))
    go_ret
    exact ⟨_, rfl, HX.out.cut1⟩
  | some up =>
    rintro e w1 ⟨rfl, hu⟩
    replace HX := Lib.hid (HX.out.keep hu)
    have HW2 := Lib.hid (show ws = if kind == 1 && zs then [path.data.toList, up] else [path.data.toList] by rw [← HWS.out]; unfold wantsS; rw [show parentP (OpS.p ⟨kind, path, data, ver, flags⟩) = some up from hpa, ← HZS.out]; rfl)
    clear hu hpa
    dsimp only [Option.isSome, Option.getD]
    obtain ⟨us, hus⟩ : ∃ us : ByteArray, us = ⟨up.toArray⟩ := ⟨_, rfl⟩
    have husv : sv up = .string us := by rw [hus]; rfl
    rw [husv]
    have HUS := Lib.hid husv
    clear hus husv
    obtain ⟨zk, hzk⟩ : ∃ z, (kind == 1) = z := ⟨_, rfl⟩
    rw [hzk] at HW2
    cases zk with
    | false =>
      obtain rfl : ws = [path.data.toList] := HW2.out
      go_wp2_with (first | go_skip | refine uK ?_ | refine uL ?_ | refine uM ?_ | (refine uS ?_; clear HX; intro w HX) | (refine uA ?_; clear HX; (first | (have hq := b; clear hq; intro w b2 HX) | intro w b HX)) | (refine tWN ?_; clear HX; intro w mm HX; simp only [Act.put, k_a, k_b, k_c]) | (refine tWP ?_; clear HX; intro w av nv cv HX; simp only [Act.put, k_a, k_b, k_c]))
      go_ret
      exact ⟨_, rfl, HX.out.cut1⟩
    | true =>
      cases zs with
      | false =>
        obtain rfl : ws = [path.data.toList] := HW2.out
        go_wp2_with (first | go_skip | refine uK ?_ | refine uL ?_ | refine uM ?_ | (refine uS ?_; clear HX; intro w HX) | (refine uA ?_; clear HX; (first | (have hq := b; clear hq; intro w b2 HX) | intro w b HX)) | (refine tWN ?_; clear HX; intro w mm HX; simp only [Act.put, k_a, k_b, k_c]) | (refine tWP ?_; clear HX; intro w av nv cv HX; simp only [Act.put, k_a, k_b, k_c]))
        go_ret
        exact ⟨_, rfl, HX.out.cut1⟩
      | true =>
        obtain rfl : ws = [path.data.toList, up] := HW2.out
        go_wp2_with (first | go_skip | refine uK ?_ | refine uL ?_ | refine uM ?_ | (refine uS ?_; clear HX; intro w HX) | (refine uA ?_; clear HX; (first | (have hq := b; clear hq; intro w b2 HX) | intro w b HX)) | (refine tWN ?_; clear HX; intro w mm HX; simp only [Act.put, k_a, k_b, k_c]) | (refine tWP ?_; clear HX; intro w av nv cv HX; simp only [Act.put, k_a, k_b, k_c]))
        go_ret
        refine ⟨_, rfl, ?_⟩
        rw [List.map_cons, List.map_cons, List.map_nil, HUS.out]
        exact HX.out.cut1.cut1
end
end Go.Proofs.YtbakgoncfggidaaGreatDoor

namespace Go.Av
open Go.RowKit
def wG (g : WaitG) : Nat := if g.x.fails then 0 else createsS g.x.ops
theorem wanted_gs (gs : List WaitG) : wantedW (gs.map WaitG.ent) = (gs.map wG).sum := by
  unfold wantedW
  rw [List.map_map]
  rfl
theorem sum_perm {a b : List Nat} (h : a.Perm b) : a.sum = b.sum := by
  induction h with
  | nil => rfl
  | cons x _ ih => rw [List.sum_cons, List.sum_cons, ih]
  | swap x y l => simp only [List.sum_cons]; omega
  | trans _ _ h1 h2 => exact h1.trans h2
end Go.Av
namespace Go.Proofs.YtbakgoncfggidaaGreatDoor
open Go.RowKit Go.Av
section
variable {w0 w : World} {b : Nat} {S : PartS} {P P' : List PRow} {R : List Thing} {rows : List (Value × Bs)}
def WtdRel (w0 : World) (mw r : Nat) (gs : List WaitG) (P : List PRow) (R : List Thing) (rows : List (Value × Bs)) (k : Nat) (v3 : Value) (w : World) : Prop :=
  ∃ left done : List WaitG, left.length = k ∧ (done ++ left).Perm gs ∧ v3 = .int .i64 ((done.map wG).sum : Nat) ∧ Sep w0 w (ThIter (.int .i64) mw r (gs.map WaitG.kv) (left.map WaitG.kv) :: ThPool w0 P :: R) rows
set_option maxRecDepth 100000 in
set_option maxHeartbeats 8000000 in
theorem wanted_any (h : Sep w0 w (ThPool w0 P :: ThPart b S P :: R) rows) (hW : wantedW S.wait ≤ 100000) (hO : ∀ e ∈ S.wait, e.2.ops.length ≤ 100000) :
    Calls Tryz.prog 23 #[.pointer (some ⟨b, 0, none⟩)] w fun e w' => e = .returned (.int .i64 (wantedW S.wait : Nat)) ∧ Sep w0 w' (ThPool w0 P :: ThPart b S P :: R) rows := by
  obtain ⟨t, lk, mw, md, mc, gs, hgs, hv, hS⟩ := pt_open h.up1
  rw [← hgs] at hW hO
  have HG := Lib.hid (show _ ∧ _ ∧ _ ∧ _ from ⟨hgs, hv, hW, hO⟩)
  obtain ⟨R', hR'⟩ : ∃ R', ThTree t S.t P :: ThLk lk S.held :: ThMap (.int .i64) md (S.decided.map ikv) :: ThMap (.int .i64) mc (S.closed.map ikv) :: R = R' := ⟨_, rfl⟩
  have HRR := Lib.hid hR'
  have h1 : Sep w0 w (ThMap (.int .i64) mw (gs.map WaitG.kv) :: ThPool w0 P :: ThCell b (.cells (ptCells S.t.room t lk S.zxid mw md mc) 128 (0, 0)) :: R') rows := by
    rw [← hR']
    exact hS.pm 7 [3, 6, 0, 1, 2, 4, 5] rfl rfl
  have HX := Lib.hid h1
  clear h hgs hv hS hR' h1 hW hO
  go_enter Tryz.func23, Tryz.ntmps23
  go_upto_region 2 with (first | go_skip | refine uK ?_ | refine uL ?_ | refine uM ?_ | (refine uS ?_; clear HX; intro w HX) | (refine uA ?_; clear HX; (first | (have hq := b; clear hq; intro w b2 HX) | intro w b HX)) | (refine tWN ?_; clear HX; intro w mm HX; simp only [Act.put, k_a, k_b, k_c]) | (refine tWP ?_; clear HX; intro w av nv cv HX; simp only [Act.put, k_a, k_b, k_c]))
  obtain ⟨r, w9, hrun, h9⟩ := it_start (P := Tryz.prog) HX.out Tryz.underlying125
  have HST := Lib.hid (show WtdRel w0 mw r gs P (ThCell b (.cells (ptCells S.t.room t lk S.zxid mw md mc) 128 (0, 0)) :: R') rows gs.length (.int .i64 (0 : Int)) w9 from ⟨gs, [], rfl, by simp, rfl, h9⟩)
  go_wp2_with (first | go_skip | refine uK ?_ | refine uL ?_ | refine uM ?_ | (refine uS ?_; clear HX; intro w HX) | (refine uA ?_; clear HX; (first | (have hq := b; clear hq; intro w b2 HX) | intro w b HX)) | (refine tWN ?_; clear HX; intro w mm HX; simp only [Act.put, k_a, k_b, k_c]) | (refine tWP ?_; clear HX; intro w av nv cv HX; simp only [Act.put, k_a, k_b, k_c]))
  clear HX hrun h9
  go_loopg [3, 5, 6, 7] gs.length (fun k v3 _ _ _ wr => WtdRel w0 mw r gs P (ThCell b (.cells (ptCells S.t.room t lk S.zxid mw md mc) 128 (0, 0)) :: R') rows k v3 wr)
  case atStart => exact HST.out
  case round =>
    obtain ⟨left, done, hk, hpm, rfl, hS⟩ := hrel
    clear HST
    rcases it_next (P := Tryz.prog) WaitG.kv hS with ⟨rfl, hn⟩ | ⟨l1, g, l2, w1, rfl, hn, h1, hen⟩
    · have HX := Lib.hid hS
      have HT := Lib.hid (show (done.map wG).sum = wantedW S.wait by rw [← HG.out.1, wanted_gs]; exact sum_perm ((by simpa using hpm : done.Perm gs).map wG))
      clear hS hk hpm
      go_wp2_with (first | go_skip | refine uK ?_ | refine uL ?_ | refine uM ?_ | (refine uS ?_; clear HX; intro w HX) | (refine uA ?_; clear HX; (first | (have hq := b; clear hq; intro w b2 HX) | intro w b HX)) | (refine tWN ?_; clear HX; intro w mm HX; simp only [Act.put, k_a, k_b, k_c]) | (refine tWP ?_; clear HX; intro w av nv cv HX; simp only [Act.put, k_a, k_b, k_c]))
      go_ret
      have h5 := it_end HX.out
      rw [← HRR.out] at h5
      refine ⟨by rw [HT.out]; rfl, ?_⟩
      exact (pt_shut (b := b) (t := t) (lk := lk) (mw := mw) (md := md) (mc := mc) (gs := gs) (S := S) (R := ThPool w0 P :: R) (h5.pm 7 [2, 3, 4, 0, 5, 6, 1] rfl rfl) HG.out.1 HG.out.2.1).up1
    · have hg : g ∈ gs := hpm.mem_iff.1 (by simp)
      have hgv := HG.out.2.1 g hg
      obtain ⟨E, hE⟩ := h1.up1.poolGet hgv
      obtain ⟨ga, gn, gc, hvs, -⟩ := ReadRow.some hE
      have htot : ((done ++ (l1 ++ g :: l2)).map wG).sum = wantedW (gs.map WaitG.ent) := by rw [wanted_gs]; exact sum_perm (hpm.map wG)
      have hbd : (done.map wG).sum + wG g ≤ 100000 := by
        have := HG.out.2.2.1
        rw [← htot] at this
        simp only [List.map_append, List.map_cons, List.sum_append, List.sum_cons] at this
        omega
      have hol := HG.out.2.2.2 g.ent (List.mem_map_of_mem hg)
      have HF := Lib.hid (show _ ∧ _ from ⟨hk, (show (done ++ [g] ++ (l1 ++ l2)).Perm gs from List.Perm.trans (by simp only [List.append_assoc]; refine List.Perm.append_left _ ?_; rw [List.singleton_append]; exact List.perm_middle.symm) hpm)⟩)
      have HS := Lib.hid (show ((done ++ [g]).map wG).sum = (done.map wG).sum + wG g by simp)
      have HX := Lib.hid h1
      clear hS h1 hk hpm hg hE htot
      obtain ⟨id, ⟨gs1, gops, gcl, gfa⟩, gv⟩ := g
      dsimp only [WaitG.kv, WaitG.ent] at hn hen hgv hvs hol HX
      subst hvs
      have HGV := Lib.hid (show _ ∧ _ from ⟨hgv, hol⟩)
      obtain ⟨sd, hsd⟩ : ∃ sd, (done.map wG).sum = sd := ⟨_, rfl⟩
      rw [hsd] at HS hbd ⊢
      clear hgv hol hsd
      cases gfa with
      | true =>
        go_wp2_with (first | go_skip | refine uK ?_ | refine uL ?_ | refine uM ?_ | (refine uS ?_; clear HX; intro w HX) | (refine uA ?_; clear HX; (first | (have hq := b; clear hq; intro w b2 HX) | intro w b HX)) | (refine tWN ?_; clear HX; intro w mm HX; simp only [Act.put, k_a, k_b, k_c]) | (refine tWP ?_; clear HX; intro w av nv cv HX; simp only [Act.put, k_a, k_b, k_c]))
        go_roundg (l1 ++ l2).length
        case rel =>
          refine ⟨l1 ++ l2, _, rfl, HF.out.2, by rw [HS.out]; rfl, HX.out.drop⟩
        case measure =>
          have := HF.out.1
          simp at this ⊢; omega
      | false =>
        have hb2 : sd + createsS gops ≤ 100000 := hbd
        clear hbd
        go_wp2_with (first | go_skip | refine uK ?_ | refine uL ?_ | refine uM ?_ | (refine uS ?_; clear HX; intro w HX) | (refine uA ?_; clear HX; (first | (have hq := b; clear hq; intro w b2 HX) | intro w b HX)) | (refine tWN ?_; clear HX; intro w mm HX; simp only [Act.put, k_a, k_b, k_c]) | (refine tWP ?_; clear HX; intro w av nv cv HX; simp only [Act.put, k_a, k_b, k_c]))
        refine (creates_any HX.out.up2 gops _ HGV.out.1 HGV.out.2).mono ?_
        rintro e w ⟨rfl, hx⟩
        clear HX
        have HX := Lib.hid hx
        clear hx
        obtain ⟨cc, hcc⟩ : ∃ cc, createsS gops = cc := ⟨_, rfl⟩
        rw [hcc] at hb2 ⊢
        have HCC := Lib.hid hcc
        clear hcc
        go_wp2_with (first | go_skip | refine uK ?_ | refine uL ?_ | refine uM ?_ | (refine uS ?_; clear HX; intro w HX) | (refine uA ?_; clear HX; (first | (have hq := b; clear hq; intro w b2 HX) | intro w b HX)) | (refine tWN ?_; clear HX; intro w mm HX; simp only [Act.put, k_a, k_b, k_c]) | (refine tWP ?_; clear HX; intro w av nv cv HX; simp only [Act.put, k_a, k_b, k_c]))
        go_roundg (l1 ++ l2).length
        case rel =>
          refine ⟨l1 ++ l2, _, rfl, HF.out.2, by rw [HS.out, show wG ⟨id, ⟨gs1, gops, gcl, false⟩, .slice ga gn gc⟩ = cc from HCC.out]; go_num, HX.out.cut1.up1⟩
        case measure =>
          have := HF.out.1
          simp at this ⊢; omega
def AnyRel (w0 : World) (mw r : Nat) (gs : List WaitG) (f : Int × WaitS → Bool) (R : List Thing) (rows : List (Value × Bs)) (k : Nat) (w : World) : Prop :=
  ∃ left : List WaitG, left.length = k ∧ (∀ g ∈ left, g ∈ gs) ∧ (∀ g ∈ gs, g ∈ left ∨ f g.ent = false) ∧ Sep w0 w (ThIter (.int .i64) mw r (gs.map WaitG.kv) (left.map WaitG.kv) :: R) rows
set_option maxRecDepth 100000 in
set_option maxHeartbeats 8000000 in
theorem uses_any (h : Sep w0 w (ThPool w0 P :: ThPart b S P :: R) rows) (sess : Int) :
    Calls Tryz.prog 77 #[.pointer (some ⟨b, 0, none⟩), .int .i64 sess] w fun e w' => e = .returned (.bool (usesW S.wait sess)) ∧ Sep w0 w' (ThPool w0 P :: ThPart b S P :: R) rows := by
  obtain ⟨t, lk, mw, md, mc, gs, hgs, hv, hS⟩ := pt_open h.up1
  have HG := Lib.hid (show _ ∧ _ from ⟨hgs, hv⟩)
  obtain ⟨R', hR'⟩ : ∃ R', ThTree t S.t P :: ThLk lk S.held :: ThMap (.int .i64) md (S.decided.map ikv) :: ThMap (.int .i64) mc (S.closed.map ikv) :: R = R' := ⟨_, rfl⟩
  have HRR := Lib.hid hR'
  have h1 : Sep w0 w (ThMap (.int .i64) mw (gs.map WaitG.kv) :: ThPool w0 P :: ThCell b (.cells (ptCells S.t.room t lk S.zxid mw md mc) 128 (0, 0)) :: R') rows := by
    rw [← hR']
    exact hS.pm 7 [3, 6, 0, 1, 2, 4, 5] rfl rfl
  have HX := Lib.hid h1
  obtain ⟨res, hres⟩ : ∃ res, usesW S.wait sess = res := ⟨_, rfl⟩
  rw [hres]
  have HRES := Lib.hid (show res = gs.any fun g => (fun e : Int × WaitS => e.2.sess == sess) g.ent by rw [← hres, ← hgs]; unfold usesW; rw [List.any_map]; rfl)
  clear h hgs hv hS hR' h1 hres
  go_enter Tryz.func77, Tryz.ntmps77
  go_upto_region 1 with (first | go_skip | refine uK ?_ | refine uL ?_ | refine uM ?_ | (refine uS ?_; clear HX; intro w HX) | (refine uA ?_; clear HX; (first | (have hq := b; clear hq; intro w b2 HX) | intro w b HX)) | (refine tWN ?_; clear HX; intro w mm HX; simp only [Act.put, k_a, k_b, k_c]) | (refine tWP ?_; clear HX; intro w av nv cv HX; simp only [Act.put, k_a, k_b, k_c]))
  obtain ⟨r, w9, hrun, h9⟩ := it_start (P := Tryz.prog) HX.out Tryz.underlying125
  have HST := Lib.hid (show AnyRel w0 mw r gs (fun e : Int × WaitS => e.2.sess == sess) (ThPool w0 P :: ThCell b (.cells (ptCells S.t.room t lk S.zxid mw md mc) 128 (0, 0)) :: R') rows gs.length w9 from ⟨gs, rfl, fun _ h => h, fun g hg => .inl hg, h9⟩)
  go_wp2_with (first | go_skip | refine uK ?_ | refine uL ?_ | refine uM ?_ | (refine uS ?_; clear HX; intro w HX) | (refine uA ?_; clear HX; (first | (have hq := b; clear hq; intro w b2 HX) | intro w b HX)) | (refine tWN ?_; clear HX; intro w mm HX; simp only [Act.put, k_a, k_b, k_c]) | (refine tWP ?_; clear HX; intro w av nv cv HX; simp only [Act.put, k_a, k_b, k_c]))
  clear HX hrun h9
  go_loopg [6] gs.length (fun k _ wr => AnyRel w0 mw r gs (fun e : Int × WaitS => e.2.sess == sess) (ThPool w0 P :: ThCell b (.cells (ptCells S.t.room t lk S.zxid mw md mc) 128 (0, 0)) :: R') rows k wr)
  case atStart => exact HST.out
  case round =>
    obtain ⟨left, hk, hin, hall, hS⟩ := hrel
    clear HST
    rcases it_next (P := Tryz.prog) WaitG.kv hS with ⟨rfl, hn⟩ | ⟨l1, g, l2, w1, rfl, hn, h1, hen⟩
    · have HX := Lib.hid hS
      obtain rfl : res = false := by
        rw [HRES.out, List.any_eq_false]
        intro g hg
        rcases hall g hg with h | h
        · cases h
        · exact fun hh => Bool.false_ne_true (h.symm.trans hh)
      clear hS hk hin hall
      go_wp2_with (first | go_skip | refine uK ?_ | refine uL ?_ | refine uM ?_ | (refine uS ?_; clear HX; intro w HX) | (refine uA ?_; clear HX; (first | (have hq := b; clear hq; intro w b2 HX) | intro w b HX)) | (refine tWN ?_; clear HX; intro w mm HX; simp only [Act.put, k_a, k_b, k_c]) | (refine tWP ?_; clear HX; intro w av nv cv HX; simp only [Act.put, k_a, k_b, k_c]))
      go_ret
      have h5 := it_end HX.out
      rw [← HRR.out] at h5
      refine ⟨rfl, ?_⟩
      exact (pt_shut (b := b) (t := t) (lk := lk) (mw := mw) (md := md) (mc := mc) (gs := gs) (S := S) (R := ThPool w0 P :: R) (h5.pm 7 [2, 3, 4, 0, 5, 6, 1] rfl rfl) HG.out.1 HG.out.2).up1
    · have hg := hin g (by simp)
      obtain ⟨E, hE⟩ := h1.up1.poolGet (HG.out.2 g hg)
      obtain ⟨ga, gn, gc, hvs, -⟩ := ReadRow.some hE
      have HF := Lib.hid (show _ ∧ _ ∧ _ from ⟨hk, hin, hall⟩)
      have HR := Lib.hid (show (fun e : Int × WaitS => e.2.sess == sess) g.ent = true → res = true from fun hf => by rw [HRES.out]; exact List.any_eq_true.2 ⟨g, hg, hf⟩)
      have HX := Lib.hid h1
      clear hS h1 hk hin hall hg hE
      obtain ⟨id, ⟨gs1, gops, gcl, gfa⟩, gv⟩ := g
      dsimp only [WaitG.kv, WaitG.ent] at hn hen hvs HX HR
      subst hvs
      by_cases hs : gs1 = sess
      · have q1 : (gs1 == sess) = true := by rw [hs]; exact beq_self_eq_true _
        have HFE := Lib.hid (show (gs1 == sess) = true from q1)
        obtain rfl : res = true := HR.out HFE.out
        go_wp2_with (first | go_skip | refine uK ?_ | refine uL ?_ | refine uM ?_ | (refine uS ?_; clear HX; intro w HX) | (refine uA ?_; clear HX; (first | (have hq := b; clear hq; intro w b2 HX) | intro w b HX)) | (refine tWN ?_; clear HX; intro w mm HX; simp only [Act.put, k_a, k_b, k_c]) | (refine tWP ?_; clear HX; intro w av nv cv HX; simp only [Act.put, k_a, k_b, k_c]))
        go_ret
        replace HX := Lib.hid HX.out.drop
        have h5 := it_end HX.out
        rw [← HRR.out] at h5
        refine ⟨rfl, ?_⟩
        exact (pt_shut (b := b) (t := t) (lk := lk) (mw := mw) (md := md) (mc := mc) (gs := gs) (S := S) (R := ThPool w0 P :: R) (h5.pm 7 [2, 3, 4, 0, 5, 6, 1] rfl rfl) HG.out.1 HG.out.2).up1
      · have q1 : (gs1 == sess) = false := by rw [beq_eq_false_iff_ne]; exact hs
        have HFE := Lib.hid (show (gs1 == sess) = false from q1)
        go_wp2_with (first | go_skip | refine uK ?_ | refine uL ?_ | refine uM ?_ | (refine uS ?_; clear HX; intro w HX) | (refine uA ?_; clear HX; (first | (have hq := b; clear hq; intro w b2 HX) | intro w b HX)) | (refine tWN ?_; clear HX; intro w mm HX; simp only [Act.put, k_a, k_b, k_c]) | (refine tWP ?_; clear HX; intro w av nv cv HX; simp only [Act.put, k_a, k_b, k_c]))
        go_roundg (l1 ++ l2).length
        case rel =>
          obtain ⟨hk, hin, hall⟩ := HF.out
          refine ⟨l1 ++ l2, rfl, fun x hx => hin x ?_, fun x hx => ?_, HX.out.drop⟩
          · rcases List.mem_append.1 hx with h | h <;> simp [h]
          · rcases hall x hx with h | h
            · rcases List.mem_append.1 h with h | h
              · exact .inl (List.mem_append_left _ h)
              · rcases List.mem_cons.1 h with rfl | h
                · exact .inr HFE.out
                · exact .inl (List.mem_append_right _ h)
            · exact .inr h
        case measure =>
          obtain ⟨hk, hin, hall⟩ := HF.out
          simp at hk ⊢; omega
set_option maxRecDepth 100000 in
set_option maxHeartbeats 8000000 in
theorem closing_any (h : Sep w0 w (ThPool w0 P :: ThPart b S P :: R) rows) (sess : Int) :
    Calls Tryz.prog 147 #[.pointer (some ⟨b, 0, none⟩), .int .i64 sess] w fun e w' => e = .returned (.bool (closingW S.wait sess)) ∧ Sep w0 w' (ThPool w0 P :: ThPart b S P :: R) rows := by
  obtain ⟨t, lk, mw, md, mc, gs, hgs, hv, hS⟩ := pt_open h.up1
  have HG := Lib.hid (show _ ∧ _ from ⟨hgs, hv⟩)
  obtain ⟨R', hR'⟩ : ∃ R', ThTree t S.t P :: ThLk lk S.held :: ThMap (.int .i64) md (S.decided.map ikv) :: ThMap (.int .i64) mc (S.closed.map ikv) :: R = R' := ⟨_, rfl⟩
  have HRR := Lib.hid hR'
  have h1 : Sep w0 w (ThMap (.int .i64) mw (gs.map WaitG.kv) :: ThPool w0 P :: ThCell b (.cells (ptCells S.t.room t lk S.zxid mw md mc) 128 (0, 0)) :: R') rows := by
    rw [← hR']
    exact hS.pm 7 [3, 6, 0, 1, 2, 4, 5] rfl rfl
  have HX := Lib.hid h1
  obtain ⟨res, hres⟩ : ∃ res, closingW S.wait sess = res := ⟨_, rfl⟩
  rw [hres]
  have HRES := Lib.hid (show res = gs.any fun g => (fun e : Int × WaitS => e.2.close && e.2.sess == sess) g.ent by rw [← hres, ← hgs]; unfold closingW; rw [List.any_map]; rfl)
  clear h hgs hv hS hR' h1 hres
  go_enter Tryz.func147, Tryz.ntmps147
  go_upto_region 1 with (first | go_skip | refine uK ?_ | refine uL ?_ | refine uM ?_ | (refine uS ?_; clear HX; intro w HX) | (refine uA ?_; clear HX; (first | (have hq := b; clear hq; intro w b2 HX) | intro w b HX)) | (refine tWN ?_; clear HX; intro w mm HX; simp only [Act.put, k_a, k_b, k_c]) | (refine tWP ?_; clear HX; intro w av nv cv HX; simp only [Act.put, k_a, k_b, k_c]))
  obtain ⟨r, w9, hrun, h9⟩ := it_start (P := Tryz.prog) HX.out Tryz.underlying125
  have HST := Lib.hid (show AnyRel w0 mw r gs (fun e : Int × WaitS => e.2.close && e.2.sess == sess) (ThPool w0 P :: ThCell b (.cells (ptCells S.t.room t lk S.zxid mw md mc) 128 (0, 0)) :: R') rows gs.length w9 from ⟨gs, rfl, fun _ h => h, fun g hg => .inl hg, h9⟩)
  go_wp2_with (first | go_skip | refine uK ?_ | refine uL ?_ | refine uM ?_ | (refine uS ?_; clear HX; intro w HX) | (refine uA ?_; clear HX; (first | (have hq := b; clear hq; intro w b2 HX) | intro w b HX)) | (refine tWN ?_; clear HX; intro w mm HX; simp only [Act.put, k_a, k_b, k_c]) | (refine tWP ?_; clear HX; intro w av nv cv HX; simp only [Act.put, k_a, k_b, k_c]))
  clear HX hrun h9
  go_loopg [6] gs.length (fun k _ wr => AnyRel w0 mw r gs (fun e : Int × WaitS => e.2.close && e.2.sess == sess) (ThPool w0 P :: ThCell b (.cells (ptCells S.t.room t lk S.zxid mw md mc) 128 (0, 0)) :: R') rows k wr)
  case atStart => exact HST.out
  case round =>
    obtain ⟨left, hk, hin, hall, hS⟩ := hrel
    clear HST
    rcases it_next (P := Tryz.prog) WaitG.kv hS with ⟨rfl, hn⟩ | ⟨l1, g, l2, w1, rfl, hn, h1, hen⟩
    · have HX := Lib.hid hS
      obtain rfl : res = false := by
        rw [HRES.out, List.any_eq_false]
        intro g hg
        rcases hall g hg with h | h
        · cases h
        · exact fun hh => Bool.false_ne_true (h.symm.trans hh)
      clear hS hk hin hall
      go_wp2_with (first | go_skip | refine uK ?_ | refine uL ?_ | refine uM ?_ | (refine uS ?_; clear HX; intro w HX) | (refine uA ?_; clear HX; (first | (have hq := b; clear hq; intro w b2 HX) | intro w b HX)) | (refine tWN ?_; clear HX; intro w mm HX; simp only [Act.put, k_a, k_b, k_c]) | (refine tWP ?_; clear HX; intro w av nv cv HX; simp only [Act.put, k_a, k_b, k_c]))
      go_ret
      have h5 := it_end HX.out
      rw [← HRR.out] at h5
      refine ⟨rfl, ?_⟩
      exact (pt_shut (b := b) (t := t) (lk := lk) (mw := mw) (md := md) (mc := mc) (gs := gs) (S := S) (R := ThPool w0 P :: R) (h5.pm 7 [2, 3, 4, 0, 5, 6, 1] rfl rfl) HG.out.1 HG.out.2).up1
    · have hg := hin g (by simp)
      obtain ⟨E, hE⟩ := h1.up1.poolGet (HG.out.2 g hg)
      obtain ⟨ga, gn, gc, hvs, -⟩ := ReadRow.some hE
      have HF := Lib.hid (show _ ∧ _ ∧ _ from ⟨hk, hin, hall⟩)
      have HR := Lib.hid (show (fun e : Int × WaitS => e.2.close && e.2.sess == sess) g.ent = true → res = true from fun hf => by rw [HRES.out]; exact List.any_eq_true.2 ⟨g, hg, hf⟩)
      have HX := Lib.hid h1
      clear hS h1 hk hin hall hg hE
      obtain ⟨id, ⟨gs1, gops, gcl, gfa⟩, gv⟩ := g
      dsimp only [WaitG.kv, WaitG.ent] at hn hen hvs HX HR
      subst hvs
      cases gcl with
      | false =>
        have HFE := Lib.hid (show (false && gs1 == sess) = false from rfl)
        go_wp2_with (first | go_skip | refine uK ?_ | refine uL ?_ | refine uM ?_ | (refine uS ?_; clear HX; intro w HX) | (refine uA ?_; clear HX; (first | (have hq := b; clear hq; intro w b2 HX) | intro w b HX)) | (refine tWN ?_; clear HX; intro w mm HX; simp only [Act.put, k_a, k_b, k_c]) | (refine tWP ?_; clear HX; intro w av nv cv HX; simp only [Act.put, k_a, k_b, k_c]))
        go_roundg (l1 ++ l2).length
        case rel =>
          obtain ⟨hk, hin, hall⟩ := HF.out
          refine ⟨l1 ++ l2, rfl, fun x hx => hin x ?_, fun x hx => ?_, HX.out.drop⟩
          · rcases List.mem_append.1 hx with h | h <;> simp [h]
          · rcases hall x hx with h | h
            · rcases List.mem_append.1 h with h | h
              · exact .inl (List.mem_append_left _ h)
              · rcases List.mem_cons.1 h with rfl | h
                · exact .inr HFE.out
                · exact .inl (List.mem_append_right _ h)
            · exact .inr h
        case measure =>
          obtain ⟨hk, hin, hall⟩ := HF.out
          simp at hk ⊢; omega
      | true =>
        by_cases hs : gs1 = sess
        · have q1 : (gs1 == sess) = true := by rw [hs]; exact beq_self_eq_true _
          have HFE := Lib.hid (show (true && gs1 == sess) = true by rw [q1]; rfl)
          obtain rfl : res = true := HR.out HFE.out
          go_wp2_with (first | go_skip | refine uK ?_ | refine uL ?_ | refine uM ?_ | (refine uS ?_; clear HX; intro w HX) | (refine uA ?_; clear HX; (first | (have hq := b; clear hq; intro w b2 HX) | intro w b HX)) | (refine tWN ?_; clear HX; intro w mm HX; simp only [Act.put, k_a, k_b, k_c]) | (refine tWP ?_; clear HX; intro w av nv cv HX; simp only [Act.put, k_a, k_b, k_c]))
          go_ret
          replace HX := Lib.hid HX.out.drop
          have h5 := it_end HX.out
          rw [← HRR.out] at h5
          refine ⟨rfl, ?_⟩
          exact (pt_shut (b := b) (t := t) (lk := lk) (mw := mw) (md := md) (mc := mc) (gs := gs) (S := S) (R := ThPool w0 P :: R) (h5.pm 7 [2, 3, 4, 0, 5, 6, 1] rfl rfl) HG.out.1 HG.out.2).up1
        · have q1 : (gs1 == sess) = false := by rw [beq_eq_false_iff_ne]; exact hs
          have HFE := Lib.hid (show (true && gs1 == sess) = false by rw [q1]; rfl)
          go_wp2_with (first | go_skip | refine uK ?_ | refine uL ?_ | refine uM ?_ | (refine uS ?_; clear HX; intro w HX) | (refine uA ?_; clear HX; (first | (have hq := b; clear hq; intro w b2 HX) | intro w b HX)) | (refine tWN ?_; clear HX; intro w mm HX; simp only [Act.put, k_a, k_b, k_c]) | (refine tWP ?_; clear HX; intro w av nv cv HX; simp only [Act.put, k_a, k_b, k_c]))
          go_roundg (l1 ++ l2).length
          case rel =>
            obtain ⟨hk, hin, hall⟩ := HF.out
            refine ⟨l1 ++ l2, rfl, fun x hx => hin x ?_, fun x hx => ?_, HX.out.drop⟩
            · rcases List.mem_append.1 hx with h | h <;> simp [h]
            · rcases hall x hx with h | h
              · rcases List.mem_append.1 h with h | h
                · exact .inl (List.mem_append_left _ h)
                · rcases List.mem_cons.1 h with rfl | h
                  · exact .inr HFE.out
                  · exact .inl (List.mem_append_right _ h)
              · exact .inr h
          case measure =>
            obtain ⟨hk, hin, hall⟩ := HF.out
            simp at hk ⊢; omega
end
end Go.Proofs.YtbakgoncfggidaaGreatDoor

namespace Go.Proofs.YtbakgoncfggidaaGreatDoor
open Go.RowKit Go.Av
section
variable {w0 w : World} {b : Nat} {S : PartS} {P P' : List PRow} {R : List Thing} {rows : List (Value × Bs)}
abbrev cloTh (b b4 b5 : Nat) (id : Int) (S : PartS) (P : List PRow) (R : List Thing) : List Thing := ThCell b5 (.cells #[.int .i64 id] 2 (0, 0)) :: ThCell b4 (.cells #[.pointer (some ⟨b, 0, none⟩)] 24 (0, 0)) :: ThPart b S P :: R
set_option maxRecDepth 100000 in
set_option maxHeartbeats 4000000 in
theorem clo_any {b4 b5 : Nat} {id : Int} (h : Sep w0 w (cloTh b b4 b5 id S P R) rows) (hd : DoorN w0) (p : ByteArray) (hp : p.size ≤ 100000) (hH : ∀ e ∈ S.held, e.1.length ≤ 100000) :
    Calls Tryz.prog 149 #[.string p, .pointer (some ⟨b4, 0, none⟩), .pointer (some ⟨b5, 0, none⟩)] w fun e w' => e = .returned (.bool (blocksS S.held id p.data.toList)) ∧ Sep w0 w' (cloTh b b4 b5 id S P R) rows := by
  obtain ⟨t, lk, mw, md, mc, gs, h1, h2, hS⟩ := pt_open h.up2
  have HG := Lib.hid (show _ ∧ _ from ⟨h1, h2⟩)
  obtain ⟨R', hR'⟩ : ∃ R', ThTree t S.t P :: ThMap (.int .i64) mw (gs.map WaitG.kv) :: ThMap (.int .i64) md (S.decided.map ikv) :: ThMap (.int .i64) mc (S.closed.map ikv) :: R = R' := ⟨_, rfl⟩
  have h3 : Sep w0 w (ThLk lk S.held :: ThCell b5 (.cells #[.int .i64 id] 2 (0, 0)) :: ThCell b4 (.cells #[.pointer (some ⟨b, 0, none⟩)] 24 (0, 0)) :: ThCell b (.cells (ptCells S.t.room t lk S.zxid mw md mc) 128 (0, 0)) :: R') rows := by
    rw [← hR']
    exact hS.pm 8 [2, 6, 7, 0, 1, 3, 4, 5] rfl rfl
  have HRR := Lib.hid hR'
  have HX := Lib.hid h3
  clear h h1 h2 hS h3 hR'
  go_enter Tryz.func149, Tryz.ntmps149
  go_wp2_with (first | go_skip | refine uK ?_ | refine uL ?_ | refine uM ?_ | (refine uS ?_; clear HX; intro w HX) | (refine uA ?_; clear HX; (first | (have hq := b5; clear hq; intro w b6 HX) | (have hq := b4; clear hq; intro w b5 HX) | (have hq := b3; clear hq; intro w b4 HX) | (have hq := b2; clear hq; intro w b3 HX) | (have hq := b; clear hq; intro w b2 HX) | intro w b HX)) | (refine tWN ?_; clear HX; intro w mm HX; simp only [Act.put, k_a, k_b, k_c]) | (refine tWP ?_; clear HX; intro w av nv cv HX; simp only [Act.put, k_a, k_b, k_c]))
  refine wp_region_M (fun W => Sep w0 W (ThLk lk S.held :: ThCell b5 (.cells #[.int .i64 id] 2 (0, 0)) :: ThCell b4 (.cells #[.pointer (some ⟨b, 0, none⟩)] 24 (0, 0)) :: ThCell b (.cells (ptCells S.t.room t lk S.zxid mw md mc) 128 (0, 0)) :: R') rows) 7 (by kernel_rfl) ?_
  have KEEPX : ∀ W, Sep w0 W (ThLk lk S.held :: ThCell b5 (.cells #[.int .i64 id] 2 (0, 0)) :: ThCell b4 (.cells #[.pointer (some ⟨b, 0, none⟩)] 24 (0, 0)) :: ThCell b (.cells (ptCells S.t.room t lk S.zxid mw md mc) 128 (0, 0)) :: R') rows → Sep w0 W (ThLk lk S.held :: ThCell b5 (.cells #[.int .i64 id] 2 (0, 0)) :: ThCell b4 (.cells #[.pointer (some ⟨b, 0, none⟩)] 24 (0, 0)) :: ThCell b (.cells (ptCells S.t.room t lk S.zxid mw md mc) 128 (0, 0)) :: R') rows := fun _ h => h
  replace HX := Lib.hid HX.out.drew
  refine wpAnyM_take (by kernel_rfl) (by intro c a d v w h; cases d <;> exact h) [(0, true), (1, false), (2, false), (3, true), (4, true), (5, false)] (fuel := 2) (by kernel_rfl) ?_
  apply Exists.intro; refine ⟨?_, HX.out, ?_⟩
  · iterate 6 (refine xE ?_)
    exact rfl
  refine wpAnyM_one (fuel := 1) (i := 6) (by kernel_rfl) (by (simp only [k_i, k_j, k_k]; try rfl)) (fun K hK => ?_)
  go_wp2_with fail
  refine (blocks_any HX.out hd id p hp hH).mono ?_
  rintro e w ⟨rfl, hx⟩
  clear HX
  have HX := Lib.hid hx
  clear hx
  go_wp2_with fail
  refine hK _ _ HX.out ?_
  clear hK
  refine wpAnyM_of_any _ _ _ _ (by decide) ?_
  refine wpAny_list [7] (fuel := 0) (by kernel_rfl) ?_
  simp only [List.filterMap_cons, List.filterMap_nil, k_i, k_j, k_k]
  go_wp2_with fail
  go_ret
  have h5 := HX.out
  rw [← HRR.out] at h5
  exact ⟨rfl, (pt_shut (b := b) (t := t) (lk := lk) (mw := mw) (md := md) (mc := mc) (gs := gs) (S := S) (R := ThCell b5 _ :: ThCell b4 _ :: R) (h5.pm 8 [3, 4, 0, 5, 6, 7, 1, 2] rfl rfl) HG.out.1 HG.out.2).pm 3 [1, 2, 0] rfl rfl⟩
abbrev cloV (b4 b5 : Nat) : Value := .func (.func 149) #[] #[.pointer (some ⟨b4, 0, none⟩), .pointer (some ⟨b5, 0, none⟩)]
def CloPost (w0 : World) (R : List Thing) (rows : List (Value × Bs)) (z : Bool) (e : Ending) (w' : World) : Prop :=
  ∃ r : Int, e = .returned (.int .i64 r) ∧ decide (0 ≤ r) = z ∧ Sep w0 w' R rows
set_option maxRecDepth 100000 in
set_option maxHeartbeats 2000000 in
theorem idxclo_any {b4 b5 : Nat} {id : Int} (h : Sep w0 w (ThPool w0 P :: cloTh b b4 b5 id S P R) rows) (hd : DoorN w0) (ws : List Bs) (v : Value) (hv : (1, v, ws.map sv) ∈ P) (hp : ∀ p ∈ ws, p.length ≤ 100000) (hH : ∀ e ∈ S.held, e.1.length ≤ 100000) (hn : ws.length ≤ 100000) :
    Calls Tryz.prog 190 #[v, cloV b4 b5] w (CloPost w0 (ThPool w0 P :: cloTh b b4 b5 id S P R) rows (ws.any fun p => blocksS S.held id p)) := by
  obtain ⟨E, hE⟩ := h.poolGet hv
  obtain ⟨a, n, c, rfl, hl0, -, -, hne⟩ := ReadRow.some hE
  rw [List.length_map, Nat.mul_one] at hl0
  subst hl0
  have HNE := Lib.hid hne
  have HV := Lib.hid (show _ ∧ _ from ⟨hv, hp⟩)
  have HX := Lib.hid h
  clear h hE hne hv hp
  go_enter Tryz.func190, Tryz.ntmps190
  go_wp2_with (first | go_skip | refine uK ?_ | refine uL ?_ | refine uM ?_ | (refine uS ?_; clear HX; intro w HX) | (refine uA ?_; clear HX; (first | (have hq := b5; clear hq; intro w b6 HX) | (have hq := b4; clear hq; intro w b5 HX) | (have hq := b3; clear hq; intro w b4 HX) | (have hq := b2; clear hq; intro w b3 HX) | (have hq := b; clear hq; intro w b2 HX) | intro w b HX)) | (refine tWN ?_; clear HX; intro w mm HX; simp only [Act.put, k_a, k_b, k_c]) | (refine tWP ?_; clear HX; intro w av nv cv HX; simp only [Act.put, k_a, k_b, k_c]))
  go_loopg [5, 8] ws.length (fun k _ v wr => ∃ i : Nat, i + k = ws.length ∧ v = .int .i64 (i : Int) ∧ (∀ p ∈ ws.take i, blocksS S.held id p = false) ∧ Sep w0 wr (ThPool w0 P :: cloTh b b4 b5 id S P R) rows)
  case atStart => exact ⟨0, by simp, rfl, by simp, HX.out⟩
  case round =>
    rename World => w
    obtain ⟨i, hik, rfl, hno, hS⟩ := hrel
    clear HX
    have HX := Lib.hid hS
    have HNO := Lib.hid hno
    clear hS hno
    by_cases hlt : i < ws.length
    case neg =>
      obtain rfl : i = ws.length := by omega
      clear hlt hik
      go_wp2_with (first | go_skip | refine uK ?_ | refine uL ?_ | refine uM ?_ | (refine uS ?_; clear HX; intro w HX) | (refine uA ?_; clear HX; (first | (have hq := b5; clear hq; intro w b6 HX) | (have hq := b4; clear hq; intro w b5 HX) | (have hq := b3; clear hq; intro w b4 HX) | (have hq := b2; clear hq; intro w b3 HX) | (have hq := b; clear hq; intro w b2 HX) | intro w b HX)) | (refine tWN ?_; clear HX; intro w mm HX; simp only [Act.put, k_a, k_b, k_c]) | (refine tWP ?_; clear HX; intro w av nv cv HX; simp only [Act.put, k_a, k_b, k_c]))
      go_ret
      have h1 := HNO.out
      rw [List.take_length] at h1
      exact ⟨-1, rfl, by rw [List.any_eq_false.2 fun o ho => by simp [h1 o ho]]; rfl, HX.out⟩
    case pos =>
      obtain ⟨g, off, rfl⟩ := HNE.out (by intro e; rw [List.map_eq_nil_iff] at e; rw [e] at hlt; simp at hlt)
      obtain ⟨E, hE⟩ := HX.out.poolGet HV.out.1
      have hl := row_load1 (P := Tryz.prog) (ty := 9) (i := i) (v := sv ws[i]) hE (by kernel_rfl) (by simp [hlt])
      have HTK := Lib.hid (show ws.take (i + 1) = ws.take i ++ [ws[i]] from List.take_succ_eq_append_getElem hlt)
      have HIN := Lib.hid (show ws[i] ∈ ws from List.getElem_mem hlt)
      obtain ⟨p, hp⟩ : ∃ p, ws[i] = p := ⟨_, rfl⟩
      rw [hp] at hl HTK HIN
      have HPS := Lib.hid (HV.out.2 p HIN.out)
      have q0 : decide (i < ws.length) = true := decide_eq_true hlt
      unfold sv at hl
      clear hE hp
      go_wp2_with (first | go_skip | refine uK ?_ | refine uL ?_ | refine uM ?_ | (refine uS ?_; clear HX; intro w HX) | (refine uA ?_; clear HX; (first | (have hq := b5; clear hq; intro w b6 HX) | (have hq := b4; clear hq; intro w b5 HX) | (have hq := b3; clear hq; intro w b4 HX) | (have hq := b2; clear hq; intro w b3 HX) | (have hq := b; clear hq; intro w b2 HX) | intro w b HX)) | (refine tWN ?_; clear HX; intro w mm HX; simp only [Act.put, k_a, k_b, k_c]) | (refine tWP ?_; clear HX; intro w av nv cv HX; simp only [Act.put, k_a, k_b, k_c]) | ((with_reducible apply sx_loadAt hl); (· rfl); (· rfl); simp only [Act.put, k_a, k_b, k_c]))
      refine (clo_any (HX.out.pm 4 [1, 2, 3, 0] rfl rfl : Sep w0 _ (cloTh b b4 b5 id S P (ThPool w0 P :: R)) rows) hd ⟨p.toArray⟩ (by show p.toArray.size ≤ _; rw [List.size_toArray]; exact HPS.out) hH).mono ?_
      have e1 : (⟨p.toArray⟩ : ByteArray).data.toList = p := rfl
      rw [e1]
      obtain ⟨z, hz⟩ : ∃ z, blocksS S.held id p = z := ⟨_, rfl⟩
      rw [hz]
      rintro e w ⟨rfl, hx⟩
      clear HX hl e1
      have HX := Lib.hid (show Sep w0 w (ThPool w0 P :: cloTh b b4 b5 id S P R) rows from hx.pm 4 [3, 0, 1, 2] rfl rfl)
      have HZ := Lib.hid hz
      clear hx hz
      cases z with
      | true =>
        go_wp2_with (first | go_skip | refine uK ?_ | refine uL ?_ | refine uM ?_ | (refine uS ?_; clear HX; intro w HX) | (refine uA ?_; clear HX; (first | (have hq := b5; clear hq; intro w b6 HX) | (have hq := b4; clear hq; intro w b5 HX) | (have hq := b3; clear hq; intro w b4 HX) | (have hq := b2; clear hq; intro w b3 HX) | (have hq := b; clear hq; intro w b2 HX) | intro w b HX)) | (refine tWN ?_; clear HX; intro w mm HX; simp only [Act.put, k_a, k_b, k_c]) | (refine tWP ?_; clear HX; intro w av nv cv HX; simp only [Act.put, k_a, k_b, k_c]))
        go_ret
        refine ⟨(i : Int), rfl, ?_, HX.out⟩
        rw [List.any_eq_true.2 ⟨p, HIN.out, HZ.out⟩]
        exact decide_eq_true (by omega)
      | false =>
        go_wp2_with (first | go_skip | refine uK ?_ | refine uL ?_ | refine uM ?_ | (refine uS ?_; clear HX; intro w HX) | (refine uA ?_; clear HX; (first | (have hq := b5; clear hq; intro w b6 HX) | (have hq := b4; clear hq; intro w b5 HX) | (have hq := b3; clear hq; intro w b4 HX) | (have hq := b2; clear hq; intro w b3 HX) | (have hq := b; clear hq; intro w b2 HX) | intro w b HX)) | (refine tWN ?_; clear HX; intro w mm HX; simp only [Act.put, k_a, k_b, k_c]) | (refine tWP ?_; clear HX; intro w av nv cv HX; simp only [Act.put, k_a, k_b, k_c]))
        go_roundg (ws.length - (i + 1))
        case rel => exact ⟨i + 1, by omega, by go_num, by
          rw [HTK.out]
          intro q hq
          rcases List.mem_append.1 hq with hq | hq
          · exact HNO.out q hq
          · rw [List.mem_singleton] at hq; rw [hq]; exact HZ.out, HX.out⟩
        case measure => omega
set_option maxRecDepth 100000 in
theorem contclo_any {b4 b5 : Nat} {id : Int} (h : Sep w0 w (ThPool w0 P :: cloTh b b4 b5 id S P R) rows) (hd : DoorN w0) (ws : List Bs) (v : Value) (hv : (1, v, ws.map sv) ∈ P) (hp : ∀ p ∈ ws, p.length ≤ 100000) (hH : ∀ e ∈ S.held, e.1.length ≤ 100000) (hn : ws.length ≤ 100000) :
    Calls Tryz.prog 148 #[v, cloV b4 b5] w fun e w' => e = .returned (.bool (ws.any fun p => blocksS S.held id p)) ∧ Sep w0 w' (ThPool w0 P :: cloTh b b4 b5 id S P R) rows := by
  have HC := Lib.hid (idxclo_any h hd ws v hv hp hH hn)
  clear h hv hn hp
  obtain ⟨z, hz⟩ : ∃ z, (ws.any fun p => blocksS S.held id p) = z := ⟨_, rfl⟩
  rw [hz] at HC ⊢
  clear hz
  go_enter Tryz.func148, Tryz.ntmps148
  go_wp2_with fail
  refine HC.out.mono ?_
  rintro e w ⟨r, rfl, hr, hS⟩
  have HX := Lib.hid hS
  clear hS HC
  go_wp2_with fail
  go_ret
  refine ⟨?_, HX.out⟩
  rw [← hr]
  rfl
theorem num_look {d : List Int} {m : Nat} (h : Sep w0 w (ThMap (.int .i64) m (d.map ikv) :: R) rows) (i : Int) : (Instr.lookup 126 (.map (some m)) (.int .i64 i) false).run Tryz.prog w = .ok (.bool (decide (i ∈ d))) w := by
  have hM := h.mapIs
  by_cases hi : i ∈ d
  · rw [decide_eq_true hi]
    exact mp_look hM Tryz.underlying126 Tryz.underlying2 (key := .int .i64 i) (by first | trivial | rfl | exact ⟨_, rfl⟩) (List.mem_map.2 ⟨i, hi, rfl⟩) false
  · rw [decide_eq_false hi]
    refine mp_lookN hM Tryz.underlying126 Tryz.underlying2 (key := .int .i64 i) (by first | trivial | rfl | exact ⟨_, rfl⟩) (fun q hq e => ?_) (by kernel_rfl) false
    obtain ⟨j, hj, rfl⟩ := List.mem_map.1 hq
    simp only [ikv, Value.int.injEq, true_and] at e
    exact hi (e ▸ hj)
end
end Go.Proofs.YtbakgoncfggidaaGreatDoor

namespace Go.Proofs.YtbakgoncfggidaaGreatDoor
open Go.RowKit Go.Av
section
variable {w0 w : World} {t : Nat} {S : TreeS} {P P' : List PRow} {R : List Thing} {rows : List (Value × Bs)}
set_option maxRecDepth 100000 in
set_option maxHeartbeats 1000000 in
theorem treenew_any (h : Sep w0 w (ThPool w0 P :: R) rows) (room : Int) (h1 : 1 ≤ room) (h2 : room ≤ 500) :
    Calls Tryz.prog 66 #[.int .i64 room] w fun e w' => ∃ t, e = .returned (.tuple #[.pointer (some ⟨t, 0, none⟩), .int .i64 0]) ∧ Sep w0 w' (ThPool w0 P :: ThTree t ⟨room, []⟩ P :: R) rows := by
  have h3 := (h.newMap .string).newCell (.cells #[.int .i64 room, .map (some w.heap.size)] 156 (0, 0))
  rw [show (w.alloc (.map #[] 0)).heap.size = w.heap.size + 1 by simp] at h3
  have H := Lib.hid h3
  have hmm := @run_makeMap Tryz.prog
  have q1 : decide (room < 1) = false := decide_eq_false (by omega)
  have q2 : decide (500 < room) = false := decide_eq_false (by omega)
  clear h h3
  go_enter Tryz.func66, Tryz.ntmps66
  go_wp2_with fail
  go_ret2
  refine ⟨_, rfl, ?_⟩
  have h4 := Sep.shut (O := TrO (w.heap.size + 1) ⟨room, []⟩ P) (L := trTh (w.heap.size + 1) w.heap.size room []) ⟨w.heap.size, [], rfl, List.Perm.refl _, List.Pairwise.nil, fun g hg => by cases hg⟩ H.out
  exact h4.perm (List.Perm.swap _ _ _)
set_option maxRecDepth 100000 in
theorem treelen_any (h : Sep w0 w (ThTree t S P :: R) rows) : Calls Tryz.prog 29 #[.pointer (some ⟨t, 0, none⟩)] w fun e w' => e = .returned (.int .i64 (S.l.length : Nat)) ∧ Upd w w' [] [] := by
  obtain ⟨m, -, hm1, -, -, hlen⟩ := tree_facts h
  have hl := hlen 3 w rfl
  clear h hlen
  go_enter Tryz.func29, Tryz.ntmps29
  go_wp2_with fail
  go_ret
  exact ⟨rfl, Upd.refl _ _⟩
def GotPost (w0 : World) (t : Nat) (S : TreeS) (P : List PRow) (R : List Thing) (rows : List (Value × Bs)) (n : NodeS) (e : Ending) (w' : World) : Prop :=
  ∃ nv P', e = .returned (.tuple #[n.val nv, .bool true]) ∧ (∀ q ∈ P, q ∈ P') ∧ (1, nv, n.names.map sv) ∈ P' ∧ Sep w0 w' (ThPool w0 P' :: ThTree t S P' :: R) rows
set_option maxRecDepth 100000 in
set_option maxHeartbeats 4000000 in
theorem treenode_some (h : Sep w0 w (ThPool w0 P :: ThTree t S P :: R) rows) (s : ByteArray) (n : NodeS) (hl : lookT s.data.toList S.l = some n) (hok : NodeOk n) :
    Calls Tryz.prog 90 #[.pointer (some ⟨t, 0, none⟩), .string s] w (GotPost w0 t S P R rows n) := by
  have hA := h.newCell (.cells #[.int .i64 0, .int .i64 0, .int .i64 0, .int .i64 0, .int .i64 0, .int .i64 0, .int .i64 0, .string ⟨#[]⟩, .int .i64 0, .slice none 0 0] 162)
  obtain ⟨m, -, hm1, -, hsome, -⟩ := tree_facts (hA.pick 2 rfl rfl)
  obtain ⟨x, nv, hnv, hb, hk0⟩ := hsome s n hl
  obtain ⟨wA, hwA⟩ : ∃ wA, wA = w.alloc (.cells #[.int .i64 0, .int .i64 0, .int .i64 0, .int .i64 0, .int .i64 0, .int .i64 0, .int .i64 0, .string ⟨#[]⟩, .int .i64 0, .slice none 0 0] 162) := ⟨_, rfl⟩
  rw [← hwA] at hA hm1 hb hk0
  have hk := hk0 wA rfl
  obtain ⟨E, hE⟩ := (hA.pick 1 rfl rfl).poolGet hnv
  have HCP := Lib.hid (copied_any n nv wA E hE hok.few)
  unfold CopPost NodeS.val NodeS.cells at HCP
  obtain ⟨n0, n1, n2, n3, n4, n5, n6, n7, n8, n9⟩ := node_cells hb
  obtain ⟨na, nn, nc, rfl, -⟩ := id hE
  have HA := Lib.hid hA
  have HWA := Lib.hid hwA
  clear h hA hsome hnv hb hk0 hE hl hwA
  go_enter Tryz.func90, Tryz.ntmps90
  go_upto_region 1 with fail
  rw [← HWA.out]
  go_wp2_with fail
  refine HCP.out.mono ?_
  rintro e w2 ⟨v2, D2, rfl, ho2, hu2⟩
  obtain ⟨a2, l2, k2, rfl, -⟩ := id ho2
  have h8 := ((((HA.out.addRow ho2 hu2).pick 2 rfl rfl).perm (List.Perm.swap _ _ _)).poolRow).pick 2 rfl rfl
  have HX := Lib.hid ((tree_mono h8 (P' := (1, .slice a2 l2 k2, n.names.map sv) :: P) (fun q hq => k_n _ hq)).perm ((List.Perm.cons _ (List.Perm.swap _ _ _)).trans (List.perm_middle (l₁ := [_, _])).symm))
  clear h8 ho2 hu2 HCP n0 n1 n2 n3 n4 n5 n6 n7 n8 n9 hk hm1
  have r0 := cell_of HX.out.blk 0 (v := .int .i64 0) rfl
  have g0 := frz_of HX.out.blk 0
  have r1 := cell_of HX.out.blk 1 (v := .int .i64 0) rfl
  have g1 := frz_of HX.out.blk 1
  have r2 := cell_of HX.out.blk 2 (v := .int .i64 0) rfl
  have g2 := frz_of HX.out.blk 2
  have r3 := cell_of HX.out.blk 3 (v := .int .i64 0) rfl
  have g3 := frz_of HX.out.blk 3
  have r4 := cell_of HX.out.blk 4 (v := .int .i64 0) rfl
  have g4 := frz_of HX.out.blk 4
  have r5 := cell_of HX.out.blk 5 (v := .int .i64 0) rfl
  have g5 := frz_of HX.out.blk 5
  have r6 := cell_of HX.out.blk 6 (v := .int .i64 0) rfl
  have g6 := frz_of HX.out.blk 6
  have r7 := cell_of HX.out.blk 7 (v := .string ⟨#[]⟩) rfl
  have g7 := frz_of HX.out.blk 7
  have r8 := cell_of HX.out.blk 8 (v := .int .i64 0) rfl
  have g8 := frz_of HX.out.blk 8
  have r9 := cell_of HX.out.blk 9 (v := .slice none 0 0) rfl
  have g9 := frz_of HX.out.blk 9
  have HF := Lib.hid (HX.out.setAll [.int .i64 n.made, .int .i64 n.changed, .int .i64 n.ver, .int .i64 n.kids, .int .i64 n.owner, .int .i64 (n.data.size : Nat), .int .i64 (n.names.length : Nat), .string n.data, .int .i64 n.next, .slice a2 l2 k2] rfl)
  go_wp2_with fail
  refine bodyPost_ret (ret_cell2 rfl _ rfl HF.out.blk Tryz.underlying162 (by kernel_rfl)) rfl ?_
  exact ⟨.slice a2 l2 k2, _, rfl, fun q hq => k_n _ hq, k_s, HF.out.drop⟩
end
end Go.Proofs.YtbakgoncfggidaaGreatDoor

namespace Go.Av
theorem blockAt_none {H : HeldL} {id : Int} {ops : List OpS} (h : ∀ o ∈ ops, ((wantsS o).any fun p => blocksS H id p) = false) : blockAt H id ops = none := by
  unfold blockAt
  rw [List.findIdx?_eq_none_iff]
  exact h
theorem blockAt_at {H : HeldL} {id : Int} {ops : List OpS} {i : Nat} (hi : i < ops.length) (h : ∀ o ∈ ops.take i, ((wantsS o).any fun p => blocksS H id p) = false) (hb : ((wantsS ops[i]).any fun p => blocksS H id p) = true) : blockAt H id ops = some i := by
  unfold blockAt
  rw [List.findIdx?_eq_some_iff_getElem]
  refine ⟨hi, hb, fun j hj => ?_⟩
  have := h ops[j] (List.mem_iff_getElem.2 ⟨j, by rw [List.length_take]; omega, by rw [List.getElem_take]⟩)
  rw [this]
  exact Bool.false_ne_true
theorem wants_len (o : OpS) {K : Nat} (h : o.p.length ≤ K) (hK : 200 ≤ K) : ∀ p ∈ wantsS o, p.length ≤ K := by
  intro p hp
  unfold wantsS at hp
  split at hp
  · rw [List.mem_singleton] at hp; rw [hp]; exact h
  · rename_i up hu
    have hup := parent_len hu
    split at hp
    · rcases List.mem_cons.1 hp with rfl | hp
      · exact h
      · rw [List.mem_singleton] at hp; rw [hp]; omega
    · rw [List.mem_singleton] at hp; rw [hp]; exact h
theorem wants_few (o : OpS) : (wantsS o).length ≤ 100000 := by
  unfold wantsS
  split
  · simp
  · split <;> simp
theorem busy_closed {S : PartS} {id sess : Int} {ops : List OpS} (h : sess ∈ S.closed) : busyS S id sess ops = (11, -1) := by unfold busyS; rw [if_pos h]
theorem busy_closing {S : PartS} {id sess : Int} {ops : List OpS} (h : ¬ sess ∈ S.closed) (h2 : closingW S.wait sess = true) : busyS S id sess ops = (12, -1) := by unfold busyS; rw [if_neg h, if_pos h2]
theorem busy_block {S : PartS} {id sess : Int} {ops : List OpS} (h : ¬ sess ∈ S.closed) (h2 : closingW S.wait sess = false) {i : Nat} (h3 : blockAt S.held id ops = some i) : busyS S id sess ops = (12, (i : Int)) := by
  unfold busyS; rw [if_neg h, if_neg (by rw [h2]; exact Bool.false_ne_true), h3]
theorem busy_room {S : PartS} {id sess : Int} {ops : List OpS} (h : ¬ sess ∈ S.closed) (h2 : closingW S.wait sess = false) (h3 : blockAt S.held id ops = none) :
    busyS S id sess ops = if 0 < createsS ops ∧ 0 < wantedW S.wait ∧ S.t.room < wantedW S.wait + S.t.l.length + createsS ops then (12, (firstC ops : Int)) else (0, -1) := by
  unfold busyS; rw [if_neg h, if_neg (by rw [h2]; exact Bool.false_ne_true), h3]
end Go.Av
namespace Go.Proofs.YtbakgoncfggidaaGreatDoor
open Go.RowKit Go.Av
section
variable {w0 w : World} {b : Nat} {S : PartS} {P P' : List PRow} {R : List Thing} {rows : List (Value × Bs)}
def BsyPost (w0 : World) (b : Nat) (S : PartS) (P : List PRow) (R : List Thing) (rows : List (Value × Bs)) (r : Int × Int) (e : Ending) (w' : World) : Prop :=
  ∃ P', e = .returned (.tuple #[.int .i64 r.1, .int .i64 r.2]) ∧ (∀ q ∈ P, q ∈ P') ∧ Sep w0 w' (ThPool w0 P' :: ThPart b S P' :: R) rows
def BsyRel (w0 : World) (b b2 b3 : Nat) (id : Int) (ops : List OpS) (S : PartS) (P : List PRow) (R : List Thing) (rows : List (Value × Bs)) (k : Nat) (v : Value) (w : World) : Prop :=
  ∃ (i : Nat) (P' : List PRow), i + k = ops.length ∧ v = .int .i64 (i : Int) ∧ (∀ q ∈ P, q ∈ P') ∧ (∀ o ∈ ops.take i, ((wantsS o).any fun p => blocksS S.held id p) = false) ∧ Sep w0 w (ThPool w0 P' :: cloTh b b2 b3 id S P' R) rows
set_option maxRecDepth 100000 in
set_option maxHeartbeats 8000000 in
theorem busy_any (h : Sep w0 w (ThPool w0 P :: ThPart b S P :: R) rows) (hd : DoorN w0) (id sess : Int) (ops : List OpS) (v : Value) (hv : (5, v, ops.flatMap OpS.cells) ∈ P) (hg : ∀ o ∈ ops, o.path.size ≤ 100000 ∧ 0 ≤ o.flags ∧ o.flags ≤ 3) (hn : ops.length ≤ 1000)
    (hH : ∀ e ∈ S.held, e.1.length ≤ 100000) (hW : wantedW S.wait ≤ 50000) (hO : ∀ e ∈ S.wait, e.2.ops.length ≤ 100000) (hT : S.t.l.length ≤ 500 ∧ S.t.room ≤ 500) :
    Calls Tryz.prog 69 #[.pointer (some ⟨b, 0, none⟩), .int .i64 id, .int .i64 sess, v] w (BsyPost w0 b S P R rows (busyS S id sess ops)) := by
  obtain ⟨E, hE⟩ := h.poolGet hv
  obtain ⟨a, n, c, rfl, hl0, -, -, hne⟩ := ReadRow.some hE
  rw [flatG_len opcells_len] at hl0
  obtain rfl : ops.length = n := by omega
  have HNE := Lib.hid hne
  have HV := Lib.hid (show _ ∧ _ ∧ _ from ⟨hv, hg, hn⟩)
  have HB := Lib.hid (show _ ∧ _ ∧ _ ∧ _ from ⟨hH, hW, hO, hT⟩)
  have HX := Lib.hid h
  obtain ⟨res, hres⟩ : ∃ res, busyS S id sess ops = res := ⟨_, rfl⟩
  rw [hres]
  have HRES := Lib.hid hres
  clear h hE hne hv hl0 hg hH hW hO hT hres
  go_enter Tryz.func69, Tryz.ntmps69
  go_upto_region 1 with (first | go_skip | refine uK ?_ | refine uL ?_ | refine uM ?_ | (refine uS ?_; clear HX; intro w HX) | (refine uA ?_; clear HX; (first | (have hq := b4; clear hq; intro w b5 HX) | (have hq := b3; clear hq; intro w b4 HX) | (have hq := b2; clear hq; intro w b3 HX) | (have hq := b; clear hq; intro w b2 HX) | intro w b HX)) | (refine tWN ?_; clear HX; intro w mm HX; simp only [Act.put, k_a, k_b, k_c]) | (refine tWP ?_; clear HX; intro w av nv cv HX; simp only [Act.put, k_a, k_b, k_c]))
  obtain ⟨t, lk, mw, md, mc, gs, hgs, hgv, hS⟩ := pt_open HX.out.up3
  have HG := Lib.hid (show _ ∧ _ from ⟨hgs, hgv⟩)
  have hk := num_look hS.up5 sess
  obtain ⟨zc, hzc⟩ : ∃ z, decide (sess ∈ S.closed) = z := ⟨_, rfl⟩
  rw [hzc] at hk
  have HZC := Lib.hid hzc
  clear HX hgs hgv hzc
  have HX := Lib.hid hS
  clear hS
  cases zc with
  | true =>
    obtain rfl : res = (11, -1) := by rw [← HRES.out]; exact busy_closed (of_decide_eq_true HZC.out)
    go_wp2_with (first | go_skip | refine uK ?_ | refine uL ?_ | refine uM ?_ | (refine uS ?_; clear HX; intro w HX) | (refine uA ?_; clear HX; (first | (have hq := b4; clear hq; intro w b5 HX) | (have hq := b3; clear hq; intro w b4 HX) | (have hq := b2; clear hq; intro w b3 HX) | (have hq := b; clear hq; intro w b2 HX) | intro w b HX)) | (refine tWN ?_; clear HX; intro w mm HX; simp only [Act.put, k_a, k_b, k_c]) | (refine tWP ?_; clear HX; intro w av nv cv HX; simp only [Act.put, k_a, k_b, k_c]))
    go_ret2
    exact ⟨P, rfl, fun q hq => hq, (pt_shut HX.out HG.out.1 HG.out.2).pm 4 [3, 0] rfl rfl⟩
  | false =>
    have HNC := Lib.hid (of_decide_eq_false HZC.out)
    go_wp2_with (first | go_skip | refine uK ?_ | refine uL ?_ | refine uM ?_ | (refine uS ?_; clear HX; intro w HX) | (refine uA ?_; clear HX; (first | (have hq := b4; clear hq; intro w b5 HX) | (have hq := b3; clear hq; intro w b4 HX) | (have hq := b2; clear hq; intro w b3 HX) | (have hq := b; clear hq; intro w b2 HX) | intro w b HX)) | (refine tWN ?_; clear HX; intro w mm HX; simp only [Act.put, k_a, k_b, k_c]) | (refine tWP ?_; clear HX; intro w av nv cv HX; simp only [Act.put, k_a, k_b, k_c]))
    have h9 := (pt_shut HX.out HG.out.1 HG.out.2).up3
    clear HX hk
    have HX := Lib.hid h9
    clear h9
    refine (closing_any HX.out sess).mono ?_
    obtain ⟨z2, hz2⟩ : ∃ z, closingW S.wait sess = z := ⟨_, rfl⟩
    rw [hz2]
    rintro e w ⟨rfl, hx⟩
    clear HX
    have HX := Lib.hid hx
    have HZ2 := Lib.hid hz2
    clear hx hz2
    cases z2 with
    | true =>
      obtain rfl : res = (12, -1) := by rw [← HRES.out]; exact busy_closing HNC.out HZ2.out
      go_wp2_with (first | go_skip | refine uK ?_ | refine uL ?_ | refine uM ?_ | (refine uS ?_; clear HX; intro w HX) | (refine uA ?_; clear HX; (first | (have hq := b4; clear hq; intro w b5 HX) | (have hq := b3; clear hq; intro w b4 HX) | (have hq := b2; clear hq; intro w b3 HX) | (have hq := b; clear hq; intro w b2 HX) | intro w b HX)) | (refine tWN ?_; clear HX; intro w mm HX; simp only [Act.put, k_a, k_b, k_c]) | (refine tWP ?_; clear HX; intro w av nv cv HX; simp only [Act.put, k_a, k_b, k_c]))
      go_ret2
      exact ⟨P, rfl, fun q hq => hq, HX.out.pm 4 [0, 1] rfl rfl⟩
    | false =>
      go_wp2_with (first | go_skip | refine uK ?_ | refine uL ?_ | refine uM ?_ | (refine uS ?_; clear HX; intro w HX) | (refine uA ?_; clear HX; (first | (have hq := b4; clear hq; intro w b5 HX) | (have hq := b3; clear hq; intro w b4 HX) | (have hq := b2; clear hq; intro w b3 HX) | (have hq := b; clear hq; intro w b2 HX) | intro w b HX)) | (refine tWN ?_; clear HX; intro w mm HX; simp only [Act.put, k_a, k_b, k_c]) | (refine tWP ?_; clear HX; intro w av nv cv HX; simp only [Act.put, k_a, k_b, k_c]))
      have HST := Lib.hid (show BsyRel w0 b b2 b3 id ops S P R rows ops.length (.int .i64 (0 : Int)) w from ⟨0, P, by simp, rfl, fun q hq => hq, by simp, HX.out.pm 4 [0, 2, 3, 1] rfl rfl⟩)
      clear HX
      go_loopg [10, 11, 28] ops.length (fun k _ _ v wr => BsyRel w0 b b2 b3 id ops S P R rows k v wr)
      case atStart => exact HST.out
      case round =>
        rename World => w
        obtain ⟨i, P1, hik, rfl, hP1, hno, hS⟩ := hrel
        clear HST
        have HX := Lib.hid hS
        have HP1 := Lib.hid (show _ ∧ _ from ⟨hP1, hno⟩)
        clear hS hP1 hno
        by_cases hlt : i < ops.length
        case neg =>
          obtain rfl : i = ops.length := by omega
          have hno := HP1.out.2
          rw [List.take_length] at hno
          have HRM := Lib.hid (show res = _ from HRES.out.symm.trans (busy_room HNC.out HZ2.out (blockAt_none hno)))
          clear hno hlt hik
          go_wp2_with (first | go_skip | refine uK ?_ | refine uL ?_ | refine uM ?_ | (refine uS ?_; clear HX; intro w HX) | (refine uA ?_; clear HX; (first | (have hq := b4; clear hq; intro w b5 HX) | (have hq := b3; clear hq; intro w b4 HX) | (have hq := b2; clear hq; intro w b3 HX) | (have hq := b; clear hq; intro w b2 HX) | intro w b HX)) | (refine tWN ?_; clear HX; intro w mm HX; simp only [Act.put, k_a, k_b, k_c]) | (refine tWP ?_; clear HX; intro w av nv cv HX; simp only [Act.put, k_a, k_b, k_c]))
          refine (creates_any HX.out ops _ (HP1.out.1 _ HV.out.1) (by have := HV.out.2.2; omega)).mono ?_
          obtain ⟨cn, hcn⟩ : ∃ cn, createsS ops = cn := ⟨_, rfl⟩
          obtain ⟨fc, hfc⟩ : ∃ fc, firstC ops = fc := ⟨_, rfl⟩
          rw [hcn, hfc] at HRM ⊢
          have hcb : cn ≤ 1000 := by rw [← hcn]; have h1 := creates_len ops; have h2 := HV.out.2.2; omega
          rintro e w ⟨rfl, hx⟩
          clear HX hcn hfc
          have HX := Lib.hid hx
          clear hx
          go_wp2_with (first | go_skip | refine uK ?_ | refine uL ?_ | refine uM ?_ | (refine uS ?_; clear HX; intro w HX) | (refine uA ?_; clear HX; (first | (have hq := b4; clear hq; intro w b5 HX) | (have hq := b3; clear hq; intro w b4 HX) | (have hq := b2; clear hq; intro w b3 HX) | (have hq := b; clear hq; intro w b2 HX) | intro w b HX)) | (refine tWN ?_; clear HX; intro w mm HX; simp only [Act.put, k_a, k_b, k_c]) | (refine tWP ?_; clear HX; intro w av nv cv HX; simp only [Act.put, k_a, k_b, k_c]))
          refine (wanted_any HX.out.up3.up1 (by have := HB.out.2.1; omega) HB.out.2.2.1).mono ?_
          obtain ⟨wn, hwn⟩ : ∃ wn, wantedW S.wait = wn := ⟨_, rfl⟩
          rw [hwn] at HRM ⊢
          have hwb : wn ≤ 50000 := by rw [← hwn]; exact HB.out.2.1
          rintro e w ⟨rfl, hx⟩
          clear HX hwn
          obtain ⟨t, lk, mw, md, mc, gs, hgs, hgv, hS⟩ := pt_open hx.up1
          have HG := Lib.hid (show _ ∧ _ from ⟨hgs, hgv⟩)
          obtain ⟨R', hR'⟩ : ∃ R', ThLk lk S.held :: ThMap (.int .i64) mw (gs.map WaitG.kv) :: ThMap (.int .i64) md (S.decided.map ikv) :: ThMap (.int .i64) mc (S.closed.map ikv) :: ThPool w0 P1 :: ThCell b3 (.cells #[.int .i64 id] 2 (0, 0)) :: R = R' := ⟨_, rfl⟩
          have h3 : Sep w0 w (ThTree t S.t P1 :: ThCell b (.cells (ptCells S.t.room t lk S.zxid mw md mc) 128 (0, 0)) :: ThCell b2 (.cells #[.pointer (some ⟨b, 0, none⟩)] 24 (0, 0)) :: R') rows := by
            rw [← hR']
            exact hS.pm 9 [1, 0, 8, 2, 3, 4, 5, 6, 7] rfl rfl
          have HRR := Lib.hid hR'
          have HX := Lib.hid h3
          have hlb := HB.out.2.2.2.1
          have HFIN := Lib.hid (show ∀ w', Sep w0 w' (ThTree t S.t P1 :: ThCell b (.cells (ptCells S.t.room t lk S.zxid mw md mc) 128 (0, 0)) :: ThCell b2 (.cells #[.pointer (some ⟨b, 0, none⟩)] 24 (0, 0)) :: R') rows → Sep w0 w' (ThPool w0 P1 :: ThPart b S P1 :: R) rows from fun w' h5 => by
            rw [← hR'] at h5
            exact (pt_shut (b := b) (t := t) (lk := lk) (mw := mw) (md := md) (mc := mc) (gs := gs) (S := S) (R := ThPool w0 P1 :: R) (h5.pm 9 [1, 0, 3, 4, 5, 6, 7] rfl rfl) hgs hgv).up1)
          clear hx hgs hgv hS hR' h3
          go_wp2_with (first | go_skip | refine uK ?_ | refine uL ?_ | refine uM ?_ | (refine uS ?_; clear HX; intro w HX) | (refine uA ?_; clear HX; (first | (have hq := b4; clear hq; intro w b5 HX) | (have hq := b3; clear hq; intro w b4 HX) | (have hq := b2; clear hq; intro w b3 HX) | (have hq := b; clear hq; intro w b2 HX) | intro w b HX)) | (refine tWN ?_; clear HX; intro w mm HX; simp only [Act.put, k_a, k_b, k_c]) | (refine tWP ?_; clear HX; intro w av nv cv HX; simp only [Act.put, k_a, k_b, k_c]))
          by_cases hc0 : 0 < cn
          · by_cases hw0 : 0 < wn
            · have hq1 : decide (0 < (cn : Int)) = true := decide_eq_true (by omega)
              have hq2 : decide (0 < (wn : Int)) = true := decide_eq_true (by omega)
              have hq3 : decide (0 < cn) = true := decide_eq_true hc0
              have hq4 : decide (0 < wn) = true := decide_eq_true hw0
              obtain ⟨ln, hln⟩ : ∃ ln, S.t.l.length = ln := ⟨_, rfl⟩
              rw [hln] at HRM hlb
              have hs1 : IntKind.i64.wrap ((wn : Int) + (ln : Int)) = (wn : Int) + (ln : Int) := IntWalk.i64_in _ (by omega)
              have hs2 : IntKind.i64.wrap ((wn : Int) + (ln : Int) + (cn : Int)) = (wn : Int) + (ln : Int) + (cn : Int) := IntWalk.i64_in _ (by omega)
              have HLN := Lib.hid hln
              clear hln
              by_cases hrm : S.t.room < (wn : Int) + (ln : Int) + (cn : Int)
              · obtain rfl : res = (12, (fc : Int)) := by rw [HRM.out, if_pos ⟨hc0, hw0, hrm⟩]
                have hq5 : decide (S.t.room < (wn : Int) + (ln : Int) + (cn : Int)) = true := decide_eq_true hrm
                refine wp_region_M (fun W => Sep w0 W (ThTree t S.t P1 :: ThCell b (.cells (ptCells S.t.room t lk S.zxid mw md mc) 128 (0, 0)) :: ThCell b2 (.cells #[.pointer (some ⟨b, 0, none⟩)] 24 (0, 0)) :: R') rows) 22 (by kernel_rfl) ?_
                have KEEPX : ∀ W, Sep w0 W (ThTree t S.t P1 :: ThCell b (.cells (ptCells S.t.room t lk S.zxid mw md mc) 128 (0, 0)) :: ThCell b2 (.cells #[.pointer (some ⟨b, 0, none⟩)] 24 (0, 0)) :: R') rows → Sep w0 W (ThTree t S.t P1 :: ThCell b (.cells (ptCells S.t.room t lk S.zxid mw md mc) 128 (0, 0)) :: ThCell b2 (.cells #[.pointer (some ⟨b, 0, none⟩)] 24 (0, 0)) :: R') rows := fun _ h => h
                replace HX := Lib.hid HX.out.drew
                refine wpAnyM_take (by kernel_rfl) (by intro c a d v w h; cases d <;> exact h) [(0, false), (1, false), (2, false), (3, false), (4, false), (5, false), (6, false), (7, false), (8, true), (9, false), (10, false), (11, true), (14, false), (16, true), (17, false), (18, false), (19, true)] (fuel := 5) (by kernel_rfl) ?_
                apply Exists.intro; refine ⟨?_, HX.out, ?_⟩
                · iterate 17 (first | refine xE ?_ | ((first | apply yieldP | apply yieldL); (· (simp only [k_i, k_j, k_k]; try rfl)); (· rfl); (· (intros; go_simp; (try simp only [hq1, hq2, hq3, hq4, hq5, hs1, hs2, ↓reduceIte, and_self, Int.toNat_natCast]); try with_reducible rfl)); (· (simp only [Act.put, k_a, k_b, k_c, k_d, k_e, k_f, k_g, k_h, NodeS.cells, OpS.cells, ResS.cells]; try rfl))))
                  exact rfl
                refine wpAnyM_one (fuel := 4) (i := 12) (by kernel_rfl) (by (simp only [k_i, k_j, k_k]; try rfl)) (fun K hK => ?_)
                go_wp2_with fail
                refine (treelen_any HX.out).mono ?_
                rw [HLN.out]
                rintro e w1 ⟨rfl, hu⟩
                replace HX := Lib.hid (HX.out.keep hu)
                clear hu
                go_wp2_with fail
                refine hK _ _ HX.out ?_
                clear hK
                refine wpAnyM_take (by kernel_rfl) (by intro c a d v w h; cases d <;> exact h) [(13, false), (15, false), (20, false), (21, false)] (fuel := 0) (by kernel_rfl) ?_
                apply Exists.intro; refine ⟨?_, HX.out, ?_⟩
                · iterate 4 (first | refine xE ?_ | ((first | apply yieldP | apply yieldL); (· (simp only [k_i, k_j, k_k]; try rfl)); (· rfl); (· (intros; go_simp; (try simp only [hq1, hq2, hq3, hq4, hq5, hs1, hs2, ↓reduceIte, and_self, Int.toNat_natCast]); try with_reducible rfl)); (· (simp only [Act.put, k_a, k_b, k_c, k_d, k_e, k_f, k_g, k_h, NodeS.cells, OpS.cells, ResS.cells]; try rfl))))
                  exact rfl
                refine wpAnyM_done (by kernel_rfl) ?_ _
                go_wp2_with (first | go_skip | refine uK ?_ | refine uL ?_ | refine uM ?_ | (refine uS ?_; clear HX; intro w HX) | (refine uA ?_; clear HX; (first | (have hq := b4; clear hq; intro w b5 HX) | (have hq := b3; clear hq; intro w b4 HX) | (have hq := b2; clear hq; intro w b3 HX) | (have hq := b; clear hq; intro w b2 HX) | intro w b HX)) | (refine tWN ?_; clear HX; intro w mm HX; simp only [Act.put, k_a, k_b, k_c]) | (refine tWP ?_; clear HX; intro w av nv cv HX; simp only [Act.put, k_a, k_b, k_c]))
                go_ret2
                exact ⟨P1, rfl, HP1.out.1, HFIN.out _ HX.out⟩
              · obtain rfl : res = (0, -1) := by rw [HRM.out, if_neg (fun hh => hrm hh.2.2)]
                have hq5 : decide (S.t.room < (wn : Int) + (ln : Int) + (cn : Int)) = false := decide_eq_false hrm
                refine wp_region_M (fun W => Sep w0 W (ThTree t S.t P1 :: ThCell b (.cells (ptCells S.t.room t lk S.zxid mw md mc) 128 (0, 0)) :: ThCell b2 (.cells #[.pointer (some ⟨b, 0, none⟩)] 24 (0, 0)) :: R') rows) 22 (by kernel_rfl) ?_
                have KEEPX : ∀ W, Sep w0 W (ThTree t S.t P1 :: ThCell b (.cells (ptCells S.t.room t lk S.zxid mw md mc) 128 (0, 0)) :: ThCell b2 (.cells #[.pointer (some ⟨b, 0, none⟩)] 24 (0, 0)) :: R') rows → Sep w0 W (ThTree t S.t P1 :: ThCell b (.cells (ptCells S.t.room t lk S.zxid mw md mc) 128 (0, 0)) :: ThCell b2 (.cells #[.pointer (some ⟨b, 0, none⟩)] 24 (0, 0)) :: R') rows := fun _ h => h
                replace HX := Lib.hid HX.out.drew
                refine wpAnyM_take (by kernel_rfl) (by intro c a d v w h; cases d <;> exact h) [(0, false), (1, false), (2, false), (3, false), (4, false), (5, false), (6, false), (7, false), (8, true), (9, false), (10, false), (11, true), (14, false), (16, true), (17, false), (18, false), (19, true)] (fuel := 5) (by kernel_rfl) ?_
                apply Exists.intro; refine ⟨?_, HX.out, ?_⟩
                · iterate 17 (first | refine xE ?_ | ((first | apply yieldP | apply yieldL); (· (simp only [k_i, k_j, k_k]; try rfl)); (· rfl); (· (intros; go_simp; (try simp only [hq1, hq2, hq3, hq4, hq5, hs1, hs2, ↓reduceIte, and_self, Int.toNat_natCast]); try with_reducible rfl)); (· (simp only [Act.put, k_a, k_b, k_c, k_d, k_e, k_f, k_g, k_h, NodeS.cells, OpS.cells, ResS.cells]; try rfl))))
                  exact rfl
                refine wpAnyM_one (fuel := 4) (i := 12) (by kernel_rfl) (by (simp only [k_i, k_j, k_k]; try rfl)) (fun K hK => ?_)
                go_wp2_with fail
                refine (treelen_any HX.out).mono ?_
                rw [HLN.out]
                rintro e w1 ⟨rfl, hu⟩
                replace HX := Lib.hid (HX.out.keep hu)
                clear hu
                go_wp2_with fail
                refine hK _ _ HX.out ?_
                clear hK
                refine wpAnyM_take (by kernel_rfl) (by intro c a d v w h; cases d <;> exact h) [(13, false), (15, false), (20, false), (21, false)] (fuel := 0) (by kernel_rfl) ?_
                apply Exists.intro; refine ⟨?_, HX.out, ?_⟩
                · iterate 4 (first | refine xE ?_ | ((first | apply yieldP | apply yieldL); (· (simp only [k_i, k_j, k_k]; try rfl)); (· rfl); (· (intros; go_simp; (try simp only [hq1, hq2, hq3, hq4, hq5, hs1, hs2, ↓reduceIte, and_self, Int.toNat_natCast]); try with_reducible rfl)); (· (simp only [Act.put, k_a, k_b, k_c, k_d, k_e, k_f, k_g, k_h, NodeS.cells, OpS.cells, ResS.cells]; try rfl))))
                  exact rfl
                refine wpAnyM_done (by kernel_rfl) ?_ _
                go_wp2_with (first | go_skip | refine uK ?_ | refine uL ?_ | refine uM ?_ | (refine uS ?_; clear HX; intro w HX) | (refine uA ?_; clear HX; (first | (have hq := b4; clear hq; intro w b5 HX) | (have hq := b3; clear hq; intro w b4 HX) | (have hq := b2; clear hq; intro w b3 HX) | (have hq := b; clear hq; intro w b2 HX) | intro w b HX)) | (refine tWN ?_; clear HX; intro w mm HX; simp only [Act.put, k_a, k_b, k_c]) | (refine tWP ?_; clear HX; intro w av nv cv HX; simp only [Act.put, k_a, k_b, k_c]))
                go_ret2
                exact ⟨P1, rfl, HP1.out.1, HFIN.out _ HX.out⟩
            · obtain rfl : res = (0, -1) := by rw [HRM.out, if_neg (fun hh => hw0 hh.2.1)]
              have hq1 : decide (0 < (cn : Int)) = true := decide_eq_true (by omega)
              have hq2 : decide (0 < (wn : Int)) = false := decide_eq_false (by omega)
              have hq3 : decide (0 < cn) = true := decide_eq_true hc0
              have hq4 : decide (0 < wn) = false := decide_eq_false hw0
              refine wp_region_M (fun W => Sep w0 W (ThTree t S.t P1 :: ThCell b (.cells (ptCells S.t.room t lk S.zxid mw md mc) 128 (0, 0)) :: ThCell b2 (.cells #[.pointer (some ⟨b, 0, none⟩)] 24 (0, 0)) :: R') rows) 22 (by kernel_rfl) ?_
              have KEEPX : ∀ W, Sep w0 W (ThTree t S.t P1 :: ThCell b (.cells (ptCells S.t.room t lk S.zxid mw md mc) 128 (0, 0)) :: ThCell b2 (.cells #[.pointer (some ⟨b, 0, none⟩)] 24 (0, 0)) :: R') rows → Sep w0 W (ThTree t S.t P1 :: ThCell b (.cells (ptCells S.t.room t lk S.zxid mw md mc) 128 (0, 0)) :: ThCell b2 (.cells #[.pointer (some ⟨b, 0, none⟩)] 24 (0, 0)) :: R') rows := fun _ h => h
              replace HX := Lib.hid HX.out.drew
              refine wpAnyM_take (by kernel_rfl) (by intro c a d v w h; cases d <;> exact h) [(0, false), (1, false), (2, false), (3, false), (4, false), (5, false), (6, false), (7, false), (8, true), (9, false), (10, false), (11, true), (14, false), (16, true), (17, false), (18, false), (19, true)] (fuel := 5) (by kernel_rfl) ?_
              apply Exists.intro; refine ⟨?_, HX.out, ?_⟩
              · iterate 17 (first | refine xE ?_ | ((first | apply yieldP | apply yieldL); (· (simp only [k_i, k_j, k_k]; try rfl)); (· rfl); (· (intros; go_simp; (try simp only [hq1, hq2, hq3, hq4, ↓reduceIte, and_self, Int.toNat_natCast]); try with_reducible rfl)); (· (simp only [Act.put, k_a, k_b, k_c, k_d, k_e, k_f, k_g, k_h, NodeS.cells, OpS.cells, ResS.cells]; try rfl))))
                exact rfl
              apply wpAnyM_skip (fuel := 4) (i := 12)
              · kernel_rfl
              · simp only [k_i, k_j, k_k]; try rfl
              · rfl
              · simp only [Act.put, k_a, k_b, k_c]; try rfl
              · exact HX.out
              refine wpAnyM_take (by kernel_rfl) (by intro c a d v w h; cases d <;> exact h) [(13, false), (15, false), (20, false), (21, false)] (fuel := 0) (by kernel_rfl) ?_
              apply Exists.intro; refine ⟨?_, HX.out, ?_⟩
              · iterate 4 (first | refine xE ?_ | ((first | apply yieldP | apply yieldL); (· (simp only [k_i, k_j, k_k]; try rfl)); (· rfl); (· (intros; go_simp; (try simp only [hq1, hq2, hq3, hq4, ↓reduceIte, and_self, Int.toNat_natCast]); try with_reducible rfl)); (· (simp only [Act.put, k_a, k_b, k_c, k_d, k_e, k_f, k_g, k_h, NodeS.cells, OpS.cells, ResS.cells]; try rfl))))
                exact rfl
              refine wpAnyM_done (by kernel_rfl) ?_ _
              go_wp2_with (first | go_skip | refine uK ?_ | refine uL ?_ | refine uM ?_ | (refine uS ?_; clear HX; intro w HX) | (refine uA ?_; clear HX; (first | (have hq := b4; clear hq; intro w b5 HX) | (have hq := b3; clear hq; intro w b4 HX) | (have hq := b2; clear hq; intro w b3 HX) | (have hq := b; clear hq; intro w b2 HX) | intro w b HX)) | (refine tWN ?_; clear HX; intro w mm HX; simp only [Act.put, k_a, k_b, k_c]) | (refine tWP ?_; clear HX; intro w av nv cv HX; simp only [Act.put, k_a, k_b, k_c]))
              go_ret2
              exact ⟨P1, rfl, HP1.out.1, HFIN.out _ HX.out⟩
          · obtain rfl : res = (0, -1) := by rw [HRM.out, if_neg (fun hh => hc0 hh.1)]
            have hq1 : decide (0 < (cn : Int)) = false := decide_eq_false (by omega)
            have hq3 : decide (0 < cn) = false := decide_eq_false hc0
            refine wp_region_M (fun W => Sep w0 W (ThTree t S.t P1 :: ThCell b (.cells (ptCells S.t.room t lk S.zxid mw md mc) 128 (0, 0)) :: ThCell b2 (.cells #[.pointer (some ⟨b, 0, none⟩)] 24 (0, 0)) :: R') rows) 22 (by kernel_rfl) ?_
            have KEEPX : ∀ W, Sep w0 W (ThTree t S.t P1 :: ThCell b (.cells (ptCells S.t.room t lk S.zxid mw md mc) 128 (0, 0)) :: ThCell b2 (.cells #[.pointer (some ⟨b, 0, none⟩)] 24 (0, 0)) :: R') rows → Sep w0 W (ThTree t S.t P1 :: ThCell b (.cells (ptCells S.t.room t lk S.zxid mw md mc) 128 (0, 0)) :: ThCell b2 (.cells #[.pointer (some ⟨b, 0, none⟩)] 24 (0, 0)) :: R') rows := fun _ h => h
            replace HX := Lib.hid HX.out.drew
            refine wpAnyM_take (by kernel_rfl) (by intro c a d v w h; cases d <;> exact h) [(0, false), (1, false), (2, false), (3, false), (4, false), (5, false), (6, false), (7, false), (8, true), (9, false), (10, false), (11, true), (14, false), (16, true), (17, false), (18, false), (19, true)] (fuel := 5) (by kernel_rfl) ?_
            apply Exists.intro; refine ⟨?_, HX.out, ?_⟩
            · iterate 17 (first | refine xE ?_ | ((first | apply yieldP | apply yieldL); (· (simp only [k_i, k_j, k_k]; try rfl)); (· rfl); (· (intros; go_simp; (try simp only [hq1, hq3, ↓reduceIte, and_self, Int.toNat_natCast]); try with_reducible rfl)); (· (simp only [Act.put, k_a, k_b, k_c, k_d, k_e, k_f, k_g, k_h, NodeS.cells, OpS.cells, ResS.cells]; try rfl))))
              exact rfl
            apply wpAnyM_skip (fuel := 4) (i := 12)
            · kernel_rfl
            · simp only [k_i, k_j, k_k]; try rfl
            · rfl
            · simp only [Act.put, k_a, k_b, k_c]; try rfl
            · exact HX.out
            refine wpAnyM_take (by kernel_rfl) (by intro c a d v w h; cases d <;> exact h) [(13, false), (15, false), (20, false), (21, false)] (fuel := 0) (by kernel_rfl) ?_
            apply Exists.intro; refine ⟨?_, HX.out, ?_⟩
            · iterate 4 (first | refine xE ?_ | ((first | apply yieldP | apply yieldL); (· (simp only [k_i, k_j, k_k]; try rfl)); (· rfl); (· (intros; go_simp; (try simp only [hq1, hq3, ↓reduceIte, and_self, Int.toNat_natCast]); try with_reducible rfl)); (· (simp only [Act.put, k_a, k_b, k_c, k_d, k_e, k_f, k_g, k_h, NodeS.cells, OpS.cells, ResS.cells]; try rfl))))
              exact rfl
            refine wpAnyM_done (by kernel_rfl) ?_ _
            go_wp2_with (first | go_skip | refine uK ?_ | refine uL ?_ | refine uM ?_ | (refine uS ?_; clear HX; intro w HX) | (refine uA ?_; clear HX; (first | (have hq := b4; clear hq; intro w b5 HX) | (have hq := b3; clear hq; intro w b4 HX) | (have hq := b2; clear hq; intro w b3 HX) | (have hq := b; clear hq; intro w b2 HX) | intro w b HX)) | (refine tWN ?_; clear HX; intro w mm HX; simp only [Act.put, k_a, k_b, k_c]) | (refine tWP ?_; clear HX; intro w av nv cv HX; simp only [Act.put, k_a, k_b, k_c]))
            go_ret2
            exact ⟨P1, rfl, HP1.out.1, HFIN.out _ HX.out⟩
        case pos =>
          obtain ⟨g, off, rfl⟩ := HNE.out (by intro e; have := congrArg List.length e; rw [flatG_len opcells_len] at this; simp at this; omega)
          obtain ⟨E, hE⟩ := HX.out.poolGet (HP1.out.1 _ HV.out.1)
          have hl := row_load (P := Tryz.prog) (f := OpS.cells) (i := i) hE opcells_len sn_op hlt
          have HTK := Lib.hid (show ops.take (i + 1) = ops.take i ++ [ops[i]] from List.take_succ_eq_append_getElem hlt)
          have hbl := fun hb => blockAt_at (H := S.held) (id := id) hlt HP1.out.2 hb
          have hgo := HV.out.2.1 ops[i] (List.getElem_mem hlt)
          obtain ⟨o, ho⟩ : ∃ o, ops[i] = o := ⟨_, rfl⟩
          rw [ho] at hl HTK hbl hgo
          have HBL := Lib.hid hbl
          have HGO := Lib.hid hgo
          have q0 : decide (i < ops.length) = true := decide_eq_true hlt
          have q9 : i ≤ 1000 := by have := HV.out.2.2; omega
          have hwl : ∀ p ∈ wantsS o, p.length ≤ 100000 := wants_len o (by show o.path.data.toList.length ≤ _; have := hgo.1; simpa using this) (by omega)
          have HWL := Lib.hid hwl
          obtain ⟨kind, path, data, ver, flags⟩ := o
          simp only [OpS.cells] at hl
          clear hE ho hbl hgo hwl
          go_wp2_with (first | go_skip | refine uK ?_ | refine uL ?_ | refine uM ?_ | (refine uS ?_; clear HX; intro w HX) | (refine uA ?_; clear HX; (first | (have hq := b4; clear hq; intro w b5 HX) | (have hq := b3; clear hq; intro w b4 HX) | (have hq := b2; clear hq; intro w b3 HX) | (have hq := b; clear hq; intro w b2 HX) | intro w b HX)) | (refine tWN ?_; clear HX; intro w mm HX; simp only [Act.put, k_a, k_b, k_c]) | (refine tWP ?_; clear HX; intro w av nv cv HX; simp only [Act.put, k_a, k_b, k_c]) | ((with_reducible apply sx_loadAt hl); (· rfl); (· rfl); simp only [Act.put, k_a, k_b, k_c]))
          refine (wants_any HX.out hd ⟨kind, path, data, ver, flags⟩ HGO.out.1 HGO.out.2.1 HGO.out.2.2).mono ?_
          rintro e w ⟨vw, rfl, hx⟩
          obtain ⟨wa, wn, wc, rfl, hwl, -, -⟩ := hx.rowLen
          obtain ⟨Q, hQ⟩ : ∃ Q, (1, Value.slice wa wn wc, (wantsS ⟨kind, path, data, ver, flags⟩).map sv) :: P1 = Q := ⟨_, rfl⟩
          have h9 := hx.up2.up1.poolRow
          rw [hQ] at h9
          have hsub : ∀ q ∈ P1, q ∈ Q := by rw [← hQ]; exact fun q hq => k_n _ hq
          have HQ := Lib.hid (show (1, Value.slice wa wn wc, (wantsS ⟨kind, path, data, ver, flags⟩).map sv) ∈ Q ∧ ∀ q ∈ P, q ∈ Q from ⟨by rw [← hQ]; exact k_s, fun q hq => hsub q (HP1.out.1 q hq)⟩)
          have h11 : Sep w0 w (ThPool w0 Q :: cloTh b b2 b3 id S Q (ThCell b4 (.cells #[.int .i64 kind, .string path, .string data, .int .i64 ver, .int .i64 flags] 50 (0, 0)) :: R)) rows := (pt_mono h9.up4 hsub).pm 5 [1, 3, 4, 0, 2] rfl rfl
          clear HX hl hx h9 hQ hsub hwl
          have HX := Lib.hid h11
          clear h11
          go_wp2_with (first | go_skip | refine uK ?_ | refine uL ?_ | refine uM ?_ | (refine uS ?_; clear HX; intro w HX) | (refine uA ?_; clear HX; (first | (have hq := b4; clear hq; intro w b5 HX) | (have hq := b3; clear hq; intro w b4 HX) | (have hq := b2; clear hq; intro w b3 HX) | (have hq := b; clear hq; intro w b2 HX) | intro w b HX)) | (refine tWN ?_; clear HX; intro w mm HX; simp only [Act.put, k_a, k_b, k_c]) | (refine tWP ?_; clear HX; intro w av nv cv HX; simp only [Act.put, k_a, k_b, k_c]))
          refine (contclo_any HX.out hd (wantsS ⟨kind, path, data, ver, flags⟩) _ HQ.out.1 HWL.out HB.out.1 (wants_few _)).mono ?_
          obtain ⟨z, hz⟩ : ∃ z, ((wantsS ⟨kind, path, data, ver, flags⟩).any fun p => blocksS S.held id p) = z := ⟨_, rfl⟩
          rw [hz]
          rintro e w ⟨rfl, hx⟩
          clear HX
          have HX := Lib.hid hx
          have HZ := Lib.hid hz
          clear hx hz
          cases z with
          | true =>
            obtain rfl : res = (12, (i : Int)) := by rw [← HRES.out]; exact busy_block HNC.out HZ2.out (HBL.out HZ.out)
            go_wp2_with (first | go_skip | refine uK ?_ | refine uL ?_ | refine uM ?_ | (refine uS ?_; clear HX; intro w HX) | (refine uA ?_; clear HX; (first | (have hq := b4; clear hq; intro w b5 HX) | (have hq := b3; clear hq; intro w b4 HX) | (have hq := b2; clear hq; intro w b3 HX) | (have hq := b; clear hq; intro w b2 HX) | intro w b HX)) | (refine tWN ?_; clear HX; intro w mm HX; simp only [Act.put, k_a, k_b, k_c]) | (refine tWP ?_; clear HX; intro w av nv cv HX; simp only [Act.put, k_a, k_b, k_c]))
            go_ret2
            exact ⟨Q, rfl, HQ.out.2, HX.out.pm 5 [0, 3] rfl rfl⟩
          | false =>
            go_wp2_with (first | go_skip | refine uK ?_ | refine uL ?_ | refine uM ?_ | (refine uS ?_; clear HX; intro w HX) | (refine uA ?_; clear HX; (first | (have hq := b4; clear hq; intro w b5 HX) | (have hq := b3; clear hq; intro w b4 HX) | (have hq := b2; clear hq; intro w b3 HX) | (have hq := b; clear hq; intro w b2 HX) | intro w b HX)) | (refine tWN ?_; clear HX; intro w mm HX; simp only [Act.put, k_a, k_b, k_c]) | (refine tWP ?_; clear HX; intro w av nv cv HX; simp only [Act.put, k_a, k_b, k_c]))
            go_roundg (ops.length - (i + 1))
            case rel => exact ⟨i + 1, Q, by omega, by go_num, HQ.out.2, by
              rw [HTK.out]
              intro q hq
              rcases List.mem_append.1 hq with hq | hq
              · exact HP1.out.2 q hq
              · rw [List.mem_singleton] at hq; rw [hq]; exact HZ.out, HX.out.pm 5 [0, 1, 2, 3] rfl rfl⟩
            case measure => omega
end
end Go.Proofs.YtbakgoncfggidaaGreatDoor

namespace Go.Av
theorem cutS_app : ∀ (x d : Bs), (∀ c ∈ d, c ≠ 47) → (cutS (x ++ d)).dropLast = (cutS x).dropLast ∧ (cutS (x ++ d)).length = (cutS x).length
  | [], d, h => by
    have h1 : (cutS d).length = 1 := by rw [cutS_len, List.count_eq_zero.2 (fun hh => h 47 hh rfl)]
    rw [List.nil_append]
    refine ⟨?_, h1⟩
    match hc : cutS d, h1 with
    | [y], _ => rfl
  | c :: r, d, h => by
    obtain ⟨h1, h2⟩ := cutS_app r d h
    rw [List.cons_append]
    unfold cutS
    by_cases hc : c = 47
    · rw [if_pos hc, if_pos hc]
      refine ⟨?_, by rw [List.length_cons, List.length_cons, h2]⟩
      have n1 := cutS_ne (r ++ d)
      have n2 := cutS_ne r
      rw [List.dropLast_cons_of_ne_nil n1, List.dropLast_cons_of_ne_nil n2, h1]
    · rw [if_neg hc, if_neg hc]
      match ha : cutS (r ++ d), hb : cutS r with
      | [], _ => exact absurd ha (cutS_ne _)
      | _ :: _, [] => exact absurd hb (cutS_ne _)
      | x1 :: t1, x2 :: t2 =>
        rw [ha, hb] at h1 h2
        simp only [List.length_cons] at h2
        cases t1 with
        | nil =>
          cases t2 with
          | nil => exact ⟨rfl, rfl⟩
          | cons y t2 => simp at h2
        | cons y t1 =>
          cases t2 with
          | nil => simp at h2
          | cons z t2 =>
            simp only [List.dropLast_cons_cons] at h1 ⊢
            injection h1 with h3 h4
            rw [h3, h4]
            exact ⟨rfl, by simp at h2 ⊢; omega⟩
theorem digit_no47 : ∀ (k u : Nat), u < 10 ^ (k + 1) → ∀ c ∈ Lib.decDigits u, c ≠ 47
  | 0, u, h => by
    rw [Lib.decDigits, dif_pos (by simpa using h)]
    intro c hc
    rw [List.mem_singleton] at hc
    have hu : u < 10 := by simpa using h
    rcases (show u = 0 ∨ u = 1 ∨ u = 2 ∨ u = 3 ∨ u = 4 ∨ u = 5 ∨ u = 6 ∨ u = 7 ∨ u = 8 ∨ u = 9 by omega) with rfl | rfl | rfl | rfl | rfl | rfl | rfl | rfl | rfl | rfl <;> (rw [hc]; decide)
  | k + 1, u, h => by
    rw [Lib.decDigits]
    split
    · rename_i hu
      intro c hc
      rw [List.mem_singleton] at hc
      rcases (show u = 0 ∨ u = 1 ∨ u = 2 ∨ u = 3 ∨ u = 4 ∨ u = 5 ∨ u = 6 ∨ u = 7 ∨ u = 8 ∨ u = 9 by omega) with rfl | rfl | rfl | rfl | rfl | rfl | rfl | rfl | rfl | rfl <;> (rw [hc]; decide)
    · intro c hc
      rcases List.mem_append.1 hc with hc | hc
      · exact digit_no47 k (u / 10) (by rw [Nat.pow_succ] at h; omega) c hc
      · rw [List.mem_singleton] at hc
        have hm : u % 10 < 10 := Nat.mod_lt _ (by omega)
        rcases (show u % 10 = 0 ∨ u % 10 = 1 ∨ u % 10 = 2 ∨ u % 10 = 3 ∨ u % 10 = 4 ∨ u % 10 = 5 ∨ u % 10 = 6 ∨ u % 10 = 7 ∨ u % 10 = 8 ∨ u % 10 = 9 by omega) with e | e | e | e | e | e | e | e | e | e <;> (rw [hc, e]; decide)
theorem pad_no47 {n : Int} (h0 : 0 ≤ n) (h : n ≤ 2147483647) : ∀ c ∈ padD n, c ≠ 47 := by
  intro c hc
  unfold padD at hc
  rcases List.mem_append.1 hc with hc | hc
  · rw [List.mem_replicate] at hc
    rw [hc.2]
    decide
  · exact digit_no47 9 n.toNat (by omega) c hc
theorem number_parent {p q : Bs} {n : Int} (h : numberP p n = some q) : parentP q = parentP p ∧ goodP q = true := by
  unfold numberP at h
  split at h
  · cases h
  · rename_i h1
    split at h
    · rename_i h2
      cases h
      have hg : goodP p = true := by
        cases hh : goodP p with
        | true => rfl
        | false => exact absurd (.inl hh) h1
      have hn : 0 ≤ n ∧ n ≤ 2147483647 := by omega
      refine ⟨?_, h2⟩
      cases p with
      | nil => cases hg
      | cons c r =>
        obtain ⟨h3, h4⟩ := cutS_app r (padD n) (pad_no47 hn.1 hn.2)
        unfold parentP partsP
        rw [if_pos h2, if_pos hg]
        show (if (cutS (r ++ padD n)).length < 2 then none else some (ofP (cutS (r ++ padD n)).dropLast)) = if (cutS r).length < 2 then none else some (ofP (cutS r).dropLast)
        rw [h3, h4]
    · cases h
end Go.Av

namespace Go.Av
open Go.RowKit
def GoodK (S : TreeS) : Prop := ∀ k ∈ S.l.map (·.1), goodP k = true
theorem deep_good {p : Bs} (h : goodP p = true) : 1 ≤ deepP p ∧ deepP p ≤ 8 := by
  unfold deepP partsP
  rw [if_pos h]
  cases p with
  | nil => cases h
  | cons c r =>
    unfold goodP at h
    simp only [Bool.and_eq_true, decide_eq_true_eq] at h
    refine ⟨?_, h.2⟩
    have h1 := cutS_ne r
    show 1 ≤ (cutS r).length
    cases hc : cutS r with
    | nil => exact absurd hc h1
    | cons x l => simp
theorem good_new (room : Int) : GoodK ⟨room, []⟩ := fun k hk => by simp at hk
theorem lay_g {S : TreeS} (h : GoodK S) {q : Bs} (hq : goodP q = true) (n : NodeS) : GoodK { S with l := layT q n S.l } := by
  intro k hk
  have hk : k ∈ (layT q n S.l).map (·.1) := hk
  unfold layT at hk
  rw [atUp_keys] at hk
  have h1 := ((insT_perm q n S.l).map (·.1)).mem_iff.1 hk
  rcases List.mem_cons.1 h1 with h1 | h1
  · rw [h1]; exact hq
  · exact h k h1
theorem rem_g {S : TreeS} (h : GoodK S) (q : Bs) : GoodK { S with l := remT q S.l } := by
  intro k hk
  have hk : k ∈ (remT q S.l).map (·.1) := hk
  unfold remT at hk
  rw [atUp_keys, delT_keys] at hk
  exact h k (List.mem_filter.1 hk).1
theorem set_g {S : TreeS} (h : GoodK S) (q : Bs) (n : NodeS) : GoodK { S with l := setT q n S.l } := by
  intro k hk
  have hk : k ∈ (setT q n S.l).map (·.1) := hk
  rw [setT_keys] at hk
  exact h k hk
theorem end_g {S : TreeS} {p : Bs} (h : (endT S p).1 = 0) : (endT S p).2 = p := by
  unfold endT at h ⊢
  split at h
  · cases h
  · rename_i h1
    rw [if_neg h1]
    split at h
    · cases h
    · rename_i h2
      rw [if_neg h2]
theorem place_g {S : TreeS} {o : OpS} (hg : goodP o.p = true) (h : (placeT S o).1 = 0) : goodP (placeT S o).2 = true := by
  obtain ⟨x, hx⟩ : ∃ x, placeT S o = x := ⟨_, rfl⟩
  rw [hx] at h ⊢
  unfold placeT at hx
  split at hx
  · subst hx
    rw [end_g h]; exact hg
  · split at hx
    · subst hx; cases h
    · split at hx
      · subst hx; cases h
      · split at hx
        · split at hx
          · subst hx; cases h
          · rename_i q h5
            subst hx
            rw [end_g h]
            exact (number_parent h5).2
        · subst hx
          rw [end_g h]; exact hg
theorem create_g {S : TreeS} (h : GoodK S) {o : OpS} (hg : goodP o.p = true) (sess zxid : Int) : GoodK (createT S o sess zxid).2 := by
  unfold createT
  split
  · exact h
  · rename_i h1
    exact lay_g h (place_g hg (by simpa using h1)) _
theorem change_g {S : TreeS} (h : GoodK S) (o : OpS) (zxid : Int) : GoodK (changeT S o zxid).2 := by
  unfold changeT
  split
  · exact h
  · split
    · exact h
    · split
      · exact h
      · split
        · exact rem_g h _
        · split
          · exact set_g h _ _
          · exact h
theorem do_g {S : TreeS} (h : GoodK S) (o : OpS) (sess zxid : Int) : GoodK (doT S o sess zxid).2 := by
  unfold doT
  split
  · exact h
  · rename_i h1
    have h1 : goodE o = 0 := by simpa using h1
    split
    · exact h
    · split
      · exact create_g h (formed_ok (goodE_ok h1).1).2.2.1 sess zxid
      · split
        · exact change_g h o zxid
        · exact h
theorem steps_g {sess zxid : Int} : ∀ (l : List OpS) {S : TreeS}, GoodK S → GoodK (stepsT sess zxid l S).2.1
  | [], S, h => h
  | o :: l, S, h => by
    have h1 := do_g h o sess zxid
    unfold stepsT
    split
    · exact h1
    · exact steps_g l h1
theorem many_g {S : TreeS} (h : GoodK S) (sess zxid : Int) (ops : List OpS) : GoodK (manyT S sess zxid ops).2.1 := by
  unfold manyT
  split
  · exact h
  · split
    · exact h
    · split
      · exact h
      · exact steps_g ops h
theorem request_g {S : TreeS} (h : GoodK S) (sess num zxid : Int) (ops : List OpS) : GoodK (requestT S sess num zxid ops).2 := by
  unfold requestT
  split
  · exact h
  · exact many_g h sess zxid ops
theorem pur_g : ∀ (l : List Bs) {S : TreeS}, GoodK S → GoodK (purT l S)
  | [], S, h => h
  | p :: l, S, h => pur_g l (rem_g h p)
theorem of_deep {S : TreeS} (h : GoodK S) (sess : Int) : ∀ p ∈ ofT S sess, 1 ≤ deepP p ∧ deepP p ≤ 8 := fun p hp => by
  obtain ⟨e, he, rfl⟩ := List.mem_map.1 hp
  exact deep_good (h _ (List.mem_map_of_mem (List.mem_filter.1 he).1))
theorem request_b {K : Nat} {S : TreeS} (h : TreeB K S) (sess num zxid : Int) (ops : List OpS) : TreeB (K + 16) (requestT S sess num zxid ops).2 := by
  unfold requestT
  split
  · exact h.mono (by omega)
  · exact many_b h sess zxid ops
theorem many_room (S : TreeS) (sess zxid : Int) (ops : List OpS) : (manyT S sess zxid ops).2.1.room = S.room := by
  unfold manyT
  split
  · rfl
  · split
    · rfl
    · split
      · rfl
      · exact steps_room ops S
theorem request_room (S : TreeS) (sess num zxid : Int) (ops : List OpS) : (requestT S sess num zxid ops).2.room = S.room := by
  unfold requestT
  split
  · rfl
  · exact many_room S sess zxid ops
theorem pur_room : ∀ (l : List Bs) (S : TreeS), (purT l S).room = S.room
  | [], S => rfl
  | p :: l, S => pur_room l _
end Go.Av
