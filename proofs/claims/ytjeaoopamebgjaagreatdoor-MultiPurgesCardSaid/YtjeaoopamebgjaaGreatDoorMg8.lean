/-
  Texts of this claim, laid together.
-/
import Derived.Test.YtjeaoopamebgjaaGreatDoorMg7
set_option linter.unusedVariables false
set_option linter.unusedSimpArgs false

/-
  MultiPurges: the walk.
-/
set_option linter.unusedSimpArgs false
namespace Go.Av
def mplayT (l : List MAct) (S : TreeS) : TreeS := l.foldl (fun S a => (manyT S a.sess 1 a.ops).2.1) S
theorem mplayT_take (l : List MAct) (S : TreeS) {i : Nat} (hi : i < l.length) : mplayT (l.take (i + 1)) S = (manyT (mplayT (l.take i) S) l[i].sess 1 l[i].ops).2.1 := by
  rw [List.take_succ_eq_append_getElem hi]
  unfold mplayT
  rw [List.foldl_append]
  rfl
theorem mplayT_b : ∀ (l : List MAct) {K : Nat} {S : TreeS}, TreeB K S → TreeB (K + 16 * l.length) (mplayT l S)
  | [], _, _, h => h
  | a :: l, K, S, h => by
    have := mplayT_b l (many_b h a.sess 1 a.ops)
    rw [List.length_cons, show K + 16 * (l.length + 1) = K + 16 + 16 * l.length by omega]
    exact this
end Go.Av
namespace Go.Proofs.YtjeaoopamebgjaaGreatDoor
open Go.RowKit Go.Av
section
variable {W : World}
def PgRel (W : World) (l : List MAct) (r : PRow) (t k : Nat) (v : Value) (w : World) : Prop :=
  ∃ (i : Nat) (P' : List PRow), i + k = l.length ∧ v = .int .i64 (i : Int) ∧ r ∈ P' ∧ Sep W w [ThPool W P', ThTree t (mplayT (l.take i) ⟨100, []⟩) P'] []
def PhRel (W : World) (n : Nat) (S : TreeS) (P : List PRow) (t k : Nat) (v : Value) (w : World) : Prop :=
  ∃ (i : Nat) (P' : List PRow), i + k = n ∧ v = .int .i64 (i : Int) ∧ (∀ q ∈ P, q ∈ P') ∧ Sep W w [ThPool W P', ThTree t S P'] []
def PiRel (W : World) (l : List Bs) (p : Bs) (Ts : List Thing) (k : Nat) (v v2 : Value) (w : World) : Prop :=
  ∃ j : Nat, j + k = l.length ∧ v = .bool (decide (p ∈ l.take j)) ∧ v2 = .int .i64 (j : Int) ∧ Sep W w Ts []
theorem mem_dec (T : List Bs) (p x : Bs) : decide (p ∈ T ++ [x]) = (decide (p ∈ T) || (x == p)) := by
  by_cases h : p ∈ T
  · simp [h]
  · by_cases h2 : x = p
    · simp [h2]
    · have h3 : ¬ p = x := fun e => h2 e.symm
      simp [h, h2, h3]
theorem mem_take {l : List Bs} {p : Bs} {j : Nat} (hj : j < l.length) : decide (p ∈ l.take (j + 1)) = (decide (p ∈ l.take j) || (l[j] == p)) := by
  have h := mem_dec (l.take j) p l[j]
  simp only [← List.take_succ_eq_append_getElem hj] at h
  exact h
set_option maxRecDepth 100000 in
set_option maxHeartbeats 8000000 in
theorem multiPurges_walk (a0 : Option Addr) (len0 cap0 : Nat) (l0 : List MAct) (sess : Int) (W : World) (hd : DoorN W) (h0 : IsMActs W a0 len0 cap0 l0) :
    Calls Tryz.prog 6 #[.slice a0 len0 cap0, .int .i64 sess] W fun e w' => e = .returned (.bool true) ∧ Below W.heap.size W w' := by
  obtain ⟨E0, r0⟩ := h0.row
  obtain rfl : l0.length = len0 := h0.1
  have HR := Lib.hid r0
  have HO := Lib.hid h0.2.2.2.2.2
  clear h0 r0
  by_cases h20 : 20 < l0.length
  · have q1 : decide (20 < l0.length) = true := decide_eq_true h20
    have q2 : decide (20 < (l0.length : Int)) = true := decide_eq_true (by omega)
    go_enter Tryz.func6, Tryz.ntmps6
    go_wp2_with fail
    refine (awake_any hd).mono ?_
    rintro e w ⟨rfl, hu⟩
    have HX := Lib.hid (((Sep.start W).keep hu).poolNew.poolOld HR.out)
    clear hu
    go_wp2_with (first | (refine sWL ?_; simp only [Act.put, List.setIfInBounds_toArray, List.set_cons_zero, List.set_cons_succ, List.drop_zero, List.drop_succ_cons, List.take_succ_cons, List.take_zero, List.toList_toArray, NodeS.cells, OpS.cells, ResS.cells]) | (refine sWM ?_; simp only [Act.put, List.setIfInBounds_toArray, List.set_cons_zero, List.set_cons_succ]) | (refine sWS ?_; clear HX; intro w HX; simp only [Act.put, List.setIfInBounds_toArray, List.set_cons_zero, List.set_cons_succ, setMany, Nat.reduceAdd, NodeS.cells, OpS.cells, ResS.cells] at HX ⊢) | (refine sWT ?_; clear HX; intro w HX; simp only [Act.put, List.setIfInBounds_toArray, List.set_cons_zero, List.set_cons_succ, NodeS.cells, OpS.cells, ResS.cells] at HX ⊢) | (refine sWA ?_; clear HX; (first | (have hq := b9; clear hq; intro w b10 HX) | (have hq := b8; clear hq; intro w b9 HX) | (have hq := b7; clear hq; intro w b8 HX) | (have hq := b6; clear hq; intro w b7 HX) | (have hq := b5; clear hq; intro w b6 HX) | (have hq := b4; clear hq; intro w b5 HX) | (have hq := b3; clear hq; intro w b4 HX) | (have hq := b2; clear hq; intro w b3 HX) | (have hq := b; clear hq; intro w b2 HX) | intro w b HX); simp only [Act.put, List.setIfInBounds_toArray, List.set_cons_zero, List.set_cons_succ]) | (refine sWN ?_; clear HX; intro w mm HX; simp only [Act.put, List.setIfInBounds_toArray, List.set_cons_zero, List.set_cons_succ]) | (refine sWP ?_; clear HX; intro w av nv cv HX; simp only [Act.put, List.setIfInBounds_toArray, List.set_cons_zero, List.set_cons_succ]))
    go_ret
    exact ⟨rfl, HX.out.below⟩
  have q1 : decide (20 < l0.length) = false := decide_eq_false h20
  have q2 : decide (20 < (l0.length : Int)) = false := decide_eq_false (by omega)
  by_cases hs1 : sess < 1
  · have q3 : decide (sess < 1) = true := decide_eq_true hs1
    go_enter Tryz.func6, Tryz.ntmps6
    go_wp2_with fail
    refine (awake_any hd).mono ?_
    rintro e w ⟨rfl, hu⟩
    have HX := Lib.hid (((Sep.start W).keep hu).poolNew.poolOld HR.out)
    clear hu
    go_wp2_with (first | (refine sWL ?_; simp only [Act.put, List.setIfInBounds_toArray, List.set_cons_zero, List.set_cons_succ, List.drop_zero, List.drop_succ_cons, List.take_succ_cons, List.take_zero, List.toList_toArray, NodeS.cells, OpS.cells, ResS.cells]) | (refine sWM ?_; simp only [Act.put, List.setIfInBounds_toArray, List.set_cons_zero, List.set_cons_succ]) | (refine sWS ?_; clear HX; intro w HX; simp only [Act.put, List.setIfInBounds_toArray, List.set_cons_zero, List.set_cons_succ, setMany, Nat.reduceAdd, NodeS.cells, OpS.cells, ResS.cells] at HX ⊢) | (refine sWT ?_; clear HX; intro w HX; simp only [Act.put, List.setIfInBounds_toArray, List.set_cons_zero, List.set_cons_succ, NodeS.cells, OpS.cells, ResS.cells] at HX ⊢) | (refine sWA ?_; clear HX; (first | (have hq := b9; clear hq; intro w b10 HX) | (have hq := b8; clear hq; intro w b9 HX) | (have hq := b7; clear hq; intro w b8 HX) | (have hq := b6; clear hq; intro w b7 HX) | (have hq := b5; clear hq; intro w b6 HX) | (have hq := b4; clear hq; intro w b5 HX) | (have hq := b3; clear hq; intro w b4 HX) | (have hq := b2; clear hq; intro w b3 HX) | (have hq := b; clear hq; intro w b2 HX) | intro w b HX); simp only [Act.put, List.setIfInBounds_toArray, List.set_cons_zero, List.set_cons_succ]) | (refine sWN ?_; clear HX; intro w mm HX; simp only [Act.put, List.setIfInBounds_toArray, List.set_cons_zero, List.set_cons_succ]) | (refine sWP ?_; clear HX; intro w av nv cv HX; simp only [Act.put, List.setIfInBounds_toArray, List.set_cons_zero, List.set_cons_succ]))
    go_ret
    exact ⟨rfl, HX.out.below⟩
  have q3 : decide (sess < 1) = false := decide_eq_false hs1
  have HL := Lib.hid (show l0.length ≤ 20 ∧ 0 < sess from ⟨by omega, by omega⟩)
  go_enter Tryz.func6, Tryz.ntmps6
  go_wp2_with fail
  refine (awake_any hd).mono ?_
  rintro e w ⟨rfl, hu⟩
  have HX := Lib.hid (((Sep.start W).keep hu).poolNew.poolOld HR.out)
  clear hu
  go_wp2_with (first | (refine sWL ?_; simp only [Act.put, List.setIfInBounds_toArray, List.set_cons_zero, List.set_cons_succ, List.drop_zero, List.drop_succ_cons, List.take_succ_cons, List.take_zero, List.toList_toArray, NodeS.cells, OpS.cells, ResS.cells]) | (refine sWM ?_; simp only [Act.put, List.setIfInBounds_toArray, List.set_cons_zero, List.set_cons_succ]) | (refine sWS ?_; clear HX; intro w HX; simp only [Act.put, List.setIfInBounds_toArray, List.set_cons_zero, List.set_cons_succ, setMany, Nat.reduceAdd, NodeS.cells, OpS.cells, ResS.cells] at HX ⊢) | (refine sWT ?_; clear HX; intro w HX; simp only [Act.put, List.setIfInBounds_toArray, List.set_cons_zero, List.set_cons_succ, NodeS.cells, OpS.cells, ResS.cells] at HX ⊢) | (refine sWA ?_; clear HX; (first | (have hq := b9; clear hq; intro w b10 HX) | (have hq := b8; clear hq; intro w b9 HX) | (have hq := b7; clear hq; intro w b8 HX) | (have hq := b6; clear hq; intro w b7 HX) | (have hq := b5; clear hq; intro w b6 HX) | (have hq := b4; clear hq; intro w b5 HX) | (have hq := b3; clear hq; intro w b4 HX) | (have hq := b2; clear hq; intro w b3 HX) | (have hq := b; clear hq; intro w b2 HX) | intro w b HX); simp only [Act.put, List.setIfInBounds_toArray, List.set_cons_zero, List.set_cons_succ]) | (refine sWN ?_; clear HX; intro w mm HX; simp only [Act.put, List.setIfInBounds_toArray, List.set_cons_zero, List.set_cons_succ]) | (refine sWP ?_; clear HX; intro w av nv cv HX; simp only [Act.put, List.setIfInBounds_toArray, List.set_cons_zero, List.set_cons_succ]))
  clear h20 hs1 q1 q2 q3
  refine (treenew_any HX.out 100 (by omega) (by omega)).mono ?_
  rintro e w1 ⟨t, rfl, hx⟩
  clear HX
  have HX := Lib.hid hx
  clear hx
  go_wp2_with (first | (refine sWL ?_; simp only [Act.put, List.setIfInBounds_toArray, List.set_cons_zero, List.set_cons_succ, List.drop_zero, List.drop_succ_cons, List.take_succ_cons, List.take_zero, List.toList_toArray, NodeS.cells, OpS.cells, ResS.cells]) | (refine sWM ?_; simp only [Act.put, List.setIfInBounds_toArray, List.set_cons_zero, List.set_cons_succ]) | (refine sWS ?_; clear HX; intro w HX; simp only [Act.put, List.setIfInBounds_toArray, List.set_cons_zero, List.set_cons_succ, setMany, Nat.reduceAdd, NodeS.cells, OpS.cells, ResS.cells] at HX ⊢) | (refine sWT ?_; clear HX; intro w HX; simp only [Act.put, List.setIfInBounds_toArray, List.set_cons_zero, List.set_cons_succ, NodeS.cells, OpS.cells, ResS.cells] at HX ⊢) | (refine sWA ?_; clear HX; (first | (have hq := b9; clear hq; intro w b10 HX) | (have hq := b8; clear hq; intro w b9 HX) | (have hq := b7; clear hq; intro w b8 HX) | (have hq := b6; clear hq; intro w b7 HX) | (have hq := b5; clear hq; intro w b6 HX) | (have hq := b4; clear hq; intro w b5 HX) | (have hq := b3; clear hq; intro w b4 HX) | (have hq := b2; clear hq; intro w b3 HX) | (have hq := b; clear hq; intro w b2 HX) | intro w b HX); simp only [Act.put, List.setIfInBounds_toArray, List.set_cons_zero, List.set_cons_succ]) | (refine sWN ?_; clear HX; intro w mm HX; simp only [Act.put, List.setIfInBounds_toArray, List.set_cons_zero, List.set_cons_succ]) | (refine sWP ?_; clear HX; intro w av nv cv HX; simp only [Act.put, List.setIfInBounds_toArray, List.set_cons_zero, List.set_cons_succ]))
  have HST := Lib.hid (show PgRel W l0 _ t l0.length (.int .i64 (0 : Int)) _ from ⟨0, _, by simp, rfl, List.mem_cons_self .., HX.out⟩)
  clear HX
  go_loopg [7] l0.length (fun k v wr => PgRel W l0 (5, .slice a0 l0.length cap0, l0.flatMap MAct.cells) t k v wr)
  case atStart => exact HST.out
  case round =>
    obtain ⟨i, P1, hik, rfl, hP1, hS⟩ := hrel
    have HX := Lib.hid hS
    have HP := Lib.hid hP1
    clear hS hP1 HST
    by_cases hlt : i < l0.length
    case neg =>
      obtain rfl : i = l0.length := by omega
      rw [List.take_length] at HX
      have hB : TreeB (0 + 16 * l0.length) (mplayT l0 ⟨100, []⟩) := mplayT_b l0 (tree_new 100 (by omega))
      obtain ⟨S, hSS⟩ : ∃ S, mplayT l0 ⟨100, []⟩ = S := ⟨_, rfl⟩
      rw [hSS] at HX hB
      have HB := Lib.hid hB
      clear hlt hik hSS hB
      go_wp2_with (first | (refine sWL ?_; simp only [Act.put, List.setIfInBounds_toArray, List.set_cons_zero, List.set_cons_succ, List.drop_zero, List.drop_succ_cons, List.take_succ_cons, List.take_zero, List.toList_toArray, NodeS.cells, OpS.cells, ResS.cells]) | (refine sWM ?_; simp only [Act.put, List.setIfInBounds_toArray, List.set_cons_zero, List.set_cons_succ]) | (refine sWS ?_; clear HX; intro w HX; simp only [Act.put, List.setIfInBounds_toArray, List.set_cons_zero, List.set_cons_succ, setMany, Nat.reduceAdd, NodeS.cells, OpS.cells, ResS.cells] at HX ⊢) | (refine sWT ?_; clear HX; intro w HX; simp only [Act.put, List.setIfInBounds_toArray, List.set_cons_zero, List.set_cons_succ, NodeS.cells, OpS.cells, ResS.cells] at HX ⊢) | (refine sWA ?_; clear HX; (first | (have hq := b9; clear hq; intro w b10 HX) | (have hq := b8; clear hq; intro w b9 HX) | (have hq := b7; clear hq; intro w b8 HX) | (have hq := b6; clear hq; intro w b7 HX) | (have hq := b5; clear hq; intro w b6 HX) | (have hq := b4; clear hq; intro w b5 HX) | (have hq := b3; clear hq; intro w b4 HX) | (have hq := b2; clear hq; intro w b3 HX) | (have hq := b; clear hq; intro w b2 HX) | intro w b HX); simp only [Act.put, List.setIfInBounds_toArray, List.set_cons_zero, List.set_cons_succ]) | (refine sWN ?_; clear HX; intro w mm HX; simp only [Act.put, List.setIfInBounds_toArray, List.set_cons_zero, List.set_cons_succ]) | (refine sWP ?_; clear HX; intro w av nv cv HX; simp only [Act.put, List.setIfInBounds_toArray, List.set_cons_zero, List.set_cons_succ]))
      refine (paths_any HX.out (by have := HB.out.many; omega) (fun e he => by have := HB.out.keys e he; omega)).mono ?_
      rintro e w1 ⟨vp, P2, rfl, hP2, hvp, hx⟩
      clear HX
      have HX := Lib.hid hx
      have HVP := Lib.hid hvp
      obtain ⟨E, hE⟩ := hx.poolGet hvp
      obtain ⟨wa, wn, wc, rfl, hwl, -, -, hwe⟩ := ReadRow.some hE
      rw [List.length_map, List.length_map, Nat.mul_one] at hwl
      subst hwl
      have HWE := Lib.hid hwe
      clear hx hvp hP2 hE hwe
      go_wp2_with (first | (refine sWL ?_; simp only [Act.put, List.setIfInBounds_toArray, List.set_cons_zero, List.set_cons_succ, List.drop_zero, List.drop_succ_cons, List.take_succ_cons, List.take_zero, List.toList_toArray, NodeS.cells, OpS.cells, ResS.cells]) | (refine sWM ?_; simp only [Act.put, List.setIfInBounds_toArray, List.set_cons_zero, List.set_cons_succ]) | (refine sWS ?_; clear HX; intro w HX; simp only [Act.put, List.setIfInBounds_toArray, List.set_cons_zero, List.set_cons_succ, setMany, Nat.reduceAdd, NodeS.cells, OpS.cells, ResS.cells] at HX ⊢) | (refine sWT ?_; clear HX; intro w HX; simp only [Act.put, List.setIfInBounds_toArray, List.set_cons_zero, List.set_cons_succ, NodeS.cells, OpS.cells, ResS.cells] at HX ⊢) | (refine sWA ?_; clear HX; (first | (have hq := b9; clear hq; intro w b10 HX) | (have hq := b8; clear hq; intro w b9 HX) | (have hq := b7; clear hq; intro w b8 HX) | (have hq := b6; clear hq; intro w b7 HX) | (have hq := b5; clear hq; intro w b6 HX) | (have hq := b4; clear hq; intro w b5 HX) | (have hq := b3; clear hq; intro w b4 HX) | (have hq := b2; clear hq; intro w b3 HX) | (have hq := b; clear hq; intro w b2 HX) | intro w b HX); simp only [Act.put, List.setIfInBounds_toArray, List.set_cons_zero, List.set_cons_succ]) | (refine sWN ?_; clear HX; intro w mm HX; simp only [Act.put, List.setIfInBounds_toArray, List.set_cons_zero, List.set_cons_succ]) | (refine sWP ?_; clear HX; intro w av nv cv HX; simp only [Act.put, List.setIfInBounds_toArray, List.set_cons_zero, List.set_cons_succ]))
      refine (tof_any HX.out sess (by have := HB.out.many; omega) (fun e he => by have := HB.out.keys e he; omega)).mono ?_
      rintro e w1 ⟨vg, P3, rfl, hP3, hvg, hx⟩
      obtain ⟨E, hE⟩ := hx.poolGet hvg
      obtain ⟨ga, gn, gc, rfl, hgl, -, -, -⟩ := ReadRow.some hE
      rw [List.length_map, Nat.mul_one] at hgl
      subst hgl
      clear HX
      have HX := Lib.hid hx
      have HP3 := Lib.hid hP3
      clear hx hvg hP3 hE
      go_wp2_with (first | (refine sWL ?_; simp only [Act.put, List.setIfInBounds_toArray, List.set_cons_zero, List.set_cons_succ, List.drop_zero, List.drop_succ_cons, List.take_succ_cons, List.take_zero, List.toList_toArray, NodeS.cells, OpS.cells, ResS.cells]) | (refine sWM ?_; simp only [Act.put, List.setIfInBounds_toArray, List.set_cons_zero, List.set_cons_succ]) | (refine sWS ?_; clear HX; intro w HX; simp only [Act.put, List.setIfInBounds_toArray, List.set_cons_zero, List.set_cons_succ, setMany, Nat.reduceAdd, NodeS.cells, OpS.cells, ResS.cells] at HX ⊢) | (refine sWT ?_; clear HX; intro w HX; simp only [Act.put, List.setIfInBounds_toArray, List.set_cons_zero, List.set_cons_succ, NodeS.cells, OpS.cells, ResS.cells] at HX ⊢) | (refine sWA ?_; clear HX; (first | (have hq := b9; clear hq; intro w b10 HX) | (have hq := b8; clear hq; intro w b9 HX) | (have hq := b7; clear hq; intro w b8 HX) | (have hq := b6; clear hq; intro w b7 HX) | (have hq := b5; clear hq; intro w b6 HX) | (have hq := b4; clear hq; intro w b5 HX) | (have hq := b3; clear hq; intro w b4 HX) | (have hq := b2; clear hq; intro w b3 HX) | (have hq := b; clear hq; intro w b2 HX) | intro w b HX); simp only [Act.put, List.setIfInBounds_toArray, List.set_cons_zero, List.set_cons_succ]) | (refine sWN ?_; clear HX; intro w mm HX; simp only [Act.put, List.setIfInBounds_toArray, List.set_cons_zero, List.set_cons_succ]) | (refine sWP ?_; clear HX; intro w av nv cv HX; simp only [Act.put, List.setIfInBounds_toArray, List.set_cons_zero, List.set_cons_succ]))
      refine (purge_any HX.out hd HB.out (by have := HL.out; omega) sess).mono ?_
      rintro e w1 ⟨l', hpm, -, v', P4, rfl, hP4, hx⟩
      obtain ⟨pa, pn, pc, rfl, hpl, -, -⟩ := hx.rowLen
      rw [List.length_map, Nat.mul_one] at hpl
      subst hpl
      have hpu := purged HB.out HL.out.2 hpm
      have hB2 := purT_b l' HB.out
      have hle := hpm.length_eq
      have hx2 := (tree_mono (P' := (1, Value.slice pa l'.length pc, l'.map sv) :: P4) hx.poolRow.up1 (fun r hr => List.mem_cons_of_mem _ hr)).up1
      obtain ⟨S2, hS2⟩ : ∃ S2, purT l' S = S2 := ⟨_, rfl⟩
      rw [hS2] at hpu hB2 hx2
      rw [hle] at hx2 ⊢
      clear HX
      have HX := Lib.hid hx2
      have HPU := Lib.hid (show _ ∧ _ ∧ _ from ⟨hpu, hB2, hle⟩)
      have HP4 := Lib.hid hP4
      clear hx hx2 hpm hpu hB2 hP4 hle hS2
      have q5 : (((ofT S sess).length : Int) != ((ofT S sess).length : Int)) = false := by simp
      have q5' : ((ofT S sess).length != (ofT S sess).length) = false := by simp
      go_wp2_with (first | (refine sWL ?_; simp only [Act.put, List.setIfInBounds_toArray, List.set_cons_zero, List.set_cons_succ, List.drop_zero, List.drop_succ_cons, List.take_succ_cons, List.take_zero, List.toList_toArray, NodeS.cells, OpS.cells, ResS.cells]) | (refine sWM ?_; simp only [Act.put, List.setIfInBounds_toArray, List.set_cons_zero, List.set_cons_succ]) | (refine sWS ?_; clear HX; intro w HX; simp only [Act.put, List.setIfInBounds_toArray, List.set_cons_zero, List.set_cons_succ, setMany, Nat.reduceAdd, NodeS.cells, OpS.cells, ResS.cells] at HX ⊢) | (refine sWT ?_; clear HX; intro w HX; simp only [Act.put, List.setIfInBounds_toArray, List.set_cons_zero, List.set_cons_succ, NodeS.cells, OpS.cells, ResS.cells] at HX ⊢) | (refine sWA ?_; clear HX; (first | (have hq := b9; clear hq; intro w b10 HX) | (have hq := b8; clear hq; intro w b9 HX) | (have hq := b7; clear hq; intro w b8 HX) | (have hq := b6; clear hq; intro w b7 HX) | (have hq := b5; clear hq; intro w b6 HX) | (have hq := b4; clear hq; intro w b5 HX) | (have hq := b3; clear hq; intro w b4 HX) | (have hq := b2; clear hq; intro w b3 HX) | (have hq := b; clear hq; intro w b2 HX) | intro w b HX); simp only [Act.put, List.setIfInBounds_toArray, List.set_cons_zero, List.set_cons_succ]) | (refine sWN ?_; clear HX; intro w mm HX; simp only [Act.put, List.setIfInBounds_toArray, List.set_cons_zero, List.set_cons_succ]) | (refine sWP ?_; clear HX; intro w av nv cv HX; simp only [Act.put, List.setIfInBounds_toArray, List.set_cons_zero, List.set_cons_succ]))
      refine (tof_any HX.out sess (by have := HPU.out.2.1.many; omega) (fun e he => by have := HPU.out.2.1.keys e he; omega)).mono ?_
      rw [HPU.out.1.1]
      rintro e w1 ⟨vo, P5, rfl, hP5, hvo, hx⟩
      obtain ⟨E, hE⟩ := hx.poolGet hvo
      obtain ⟨oa, on, oc, rfl, hol, -, -, -⟩ := ReadRow.some hE
      simp only [List.map_nil, List.length_nil] at hol
      obtain rfl : on = 0 := by omega
      clear HX
      have HX := Lib.hid hx
      have HP5 := Lib.hid hP5
      clear hx hvo hP5 hE hol
      go_wp2_with (first | (refine sWL ?_; simp only [Act.put, List.setIfInBounds_toArray, List.set_cons_zero, List.set_cons_succ, List.drop_zero, List.drop_succ_cons, List.take_succ_cons, List.take_zero, List.toList_toArray, NodeS.cells, OpS.cells, ResS.cells]) | (refine sWM ?_; simp only [Act.put, List.setIfInBounds_toArray, List.set_cons_zero, List.set_cons_succ]) | (refine sWS ?_; clear HX; intro w HX; simp only [Act.put, List.setIfInBounds_toArray, List.set_cons_zero, List.set_cons_succ, setMany, Nat.reduceAdd, NodeS.cells, OpS.cells, ResS.cells] at HX ⊢) | (refine sWT ?_; clear HX; intro w HX; simp only [Act.put, List.setIfInBounds_toArray, List.set_cons_zero, List.set_cons_succ, NodeS.cells, OpS.cells, ResS.cells] at HX ⊢) | (refine sWA ?_; clear HX; (first | (have hq := b9; clear hq; intro w b10 HX) | (have hq := b8; clear hq; intro w b9 HX) | (have hq := b7; clear hq; intro w b8 HX) | (have hq := b6; clear hq; intro w b7 HX) | (have hq := b5; clear hq; intro w b6 HX) | (have hq := b4; clear hq; intro w b5 HX) | (have hq := b3; clear hq; intro w b4 HX) | (have hq := b2; clear hq; intro w b3 HX) | (have hq := b; clear hq; intro w b2 HX) | intro w b HX); simp only [Act.put, List.setIfInBounds_toArray, List.set_cons_zero, List.set_cons_succ]) | (refine sWN ?_; clear HX; intro w mm HX; simp only [Act.put, List.setIfInBounds_toArray, List.set_cons_zero, List.set_cons_succ]) | (refine sWP ?_; clear HX; intro w av nv cv HX; simp only [Act.put, List.setIfInBounds_toArray, List.set_cons_zero, List.set_cons_succ]))
      refine (treelen_any HX.out.up1).mono ?_
      rintro e w1 ⟨rfl, hu⟩
      replace HX := Lib.hid (HX.out.keep hu)
      have b1 : S.l.length ≤ 500 := HB.out.many
      have b2 : (ofT S sess).length ≤ S.l.length := by unfold ofT; rw [List.length_map]; exact List.length_filter_le _ _
      have q6 : ((S2.l.length : Int) != ((S.l.length : Int) - ((ofT S sess).length : Int))) = false := by rw [HPU.out.1.2.1]; simp
      clear hu
      go_wp2_with (first | (refine sWL ?_; simp only [Act.put, List.setIfInBounds_toArray, List.set_cons_zero, List.set_cons_succ, List.drop_zero, List.drop_succ_cons, List.take_succ_cons, List.take_zero, List.toList_toArray, NodeS.cells, OpS.cells, ResS.cells]) | (refine sWM ?_; simp only [Act.put, List.setIfInBounds_toArray, List.set_cons_zero, List.set_cons_succ]) | (refine sWS ?_; clear HX; intro w HX; simp only [Act.put, List.setIfInBounds_toArray, List.set_cons_zero, List.set_cons_succ, setMany, Nat.reduceAdd, NodeS.cells, OpS.cells, ResS.cells] at HX ⊢) | (refine sWT ?_; clear HX; intro w HX; simp only [Act.put, List.setIfInBounds_toArray, List.set_cons_zero, List.set_cons_succ, NodeS.cells, OpS.cells, ResS.cells] at HX ⊢) | (refine sWA ?_; clear HX; (first | (have hq := b9; clear hq; intro w b10 HX) | (have hq := b8; clear hq; intro w b9 HX) | (have hq := b7; clear hq; intro w b8 HX) | (have hq := b6; clear hq; intro w b7 HX) | (have hq := b5; clear hq; intro w b6 HX) | (have hq := b4; clear hq; intro w b5 HX) | (have hq := b3; clear hq; intro w b4 HX) | (have hq := b2; clear hq; intro w b3 HX) | (have hq := b; clear hq; intro w b2 HX) | intro w b HX); simp only [Act.put, List.setIfInBounds_toArray, List.set_cons_zero, List.set_cons_succ]) | (refine sWN ?_; clear HX; intro w mm HX; simp only [Act.put, List.setIfInBounds_toArray, List.set_cons_zero, List.set_cons_succ]) | (refine sWP ?_; clear HX; intro w av nv cv HX; simp only [Act.put, List.setIfInBounds_toArray, List.set_cons_zero, List.set_cons_succ]))
      have HST := Lib.hid (show PhRel W S.l.length S2 P5 t S.l.length (.int .i64 (0 : Int)) _ from ⟨0, P5, by simp, rfl, fun q hq => hq, HX.out⟩)
      clear HX q5 q5' q6 b2
      go_loopg [11] S.l.length (fun k v wr => PhRel W S.l.length S2 P5 t k v wr)
      case atStart => exact HST.out
      case round =>
        obtain ⟨i, P6, hik, rfl, hP6, hS⟩ := hrel
        have HX := Lib.hid hS
        have HP6 := Lib.hid hP6
        clear hS hP6 HST
        by_cases hlt : i < S.l.length
        case neg =>
          obtain rfl : i = S.l.length := by omega
          clear hlt hik
          go_wp2_with (first | (refine sWL ?_; simp only [Act.put, List.setIfInBounds_toArray, List.set_cons_zero, List.set_cons_succ, List.drop_zero, List.drop_succ_cons, List.take_succ_cons, List.take_zero, List.toList_toArray, NodeS.cells, OpS.cells, ResS.cells]) | (refine sWM ?_; simp only [Act.put, List.setIfInBounds_toArray, List.set_cons_zero, List.set_cons_succ]) | (refine sWS ?_; clear HX; intro w HX; simp only [Act.put, List.setIfInBounds_toArray, List.set_cons_zero, List.set_cons_succ, setMany, Nat.reduceAdd, NodeS.cells, OpS.cells, ResS.cells] at HX ⊢) | (refine sWT ?_; clear HX; intro w HX; simp only [Act.put, List.setIfInBounds_toArray, List.set_cons_zero, List.set_cons_succ, NodeS.cells, OpS.cells, ResS.cells] at HX ⊢) | (refine sWA ?_; clear HX; (first | (have hq := b9; clear hq; intro w b10 HX) | (have hq := b8; clear hq; intro w b9 HX) | (have hq := b7; clear hq; intro w b8 HX) | (have hq := b6; clear hq; intro w b7 HX) | (have hq := b5; clear hq; intro w b6 HX) | (have hq := b4; clear hq; intro w b5 HX) | (have hq := b3; clear hq; intro w b4 HX) | (have hq := b2; clear hq; intro w b3 HX) | (have hq := b; clear hq; intro w b2 HX) | intro w b HX); simp only [Act.put, List.setIfInBounds_toArray, List.set_cons_zero, List.set_cons_succ]) | (refine sWN ?_; clear HX; intro w mm HX; simp only [Act.put, List.setIfInBounds_toArray, List.set_cons_zero, List.set_cons_succ]) | (refine sWP ?_; clear HX; intro w av nv cv HX; simp only [Act.put, List.setIfInBounds_toArray, List.set_cons_zero, List.set_cons_succ]))
          go_ret
          exact ⟨rfl, HX.out.below⟩
        case pos =>
          obtain ⟨g, off, rfl⟩ := HWE.out (by intro e; rw [List.map_map, List.map_eq_nil_iff] at e; rw [e] at hlt; simp at hlt)
          have hwrow : (1, Value.slice (some ⟨g, off, none⟩) S.l.length wc, (S.l.map (·.1)).map sv) ∈ P6 := HP6.out _ (HP5.out _ (List.mem_cons_of_mem _ (HP4.out _ (HP3.out _ HVP.out))))
          obtain ⟨E, hE⟩ := HX.out.poolGet hwrow
          have hl := row_load1 (P := Tryz.prog) (ty := 9) (i := i) (v := sv S.l[i].1) hE (by kernel_rfl) (by simp [hlt])
          have hkey := HPU.out.1.2.2 S.l[i].1 (List.mem_map.2 ⟨_, List.getElem_mem hlt, rfl⟩)
          obtain ⟨key, hke⟩ : ∃ key, S.l[i].1 = key := ⟨_, rfl⟩
          have HWX := Lib.hid (show _ ∧ ((S.l.map (·.1)).map sv)[i]? = some (sv key) from ⟨hwrow, by rw [← hke]; simp [hlt]⟩)
          rw [hke] at hl hkey
          obtain ⟨ps, hps⟩ : ∃ ps : ByteArray, ps = ⟨key.toArray⟩ := ⟨_, rfl⟩
          have hpv : sv key = .string ps := by rw [hps]; rfl
          have hpl : ps.data.toList = key := by rw [hps]
          rw [hpv] at hl HWX
          have HPL := Lib.hid hpl
          have q0 : decide (i < S.l.length) = true := decide_eq_true hlt
          clear hE hwrow hke hps hpv hpl
          go_wp2_with (first | (refine sWL ?_; simp only [Act.put, List.setIfInBounds_toArray, List.set_cons_zero, List.set_cons_succ, List.drop_zero, List.drop_succ_cons, List.take_succ_cons, List.take_zero, List.toList_toArray, NodeS.cells, OpS.cells, ResS.cells]) | (refine sWM ?_; simp only [Act.put, List.setIfInBounds_toArray, List.set_cons_zero, List.set_cons_succ]) | (refine sWS ?_; clear HX; intro w HX; simp only [Act.put, List.setIfInBounds_toArray, List.set_cons_zero, List.set_cons_succ, setMany, Nat.reduceAdd, NodeS.cells, OpS.cells, ResS.cells] at HX ⊢) | (refine sWT ?_; clear HX; intro w HX; simp only [Act.put, List.setIfInBounds_toArray, List.set_cons_zero, List.set_cons_succ, NodeS.cells, OpS.cells, ResS.cells] at HX ⊢) | (refine sWA ?_; clear HX; (first | (have hq := b9; clear hq; intro w b10 HX) | (have hq := b8; clear hq; intro w b9 HX) | (have hq := b7; clear hq; intro w b8 HX) | (have hq := b6; clear hq; intro w b7 HX) | (have hq := b5; clear hq; intro w b6 HX) | (have hq := b4; clear hq; intro w b5 HX) | (have hq := b3; clear hq; intro w b4 HX) | (have hq := b2; clear hq; intro w b3 HX) | (have hq := b; clear hq; intro w b2 HX) | intro w b HX); simp only [Act.put, List.setIfInBounds_toArray, List.set_cons_zero, List.set_cons_succ]) | (refine sWN ?_; clear HX; intro w mm HX; simp only [Act.put, List.setIfInBounds_toArray, List.set_cons_zero, List.set_cons_succ]) | (refine sWP ?_; clear HX; intro w av nv cv HX; simp only [Act.put, List.setIfInBounds_toArray, List.set_cons_zero, List.set_cons_succ]) | ((with_reducible apply sx_loadAt hl); (· rfl); (· rfl); simp only [Act.put, List.setIfInBounds_toArray, List.set_cons_zero, List.set_cons_succ]))
          cases hlook : lookT key S2.l with
          | some nd =>
            rw [hlook] at hkey
            have hmem : decide (key ∈ l') = false := decide_eq_false (hkey.1 rfl)
            have HM := Lib.hid hmem
            refine (treenode_some HX.out ps nd (by rw [HPL.out]; exact hlook) (HPU.out.2.1.ok (by have := HL.out; omega) _ ((look_mem (rise_nodup HPU.out.2.1.rise)).1 hlook))).mono ?_
            rintro e w ⟨nw, P7, rfl, hP7, hnw, hx⟩
            clear HX hl
            obtain ⟨E, hE⟩ := Sep.poolGet hx hnw
            obtain ⟨na, nn, nc, rfl, -⟩ := id hE
            have HX := Lib.hid hx
            have HP7 := Lib.hid hP7
            clear hx hP7 hE hnw hlook hkey hmem
            unfold NodeS.val NodeS.cells
            go_wp2_with (first | (refine sWL ?_; simp only [Act.put, List.setIfInBounds_toArray, List.set_cons_zero, List.set_cons_succ, List.drop_zero, List.drop_succ_cons, List.take_succ_cons, List.take_zero, List.toList_toArray, NodeS.cells, OpS.cells, ResS.cells]) | (refine sWM ?_; simp only [Act.put, List.setIfInBounds_toArray, List.set_cons_zero, List.set_cons_succ]) | (refine sWS ?_; clear HX; intro w HX; simp only [Act.put, List.setIfInBounds_toArray, List.set_cons_zero, List.set_cons_succ, setMany, Nat.reduceAdd, NodeS.cells, OpS.cells, ResS.cells] at HX ⊢) | (refine sWT ?_; clear HX; intro w HX; simp only [Act.put, List.setIfInBounds_toArray, List.set_cons_zero, List.set_cons_succ, NodeS.cells, OpS.cells, ResS.cells] at HX ⊢) | (refine sWA ?_; clear HX; (first | (have hq := b9; clear hq; intro w b10 HX) | (have hq := b8; clear hq; intro w b9 HX) | (have hq := b7; clear hq; intro w b8 HX) | (have hq := b6; clear hq; intro w b7 HX) | (have hq := b5; clear hq; intro w b6 HX) | (have hq := b4; clear hq; intro w b5 HX) | (have hq := b3; clear hq; intro w b4 HX) | (have hq := b2; clear hq; intro w b3 HX) | (have hq := b; clear hq; intro w b2 HX) | intro w b HX); simp only [Act.put, List.setIfInBounds_toArray, List.set_cons_zero, List.set_cons_succ]) | (refine sWN ?_; clear HX; intro w mm HX; simp only [Act.put, List.setIfInBounds_toArray, List.set_cons_zero, List.set_cons_succ]) | (refine sWP ?_; clear HX; intro w av nv cv HX; simp only [Act.put, List.setIfInBounds_toArray, List.set_cons_zero, List.set_cons_succ]))
            have hy := HX.out.up1
            clear HX
            have HX := Lib.hid hy
            clear hy
            have HST := Lib.hid (show PiRel W l' key _ l'.length (.bool false) (.int .i64 (0 : Int)) _ from ⟨0, by simp, by simp, rfl, HX.out⟩)
            clear HX
            go_loopg [14, 15] l'.length (fun k v v2 wr => PiRel W l' key _ k v v2 wr)
            case atStart => exact HST.out
            case round =>
              rename World => w
              obtain ⟨j, hjk, rfl, rfl, hS⟩ := hrel
              have HX := Lib.hid hS
              clear hS HST
              by_cases hlt2 : j < l'.length
              case neg =>
                obtain rfl : j = l'.length := by omega
                rw [List.take_length, HM.out]
                clear hlt2 hjk
                rw [HPU.out.2.2]
                go_wp2_with (first | (refine sWL ?_; simp only [Act.put, List.setIfInBounds_toArray, List.set_cons_zero, List.set_cons_succ, List.drop_zero, List.drop_succ_cons, List.take_succ_cons, List.take_zero, List.toList_toArray, NodeS.cells, OpS.cells, ResS.cells]) | (refine sWM ?_; simp only [Act.put, List.setIfInBounds_toArray, List.set_cons_zero, List.set_cons_succ]) | (refine sWS ?_; clear HX; intro w HX; simp only [Act.put, List.setIfInBounds_toArray, List.set_cons_zero, List.set_cons_succ, setMany, Nat.reduceAdd, NodeS.cells, OpS.cells, ResS.cells] at HX ⊢) | (refine sWT ?_; clear HX; intro w HX; simp only [Act.put, List.setIfInBounds_toArray, List.set_cons_zero, List.set_cons_succ, NodeS.cells, OpS.cells, ResS.cells] at HX ⊢) | (refine sWA ?_; clear HX; (first | (have hq := b9; clear hq; intro w b10 HX) | (have hq := b8; clear hq; intro w b9 HX) | (have hq := b7; clear hq; intro w b8 HX) | (have hq := b6; clear hq; intro w b7 HX) | (have hq := b5; clear hq; intro w b6 HX) | (have hq := b4; clear hq; intro w b5 HX) | (have hq := b3; clear hq; intro w b4 HX) | (have hq := b2; clear hq; intro w b3 HX) | (have hq := b; clear hq; intro w b2 HX) | intro w b HX); simp only [Act.put, List.setIfInBounds_toArray, List.set_cons_zero, List.set_cons_succ]) | (refine sWN ?_; clear HX; intro w mm HX; simp only [Act.put, List.setIfInBounds_toArray, List.set_cons_zero, List.set_cons_succ]) | (refine sWP ?_; clear HX; intro w av nv cv HX; simp only [Act.put, List.setIfInBounds_toArray, List.set_cons_zero, List.set_cons_succ]))
                go_roundg (S.l.length - (i + 1))
                case rel => exact ⟨i + 1, _, by omega, by go_num, fun q hq => (HP7.out _) (HP6.out q hq), HX.out.pm 3 [0, 2] rfl rfl⟩
                case measure => omega
              case pos =>
                have hprow : (1, Value.slice pa (ofT S sess).length pc, l'.map sv) ∈ _ := (HP7.out _) (HP6.out _ (HP5.out _ (List.mem_cons_self ..)))
                have HPR := Lib.hid hprow
                obtain ⟨E, hE⟩ := HX.out.poolGet hprow
                obtain ⟨_, _, _, e, _, _, _, hne⟩ := ReadRow.some hE
                simp only [Value.slice.injEq] at e
                obtain ⟨rfl, rfl, rfl⟩ := e
                obtain ⟨g2, o2, rfl⟩ := hne (by intro e; have e : l'.map sv = [] := e; rw [List.map_eq_nil_iff] at e; rw [e] at hlt2; simp at hlt2)
                have HTK := Lib.hid (mem_take (p := key) hlt2)
                obtain ⟨pj, hpj⟩ : ∃ pj : ByteArray, pj = ⟨l'[j].toArray⟩ := ⟨_, rfl⟩
                have HLJ := Lib.hid (show (l'.map sv)[j]? = some (.string pj) by rw [hpj]; simp [hlt2]; rfl)
                obtain ⟨zb, hzb⟩ : ∃ zb, (pj.toList == ps.toList) = zb := ⟨_, rfl⟩
                have HZB := Lib.hid (show (l'[j] == key) = zb by rw [← hzb, strK_eq, hpj, HPL.out])
                have q1 : decide (j < l'.length) = true := decide_eq_true hlt2
                have hjb : j < (ofT S sess).length := by have := HPU.out.2.2; omega
                have q2 : decide (j < (ofT S sess).length) = true := decide_eq_true hjb
                have q3 : j ≤ 500 := by have := HPU.out.2.2; have : (ofT S sess).length ≤ S.l.length := (by unfold ofT; rw [List.length_map]; exact List.length_filter_le _ _); omega
                obtain ⟨mb, hmb⟩ : ∃ mb, decide (key ∈ l'.take j) = mb := ⟨_, rfl⟩
                rw [hmb] at HTK ⊢
                clear hE hne hprow hpj hmb
                cases mb with
                | true =>
                  go_wp2_with (first | (refine sWL ?_; simp only [Act.put, List.setIfInBounds_toArray, List.set_cons_zero, List.set_cons_succ, List.drop_zero, List.drop_succ_cons, List.take_succ_cons, List.take_zero, List.toList_toArray, NodeS.cells, OpS.cells, ResS.cells]) | (refine sWM ?_; simp only [Act.put, List.setIfInBounds_toArray, List.set_cons_zero, List.set_cons_succ]) | (refine sWS ?_; clear HX; intro w HX; simp only [Act.put, List.setIfInBounds_toArray, List.set_cons_zero, List.set_cons_succ, setMany, Nat.reduceAdd, NodeS.cells, OpS.cells, ResS.cells] at HX ⊢) | (refine sWT ?_; clear HX; intro w HX; simp only [Act.put, List.setIfInBounds_toArray, List.set_cons_zero, List.set_cons_succ, NodeS.cells, OpS.cells, ResS.cells] at HX ⊢) | (refine sWA ?_; clear HX; (first | (have hq := b9; clear hq; intro w b10 HX) | (have hq := b8; clear hq; intro w b9 HX) | (have hq := b7; clear hq; intro w b8 HX) | (have hq := b6; clear hq; intro w b7 HX) | (have hq := b5; clear hq; intro w b6 HX) | (have hq := b4; clear hq; intro w b5 HX) | (have hq := b3; clear hq; intro w b4 HX) | (have hq := b2; clear hq; intro w b3 HX) | (have hq := b; clear hq; intro w b2 HX) | intro w b HX); simp only [Act.put, List.setIfInBounds_toArray, List.set_cons_zero, List.set_cons_succ]) | (refine sWN ?_; clear HX; intro w mm HX; simp only [Act.put, List.setIfInBounds_toArray, List.set_cons_zero, List.set_cons_succ]) | (refine sWP ?_; clear HX; intro w av nv cv HX; simp only [Act.put, List.setIfInBounds_toArray, List.set_cons_zero, List.set_cons_succ]))
                  refine wp_region_M (fun W => W = w.drew) 13 (by kernel_rfl) ?_
                  replace HX := Lib.hid HX.out.drew
                  generalize w.drew = w at HX ⊢
                  obtain ⟨E, hE⟩ := HX.out.poolGet HPR.out
                  have hl := row_load1 (P := Tryz.prog) (ty := 9) (i := j) (v := .string pj) hE (by kernel_rfl) HLJ.out
                  obtain ⟨E2, hE2⟩ := HX.out.poolGet ((HP7.out _) HWX.out.1)
                  have hl2 := row_load1 (P := Tryz.prog) (ty := 9) (i := i) (v := .string ps) hE2 (by kernel_rfl) HWX.out.2
                  clear hE hE2
                  refine wpAnyM_take (by kernel_rfl) (by intro c a d v w h; cases d <;> exact h) [(0, false), (1, false), (2, false), (3, false), (4, false), (5, true), (6, false), (7, false), (8, false), (9, true), (10, false), (11, false), (12, false)] (fuel := 0) (by kernel_rfl) ?_
                  apply Exists.intro; refine ⟨?_, rfl, ?_⟩
                  · iterate 13 (refine yD ?_)
                    exact rfl
                  refine wpAnyM_done (by kernel_rfl) ?_ _
                  clear hl hl2
                  go_wp2_with (first | (refine sWL ?_; simp only [Act.put, List.setIfInBounds_toArray, List.set_cons_zero, List.set_cons_succ, List.drop_zero, List.drop_succ_cons, List.take_succ_cons, List.take_zero, List.toList_toArray, NodeS.cells, OpS.cells, ResS.cells]) | (refine sWM ?_; simp only [Act.put, List.setIfInBounds_toArray, List.set_cons_zero, List.set_cons_succ]) | (refine sWS ?_; clear HX; intro w HX; simp only [Act.put, List.setIfInBounds_toArray, List.set_cons_zero, List.set_cons_succ, setMany, Nat.reduceAdd, NodeS.cells, OpS.cells, ResS.cells] at HX ⊢) | (refine sWT ?_; clear HX; intro w HX; simp only [Act.put, List.setIfInBounds_toArray, List.set_cons_zero, List.set_cons_succ, NodeS.cells, OpS.cells, ResS.cells] at HX ⊢) | (refine sWA ?_; clear HX; (first | (have hq := b9; clear hq; intro w b10 HX) | (have hq := b8; clear hq; intro w b9 HX) | (have hq := b7; clear hq; intro w b8 HX) | (have hq := b6; clear hq; intro w b7 HX) | (have hq := b5; clear hq; intro w b6 HX) | (have hq := b4; clear hq; intro w b5 HX) | (have hq := b3; clear hq; intro w b4 HX) | (have hq := b2; clear hq; intro w b3 HX) | (have hq := b; clear hq; intro w b2 HX) | intro w b HX); simp only [Act.put, List.setIfInBounds_toArray, List.set_cons_zero, List.set_cons_succ]) | (refine sWN ?_; clear HX; intro w mm HX; simp only [Act.put, List.setIfInBounds_toArray, List.set_cons_zero, List.set_cons_succ]) | (refine sWP ?_; clear HX; intro w av nv cv HX; simp only [Act.put, List.setIfInBounds_toArray, List.set_cons_zero, List.set_cons_succ]))
                  go_roundg (l'.length - (j + 1))
                  case rel => exact ⟨j + 1, by omega, by rw [HTK.out]; rfl, by go_num, HX.out⟩
                  case measure => omega
                | false =>
                  go_wp2_with (first | (refine sWL ?_; simp only [Act.put, List.setIfInBounds_toArray, List.set_cons_zero, List.set_cons_succ, List.drop_zero, List.drop_succ_cons, List.take_succ_cons, List.take_zero, List.toList_toArray, NodeS.cells, OpS.cells, ResS.cells]) | (refine sWM ?_; simp only [Act.put, List.setIfInBounds_toArray, List.set_cons_zero, List.set_cons_succ]) | (refine sWS ?_; clear HX; intro w HX; simp only [Act.put, List.setIfInBounds_toArray, List.set_cons_zero, List.set_cons_succ, setMany, Nat.reduceAdd, NodeS.cells, OpS.cells, ResS.cells] at HX ⊢) | (refine sWT ?_; clear HX; intro w HX; simp only [Act.put, List.setIfInBounds_toArray, List.set_cons_zero, List.set_cons_succ, NodeS.cells, OpS.cells, ResS.cells] at HX ⊢) | (refine sWA ?_; clear HX; (first | (have hq := b9; clear hq; intro w b10 HX) | (have hq := b8; clear hq; intro w b9 HX) | (have hq := b7; clear hq; intro w b8 HX) | (have hq := b6; clear hq; intro w b7 HX) | (have hq := b5; clear hq; intro w b6 HX) | (have hq := b4; clear hq; intro w b5 HX) | (have hq := b3; clear hq; intro w b4 HX) | (have hq := b2; clear hq; intro w b3 HX) | (have hq := b; clear hq; intro w b2 HX) | intro w b HX); simp only [Act.put, List.setIfInBounds_toArray, List.set_cons_zero, List.set_cons_succ]) | (refine sWN ?_; clear HX; intro w mm HX; simp only [Act.put, List.setIfInBounds_toArray, List.set_cons_zero, List.set_cons_succ]) | (refine sWP ?_; clear HX; intro w av nv cv HX; simp only [Act.put, List.setIfInBounds_toArray, List.set_cons_zero, List.set_cons_succ]))
                  refine wp_region_M (fun W => W = w.drew) 13 (by kernel_rfl) ?_
                  replace HX := Lib.hid HX.out.drew
                  generalize w.drew = w at HX ⊢
                  obtain ⟨E, hE⟩ := HX.out.poolGet HPR.out
                  have hl := row_load1 (P := Tryz.prog) (ty := 9) (i := j) (v := .string pj) hE (by kernel_rfl) HLJ.out
                  obtain ⟨E2, hE2⟩ := HX.out.poolGet ((HP7.out _) HWX.out.1)
                  have hl2 := row_load1 (P := Tryz.prog) (ty := 9) (i := i) (v := .string ps) hE2 (by kernel_rfl) HWX.out.2
                  clear hE hE2
                  refine wpAnyM_take (by kernel_rfl) (by intro c a d v w h; cases d <;> exact h) [(0, false), (1, false), (2, false), (3, false), (4, false), (5, true), (6, false), (7, false), (8, false), (9, true), (10, false), (11, false), (12, false)] (fuel := 0) (by kernel_rfl) ?_
                  apply Exists.intro; refine ⟨?_, rfl, ?_⟩
                  · iterate 13 (first | refine yD ?_ | ((first | apply yieldP | apply yieldL); (· (simp only [List.getElem?_toArray, List.getElem?_cons_succ, List.getElem?_cons_zero]; try rfl)); (· rfl); (· (intros; go_simp; (try simp only [hzb, ↓reduceIte, and_self, Int.toNat_natCast]); try with_reducible rfl)); (· (simp only [Act.put, List.setIfInBounds_toArray, List.set_cons_zero, List.set_cons_succ, List.drop_zero, List.drop_succ_cons, List.take_succ_cons, List.take_zero, List.toList_toArray, NodeS.cells, OpS.cells, ResS.cells]; try rfl))))
                    exact rfl
                  refine wpAnyM_done (by kernel_rfl) ?_ _
                  clear hl hl2
                  go_wp2_with (first | (refine sWL ?_; simp only [Act.put, List.setIfInBounds_toArray, List.set_cons_zero, List.set_cons_succ, List.drop_zero, List.drop_succ_cons, List.take_succ_cons, List.take_zero, List.toList_toArray, NodeS.cells, OpS.cells, ResS.cells]) | (refine sWM ?_; simp only [Act.put, List.setIfInBounds_toArray, List.set_cons_zero, List.set_cons_succ]) | (refine sWS ?_; clear HX; intro w HX; simp only [Act.put, List.setIfInBounds_toArray, List.set_cons_zero, List.set_cons_succ, setMany, Nat.reduceAdd, NodeS.cells, OpS.cells, ResS.cells] at HX ⊢) | (refine sWT ?_; clear HX; intro w HX; simp only [Act.put, List.setIfInBounds_toArray, List.set_cons_zero, List.set_cons_succ, NodeS.cells, OpS.cells, ResS.cells] at HX ⊢) | (refine sWA ?_; clear HX; (first | (have hq := b9; clear hq; intro w b10 HX) | (have hq := b8; clear hq; intro w b9 HX) | (have hq := b7; clear hq; intro w b8 HX) | (have hq := b6; clear hq; intro w b7 HX) | (have hq := b5; clear hq; intro w b6 HX) | (have hq := b4; clear hq; intro w b5 HX) | (have hq := b3; clear hq; intro w b4 HX) | (have hq := b2; clear hq; intro w b3 HX) | (have hq := b; clear hq; intro w b2 HX) | intro w b HX); simp only [Act.put, List.setIfInBounds_toArray, List.set_cons_zero, List.set_cons_succ]) | (refine sWN ?_; clear HX; intro w mm HX; simp only [Act.put, List.setIfInBounds_toArray, List.set_cons_zero, List.set_cons_succ]) | (refine sWP ?_; clear HX; intro w av nv cv HX; simp only [Act.put, List.setIfInBounds_toArray, List.set_cons_zero, List.set_cons_succ]))
                  go_roundg (l'.length - (j + 1))
                  case rel => exact ⟨j + 1, by omega, by rw [HTK.out, HZB.out]; rfl, by go_num, HX.out⟩
                  case measure => omega
          | none =>
            rw [hlook] at hkey
            have hmem : decide (key ∈ l') = true := decide_eq_true (Decidable.not_not.1 (fun hh => by have := hkey.2 hh; cases this))
            have HM := Lib.hid hmem
            refine (treenode_none HX.out.up1 ps (by rw [HPL.out]; exact hlook)).mono ?_
            rintro e w ⟨rfl, hu⟩
            replace HX := Lib.hid (HX.out.keep hu)
            clear hl hu hlook hkey hmem
            go_wp2_with (first | (refine sWL ?_; simp only [Act.put, List.setIfInBounds_toArray, List.set_cons_zero, List.set_cons_succ, List.drop_zero, List.drop_succ_cons, List.take_succ_cons, List.take_zero, List.toList_toArray, NodeS.cells, OpS.cells, ResS.cells]) | (refine sWM ?_; simp only [Act.put, List.setIfInBounds_toArray, List.set_cons_zero, List.set_cons_succ]) | (refine sWS ?_; clear HX; intro w HX; simp only [Act.put, List.setIfInBounds_toArray, List.set_cons_zero, List.set_cons_succ, setMany, Nat.reduceAdd, NodeS.cells, OpS.cells, ResS.cells] at HX ⊢) | (refine sWT ?_; clear HX; intro w HX; simp only [Act.put, List.setIfInBounds_toArray, List.set_cons_zero, List.set_cons_succ, NodeS.cells, OpS.cells, ResS.cells] at HX ⊢) | (refine sWA ?_; clear HX; (first | (have hq := b9; clear hq; intro w b10 HX) | (have hq := b8; clear hq; intro w b9 HX) | (have hq := b7; clear hq; intro w b8 HX) | (have hq := b6; clear hq; intro w b7 HX) | (have hq := b5; clear hq; intro w b6 HX) | (have hq := b4; clear hq; intro w b5 HX) | (have hq := b3; clear hq; intro w b4 HX) | (have hq := b2; clear hq; intro w b3 HX) | (have hq := b; clear hq; intro w b2 HX) | intro w b HX); simp only [Act.put, List.setIfInBounds_toArray, List.set_cons_zero, List.set_cons_succ]) | (refine sWN ?_; clear HX; intro w mm HX; simp only [Act.put, List.setIfInBounds_toArray, List.set_cons_zero, List.set_cons_succ]) | (refine sWP ?_; clear HX; intro w av nv cv HX; simp only [Act.put, List.setIfInBounds_toArray, List.set_cons_zero, List.set_cons_succ]))
            have hy := HX.out.up1
            clear HX
            have HX := Lib.hid hy
            clear hy
            have HST := Lib.hid (show PiRel W l' key _ l'.length (.bool false) (.int .i64 (0 : Int)) _ from ⟨0, by simp, by simp, rfl, HX.out⟩)
            clear HX
            go_loopg [14, 15] l'.length (fun k v v2 wr => PiRel W l' key _ k v v2 wr)
            case atStart => exact HST.out
            case round =>
              rename World => w
              obtain ⟨j, hjk, rfl, rfl, hS⟩ := hrel
              have HX := Lib.hid hS
              clear hS HST
              by_cases hlt2 : j < l'.length
              case neg =>
                obtain rfl : j = l'.length := by omega
                rw [List.take_length, HM.out]
                clear hlt2 hjk
                rw [HPU.out.2.2]
                go_wp2_with (first | (refine sWL ?_; simp only [Act.put, List.setIfInBounds_toArray, List.set_cons_zero, List.set_cons_succ, List.drop_zero, List.drop_succ_cons, List.take_succ_cons, List.take_zero, List.toList_toArray, NodeS.cells, OpS.cells, ResS.cells]) | (refine sWM ?_; simp only [Act.put, List.setIfInBounds_toArray, List.set_cons_zero, List.set_cons_succ]) | (refine sWS ?_; clear HX; intro w HX; simp only [Act.put, List.setIfInBounds_toArray, List.set_cons_zero, List.set_cons_succ, setMany, Nat.reduceAdd, NodeS.cells, OpS.cells, ResS.cells] at HX ⊢) | (refine sWT ?_; clear HX; intro w HX; simp only [Act.put, List.setIfInBounds_toArray, List.set_cons_zero, List.set_cons_succ, NodeS.cells, OpS.cells, ResS.cells] at HX ⊢) | (refine sWA ?_; clear HX; (first | (have hq := b9; clear hq; intro w b10 HX) | (have hq := b8; clear hq; intro w b9 HX) | (have hq := b7; clear hq; intro w b8 HX) | (have hq := b6; clear hq; intro w b7 HX) | (have hq := b5; clear hq; intro w b6 HX) | (have hq := b4; clear hq; intro w b5 HX) | (have hq := b3; clear hq; intro w b4 HX) | (have hq := b2; clear hq; intro w b3 HX) | (have hq := b; clear hq; intro w b2 HX) | intro w b HX); simp only [Act.put, List.setIfInBounds_toArray, List.set_cons_zero, List.set_cons_succ]) | (refine sWN ?_; clear HX; intro w mm HX; simp only [Act.put, List.setIfInBounds_toArray, List.set_cons_zero, List.set_cons_succ]) | (refine sWP ?_; clear HX; intro w av nv cv HX; simp only [Act.put, List.setIfInBounds_toArray, List.set_cons_zero, List.set_cons_succ]))
                go_roundg (S.l.length - (i + 1))
                case rel => exact ⟨i + 1, _, by omega, by go_num, fun q hq => id (HP6.out q hq), HX.out.pm 3 [0, 2] rfl rfl⟩
                case measure => omega
              case pos =>
                have hprow : (1, Value.slice pa (ofT S sess).length pc, l'.map sv) ∈ _ := id (HP6.out _ (HP5.out _ (List.mem_cons_self ..)))
                have HPR := Lib.hid hprow
                obtain ⟨E, hE⟩ := HX.out.poolGet hprow
                obtain ⟨_, _, _, e, _, _, _, hne⟩ := ReadRow.some hE
                simp only [Value.slice.injEq] at e
                obtain ⟨rfl, rfl, rfl⟩ := e
                obtain ⟨g2, o2, rfl⟩ := hne (by intro e; have e : l'.map sv = [] := e; rw [List.map_eq_nil_iff] at e; rw [e] at hlt2; simp at hlt2)
                have HTK := Lib.hid (mem_take (p := key) hlt2)
                obtain ⟨pj, hpj⟩ : ∃ pj : ByteArray, pj = ⟨l'[j].toArray⟩ := ⟨_, rfl⟩
                have HLJ := Lib.hid (show (l'.map sv)[j]? = some (.string pj) by rw [hpj]; simp [hlt2]; rfl)
                obtain ⟨zb, hzb⟩ : ∃ zb, (pj.toList == ps.toList) = zb := ⟨_, rfl⟩
                have HZB := Lib.hid (show (l'[j] == key) = zb by rw [← hzb, strK_eq, hpj, HPL.out])
                have q1 : decide (j < l'.length) = true := decide_eq_true hlt2
                have hjb : j < (ofT S sess).length := by have := HPU.out.2.2; omega
                have q2 : decide (j < (ofT S sess).length) = true := decide_eq_true hjb
                have q3 : j ≤ 500 := by have := HPU.out.2.2; have : (ofT S sess).length ≤ S.l.length := (by unfold ofT; rw [List.length_map]; exact List.length_filter_le _ _); omega
                obtain ⟨mb, hmb⟩ : ∃ mb, decide (key ∈ l'.take j) = mb := ⟨_, rfl⟩
                rw [hmb] at HTK ⊢
                clear hE hne hprow hpj hmb
                cases mb with
                | true =>
                  go_wp2_with (first | (refine sWL ?_; simp only [Act.put, List.setIfInBounds_toArray, List.set_cons_zero, List.set_cons_succ, List.drop_zero, List.drop_succ_cons, List.take_succ_cons, List.take_zero, List.toList_toArray, NodeS.cells, OpS.cells, ResS.cells]) | (refine sWM ?_; simp only [Act.put, List.setIfInBounds_toArray, List.set_cons_zero, List.set_cons_succ]) | (refine sWS ?_; clear HX; intro w HX; simp only [Act.put, List.setIfInBounds_toArray, List.set_cons_zero, List.set_cons_succ, setMany, Nat.reduceAdd, NodeS.cells, OpS.cells, ResS.cells] at HX ⊢) | (refine sWT ?_; clear HX; intro w HX; simp only [Act.put, List.setIfInBounds_toArray, List.set_cons_zero, List.set_cons_succ, NodeS.cells, OpS.cells, ResS.cells] at HX ⊢) | (refine sWA ?_; clear HX; (first | (have hq := b9; clear hq; intro w b10 HX) | (have hq := b8; clear hq; intro w b9 HX) | (have hq := b7; clear hq; intro w b8 HX) | (have hq := b6; clear hq; intro w b7 HX) | (have hq := b5; clear hq; intro w b6 HX) | (have hq := b4; clear hq; intro w b5 HX) | (have hq := b3; clear hq; intro w b4 HX) | (have hq := b2; clear hq; intro w b3 HX) | (have hq := b; clear hq; intro w b2 HX) | intro w b HX); simp only [Act.put, List.setIfInBounds_toArray, List.set_cons_zero, List.set_cons_succ]) | (refine sWN ?_; clear HX; intro w mm HX; simp only [Act.put, List.setIfInBounds_toArray, List.set_cons_zero, List.set_cons_succ]) | (refine sWP ?_; clear HX; intro w av nv cv HX; simp only [Act.put, List.setIfInBounds_toArray, List.set_cons_zero, List.set_cons_succ]))
                  refine wp_region_M (fun W => W = w.drew) 13 (by kernel_rfl) ?_
                  replace HX := Lib.hid HX.out.drew
                  generalize w.drew = w at HX ⊢
                  obtain ⟨E, hE⟩ := HX.out.poolGet HPR.out
                  have hl := row_load1 (P := Tryz.prog) (ty := 9) (i := j) (v := .string pj) hE (by kernel_rfl) HLJ.out
                  obtain ⟨E2, hE2⟩ := HX.out.poolGet (id HWX.out.1)
                  have hl2 := row_load1 (P := Tryz.prog) (ty := 9) (i := i) (v := .string ps) hE2 (by kernel_rfl) HWX.out.2
                  clear hE hE2
                  refine wpAnyM_take (by kernel_rfl) (by intro c a d v w h; cases d <;> exact h) [(0, false), (1, false), (2, false), (3, false), (4, false), (5, true), (6, false), (7, false), (8, false), (9, true), (10, false), (11, false), (12, false)] (fuel := 0) (by kernel_rfl) ?_
                  apply Exists.intro; refine ⟨?_, rfl, ?_⟩
                  · iterate 13 (first | refine yD ?_ | ((first | apply yieldP | apply yieldL); (· (simp only [List.getElem?_toArray, List.getElem?_cons_succ, List.getElem?_cons_zero]; try rfl)); (· rfl); (· (intros; go_simp; (try simp only [hzb, ↓reduceIte, and_self, Int.toNat_natCast]); try with_reducible rfl)); (· (simp only [Act.put, List.setIfInBounds_toArray, List.set_cons_zero, List.set_cons_succ, List.drop_zero, List.drop_succ_cons, List.take_succ_cons, List.take_zero, List.toList_toArray, NodeS.cells, OpS.cells, ResS.cells]; try rfl))))
                    exact rfl
                  refine wpAnyM_done (by kernel_rfl) ?_ _
                  clear hl hl2
                  go_wp2_with (first | (refine sWL ?_; simp only [Act.put, List.setIfInBounds_toArray, List.set_cons_zero, List.set_cons_succ, List.drop_zero, List.drop_succ_cons, List.take_succ_cons, List.take_zero, List.toList_toArray, NodeS.cells, OpS.cells, ResS.cells]) | (refine sWM ?_; simp only [Act.put, List.setIfInBounds_toArray, List.set_cons_zero, List.set_cons_succ]) | (refine sWS ?_; clear HX; intro w HX; simp only [Act.put, List.setIfInBounds_toArray, List.set_cons_zero, List.set_cons_succ, setMany, Nat.reduceAdd, NodeS.cells, OpS.cells, ResS.cells] at HX ⊢) | (refine sWT ?_; clear HX; intro w HX; simp only [Act.put, List.setIfInBounds_toArray, List.set_cons_zero, List.set_cons_succ, NodeS.cells, OpS.cells, ResS.cells] at HX ⊢) | (refine sWA ?_; clear HX; (first | (have hq := b9; clear hq; intro w b10 HX) | (have hq := b8; clear hq; intro w b9 HX) | (have hq := b7; clear hq; intro w b8 HX) | (have hq := b6; clear hq; intro w b7 HX) | (have hq := b5; clear hq; intro w b6 HX) | (have hq := b4; clear hq; intro w b5 HX) | (have hq := b3; clear hq; intro w b4 HX) | (have hq := b2; clear hq; intro w b3 HX) | (have hq := b; clear hq; intro w b2 HX) | intro w b HX); simp only [Act.put, List.setIfInBounds_toArray, List.set_cons_zero, List.set_cons_succ]) | (refine sWN ?_; clear HX; intro w mm HX; simp only [Act.put, List.setIfInBounds_toArray, List.set_cons_zero, List.set_cons_succ]) | (refine sWP ?_; clear HX; intro w av nv cv HX; simp only [Act.put, List.setIfInBounds_toArray, List.set_cons_zero, List.set_cons_succ]))
                  go_roundg (l'.length - (j + 1))
                  case rel => exact ⟨j + 1, by omega, by rw [HTK.out]; rfl, by go_num, HX.out⟩
                  case measure => omega
                | false =>
                  go_wp2_with (first | (refine sWL ?_; simp only [Act.put, List.setIfInBounds_toArray, List.set_cons_zero, List.set_cons_succ, List.drop_zero, List.drop_succ_cons, List.take_succ_cons, List.take_zero, List.toList_toArray, NodeS.cells, OpS.cells, ResS.cells]) | (refine sWM ?_; simp only [Act.put, List.setIfInBounds_toArray, List.set_cons_zero, List.set_cons_succ]) | (refine sWS ?_; clear HX; intro w HX; simp only [Act.put, List.setIfInBounds_toArray, List.set_cons_zero, List.set_cons_succ, setMany, Nat.reduceAdd, NodeS.cells, OpS.cells, ResS.cells] at HX ⊢) | (refine sWT ?_; clear HX; intro w HX; simp only [Act.put, List.setIfInBounds_toArray, List.set_cons_zero, List.set_cons_succ, NodeS.cells, OpS.cells, ResS.cells] at HX ⊢) | (refine sWA ?_; clear HX; (first | (have hq := b9; clear hq; intro w b10 HX) | (have hq := b8; clear hq; intro w b9 HX) | (have hq := b7; clear hq; intro w b8 HX) | (have hq := b6; clear hq; intro w b7 HX) | (have hq := b5; clear hq; intro w b6 HX) | (have hq := b4; clear hq; intro w b5 HX) | (have hq := b3; clear hq; intro w b4 HX) | (have hq := b2; clear hq; intro w b3 HX) | (have hq := b; clear hq; intro w b2 HX) | intro w b HX); simp only [Act.put, List.setIfInBounds_toArray, List.set_cons_zero, List.set_cons_succ]) | (refine sWN ?_; clear HX; intro w mm HX; simp only [Act.put, List.setIfInBounds_toArray, List.set_cons_zero, List.set_cons_succ]) | (refine sWP ?_; clear HX; intro w av nv cv HX; simp only [Act.put, List.setIfInBounds_toArray, List.set_cons_zero, List.set_cons_succ]))
                  refine wp_region_M (fun W => W = w.drew) 13 (by kernel_rfl) ?_
                  replace HX := Lib.hid HX.out.drew
                  generalize w.drew = w at HX ⊢
                  obtain ⟨E, hE⟩ := HX.out.poolGet HPR.out
                  have hl := row_load1 (P := Tryz.prog) (ty := 9) (i := j) (v := .string pj) hE (by kernel_rfl) HLJ.out
                  obtain ⟨E2, hE2⟩ := HX.out.poolGet (id HWX.out.1)
                  have hl2 := row_load1 (P := Tryz.prog) (ty := 9) (i := i) (v := .string ps) hE2 (by kernel_rfl) HWX.out.2
                  clear hE hE2
                  refine wpAnyM_take (by kernel_rfl) (by intro c a d v w h; cases d <;> exact h) [(0, false), (1, false), (2, false), (3, false), (4, false), (5, true), (6, false), (7, false), (8, false), (9, true), (10, false), (11, false), (12, false)] (fuel := 0) (by kernel_rfl) ?_
                  apply Exists.intro; refine ⟨?_, rfl, ?_⟩
                  · iterate 13 (first | refine yD ?_ | ((first | apply yieldP | apply yieldL); (· (simp only [List.getElem?_toArray, List.getElem?_cons_succ, List.getElem?_cons_zero]; try rfl)); (· rfl); (· (intros; go_simp; (try simp only [hzb, ↓reduceIte, and_self, Int.toNat_natCast]); try with_reducible rfl)); (· (simp only [Act.put, List.setIfInBounds_toArray, List.set_cons_zero, List.set_cons_succ, List.drop_zero, List.drop_succ_cons, List.take_succ_cons, List.take_zero, List.toList_toArray, NodeS.cells, OpS.cells, ResS.cells]; try rfl))))
                    exact rfl
                  refine wpAnyM_done (by kernel_rfl) ?_ _
                  clear hl hl2
                  go_wp2_with (first | (refine sWL ?_; simp only [Act.put, List.setIfInBounds_toArray, List.set_cons_zero, List.set_cons_succ, List.drop_zero, List.drop_succ_cons, List.take_succ_cons, List.take_zero, List.toList_toArray, NodeS.cells, OpS.cells, ResS.cells]) | (refine sWM ?_; simp only [Act.put, List.setIfInBounds_toArray, List.set_cons_zero, List.set_cons_succ]) | (refine sWS ?_; clear HX; intro w HX; simp only [Act.put, List.setIfInBounds_toArray, List.set_cons_zero, List.set_cons_succ, setMany, Nat.reduceAdd, NodeS.cells, OpS.cells, ResS.cells] at HX ⊢) | (refine sWT ?_; clear HX; intro w HX; simp only [Act.put, List.setIfInBounds_toArray, List.set_cons_zero, List.set_cons_succ, NodeS.cells, OpS.cells, ResS.cells] at HX ⊢) | (refine sWA ?_; clear HX; (first | (have hq := b9; clear hq; intro w b10 HX) | (have hq := b8; clear hq; intro w b9 HX) | (have hq := b7; clear hq; intro w b8 HX) | (have hq := b6; clear hq; intro w b7 HX) | (have hq := b5; clear hq; intro w b6 HX) | (have hq := b4; clear hq; intro w b5 HX) | (have hq := b3; clear hq; intro w b4 HX) | (have hq := b2; clear hq; intro w b3 HX) | (have hq := b; clear hq; intro w b2 HX) | intro w b HX); simp only [Act.put, List.setIfInBounds_toArray, List.set_cons_zero, List.set_cons_succ]) | (refine sWN ?_; clear HX; intro w mm HX; simp only [Act.put, List.setIfInBounds_toArray, List.set_cons_zero, List.set_cons_succ]) | (refine sWP ?_; clear HX; intro w av nv cv HX; simp only [Act.put, List.setIfInBounds_toArray, List.set_cons_zero, List.set_cons_succ]))
                  go_roundg (l'.length - (j + 1))
                  case rel => exact ⟨j + 1, by omega, by rw [HTK.out, HZB.out]; rfl, by go_num, HX.out⟩
                  case measure => omega
    case pos =>
      have hB : TreeB (0 + 16 * (l0.take i).length) (mplayT (l0.take i) ⟨100, []⟩) := mplayT_b _ (tree_new 100 (by omega))
      have hnx := mplayT_take l0 ⟨100, []⟩ hlt
      obtain ⟨S, hSS⟩ : ∃ S, mplayT (l0.take i) ⟨100, []⟩ = S := ⟨_, rfl⟩
      rw [hSS] at HX hB hnx
      have hpr := HO.out l0[i] (List.getElem_mem hlt)
      obtain ⟨E, hE⟩ := HX.out.poolGet HP.out
      obtain ⟨_, _, _, e, _, _, _, hne⟩ := ReadRow.some hE
      simp only [Value.slice.injEq] at e
      obtain ⟨rfl, rfl, rfl⟩ := e
      obtain ⟨g, off, rfl⟩ := hne (by intro e; have := congrArg List.length e; rw [flatG_len mact_len] at this; simp at this; omega)
      have hat := fun j (hj : j < 5) => flatG_at (f := MAct.cells) (K := 5) mact_len l0 hlt hj
      obtain ⟨a, ha⟩ : ∃ a, l0[i] = a := ⟨_, rfl⟩
      rw [ha] at hpr hnx hat
      obtain ⟨E2, hE2⟩ := hpr
      have hx := HX.out.poolOld hE2
      obtain ⟨op, asess, zxid, num, av, ops⟩ := a
      dsimp only at hx hE2 hnx hat
      obtain ⟨oa, on, oc, rfl, -⟩ := id hE2
      have hl := row_fld (P := Tryz.prog) (ty := 22) (i := i) (f := 4) (v := .slice oa on oc) hE (by kernel_rfl) (hat 4 (by omega))
      have HAT := Lib.hid (show _ ∧ _ from ⟨hat 1 (by omega), hat 4 (by omega)⟩)
      clear HX
      have HX := Lib.hid (show Sep W wr [ThPool W ((5, Value.slice oa on oc, ops.flatMap OpS.cells) :: P1), ThTree t S ((5, Value.slice oa on oc, ops.flatMap OpS.cells) :: P1)] [] from (tree_mono hx.up1 (fun r hr => List.mem_cons_of_mem _ hr)).up1)
      have HB := Lib.hid hB
      have HNX := Lib.hid hnx
      have q0 : decide (i < l0.length) = true := decide_eq_true hlt
      have q9 : i ≤ 20 := by have := HL.out.1; omega
      clear hE hB hnx hSS ha hne hx hE2 hat
      go_wp2_with (first | (refine sWL ?_; simp only [Act.put, List.setIfInBounds_toArray, List.set_cons_zero, List.set_cons_succ, List.drop_zero, List.drop_succ_cons, List.take_succ_cons, List.take_zero, List.toList_toArray, NodeS.cells, OpS.cells, ResS.cells]) | (refine sWM ?_; simp only [Act.put, List.setIfInBounds_toArray, List.set_cons_zero, List.set_cons_succ]) | (refine sWS ?_; clear HX; intro w HX; simp only [Act.put, List.setIfInBounds_toArray, List.set_cons_zero, List.set_cons_succ, setMany, Nat.reduceAdd, NodeS.cells, OpS.cells, ResS.cells] at HX ⊢) | (refine sWT ?_; clear HX; intro w HX; simp only [Act.put, List.setIfInBounds_toArray, List.set_cons_zero, List.set_cons_succ, NodeS.cells, OpS.cells, ResS.cells] at HX ⊢) | (refine sWA ?_; clear HX; (first | (have hq := b9; clear hq; intro w b10 HX) | (have hq := b8; clear hq; intro w b9 HX) | (have hq := b7; clear hq; intro w b8 HX) | (have hq := b6; clear hq; intro w b7 HX) | (have hq := b5; clear hq; intro w b6 HX) | (have hq := b4; clear hq; intro w b5 HX) | (have hq := b3; clear hq; intro w b4 HX) | (have hq := b2; clear hq; intro w b3 HX) | (have hq := b; clear hq; intro w b2 HX) | intro w b HX); simp only [Act.put, List.setIfInBounds_toArray, List.set_cons_zero, List.set_cons_succ]) | (refine sWN ?_; clear HX; intro w mm HX; simp only [Act.put, List.setIfInBounds_toArray, List.set_cons_zero, List.set_cons_succ]) | (refine sWP ?_; clear HX; intro w av nv cv HX; simp only [Act.put, List.setIfInBounds_toArray, List.set_cons_zero, List.set_cons_succ]) | ((with_reducible apply sx_loadAt hl); (· rfl); (· rfl); simp only [Act.put, List.setIfInBounds_toArray, List.set_cons_zero, List.set_cons_succ]))
      obtain ⟨bl, hbl⟩ : ∃ bl, longS ops = bl := ⟨_, rfl⟩
      have hlong := long_any HX.out ops _ (List.mem_cons_self ..)
      rw [hbl] at hlong
      refine hlong.mono ?_
      clear hlong hl
      rintro e w ⟨rfl, hx⟩
      clear HX
      have HX := Lib.hid hx
      clear hx
      cases bl with
      | true =>
        go_wp2_with (first | (refine sWL ?_; simp only [Act.put, List.setIfInBounds_toArray, List.set_cons_zero, List.set_cons_succ, List.drop_zero, List.drop_succ_cons, List.take_succ_cons, List.take_zero, List.toList_toArray, NodeS.cells, OpS.cells, ResS.cells]) | (refine sWM ?_; simp only [Act.put, List.setIfInBounds_toArray, List.set_cons_zero, List.set_cons_succ]) | (refine sWS ?_; clear HX; intro w HX; simp only [Act.put, List.setIfInBounds_toArray, List.set_cons_zero, List.set_cons_succ, setMany, Nat.reduceAdd, NodeS.cells, OpS.cells, ResS.cells] at HX ⊢) | (refine sWT ?_; clear HX; intro w HX; simp only [Act.put, List.setIfInBounds_toArray, List.set_cons_zero, List.set_cons_succ, NodeS.cells, OpS.cells, ResS.cells] at HX ⊢) | (refine sWA ?_; clear HX; (first | (have hq := b9; clear hq; intro w b10 HX) | (have hq := b8; clear hq; intro w b9 HX) | (have hq := b7; clear hq; intro w b8 HX) | (have hq := b6; clear hq; intro w b7 HX) | (have hq := b5; clear hq; intro w b6 HX) | (have hq := b4; clear hq; intro w b5 HX) | (have hq := b3; clear hq; intro w b4 HX) | (have hq := b2; clear hq; intro w b3 HX) | (have hq := b; clear hq; intro w b2 HX) | intro w b HX); simp only [Act.put, List.setIfInBounds_toArray, List.set_cons_zero, List.set_cons_succ]) | (refine sWN ?_; clear HX; intro w mm HX; simp only [Act.put, List.setIfInBounds_toArray, List.set_cons_zero, List.set_cons_succ]) | (refine sWP ?_; clear HX; intro w av nv cv HX; simp only [Act.put, List.setIfInBounds_toArray, List.set_cons_zero, List.set_cons_succ]))
        go_ret
        exact ⟨rfl, HX.out.below⟩
      | false =>
        have HLO := Lib.hid (long_len hbl)
        clear hbl
        go_wp2_with (first | (refine sWL ?_; simp only [Act.put, List.setIfInBounds_toArray, List.set_cons_zero, List.set_cons_succ, List.drop_zero, List.drop_succ_cons, List.take_succ_cons, List.take_zero, List.toList_toArray, NodeS.cells, OpS.cells, ResS.cells]) | (refine sWM ?_; simp only [Act.put, List.setIfInBounds_toArray, List.set_cons_zero, List.set_cons_succ]) | (refine sWS ?_; clear HX; intro w HX; simp only [Act.put, List.setIfInBounds_toArray, List.set_cons_zero, List.set_cons_succ, setMany, Nat.reduceAdd, NodeS.cells, OpS.cells, ResS.cells] at HX ⊢) | (refine sWT ?_; clear HX; intro w HX; simp only [Act.put, List.setIfInBounds_toArray, List.set_cons_zero, List.set_cons_succ, NodeS.cells, OpS.cells, ResS.cells] at HX ⊢) | (refine sWA ?_; clear HX; (first | (have hq := b9; clear hq; intro w b10 HX) | (have hq := b8; clear hq; intro w b9 HX) | (have hq := b7; clear hq; intro w b8 HX) | (have hq := b6; clear hq; intro w b7 HX) | (have hq := b5; clear hq; intro w b6 HX) | (have hq := b4; clear hq; intro w b5 HX) | (have hq := b3; clear hq; intro w b4 HX) | (have hq := b2; clear hq; intro w b3 HX) | (have hq := b; clear hq; intro w b2 HX) | intro w b HX); simp only [Act.put, List.setIfInBounds_toArray, List.set_cons_zero, List.set_cons_succ]) | (refine sWN ?_; clear HX; intro w mm HX; simp only [Act.put, List.setIfInBounds_toArray, List.set_cons_zero, List.set_cons_succ]) | (refine sWP ?_; clear HX; intro w av nv cv HX; simp only [Act.put, List.setIfInBounds_toArray, List.set_cons_zero, List.set_cons_succ]))
        refine wp_region_M (fun W => W = w.drew) 11 (by kernel_rfl) ?_
        replace HX := Lib.hid HX.out.drew
        generalize w.drew = w at HX ⊢
        obtain ⟨E, hE⟩ := HX.out.poolGet (List.mem_cons_of_mem _ HP.out)
        have hl := row_fld (P := Tryz.prog) (ty := 2) (i := i) (f := 1) (v := .int .i64 asess) hE (by kernel_rfl) HAT.out.1
        have hl2 := row_fld (P := Tryz.prog) (ty := 22) (i := i) (f := 4) (v := .slice oa on oc) hE (by kernel_rfl) HAT.out.2
        clear hE
        refine wpAnyM_take (by kernel_rfl) (by intro c a d v w h; cases d <;> exact h) [(0, false), (1, false), (2, false), (3, false), (4, false), (5, true), (6, false), (7, false), (8, false), (9, false), (10, true)] (fuel := 1) (by kernel_rfl) ?_
        apply Exists.intro; refine ⟨?_, rfl, ?_⟩
        · iterate 11 (first | refine yD ?_ | ((first | apply yieldP | apply yieldL); (· (simp only [List.getElem?_toArray, List.getElem?_cons_succ, List.getElem?_cons_zero]; try rfl)); (· rfl); (· (intros; go_simp; (try simp only [hzb, ↓reduceIte, and_self, Int.toNat_natCast]); try with_reducible rfl)); (· (simp only [Act.put, List.setIfInBounds_toArray, List.set_cons_zero, List.set_cons_succ, List.drop_zero, List.drop_succ_cons, List.take_succ_cons, List.take_zero, List.toList_toArray, NodeS.cells, OpS.cells, ResS.cells]; try rfl))))
          exact rfl
        clear hl hl2
        refine wpAnyM_last (fuel := 0) (i := 11) (by rfl) (by kernel_rfl) (by rfl) (fun K hK => ?_)    -- CALL
        go_wp2_with fail
        refine (mdo_any HX.out hd HB.out (by rw [List.length_take]; omega) asess 1 ops _ (List.mem_cons_self ..) (fun o ho => by have := HLO.out.2 o ho; omega)).mono ?_
        rintro e w ⟨v, P3, rfl, hP3, ⟨a9, n9, c9, xs9, rfl, hrl9, hmem9⟩, hx⟩
        clear HX
        have HX := Lib.hid hx
        have HP3 := Lib.hid hP3
        clear hx hP3 hrl9 hmem9
        go_wp2_with fail
        refine wpAnyM_done (by kernel_rfl) ?_ _
        go_wp2_with (first | (refine sWL ?_; simp only [Act.put, List.setIfInBounds_toArray, List.set_cons_zero, List.set_cons_succ, List.drop_zero, List.drop_succ_cons, List.take_succ_cons, List.take_zero, List.toList_toArray, NodeS.cells, OpS.cells, ResS.cells]) | (refine sWM ?_; simp only [Act.put, List.setIfInBounds_toArray, List.set_cons_zero, List.set_cons_succ]) | (refine sWS ?_; clear HX; intro w HX; simp only [Act.put, List.setIfInBounds_toArray, List.set_cons_zero, List.set_cons_succ, setMany, Nat.reduceAdd, NodeS.cells, OpS.cells, ResS.cells] at HX ⊢) | (refine sWT ?_; clear HX; intro w HX; simp only [Act.put, List.setIfInBounds_toArray, List.set_cons_zero, List.set_cons_succ, NodeS.cells, OpS.cells, ResS.cells] at HX ⊢) | (refine sWA ?_; clear HX; (first | (have hq := b9; clear hq; intro w b10 HX) | (have hq := b8; clear hq; intro w b9 HX) | (have hq := b7; clear hq; intro w b8 HX) | (have hq := b6; clear hq; intro w b7 HX) | (have hq := b5; clear hq; intro w b6 HX) | (have hq := b4; clear hq; intro w b5 HX) | (have hq := b3; clear hq; intro w b4 HX) | (have hq := b2; clear hq; intro w b3 HX) | (have hq := b; clear hq; intro w b2 HX) | intro w b HX); simp only [Act.put, List.setIfInBounds_toArray, List.set_cons_zero, List.set_cons_succ]) | (refine sWN ?_; clear HX; intro w mm HX; simp only [Act.put, List.setIfInBounds_toArray, List.set_cons_zero, List.set_cons_succ]) | (refine sWP ?_; clear HX; intro w av nv cv HX; simp only [Act.put, List.setIfInBounds_toArray, List.set_cons_zero, List.set_cons_succ]))
        go_roundg (l0.length - (i + 1))
        case rel => exact ⟨i + 1, P3, by omega, by go_num, HP3.out _ (List.mem_cons_of_mem _ HP.out), by rw [HNX.out]; exact HX.out⟩
        case measure => omega
end
end Go.Proofs.YtjeaoopamebgjaaGreatDoor
