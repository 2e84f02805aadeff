/-
  Texts of this claim, laid together.
-/
import Derived.Test.YtjeaoopamebgjaaGreatDoorMg4
set_option linter.unusedVariables false
set_option linter.unusedSimpArgs false

namespace Go.Proofs.YtjeaoopamebgjaaGreatDoor
open Go.RowKit Go.Av
section
variable {w0 w : World} {b t : Nat} {S : TreeS} {P P' : List PRow} {R : List Thing} {rows : List (Value × Bs)}
def OwnPost (w0 : World) (t : Nat) (S : TreeS) (P : List PRow) (R : List Thing) (rows : List (Value × Bs)) (e : Ending) (w' : World) : Prop :=
  ∃ b P', e = .returned (.pointer (some ⟨b, 0, none⟩)) ∧ (∀ r ∈ P, r ∈ P') ∧ Sep w0 w' (ThPool w0 P' :: ThTree t S P' :: ThRt b S P' :: R) rows
def OwnRel (w0 : World) (t b : Nat) (S : TreeS) (P : List PRow) (R : List Thing) (rows : List (Value × Bs)) (k : Nat) (v7 : Value) (w : World) : Prop :=
  ∃ (i : Nat) (P' : List PRow) (xs : List Value) (a : Option Addr) (n c : Nat), i + k = S.l.length ∧ v7 = .int .i64 (i : Int) ∧ (∀ q ∈ P, q ∈ P') ∧ EntL P' (S.l.take i) xs ∧
    Sep w0 w (ThCell b (.cells #[.int .i64 S.room, .slice a n c] 69 (0, 0)) :: ThRow 11 (.slice a n c) xs :: ThPool w0 P' :: ThTree t S P' :: R) rows
set_option maxRecDepth 100000 in
set_option maxHeartbeats 4000000 in
theorem ownt_any (h : Sep w0 w (ThPool w0 P :: ThTree t S P :: R) rows) (room : Int) (hr : room = S.room) (hB : ∀ e ∈ S.l, NodeOk e.2) (hn : S.l.length ≤ 1000) (hk : ∀ e ∈ S.l, e.1.length ≤ 100000) :
    Calls Tryz.prog 13 #[.pointer (some ⟨t, 0, none⟩), .int .i64 room] w (OwnPost w0 t S P R rows) := by
  subst hr
  have HB := Lib.hid hB
  have HN := Lib.hid hn
  have HK := Lib.hid hk
  have HX := Lib.hid h
  clear hB hn hk h
  go_enter Tryz.func13, Tryz.ntmps13
  go_wp2_with (first | (refine sWL ?_; simp only [Act.put, k_a, k_b, k_c, k_d, k_e, k_f, k_g, k_h, NodeS.cells, OpS.cells, ResS.cells]) | (refine sWM ?_; simp only [Act.put, k_a, k_b, k_c]) | ((first | refine sWS ?_ | refine sWT ?_); clear HX; intro w HX; simp only [Act.put, k_a, k_b, k_c, setMany, Nat.reduceAdd, NodeS.cells, OpS.cells, ResS.cells] at HX ⊢) | (refine sWA ?_; clear HX; (first | (have hq := b2; clear hq; intro w b3 HX) | (have hq := b; clear hq; intro w b2 HX) | intro w b HX); simp only [Act.put, k_a, k_b, k_c]) | ((first | (refine sWN ?_; clear HX; intro w mm HX) | (refine sWP ?_; clear HX; intro w av nv cv HX)); simp only [Act.put, k_a, k_b, k_c]))
  refine (paths_any HX.out.up2.up2 (by have := HN.out; omega) HK.out).mono ?_
  rintro e w ⟨v, P', rfl, hP', hv, hS⟩
  obtain ⟨E, hE⟩ := hS.poolGet hv
  obtain ⟨a0, n0, c0, rfl, hl0, hn0, hc0, hne⟩ := ReadRow.some hE
  rw [List.length_map, List.length_map, Nat.mul_one] at hl0
  subst hl0
  clear HX
  have HX := Lib.hid hS
  have HNE := Lib.hid hne
  have HV := Lib.hid hv
  have HPP := Lib.hid hP'
  clear hS hE hne hv hP' hn0 hc0
  go_wp2_with (first | (refine sWL ?_; simp only [Act.put, k_a, k_b, k_c, k_d, k_e, k_f, k_g, k_h, NodeS.cells, OpS.cells, ResS.cells]) | (refine sWM ?_; simp only [Act.put, k_a, k_b, k_c]) | ((first | refine sWS ?_ | refine sWT ?_); clear HX; intro w HX; simp only [Act.put, k_a, k_b, k_c, setMany, Nat.reduceAdd, NodeS.cells, OpS.cells, ResS.cells] at HX ⊢) | (refine sWA ?_; clear HX; (first | (have hq := b2; clear hq; intro w b3 HX) | (have hq := b; clear hq; intro w b2 HX) | intro w b HX); simp only [Act.put, k_a, k_b, k_c]) | ((first | (refine sWN ?_; clear HX; intro w mm HX) | (refine sWP ?_; clear HX; intro w av nv cv HX)); simp only [Act.put, k_a, k_b, k_c]))
  have HST := Lib.hid (show OwnRel w0 t b S P' R rows S.l.length (.int .i64 (0 : Int)) w from ⟨0, P', [], none, 0, 0, by omega, rfl, fun _ h => h, .nil, (HX.out.up2.nilRow 11).up1⟩)
  clear HX
  go_loopg [7] S.l.length (fun k v7 wr => OwnRel w0 t b S P' R rows k v7 wr)
  case atStart => exact HST.out
  case round =>
    rename World => w
    obtain ⟨i, P2, xs, a, n, c, hik, rfl, hP2, hel, hS⟩ := hrel
    have HP2 := Lib.hid hP2
    have HEL := Lib.hid hel
    have HX := Lib.hid hS
    clear hS hP2 hel
    by_cases hlt : i < S.l.length
    case neg =>
      obtain rfl : i = S.l.length := by omega
      clear hlt hik
      go_wp2_with (first | (refine sWL ?_; simp only [Act.put, k_a, k_b, k_c, k_d, k_e, k_f, k_g, k_h, NodeS.cells, OpS.cells, ResS.cells]) | (refine sWM ?_; simp only [Act.put, k_a, k_b, k_c]) | ((first | refine sWS ?_ | refine sWT ?_); clear HX; intro w HX; simp only [Act.put, k_a, k_b, k_c, setMany, Nat.reduceAdd, NodeS.cells, OpS.cells, ResS.cells] at HX ⊢) | (refine sWA ?_; clear HX; (first | (have hq := b2; clear hq; intro w b3 HX) | (have hq := b; clear hq; intro w b2 HX) | intro w b HX); simp only [Act.put, k_a, k_b, k_c]) | ((first | (refine sWN ?_; clear HX; intro w mm HX) | (refine sWP ?_; clear HX; intro w av nv cv HX)); simp only [Act.put, k_a, k_b, k_c]))
      go_ret
      have h1 := HEL.out
      rw [List.take_length] at h1
      exact ⟨b, P2, rfl, fun q hq => HP2.out q (HPP.out q hq), (rt_shut HX.out h1).up2.up2⟩
    case pos =>
      have hmem : S.l[i] ∈ S.l := List.getElem_mem hlt
      have hlook : lookT S.l[i].1 S.l = some S.l[i].2 := (look_mem (tree_rise HX.out.up3)).2 hmem
      obtain ⟨g, off, rfl⟩ := HNE.out (by intro e; rw [List.map_map, List.map_eq_nil_iff] at e; rw [e] at hlt; simp at hlt)
      have HT := Lib.hid (show S.l.take (i + 1) = S.l.take i ++ [S.l[i]] from List.take_succ_eq_append_getElem hlt)
      have hxx : ((S.l.map (·.1)).map sv)[i]? = some (sv S.l[i].1) := by simp [hlt]
      have hok := HB.out _ hmem
      obtain ⟨⟨p, nd⟩, hen⟩ : ∃ en, S.l[i] = en := ⟨_, rfl⟩
      rw [hen] at HT hlook hxx hok
      dsimp only at hlook hxx hok
      obtain ⟨ps, hps⟩ : ∃ ps : ByteArray, ps = ⟨p.toArray⟩ := ⟨_, rfl⟩
      have hpv : sv p = .string ps := by rw [hps]; rfl
      have hpl : ps.data.toList = p := by rw [hps]
      rw [hpv] at hxx
      rw [← hpl] at hlook
      have HXX := Lib.hid hxx
      have HLK := Lib.hid hlook
      have HPV := Lib.hid hpv
      have q0 : decide (i < S.l.length) = true := decide_eq_true hlt
      have q9 : i ≤ 1000 := by have := HN.out; omega
      obtain ⟨E, hE⟩ := HX.out.up2.poolGet (HP2.out _ HV.out)
      have hl := row_load1 (P := Tryz.prog) (ty := 9) (i := i) hE (by kernel_rfl) hxx
      clear hmem hlook hxx hen hps hpv hpl hE
      go_wp2_with (first | (refine sWL ?_; simp only [Act.put, k_a, k_b, k_c, k_d, k_e, k_f, k_g, k_h, NodeS.cells, OpS.cells, ResS.cells]) | (refine sWM ?_; simp only [Act.put, k_a, k_b, k_c]) | ((first | refine sWS ?_ | refine sWT ?_); clear HX; intro w HX; simp only [Act.put, k_a, k_b, k_c, setMany, Nat.reduceAdd, NodeS.cells, OpS.cells, ResS.cells] at HX ⊢) | (refine sWA ?_; clear HX; (first | (have hq := b2; clear hq; intro w b3 HX) | (have hq := b; clear hq; intro w b2 HX) | intro w b HX); simp only [Act.put, k_a, k_b, k_c]) | ((first | (refine sWN ?_; clear HX; intro w mm HX) | (refine sWP ?_; clear HX; intro w av nv cv HX)); simp only [Act.put, k_a, k_b, k_c]) | ((with_reducible apply sx_loadAt hl); (· rfl); (· rfl); simp only [Act.put, k_a, k_b, k_c]))
      refine (treenode_some HX.out.up3.up3 ps nd HLK.out hok).mono ?_
      rintro e w ⟨nv, P3, rfl, hP3, hnv, hS⟩
      obtain ⟨E, hE⟩ := hS.poolGet hnv
      obtain ⟨na, nn, nc, rfl, -⟩ := id hE
      clear HX hl
      have HX := Lib.hid hS
      have HNV := Lib.hid hnv
      have HP3 := Lib.hid hP3
      clear hS hnv hP3 hE
      simp only [NodeS.val, NodeS.cells]
      go_upto_region 7 with (first | (refine sWL ?_; simp only [Act.put, k_a, k_b, k_c, k_d, k_e, k_f, k_g, k_h, NodeS.cells, OpS.cells, ResS.cells]) | (refine sWM ?_; simp only [Act.put, k_a, k_b, k_c]) | ((first | refine sWS ?_ | refine sWT ?_); clear HX; intro w HX; simp only [Act.put, k_a, k_b, k_c, setMany, Nat.reduceAdd, NodeS.cells, OpS.cells, ResS.cells] at HX ⊢) | (refine sWA ?_; clear HX; (first | (have hq := b2; clear hq; intro w b3 HX) | (have hq := b; clear hq; intro w b2 HX) | intro w b HX); simp only [Act.put, k_a, k_b, k_c]) | ((first | (refine sWN ?_; clear HX; intro w mm HX) | (refine sWP ?_; clear HX; intro w av nv cv HX)); simp only [Act.put, k_a, k_b, k_c]))
      refine wp_region_M (fun W => Sep w0 W [thNode b2 nd (.slice na nn nc), ThCell b (.cells #[.int .i64 S.room, .slice a n c] 69 (0, 0)), ThPool w0 P3] rows) 14 (by kernel_rfl) ?_
      have KEEPX : ∀ W, Sep w0 W [thNode b2 nd (.slice na nn nc), ThCell b (.cells #[.int .i64 S.room, .slice a n c] 69 (0, 0)), ThPool w0 P3] rows → Sep w0 W [thNode b2 nd (.slice na nn nc), ThCell b (.cells #[.int .i64 S.room, .slice a n c] 69 (0, 0)), ThPool w0 P3] rows := fun _ h => h
      replace HX := Lib.hid HX.out.drew
      have hl : ∀ W, Sep w0 W [thNode b2 nd (.slice na nn nc), ThCell b (.cells #[.int .i64 S.room, .slice a n c] 69 (0, 0)), ThPool w0 P3] rows → (Instr.loadAt 9 (.pointer (some ⟨g, off + i, none⟩))).run Tryz.prog W = .ok (.string ps) W := fun W hW => by
        obtain ⟨E, hE⟩ := (Sep.up2 hW).poolGet (HP3.out _ (HP2.out _ HV.out))
        exact row_load1 hE (by kernel_rfl) HXX.out
      have HSUB := Lib.hid (show ∀ W A, Sep w0 W (thNode b2 nd (.slice na nn nc) :: ThPool w0 P3 :: ThTree t S P3 :: ThCell b (.cells #[.int .i64 S.room, .slice a n c] 69 (0, 0)) :: A) rows → Sep w0 W [thNode b2 nd (.slice na nn nc), ThCell b (.cells #[.int .i64 S.room, .slice a n c] 69 (0, 0)), ThPool w0 P3] rows from fun W A h => (h.take (A := [_, _, _, _])).pm 4 [0, 3, 1] rfl rfl)
      refine wpAnyM_take (by kernel_rfl) (by intro c a d v w h; cases d <;> exact h) [(0, false), (1, false), (2, false), (3, false), (4, true), (5, false), (6, false), (7, false), (8, true), (9, true)] (fuel := 7) (by kernel_rfl) ?_
      apply Exists.intro; refine ⟨?_, (HSUB.out _ _ HX.out), ?_⟩
      · iterate 10 (refine yE ?_)
        exact rfl
      clear hl
      refine wpAnyM_one (fuel := 6) (i := 10) (by kernel_rfl) (by (simp only [k_i, k_j, k_k]; try rfl)) (fun K hK => ?_)
      go_wp2_with fail
      refine (nd_any HX.out nd _ _ _).mono ?_
      rintro e w ⟨rfl, hx⟩
      clear HX
      have HX := Lib.hid hx
      clear hx
      simp only [NodeS.val, NodeS.cells]
      go_wp2_with fail
      refine hK _ _ (HSUB.out _ _ HX.out) ?_
      clear hK
      refine wpAnyM_take (by kernel_rfl) (by intro c a d v w h; cases d <;> exact h) [(11, false)] (fuel := 5) (by kernel_rfl) ?_
      apply Exists.intro; refine ⟨?_, (HSUB.out _ _ HX.out), ?_⟩
      · iterate 1 (refine yE ?_)
        exact rfl
      refine wpAnyM_one (fuel := 4) (i := 12) (by kernel_rfl) (by (simp only [k_i, k_j, k_k]; try rfl)) (fun K hK => ?_)    -- buildSlice
      go_wp2_with (first | (refine sWL ?_; simp only [Act.put, k_a, k_b, k_c, k_d, k_e, k_f, k_g, k_h, NodeS.cells, OpS.cells, ResS.cells]) | (refine sWM ?_; simp only [Act.put, k_a, k_b, k_c]) | ((first | refine sWS ?_ | refine sWT ?_); clear HX; intro w HX; simp only [Act.put, k_a, k_b, k_c, setMany, Nat.reduceAdd, NodeS.cells, OpS.cells, ResS.cells] at HX ⊢) | (refine sWA ?_; clear HX; (first | (have hq := b2; clear hq; intro w b3 HX) | (have hq := b; clear hq; intro w b2 HX) | intro w b HX); simp only [Act.put, k_a, k_b, k_c]) | ((first | (refine sWN ?_; clear HX; intro w mm HX) | (refine sWP ?_; clear HX; intro w av nv cv HX)); simp only [Act.put, k_a, k_b, k_c]))
      refine hK _ _ (HSUB.out _ _ HX.out.drop) ?_
      clear hK
      have HBD := Lib.hid (show ∀ n, xs.length = n * 11 → n + 1 ≤ 140737488355328 ∧ (n + 1) * 120 ≤ 140737488355328 from fun n hn => by
        have h1 := HEL.out.len
        rw [List.length_take] at h1
        have := HN.out
        omega)
      refine wpAnyM_one (fuel := 3) (i := 13) (by kernel_rfl) (by (simp only [k_i, k_j, k_k]; try rfl)) (fun K hK => ?_)
      go_wp2_with (first | (refine sWL ?_; simp only [Act.put, k_a, k_b, k_c, k_d, k_e, k_f, k_g, k_h, NodeS.cells, OpS.cells, ResS.cells]) | (refine sWM ?_; simp only [Act.put, k_a, k_b, k_c]) | ((first | refine sWS ?_ | refine sWT ?_); clear HX; intro w HX; simp only [Act.put, k_a, k_b, k_c, setMany, Nat.reduceAdd, NodeS.cells, OpS.cells, ResS.cells] at HX ⊢) | (refine sWA ?_; clear HX; (first | (have hq := b2; clear hq; intro w b3 HX) | (have hq := b; clear hq; intro w b2 HX) | intro w b HX); simp only [Act.put, k_a, k_b, k_c]) | ((first | (refine sWN ?_; clear HX; intro w mm HX) | (refine sWP ?_; clear HX; intro w av nv cv HX)); simp only [Act.put, k_a, k_b, k_c]))
      refine hK _ _ (HSUB.out _ _ HX.out.drop.drop) ?_
      clear hK
      refine wpAnyM_of_any _ _ _ _ (by decide) ?_
      refine wpAny_list [14, 15, 16] (fuel := 0) (by kernel_rfl) ?_
      simp only [List.filterMap_cons, List.filterMap_nil, k_i, k_j, k_k]
      go_step
      go_step
      go_step
      go_step
      (with_reducible apply sx_store1 HX)
      · rfl
      · ((conv => lhs; whnf) <;> rfl)
      · rfl
      · rfl
      · kernel_rfl
      · (repeat (first | (with_reducible exact Rep.here) | (with_reducible apply Rep.there)))
      · rfl
      · rfl
      clear HX; intro w HX
      simp only [Act.put, k_a, k_b, k_c, NodeS.cells, OpS.cells, ResS.cells] at HX ⊢
      go_wp2_with (first | (refine sWL ?_; simp only [Act.put, k_a, k_b, k_c, k_d, k_e, k_f, k_g, k_h, NodeS.cells, OpS.cells, ResS.cells]) | (refine sWM ?_; simp only [Act.put, k_a, k_b, k_c]) | ((first | refine sWS ?_ | refine sWT ?_); clear HX; intro w HX; simp only [Act.put, k_a, k_b, k_c, setMany, Nat.reduceAdd, NodeS.cells, OpS.cells, ResS.cells] at HX ⊢) | (refine sWA ?_; clear HX; (first | (have hq := b2; clear hq; intro w b3 HX) | (have hq := b; clear hq; intro w b2 HX) | intro w b HX); simp only [Act.put, k_a, k_b, k_c]) | ((first | (refine sWN ?_; clear HX; intro w mm HX) | (refine sWP ?_; clear HX; intro w av nv cv HX)); simp only [Act.put, k_a, k_b, k_c]))
      go_roundg (S.l.length - (i + 1))
      case rel =>
        refine ⟨i + 1, P3, _, av, nv, cv, by omega, by go_num, fun q hq => HP3.out q (HP2.out q hq), by rw [HT.out]; exact (HEL.out.mono HP3.out).snoc HNV.out, ?_⟩
        rw [HPV.out]
        exact HX.out.pm 6 [5, 0, 3, 4] rfl rfl
      case measure => omega
end
end Go.Proofs.YtjeaoopamebgjaaGreatDoor

namespace Go.Av
open Go.RowKit
theorem EntL.parts {P : List PRow} {l : NoL} {xs : List Value} (h : EntL P l xs) {i : Nat} (hi : i < l.length) : ∃ nv, (1, nv, l[i].2.names.map sv) ∈ P ∧ xs[i * 11]? = some (sv l[i].1) ∧ ∀ j v, (l[i].2.cells nv).toList[j]? = some v → xs[i * 11 + 1 + j]? = some v := by
  obtain ⟨nv, h1, h2⟩ := h.at hi
  refine ⟨nv, h1, h2 0 _ rfl, fun j v hv => ?_⟩
  rw [show i * 11 + 1 + j = i * 11 + (j + 1) by omega]
  exact h2 (j + 1) v hv
end Go.Av
namespace Go.Proofs.YtjeaoopamebgjaaGreatDoor
open Go.RowKit Go.Av
section
variable {w0 w : World} {b b2 : Nat} {S : TreeS} {P P' : List PRow} {R : List Thing} {rows : List (Value × Bs)}
theorem own_read {a : Option Addr} {n c K : Nat} {xs : List Value} (h : Sep w0 w (ThRow K (.slice a n c) xs :: R) rows) : ∃ E, ReadRow w K (.slice a n c) xs E := by
  obtain ⟨D, hD⟩ := h.fst
  obtain ⟨E, hE, -⟩ := OwnRow.read hD
  exact ⟨E, hE⟩
set_option maxRecDepth 100000 in
set_option maxHeartbeats 4000000 in
theorem samet_any (h : Sep w0 w (ThPool w0 P :: ThRt b S P :: ThRt b2 S P :: R) rows) (hn : S.l.length ≤ 100000) :
    Calls Tryz.prog 15 #[.pointer (some ⟨b, 0, none⟩), .pointer (some ⟨b2, 0, none⟩)] w fun e w' => e = .returned (.bool true) ∧ Sep w0 w' (ThPool w0 P :: ThRt b S P :: ThRt b2 S P :: R) rows := by
  obtain ⟨a1, n1, c1, xs1, he1, rfl, hS⟩ := rt_open h.up1
  obtain ⟨a2, n2, c2, xs2, he2, rfl, hS⟩ := rt_open hS.up3
  have HX := Lib.hid hS
  have HE1 := Lib.hid he1
  have HE2 := Lib.hid he2
  have HN := Lib.hid hn
  have HFIN := Lib.hid (show ∀ W, Sep w0 W (ThCell b2 (.cells #[.int .i64 S.room, .slice a2 S.l.length c2] 69 (0, 0)) :: ThRow 11 (.slice a2 S.l.length c2) xs2 :: ThCell b (.cells #[.int .i64 S.room, .slice a1 S.l.length c1] 69 (0, 0)) :: ThRow 11 (.slice a1 S.l.length c1) xs1 :: ThPool w0 P :: R) rows → Sep w0 W (ThPool w0 P :: ThRt b S P :: ThRt b2 S P :: R) rows from fun W hW => by
    have h1 := rt_shut hW he2
    have h2 := rt_shut (Sep.up2 (Sep.up2 h1)) he1
    exact Sep.pm h2 3 [2, 0, 1] rfl rfl)
  clear h hS he1 he2 hn
  go_enter Tryz.func15, Tryz.ntmps15
  go_wp2_with (first | (refine sWL ?_; simp only [Act.put, k_a, k_b, k_c, k_d, k_e, k_f, k_g, k_h, NodeS.cells, OpS.cells, ResS.cells]) | (refine sWM ?_; simp only [Act.put, k_a, k_b, k_c]) | ((first | refine sWS ?_ | refine sWT ?_); clear HX; intro w HX; simp only [Act.put, k_a, k_b, k_c, setMany, Nat.reduceAdd, NodeS.cells, OpS.cells, ResS.cells] at HX ⊢) | (refine sWA ?_; clear HX; (first | (have hq := b2; clear hq; intro w b3 HX) | (have hq := b; clear hq; intro w b2 HX) | intro w b HX); simp only [Act.put, k_a, k_b, k_c]) | ((first | (refine sWN ?_; clear HX; intro w mm HX) | (refine sWP ?_; clear HX; intro w av nv cv HX)); simp only [Act.put, k_a, k_b, k_c]))
  refine wp_region_M (fun W => W = w.drew) 11 (by kernel_rfl) ?_
  replace HX := Lib.hid HX.out.drew
  generalize w.drew = w at HX ⊢
  refine wpAnyM_take (by kernel_rfl) (by intro c a d v w h; cases d <;> exact h) [(0, false), (1, false), (2, false), (3, true), (4, false), (5, false), (6, false), (7, false), (8, true), (9, false), (10, false)] (fuel := 0) (by kernel_rfl) ?_
  apply Exists.intro; refine ⟨?_, rfl, ?_⟩
  · iterate 11 (refine yD ?_)
    exact rfl
  refine wpAnyM_done (by kernel_rfl) ?_ _
  go_wp2_with (first | (refine sWL ?_; simp only [Act.put, k_a, k_b, k_c, k_d, k_e, k_f, k_g, k_h, NodeS.cells, OpS.cells, ResS.cells]) | (refine sWM ?_; simp only [Act.put, k_a, k_b, k_c]) | ((first | refine sWS ?_ | refine sWT ?_); clear HX; intro w HX; simp only [Act.put, k_a, k_b, k_c, setMany, Nat.reduceAdd, NodeS.cells, OpS.cells, ResS.cells] at HX ⊢) | (refine sWA ?_; clear HX; (first | (have hq := b2; clear hq; intro w b3 HX) | (have hq := b; clear hq; intro w b2 HX) | intro w b HX); simp only [Act.put, k_a, k_b, k_c]) | ((first | (refine sWN ?_; clear HX; intro w mm HX) | (refine sWP ?_; clear HX; intro w av nv cv HX)); simp only [Act.put, k_a, k_b, k_c]))
  go_loopg [5] S.l.length (fun k v5 wr => ∃ i : Nat, i + k = S.l.length ∧ v5 = .int .i64 (i : Int) ∧ Sep w0 wr (ThCell b2 (.cells #[.int .i64 S.room, .slice a2 S.l.length c2] 69 (0, 0)) :: ThRow 11 (.slice a2 S.l.length c2) xs2 :: ThCell b (.cells #[.int .i64 S.room, .slice a1 S.l.length c1] 69 (0, 0)) :: ThRow 11 (.slice a1 S.l.length c1) xs1 :: ThPool w0 P :: R) rows)
  case atStart => exact ⟨0, by omega, rfl, HX.out⟩
  case round =>
    rename World => w
    obtain ⟨i, hik, rfl, hS⟩ := hrel
    clear HX
    have HX := Lib.hid hS
    clear hS
    by_cases hlt : i < S.l.length
    case neg =>
      obtain rfl : i = S.l.length := by omega
      clear hlt hik
      go_wp2_with (first | (refine sWL ?_; simp only [Act.put, k_a, k_b, k_c, k_d, k_e, k_f, k_g, k_h, NodeS.cells, OpS.cells, ResS.cells]) | (refine sWM ?_; simp only [Act.put, k_a, k_b, k_c]) | ((first | refine sWS ?_ | refine sWT ?_); clear HX; intro w HX; simp only [Act.put, k_a, k_b, k_c, setMany, Nat.reduceAdd, NodeS.cells, OpS.cells, ResS.cells] at HX ⊢) | (refine sWA ?_; clear HX; (first | (have hq := b2; clear hq; intro w b3 HX) | (have hq := b; clear hq; intro w b2 HX) | intro w b HX); simp only [Act.put, k_a, k_b, k_c]) | ((first | (refine sWN ?_; clear HX; intro w mm HX) | (refine sWP ?_; clear HX; intro w av nv cv HX)); simp only [Act.put, k_a, k_b, k_c]))
      go_ret
      exact ⟨rfl, HFIN.out _ HX.out⟩
    case pos =>
      obtain ⟨nv1, m1, p1, k1⟩ := HE1.out.parts hlt
      obtain ⟨nv2, m2, p2, k2⟩ := HE2.out.parts hlt
      obtain ⟨E, hE⟩ := own_read HX.out.up3
      obtain ⟨_, _, _, e, _, _, _, hne⟩ := ReadRow.some hE
      simp only [Value.slice.injEq] at e
      obtain ⟨rfl, rfl, rfl⟩ := e
      obtain ⟨g1, o1, rfl⟩ := hne (by intro e; rw [e] at p1; cases p1)
      obtain ⟨E2, hE2⟩ := own_read HX.out.up1
      obtain ⟨_, _, _, e, _, _, _, hne⟩ := ReadRow.some hE2
      simp only [Value.slice.injEq] at e
      obtain ⟨rfl, rfl, rfl⟩ := e
      obtain ⟨g2, o2, rfl⟩ := hne (by intro e; rw [e] at p2; cases p2)
      obtain ⟨⟨p, nd⟩, hen⟩ : ∃ en, S.l[i] = en := ⟨_, rfl⟩
      rw [hen] at m1 p1 k1 m2 p2 k2
      dsimp only at m1 p1 k1 m2 p2 k2
      obtain ⟨ps, hps⟩ : ∃ ps : ByteArray, ps = ⟨p.toArray⟩ := ⟨_, rfl⟩
      have hpv : sv p = .string ps := by rw [hps]; rfl
      rw [hpv] at p1 p2
      have hql := beq_self_str ps
      have q0 : decide (i < S.l.length) = true := decide_eq_true hlt
      have q9 : i ≤ 100000 := by have := HN.out; omega
      have HM := Lib.hid (show _ ∧ _ from ⟨m1, m2⟩)
      have hl : ∀ W, Sep w0 W (ThCell b2 (.cells #[.int .i64 S.room, .slice (some ⟨g2, o2, none⟩) S.l.length c2] 69 (0, 0)) :: ThRow 11 (.slice (some ⟨g2, o2, none⟩) S.l.length c2) xs2 :: ThCell b (.cells #[.int .i64 S.room, .slice (some ⟨g1, o1, none⟩) S.l.length c1] 69 (0, 0)) :: ThRow 11 (.slice (some ⟨g1, o1, none⟩) S.l.length c1) xs1 :: ThPool w0 P :: R) rows → (Instr.loadAt 9 (.pointer (some ⟨g1, o1 + i * 11, none⟩))).run Tryz.prog W = .ok (.string ps) W := fun W hW => by
        obtain ⟨E, hE⟩ := own_read (Sep.up3 hW)
        exact row_fld0 hE (by kernel_rfl) p1
      have hl2 : ∀ W, Sep w0 W (ThCell b2 (.cells #[.int .i64 S.room, .slice (some ⟨g2, o2, none⟩) S.l.length c2] 69 (0, 0)) :: ThRow 11 (.slice (some ⟨g2, o2, none⟩) S.l.length c2) xs2 :: ThCell b (.cells #[.int .i64 S.room, .slice (some ⟨g1, o1, none⟩) S.l.length c1] 69 (0, 0)) :: ThRow 11 (.slice (some ⟨g1, o1, none⟩) S.l.length c1) xs1 :: ThPool w0 P :: R) rows → (Instr.loadAt 9 (.pointer (some ⟨g2, o2 + i * 11, none⟩))).run Tryz.prog W = .ok (.string ps) W := fun W hW => by
        obtain ⟨E, hE⟩ := own_read (Sep.up1 hW)
        exact row_fld0 hE (by kernel_rfl) p2
      have hl3 : ∀ W, Sep w0 W (ThCell b2 (.cells #[.int .i64 S.room, .slice (some ⟨g2, o2, none⟩) S.l.length c2] 69 (0, 0)) :: ThRow 11 (.slice (some ⟨g2, o2, none⟩) S.l.length c2) xs2 :: ThCell b (.cells #[.int .i64 S.room, .slice (some ⟨g1, o1, none⟩) S.l.length c1] 69 (0, 0)) :: ThRow 11 (.slice (some ⟨g1, o1, none⟩) S.l.length c1) xs1 :: ThPool w0 P :: R) rows → (Instr.loadAt 84 (.pointer (some ⟨g1, o1 + i * 11 + 1, none⟩))).run Tryz.prog W = .ok (.agg (nd.cells nv1)) W := fun W hW => by
        obtain ⟨E, hE⟩ := own_read (Sep.up3 hW)
        exact row_part hE sn_rnode rfl (by simp [NodeS.cells]) k1
      have hl4 : ∀ W, Sep w0 W (ThCell b2 (.cells #[.int .i64 S.room, .slice (some ⟨g2, o2, none⟩) S.l.length c2] 69 (0, 0)) :: ThRow 11 (.slice (some ⟨g2, o2, none⟩) S.l.length c2) xs2 :: ThCell b (.cells #[.int .i64 S.room, .slice (some ⟨g1, o1, none⟩) S.l.length c1] 69 (0, 0)) :: ThRow 11 (.slice (some ⟨g1, o1, none⟩) S.l.length c1) xs1 :: ThPool w0 P :: R) rows → (Instr.loadAt 84 (.pointer (some ⟨g2, o2 + i * 11 + 1, none⟩))).run Tryz.prog W = .ok (.agg (nd.cells nv2)) W := fun W hW => by
        obtain ⟨E, hE⟩ := own_read (Sep.up1 hW)
        exact row_part hE sn_rnode rfl (by simp [NodeS.cells]) k2
      clear m1 m2 p1 p2 k1 k2 hne hE hE2 hen hps hpv
      go_wp2_with (first | (refine sWL ?_; simp only [Act.put, k_a, k_b, k_c, k_d, k_e, k_f, k_g, k_h, NodeS.cells, OpS.cells, ResS.cells]) | (refine sWM ?_; simp only [Act.put, k_a, k_b, k_c]) | ((first | refine sWS ?_ | refine sWT ?_); clear HX; intro w HX; simp only [Act.put, k_a, k_b, k_c, setMany, Nat.reduceAdd, NodeS.cells, OpS.cells, ResS.cells] at HX ⊢) | (refine sWA ?_; clear HX; (first | (have hq := b2; clear hq; intro w b3 HX) | (have hq := b; clear hq; intro w b2 HX) | intro w b HX); simp only [Act.put, k_a, k_b, k_c]) | ((first | (refine sWN ?_; clear HX; intro w mm HX) | (refine sWP ?_; clear HX; intro w av nv cv HX)); simp only [Act.put, k_a, k_b, k_c]))
      refine wp_region_M (fun W => Sep w0 W (ThCell b2 (.cells #[.int .i64 S.room, .slice (some ⟨g2, o2, none⟩) S.l.length c2] 69 (0, 0)) :: ThRow 11 (.slice (some ⟨g2, o2, none⟩) S.l.length c2) xs2 :: ThCell b (.cells #[.int .i64 S.room, .slice (some ⟨g1, o1, none⟩) S.l.length c1] 69 (0, 0)) :: ThRow 11 (.slice (some ⟨g1, o1, none⟩) S.l.length c1) xs1 :: ThPool w0 P :: R) rows) 37 (by kernel_rfl) ?_
      have KEEPX : ∀ W, Sep w0 W (ThCell b2 (.cells #[.int .i64 S.room, .slice (some ⟨g2, o2, none⟩) S.l.length c2] 69 (0, 0)) :: ThRow 11 (.slice (some ⟨g2, o2, none⟩) S.l.length c2) xs2 :: ThCell b (.cells #[.int .i64 S.room, .slice (some ⟨g1, o1, none⟩) S.l.length c1] 69 (0, 0)) :: ThRow 11 (.slice (some ⟨g1, o1, none⟩) S.l.length c1) xs1 :: ThPool w0 P :: R) rows → Sep w0 W (ThCell b2 (.cells #[.int .i64 S.room, .slice (some ⟨g2, o2, none⟩) S.l.length c2] 69 (0, 0)) :: ThRow 11 (.slice (some ⟨g2, o2, none⟩) S.l.length c2) xs2 :: ThCell b (.cells #[.int .i64 S.room, .slice (some ⟨g1, o1, none⟩) S.l.length c1] 69 (0, 0)) :: ThRow 11 (.slice (some ⟨g1, o1, none⟩) S.l.length c1) xs1 :: ThPool w0 P :: R) rows := fun _ h => h
      replace HX := Lib.hid HX.out.drew
      refine wpAnyM_take (by kernel_rfl) (by intro c a d v w h; cases d <;> exact h) [(0, false), (1, false), (2, false), (3, true), (4, false), (5, false), (6, false), (7, true), (8, false), (9, false), (10, false), (11, true), (12, false), (13, false), (14, false), (15, true), (16, false), (17, false), (18, false), (19, false), (20, false), (21, true), (22, false), (23, false), (24, false), (25, true), (26, false), (27, false), (28, false), (29, true), (30, false), (31, false), (32, false), (33, true)] (fuel := 3) (by kernel_rfl) ?_
      apply Exists.intro; refine ⟨?_, HX.out, ?_⟩
      · iterate 34 (refine yE ?_)
        exact rfl
      clear hl hl2 hl3 hl4
      refine wpAnyM_one (fuel := 2) (i := 34) (by kernel_rfl) (by (simp only [k_i, k_j, k_k]; try rfl)) (fun K hK => ?_)
      go_wp2_with fail
      refine (samen_any HX.out.up4 nd nv1 nv2 HM.out.1 HM.out.2).mono ?_
      rintro e w ⟨rfl, hx⟩
      have hy : Sep w0 w (ThCell b2 (.cells #[.int .i64 S.room, .slice (some ⟨g2, o2, none⟩) S.l.length c2] 69 (0, 0)) :: ThRow 11 (.slice (some ⟨g2, o2, none⟩) S.l.length c2) xs2 :: ThCell b (.cells #[.int .i64 S.room, .slice (some ⟨g1, o1, none⟩) S.l.length c1] 69 (0, 0)) :: ThRow 11 (.slice (some ⟨g1, o1, none⟩) S.l.length c1) xs1 :: ThPool w0 P :: R) rows := hx.pm 5 [1, 2, 3, 4, 0] rfl rfl
      clear HX hx
      have HX := Lib.hid hy
      clear hy
      go_wp2_with fail
      refine hK _ _ HX.out ?_
      clear hK
      refine wpAnyM_take (by kernel_rfl) (by intro c a d v w h; cases d <;> exact h) [(35, false), (36, false)] (fuel := 0) (by kernel_rfl) ?_
      apply Exists.intro; refine ⟨?_, HX.out, ?_⟩
      · iterate 2 (refine yE ?_)
        exact rfl
      refine wpAnyM_done (by kernel_rfl) ?_ _
      go_wp2_with (first | (refine sWL ?_; simp only [Act.put, k_a, k_b, k_c, k_d, k_e, k_f, k_g, k_h, NodeS.cells, OpS.cells, ResS.cells]) | (refine sWM ?_; simp only [Act.put, k_a, k_b, k_c]) | ((first | refine sWS ?_ | refine sWT ?_); clear HX; intro w HX; simp only [Act.put, k_a, k_b, k_c, setMany, Nat.reduceAdd, NodeS.cells, OpS.cells, ResS.cells] at HX ⊢) | (refine sWA ?_; clear HX; (first | (have hq := b2; clear hq; intro w b3 HX) | (have hq := b; clear hq; intro w b2 HX) | intro w b HX); simp only [Act.put, k_a, k_b, k_c]) | ((first | (refine sWN ?_; clear HX; intro w mm HX) | (refine sWP ?_; clear HX; intro w av nv cv HX)); simp only [Act.put, k_a, k_b, k_c]))
      go_roundg (S.l.length - (i + 1))
      case rel => exact ⟨i + 1, by omega, by go_num, HX.out⟩
      case measure => omega
end
end Go.Proofs.YtjeaoopamebgjaaGreatDoor

namespace Go.Proofs.YtjeaoopamebgjaaGreatDoor
open Go.RowKit Go.Av
section
variable {w0 w : World} {b : Nat} {S : TreeS} {P P' : List PRow} {R : List Thing} {rows : List (Value × Bs)}
def keysT (S : TreeS) : List Bs := S.l.map (·.1)
def AtPost (w0 : World) (b : Nat) (S : TreeS) (P : List PRow) (R : List Thing) (rows : List (Value × Bs)) (s : Bs) (e : Ending) (w' : World) : Prop :=
  e = .returned (.tuple #[.int .i64 (placeS (keysT S) s : Nat), .bool (hasS (keysT S) s)]) ∧ Sep w0 w' (ThRt b S P :: R) rows
set_option maxRecDepth 100000 in
set_option maxHeartbeats 4000000 in
theorem at10_any (h : Sep w0 w (ThRt b S P :: R) rows) (s : ByteArray) (hn : S.l.length ≤ 100000) :
    Calls Tryz.prog 51 #[.pointer (some ⟨b, 0, none⟩), .string s] w (AtPost w0 b S P R rows s.data.toList) := by
  obtain ⟨a, n, c, xs, he, rfl, hS⟩ := rt_open h
  have HX := Lib.hid hS
  have HE := Lib.hid he
  have HN := Lib.hid hn
  have HLEN := Lib.hid (show (keysT S).length = S.l.length by unfold keysT; rw [List.length_map])
  clear h hS he hn
  go_enter Tryz.func51, Tryz.ntmps51
  go_wp2_with (first | (refine sWL ?_; simp only [Act.put, k_a, k_b, k_c, k_d, k_e, k_f, k_g, k_h, NodeS.cells, OpS.cells, ResS.cells]) | (refine sWM ?_; simp only [Act.put, k_a, k_b, k_c]) | ((first | refine sWS ?_ | refine sWT ?_); clear HX; intro w HX; simp only [Act.put, k_a, k_b, k_c, setMany, Nat.reduceAdd, NodeS.cells, OpS.cells, ResS.cells] at HX ⊢) | (refine sWA ?_; clear HX; (first | (have hq := b; clear hq; intro w b2 HX) | intro w b HX); simp only [Act.put, k_a, k_b, k_c]) | ((first | (refine sWN ?_; clear HX; intro w mm HX) | (refine sWP ?_; clear HX; intro w av nv cv HX)); simp only [Act.put, k_a, k_b, k_c]))
  go_loopg [6] S.l.length (fun k v wr => ∃ i : Nat, i + k = S.l.length ∧ v = .int .i64 (i : Int) ∧ (∀ y ∈ (keysT S).take i, y < s.data.toList) ∧ Sep w0 wr (ThCell b (.cells #[.int .i64 S.room, .slice a S.l.length c] 69 (0, 0)) :: ThRow 11 (.slice a S.l.length c) xs :: R) rows)
  case atStart => exact ⟨0, by simp, rfl, by simp, HX.out⟩
  case round =>
    rename World => w
    obtain ⟨i, hik, rfl, hno, hS⟩ := hrel
    clear HX
    have HX := Lib.hid hS
    have HNO := Lib.hid hno
    clear hS hno
    by_cases hlt : i < S.l.length
    case neg =>
      obtain rfl : i = S.l.length := by omega
      have q0 : decide ((S.l.length : Int) < (S.l.length : Int)) = false := decide_eq_false (by omega)
      have q1 : decide (S.l.length < S.l.length) = false := decide_eq_false (by omega)
      have HPL := Lib.hid (place_pos (s := s.data.toList) HNO.out (by rw [HLEN.out]; exact Nat.le_refl _) (fun h => absurd h (by rw [HLEN.out]; exact Nat.lt_irrefl _)))
      have HHS := Lib.hid (show hasS (keysT S) s.data.toList = false by unfold hasS; rw [HPL.out, ← HLEN.out]; simp)
      clear hlt hik
      go_wp2_with (first | (refine sWL ?_; simp only [Act.put, k_a, k_b, k_c, k_d, k_e, k_f, k_g, k_h, NodeS.cells, OpS.cells, ResS.cells]) | (refine sWM ?_; simp only [Act.put, k_a, k_b, k_c]) | ((first | refine sWS ?_ | refine sWT ?_); clear HX; intro w HX; simp only [Act.put, k_a, k_b, k_c, setMany, Nat.reduceAdd, NodeS.cells, OpS.cells, ResS.cells] at HX ⊢) | (refine sWA ?_; clear HX; (first | (have hq := b; clear hq; intro w b2 HX) | intro w b HX); simp only [Act.put, k_a, k_b, k_c]) | ((first | (refine sWN ?_; clear HX; intro w mm HX) | (refine sWP ?_; clear HX; intro w av nv cv HX)); simp only [Act.put, k_a, k_b, k_c]))
      refine wp_region_M (fun W => W = w.drew) 22 (by kernel_rfl) ?_
      replace HX := Lib.hid HX.out.drew
      generalize w.drew = w at HX ⊢
      refine wpAnyM_take (by kernel_rfl) (by intro c a d v w h; cases d <;> exact h) [(0, false), (1, false), (2, false), (3, false), (4, false), (5, true), (6, false), (7, false), (8, false), (9, false), (10, false), (11, false), (12, true), (13, false), (14, false), (15, false), (16, true), (17, false), (18, false), (19, false), (20, false), (21, false)] (fuel := 0) (by kernel_rfl) ?_
      apply Exists.intro; refine ⟨?_, rfl, ?_⟩
      · iterate 22 (first | refine yD ?_ | ((first | apply yieldP | apply yieldL); (· (simp only [k_i, k_j, k_k]; try rfl)); (· rfl); (· (intros; go_simp; (try simp only [q0, q1, ↓reduceIte, and_self, Int.toNat_natCast]); try with_reducible rfl)); (· (simp only [Act.put, k_a, k_b, k_c, k_d, k_e, k_f, k_g, k_h, NodeS.cells, OpS.cells, ResS.cells]; try rfl))))
        exact rfl
      refine wpAnyM_done (by kernel_rfl) ?_ _
      go_wp2_with (first | (refine sWL ?_; simp only [Act.put, k_a, k_b, k_c, k_d, k_e, k_f, k_g, k_h, NodeS.cells, OpS.cells, ResS.cells]) | (refine sWM ?_; simp only [Act.put, k_a, k_b, k_c]) | ((first | refine sWS ?_ | refine sWT ?_); clear HX; intro w HX; simp only [Act.put, k_a, k_b, k_c, setMany, Nat.reduceAdd, NodeS.cells, OpS.cells, ResS.cells] at HX ⊢) | (refine sWA ?_; clear HX; (first | (have hq := b; clear hq; intro w b2 HX) | intro w b HX); simp only [Act.put, k_a, k_b, k_c]) | ((first | (refine sWN ?_; clear HX; intro w mm HX) | (refine sWP ?_; clear HX; intro w av nv cv HX)); simp only [Act.put, k_a, k_b, k_c]))
      go_ret2
      refine ⟨?_, rt_shut HX.out HE.out⟩
      rw [HPL.out, HHS.out]
      rfl
    case pos =>
      obtain ⟨nv, -, hp1, -⟩ := HE.out.parts hlt
      obtain ⟨E, hE⟩ := own_read HX.out.up1
      obtain ⟨_, _, _, e, _, _, _, hne⟩ := ReadRow.some hE
      simp only [Value.slice.injEq] at e
      obtain ⟨rfl, rfl, rfl⟩ := e
      obtain ⟨g, off, rfl⟩ := hne (by intro e; have e : xs = [] := e; rw [e] at hp1; cases hp1)
      have hki : (keysT S)[i]? = some S.l[i].1 := by unfold keysT; rw [List.getElem?_map, List.getElem?_eq_getElem hlt]; rfl
      have hkl : i < (keysT S).length := by rw [HLEN.out]; exact hlt
      have hke : (keysT S)[i] = S.l[i].1 := by
        have := hki
        rw [List.getElem?_eq_getElem hkl] at this
        exact Option.some.inj this
      have htk : (keysT S).take (i + 1) = (keysT S).take i ++ [S.l[i].1] := by rw [List.take_succ_eq_append_getElem hkl, hke]
      have hpp := fun hs => place_pos (s := s.data.toList) (i := i) HNO.out (Nat.le_of_lt hkl) hs
      obtain ⟨key, hkey⟩ : ∃ key, S.l[i].1 = key := ⟨_, rfl⟩
      rw [hkey] at hp1 hki hke htk
      obtain ⟨kb, hkb⟩ : ∃ kb : ByteArray, kb = ⟨key.toArray⟩ := ⟨_, rfl⟩
      have hkd : key = kb.data.toList := by rw [hkb]
      have hsv : sv key = .string kb := by rw [hkb]; rfl
      rw [hsv] at hp1
      have hl := row_fld0 (P := Tryz.prog) (ty := 9) (i := i) hE (by kernel_rfl) hp1
      rw [hkd] at hki hke htk
      have hpp : ¬ kb.data.toList < s.data.toList → placeS (keysT S) s.data.toList = i := fun hh => hpp (fun h2 => by rw [hke]; exact hh)
      have HPP := Lib.hid (show _ ∧ _ ∧ _ ∧ _ from ⟨hpp, hki, htk, hp1⟩)
      have hbl : Op.bytesLess kb.toList s.toList = decide (kb.data.toList < s.data.toList) := by rw [bytesLess_eq, Lib.toList_data, Lib.toList_data]
      have hbe := strK_eq kb s
      have q0 : decide ((i : Int) < (S.l.length : Int)) = true := decide_eq_true (by omega)
      have q1 : decide (i < S.l.length) = true := decide_eq_true hlt
      have q9 : i ≤ 100000 := by have := HN.out; omega
      clear hE hkb hkd hkey hsv hpp hki hke htk hp1 hne hkl
      cases hlt2 : Op.bytesLess kb.toList s.toList with
      | true =>
        have HLT := Lib.hid (of_decide_eq_true (hbl.symm.trans hlt2))
        clear hbl hbe
        go_wp2_with (first | (refine sWL ?_; simp only [Act.put, k_a, k_b, k_c, k_d, k_e, k_f, k_g, k_h, NodeS.cells, OpS.cells, ResS.cells]) | (refine sWM ?_; simp only [Act.put, k_a, k_b, k_c]) | ((first | refine sWS ?_ | refine sWT ?_); clear HX; intro w HX; simp only [Act.put, k_a, k_b, k_c, setMany, Nat.reduceAdd, NodeS.cells, OpS.cells, ResS.cells] at HX ⊢) | (refine sWA ?_; clear HX; (first | (have hq := b; clear hq; intro w b2 HX) | intro w b HX); simp only [Act.put, k_a, k_b, k_c]) | ((first | (refine sWN ?_; clear HX; intro w mm HX) | (refine sWP ?_; clear HX; intro w av nv cv HX)); simp only [Act.put, k_a, k_b, k_c]) | ((with_reducible apply sx_loadAt hl); (· rfl); (· rfl); simp only [Act.put, k_a, k_b, k_c]))
        go_roundg (S.l.length - (i + 1))
        case rel => exact ⟨i + 1, by omega, by go_num, by
          rw [HPP.out.2.2.1]
          intro y hy
          rcases List.mem_append.1 hy with hy | hy
          · exact HNO.out y hy
          · rw [List.mem_singleton] at hy; rw [hy]; exact HLT.out, HX.out⟩
        case measure => omega
      | false =>
        have hpl := HPP.out.1 (of_decide_eq_false (hbl.symm.trans hlt2))
        obtain ⟨be, hbe2⟩ : ∃ be, (kb.toList == s.toList) = be := ⟨_, rfl⟩
        have HHS := Lib.hid (show placeS (keysT S) s.data.toList = i ∧ hasS (keysT S) s.data.toList = be from ⟨hpl, by
          unfold hasS
          rw [hpl, HPP.out.2.1, ← hbe2, hbe]
          by_cases hh : kb.data.toList = s.data.toList
          · rw [hh]; simp
          · have h2 : ¬ some kb.data.toList = some s.data.toList := fun e => hh (Option.some.inj e)
            rw [decide_eq_false h2]
            exact (beq_eq_false_iff_ne.2 hh).symm⟩)
        clear hbl hbe hpl
        go_wp2_with (first | (refine sWL ?_; simp only [Act.put, k_a, k_b, k_c, k_d, k_e, k_f, k_g, k_h, NodeS.cells, OpS.cells, ResS.cells]) | (refine sWM ?_; simp only [Act.put, k_a, k_b, k_c]) | ((first | refine sWS ?_ | refine sWT ?_); clear HX; intro w HX; simp only [Act.put, k_a, k_b, k_c, setMany, Nat.reduceAdd, NodeS.cells, OpS.cells, ResS.cells] at HX ⊢) | (refine sWA ?_; clear HX; (first | (have hq := b; clear hq; intro w b2 HX) | intro w b HX); simp only [Act.put, k_a, k_b, k_c]) | ((first | (refine sWN ?_; clear HX; intro w mm HX) | (refine sWP ?_; clear HX; intro w av nv cv HX)); simp only [Act.put, k_a, k_b, k_c]) | ((with_reducible apply sx_loadAt hl); (· rfl); (· rfl); simp only [Act.put, k_a, k_b, k_c]))
        clear hl
        refine wp_region_M (fun W => W = w.drew) 22 (by kernel_rfl) ?_
        replace HX := Lib.hid HX.out.drew
        generalize w.drew = w at HX ⊢
        obtain ⟨E, hE⟩ := own_read HX.out.up1
        have hl := row_fld0 (P := Tryz.prog) (ty := 9) (i := i) hE (by kernel_rfl) HPP.out.2.2.2
        clear hE
        refine wpAnyM_take (by kernel_rfl) (by intro c a d v w h; cases d <;> exact h) [(0, false), (1, false), (2, false), (3, false), (4, false), (5, true), (6, false), (7, false), (8, false), (9, false), (10, false), (11, false), (12, true), (13, false), (14, false), (15, false), (16, true), (17, false), (18, false), (19, false), (20, false), (21, false)] (fuel := 0) (by kernel_rfl) ?_
        apply Exists.intro; refine ⟨?_, rfl, ?_⟩
        · iterate 22 (first | refine yD ?_ | ((first | apply yieldP | apply yieldL); (· (simp only [k_i, k_j, k_k]; try rfl)); (· rfl); (· (intros; go_simp; (try simp only [q0, q1, hbe2, ↓reduceIte, and_self, Int.toNat_natCast]); try with_reducible rfl)); (· (simp only [Act.put, k_a, k_b, k_c, k_d, k_e, k_f, k_g, k_h, NodeS.cells, OpS.cells, ResS.cells]; try rfl))))
          exact rfl
        refine wpAnyM_done (by kernel_rfl) ?_ _
        clear hl
        go_wp2_with (first | (refine sWL ?_; simp only [Act.put, k_a, k_b, k_c, k_d, k_e, k_f, k_g, k_h, NodeS.cells, OpS.cells, ResS.cells]) | (refine sWM ?_; simp only [Act.put, k_a, k_b, k_c]) | ((first | refine sWS ?_ | refine sWT ?_); clear HX; intro w HX; simp only [Act.put, k_a, k_b, k_c, setMany, Nat.reduceAdd, NodeS.cells, OpS.cells, ResS.cells] at HX ⊢) | (refine sWA ?_; clear HX; (first | (have hq := b; clear hq; intro w b2 HX) | intro w b HX); simp only [Act.put, k_a, k_b, k_c]) | ((first | (refine sWN ?_; clear HX; intro w mm HX) | (refine sWP ?_; clear HX; intro w av nv cv HX)); simp only [Act.put, k_a, k_b, k_c]))
        go_ret2
        refine ⟨?_, rt_shut HX.out HE.out⟩
        rw [HHS.out.1, HHS.out.2]
        rfl
end
end Go.Proofs.YtjeaoopamebgjaaGreatDoor

namespace Go.Av
open Go.RowKit
theorem EntL.take {P : List PRow} {l : NoL} {xs : List Value} (h : EntL P l xs) : ∀ k, EntL P (l.take k) (xs.take (k * 11)) := by
  induction h with
  | nil => intro k; simp; exact .nil
  | @cons p n nv l xs h1 h2 ih =>
    intro k
    cases k with
    | zero => rw [Nat.zero_mul]; exact .nil
    | succ k =>
      have hl : (sv p :: (n.cells nv).toList).length = 11 := rfl
      have h3 := EntL.cons (p := p) h1 (ih k)
      obtain ⟨A, hA⟩ : ∃ A, sv p :: (n.cells nv).toList = A := ⟨_, rfl⟩
      rw [hA] at hl h3 ⊢
      rw [k_f, List.take_append, List.take_of_length_le (l := A) (by omega), hl, show (k + 1) * 11 - 11 = k * 11 by omega]
      exact h3
theorem EntL.drop {P : List PRow} {l : NoL} {xs : List Value} (h : EntL P l xs) : ∀ k, EntL P (l.drop k) (xs.drop (k * 11)) := by
  induction h with
  | nil => intro k; simp; exact .nil
  | @cons p n nv l xs h1 h2 ih =>
    intro k
    cases k with
    | zero => rw [Nat.zero_mul]; exact .cons h1 h2
    | succ k =>
      have hl : (sv p :: (n.cells nv).toList).length = 11 := rfl
      have h3 := ih k
      obtain ⟨A, hA⟩ : ∃ A, sv p :: (n.cells nv).toList = A := ⟨_, rfl⟩
      rw [hA] at hl ⊢
      rw [k_e, List.drop_append, List.drop_of_length_le (l := A) (by omega), hl, List.nil_append, show (k + 1) * 11 - 11 = k * 11 by omega]
      exact h3
theorem EntL.app {P : List PRow} {l l2 : NoL} {xs ys : List Value} (h : EntL P l xs) (h2 : EntL P l2 ys) : EntL P (l ++ l2) (xs ++ ys) := by
  induction h with
  | nil => exact h2
  | cons h1 _ ih =>
    rw [List.cons_append, List.append_assoc]
    exact .cons h1 ih
theorem EntL.one {w0 w : World} {R : List Thing} {rows : List (Value × Bs)} {P : List PRow} {l : NoL} {xs : List Value} (hS : Sep w0 w (ThPool w0 P :: R) rows) (h : EntL P l xs) : ∀ u ∈ xs, u.oneCell' = true := by
  induction h with
  | nil => intro u hu; cases hu
  | @cons p n nv l xs h1 h2 ih =>
    intro u hu
    obtain ⟨E, hE⟩ := hS.poolGet h1
    obtain ⟨a, m, c, hnv, -⟩ := ReadRow.some hE
    have hnv : nv = .slice a m c := hnv
    rcases List.mem_append.1 hu with hu | hu
    · rcases List.mem_cons.1 hu with rfl | hu
      · rfl
      · subst hnv
        simp only [NodeS.cells, List.mem_cons, List.not_mem_nil, or_false] at hu
        rcases hu with rfl | rfl | rfl | rfl | rfl | rfl | rfl | rfl | rfl | rfl <;> rfl
    · exact ih u hu
end Go.Av
namespace Go.Proofs.YtjeaoopamebgjaaGreatDoor
open Go.RowKit Go.Av
section
variable {w0 w : World} {b : Nat} {S : TreeS} {P P' : List PRow} {R : List Thing} {rows : List (Value × Bs)}
theorem ent_info : ∃ i, Tryz.prog.info? 87 = some i ∧ i.size = 11 := by
  obtain ⟨i, z, h1, -, h2, -⟩ := sl_ent.info
  exact ⟨i, h1, h2⟩
def RtPost (w0 : World) (b : Nat) (S : TreeS) (P : List PRow) (R : List Thing) (rows : List (Value × Bs)) (v : Value) (e : Ending) (w' : World) : Prop :=
  e = .returned v ∧ ∃ P', (∀ q ∈ P, q ∈ P') ∧ Sep w0 w' (ThPool w0 P' :: ThRt b S P' :: R) rows
set_option maxRecDepth 100000 in
set_option maxHeartbeats 4000000 in
theorem rtremove_any (h : Sep w0 w (ThPool w0 P :: ThRt b S P :: R) rows) (k : Nat) (hk : k < S.l.length) (hn : S.l.length ≤ 100000) :
    Calls Tryz.prog 52 #[.pointer (some ⟨b, 0, none⟩), .int .i64 (k : Int)] w (RtPost w0 b { S with l := S.l.take k ++ S.l.drop (k + 1) } P R rows (.tuple #[])) := by
  obtain ⟨a, n, c, xs, he, rfl, hS⟩ := rt_open h.up1
  have hone := EntL.one h he
  have hxl := he.len
  have hne : ∃ g off, a = some ⟨g, off, none⟩ := by
    obtain ⟨E, hE⟩ := own_read hS.up1
    obtain ⟨_, _, _, e, _, _, _, hne⟩ := ReadRow.some hE
    simp only [Value.slice.injEq] at e
    obtain ⟨rfl, rfl, rfl⟩ := e
    exact hne (by intro e; have e : xs = [] := e; rw [e] at hxl; simp at hxl; omega)
  obtain ⟨g, off, rfl⟩ := hne
  have hnc : S.l.length ≤ c := by
    obtain ⟨_, _, _, e, -, h2, -⟩ := hS.up1.rowLen
    simp only [Value.slice.injEq] at e
    obtain ⟨rfl, rfl, rfl⟩ := e
    exact h2
  obtain ⟨i0, hi0, hz0⟩ := ent_info
  have hS2 := (hS.pm 3 [1, 2, 0] rfl rfl : Sep w0 w (ThRow 11 _ xs :: ThPool w0 P :: ThCell b _ :: R) rows).poolRow
  have h1 := Sep.poolTake hS2 k_s (Nat.le_of_lt hk)
  have h2 := Sep.poolFrom (P := Tryz.prog) Tryz.underlying67 hi0 (by omega) (lo := k + 1) h1 (by rw [hz0]; exact k_n _ k_s) hk
  rw [hz0] at h2
  obtain ⟨a', hs2, h3⟩ := h2
  rw [show (((k + 1 : Nat)) : Int) = (k : Int) + 1 by omega] at hs2
  have HX := Lib.hid h3
  have HE := Lib.hid he
  have HONE := Lib.hid (show (∀ u ∈ xs.take (k * 11), u.oneCell' = true) ∧ (∀ u ∈ xs.drop ((k + 1) * 11), u.oneCell' = true) from ⟨fun u hu => hone u (List.mem_of_mem_take hu), fun u hu => hone u (List.mem_of_mem_drop hu)⟩)
  obtain ⟨P2, hP2⟩ : ∃ P2, (11, Value.slice a' (S.l.length - (k + 1)) (c - (k + 1)), xs.drop ((k + 1) * 11)) :: (11, Value.slice (some ⟨g, off, none⟩) k c, xs.take (k * 11)) :: (11, Value.slice (some ⟨g, off, none⟩) S.l.length c, xs) :: P = P2 := ⟨_, rfl⟩
  rw [hP2] at HX
  have HMEM := Lib.hid (show (11, Value.slice (some ⟨g, off, none⟩) k c, xs.take (k * 11)) ∈ P2 ∧ (11, Value.slice a' (S.l.length - (k + 1)) (c - (k + 1)), xs.drop ((k + 1) * 11)) ∈ P2 by rw [← hP2]; simp)
  have HSUB := Lib.hid (show ∀ q ∈ P, q ∈ P2 by rw [← hP2]; exact fun q hq => k_n _ (k_n _ (k_n _ hq)))
  have hif : (if c = k + 1 then some (⟨g, off, none⟩ : Addr) else some ⟨g, off + (k + 1) * 11, none⟩) = a' := by
    have h4 := (run_sliceAt (P := Tryz.prog) Tryz.underlying67 (.slice (some ⟨g, off, none⟩) S.l.length c) (some (.int .i64 ((k + 1 : Nat) : Int))) none none w).trans (slice_runG Tryz.underlying67 hi0 g off S.l.length c (k + 1) hk w)
    rw [show (((k + 1 : Nat)) : Int) = (k : Int) + 1 by omega] at h4
    have h5 := (hs2 w).symm.trans h4
    injection h5 with h6 _
    injection h6 with h7 _ _
    rw [h7, hz0]
    split <;> rfl
  have hw0 : (k ≤ c) = True := eq_true (by omega)
  have hw1 : IntKind.i64.wrap ((k : Int) + 1) = (k : Int) + 1 := IntWalk.i64_in _ (by omega)
  have hw2 : (0 ≤ (k : Int) + 1 ∧ (k : Int) + 1 ≤ (S.l.length : Int)) = True := eq_true ⟨by omega, by omega⟩
  have hw3 : ((k : Int) + 1).toNat = k + 1 := by omega
  clear h hS hS2 h1 h3 hs2 he hone hP2 hi0 hz0
  go_enter Tryz.func52, Tryz.ntmps52
  refine wp_region_M (fun W => Sep w0 W (ThPool w0 P2 :: ThCell b (.cells #[.int .i64 S.room, .slice (some ⟨g, off, none⟩) S.l.length c] 69 (0, 0)) :: R) rows) 17 (by kernel_rfl) ?_
  have KEEPX : ∀ W, Sep w0 W (ThPool w0 P2 :: ThCell b (.cells #[.int .i64 S.room, .slice (some ⟨g, off, none⟩) S.l.length c] 69 (0, 0)) :: R) rows → Sep w0 W (ThPool w0 P2 :: ThCell b (.cells #[.int .i64 S.room, .slice (some ⟨g, off, none⟩) S.l.length c] 69 (0, 0)) :: R) rows := fun _ h => h
  replace HX := Lib.hid HX.out.drew
  refine wpAnyM_take (by kernel_rfl) (by intro c a d v w h; cases d <;> exact h) [(0, false), (2, false), (3, false), (4, false), (5, true), (6, false), (7, false), (9, false), (10, false), (11, false), (12, true), (13, false), (14, false), (15, false)] (fuel := 6) (by kernel_rfl) ?_
  apply Exists.intro; refine ⟨?_, HX.out, ?_⟩
  · iterate 14 (first | refine yE ?_ | ((first | apply yieldP | apply yieldL); (· (simp only [k_i, k_j, k_k]; try rfl)); (· rfl); (· (intros; go_simp; (try simp only [hw0, hw1, hw2, hw3, hif, ↓reduceIte, and_self, Int.toNat_natCast]); try with_reducible rfl)); (· (simp only [Act.put, k_a, k_b, k_c, k_d, k_e, k_f, k_g, k_h, NodeS.cells, OpS.cells, ResS.cells]; try rfl))))
    exact rfl
  refine wpAnyM_one (fuel := 5) (i := 1) (by kernel_rfl) (by (simp only [k_i, k_j, k_k]; try rfl)) (fun K hK => ?_)    -- buildSlice
  go_wp2_with (first | (refine sWL ?_; simp only [Act.put, k_a, k_b, k_c, k_d, k_e, k_f, k_g, k_h, NodeS.cells, OpS.cells, ResS.cells]) | (refine sWM ?_; simp only [Act.put, k_a, k_b, k_c]) | ((first | refine sWS ?_ | refine sWT ?_); clear HX; intro w HX; simp only [Act.put, k_a, k_b, k_c, setMany, Nat.reduceAdd, NodeS.cells, OpS.cells, ResS.cells] at HX ⊢) | (refine sWA ?_; clear HX; (first | (have hq := b3; clear hq; intro w b4 HX) | (have hq := b2; clear hq; intro w b3 HX) | (have hq := b; clear hq; intro w b2 HX) | intro w b HX); simp only [Act.put, k_a, k_b, k_c]) | ((first | (refine sWN ?_; clear HX; intro w mm HX) | (refine sWP ?_; clear HX; intro w av nv cv HX)); simp only [Act.put, k_a, k_b, k_c]) | (refine sx_lit0 HX sl_ent ?_; clear HX; intro w b3 HX; simp only [Act.put, k_a, k_b, k_c]))
  refine hK _ _ HX.out.drop ?_
  clear hK
  refine wpAnyM_one (fuel := 4) (i := 8) (by kernel_rfl) (by (simp only [k_i, k_j, k_k]; try rfl)) (fun K hK => ?_)
  go_wp2_with (first | (refine sWL ?_; simp only [Act.put, k_a, k_b, k_c, k_d, k_e, k_f, k_g, k_h, NodeS.cells, OpS.cells, ResS.cells]) | (refine sWM ?_; simp only [Act.put, k_a, k_b, k_c]) | ((first | refine sWS ?_ | refine sWT ?_); clear HX; intro w HX; simp only [Act.put, k_a, k_b, k_c, setMany, Nat.reduceAdd, NodeS.cells, OpS.cells, ResS.cells] at HX ⊢) | (refine sWA ?_; clear HX; (first | (have hq := b3; clear hq; intro w b4 HX) | (have hq := b2; clear hq; intro w b3 HX) | (have hq := b; clear hq; intro w b2 HX) | intro w b HX); simp only [Act.put, k_a, k_b, k_c]) | ((first | (refine sWN ?_; clear HX; intro w mm HX) | (refine sWP ?_; clear HX; intro w av nv cv HX)); simp only [Act.put, k_a, k_b, k_c]) | ((with_reducible apply sx_appP HX); (· exact sl_ent); (· rfl); (· rfl); (· (repeat (first | (with_reducible exact Rem.here) | (with_reducible apply Rem.there)))); (· (repeat (first | (with_reducible exact k_s) | (with_reducible apply k_m)))); (· (first | exact HMEM.out.1 | exact HMEM.out.2)); (· (first | exact HONE.out.1 | exact HONE.out.2)); (· (intro n m hn hm; simp only [List.length_nil, List.length_append, List.length_take, List.length_drop, List.length_cons] at hn hm; omega)); clear HX; intro w av nv cv HX; simp only [Act.put, k_a, k_b, k_c]))
  refine hK _ _ HX.out.drop ?_
  clear hK
  refine wpAnyM_one (fuel := 3) (i := 16) (by kernel_rfl) (by (simp only [k_i, k_j, k_k]; try rfl)) (fun K hK => ?_)
  go_wp2_with (first | (refine sWL ?_; simp only [Act.put, k_a, k_b, k_c, k_d, k_e, k_f, k_g, k_h, NodeS.cells, OpS.cells, ResS.cells]) | (refine sWM ?_; simp only [Act.put, k_a, k_b, k_c]) | ((first | refine sWS ?_ | refine sWT ?_); clear HX; intro w HX; simp only [Act.put, k_a, k_b, k_c, setMany, Nat.reduceAdd, NodeS.cells, OpS.cells, ResS.cells] at HX ⊢) | (refine sWA ?_; clear HX; (first | (have hq := b3; clear hq; intro w b4 HX) | (have hq := b2; clear hq; intro w b3 HX) | (have hq := b; clear hq; intro w b2 HX) | intro w b HX); simp only [Act.put, k_a, k_b, k_c]) | ((first | (refine sWN ?_; clear HX; intro w mm HX) | (refine sWP ?_; clear HX; intro w av nv cv HX)); simp only [Act.put, k_a, k_b, k_c]) | ((with_reducible apply sx_appP HX); (· exact sl_ent); (· rfl); (· rfl); (· (repeat (first | (with_reducible exact Rem.here) | (with_reducible apply Rem.there)))); (· (repeat (first | (with_reducible exact k_s) | (with_reducible apply k_m)))); (· (first | exact HMEM.out.1 | exact HMEM.out.2)); (· (first | exact HONE.out.1 | exact HONE.out.2)); (· (intro n m hn hm; simp only [List.length_nil, List.length_append, List.length_take, List.length_drop, List.length_cons] at hn hm; omega)); clear HX; intro w av nv cv HX; simp only [Act.put, k_a, k_b, k_c]))
  refine hK _ _ HX.out.drop ?_
  clear hK
  refine wpAnyM_of_any _ _ _ _ (by decide) ?_
  refine wpAny_list [17, 18, 19] (fuel := 0) (by kernel_rfl) ?_
  simp only [List.filterMap_cons, List.filterMap_nil, k_i, k_j, k_k]
  have hent : EntL P2 (S.l.take k ++ S.l.drop (k + 1)) ([] ++ xs.take (k * 11) ++ xs.drop ((k + 1) * 11)) := by
    rw [List.nil_append]
    exact ((HE.out.take k).app (HE.out.drop (k + 1))).mono HSUB.out
  have hnl : nv = (S.l.take k ++ S.l.drop (k + 1)).length := by
    obtain ⟨_, _, _, e, hl, -, -⟩ := HX.out.rowLen
    simp only [Value.slice.injEq] at e
    obtain ⟨rfl, rfl, rfl⟩ := e
    rw [hent.len] at hl
    omega
  have HNV := Lib.hid hnl
  clear hnl
  have HENT := Lib.hid hent
  clear hent
  go_step
  go_step
  first
    | refine sWT ?_
    | (go_step; refine sWT ?_)
    | (go_step; go_step; refine sWT ?_)
  clear HX
  intro w HX
  simp only [Act.put, k_a, k_b, k_c] at HX ⊢
  go_wp2_with (first | (refine sWL ?_; simp only [Act.put, k_a, k_b, k_c, k_d, k_e, k_f, k_g, k_h, NodeS.cells, OpS.cells, ResS.cells]) | (refine sWM ?_; simp only [Act.put, k_a, k_b, k_c]) | ((first | refine sWS ?_ | refine sWT ?_); clear HX; intro w HX; simp only [Act.put, k_a, k_b, k_c, setMany, Nat.reduceAdd, NodeS.cells, OpS.cells, ResS.cells] at HX ⊢) | (refine sWA ?_; clear HX; (first | (have hq := b3; clear hq; intro w b4 HX) | (have hq := b2; clear hq; intro w b3 HX) | (have hq := b; clear hq; intro w b2 HX) | intro w b HX); simp only [Act.put, k_a, k_b, k_c]) | ((first | (refine sWN ?_; clear HX; intro w mm HX) | (refine sWP ?_; clear HX; intro w av nv cv HX)); simp only [Act.put, k_a, k_b, k_c]))
  go_end0
  refine ⟨rfl, P2, HSUB.out, ?_⟩
  have h1 := HX.out.up2
  rw [HNV.out] at h1
  exact (rt_shut (S := { S with l := S.l.take k ++ S.l.drop (k + 1) }) h1 HENT.out).up1
end
end Go.Proofs.YtjeaoopamebgjaaGreatDoor

namespace Go.Av
open Go.RowKit
section
variable {P : Program} {w0 w : World} {R Ts Ts' : List Thing} {rows : List (Value × Bs)}
def cellsF (n : Nat) (f : Nat → Value) : List Value := (List.range n).map f
theorem cellsF_at {n i : Nat} {f : Nat → Value} (h : i < n) : (cellsF n f)[i]? = some (f i) := by simp [cellsF, h]
theorem cellsF_set (n : Nat) (f : Nat → Value) (i : Nat) (v : Value) : (cellsF n f).set i v = cellsF n (fun k => if k = i then v else f k) := by
  apply List.ext_getElem
  · simp [cellsF]
  · intro k h1 h2
    simp only [cellsF, List.getElem_set, List.getElem_map, List.getElem_range]
    by_cases h : i = k
    · rw [if_pos h, if_pos h.symm]
    · rw [if_neg h, if_neg (fun e => h e.symm)]
theorem run_store_at {ty : TypeId} {b i : Nat} {v u : Value} (hs : sizeB P ty 1 = true) (hc : v.cells = #[v]) (hcell : w.cell? ⟨b, i, none⟩ = some u) (hf : w.frozen? ⟨b, i, none⟩ = false) (h1 : v.oneCell' = true) :
    (Instr.storeAt ty (.pointer (some ⟨b, i, none⟩)) v).run P w = .ok () (w.setCell ⟨b, i, none⟩ v) := by
  unfold sizeB at hs
  cases hi : P.info? ty with
  | none => simp [hi] at hs
  | some ii =>
    simp only [hi, beq_iff_eq] at hs
    have := run_storeCells_cells (P := P) b i [v] 0 w (fun j hj => by
        obtain rfl : j = 0 := by simpa using hj
        simp [hcell]) (fun j hj => by
        obtain rfl : j = 0 := by simpa using hj
        simpa using hf)
      (fun v' hv => by rw [List.mem_singleton] at hv; rw [hv]; exact h1)
    simp only [Nat.add_zero] at this
    have hsc : w.setCells b i [v] = w.setCell ⟨b, i, none⟩ v := rfl
    rw [hsc] at this
    simp [Instr.storeAt, Instr.sureAddr, Sem.run_bind, storeVar, sizeOf, typeInfo, hi, hs, hc, this]
theorem run_rowSet {y : Nat} {off n c i : Nat} {xs : List Value} {ty : TypeId} {v : Value} (H : Sep w0 w (ThRow 1 (.slice (some ⟨y, off, none⟩) n c) xs :: R) rows) (hs : sizeB P ty 1 = true) (hc : v.cells = #[v]) (h1 : v.oneCell' = true) (hi : i < n) :
    ∃ w', (Instr.storeAt ty (.pointer (some ⟨y, off + i, none⟩)) v).run P w = .ok () w' ∧ Sep w0 w' (ThRow 1 (.slice (some ⟨y, off, none⟩) n c) (xs.set i v) :: R) rows := by
  obtain ⟨h2, h3, ⟨u, h4⟩, h5⟩ := H.rowSet hi v
  rw [Addr.add_lit] at h2 h4 h5
  exact ⟨_, run_store_at hs hc h4 h2 h1, h5⟩
variable {ops : Array Oper} {Q : Exit → Act → World → Prop} {rest : List Oper} {a : Act} {dst : Option Tmp} {tyy : TypeId} {pos : String} {aft : Array Edge} {g : Option (Nat × Bool)}
theorem sx_rowSet {y off n c i : Nat} {xs : List Value} {ty : TypeId} {v : Value} {x z : Operand} (H : Hid (Sep w0 w (ThRow 1 (.slice (some ⟨y, off, none⟩) n c) xs :: R) rows)) (hx : a.eval x = .pointer (some ⟨y, off + i, none⟩)) (hy : a.eval z = v) (hc : v.cells = #[v])
    (hw : Region.wanted ⟨dst, .store ty x z, tyy, pos, aft, g⟩ (yielded ops a.tmps) = true) (hs : sizeB P ty 1 = true) (h1 : v.oneCell' = true) (hi : i < n)
    (k : ∀ w', Hid (Sep w0 w' (ThRow 1 (.slice (some ⟨y, off, none⟩) n c) (xs.set i v) :: R) rows) → wpList P ops Q rest (a.put dst undef) w') : wpList P ops Q (⟨dst, .store ty x z, tyy, pos, aft, g⟩ :: rest) a w := by
  obtain ⟨w', h2, h3⟩ := run_rowSet (P := P) (ty := ty) H hs hc h1 hi
  refine wpList_did hw ?_ (k w' h3)
  unfold execOp
  dsimp only
  rw [hx, hy, Sem.run_bind, h2]
  rfl
end
end Go.Av

namespace Go.Av
open Go.RowKit
section
variable {P : Program} {w0 w : World} {R Ts Ts' : List Thing} {rows : List (Value × Bs)}
def setL (xs : List Value) : Nat → List Value → List Value
  | _, [] => xs
  | i, v :: vs => setL (xs.set i v) (i + 1) vs
theorem setL_eq : ∀ (vs xs : List Value) (i : Nat), i + vs.length ≤ xs.length → setL xs i vs = xs.take i ++ vs ++ xs.drop (i + vs.length)
  | [], xs, i, _ => by
    unfold setL
    simp
  | v :: vs, xs, i, h => by
    rw [List.length_cons] at h
    unfold setL
    rw [setL_eq vs _ _ (by rw [List.length_set]; omega)]
    rw [List.take_succ_eq_append_getElem (by rw [List.length_set]; omega), List.getElem_set_self, List.take_set_of_le (Nat.le_refl _), List.drop_set_of_lt (by omega), List.length_cons]
    rw [show i + 1 + vs.length = i + (vs.length + 1) by omega]
    simp
theorem Sep.rowSets {g off n c K : Nat} : ∀ (vs : List Value) {xs : List Value} {w : World} {i : Nat}, Sep w0 w (ThRow K (.slice (some ⟨g, off, none⟩) n c) xs :: R) rows → i + vs.length ≤ n * K → Sep w0 (w.setCells g (off + i) vs) (ThRow K (.slice (some ⟨g, off, none⟩) n c) (setL xs i vs) :: R) rows
  | [], _, _, _, h, _ => h
  | v :: vs, xs, w, i, h, hi => by
    rw [List.length_cons] at hi
    obtain ⟨-, -, -, h1⟩ := h.rowSetK (i := i) (by omega) v
    rw [Addr.add_lit] at h1
    exact Sep.rowSets vs (i := i + 1) h1 (by omega)
theorem run_rowPut {g off n c K i : Nat} {xs : List Value} {ty : TypeId} {vs : List Value} (H : Sep w0 w (ThRow K (.slice (some ⟨g, off, none⟩) n c) xs :: R) rows) (hs : sizeB P ty vs.length = true) (h1 : ∀ u ∈ vs, u.oneCell' = true) (hi : i + vs.length ≤ n * K) :
    ∃ w', (Instr.storeAt ty (.pointer (some ⟨g, off + i, none⟩)) (.agg vs.toArray)).run P w = .ok () w' ∧ Sep w0 w' (ThRow K (.slice (some ⟨g, off, none⟩) n c) (setL xs i vs) :: R) rows := by
  have hc : (Value.agg vs.toArray).cells = vs.toArray := rfl
  have hf : ∀ j, j < vs.length → w.frozen? ⟨g, off + i + j, none⟩ = false ∧ ∃ u, w.cell? ⟨g, off + i + j, none⟩ = some u := fun j hj => by
    obtain ⟨a1, -, a2, -⟩ := H.rowSetK (i := i + j) (by omega) (.bool false)
    rw [Addr.add_lit, ← Nat.add_assoc] at a1 a2
    exact ⟨a1, a2⟩
  unfold sizeB at hs
  cases hii : P.info? ty with
  | none => simp [hii] at hs
  | some ii =>
    simp only [hii, beq_iff_eq] at hs
    have := run_storeCells_cells (P := P) g (off + i) vs 0 w (fun j hj => by
        rw [Nat.add_zero]
        obtain ⟨-, u, hu⟩ := hf j hj
        rw [hu]; rfl) (fun j hj => by
        rw [Nat.add_zero]
        exact (hf j hj).1)
      h1
    simp only [Nat.add_zero] at this
    refine ⟨_, ?_, Sep.rowSets vs H hi⟩
    simp [Instr.storeAt, Instr.sureAddr, Sem.run_bind, storeVar, sizeOf, typeInfo, hii, hs, hc, this]
variable {ops : Array Oper} {Q : Exit → Act → World → Prop} {rest : List Oper} {a : Act} {dst : Option Tmp} {tyy : TypeId} {pos : String} {aft : Array Edge} {gg : Option (Nat × Bool)}
theorem sx_rowPut {g off n c K i o : Nat} {xs : List Value} {ty : TypeId} {vs : List Value} {x z : Operand} (H : Hid (Sep w0 w (ThRow K (.slice (some ⟨g, off, none⟩) n c) xs :: R) rows)) (hx : a.eval x = .pointer (some ⟨g, o, none⟩)) (ho : o = off + i) (hy : a.eval z = .agg vs.toArray)
    (hw : Region.wanted ⟨dst, .store ty x z, tyy, pos, aft, gg⟩ (yielded ops a.tmps) = true) (hs : sizeB P ty vs.length = true) (h1 : ∀ u ∈ vs, u.oneCell' = true) (hi : i + vs.length ≤ n * K)
    (k : ∀ w', Hid (Sep w0 w' (ThRow K (.slice (some ⟨g, off, none⟩) n c) (setL xs i vs) :: R) rows) → wpList P ops Q rest (a.put dst undef) w') : wpList P ops Q (⟨dst, .store ty x z, tyy, pos, aft, gg⟩ :: rest) a w := by
  subst ho
  obtain ⟨w', h2, h3⟩ := run_rowPut (P := P) (ty := ty) H hs h1 hi
  refine wpList_did hw ?_ (k w' h3)
  unfold execOp
  dsimp only
  rw [hx, hy, Sem.run_bind, h2]
  rfl
end
end Go.Av

namespace Go.Av
open Go.RowKit
theorem take_tw {α : Type} (q : α → Bool) : ∀ l : List α, l.take (l.takeWhile q).length = l.takeWhile q ∧ l.drop (l.takeWhile q).length = l.dropWhile q
  | [] => ⟨rfl, rfl⟩
  | x :: r => by
    obtain ⟨h1, h2⟩ := take_tw q r
    cases h : q x with
    | false => simp [h]
    | true => simp [h, h1, h2]
theorem place_tw (l : NoL) (p : Bs) : (l.takeWhile fun e => decide (e.1 < p)).length = placeS (l.map (·.1)) p := by
  unfold placeS
  rw [List.takeWhile_map, List.length_map]
  rfl
theorem lay_ins (l : NoL) (p : Bs) (n : NodeS) : l.take (placeS (l.map (·.1)) p) ++ (p, n) :: l.drop (placeS (l.map (·.1)) p) = insT p n l := by
  obtain ⟨h1, h2⟩ := take_tw (fun e : Bs × NodeS => decide (e.1 < p)) l
  rw [← place_tw, h1, h2]
  rfl
theorem has_split {l : NoL} {p : Bs} (h : hasS (l.map (·.1)) p = true) : ∃ (hk : placeS (l.map (·.1)) p < l.length), l[placeS (l.map (·.1)) p].1 = p := by
  unfold hasS at h
  have h1 := of_decide_eq_true h
  obtain ⟨h2, h3⟩ := List.getElem?_eq_some_iff.1 h1
  have hk : placeS (l.map (·.1)) p < l.length := by simpa using h2
  refine ⟨hk, ?_⟩
  simpa using h3
theorem split_nodup {A B : NoL} {e : Bs × NodeS} (hn : ((A ++ e :: B).map (·.1)).Nodup) : (∀ x ∈ A, x.1 ≠ e.1) ∧ ∀ x ∈ B, x.1 ≠ e.1 := by
  simp only [List.map_append, List.map_cons, List.nodup_append, List.nodup_cons, List.mem_map, List.mem_cons] at hn
  obtain ⟨-, ⟨h2, -⟩, h3⟩ := hn
  refine ⟨fun x hx he => h3 x.1 ⟨x, hx, rfl⟩ e.1 (.inl rfl) he, fun x hx he => h2 ⟨x, hx, he⟩⟩
theorem rem_del {l : NoL} (hn : (l.map (·.1)).Nodup) {k : Nat} (hk : k < l.length) : l.take k ++ l.drop (k + 1) = delT l[k].1 l := by
  have hs : l = l.take k ++ l[k] :: l.drop (k + 1) := by rw [← List.drop_eq_getElem_cons hk, List.take_append_drop]
  obtain ⟨A, hA⟩ : ∃ A, l.take k = A := ⟨_, rfl⟩
  obtain ⟨B, hB⟩ : ∃ B, l.drop (k + 1) = B := ⟨_, rfl⟩
  obtain ⟨e, he⟩ : ∃ e, l[k] = e := ⟨_, rfl⟩
  rw [hA, hB, he] at hs
  rw [hA, hB, he, hs]
  rw [hs] at hn
  obtain ⟨h1, h2⟩ := split_nodup hn
  unfold delT
  rw [List.filter_append, List.filter_cons, if_neg (by simp), List.filter_eq_self.2 (fun x hx => by simpa using h1 x hx), List.filter_eq_self.2 (fun x hx => by simpa using h2 x hx)]
theorem set_setT {l : NoL} (hn : (l.map (·.1)).Nodup) {k : Nat} (hk : k < l.length) (n : NodeS) : l.set k (l[k].1, n) = setT l[k].1 n l := by
  have hs : l = l.take k ++ l[k] :: l.drop (k + 1) := by rw [← List.drop_eq_getElem_cons hk, List.take_append_drop]
  rw [List.set_eq_take_append_cons_drop, if_pos hk]
  obtain ⟨A, hA⟩ : ∃ A, l.take k = A := ⟨_, rfl⟩
  obtain ⟨B, hB⟩ : ∃ B, l.drop (k + 1) = B := ⟨_, rfl⟩
  obtain ⟨e, he⟩ : ∃ e, l[k] = e := ⟨_, rfl⟩
  rw [hA, hB, he] at hs
  rw [hA, hB, he, hs]
  rw [hs] at hn
  obtain ⟨h1, h2⟩ := split_nodup hn
  unfold setT
  rw [List.map_append, List.map_cons, if_pos rfl]
  congr 1
  · exact (List.map_id' _).symm.trans (List.map_congr_left fun x hx => by rw [if_neg (h1 x hx)])
  · congr 1
    exact (List.map_id' _).symm.trans (List.map_congr_left fun x hx => by rw [if_neg (h2 x hx)])
theorem has_look {l : NoL} (hn : (l.map (·.1)).Nodup) {p : Bs} : (hasS (l.map (·.1)) p = true → ∃ (hk : placeS (l.map (·.1)) p < l.length), l[placeS (l.map (·.1)) p].1 = p ∧ lookT p l = some l[placeS (l.map (·.1)) p].2) := fun h => by
  obtain ⟨hk, h1⟩ := has_split h
  refine ⟨hk, h1, (look_mem hn).2 ?_⟩
  have := List.getElem_mem hk
  obtain ⟨e, he⟩ : ∃ e, l[placeS (l.map (·.1)) p] = e := ⟨_, rfl⟩
  rw [he] at this h1 ⊢
  rw [← h1]
  exact this
theorem has_none {l : NoL} (hr : RiseT l) {p : Bs} (h : hasS (l.map (·.1)) p = false) : lookT p l = none := by
  rw [look_not]
  intro e he heq
  have : p ∈ l.map (·.1) := List.mem_map.2 ⟨e, he, heq⟩
  have h2 := (has_mem (show RiseS (l.map (·.1)) from hr)).2 this
  rw [h2] at h
  cases h
theorem EntL.setN {P : List PRow} {l : NoL} {xs : List Value} (h : EntL P l xs) {k : Nat} (hk : k < l.length) {n' : NodeS} {nv' : Value} (hv' : (1, nv', n'.names.map sv) ∈ P) : EntL P (l.set k (l[k].1, n')) (setL xs (k * 11 + 1) (n'.cells nv').toList) := by
  have hxl := h.len
  have hc : (n'.cells nv').toList.length = 10 := rfl
  rw [setL_eq _ _ _ (by rw [hc, hxl]; omega), hc, List.set_eq_take_append_cons_drop, if_pos hk]
  have hk11 : k * 11 < xs.length := by omega
  have h0 : xs[k * 11]? = some (sv l[k].1) := by
    obtain ⟨nv2, -, h3⟩ := h.at hk
    exact h3 0 _ rfl
  have h1 : xs.take (k * 11 + 1) = xs.take (k * 11) ++ [sv l[k].1] := by
    rw [List.take_succ_eq_append_getElem hk11]
    rw [List.getElem?_eq_getElem hk11] at h0
    rw [Option.some.inj h0]
  rw [h1, show k * 11 + 1 + 10 = (k + 1) * 11 by omega, List.append_assoc, List.append_assoc]
  exact (h.take k).app (.cons hv' (h.drop (k + 1)))
end Go.Av

namespace Go.Av
theorem setT_insT (up q : Bs) (x n : NodeS) (l : NoL) (h : q ≠ up) : setT up x (insT q n l) = insT q n (setT up x l) := by
  have hq : ∀ e : Bs × NodeS, (if e.1 = up then (e.1, x) else e).1 = e.1 := fun e => by split <;> rfl
  unfold insT setT
  rw [List.map_append, List.map_cons, if_neg h, List.takeWhile_map, List.dropWhile_map]
  have hc : ((fun e : Bs × NodeS => decide (e.1 < q)) ∘ fun e => if e.1 = up then (e.1, x) else e) = fun e => decide (e.1 < q) := by
    funext e
    show decide ((if e.1 = up then (e.1, x) else e).1 < q) = _
    rw [hq]
  rw [hc]
theorem ofP_short : ∀ l : List Bs, l ≠ [] → (ofP l.dropLast).length < (ofP l).length
  | [], h => absurd rfl h
  | [x], _ => by simp [ofP]
  | x :: y :: l, _ => by
    have ih := ofP_short (y :: l) (by simp)
    rw [List.dropLast_cons_cons]
    unfold ofP at ih ⊢
    rw [List.flatMap_cons, List.flatMap_cons, List.length_append, List.length_append]
    omega
theorem parent_ne {p up : Bs} (h : parentP p = some up) : p ≠ up := by
  intro e
  unfold parentP at h
  split at h
  · cases h
  · rename_i h1
    injection h with h2
    have hne : partsP p ≠ [] := by intro e2; rw [e2] at h1; exact h1 (by decide)
    have hs := ofP_short _ hne
    rw [h2, ← e] at hs
    have hg : goodP p = true := by
      cases hh : goodP p with
      | true => rfl
      | false => exact absurd (by unfold partsP; rw [hh]; rfl) hne
    have hp : ofP (partsP p) = p := by
      cases p with
      | nil => cases hg
      | cons c r =>
        have hc : c = 47 := by
          unfold goodP at hg
          simp only [Bool.and_eq_true, decide_eq_true_eq] at hg
          exact hg.1.1.1
        unfold partsP
        rw [if_pos hg, hc]
        exact cutS_of r
    rw [hp] at hs
    omega
theorem lay_under {q up : Bs} {n m : NodeS} {l : NoL} (hr : RiseT l) (hp : parentP q = some up) (hm : lookT up l = some m) (hq : lookT q l = none) : layT q n l = insT q n (setT up (addS m (nameP q)) l) := by
  have hne := parent_ne hp
  have hl : lookT up (insT q n l) = some m := by
    have h1 := (look_mem (rise_nodup hr)).1 hm
    exact (look_mem (rise_nodup (insT_rise hr hq))).2 ((insT_perm q n l).mem_iff.2 (k_n _ h1))
  unfold layT atUp
  rw [hp]
  dsimp only
  rw [hl]
  exact setT_insT up q _ n l hne
theorem lay_top {q : Bs} {n : NodeS} {l : NoL} (hp : parentP q = none) : layT q n l = insT q n l := by
  unfold layT atUp
  rw [hp]
end Go.Av

namespace Go.Av
open Go.RowKit
def cutStep (b : UInt8) (acc : List Bs) (c : UInt8) : List Bs := if c = b then acc ++ [[]] else acc.dropLast ++ [acc.getLastD [] ++ [c]]
def cutG (b : UInt8) (l : Bs) : List Bs := l.foldl (cutStep b) [[]]
theorem cutG_ne (b : UInt8) (l : Bs) : cutG b l ≠ [] := by
  have : ∀ (l : Bs) (acc : List Bs), acc ≠ [] → l.foldl (cutStep b) acc ≠ [] := by
    intro l
    induction l with
    | nil => exact fun _ h => h
    | cons c l ih =>
      intro acc h
      refine ih _ ?_
      unfold cutStep
      split <;> simp
  exact this l _ (by simp)
theorem cutG_snoc (b : UInt8) (l : Bs) (c : UInt8) : cutG b (l ++ [c]) = cutStep b (cutG b l) c := by
  unfold cutG
  rw [List.foldl_append]
  rfl
theorem fold_mem (b : UInt8) : ∀ (l : Bs) (acc : List Bs) (n : Nat), (∀ x ∈ acc, x.length ≤ n) → ∀ x ∈ l.foldl (cutStep b) acc, x.length ≤ n + l.length
  | [], acc, n, h => h
  | c :: l, acc, n, h => fun x hx => by
    rw [List.foldl_cons] at hx
    have := fold_mem b l (cutStep b acc c) (n + 1) (fun y hy => by
      unfold cutStep at hy
      split at hy
      · rcases List.mem_append.1 hy with hy | hy
        · have := h y hy; omega
        · rw [List.mem_singleton.1 hy]; simp
      · rcases List.mem_append.1 hy with hy | hy
        · have := h y (List.dropLast_subset _ hy); omega
        · rw [List.mem_singleton.1 hy, List.length_append]
          cases hg : acc.getLast? with
          | none => rw [List.getLastD_eq_getLast?, hg]; simp
          | some z =>
            rw [List.getLastD_eq_getLast?, hg]
            have := h z (List.mem_of_getLast? hg)
            simp; omega) x hx
    rw [List.length_cons]; omega
theorem cutG_mem {b : UInt8} {l x : Bs} (h : x ∈ cutG b l) : x.length ≤ l.length := by
  have := fold_mem b l [[]] 0 (by simp) x h
  omega
theorem fold_cut : ∀ (l : Bs) (acc : List Bs) (x : Bs), l.foldl (cutStep 47) (acc ++ [x]) = acc ++ (match cutS l with | [] => [x] | y :: t => (x ++ y) :: t)
  | [], acc, x => by simp [cutS]
  | c :: l, acc, x => by
    rw [List.foldl_cons]
    by_cases hc : c = 47
    · subst hc
      have e1 : cutStep 47 (acc ++ [x]) 47 = (acc ++ [x]) ++ [[]] := by unfold cutStep; rw [if_pos rfl]
      rw [e1, fold_cut l, cutS, if_pos rfl]
      cases hs : cutS l with
      | nil => exact absurd hs (cutS_ne l)
      | cons y t => simp
    · have e1 : cutStep 47 (acc ++ [x]) c = acc ++ [x ++ [c]] := by unfold cutStep; rw [if_neg hc]; simp
      rw [e1, fold_cut l, cutS, if_neg hc]
      cases hs : cutS l with
      | nil => exact absurd hs (cutS_ne l)
      | cons y t => simp
theorem cutG_cut (l : Bs) : cutG 47 l = cutS l := by
  unfold cutG
  have := fold_cut l [] []
  rw [List.nil_append] at this
  rw [this]
  cases hs : cutS l with
  | nil => exact absurd hs (cutS_ne l)
  | cons y t => simp
theorem cut_noslash : ∀ {l : Bs} {x : Bs}, x ∈ cutS l → 47 ∉ x
  | [], x, h => by simp [cutS] at h; simp [h]
  | c :: l, x, h => by
    unfold cutS at h
    split at h
    · rcases List.mem_cons.1 h with rfl | h
      · simp
      · exact cut_noslash h
    · rename_i hc
      split at h
      · rename_i h0; exact absurd h0 (cutS_ne l)
      · rename_i y t hy
        rcases List.mem_cons.1 h with rfl | h
        · have := cut_noslash (x := y) (l := l) (by rw [hy]; simp)
          simp only [List.mem_cons, not_or]
          exact ⟨fun e => hc e.symm, this⟩
        · exact cut_noslash (x := x) (l := l) (by rw [hy]; simp [h])
def nameR (l : Bs) : Bool := decide (1 ≤ l.length) && decide (l.length ≤ 40) && !(l == [46]) && !(l == [46, 46]) && l.all fun c => okCh c && !(c == 47)
theorem nameR_eq {l : Bs} (h : 47 ∉ l) : nameR l = nameS l := by
  have : (l.all fun c => okCh c && !(c == 47)) = l.all okCh := by
    rw [Bool.eq_iff_iff, List.all_eq_true, List.all_eq_true]
    constructor
    · intro ha c hc
      have := ha c hc
      simp only [Bool.and_eq_true] at this
      exact this.1
    · intro ha c hc
      have h1 : (c == 47) = false := beq_eq_false_iff_ne.2 fun e => h (e ▸ hc)
      rw [ha c hc, h1]
      rfl
  unfold nameR nameS
  rw [this]
  cases l.all okCh <;> simp [Bool.and_assoc]
theorem Sep.one {w w' : World} {v : Value} {xs : List Value} {size : Nat} {rows : List (Value × Bs)} (h : Sep w w' [ThRow size v xs] rows) : ∃ D, OwnRow w' size v xs D ∧ Upd w w' [] D := by
  obtain ⟨D, hl, hu, -⟩ := h
  cases hl with
  | @cons _ D _ E h1 h2 h3 =>
    cases h3 with
    | nil => exact ⟨D, h1, by simpa using hu⟩
end Go.Av
namespace Go.Proofs.YtjeaoopamebgjaaGreatDoor
open Go.RowKit Go.Av
theorem infoS : (Tryz.prog.info? 9).map (fun i => (i.zero, i.size, i.bytes)) = some (some (.string ByteArray.empty), 1, 16) := by kernel_rfl
set_option maxRecDepth 100000 in
set_option maxHeartbeats 2000000 in
theorem cut1_any (s : ByteArray) (b : UInt8) (w : World) (hs : s.size ≤ 1000000) :
    Calls Tryz.prog 77 #[.string s, .int .u8 b.toNat] w (PartsPost w (cutG b s.data.toList)) := by
  obtain ⟨i0, hi0, hz0, hz1, hz2⟩ := info_parts infoS
  have h0 := (Sep.start w).addRow (OwnRow.made w 9 1 1 1 #[.string ⟨#[]⟩] [sv []] rfl (Nat.le_refl _) (by decide) (Nat.le_refl _) rfl) (Upd.alloc1 w _ [])
  have H0 := Lib.hid h0
  have hbt : b.toNat < 256 := UInt8.toNat_lt b
  clear h0
  go_enter Tryz.func77, Tryz.ntmps77
  go_wp2_with fail
  go_loopg [5, 6] s.size (fun k vl vi wr => ∃ p : Nat, p ≤ s.size ∧ k = s.size - p ∧ vi = .int .i64 (p : Int) ∧ Sep w wr [ThRow 1 vl ((cutG b (s.data.toList.take p)).map sv)] [])
  case atStart => exact ⟨0, Nat.zero_le _, rfl, rfl, H0.out⟩
  case round =>
    obtain ⟨p, hp, hk, hvi, hS⟩ := hrel
    subst hvi
    clear H0
    by_cases hlt : p < s.size
    case neg =>
      obtain rfl : p = s.size := by omega
      rw [List.take_of_length_le (by simp)] at hS
      have HO := Lib.hid hS.one
      clear hS
      go_wp2_with fail
      go_ret
      obtain ⟨D, h1, h2⟩ := HO.out
      exact ⟨_, D, rfl, h1, h2⟩
    have hts : s.data.toList.take (p + 1) = s.data.toList.take p ++ [s[p]] := by
      rw [List.take_succ_eq_append_getElem (by simpa using hlt)]; rfl
    have hsn := cutG_snoc b (s.data.toList.take p) s[p]
    rw [← hts] at hsn
    have hne := cutG_ne b (s.data.toList.take p)
    have hcl : (cutG b (s.data.toList.take p)).length ≤ p + 1 := by
      have : ∀ (l : Bs), (cutG b l).length ≤ l.length + 1 := fun l => by
        unfold cutG
        have : ∀ (l : Bs) (acc : List Bs), acc ≠ [] → (l.foldl (cutStep b) acc).length ≤ l.length + acc.length := by
          intro l
          induction l with
          | nil => intro acc _; simp
          | cons c l ih =>
            intro acc h
            rw [List.foldl_cons]
            have h1 : (cutStep b acc c).length ≤ acc.length + 1 := by
              unfold cutStep
              split
              · simp
              · simp only [List.length_append, List.length_dropLast, List.length_singleton]; omega
            have := ih (cutStep b acc c) (by unfold cutStep; split <;> simp)
            rw [List.length_cons]
            omega
        have := this l [[]] (by simp)
        simpa using this
      have := this (s.data.toList.take p)
      rw [List.length_take] at this
      omega
    obtain ⟨acc, hacc⟩ : ∃ acc, cutG b (s.data.toList.take p) = acc := ⟨_, rfl⟩
    rw [hacc] at hsn hne hcl hS
    obtain ⟨al, nl, cl, rfl, hll, hnl, hml⟩ := hS.rowLen
    rw [List.length_map, Nat.mul_one] at hll
    subst hll
    unfold maxLen at hml
    by_cases hc : s[p] = b
    · have hcb : ((s[p].toNat : Int) == (b.toNat : Int)) = true := by rw [hc]; simp
      unfold cutStep at hsn
      rw [if_pos hc] at hsn
      obtain ⟨D, hown, -, back⟩ := hS.use
      have ha1 := Upd.alloc0 wr (.cells #[.string ⟨#[]⟩] 9 (0, 0)) []
      have hownA : OwnRow _ 1 _ _ D := OwnRow.frame hown (ha1.same (OwnRow.lt hown) (by simp))
      obtain ⟨nb, hnb, hsrc⟩ := (cell_new wr (.string ⟨#[]⟩) 9 (0, 0)).src (P := Tryz.prog) (tx := 29) Tryz.underlying29 (by intro u hu; rw [List.mem_singleton.1 hu]; rfl)
      obtain rfl : 1 = nb := by simpa using hnb
      have HBD := Lib.hid (show ∀ n', (acc.map sv).length = n' * 1 → n' + 1 ≤ 140737488355328 ∧ (n' + 1) * i0.bytes ≤ 140737488355328 from fun n' hn' => by
        rw [List.length_map] at hn'
        rw [hz2]; omega)
      have HBK := Lib.hid back
      have HSN := Lib.hid hsn
      clear hown back hS hnb hsn hts hne hacc hc
      go_wp2_with (at_builtin; go_must (refine wpList_app rfl _ _ 29 29 rfl 1 _ _ _ rfl hownA _ i0 _ Tryz.underlying29 hi0 hz0 hz1 rfl _ _ _ rfl hsrc HBD.out ?_); intro a7 n7 c7 w7 D7 hown7 hu7)
      have HN := Lib.hid (HBK.out w7 D7 (ThRow 1 (.slice a7 n7 c7) ((acc ++ [[]]).map sv)) ((ha1.mono (by simp) (fun b hb => .inr hb) : Upd wr _ D D).trans hu7) (by rw [List.map_append]; exact hown7))
      clear hown7 hu7 hsrc hownA
      go_roundg (s.size - (p + 1))
      case rel => exact ⟨p + 1, by omega, rfl, by go_num, by rw [HSN.out]; exact HN.out⟩
      case measure => omega
    · have hcb : ((s[p].toNat : Int) == (b.toNat : Int)) = false := beq_eq_false_iff_ne.2 fun e => hc (UInt8.toNat_inj.1 (by omega))
      unfold cutStep at hsn
      rw [if_neg hc] at hsn
      obtain ⟨k, hkl⟩ : ∃ k, acc.length = k + 1 := ⟨acc.length - 1, by have := List.length_pos_iff.2 hne; omega⟩
      have hlast : acc[k]? = some (acc.getLastD []) := by
        rw [List.getLastD_eq_getLast?, List.getLast?_eq_getElem?, hkl, Nat.add_sub_cancel, List.getElem?_eq_getElem (by omega)]
        rfl
      have hdl : acc.dropLast ++ [acc.getLastD [] ++ [s[p]]] = acc.set k (acc.getLastD [] ++ [s[p]]) := by
        apply List.ext_getElem?
        intro j
        rw [List.getElem?_set]
        by_cases hj : k = j
        · subst hj
          rw [if_pos rfl, List.getElem?_append_right (by rw [List.length_dropLast]; omega), List.length_dropLast, hkl]
          simp
        · rw [if_neg hj]
          by_cases hjk : j < k
          · rw [List.getElem?_append_left (by rw [List.length_dropLast]; omega), List.getElem?_dropLast]
            simp; omega
          · rw [List.getElem?_append_right (by rw [List.length_dropLast]; omega), List.length_dropLast, hkl, List.getElem?_eq_none (l := acc) (by omega)]
            simp; omega
      rw [hdl] at hsn
      obtain ⟨xl, hxl⟩ : ∃ xl, acc.getLastD [] = xl := ⟨_, rfl⟩
      rw [hxl] at hsn hlast
      have hxm : xl ∈ cutG b (s.data.toList.take p) := by rw [hacc]; exact List.mem_of_getElem? hlast
      have hxs := cutG_mem hxm
      rw [List.length_take] at hxs
      rw [hkl] at hS
      obtain ⟨y, rfl, hys, hcy⟩ := hS.rowCell (i := k) (x := sv xl) (by rw [List.getElem?_map, hlast]; rfl)
      obtain ⟨fy, -, -, hset⟩ := hS.drew.rowSet (i := k) (by omega) (sv (xl ++ [s[p]]))
      have hext : (⟨xl.toArray⟩ : ByteArray) ++ s.extract p (p + 1) = ⟨(xl ++ [s[p]]).toArray⟩ := by
        apply WideShapes.bytes_inj
        rw [ByteArray.data_append, Array.toList_append, Lib.extract_data]
        have : (s.data.toList.drop p).take (p + 1 - p) = [s[p]] := by
          rw [show p + 1 - p = 1 by omega, List.drop_eq_getElem_cons (by simpa using hlt)]; rfl
        rw [this]
      have HSN := Lib.hid (show _ ∧ _ ∧ _ from ⟨hsn, hset, hext⟩)
      clear hsn hts hne hacc hc hdl hxl hset hS hlast hext hxm
      rw [hkl]
      unfold sv at hcy
      obtain ⟨xs, hxs1⟩ : ∃ xs : ByteArray, xs = ⟨xl.toArray⟩ := ⟨_, rfl⟩
      have hxs2 : xs.size ≤ 1000000 := by rw [hxs1]; show xl.toArray.size ≤ _; simp; omega
      obtain ⟨es, hes⟩ : ∃ es, es = s.extract p (p + 1) := ⟨_, rfl⟩
      have hes2 : es.size ≤ 1 := by rw [hes]; simp; omega
      rw [← hxs1] at hcy
      rw [← hxs1, ← hes] at HSN
      have hk0 : IntKind.i64.wrap (k : Int) = (k : Int) := IntWalk.i64_in _ (by omega)
      have hp1 : IntKind.i64.wrap ((p : Int) + 1) = ((p + 1 : Nat) : Int) := by rw [IntWalk.i64_in _ (by omega)]; omega
      have hk2 : (k : Int) < (k : Int) + 1 := by omega
      have hp0 : 0 ≤ (p : Int) + 1 := by omega
      have hp2 : (p : Int) + 1 ≤ s.size := by omega
      have hp3 : (p : Int) ≤ (p : Int) + 1 := by omega
      go_wp2_with fail
      refine wp_region_M (fun W => W.cell? (y.add k) = some (.string xs)) 15 (by kernel_rfl) ?_
      refine wpAnyM_take (by kernel_rfl) (by intro c a d v w h; cases d <;> exact h) [(0, false), (1, false), (2, false), (3, false), (4, false), (5, false), (6, false), (7, false), (8, false), (9, true), (10, false), (11, false), (12, false), (13, false), (14, false)] (fuel := 3) (by kernel_rfl) ?_
      apply Exists.intro; refine ⟨?_, hcy, ?_⟩
      · iterate 15 ((first | (apply yieldN; (· (simp only [k_i, k_j, k_k]; try rfl)); (· rfl)) | ((first | apply yieldP | apply yieldL); (· (simp only [k_i, k_j, k_k]; try rfl)); (· rfl); (· (intros; go_simp; try with_reducible rfl)))); (· (simp only [Act.put, k_a, k_b, k_c]; try rfl)))
        exact rfl
      rw [← hes]
      refine wpAnyM_of_any _ _ _ _ (by decide) ?_
      refine wpAny_list [15, 16, 17] (fuel := 0) (by kernel_rfl) ?_
      simp only [List.filterMap_cons, List.filterMap_nil, k_i, k_j, k_k]
      go_wp2_with fail
      go_roundg (s.size - (p + 1))
      case rel =>
        refine ⟨p + 1, by omega, rfl, by go_num, ?_⟩
        rw [HSN.out.1, ← hxs1, ← hes, HSN.out.2.2]
        have := HSN.out.2.1
        rw [← List.map_set] at this
        exact this
      case measure => omega
end Go.Proofs.YtjeaoopamebgjaaGreatDoor

namespace Go.Proofs.YtjeaoopamebgjaaGreatDoor
open Go.RowKit Go.Av
set_option maxRecDepth 100000 in
set_option maxHeartbeats 2000000 in
theorem isName_any (s : ByteArray) (w : World) (hs : s.size ≤ maxLen) :
    Calls Tryz.prog 78 #[.string s] w fun e w' => e = .returned (.bool (nameR s.data.toList)) ∧ w' = w := by
  unfold maxLen at hs
  have hsz : s.size = s.data.toList.length := by simp
  have hT : s.toList = s.data.toList := Go.Lib.toList_data s
  have hnm : nameR s.data.toList = (decide (1 ≤ s.size) && decide (s.size ≤ 40) && !(s.toList == [46]) && !(s.toList == [46, 46]) && s.data.toList.all fun c => okCh c && !(c == 47)) := by
    unfold nameR
    rw [hsz, hT]
  have HN := Lib.hid hnm
  clear hnm hsz hT
  by_cases h1 : (s.size : Int) < 1
  · go_enter Tryz.func78, Tryz.ntmps78
    go_wp2_with fail
    go_ret
    rw [HN.out, show decide (1 ≤ s.size) = false from decide_eq_false (by omega)]
    exact ⟨rfl, rfl⟩
  by_cases h2 : 40 < (s.size : Int)
  · go_enter Tryz.func78, Tryz.ntmps78
    go_wp2_with fail
    go_ret
    rw [HN.out, show decide (s.size ≤ 40) = false from decide_eq_false (by omega), Bool.and_false]
    exact ⟨rfl, rfl⟩
  have hd1 : decide (1 ≤ s.size) = true := decide_eq_true (by omega)
  have hd2 : decide (s.size ≤ 40) = true := decide_eq_true (by omega)
  have HD := Lib.hid (show _ ∧ _ from ⟨hd1, hd2⟩)
  clear hd1 hd2
  cases h3 : (s.toList == [46]) with
  | true =>
    have h3' : s.toList = [46] := by simpa using h3
    have H3 := Lib.hid h3
    go_enter Tryz.func78, Tryz.ntmps78
    go_wp2_with fail
    go_ret
    rw [HN.out, H3.out]
    exact ⟨by simp, rfl⟩
  | false =>
  cases h4 : (s.toList == [46, 46]) with
  | true =>
    have h3' : ¬ s.toList = [46] := by simpa using h3
    have h4' : s.toList = [46, 46] := by simpa using h4
    have H4 := Lib.hid h4
    go_enter Tryz.func78, Tryz.ntmps78
    go_wp2_with fail
    go_ret
    rw [HN.out, H4.out]
    exact ⟨by simp, rfl⟩
  | false =>
  have h3' : ¬ s.toList = [46] := by simpa using h3
  have h4' : ¬ s.toList = [46, 46] := by simpa using h4
  have hnm : nameR s.data.toList = s.data.toList.all fun c => okCh c && !(c == 47) := by
    rw [HN.out, HD.out.1, HD.out.2, h3, h4]
    simp
  have HN := Lib.hid hnm
  clear hnm
  go_enter Tryz.func78, Tryz.ntmps78
  go_wp2_with fail
  go_loop [3] (fun i => ∃ p : Nat, p ≤ s.size ∧ i = .int .i64 p ∧ ((s.data.toList.take p).all fun c => okCh c && !(c == 47)) = true) (fun i => s.size - (intOf i).toNat)
  case atStart => exact ⟨0, Nat.zero_le _, rfl, rfl⟩
  case round =>
    obtain ⟨p, hp, rfl, ha⟩ := hrel
    by_cases hlt : p < s.size
    · have hts : s.data.toList.take (p + 1) = s.data.toList.take p ++ [s[p]] := by
        rw [List.take_succ_eq_append_getElem (by simpa using hlt)]; rfl
      have hok : okCh s[p] = !(decide ((s[p].toNat : Int) < 33) || decide (126 < (s[p].toNat : Int))) := by
        unfold okCh
        congr 2
        · rw [decide_eq_decide, UInt8.lt_iff_toNat_lt, show (33 : UInt8).toNat = 33 from rfl]; omega
        · rw [decide_eq_decide, UInt8.lt_iff_toNat_lt, show (126 : UInt8).toNat = 126 from rfl]; omega
      have hmem : s[p] ∈ s.data.toList := by
        have : s.data.toList[p]'(by simpa using hlt) = s[p] := rfl
        rw [← this]; exact List.getElem_mem _
      have h47 : (s[p] == 47) = ((s[p].toNat : Int) == 47) := by
        rw [Bool.eq_iff_iff, beq_iff_eq, beq_iff_eq, ← UInt8.toNat_inj, show (47 : UInt8).toNat = 47 from rfl]; omega
      have hno : (okCh s[p] && !(s[p] == 47)) = false → nameR s.data.toList = false := fun h => by
        rw [HN.out]
        exact List.all_eq_false.2 ⟨_, hmem, by simp [h]⟩
      have HX := Lib.hid (show _ ∧ _ ∧ _ ∧ _ ∧ _ from ⟨hts, ha, hok, h47, hno⟩)
      clear hts ha hok hmem h47 hno
      by_cases h1 : (s[p].toNat : Int) < 33
      · go_wp2_with fail
        go_ret
        rw [HX.out.2.2.2.2 (by rw [HX.out.2.2.1]; simp [h1])]
        exact ⟨rfl, rfl⟩
      by_cases h2 : 126 < (s[p].toNat : Int)
      · go_wp2_with fail
        go_ret
        rw [HX.out.2.2.2.2 (by rw [HX.out.2.2.1]; simp [h2])]
        exact ⟨rfl, rfl⟩
      cases h5 : ((s[p].toNat : Int) == 47) with
      | true =>
        have H5 := Lib.hid h5
        go_wp2_with fail
        go_ret
        rw [HX.out.2.2.2.2 (by rw [HX.out.2.2.2.1, H5.out]; simp)]
        exact ⟨rfl, rfl⟩
      | false =>
      have H5 := Lib.hid h5
      go_wp2_with fail
      go_round
      case rel =>
        refine ⟨p + 1, by omega, by go_num, ?_⟩
        rw [HX.out.1, List.all_append, HX.out.2.1, List.all_cons, HX.out.2.2.1, HX.out.2.2.2.1, H5.out]
        simp [h1, h2]
      case measure => simp [intOf]; omega
    obtain rfl : p = s.size := by omega
    rw [List.take_of_length_le (by simp)] at ha
    have HA := Lib.hid ha
    clear ha
    go_wp2_with fail
    go_ret
    rw [HN.out, HA.out]
    exact ⟨rfl, rfl⟩
theorem partsP_of {s : ByteArray} {c : UInt8} {r : Bs} (h : s.data.toList = c :: r) : partsP s.data.toList = if c = 47 ∧ s.size ≤ 200 ∧ (cutS r).all nameS = true ∧ (cutS r).length ≤ 8 then cutS r else [] := by
  have hsz : s.size = r.length + 1 := by
    have : s.size = s.data.toList.length := by simp
    rw [this, h, List.length_cons]
  rw [h]
  unfold partsP
  have hg : goodP (c :: r) = true ↔ (c = 47 ∧ s.size ≤ 200 ∧ (cutS r).all nameS = true ∧ (cutS r).length ≤ 8) := by
    unfold goodP
    simp only [Bool.and_eq_true, decide_eq_true_eq, hsz, and_assoc]
  by_cases hc : c = 47 ∧ s.size ≤ 200 ∧ (cutS r).all nameS = true ∧ (cutS r).length ≤ 8
  · rw [if_pos hc, if_pos (hg.2 hc)]; rfl
  · rw [if_neg hc, if_neg (fun e => hc (hg.1 e))]
set_option maxRecDepth 100000 in
set_option maxHeartbeats 2000000 in
theorem parts1_any (s : ByteArray) (w : World) (hs : s.size ≤ maxLen) :
    Calls Tryz.prog 50 #[.string s] w (PartsPost w (partsP s.data.toList)) := by
  unfold maxLen at hs
  have hsz : s.size = s.data.toList.length := by simp
  have hnil : ∀ w' : World, w' = w → partsP s.data.toList = [] → PartsPost w (partsP s.data.toList) (.returned (.slice none 0 0)) w' := fun w' hw h => by
    rw [h, hw]; exact ⟨_, [], rfl, OwnRow.nil _ _, Upd.refl _ _⟩
  cases hl : s.data.toList with
  | nil =>
    have h2 : (s.size : Int) < 2 := by rw [hsz, hl]; decide
    have HN := Lib.hid (show partsP s.data.toList = [] by rw [hl]; rfl)
    rw [← hl]
    have HI := Lib.hid hnil
    clear hnil hsz hl
    go_enter Tryz.func50, Tryz.ntmps50
    go_wp2_with fail
    go_ret
    exact HI.out _ rfl HN.out
  | cons c r =>
  have hP := partsP_of hl
  rw [← hl]
  by_cases h2 : (s.size : Int) < 2
  · have hr : r = [] := by rw [hl, List.length_cons] at hsz; exact List.length_eq_zero_iff.1 (by omega)
    have HN := Lib.hid (show partsP s.data.toList = [] by rw [hP, if_neg]; rintro ⟨-, -, h, -⟩; rw [hr] at h; cases h)
    have HI := Lib.hid hnil
    clear hnil hsz hl hP hr
    go_enter Tryz.func50, Tryz.ntmps50
    go_wp2_with fail
    go_ret
    exact HI.out _ rfl HN.out
  by_cases h200 : 200 < (s.size : Int)
  · have HN := Lib.hid (show partsP s.data.toList = [] by rw [hP, if_neg]; rintro ⟨-, h, -, -⟩; omega)
    have HI := Lib.hid hnil
    clear hnil hsz hl hP
    go_enter Tryz.func50, Tryz.ntmps50
    go_wp2_with fail
    go_ret
    exact HI.out _ rfl HN.out
  have hp0 : 0 < s.size := by omega
  have h0 : s[0].toNat = c.toNat := by
    have : s.data.toList[0]'(by rw [← hsz]; omega) = s[0] := rfl
    rw [← this]
    simp [hl]
  by_cases hc : c = 47
  case neg =>
    have HN := Lib.hid (show partsP s.data.toList = [] by rw [hP, if_neg]; rintro ⟨h, -⟩; exact hc h)
    have HI := Lib.hid hnil
    have hb : ((s[0].toNat : Int) != 47) = true := by
      rw [h0, bne_iff_ne]; intro e; exact hc (UInt8.toNat_inj.1 (by rw [show (47 : UInt8).toNat = 47 from rfl]; omega))
    clear hnil hsz hl hP h0 hc
    go_enter Tryz.func50, Tryz.ntmps50
    go_wp2_with fail
    go_ret
    exact HI.out _ rfl HN.out
  subst hc
  have hb : ((s[0].toNat : Int) != 47) = false := by rw [h0]; rfl
  have hex : (s.extract 1 s.size).data.toList = r := by rw [Lib.extract_to_end, hl]; rfl
  have hct := cut1_any (s.extract 1 s.size) 47 w (by simp; omega)
  rw [hex, cutG_cut] at hct
  have hle : (cutS r).length ≤ 1000 := by
    rw [cutS_len]
    have := List.count_le_length (a := 47) (l := r)
    rw [hl, List.length_cons] at hsz
    omega
  have hlm : ∀ x ∈ cutS r, x.length ≤ 1000 ∧ 47 ∉ x := fun x hx => by
    have := cutS_mem hx
    rw [hl, List.length_cons] at hsz
    exact ⟨by omega, cut_noslash hx⟩
  have hsz2 : s.size ≤ 200 := by omega
  obtain ⟨ps, hps⟩ : ∃ ps, cutS r = ps := ⟨_, rfl⟩
  rw [hps] at hP hct hle hlm
  have HCT := Lib.hid hct
  have HP := Lib.hid hP
  have HL := Lib.hid hlm
  clear hnil hsz hl hP hct hlm hex hps h0
  go_enter Tryz.func50, Tryz.ntmps50
  go_wp2_with fail
  refine HCT.out.mono ?_
  rintro e w1 ⟨v, D, rfl, ho, hu⟩
  obtain ⟨a, n, cp, rfl, hl, hn, hcp, -⟩ := id ho
  rw [List.length_map, Nat.mul_one] at hl
  subst hl
  unfold maxLen at hcp
  have HO := Lib.hid (show _ ∧ _ from ⟨ho, hu⟩)
  clear ho hu
  by_cases h8 : 8 < (ps.length : Int)
  · go_wp2_with fail
    go_ret
    rw [HP.out, if_neg (by rintro ⟨-, -, -, h⟩; omega)]
    exact ⟨_, [], rfl, OwnRow.nil _ _, HO.out.2.mono (fun _ h => h) (fun b hb => by cases hb)⟩
  go_wp2_with fail
  go_loopg [4] ps.length (fun k i wr => wr = w1 ∧ ∃ p : Nat, p ≤ ps.length ∧ k = ps.length - p ∧ i = .int .i64 p ∧ (ps.take p).all nameS = true)
  case atStart => exact ⟨rfl, 0, Nat.zero_le _, rfl, rfl, rfl⟩
  case round =>
    obtain ⟨hW, p, hp, hk, hv, ha⟩ := hrel
    subst wr hv
    by_cases hlt : p < ps.length
    · obtain ⟨y, rfl, hys, hcy⟩ := ownCell HO.out.1 (i := p) (x := sv ps[p]) (by rw [List.getElem?_map, List.getElem?_eq_getElem hlt]; rfl)
      obtain ⟨hx, hns⟩ := HL.out _ (List.getElem_mem hlt)
      have hts : ps.take (p + 1) = ps.take p ++ [ps[p]] := by rw [List.take_succ_eq_append_getElem hlt]
      have hmm : ps[p] ∈ ps := List.getElem_mem hlt
      obtain ⟨x, hxx⟩ : ∃ x, ps[p] = x := ⟨_, rfl⟩
      rw [hxx] at hcy hx hts hmm hns
      have hn := isName_any ⟨x.toArray⟩ w1 (by show x.toArray.size ≤ _; unfold maxLen; simp; omega)
      rw [show (⟨x.toArray⟩ : ByteArray).data.toList = x from rfl, nameR_eq hns] at hn
      unfold sv at hcy
      have HX := Lib.hid (show _ ∧ _ ∧ _ from ⟨hts, ha, hmm⟩)
      cases hnx : nameS x with
      | false =>
        rw [hnx] at hn
        have HN := Lib.hid hn
        have HB := Lib.hid hnx
        clear hn hx hxx hts ha hmm hnx hns
        go_wp2_with fail
        refine HN.out.mono ?_
        rintro e w2 ⟨rfl, hW⟩
        subst w2
        go_wp2_with fail
        go_ret
        rw [HP.out, if_neg (by rintro ⟨-, -, h, -⟩; have := List.all_eq_true.1 h x HX.out.2.2; rw [HB.out] at this; cases this)]
        exact ⟨_, [], rfl, OwnRow.nil _ _, HO.out.2.mono (fun _ h => h) (fun b hb => by cases hb)⟩
      | true =>
        rw [hnx] at hn
        have HN := Lib.hid hn
        have HB := Lib.hid hnx
        clear hn hx hxx hts ha hmm hnx hns
        go_wp2_with fail
        refine HN.out.mono ?_
        rintro e w2 ⟨rfl, hW⟩
        subst w2
        go_wp2_with fail
        go_roundg (ps.length - (p + 1))
        case rel =>
          refine ⟨rfl, p + 1, by omega, rfl, by go_num, ?_⟩
          rw [HX.out.1, List.all_append, HX.out.2.1]
          simp [HB.out]
        case measure => omega
    · obtain rfl : p = ps.length := by omega
      rw [List.take_length] at ha
      have HA := Lib.hid ha
      clear ha
      go_wp2_with fail
      go_ret
      rw [HP.out, if_pos ⟨by first | rfl | trivial, hsz2, HA.out, by omega⟩]
      exact ⟨_, D, rfl, HO.out.1, HO.out.2⟩
theorem good_parts (p : Bs) : goodP p = decide (0 < (partsP p).length) := by
  unfold partsP
  cases goodP p with
  | false => rfl
  | true =>
    rw [if_pos rfl, cutS_len]
    simp
theorem good1_any (s : ByteArray) (w : World) (hs : s.size ≤ maxLen) :
    Calls Tryz.prog 103 #[.string s] w fun e w' => e = .returned (.bool (goodP s.data.toList)) ∧ Upd w w' [] [] := by
  have hg := parts1_any s w hs
  rw [good_parts]
  obtain ⟨ps, hps⟩ : ∃ ps, partsP s.data.toList = ps := ⟨_, rfl⟩
  rw [hps] at hg ⊢
  have HG := Lib.hid hg
  clear hg hps hs
  go_enter Tryz.func103, Tryz.ntmps103
  go_wp2_with fail
  refine HG.out.mono ?_
  rintro e w1 ⟨v, D, rfl, ho, hu⟩
  obtain ⟨a, n, c, rfl, hl, hn, hc, -⟩ := id ho
  rw [List.length_map, Nat.mul_one] at hl
  subst hl
  unfold maxLen at hc
  have HU := Lib.hid (hu.mono (fun _ h => h) (fun b hb => by cases hb) : Upd w w1 [] [])
  clear ho hu
  go_wp2_with fail
  go_ret
  exact ⟨rfl, HU.out⟩
end Go.Proofs.YtjeaoopamebgjaaGreatDoor

namespace Go.Proofs.YtjeaoopamebgjaaGreatDoor
open Go.RowKit Go.Av
theorem ofP_take (l : List Bs) (p : Nat) (hp : p < l.length) : ofP (l.take (p + 1)) = ofP (l.take p) ++ 47 :: l[p] := by
  unfold ofP
  rw [List.take_succ_eq_append_getElem hp, List.flatMap_append]
  simp
theorem ofP_take_len (l : List Bs) (p : Nat) : (ofP (l.take p)).length ≤ (ofP l).length := by
  conv => rhs; rw [← List.take_append_drop p l]
  unfold ofP
  rw [List.flatMap_append, List.length_append]
  exact Nat.le_add_right _ _
set_option maxRecDepth 100000 in
set_option maxHeartbeats 1000000 in
theorem of_any (v : Value) (l : List Bs) (E : List Nat) (w : World) (h : ReadRow w 1 v (l.map sv) E) (hl : (ofP l).length ≤ 1000) :
    Calls Tryz.prog 109 #[v] w fun e w' => e = .returned (sv (ofP l)) ∧ Upd w w' [] [] := by
  obtain ⟨a, n, c, rfl, hln, hnc, hcm, -⟩ := id h
  rw [List.length_map, Nat.mul_one] at hln
  subst hln
  unfold maxLen at hcm
  have hcells := (row_cell h).2.2.2
  have hll := sumS_len l
  have HC := Lib.hid (show _ ∧ _ from ⟨hcells, hl⟩)
  have hl3 : l.length ≤ 1000 := by omega
  clear h hcells hll hl
  go_enter Tryz.func109, Tryz.ntmps109
  go_wp2_with fail
  go_loopg [3, 4] l.length (fun k vl vi wr => ∃ p : Nat, p ≤ l.length ∧ k = l.length - p ∧ vi = .int .i64 (p : Int) ∧ vl = sv (ofP (l.take p)) ∧ wr = w)
  case atStart => exact ⟨0, Nat.zero_le _, rfl, rfl, rfl, rfl⟩
  case round =>
    obtain ⟨p, hp, hk, hvi, hvl, hW⟩ := hrel
    subst hvi
    subst hW
    by_cases hlt : p < l.length
    case neg =>
      obtain rfl : p = l.length := by omega
      rw [List.take_length] at hvl
      have HV := Lib.hid hvl
      clear hvl
      go_wp2_with fail
      go_ret
      rw [HV.out]
      exact ⟨rfl, Upd.refl _ _⟩
    obtain ⟨y, rfl, hys, hcy⟩ := HC.out.1 (by omega)
    have hcell := hcy p (sv l[p]) (by rw [List.getElem?_map, List.getElem?_eq_getElem hlt]; rfl)
    obtain ⟨s1, hs1⟩ : ∃ s1 : ByteArray, s1 = ⟨(ofP (l.take p)).toArray⟩ := ⟨_, rfl⟩
    obtain ⟨s2, hs2⟩ : ∃ s2 : ByteArray, s2 = ⟨l[p].toArray⟩ := ⟨_, rfl⟩
    have hz1 : s1.size ≤ 1000 := by
      rw [hs1]
      show (ofP (l.take p)).toArray.size ≤ _
      rw [List.size_toArray]
      exact Nat.le_trans (ofP_take_len l p) HC.out.2
    have hz2 : s2.size ≤ 1000 := by
      rw [hs2]
      show l[p].toArray.size ≤ _
      rw [List.size_toArray]
      have := ofP_take_len l (p + 1)
      rw [ofP_take l p hlt, List.length_append, List.length_cons] at this
      have := HC.out.2
      omega
    obtain ⟨s3, hs3⟩ : ∃ s3, s1 ++ ⟨#[47]⟩ = s3 := ⟨_, rfl⟩
    have hz3 : s3.size ≤ 1001 := by
      rw [← hs3, ByteArray.size_append]
      have : (⟨#[47]⟩ : ByteArray).size = 1 := rfl
      omega
    have hfin : Value.string (s3 ++ s2) = sv (ofP (l.take (p + 1))) := by
      rw [ofP_take l p hlt]
      refine congrArg Value.string (WideShapes.bytes_inj ?_)
      rw [← hs3, hs1, hs2]
      simp [ByteArray.data_append]
    have HF := Lib.hid hfin
    unfold sv at hvl hcell
    rw [← hs1] at hvl
    rw [← hs2] at hcell
    subst hvl
    clear hfin hs1 hs2 hcy
    go_wp2_with fail
    go_roundg (l.length - (p + 1))
    case rel => exact ⟨p + 1, by omega, rfl, by go_num, HF.out, rfl⟩
    case measure => omega
set_option maxRecDepth 100000 in
set_option maxHeartbeats 1000000 in
theorem parent1_any (s : ByteArray) (w : World) (hs : s.size ≤ maxLen) :
    Calls Tryz.prog 79 #[.string s] w fun e w' => e = .returned (.tuple #[sv ((parentP s.data.toList).getD []), .bool (parentP s.data.toList).isSome]) ∧ Upd w w' [] [] := by
  obtain ⟨i0, hi0, hz0, hz1, hz2⟩ := info_parts infoStr
  have hg := parts1_any s w hs
  have hlen := ofP_drop (partsP s.data.toList)
  have hlen2 := parts_len s.data.toList
  obtain ⟨po, hpo⟩ : ∃ po, parentP s.data.toList = po := ⟨_, rfl⟩
  rw [hpo]
  unfold parentP at hpo
  obtain ⟨ps, hps⟩ : ∃ ps, partsP s.data.toList = ps := ⟨_, rfl⟩
  rw [hps] at hg hlen hlen2 hpo
  have HG := Lib.hid hg
  have HP := Lib.hid hpo
  clear hg hps hs hpo
  go_enter Tryz.func79, Tryz.ntmps79
  go_wp2_with fail
  refine HG.out.mono ?_
  rintro e w1 ⟨v, D, rfl, ho, hu⟩
  obtain ⟨a, n, c, rfl, hl, hn, hc, -⟩ := id ho
  rw [List.length_map, Nat.mul_one] at hl
  subst hl
  unfold maxLen at hc
  have HU := Lib.hid (hu.mono (fun _ h => h) (fun b hb => by cases hb) : Upd w w1 [] [])
  by_cases h2 : ps.length < 2
  · have h2' : decide ((ps.length : Int) < 2) = true := decide_eq_true (by omega)
    have HL := Lib.hid (show po = none by rw [← HP.out, if_pos h2])
    clear ho hu h2 hlen hlen2 HP
    go_wp2_with fail
    go_ret2
    rw [HL.out]
    exact ⟨rfl, HU.out⟩
  have h2' : decide ((ps.length : Int) < 2) = false := decide_eq_false (by omega)
  have HL := Lib.hid (show po = some (ofP ps.dropLast) by rw [← HP.out, if_neg h2])
  have hp2 : 2 ≤ ps.length := by omega
  have hps200 : ps.length ≤ 200 := by have := sumS_len ps; omega
  obtain ⟨g, o, rfl, hgl, hcell⟩ := ownCells ho (by omega)
  have hsl := slice_take (P := Tryz.prog) (t := 29) Tryz.underlying29 hi0 ⟨g, o, none⟩ rfl ps.length c (ps.length - 1) (by omega) (by omega)
  have hw : wrap64 ((ps.length : Int) - 1) = ((ps.length - 1 : Nat) : Int) := by rw [IntWalk.wrap64_in _ (by omega)]; omega
  obtain ⟨E, hr, -⟩ := ho.read
  have hr2 := hr.takeK (k := ps.length - 1) (by omega)
  rw [Nat.mul_one, ← List.map_take, ← List.dropLast_eq_take] at hr2
  have HJ := Lib.hid (of_any _ ps.dropLast E w1 hr2 (by omega))
  clear ho hu h2 hlen hlen2 HP hcell hgl hr hr2
  go_wp2_with fail
  refine HJ.out.mono ?_
  rintro e w2 ⟨rfl, hu2⟩
  have HU2 := Lib.hid (HU.out.trans hu2)
  clear hu2 HJ
  go_wp2_with fail
  go_ret2
  rw [HL.out]
  exact ⟨rfl, HU2.out⟩
set_option maxRecDepth 100000 in
set_option maxHeartbeats 1000000 in
theorem name1_any (s : ByteArray) (w : World) (hs : s.size ≤ maxLen) :
    Calls Tryz.prog 81 #[.string s] w fun e w' => e = .returned (sv (nameP s.data.toList)) ∧ Upd w w' [] [] := by
  have hg := parts1_any s w hs
  obtain ⟨nm, hnm⟩ : ∃ nm, nameP s.data.toList = nm := ⟨_, rfl⟩
  rw [hnm]
  unfold nameP at hnm
  obtain ⟨ps, hps⟩ : ∃ ps, partsP s.data.toList = ps := ⟨_, rfl⟩
  rw [hps] at hg hnm
  have HG := Lib.hid hg
  have HN := Lib.hid hnm
  clear hg hps hs hnm
  go_enter Tryz.func81, Tryz.ntmps81
  go_wp2_with fail
  refine HG.out.mono ?_
  rintro e w1 ⟨v, D, rfl, ho, hu⟩
  obtain ⟨a, n, c, rfl, hl, hn, hc, -⟩ := id ho
  rw [List.length_map, Nat.mul_one] at hl
  subst hl
  unfold maxLen at hc
  have HU := Lib.hid (hu.mono (fun _ h => h) (fun b hb => by cases hb) : Upd w w1 [] [])
  by_cases h0 : ps.length = 0
  · have h2' : ((ps.length : Int) == 0) = true := by simp [h0]
    have HL := Lib.hid (show nm = [] by rw [← HN.out, List.length_eq_zero_iff.1 h0]; rfl)
    clear ho hu h0 HN
    go_wp2_with fail
    go_ret
    rw [HL.out]
    exact ⟨rfl, HU.out⟩
  have h2' : ((ps.length : Int) == 0) = false := by rw [beq_eq_false_iff_ne]; omega
  obtain ⟨g, o, rfl, hgl, hcell⟩ := ownCells ho (by omega)
  have hlx := List.getLast?_eq_getElem? (l := ps)
  obtain ⟨x, hx⟩ : ∃ x, ps[ps.length - 1]? = some x := ⟨_, List.getElem?_eq_getElem (by omega)⟩
  have hc0 := hcell (ps.length - 1) (sv x) (by rw [List.getElem?_map, hx]; rfl)
  have HL := Lib.hid (show nm = x by rw [← HN.out, hlx, hx])
  have hw : wrap64 ((ps.length : Int) - 1) = ((ps.length - 1 : Nat) : Int) := by rw [IntWalk.wrap64_in _ (by omega)]; omega
  clear ho hu hcell hlx HN hx
  go_wp2_with fail
  go_ret
  rw [HL.out]
  exact ⟨rfl, HU.out⟩
theorem digit_conv (w W : World) (d : Nat) (hd : d < 10) (x : Int) (hx : x = 48 + d) (c : UInt8) (hc : UInt8.ofNat (48 + d) = c) (hb : ∀ b ∈ [w.heap.size], W.heap[b]? = (w.alloc (.cells #[.int .u8 x] 5)).heap[b]?) :
    (convert 166 9 (.slice (some ⟨w.heap.size, 0, none⟩) 1 1)).run Tryz.prog W = .ok (.string ⟨#[c]⟩) W := by
  subst hc
  have hr := one_new w 1 (by decide) #[.int .u8 x] rfl 5
  have e : (#[Value.int .u8 x] : Array Value).toList = [UInt8.ofNat (48 + d)].map bv := by
    simp only [List.map_cons, List.map_nil]
    unfold bv
    rw [UInt8.toNat_ofNat', Nat.mod_eq_of_lt (by omega), hx]
    rfl
  rw [e] at hr
  exact conv_str (P := Tryz.prog) (src := 166) (dst := 9) Tryz.underlying166 Tryz.underlying5 Tryz.underlying9 hr W hb
set_option maxRecDepth 100000 in
set_option maxHeartbeats 2000000 in
theorem digits_any (N : Nat) : ∀ (n : Nat) (w : World), n < N → n < 18446744073709551616 →
    Calls Tryz.prog 135 #[.int .u64 (n : Int)] w fun e w' => e = .returned (sv (Lib.decDigits n)) ∧ Upd w w' [] [] := by
  induction N with
  | zero => intro n w h; omega
  | succ N ih =>
  intro n w hn hn64
  by_cases h10 : n < 10
  · obtain ⟨c, hc⟩ : ∃ c, UInt8.ofNat (48 + n) = c := ⟨_, rfl⟩
    have HD := Lib.hid (show Lib.decDigits n = [c] by rw [← hc]; exact Lib.decDigits_one h10)
    have hcv := digit_conv w (w.alloc (.cells #[.int .u8 (48 + (n : Int))] 5)) n h10 (48 + n) rfl c hc (fun _ _ => rfl)
    have q1 : decide ((n : Int) < 10) = true := decide_eq_true (by omega)
    clear ih hc
    go_enter Tryz.func135, Tryz.ntmps135
    go_wp2_with fail
    go_ret
    rw [HD.out]
    exact ⟨rfl, Upd.alloc0 _ _ _⟩
  have q1 : decide ((n : Int) < 10) = false := decide_eq_false (by omega)
  have hq : (n : Int) / 10 = ((n / 10 : Nat) : Int) := by omega
  have hr : (n : Int) % 10 = ((n % 10 : Nat) : Int) := by omega
  have IH := Lib.hid (fun w => ih (n / 10) w (by omega) (by omega))
  obtain ⟨d, hd⟩ : ∃ d, n % 10 = d := ⟨_, rfl⟩
  obtain ⟨m, hm⟩ : ∃ m, n / 10 = m := ⟨_, rfl⟩
  have hd9 : d < 10 := by omega
  obtain ⟨ss, hss⟩ : ∃ ss : ByteArray, ss = ⟨(Lib.decDigits m).toArray⟩ := ⟨_, rfl⟩
  have hssz : ss.size ≤ 20 := by
    rw [hss]
    show (Lib.decDigits m).toArray.size ≤ _
    rw [List.size_toArray]
    exact dec_len 19 m (by omega)
  obtain ⟨c, hc⟩ : ∃ c, UInt8.ofNat (48 + d) = c := ⟨_, rfl⟩
  have HF := Lib.hid (show Value.string (ss ++ ⟨#[c]⟩) = sv (Lib.decDigits n) by
    rw [Lib.decDigits, dif_neg h10, hm, hd, hc]
    refine congrArg Value.string (WideShapes.bytes_inj ?_)
    rw [hss]
    simp [ByteArray.data_append])
  rw [hm] at IH
  rw [hm] at hq
  rw [hd] at hr
  have HSS := Lib.hid (show sv (Lib.decDigits m) = .string ss by rw [hss]; rfl)
  have HCC := Lib.hid hc
  clear ih hss hm hd hc
  go_enter Tryz.func135, Tryz.ntmps135
  go_wp2_with fail
  refine wp_region_M (fun W => True) 10 (by kernel_rfl) ?_
  refine wpAnyM_take (by kernel_rfl) (by intro c a d v w h; cases d <;> exact h) [(0, false), (1, false), (3, false), (4, false), (5, false), (6, true)] (fuel := 5) (by kernel_rfl) ?_
  apply Exists.intro; refine ⟨?_, trivial, ?_⟩
  · iterate 6 ((first | (apply yieldN; (· (simp only [k_i, k_j, k_k]; try rfl)); (· rfl)) | ((first | apply yieldP | apply yieldL); (· (simp only [k_i, k_j, k_k]; try rfl)); (· rfl); (· (intros; go_simp; try with_reducible rfl)))); (· (simp only [Act.put, k_a, k_b, k_c]; try rfl)))
    exact rfl
  refine wpAnyM_each (fuel := 4) [2, 7] (by kernel_rfl) (by simp) (fun i hi => ?_)
  simp only [List.mem_cons, List.not_mem_nil, or_false] at hi
  rcases hi with rfl | rfl
  case' inl =>
    refine ⟨_, by rfl, fun K hK => ?_⟩
    go_wp2_with fail
    refine (IH.out w.drew).mono ?_
    rintro e w2 ⟨rfl, hu2⟩
    rw [HSS.out]
    have HU2 := Lib.hid hu2.drewL
    clear hu2
    go_wp2_with fail
    refine hK _ _ trivial ?_
    clear hK
    refine wpAnyM_one (fuel := 3) (i := 7) (by kernel_rfl) (by rfl) (fun K hK => ?_)
    have hcv := digit_conv w2 (w2.alloc (.cells #[.int .u8 (48 + (d : Int))] 5)) d hd9 (48 + (d : Int)) rfl c HCC.out (fun _ _ => rfl)
    have HU := Lib.hid (HU2.out.trans (Upd.alloc0 w2 (.cells #[.int .u8 (48 + (d : Int))] 5) []))
    go_wp2_with fail
    refine hK _ _ trivial ?_
    clear hK
    refine wpAnyM_one (fuel := 2) (i := 8) (by kernel_rfl) (by rfl) (fun K hK => ?_)
    go_wp2_with fail
    refine hK _ _ trivial ?_
    clear hK
  case' inr =>
    refine ⟨_, by rfl, fun K hK => ?_⟩
    go_wp2_with fail
    refine hK _ _ trivial ?_
    clear hK
    have hcv := fun W (hb : ∀ b ∈ [w.heap.size], W.heap[b]? = ((w.alloc (.cells #[.int .u8 (48 + (d : Int))] 5)).drew).heap[b]?) => digit_conv w W d hd9 (48 + (d : Int)) rfl c HCC.out hb
    have HU1 := Lib.hid ((Upd.alloc0 w (.cells #[.int .u8 (48 + (d : Int))] 5) []).drew)
    have hlt : w.heap.size < ((w.alloc (.cells #[.int .u8 (48 + (d : Int))] 5)).drew).heap.size := by show _ < (w.alloc _).heap.size; simp
    obtain ⟨w1, hw1⟩ : ∃ w1, w1 = (w.alloc (.cells #[.int .u8 (48 + (d : Int))] 5)).drew := ⟨_, rfl⟩
    try rw [hr]
    rw [← hw1] at hcv HU1 hlt ⊢
    clear hw1
    have HCV := Lib.hid hcv
    clear hcv
    refine wpAnyM_each (fuel := 3) [2, 8] (by kernel_rfl) (by simp) (fun i hi => ?_)
    simp only [List.mem_cons, List.not_mem_nil, or_false] at hi
    rcases hi with rfl | rfl
    case' inl =>
      refine ⟨_, by rfl, fun K hK => ?_⟩
      go_wp2_with fail
      refine (IH.out w1).mono ?_
      rintro e w2 ⟨rfl, hu2⟩
      rw [HSS.out]
      have HU := Lib.hid (HU1.out.trans hu2)
      have hcv := HCV.out w2 (fun b hb => by rw [List.mem_singleton] at hb; subst hb; exact hu2.keep _ hlt (by simp))
      clear hu2 hlt
      go_wp2_with fail
      refine hK _ _ trivial ?_
      clear hK
      refine wpAnyM_one (fuel := 2) (i := 8) (by kernel_rfl) (by rfl) (fun K hK => ?_)
      go_wp2_with fail
      refine hK _ _ trivial ?_
      clear hK
    case' inr =>
      refine ⟨_, by rfl, fun K hK => ?_⟩
      have hcv := HCV.out w1 (fun _ _ => rfl)
      go_wp2_with fail
      refine hK _ _ trivial ?_
      clear hK hcv
      refine wpAnyM_one (fuel := 2) (i := 2) (by kernel_rfl) (by rfl) (fun K hK => ?_)
      go_wp2_with fail
      refine (IH.out w1).mono ?_
      rintro e w2 ⟨rfl, hu2⟩
      rw [HSS.out]
      have HU := Lib.hid (HU1.out.trans hu2)
      clear hu2 hlt
      go_wp2_with fail
      refine hK _ _ trivial ?_
      clear hK
  all_goals
    have h63 : ¬ 9223372036854775807 < ss.size + 1 := by omega
    refine wpAnyM_take (by kernel_rfl) (by intro c a d v w h; cases d <;> exact h) [(9, false)] (fuel := 1) (by kernel_rfl) ?_
    apply Exists.intro; refine ⟨?_, trivial, ?_⟩
    · iterate 1 ((first | (apply yieldN; (· (simp only [k_i, k_j, k_k]; try rfl)); (· rfl)) | ((first | apply yieldP | apply yieldL); (· (simp only [k_i, k_j, k_k]; try rfl)); (· rfl); (· (intros; go_simp; try with_reducible rfl)))); (· (simp only [Act.put, k_a, k_b, k_c]; try rfl)))
      exact rfl
    refine wpAnyM_of_any _ _ _ _ (by decide) ?_
    refine wpAny_list [10] (fuel := 0) (by kernel_rfl) ?_
    simp only [List.filterMap_cons, List.filterMap_nil, k_i, k_j, k_k]
    go_wp2_with fail
    go_ret
    rw [HF.out]
    exact ⟨rfl, HU.out⟩
set_option maxRecDepth 100000 in
set_option maxHeartbeats 1000000 in
theorem number1_any (s : ByteArray) (n : Int) (w : World) (hs : s.size ≤ 100000) (hn0 : -9223372036854775808 ≤ n) (hn1 : n ≤ 9223372036854775807) :
    Calls Tryz.prog 104 #[.string s, .int .i64 n] w fun e w' => e = .returned (.tuple #[sv ((numberP s.data.toList n).getD []), .bool (numberP s.data.toList n).isSome]) ∧ Upd w w' [] [] := by
  have hsz : s.size = s.data.toList.length := by simp
  obtain ⟨po, hpo⟩ : ∃ po, numberP s.data.toList n = po := ⟨_, rfl⟩
  rw [hpo]
  unfold numberP at hpo
  have hg1 := good1_any s w (by unfold maxLen; omega)
  have hten : n ≤ 2147483647 → (Lib.decDigits n.toNat).length ≤ 10 := dec_ten
  have HP := Lib.hid hpo
  have HG := Lib.hid hg1
  clear hpo hg1 hsz
  go_enter Tryz.func104, Tryz.ntmps104
  go_wp2_with fail
  refine HG.out.mono ?_
  rintro e w1 ⟨rfl, hu1⟩
  have HU := Lib.hid hu1
  clear hu1 HG
  cases hg : goodP s.data.toList with
  | false =>
    have HL := Lib.hid (show po = none by rw [← HP.out, if_pos (.inl hg)])
    clear hg HP
    go_wp2_with fail
    go_ret2
    rw [HL.out]
    exact ⟨rfl, HU.out⟩
  | true =>
  by_cases hn : n < 0 ∨ 2147483647 < n
  · have HL := Lib.hid (show po = none by rw [← HP.out, if_pos (.inr hn)])
    clear hg HP
    rcases hn with h | h
    · have q1 : decide (n < 0) = true := decide_eq_true h
      go_wp2_with fail
      go_ret2
      rw [HL.out]
      exact ⟨rfl, HU.out⟩
    · have q1 : decide (n < 0) = false := decide_eq_false (by omega)
      have q2 : decide (2147483647 < n) = true := decide_eq_true h
      go_wp2_with fail
      go_ret2
      rw [HL.out]
      exact ⟨rfl, HU.out⟩
  have q1 : decide (n < 0) = false := decide_eq_false (by omega)
  have q2 : decide (2147483647 < n) = false := decide_eq_false (by omega)
  have hl10 := hten (by omega)
  have HPP := Lib.hid (show (if goodP (s.data.toList ++ padD n) = true then some (s.data.toList ++ padD n) else none) = po by rw [← HP.out, if_neg (c := goodP s.data.toList = false ∨ n < 0 ∨ 2147483647 < n) (by rw [hg]; rintro (h | h); cases h; exact hn h)])
  obtain ⟨N, rfl⟩ : ∃ N : Nat, n = N := ⟨n.toNat, by omega⟩
  rw [Int.toNat_natCast] at hl10
  have HI := Lib.hid (digits_any (N + 1) N w1 (by omega) (by omega))
  have hpd : padD (N : Int) = List.replicate (10 - (Lib.decDigits N).length) 48 ++ Lib.decDigits N := rfl
  have HPD := Lib.hid hpd
  clear hg HP hn hten hpd
  go_wp2_with fail
  refine HI.out.mono ?_
  rintro e w2 ⟨rfl, hu2⟩
  have HU2 := Lib.hid (HU.out.trans hu2)
  have HL10 := Lib.hid hl10
  clear hu2 HI HU hl10
  go_wp2_with fail
  go_loopg [6] (10 - (Lib.decDigits N).length) (fun k vd wr => ∃ p : Nat, p ≤ 10 - (Lib.decDigits N).length ∧ k = 10 - (Lib.decDigits N).length - p ∧ vd = sv (List.replicate p 48 ++ Lib.decDigits N) ∧ wr = w2)
  case atStart => exact ⟨0, Nat.zero_le _, rfl, rfl, rfl⟩
  case round =>
    obtain ⟨p, hp, hk, hvd, hW⟩ := hrel
    subst hW
    have hlen : (List.replicate p 48 ++ Lib.decDigits N).length = p + (Lib.decDigits N).length := by rw [List.length_append, List.length_replicate]
    obtain ⟨ds, hds⟩ : ∃ ds : ByteArray, ds = ⟨(List.replicate p 48 ++ Lib.decDigits N).toArray⟩ := ⟨_, rfl⟩
    have hdz : ds.size = p + (Lib.decDigits N).length := by
      rw [hds, ← hlen]
      show (List.replicate p 48 ++ Lib.decDigits N).toArray.size = _
      rw [List.size_toArray]
    obtain ⟨k0, hk0⟩ : ∃ k0, (Lib.decDigits N).length = k0 := ⟨_, rfl⟩
    have hl10 := HL10.out
    rw [hk0] at hdz hl10 hk hp
    unfold sv at hvd
    rw [← hds] at hvd
    subst hvd
    by_cases hlt : p + k0 < 10
    · have HN := Lib.hid (show Value.string ((⟨#[48]⟩ : ByteArray) ++ ds) = sv (List.replicate (p + 1) 48 ++ Lib.decDigits N) by
        refine congrArg Value.string (WideShapes.bytes_inj ?_)
        rw [hds]
        simp [ByteArray.data_append, List.replicate_succ])
      clear hds hlen
      go_wp2_with fail
      go_roundg (10 - (Lib.decDigits N).length - (p + 1))
      case rel => exact ⟨p + 1, by omega, rfl, HN.out, rfl⟩
      case measure => omega
    obtain rfl : p = 10 - k0 := by omega
    have hd10 : ds.size = 10 := by omega
    have HQ := Lib.hid (show (s ++ ds).data.toList = s.data.toList ++ padD N by
      rw [ByteArray.data_append, Array.toList_append, HPD.out, hds, hk0])
    obtain ⟨q, hq⟩ : ∃ q, s ++ ds = q := ⟨_, rfl⟩
    have hqz : q.size ≤ 100010 := by rw [← hq, ByteArray.size_append]; omega
    rw [hq] at HQ
    clear hds hlen hdz hk0
    have HGQ := Lib.hid (good1_any q wr (by unfold maxLen; omega))
    go_wp2_with fail
    refine HGQ.out.mono ?_
    rintro e w4 ⟨rfl, hu4⟩
    have HU4 := Lib.hid (HU2.out.trans hu4)
    clear hu4 HGQ
    rw [HQ.out]
    cases hg : goodP (s.data.toList ++ padD N) with
    | false =>
      have HL := Lib.hid (show po = none by rw [← HPP.out, hg]; rfl)
      clear hg HPP
      go_wp2_with fail
      go_ret2
      rw [HL.out]
      exact ⟨rfl, HU4.out⟩
    | true =>
      have HL := Lib.hid (show po = some q.data.toList by rw [← HPP.out, hg, HQ.out]; rfl)
      clear hg HPP
      go_wp2_with fail
      go_ret2
      rw [HL.out]
      exact ⟨rfl, HU4.out⟩
end Go.Proofs.YtjeaoopamebgjaaGreatDoor

namespace Go.Proofs.YtjeaoopamebgjaaGreatDoor
open Go.RowKit Go.Av
section
variable {w0 w : World} {b : Nat} {S : TreeS} {P P' : List PRow} {R : List Thing} {rows : List (Value × Bs)}
set_option maxRecDepth 100000 in
set_option maxHeartbeats 8000000 in
theorem orphan_any (h : Sep w0 w (ThPool w0 P :: ThRt b S P :: R) rows) (p : ByteArray) (hp : p.size ≤ 100000) (hr : RiseT S.l) (hok : ∀ e ∈ S.l, NodeOk e.2) (hn : S.l.length ≤ 100000) :
    Calls Tryz.prog 53 #[.pointer (some ⟨b, 0, none⟩), .string p] w (RtPost w0 b { S with l := atUp p.data.toList (fun m => remS m (nameP p.data.toList)) S.l } P R rows (.tuple #[])) := by
  have HX := Lib.hid h
  have HR := Lib.hid (show _ ∧ _ from ⟨hr, hok⟩)
  clear h hr hok
  go_enter Tryz.func53, Tryz.ntmps53
  go_wp2_with (first | (refine sWL ?_; simp only [Act.put, k_a, k_b, k_c, k_d, k_e, k_f, k_g, k_h, NodeS.cells, OpS.cells, ResS.cells]) | (refine sWM ?_; simp only [Act.put, k_a, k_b, k_c]) | ((first | refine sWS ?_ | refine sWT ?_); clear HX; intro w HX; simp only [Act.put, k_a, k_b, k_c, setMany, Nat.reduceAdd, NodeS.cells, OpS.cells, ResS.cells] at HX ⊢) | (refine sWA ?_; clear HX; (first | (have hq := b; clear hq; intro w b2 HX) | intro w b HX); simp only [Act.put, k_a, k_b, k_c]) | ((first | (refine sWN ?_; clear HX; intro w mm HX) | (refine sWP ?_; clear HX; intro w av nv cv HX)); simp only [Act.put, k_a, k_b, k_c]))
  refine (parent1_any p _ (by unfold maxLen; omega)).mono ?_
  cases hpa : parentP p.data.toList with
  | none =>
    rintro e w1 ⟨rfl, hu⟩
    replace HX := Lib.hid (HX.out.keep hu)
    have HA := Lib.hid (show atUp p.data.toList (fun m => remS m (nameP p.data.toList)) S.l = S.l by unfold atUp; rw [hpa])
    clear hu hpa
    dsimp only [Option.isSome, Option.getD]
    go_wp2_with (first | (refine sWL ?_; simp only [Act.put, k_a, k_b, k_c, k_d, k_e, k_f, k_g, k_h, NodeS.cells, OpS.cells, ResS.cells]) | (refine sWM ?_; simp only [Act.put, k_a, k_b, k_c]) | ((first | refine sWS ?_ | refine sWT ?_); clear HX; intro w HX; simp only [Act.put, k_a, k_b, k_c, setMany, Nat.reduceAdd, NodeS.cells, OpS.cells, ResS.cells] at HX ⊢) | (refine sWA ?_; clear HX; (first | (have hq := b; clear hq; intro w b2 HX) | intro w b HX); simp only [Act.put, k_a, k_b, k_c]) | ((first | (refine sWN ?_; clear HX; intro w mm HX) | (refine sWP ?_; clear HX; intro w av nv cv HX)); simp only [Act.put, k_a, k_b, k_c]))
    go_end0
    refine ⟨rfl, P, fun q hq => hq, ?_⟩
    rw [HA.out]
    exact HX.out
  | some up =>
    rintro e w1 ⟨rfl, hu⟩
    replace HX := Lib.hid (HX.out.keep hu)
    have HPA := Lib.hid hpa
    clear hu hpa
    dsimp only [Option.isSome, Option.getD]
    unfold sv
    go_wp2_with (first | (refine sWL ?_; simp only [Act.put, k_a, k_b, k_c, k_d, k_e, k_f, k_g, k_h, NodeS.cells, OpS.cells, ResS.cells]) | (refine sWM ?_; simp only [Act.put, k_a, k_b, k_c]) | ((first | refine sWS ?_ | refine sWT ?_); clear HX; intro w HX; simp only [Act.put, k_a, k_b, k_c, setMany, Nat.reduceAdd, NodeS.cells, OpS.cells, ResS.cells] at HX ⊢) | (refine sWA ?_; clear HX; (first | (have hq := b; clear hq; intro w b2 HX) | intro w b HX); simp only [Act.put, k_a, k_b, k_c]) | ((first | (refine sWN ?_; clear HX; intro w mm HX) | (refine sWP ?_; clear HX; intro w av nv cv HX)); simp only [Act.put, k_a, k_b, k_c]))
    refine (at10_any HX.out.up1 ⟨up.toArray⟩ hn).mono ?_
    unfold AtPost
    obtain ⟨hb, hhb⟩ : ∃ hb, hasS (keysT S) up = hb := ⟨_, rfl⟩
    have e1 : (⟨up.toArray⟩ : ByteArray).data.toList = up := rfl
    rw [e1, hhb]
    rintro e w ⟨rfl, hx⟩
    clear HX
    have HX := Lib.hid hx
    clear hx e1
    cases hb with
    | false =>
      have HA := Lib.hid (show atUp p.data.toList (fun m => remS m (nameP p.data.toList)) S.l = S.l by unfold atUp; rw [HPA.out]; dsimp only; rw [has_none HR.out.1 hhb])
      clear hhb
      go_wp2_with (first | (refine sWL ?_; simp only [Act.put, k_a, k_b, k_c, k_d, k_e, k_f, k_g, k_h, NodeS.cells, OpS.cells, ResS.cells]) | (refine sWM ?_; simp only [Act.put, k_a, k_b, k_c]) | ((first | refine sWS ?_ | refine sWT ?_); clear HX; intro w HX; simp only [Act.put, k_a, k_b, k_c, setMany, Nat.reduceAdd, NodeS.cells, OpS.cells, ResS.cells] at HX ⊢) | (refine sWA ?_; clear HX; (first | (have hq := b; clear hq; intro w b2 HX) | intro w b HX); simp only [Act.put, k_a, k_b, k_c]) | ((first | (refine sWN ?_; clear HX; intro w mm HX) | (refine sWP ?_; clear HX; intro w av nv cv HX)); simp only [Act.put, k_a, k_b, k_c]))
      go_end0
      refine ⟨rfl, P, fun q hq => hq, ?_⟩
      rw [HA.out]
      exact HX.out.up1
    | true =>
      obtain ⟨hk, h1, h2⟩ := has_look (rise_nodup HR.out.1) hhb
      have hps : placeS (keysT S) up = placeS (S.l.map (·.1)) up := rfl
      rw [hps]
      obtain ⟨k, hkk⟩ : ∃ k, placeS (S.l.map (·.1)) up = k := ⟨_, rfl⟩
      rw [hkk]
      have hk' : k < S.l.length := by rw [← hkk]; exact hk
      have h1' : S.l[k].1 = up := by simp only [← hkk]; exact h1
      have h2' : lookT up S.l = some S.l[k].2 := by simp only [← hkk]; exact h2
      have HA := Lib.hid (show atUp p.data.toList (fun m => remS m (nameP p.data.toList)) S.l = S.l.set k (S.l[k].1, remS S.l[k].2 (nameP p.data.toList)) by
        unfold atUp
        rw [HPA.out]
        dsimp only
        rw [h2', set_setT (rise_nodup HR.out.1) hk', h1'])
      have hno := HR.out.2 S.l[k] (List.getElem_mem hk')
      clear hk h1 h2 hps hkk hhb h1' h2'
      obtain ⟨a, m, c, xs, he, rfl, hS⟩ := rt_open HX.out
      obtain ⟨nv, hnv, hp1, hp2⟩ := he.parts hk'
      obtain ⟨nd, hnd⟩ : ∃ nd, S.l[k].2 = nd := ⟨_, rfl⟩
      rw [hnd] at hnv hp2 hno
      obtain ⟨E, hE⟩ := hS.up2.poolGet hnv
      obtain ⟨na, nn, nc, rfl, -⟩ := ReadRow.some hE
      obtain ⟨E2, hE2⟩ := own_read hS.up1
      obtain ⟨_, _, _, e, _, _, _, hne⟩ := ReadRow.some hE2
      simp only [Value.slice.injEq] at e
      obtain ⟨rfl, rfl, rfl⟩ := e
      obtain ⟨g, off, rfl⟩ := hne (by intro e; have e : xs = [] := e; rw [e] at hp1; cases hp1)
      clear HX
      have HX := Lib.hid hS
      have HE := Lib.hid (show _ ∧ _ ∧ _ ∧ _ ∧ _ from ⟨he, hnv, hp2, hno, hnd⟩)
      have hkc : k ≤ 100000 := by omega
      have hkl : (k < S.l.length) = True := eq_true hk'
      clear hS he hnv hp1 hp2 hE hE2 hne hno hnd
      go_wp2_with (first | (refine sWL ?_; simp only [Act.put, k_a, k_b, k_c, k_d, k_e, k_f, k_g, k_h, NodeS.cells, OpS.cells, ResS.cells]) | (refine sWM ?_; simp only [Act.put, k_a, k_b, k_c]) | ((first | refine sWS ?_ | refine sWT ?_); clear HX; intro w HX; simp only [Act.put, k_a, k_b, k_c, setMany, Nat.reduceAdd, NodeS.cells, OpS.cells, ResS.cells] at HX ⊢) | (refine sWA ?_; clear HX; (first | (have hq := b; clear hq; intro w b2 HX) | intro w b HX); simp only [Act.put, k_a, k_b, k_c]) | ((first | (refine sWN ?_; clear HX; intro w mm HX) | (refine sWP ?_; clear HX; intro w av nv cv HX)); simp only [Act.put, k_a, k_b, k_c]))
      refine wp_region_M (fun W => Sep w0 W (ThCell b (.cells #[.int .i64 S.room, .slice (some ⟨g, off, none⟩) S.l.length c] 69 (0, 0)) :: ThRow 11 (.slice (some ⟨g, off, none⟩) S.l.length c) xs :: ThPool w0 P :: R) rows) 19 (by kernel_rfl) ?_
      have KEEPX : ∀ W, Sep w0 W (ThCell b (.cells #[.int .i64 S.room, .slice (some ⟨g, off, none⟩) S.l.length c] 69 (0, 0)) :: ThRow 11 (.slice (some ⟨g, off, none⟩) S.l.length c) xs :: ThPool w0 P :: R) rows → Sep w0 W (ThCell b (.cells #[.int .i64 S.room, .slice (some ⟨g, off, none⟩) S.l.length c] 69 (0, 0)) :: ThRow 11 (.slice (some ⟨g, off, none⟩) S.l.length c) xs :: ThPool w0 P :: R) rows := fun _ h => h
      have hl : ∀ V, Sep w0 V (ThCell b (.cells #[.int .i64 S.room, .slice (some ⟨g, off, none⟩) S.l.length c] 69 (0, 0)) :: ThRow 11 (.slice (some ⟨g, off, none⟩) S.l.length c) xs :: ThPool w0 P :: R) rows → (Instr.loadAt 84 (.pointer (some ⟨g, off + k * 11 + 1, none⟩))).run Tryz.prog V = .ok (.agg (nd.cells (.slice na nn nc))) V := fun V hV => by
        obtain ⟨E, hE⟩ := own_read (Sep.up1 hV)
        exact row_part hE sn_rnode rfl (by simp [NodeS.cells]) HE.out.2.2.1
      replace HX := Lib.hid HX.out.drew
      refine wpAnyM_take (by kernel_rfl) (by intro c a d v w h; cases d <;> exact h) [(0, false), (1, false), (2, false), (3, true), (4, false), (5, false), (6, false), (7, false), (8, true), (9, false), (10, false), (11, false), (12, true), (13, false)] (fuel := 8) (by kernel_rfl) ?_
      apply Exists.intro; refine ⟨?_, HX.out, ?_⟩
      · iterate 14 (first | refine yE ?_ | ((first | apply yieldP | apply yieldL); (· (simp only [k_i, k_j, k_k]; try rfl)); (· rfl); (· (intros; go_simp; (try simp only [hkl, ↓reduceIte, and_self, Int.toNat_natCast]); try with_reducible rfl)); (· (simp only [Act.put, k_a, k_b, k_c, k_d, k_e, k_f, k_g, k_h, NodeS.cells, OpS.cells, ResS.cells]; try rfl))))
        exact rfl
      clear hl
      refine wpAnyM_one (fuel := 7) (i := 14) (by kernel_rfl) (by (simp only [k_i, k_j, k_k]; try rfl)) (fun K hK => ?_)
      go_wp2_with fail
      refine (name1_any p _ (by unfold maxLen; omega)).mono ?_
      rintro e w1 ⟨rfl, hu⟩
      replace HX := Lib.hid (HX.out.keep hu)
      clear hu
      go_wp2_with fail
      refine hK _ _ HX.out ?_
      clear hK
      refine wpAnyM_one (fuel := 6) (i := 15) (by kernel_rfl) (by (simp only [k_i, k_j, k_k]; try rfl)) (fun K hK => ?_)
      unfold sv
      go_wp2_with fail
      have hrm := remove10_any HX.out.up2 nd (.slice na nn nc) ⟨(nameP p.data.toList).toArray⟩ HE.out.2.1 HE.out.2.2.2.1
      refine hrm.mono ?_
      clear hrm
      have e2 : (⟨(nameP p.data.toList).toArray⟩ : ByteArray).data.toList = nameP p.data.toList := rfl
      unfold NodPost
      rw [e2]
      rintro e w2 ⟨nv2, P2, rfl, hP2, hnv2, hx⟩
      clear HX e2
      have HX := Lib.hid hx
      have HN := Lib.hid (show _ ∧ _ from ⟨hP2, hnv2⟩)
      have hsub : Sep w0 w2 (ThCell b (.cells #[.int .i64 S.room, .slice (some ⟨g, off, none⟩) S.l.length c] 69 (0, 0)) :: ThRow 11 (.slice (some ⟨g, off, none⟩) S.l.length c) xs :: ThPool w0 P :: R) rows := (hx.poolSub hP2).pm 3 [1, 2, 0] rfl rfl
      have HSU := Lib.hid hsub
      clear hx hP2 hnv2 hsub
      go_wp2_with fail
      refine hK _ _ HSU.out ?_
      clear hK
      refine wpAnyM_take (by kernel_rfl) (by intro c a d v w h; cases d <;> exact h) [(16, false), (17, false), (18, false)] (fuel := 3) (by kernel_rfl) ?_
      apply Exists.intro; refine ⟨?_, HSU.out, ?_⟩
      · iterate 3 (first | refine yE ?_ | ((first | apply yieldP | apply yieldL); (· (simp only [k_i, k_j, k_k]; try rfl)); (· rfl); (· (intros; go_simp; (try simp only [hkl, ↓reduceIte, and_self, Int.toNat_natCast]); try with_reducible rfl)); (· (simp only [Act.put, k_a, k_b, k_c, k_d, k_e, k_f, k_g, k_h, NodeS.cells, OpS.cells, ResS.cells]; try rfl))))
        exact rfl
      refine wpAnyM_of_any _ _ _ _ (by decide) ?_
      refine wpAny_list [19, 20, 21] (fuel := 0) (by kernel_rfl) ?_
      simp only [List.filterMap_cons, List.filterMap_nil, k_i, k_j, k_k]
      have h3 := HX.out.up2
      clear HX HSU
      have HX := Lib.hid h3
      clear h3
      obtain ⟨na2, nn2, nc2, rfl, hone⟩ : ∃ na2 nn2 nc2, nv2 = .slice na2 nn2 nc2 ∧ ∀ u ∈ ((remS nd (nameP p.data.toList)).cells nv2).toList, u.oneCell' = true := by
        obtain ⟨E, hE⟩ := Sep.poolGet HX.out.up1 HN.out.2
        obtain ⟨a3, n3, c3, h4, -⟩ := ReadRow.some hE
        have h4 : nv2 = .slice a3 n3 c3 := h4
        refine ⟨a3, n3, c3, h4, fun u hu => ?_⟩
        rw [h4] at hu
        simp only [NodeS.cells, List.mem_cons, List.not_mem_nil, or_false] at hu
        rcases hu with rfl | rfl | rfl | rfl | rfl | rfl | rfl | rfl | rfl | rfl <;> rfl
      go_step
      first
        | with_reducible apply sx_rowPut (i := k * 11 + 1) (vs := ((remS nd (nameP p.data.toList)).cells (.slice na2 nn2 nc2)).toList) HX
        | (go_step; with_reducible apply sx_rowPut (i := k * 11 + 1) (vs := ((remS nd (nameP p.data.toList)).cells (.slice na2 nn2 nc2)).toList) HX)
        | (go_step; go_step; with_reducible apply sx_rowPut (i := k * 11 + 1) (vs := ((remS nd (nameP p.data.toList)).cells (.slice na2 nn2 nc2)).toList) HX)
        | (go_step; go_step; go_step; with_reducible apply sx_rowPut (i := k * 11 + 1) (vs := ((remS nd (nameP p.data.toList)).cells (.slice na2 nn2 nc2)).toList) HX)
      · rfl
      · omega
      · show Value.agg _ = Value.agg _
        exact congrArg Value.agg Array.toArray_toList.symm
      · rfl
      · kernel_rfl
      · exact hone
      · show k * 11 + 1 + 10 ≤ S.l.length * 11
        omega
      clear HX
      intro w HX
      simp only [Act.put, k_a, k_b, k_c] at HX ⊢
      go_wp2_with (first | (refine sWL ?_; simp only [Act.put, k_a, k_b, k_c, k_d, k_e, k_f, k_g, k_h, NodeS.cells, OpS.cells, ResS.cells]) | (refine sWM ?_; simp only [Act.put, k_a, k_b, k_c]) | ((first | refine sWS ?_ | refine sWT ?_); clear HX; intro w HX; simp only [Act.put, k_a, k_b, k_c, setMany, Nat.reduceAdd, NodeS.cells, OpS.cells, ResS.cells] at HX ⊢) | (refine sWA ?_; clear HX; (first | (have hq := b; clear hq; intro w b2 HX) | intro w b HX); simp only [Act.put, k_a, k_b, k_c]) | ((first | (refine sWN ?_; clear HX; intro w mm HX) | (refine sWP ?_; clear HX; intro w av nv cv HX)); simp only [Act.put, k_a, k_b, k_c]))
      go_end0
      refine ⟨rfl, P2, HN.out.1, ?_⟩
      rw [HA.out, HE.out.2.2.2.2]
      have h5 := HX.out.up2
      rw [← show (S.l.set k (S.l[k].1, remS nd (nameP p.data.toList))).length = S.l.length from List.length_set ..] at h5
      exact (rt_shut (S := { S with l := S.l.set k (S.l[k].1, remS nd (nameP p.data.toList)) }) h5 ((HE.out.1.mono HN.out.1).setN hk' HN.out.2)).up1
end
end Go.Proofs.YtjeaoopamebgjaaGreatDoor

namespace Go.Proofs.YtjeaoopamebgjaaGreatDoor
open Go.RowKit Go.Av
section
variable {w0 w : World} {b : Nat} {S : TreeS} {P P' : List PRow} {R : List Thing} {rows : List (Value × Bs)}
def RtTwo (w0 : World) (b : Nat) (S : TreeS) (P : List PRow) (R : List Thing) (rows : List (Value × Bs)) (e : Ending) (w' : World) : Prop :=
  ∃ c, e = .returned (.pointer (some ⟨c, 0, none⟩)) ∧ Sep w0 w' (ThPool w0 P :: ThRt c S P :: ThRt b S P :: R) rows
set_option maxRecDepth 100000 in
set_option maxHeartbeats 4000000 in
theorem rtcopy_any (h : Sep w0 w (ThPool w0 P :: ThRt b S P :: R) rows) (hn : S.l.length ≤ 100000) :
    Calls Tryz.prog 45 #[.pointer (some ⟨b, 0, none⟩)] w (RtTwo w0 b S P R rows) := by
  obtain ⟨a, n, c, xs, he, rfl, hS⟩ := rt_open h.up1
  have hone := EntL.one h he
  have HX := Lib.hid hS
  have HE := Lib.hid (show _ ∧ _ from ⟨he, hone⟩)
  clear h hS he hone
  go_enter Tryz.func45, Tryz.ntmps45
  go_wp2_with (first | (refine sWL ?_; simp only [Act.put, k_a, k_b, k_c, k_d, k_e, k_f, k_g, k_h, NodeS.cells, OpS.cells, ResS.cells]) | (refine sWM ?_; simp only [Act.put, k_a, k_b, k_c]) | ((first | refine sWS ?_ | refine sWT ?_); clear HX; intro w HX; simp only [Act.put, k_a, k_b, k_c, setMany, Nat.reduceAdd, NodeS.cells, OpS.cells, ResS.cells] at HX ⊢) | (refine sWA ?_; clear HX; (first | (have hq := b4; clear hq; intro w b5 HX) | (have hq := b3; clear hq; intro w b4 HX) | (have hq := b2; clear hq; intro w b3 HX) | (have hq := b; clear hq; intro w b2 HX) | intro w b HX); simp only [Act.put, k_a, k_b, k_c]) | ((first | (refine sWN ?_; clear HX; intro w mm HX) | (refine sWP ?_; clear HX; intro w av nv cv HX)); simp only [Act.put, k_a, k_b, k_c]))
  refine wp_region_M (fun W => Sep w0 W (ThCell b (.cells #[.int .i64 S.room, .slice a S.l.length c] 69 (0, 0)) :: ThRow 11 (.slice a S.l.length c) xs :: ThPool w0 P :: R) rows) 12 (by kernel_rfl) ?_
  have KEEPX : ∀ W, Sep w0 W (ThCell b (.cells #[.int .i64 S.room, .slice a S.l.length c] 69 (0, 0)) :: ThRow 11 (.slice a S.l.length c) xs :: ThPool w0 P :: R) rows → Sep w0 W (ThCell b (.cells #[.int .i64 S.room, .slice a S.l.length c] 69 (0, 0)) :: ThRow 11 (.slice a S.l.length c) xs :: ThPool w0 P :: R) rows := fun _ h => h
  replace HX := Lib.hid HX.out.drew
  refine wpAnyM_take (by kernel_rfl) (by intro c a d v w h; cases d <;> exact h) [(0, false), (1, false), (2, false), (3, true), (5, false), (6, false), (7, false), (8, true)] (fuel := 5) (by kernel_rfl) ?_
  apply Exists.intro; refine ⟨?_, HX.out, ?_⟩
  · iterate 8 (refine yE ?_)
    exact rfl
  refine wpAnyM_one (fuel := 4) (i := 4) (by kernel_rfl) (by (simp only [k_i, k_j, k_k]; try rfl)) (fun K hK => ?_)    -- buildSlice
  go_wp2_with (first | (refine sWL ?_; simp only [Act.put, k_a, k_b, k_c, k_d, k_e, k_f, k_g, k_h, NodeS.cells, OpS.cells, ResS.cells]) | (refine sWM ?_; simp only [Act.put, k_a, k_b, k_c]) | ((first | refine sWS ?_ | refine sWT ?_); clear HX; intro w HX; simp only [Act.put, k_a, k_b, k_c, setMany, Nat.reduceAdd, NodeS.cells, OpS.cells, ResS.cells] at HX ⊢) | (refine sWA ?_; clear HX; (first | (have hq := b4; clear hq; intro w b5 HX) | (have hq := b3; clear hq; intro w b4 HX) | (have hq := b2; clear hq; intro w b3 HX) | (have hq := b; clear hq; intro w b2 HX) | intro w b HX); simp only [Act.put, k_a, k_b, k_c]) | ((first | (refine sWN ?_; clear HX; intro w mm HX) | (refine sWP ?_; clear HX; intro w av nv cv HX)); simp only [Act.put, k_a, k_b, k_c]) | (refine sx_lit0 HX sl_ent ?_; clear HX; intro w b3 HX; simp only [Act.put, k_a, k_b, k_c]))
  refine hK _ _ HX.out.drop ?_
  clear hK
  refine wpAnyM_one (fuel := 3) (i := 9) (by kernel_rfl) (by (simp only [k_i, k_j, k_k]; try rfl)) (fun K hK => ?_)
  obtain ⟨m, hm, hsrc⟩ := src_row HX sl_ent (ys := xs) (va := .slice a S.l.length c) (by (repeat (first | (with_reducible exact k_s) | (with_reducible apply k_m)))) HE.out.2
  have hxl := HE.out.1.len
  obtain rfl : m = S.l.length := by omega
  go_wp2_with (first | (refine sWL ?_; simp only [Act.put, k_a, k_b, k_c, k_d, k_e, k_f, k_g, k_h, NodeS.cells, OpS.cells, ResS.cells]) | (refine sWM ?_; simp only [Act.put, k_a, k_b, k_c]) | ((first | refine sWS ?_ | refine sWT ?_); clear HX; intro w HX; simp only [Act.put, k_a, k_b, k_c, setMany, Nat.reduceAdd, NodeS.cells, OpS.cells, ResS.cells] at HX ⊢) | (refine sWA ?_; clear HX; (first | (have hq := b4; clear hq; intro w b5 HX) | (have hq := b3; clear hq; intro w b4 HX) | (have hq := b2; clear hq; intro w b3 HX) | (have hq := b; clear hq; intro w b2 HX) | intro w b HX); simp only [Act.put, k_a, k_b, k_c]) | ((first | (refine sWN ?_; clear HX; intro w mm HX) | (refine sWP ?_; clear HX; intro w av nv cv HX)); simp only [Act.put, k_a, k_b, k_c]) | ((with_reducible apply sx_app HX); (· exact sl_ent); (· rfl); (· rfl); (· (repeat (first | (with_reducible exact Rem.here) | (with_reducible apply Rem.there)))); (· exact hsrc); (· (intro n hn; simp only [List.length_nil] at hn; omega)); clear HX; intro w av nv cv HX; simp only [Act.put, k_a, k_b, k_c]))
  refine hK _ _ HX.out.drop ?_
  clear hK hsrc hm
  have hnl : nv = S.l.length := by
    obtain ⟨_, _, _, e, hl, -, -⟩ := HX.out.rowLen
    simp only [Value.slice.injEq] at e
    obtain ⟨rfl, rfl, rfl⟩ := e
    rw [List.nil_append] at hl
    omega
  subst hnl
  refine wpAnyM_take (by kernel_rfl) (by intro c a d v w h; cases d <;> exact h) [(10, false)] (fuel := 2) (by kernel_rfl) ?_
  apply Exists.intro; refine ⟨?_, HX.out.drop, ?_⟩
  · iterate 1 (refine yE ?_)
    exact rfl
  refine wpAnyM_one (fuel := 1) (i := 11) (by kernel_rfl) (by (simp only [k_i, k_j, k_k]; try rfl)) (fun K hK => ?_)    -- box
  go_wp2_with (first | (refine sWL ?_; simp only [Act.put, k_a, k_b, k_c, k_d, k_e, k_f, k_g, k_h, NodeS.cells, OpS.cells, ResS.cells]) | (refine sWM ?_; simp only [Act.put, k_a, k_b, k_c]) | ((first | refine sWS ?_ | refine sWT ?_); clear HX; intro w HX; simp only [Act.put, k_a, k_b, k_c, setMany, Nat.reduceAdd, NodeS.cells, OpS.cells, ResS.cells] at HX ⊢) | (refine sWA ?_; clear HX; (first | (have hq := b4; clear hq; intro w b5 HX) | (have hq := b3; clear hq; intro w b4 HX) | (have hq := b2; clear hq; intro w b3 HX) | (have hq := b; clear hq; intro w b2 HX) | intro w b HX); simp only [Act.put, k_a, k_b, k_c]) | ((first | (refine sWN ?_; clear HX; intro w mm HX) | (refine sWP ?_; clear HX; intro w av nv cv HX)); simp only [Act.put, k_a, k_b, k_c]))
  refine hK _ _ HX.out.drop.drop ?_
  clear hK
  refine wpAnyM_of_any _ _ _ _ (by decide) ?_
  refine wpAny_list [12] (fuel := 0) (by kernel_rfl) ?_
  simp only [List.filterMap_cons, List.filterMap_nil, k_i, k_j, k_k]
  go_wp2_with (first | (refine sWL ?_; simp only [Act.put, k_a, k_b, k_c, k_d, k_e, k_f, k_g, k_h, NodeS.cells, OpS.cells, ResS.cells]) | (refine sWM ?_; simp only [Act.put, k_a, k_b, k_c]) | ((first | refine sWS ?_ | refine sWT ?_); clear HX; intro w HX; simp only [Act.put, k_a, k_b, k_c, setMany, Nat.reduceAdd, NodeS.cells, OpS.cells, ResS.cells] at HX ⊢) | (refine sWA ?_; clear HX; (first | (have hq := b4; clear hq; intro w b5 HX) | (have hq := b3; clear hq; intro w b4 HX) | (have hq := b2; clear hq; intro w b3 HX) | (have hq := b; clear hq; intro w b2 HX) | intro w b HX); simp only [Act.put, k_a, k_b, k_c]) | ((first | (refine sWN ?_; clear HX; intro w mm HX) | (refine sWP ?_; clear HX; intro w av nv cv HX)); simp only [Act.put, k_a, k_b, k_c]))
  go_ret
  have h1 := HX.out
  rw [List.nil_append] at h1
  have h2 := rt_shut h1 HE.out.1
  have h3 := rt_shut h2.up2.up2 HE.out.1
  exact ⟨b4, rfl, h3.up1.up2⟩
end
end Go.Proofs.YtjeaoopamebgjaaGreatDoor

namespace Go.Proofs.YtjeaoopamebgjaaGreatDoor
open Go.RowKit Go.Av
section
variable {w0 w : World} {b : Nat} {S : TreeS} {P P' : List PRow} {R : List Thing} {rows : List (Value × Bs)}
set_option maxRecDepth 100000 in
theorem fail10_any (h : Sep w0 w R rows) (e : Int) : Calls Tryz.prog 74 #[.int .i64 e] w fun e' w' => e' = .returned (.agg ((failS e).cells (.slice none 0 0))) ∧ Sep w0 w' R rows := by
  have HX := Lib.hid h
  clear h
  go_enter Tryz.func74, Tryz.ntmps74
  go_wp2_with (first | (refine sWL ?_; simp only [Act.put, k_a, k_b, k_c, k_d, k_e, k_f, k_g, k_h, NodeS.cells, OpS.cells, ResS.cells]) | (refine sWM ?_; simp only [Act.put, k_a, k_b, k_c]) | ((first | refine sWS ?_ | refine sWT ?_); clear HX; intro w HX; simp only [Act.put, k_a, k_b, k_c, setMany, Nat.reduceAdd, NodeS.cells, OpS.cells, ResS.cells] at HX ⊢) | (refine sWA ?_; clear HX; (first | (have hq := b; clear hq; intro w b2 HX) | intro w b HX); simp only [Act.put, k_a, k_b, k_c]) | ((first | (refine sWN ?_; clear HX; intro w mm HX) | (refine sWP ?_; clear HX; intro w av nv cv HX)); simp only [Act.put, k_a, k_b, k_c]))
  refine sx_ret HX rfl rfl (by (repeat (first | (with_reducible exact k_s) | (with_reducible apply k_m)))) (by kernel_rfl) ?_
  exact ⟨rfl, HX.out.drop⟩
def RofRel (w0 : World) (b : Nat) (a : Option Addr) (c : Nat) (xs : List Value) (S : TreeS) (R : List Thing) (rows : List (Value × Bs)) (sess : Int) (k : Nat) (v5 v6 : Value) (w : World) : Prop :=
  ∃ (i : Nat) (a2 : Option Addr) (n2 c2 : Nat), i + k = S.l.length ∧ v6 = .int .i64 (i : Int) ∧ v5 = .slice a2 n2 c2 ∧ Sep w0 w (ThRow 1 (.slice a2 n2 c2) ((ofT ⟨S.room, S.l.take i⟩ sess).map sv) :: ThCell b (.cells #[.int .i64 S.room, .slice a S.l.length c] 69 (0, 0)) :: ThRow 11 (.slice a S.l.length c) xs :: R) rows
def ROfPost (w0 : World) (b : Nat) (S : TreeS) (P : List PRow) (R : List Thing) (rows : List (Value × Bs)) (l : List Bs) (e : Ending) (w' : World) : Prop :=
  ∃ v, e = .returned v ∧ Sep w0 w' (ThRow 1 v (l.map sv) :: ThRt b S P :: R) rows
set_option maxRecDepth 100000 in
set_option maxHeartbeats 4000000 in
theorem rof_any (h : Sep w0 w (ThRt b S P :: R) rows) (sess : Int) (hn : S.l.length ≤ 100000) :
    Calls Tryz.prog 49 #[.pointer (some ⟨b, 0, none⟩), .int .i64 sess] w (ROfPost w0 b S P R rows (ofT S sess)) := by
  obtain ⟨a, n, c, xs, he, rfl, hS⟩ := rt_open h
  have HE := Lib.hid he
  have HN := Lib.hid hn
  have HST := Lib.hid (show RofRel w0 b a c xs S R rows sess S.l.length (.slice none 0 0) (.int .i64 (0 : Int)) w from ⟨0, none, 0, 0, by simp, rfl, rfl, hS.nilRow 1⟩)
  clear h hS he hn
  by_cases hz : 0 < sess
  case neg =>
    have q1 : decide (0 < sess) = false := decide_eq_false hz
    have HO := Lib.hid (show ofT S sess = [] by unfold ofT; rw [q1]; simp)
    clear hz
    obtain ⟨HX⟩ : Nonempty (Hid (Sep w0 w (ThCell b (.cells #[.int .i64 S.room, .slice a S.l.length c] 69 (0, 0)) :: ThRow 11 (.slice a S.l.length c) xs :: R) rows)) := by
      obtain ⟨i, a2, n2, c2, -, -, e1, hS⟩ := HST.out
      exact ⟨Lib.hid hS.drop⟩
    clear HST
    go_enter Tryz.func49, Tryz.ntmps49
    go_wp2_with (first | (refine sWL ?_; simp only [Act.put, k_a, k_b, k_c, k_d, k_e, k_f, k_g, k_h, NodeS.cells, OpS.cells, ResS.cells]) | (refine sWM ?_; simp only [Act.put, k_a, k_b, k_c]) | ((first | refine sWS ?_ | refine sWT ?_); clear HX; intro w HX; simp only [Act.put, k_a, k_b, k_c, setMany, Nat.reduceAdd, NodeS.cells, OpS.cells, ResS.cells] at HX ⊢) | (refine sWA ?_; clear HX; (first | (have hq := b; clear hq; intro w b2 HX) | intro w b HX); simp only [Act.put, k_a, k_b, k_c]) | ((first | (refine sWN ?_; clear HX; intro w mm HX) | (refine sWP ?_; clear HX; intro w av nv cv HX)); simp only [Act.put, k_a, k_b, k_c]))
    refine wp_loop_rounds 1 ?_
    rw [rounds_succ]
    by_cases hl0 : 0 < S.l.length
    case' pos => have q2 : decide (0 < S.l.length) = true := decide_eq_true hl0
    case' pos => have q3 : decide ((0 : Int) < (S.l.length : Int)) = true := decide_eq_true (by omega)
    case' neg => have q2 : decide (0 < S.l.length) = false := decide_eq_false hl0
    case' neg => have q3 : decide ((0 : Int) < (S.l.length : Int)) = false := decide_eq_false (by omega)
    all_goals
      go_wp2_with (first | (refine sWL ?_; simp only [Act.put, k_a, k_b, k_c, k_d, k_e, k_f, k_g, k_h, NodeS.cells, OpS.cells, ResS.cells]) | (refine sWM ?_; simp only [Act.put, k_a, k_b, k_c]) | ((first | refine sWS ?_ | refine sWT ?_); clear HX; intro w HX; simp only [Act.put, k_a, k_b, k_c, setMany, Nat.reduceAdd, NodeS.cells, OpS.cells, ResS.cells] at HX ⊢) | (refine sWA ?_; clear HX; (first | (have hq := b; clear hq; intro w b2 HX) | intro w b HX); simp only [Act.put, k_a, k_b, k_c]) | ((first | (refine sWN ?_; clear HX; intro w mm HX) | (refine sWP ?_; clear HX; intro w av nv cv HX)); simp only [Act.put, k_a, k_b, k_c]))
      go_ret
      refine ⟨_, rfl, ?_⟩
      rw [HO.out]
      exact Sep.nilRow 1 (rt_shut HX.out HE.out)
  case pos =>
    have q1 : decide (0 < sess) = true := decide_eq_true hz
    clear hz
    go_enter Tryz.func49, Tryz.ntmps49
    go_upto_region 3 with fail
    go_loopg [5, 6] S.l.length (fun k v5 v6 wr => RofRel w0 b a c xs S R rows sess k v5 v6 wr)
    case atStart => exact HST.out
    case round =>
      rename World => w
      obtain ⟨i, a2, n2, c2, hik, rfl, rfl, hS⟩ := hrel
      clear HST
      have HX := Lib.hid hS
      clear hS
      by_cases hlt : i < S.l.length
      case neg =>
        obtain rfl : i = S.l.length := by omega
        rw [List.take_length] at HX
        clear hlt hik
        go_wp2_with (first | (refine sWL ?_; simp only [Act.put, k_a, k_b, k_c, k_d, k_e, k_f, k_g, k_h, NodeS.cells, OpS.cells, ResS.cells]) | (refine sWM ?_; simp only [Act.put, k_a, k_b, k_c]) | ((first | refine sWS ?_ | refine sWT ?_); clear HX; intro w HX; simp only [Act.put, k_a, k_b, k_c, setMany, Nat.reduceAdd, NodeS.cells, OpS.cells, ResS.cells] at HX ⊢) | (refine sWA ?_; clear HX; (first | (have hq := b; clear hq; intro w b2 HX) | intro w b HX); simp only [Act.put, k_a, k_b, k_c]) | ((first | (refine sWN ?_; clear HX; intro w mm HX) | (refine sWP ?_; clear HX; intro w av nv cv HX)); simp only [Act.put, k_a, k_b, k_c]))
        go_ret
        exact ⟨_, rfl, (rt_shut HX.out.up2.up2 HE.out).up1⟩
      case pos =>
        obtain ⟨nv, -, hp1, hp2⟩ := HE.out.parts hlt
        obtain ⟨E, hE⟩ := own_read HX.out.up2
        obtain ⟨_, _, _, e, _, _, _, hne⟩ := ReadRow.some hE
        simp only [Value.slice.injEq] at e
        obtain ⟨rfl, rfl, rfl⟩ := e
        obtain ⟨g, off, rfl⟩ := hne (by intro e; have e : xs = [] := e; rw [e] at hp1; cases hp1)
        have HT := Lib.hid (take_of (sess := sess) hlt)
        have how : xs[i * 11 + 5]? = some (.int .i64 S.l[i].2.owner) := hp2 4 _ rfl
        obtain ⟨en, hen⟩ : ∃ en, S.l[i] = en := ⟨_, rfl⟩
        rw [hen] at HT hp1 how
        obtain ⟨ps, hps⟩ : ∃ ps : ByteArray, ps = ⟨en.1.toArray⟩ := ⟨_, rfl⟩
        have hpv : sv en.1 = .string ps := by rw [hps]; rfl
        rw [hpv] at hp1
        have hl := row_fld (P := Tryz.prog) (ty := 2) (i := i) (f := 5) hE (by kernel_rfl) how
        have hl2 := row_fld0 (P := Tryz.prog) (ty := 9) (i := i) hE (by kernel_rfl) hp1
        have HPV := Lib.hid hpv
        obtain ⟨zo, hzo⟩ : ∃ z, (en.2.owner == sess) = z := ⟨_, rfl⟩
        rw [q1, hzo] at HT
        have q0 : decide (i < S.l.length) = true := decide_eq_true hlt
        have q9 : i ≤ 100000 := by have := HN.out; omega
        have HBD := Lib.hid (show ∀ n, ((ofT ⟨S.room, S.l.take i⟩ sess).map sv).length = n * 1 → n + 1 ≤ 140737488355328 ∧ (n + 1) * 16 ≤ 140737488355328 from fun n hn => by
          have h1 : (ofT ⟨S.room, S.l.take i⟩ sess).length ≤ (S.l.take i).length := by unfold ofT; rw [List.length_map]; exact List.length_filter_le _ _
          rw [List.length_map] at hn
          rw [List.length_take] at h1
          omega)
        clear hE hp1 hp2 how hen hps hpv hne
        cases zo with
        | false =>
          go_wp2_with (first | (refine sWL ?_; simp only [Act.put, k_a, k_b, k_c, k_d, k_e, k_f, k_g, k_h, NodeS.cells, OpS.cells, ResS.cells]) | (refine sWM ?_; simp only [Act.put, k_a, k_b, k_c]) | ((first | refine sWS ?_ | refine sWT ?_); clear HX; intro w HX; simp only [Act.put, k_a, k_b, k_c, setMany, Nat.reduceAdd, NodeS.cells, OpS.cells, ResS.cells] at HX ⊢) | (refine sWA ?_; clear HX; (first | (have hq := b; clear hq; intro w b2 HX) | intro w b HX); simp only [Act.put, k_a, k_b, k_c]) | ((first | (refine sWN ?_; clear HX; intro w mm HX) | (refine sWP ?_; clear HX; intro w av nv cv HX)); simp only [Act.put, k_a, k_b, k_c]) | ((with_reducible apply sx_loadAt hl); (· rfl); (· rfl); simp only [Act.put, k_a, k_b, k_c]))
          go_roundg (S.l.length - (i + 1))
          case rel => exact ⟨i + 1, a2, n2, c2, by omega, by go_num, rfl, by rw [HT.out]; simpa using HX.out⟩
          case measure => omega
        | true =>
          go_wp2_with (first | (refine sWL ?_; simp only [Act.put, k_a, k_b, k_c, k_d, k_e, k_f, k_g, k_h, NodeS.cells, OpS.cells, ResS.cells]) | (refine sWM ?_; simp only [Act.put, k_a, k_b, k_c]) | ((first | refine sWS ?_ | refine sWT ?_); clear HX; intro w HX; simp only [Act.put, k_a, k_b, k_c, setMany, Nat.reduceAdd, NodeS.cells, OpS.cells, ResS.cells] at HX ⊢) | (refine sWA ?_; clear HX; (first | (have hq := b; clear hq; intro w b2 HX) | intro w b HX); simp only [Act.put, k_a, k_b, k_c]) | ((first | (refine sWN ?_; clear HX; intro w mm HX) | (refine sWP ?_; clear HX; intro w av nv cv HX)); simp only [Act.put, k_a, k_b, k_c]) | ((with_reducible apply sx_loadAt hl); (· rfl); (· rfl); simp only [Act.put, k_a, k_b, k_c]) | ((with_reducible apply sx_loadAt hl2); (· rfl); (· rfl); simp only [Act.put, k_a, k_b, k_c]))
          go_roundg (S.l.length - (i + 1))
          case rel =>
            refine ⟨i + 1, av, nv, cv, by omega, by go_num, rfl, ?_⟩
            rw [HT.out, List.map_append]
            have h1 := HX.out.cut1
            simp only [Bool.and_self, ↓reduceIte, List.map_cons, List.map_nil, HPV.out]
            exact h1
          case measure => omega
end
end Go.Proofs.YtjeaoopamebgjaaGreatDoor

namespace Go.Av
open Go.RowKit
theorem create_bad {S : TreeS} {o : OpS} {sess zxid e : Int} (h : (placeT S o).1 = e) (he : e ≠ 0) : createT S o sess zxid = (failS e, S) := by
  unfold createT
  rw [h, if_pos he]
theorem create_good {S : TreeS} {o : OpS} {sess zxid : Int} {q : Bs} (h : placeT S o = (0, q)) : createT S o sess zxid = (⟨0, ⟨q.toArray⟩, ⟨#[]⟩, [], (createN o sess zxid).st⟩, { S with l := layT q (createN o sess zxid) S.l }) := by
  unfold createT
  rw [h, if_neg (fun hh => hh rfl)]
theorem place_top {S : TreeS} {o : OpS} (h : parentP o.p = none) : placeT S o = endT S o.p := by
  unfold placeT
  rw [h]
theorem place_under {S : TreeS} {o : OpS} {up : Bs} {n : NodeS} (h : parentP o.p = some up) (hl : lookT up S.l = some n) (ho : n.owner = 0) : placeT S o = if seqF o.flags = true then (match numberP o.p n.next with | none => (1, []) | some q => endT S q) else endT S o.p := by
  unfold placeT
  rw [h]
  dsimp only
  rw [hl]
  dsimp only
  rw [if_neg (fun hh => hh ho)]
  rfl
theorem place_no {S : TreeS} {o : OpS} {up : Bs} (h : parentP o.p = some up) (hl : lookT up S.l = none) : placeT S o = (4, []) := by
  unfold placeT
  rw [h]
  dsimp only
  rw [hl]
theorem place_eph {S : TreeS} {o : OpS} {up : Bs} {n : NodeS} (h : parentP o.p = some up) (hl : lookT up S.l = some n) (ho : n.owner ≠ 0) : placeT S o = (8, []) := by
  unfold placeT
  rw [h]
  dsimp only
  rw [hl]
  dsimp only
  rw [if_pos ho]
theorem end_is {S : TreeS} {p : Bs} (hr : RiseT S.l) (h : hasS (S.l.map (·.1)) p = true) : endT S p = (5, []) := by
  obtain ⟨hk, -, h2⟩ := has_look (rise_nodup hr) h
  unfold endT
  rw [h2]
  exact if_pos rfl
theorem end_full {S : TreeS} {p : Bs} (hr : RiseT S.l) (h : hasS (S.l.map (·.1)) p = false) (hf : S.room ≤ S.l.length) : endT S p = (9, []) := by
  unfold endT
  rw [has_none hr h, if_neg (by simp), if_pos hf]
theorem end_ok {S : TreeS} {p : Bs} (hr : RiseT S.l) (h : hasS (S.l.map (·.1)) p = false) (hf : ¬ S.room ≤ S.l.length) : endT S p = (0, p) := by
  unfold endT
  rw [has_none hr h, if_neg (by simp), if_neg hf]
theorem top_seq {o : OpS} (hg : goodE o = 0) (h : parentP o.p = none) : seqF o.flags = false := by
  obtain ⟨-, -, -, h4⟩ := goodE_ok hg
  unfold numS at h4
  cases hs : seqF o.flags with
  | false => rfl
  | true =>
    rw [hs] at h4
    simp only [Bool.not_true, Bool.false_or, Bool.and_eq_true, decide_eq_true_eq] at h4
    unfold parentP at h
    rw [if_neg (by omega)] at h
    cases h
theorem seq_bitn {f : Int} (h0 : 0 ≤ f) (h3 : f ≤ 3) : (bits .and .i64 f 2 != 0) = seqF f := by
  rcases (show f = 0 ∨ f = 1 ∨ f = 2 ∨ f = 3 by omega) with rfl | rfl | rfl | rfl <;> decide
end Go.Av
namespace Go.Proofs.YtjeaoopamebgjaaGreatDoor
open Go.RowKit Go.Av
def RResPost (w0 : World) (b : Nat) (S : TreeS) (P : List PRow) (R : List Thing) (rows : List (Value × Bs)) (r : ResS) (e : Ending) (w' : World) : Prop :=
  ∃ nv P', e = .returned (.agg (r.cells nv)) ∧ (∀ q ∈ P, q ∈ P') ∧ (1, nv, r.names.map sv) ∈ P' ∧ Sep w0 w' (ThPool w0 P' :: ThRt b S P' :: R) rows
section
variable {w0 w : World} {b : Nat} {S : TreeS} {P P' : List PRow} {R : List Thing} {rows : List (Value × Bs)}
theorem rt_openAt (h : Sep w0 w (ThRt b S P :: ThPool w0 P :: R) rows) {k : Nat} (hk : k < S.l.length) : ∃ g off c xs na nn nc, EntL P S.l xs ∧ (1, Value.slice na nn nc, S.l[k].2.names.map sv) ∈ P ∧ (∀ j v, (S.l[k].2.cells (.slice na nn nc)).toList[j]? = some v → xs[k * 11 + 1 + j]? = some v) ∧
    Sep w0 w (ThCell b (.cells #[.int .i64 S.room, .slice (some ⟨g, off, none⟩) S.l.length c] 69 (0, 0)) :: ThRow 11 (.slice (some ⟨g, off, none⟩) S.l.length c) xs :: ThPool w0 P :: R) rows := by
  obtain ⟨a, m, c, xs, he, rfl, hS⟩ := rt_open h
  obtain ⟨nv, hnv, hp1, hp2⟩ := he.parts hk
  obtain ⟨E, hE⟩ := hS.up2.poolGet hnv
  obtain ⟨na, nn, nc, rfl, -⟩ := ReadRow.some hE
  obtain ⟨E2, hE2⟩ := own_read hS.up1
  obtain ⟨_, _, _, e, _, _, _, hne⟩ := ReadRow.some hE2
  simp only [Value.slice.injEq] at e
  obtain ⟨rfl, rfl, rfl⟩ := e
  obtain ⟨g, off, rfl⟩ := hne (by intro e; have e : xs = [] := e; rw [e] at hp1; cases hp1)
  exact ⟨g, off, c, xs, na, nn, nc, he, hnv, hp2, hS⟩
end
end Go.Proofs.YtjeaoopamebgjaaGreatDoor
