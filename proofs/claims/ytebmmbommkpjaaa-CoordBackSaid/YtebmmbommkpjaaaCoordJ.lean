/-
  The statements of layer 20: what they share: same, same64, awake.
-/
import Derived.Test.YtebmmbommkpjaaaCoordI
namespace Go.Proofs.Ytebmmbommkpjaaa
open Go.RowKit Go.Av

theorem frozen_heap {w W : World} (h : W.heap = w.heap) (a : Addr) : W.cell? a = w.cell? a := by unfold World.cell?; rw [h]
theorem take_eq {l1 l2 : List Int} {p : Nat} (h : l1.take p = l2.take p) (h1 : p < l1.length) (h2 : p < l2.length) (he : l1[p] = l2[p]) : l1.take (p + 1) = l2.take (p + 1) := by
  rw [List.take_succ_eq_append_getElem h1, List.take_succ_eq_append_getElem h2, h, he]

set_option maxRecDepth 100000 in
set_option maxHeartbeats 1000000 in
theorem same_any (v1 v2 : Value) (l1 l2 : List Int) (E1 E2 : List Nat) (w : World) (h1 : ReadRow w 1 v1 (l1.map iv) E1) (h2 : ReadRow w 1 v2 (l2.map iv) E2) :
    Calls Try.prog 15 #[v1, v2] w fun e w' => e = .returned (.bool (decide (l1 = l2))) ∧ Upd w w' [] [] := by
  obtain ⟨a1, n1, c1, rfl, -⟩ := id h1
  obtain ⟨hn1, hnc1, hcm1, hcell1⟩ := row_cell h1
  obtain ⟨a2, n2, c2, rfl, -⟩ := id h2
  obtain ⟨hn2, hnc2, hcm2, hcell2⟩ := row_cell h2
  rw [List.length_map] at hn1 hn2
  subst hn1
  subst hn2
  unfold maxLen at hcm1 hcm2
  have HC1 := Lib.hid hcell1
  have HC2 := Lib.hid hcell2
  clear hcell1 hcell2 h1 h2
  by_cases hll : l1.length = l2.length
  case neg =>
    have hb : ((l1.length : Int) != (l2.length : Int)) = true := by simp; omega
    have HD := Lib.hid (show decide (l1 = l2) = false by simp; intro e; exact hll (by rw [e]))
    clear hll
    go_enter Try.func15, Try.ntmps15
    go_wp2_with fail
    go_ret
    rw [HD.out]
    exact ⟨rfl, Upd.refl _ _⟩
  have hb : ((l1.length : Int) != (l2.length : Int)) = false := by simp; omega
  have HLL := Lib.hid hll
  clear hll
  go_enter Try.func15, Try.ntmps15
  go_wp2_with fail
  go_loopg [5] l1.length (fun k i wr => ∃ p : Nat, p ≤ l1.length ∧ k = l1.length - p ∧ i = .int .i64 (p : Int) ∧ l1.take p = l2.take p ∧ wr.heap = w.heap ∧ Upd w wr [] [])
  case atStart => exact ⟨0, Nat.zero_le _, rfl, rfl, rfl, rfl, Upd.refl _ _⟩
  case round =>
    obtain ⟨p, hp, hk, hv, ht, hh, hu⟩ := hrel
    subst hv
    by_cases hlt : p < l1.length
    · have hlt2 : p < l2.length := by rw [← HLL.out]; exact hlt
      obtain ⟨x1, rfl, hs1, hx1⟩ := HC1.out (by omega)
      obtain ⟨x2, rfl, hs2, hx2⟩ := HC2.out (by omega)
      have k1 := fun (W : World) (hW : W.heap = wr.heap) => (frozen_heap (hW.trans hh) _).trans (hx1 p (iv l1[p]) (by rw [List.getElem?_map, List.getElem?_eq_getElem hlt]; rfl))
      have k2 := fun (W : World) (hW : W.heap = wr.heap) => (frozen_heap (hW.trans hh) _).trans (hx2 p (iv l2[p]) (by rw [List.getElem?_map, List.getElem?_eq_getElem hlt2]; rfl))
      obtain ⟨u1, hu1⟩ : ∃ u, l1[p] = u := ⟨_, rfl⟩
      obtain ⟨u2, hu2⟩ : ∃ u, l2[p] = u := ⟨_, rfl⟩
      rw [hu1] at k1
      rw [hu2] at k2
      unfold iv at k1 k2
      have HT := Lib.hid (show _ ∧ _ ∧ _ ∧ _ ∧ _ from ⟨ht, hu1, hu2, hh, hu⟩)
      clear hx1 hx2 ht hu1 hu2 hh hu
      obtain ⟨b, hbb⟩ : ∃ b, (u1 != u2) = b := ⟨_, rfl⟩
      have HB := Lib.hid hbb
      go_wp2_with fail
      refine wp_region_M (fun W => W.heap = wr.heap) 9 (by kernel_rfl) ?_
      refine wpAnyM_take (by kernel_rfl) (by intro c a d v w h; cases d <;> exact h) [(0, false), (1, false), (2, false), (3, true), (4, false), (5, false), (6, false), (7, true), (8, false)] (fuel := 0) (by kernel_rfl) ?_
      apply Exists.intro; refine ⟨?_, rfl, ?_⟩
      · iterate 9 ((first | (apply yieldN; (· (simp only [List.getElem?_toArray, List.getElem?_cons_succ, List.getElem?_cons_zero]; try rfl)); (· rfl)) | ((first | apply yieldP | apply yieldL); (· (simp only [List.getElem?_toArray, List.getElem?_cons_succ, List.getElem?_cons_zero]; try rfl)); (· rfl); (· (intros; go_simp; try with_reducible rfl)))); (· (simp only [Act.put, List.setIfInBounds_toArray, List.set_cons_zero, List.set_cons_succ]; try rfl)))
        exact rfl
      refine wpAnyM_done (by kernel_rfl) ?_ _
      cases b with
      | true =>
        have hne : u1 ≠ u2 := by simpa using HB.out
        have HNE := Lib.hid hne
        clear hne
        go_wp2_with fail
        go_ret
        obtain ⟨ht, hu1, hu2, hh, hu⟩ := HT.out
        refine ⟨?_, hu.drew⟩
        have : decide (l1 = l2) = false := by
          simp
          intro e
          subst e
          exact HNE.out (hu1.symm.trans hu2)
        rw [this]
        rfl
      | false =>
        have heq : u1 = u2 := by simpa using HB.out
        have HEQ := Lib.hid heq
        clear heq
        go_wp2_with fail
        go_roundg (l1.length - (p + 1))
        case rel =>
          obtain ⟨ht, hu1, hu2, hh, hu⟩ := HT.out
          exact ⟨p + 1, by omega, rfl, by go_num, take_eq ht hlt hlt2 (by rw [hu1, hu2, HEQ.out]), hh, hu.drew⟩
        case measure => omega
    · obtain rfl : p = l1.length := by omega
      have HU := Lib.hid (show _ ∧ _ from ⟨ht, hu⟩)
      clear ht hu hh
      go_wp2_with fail
      go_ret
      obtain ⟨ht, hu⟩ := HU.out
      rw [List.take_length, HLL.out, List.take_length] at ht
      exact ⟨by simp [ht], hu⟩

set_option maxRecDepth 100000 in
set_option maxHeartbeats 1000000 in
theorem same64_any (v1 v2 : Value) (l1 l2 : List Int) (E1 E2 : List Nat) (w : World) (h1 : ReadRow w 1 v1 (l1.map iv) E1) (h2 : ReadRow w 1 v2 (l2.map iv) E2) :
    Calls Try.prog 29 #[v1, v2] w fun e w' => e = .returned (.bool (decide (l1 = l2))) ∧ Upd w w' [] [] := by
  obtain ⟨a1, n1, c1, rfl, -⟩ := id h1
  obtain ⟨hn1, hnc1, hcm1, hcell1⟩ := row_cell h1
  obtain ⟨a2, n2, c2, rfl, -⟩ := id h2
  obtain ⟨hn2, hnc2, hcm2, hcell2⟩ := row_cell h2
  rw [List.length_map] at hn1 hn2
  subst hn1
  subst hn2
  unfold maxLen at hcm1 hcm2
  have HC1 := Lib.hid hcell1
  have HC2 := Lib.hid hcell2
  clear hcell1 hcell2 h1 h2
  by_cases hll : l1.length = l2.length
  case neg =>
    have hb : ((l1.length : Int) != (l2.length : Int)) = true := by simp; omega
    have HD := Lib.hid (show decide (l1 = l2) = false by simp; intro e; exact hll (by rw [e]))
    clear hll
    go_enter Try.func29, Try.ntmps29
    go_wp2_with fail
    go_ret
    rw [HD.out]
    exact ⟨rfl, Upd.refl _ _⟩
  have hb : ((l1.length : Int) != (l2.length : Int)) = false := by simp; omega
  have HLL := Lib.hid hll
  clear hll
  go_enter Try.func29, Try.ntmps29
  go_wp2_with fail
  go_loopg [5] l1.length (fun k i wr => ∃ p : Nat, p ≤ l1.length ∧ k = l1.length - p ∧ i = .int .i64 (p : Int) ∧ l1.take p = l2.take p ∧ wr.heap = w.heap ∧ Upd w wr [] [])
  case atStart => exact ⟨0, Nat.zero_le _, rfl, rfl, rfl, rfl, Upd.refl _ _⟩
  case round =>
    obtain ⟨p, hp, hk, hv, ht, hh, hu⟩ := hrel
    subst hv
    by_cases hlt : p < l1.length
    · have hlt2 : p < l2.length := by rw [← HLL.out]; exact hlt
      obtain ⟨x1, rfl, hs1, hx1⟩ := HC1.out (by omega)
      obtain ⟨x2, rfl, hs2, hx2⟩ := HC2.out (by omega)
      have k1 := fun (W : World) (hW : W.heap = wr.heap) => (frozen_heap (hW.trans hh) _).trans (hx1 p (iv l1[p]) (by rw [List.getElem?_map, List.getElem?_eq_getElem hlt]; rfl))
      have k2 := fun (W : World) (hW : W.heap = wr.heap) => (frozen_heap (hW.trans hh) _).trans (hx2 p (iv l2[p]) (by rw [List.getElem?_map, List.getElem?_eq_getElem hlt2]; rfl))
      obtain ⟨u1, hu1⟩ : ∃ u, l1[p] = u := ⟨_, rfl⟩
      obtain ⟨u2, hu2⟩ : ∃ u, l2[p] = u := ⟨_, rfl⟩
      rw [hu1] at k1
      rw [hu2] at k2
      unfold iv at k1 k2
      have HT := Lib.hid (show _ ∧ _ ∧ _ ∧ _ ∧ _ from ⟨ht, hu1, hu2, hh, hu⟩)
      clear hx1 hx2 ht hu1 hu2 hh hu
      obtain ⟨b, hbb⟩ : ∃ b, (u1 != u2) = b := ⟨_, rfl⟩
      have HB := Lib.hid hbb
      go_wp2_with fail
      refine wp_region_M (fun W => W.heap = wr.heap) 9 (by kernel_rfl) ?_
      refine wpAnyM_take (by kernel_rfl) (by intro c a d v w h; cases d <;> exact h) [(0, false), (1, false), (2, false), (3, true), (4, false), (5, false), (6, false), (7, true), (8, false)] (fuel := 0) (by kernel_rfl) ?_
      apply Exists.intro; refine ⟨?_, rfl, ?_⟩
      · iterate 9 ((first | (apply yieldN; (· (simp only [List.getElem?_toArray, List.getElem?_cons_succ, List.getElem?_cons_zero]; try rfl)); (· rfl)) | ((first | apply yieldP | apply yieldL); (· (simp only [List.getElem?_toArray, List.getElem?_cons_succ, List.getElem?_cons_zero]; try rfl)); (· rfl); (· (intros; go_simp; try with_reducible rfl)))); (· (simp only [Act.put, List.setIfInBounds_toArray, List.set_cons_zero, List.set_cons_succ]; try rfl)))
        exact rfl
      refine wpAnyM_done (by kernel_rfl) ?_ _
      cases b with
      | true =>
        have hne : u1 ≠ u2 := by simpa using HB.out
        have HNE := Lib.hid hne
        clear hne
        go_wp2_with fail
        go_ret
        obtain ⟨ht, hu1, hu2, hh, hu⟩ := HT.out
        refine ⟨?_, hu.drew⟩
        have : decide (l1 = l2) = false := by
          simp
          intro e
          subst e
          exact HNE.out (hu1.symm.trans hu2)
        rw [this]
        rfl
      | false =>
        have heq : u1 = u2 := by simpa using HB.out
        have HEQ := Lib.hid heq
        clear heq
        go_wp2_with fail
        go_roundg (l1.length - (p + 1))
        case rel =>
          obtain ⟨ht, hu1, hu2, hh, hu⟩ := HT.out
          exact ⟨p + 1, by omega, rfl, by go_num, take_eq ht hlt hlt2 (by rw [hu1, hu2, HEQ.out]), hh, hu.drew⟩
        case measure => omega
    · obtain rfl : p = l1.length := by omega
      have HU := Lib.hid (show _ ∧ _ from ⟨ht, hu⟩)
      clear ht hu hh
      go_wp2_with fail
      go_ret
      obtain ⟨ht, hu⟩ := HU.out
      rw [List.take_length, HLL.out, List.take_length] at ht
      exact ⟨by simp [ht], hu⟩

theorem read_cells (w : World) (cs : Array Value) (T : TypeId) (fr : Nat × Nat) (h : cs.size ≤ 1000) : ReadRow (w.alloc (.cells cs T fr)) 1 (.slice (some ⟨w.heap.size, 0, none⟩) cs.size cs.size) cs.toList [w.heap.size] :=
  ⟨_, cs.size, cs.size, rfl, by simp, Nat.le_refl _, by unfold maxLen; omega, by simp, .inr ⟨w.heap.size, 0, rfl, rfl, by simp, fun i x hx => by
    rw [cell_of_row _ _ _ _ _ _ (heap_alloc_new w (.cells cs T fr)), Nat.zero_add, ← Array.getElem?_toList]; exact hx⟩⟩

def aS1 : CoS := [(1, newE [0, 1])]
def aS2 : CoS := [(1, { newE [0, 1] with votes := [1, 0] })]
def aS3 : CoS := [(1, { newE [0, 1] with votes := [1, 1], dec := 1 })]
theorem aB1 : beginS [] 1 [0, 1] = (0, aS1) := by rfl
theorem aB2 : voteS aS1 1 0 true = (0, aS2) := by rfl
theorem aB3 : voteS aS2 1 1 true = (0, aS3) := by rfl
theorem aB4 : decS aS2 1 = (false, false) := by rfl
theorem aB5 : decS aS3 1 = (true, true) := by rfl
theorem aB6 : owesS aS3 1 = [0, 1] := by rfl
theorem aB7 : openSt aS3 = [1] := by
  have : keysS aS3 = [1] := by simp [keysS, aS3]
  unfold openSt
  rw [this]
  rfl

set_option maxRecDepth 100000 in
set_option maxHeartbeats 1000000 in
theorem awake20_any (w : World) : Calls Try.prog 10 #[] w fun e w' => e = .returned (.bool true) ∧ Upd w w' [] [] := by
  go_enter Try.func10, Try.ntmps10
  go_wp2_with fail
  refine (new_coord (Sep.start w)).mono ?_
  rintro e w1 ⟨c, rfl, H⟩
  go_wp2_with fail
  have hr1 : ReadRow (w1.alloc (.cells #[.int .i64 0, .int .i64 1] 3 (0, 0))) 1 (.slice (some ⟨w1.heap.size, 0, none⟩) 2 2) (([0, 1] : List Int).map iv) [w1.heap.size] := read_cells w1 #[.int .i64 0, .int .i64 1] 3 (0, 0) (by decide)
  have hb := begin_any (H.keep (Upd.alloc0 w1 _ [])) 1 _ [0, 1] _ (by decide) hr1
  rw [aB1] at hb
  refine hb.mono ?_
  clear H hr1 hb
  rintro e w2 ⟨rfl, H⟩
  go_wp2_with fail
  have hv := vote_any H 1 0 true
  rw [aB2] at hv
  refine hv.mono ?_
  clear H hv
  rintro e w3 ⟨rfl, H⟩
  go_wp2_with fail
  have hv := decision_any H 1
  rw [aB4] at hv
  refine hv.mono ?_
  clear H hv
  rintro e w4 ⟨rfl, H⟩
  go_wp2_with fail
  have hv := vote_any H 1 1 true
  rw [aB3] at hv
  refine hv.mono ?_
  clear H hv
  rintro e w5 ⟨rfl, H⟩
  go_wp2_with fail
  have hv := decision_any H 1
  rw [aB5] at hv
  refine hv.mono ?_
  clear H hv
  rintro e w6 ⟨rfl, H⟩
  have HH := Lib.hid H
  clear H
  go_wp2_with fail
  have hv := owes_any HH.out 1
  rw [aB6] at hv
  refine hv.mono ?_
  clear hv
  rintro e w7 ⟨v7, D7, rfl, ho, hu⟩
  obtain ⟨E7, hr7, -⟩ := ho.read
  have H7 := Lib.hid (HH.out.keep hu)
  have HR7 := Lib.hid hr7
  clear ho hu hr7
  go_wp2_with fail
  have hr8 : ReadRow (w7.alloc (.cells #[.int .i64 0, .int .i64 1] 3 (0, 0))) 1 (.slice (some ⟨w7.heap.size, 0, none⟩) 2 2) (([0, 1] : List Int).map iv) [w7.heap.size] := read_cells w7 #[.int .i64 0, .int .i64 1] 3 (0, 0) (by decide)
  refine (same_any _ _ [0, 1] [0, 1] E7 _ _ (HR7.out.frame ((Upd.alloc0 w7 _ []).same HR7.out.lt (by simp))) hr8).mono ?_
  clear hr8
  rintro e w8 ⟨rfl, hu⟩
  have H8 := Lib.hid ((H7.out.keep (Upd.alloc0 w7 _ [])).keep hu)
  clear hu
  go_wp2_with fail
  have hv := open_coord H8.out (by decide)
  rw [aB7] at hv
  refine hv.mono ?_
  clear hv
  rintro e w9 ⟨v9, rfl, H⟩
  obtain ⟨D9, ho, -⟩ := H.row
  obtain ⟨E9, hr9, -⟩ := ho.read
  have H9 := Lib.hid H
  have HR9 := Lib.hid hr9
  clear H ho hr9
  go_wp2_with fail
  have hr8 : ReadRow (w9.alloc (.cells #[.int .i64 1] 2 (0, 0))) 1 (.slice (some ⟨w9.heap.size, 0, none⟩) 1 1) (([1] : List Int).map iv) [w9.heap.size] := read_cells w9 #[.int .i64 1] 2 (0, 0) (by decide)
  refine (same64_any _ _ [1] [1] E9 _ _ (HR9.out.frame ((Upd.alloc0 w9 _ []).same HR9.out.lt (by simp))) hr8).mono ?_
  clear hr8
  rintro e w10 ⟨rfl, hu⟩
  have HB := Lib.hid ((H9.out.keep (Upd.alloc0 w9 _ [])).keep hu).below
  clear hu
  go_wp2_with fail
  go_ret
  exact ⟨rfl, Upd.of_below HB.out⟩
end Go.Proofs.Ytebmmbommkpjaaa
