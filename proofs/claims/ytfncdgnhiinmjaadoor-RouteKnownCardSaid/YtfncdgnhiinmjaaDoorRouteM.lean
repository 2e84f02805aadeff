/-
  Routes: are two lists of lists alike?
-/
import Derived.Test.YtfncdgnhiinmjaaDoorRouteS
import Derived.Test.YtfncdgnhiinmjaaDoorRouteX
namespace Go.Av
open Go.RowKit
/-- Rows of numbers that are read. -/
def ReadII (w : World) (v : Value) (ls : List (List Int)) : Prop := ∃ vs E, ReadRow w 1 v vs E ∧ vs.length = ls.length ∧ ∀ (i : Nat) l, ls[i]? = some l → ∃ vi Ei, vs[i]? = some vi ∧ ReadRow w 1 vi (l.map ivv) Ei
theorem frozen_heap' {w W : World} (h : W.heap = w.heap) (a : Addr) : W.cell? a = w.cell? a := by unfold World.cell?; rw [h]
theorem ReadII.slice {w : World} {v : Value} {ls : List (List Int)} (h : ReadII w v ls) : ∃ a c, v = .slice a ls.length c ∧ ls.length ≤ c ∧ c ≤ maxLen := by
  obtain ⟨vs, E, hr, hl, -⟩ := h
  obtain ⟨a, n, c, rfl, hln, hn, hc, -⟩ := hr
  rw [Nat.mul_one, hl] at hln
  subst hln
  exact ⟨a, c, rfl, hn, hc⟩
end Go.Av
namespace Go.Proofs.YtfncdgnhiinmjaaDoor
open Go.RowKit Go.Av

theorem readII_at {w : World} {a : Option Addr} {n c : Nat} {ls : List (List Int)} (h : ReadII w (.slice a n c) ls) {i : Nat} {l : List Int} (hl : ls[i]? = some l) : ∃ x ai ci, a = some x ∧ x.spot = none ∧ w.cell? (x.add i) = some (.slice ai l.length ci) ∧ l.length ≤ ci ∧ ci ≤ maxLen ∧
    (0 < l.length → ∃ y, ai = some y ∧ y.spot = none ∧ ∀ (j : Nat) z, l[j]? = some z → w.cell? (y.add j) = some (.int .i64 z)) := by
  obtain ⟨vs, E, hr, hll, hrow⟩ := h
  obtain ⟨vi, Ei, hvi, hri⟩ := hrow i l hl
  obtain ⟨hn, hnc, hcm, hcell⟩ := row_cell hr
  have hil : i < vs.length := (List.getElem?_eq_some_iff.1 hvi).1
  obtain ⟨x, rfl, hs, hx⟩ := hcell (by omega)
  obtain ⟨ai, ni, ci, rfl, -⟩ := id hri
  obtain ⟨hni, hnci, hcmi, hcelli⟩ := row_cell hri
  rw [List.length_map] at hni
  subst hni
  refine ⟨x, ai, ci, rfl, hs, hx i _ hvi, hnci, hcmi, fun h0 => ?_⟩
  obtain ⟨y, rfl, hys, hy⟩ := hcelli h0
  exact ⟨y, rfl, hys, fun j z hz => hy j _ (by rw [List.getElem?_map, hz]; rfl)⟩

theorem take_eq' {α : Type} {l1 l2 : List α} {p : Nat} (h : l1.take p = l2.take p) (h1 : p < l1.length) (h2 : p < l2.length) (he : l1[p] = l2[p]) : l1.take (p + 1) = l2.take (p + 1) := by
  rw [List.take_succ_eq_append_getElem h1, List.take_succ_eq_append_getElem h2, h, he]

set_option maxRecDepth 100000 in
set_option maxHeartbeats 4000000 in
theorem places_any (v1 v2 : Value) (l1 l2 : List (List Int)) (w : World) (h1 : ReadII w v1 l1) (h2 : ReadII w v2 l2) :
    Calls Tryd.prog 19 #[v1, v2] w fun e w' => e = .returned (.bool (decide (l1 = l2))) ∧ Upd w w' [] [] := by
  obtain ⟨a1, c1, rfl, hn1, hm1⟩ := h1.slice
  obtain ⟨a2, c2, rfl, hn2, hm2⟩ := h2.slice
  unfold maxLen at hm1 hm2
  have HR := Lib.hid (show _ ∧ _ from ⟨h1, h2⟩)
  clear h1 h2
  by_cases hll : l1.length = l2.length
  case neg =>
    have hb : ((l1.length : Int) != (l2.length : Int)) = true := by simp; omega
    have HD := Lib.hid (show decide (l1 = l2) = false by simp; intro e; exact hll (by rw [e]))
    clear hll
    go_enter Tryd.func19, Tryd.ntmps19
    go_wp2_with fail
    go_ret
    rw [HD.out]
    exact ⟨rfl, Upd.refl _ _⟩
  have hb : ((l1.length : Int) != (l2.length : Int)) = false := by simp; omega
  have HLL := Lib.hid hll
  clear hll
  go_enter Tryd.func19, Tryd.ntmps19
  go_wp2_with fail
  go_loopg [5] l1.length (fun k i wr => ∃ p : Nat, p ≤ l1.length ∧ k = l1.length - p ∧ i = .int .i64 (p : Int) ∧ l1.take p = l2.take p ∧ wr.heap = w.heap ∧ Upd w wr [] [])
  case atStart => exact ⟨0, Nat.zero_le _, rfl, rfl, rfl, rfl, Upd.refl _ _⟩
  case round =>
    obtain ⟨p, hp, hk, hv, ht, hh, hu⟩ := hrel
    subst hv
    by_cases hlt : p < l1.length
    case neg =>
      obtain rfl : p = l1.length := by omega
      have HU := Lib.hid (show _ ∧ _ from ⟨ht, hu⟩)
      clear ht hu hh
      go_wp2_with fail
      go_ret
      obtain ⟨ht, hu⟩ := HU.out
      rw [List.take_length, HLL.out, List.take_length] at ht
      exact ⟨by simp [ht], hu⟩
    have hlt2 : p < l2.length := by rw [← HLL.out]; exact hlt
    obtain ⟨x1, b1, e1, rfl, hs1, hx1, hle1, hme1, hy1⟩ := readII_at HR.out.1 (List.getElem?_eq_getElem hlt)
    obtain ⟨x2, b2, e2, rfl, hs2, hx2, hle2, hme2, hy2⟩ := readII_at HR.out.2 (List.getElem?_eq_getElem hlt2)
    obtain ⟨u1, hu1⟩ : ∃ u, l1[p] = u := ⟨_, rfl⟩
    obtain ⟨u2, hu2⟩ : ∃ u, l2[p] = u := ⟨_, rfl⟩
    rw [hu1] at hx1 hle1 hy1
    rw [hu2] at hx2 hle2 hy2
    unfold maxLen at hme1 hme2
    have k1 := fun (W : World) (hW : W.heap = wr.heap) => (frozen_heap' (hW.trans hh) _).trans hx1
    have k2 := fun (W : World) (hW : W.heap = wr.heap) => (frozen_heap' (hW.trans hh) _).trans hx2
    have HT := Lib.hid (show _ ∧ _ ∧ _ ∧ _ ∧ _ from ⟨ht, hu1, hu2, hh, hu⟩)
    have HY := Lib.hid (show _ ∧ _ from ⟨hy1, hy2⟩)
    clear hx1 hx2 ht hu1 hu2 hh hu hy1 hy2
    obtain ⟨b, hbb⟩ : ∃ b, ((u1.length : Int) != (u2.length : Int)) = b := ⟨_, rfl⟩
    have HB := Lib.hid hbb
    go_wp2_with fail
    refine wp_region_M (fun W => W.heap = wr.heap) 11 (by kernel_rfl) ?_
    refine wpAnyM_take (by kernel_rfl) (by intro c a d v w h; cases d <;> exact h) [(0, false), (1, false), (2, false), (3, true), (4, false), (5, false), (6, false), (7, false), (8, true), (9, false), (10, false)] (fuel := 0) (by kernel_rfl) ?_
    apply Exists.intro; refine ⟨?_, rfl, ?_⟩
    · iterate 11 ((first | (apply yieldN; (· (simp only [List.getElem?_toArray, List.getElem?_cons_succ, List.getElem?_cons_zero]; try rfl)); (· rfl)) | ((first | apply yieldP | apply yieldL); (· (simp only [List.getElem?_toArray, List.getElem?_cons_succ, List.getElem?_cons_zero]; try rfl)); (· rfl); (· (intros; go_simp; try with_reducible rfl)))); (· (simp only [Act.put, List.setIfInBounds_toArray, List.set_cons_zero, List.set_cons_succ]; try rfl)))
      exact rfl
    refine wpAnyM_done (by kernel_rfl) ?_ _
    cases b with
    | true =>
      have hne : u1.length ≠ u2.length := fun e => by
        have := HB.out
        rw [e] at this
        simp at this
      have HNE := Lib.hid hne
      clear hne
      go_wp2_with fail
      go_ret
      obtain ⟨ht, hu1, hu2, hh, hu⟩ := HT.out
      refine ⟨?_, hu.drew⟩
      have : decide (l1 = l2) = false := by
        simp
        intro e
        subst e
        exact HNE.out (by rw [← hu1, ← hu2])
      rw [this]
      rfl
    | false =>
    have hul : u1.length = u2.length := by have := HB.out; simp at this; omega
    have HUL := Lib.hid hul
    clear hul hbb
    go_wp2_with fail
    obtain ⟨wq, hwq⟩ : ∃ z, z = wr.drew := ⟨_, rfl⟩
    have hqh : wq.heap = wr.heap := by rw [hwq]; rfl
    have HQ := Lib.hid (show wq.heap = w.heap ∧ Upd w wq [] [] by rw [hwq]; exact ⟨HT.out.2.2.2.1, HT.out.2.2.2.2.drew⟩)
    rw [← hwq]
    have kk1 := k1 wq hqh
    have kk2 := k2 wq hqh
    clear k1 k2 hwq hqh
    go_loopg [6] u1.length (fun k2 i wr2 => ∃ q : Nat, q ≤ u1.length ∧ k2 = u1.length - q ∧ i = .int .i64 (q : Int) ∧ u1.take q = u2.take q ∧ wr2.heap = w.heap ∧ Upd w wr2 [] [])
    case atStart => exact ⟨0, Nat.zero_le _, rfl, rfl, rfl, HQ.out.1, HQ.out.2⟩
    case round =>
      obtain ⟨q, hq, hk2, hv2, ht2, hh2, hu2'⟩ := hrel
      subst hv2
      have hx1 := (frozen_heap' (hh2.trans HQ.out.1.symm) _).trans kk1
      have hx2 := (frozen_heap' (hh2.trans HQ.out.1.symm) _).trans kk2
      by_cases hq1 : q < u1.length
      case neg =>
        obtain rfl : q = u1.length := by omega
        have HU := Lib.hid (show _ ∧ _ ∧ _ from ⟨ht2, hh2, hu2'⟩)
        clear ht2 hh2 hu2' kk1 kk2 HQ hx2
        go_wp2_with fail
        go_roundg (l1.length - (p + 1))
        case rel =>
          obtain ⟨ht2, hh2, hu2'⟩ := HU.out
          rw [List.take_length, HUL.out, List.take_length] at ht2
          exact ⟨p + 1, by omega, rfl, by go_num, take_eq' HT.out.1 hlt hlt2 (by rw [HT.out.2.1, HT.out.2.2.1, ht2]), hh2, hu2'⟩
        case measure => omega
      have hq2 : q < u2.length := by rw [← HUL.out]; exact hq1
      obtain ⟨⟨yb1, yo1, ysp1⟩, rfl, hsp1, hy1⟩ := HY.out.1 (by omega)
      obtain ⟨⟨yb2, yo2, ysp2⟩, rfl, hsp2, hy2⟩ := HY.out.2 (by omega)
      dsimp only at hsp1 hsp2
      subst hsp1 hsp2
      have z1 := hy1 q _ (List.getElem?_eq_getElem hq1)
      have z2 := hy2 q _ (List.getElem?_eq_getElem hq2)
      rw [Addr.add_lit] at z1 z2
      have j1 := fun (W : World) (hW : W.heap = wr.heap) => (frozen_heap' (hW.trans hh2) _).trans z1
      have j2 := fun (W : World) (hW : W.heap = wr.heap) => (frozen_heap' (hW.trans hh2) _).trans z2
      have i1 := fun (W : World) (hW : W.heap = wr.heap) => (frozen_heap' hW _).trans hx1
      have i2 := fun (W : World) (hW : W.heap = wr.heap) => (frozen_heap' hW _).trans hx2
      obtain ⟨n1, hn1'⟩ : ∃ u, u1[q] = u := ⟨_, rfl⟩
      obtain ⟨n2, hn2'⟩ : ∃ u, u2[q] = u := ⟨_, rfl⟩
      rw [hn1'] at j1
      rw [hn2'] at j2
      have HT2 := Lib.hid (show _ ∧ _ ∧ _ ∧ _ ∧ _ from ⟨ht2, hn1', hn2', hh2, hu2'⟩)
      clear hy1 hy2 z1 z2 ht2 hn1' hn2' hh2 hu2' kk1 kk2 hx2
      obtain ⟨b, hbb⟩ : ∃ b, (n1 != n2) = b := ⟨_, rfl⟩
      have HB2 := Lib.hid hbb
      go_wp2_with fail
      refine wp_region_M (fun W => W.heap = wr.heap) 15 (by kernel_rfl) ?_
      refine wpAnyM_take (by kernel_rfl) (by intro c a d v w h; cases d <;> exact h) [(0, false), (1, false), (2, false), (3, true), (4, false), (5, false), (6, true), (7, false), (8, false), (9, false), (10, true), (11, false), (12, false), (13, true), (14, false)] (fuel := 0) (by kernel_rfl) ?_
      apply Exists.intro; refine ⟨?_, rfl, ?_⟩
      · iterate 15 ((first | (apply yieldN; (· (simp only [List.getElem?_toArray, List.getElem?_cons_succ, List.getElem?_cons_zero]; try rfl)); (· rfl)) | ((first | apply yieldP | apply yieldL); (· (simp only [List.getElem?_toArray, List.getElem?_cons_succ, List.getElem?_cons_zero]; try rfl)); (· rfl); (· (intros; go_simp; try with_reducible rfl)))); (· (simp only [Act.put, List.setIfInBounds_toArray, List.set_cons_zero, List.set_cons_succ]; try rfl)))
        exact rfl
      refine wpAnyM_done (by kernel_rfl) ?_ _
      cases b with
      | true =>
        have hne : n1 ≠ n2 := by simpa using HB2.out
        have HNE := Lib.hid hne
        clear hne
        go_wp2_with fail
        go_ret
        obtain ⟨-, hu1, hu2, -, -⟩ := HT.out
        obtain ⟨-, hn1, hn2, -, hu⟩ := HT2.out
        refine ⟨?_, hu.drew⟩
        have : decide (l1 = l2) = false := by
          simp
          intro e
          subst e
          have e12 : u1 = u2 := hu1.symm.trans hu2
          subst e12
          exact HNE.out (hn1.symm.trans hn2)
        rw [this]
        rfl
      | false =>
        have heq : n1 = n2 := by simpa using HB2.out
        have HEQ := Lib.hid heq
        clear heq
        go_wp2_with fail
        go_roundg (u1.length - (q + 1))
        case rel =>
          obtain ⟨ht2, hn1, hn2, hh2, hu⟩ := HT2.out
          exact ⟨q + 1, by omega, rfl, by go_num, take_eq' ht2 hq1 hq2 (by rw [hn1, hn2, HEQ.out]), hh2, hu.drew⟩
        case measure => omega
end Go.Proofs.YtfncdgnhiinmjaaDoor
