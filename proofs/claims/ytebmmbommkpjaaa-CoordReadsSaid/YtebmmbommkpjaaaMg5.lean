/-
  Texts of this claim, laid together.
-/
import Derived.Test.YtebmmbommkpjaaaMg4
import Derived.Deep.DeepCutAuto
import Derived.Laws.BitsAllLaws

/-
  The document's own reader, numbers alone: the walks.
-/
namespace Go.Proofs.Ytebmmbommkpjaaa
open Go.RowKit Go.Av

/-- The document's reader at r: of the bytes B, which v says and which lie in E, it has read k. -/
def RdFAt (w : World) (r : Nat) (v : Value) (T : TypeId) (E : List Nat) (B : Bs) (k : Nat) (bad : Bool) : Prop :=
  w.heap[r]? = some (.cells #[v, .int .i64 (k : Int), .bool bad] T (0, 0)) ∧ ReadRow w 1 v (B.map bv) E ∧ (∀ x ∈ E, x ≠ r) ∧ k ≤ B.length
section
variable {w : World} {r : Nat} {v : Value} {T : TypeId} {E : List Nat} {B : Bs} {k : Nat} {bad : Bool}
theorem RdFAt.frame {w' : World} (h : RdFAt w r v T E B k bad) (hs : w'.heap = w.heap) : RdFAt w' r v T E B k bad := by
  obtain ⟨h1, h2, h3, h4⟩ := h
  exact ⟨by rw [hs]; exact h1, h2.frame (fun b _ => by rw [hs]), h3, h4⟩
def rdAbs (B : Bs) (k : Nat) (bad : Bool) : Rd := if bad then ([], true) else (B.drop k, false)
/-- What is left behind a call. -/
def RdFPost (w : World) (r : Nat) (v : Value) (T : TypeId) (E : List Nat) (B : Bs) (d : Rd) (ret : Ending) (e : Ending) (w' : World) : Prop := e = ret ∧ ∃ k bad, RdFAt w' r v T E B k bad ∧ rdAbs B k bad = d ∧ Upd w w' [r] [r]
theorem RdFAt.spoil (h : RdFAt w r v T E B k bad) : w.frozen? ⟨r, 2, none⟩ = false ∧ RdFAt (w.setCell ⟨r, 2, none⟩ (.bool true)) r v T E B k true ∧ Upd w (w.setCell ⟨r, 2, none⟩ (.bool true)) [r] [r] := by
  obtain ⟨h1, h2, h3, h4⟩ := h
  exact ⟨frz_of h1 2, ⟨heap_setCell_same w r 2 _ T (.bool true) h1, h2.frame (fun b hb => heap_setCell_other _ _ _ _ (fun e => h3 b hb e)), h3, h4⟩, Upd.set1 _ _ _ _ (by simp)⟩
theorem RdFAt.on (h : RdFAt w r v T E B k bad) (k' : Nat) (hk : k' ≤ B.length) : w.frozen? ⟨r, 1, none⟩ = false ∧ RdFAt (w.setCell ⟨r, 1, none⟩ (.int .i64 (k' : Int))) r v T E B k' bad ∧ Upd w (w.setCell ⟨r, 1, none⟩ (.int .i64 (k' : Int))) [r] [r] := by
  obtain ⟨h1, h2, h3, h4⟩ := h
  exact ⟨frz_of h1 1, ⟨heap_setCell_same w r 1 _ T (.int .i64 (k' : Int)) h1, h2.frame (fun b hb => heap_setCell_other _ _ _ _ (fun e => h3 b hb e)), h3, hk⟩, Upd.set1 _ _ _ _ (by simp)⟩
theorem RdFAt.cells (h : RdFAt w r v T E B k bad) : ∃ a c, B.length ≤ c ∧ c ≤ maxLen ∧ k ≤ B.length ∧ w.cell? ⟨r, 0, none⟩ = some (.slice a B.length c) ∧ w.cell? ⟨r, 1, none⟩ = some (.int .i64 (k : Int)) ∧ w.cell? ⟨r, 2, none⟩ = some (.bool bad) ∧
    (0 < B.length → ∃ x : Addr, a = some x ∧ x.spot = none ∧ ∀ (i : Nat) (h : i < B.length), w.cell? (x.add i) = some (bv B[i])) ∧ ∃ E, ReadRow w 1 (.slice a B.length c) (B.map bv) E := by
  obtain ⟨h1, h2, h3, h4⟩ := h
  obtain ⟨a, n, c, rfl, -⟩ := id h2
  obtain ⟨hn, hnc, hcm, hcell⟩ := row_cell h2
  rw [List.length_map] at hn
  subst hn
  refine ⟨a, c, hnc, hcm, h4, cell_of h1 0 rfl, cell_of h1 1 rfl, cell_of h1 2 rfl, fun h0 => ?_, E, h2⟩
  obtain ⟨x, rfl, hs, hx⟩ := hcell h0
  exact ⟨x, rfl, hs, fun i hi => hx i _ (by rw [List.getElem?_map, List.getElem?_eq_getElem hi]; rfl)⟩
end

theorem frozen_heap2 {w W : World} (h : W.heap = w.heap) (a : Addr) : W.cell? a = w.cell? a := by unfold World.cell?; rw [h]
theorem i64R_bad : i64R ([], true) = (0, [], true) := rfl
theorem rdAbs_true (B : Bs) (k : Nat) : rdAbs B k true = ([], true) := rfl
theorem rdAbs_false (B : Bs) (k : Nat) : rdAbs B k false = (B.drop k, false) := rfl

set_option maxRecDepth 100000 in
set_option maxHeartbeats 1000000 in
theorem rdf_i64 (r : Nat) (v : Value) (T : TypeId) (E : List Nat) (B : Bs) (k : Nat) (bad : Bool) (w : World) (h : RdFAt w r v T E B k bad) :
    Calls Try.prog 54 #[.pointer (some ⟨r, 0, none⟩)] w (RdFPost w r v T E B (i64R (rdAbs B k bad)).2 (.returned (.int .i64 (i64R (rdAbs B k bad)).1))) := by
  obtain ⟨a, c, hlc, hcm, hkB, c0, c1, c2, hel, -⟩ := h.cells
  unfold maxLen at hcm
  obtain ⟨y2, -⟩ := h.spoil
  have H := Lib.hid h
  have HE := Lib.hid hel
  clear h hel
  cases bad with
  | true =>
    go_enter Try.func54, Try.ntmps54
    go_wp2_with fail
    refine wp_region_M (fun W => W.cell? ⟨r, 0, none⟩ = some (.slice a B.length c) ∧ W.cell? ⟨r, 1, none⟩ = some (.int .i64 (k : Int)) ∧ W.cell? ⟨r, 2, none⟩ = some (.bool true)) 17 (by kernel_rfl) ?_
    refine wpAnyM_take (by kernel_rfl) (by intro c a d v w h; cases d <;> exact h) [(0, false), (1, false), (2, false), (3, true), (4, false), (5, false), (6, false), (7, false), (8, true), (9, false), (10, false), (11, false), (12, false), (13, true), (14, false), (15, false), (16, false)] (fuel := 0) (by kernel_rfl) ?_
    apply Exists.intro; refine ⟨?_, ⟨c0, c1, c2⟩, ?_⟩
    · iterate 17 ((first | (apply yieldN; (· (simp only [List.getElem?_toArray, List.getElem?_cons_succ, List.getElem?_cons_zero]; try rfl)); (· rfl)) | ((first | apply yieldP | apply yieldL); (· (simp only [List.getElem?_toArray, List.getElem?_cons_succ, List.getElem?_cons_zero]; try rfl)); (· rfl); (· (intros; go_simp; try with_reducible rfl)))); (· (simp only [Act.put, List.setIfInBounds_toArray, List.set_cons_zero, List.set_cons_succ]; try rfl)))
      exact rfl
    refine wpAnyM_done (by kernel_rfl) ?_ _
    go_wp2_with fail
    go_ret
    obtain ⟨-, h1, h2⟩ := (H.out.frame (w' := w.drew) rfl).spoil
    exact ⟨rfl, _, _, h1, rfl, (Upd.refl w [r]).drew.trans h2⟩
  | false =>
  obtain ⟨m, hm⟩ : ∃ m, B.length = k + m := ⟨B.length - k, by omega⟩
  have hw : IntKind.i64.wrap ((B.length : Int) - (k : Int)) = (m : Int) := by rw [IntWalk.i64_in _ (by omega)]; omega
  by_cases h8 : m < 8
  · have h8' : (m : Int) < 8 := by omega
    have HR := Lib.hid (show i64R (rdAbs B k false) = (0, [], true) by rw [rdAbs_false]; unfold i64R; rw [if_pos (by rw [List.length_drop]; omega)])
    clear hm
    go_enter Try.func54, Try.ntmps54
    go_wp2_with fail
    refine wp_region_M (fun W => W.cell? ⟨r, 0, none⟩ = some (.slice a B.length c) ∧ W.cell? ⟨r, 1, none⟩ = some (.int .i64 (k : Int)) ∧ W.cell? ⟨r, 2, none⟩ = some (.bool false)) 17 (by kernel_rfl) ?_
    refine wpAnyM_take (by kernel_rfl) (by intro c a d v w h; cases d <;> exact h) [(0, false), (1, false), (2, false), (3, true), (4, false), (5, false), (6, false), (7, false), (8, true), (9, false), (10, false), (11, false), (12, false), (13, true), (14, false), (15, false), (16, false)] (fuel := 0) (by kernel_rfl) ?_
    apply Exists.intro; refine ⟨?_, ⟨c0, c1, c2⟩, ?_⟩
    · iterate 17 ((first | (apply yieldN; (· (simp only [List.getElem?_toArray, List.getElem?_cons_succ, List.getElem?_cons_zero]; try rfl)); (· rfl)) | ((first | apply yieldP | apply yieldL); (· (simp only [List.getElem?_toArray, List.getElem?_cons_succ, List.getElem?_cons_zero]; try rfl)); (· rfl); (· (intros; go_simp; try with_reducible rfl)))); (· (simp only [Act.put, List.setIfInBounds_toArray, List.set_cons_zero, List.set_cons_succ]; try rfl)))
      exact rfl
    refine wpAnyM_done (by kernel_rfl) ?_ _
    go_wp2_with fail
    go_ret
    obtain ⟨-, h1, h2⟩ := (H.out.frame (w' := w.drew) rfl).spoil
    rw [HR.out]
    exact ⟨rfl, _, _, h1, rfl, (Upd.refl w [r]).drew.trans h2⟩
  have h8' : ¬ (m : Int) < 8 := by omega
  have hk8 : k + 8 ≤ B.length := by omega
  have HR := Lib.hid (show i64R (rdAbs B k false) = (rdI (B.drop k), B.drop (k + 8), false) by
    rw [rdAbs_false]; unfold i64R; rw [if_neg (by rw [List.length_drop]; omega)]; simp [List.drop_drop])
  obtain ⟨x, rfl, hxs, hx⟩ := HE.out (by omega)
  have HX := Lib.hid hx
  obtain ⟨y1, -⟩ := H.out.on (k + 8) hk8
  have hm8 : 8 ≤ m := by omega
  have HM := Lib.hid hm
  clear hx h8 hm
  go_enter Try.func54, Try.ntmps54
  go_wp2_with fail
  refine wp_region_M (fun W => W.cell? ⟨r, 0, none⟩ = some (.slice (some x) B.length c) ∧ W.cell? ⟨r, 1, none⟩ = some (.int .i64 (k : Int)) ∧ W.cell? ⟨r, 2, none⟩ = some (.bool false)) 17 (by kernel_rfl) ?_
  refine wpAnyM_take (by kernel_rfl) (by intro c a d v w h; cases d <;> exact h) [(0, false), (1, false), (2, false), (3, true), (4, false), (5, false), (6, false), (7, false), (8, true), (9, false), (10, false), (11, false), (12, false), (13, true), (14, false), (15, false), (16, false)] (fuel := 0) (by kernel_rfl) ?_
  apply Exists.intro; refine ⟨?_, ⟨c0, c1, c2⟩, ?_⟩
  · iterate 17 ((first | (apply yieldN; (· (simp only [List.getElem?_toArray, List.getElem?_cons_succ, List.getElem?_cons_zero]; try rfl)); (· rfl)) | ((first | apply yieldP | apply yieldL); (· (simp only [List.getElem?_toArray, List.getElem?_cons_succ, List.getElem?_cons_zero]; try rfl)); (· rfl); (· (intros; go_simp; try with_reducible rfl)))); (· (simp only [Act.put, List.setIfInBounds_toArray, List.set_cons_zero, List.set_cons_succ]; try rfl)))
    exact rfl
  refine wpAnyM_done (by kernel_rfl) ?_ _
  go_wp2_with fail
  go_loopg [3, 4] 8 (fun g s i wr => ∃ m : Nat, m ≤ 8 ∧ g = 8 - m ∧ i = .int .i64 m ∧ s = .int .u64 (rdFold ((B.drop k).take m)) ∧ wr.heap = w.heap ∧ Upd w wr [] [])
  case atStart => exact ⟨0, by omega, rfl, rfl, rfl, rfl, (Upd.refl w []).drew⟩
  case round =>
    obtain ⟨j, hj, hk, rfl, rfl, hh, hu⟩ := hrel
    have k0 := (frozen_heap2 hh _).trans c0
    have k1 := (frozen_heap2 hh _).trans c1
    by_cases hlt : j < 8
    · have hjB : k + j < B.length := by have := HM.out; omega
      have kx := (frozen_heap2 hh _).trans (HX.out (k + j) hjB)
      have hgd : (B.drop k)[j]? = some B[k + j] := by rw [List.getElem?_drop, List.getElem?_eq_getElem hjB]
      unfold bv at kx
      obtain ⟨u, hu8⟩ : ∃ u, B[k + j] = u := ⟨_, rfl⟩
      rw [hu8] at kx hgd
      obtain ⟨xv, hxv⟩ : ∃ xv : Nat, xv = u.toNat := ⟨_, rfl⟩
      have hxl : xv < 256 := by rw [hxv]; exact UInt8.toNat_lt _
      rw [← hxv] at kx
      have hjn := rd_join (rdFold ((B.drop k).take j)) xv hxl u hxv.symm
      obtain ⟨f0, hf0⟩ : ∃ f0, f0 = rdFold ((B.drop k).take j) := ⟨_, rfl⟩
      rw [← hf0] at hjn ⊢
      obtain ⟨q, hq⟩ : ∃ q, k + j = q := ⟨_, rfl⟩
      have hkj : IntKind.i64.wrap ((k : Int) + (j : Int)) = (q : Int) := by rw [IntWalk.i64_in _ (by omega)]; omega
      rw [hq] at kx
      have HJ := Lib.hid hjn
      have HF := Lib.hid (show _ ∧ _ ∧ _ ∧ _ from ⟨hf0, hgd, hh, hu⟩)
      have hb1 : q < B.length := by omega
      clear hjn hf0 hxv hu8 hgd hh hu hq hjB
      go_wp2_with fail
      refine wp_region_M (fun W => W.cell? ⟨r, 0, none⟩ = some (.slice (some x) B.length c) ∧ W.cell? ⟨r, 1, none⟩ = some (.int .i64 (k : Int)) ∧ W.cell? (x.add q) = some (.int .u8 (xv : Int))) 17 (by kernel_rfl) ?_
      refine wpAnyM_take (by kernel_rfl) (by intro c a d v w h; cases d <;> exact h) [(0, false), (1, false), (2, false), (3, false), (4, false), (5, true), (6, false), (7, false), (8, false), (9, true), (10, false), (11, false), (12, false), (13, true), (14, true), (15, false), (16, false)] (fuel := 0) (by kernel_rfl) ?_
      apply Exists.intro; refine ⟨?_, ⟨k0, k1, kx⟩, ?_⟩
      · iterate 17 ((first | (apply yieldN; (· (simp only [List.getElem?_toArray, List.getElem?_cons_succ, List.getElem?_cons_zero]; try rfl)); (· rfl)) | ((first | apply yieldP | apply yieldL); (· (simp only [List.getElem?_toArray, List.getElem?_cons_succ, List.getElem?_cons_zero]; try rfl)); (· rfl); (· (intros; go_simp; try with_reducible rfl)))); (· (simp only [Act.put, List.setIfInBounds_toArray, List.set_cons_zero, List.set_cons_succ]; try rfl)))
        exact rfl
      refine wpAnyM_done (by kernel_rfl) ?_ _
      go_wp2_with fail
      go_roundg (8 - (j + 1))
      case rel =>
        obtain ⟨hf0, hgd, hh, hu⟩ := HF.out
        refine ⟨j + 1, by omega, rfl, by go_num, ?_, hh, hu.drew⟩
        have e : rdFold ((B.drop k).take (j + 1)) = rdStep (rdFold ((B.drop k).take j)) u := by
          unfold rdFold
          obtain ⟨hl, hg⟩ := List.getElem?_eq_some_iff.1 hgd
          rw [List.take_succ_eq_append_getElem hl, List.foldl_append, hg]
          rfl
        rw [show IntKind.u64.wrap (xv : Int) = (xv : Int) by rw [IntKind.wrap_u64]; omega, HJ.out, hf0, e]
      case measure => omega
    obtain rfl : j = 8 := by omega
    have y1 : wr.frozen? ⟨r, 1, none⟩ = false := by unfold World.frozen? at y1 ⊢; rw [hh]; exact y1
    have HU := Lib.hid (show _ ∧ _ from ⟨hu, hh⟩)
    clear hu hh
    go_wp2_with fail
    go_ret
    obtain ⟨hu, hh⟩ := HU.out
    obtain ⟨-, h1, h2⟩ := (H.out.frame (w' := wr) hh).on (k + 8) hk8
    rw [show ((k + 8 : Nat) : Int) = (k : Int) + 8 by omega] at h1 h2
    rw [HR.out]
    refine ⟨congrArg (fun z => Ending.returned (.int .i64 z)) (wrap_is _), _, _, h1, by rw [rdAbs_false], ?_⟩
    exact (hu.mono (by simp) (fun b hb => .inr hb)).trans h2

theorem cnt_i64 (most : Int) (B : Bs) (k : Nat) (bad : Bool) : cntR most (rdAbs B k bad) =
    if (i64R (rdAbs B k bad)).2.2 = true ∨ (i64R (rdAbs B k bad)).1 < 0 ∨ most < (i64R (rdAbs B k bad)).1 then (0, [], true) else ((i64R (rdAbs B k bad)).1, (i64R (rdAbs B k bad)).2) := by
  cases bad with
  | true => rfl
  | false =>
    rw [rdAbs_false]
    unfold cntR cntS i64R
    by_cases h8 : (B.drop k).length < 8
    · simp only [if_pos h8]
      simp
    · simp only [if_neg h8]
      by_cases hv : rdI (B.drop k) < 0 ∨ most < rdI (B.drop k)
      · rw [if_pos hv, if_pos (.inr hv)]
      · rw [if_neg hv, if_neg (by simpa using hv)]
set_option maxRecDepth 100000 in
set_option maxHeartbeats 1000000 in
theorem rdf_count (r : Nat) (v : Value) (T : TypeId) (E : List Nat) (B : Bs) (k : Nat) (bad : Bool) (most : Int) (w : World) (h : RdFAt w r v T E B k bad) :
    Calls Try.prog 55 #[.pointer (some ⟨r, 0, none⟩), .int .i64 most] w (RdFPost w r v T E B (cntR most (rdAbs B k bad)).2 (.returned (.int .i64 (cntR most (rdAbs B k bad)).1))) := by
  have hc := cnt_i64 most B k bad
  have hi := rdf_i64 r v T E B k bad w h
  obtain ⟨q, hq⟩ : ∃ q, cntR most (rdAbs B k bad) = q := ⟨_, rfl⟩
  rw [hq] at hc ⊢
  obtain ⟨z, hz⟩ : ∃ z, i64R (rdAbs B k bad) = z := ⟨_, rfl⟩
  rw [hz] at hc hi
  clear hq hz h
  obtain ⟨nv, d⟩ := z
  dsimp only at hc hi
  have HI := Lib.hid hi
  have HC := Lib.hid hc
  clear hi hc
  go_enter Try.func55, Try.ntmps55
  go_wp2_with fail
  refine HI.out.mono ?_
  rintro e w1 ⟨rfl, k1, bad1, h1, hd, hu⟩
  obtain ⟨a, c, -, -, -, -, -, c2, -⟩ := h1.cells
  obtain ⟨y2, h2, hu2⟩ := h1.spoil
  have HB := Lib.hid (show RdFPost w r v T E B ([], true) (.returned (.int .i64 0)) (.returned (.int .i64 0)) (w1.setCell ⟨r, 2, none⟩ (.bool true)) from ⟨rfl, _, _, h2, rfl, hu.trans hu2⟩)
  have HG := Lib.hid (show RdFPost w r v T E B d (.returned (.int .i64 nv)) (.returned (.int .i64 nv)) w1 from ⟨rfl, _, _, h1, hd, hu⟩)
  have HD := Lib.hid hd
  clear h1 h2 hu hu2 hd HI
  cases bad1 with
  | true =>
    have HQ := Lib.hid (show q = (0, [], true) by rw [HC.out, if_pos (.inl (by rw [← HD.out]; rfl))])
    go_wp2_with fail
    go_ret
    rw [HQ.out]
    exact HB.out
  | false =>
  have hd2 : d.2 = false := by rw [← HD.out]; rfl
  by_cases h0 : nv < 0
  · have HQ := Lib.hid (show q = (0, [], true) by rw [HC.out, if_pos (.inr (.inl h0))])
    clear hd2
    go_wp2_with fail
    go_ret
    rw [HQ.out]
    exact HB.out
  by_cases hm : most < nv
  · have HQ := Lib.hid (show q = (0, [], true) by rw [HC.out, if_pos (.inr (.inr hm))])
    clear hd2
    go_wp2_with fail
    go_ret
    rw [HQ.out]
    exact HB.out
  have HQ := Lib.hid (show q = (nv, d) by rw [HC.out, if_neg (by rw [hd2]; simp; omega)])
  clear hd2
  go_wp2_with fail
  go_ret
  rw [HQ.out]
  exact HG.out

set_option maxRecDepth 100000 in
set_option maxHeartbeats 1000000 in
theorem rdf_end (r : Nat) (v : Value) (T : TypeId) (E : List Nat) (B : Bs) (k : Nat) (bad : Bool) (w : World) (h : RdFAt w r v T E B k bad) :
    Calls Try.prog 56 #[.pointer (some ⟨r, 0, none⟩)] w fun e w' => e = .returned (.bool (!(rdAbs B k bad).2 && (rdAbs B k bad).1.isEmpty)) ∧ Upd w w' [] [] ∧ w'.heap = w.heap := by
  obtain ⟨a, c, hlc, hcm, hkB, c0, c1, c2, -, -⟩ := h.cells
  clear h
  cases bad with
  | true =>
    go_enter Try.func56, Try.ntmps56
    go_wp2_with fail
    refine wp_region_M (fun W => W.cell? ⟨r, 0, none⟩ = some (.slice a B.length c) ∧ W.cell? ⟨r, 1, none⟩ = some (.int .i64 (k : Int)) ∧ W.cell? ⟨r, 2, none⟩ = some (.bool true)) 18 (by kernel_rfl) ?_
    refine wpAnyM_take (by kernel_rfl) (by intro c a d v w h; cases d <;> exact h) [(0, false), (1, false), (2, false), (3, true), (4, false), (5, false), (6, false), (7, false), (8, false), (9, true), (10, false), (11, false), (12, false), (13, true), (14, false), (15, false), (16, false), (17, false)] (fuel := 0) (by kernel_rfl) ?_
    apply Exists.intro; refine ⟨?_, ⟨c0, c1, c2⟩, ?_⟩
    · iterate 18 ((first | (apply yieldN; (· (simp only [List.getElem?_toArray, List.getElem?_cons_succ, List.getElem?_cons_zero]; try rfl)); (· rfl)) | ((first | apply yieldP | apply yieldL); (· (simp only [List.getElem?_toArray, List.getElem?_cons_succ, List.getElem?_cons_zero]; try rfl)); (· rfl); (· (intros; go_simp; try with_reducible rfl)))); (· (simp only [Act.put, List.setIfInBounds_toArray, List.set_cons_zero, List.set_cons_succ]; try rfl)))
      exact rfl
    refine wpAnyM_done (by kernel_rfl) ?_ _
    go_wp2_with fail
    go_ret
    exact ⟨rfl, (Upd.refl w []).drew, rfl⟩
  | false =>
  obtain ⟨b, hb⟩ : ∃ b, ((k : Int) == (B.length : Int)) = b := ⟨_, rfl⟩
  have HB := Lib.hid (show (!(rdAbs B k false).2 && (rdAbs B k false).1.isEmpty) = b by
    rw [rdAbs_false, ← hb]
    simp only [Bool.not_false, Bool.true_and]
    cases hx : (B.drop k).isEmpty with
    | true =>
      have : B.length ≤ k := by simpa using hx
      simp; omega
    | false =>
      have : ¬ B.length ≤ k := by simpa using hx
      simp; omega)
  rw [HB.out]
  clear HB
  go_enter Try.func56, Try.ntmps56
  go_wp2_with fail
  refine wp_region_M (fun W => W.cell? ⟨r, 0, none⟩ = some (.slice a B.length c) ∧ W.cell? ⟨r, 1, none⟩ = some (.int .i64 (k : Int)) ∧ W.cell? ⟨r, 2, none⟩ = some (.bool false)) 18 (by kernel_rfl) ?_
  refine wpAnyM_take (by kernel_rfl) (by intro c a d v w h; cases d <;> exact h) [(0, false), (1, false), (2, false), (3, true), (4, false), (5, false), (6, false), (7, false), (8, false), (9, true), (10, false), (11, false), (12, false), (13, true), (14, false), (15, false), (16, false), (17, false)] (fuel := 0) (by kernel_rfl) ?_
  apply Exists.intro; refine ⟨?_, ⟨c0, c1, c2⟩, ?_⟩
  · iterate 18 ((first | (apply yieldN; (· (simp only [List.getElem?_toArray, List.getElem?_cons_succ, List.getElem?_cons_zero]; try rfl)); (· rfl)) | ((first | apply yieldP | apply yieldL); (· (simp only [List.getElem?_toArray, List.getElem?_cons_succ, List.getElem?_cons_zero]; try rfl)); (· rfl); (· (intros; go_simp; try with_reducible rfl)))); (· (simp only [Act.put, List.setIfInBounds_toArray, List.set_cons_zero, List.set_cons_succ]; try rfl)))
    exact rfl
  refine wpAnyM_done (by kernel_rfl) ?_ _
  go_wp2_with fail
  go_ret
  exact ⟨rfl, (Upd.refl w []).drew, rfl⟩

/-- The document's reader beside all else; what it reads is one of the rows. -/
def RdF (w0 w : World) (r : Nat) (d : Rd) (R : List Thing) (rows : List (Value × Bs)) : Prop :=
  ∃ v T B k bad, (v, B) ∈ rows ∧ k ≤ B.length ∧ rdAbs B k bad = d ∧ Sep w0 w (ThCell r (.cells #[v, .int .i64 (k : Int), .bool bad] T (0, 0)) :: R) rows
section
variable {w0 w : World} {r : Nat} {d : Rd} {R : List Thing} {rows : List (Value × Bs)}
theorem RdF.use (h : RdF w0 w r d R rows) : ∃ v T E B k bad, RdFAt w r v T E B k bad ∧ rdAbs B k bad = d ∧ ∀ w' k' bad', RdFAt w' r v T E B k' bad' → Upd w w' [r] [r] → RdF w0 w' r (rdAbs B k' bad') R rows := by
  obtain ⟨v, T, B, k, bad, hm, hk, hd, hS⟩ := h
  obtain ⟨D, ⟨hb, rfl⟩, hr, back⟩ := hS.use
  obtain ⟨E, hE, hdis⟩ := hr _ hm
  refine ⟨v, T, E, B, k, bad, ⟨hb, hE, fun x hx e => hdis x hx (by simp [e]), hk⟩, hd, fun w' k' bad' h' hu => ?_⟩
  exact ⟨v, T, B, k', bad', hm, h'.2.2.2, rfl, back w' [r] (ThCell r (.cells #[v, .int .i64 (k' : Int), .bool bad'] T (0, 0))) hu ⟨h'.1, rfl⟩⟩
theorem RdF.i64 (h : RdF w0 w r d R rows) :
    Calls Try.prog 54 #[.pointer (some ⟨r, 0, none⟩)] w fun e w' => e = .returned (.int .i64 (i64R d).1) ∧ RdF w0 w' r (i64R d).2 R rows := by
  obtain ⟨v, T, E, B, k, bad, hP, rfl, back⟩ := h.use
  refine (rdf_i64 r v T E B k bad w hP).mono ?_
  rintro e w' ⟨rfl, k', bad', h', e', hu⟩
  exact ⟨rfl, by rw [← e']; exact back w' _ _ h' hu⟩
theorem RdF.count (h : RdF w0 w r d R rows) (most : Int) :
    Calls Try.prog 55 #[.pointer (some ⟨r, 0, none⟩), .int .i64 most] w fun e w' => e = .returned (.int .i64 (cntR most d).1) ∧ RdF w0 w' r (cntR most d).2 R rows := by
  obtain ⟨v, T, E, B, k, bad, hP, rfl, back⟩ := h.use
  refine (rdf_count r v T E B k bad most w hP).mono ?_
  rintro e w' ⟨rfl, k', bad', h', e', hu⟩
  exact ⟨rfl, by rw [← e']; exact back w' _ _ h' hu⟩
theorem RdF.keep (h : RdF w0 w r d R rows) {w' : World} {D' : List Nat} (hu : Upd w w' [] D') : RdF w0 w' r d R rows := by
  obtain ⟨v, T, B, k, bad, hm, hk, hd, hS⟩ := h
  exact ⟨v, T, B, k, bad, hm, hk, hd, hS.keep hu⟩
theorem RdF.ends (h : RdF w0 w r d R rows) :
    Calls Try.prog 56 #[.pointer (some ⟨r, 0, none⟩)] w fun e w' => e = .returned (.bool (!d.2 && d.1.isEmpty)) ∧ RdF w0 w' r d R rows := by
  obtain ⟨v, T, E, B, k, bad, hP, rfl, back⟩ := h.use
  refine (rdf_end r v T E B k bad w hP).mono ?_
  rintro e w' ⟨rfl, hu, hh⟩
  exact ⟨rfl, h.keep hu⟩
/-- Is it Bad? -/
theorem RdF.isBad (h : RdF w0 w r d R rows) : w.cell? ⟨r, 2, none⟩ = some (.bool d.2) ∧ (d.2 = true → d.1 = []) := by
  obtain ⟨v, T, E, B, k, bad, hP, rfl, back⟩ := h.use
  refine ⟨?_, ?_⟩
  · cases bad <;> exact cell_of hP.1 2 rfl
  · cases bad
    · intro h; cases h
    · intro _; rfl
/-- A new one. -/
theorem RdF.made {v : Value} {b : Bs} (h : Sep w0 w R rows) (hv : (v, b) ∈ rows) (T : TypeId) : RdF w0 (w.alloc (.cells #[v, .int .i64 0, .bool false] T (0, 0))) w.heap.size (b, false) R rows :=
  ⟨v, T, b, 0, false, hv, Nat.zero_le _, rfl, h.newCell _⟩
theorem RdF.drop (h : RdF w0 w r d R rows) : Sep w0 w R rows := by
  obtain ⟨v, T, B, k, bad, hm, hk, hd, hS⟩ := h
  exact hS.drop
theorem RdF.to (h : RdF w0 w r d R rows) : ∃ X, Sep w0 w (X :: R) rows ∧ ∀ w' R' rows', (∀ x ∈ rows, x ∈ rows') → Sep w0 w' (X :: R') rows' → RdF w0 w' r d R' rows' := by
  obtain ⟨v, T, B, k, bad, hm, hk, hd, hS⟩ := h
  exact ⟨_, hS, fun w' R' rows' hs h' => ⟨v, T, B, k, bad, hs _ hm, hk, hd, h'⟩⟩
end
end Go.Proofs.Ytebmmbommkpjaaa

/-
  The document's own Coord: GetCoord.
-/
namespace Go.Proofs.Ytebmmbommkpjaaa
open Go.RowKit Go.Av
section
variable {w0 w : World} {R : List Thing} {rows : List (Value × Bs)}
def GetOPost (w0 : World) (R : List Thing) (rows : List (Value × Bs)) (o : Option CoS) (e : Ending) (w' : World) : Prop :=
  match o with
  | none => e = .returned (.tuple #[.pointer none, .bool false]) ∧ Below w0.heap.size w0 w'
  | some L => ∃ c, e = .returned (.tuple #[.pointer (some ⟨c, 0, none⟩), .bool true]) ∧ Cr w0 w' c L R rows
theorem cnt_short (m : Int) (d : Rd) : (cntR m d).2.1.length ≤ d.1.length := by
  unfold cntR cntS
  split
  · simp
  · split
    · simp
    · simp
theorem owesR_short {sh : List Int} : ∀ {n : Nat} {before : Int} {d d' : Rd} {dn dn' : List Bool}, owesR sh n before d dn = some (dn', d') → d'.1.length ≤ d.1.length ∧ (d'.2 = false → d.2 = false)
  | 0, before, d, d', dn, dn', h => by cases h; exact ⟨Nat.le_refl _, fun h => h⟩
  | n + 1, before, d, d', dn, dn', h => by
    unfold owesR at h
    split at h
    · cases h; exact ⟨Nat.le_refl _, fun h => h⟩
    · rename_i hb
      split at h
      · cases h
      · split at h
        · cases h
        · exact ⟨Nat.le_trans (owesR_short h).1 (cnt_short 3 d), fun _ => by simpa using hb⟩
theorem owesR_eight {sh : List Int} {n : Nat} {before : Int} {d d' : Rd} {dn dn' : List Bool} (h : owesR sh n before (oO d).2 dn = some (dn', d')) (hd : d'.2 = false) : d'.1.length + 8 ≤ d.1.length := by
  obtain ⟨h1, h2⟩ := owesR_short h
  have a1 := h2 hd
  unfold oO at a1 h1
  obtain ⟨b1, b2⟩ := cnt_inv a1
  unfold howO at b1 b2
  obtain ⟨c1, c2⟩ := cnt_inv b1
  unfold voO at c1 c2
  obtain ⟨e1, e2⟩ := cntN_inv c1
  unfold shO at e1 e2
  obtain ⟨f1, f2⟩ := cntN_inv e1
  obtain ⟨g1, g2⟩ := cnt_inv f1
  obtain ⟨k1, k2⟩ := i64_inv g1
  have b2 := congrArg List.length b2
  have c2 := congrArg List.length c2
  have e2 := congrArg List.length e2
  have f2 := congrArg List.length f2
  have g2 := congrArg List.length g2
  have k2 := congrArg List.length k2
  simp only [List.length_append, packI_len] at *
  unfold howO voO shO at *
  omega
/-- One entry under way: its struct at x and its three rows. -/
def oneTh (x : Nat) (id how : Int) (vs vv vd : Value) (sh vo : List Int) (dn : List Bool) : List Thing :=
  [ThCell x (.cells #[.int .i64 id, vs, vv, .int .i64 how, vd] 85 (0, 0)), ThRow 1 vs (sh.map iv), ThRow 1 vv (vo.map iv), ThRow 1 vd (dn.map bov)]
section
variable {r x : Nat} {d : Rd} {L M A : List Thing} {id how : Int} {vs vv vd : Value} {sh vo : List Int} {dn : List Bool}
theorem RdF.front {T : Thing} (h : RdF w0 w r d (L ++ T :: M) rows) : ∃ X, Sep w0 w (T :: X :: (L ++ M)) rows ∧ ∀ w' T', Sep w0 w' (T' :: X :: (L ++ M)) rows → RdF w0 w' r d (L ++ T' :: M) rows := by
  obtain ⟨X, hX, back⟩ := h.to
  refine ⟨X, hX.perm ((List.Perm.cons X List.perm_middle).trans (List.Perm.swap _ _ _)), fun w' T' h' => back w' _ rows (fun _ h => h) (h'.perm ?_)⟩
  exact (List.Perm.swap _ _ _).trans (List.Perm.cons X List.perm_middle.symm)
theorem one_cell {i : Nat} {y : Value} (h : RdF w0 w r d (oneTh x id how vs vv vd sh vo dn ++ A) rows) (hi : (#[Value.int .i64 id, vs, vv, .int .i64 how, vd] : Array Value)[i]? = some y) : w.cell? ⟨x, i, none⟩ = some y ∧ w.frozen? ⟨x, i, none⟩ = false := by
  obtain ⟨X, hX, -⟩ := RdF.front (L := []) h
  exact ⟨cell_of hX.blk i hi, frz_of hX.blk i⟩
theorem one_init (h : RdF w0 w r d A rows) (id : Int) : RdF w0 (w.alloc (.cells #[.int .i64 id, .slice none 0 0, .slice none 0 0, .int .i64 0, .slice none 0 0] 85 (0, 0))) r d (oneTh w.heap.size id 0 (.slice none 0 0) (.slice none 0 0) (.slice none 0 0) [] [] [] ++ A) rows := by
  obtain ⟨X, hX, back⟩ := h.to
  have s0 := (((hX.nilRow 1).nilRow 1).nilRow 1).newCell (.cells #[.int .i64 id, .slice none 0 0, .slice none 0 0, .int .i64 0, .slice none 0 0] 85 (0, 0))
  exact back _ _ rows (fun _ h => h) (s0.perm (List.perm_middle (l₁ := [_, _, _, _])))
theorem one_sh (h : RdF w0 w r d (oneTh x id how vs vv vd sh vo dn ++ A) rows) : ∃ D, OwnRow w 1 vs (sh.map iv) D ∧ ∀ w' v' D' sh', Upd w w' D D' → OwnRow w' 1 v' (sh'.map iv) D' →
    w'.frozen? ⟨x, 1, none⟩ = false ∧ w'.cell? ⟨x, 1, none⟩ = some vs ∧ RdF w0 (w'.setCell ⟨x, 1, none⟩ v') r d (oneTh x id how v' vv vd sh' vo dn ++ A) rows := by
  obtain ⟨X, hX, back⟩ := RdF.front (L := [_]) h
  obtain ⟨D, hD, -, b2⟩ := hX.use
  refine ⟨D, hD, fun w' v' D' sh' hu ho => ?_⟩
  have h2 := back w' (ThRow 1 v' (sh'.map iv)) (b2 w' D' _ hu ho)
  obtain ⟨Y, hY, b3⟩ := RdF.front (L := []) h2
  exact ⟨frz_of hY.blk 1, cell_of hY.blk 1 rfl, b3 _ _ (hY.set 1 v')⟩
theorem one_vo (h : RdF w0 w r d (oneTh x id how vs vv vd sh vo dn ++ A) rows) : ∃ D, OwnRow w 1 vv (vo.map iv) D ∧ ∀ w' v' D' vo', Upd w w' D D' → OwnRow w' 1 v' (vo'.map iv) D' →
    w'.frozen? ⟨x, 2, none⟩ = false ∧ w'.cell? ⟨x, 2, none⟩ = some vv ∧ RdF w0 (w'.setCell ⟨x, 2, none⟩ v') r d (oneTh x id how vs v' vd sh vo' dn ++ A) rows := by
  obtain ⟨X, hX, back⟩ := RdF.front (L := [_, _]) h
  obtain ⟨D, hD, -, b2⟩ := hX.use
  refine ⟨D, hD, fun w' v' D' vo' hu ho => ?_⟩
  have h2 := back w' (ThRow 1 v' (vo'.map iv)) (b2 w' D' _ hu ho)
  obtain ⟨Y, hY, b3⟩ := RdF.front (L := []) h2
  exact ⟨frz_of hY.blk 2, cell_of hY.blk 2 rfl, b3 _ _ (hY.set 2 v')⟩
theorem one_how (h : RdF w0 w r d (oneTh x id how vs vv vd sh vo dn ++ A) rows) (how' : Int) : RdF w0 (w.setCell ⟨x, 3, none⟩ (.int .i64 how')) r d (oneTh x id how' vs vv vd sh vo dn ++ A) rows := by
  obtain ⟨Y, hY, b3⟩ := RdF.front (L := []) h
  exact b3 _ _ (hY.set 3 _)
theorem one_vd (h : RdF w0 w r d (oneTh x id how vs vv vd sh vo dn ++ A) rows) {w' : World} {v' : Value} {D' : List Nat} {dn' : List Bool} (hu : Upd w w' [] D') (ho : OwnRow w' 1 v' (dn'.map bov) D') :
    w'.frozen? ⟨x, 4, none⟩ = false ∧ w'.cell? ⟨x, 4, none⟩ = some vd ∧ RdF w0 (w'.setCell ⟨x, 4, none⟩ v') r d (oneTh x id how vs vv v' sh vo dn' ++ A) rows := by
  obtain ⟨X, hX, back⟩ := RdF.front (L := [_, _, _]) h
  have h2 := back w' (ThRow 1 v' (dn'.map bov)) (hX.drop.addRow ho hu)
  obtain ⟨Y, hY, b3⟩ := RdF.front (L := []) h2
  exact ⟨frz_of hY.blk 4, cell_of hY.blk 4 rfl, b3 _ _ (hY.set 4 v')⟩
theorem one_dn {y : Option Addr} {n k : Nat} (h : RdF w0 w r d (oneTh x id how vs vv (.slice y n k) sh vo dn ++ A) rows) : n = dn.length ∧ n ≤ k ∧ k ≤ maxLen ∧ ∀ i, i < dn.length → ∃ z : Addr, y = some z ∧ z.spot = none ∧ w.frozen? (z.add i) = false ∧ (∃ u, w.cell? (z.add i) = some u) ∧
    ∀ b : Bool, RdF w0 (w.setCell (z.add i) (.bool b)) r d (oneTh x id how vs vv (.slice y n k) sh vo (dn.set i b) ++ A) rows := by
  obtain ⟨X, hX, back⟩ := RdF.front (L := [_, _, _]) h
  obtain ⟨a, n', c, hv, hl, hn, hc⟩ := hX.rowLen
  cases hv
  rw [List.length_map, Nat.mul_one] at hl
  refine ⟨hl.symm, hn, hc, fun i hi => ?_⟩
  obtain ⟨z, rfl, hzs, -⟩ := hX.rowCell (i := i) (x := bov dn[i]) (by rw [List.getElem?_map, List.getElem?_eq_getElem hi]; rfl)
  have q := hX.rowSet (i := i) (by omega)
  refine ⟨z, rfl, hzs, (q (.bool true)).1, (q (.bool true)).2.2.1, fun b => back _ _ ?_⟩
  have := (q (.bool b)).2.2.2
  rw [List.map_set]
  exact this
theorem one_read (h : RdF w0 w r d (oneTh x id how vs vv vd sh vo dn ++ A) rows) : ∃ E, ReadRow w 1 vs (sh.map iv) E := by
  obtain ⟨X, hX, back⟩ := RdF.front (L := [_]) h
  obtain ⟨D, hD⟩ := hX.fst
  obtain ⟨E, hE, -⟩ := OwnRow.read hD
  exact ⟨E, hE⟩
theorem one_push {c : Nat} {u : Value} {gs : List OneG} (h : RdF w0 w r d (oneTh x id how vs vv vd sh vo dn ++ (crTh c u gs ++ R)) rows) : ∃ D, OwnRow w 5 u (gs.flatMap OneG.cell) D ∧ w.cell? ⟨c, 0, none⟩ = some u ∧ ∀ w' u' D', Upd w w' D D' →
    OwnRow w' 5 u' (gs.flatMap OneG.cell ++ [.int .i64 id, vs, vv, .int .i64 how, vd]) D' → w'.frozen? ⟨c, 0, none⟩ = false ∧ w'.cell? ⟨c, 0, none⟩ = some u ∧ (∀ i y, (#[Value.int .i64 id, vs, vv, .int .i64 how, vd] : Array Value)[i]? = some y → w'.cell? ⟨x, i, none⟩ = some y) ∧
      RdF w0 (w'.setCell ⟨c, 0, none⟩ u') r d (crTh c u' (gs ++ [⟨id, sh, vo, how, dn, vs, vv, vd⟩]) ++ R) rows := by
  obtain ⟨Z, hZ, -⟩ := RdF.front (L := [_, _, _, _]) (M := ThRow 5 u (gs.flatMap OneG.cell) :: (gs.flatMap OneG.th ++ R)) (T := ThCell c (.cells #[u] 51 (0, 0))) h
  obtain ⟨X, hX, back⟩ := RdF.front (L := [_, _, _, _, _]) (M := gs.flatMap OneG.th ++ R) (T := ThRow 5 u (gs.flatMap OneG.cell)) h
  obtain ⟨D, hD, -, b2⟩ := hX.use
  refine ⟨D, hD, cell_of hZ.blk 0 rfl, fun w' u' D' hu ho => ?_⟩
  have h2 := back w' (ThRow 5 u' (gs.flatMap OneG.cell ++ [.int .i64 id, vs, vv, .int .i64 how, vd])) (b2 w' D' _ hu ho)
  obtain ⟨Y, hY, b3⟩ := RdF.front (L := [_, _, _, _]) (M := ThRow 5 u' (gs.flatMap OneG.cell ++ [.int .i64 id, vs, vv, .int .i64 how, vd]) :: (gs.flatMap OneG.th ++ R)) (T := ThCell c (.cells #[u] 51 (0, 0))) h2
  refine ⟨frz_of hY.blk 0, cell_of hY.blk 0 rfl, fun i y hi => ?_, ?_⟩
  · obtain ⟨V, hV, -⟩ := RdF.front (L := []) h2
    exact cell_of hV.blk i hi
  have h3 := b3 _ _ (hY.set 0 u')
  obtain ⟨W, hW, b4⟩ := h3.to
  refine b4 _ _ rows (fun _ h => h) ?_
  have h4 := (hW.perm (List.Perm.swap _ _ _)).drop
  refine h4.perm (List.Perm.cons _ ?_)
  unfold crTh
  rw [List.flatMap_append, List.flatMap_append]
  simp only [List.flatMap_cons, List.flatMap_nil, List.append_nil, List.cons_append, List.append_assoc]
  refine (List.perm_append_comm_assoc [_, _, _] [_, _] _).trans ?_
  exact List.Perm.cons _ (List.Perm.cons _ (List.perm_append_comm_assoc [_, _, _] (gs.flatMap OneG.th) R))
end
theorem repl_on {q kn : Nat} (h : q < kn) : (List.replicate q true ++ List.replicate (kn - q) false).set q true = List.replicate (q + 1) true ++ List.replicate (kn - (q + 1)) false := by
  rw [List.set_append_right _ _ (by simp), show kn - q = (kn - (q + 1)) + 1 by omega, List.length_replicate, Nat.sub_self, List.replicate_succ, List.set_cons_zero, List.replicate_succ' (n := q), List.append_assoc]
  rfl
set_option maxRecDepth 100000 in
set_option maxHeartbeats 16000000 in
theorem get_coord (h : Sep w0 w R rows) (v : Value) (b : Bs) (hv : (v, b) ∈ rows) (hb : b.length ≤ 8000) : Calls Try.prog 32 #[v] w (GetOPost w0 R rows (getO b)) := by
  obtain ⟨i0, hi0, hz0, hz1, hz2⟩ := info_parts infoOne
  obtain ⟨j0, hj0, jz0, jz1, jz2⟩ := info_parts infoI
  have H0 := Lib.hid (RdF.made h hv 92)
  have hsz : ∃ a n c, v = .slice a n c := by
    obtain ⟨E, hE⟩ := h.get hv
    obtain ⟨a, n, c, h1, -⟩ := hE
    exact ⟨a, n, c, h1⟩
  obtain ⟨a0, n0, c0, rfl⟩ := hsz
  clear h hv
  obtain ⟨res, hres⟩ : ∃ res, getO b = res := ⟨_, rfl⟩
  rw [hres]
  unfold getO at hres
  obtain ⟨q, hq⟩ : ∃ q, i64R (b, false) = q := ⟨_, rfl⟩
  rw [hq] at hres
  obtain ⟨n, d0⟩ := q
  dsimp only at hres
  have HQ := Lib.hid (show _ ∧ _ from ⟨hq, hres⟩)
  clear hq hres
  go_enter Try.func32, Try.ntmps32
  go_wp2_with fail
  have hc := H0.out.i64
  rw [HQ.out.1] at hc
  refine hc.mono ?_
  rintro e w1 ⟨rfl, h1⟩
  obtain ⟨X, hX, back⟩ := h1.to
  have hT : RdF w0 (w1.alloc (.cells #[.slice none 0 0] 51 (0, 0))) w.heap.size d0 (crTh w1.heap.size (.slice none 0 0) [] ++ R) rows :=
    back _ _ rows (fun _ h => h) (((hX.nilRow 5).newCell (.cells #[.slice none 0 0] 51 (0, 0))).perm (List.perm_middle (l₁ := [_, _])))
  have H1 := Lib.hid hT
  clear h1 hX back hT hc H0
  go_wp2_with fail
  obtain ⟨c, hc⟩ : ∃ c, c = w1.heap.size := ⟨_, rfl⟩
  obtain ⟨r, hr⟩ : ∃ r, r = w.heap.size := ⟨_, rfl⟩
  obtain ⟨w2, hw2⟩ : ∃ z, z = w1.alloc (.cells #[.slice none 0 0] 51 (0, 0)) := ⟨_, rfl⟩
  rw [← hc, ← hr] at H1
  rw [← hw2] at H1
  rw [← hc, ← hr]
  rw [← hw2]
  clear hc hr hw2
  go_loopg [7, 8] n.toNat (fun k vl vi wr => ∃ (j : Nat) (last : Int) (d : Rd) (u : Value) (gs : List OneG), (j : Int) ≤ max 0 n ∧ k = n.toNat - j ∧ vi = .int .i64 (j : Int) ∧ vl = .int .i64 last ∧ 0 ≤ last ∧
    gs.length = j ∧ (∀ g ∈ gs, g.wf) ∧ RdF w0 wr r d (crTh c u gs ++ R) rows ∧ getON n.toNat 0 d0 [] = getON (n.toNat - j) last d (gs.map OneG.ent) ∧ 8 * j + d.1.length ≤ b.length)
  case atStart =>
    refine ⟨0, 0, d0, _, [], by omega, rfl, rfl, rfl, Int.le_refl _, rfl, by simp, H1.out, rfl, ?_⟩
    have := HQ.out.1
    unfold i64R at this
    split at this
    · injection this with _ h2
      rw [← h2]
      simp
    · injection this with _ h2
      rw [← h2]
      simp
  case round =>
    obtain ⟨j, last, d, u, gs, hj, hk, hvi, hvl, hlast, hgl, hwf, hC, hg, hlen⟩ := hrel
    subst hvi hvl
    clear H1
    have hbad := hC.isBad.1
    by_cases hjn : (j : Int) < n
    case neg =>
      by_cases hn0 : n < 0
      · have HF := Lib.hid (show res = none by have := HQ.out.2; rw [if_pos hn0] at this; exact this.symm)
        have HB := Lib.hid hC.drop.below
        have q1 : decide ((j : Int) < n) = false := decide_eq_false hjn
        have q2 : decide (n < 0) = true := decide_eq_true hn0
        clear hC hg hwf hbad
        go_wp2_with fail
        go_ret2
        rw [HF.out]
        exact ⟨rfl, HB.out⟩
      have hg2 : getON n.toNat 0 d0 [] = some (gs.map OneG.ent, d) := by
        rw [hg, show n.toNat - j = 0 by omega]
        rfl
      have HN0 := Lib.hid hn0
      have q1 : decide ((j : Int) < n) = false := decide_eq_false hjn
      have q2 : decide (n < 0) = false := decide_eq_false hn0
      have hfin : res = finO (some (gs.map OneG.ent, d)) := by
        have := HQ.out.2
        rw [if_neg HN0.out, hg2] at this
        exact this.symm
      have HF := Lib.hid hfin
      have HWF := Lib.hid (show _ ∧ _ from ⟨hwf, hlen⟩)
      have HC := Lib.hid hC
      clear hg hg2 hfin hC hwf hlen hn0
      go_wp2_with fail
      refine HC.out.ends.mono ?_
      rintro e w5 ⟨rfl, h5⟩
      have H5 := Lib.hid h5.drop
      clear h5 HC
      cases he : (!d.2 && d.1.isEmpty) with
      | false =>
        have HR := Lib.hid (show res = none by
          rw [HF.out]
          unfold finO
          dsimp only
          rw [if_neg]
          intro hc
          rw [hc.1, hc.2] at he
          cases he)
        clear he
        go_wp2_with fail
        go_ret2
        rw [HR.out]
        exact ⟨rfl, H5.out.below⟩
      | true =>
        have HR := Lib.hid (show res = some (gs.map OneG.ent) by
          rw [HF.out]
          unfold finO
          dsimp only
          simp only [Bool.and_eq_true, Bool.not_eq_true', List.isEmpty_iff] at he
          rw [if_pos he])
        clear he
        go_wp2_with fail
        go_ret2
        rw [HR.out]
        exact ⟨c, rfl, u, gs, rfl, ⟨HWF.out.1, by have := HWF.out.2; omega, H5.out⟩⟩
    case pos =>
    have q1 : decide ((j : Int) < n) = true := decide_eq_true hjn
    have hn0 : ¬ n < 0 := by omega
    cases hdb : d.2 with
    | true =>
      rw [hdb] at hbad
      have hg2 : getON n.toNat 0 d0 [] = some (gs.map OneG.ent, d) := by
        rw [hg, show n.toNat - j = (n.toNat - j - 1) + 1 by omega, getON, if_pos hdb]
      have HN0 := Lib.hid hn0
      have q2 : decide (n < 0) = false := decide_eq_false hn0
      clear hdb
      have hfin : res = finO (some (gs.map OneG.ent, d)) := by
        have := HQ.out.2
        rw [if_neg HN0.out, hg2] at this
        exact this.symm
      have HF := Lib.hid hfin
      have HWF := Lib.hid (show _ ∧ _ from ⟨hwf, hlen⟩)
      have HC := Lib.hid hC
      clear hg hg2 hfin hC hwf hlen hn0
      go_wp2_with fail
      refine HC.out.ends.mono ?_
      rintro e w5 ⟨rfl, h5⟩
      have H5 := Lib.hid h5.drop
      clear h5 HC
      cases he : (!d.2 && d.1.isEmpty) with
      | false =>
        have HR := Lib.hid (show res = none by
          rw [HF.out]
          unfold finO
          dsimp only
          rw [if_neg]
          intro hc
          rw [hc.1, hc.2] at he
          cases he)
        clear he
        go_wp2_with fail
        go_ret2
        rw [HR.out]
        exact ⟨rfl, H5.out.below⟩
      | true =>
        have HR := Lib.hid (show res = some (gs.map OneG.ent) by
          rw [HF.out]
          unfold finO
          dsimp only
          simp only [Bool.and_eq_true, Bool.not_eq_true', List.isEmpty_iff] at he
          rw [if_pos he])
        clear he
        go_wp2_with fail
        go_ret2
        rw [HR.out]
        exact ⟨c, rfl, u, gs, rfl, ⟨HWF.out.1, by have := HWF.out.2; omega, H5.out⟩⟩
    | false =>
    rw [hdb] at hbad
    obtain ⟨A, hA⟩ : ∃ A, A = crTh c u gs ++ R := ⟨_, rfl⟩
    rw [← hA] at hC
    have HG := Lib.hid (show _ ∧ _ ∧ _ ∧ _ ∧ _ ∧ _ from ⟨hA, hg, hwf, hlen, hgl, hdb⟩)
    obtain ⟨kn, hkn⟩ : ∃ kn : Nat, kO d = (kn : Int) := ⟨(kO d).toNat, by have := (cntR_bd (most := 4) (by decide) (i64R d).2).1; unfold kO; omega⟩
    have hkn4 : kn ≤ 4 := by have := (cntR_bd (most := 4) (by decide) (i64R d).2).2; unfold kO at hkn; omega
    obtain ⟨on, hon⟩ : ∃ on : Nat, (oO d).1 = (on : Int) := ⟨(oO d).1.toNat, by have := (cntR_bd (most := 4) (by decide) (howO d).2).1; unfold oO; omega⟩
    have hon4 : on ≤ 4 := by have := (cntR_bd (most := 4) (by decide) (howO d).2).2; unfold oO at hon; omega
    obtain ⟨id, hid⟩ : ∃ id, (i64R d).1 = id := ⟨_, rfl⟩
    have HD := Lib.hid (show (shO d = cntN 3 kn (cntR 4 (i64R d).2).2 ∧ voO d = cntN 2 kn (shO d).2) ∧ _ ∧ _ ∧ _ from ⟨⟨by unfold shO; rw [hkn]; rfl, by unfold voO; rw [hkn]; rfl⟩, hkn, hid, hon⟩)
    have HG0 := Lib.hid (show getON n.toNat 0 d0 [] = (match owesR (shO d).1 on (-1) (oO d).2 (List.replicate kn true) with
        | none => none
        | some (dn, d') => if d'.2 = true ∨ id ≤ last ∨ goodO (shO d).1 (voO d).1 (howO d).1 (on : Int) = false then none else
            getON (n.toNat - (j + 1)) id d' (gs.map OneG.ent ++ [(id, ⟨(shO d).1, (voO d).1, (howO d).1, owesL (shO d).1 dn⟩)])) from by
      rw [hg, show n.toNat - j = (n.toNat - (j + 1)) + 1 by omega, getON, if_neg (by rw [hdb]; decide), hkn, hid, hon, Int.toNat_natCast, Int.toNat_natCast]
      rfl)
    have hi := hC.i64
    rw [hid] at hi
    have HI := Lib.hid hi
    have hmkB := fun W => run_make_row' (P := Try.prog) 38 4 (.bool false) 1 Try.underlying38 infoBool rfl .i64 .i64 kn (by omega) (by omega) W
    clear hC hg hwf hlen hA hgl hdb hkn hid hi hon
    go_wp2_with fail
    refine HI.out.mono ?_
    rintro e w2 ⟨rfl, h2⟩
    have H3 := Lib.hid (one_init h2 id)
    clear h2 HI
    go_wp2_with fail
    obtain ⟨v6, hv6⟩ : ∃ z, z = w2.alloc (.cells #[.int .i64 id, .slice none 0 0, .slice none 0 0, .int .i64 0, .slice none 0 0] 85 (0, 0)) := ⟨_, rfl⟩
    rw [← hv6] at H3 ⊢
    clear hv6
    obtain ⟨x, hx⟩ : ∃ x, x = w2.heap.size := ⟨_, rfl⟩
    rw [← hx] at H3 ⊢
    clear hx
    refine (H3.out.count 4).mono ?_
    rintro e w4 ⟨rfl, h4⟩
    rw [show (cntR 4 (i64R d).2).1 = (kn : Int) from HD.out.2.1]
    have H4 := Lib.hid h4
    clear h4 H3
    go_wp2_with fail
    go_loopg [11] kn (fun g vi wr => ∃ (q : Nat) (vs : Value), q ≤ kn ∧ g = kn - q ∧ vi = .int .i64 (q : Int) ∧ RdF w0 wr r (cntN 3 q (cntR 4 (i64R d).2).2).2 (oneTh x id 0 vs (.slice none 0 0) (.slice none 0 0) (cntN 3 q (cntR 4 (i64R d).2).2).1 [] [] ++ A) rows)
    case atStart => exact ⟨0, _, Nat.zero_le _, rfl, rfl, H4.out⟩
    case round =>
      obtain ⟨q, vs, hq, hk2, hvi, h5⟩ := hrel
      subst hvi
      clear H4
      by_cases hlt : q < kn
      · have hsn := cntN_snoc 3 q (cntR 4 (i64R d).2).2
        have hl5 := cntN_len 3 q (cntR 4 (i64R d).2).2
        obtain ⟨dq, hdq⟩ : ∃ dq, cntN 3 q (cntR 4 (i64R d).2).2 = dq := ⟨_, rfl⟩
        rw [hdq] at h5 hsn hl5
        obtain ⟨s, hs⟩ : ∃ s, (cntR 3 dq.2).1 = s := ⟨_, rfl⟩
        rw [hs] at hsn
        have c1 := (one_cell (i := 1) h5 rfl).1
        have hco := (h5.keep (Upd.refl wr []).drew).count 3
        rw [hs] at hco
        have HCO := Lib.hid hco
        have HSN := Lib.hid hsn
        clear hco hsn hs h5 hdq
        go_wp2_with fail
        refine wp_region_M (fun W => W.cell? ⟨x, 1, none⟩ = some vs) 6 (by kernel_rfl) ?_
        refine wpAnyM_take (by kernel_rfl) (by intro c a d v w h; cases d <;> exact h) [(0, false), (1, true), (2, false)] (fuel := 5) (by kernel_rfl) ?_
        apply Exists.intro; refine ⟨?_, c1, ?_⟩
        · iterate 3 ((first | (apply yieldN; (· (simp only [List.getElem?_toArray, List.getElem?_cons_succ, List.getElem?_cons_zero]; try rfl)); (· rfl)) | ((first | apply yieldP | apply yieldL); (· (simp only [List.getElem?_toArray, List.getElem?_cons_succ, List.getElem?_cons_zero]; try rfl)); (· rfl); (· (intros; go_simp; try with_reducible rfl)))); (· (simp only [Act.put, List.setIfInBounds_toArray, List.set_cons_zero, List.set_cons_succ]; try rfl)))
          exact rfl
        refine wpAnyM_one (fuel := 4) (i := 3) (by kernel_rfl) (by rfl) (fun K hK => ?_)    -- CALL
        go_wp2_with fail
        refine HCO.out.mono ?_
        rintro e w6 ⟨rfl, h6⟩
        have c6 := (one_cell (i := 1) h6 rfl).1
        have H6 := Lib.hid h6
        clear h6
        go_wp2_with fail
        refine hK _ _ c6 ?_
        clear hK
        refine wpAnyM_one (fuel := 3) (i := 4) (by kernel_rfl) (by rfl) (fun K hK => ?_)    -- buildSlice
        go_wp2_with fail
        have h7 := H6.out.keep (Upd.alloc0 w6 (.cells #[.int .i64 s] 3) [])
        have hrb := one_new w6 1 (by decide) #[.int .i64 s] rfl 3
        have c7 := (one_cell (i := 1) h7 rfl).1
        refine hK _ _ c7 ?_
        clear hK
        obtain ⟨n1, hn1, hsrc⟩ := hrb.src (P := Try.prog) (tx := 22) Try.underlying22 (by intro u hu; simp at hu; subst hu; rfl)
        obtain rfl : n1 = 1 := by simp at hn1; omega
        obtain ⟨D, hD, b7⟩ := one_sh h7
        refine wpAnyM_one (fuel := 2) (i := 5) (by kernel_rfl) (by rfl) (fun K hK => ?_)    -- b:append
        refine wpList_app rfl _ _ 22 22 rfl 1 _ _ _ rfl hD _ j0 _ Try.underlying22 hj0 jz0 jz1 rfl _ _ _ rfl hsrc (fun n hn => by rw [List.length_map, hl5] at hn; rw [jz2]; omega) ?_
        intro a8 n8 k8 w8 D8 hown8 hu8
        obtain ⟨z8, c8, h8⟩ := b7 w8 _ D8 (dq.1 ++ [s]) hu8 (by rw [List.map_append]; exact hown8)
        have H8 := Lib.hid h8
        clear h7 hrb hsrc hn1 hD b7 hown8 hu8 h8 H6 c7 c6 c1
        go_wp2_with fail
        refine hK _ _ c8 ?_
        clear hK
        refine wpAnyM_of_any _ _ _ _ (by decide) ?_
        refine wpAny_list [6, 7] (fuel := 0) (by kernel_rfl) ?_
        simp only [List.filterMap_cons, List.filterMap_nil, List.getElem?_toArray, List.getElem?_cons_succ, List.getElem?_cons_zero]
        go_wp2_with fail
        go_roundg (kn - (q + 1))
        case rel => exact ⟨q + 1, _, by omega, rfl, by go_num, by rw [HSN.out]; exact H8.out⟩
        case measure => omega
      rw [show q = kn by omega, ← HD.out.1.1] at h5
      have H5 := Lib.hid h5
      clear h5
      go_wp2_with fail
      go_loopg [12, 13, 14] kn (fun g va vb vi wr => ∃ (p : Nat) (vv : Value), p ≤ kn ∧ g = kn - p ∧ vi = .int .i64 (p : Int) ∧ va = .int .i64 (((cntN 2 p (shO d).2).1.countP (· == 1) : Nat) : Int) ∧ vb = .int .i64 (((cntN 2 p (shO d).2).1.countP (· == 2) : Nat) : Int) ∧ RdF w0 wr r (cntN 2 p (shO d).2).2 (oneTh x id 0 vs vv (.slice none 0 0) (shO d).1 (cntN 2 p (shO d).2).1 [] ++ A) rows)
      case atStart => exact ⟨0, _, Nat.zero_le _, rfl, rfl, rfl, rfl, H5.out⟩
      case round =>
        obtain ⟨p, vv, hp, hk2, hvi, hva, hvb, h6⟩ := hrel
        subst hvi hva hvb
        clear H5
        by_cases hlt : p < kn
        · have hsn := cntN_snoc 2 p (shO d).2
          have hl6 := cntN_len 2 p (shO d).2
          obtain ⟨dq, hdq⟩ : ∃ dq, cntN 2 p (shO d).2 = dq := ⟨_, rfl⟩
          rw [hdq] at h6 hsn hl6 ⊢
          have hbd := cntR_bd (most := 2) (by decide) dq.2
          obtain ⟨s, hs⟩ : ∃ s, (cntR 2 dq.2).1 = s := ⟨_, rfl⟩
          rw [hs] at hsn hbd
          have hco := h6.count 2
          rw [hs] at hco
          have hA := List.countP_append (p := fun v : Int => v == 1) (l₁ := dq.1) (l₂ := [s])
          have hB := List.countP_append (p := fun v : Int => v == 2) (l₁ := dq.1) (l₂ := [s])
          have hA1 := List.countP_le_length (p := fun v : Int => v == 1) (l := dq.1)
          have hB1 := List.countP_le_length (p := fun v : Int => v == 2) (l := dq.1)
          rw [hl6] at hA1 hB1
          obtain ⟨ca, hca⟩ : ∃ ca, dq.1.countP (fun v : Int => v == 1) = ca := ⟨_, rfl⟩
          obtain ⟨cb, hcb⟩ : ∃ cb, dq.1.countP (fun v : Int => v == 2) = cb := ⟨_, rfl⟩
          rw [hca] at hA hA1
          rw [hcb] at hB hB1
          have e1 : dq.1.countP (· == 1) = ca := hca
          have e2 : dq.1.countP (· == 2) = cb := hcb
          rw [e1, e2]
          have HCO := Lib.hid hco
          have HSN := Lib.hid (show _ ∧ _ ∧ _ from ⟨hsn, hA, hB⟩)
          clear hco hsn hs h6 hdq hA hB hca hcb e1 e2
          go_wp2_with fail
          refine HCO.out.mono ?_
          rintro e w6 ⟨rfl, h6⟩
          have h7 := h6.keep (Upd.alloc0 w6 (.cells #[.int .i64 s] 3) [])
          have hrb := one_new w6 1 (by decide) #[.int .i64 s] rfl 3
          have c6 := (one_cell (i := 2) h6 rfl).1
          have c7 := (one_cell (i := 2) h7 rfl).1
          obtain ⟨n1, hn1, hsrc⟩ := hrb.src (P := Try.prog) (tx := 22) Try.underlying22 (by intro u hu; simp at hu; subst hu; rfl)
          obtain rfl : n1 = 1 := by simp at hn1; omega
          obtain ⟨D, hD, b7⟩ := one_vo h7
          have HB7 := Lib.hid b7
          clear h6 h7 hrb hn1 b7 HCO
          have hsw : s = 0 ∨ s = 1 ∨ s = 2 := by omega
          rcases hsw with rfl | rfl | rfl
          case' inl =>
            have hA' : (dq.1 ++ [0]).countP (fun v : Int => v == 1) = ca + 0 := HSN.out.2.1
            have hB' : (dq.1 ++ [0]).countP (fun v : Int => v == 2) = cb + 0 := HSN.out.2.2
            have HAB := Lib.hid (show _ ∧ _ from ⟨hA', hB'⟩)
            clear hA' hB' hbd
            go_wp2_with (at_builtin; go_must (refine wpList_app rfl _ _ 22 22 rfl 1 _ _ _ rfl hD _ j0 _ Try.underlying22 hj0 jz0 jz1 rfl _ _ _ rfl hsrc (fun n hn => by rw [List.length_map, hl6] at hn; rw [jz2]; omega) ?_); intro a8 n8 k8 w8 D8 hown8 hu8; obtain ⟨z8, c8, h8⟩ := HB7.out w8 _ D8 (dq.1 ++ [0]) hu8 (by rw [List.map_append]; exact hown8))
            go_roundg (kn - (p + 1))
            case rel => exact ⟨p + 1, _, by omega, rfl, by go_num, by rw [HSN.out.1]; dsimp only; rw [HAB.out.1]; go_num, by rw [HSN.out.1]; dsimp only; rw [HAB.out.2]; go_num, by rw [HSN.out.1]; exact h8⟩
            case measure => omega
          case' inr.inl =>
            have hA' : (dq.1 ++ [1]).countP (fun v : Int => v == 1) = ca + 1 := HSN.out.2.1
            have hB' : (dq.1 ++ [1]).countP (fun v : Int => v == 2) = cb + 0 := HSN.out.2.2
            have HAB := Lib.hid (show _ ∧ _ from ⟨hA', hB'⟩)
            clear hA' hB' hbd
            go_wp2_with (at_builtin; go_must (refine wpList_app rfl _ _ 22 22 rfl 1 _ _ _ rfl hD _ j0 _ Try.underlying22 hj0 jz0 jz1 rfl _ _ _ rfl hsrc (fun n hn => by rw [List.length_map, hl6] at hn; rw [jz2]; omega) ?_); intro a8 n8 k8 w8 D8 hown8 hu8; obtain ⟨z8, c8, h8⟩ := HB7.out w8 _ D8 (dq.1 ++ [1]) hu8 (by rw [List.map_append]; exact hown8))
            go_roundg (kn - (p + 1))
            case rel => exact ⟨p + 1, _, by omega, rfl, by go_num, by rw [HSN.out.1]; dsimp only; rw [HAB.out.1]; go_num, by rw [HSN.out.1]; dsimp only; rw [HAB.out.2]; go_num, by rw [HSN.out.1]; exact h8⟩
            case measure => omega
          case' inr.inr =>
            have hA' : (dq.1 ++ [2]).countP (fun v : Int => v == 1) = ca + 0 := HSN.out.2.1
            have hB' : (dq.1 ++ [2]).countP (fun v : Int => v == 2) = cb + 1 := HSN.out.2.2
            have HAB := Lib.hid (show _ ∧ _ from ⟨hA', hB'⟩)
            clear hA' hB' hbd
            go_wp2_with (at_builtin; go_must (refine wpList_app rfl _ _ 22 22 rfl 1 _ _ _ rfl hD _ j0 _ Try.underlying22 hj0 jz0 jz1 rfl _ _ _ rfl hsrc (fun n hn => by rw [List.length_map, hl6] at hn; rw [jz2]; omega) ?_); intro a8 n8 k8 w8 D8 hown8 hu8; obtain ⟨z8, c8, h8⟩ := HB7.out w8 _ D8 (dq.1 ++ [2]) hu8 (by rw [List.map_append]; exact hown8))
            go_roundg (kn - (p + 1))
            case rel => exact ⟨p + 1, _, by omega, rfl, by go_num, by rw [HSN.out.1]; dsimp only; rw [HAB.out.1]; go_num, by rw [HSN.out.1]; dsimp only; rw [HAB.out.2]; go_num, by rw [HSN.out.1]; exact h8⟩
            case measure => omega
        rw [show p = kn by omega, ← HD.out.1.2] at h6 ⊢
        have H6 := Lib.hid h6
        clear h6
        have hA1 := List.countP_le_length (p := fun v : Int => v == 1) (l := (voO d).1)
        have hB1 := List.countP_le_length (p := fun v : Int => v == 2) (l := (voO d).1)
        have hvl : (voO d).1.length = kn := by rw [HD.out.1.2, cntN_len]
        rw [hvl] at hA1 hB1
        obtain ⟨ca, hca⟩ : ∃ ca, (voO d).1.countP (· == 1) = ca := ⟨_, rfl⟩
        obtain ⟨cb, hcb⟩ : ∃ cb, (voO d).1.countP (· == 2) = cb := ⟨_, rfl⟩
        have hA1 : ca ≤ kn := by rw [← hca]; exact hA1
        have hB1 : cb ≤ kn := by rw [← hcb]; exact hB1
        rw [hca, hcb]
        have hhb : 0 ≤ (howO d).1 ∧ (howO d).1 ≤ 2 := cntR_bd (by decide) _
        obtain ⟨how, hhow⟩ : ∃ how, (howO d).1 = how := ⟨_, rfl⟩
        have HC2 := Lib.hid (show _ ∧ _ ∧ _ from ⟨hca, hcb, hhow⟩)
        rw [hhow] at hhb
        clear hca hcb hhow hvl
        go_wp2_with fail
        refine (H6.out.count 2).mono ?_
        rintro e w7 ⟨rfl, h7⟩
        rw [show (cntR 2 (voO d).2).1 = how from HC2.out.2.2]
        obtain ⟨c3, z3⟩ := one_cell (i := 3) h7 rfl
        have h8 : RdF w0 (w7.setCell ⟨x, 3, none⟩ (.int .i64 how)) r (howO d).2 _ rows := one_how h7 how
        have H8 := Lib.hid h8
        clear h7 h8 H6
        go_wp2_with fail
        refine (H8.out.count 4).mono ?_
        rintro e w8 ⟨rfl, h8⟩
        rw [show (cntR 4 (howO d).2).1 = (on : Int) from HD.out.2.2.2]
        obtain ⟨z4, c4, h9⟩ := one_vd h8 (Upd.alloc1 w8 _ []) (zeroB_row w8 kn (by omega))
        have H9 := Lib.hid (show RdF w0 _ r (oO d).2 _ rows from h9)
        clear h8 h9 H8 c3 z3
        go_wp2_with fail
        obtain ⟨yd, hyd⟩ : ∃ yd, yd = (some ⟨w8.heap.size, 0, none⟩ : Option Addr) := ⟨_, rfl⟩
        rw [← hyd] at H9 ⊢
        clear hyd z4 c4
        go_loopg [17] kn (fun g vi wr => ∃ p : Nat, p ≤ kn ∧ g = kn - p ∧ vi = .int .i64 (p : Int) ∧ RdF w0 wr r (oO d).2 (oneTh x id how vs vv (.slice yd kn kn) (shO d).1 (voO d).1 (List.replicate p true ++ List.replicate (kn - p) false) ++ A) rows)
        case atStart => exact ⟨0, Nat.zero_le _, rfl, rfl, H9.out⟩
        case round =>
          obtain ⟨p, hp, hk2, hvi, h10⟩ := hrel
          subst hvi
          clear H9
          by_cases hlt : p < kn
          · obtain ⟨-, -, -, hset⟩ := one_dn h10
            obtain ⟨z, rfl, hzs, hzf, ⟨uz, hzu⟩, hnext⟩ := hset p (by rw [List.length_append, List.length_replicate, List.length_replicate]; omega)
            have c4 := (one_cell (i := 4) h10 rfl).1
            have hN := hnext true
            rw [repl_on hlt] at hN
            have HN := Lib.hid hN
            clear hN hnext hset h10
            go_wp2_with fail
            go_roundg (kn - (p + 1))
            case rel => exact ⟨p + 1, by omega, rfl, by go_num, HN.out⟩
            case measure => omega
          rw [show p = kn by omega, Nat.sub_self, List.replicate_zero, List.append_nil] at h10
          have H10 := Lib.hid h10
          clear h10
          go_wp2_with fail
          go_loopg [18, 19] on (fun g vb vi wr => ∃ (p : Nat) (before : Int) (dq : Rd) (dn : List Bool), p ≤ on ∧ g = on - p ∧ vi = .int .i64 (p : Int) ∧ vb = .int .i64 before ∧ dn.length = kn ∧
            owesR (shO d).1 on (-1) (oO d).2 (List.replicate kn true) = owesR (shO d).1 (on - p) before dq dn ∧ RdF w0 wr r dq (oneTh x id how vs vv (.slice yd kn kn) (shO d).1 (voO d).1 dn ++ A) rows)
          case atStart => exact ⟨0, -1, _, _, Nat.zero_le _, rfl, rfl, rfl, by rw [List.length_replicate], rfl, H10.out⟩
          case round =>
            obtain ⟨p, before, dq, dn, hp, hk2, hvi, hvb, hdn, hrec, h11⟩ := hrel
            subst hvi hvb
            clear H10
            have hbd := h11.isBad.1
            have hbel := h11.drop.below
            by_cases hlt : p < on
            · rw [show on - p = (on - (p + 1)) + 1 by omega, owesR] at hrec
              cases hb2 : dq.2 with
              | true =>
                rw [hb2] at hbd
                rw [if_pos hb2] at hrec
                have hnone : res = none := by
                  have := HQ.out.2
                  rw [if_neg (by omega), HG0.out, hrec] at this
                  dsimp only at this
                  rw [if_pos (.inl hb2)] at this
                  exact this.symm
                clear hb2 hrec h11
                have HN := Lib.hid hnone
                have HB := Lib.hid hbel
                clear hnone hbel
                go_wp2_with fail
                go_ret2
                rw [HN.out]
                exact ⟨rfl, HB.out⟩
              | false =>
                rw [hb2] at hbd
                rw [if_neg (by rw [hb2]; decide)] at hrec
                have hco := h11.count 3
                obtain ⟨s, hs⟩ : ∃ s, (cntR 3 dq).1 = s := ⟨_, rfl⟩
                rw [hs] at hco hrec
                have HCO := Lib.hid hco
                have HRC := Lib.hid hrec
                clear hco hs h11 hrec hb2 hbel
                go_wp2_with fail
                refine HCO.out.mono ?_
                rintro e w11 ⟨rfl, h11⟩
                obtain ⟨E, hE⟩ := one_read h11
                have c1 := (one_cell (i := 1) h11 rfl).1
                have hbel := h11.drop.below
                have HP := Lib.hid (place_any vs (shO d).1 E w11 hE s)
                have H11 := Lib.hid h11
                clear h11 hE HCO hbd
                go_wp2_with fail
                refine HP.out.mono ?_
                rintro e w12 ⟨rfl, hw12⟩
                subst w12
                clear HP
                cases hx : idxF s (shO d).1 with
                | none =>
                  have hnone : res = none := by
                    have := HQ.out.2
                    have h2 := HRC.out
                    rw [hx] at h2
                    rw [if_neg (by omega), HG0.out, h2] at this
                    exact this.symm
                  have hix : idxS s (shO d).1 = -1 := by unfold idxS; rw [hx]
                  rw [hix]
                  clear hx hix
                  have HN := Lib.hid hnone
                  have HB := Lib.hid hbel
                  clear hnone hbel
                  go_wp2_with fail
                  go_ret2
                  rw [HN.out]
                  exact ⟨rfl, HB.out⟩
                | some i =>
                have hix : idxS s (shO d).1 = (i : Int) := by unfold idxS; rw [hx]
                rw [hix]
                clear hix
                have hil : i < kn := by
                  have := idx_lt hx
                  rw [HD.out.1.1, cntN_len] at this
                  exact this
                by_cases hle : s ≤ before
                · have hnone : res = none := by
                    have := HQ.out.2
                    have h2 := HRC.out
                    rw [hx] at h2
                    dsimp only at h2
                    rw [if_pos hle] at h2
                    rw [if_neg (by omega), HG0.out, h2] at this
                    exact this.symm
                  have q3 : decide (s ≤ before) = true := decide_eq_true hle
                  clear hx
                  have HN := Lib.hid hnone
                  have HB := Lib.hid hbel
                  clear hnone hbel
                  go_wp2_with fail
                  go_ret2
                  rw [HN.out]
                  exact ⟨rfl, HB.out⟩
                have q3 : decide (s ≤ before) = false := decide_eq_false hle
                obtain ⟨-, -, -, hset⟩ := one_dn H11.out
                obtain ⟨z, rfl, hzs, hzf, ⟨uz, hzu⟩, hnext⟩ := hset i (by omega)
                have c4 := (one_cell (i := 4) H11.out rfl).1
                have HN := Lib.hid (hnext false)
                have HR2 := Lib.hid (show owesR (shO d).1 on (-1) (oO d).2 (List.replicate kn true) = owesR (shO d).1 (on - (p + 1)) s (cntR 3 dq).2 (dn.set i false) from by
                  have h2 := HRC.out
                  rw [hx] at h2
                  dsimp only at h2
                  rw [if_neg hle] at h2
                  exact h2)
                clear hnext hset hx hbel
                go_wp2_with fail
                go_roundg (on - (p + 1))
                case rel => exact ⟨p + 1, s, _, dn.set i false, by omega, rfl, by go_num, rfl, by rw [List.length_set]; exact hdn, HR2.out, HN.out⟩
                case measure => omega
            rw [show on - p = 0 by omega, owesR] at hrec
            have HRN := Lib.hid (show dq.2 = true ∨ id ≤ last ∨ goodO (shO d).1 (voO d).1 (howO d).1 (on : Int) = false → res = none from fun hc => by
              have := HQ.out.2
              rw [if_neg (by omega), HG0.out, hrec] at this
              dsimp only at this
              rw [if_pos hc] at this
              exact this.symm)
            have HRY := Lib.hid (show dq.2 = false → ¬ id ≤ last → goodO (shO d).1 (voO d).1 (howO d).1 (on : Int) = true → getON n.toNat 0 d0 [] = getON (n.toNat - (j + 1)) id dq (gs.map OneG.ent ++ [(id, ⟨(shO d).1, (voO d).1, (howO d).1, owesL (shO d).1 dn⟩)]) from fun a1 a2 a3 => by
              rw [HG0.out, hrec]
              dsimp only
              rw [if_neg]
              rintro (h | h | h)
              · rw [a1] at h; cases h
              · exact a2 h
              · rw [a3] at h; cases h)
            have HE8 := Lib.hid (show dq.2 = false → dq.1.length + 8 ≤ d.1.length from fun h => owesR_eight hrec h)
            have HGO := Lib.hid (show goodO (shO d).1 (voO d).1 (howO d).1 (on : Int) = (risS (shO d).1 && decide (0 < (shO d).1.length) && !decide (1 < cb) && !(cb == 1 && how != 2) && !(ca == kn && how != 1) && !(how == 1 && ca != kn) && !(how == 0 && (on : Int) != (kn : Int))) from by
              have hl : (shO d).1.length = kn := by rw [HD.out.1.1, cntN_len]
              obtain ⟨c1, c2, c3⟩ := HC2.out
              unfold goodO
              rw [c1, c2, c3, hl])
            have HT := Lib.hid h11
            have c0 := (one_cell (i := 0) h11 rfl).1
            have c1 := (one_cell (i := 1) h11 rfl).1
            obtain ⟨B, hB⟩ : ∃ B, (dq.2 || (decide (id ≤ last) || !goodO (shO d).1 (voO d).1 (howO d).1 (on : Int))) = B := ⟨_, rfl⟩
            have HBB := Lib.hid hB
            clear hrec h11 hB
            go_upto_region 41 with fail
            go_cut [184] (fun b W => b = .bool B ∧ Upd wr W [] [])
            case first =>
              as_aux_lemma =>
                cases hb2 : dq.2 with
                | true =>
                  have HV := Lib.hid (show B = true by rw [← HBB.out, hb2]; rfl)
                  rw [hb2] at hbd
                  clear hb2 HBB HGO
                  go_wp2_with fail
                  go_meet
                  rw [HV.out]
                  exact ⟨rfl, (Upd.refl _ _)⟩
                | false =>
                rw [hb2] at hbd
                by_cases hl : id ≤ last
                · have HV := Lib.hid (show B = true by rw [← HBB.out, hb2, decide_eq_true hl]; rfl)
                  have q3 : decide (id ≤ last) = true := decide_eq_true hl
                  clear hb2 HBB HGO
                  go_wp2_with fail
                  go_meet
                  rw [HV.out]
                  exact ⟨rfl, (Upd.refl _ _)⟩
                have q3 : decide (id ≤ last) = false := decide_eq_false hl
                have HBB := Lib.hid (show (!goodO (shO d).1 (voO d).1 (howO d).1 (on : Int)) = B by rw [← HBB.out, hb2, q3]; rfl)
                rw [HGO.out] at HBB
                clear HGO
                obtain ⟨E, hE⟩ := one_read HT.out
                have HRI := Lib.hid (rrising_any vs (shO d).1 E wr hE)
                clear hE hb2 hl hbel
                go_wp2_with fail
                refine HRI.out.mono ?_
                rintro e w13 ⟨rfl, hu13⟩
                have b3 := (one_cell (i := 3) (HT.out.keep hu13) rfl).1
                have HU13 := Lib.hid hu13
                clear hu13 HRI HT c0 c1 hbd
                cases hr : (risS (shO d).1 && decide (0 < (shO d).1.length)) with
                | false =>
                  have HV := Lib.hid (show B = true by rw [← HBB.out, hr]; rfl)
                  clear hr HBB
                  go_wp2_with fail
                  go_meet
                  rw [HV.out]
                  exact ⟨rfl, HU13.out⟩
                | true =>
                have HBB := Lib.hid (show (!(!decide (1 < cb) && !(cb == 1 && how != 2) && !(ca == kn && how != 1) && !(how == 1 && ca != kn) && !(how == 0 && (on : Int) != (kn : Int)))) = B by rw [← HBB.out, hr, Bool.true_and])
                clear hr
                by_cases h1 : 1 < cb
                · have q4 : decide ((1 : Int) < (cb : Int)) = true := decide_eq_true (by omega)
                  have HV := Lib.hid (show B = true by rw [← HBB.out]; simp [h1])
                  clear HBB
                  go_wp2_with fail
                  go_meet
                  rw [HV.out]
                  exact ⟨rfl, HU13.out⟩
                have hw : how = 0 ∨ how = 1 ∨ how = 2 := by omega
                have hcb : cb = 0 ∨ cb = 1 := by omega
                clear h1
                have e1 : ((ca : Int) == (kn : Int)) = decide (ca = kn) := by
                  by_cases hk : ca = kn
                  · simp [hk]
                  · rw [decide_eq_false hk, beq_eq_false_iff_ne]; omega
                have e2 : ((ca : Int) != (kn : Int)) = !decide (ca = kn) := by rw [← e1]; rfl
                have e3 : ((on : Int) != (kn : Int)) = !decide (on = kn) := by
                  by_cases hk : on = kn
                  · simp [hk]
                  · rw [decide_eq_false hk, Bool.not_false, bne_iff_ne]; omega
                have HBC := Lib.hid (show (!(!decide (1 < cb) && !(cb == 1 && how != 2) && !(decide (ca = kn) && how != 1) && !(how == 1 && !decide (ca = kn)) && !(how == 0 && !decide (on = kn)))) = B by
                  rw [← HBB.out, e3]
                  rfl)
                clear HBB
                obtain ⟨k1, hk1⟩ : ∃ k1, decide (ca = kn) = k1 := ⟨_, rfl⟩
                obtain ⟨k2, hk2'⟩ : ∃ k2, decide (on = kn) = k2 := ⟨_, rfl⟩
                rw [hk1] at e1 e2 HBC
                rw [hk2'] at e3 HBC
                clear hk1 hk2'
                rcases hcb with rfl | rfl
                case' inl =>
                  rcases hw with rfl | rfl | rfl <;> cases k1
                  case' inl.false => cases k2
                case' inr =>
                  rcases hw with rfl | rfl | rfl
                  case' inr.inr => cases k1
                all_goals
                  have HV := HBC
                  go_wp2_with fail
                  go_meet
                  rw [← HV.out]
                  exact ⟨by first | rfl | simp, HU13.out⟩
            case rest =>
              obtain ⟨rfl, hu13⟩ := hcut
              have h13 := HT.out.keep hu13
              have hbel := h13.drop.below
              clear HT c0 c1 hbd
              cases B with
              | true =>
                have hnone := HRN.out (by
                  have := HBB.out
                  simp only [Bool.or_eq_true, decide_eq_true_eq, Bool.not_eq_true'] at this
                  exact this)
                clear hu13 h13
                have HN := Lib.hid hnone
                have HB := Lib.hid hbel
                clear hnone hbel
                go_wp2_with fail
                go_ret2
                rw [HN.out]
                exact ⟨rfl, HB.out⟩
              | false =>
              have HB2 := Lib.hid (show dq.2 = false ∧ ¬ id ≤ last ∧ goodO (shO d).1 (voO d).1 (howO d).1 (on : Int) = true from by
                have := HBB.out
                simp only [Bool.or_eq_false_iff, decide_eq_false_iff_not, Bool.not_eq_false'] at this
                exact this)
              have h13' := h13
              rw [HG.out.1] at h13'
              obtain ⟨DS, hDS, cc, -⟩ := one_push h13'
              obtain ⟨ua, un, uc, rfl, -⟩ := hDS.len
              obtain ⟨DV, hDV, -⟩ := one_sh h13
              obtain ⟨sa, sn, sk, rfl, -⟩ := hDV.len
              obtain ⟨DU, hDU, -⟩ := one_vo h13
              obtain ⟨ta, tn, tk, rfl, -⟩ := hDU.len
              have b0 := (one_cell (i := 0) h13 rfl).1
              have b1 := (one_cell (i := 1) h13 rfl).1
              have b2 := (one_cell (i := 2) h13 rfl).1
              have b3 := (one_cell (i := 3) h13 rfl).1
              have b4 := (one_cell (i := 4) h13 rfl).1
              have H13 := Lib.hid h13
              clear hu13 h13 h13' hDS hDV hDU
              have HNEXT := Lib.hid (HRY.out HB2.out.1 HB2.out.2.1 HB2.out.2.2)
              have hj9 : (j : Int) < 1001 := by have := HG.out.2.2.2.1; omega
              clear hbel
              go_wp2_with fail
              refine wp_region_M (fun W => W.cell? ⟨c, 0, none⟩ = some (.slice ua un uc) ∧ W.cell? ⟨x, 0, none⟩ = some (.int .i64 id) ∧ W.cell? ⟨x, 1, none⟩ = some (.slice sa sn sk) ∧ W.cell? ⟨x, 2, none⟩ = some (.slice ta tn tk) ∧ W.cell? ⟨x, 3, none⟩ = some (.int .i64 how) ∧ W.cell? ⟨x, 4, none⟩ = some (.slice yd kn kn)) 8 (by kernel_rfl) ?_
              refine wpAnyM_take (by kernel_rfl) (by intro c a d v w h; cases d <;> exact h) [(0, false), (1, false), (2, false), (3, false), (4, true), (5, true)] (fuel := 5) (by kernel_rfl) ?_
              apply Exists.intro; refine ⟨?_, ⟨cc, b0, b1, b2, b3, b4⟩, ?_⟩
              · iterate 6 ((first | (apply yieldN; (· (simp only [List.getElem?_toArray, List.getElem?_cons_succ, List.getElem?_cons_zero]; try rfl)); (· rfl)) | ((first | apply yieldP | apply yieldL); (· (simp only [List.getElem?_toArray, List.getElem?_cons_succ, List.getElem?_cons_zero]; try rfl)); (· rfl); (· (intros; go_simp; try with_reducible rfl)))); (· (simp only [Act.put, List.setIfInBounds_toArray, List.set_cons_zero, List.set_cons_succ]; try rfl)))
                exact rfl
              refine wpAnyM_one (fuel := 4) (i := 6) (by kernel_rfl) (by rfl) (fun K hK => ?_)    -- buildSlice
              go_wp2_with fail
              have h14 := (H13.out.keep (Upd.refl wc []).drew).keep (Upd.alloc0 wc.drew (.cells #[.int .i64 id, .slice sa sn sk, .slice ta tn tk, .int .i64 how, .slice yd kn kn] 85) [])
              have hrb := one_new wc.drew 5 (by decide) #[.int .i64 id, .slice sa sn sk, .slice ta tn tk, .int .i64 how, .slice yd kn kn] rfl 85
              rw [HG.out.1] at h14
              obtain ⟨DS, hDS, cc2, hpush⟩ := one_push h14
              refine hK _ _ ⟨cc2, (one_cell (i := 0) h14 rfl).1, (one_cell (i := 1) h14 rfl).1, (one_cell (i := 2) h14 rfl).1, (one_cell (i := 3) h14 rfl).1, (one_cell (i := 4) h14 rfl).1⟩ ?_
              clear hK
              obtain ⟨n1, hn1, hsrc⟩ := hrb.src (P := Try.prog) (tx := 49) Try.underlying49 (by
                intro u hu
                simp only [List.mem_cons, List.not_mem_nil, or_false] at hu
                rcases hu with rfl | rfl | rfl | rfl | rfl <;> rfl)
              obtain rfl : n1 = 1 := by simp at hn1; omega
              refine wpAnyM_one (fuel := 3) (i := 7) (by kernel_rfl) (by rfl) (fun K hK => ?_)    -- b:append
              refine wpList_app rfl _ _ 49 49 rfl 5 _ _ _ rfl hDS _ i0 _ Try.underlying49 hi0 hz0 hz1 rfl _ _ _ rfl hsrc (fun n hn => by rw [flatG_len cell_len] at hn; have := HG.out.2.2.2.1; have := HG.out.2.2.2.2.1; rw [hz2]; omega) ?_
              intro a8 n8 k8 w8 D8 hown8 hu8
              obtain ⟨z8, c8, hcs, h8⟩ := hpush w8 _ D8 hu8 hown8
              have S8 : w8.cell? ⟨c, 0, none⟩ = some (.slice ua un uc) ∧ w8.cell? ⟨x, 0, none⟩ = some (.int .i64 id) ∧ w8.cell? ⟨x, 1, none⟩ = some (.slice sa sn sk) ∧ w8.cell? ⟨x, 2, none⟩ = some (.slice ta tn tk) ∧ w8.cell? ⟨x, 3, none⟩ = some (.int .i64 how) ∧ w8.cell? ⟨x, 4, none⟩ = some (.slice yd kn kn) := ⟨c8, hcs 0 _ rfl, hcs 1 _ rfl, hcs 2 _ rfl, hcs 3 _ rfl, hcs 4 _ rfl⟩
              have H8 := Lib.hid h8
              clear h14 hrb hsrc hn1 hDS hpush hown8 hu8 h8 hcs cc2 cc b0 b1 b2 b3 b4
              go_wp2_with fail
              refine hK _ _ S8 ?_
              clear hK S8
              refine wpAnyM_of_any _ _ _ _ (by decide) ?_
              refine wpAny_list [8, 9, 10] (fuel := 0) (by kernel_rfl) ?_
              simp only [List.filterMap_cons, List.filterMap_nil, List.getElem?_toArray, List.getElem?_cons_succ, List.getElem?_cons_zero]
              go_wp2_with fail
              go_roundg (n.toNat - (j + 1))
              case rel =>
                obtain ⟨-, g2, g3, g4, g5, g6⟩ := HG.out
                have hl : (shO d).1.length = kn := by rw [HD.out.1.1, cntN_len]
                have hv : (voO d).1.length = kn := by rw [HD.out.1.2, cntN_len]
                have h8 := HE8.out HB2.out.1
                refine ⟨j + 1, id, dq, _, _, by omega, by omega, by go_num, rfl, by have := HB2.out.2.1; omega, by rw [List.length_append, g5]; rfl, fun g hg => ?_, H8.out, ?_, by omega⟩
                · rcases List.mem_append.1 hg with hg | hg
                  · exact g3 g hg
                  · obtain rfl := List.mem_singleton.1 hg
                    exact ⟨by show (voO d).1.length = (shO d).1.length; omega, by show dn.length = (shO d).1.length; omega, by show (shO d).1.length ≤ 4; omega⟩
                · rw [HNEXT.out, List.map_append, HC2.out.2.2]
                  rfl
              case measure => omega
end
end Go.Proofs.Ytebmmbommkpjaaa

/-
  Regions whose order is drawn: an operation whose guard says no.
-/
namespace Go.Av
section
variable {P : Program} {ops : Array Oper} {Q : Exit → Act → World → Prop} {md : Region.Mode} {S : World → Prop}
theorem wpAnyM_skip {N i : Nat} {o : Oper} {fuel : Nat} {listed : Array Bool} {a a' : Act} {w : World} (hr : Region.ready md ops listed = [i]) (ho : ops[i]? = some o) (hw : Region.wanted o (yielded ops a.tmps) = false) (ha : a' = a.put o.dst undef) (hS : S w)
    (h : wpAnyM P md ops Q S N fuel (listed.setIfInBounds i true) a' w) : wpAnyM P md ops Q S N (fuel + 1) listed a w := by
  refine wpAnyM_one hr ho (fun K hK => ?_)
  unfold wpList
  rw [if_neg (by rw [hw]; simp)]
  unfold wpList
  rw [← ha]
  exact hK _ _ hS h
end
end Go.Av

/-
  CoordReads: any bytes, and some Coord's with one changed, are a Coord, or none, as the document says.
-/
namespace Go.Proofs.Ytebmmbommkpjaaa
open Go.RowKit Go.Av

section
variable {w0 w : World} {c : Nat} {S : CoS} {rows : List (Value × Bs)}
/-- The document's reader, beside the program's: the same is read. -/
theorem read_two (h : Co w0 w c S [] rows) {v : Value} {b : Bs} (hv : (v, b) ∈ rows) (hb : b.length ≤ 8000) (hs : getS b = some S) :
    Calls Try.prog 32 #[v] w fun e w' => ∃ d, e = .returned (.tuple #[.pointer (some ⟨d, 0, none⟩), .bool true]) ∧ TwoC w0 w' c d S 1000 [] rows := by
  obtain ⟨X, hX, back⟩ := Co.side (A := []) h
  have := get_coord (R := X) hX v b hv hb
  rw [getO_same (by omega), hs] at this
  refine this.mono ?_
  rintro e w' ⟨d, rfl, u, gs, hg, hC⟩
  refine ⟨d, rfl, S, (getS_inv hs).1, ?_, u, gs, hg, hC.wf, hC.few, back w' (crTh d u gs) ?_⟩
  · rw [← hg, List.length_map]
    exact hC.few
  · exact hC.sep
theorem read_none (h : Sep w0 w [] rows) {v : Value} {b : Bs} (hv : (v, b) ∈ rows) (hb : b.length ≤ 8000) (hs : getS b = none) :
    Calls Try.prog 32 #[v] w fun e w' => e = .returned (.tuple #[.pointer none, .bool false]) ∧ Below w0.heap.size w0 w' := by
  have := get_coord h v b hv hb
  rw [getO_same (by omega), hs] at this
  exact this
theorem get_none (h : Sep w0 w [] rows) {v : Value} {b : Bs} (hv : (v, b) ∈ rows) (hb : b.length ≤ 8000) (hs : getS b = none) :
    Calls Try.prog 21 #[v] w fun e w' => e = .returned (.tuple #[.pointer none, .int .i64 3]) ∧ Sep w0 w' [] rows := by
  have := get_any h v b hv (by omega)
  rw [hs] at this
  exact this
theorem get_some (h : Sep w0 w [] rows) {v : Value} {b : Bs} (hv : (v, b) ∈ rows) (hb : b.length ≤ 8000) (hs : getS b = some S) :
    Calls Try.prog 21 #[v] w fun e w' => ∃ c, e = .returned (.tuple #[.pointer (some ⟨c, 0, none⟩), .int .i64 0]) ∧ Co w0 w' c S [] rows := by
  have := get_any h v b hv (by omega)
  rw [hs] at this
  exact this
/-- The bytes that Put made are a row by themselves. -/
theorem put_row (h : Co w0 w c S [] rows) (hn : S.length ≤ 40) :
    Calls Try.prog 26 #[.pointer (some ⟨c, 0, none⟩)] w fun e w' => ∃ v, e = .returned v ∧ Sep w0 w' [ThRow 1 v ((bytesS S).map bv)] rows ∧ (bytesS S).length ≤ 8000 := by
  have hw := h.wf
  refine (put_any h (by omega)).mono ?_
  rintro e w' ⟨v, rfl, h'⟩
  obtain ⟨X, hX, -⟩ := Co.side (A := [_]) h'
  refine ⟨v, rfl, ?_, ?_⟩
  · obtain ⟨Y, hY⟩ : ∃ Y, Y = X := ⟨_, rfl⟩
    exact Sep.dropL X (hX.perm List.perm_append_comm)
  · have := entK_len hw (keysS S)
    rw [keys_len] at this
    unfold bytesS
    rw [List.length_append, packI_len]
    omega
theorem actR_cells {W : World} {bx : Nat} {op id sh : Int} {vs : Value} {yes : Bool} (h : W.heap[bx]? = some (.cells #[.int .i64 op, .int .i64 id, vs, .int .i64 sh, .bool yes] 40 (0, 0))) :
    W.cell? ⟨bx, 0, none⟩ = some (.int .i64 op) ∧ W.cell? ⟨bx, 1, none⟩ = some (.int .i64 id) ∧ W.cell? ⟨bx, 2, none⟩ = some vs ∧ W.cell? ⟨bx, 3, none⟩ = some (.int .i64 sh) ∧ W.cell? ⟨bx, 4, none⟩ = some (.bool yes) :=
  ⟨cell_of h 0 rfl, cell_of h 1 rfl, cell_of h 2 rfl, cell_of h 3 rfl, cell_of h 4 rfl⟩
theorem begin_len (S : CoS) (id : Int) (l : List Int) : (beginS S id l).2.length ≤ S.length + 1 := by simpa [stepS] using step_len S 0 id l 0 false
theorem vote_len (S : CoS) (id k : Int) (ok : Bool) : (voteS S id k ok).2.length ≤ S.length + 1 := by simpa [stepS] using step_len S 1 id [] k ok
theorem done_len (S : CoS) (id k : Int) : (doneS S id k).2.length ≤ S.length + 1 := by simpa [stepS] using step_len S 2 id [] k false
theorem abort_len (S : CoS) (id : Int) : (abortS S id).2.2.length ≤ S.length + 1 := by simpa [stepS] using step_len S 3 id [] 0 false
end

theorem infoRow : (Try.prog.info? 53).map (fun i => (i.zero, i.size, i.bytes)) = some (some (.slice none 0 0), 1, 24) := by kernel_rfl
theorem idx0 (a b : Option Addr) (n c m d : Nat) (W : World) : (Instr.index 57 (.agg #[.slice a n c, .slice b m d]) (.int .i64 0)).run Try.prog W = .ok (.slice a n c) W := by
  obtain ⟨i0, hi0, hz0, hz1, hz2⟩ := info_parts infoRow
  simp [Instr.index, run_underlying Try.underlying57, asIntOf, sizeOf, typeInfo, hi0, hz1, part, go_sem]
theorem idx1 (a b : Option Addr) (n c m d : Nat) (W : World) : (Instr.index 57 (.agg #[.slice a n c, .slice b m d]) (.int .i64 1)).run Try.prog W = .ok (.slice b m d) W := by
  obtain ⟨i0, hi0, hz0, hz1, hz2⟩ := info_parts infoRow
  simp [Instr.index, run_underlying Try.underlying57, asIntOf, sizeOf, typeInfo, hi0, hz1, part, go_sem]


set_option maxRecDepth 100000 in
set_option maxHeartbeats 64000000 in
theorem coordReads_walk (a0 : Option Addr) (len0 cap0 : Nat) (acts : List ActS) (at_ by_ : Int) (a3 : Option Addr) (len3 cap3 : Nat) (z3 : List Int) (w : World) (h1 : IsActs w a0 len0 cap0 acts) (hby : (Lit.int .u8 by_).wf = true) (h3 : IsBytes w a3 len3 cap3 z3) :
    Calls Try.prog 8 #[.slice a0 len0 cap0, .int .i64 at_, .int .u8 by_, .slice a3 len3 cap3] w fun e w' => e = .returned (.bool true) ∧ Below w.heap.size w w' := by
  have hk2 : 0 ≤ by_ ∧ by_ < 256 := by
    simp only [Lit.wf, Bool.and_eq_true, decide_eq_true_eq] at hby
    have h1 : IntKind.u8.min = 0 := by decide
    have h2 : IntKind.u8.max = 255 := by decide
    rw [h1, h2] at hby
    omega
  obtain ⟨yn, rfl⟩ : ∃ yn : Nat, by_ = yn := ⟨by_.toNat, by omega⟩
  have hyn : yn < 256 := by omega
  obtain ⟨hla, hlca, hca, haa, hac, hax⟩ := h1
  subst hla
  unfold maxLen at hca
  obtain ⟨b, E3, hlb, hr3⟩ := h3.read
  have hcap3 : len3 ≤ cap3 ∧ cap3 ≤ maxLen := by
    obtain ⟨a, n, c, hv, -, hn, hc, -⟩ := hr3
    cases hv
    exact ⟨hn, hc⟩
  unfold maxLen at hcap3
  subst hlb
  have HAC := Lib.hid (show _ ∧ _ ∧ _ from ⟨haa, hac, hax⟩)
  have HB3 := Lib.hid (show ∃ E, ReadRow w 1 (.slice a3 b.length cap3) (b.map bv) E from ⟨E3, hr3⟩)
  clear haa hac hax h3 hr3 hby hk2
  go_enter Try.func8, Try.ntmps8
  go_wp2_with fail
  refine (awake20_any _).mono ?_
  rintro e w1 ⟨rfl, hu1⟩
  by_cases hl40 : 40 < acts.length
  · have HB := Lib.hid hu1.below
    clear hu1
    go_wp2_with fail
    go_ret
    exact ⟨rfl, HB.out⟩
  by_cases hb600 : 600 < b.length
  · have HB := Lib.hid hu1.below
    clear hu1
    go_wp2_with fail
    go_ret
    exact ⟨rfl, HB.out⟩
  have HBR := Lib.hid (show Sep w w1 [] [(.slice a3 b.length cap3, b)] from by
    obtain ⟨E, hE⟩ := HB3.out
    exact ((Sep.start w).old hE).keep hu1)
  have HNW := Lib.hid (new_coord HBR.out)
  clear hu1
  go_wp2_with fail
  refine HNW.out.mono ?_
  rintro e w2 ⟨c, rfl, hC⟩
  have HT := Lib.hid hC
  clear hC HNW HBR
  go_wp2_with fail
  go_loopg [10] acts.length (fun k vi wr => ∃ (p : Nat) (S : CoS), p ≤ acts.length ∧ k = acts.length - p ∧ vi = .int .i64 (p : Int) ∧ Co w wr c S [] [(.slice a3 b.length cap3, b)] ∧ S.length ≤ p)
  case atStart => exact ⟨0, [], Nat.zero_le _, rfl, rfl, HT.out, Nat.le_refl _⟩
  case round =>
    clear HT
    obtain ⟨p, S, hpl, hk, hvi, H, hSl⟩ := hrel
    subst hvi
    by_cases hlt : p < acts.length
    case neg =>
      have HP := Lib.hid (put_row H (by omega))
      clear H
      go_wp2_with fail
      refine HP.out.mono ?_
      rintro e w3 ⟨v, rfl, h3, HBL⟩
      obtain ⟨bs, hbs⟩ : ∃ bs, bytesS S = bs := ⟨_, rfl⟩
      rw [hbs] at h3 HBL
      obtain ⟨av, nv, cv, rfl, hlv, hnv, hcv⟩ := h3.rowLen
      rw [List.length_map, Nat.mul_one] at hlv
      subst hlv
      unfold maxLen at hcv
      have hbl := HBL
      have H3 := Lib.hid h3
      clear h3 hbs HP HBL hSl
      by_cases hat : 0 ≤ at_ ∧ at_ < bs.length
      case neg =>
        have HRW := Lib.hid (show Sep w w3 [] [(.slice av bs.length cv, bs), (.slice a3 b.length cap3, b)] from (H3.out.toRow))
        by_cases hat0 : 0 ≤ at_
        case' pos => have hat1 : ¬ at_ < bs.length := fun h => hat ⟨hat0, h⟩
        all_goals
          clear hat H3
          go_wp2_with fail
          go_loopg [98] 2 (fun k vi wr => ∃ p : Nat, p ≤ 2 ∧ k = 2 - p ∧ vi = .int .i64 (p : Int) ∧ Sep w wr [] [(.slice av bs.length cv, bs), (.slice a3 b.length cap3, b)])
          case atStart => exact ⟨0, by omega, rfl, rfl, HRW.out⟩
          case round =>
            obtain ⟨p, hp2, hk, hvi, H⟩ := hrel
            clear HRW
            have H := Lib.hid H
            subst hvi
            by_cases hpe : p = 2
            · subst hpe
              have hvi : Value.int .i64 ((2 : Nat) : Int) = .int .i64 2 := rfl
              rw [hvi]
              go_wp2_with fail
              go_ret
              exact ⟨rfl, H.out.below⟩
            have hp1 : p < 2 := by omega
            have hix : ∃ yv yb, (∀ W, (Instr.index 57 (.agg #[.slice av bs.length cv, .slice a3 b.length cap3]) (.int .i64 (p : Int))).run Try.prog W = .ok yv W) ∧ (yv, yb) ∈ [(Value.slice av bs.length cv, bs), (.slice a3 b.length cap3, b)] ∧ yb.length ≤ 8000 := by
              rcases (show p = 0 ∨ p = 1 by omega) with rfl | rfl
              · exact ⟨_, bs, idx0 av a3 bs.length cv b.length cap3, by simp, by omega⟩
              · exact ⟨_, b, idx1 av a3 bs.length cv b.length cap3, by simp, by omega⟩
            obtain ⟨yv, yb, hix, hym, hyl⟩ := hix
            have HYM := Lib.hid hym
            clear hym
            as_aux_lemma =>
              have HWR := Lib.hid (show Sep wr wr [] [(.slice av bs.length cv, bs), (.slice a3 b.length cap3, b)] from Sep.startRows fun r hr => H.out.get hr)
              cases hgs : getS yb with
              | none =>
                have HG := Lib.hid (get_none HWR.out HYM.out hyl hgs)
                go_wp2_with fail
                refine HG.out.mono ?_
                rintro e w5 ⟨rfl, h5⟩
                have HG2 := Lib.hid (read_none h5 HYM.out hyl hgs)
                clear h5 HG hgs
                go_wp2_with fail
                refine HG2.out.mono ?_
                rintro e w6 ⟨rfl, h6⟩
                have HX := Lib.hid (H.out.keep (Upd.of_below h6))
                clear h6 HG2 H HWR
                go_wp2_with fail
                refine wp_region_M (fun W => True) 17 (by kernel_rfl) ?_
                refine wpAnyM_take (by kernel_rfl) (by intro c a d v w h; cases d <;> exact h) [(0, false), (1, false), (2, false), (5, false), (6, true)] (fuel := 12) (by kernel_rfl) ?_
                apply Exists.intro; refine ⟨?_, trivial, ?_⟩
                · iterate 5 ((first | (apply yieldN; (· (simp only [List.getElem?_toArray, List.getElem?_cons_succ, List.getElem?_cons_zero]; try rfl)); (· rfl)) | ((first | apply yieldP | apply yieldL); (· (simp only [List.getElem?_toArray, List.getElem?_cons_succ, List.getElem?_cons_zero]; try rfl)); (· rfl); (· (intros; go_simp; try with_reducible rfl)))); (· (simp only [Act.put, List.setIfInBounds_toArray, List.set_cons_zero, List.set_cons_succ]; try rfl)))
                  exact rfl
                apply wpAnyM_skip (fuel := 11) (i := 3)
                · kernel_rfl
                · simp only [List.getElem?_toArray, List.getElem?_cons_succ, List.getElem?_cons_zero]; try rfl
                · rfl
                · simp only [Act.put, List.setIfInBounds_toArray, List.set_cons_zero, List.set_cons_succ]; try rfl
                · exact trivial
                refine wpAnyM_take (by kernel_rfl) (by intro c a d v w h; cases d <;> exact h) [(4, true), (7, false), (8, false), (9, false), (11, false)] (fuel := 6) (by kernel_rfl) ?_
                apply Exists.intro; refine ⟨?_, trivial, ?_⟩
                · iterate 5 ((first | (apply yieldN; (· (simp only [List.getElem?_toArray, List.getElem?_cons_succ, List.getElem?_cons_zero]; try rfl)); (· rfl)) | ((first | apply yieldP | apply yieldL); (· (simp only [List.getElem?_toArray, List.getElem?_cons_succ, List.getElem?_cons_zero]; try rfl)); (· rfl); (· (intros; go_simp; try with_reducible rfl)))); (· (simp only [Act.put, List.setIfInBounds_toArray, List.set_cons_zero, List.set_cons_succ]; try rfl)))
                  exact rfl
                apply wpAnyM_skip (fuel := 5) (i := 10)
                · kernel_rfl
                · simp only [List.getElem?_toArray, List.getElem?_cons_succ, List.getElem?_cons_zero]; try rfl
                · rfl
                · simp only [Act.put, List.setIfInBounds_toArray, List.set_cons_zero, List.set_cons_succ]; try rfl
                · exact trivial
                apply wpAnyM_skip (fuel := 4) (i := 12)
                · kernel_rfl
                · simp only [List.getElem?_toArray, List.getElem?_cons_succ, List.getElem?_cons_zero]; try rfl
                · rfl
                · simp only [Act.put, List.setIfInBounds_toArray, List.set_cons_zero, List.set_cons_succ]; try rfl
                · exact trivial
                apply wpAnyM_skip (fuel := 3) (i := 13)
                · kernel_rfl
                · simp only [List.getElem?_toArray, List.getElem?_cons_succ, List.getElem?_cons_zero]; try rfl
                · rfl
                · simp only [Act.put, List.setIfInBounds_toArray, List.set_cons_zero, List.set_cons_succ]; try rfl
                · exact trivial
                refine wpAnyM_take (by kernel_rfl) (by intro c a d v w h; cases d <;> exact h) [(14, false), (15, false), (16, false)] (fuel := 0) (by kernel_rfl) ?_
                apply Exists.intro; refine ⟨?_, trivial, ?_⟩
                · iterate 3 ((first | (apply yieldN; (· (simp only [List.getElem?_toArray, List.getElem?_cons_succ, List.getElem?_cons_zero]; try rfl)); (· rfl)) | ((first | apply yieldP | apply yieldL); (· (simp only [List.getElem?_toArray, List.getElem?_cons_succ, List.getElem?_cons_zero]; try rfl)); (· rfl); (· (intros; go_simp; try with_reducible rfl)))); (· (simp only [Act.put, List.setIfInBounds_toArray, List.set_cons_zero, List.set_cons_succ]; try rfl)))
                  exact rfl
                refine wpAnyM_done (by kernel_rfl) ?_ _
                go_wp2_with fail
                go_roundg (2 - (p+1))
                case rel => exact ⟨(p+1), by omega, rfl, by go_num, HX.out.drew⟩
                case measure => omega
              | some S =>
                have HG := Lib.hid (get_some HWR.out HYM.out hyl hgs)
                have HBY := Lib.hid (show bytesS S = yb from ((getS_inv hgs).1.bytes).trans (getS_inv hgs).2.1)
                go_wp2_with fail
                refine HG.out.mono ?_
                rintro e w5 ⟨c5, rfl, h5⟩
                have HG2 := Lib.hid (read_two h5 HYM.out hyl hgs)
                clear h5 HG hgs
                go_wp2_with fail
                refine HG2.out.mono ?_
                rintro e w6 ⟨d6, rfl, h6⟩
                have H6 := Lib.hid h6.drew
                obtain ⟨E6, hr6⟩ := h6.drew.get HYM.out
                have HF := Lib.hid (conv_str (P := Try.prog) (src := 53) (dst := 9) Try.underlying53 Try.underlying5 Try.underlying9 hr6 w6.drew (fun _ _ => rfl))
                have hpt := c_put H6.out (by omega)
                rw [HBY.out] at hpt
                have HPT := Lib.hid hpt
                clear h6 hr6 HG2 hpt
                go_wp2_with fail
                refine wp_region_M (fun W => (convert 53 9 yv).run Try.prog W = .ok (.string ⟨yb.toArray⟩) W) 17 (by kernel_rfl) ?_
                refine wpAnyM_take (by kernel_rfl) (by intro c a d v w h; cases d <;> exact h) [(0, false), (1, false), (2, false), (5, false), (6, true)] (fuel := 12) (by kernel_rfl) ?_
                apply Exists.intro; refine ⟨?_, HF.out, ?_⟩
                · iterate 5 ((first | (apply yieldN; (· (simp only [List.getElem?_toArray, List.getElem?_cons_succ, List.getElem?_cons_zero]; try rfl)); (· rfl)) | ((first | apply yieldP | apply yieldL); (· (simp only [List.getElem?_toArray, List.getElem?_cons_succ, List.getElem?_cons_zero]; try rfl)); (· rfl); (· (intros; go_simp; try with_reducible rfl)))); (· (simp only [Act.put, List.setIfInBounds_toArray, List.set_cons_zero, List.set_cons_succ]; try rfl)))
                  exact rfl
                refine wpAnyM_one (fuel := 11) (i := 3) (by kernel_rfl) (by rfl) (fun K hK => ?_)    -- CALL
                go_wp2_with fail
                refine HPT.out.mono ?_
                rintro e w7 ⟨v7, rfl, h7⟩
                obtain ⟨E7, hr7⟩ := h7.get (v := v7) (b := yb) (by simp)
                have hcv := conv_str (P := Try.prog) (src := 53) (dst := 9) Try.underlying53 Try.underlying5 Try.underlying9 hr7 w7 (fun _ _ => rfl)
                obtain ⟨E6, hr6⟩ := h7.get (List.mem_cons_of_mem _ HYM.out)
                have HF7 := Lib.hid (conv_str (P := Try.prog) (src := 53) (dst := 9) Try.underlying53 Try.underlying5 Try.underlying9 hr6 w7 (fun _ _ => rfl))
                have H7 := Lib.hid h7
                clear h7 hr7 hr6 HPT H6 HF HBY
                go_wp2_with fail
                refine hK _ _ HF7.out ?_
                clear hK
                refine wpAnyM_one (fuel := 10) (i := 4) (by kernel_rfl) (by rfl) (fun K hK => ?_)
                go_wp2_with fail
                refine hK _ _ HF7.out ?_
                clear hK hcv
                refine wpAnyM_take (by kernel_rfl) (by intro c a d v w h; cases d <;> exact h) [(7, false), (8, false), (9, false), (11, false)] (fuel := 6) (by kernel_rfl) ?_
                apply Exists.intro; refine ⟨?_, HF7.out, ?_⟩
                · iterate 4 ((first | (apply yieldN; (· (simp only [List.getElem?_toArray, List.getElem?_cons_succ, List.getElem?_cons_zero]; try rfl)); (· rfl)) | ((first | apply yieldP | apply yieldL); (· (simp only [List.getElem?_toArray, List.getElem?_cons_succ, List.getElem?_cons_zero]; try rfl)); (· rfl); (· (intros; go_simp; try with_reducible rfl)))); (· (simp only [Act.put, List.setIfInBounds_toArray, List.set_cons_zero, List.set_cons_succ]; try rfl)))
                  exact rfl
                refine wpAnyM_one (fuel := 5) (i := 10) (by kernel_rfl) (by rfl) (fun K hK => ?_)    -- CALL
                have HOP := Lib.hid (c_open H7.out (by omega))
                go_wp2_with fail
                refine HOP.out.mono ?_
                rintro e w12 ⟨v12, rfl, h12⟩
                obtain ⟨E12, hr12⟩ := h12.row
                have HR12 := Lib.hid hr12
                have H12 := Lib.hid h12.dropCell
                have HOD := Lib.hid (d_open h12.dropCell)
                obtain ⟨E6, hr6⟩ := h12.get (List.mem_cons_of_mem _ HYM.out)
                have HF12 := Lib.hid (conv_str (P := Try.prog) (src := 53) (dst := 9) Try.underlying53 Try.underlying5 Try.underlying9 hr6 w12 (fun _ _ => rfl))
                clear h12 hr12 hr6 HOP H7 HF7
                go_wp2_with fail
                refine hK _ _ HF12.out ?_
                clear hK
                refine wpAnyM_one (fuel := 4) (i := 12) (by kernel_rfl) (by rfl) (fun K hK => ?_)    -- CALL
                go_wp2_with fail
                refine HOD.out.mono ?_
                rintro e w13 ⟨v13, D13, rfl, h13, hu13⟩
                have H13 := Lib.hid (H12.out.keep hu13)
                obtain ⟨E13, hr13, -⟩ := h13.read
                obtain ⟨E6, hr6⟩ := H13.out.get (List.mem_cons_of_mem _ HYM.out)
                have HF13 := Lib.hid (conv_str (P := Try.prog) (src := 53) (dst := 9) Try.underlying53 Try.underlying5 Try.underlying9 hr6 w13 (fun _ _ => rfl))
                have hsm := same64_any v12 v13 _ _ E12 E13 w13 (HR12.out.frame (hu13.same HR12.out.lt (by simp))) hr13
                rw [decide_eq_true rfl] at hsm
                have HSM := Lib.hid hsm
                clear h13 hu13 hr13 hsm hr6 H12 HF12 HR12 HOD
                go_wp2_with fail
                refine hK _ _ HF13.out ?_
                clear hK
                refine wpAnyM_one (fuel := 3) (i := 13) (by kernel_rfl) (by rfl) (fun K hK => ?_)    -- CALL
                go_wp2_with fail
                refine HSM.out.mono ?_
                rintro e w14 ⟨rfl, hu14⟩
                have H14 := Lib.hid (H13.out.keep hu14)
                obtain ⟨E6, hr6⟩ := H14.out.get (List.mem_cons_of_mem _ HYM.out)
                have HF14 := Lib.hid (conv_str (P := Try.prog) (src := 53) (dst := 9) Try.underlying53 Try.underlying5 Try.underlying9 hr6 w14 (fun _ _ => rfl))
                have HX := Lib.hid (H.out.keep (Upd.of_below H14.out.below))
                clear hu14 HSM H13 HF13 hr6
                go_wp2_with fail
                refine hK _ _ HF14.out ?_
                clear hK
                refine wpAnyM_take (by kernel_rfl) (by intro c a d v w h; cases d <;> exact h) [(14, false), (15, false), (16, false)] (fuel := 0) (by kernel_rfl) ?_
                apply Exists.intro; refine ⟨?_, HF14.out, ?_⟩
                · iterate 3 ((first | (apply yieldN; (· (simp only [List.getElem?_toArray, List.getElem?_cons_succ, List.getElem?_cons_zero]; try rfl)); (· rfl)) | ((first | apply yieldP | apply yieldL); (· (simp only [List.getElem?_toArray, List.getElem?_cons_succ, List.getElem?_cons_zero]; try rfl)); (· rfl); (· (intros; go_simp; try with_reducible rfl)))); (· (simp only [Act.put, List.setIfInBounds_toArray, List.set_cons_zero, List.set_cons_succ]; try rfl)))
                  exact rfl
                refine wpAnyM_done (by kernel_rfl) ?_ _
                go_wp2_with fail
                go_roundg (2 - (p+1))
                case rel => exact ⟨(p+1), by omega, rfl, by go_num, HX.out⟩
                case measure => omega
      obtain ⟨i, rfl⟩ : ∃ i : Nat, at_ = i := ⟨at_.toNat, by omega⟩
      have hil : i < bs.length := by omega
      obtain ⟨y, rfl, hys, hcy⟩ := H3.out.rowCell (i := i) (x := bv bs[i]) (by rw [List.getElem?_map, List.getElem?_eq_getElem hil]; rfl)
      obtain ⟨xn, hxn⟩ : ∃ xn, bs[i].toNat = xn := ⟨_, rfl⟩
      have hxl : xn < 256 := by rw [← hxn]; exact UInt8.toNat_lt _
      unfold bv at hcy
      rw [hxn] at hcy
      have hxor := u8_xor_nat xn yn hxl hyn
      obtain ⟨zn, hzn⟩ : ∃ zn, xn ^^^ yn = zn := ⟨_, rfl⟩
      rw [hzn] at hxor
      have hzl : zn < 256 := by rw [← hzn]; exact Nat.xor_lt_two_pow (n := 8) hxl hyn
      obtain ⟨f1, -, -, f4⟩ := H3.out.rowSet (i := i) hil (.int .u8 (zn : Int))
      obtain ⟨bs2, hbs2⟩ : ∃ z, z = bs.set i (UInt8.ofNat zn) := ⟨_, rfl⟩
      have hbm : (bs.map bv).set i (.int .u8 (zn : Int)) = bs2.map bv := by
        rw [hbs2, List.map_set]
        congr 1
        unfold bv
        rw [UInt8.toNat_ofNat', Nat.mod_eq_of_lt hzl]
      have hl2 : bs2.length = bs.length := by rw [hbs2, List.length_set]
      rw [hbm] at f4
      have HRW := Lib.hid (show Sep w _ [] [(.slice (some y) bs.length cv, bs2), (.slice a3 b.length cap3, b)] from (f4.toRow))
      have hbl2 : bs2.length ≤ 8000 := by omega
      clear hbm hbs2 hzn hxn f4 H3
      go_wp2_with fail
      go_loopg [98] 2 (fun k vi wr => ∃ p : Nat, p ≤ 2 ∧ k = 2 - p ∧ vi = .int .i64 (p : Int) ∧ Sep w wr [] [(.slice (some y) bs.length cv, bs2), (.slice a3 b.length cap3, b)])
      case atStart => exact ⟨0, by omega, rfl, rfl, HRW.out⟩
      case round =>
        obtain ⟨p, hp2, hk, hvi, H⟩ := hrel
        clear HRW
        have H := Lib.hid H
        subst hvi
        by_cases hpe : p = 2
        · subst hpe
          have hvi : Value.int .i64 ((2 : Nat) : Int) = .int .i64 2 := rfl
          rw [hvi]
          go_wp2_with fail
          go_ret
          exact ⟨rfl, H.out.below⟩
        have hp1 : p < 2 := by omega
        have hix : ∃ yv yb, (∀ W, (Instr.index 57 (.agg #[.slice (some y) bs.length cv, .slice a3 b.length cap3]) (.int .i64 (p : Int))).run Try.prog W = .ok yv W) ∧ (yv, yb) ∈ [(Value.slice (some y) bs.length cv, bs2), (.slice a3 b.length cap3, b)] ∧ yb.length ≤ 8000 := by
          rcases (show p = 0 ∨ p = 1 by omega) with rfl | rfl
          · exact ⟨_, bs2, idx0 (some y) a3 bs.length cv b.length cap3, by simp, by omega⟩
          · exact ⟨_, b, idx1 (some y) a3 bs.length cv b.length cap3, by simp, by omega⟩
        obtain ⟨yv, yb, hix, hym, hyl⟩ := hix
        have HYM := Lib.hid hym
        clear hym
        as_aux_lemma =>
          have HWR := Lib.hid (show Sep wr wr [] [(.slice (some y) bs.length cv, bs2), (.slice a3 b.length cap3, b)] from Sep.startRows fun r hr => H.out.get hr)
          cases hgs : getS yb with
          | none =>
            have HG := Lib.hid (get_none HWR.out HYM.out hyl hgs)
            go_wp2_with fail
            refine HG.out.mono ?_
            rintro e w5 ⟨rfl, h5⟩
            have HG2 := Lib.hid (read_none h5 HYM.out hyl hgs)
            clear h5 HG hgs
            go_wp2_with fail
            refine HG2.out.mono ?_
            rintro e w6 ⟨rfl, h6⟩
            have HX := Lib.hid (H.out.keep (Upd.of_below h6))
            clear h6 HG2 H HWR
            go_wp2_with fail
            refine wp_region_M (fun W => True) 17 (by kernel_rfl) ?_
            refine wpAnyM_take (by kernel_rfl) (by intro c a d v w h; cases d <;> exact h) [(0, false), (1, false), (2, false), (5, false), (6, true)] (fuel := 12) (by kernel_rfl) ?_
            apply Exists.intro; refine ⟨?_, trivial, ?_⟩
            · iterate 5 ((first | (apply yieldN; (· (simp only [List.getElem?_toArray, List.getElem?_cons_succ, List.getElem?_cons_zero]; try rfl)); (· rfl)) | ((first | apply yieldP | apply yieldL); (· (simp only [List.getElem?_toArray, List.getElem?_cons_succ, List.getElem?_cons_zero]; try rfl)); (· rfl); (· (intros; go_simp; try with_reducible rfl)))); (· (simp only [Act.put, List.setIfInBounds_toArray, List.set_cons_zero, List.set_cons_succ]; try rfl)))
              exact rfl
            apply wpAnyM_skip (fuel := 11) (i := 3)
            · kernel_rfl
            · simp only [List.getElem?_toArray, List.getElem?_cons_succ, List.getElem?_cons_zero]; try rfl
            · rfl
            · simp only [Act.put, List.setIfInBounds_toArray, List.set_cons_zero, List.set_cons_succ]; try rfl
            · exact trivial
            refine wpAnyM_take (by kernel_rfl) (by intro c a d v w h; cases d <;> exact h) [(4, true), (7, false), (8, false), (9, false), (11, false)] (fuel := 6) (by kernel_rfl) ?_
            apply Exists.intro; refine ⟨?_, trivial, ?_⟩
            · iterate 5 ((first | (apply yieldN; (· (simp only [List.getElem?_toArray, List.getElem?_cons_succ, List.getElem?_cons_zero]; try rfl)); (· rfl)) | ((first | apply yieldP | apply yieldL); (· (simp only [List.getElem?_toArray, List.getElem?_cons_succ, List.getElem?_cons_zero]; try rfl)); (· rfl); (· (intros; go_simp; try with_reducible rfl)))); (· (simp only [Act.put, List.setIfInBounds_toArray, List.set_cons_zero, List.set_cons_succ]; try rfl)))
              exact rfl
            apply wpAnyM_skip (fuel := 5) (i := 10)
            · kernel_rfl
            · simp only [List.getElem?_toArray, List.getElem?_cons_succ, List.getElem?_cons_zero]; try rfl
            · rfl
            · simp only [Act.put, List.setIfInBounds_toArray, List.set_cons_zero, List.set_cons_succ]; try rfl
            · exact trivial
            apply wpAnyM_skip (fuel := 4) (i := 12)
            · kernel_rfl
            · simp only [List.getElem?_toArray, List.getElem?_cons_succ, List.getElem?_cons_zero]; try rfl
            · rfl
            · simp only [Act.put, List.setIfInBounds_toArray, List.set_cons_zero, List.set_cons_succ]; try rfl
            · exact trivial
            apply wpAnyM_skip (fuel := 3) (i := 13)
            · kernel_rfl
            · simp only [List.getElem?_toArray, List.getElem?_cons_succ, List.getElem?_cons_zero]; try rfl
            · rfl
            · simp only [Act.put, List.setIfInBounds_toArray, List.set_cons_zero, List.set_cons_succ]; try rfl
            · exact trivial
            refine wpAnyM_take (by kernel_rfl) (by intro c a d v w h; cases d <;> exact h) [(14, false), (15, false), (16, false)] (fuel := 0) (by kernel_rfl) ?_
            apply Exists.intro; refine ⟨?_, trivial, ?_⟩
            · iterate 3 ((first | (apply yieldN; (· (simp only [List.getElem?_toArray, List.getElem?_cons_succ, List.getElem?_cons_zero]; try rfl)); (· rfl)) | ((first | apply yieldP | apply yieldL); (· (simp only [List.getElem?_toArray, List.getElem?_cons_succ, List.getElem?_cons_zero]; try rfl)); (· rfl); (· (intros; go_simp; try with_reducible rfl)))); (· (simp only [Act.put, List.setIfInBounds_toArray, List.set_cons_zero, List.set_cons_succ]; try rfl)))
              exact rfl
            refine wpAnyM_done (by kernel_rfl) ?_ _
            go_wp2_with fail
            go_roundg (2 - (p+1))
            case rel => exact ⟨(p+1), by omega, rfl, by go_num, HX.out.drew⟩
            case measure => omega
          | some S =>
            have HG := Lib.hid (get_some HWR.out HYM.out hyl hgs)
            have HBY := Lib.hid (show bytesS S = yb from ((getS_inv hgs).1.bytes).trans (getS_inv hgs).2.1)
            go_wp2_with fail
            refine HG.out.mono ?_
            rintro e w5 ⟨c5, rfl, h5⟩
            have HG2 := Lib.hid (read_two h5 HYM.out hyl hgs)
            clear h5 HG hgs
            go_wp2_with fail
            refine HG2.out.mono ?_
            rintro e w6 ⟨d6, rfl, h6⟩
            have H6 := Lib.hid h6.drew
            obtain ⟨E6, hr6⟩ := h6.drew.get HYM.out
            have HF := Lib.hid (conv_str (P := Try.prog) (src := 53) (dst := 9) Try.underlying53 Try.underlying5 Try.underlying9 hr6 w6.drew (fun _ _ => rfl))
            have hpt := c_put H6.out (by omega)
            rw [HBY.out] at hpt
            have HPT := Lib.hid hpt
            clear h6 hr6 HG2 hpt
            go_wp2_with fail
            refine wp_region_M (fun W => (convert 53 9 yv).run Try.prog W = .ok (.string ⟨yb.toArray⟩) W) 17 (by kernel_rfl) ?_
            refine wpAnyM_take (by kernel_rfl) (by intro c a d v w h; cases d <;> exact h) [(0, false), (1, false), (2, false), (5, false), (6, true)] (fuel := 12) (by kernel_rfl) ?_
            apply Exists.intro; refine ⟨?_, HF.out, ?_⟩
            · iterate 5 ((first | (apply yieldN; (· (simp only [List.getElem?_toArray, List.getElem?_cons_succ, List.getElem?_cons_zero]; try rfl)); (· rfl)) | ((first | apply yieldP | apply yieldL); (· (simp only [List.getElem?_toArray, List.getElem?_cons_succ, List.getElem?_cons_zero]; try rfl)); (· rfl); (· (intros; go_simp; try with_reducible rfl)))); (· (simp only [Act.put, List.setIfInBounds_toArray, List.set_cons_zero, List.set_cons_succ]; try rfl)))
              exact rfl
            refine wpAnyM_one (fuel := 11) (i := 3) (by kernel_rfl) (by rfl) (fun K hK => ?_)    -- CALL
            go_wp2_with fail
            refine HPT.out.mono ?_
            rintro e w7 ⟨v7, rfl, h7⟩
            obtain ⟨E7, hr7⟩ := h7.get (v := v7) (b := yb) (by simp)
            have hcv := conv_str (P := Try.prog) (src := 53) (dst := 9) Try.underlying53 Try.underlying5 Try.underlying9 hr7 w7 (fun _ _ => rfl)
            obtain ⟨E6, hr6⟩ := h7.get (List.mem_cons_of_mem _ HYM.out)
            have HF7 := Lib.hid (conv_str (P := Try.prog) (src := 53) (dst := 9) Try.underlying53 Try.underlying5 Try.underlying9 hr6 w7 (fun _ _ => rfl))
            have H7 := Lib.hid h7
            clear h7 hr7 hr6 HPT H6 HF HBY
            go_wp2_with fail
            refine hK _ _ HF7.out ?_
            clear hK
            refine wpAnyM_one (fuel := 10) (i := 4) (by kernel_rfl) (by rfl) (fun K hK => ?_)
            go_wp2_with fail
            refine hK _ _ HF7.out ?_
            clear hK hcv
            refine wpAnyM_take (by kernel_rfl) (by intro c a d v w h; cases d <;> exact h) [(7, false), (8, false), (9, false), (11, false)] (fuel := 6) (by kernel_rfl) ?_
            apply Exists.intro; refine ⟨?_, HF7.out, ?_⟩
            · iterate 4 ((first | (apply yieldN; (· (simp only [List.getElem?_toArray, List.getElem?_cons_succ, List.getElem?_cons_zero]; try rfl)); (· rfl)) | ((first | apply yieldP | apply yieldL); (· (simp only [List.getElem?_toArray, List.getElem?_cons_succ, List.getElem?_cons_zero]; try rfl)); (· rfl); (· (intros; go_simp; try with_reducible rfl)))); (· (simp only [Act.put, List.setIfInBounds_toArray, List.set_cons_zero, List.set_cons_succ]; try rfl)))
              exact rfl
            refine wpAnyM_one (fuel := 5) (i := 10) (by kernel_rfl) (by rfl) (fun K hK => ?_)    -- CALL
            have HOP := Lib.hid (c_open H7.out (by omega))
            go_wp2_with fail
            refine HOP.out.mono ?_
            rintro e w12 ⟨v12, rfl, h12⟩
            obtain ⟨E12, hr12⟩ := h12.row
            have HR12 := Lib.hid hr12
            have H12 := Lib.hid h12.dropCell
            have HOD := Lib.hid (d_open h12.dropCell)
            obtain ⟨E6, hr6⟩ := h12.get (List.mem_cons_of_mem _ HYM.out)
            have HF12 := Lib.hid (conv_str (P := Try.prog) (src := 53) (dst := 9) Try.underlying53 Try.underlying5 Try.underlying9 hr6 w12 (fun _ _ => rfl))
            clear h12 hr12 hr6 HOP H7 HF7
            go_wp2_with fail
            refine hK _ _ HF12.out ?_
            clear hK
            refine wpAnyM_one (fuel := 4) (i := 12) (by kernel_rfl) (by rfl) (fun K hK => ?_)    -- CALL
            go_wp2_with fail
            refine HOD.out.mono ?_
            rintro e w13 ⟨v13, D13, rfl, h13, hu13⟩
            have H13 := Lib.hid (H12.out.keep hu13)
            obtain ⟨E13, hr13, -⟩ := h13.read
            obtain ⟨E6, hr6⟩ := H13.out.get (List.mem_cons_of_mem _ HYM.out)
            have HF13 := Lib.hid (conv_str (P := Try.prog) (src := 53) (dst := 9) Try.underlying53 Try.underlying5 Try.underlying9 hr6 w13 (fun _ _ => rfl))
            have hsm := same64_any v12 v13 _ _ E12 E13 w13 (HR12.out.frame (hu13.same HR12.out.lt (by simp))) hr13
            rw [decide_eq_true rfl] at hsm
            have HSM := Lib.hid hsm
            clear h13 hu13 hr13 hsm hr6 H12 HF12 HR12 HOD
            go_wp2_with fail
            refine hK _ _ HF13.out ?_
            clear hK
            refine wpAnyM_one (fuel := 3) (i := 13) (by kernel_rfl) (by rfl) (fun K hK => ?_)    -- CALL
            go_wp2_with fail
            refine HSM.out.mono ?_
            rintro e w14 ⟨rfl, hu14⟩
            have H14 := Lib.hid (H13.out.keep hu14)
            obtain ⟨E6, hr6⟩ := H14.out.get (List.mem_cons_of_mem _ HYM.out)
            have HF14 := Lib.hid (conv_str (P := Try.prog) (src := 53) (dst := 9) Try.underlying53 Try.underlying5 Try.underlying9 hr6 w14 (fun _ _ => rfl))
            have HX := Lib.hid (H.out.keep (Upd.of_below H14.out.below))
            clear hu14 HSM H13 HF13 hr6
            go_wp2_with fail
            refine hK _ _ HF14.out ?_
            clear hK
            refine wpAnyM_take (by kernel_rfl) (by intro c a d v w h; cases d <;> exact h) [(14, false), (15, false), (16, false)] (fuel := 0) (by kernel_rfl) ?_
            apply Exists.intro; refine ⟨?_, HF14.out, ?_⟩
            · iterate 3 ((first | (apply yieldN; (· (simp only [List.getElem?_toArray, List.getElem?_cons_succ, List.getElem?_cons_zero]; try rfl)); (· rfl)) | ((first | apply yieldP | apply yieldL); (· (simp only [List.getElem?_toArray, List.getElem?_cons_succ, List.getElem?_cons_zero]; try rfl)); (· rfl); (· (intros; go_simp; try with_reducible rfl)))); (· (simp only [Act.put, List.setIfInBounds_toArray, List.set_cons_zero, List.set_cons_succ]; try rfl)))
              exact rfl
            refine wpAnyM_done (by kernel_rfl) ?_ _
            go_wp2_with fail
            go_roundg (2 - (p+1))
            case rel => exact ⟨(p+1), by omega, rfl, by go_num, HX.out⟩
            case measure => omega
    case pos =>
    obtain ⟨x, hxa⟩ : ∃ x, a0 = some x := by
      cases a0 with
      | none => exact absurd (HAC.out.1 rfl) (by omega)
      | some x => exact ⟨x, rfl⟩
    subst hxa
    obtain ⟨g0, g1, g2, g3, g4⟩ := HAC.out.2.1 x rfl p hlt
    obtain ⟨hidm, E, hE⟩ := HAC.out.2.2 _ (List.getElem_mem hlt)
    obtain ⟨q0, hq0⟩ : ∃ q, acts[p] = q := ⟨_, rfl⟩
    rw [hq0] at g0 g1 g2 g3 g4 hidm hE
    obtain ⟨op, id, vs, sl, sh, yes⟩ := q0
    dsimp only at g0 g1 g2 g3 g4 hidm hE
    obtain ⟨av, nv, cv, hv, hlv, hnv, hcv, -⟩ := _root_.id hE
    rw [List.length_map, Nat.mul_one] at hlv
    subst hlv
    subst hv
    have hbel := H.below
    have HRD := Lib.hid (show ∀ W, Below w.heap.size w W → ReadRow W 1 (.slice av sl.length cv) (sl.map iv) E from fun W hb => hE.frame (fun b hb2 => hb.block b (hE.lt b hb2)))
    have g0 := (hbel.cell (World.block_lt_of_cell? w _ g0)).trans g0
    have g1 := (hbel.cell (World.block_lt_of_cell? w _ g1)).trans g1
    have g2 := (hbel.cell (World.block_lt_of_cell? w _ g2)).trans g2
    have g3 := (hbel.cell (World.block_lt_of_cell? w _ g3)).trans g3
    have g4 := (hbel.cell (World.block_lt_of_cell? w _ g4)).trans g4
    rw [addK_field g0 1] at g1
    rw [addK_field g0 2] at g2
    rw [addK_field g0 3] at g3
    rw [addK_field g0 4] at g4
    unfold maxLen at hcv
    have hX := H.newCell (.cells #[.int .i64 op, .int .i64 id, .slice av sl.length cv, .int .i64 sh, .bool yes] 40 (0, 0))
    clear hq0 H hbel hE
    by_cases hb8 : 8 < sl.length
    · have HB := Lib.hid hX.below
      clear hX
      go_wp2_with fail
      go_ret
      exact ⟨rfl, HB.out⟩
    have HX := Lib.hid hX
    have HID := Lib.hid hidm
    clear hX hidm
    by_cases ho0 : op = 0
    · subst ho0
      as_aux_lemma =>
        have hlen := begin_len S id sl
        go_wp2_with fail
        obtain ⟨bx, hbx⟩ : ∃ z, z = wr.heap.size := ⟨_, rfl⟩
        obtain ⟨wb, hwb⟩ : ∃ z, z = wr.alloc (.cells #[.int .i64 0, .int .i64 id, .slice av sl.length cv, .int .i64 sh, .bool yes] 40 (0, 0)) := ⟨_, rfl⟩
        rw [← hbx] at HX ⊢
        rw [← hwb] at HX ⊢
        obtain ⟨k0, k1, k2, k3, k4⟩ := actR_cells HX.out.cellR
        clear hbx hwb g0 g1 g2 g3 g4
        go_wp2_with fail
        refine ((begin_any HX.out id _ sl E HID.out (HRD.out _ HX.out.below))).mono ?_
        rintro e w5 ⟨rfl, h5⟩
        have H5 := Lib.hid h5.dropR
        clear h5 k0 k1 k2 k3 k4 HX
        go_wp2_with fail
        go_roundg (acts.length - (p + 1))
        case rel => exact ⟨p + 1, _, by omega, rfl, by go_num, H5.out, by omega⟩
        case measure => omega
    by_cases ho1 : op = 1
    · subst ho1
      as_aux_lemma =>
        have hlen := vote_len S id sh yes
        go_wp2_with fail
        obtain ⟨bx, hbx⟩ : ∃ z, z = wr.heap.size := ⟨_, rfl⟩
        obtain ⟨wb, hwb⟩ : ∃ z, z = wr.alloc (.cells #[.int .i64 1, .int .i64 id, .slice av sl.length cv, .int .i64 sh, .bool yes] 40 (0, 0)) := ⟨_, rfl⟩
        rw [← hbx] at HX ⊢
        rw [← hwb] at HX ⊢
        obtain ⟨k0, k1, k2, k3, k4⟩ := actR_cells HX.out.cellR
        clear hbx hwb g0 g1 g2 g3 g4
        go_wp2_with fail
        refine ((vote_any HX.out id sh yes)).mono ?_
        rintro e w5 ⟨rfl, h5⟩
        have H5 := Lib.hid h5.dropR
        clear h5 k0 k1 k2 k3 k4 HX
        go_wp2_with fail
        go_roundg (acts.length - (p + 1))
        case rel => exact ⟨p + 1, _, by omega, rfl, by go_num, H5.out, by omega⟩
        case measure => omega
    by_cases ho2 : op = 2
    · subst ho2
      as_aux_lemma =>
        have hlen := done_len S id sh
        go_wp2_with fail
        obtain ⟨bx, hbx⟩ : ∃ z, z = wr.heap.size := ⟨_, rfl⟩
        obtain ⟨wb, hwb⟩ : ∃ z, z = wr.alloc (.cells #[.int .i64 2, .int .i64 id, .slice av sl.length cv, .int .i64 sh, .bool yes] 40 (0, 0)) := ⟨_, rfl⟩
        rw [← hbx] at HX ⊢
        rw [← hwb] at HX ⊢
        obtain ⟨k0, k1, k2, k3, k4⟩ := actR_cells HX.out.cellR
        clear hbx hwb g0 g1 g2 g3 g4
        go_wp2_with fail
        refine ((done_any HX.out id sh)).mono ?_
        rintro e w5 ⟨rfl, h5⟩
        have H5 := Lib.hid h5.dropR
        clear h5 k0 k1 k2 k3 k4 HX
        go_wp2_with fail
        go_roundg (acts.length - (p + 1))
        case rel => exact ⟨p + 1, _, by omega, rfl, by go_num, H5.out, by omega⟩
        case measure => omega
    have q0 : (op == 0) = false := by simpa using ho0
    have q1 : (op == 1) = false := by simpa using ho1
    have q2 : (op == 2) = false := by simpa using ho2
    as_aux_lemma =>
      have hlen := abort_len S id
      go_wp2_with fail
      obtain ⟨bx, hbx⟩ : ∃ z, z = wr.heap.size := ⟨_, rfl⟩
      obtain ⟨wb, hwb⟩ : ∃ z, z = wr.alloc (.cells #[.int .i64 op, .int .i64 id, .slice av sl.length cv, .int .i64 sh, .bool yes] 40 (0, 0)) := ⟨_, rfl⟩
      rw [← hbx] at HX ⊢
      rw [← hwb] at HX ⊢
      obtain ⟨k0, k1, k2, k3, k4⟩ := actR_cells HX.out.cellR
      clear hbx hwb g0 g1 g2 g3 g4
      go_wp2_with fail
      refine ((abort_any HX.out id)).mono ?_
      rintro e w5 ⟨rfl, h5⟩
      have H5 := Lib.hid h5.dropR
      clear h5 k0 k1 k2 k3 k4 HX
      go_wp2_with fail
      go_roundg (acts.length - (p + 1))
      case rel => exact ⟨p + 1, _, by omega, rfl, by go_num, H5.out, by omega⟩
      case measure => omega
end Go.Proofs.Ytebmmbommkpjaaa
