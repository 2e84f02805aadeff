/-
  RouteKnown: the examples answer as told.
-/
import Derived.Test.YtfncdgnhiinmjaaDoorRouteM
import Derived.Test.YtfncdgnhiinmjaaDoorRouteK
namespace Go.Proofs.YtfncdgnhiinmjaaDoor
open Go.RowKit Go.Av

def kS1 : RtS := ⟨3, 1, []⟩
def kS2 : RtS := ⟨3, 2, [([97], 2)]⟩
def kS3 : RtS := ⟨3, 3, [([97], 2)]⟩
def kOps : List OpS := [⟨0, ⟨#[47, 97]⟩, ⟨#[]⟩, 0, 0⟩, ⟨0, ⟨#[120]⟩, ⟨#[]⟩, 0, 0⟩, ⟨0, ⟨#[47, 97, 47, 98]⟩, ⟨#[]⟩, 0, 0⟩, ⟨0, ⟨#[47, 98]⟩, ⟨#[]⟩, 0, 0⟩]
theorem k1 : moveS kS1 [97, 47, 98] 0 = (1, kS1) := by rfl
theorem k2 : moveS kS1 [97] 3 = (1, kS1) := by rfl
theorem k3 : moveS kS1 [97] 2 = (0, kS2) := by rfl
theorem k4 : moveS kS2 [97] 2 = (0, kS3) := by rfl
theorem k5 : gridS kS3 (kOps.map fun o => o.path.data.toList) 4 = [[], [], [0, 2, 3]] := by decide +kernel
theorem k6 : ofS kS3 [120] = -1 := by decide +kernel
theorem k7 : ofS kS3 [47, 98] = 2 := by decide +kernel
theorem k8 : getT [] = none := by rfl
theorem k9 : RtOK kS3 := ⟨by decide, by decide, by decide⟩

section
variable {w0 w : World} {t : Nat} {S : RtS} {R : List Thing} {rows : List (Value × Bs)} {v : Value} {ls : List (List Int)}
theorem Rt.newCell (h : Rt w0 w t S R rows) (o : Obj) : Rt w0 (w.alloc o) t S (ThCell w.heap.size o :: R) rows := by
  obtain ⟨m, hS⟩ := h
  exact ⟨m, (hS.newCell o).perm (List.perm_middle (l₁ := rtTh t m S)).symm⟩
theorem RtG.blk {q : Nat} {o : Obj} (h : RtG w0 w t S v ls (ThCell q o :: R) rows) : w.heap[q]? = some o := by
  obtain ⟨X, hS, -⟩ := RtG.side (A := [_]) h
  exact Sep.blk hS
theorem Rt.blkR {q : Nat} {o : Obj} (h : Rt w0 w t S (ThCell q o :: R) rows) : w.heap[q]? = some o := by
  obtain ⟨X, hS, -⟩ := Rt.side (A := [_]) h
  exact Sep.blk hS
theorem RtG.readII (h : RtG w0 w t S v ls R rows) : ReadII w v ls := by
  obtain ⟨vs, hl, m, hS⟩ := h
  obtain ⟨D, hD⟩ := hS.has (T := ThRow 1 v vs) (by simp)
  obtain ⟨E, hE, -⟩ := OwnRow.read hD
  refine ⟨vs, E, hE, hl, fun i l hi => ?_⟩
  have hil : i < vs.length := by rw [hl]; exact (List.getElem?_eq_some_iff.1 hi).1
  have hm : ThRow 1 vs[i] (l.map ivv) ∈ zipT vs ls := by
    unfold zipT
    refine List.mem_map.2 ⟨(vs[i], l), List.mem_iff_getElem?.2 ⟨i, ?_⟩, rfl⟩
    rw [List.getElem?_zip_eq_some]
    exact ⟨List.getElem?_eq_getElem hil, hi⟩
  obtain ⟨D2, hD2⟩ := hS.has (T := ThRow 1 vs[i] (l.map ivv)) (by simp [hm])
  obtain ⟨E2, hE2, -⟩ := OwnRow.read hD2
  exact ⟨_, E2, List.getElem?_eq_getElem hil, hE2⟩
end

def kCells : Array Value := #[.int .i64 0, .string ⟨#[47, 97]⟩, .string ⟨#[]⟩, .int .i64 0, .int .i64 0, .int .i64 0, .string ⟨#[120]⟩, .string ⟨#[]⟩, .int .i64 0, .int .i64 0, .int .i64 0, .string ⟨#[47, 97, 47, 98]⟩, .string ⟨#[]⟩, .int .i64 0, .int .i64 0, .int .i64 0, .string ⟨#[47, 98]⟩, .string ⟨#[]⟩, .int .i64 0, .int .i64 0]
theorem k_ops {w : World} {q : Nat} {T : TypeId} (h : w.heap[q]? = some (.cells kCells T (0, 0))) : IsOps w (some ⟨q, 0, none⟩) 4 4 kOps := by
  refine ⟨rfl, Nat.le_refl _, by decide, by simp, fun x hx i hi => ?_, by decide⟩
  cases hx
  simp only [Addr.add_lit, Nat.zero_add]
  match i, hi with
  | 0, _ => exact ⟨cell_of h 0 rfl, cell_of h 1 rfl, cell_of h 2 rfl, cell_of h 3 rfl, cell_of h 4 rfl⟩
  | 1, _ => exact ⟨cell_of h 5 rfl, cell_of h 6 rfl, cell_of h 7 rfl, cell_of h 8 rfl, cell_of h 9 rfl⟩
  | 2, _ => exact ⟨cell_of h 10 rfl, cell_of h 11 rfl, cell_of h 12 rfl, cell_of h 13 rfl, cell_of h 14 rfl⟩
  | 3, _ => exact ⟨cell_of h 15 rfl, cell_of h 16 rfl, cell_of h 17 rfl, cell_of h 18 rfl, cell_of h 19 rfl⟩
  | n + 4, h4 => exact absurd h4 (by simp [kOps])

set_option maxRecDepth 100000 in
set_option maxHeartbeats 8000000 in
theorem routeKnown_walk (w : World) (hd : Door w) : Calls Tryd.prog 5 #[] w fun e w' => e = .returned (.bool true) ∧ Below w.heap.size w w' := by
  have HD := Lib.hid hd
  clear hd
  go_enter Tryd.func5, Tryd.ntmps5
  go_wp2_with fail
  refine (awake16_any _ HD.out).mono ?_
  rintro e w1 ⟨rfl, hu1⟩
  have H0 := Lib.hid ((Sep.start w).keep hu1)
  clear hu1
  go_wp2_with fail
  refine (rt_new_no w1 0 (by decide)).mono ?_
  rintro e w2 ⟨rfl, hW⟩
  subst w2
  go_wp2_with fail
  refine (rt_new_no w1 5 (by decide)).mono ?_
  rintro e w2 ⟨rfl, hW⟩
  subst w2
  go_wp2_with fail
  refine (rt_new H0.out 3 (by decide) (by decide)).mono ?_
  rintro e w2 ⟨t, rfl, h⟩
  have H1 := Lib.hid (show Rt w w2 t kS1 [] [] from h)
  clear h H0
  go_wp2_with fail
  have c := move_any H1.out HD.out ⟨#[97, 47, 98]⟩ 0 (by decide) (by decide) (by decide)
  rw [show (⟨#[97, 47, 98]⟩ : ByteArray).data.toList = [97, 47, 98] from rfl, k1] at c
  refine c.mono ?_
  clear c
  rintro e w3 ⟨rfl, h⟩
  have H2 := Lib.hid h
  clear h H1
  go_wp2_with fail
  have c := move_any H2.out HD.out ⟨#[97]⟩ 3 (by decide) (by decide) (by decide)
  rw [show (⟨#[97]⟩ : ByteArray).data.toList = [97] from rfl, show moveS (1, kS1).2 [97] 3 = (1, kS1) from k2] at c
  refine c.mono ?_
  clear c
  rintro e w4 ⟨rfl, h⟩
  have H3 := Lib.hid h
  clear h H2
  go_wp2_with fail
  have c := move_any H3.out HD.out ⟨#[97]⟩ 2 (by decide) (by decide) (by decide)
  rw [show (⟨#[97]⟩ : ByteArray).data.toList = [97] from rfl, show moveS (1, kS1).2 [97] 2 = (0, kS2) from k3] at c
  refine c.mono ?_
  clear c
  rintro e w5 ⟨rfl, h⟩
  have H4 := Lib.hid h
  clear h H3
  go_wp2_with fail
  have c := move_any H4.out HD.out ⟨#[97]⟩ 2 (by decide) (by decide) (by decide)
  rw [show (⟨#[97]⟩ : ByteArray).data.toList = [97] from rfl, show moveS (0, kS2).2 [97] 2 = (0, kS3) from k4] at c
  refine c.mono ?_
  clear c
  rintro e w6 ⟨rfl, h⟩
  have h := Rt.newCell (show Rt w w6 t kS3 [] [] from h) (.cells kCells 43 (0, 0))
  have hsp := split_gen h HD.out k9 _ _ _ kOps (k_ops h.blkR) (fun _ _ _ H => k_ops H.blk) (by decide)
  have hsp : Calls Tryd.prog 17 _ _ (fun e w' => ∃ v, e = .returned v ∧ RtG w w' t kS3 v (gridS kS3 (kOps.map fun o => o.path.data.toList) 4) _ []) := hsp
  rw [k5] at hsp
  have HSP := Lib.hid hsp
  clear h hsp H4
  unfold kCells at HSP
  go_wp2_with fail
  refine HSP.out.mono ?_
  rintro e w7 ⟨v, rfl, h7⟩
  obtain ⟨av, cv, rfl, hcv1, hcv2⟩ := h7.readII.slice
  obtain ⟨vs, hl, m, hS⟩ := h7
  have hg := get_table hS.nil HD.out (.slice none 0 0) [] (by simp) (by simp)
  rw [k8] at hg
  have HG := Lib.hid hg
  have HL := Lib.hid hl
  clear hg hS hl HSP
  go_wp2_with fail
  refine HG.out.mono ?_
  rintro e w8 ⟨rfl, hS8⟩
  have H8 := Lib.hid (show RtG w w8 t kS3 (.slice av 3 cv) [[], [], [0, 2, 3]] _ _ from ⟨vs, HL.out, m, hS8⟩)
  clear hS8 HG HL
  obtain ⟨R1, ht, bk⟩ := H8.out.table
  have HV := Lib.hid (rt_version ht)
  have hOf := of_any ht HD.out ⟨#[120]⟩ (by decide) (by decide) (by decide)
  rw [show (⟨#[120]⟩ : ByteArray).data.toList = [120] from rfl, k6] at hOf
  have HOF := Lib.hid hOf
  have HB := Lib.hid bk
  clear ht bk hOf
  go_wp2_with fail
  refine HV.out.mono ?_
  rintro e w9 ⟨rfl, hW⟩
  subst w9
  go_wp2_with fail
  refine HOF.out.mono ?_
  rintro e w9 ⟨rfl, h9⟩
  have h9 := HB.out _ h9
  have u1 := Upd.alloc0 w9 (.cells #[.int .i64 0, .int .i64 2, .int .i64 3] 3 (0, 0)) []
  have u2 := Upd.alloc0 (w9.alloc (.cells #[.int .i64 0, .int .i64 2, .int .i64 3] 3 (0, 0))) (.cells #[.slice none 0 0, .slice none 0 0, .slice (some ⟨w9.heap.size, 0, none⟩) 3 3] 41 (0, 0)) []
  have b1 := heap_alloc_new w9 (.cells #[.int .i64 0, .int .i64 2, .int .i64 3] 3 (0, 0))
  have b2 := heap_alloc_new (w9.alloc (.cells #[.int .i64 0, .int .i64 2, .int .i64 3] 3 (0, 0))) (.cells #[.slice none 0 0, .slice none 0 0, .slice (some ⟨w9.heap.size, 0, none⟩) 3 3] 41 (0, 0))
  have b1' := (u2.keep w9.heap.size (by simp) (by simp)).trans b1
  rw [show (w9.alloc (.cells #[.int .i64 0, .int .i64 2, .int .i64 3] 3 (0, 0))).heap.size = w9.heap.size + 1 by simp] at b2
  have h10 := (h9.keep u1).keep u2
  obtain ⟨wL, hwL⟩ : ∃ z, z = ((w9.alloc (.cells #[.int .i64 0, .int .i64 2, .int .i64 3] 3 (0, 0))).alloc (.cells #[.slice none 0 0, .slice none 0 0, .slice (some ⟨w9.heap.size, 0, none⟩) 3 3] 41 (0, 0))) := ⟨_, rfl⟩
  rw [← hwL] at h10 b1' b2
  have hlit : ReadII wL (.slice (some ⟨w9.heap.size + 1, 0, none⟩) 3 3) [[], [], [0, 2, 3]] := by
    refine ⟨[.slice none 0 0, .slice none 0 0, .slice (some ⟨w9.heap.size, 0, none⟩) 3 3], [w9.heap.size + 1], ⟨_, 3, 3, rfl, rfl, Nat.le_refl _, by decide, by simp, .inr ⟨_, 0, rfl, rfl, lt_of_heap b2, fun i x hx => ?_⟩⟩, rfl, fun i l hi => ?_⟩
    · rw [cell_of_row wL (w9.heap.size + 1) (0 + i) _ _ _ b2]
      simpa using hx
    · match i, hi with
      | 0, hi => cases hi; exact ⟨_, [], rfl, none, 0, 0, rfl, by simp, Nat.le_refl _, by decide, fun _ => rfl, .inl ⟨by simp, rfl⟩⟩
      | 1, hi => cases hi; exact ⟨_, [], rfl, none, 0, 0, rfl, by simp, Nat.le_refl _, by decide, fun _ => rfl, .inl ⟨by simp, rfl⟩⟩
      | 2, hi =>
        cases hi
        refine ⟨_, [w9.heap.size], rfl, _, 3, 3, rfl, rfl, Nat.le_refl _, by decide, by simp, .inr ⟨_, 0, rfl, rfl, lt_of_heap b1', fun i x hx => ?_⟩⟩
        rw [cell_of_row wL w9.heap.size (0 + i) _ _ _ b1']
        simpa [ivv] using hx
      | n + 3, hi => simp at hi
  have hpl := places_any _ _ _ _ wL h10.readII hlit
  rw [show decide (([[], [], [0, 2, 3]] : List (List Int)) = [[], [], [0, 2, 3]]) = true by simp] at hpl
  have HPL := Lib.hid hpl
  have H10 := Lib.hid h10
  have HWL := Lib.hid hwL
  clear h9 u1 u2 b1 b2 b1' h10 hlit hpl HOF HV HB
  rw [hwL] at HPL
  clear hwL
  go_wp2_with fail
  refine HPL.out.mono ?_
  rintro e w11 ⟨rfl, hu11⟩
  rw [← HWL.out] at hu11
  have h11 := H10.out.keep hu11
  obtain ⟨R2, ht, bk⟩ := h11.table
  have hOf := of_any ht HD.out ⟨#[47, 98]⟩ (by decide) (by decide) (by decide)
  rw [show (⟨#[47, 98]⟩ : ByteArray).data.toList = [47, 98] from rfl, k7] at hOf
  have HOF := Lib.hid hOf
  clear h11 ht bk hOf hu11 HPL
  go_wp2_with fail
  refine HOF.out.mono ?_
  rintro e w12 ⟨rfl, h12⟩
  have HBL := Lib.hid h12.below
  clear h12 HOF
  go_wp2_with fail
  go_ret
  exact ⟨by simp, HBL.out⟩
end Go.Proofs.YtfncdgnhiinmjaaDoor
