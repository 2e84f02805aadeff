/-
  The walks of frames: numbers of four bytes.
-/
import Derived.Test.YtbfblekabnkghaaFrameW
import Derived.Test.YtbfblekabnkghaaReg
import Derived.Test.YtbfblekabnkghaaDiskY
namespace Go.Proofs.Ytbfblekabnkghaa
open Go.RowKit Go.Av

theorem or_join (i : Nat) (hi : i ≤ 32) (x y : Nat) (hx : x % 2 ^ i = 0) (hx1 : x < 2 ^ 32) (hy : y < 2 ^ i) : bits .or .u32 (x : Int) (y : Int) = ((x + y : Nat) : Int) := by
  have hy1 : y < 2 ^ 32 := Nat.lt_of_lt_of_le hy (Nat.pow_le_pow_right (by omega) hi)
  have := bits_join .u32 32 (by decide) (fun n h0 h1 => by rw [IntKind.wrap_u32]; omega) i (x : Int) (y : Int) (by omega) (by exact_mod_cast hx) (by omega) (by omega) (by exact_mod_cast hy) (by omega)
  rw [this]
  omega
theorem at_join (v0 v1 v2 v3 : Nat) (b0 : v0 < 256) (b1 : v1 < 256) (b2 : v2 < 256) (b3 : v3 < 256) :
    bits .or .u32 (bits .or .u32 (bits .or .u32 (IntKind.u32.wrap (IntKind.u32.wrap (v0 : Int) * 16777216)) (IntKind.u32.wrap (IntKind.u32.wrap (v1 : Int) * 65536))) (IntKind.u32.wrap (IntKind.u32.wrap (v2 : Int) * 256))) (IntKind.u32.wrap (v3 : Int)) = ((v0 * 16777216 + v1 * 65536 + v2 * 256 + v3 : Nat) : Int) := by
  simp only [IntKind.wrap_u32]
  have e0 : ((v0 : Int) % 4294967296 * 16777216) % 4294967296 = ((v0 * 16777216 : Nat) : Int) := by omega
  have e1 : ((v1 : Int) % 4294967296 * 65536) % 4294967296 = ((v1 * 65536 : Nat) : Int) := by omega
  have e2 : ((v2 : Int) % 4294967296 * 256) % 4294967296 = ((v2 * 256 : Nat) : Int) := by omega
  have e3 : (v3 : Int) % 4294967296 = ((v3 : Nat) : Int) := by omega
  rw [e0, e1, e2, e3, or_join 24 (by omega) _ _ (by omega) (by omega) (by omega), or_join 16 (by omega) _ _ (by omega) (by omega) (by omega), or_join 8 (by omega) _ _ (by omega) (by omega) (by omega)]

theorem fresh_row (w : World) (l : Bs) (T : TypeId) (fr : Nat × Nat) (hl : l.length ≤ maxLen) : ReadRow (w.alloc (.cells (l.map bv).toArray T fr)) 1 (.slice (some ⟨w.heap.size, 0, none⟩) l.length l.length) (l.map bv) [w.heap.size] :=
  ⟨_, _, _, rfl, by simp, Nat.le_refl _, hl, by simp, .inr ⟨w.heap.size, 0, rfl, rfl, by simp, fun i x hx => by
    have hh : (w.alloc (.cells (l.map bv).toArray T fr)).heap[w.heap.size]? = some (.cells (l.map bv).toArray T fr) := heap_alloc_new w _
    rw [cell_of_row _ _ _ _ _ _ hh]
    simpa using hx⟩⟩

set_option maxRecDepth 100000 in
set_option maxHeartbeats 1000000 in
theorem at_any (v : Value) (l : Bs) (E : List Nat) (i : Nat) (w : World) (h : ReadRow w 1 v (l.map bv) E) (hi : i + 4 ≤ l.length) :
    Calls Try.prog 58 #[v, .int .i64 i] w fun e w' => e = .returned (.int .u32 (at4 l i)) ∧ Upd w w' [] [] := by
  obtain ⟨a, n, c, rfl, -⟩ := id h
  obtain ⟨hn, hnc, hcm, hcell⟩ := row_cell h
  rw [List.length_map] at hn
  subst hn
  unfold maxLen at hcm
  obtain ⟨⟨g, off, sp⟩, rfl, hsp, hx⟩ := hcell (by omega)
  obtain rfl : sp = none := hsp
  have cl : ∀ j, j < l.length → w.cell? ⟨g, off + j, none⟩ = some (.int .u8 ((l.getD j 0).toNat : Int)) := fun j hj => by
    have := hx j (bv (l.getD j 0)) (by rw [List.getElem?_map, List.getElem?_eq_getElem hj, List.getD_eq_getElem?_getD, List.getElem?_eq_getElem hj]; rfl)
    rw [Addr.add_lit] at this
    exact this
  have f0 := cl i (by omega)
  have f1 := cl (i + 1) (by omega)
  have f2 := cl (i + 2) (by omega)
  have f3 := cl (i + 3) (by omega)
  obtain ⟨v0, hv0⟩ : ∃ v0 : Nat, v0 = (l.getD i 0).toNat := ⟨_, rfl⟩
  obtain ⟨v1, hv1⟩ : ∃ v1 : Nat, v1 = (l.getD (i + 1) 0).toNat := ⟨_, rfl⟩
  obtain ⟨v2, hv2⟩ : ∃ v2 : Nat, v2 = (l.getD (i + 2) 0).toNat := ⟨_, rfl⟩
  obtain ⟨v3, hv3⟩ : ∃ v3 : Nat, v3 = (l.getD (i + 3) 0).toNat := ⟨_, rfl⟩
  have hA : at4 l i = v0 * 16777216 + v1 * 65536 + v2 * 256 + v3 := by rw [hv0, hv1, hv2, hv3]; rfl
  have b0 : v0 < 256 := by rw [hv0]; exact UInt8.toNat_lt _
  have b1 : v1 < 256 := by rw [hv1]; exact UInt8.toNat_lt _
  have b2 : v2 < 256 := by rw [hv2]; exact UInt8.toNat_lt _
  have b3 : v3 < 256 := by rw [hv3]; exact UInt8.toNat_lt _
  rw [← hv0] at f0
  rw [← hv1] at f1
  rw [← hv2] at f2
  rw [← hv3] at f3
  have e1 : IntKind.i64.wrap ((i : Int) + 1) = ((i + 1 : Nat) : Int) := by rw [IntWalk.i64_in _ (by omega)]; omega
  have e2 : IntKind.i64.wrap ((i : Int) + 2) = ((i + 2 : Nat) : Int) := by rw [IntWalk.i64_in _ (by omega)]; omega
  have e3 : IntKind.i64.wrap ((i : Int) + 3) = ((i + 3 : Nat) : Int) := by rw [IntWalk.i64_in _ (by omega)]; omega
  have g0 : i < l.length := by omega
  have g1 : 0 ≤ (i : Int) + 1 ∧ (i : Int) + 1 < (l.length : Int) := by omega
  have g2 : 0 ≤ (i : Int) + 2 ∧ (i : Int) + 2 < (l.length : Int) := by omega
  have g3 : 0 ≤ (i : Int) + 3 ∧ (i : Int) + 3 < (l.length : Int) := by omega
  have t2 : ((i : Int) + 2).toNat = i + 2 := by omega
  have t3 : ((i : Int) + 3).toNat = i + 3 := by omega
  rw [hA]
  clear hv0 hv1 hv2 hv3 hA cl hx h hcell
  go_enter Try.func58, Try.ntmps58
  go_wp2_with fail
  refine wp_region_M (fun W => W.cell? ⟨g, off + i, none⟩ = some (.int .u8 v0) ∧ W.cell? ⟨g, off + (i + 1), none⟩ = some (.int .u8 v1) ∧ W.cell? ⟨g, off + (i + 2), none⟩ = some (.int .u8 v2) ∧ W.cell? ⟨g, off + (i + 3), none⟩ = some (.int .u8 v3)) 30 (by kernel_rfl) ?_
  refine wpAnyM_take (by kernel_rfl) (by intro c a d v w h; cases d <;> exact h) [(0, false), (1, false), (2, false), (3, true), (4, true), (5, false), (6, false), (7, false), (8, false), (9, false), (10, true), (11, true), (12, false), (13, false), (14, false), (15, false), (16, false), (17, false), (18, true), (19, true), (20, false), (21, false), (22, false), (23, false), (24, false), (25, false), (26, true), (27, true), (28, false), (29, false)] (fuel := 0) (by kernel_rfl) ?_
  apply Exists.intro; refine ⟨?_, ⟨f0, f1, f2, f3⟩, ?_⟩
  · iterate 30 ((first | (apply yieldN; (· (simp only [List.getElem?_toArray, List.getElem?_cons_succ, List.getElem?_cons_zero]; try rfl)); (· rfl)) | ((first | apply yieldP | apply yieldL); (· (simp only [List.getElem?_toArray, List.getElem?_cons_succ, List.getElem?_cons_zero]; try rfl)); (· rfl); (· (intros; go_simp; try with_reducible rfl)))); (· (simp only [Act.put, List.setIfInBounds_toArray, List.set_cons_zero, List.set_cons_succ]; try rfl)))
    exact rfl
  refine wpAnyM_done (by kernel_rfl) ?_ _
  go_wp2_with fail
  go_ret
  exact ⟨congrArg (fun z => Ending.returned (.int .u32 z)) (at_join v0 v1 v2 v3 b0 b1 b2 b3), (Upd.refl w []).drew⟩
theorem be4_map (v b0 b1 b2 b3 : Nat) (h0 : b0 = v / 16777216 % 256) (h1 : b1 = v / 65536 % 256) (h2 : b2 = v / 256 % 256) (h3 : b3 = v % 256) : (be4 v).map bv = [.int .u8 b0, .int .u8 b1, .int .u8 b2, .int .u8 b3] := by
  simp [be4, bv, h0, h1, h2, h3]

set_option maxRecDepth 100000 in
set_option maxHeartbeats 1000000 in
theorem number_any (b : Value) (l : Bs) (D : List Nat) (v : Nat) (w : World) (h : OwnRow w 1 b (l.map bv) D) (hl : l.length ≤ 1073741824) :
    Calls Try.prog 53 #[b, .int .u32 v] w (AppPost w D (l ++ be4 v)) := by
  obtain ⟨i0, hi0, hz0, hz1, hz2⟩ := info_parts info5
  obtain ⟨b0, h0⟩ : ∃ b0, b0 = v / 16777216 % 256 := ⟨_, rfl⟩
  obtain ⟨b1, h1⟩ : ∃ b1, b1 = v / 65536 % 256 := ⟨_, rfl⟩
  obtain ⟨b2, h2⟩ : ∃ b2, b2 = v / 256 % 256 := ⟨_, rfl⟩
  obtain ⟨b3, h3⟩ : ∃ b3, b3 = v % 256 := ⟨_, rfl⟩
  have c0 : IntKind.u8.wrap ((v : Int) / 16777216) = (b0 : Int) := by rw [IntKind.wrap_u8]; omega
  have c1 : IntKind.u8.wrap ((v : Int) / 65536) = (b1 : Int) := by rw [IntKind.wrap_u8]; omega
  have c2 : IntKind.u8.wrap ((v : Int) / 256) = (b2 : Int) := by rw [IntKind.wrap_u8]; omega
  have c3 : IntKind.u8.wrap (v : Int) = (b3 : Int) := by rw [IntKind.wrap_u8]; omega
  have hm := be4_map v b0 b1 b2 b3 h0 h1 h2 h3
  have hrd := fresh_row w (be4 v) 5 (0, 0) (by simp [be4, maxLen])
  rw [hm] at hrd
  have hown := h.frame ((Upd.alloc0 w (.cells #[.int .u8 b0, .int .u8 b1, .int .u8 b2, .int .u8 b3] 5 (0, 0)) []).same h.lt (by simp))
  have hu := Upd.alloc0 w (.cells #[.int .u8 b0, .int .u8 b1, .int .u8 b2, .int .u8 b3] 5 (0, 0)) D
  obtain ⟨nb, hnb, hsrc⟩ := hrd.src (P := Try.prog) (tx := 31) Try.underlying31 (by rw [← hm]; exact bv_one)
  obtain rfl : 4 = nb := by simpa using hnb
  have HBD := Lib.hid (show ∀ n, (l.map bv).length = n * 1 → n + 4 ≤ 140737488355328 ∧ (n + 4) * i0.bytes ≤ 140737488355328 from fun n hn => by simp at hn; rw [hz2]; omega)
  have HM := Lib.hid hm
  have HU := Lib.hid hu
  clear h0 h1 h2 h3 hm hu hrd hnb h
  go_enter Try.func53, Try.ntmps53
  go_wp2_with (at_builtin; go_must (refine wpList_app rfl _ _ 31 31 rfl 1 _ _ _ rfl hown _ i0 _ Try.underlying31 hi0 hz0 hz1 rfl _ _ _ rfl hsrc HBD.out ?_); intro a3 n3 c3' w3 D3 hown3 hu3)
  go_ret
  refine ⟨_, D3, rfl, ?_, HU.out.trans hu3⟩
  rw [List.map_append, HM.out]
  exact hown3
end Go.Proofs.Ytbfblekabnkghaa
