/-
  DiskSafe: what was synced is there behind any crash; of what was not its beginning.
-/
import Derived.Test.YthphinlibhafcaaLaws7
import Derived.Test.YthphinlibhafcaaReg
import Derived.Lib.SlicesS
namespace Go.Proofs.Ythphinlibhafcaa
open Go.RowKit Go.Av

theorem bytes_eq (a b c : Bs) (h : c = a ++ b) : ((⟨c.toArray⟩ : ByteArray) == (⟨a.toArray⟩ : ByteArray) ++ ⟨b.toArray⟩) = true := by
  rw [bytes_cat, h]
  exact (MapKept.bytes_beq _ _).2 rfl
theorem bytes_list (a b c : Bs) (h : c = a ++ b) : (c == ((⟨a.toArray⟩ : ByteArray) ++ ⟨b.toArray⟩).toList) = true := by
  rw [bytes_cat, ByteArray.toList_eq, h]
  simp
theorem sub_read {w : World} {a : Option Addr} {n c : Nat} {l : Bs} {E : List Nat} (h : ReadRow w 1 (.slice a n c) (l.map bv) E) (k : Nat) (hk : k ≤ n) : l.length = n ∧ ReadRow w 1 (.slice a k c) ((l.take k).map bv) (if k = 0 then [] else E) := by
  obtain ⟨a', n', c', hv, hl, hn, hc, ha, hr⟩ := h
  cases hv
  have hln : l.length = n := by simpa using hl
  refine ⟨hln, a, k, c, rfl, by simp; omega, by omega, hc, ha, ?_⟩
  by_cases h0 : k = 0
  · subst h0; exact .inl ⟨by simp, by simp⟩
  · rw [if_neg h0]
    rcases hr with ⟨h1, _⟩ | ⟨g, off, h1, h2, h3, h4⟩
    · exfalso
      have : l = [] := by simpa using h1
      subst this; simp at hln; omega
    · refine .inr ⟨g, off, h1, h2, h3, fun i x hx => h4 i x ?_⟩
      rw [← map_take', List.getElem?_take] at hx
      split at hx
      · exact hx
      · cases hx

set_option maxRecDepth 100000 in
set_option maxHeartbeats 1000000 in
theorem safe_walk (a0 : Option Addr) (len0 cap0 : Nat) (z0 : List Int) (a1 : Option Addr) (len1 cap1 : Nat) (z1 : List Int) (keep : Int) (w : World) (w0 : IsBytes w a0 len0 cap0 z0) (w1 : IsBytes w a1 len1 cap1 z1) :
    Calls Try.prog 4 #[.slice a0 len0 cap0, .slice a1 len1 cap1, .int .i64 keep] w fun e w' => e = .returned (.bool true) ∧ Below w.heap.size w w' := by
  obtain ⟨la, Ea, hla, hra⟩ := w0.read
  obtain ⟨lb, Eb, hlb, hrb⟩ := w1.read
  have hca : len1 ≤ cap1 := by
    rcases w1 with ⟨_, rfl, rfl, _⟩ | ⟨_, _, h, _⟩
    · exact Nat.le_refl _
    · exact h
  clear w0 w1
  subst hla; subst hlb
  have HA := Lib.hid hra
  have HB := Lib.hid hrb
  clear hra hrb
  by_cases h1 : la.length ≤ 300 ∧ lb.length ≤ 300
  · obtain ⟨h1, h2⟩ := h1
    go_enter Try.func4, Try.ntmps4
    go_wp2_with fail
    refine (awake_any _).mono ?_
    rintro e w1 ⟨rfl, hu1⟩
    go_wp2_with fail
    refine (new_any 1000 _).mono ?_
    rintro e w2 hN
    rcases hN with ⟨hno, _⟩ | ⟨_, _, d, D, rfl, hD, hu⟩
    · exact absurd (by decide) hno
    have hu2 : Upd w w2 [] D := hu1.trans hu
    have hDg : ∀ b ∈ D, w.heap.size ≤ b := fun b hb => by
      rcases hu2.new b hb with h | h
      · cases h
      · exact h.1
    clear hu hu1
    go_wp2_with fail
    refine (call_as (append_at ⟨#[102]⟩ _ _ Ea _ hD (by decide) (HA.out.frame (hu2.same HA.out.lt (by simp))) (fun x hx h => by have := HA.out.lt x hx; have := hDg x h; omega)) (app0 la h1)).mono ?_
    rintro e w3 ⟨rfl, D3, hD3, hu⟩
    have hu3 := hu2.trans hu
    clear hu hu2 hD hDg
    go_wp2_with fail
    refine (call_as (sync_any ⟨#[102]⟩ _ hD3 (by decide)) (syn1 _ _ _ _)).mono ?_
    rintro e w4 ⟨rfl, D4, hD4, hu⟩
    have hu4 := hu3.trans hu
    have hDg : ∀ b ∈ D4, w.heap.size ≤ b := fun b hb => by
      rcases hu4.new b hb with h | h
      · cases h
      · exact h.1
    clear hu hu3 hD3
    go_wp2_with fail
    refine (call_as (append_at ⟨#[102]⟩ _ _ Eb _ hD4 (by decide) (HB.out.frame (hu4.same HB.out.lt (by simp))) (fun x hx h => by have := HB.out.lt x hx; have := hDg x h; omega)) (app1 _ la lb _ (by omega))).mono ?_
    rintro e w5 ⟨rfl, D5, hD5, hu⟩
    have hu5 := hu4.trans hu
    clear hu hu4 hD4 hDg
    go_wp2_with fail
    refine (crash_any keep _ hD5).mono ?_
    rintro e w6 ⟨rfl, D6, hD6, hu⟩
    have hu6 := hu5.trans hu
    rw [cra1] at hD6
    clear hu hu5 hD5
    go_wp2_with fail
    refine (on_any _ hD6).mono ?_
    rintro e w7 ⟨rfl, D7, hD7, hu⟩
    have hu7 := hu6.trans hu
    rw [on1] at hD7
    clear hu hu6 hD6
    go_wp2_with fail
    refine (read_any ⟨#[102]⟩ _ hD7 (by decide)).mono ?_
    rintro e w8 ⟨v8, D8, rfl, ho8, hu⟩
    rw [ask_f]
    rw [get1] at ho8
    have hu8 : Upd w w8 [] D8 := hu7.trans (hu.mono (by simp) (fun b hb => .inl hb))
    obtain ⟨E8, hr8, _⟩ := ho8.read
    obtain ⟨i0, hi0, hz0, hz1, hz2⟩ := info_parts info5
    have hbel : Below w.heap.size w w8.drew := hu8.below.drew
    have HU := Lib.hid hbel
    have hca0 := fun (W : World) (hW : W.heap = w8.heap) => conv_str (P := Try.prog) (src := 28) (dst := 9) Try.underlying28 Try.underlying5 Try.underlying9 (l := la) HA.out W (fun b hb => by rw [hW]; exact hbel.block b (HA.out.lt b hb))
    have hsB : ∀ b ∈ Eb, w8.drew.heap[b]? = w.heap[b]? := fun b hb => hbel.block b (HB.out.lt b hb)
    by_cases hk : (lb.length : Int) ≤ keep
    · have hkl : la.length + min keep.toNat ((la ++ lb).length - la.length) = (la ++ lb).length := by simp; omega
      rw [hkl, List.take_length] at hr8
      have hc8 := fun (W : World) (hW : W.heap = w8.heap) => conv_str (P := Try.prog) (src := 28) (dst := 9) Try.underlying28 Try.underlying5 Try.underlying9 (l := la ++ lb) hr8 W (fun b _ => by rw [hW])
      have e0 : lb.take lb.length = lb := List.take_length
      clear hkl hbel hr8 ho8 hu8 hu7 hu hD7

      have hcb := fun (W : World) (hW : W.heap = w8.heap) => conv_str (P := Try.prog) (src := 28) (dst := 9) Try.underlying28 Try.underlying5 Try.underlying9 (l := lb.take lb.length) (sub_read HB.out lb.length (by omega)).2 W (fun b hb => by rw [hW]; exact hsB b (by split at hb; exact absurd hb (by simp); exact hb))
      rw [e0] at hcb
      have heq := bytes_list la lb (la ++ lb) rfl
      have hcat : ¬ 9223372036854775807 < la.length + lb.length := by omega
      have hsl : ∀ W : World, (Instr.slice 28 (.slice a1 lb.length cap1) none (some (.int .i64 (lb.length : Int))) none).run Try.prog W = .ok (.slice a1 lb.length cap1) W := fun W => by simpa using run_slice_hi (P := Try.prog) Try.underlying28 hi0 a1 lb.length cap1 lb.length (by omega) W
      clear e0
      go_wp2_with fail
      refine wp_region_M (fun W => W.heap = w8.heap) 15 (by kernel_rfl) ?_
      refine wpAnyM_take (by kernel_rfl) (by intro c a d v w h; cases d <;> exact h) [(0, false), (1, false), (2, false), (3, false), (4, true), (5, false), (6, true), (7, false), (8, false), (9, false), (10, true), (11, false), (12, false), (13, false), (14, false)] (fuel := 0) (by kernel_rfl) ?_
      apply Exists.intro; refine ⟨?_, rfl, ?_⟩
      · iterate 15 ((first | (apply yieldN; (· (simp only [List.getElem?_toArray, List.getElem?_cons_succ, List.getElem?_cons_zero]; try rfl)); (· rfl)) | ((first | apply yieldP | apply yieldL); (· (simp only [List.getElem?_toArray, List.getElem?_cons_succ, List.getElem?_cons_zero]; try rfl)); (· rfl); (· (intros; go_simp; try with_reducible rfl)))); (· (simp only [Act.put, List.setIfInBounds_toArray, List.set_cons_zero, List.set_cons_succ]; try rfl)))
        exact rfl
      refine wpAnyM_done (by kernel_rfl) ?_ _
      go_wp2_with fail
      go_ret
      exact ⟨(congrArg Value.bool heq) ▸ rfl, HU.out⟩
    · by_cases hk0 : keep < 0
      · have hkl : la.length + min keep.toNat ((la ++ lb).length - la.length) = la.length := by omega
        rw [hkl, List.take_left] at hr8
        have hc8 := fun (W : World) (hW : W.heap = w8.heap) => conv_str (P := Try.prog) (src := 28) (dst := 9) Try.underlying28 Try.underlying5 Try.underlying9 (l := la) hr8 W (fun b _ => by rw [hW])
        clear hkl hbel hr8 ho8 hu8 hu7 hu hD7
  
        have hcb := fun (W : World) (hW : W.heap = w8.heap) => conv_str (P := Try.prog) (src := 28) (dst := 9) Try.underlying28 Try.underlying5 Try.underlying9 (l := lb.take 0) (sub_read HB.out 0 (by omega)).2 W (fun b hb => by rw [hW]; exact hsB b (by split at hb; exact absurd hb (by simp); exact hb))
        rw [List.take_zero] at hcb
        have heq := bytes_list la [] la (by simp)
        have hcat : ¬ 9223372036854775807 < la.length + ([] : Bs).length := by simp; omega
        have hcat2 : ¬ 9223372036854775807 < la.length := by omega
        have hsl : ∀ W : World, (Instr.slice 28 (.slice a1 lb.length cap1) none (some (.int .i64 0)) none).run Try.prog W = .ok (.slice a1 0 cap1) W := fun W => by simpa using run_slice_hi (P := Try.prog) Try.underlying28 hi0 a1 lb.length cap1 0 (by omega) W
        go_wp2_with fail
        refine wp_region_M (fun W => W.heap = w8.heap) 15 (by kernel_rfl) ?_
        refine wpAnyM_take (by kernel_rfl) (by intro c a d v w h; cases d <;> exact h) [(0, false), (1, false), (2, false), (3, false), (4, true), (5, false), (6, true), (7, false), (8, false), (9, false), (10, true), (11, false), (12, false), (13, false), (14, false)] (fuel := 0) (by kernel_rfl) ?_
        apply Exists.intro; refine ⟨?_, rfl, ?_⟩
        · iterate 15 ((first | (apply yieldN; (· (simp only [List.getElem?_toArray, List.getElem?_cons_succ, List.getElem?_cons_zero]; try rfl)); (· rfl)) | ((first | apply yieldP | apply yieldL); (· (simp only [List.getElem?_toArray, List.getElem?_cons_succ, List.getElem?_cons_zero]; try rfl)); (· rfl); (· (intros; go_simp; try with_reducible rfl)))); (· (simp only [Act.put, List.setIfInBounds_toArray, List.set_cons_zero, List.set_cons_succ]; try rfl)))
          exact rfl
        refine wpAnyM_done (by kernel_rfl) ?_ _
        go_wp2_with fail
        go_ret
        exact ⟨(congrArg Value.bool heq) ▸ rfl, HU.out⟩
  
      · obtain ⟨k, rfl⟩ := Int.eq_ofNat_of_zero_le (show 0 ≤ keep by omega)
        have hkl : la.length + min (k : Int).toNat ((la ++ lb).length - la.length) = la.length + k := by simp; omega
        rw [hkl, List.take_append, List.take_of_length_le (show la.length ≤ la.length + k by omega), show la.length + k - la.length = k by omega] at hr8
        have hc8 := fun (W : World) (hW : W.heap = w8.heap) => conv_str (P := Try.prog) (src := 28) (dst := 9) Try.underlying28 Try.underlying5 Try.underlying9 (l := la ++ lb.take k) hr8 W (fun b _ => by rw [hW])
        clear hkl hbel hr8 ho8 hu8 hu7 hu hD7
  
        have hcb := fun (W : World) (hW : W.heap = w8.heap) => conv_str (P := Try.prog) (src := 28) (dst := 9) Try.underlying28 Try.underlying5 Try.underlying9 (l := lb.take k) (sub_read HB.out k (by omega)).2 W (fun b hb => by rw [hW]; exact hsB b (by split at hb; exact absurd hb (by simp); exact hb))
        have heq := bytes_list la (lb.take k) (la ++ lb.take k) rfl
        have hcat : ¬ 9223372036854775807 < la.length + (lb.take k).length := by simp; omega
        have hcat2 : ¬ 9223372036854775807 < la.length + min k lb.length := by simp; omega
        have hsl : ∀ W : World, (Instr.slice 28 (.slice a1 lb.length cap1) none (some (.int .i64 (k : Int))) none).run Try.prog W = .ok (.slice a1 k cap1) W := fun W => by simpa using run_slice_hi (P := Try.prog) Try.underlying28 hi0 a1 lb.length cap1 k (by omega) W
        go_wp2_with fail
        refine wp_region_M (fun W => W.heap = w8.heap) 15 (by kernel_rfl) ?_
        refine wpAnyM_take (by kernel_rfl) (by intro c a d v w h; cases d <;> exact h) [(0, false), (1, false), (2, false), (3, false), (4, true), (5, false), (6, true), (7, false), (8, false), (9, false), (10, true), (11, false), (12, false), (13, false), (14, false)] (fuel := 0) (by kernel_rfl) ?_
        apply Exists.intro; refine ⟨?_, rfl, ?_⟩
        · iterate 15 ((first | (apply yieldN; (· (simp only [List.getElem?_toArray, List.getElem?_cons_succ, List.getElem?_cons_zero]; try rfl)); (· rfl)) | ((first | apply yieldP | apply yieldL); (· (simp only [List.getElem?_toArray, List.getElem?_cons_succ, List.getElem?_cons_zero]; try rfl)); (· rfl); (· (intros; go_simp; try with_reducible rfl)))); (· (simp only [Act.put, List.setIfInBounds_toArray, List.set_cons_zero, List.set_cons_succ]; try rfl)))
          exact rfl
        refine wpAnyM_done (by kernel_rfl) ?_ _
        go_wp2_with fail
        go_ret
        exact ⟨(congrArg Value.bool heq) ▸ rfl, HU.out⟩
  
  · have hh : 300 < la.length ∨ 300 < lb.length := by omega
    clear h1
    by_cases h1 : 300 < la.length
    · clear hh
      go_enter Try.func4, Try.ntmps4
      go_wp2_with fail
      refine (awake_any _).mono ?_
      rintro e w1 ⟨rfl, hu1⟩
      go_wp2_with fail
      go_ret
      exact ⟨rfl, hu1.below⟩
    · have h2 : 300 < lb.length := by omega
      clear hh
      go_enter Try.func4, Try.ntmps4
      go_wp2_with fail
      refine (awake_any _).mono ?_
      rintro e w1 ⟨rfl, hu1⟩
      go_wp2_with fail
      go_ret
      exact ⟨rfl, hu1.below⟩
end Go.Proofs.Ythphinlibhafcaa
