/-
  The walks of a reader of numbers.
-/
import Derived.Test.YtfncdgnhiinmjaaDoorPackW
import Derived.Test.YtfncdgnhiinmjaaDoorSliceX
namespace Go.Proofs.YtfncdgnhiinmjaaDoor
open Go.RowKit Go.Av

def ReaderAt (w : World) (r : Nat) (l : Bs) (bad : Bool) (D : List Nat) : Prop :=
  ∃ v E T, w.heap[r]? = some (.cells #[v, .bool bad] T (0, 0)) ∧ ReadRow w 1 v (l.map bv) E ∧ (∀ x ∈ E, x ≠ r) ∧ D = r :: E

theorem ReaderAt.frame {w w' : World} {r : Nat} {l : Bs} {bad : Bool} {D : List Nat} (h : ReaderAt w r l bad D) (hs : Same w w' D) : ReaderAt w' r l bad D := by
  obtain ⟨v, E, T, h1, h2, h3, rfl⟩ := h
  exact ⟨v, E, T, (hs r (by simp)).trans h1, h2.frame (fun b hb => hs b (by simp [hb])), h3, rfl⟩
theorem ReaderAt.lt {w : World} {r : Nat} {l : Bs} {bad : Bool} {D : List Nat} (h : ReaderAt w r l bad D) : ∀ b ∈ D, b < w.heap.size := by
  obtain ⟨v, E, T, h1, h2, h3, rfl⟩ := h
  intro b hb
  rcases List.mem_cons.1 hb with rfl | hb
  · exact lt_of_heap h1
  · exact h2.lt b hb

def RdrPost (w : World) (D : List Nat) (r : Nat) (l : Bs) (bad : Bool) (ret : Ending) (e : Ending) (w' : World) : Prop := e = ret ∧ ∃ D', ReaderAt w' r l bad D' ∧ Upd w w' D D'

theorem wrap_is (x : Int) : wrap64 x = IntKind.i64.wrap x := by
  rw [IntKind.wrap_i64]
  unfold wrap64
  omega
theorem or_join64 (x y : Nat) (hx : x % 256 = 0) (hx1 : x < 18446744073709551616) (hy : y < 256) : bits .or .u64 (x : Int) (y : Int) = ((x + y : Nat) : Int) := by
  have := bits_join .u64 64 (by decide) (fun n h0 h1 => by rw [IntKind.wrap_u64]; omega) 8 (x : Int) (y : Int) (by omega) (by omega) (by omega) (by omega) (by omega) (by omega)
  rw [this]
  omega
theorem rd_join (v x : Nat) (hx : x < 256) (u : UInt8) (hu : u.toNat = x) : bits .or .u64 (IntKind.u64.wrap ((v : Int) * 256)) (x : Int) = ((rdStep v u : Nat) : Int) := by
  have e1 : IntKind.u64.wrap ((v : Int) * 256) = ((v * 256 % 18446744073709551616 : Nat) : Int) := by rw [IntKind.wrap_u64]; omega
  rw [e1, or_join64 _ _ (by omega) (by omega) hx]
  unfold rdStep
  rw [hu]

set_option maxRecDepth 100000 in
set_option maxHeartbeats 1000000 in
theorem rdr_new (b : Value) (l : Bs) (E : List Nat) (w : World) (h : ReadRow w 1 b (l.map bv) E) (hl : l.length ≤ 1073741824) :
    Calls Tryd.prog 30 #[b] w fun e w' => ∃ r D, e = .returned (.pointer (some ⟨r, 0, none⟩)) ∧ ReaderAt w' r l false D ∧ Upd w w' [] D := by
  obtain ⟨i0, hi0, hz0, hz1, hz2⟩ := info_parts info5
  have h0 := h.frame ((Upd.alloc0 w (.cells #[] 5 (0, 0)) []).same h.lt (by simp))
  obtain ⟨nb, hnb, hsrc⟩ := h0.src (P := Tryd.prog) (tx := 47) Tryd.underlying47 bv_one
  rw [List.length_map, Nat.mul_one] at hnb
  subst hnb
  have HBD := Lib.hid (show ∀ n', ([] : List Value).length = n' * 1 → n' + l.length ≤ 140737488355328 ∧ (n' + l.length) * i0.bytes ≤ 140737488355328 from fun n' hn' => by simp at hn'; rw [hz2]; omega)
  clear h0
  go_enter Tryd.func30, Tryd.ntmps30
  go_wp2_with (at_builtin; go_must (refine wpList_app rfl _ _ 47 47 rfl 1 _ [] [] rfl (OwnRow.zero _ _ _) _ i0 _ Tryd.underlying47 hi0 hz0 hz1 rfl _ _ _ rfl hsrc HBD.out ?_); intro a3 n3 c3' w3 D3 hown3 hu3)
  go_ret
  have hu0 : Upd w w3 [] D3 := (Upd.alloc0 w (.cells #[] 5 (0, 0)) []).trans hu3
  rw [List.nil_append] at hown3
  obtain ⟨E3, hr3, hE3⟩ := hown3.read
  refine ⟨w3.heap.size, w3.heap.size :: E3, rfl, ⟨_, E3, _, heap_alloc_new w3 _, hr3.frame ((Upd.alloc0 w3 _ []).same hr3.lt (by simp)), fun x hx he => ?_, rfl⟩, ?_⟩
  · have := hr3.lt x hx; omega
  · refine (hu0.trans (Upd.alloc1 w3 _ D3)).mono (by simp) (fun b hb => .inl ?_)
    rcases List.mem_cons.1 hb with rfl | hb
    · simp
    · simp [hE3 b hb]

theorem rdr_spoil (r : Nat) (l : Bs) (bad : Bool) (D : List Nat) (w : World) (h : ReaderAt w r l bad D) :
    Calls Tryd.prog 49 #[.pointer (some ⟨r, 0, none⟩)] w (RdrPost w D r [] true (.returned (.tuple #[]))) := by
  obtain ⟨v, E, T, h1, h2, h3, rfl⟩ := h
  have y0 := frz_of h1 0
  have y1 := frz_of h1 1
  have c0 := cell_of h1 0 rfl
  have c1 := cell_of h1 1 rfl
  have H1 := Lib.hid h1
  clear h1
  go_enter Tryd.func49, Tryd.ntmps49
  go_wp2_with fail
  go_end0
  have e1 := heap_setCell_same w r 0 _ T (.slice none 0 0) H1.out
  have e2 := heap_setCell_same _ r 1 _ T (.bool true) e1
  refine ⟨rfl, [r], ⟨.slice none 0 0, [], T, e2, ⟨none, 0, 0, rfl, by simp, Nat.le_refl _, by decide, fun _ => rfl, .inl ⟨rfl, rfl⟩⟩, by simp, rfl⟩, ?_⟩
  exact (((Upd.refl w (r :: E)).setCell ⟨r, 0, none⟩ (.slice none 0 0) (by simp)).setCell ⟨r, 1, none⟩ (.bool true) (by simp)).mono (fun _ h => h) (by simp)

set_option maxRecDepth 100000 in
theorem rdr_end (r : Nat) (l : Bs) (bad : Bool) (D : List Nat) (w : World) (h : ReaderAt w r l bad D) :
    Calls Tryd.prog 34 #[.pointer (some ⟨r, 0, none⟩)] w fun e w' => e = .returned (.bool (!bad && l.isEmpty)) ∧ w' = w := by
  obtain ⟨v, E, T, h1, h2, h3, rfl⟩ := h
  obtain ⟨a, n, c, rfl, -⟩ := id h2
  obtain ⟨hn, hnc, hcm, -⟩ := row_cell h2
  rw [List.length_map] at hn
  subst hn
  have c0 := cell_of h1 0 rfl
  have c1 := cell_of h1 1 rfl
  clear h1 h2
  cases bad with
  | true =>
    go_enter Tryd.func34, Tryd.ntmps34
    go_wp2_with fail
    go_ret
    exact ⟨rfl, rfl⟩
  | false =>
    cases l with
    | nil =>
      go_enter Tryd.func34, Tryd.ntmps34
      go_wp2_with fail
      go_ret
      exact ⟨rfl, rfl⟩
    | cons x l =>
      have hne : ((((x :: l).length : Nat) : Int) == 0) = false := by simp; omega
      go_enter Tryd.func34, Tryd.ntmps34
      go_wp2_with fail
      go_ret
      exact ⟨congrArg (fun b => Ending.returned (.bool b)) (show (((l.length : Int) + 1) == 0) = false by simp; omega), rfl⟩

set_option maxRecDepth 100000 in
set_option maxHeartbeats 1000000 in
theorem rdr_i64 (r : Nat) (l : Bs) (bad : Bool) (D : List Nat) (w : World) (h : ReaderAt w r l bad D) :
    Calls Tryd.prog 32 #[.pointer (some ⟨r, 0, none⟩)] w
      (RdrPost w D r (if l.length < 8 then [] else l.drop 8) (if l.length < 8 then true else bad) (.returned (.int .i64 (if l.length < 8 then 0 else rdI l)))) := by
  obtain ⟨i0, hi0, hz0, hz1, hz2⟩ := info_parts info5
  obtain ⟨v, E, T, h1, h2, h3, rfl⟩ := h
  obtain ⟨a, n, c, rfl, -⟩ := id h2
  obtain ⟨hn, hnc, hcm, hcell⟩ := row_cell h2
  rw [List.length_map] at hn
  subst hn
  unfold maxLen at hcm
  have c0 : w.cell? ⟨r, 0, none⟩ = some (.slice a l.length c) := cell_of h1 0 rfl
  have y0 := frz_of h1 0
  have y1 := frz_of h1 1
  have H1 := Lib.hid h1
  have H2 := Lib.hid h2
  have H3 := Lib.hid h3
  clear h1 h2 h3
  by_cases h8 : l.length < 8
  · rw [if_pos h8, if_pos h8, if_pos h8]
    clear hcell
    have hsp := rdr_spoil r l bad (r :: E) w ⟨_, E, T, H1.out, H2.out, H3.out, rfl⟩
    have HSP := Lib.hid hsp
    clear hsp
    go_enter Tryd.func32, Tryd.ntmps32
    go_wp2_with fail
    refine HSP.out.mono ?_
    rintro e w1 ⟨rfl, D1, hR, hu⟩
    go_wp2_with fail
    go_ret
    exact ⟨rfl, D1, hR, hu⟩
  · rw [if_neg h8, if_neg h8, if_neg h8]
    have HC := Lib.hid hcell
    clear hcell
    have hsl1 : ∀ W : World, (Instr.slice 47 (.slice a l.length c) none (some (.int .i64 8)) none).run Tryd.prog W = .ok (.slice a 8 c) W := fun W => run_slice_hi (P := Tryd.prog) Tryd.underlying47 hi0 a l.length c 8 (by omega) W
    obtain ⟨ap, hsp, Ep, hrp, hEp⟩ := slice_from Tryd.underlying47 hi0 hz1 H2.out 8 (by omega)
    have hsp2 : ∀ W : World, (Instr.slice 47 (.slice a l.length c) (some (.int .i64 8)) none none).run Tryd.prog W = .ok (.slice ap (l.length - 8) (c - 8)) W := fun W => hsp W
    have HP := Lib.hid (show ReadRow w 1 (.slice ap (l.length - 8) (c - 8)) ((l.drop 8).map bv) Ep ∧ ∀ b ∈ Ep, b ∈ E from ⟨hrp, hEp⟩)
    clear hsp hrp hEp
    go_enter Tryd.func32, Tryd.ntmps32
    go_wp2_with fail
    go_loopg [3, 20] 8 (fun k s i wr => wr = w ∧ ∃ m : Nat, m ≤ 8 ∧ k = 8 - m ∧ i = .int .i64 m ∧ s = .int .u64 (rdFold (l.take m)))
    case atStart => exact ⟨rfl, 0, by omega, rfl, rfl, rfl⟩
    case round =>
      obtain ⟨hW, m, hm, hk, rfl, rfl⟩ := hrel
      subst wr
      by_cases hlt : m < 8
      · obtain ⟨x, rfl, -, hx⟩ := HC.out (by omega)
        have hcl : w.cell? (x.add m) = some (bv l[m]) := hx m _ (by rw [List.getElem?_map, List.getElem?_eq_getElem (by omega)]; rfl)
        unfold bv at hcl
        obtain ⟨xv, hxv⟩ : ∃ xv : Nat, xv = l[m].toNat := ⟨_, rfl⟩
        have hxl : xv < 256 := by rw [hxv]; exact UInt8.toNat_lt _
        rw [← hxv] at hcl
        have hj := rd_join (rdFold (l.take m)) xv hxl l[m] hxv.symm
        obtain ⟨f0, hf0⟩ : ∃ f0, f0 = rdFold (l.take m) := ⟨_, rfl⟩
        rw [← hf0] at hj ⊢
        have HJ := Lib.hid hj
        have HF := Lib.hid hf0
        clear hj hf0 hx hxv
        go_wp2_with fail
        go_roundg (8 - (m + 1))
        case rel =>
          refine ⟨rfl, m + 1, by omega, rfl, by go_num, ?_⟩
          have e : rdFold (l.take (m + 1)) = rdStep (rdFold (l.take m)) l[m] := by
            unfold rdFold
            rw [List.take_succ_eq_append_getElem (show m < l.length by omega), List.foldl_append]
            rfl
          rw [HJ.out, HF.out, e]
        case measure => omega
      · obtain rfl : m = 8 := by omega
        go_wp2_with fail
        go_ret
        refine ⟨congrArg (fun z => Ending.returned (.int .i64 z)) (wrap_is _), r :: Ep, ⟨_, Ep, T, heap_setCell_same w r 0 _ T (.slice ap (l.length - 8) (c - 8)) H1.out, HP.out.1.frame (fun b hb => heap_setCell_other _ _ _ _ (fun e => H3.out b (HP.out.2 b hb) e)), fun x hx => H3.out x (HP.out.2 x hx), rfl⟩, ?_⟩
        refine (Upd.set1 w ⟨r, 0, none⟩ (.slice ap (l.length - 8) (c - 8)) (r :: E) (by simp)).mono (fun _ h => h) (fun b hb => .inr ?_)
        rcases List.mem_cons.1 hb with rfl | hb
        · simp
        · simp [HP.out.2 b hb]
end Go.Proofs.YtfncdgnhiinmjaaDoor
