/-
  A reader's texts: the walk.
-/
import Derived.Test.YtfncdgnhiinmjaaDoorPackT
namespace Go.Av
open Go.RowKit
theorem ReadRow.take {w : World} {size : Nat} {a : Option Addr} {n c : Nat} {xs : List Value} {D : List Nat} (h : ReadRow w size (.slice a n c) xs D) {k : Nat} (hk : k ≤ n) : ReadRow w size (.slice a k c) (xs.take (k * size)) D := by
  obtain ⟨a', n', c', hv, hl, hn, hc, ha, hr⟩ := h
  cases hv
  have hle : k * size ≤ n * size := Nat.mul_le_mul_right _ hk
  refine ⟨a, k, c, rfl, by rw [List.length_take, hl]; omega, by omega, hc, ha, ?_⟩
  rcases hr with ⟨rfl, h2⟩ | ⟨g, off, h1, h2, h3, h4⟩
  · exact .inl ⟨by simp, h2⟩
  · refine .inr ⟨g, off, h1, h2, h3, fun i x hx => h4 i x ?_⟩
    rw [List.getElem?_take] at hx
    split at hx
    · exact hx
    · cases hx
end Go.Av
namespace Go.Proofs.YtfncdgnhiinmjaaDoor
open Go.RowKit Go.Av

set_option maxRecDepth 100000 in
set_option maxHeartbeats 1000000 in
theorem rdr_text (r : Nat) (l : Bs) (bad : Bool) (most : Int) (hm : 0 ≤ most) (D : List Nat) (w : World) (h : ReaderAt w r l bad D) :
    Calls Tryd.prog 33 #[.pointer (some ⟨r, 0, none⟩), .int .i64 most] w (RdrPost w D r (textR most (l, bad)).2.1 (textR most (l, bad)).2.2 (.returned (sv (textR most (l, bad)).1))) := by
  obtain ⟨i0, hi0, hz0, hz1, hz2⟩ := info_parts info5
  have hc := rdr_count r l bad most hm D w h
  have hbd := cntR_bd hm (l, bad)
  have htx : textR most (l, bad) = textR most (l, bad) := rfl
  conv at htx => rhs; unfold textR
  unfold cntR at htx hbd
  obtain ⟨q, hq⟩ : ∃ q, cntS l bad most = q := ⟨_, rfl⟩
  simp only [hq] at htx hbd
  rw [hq] at hc
  obtain ⟨l1, bad1, n⟩ := q
  dsimp only at htx hbd hc
  obtain ⟨k, rfl⟩ : ∃ k : Nat, n = k := ⟨n.toNat, by omega⟩
  rw [Int.toNat_natCast] at htx
  have HC := Lib.hid hc
  clear hc hq h hbd
  obtain ⟨tx, htx2⟩ : ∃ tx, textR most (l, bad) = tx := ⟨_, rfl⟩
  rw [htx2] at htx ⊢
  clear htx2
  have HT := Lib.hid htx
  clear htx
  go_enter Tryd.func33, Tryd.ntmps33
  go_wp2_with fail
  refine HC.out.mono ?_
  rintro e w1 ⟨rfl, D1, h1, hu1⟩
  have h1' := h1
  obtain ⟨v, E, T, hb, hr, hE, rfl⟩ := h1'
  obtain ⟨a, nn, cp, rfl, -⟩ := id hr
  obtain ⟨hn, hnc, hcm, hcell⟩ := row_cell hr
  rw [List.length_map] at hn
  subst hn
  unfold maxLen at hcm
  have c0 : w1.cell? ⟨r, 0, none⟩ = some (.slice a l1.length cp) := cell_of hb 0 rfl
  have y0 := frz_of hb 0
  by_cases hlt : (l1.length : Int) < (k : Int)
  · have HS := Lib.hid (rdr_spoil r l1 bad1 (r :: E) w1 h1)
    have HTX := Lib.hid (show tx = ([], [], true) by rw [HT.out, if_pos hlt])
    have HU := Lib.hid hu1
    clear h1 hb hr hE hcell hu1 HC
    go_wp2_with fail
    refine HS.out.mono ?_
    rintro e w2 ⟨rfl, D2, h2, hu2⟩
    have H2 := Lib.hid (show _ ∧ _ from ⟨h2, HU.out.trans hu2⟩)
    clear h2 hu2
    go_wp2_with fail
    go_ret
    rw [HTX.out]
    exact ⟨rfl, D2, H2.out.1, H2.out.2⟩
  · have HTX := Lib.hid (show tx = (l1.take k, l1.drop k, bad1) by rw [HT.out, if_neg hlt])
    have hkl : k ≤ l1.length := by omega
    have hsl1 : ∀ W : World, (Instr.slice 47 (.slice a l1.length cp) none (some (.int .i64 (k : Int))) none).run Tryd.prog W = .ok (.slice a k cp) W := fun W => run_slice_hi (P := Tryd.prog) Tryd.underlying47 hi0 a l1.length cp k (by omega) W
    have hrt := hr.take hkl
    rw [Nat.mul_one, ← List.map_take] at hrt
    have hcv := conv_str (P := Tryd.prog) (src := 47) (dst := 9) Tryd.underlying47 Tryd.underlying5 Tryd.underlying9 hrt w1 (fun _ _ => rfl)
    obtain ⟨ap, hsp, Ep, hrp, hEp⟩ := slice_from Tryd.underlying47 hi0 hz1 hr k hkl
    have hsp2 : ∀ W : World, (Instr.slice 47 (.slice a l1.length cp) (some (.int .i64 (k : Int))) none none).run Tryd.prog W = .ok (.slice ap (l1.length - k) (cp - k)) W := fun W => hsp W
    have HP := Lib.hid (show _ ∧ _ ∧ _ ∧ _ ∧ _ from ⟨hrp, hEp, hE, hb, hu1⟩)
    clear h1 hb hr hE hcell hu1 HC hsp hrp hEp hrt
    go_wp2_with fail
    go_ret
    rw [HTX.out]
    obtain ⟨hrp, hEp, hE, hb, hu1⟩ := HP.out
    refine ⟨rfl, r :: Ep, ⟨_, Ep, T, heap_setCell_same w1 r 0 _ T (.slice ap (l1.length - k) (cp - k)) hb, hrp.frame (fun b hb => heap_setCell_other _ _ _ _ (fun e => hE b (hEp b hb) e)), fun x hx => hE x (hEp x hx), rfl⟩, ?_⟩
    refine hu1.trans ((Upd.set1 w1 ⟨r, 0, none⟩ (.slice ap (l1.length - k) (cp - k)) (r :: E) (by simp)).mono (fun _ h => h) (fun b hb => .inr ?_))
    rcases List.mem_cons.1 hb with rfl | hb
    · simp
    · simp [hEp b hb]
section
variable {w0 w : World} {r : Nat} {d : Rd} {R : List Thing} {rows : List (Value × Bs)}
theorem rdrSep_text (h : Sep w0 w (ThRdr r d :: R) rows) (most : Int) (hm : 0 ≤ most) :
    Calls Tryd.prog 33 #[.pointer (some ⟨r, 0, none⟩), .int .i64 most] w fun e w' => e = .returned (sv (textR most d).1) ∧ Sep w0 w' (ThRdr r (textR most d).2 :: R) rows := by
  obtain ⟨D, hP, -, back⟩ := h.use
  refine (rdr_text r d.1 d.2 most hm D w hP).mono ?_
  rintro e w' ⟨rfl, D', h', hu⟩
  exact ⟨rfl, back w' D' (ThRdr r (textR most d).2) hu h'⟩
end
end Go.Proofs.YtfncdgnhiinmjaaDoor
