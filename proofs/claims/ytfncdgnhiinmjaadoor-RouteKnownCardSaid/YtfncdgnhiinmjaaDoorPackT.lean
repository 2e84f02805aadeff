/-
  Texts and rows of numbers in bytes: the walks.
-/
import Derived.Test.YtfncdgnhiinmjaaDoorPackD
import Derived.Test.YtfncdgnhiinmjaaDoorPathB
import Derived.Deep.AppendSrc
namespace Go.Av
open Go.RowKit
def ivn (n : Int) : Value := .int .i64 n
def textB (s : Bs) : Bs := packI s.length ++ s
end Go.Av
namespace Go.Proofs.YtfncdgnhiinmjaaDoor
open Go.RowKit Go.Av

def textR (most : Int) (d : Rd) : Bs × Rd :=
  if ((cntR most d).2.1.length : Int) < (cntR most d).1 then ([], [], true) else ((cntR most d).2.1.take (cntR most d).1.toNat, (cntR most d).2.1.drop (cntR most d).1.toNat, (cntR most d).2.2)
theorem textR_text (most : Int) (s x : Bs) (bad : Bool) (h1 : (s.length : Int) ≤ most) (h3 : most ≤ 9223372036854775807) : textR most (textB s ++ x, bad) = (s, x, bad) := by
  unfold textR textB
  rw [List.append_assoc, cntR_pack most _ _ bad (by omega) h1 h3]
  simp only
  rw [if_neg (by rw [List.length_append]; omega), Int.toNat_natCast, List.take_append_of_le_length (Nat.le_refl _), List.take_length, List.drop_append_of_le_length (Nat.le_refl _), List.drop_length]
  rfl

theorem bytes_src {s : ByteArray} : byteCells s = s.data.toList.map bv := by
  unfold byteCells
  first | rfl | simp [bv]

set_option maxRecDepth 100000 in
set_option maxHeartbeats 1000000 in
theorem textW_any (b : Value) (l : Bs) (E : List Nat) (s : ByteArray) (w : World) (h : ReadRow w 1 b (l.map bv) E) (hl : l.length ≤ 1000000) (hs : s.size ≤ 1000000) :
    Calls Tryd.prog 39 #[b, .string s] w (AppPost w [] (l ++ textB s.data.toList)) := by
  obtain ⟨i0, hi0, hz0, hz1, hz2⟩ := info_parts info5
  have hsz : s.size = s.data.toList.length := by simp
  have hp := pack_any b l E (s.size : Int) w h (by omega)
  have HP := Lib.hid hp
  have hln : (l ++ packI (s.size : Int)).length ≤ 1000008 := by rw [List.length_append, packI_len]; omega
  have HT := Lib.hid (show l ++ textB s.data.toList = (l ++ packI (s.size : Int)) ++ s.data.toList by unfold textB; rw [hsz, List.append_assoc])
  obtain ⟨lp, hlp⟩ : ∃ lp, l ++ packI (s.size : Int) = lp := ⟨_, rfl⟩
  rw [hlp] at hln HP HT
  clear h hp hlp hsz
  go_enter Tryd.func39, Tryd.ntmps39
  go_wp2_with fail
  refine HP.out.mono ?_
  rintro e w1 ⟨v1, D1, rfl, ho1, hu1⟩
  have hsrc : Src Tryd.prog 1 9 (.string s) s.size (byteCells s) w1 := Src.ofString _ Tryd.underlying9 s
  have HBD := Lib.hid (show ∀ n', (lp.map bv).length = n' * 1 → n' + s.size ≤ 140737488355328 ∧ (n' + s.size) * i0.bytes ≤ 140737488355328 from fun n' hn' => by
    rw [List.length_map] at hn'
    rw [hz2]; omega)
  have HU := Lib.hid hu1
  clear hu1 HP
  obtain ⟨a1, n1, c1, rfl, -⟩ := ho1.len
  go_wp2_with (at_builtin; go_must (refine wpList_app rfl _ _ 47 9 rfl 1 _ _ _ rfl ho1 _ i0 _ Tryd.underlying47 hi0 hz0 hz1 rfl _ _ _ rfl hsrc HBD.out ?_); intro a3 n3 c3' w3 D3 hown3 hu3)
  go_ret
  rw [HT.out]
  rw [bytes_src, ← List.map_append] at hown3
  exact ⟨_, D3, rfl, hown3, HU.out.trans hu3⟩

set_option maxRecDepth 100000 in
set_option maxHeartbeats 1000000 in
theorem all_any (b v : Value) (l : Bs) (xs : List Int) (E F : List Nat) (w : World) (h : ReadRow w 1 b (l.map bv) E) (hv : ReadRow w 1 v (xs.map ivn) F) (hl : l.length ≤ 1000000) (hx : xs.length ≤ 1000) :
    Calls Tryd.prog 35 #[b, v] w (AppPost w [] (l ++ xs.flatMap packI)) := by
  obtain ⟨i0, hi0, hz0, hz1, hz2⟩ := info_parts info5
  obtain ⟨av, nv, cv, rfl, -⟩ := _root_.id hv
  obtain ⟨hnv, hncv, hcmv, hcell⟩ := row_cell hv
  rw [List.length_map] at hnv
  subst hnv
  unfold maxLen at hcmv
  have h0 := h.frame ((Upd.alloc0 w (.cells #[] 5 (0, 0)) []).same h.lt (by simp))
  obtain ⟨nb, hnb, hsrc⟩ := h0.src (P := Tryd.prog) (tx := 47) Tryd.underlying47 bv_one
  rw [List.length_map, Nat.mul_one] at hnb
  subst hnb
  have HBD := Lib.hid (show ∀ n', ([] : List Value).length = n' * 1 → n' + l.length ≤ 140737488355328 ∧ (n' + l.length) * i0.bytes ≤ 140737488355328 from fun n' hn' => by simp at hn'; rw [hz2]; omega)
  have HC := Lib.hid hcell
  clear h0 h hv hcell
  go_enter Tryd.func35, Tryd.ntmps35
  go_wp2_with (at_builtin; go_must (refine wpList_app rfl _ _ 47 47 rfl 1 _ [] [] rfl (OwnRow.zero _ _ _) _ i0 _ Tryd.underlying47 hi0 hz0 hz1 rfl _ _ _ rfl hsrc HBD.out ?_); intro a3 n3 c3' w3 D3 hown3 hu3)
  have HST := Lib.hid (show _ ∧ _ from ⟨hown3, ((Upd.alloc0 w (.cells #[] 5 (0, 0)) []).trans hu3 : Upd w w3 [] D3)⟩)
  clear hown3 hu3 hsrc
  go_loopg [5, 13] xs.length (fun k vb vi wr => ∃ (p : Nat) (D : List Nat), p ≤ xs.length ∧ k = xs.length - p ∧ vi = .int .i64 (p : Int) ∧
    OwnRow wr 1 vb ((l ++ (xs.take p).flatMap packI).map bv) D ∧ Upd w wr [] D)
  case atStart => exact ⟨0, D3, Nat.zero_le _, rfl, rfl, by simpa using HST.out.1, HST.out.2⟩
  case round =>
    obtain ⟨p, D, hp, hk, hvi, ho, hu⟩ := hrel
    subst hvi
    clear HST
    by_cases hlt : p < xs.length
    · obtain ⟨x, rfl, hsx, hcx⟩ := HC.out (by simpa using by omega)
      have hcx1 := hcx p (ivn xs[p]) (by rw [List.getElem?_map, List.getElem?_eq_getElem hlt]; rfl)
      have hcx1 := (hu.below.cell (World.block_lt_of_cell? w _ hcx1)).trans hcx1
      have hst : (l ++ (xs.take p).flatMap packI) ++ packI xs[p] = l ++ (xs.take (p + 1)).flatMap packI := by
        rw [List.take_succ_eq_append_getElem hlt, List.flatMap_append]; simp
      obtain ⟨z, hz⟩ : ∃ z, xs[p] = z := ⟨_, rfl⟩
      rw [hz] at hcx1 hst
      unfold ivn at hcx1
      obtain ⟨E1, hr1, hE1⟩ := ho.read
      have hp2 := pack_any _ _ E1 z wr hr1 (by
        simp only [List.length_append, flat_len, List.length_take]; omega)
      rw [hst] at hp2
      have HP := Lib.hid hp2
      have HU := Lib.hid hu
      clear ho hu hr1 hE1 hp2 hz hst hcx
      go_wp2_with fail
      refine HP.out.mono ?_
      rintro e w2 ⟨v2, D2, rfl, ho2, hu2⟩
      have HN := Lib.hid (show _ ∧ _ from ⟨ho2, HU.out.trans (hu2.mono (by simp) (fun _ hb => .inl hb))⟩)
      clear ho2 hu2 HU HP
      go_wp2_with fail
      go_roundg (xs.length - (p + 1))
      case rel => exact ⟨p + 1, D2, by omega, rfl, by go_num, HN.out.1, HN.out.2⟩
      case measure => omega
    · obtain rfl : p = xs.length := by omega
      rw [List.take_length] at ho
      have HO := Lib.hid (show _ ∧ _ from ⟨ho, hu⟩)
      clear ho hu
      go_wp2_with fail
      go_ret
      exact ⟨_, D, rfl, HO.out.1, HO.out.2⟩
end Go.Proofs.YtfncdgnhiinmjaaDoor
