/-
  Decisions in bytes: numbers are written.
-/
import Derived.Test.YtebmmbommkpjaaaCoordK
import Derived.Test.YtebmmbommkpjaaaPackW
namespace Go.Proofs.Ytebmmbommkpjaaa
open Go.RowKit Go.Av

/-- How many numbers there are, and these. -/
def numsS (l : List Int) : Bs := packI l.length ++ l.flatMap packI

theorem numsS_step (b : Bs) (l : List Int) (p : Nat) (hp : p < l.length) : b ++ (packI l.length ++ (l.take (p + 1)).flatMap packI) = (b ++ (packI l.length ++ (l.take p).flatMap packI)) ++ packI l[p] := by
  rw [List.take_succ_eq_append_getElem hp, List.flatMap_append]
  simp

theorem packI_len (v : Int) : (packI v).length = 8 := rfl
theorem flat_len : ∀ l : List Int, (l.flatMap packI).length = 8 * l.length
  | [] => rfl
  | x :: l => by rw [List.flatMap_cons, List.length_append, packI_len, flat_len l, List.length_cons]; omega

set_option maxRecDepth 100000 in
set_option maxHeartbeats 1000000 in
theorem numbers_any (b v : Value) (l : Bs) (xs : List Int) (E F : List Nat) (w : World) (h : ReadRow w 1 b (l.map bv) E) (hv : ReadRow w 1 v (xs.map iv) F) (hl : l.length ≤ 1000000) (hx : xs.length ≤ 1000) :
    Calls Try.prog 52 #[b, v] w (AppPost w [] (l ++ numsS xs)) := by
  obtain ⟨a, n, c, rfl, -⟩ := _root_.id hv
  obtain ⟨hn, hnc, hcm, hcell⟩ := row_cell hv
  rw [List.length_map] at hn
  subst hn
  have HP := Lib.hid (pack_any b l E (xs.length : Int) w h (by omega))
  have HC := Lib.hid hcell
  have HV := Lib.hid hv
  clear h hcell hv
  unfold maxLen at hcm
  go_enter Try.func52, Try.ntmps52
  go_wp2_with fail
  refine HP.out.mono ?_
  rintro e w1 ⟨v1, D1, rfl, ho1, hu1⟩
  have HST := Lib.hid (show _ ∧ _ from ⟨ho1, hu1⟩)
  clear ho1 hu1 HP
  go_wp2_with fail
  go_loopg [0, 13] xs.length (fun k vb vi wr => ∃ (p : Nat) (D : List Nat), p ≤ xs.length ∧ k = xs.length - p ∧ vi = .int .i64 (p : Int) ∧
    OwnRow wr 1 vb ((l ++ (packI xs.length ++ (xs.take p).flatMap packI)).map bv) D ∧ Upd w wr [] D)
  case atStart => exact ⟨0, D1, Nat.zero_le _, rfl, rfl, by simpa using HST.out.1, HST.out.2⟩
  case round =>
    obtain ⟨p, D, hp, hk, hvi, ho, hu⟩ := hrel
    subst hvi
    clear HST
    by_cases hlt : p < xs.length
    · obtain ⟨x, rfl, hsx, hcx⟩ := HC.out (by simpa using by omega)
      have hcx := hcx p (iv xs[p]) (by rw [List.getElem?_map, List.getElem?_eq_getElem hlt]; rfl)
      have hcx := (hu.below.cell (World.block_lt_of_cell? w _ hcx)).trans hcx
      have hst := numsS_step l xs p hlt
      obtain ⟨z, hz⟩ : ∃ z, xs[p] = z := ⟨_, rfl⟩
      rw [hz] at hcx hst
      unfold iv at hcx
      obtain ⟨E1, hr1, hE1⟩ := ho.read
      have hp2 := pack_any _ _ E1 z wr hr1 (by
        simp only [List.length_append, packI_len, flat_len, List.length_take]; omega)
      rw [← hst] at hp2
      have HP := Lib.hid hp2
      have HU := Lib.hid hu
      clear ho hu hr1 hE1 hp2 hz hst
      go_wp2_with fail
      refine HP.out.mono ?_
      rintro e w2 ⟨v2, D2, rfl, ho2, hu2⟩
      have HN := Lib.hid (show _ ∧ _ from ⟨ho2, HU.out.trans (hu2.mono (by simp) (fun _ hb => .inl hb))⟩)
      clear ho2 hu2 HU HP
      go_wp2_with fail
      go_roundg (xs.length - (p + 1))
      case rel => exact ⟨p + 1, D2, by omega, rfl, by go_num, HN.out.1, HN.out.2⟩
      case measure => omega
    · obtain rfl : p = xs.length := by omega
      rw [List.take_length] at ho
      have HO := Lib.hid (show _ ∧ _ from ⟨ho, hu⟩)
      clear ho hu
      go_wp2_with fail
      go_ret
      exact ⟨_, D, rfl, HO.out.1, HO.out.2⟩
end Go.Proofs.Ytebmmbommkpjaaa
