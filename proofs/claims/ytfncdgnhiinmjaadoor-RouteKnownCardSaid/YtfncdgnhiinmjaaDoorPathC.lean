/-
  The walks of paths: Parts, Top.
-/
import Derived.Test.YtfncdgnhiinmjaaDoorPathB
namespace Go.Proofs.YtfncdgnhiinmjaaDoor
open Go.RowKit Go.Av

def PartsPost (w : World) (l : List Bs) (e : Ending) (w' : World) : Prop := ∃ v D, e = .returned v ∧ OwnRow w' 1 v (l.map sv) D ∧ Upd w w' [] D
set_option maxHeartbeats 1000000 in
theorem parts_any (s : ByteArray) (w : World) (hd : Door w) (hs : s.size ≤ maxLen) :
    Calls Tryd.prog 47 #[.string s] w (PartsPost w (partsP s.data.toList)) := by
  have hg := good_any s w hd hs
  have hsz : s.size = s.data.toList.length := by simp
  unfold partsP
  cases hb : goodP s.data.toList with
  | false =>
    rw [hb] at hg
    have HG := Lib.hid hg
    clear hg hb hsz hd
    go_enter Tryd.func47, Tryd.ntmps47
    go_wp2_with fail
    refine HG.out.mono ?_
    rintro e w1 ⟨rfl, hu⟩
    have HU := Lib.hid hu
    clear hu
    go_wp2_with fail
    go_ret
    exact ⟨_, [], rfl, OwnRow.nil _ _, HU.out⟩
  | true =>
    rw [hb] at hg
    have hl := goodP_len hb
    have h1 : 1 ≤ s.size := by
      rw [hsz]
      cases h : s.data.toList with
      | nil => rw [h] at hb; cases hb
      | cons c r => simp
    have hex : (s.extract 1 s.size).data.toList = s.data.toList.drop 1 := Lib.extract_to_end s 1
    have hsp := fun W (hW : Door W) => split_any (s.extract 1 s.size) W hW (by simp; omega)
    rw [hex] at hsp
    rw [if_pos rfl]
    have hlen : (cutS (s.data.toList.drop 1)).length ≤ 1000000000 := by
      rw [cutS_len]
      have := List.count_le_length (a := 47) (l := s.data.toList.drop 1)
      rw [List.length_drop] at this
      omega
    obtain ⟨ps, hps⟩ : ∃ ps, cutS (s.data.toList.drop 1) = ps := ⟨_, rfl⟩
    rw [hps] at hsp hlen ⊢
    have HG := Lib.hid hg
    have HS := Lib.hid hsp
    have HD := Lib.hid hd
    have HL := Lib.hid hlen
    clear hg hb hsp hps hex hl hlen hd hsz
    go_enter Tryd.func47, Tryd.ntmps47
    go_wp2_with fail
    refine HG.out.mono ?_
    rintro e w1 ⟨rfl, hu⟩
    have HU := Lib.hid hu
    clear hu
    go_wp2_with fail
    refine (HS.out w1 (HD.out.upd HU.out)).mono ?_
    rintro e w2 ⟨rfl, hw2⟩
    have hro := row_split ps w1 HL.out
    have hu2 := HU.out.trans (Upd.alloc1 w1 (.cells (ps.map sv).toArray 9) [])
    rw [← hw2] at hro hu2
    have HR := Lib.hid (show _ ∧ _ from ⟨hro, hu2⟩)
    clear hro hu2 hw2
    go_wp2_with fail
    go_ret
    exact ⟨_, _, rfl, HR.out.1, HR.out.2⟩

set_option maxHeartbeats 1000000 in
theorem top_any (s : ByteArray) (w : World) (hd : Door w) (hs : s.size ≤ maxLen) :
    Calls Tryd.prog 28 #[.string s] w fun e w' => e = .returned (sv (topP s.data.toList)) ∧ Upd w w' [] [] := by
  have hg := parts_any s w hd hs
  unfold topP
  obtain ⟨ps, hps⟩ : ∃ ps, partsP s.data.toList = ps := ⟨_, rfl⟩
  rw [hps] at hg ⊢
  have HG := Lib.hid hg
  clear hg hps hd hs
  go_enter Tryd.func28, Tryd.ntmps28
  go_wp2_with fail
  refine HG.out.mono ?_
  rintro e w1 ⟨v, D, rfl, ho, hu⟩
  obtain ⟨a, n, c, rfl, hl, hn, hc, -⟩ := id ho
  rw [List.length_map, Nat.mul_one] at hl
  subst hl
  unfold maxLen at hc
  have HU := Lib.hid (hu.mono (fun _ h => h) (fun b hb => by cases hb) : Upd w w1 [] [])
  cases ps with
  | nil =>
    clear ho hu
    go_wp2_with fail
    go_ret
    exact ⟨rfl, HU.out⟩
  | cons x ps =>
    obtain ⟨y, rfl, hys, hcy⟩ := ownCell ho (i := 0) (x := sv x) rfl
    have hl0 : (((x :: ps).length : Int) == 0) = false := by simp; omega
    have HY := Lib.hid hcy
    obtain ⟨yb, yo, ysp⟩ := y
    dsimp only at hys
    subst hys
    have hc0 : w1.cell? ⟨yb, yo, none⟩ = some (sv x) := by have := HY.out; rw [Addr.add_lit] at this; exact this
    clear ho hu hcy
    go_wp2_with fail
    go_ret
    exact ⟨rfl, HU.out⟩
end Go.Proofs.YtfncdgnhiinmjaaDoor
