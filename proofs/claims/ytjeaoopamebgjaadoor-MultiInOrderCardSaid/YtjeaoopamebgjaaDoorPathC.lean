/-
  The walks of paths: Parts, Top.
-/
import Derived.Test.YtjeaoopamebgjaaDoorPathB
namespace Go.Proofs.YtjeaoopamebgjaaDoor
open Go.RowKit Go.Av

def PartsPost (w : World) (l : List Bs) (e : Ending) (w' : World) : Prop := ∃ v D, e = .returned v ∧ OwnRow w' 1 v (l.map sv) D ∧ Upd w w' [] D
set_option maxHeartbeats 1000000 in
theorem parts_any (s : ByteArray) (w : World) (hd : Door w) (hs : s.size ≤ maxLen) :
    Calls Tryd.prog 32 #[.string s] w (PartsPost w (partsP s.data.toList)) := by
  have hg := good_any s w hd hs
  have hsz : s.size = s.data.toList.length := by simp
  unfold partsP
  cases hb : goodP s.data.toList with
  | false =>
    rw [hb] at hg
    have HG := Lib.hid hg
    clear hg hb hsz hd
    go_enter Tryd.func32, Tryd.ntmps32
    go_wp2_with fail
    refine HG.out.mono ?_
    rintro e w1 ⟨rfl, hu⟩
    have HU := Lib.hid hu
    clear hu
    go_wp2_with fail
    go_ret
    exact ⟨_, [], rfl, OwnRow.nil _ _, HU.out⟩
  | true =>
    rw [hb] at hg
    have hl := goodP_len hb
    have h1 : 1 ≤ s.size := by
      rw [hsz]
      cases h : s.data.toList with
      | nil => rw [h] at hb; cases hb
      | cons c r => simp
    have hex : (s.extract 1 s.size).data.toList = s.data.toList.drop 1 := Lib.extract_to_end s 1
    have hsp := fun W (hW : Door W) => split_any (s.extract 1 s.size) W hW (by simp; omega)
    rw [hex] at hsp
    rw [if_pos rfl]
    have hlen : (cutS (s.data.toList.drop 1)).length ≤ 1000000000 := by
      rw [cutS_len]
      have := List.count_le_length (a := 47) (l := s.data.toList.drop 1)
      rw [List.length_drop] at this
      omega
    obtain ⟨ps, hps⟩ : ∃ ps, cutS (s.data.toList.drop 1) = ps := ⟨_, rfl⟩
    rw [hps] at hsp hlen ⊢
    have HG := Lib.hid hg
    have HS := Lib.hid hsp
    have HD := Lib.hid hd
    have HL := Lib.hid hlen
    clear hg hb hsp hps hex hl hlen hd hsz
    go_enter Tryd.func32, Tryd.ntmps32
    go_wp2_with fail
    refine HG.out.mono ?_
    rintro e w1 ⟨rfl, hu⟩
    have HU := Lib.hid hu
    clear hu
    go_wp2_with fail
    refine (HS.out w1 (HD.out.upd HU.out)).mono ?_
    rintro e w2 ⟨rfl, hw2⟩
    have hro := row_split ps w1 HL.out
    have hu2 := HU.out.trans (Upd.alloc1 w1 (.cells (ps.map sv).toArray 9) [])
    rw [← hw2] at hro hu2
    have HR := Lib.hid (show _ ∧ _ from ⟨hro, hu2⟩)
    clear hro hu2 hw2
    go_wp2_with fail
    go_ret
    exact ⟨_, _, rfl, HR.out.1, HR.out.2⟩

end Go.Proofs.YtjeaoopamebgjaaDoor
