/-
  A reader's counts: the walk.
-/
import Derived.Test.YtfncdgnhiinmjaaDoorPackR
namespace Go.Proofs.YtfncdgnhiinmjaaDoor
open Go.RowKit Go.Av

def cntS (l : Bs) (bad : Bool) (most : Int) : Bs × Bool × Int :=
  if l.length < 8 then ([], true, 0) else if rdI l < 0 ∨ most < rdI l then ([], true, 0) else (l.drop 8, bad, rdI l)

set_option maxRecDepth 100000 in
set_option maxHeartbeats 1000000 in
theorem rdr_count (r : Nat) (l : Bs) (bad : Bool) (most : Int) (hm : 0 ≤ most) (D : List Nat) (w : World) (h : ReaderAt w r l bad D) :
    Calls Tryd.prog 31 #[.pointer (some ⟨r, 0, none⟩), .int .i64 most] w (RdrPost w D r (cntS l bad most).1 (cntS l bad most).2.1 (.returned (.int .i64 (cntS l bad most).2.2))) := by
  have hi := rdr_i64 r l bad D w h
  unfold cntS
  by_cases h8 : l.length < 8
  · rw [if_pos h8, if_pos h8, if_pos h8] at hi
    rw [if_pos h8]
    have HI := Lib.hid hi
    clear hi h h8
    go_enter Tryd.func31, Tryd.ntmps31
    go_wp2_with fail
    refine HI.out.mono ?_
    rintro e w1 ⟨rfl, D1, h1, hu1⟩
    have H1 := Lib.hid (show _ ∧ _ from ⟨h1, hu1⟩)
    have b1 : ¬ most < 0 := by omega
    clear h1 hu1
    go_wp2_with fail
    go_ret
    exact ⟨rfl, D1, H1.out.1, H1.out.2⟩
  · rw [if_neg h8, if_neg h8, if_neg h8] at hi
    rw [if_neg h8]
    obtain ⟨n, hn⟩ : ∃ n, rdI l = n := ⟨_, rfl⟩
    rw [hn] at hi ⊢
    have HI := Lib.hid hi
    clear hi h h8 hn
    by_cases hbad : n < 0 ∨ most < n
    · rw [if_pos hbad]
      by_cases hn0 : n < 0
      case' pos => clear hbad
      case' neg =>
        have hn1 : most < n := by omega
        clear hbad
      all_goals
        go_enter Tryd.func31, Tryd.ntmps31
        go_wp2_with fail
        refine HI.out.mono ?_
        rintro e w1 ⟨rfl, D1, h1, hu1⟩
        have hs := rdr_spoil r _ _ D1 w1 h1
        have HS := Lib.hid hs
        have HU := Lib.hid hu1
        clear h1 hu1 hs
        go_wp2_with fail
        refine HS.out.mono ?_
        rintro e w2 ⟨rfl, D2, h2, hu2⟩
        have H2 := Lib.hid (show _ ∧ _ from ⟨h2, HU.out.trans hu2⟩)
        clear h2 hu2
        go_wp2_with fail
        go_ret
        exact ⟨rfl, D2, H2.out.1, H2.out.2⟩
    · rw [if_neg hbad]
      have hn0 : ¬ n < 0 := fun h => hbad (.inl h)
      have hn1 : ¬ most < n := fun h => hbad (.inr h)
      clear hbad
      go_enter Tryd.func31, Tryd.ntmps31
      go_wp2_with fail
      refine HI.out.mono ?_
      rintro e w1 ⟨rfl, D1, h1, hu1⟩
      have H1 := Lib.hid (show _ ∧ _ from ⟨h1, hu1⟩)
      clear h1 hu1
      go_wp2_with fail
      go_ret
      exact ⟨rfl, D1, H1.out.1, H1.out.2⟩
end Go.Proofs.YtfncdgnhiinmjaaDoor
