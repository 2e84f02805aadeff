/-
  Routes: what all the laws of layer 16 begin with.
-/
import Derived.Test.YtfncdgnhiinmjaaDoorMvIn
namespace Go.Proofs.YtfncdgnhiinmjaaDoor
open Go.RowKit Go.Av

theorem aw1 : ofS ⟨2, 1, []⟩ [47, 97] = 1 := by decide +kernel
theorem aw2 : moveS ⟨2, 1, []⟩ [97] 0 = (0, ⟨2, 2, [([97], 0)]⟩) := by rfl
theorem aw3 : ofS ⟨2, 2, [([97], 0)]⟩ [47, 97, 47, 98] = 0 := by decide +kernel

set_option maxRecDepth 100000 in
set_option maxHeartbeats 1000000 in
theorem awake16_any (w : World) (hd : Door w) : Calls Tryd.prog 9 #[] w fun e w' => e = .returned (.bool true) ∧ Upd w w' [] [] := by
  have HD := Lib.hid hd
  clear hd
  go_enter Tryd.func9, Tryd.ntmps9
  go_wp2_with fail
  refine (rt_new (Sep.start w) 2 (by decide) (by decide)).mono ?_
  rintro e w1 ⟨t, rfl, h⟩
  have H1 := Lib.hid h
  clear h
  go_wp2_with fail
  have c := of_any H1.out HD.out ⟨#[47, 97]⟩ (by decide) (by decide) (by decide)
  rw [show (⟨#[47, 97]⟩ : ByteArray).data.toList = [47, 97] from rfl, aw1] at c
  refine c.mono ?_
  clear c
  rintro e w2 ⟨rfl, h⟩
  have H2 := Lib.hid h
  clear h H1
  go_wp2_with fail
  have c := move_any H2.out HD.out ⟨#[97]⟩ 0 (by decide) (by decide) (by decide)
  rw [show (⟨#[97]⟩ : ByteArray).data.toList = [97] from rfl, aw2] at c
  refine c.mono ?_
  clear c
  rintro e w3 ⟨rfl, h⟩
  have H3 := Lib.hid h
  clear h H2
  go_wp2_with fail
  have c := of_any H3.out HD.out ⟨#[47, 97, 47, 98]⟩ (by decide) (by decide) (by decide)
  rw [show (⟨#[47, 97, 47, 98]⟩ : ByteArray).data.toList = [47, 97, 47, 98] from rfl, aw3] at c
  refine c.mono ?_
  clear c
  rintro e w4 ⟨rfl, h⟩
  have H4 := Lib.hid h
  clear h H3
  go_wp2_with fail
  refine (rt_version H4.out).mono ?_
  rintro e w5 ⟨rfl, hW⟩
  subst w5
  go_wp2_with fail
  refine (rt_shards H4.out).mono ?_
  rintro e w5 ⟨rfl, hW⟩
  subst w5
  go_wp2_with fail
  go_ret
  obtain ⟨m, D, -, hu, -⟩ := H4.out
  exact ⟨rfl, hu.mono (fun _ h => h) (fun b hb => by cases hb)⟩
end Go.Proofs.YtfncdgnhiinmjaaDoor
