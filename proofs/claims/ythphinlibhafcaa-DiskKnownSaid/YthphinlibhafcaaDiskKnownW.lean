/-
  DiskKnown: what chapter 7 says of names, rooms, safe bytes.
-/
import Derived.Test.YthphinlibhafcaaDiskMovesW
namespace Go.Proofs.Ythphinlibhafcaa
open Go.RowKit Go.Av

def zeros : Bs := List.replicate 65 0
def kd (off : Bool) (lives : Int) (fs : List FileS) : DiskS := { room := 64, off := off, lives := lives, fs := fs }
theorem ga : goodN ⟨#[97]⟩ = true := by rfl
theorem gb : goodN ⟨#[98]⟩ = true := by rfl
theorem k1 : (DiskS.new 64).append ⟨#[]⟩ [] = (1, DiskS.new 64) := by rfl
theorem k2 : (DiskS.new 64).append ⟨#[97]⟩ zeros = (9, DiskS.new 64) := by
  have h1 : (DiskS.new 64).may [⟨#[97]⟩] = 0 := by rfl
  unfold DiskS.append
  rw [if_neg (by simp [h1]), if_pos (by simp [DiskS.new, total, zeros])]
theorem k3 : (DiskS.new 64).sync ⟨#[97]⟩ = (4, DiskS.new 64) := by rfl
theorem k4 : (DiskS.new 64).append ⟨#[97]⟩ [111, 110, 101] = (0, kd false 1 [⟨⟨#[97]⟩, [111, 110, 101], 0⟩]) := by rfl
theorem k5 : (kd false 1 [⟨⟨#[97]⟩, [111, 110, 101], 0⟩]).sync ⟨#[97]⟩ = (0, kd false 1 [⟨⟨#[97]⟩, [111, 110, 101], 3⟩]) := by rfl
theorem k6 : (kd false 1 [⟨⟨#[97]⟩, [111, 110, 101], 3⟩]).append ⟨#[97]⟩ [116, 119, 111] = (0, kd false 1 [⟨⟨#[97]⟩, [111, 110, 101, 116, 119, 111], 3⟩]) := by rfl
theorem k7 : (kd false 1 [⟨⟨#[97]⟩, [111, 110, 101, 116, 119, 111], 3⟩]).rename ⟨#[97]⟩ ⟨#[98]⟩ = (0, kd false 1 [⟨⟨#[98]⟩, [111, 110, 101, 116, 119, 111], 3⟩]) := by rfl
theorem k8 : (kd false 1 [⟨⟨#[98]⟩, [111, 110, 101, 116, 119, 111], 3⟩]).cut ⟨#[98]⟩ 7 = (1, kd false 1 [⟨⟨#[98]⟩, [111, 110, 101, 116, 119, 111], 3⟩]) := by rfl
theorem k9 : (kd false 1 [⟨⟨#[98]⟩, [111, 110, 101, 116, 119, 111], 3⟩]).crash (-5) = kd true 1 [⟨⟨#[98]⟩, [111, 110, 101], 3⟩] := by rfl
theorem k10 : (kd true 1 [⟨⟨#[98]⟩, [111, 110, 101], 3⟩]).on = kd false 2 [⟨⟨#[98]⟩, [111, 110, 101], 3⟩] := by
  have : wrap64 (1 + 1) = 2 := by kernel_rfl
  simp only [DiskS.on, kd, this]
theorem k11 : (kd false 2 [⟨⟨#[98]⟩, [111, 110, 101], 3⟩]).ask ⟨#[98]⟩ = 0 := by rfl
theorem k12 : DiskS.read (kd false 2 [⟨⟨#[98]⟩, [111, 110, 101], 3⟩]) ⟨#[98]⟩ = [111, 110, 101] := by rfl
theorem k13 : (kd false 2 [⟨⟨#[98]⟩, [111, 110, 101], 3⟩]).cut ⟨#[98]⟩ 2 = (0, kd false 2 [⟨⟨#[98]⟩, [111, 110], 2⟩]) := by rfl
theorem k14 : (kd false 2 [⟨⟨#[98]⟩, [111, 110], 2⟩]).drop ⟨#[98]⟩ = (0, kd false 2 []) := by rfl

set_option maxRecDepth 100000 in
set_option maxHeartbeats 1000000 in
theorem known_walk (w : World) : Calls Try.prog 7 #[] w fun e w' => e = .returned (.bool true) ∧ Below w.heap.size w w' := by
  have kc := fun (W : World) (C : Array Value) (n c : Nat) => Lib.run_convert_bytes_const (P := Try.prog) W 28 5 C n c Try.underlying28 Try.underlying5
  have hmk : ∀ W : World, (Instr.makeSlice 28 (.int .i64 65) (.int .i64 65)).run Try.prog W = .ok (.slice (some ⟨W.heap.size, 0, none⟩) 65 65) (W.alloc (.cells (zeros.map bv).toArray 5)) := fun _ => by kernel_rfl
  go_enter Try.func7, Try.ntmps7
  go_wp2_with fail
  refine (awake_any _).mono ?_
  rintro e w1 ⟨rfl, hu1⟩
  go_wp2_with fail
  refine (new_bad 63 _ (by decide)).mono ?_
  rintro e w1b ⟨rfl, hu1b⟩
  have hu := hu1.trans hu1b
  clear hu1 hu1b
  go_wp2_with fail
  refine (Held.new (rows := []) 64 (by decide) (by decide) hu (by simp)).mono ?_
  rintro e w2 ⟨d, rfl, H⟩
  clear hu
  go_wp2_with fail
  refine (H.nil.append ⟨#[]⟩ (by decide) (b := []) (by simp) k1).mono ?_
  clear H
  rintro e w3 ⟨rfl, H⟩
  go_wp2_with fail
  refine ((H.lit (zeros) 5 (0, 0) (by decide)).append ⟨#[97]⟩ (by decide) (vb := .slice (some ⟨w3.heap.size, 0, none⟩) 65 65) (b := zeros) (List.mem_cons_self ..) k2).mono ?_
  clear H
  rintro e w4 ⟨rfl, H⟩
  go_wp2_with fail
  refine (H.sync ⟨#[97]⟩ (by decide) k3).mono ?_
  clear H
  rintro e w5 ⟨rfl, H⟩
  go_wp2_with fail
  refine ((H.lit [111, 110, 101] 5 (3, 4) (by decide)).append ⟨#[97]⟩ (by decide) (b := [111, 110, 101]) (by simp) k4).mono ?_
  clear H
  rintro e w6 ⟨rfl, H⟩
  go_wp2_with fail
  refine (H.sync ⟨#[97]⟩ (by decide) k5).mono ?_
  clear H
  rintro e w7 ⟨rfl, H⟩
  go_wp2_with fail
  refine ((H.lit [116, 119, 111] 5 (3, 4) (by decide)).append ⟨#[97]⟩ (by decide) (b := [116, 119, 111]) (by simp) k6).mono ?_
  clear H
  rintro e w8 ⟨rfl, H⟩
  go_wp2_with fail
  refine (H.rename ⟨#[97]⟩ ⟨#[98]⟩ (by decide) (by decide) k7).mono ?_
  clear H
  rintro e w9 ⟨rfl, H⟩
  go_wp2_with fail
  refine (H.cut ⟨#[98]⟩ 7 (by decide) k8).mono ?_
  clear H
  rintro e w10 ⟨rfl, H⟩
  go_wp2_with fail
  refine (H.crash (-5) k9).mono ?_
  clear H
  rintro e w11 ⟨rfl, H⟩
  go_wp2_with fail
  refine (H.on k10).mono ?_
  clear H
  rintro e w12 ⟨rfl, H⟩
  go_wp2_with fail
  refine (H.read ⟨#[98]⟩ (by decide) k11 k12).mono ?_
  clear H
  rintro e w13 ⟨v13, rfl, H⟩
  go_wp2_with fail
  refine (H.cut ⟨#[98]⟩ 2 (by decide) k13).mono ?_
  clear H
  rintro e w14 ⟨rfl, H⟩
  go_wp2_with fail
  refine (H.drop ⟨#[98]⟩ (by decide) k14).mono ?_
  clear H
  rintro e w15 ⟨rfl, H⟩
  have c1 := fun W hW => H.str (v := v13) (b := [111, 110, 101]) (by simp) W hW
  have HH := Lib.hid H
  clear H
  have hnm : (DiskS.names (kd false 2 [])).length = 0 := by simp [DiskS.names, kd]
  have hsz : DiskS.size (kd false 2 []) = 0 := by rfl
  go_wp2_with (first
    | (go_at_call 12; go_must (refine (HH.out.size).mono ?_); rw [hsz]; rintro e w16 ⟨rfl, H16⟩)
    | (go_at_call 19; go_must (refine (H16.names (by simp [kd]) (by simp [kd])).mono ?_); rw [hnm]; rintro e w17 ⟨an, cn, rfl, H17⟩))
  go_ret
  exact ⟨rfl, H17.below⟩
end Go.Proofs.Ythphinlibhafcaa
