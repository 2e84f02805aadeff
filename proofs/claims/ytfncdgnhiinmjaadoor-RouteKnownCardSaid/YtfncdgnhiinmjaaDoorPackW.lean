/-
  The walks of numbers in bytes.
-/
import Derived.Test.YtfncdgnhiinmjaaDoorPackA
import Derived.Test.YtfncdgnhiinmjaaDoorGenA
import Derived.Test.YtfncdgnhiinmjaaDoorInfos
import Derived.Deep.LoopGhost
namespace Go.Proofs.YtfncdgnhiinmjaaDoor
open Go.RowKit Go.Av

def byteAt (n j : Nat) : Nat := n / 2 ^ (8 * j) % 256
theorem packI_step (v : Int) (j : Nat) (hj : j < 8) : (packI v).take (7 - j + 1) = (packI v).take (7 - j) ++ [UInt8.ofNat ((v % 18446744073709551616).toNat / 2 ^ (8 * j))] := by
  unfold packI be8
  match j, hj with
  | 0, _ => simp
  | 1, _ => simp
  | 2, _ => simp
  | 3, _ => simp
  | 4, _ => simp
  | 5, _ => simp
  | 6, _ => simp
  | 7, _ => simp
  | n + 8, h => omega

set_option maxRecDepth 100000 in
set_option maxHeartbeats 1000000 in
theorem pack_any (b : Value) (l : Bs) (E : List Nat) (v : Int) (w : World) (h : ReadRow w 1 b (l.map bv) E) (hl : l.length ≤ 1073741824) :
    Calls Tryd.prog 38 #[b, .int .i64 v] w (AppPost w [] (l ++ packI v)) := by
  obtain ⟨i0, hi0, hz0, hz1, hz2⟩ := info_parts info5
  obtain ⟨nn, hnn⟩ : ∃ nn : Nat, nn = (v % 18446744073709551616).toNat := ⟨_, rfl⟩
  have e64 : IntKind.u64.wrap v = (nn : Int) := by rw [hnn, IntKind.wrap_u64]; omega
  have HN := Lib.hid hnn
  clear hnn
  have h0 := h.frame ((Upd.alloc0 w (.cells #[] 5 (0, 0)) []).same h.lt (by simp))
  obtain ⟨nb, hnb, hsrc⟩ := h0.src (P := Tryd.prog) (tx := 47) Tryd.underlying47 bv_one
  rw [List.length_map, Nat.mul_one] at hnb
  subst hnb
  have HBD := Lib.hid (show ∀ n', ([] : List Value).length = n' * 1 → n' + l.length ≤ 140737488355328 ∧ (n' + l.length) * i0.bytes ≤ 140737488355328 from fun n' hn' => by simp at hn'; rw [hz2]; omega)
  clear h0
  go_enter Tryd.func38, Tryd.ntmps38
  go_wp2_with (at_builtin; go_must (refine wpList_app rfl _ _ 47 47 rfl 1 _ [] [] rfl (OwnRow.zero _ _ _) _ i0 _ Tryd.underlying47 hi0 hz0 hz1 rfl _ _ _ rfl hsrc HBD.out ?_); intro a3 n3 c3' w3 D3 hown3 hu3)
  have hu0 : Upd w w3 [] D3 := (Upd.alloc0 w (.cells #[] 5 (0, 0)) []).trans hu3
  have hst : ∃ (m : Nat) (D : List Nat), m ≤ 8 ∧ (8 : Nat) = m ∧ (Value.int .i64 7) = .int .i64 ((m : Int) - 1) ∧ OwnRow w3 1 (.slice a3 n3 c3') ((l ++ (packI v).take (8 - m)).map bv) D ∧ Upd w w3 [] D :=
    ⟨8, D3, by omega, rfl, rfl, by simpa using hown3, hu0⟩
  clear hown3 hu3 hu0 hsrc
  go_loopg [5, 6] 8 (fun k o i wr => ∃ (m : Nat) (D : List Nat), m ≤ 8 ∧ k = m ∧ i = .int .i64 ((m : Int) - 1) ∧ OwnRow wr 1 o ((l ++ (packI v).take (8 - m)).map bv) D ∧ Upd w wr [] D)
  case atStart => exact hst
  case round =>
    obtain ⟨m, D, hm, hk, rfl, hown, hu⟩ := hrel
    cases m with
    | zero =>
      have HO := Lib.hid hown
      have HU := Lib.hid hu
      clear hown hu
      go_wp2_with fail
      go_ret
      exact ⟨_, D, rfl, by have := HO.out; rwa [List.take_of_length_le (by rw [packI_length]; omega)] at this, HU.out⟩
    | succ j =>
      rw [show ((j + 1 : Nat) : Int) - 1 = (j : Int) by omega]
      obtain ⟨bt, hbt⟩ : ∃ bt : Nat, bt = nn / 2 ^ (8 * j) % 256 := ⟨_, rfl⟩
      have e8 : IntKind.i64.wrap (8 * (j : Int)) = ((8 * j : Nat) : Int) := by rw [IntWalk.i64_in _ (by omega)]; omega
      have eb : IntKind.u8.wrap ((nn : Int) / 2 ^ (8 * j)) = (bt : Int) := by
        rw [hbt, IntKind.wrap_u8]
        simp
      have HB := Lib.hid hbt
      have hU2 := Upd.alloc0 wr (.cells #[.int .u8 bt] 5 (0, 0)) []
      have hown2 := hown.frame (hU2.same hown.lt (by simp))
      obtain ⟨nb, hnb, hsrc⟩ := (cell_new wr (.int .u8 bt) 5 (0, 0)).src (P := Tryd.prog) (tx := 47) Tryd.underlying47 (by intro u hu; rw [List.mem_singleton.1 hu]; rfl)
      have hnb1 : 1 = nb := by simpa using hnb
      subst hnb1
      have HBD := Lib.hid (show ∀ n', ((l ++ (packI v).take (8 - (j + 1))).map bv).length = n' * 1 → n' + 1 ≤ 140737488355328 ∧ (n' + 1) * i0.bytes ≤ 140737488355328 from fun n' hn' => by simp at hn'; rw [hz2]; omega)
      have HU := Lib.hid (hu.trans (Upd.alloc0 wr (.cells #[.int .u8 bt] 5 (0, 0)) D))
      clear hbt hown hu hnb hU2
      go_wp2_with (at_builtin; go_must (refine wpList_app rfl _ _ 47 47 rfl 1 _ _ _ rfl hown2 _ i0 _ Tryd.underlying47 hi0 hz0 hz1 rfl _ _ _ rfl hsrc HBD.out ?_); intro a4 n4 c4 w4 D4 hown4 hu4)
      go_roundg j
      case rel =>
        refine ⟨j, D4, by omega, rfl, rfl, ?_, HU.out.trans hu4⟩
        have e1 : 8 - j = 7 - j + 1 := by omega
        have e2 : 8 - (j + 1) = 7 - j := by omega
        rw [e2] at hown4
        rw [e1, packI_step v j (by omega), ← HN.out, ← List.append_assoc, List.map_append]
        have e3 : ([UInt8.ofNat (nn / 2 ^ (8 * j))] : Bs).map bv = [.int .u8 bt] := by simp [bv, HB.out]
        rw [e3]
        exact hown4
      case measure => omega
end Go.Proofs.YtfncdgnhiinmjaaDoor
