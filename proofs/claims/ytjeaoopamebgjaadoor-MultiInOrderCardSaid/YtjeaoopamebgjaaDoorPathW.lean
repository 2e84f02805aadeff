/-
  The walks of paths: a name.
-/
import Derived.Test.YtjeaoopamebgjaaDoorPathA
import Derived.Test.YtjeaoopamebgjaaDoorSepC
import Derived.Test.YtjeaoopamebgjaaDoorGenA
import Derived.Test.YtjeaoopamebgjaaDoorInfos
import Derived.Deep.LoopGhost
namespace Go.Proofs.YtjeaoopamebgjaaDoor
open Go.RowKit Go.Av

set_option maxHeartbeats 1000000 in
theorem name_any (s : ByteArray) (w : World) (hs : s.size ≤ maxLen) :
    Calls Tryd.prog 41 #[.string s] w fun e w' => e = .returned (.bool (nameS s.data.toList)) ∧ w' = w := by
  unfold maxLen at hs
  go_enter Tryd.func41, Tryd.ntmps41
  go_wp2_with fail
  go_loop [6] (fun i => ∃ p : Nat, p ≤ s.size ∧ i = .int .i64 p ∧ (s.data.toList.take p).all okCh = true) (fun i => s.size - (intOf i).toNat)
  case atStart => exact ⟨0, Nat.zero_le _, rfl, rfl⟩
  case round =>
    obtain ⟨p, hp, rfl, ha⟩ := hrel
    by_cases hlt : p < s.size
    · have hts : s.data.toList.take (p + 1) = s.data.toList.take p ++ [s[p]] := by
        rw [List.take_succ_eq_append_getElem (by simpa using hlt)]; rfl
      have hok : okCh s[p] = !(decide ((s[p].toNat : Int) < 33) || decide (126 < (s[p].toNat : Int))) := by
        unfold okCh
        congr 2
        · rw [decide_eq_decide, UInt8.lt_iff_toNat_lt, show (33 : UInt8).toNat = 33 from rfl]; omega
        · rw [decide_eq_decide, UInt8.lt_iff_toNat_lt, show (126 : UInt8).toNat = 126 from rfl]; omega
      have hmem : s[p] ∈ s.data.toList := by
        have : s.data.toList[p]'(by simpa using hlt) = s[p] := rfl
        rw [← this]; exact List.getElem_mem _
      have HX := Lib.hid (show _ ∧ _ ∧ _ ∧ _ from ⟨hts, ha, hok, hmem⟩)
      clear hts ha hok hmem
      have hno : okCh s[p] = false → nameS s.data.toList = false := fun h => by
        unfold nameS
        have : s.data.toList.all okCh = false := List.all_eq_false.2 ⟨_, HX.out.2.2.2, by simp [h]⟩
        rw [this]; rfl
      have HN := Lib.hid hno
      clear hno
      by_cases h1 : (s[p].toNat : Int) < 33
      · go_wp2_with fail
        go_ret
        rw [HN.out (by rw [HX.out.2.2.1]; simp [h1])]
        exact ⟨rfl, rfl⟩
      by_cases h2 : 126 < (s[p].toNat : Int)
      · go_wp2_with fail
        go_ret
        rw [HN.out (by rw [HX.out.2.2.1]; simp [h2])]
        exact ⟨rfl, rfl⟩
      go_wp2_with fail
      go_round
      case rel =>
        refine ⟨p + 1, by omega, by go_num, ?_⟩
        rw [HX.out.1, List.all_append, HX.out.2.1, List.all_cons, HX.out.2.2.1]
        simp [h1, h2]
      case measure => simp [intOf]; omega
    obtain rfl : p = s.size := by omega
    rw [List.take_of_length_le (by simp)] at ha
    have hsz : s.size = s.data.toList.length := by simp
    have HA := Lib.hid (show _ ∧ _ from ⟨ha, hsz⟩)
    clear ha hsz
    have hT : s.toList = s.data.toList := Go.Lib.toList_data s
    have hnm : nameS s.data.toList = (decide (1 ≤ s.size) && decide (s.size ≤ 40) && !(s.toList == [46]) && !(s.toList == [46, 46])) := by
      unfold nameS
      rw [HA.out.1, ← HA.out.2, hT]
      rfl
    have HN := Lib.hid hnm
    clear hnm hT
    by_cases h1 : (1 : Int) ≤ s.size
    case neg =>
      go_wp2_with fail
      go_ret
      rw [HN.out, show decide (1 ≤ s.size) = false from decide_eq_false (by omega)]
      exact ⟨rfl, rfl⟩
    by_cases h2 : (s.size : Int) ≤ 40
    case neg =>
      go_wp2_with fail
      go_ret
      rw [HN.out, show decide (s.size ≤ 40) = false from decide_eq_false (by omega), Bool.and_false]
      exact ⟨rfl, rfl⟩
    have hd1 : decide (1 ≤ s.size) = true := decide_eq_true (by omega)
    have hd2 : decide (s.size ≤ 40) = true := decide_eq_true (by omega)
    have HD := Lib.hid (show _ ∧ _ from ⟨hd1, hd2⟩)
    clear hd1 hd2
    go_wp2_with fail
    all_goals
      go_ret
      refine ⟨?_, rfl⟩
      rw [HN.out, HD.out.1, HD.out.2]
      simp [*]
end Go.Proofs.YtjeaoopamebgjaaDoor
