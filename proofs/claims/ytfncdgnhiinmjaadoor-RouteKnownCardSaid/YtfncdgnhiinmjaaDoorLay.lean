/-
  The library's contracts on 'slices.Sorted(maps.Keys(m))' laid at this program, in plain words (written by the kit's tools).
-/
import Derived.Shelf.SlIter.Nil
import Derived.Shelf.SortM.Plain
import Derived.Shelf.SortM.SortNone
import Derived.Ground.GgzProg
import Derived.Ground.SlgmProg
import Derived.Test.YtfncdgnhiinmjaaDoorProg
namespace Go.Proofs
open Go.Shelf
def Tryd.keys37_ren : Go.Shelf.Ren := ⟨fun | 7 => 37 | 10 => 52 | n => n, fun | 23 => 61 | 26 => 9 | 3 => 3 | 28 => 74 | 0 => 0 | 27 => 73 | 33 => 36 | 4 => 4 | n => n, fun | n => n⟩
theorem Tryd.keys37 : Go.Proofs.SlLaysZ.n7 Tryd.prog Tryd.keys37_ren := {
  mixed := by kernel_rfl
  f7 := ⟨Tryd.f37.name, by decide, Tryd.func37.trans (congrArg some (by kernel_rfl))⟩
  f10 := ⟨Tryd.f52.name, by decide, Tryd.func52.trans (congrArg some (by kernel_rfl))⟩
  t0 := Tryd.underlying0
  a0 := Tryd.isAgg0
  z0 := Tryd.sizeOf0
  v0 := Tryd.zeroValue0
  t4 := Tryd.underlying4
  a4 := Tryd.isAgg4
  z4 := Tryd.sizeOf4
  v4 := Tryd.zeroValue4
  t23 := Tryd.underlying61
  a23 := Tryd.isAgg61
  z23 := Tryd.sizeOf61
  v23 := Tryd.zeroValue61
  t26 := Tryd.underlying9
  a26 := Tryd.isAgg9
  z26 := Tryd.sizeOf9
  v26 := Tryd.zeroValue9
  t27 := Tryd.underlying73
  a27 := Tryd.isAgg73
  z27 := Tryd.sizeOf73
  v27 := Tryd.zeroValue73
  t28 := Tryd.underlying74
  a28 := Tryd.isAgg74
  z28 := Tryd.sizeOf74
  v28 := Tryd.zeroValue74
  t33 := Tryd.underlying36
  a33 := Tryd.isAgg36
  z33 := Tryd.sizeOf36
  v33 := Tryd.zeroValue36 }
def Tryd.sorted36_ren : Go.Shelf.Ren := ⟨fun | 6 => 36 | 8 => 50 | 9 => 51 | 11 => 55 | 13 => 57 | 12 => 56 | 23 => 70 | 24 => 71 | 14 => 61 | 15 => 62 | 16 => 63 | 17 => 64 | 18 => 65 | 19 => 66 | 20 => 67 | 21 => 68 | 22 => 69 | 25 => 76 | 26 => 77 | 27 => 78 | 28 => 79 | 29 => 80 | 30 => 81 | 31 => 87 | n => n, fun | 26 => 9 | 28 => 74 | 24 => 65 | 0 => 0 | 3 => 3 | 37 => 87 | 48 => 106 | 50 => 86 | 4 => 4 | 40 => 99 | 39 => 98 | 45 => 64 | 5 => 5 | 9 => 9 | 51 => 110 | 55 => 114 | 57 => 119 | 58 => 120 | 33 => 36 | n => n, fun | n => n⟩
theorem Tryd.sorted36 : Go.Proofs.SlLaysZ.n6 Tryd.prog Tryd.sorted36_ren := {
  mixed := by kernel_rfl
  f6 := ⟨Tryd.f36.name, by decide, Tryd.func36.trans (congrArg some (by kernel_rfl))⟩
  f8 := ⟨Tryd.f50.name, by decide, Tryd.func50.trans (congrArg some (by kernel_rfl))⟩
  f11 := ⟨Tryd.f55.name, by decide, Tryd.func55.trans (congrArg some (by kernel_rfl))⟩
  t0 := Tryd.underlying0
  a0 := Tryd.isAgg0
  z0 := Tryd.sizeOf0
  v0 := Tryd.zeroValue0
  t24 := Tryd.underlying65
  a24 := Tryd.isAgg65
  z24 := Tryd.sizeOf65
  v24 := Tryd.zeroValue65
  t26 := Tryd.underlying9
  a26 := Tryd.isAgg9
  z26 := Tryd.sizeOf9
  v26 := Tryd.zeroValue9
  t28 := Tryd.underlying74
  a28 := Tryd.isAgg74
  z28 := Tryd.sizeOf74
  v28 := Tryd.zeroValue74
  i26 := by kernel_rfl }
def Tryd.sort51_ren : Go.Shelf.Ren := ⟨fun | 6 => 51 | 8 => 57 | 9 => 56 | 19 => 70 | 20 => 71 | 21 => 61 | 22 => 62 | 23 => 63 | 24 => 64 | 25 => 65 | 26 => 66 | 27 => 67 | 28 => 68 | 29 => 69 | 36 => 76 | 31 => 77 | 32 => 78 | 37 => 79 | 38 => 80 | 39 => 81 | 41 => 87 | n => n, fun | 27 => 65 | 29 => 9 | 3 => 3 | 32 => 87 | 26 => 65 | 0 => 0 | 44 => 106 | 46 => 86 | 4 => 4 | 36 => 99 | 35 => 98 | 41 => 64 | 5 => 5 | 9 => 9 | 53 => 110 | 57 => 114 | 63 => 119 | 64 => 120 | n => n, fun | n => n⟩
theorem Tryd.sort51 : Go.Proofs.SlLaysM.n6 Tryd.prog Tryd.sort51_ren := {
  mixed := by kernel_rfl
  f6 := ⟨Tryd.f51.name, by decide, Tryd.func51.trans (congrArg some (by kernel_rfl))⟩
  f8 := Tryd.func57.trans (congrArg some (by kernel_rfl))
  f9 := ⟨Tryd.f56.name, by decide, Tryd.func56.trans (congrArg some (by kernel_rfl))⟩
  f19 := Tryd.func70.trans (congrArg some (by kernel_rfl))
  f20 := Tryd.func71.trans (congrArg some (by kernel_rfl))
  f21 := ⟨Tryd.f61.name, by decide, Tryd.func61.trans (congrArg some (by kernel_rfl))⟩
  f22 := ⟨Tryd.f62.name, by decide, Tryd.func62.trans (congrArg some (by kernel_rfl))⟩
  f23 := ⟨Tryd.f63.name, by decide, Tryd.func63.trans (congrArg some (by kernel_rfl))⟩
  f24 := ⟨Tryd.f64.name, by decide, Tryd.func64.trans (congrArg some (by kernel_rfl))⟩
  f25 := ⟨Tryd.f65.name, by decide, Tryd.func65.trans (congrArg some (by kernel_rfl))⟩
  f26 := ⟨Tryd.f66.name, by decide, Tryd.func66.trans (congrArg some (by kernel_rfl))⟩
  f27 := ⟨Tryd.f67.name, by decide, Tryd.func67.trans (congrArg some (by kernel_rfl))⟩
  f28 := ⟨Tryd.f68.name, by decide, Tryd.func68.trans (congrArg some (by kernel_rfl))⟩
  f29 := ⟨Tryd.f69.name, by decide, Tryd.func69.trans (congrArg some (by kernel_rfl))⟩
  f31 := Tryd.func77.trans (congrArg some (by kernel_rfl))
  f32 := Tryd.func78.trans (congrArg some (by kernel_rfl))
  f36 := ⟨Tryd.f76.name, by decide, Tryd.func76.trans (congrArg some (by kernel_rfl))⟩
  f37 := ⟨Tryd.f79.name, by decide, Tryd.func79.trans (congrArg some (by kernel_rfl))⟩
  f38 := ⟨Tryd.f80.name, by decide, Tryd.func80.trans (congrArg some (by kernel_rfl))⟩
  f39 := ⟨Tryd.f81.name, by decide, Tryd.func81.trans (congrArg some (by kernel_rfl))⟩
  f41 := ⟨Tryd.f87.name, by decide, Tryd.func87.trans (congrArg some (by kernel_rfl))⟩
  t0 := Tryd.underlying0
  a0 := Tryd.isAgg0
  z0 := Tryd.sizeOf0
  v0 := Tryd.zeroValue0
  t3 := Tryd.underlying3
  a3 := Tryd.isAgg3
  z3 := Tryd.sizeOf3
  v3 := Tryd.zeroValue3
  t4 := Tryd.underlying4
  a4 := Tryd.isAgg4
  z4 := Tryd.sizeOf4
  v4 := Tryd.zeroValue4
  t5 := Tryd.underlying5
  a5 := Tryd.isAgg5
  z5 := Tryd.sizeOf5
  v5 := Tryd.zeroValue5
  t9 := Tryd.underlying9
  a9 := Tryd.isAgg9
  z9 := Tryd.sizeOf9
  v9 := Tryd.zeroValue9
  t26 := Tryd.underlying65
  a26 := Tryd.isAgg65
  z26 := Tryd.sizeOf65
  v26 := Tryd.zeroValue65
  t27 := Tryd.underlying65
  a27 := Tryd.isAgg65
  z27 := Tryd.sizeOf65
  v27 := Tryd.zeroValue65
  t29 := Tryd.underlying9
  a29 := Tryd.isAgg9
  z29 := Tryd.sizeOf9
  v29 := Tryd.zeroValue9
  t32 := Tryd.underlying87
  a32 := Tryd.isAgg87
  z32 := Tryd.sizeOf87
  v32 := Tryd.zeroValue87
  t35 := Tryd.underlying98
  a35 := Tryd.isAgg98
  z35 := Tryd.sizeOf98
  v35 := Tryd.zeroValue98
  t36 := Tryd.underlying99
  a36 := Tryd.isAgg99
  z36 := Tryd.sizeOf99
  v36 := Tryd.zeroValue99
  t41 := Tryd.underlying64
  a41 := Tryd.isAgg64
  z41 := Tryd.sizeOf64
  v41 := Tryd.zeroValue64
  t44 := Tryd.underlying106
  a44 := Tryd.isAgg106
  z44 := Tryd.sizeOf106
  v44 := Tryd.zeroValue106
  t46 := Tryd.underlying86
  a46 := Tryd.isAgg86
  z46 := Tryd.sizeOf86
  v46 := Tryd.zeroValue86
  t53 := Tryd.underlying110
  a53 := Tryd.isAgg110
  z53 := Tryd.sizeOf110
  v53 := Tryd.zeroValue110
  t57 := Tryd.underlying114
  a57 := Tryd.isAgg114
  z57 := Tryd.sizeOf114
  v57 := Tryd.zeroValue114
  t63 := Tryd.underlying119
  a63 := Tryd.isAgg119
  z63 := Tryd.sizeOf119
  v63 := Tryd.zeroValue119
  t64 := Tryd.underlying120
  a64 := Tryd.isAgg120
  z64 := Tryd.sizeOf120
  v64 := Tryd.zeroValue120 }
open Go.RowKit Go.Maps Go.Sort Go.Shelf
theorem Tryd.sorts36 (m : Nat) : AnyZ.SortsIn Tryd.prog Tryd.sorted36_ren Fence.wide m :=
  ⟨fun blk off cap ss W hH hblk hsz => callsIn_wide.2 (AnyM.slices_Sort_string Tryd.sort51 blk off cap ss W hH hblk hsz),
   fun p cap W => callsIn_wide.2 (AnyM.slices_Sort_string_none Tryd.sort51 p cap W)⟩

theorem Tryd.maps_Keys_37 (mb : Option Nat) (W : World) : CallsIn Fence.wide 5 Tryd.prog 37 #[.map mb] W fun e w' => e = .returned (.func (.func 52) #[] #[.pointer (some ⟨W.heap.size, 0, none⟩)]) ∧ w' = W.alloc (.cells #[.map mb] 61) :=
  AnyZ.keys_in Tryd.keys37 Fence.wide 5 trivial rfl mb W

set_option maxHeartbeats 1000000 in
theorem Tryd.slices_Sorted_keys_36_37 {H : Type} (b nn : Nat) (D0 : DataW H) (R : Value → Option (DataW H × List MemPlace)) (w : World) (hown : w.ownsMap Tryd.prog 9 R b nn D0) (hmax : Maps.size D0 ≤ maxLen) (hbytes : Maps.size D0 * 16 ≤ 140737488355328) :
    CallsIn Fence.wide 5 Tryd.prog 36 #[.func (.func 52) #[] #[.pointer (some ⟨w.heap.size, 0, none⟩)]] (w.alloc (.cells #[.map (some b)] 61)) fun e w' => ∃ (v : Value) (ss : List (List UInt8)), e = .returned v ∧ ss.Perm (strKeys D0) ∧
      w'.ownsRow (w.alloc (.cells #[.map (some b)] 61)).heap.size 9 1 v ss.length ((ss.mergeSort (fun x y => decide (x ≤ y))).map encStr) ∧ (v = .slice none 0 0 ↔ ss = []) ∧ Below (w.alloc (.cells #[.map (some b)] 61)).heap.size (w.alloc (.cells #[.map (some b)] 61)) w' := by
  have hbl := hown.lt
  have hseq : SeqGives Fence.wide 2 Tryd.prog 52 #[.pointer (some ⟨w.heap.size, 0, none⟩)] encStr (fun ss => ss.Perm (strKeys D0)) (Maps.size D0) (w.alloc (.cells #[.map (some b)] 61)) :=
    AnyZ.keys_gives (ρ := Tryd.keys37_ren) { Tryd.keys37 with } Fence.wide _ trivial rfl (by omega) w.heap.size b nn D0 _ (by simp) (by simp) (by
      obtain ⟨es, clock, hb, Ft, hs, hD⟩ := hown
      exact ⟨es, clock, (Below.heap_alloc _ _ b hbl).trans hb, Ft, hs, hD⟩)
  exact AnyZ.sorted_in Tryd.sorted36 Fence.wide 5 trivial trivial trivial trivial rfl (by omega) (Tryd.sorts36 _) (enters_of Tryd.func51 (by kernel_rfl) rfl) 52 #[.pointer (some ⟨w.heap.size, 0, none⟩)] trivial (enters_of Tryd.func52 (by kernel_rfl) rfl) _ _ hmax hbytes _ hseq

set_option maxHeartbeats 1000000 in
theorem Tryd.slices_Sorted_keys_nil_36_37 (w : World) :
    CallsIn Fence.wide 5 Tryd.prog 36 #[.func (.func 52) #[] #[.pointer (some ⟨w.heap.size, 0, none⟩)]] (w.alloc (.cells #[.map none] 61)) fun e w' => ∃ (v : Value) (ss : List (List UInt8)), e = .returned v ∧ ss = [] ∧
      w'.ownsRow (w.alloc (.cells #[.map none] 61)).heap.size 9 1 v ss.length ((ss.mergeSort (fun x y => decide (x ≤ y))).map encStr) ∧ (v = .slice none 0 0 ↔ ss = []) ∧ Below (w.alloc (.cells #[.map none] 61)).heap.size (w.alloc (.cells #[.map none] 61)) w' := by
  have hseq : SeqGives Fence.wide 2 Tryd.prog 52 #[.pointer (some ⟨w.heap.size, 0, none⟩)] encStr (fun ss : List (List UInt8) => ss = []) 0 (w.alloc (.cells #[.map none] 61)) :=
    AnyZ.keys_gives_nil (ρ := Tryd.keys37_ren) { Tryd.keys37 with } Fence.wide _ trivial rfl w.heap.size _ (by simp) (by simp)
  exact AnyZ.sorted_in Tryd.sorted36 Fence.wide 5 trivial trivial trivial trivial rfl (by omega) (Tryd.sorts36 _) (enters_of Tryd.func51 (by kernel_rfl) rfl) 52 #[.pointer (some ⟨w.heap.size, 0, none⟩)] trivial (enters_of Tryd.func52 (by kernel_rfl) rfl) _ 0 (Nat.zero_le _) (by omega) _ hseq



end Go.Proofs
