/-
  Texts of this claim, laid together.
-/
import Derived.Test.YtcnkifbjlihaoaaGreatDoorMb1
import Derived.Deep.LoopGhost
import Derived.Shelf.Strings.Builder1
import Derived.Shelf.Strings.Builder2
import Derived.Shelf.Strings.OnBuilder
import Derived.Shelf.Small.Bits
import Derived.Shelf.Small.Wraps
import Derived.Shelf.Strings.BuilderF
import Derived.Shelf.Strings.BuilderK
import Derived.Shelf.Utf8.RuneCount
import Derived.Shelf.Strconv.Itoa0
import Derived.Shelf.Strconv.Itoa1
import Derived.Shelf.LaysM
import Derived.Shelf.Strconv.Itoa2
import Derived.Shelf.Strconv.Itoa3
import Derived.Shelf.Strings.Search1
import Derived.Shelf.Strings.Search2
import Derived.Shelf.Strings.Search3
import Derived.Shelf.Strings.Count
import Derived.Shelf.Strings.Shaped
import Derived.Shelf.Sort.Plain
import Derived.Shelf.Strings.Prefix
import Derived.Shelf.Strings.Split
import Derived.Shelf.Strings.SplitShaped
import Derived.Shelf.Unicode.Decode
import Derived.Shelf.Strings.RuneCount
import Derived.Shelf.Strings.Explode
import Derived.Shelf.Bits.Mul64
import Derived.Shelf.Strings.Repeat
import Derived.Shelf.Unicode.DecodeSlow
import Derived.Shelf.Unicode.DecodeAny
import Derived.Ground.Names2Prog
import Derived.Shelf.Slices.ReverseS
import Derived.Shelf.Slices.Clone
import Derived.Shelf.Slices.SearchI
import Derived.Shelf.Slices.Delete
import Derived.Shelf.Slices.Cells
import Derived.Shelf.Slices.In.SortNone
import Derived.Shelf.Slices.Empties
import Derived.Ground.SlgnProg
import Derived.Shelf.SlicesE.Clone
import Derived.Ground.SlgmProg
import Derived.Shelf.SortM.Plain
import Derived.Shelf.SortM.SortNone
import Derived.Test.YtcnkifbjlihaoaaGreatDoorProg
import Derived.Deep.AppendSrc
import Derived.Sort.Walk0
import Derived.Shelf.Spec.SearchS
import Derived.Shelf.Spec.SlicesInsert
import Derived.Shelf.Spec.SlicesInsertGrow
import Derived.Laws.IdiomCopy
set_option linter.unusedVariables false
set_option linter.unusedSimpArgs false

namespace Go.Proofs.YtcnkifbjlihaoaaGreatDoor
open Go.RowKit Go.Av
set_option maxHeartbeats 1000000 in
theorem yt3' (s : ByteArray) (w : World) (hs : s.size ≤ maxLen) :
  Calls Tryz.prog 211 #[.string s] w fun e w' => e = .returned (.bool (yel' s.data.toList)) ∧ w' = w := by
 unfold maxLen at hs
 go_enter Tryz.func211, Tryz.ntmps211
 go_wp2_with fail
 go_loop [6] (fun i => ∃ p : Nat, p ≤ s.size ∧ i = .int .i64 p ∧ (s.data.toList.take p).all okCh = true) (fun i => s.size - (intOf i).toNat)
 case atStart => exact ⟨0, Nat.zero_le _, rfl, rfl⟩
 case round =>
  obtain ⟨p, hp, rfl, ha⟩ := hrel
  by_cases hlt : p < s.size
  ·have hts : s.data.toList.take (p + 1) = s.data.toList.take p ++ [s[p]] := by
    rw [List.take_succ_eq_append_getElem (by simpa using hlt)]; rfl
   have hok : okCh s[p] = !(decide ((s[p].toNat : Int) < 33) || decide (126 < (s[p].toNat : Int))) := by
    unfold okCh
    congr 2
    ·rw [decide_eq_decide, UInt8.lt_iff_toNat_lt, show (33 : UInt8).toNat = 33 from rfl]; omega
    ·rw [decide_eq_decide, UInt8.lt_iff_toNat_lt, show (126 : UInt8).toNat = 126 from rfl]; omega
   have hmem : s[p] ∈ s.data.toList := by
    have : s.data.toList[p]'(by simpa using hlt) = s[p] := rfl
    rw [← this]; exact List.getElem_mem _
   have HX := Lib.hid (show _ ∧ _ ∧ _ ∧ _ from ⟨hts, ha, hok, hmem⟩)
   clear hts ha hok hmem
   have hno : okCh s[p] = false → yel' s.data.toList = false := fun h => by
    unfold yel'
    have : s.data.toList.all okCh = false := List.all_eq_false.2 ⟨_, HX.out.2.2.2, by simp [h]⟩
    rw [this]; rfl
   have HN := Lib.hid hno
   clear hno
   by_cases h1 : (s[p].toNat : Int) < 33
   ·go_wp2_with fail
    go_ret
    rw [HN.out (by rw [HX.out.2.2.1]; simp [h1])]
    exact ⟨rfl, rfl⟩
   by_cases h2 : 126 < (s[p].toNat : Int)
   ·go_wp2_with fail
    go_ret
    rw [HN.out (by rw [HX.out.2.2.1]; simp [h2])]
    exact ⟨rfl, rfl⟩
   go_wp2_with fail
   go_round
   case rel =>
    refine ⟨p + 1, by omega, by go_num, ?_⟩
    rw [HX.out.1, List.all_append, HX.out.2.1, List.all_cons, HX.out.2.2.1]
    simp [h1, h2]
   case measure => simp [intOf]; omega
  obtain rfl : p = s.size := by omega
  rw [List.take_of_length_le (by simp)] at ha
  have hsz : s.size = s.data.toList.length := by simp
  have HA := Lib.hid (show _ ∧ _ from ⟨ha, hsz⟩)
  clear ha hsz
  have hT : s.toList = s.data.toList := Go.Lib.toList_data s
  have hnm : yel' s.data.toList = (decide (1 ≤ s.size) && decide (s.size ≤ 40) && !(s.toList == [46]) && !(s.toList == [46, 46])) := by
   unfold yel'
   rw [HA.out.1, ← HA.out.2, hT]
   rfl
  have HN := Lib.hid hnm
  clear hnm hT
  by_cases h1 : (1 : Int) ≤ s.size
  case neg =>
   go_wp2_with fail
   go_ret
   rw [HN.out, show decide (1 ≤ s.size) = false from decide_eq_false (by omega)]
   exact ⟨rfl, rfl⟩
  by_cases h2 : (s.size : Int) ≤ 40
  case neg =>
   go_wp2_with fail
   go_ret
   rw [HN.out, show decide (s.size ≤ 40) = false from decide_eq_false (by omega), Bool.and_false]
   exact ⟨rfl, rfl⟩
  have hd1 : decide (1 ≤ s.size) = true := decide_eq_true (by omega)
  have hd2 : decide (s.size ≤ 40) = true := decide_eq_true (by omega)
  have HD := Lib.hid (show _ ∧ _ from ⟨hd1, hd2⟩)
  clear hd1 hd2
  go_wp2_with fail
  all_goals
   go_ret
   refine ⟨?_, rfl⟩
   rw [HN.out, HD.out.1, HD.out.2]
   simp [*]
end Go.Proofs.YtcnkifbjlihaoaaGreatDoor

namespace Go.Proofs
open Go.Shelf
def Tryz.lays156_ren : Go.Shelf.Ren := ⟨fun | 156 => 184 | 165 => 217 | 166 => 218 | 169 => 219 | 240 => 265 | 241 => 266 | 276 => 293 | 277 => 294 | n => n, fun | 31 => 94 | 9 => 9 | 3 => 3 | 4 => 4 | 0 => 0 | 20 => 20 | 72 => 291 | 76 => 294 | 70 => 289 | 37 => 71 | 75 => 293 | 127 => 331 | 164 => 346 | 5 => 5 | 80 => 296 | n => n, fun | n => n⟩
theorem Tryz.lays156 : Go.Proofs.Lays.n156 Tryz.prog Tryz.lays156_ren := {
 mixed := by kernel_rfl
 f156 := Tryz.func184.trans (congrArg some (by kernel_rfl))
 f165 := Tryz.func217.trans (congrArg some (by kernel_rfl))
 f166 := Tryz.func218.trans (congrArg some (by kernel_rfl))
 f169 := Tryz.func219.trans (congrArg some (by kernel_rfl))
 f240 := Tryz.func265.trans (congrArg some (by kernel_rfl))
 f241 := Tryz.func266.trans (congrArg some (by kernel_rfl))
 f276 := Tryz.func293.trans (congrArg some (by kernel_rfl))
 f277 := Tryz.func294.trans (congrArg some (by kernel_rfl))
 t0 := Tryz.underlying0
 a0 := Tryz.isAgg0
 z0 := Tryz.sizeOf0
 v0 := Tryz.zeroValue0
 t3 := Tryz.underlying3
 a3 := Tryz.isAgg3
 z3 := Tryz.sizeOf3
 v3 := Tryz.zeroValue3
 t4 := Tryz.underlying4
 a4 := Tryz.isAgg4
 z4 := Tryz.sizeOf4
 v4 := Tryz.zeroValue4
 t9 := Tryz.underlying9
 a9 := Tryz.isAgg9
 z9 := Tryz.sizeOf9
 v9 := Tryz.zeroValue9
 t20 := Tryz.underlying20
 a20 := Tryz.isAgg20
 z20 := Tryz.sizeOf20
 v20 := Tryz.zeroValue20
 t31 := Tryz.underlying94
 a31 := Tryz.isAgg94
 z31 := Tryz.sizeOf94
 v31 := Tryz.zeroValue94
 t37 := Tryz.underlying71
 a37 := Tryz.isAgg71
 z37 := Tryz.sizeOf71
 v37 := Tryz.zeroValue71
 t70 := Tryz.underlying289
 a70 := Tryz.isAgg289
 z70 := Tryz.sizeOf289
 v70 := Tryz.zeroValue289
 t72 := Tryz.underlying291
 a72 := Tryz.isAgg291
 z72 := Tryz.sizeOf291
 v72 := Tryz.zeroValue291
 t75 := Tryz.underlying293
 a75 := Tryz.isAgg293
 z75 := Tryz.sizeOf293
 v75 := Tryz.zeroValue293
 t76 := Tryz.underlying294
 a76 := Tryz.isAgg294
 z76 := Tryz.sizeOf294
 v76 := Tryz.zeroValue294
 t127 := Tryz.underlying331
 a127 := Tryz.isAgg331
 z127 := Tryz.sizeOf331
 v127 := Tryz.zeroValue331
 t164 := Tryz.underlying346
 a164 := Tryz.isAgg346
 z164 := Tryz.sizeOf346
 v164 := Tryz.zeroValue346 }
theorem Tryz.Builder_Extra_156 : Builder.Extra Tryz.prog Tryz.lays156_ren := {
 sizeBuilder := by kernel_rfl
 liesBuilder := by kernel_rfl
 t5 := Tryz.underlying5
 a5 := Tryz.isAgg5
 z5 := Tryz.sizeOf5
 v5 := Tryz.zeroValue5
 infoByte := by kernel_rfl
 cellsByte := by kernel_rfl
 sizeByte := by kernel_rfl
 neB5 := by decide }
open Go.RowKit in
theorem Tryz.strings_Join (bk o c : Nat) (xs : List ByteArray) (sep : ByteArray) (w : World) (hcells : ∀ (j : Nat) x, xs[j]? = some x → w.cell? ⟨bk, o + j, none⟩ = some (.string x)) (hbk : bk < w.heap.size) (hN : xs.length ≤ 140737488355328) (hcap : xs.length ≤ c) (hlen : (Lib.join (xs.map (·.data.toList)) sep.data.toList).length ≤ 140737488355328) :
  Calls Tryz.prog 184 #[.slice (some ⟨bk, o, none⟩) xs.length c, .string sep] w fun e w' => e = .returned (.string ⟨(Lib.join (xs.map (·.data.toList)) sep.data.toList).toArray⟩) ∧ Below w.heap.size w w' := Any.strings_Join Tryz.lays156 Tryz.Builder_Extra_156 bk o c xs sep w hcells hbk hN hcap hlen
def Tryz.lays103_ren : Go.Shelf.Ren := ⟨fun | 103 => 210 | 210 => 259 | 206 => 290 | n => n, fun | 9 => 9 | 4 => 4 | 24 => 139 | 3 => 3 | n => n, fun | n => n⟩
theorem Tryz.lays103 : Go.Proofs.Lays.n103 Tryz.prog Tryz.lays103_ren := {
 mixed := by kernel_rfl
 f103 := Tryz.func210.trans (congrArg some (by kernel_rfl))
 f206 := Tryz.func290.trans (congrArg some (by kernel_rfl))
 f210 := Tryz.func259.trans (congrArg some (by kernel_rfl))
 t3 := Tryz.underlying3
 a3 := Tryz.isAgg3
 z3 := Tryz.sizeOf3
 v3 := Tryz.zeroValue3
 t4 := Tryz.underlying4
 a4 := Tryz.isAgg4
 z4 := Tryz.sizeOf4
 v4 := Tryz.zeroValue4
 t9 := Tryz.underlying9
 a9 := Tryz.isAgg9
 z9 := Tryz.sizeOf9
 v9 := Tryz.zeroValue9
 t24 := Tryz.underlying139
 a24 := Tryz.isAgg139
 z24 := Tryz.sizeOf139
 v24 := Tryz.zeroValue139 }
open Go.RowKit in
theorem Tryz.strings_CutPrefix (s p : ByteArray) (w : World) :
  Calls Tryz.prog 210 #[.string s, .string p] w fun e w' => e = .returned (.tuple #[.string ⟨(Lib.trimPrefix s.data.toList p.data.toList).toArray⟩, .bool (Lib.hasPrefix s.data.toList p.data.toList)]) ∧ w' = w := Any.strings_CutPrefix Tryz.lays103 s p w
def Tryz.laysM171_ren : Go.Shelf.Ren := ⟨fun | 171 => 257 | 243 => 286 | 246 => 302 | 283 => 311 | 284 => 312 | 285 => 313 | 286 => 314 | 129 => 241 | 317 => 319 | 318 => 320 | 319 => 321 | 320 => 322 | 337 => 324 | 338 => 325 | n => n, fun | 3 => 3 | 9 => 9 | 2 => 2 | 4 => 4 | 171 => 362 | 0 => 0 | 53 => 249 | 37 => 71 | 5 => 5 | 173 => 364 | 212 => 373 | 51 => 312 | 20 => 20 | 213 => 374 | 46 => 250 | 232 => 375 | 233 => 376 | n => n, fun | 17 => 3 | 18 => 4 | 19 => 5 | n => n⟩
theorem Tryz.laysM171 : Go.Proofs.LaysM.n171 Tryz.prog Tryz.laysM171_ren := {
 mixed := by kernel_rfl
 f129 := Tryz.func241.trans (congrArg some (by kernel_rfl))
 f171 := Tryz.func257.trans (congrArg some (by kernel_rfl))
 f243 := Tryz.func286.trans (congrArg some (by kernel_rfl))
 f246 := Tryz.func302.trans (congrArg some (by kernel_rfl))
 f283 := Tryz.func311.trans (congrArg some (by kernel_rfl))
 f284 := Tryz.func312.trans (congrArg some (by kernel_rfl))
 f285 := Tryz.func313.trans (congrArg some (by kernel_rfl))
 f286 := Tryz.func314.trans (congrArg some (by kernel_rfl))
 f317 := Tryz.func319.trans (congrArg some (by kernel_rfl))
 f318 := Tryz.func320.trans (congrArg some (by kernel_rfl))
 f319 := Tryz.func321.trans (congrArg some (by kernel_rfl))
 f320 := Tryz.func322.trans (congrArg some (by kernel_rfl))
 f337 := Tryz.func324.trans (congrArg some (by kernel_rfl))
 f338 := Tryz.func325.trans (congrArg some (by kernel_rfl))
 t0 := Tryz.underlying0
 a0 := Tryz.isAgg0
 z0 := Tryz.sizeOf0
 v0 := Tryz.zeroValue0
 t2 := Tryz.underlying2
 a2 := Tryz.isAgg2
 z2 := Tryz.sizeOf2
 v2 := Tryz.zeroValue2
 t3 := Tryz.underlying3
 a3 := Tryz.isAgg3
 z3 := Tryz.sizeOf3
 v3 := Tryz.zeroValue3
 t4 := Tryz.underlying4
 a4 := Tryz.isAgg4
 z4 := Tryz.sizeOf4
 v4 := Tryz.zeroValue4
 t5 := Tryz.underlying5
 a5 := Tryz.isAgg5
 z5 := Tryz.sizeOf5
 v5 := Tryz.zeroValue5
 t9 := Tryz.underlying9
 a9 := Tryz.isAgg9
 z9 := Tryz.sizeOf9
 v9 := Tryz.zeroValue9
 t20 := Tryz.underlying20
 a20 := Tryz.isAgg20
 z20 := Tryz.sizeOf20
 v20 := Tryz.zeroValue20
 t37 := Tryz.underlying71
 a37 := Tryz.isAgg71
 z37 := Tryz.sizeOf71
 v37 := Tryz.zeroValue71
 t46 := Tryz.underlying250
 a46 := Tryz.isAgg250
 z46 := Tryz.sizeOf250
 v46 := Tryz.zeroValue250
 t51 := Tryz.underlying312
 a51 := Tryz.isAgg312
 z51 := Tryz.sizeOf312
 v51 := Tryz.zeroValue312
 t53 := Tryz.underlying249
 a53 := Tryz.isAgg249
 z53 := Tryz.sizeOf249
 v53 := Tryz.zeroValue249
 t171 := Tryz.underlying362
 a171 := Tryz.isAgg362
 z171 := Tryz.sizeOf362
 v171 := Tryz.zeroValue362
 t173 := Tryz.underlying364
 a173 := Tryz.isAgg364
 z173 := Tryz.sizeOf364
 v173 := Tryz.zeroValue364
 t212 := Tryz.underlying373
 a212 := Tryz.isAgg373
 z212 := Tryz.sizeOf373
 v212 := Tryz.zeroValue373
 t213 := Tryz.underlying374
 a213 := Tryz.isAgg374
 z213 := Tryz.sizeOf374
 t232 := Tryz.underlying375
 a232 := Tryz.isAgg375
 z232 := Tryz.sizeOf375
 v232 := Tryz.zeroValue375
 t233 := Tryz.underlying376
 a233 := Tryz.isAgg376
 z233 := Tryz.sizeOf376
 v233 := Tryz.zeroValue376
 g17 := by kernel_rfl
 g18 := by kernel_rfl
 g19 := by kernel_rfl
 i0 := by kernel_rfl
 i2 := by kernel_rfl
 i3 := by kernel_rfl
 i4 := by kernel_rfl
 i5 := by kernel_rfl
 i9 := by kernel_rfl
 i20 := by kernel_rfl
 i37 := by kernel_rfl
 i46 := by kernel_rfl
 i51 := by kernel_rfl
 i53 := by kernel_rfl
 i171 := by kernel_rfl
 i173 := by kernel_rfl
 i212 := by kernel_rfl
 i232 := by kernel_rfl
 i233 := by kernel_rfl
 m17 := by kernel_rfl
 m18 := by kernel_rfl
 m19 := by kernel_rfl }
open Go.RowKit Go.Sort Go.Lib in
theorem Tryz.strconv_Itoa (n : Int) (h0 : -9223372036854775808 ≤ n) (h1 : n ≤ 9223372036854775807) (w : World) (htab : Lib.TabIs Tryz.prog w "internal/strconv.uint64pow10" .u64 Lib.pow10Tab) :
  Calls Tryz.prog 257 #[.int .i64 n] w fun e w' => e = .returned (.string ⟨(Lib.itoa n).toArray⟩) ∧ ∃ k os, w' = grow (w.drewN k) os := Any.strconv_Itoa Tryz.laysM171 n h0 h1 w htab
def Tryz.lays146_ren : Go.Shelf.Ren := ⟨fun | 146 => 191 | 221 => 226 | 268 => 268 | 138 => 269 | 143 => 270 | 195 => 296 | 197 => 297 | 218 => 298 | 219 => 299 | 260 => 306 | 217 => 307 | 225 => 308 | 224 => 309 | 267 => 310 | 266 => 317 | 314 => 318 | n => n, fun | 9 => 9 | 31 => 94 | 3 => 3 | 4 => 4 | 0 => 0 | 105 => 350 | 21 => 21 | 5 => 5 | 46 => 250 | 119 => 367 | 139 => 370 | 138 => 369 | 146 => 357 | 51 => 312 | n => n, fun | 1 => 0 | 3 => 1 | 4 => 2 | n => n⟩
theorem Tryz.lays146 : Go.Proofs.Lays.n146 Tryz.prog Tryz.lays146_ren := {
 mixed := by kernel_rfl
 f138 := Tryz.func269.trans (congrArg some (by kernel_rfl))
 f143 := Tryz.func270.trans (congrArg some (by kernel_rfl))
 f146 := Tryz.func191.trans (congrArg some (by kernel_rfl))
 f195 := Tryz.func296.trans (congrArg some (by kernel_rfl))
 f197 := Tryz.func297.trans (congrArg some (by kernel_rfl))
 f217 := Tryz.func307.trans (congrArg some (by kernel_rfl))
 f218 := Tryz.func298.trans (congrArg some (by kernel_rfl))
 f219 := Tryz.func299.trans (congrArg some (by kernel_rfl))
 f221 := Tryz.func226.trans (congrArg some (by kernel_rfl))
 f224 := Tryz.func309.trans (congrArg some (by kernel_rfl))
 f225 := Tryz.func308.trans (congrArg some (by kernel_rfl))
 f260 := Tryz.func306.trans (congrArg some (by kernel_rfl))
 f266 := Tryz.func317.trans (congrArg some (by kernel_rfl))
 f267 := Tryz.func310.trans (congrArg some (by kernel_rfl))
 f268 := Tryz.func268.trans (congrArg some (by kernel_rfl))
 f314 := Tryz.func318.trans (congrArg some (by kernel_rfl))
 t0 := Tryz.underlying0
 a0 := Tryz.isAgg0
 z0 := Tryz.sizeOf0
 v0 := Tryz.zeroValue0
 t3 := Tryz.underlying3
 a3 := Tryz.isAgg3
 z3 := Tryz.sizeOf3
 v3 := Tryz.zeroValue3
 t4 := Tryz.underlying4
 a4 := Tryz.isAgg4
 z4 := Tryz.sizeOf4
 v4 := Tryz.zeroValue4
 t5 := Tryz.underlying5
 a5 := Tryz.isAgg5
 z5 := Tryz.sizeOf5
 v5 := Tryz.zeroValue5
 t9 := Tryz.underlying9
 a9 := Tryz.isAgg9
 z9 := Tryz.sizeOf9
 v9 := Tryz.zeroValue9
 t21 := Tryz.underlying21
 a21 := Tryz.isAgg21
 z21 := Tryz.sizeOf21
 v21 := Tryz.zeroValue21
 t31 := Tryz.underlying94
 a31 := Tryz.isAgg94
 z31 := Tryz.sizeOf94
 v31 := Tryz.zeroValue94
 t46 := Tryz.underlying250
 a46 := Tryz.isAgg250
 z46 := Tryz.sizeOf250
 v46 := Tryz.zeroValue250
 t51 := Tryz.underlying312
 a51 := Tryz.isAgg312
 z51 := Tryz.sizeOf312
 v51 := Tryz.zeroValue312
 t105 := Tryz.underlying350
 a105 := Tryz.isAgg350
 z105 := Tryz.sizeOf350
 v105 := Tryz.zeroValue350
 t119 := Tryz.underlying367
 a119 := Tryz.isAgg367
 z119 := Tryz.sizeOf367
 t138 := Tryz.underlying369
 a138 := Tryz.isAgg369
 z138 := Tryz.sizeOf369
 v138 := Tryz.zeroValue369
 t139 := Tryz.underlying370
 a139 := Tryz.isAgg370
 z139 := Tryz.sizeOf370
 v139 := Tryz.zeroValue370
 t146 := Tryz.underlying357
 a146 := Tryz.isAgg357
 z146 := Tryz.sizeOf357
 v146 := Tryz.zeroValue357
 g1 := by kernel_rfl
 g3 := by kernel_rfl
 g4 := by kernel_rfl }
open Go.RowKit Go.Lib in
theorem Tryz.strings_Split (s sep : ByteArray) (m : Int) (w : World) (hs : s.size < 4294967281) (hm : w.cell? ⟨0, 0, none⟩ = some (.int .i64 m)) (h1 : 1 ≤ sep.size) :
  Calls Tryz.prog 191 #[.string s, .string sep] w fun e w' =>
   e = .returned (.slice (some ⟨w.heap.size, 0, none⟩) (Lib.countB s sep + 1) (Lib.countB s sep + 1)) ∧ w' = w.alloc (.cells ((Lib.splitB sep 0 (Lib.countB s sep) s).map Value.string).toArray 9) := Any.strings_Split Tryz.lays146 (by kernel_rfl) s sep m w hs hm h1
def Tryz.laysM146_ren : Go.Shelf.Ren := ⟨fun | 146 => 191 | 221 => 226 | 268 => 268 | 138 => 269 | 143 => 270 | 195 => 296 | 197 => 297 | 218 => 298 | 219 => 299 | 260 => 306 | 217 => 307 | 225 => 308 | 224 => 309 | 267 => 310 | 266 => 317 | 314 => 318 | n => n, fun | 9 => 9 | 31 => 94 | 3 => 3 | 4 => 4 | 0 => 0 | 105 => 350 | 21 => 21 | 5 => 5 | 46 => 250 | 119 => 367 | 139 => 370 | 138 => 369 | 146 => 357 | 51 => 312 | n => n, fun | 1 => 0 | 3 => 1 | 4 => 2 | n => n⟩
theorem Tryz.laysM146 : Go.Proofs.LaysM.n146 Tryz.prog Tryz.laysM146_ren := {
 mixed := by kernel_rfl
 f138 := Tryz.func269.trans (congrArg some (by kernel_rfl))
 f143 := Tryz.func270.trans (congrArg some (by kernel_rfl))
 f146 := Tryz.func191.trans (congrArg some (by kernel_rfl))
 f195 := Tryz.func296.trans (congrArg some (by kernel_rfl))
 f197 := Tryz.func297.trans (congrArg some (by kernel_rfl))
 f217 := Tryz.func307.trans (congrArg some (by kernel_rfl))
 f218 := Tryz.func298.trans (congrArg some (by kernel_rfl))
 f219 := Tryz.func299.trans (congrArg some (by kernel_rfl))
 f221 := Tryz.func226.trans (congrArg some (by kernel_rfl))
 f224 := Tryz.func309.trans (congrArg some (by kernel_rfl))
 f225 := Tryz.func308.trans (congrArg some (by kernel_rfl))
 f260 := Tryz.func306.trans (congrArg some (by kernel_rfl))
 f266 := Tryz.func317.trans (congrArg some (by kernel_rfl))
 f267 := Tryz.func310.trans (congrArg some (by kernel_rfl))
 f268 := Tryz.func268.trans (congrArg some (by kernel_rfl))
 f314 := Tryz.func318.trans (congrArg some (by kernel_rfl))
 t0 := Tryz.underlying0
 a0 := Tryz.isAgg0
 z0 := Tryz.sizeOf0
 v0 := Tryz.zeroValue0
 t3 := Tryz.underlying3
 a3 := Tryz.isAgg3
 z3 := Tryz.sizeOf3
 v3 := Tryz.zeroValue3
 t4 := Tryz.underlying4
 a4 := Tryz.isAgg4
 z4 := Tryz.sizeOf4
 v4 := Tryz.zeroValue4
 t5 := Tryz.underlying5
 a5 := Tryz.isAgg5
 z5 := Tryz.sizeOf5
 v5 := Tryz.zeroValue5
 t9 := Tryz.underlying9
 a9 := Tryz.isAgg9
 z9 := Tryz.sizeOf9
 v9 := Tryz.zeroValue9
 t21 := Tryz.underlying21
 a21 := Tryz.isAgg21
 z21 := Tryz.sizeOf21
 v21 := Tryz.zeroValue21
 t31 := Tryz.underlying94
 a31 := Tryz.isAgg94
 z31 := Tryz.sizeOf94
 v31 := Tryz.zeroValue94
 t46 := Tryz.underlying250
 a46 := Tryz.isAgg250
 z46 := Tryz.sizeOf250
 v46 := Tryz.zeroValue250
 t51 := Tryz.underlying312
 a51 := Tryz.isAgg312
 z51 := Tryz.sizeOf312
 v51 := Tryz.zeroValue312
 t105 := Tryz.underlying350
 a105 := Tryz.isAgg350
 z105 := Tryz.sizeOf350
 v105 := Tryz.zeroValue350
 t119 := Tryz.underlying367
 a119 := Tryz.isAgg367
 z119 := Tryz.sizeOf367
 t138 := Tryz.underlying369
 a138 := Tryz.isAgg369
 z138 := Tryz.sizeOf369
 v138 := Tryz.zeroValue369
 t139 := Tryz.underlying370
 a139 := Tryz.isAgg370
 z139 := Tryz.sizeOf370
 v139 := Tryz.zeroValue370
 t146 := Tryz.underlying357
 a146 := Tryz.isAgg357
 z146 := Tryz.sizeOf357
 v146 := Tryz.zeroValue357
 g1 := by kernel_rfl
 g3 := by kernel_rfl
 g4 := by kernel_rfl
 i0 := by kernel_rfl
 i3 := by kernel_rfl
 i4 := by kernel_rfl
 i5 := by kernel_rfl
 i9 := by kernel_rfl
 i21 := by kernel_rfl
 i31 := by kernel_rfl
 i46 := by kernel_rfl
 i51 := by kernel_rfl
 i105 := by kernel_rfl
 i138 := by kernel_rfl
 i139 := by kernel_rfl
 i146 := by kernel_rfl
 m1 := by kernel_rfl
 s1_3 := fun w h => Go.Proofs.cell_of_shapedOpen_int (zero := #[.int .i64 0]) (t := 3) h (of_decide_eq_true (by kernel_rfl)) (by kernel_rfl) rfl (by kernel_rfl) (by kernel_rfl) Tryz.underlying3
 m3 := by kernel_rfl
 m4 := by kernel_rfl }
def Tryz.lays105_ren : Go.Shelf.Ren := ⟨fun | 105 => 258 | 212 => 287 | 99 => 288 | 165 => 217 | 166 => 218 | 170 => 289 | 169 => 219 | 263 => 303 | 264 => 304 | 206 => 290 | 240 => 265 | 241 => 266 | 276 => 293 | 277 => 294 | n => n, fun | 9 => 9 | 3 => 3 | 4 => 4 | 20 => 20 | 0 => 0 | 46 => 250 | 109 => 344 | 5 => 5 | 72 => 291 | 76 => 294 | 51 => 312 | 146 => 357 | 53 => 249 | 148 => 359 | 70 => 289 | 37 => 71 | 75 => 293 | 127 => 331 | 164 => 346 | 80 => 296 | n => n, fun | n => n⟩
theorem Tryz.lays105 : Go.Proofs.Lays.n105 Tryz.prog Tryz.lays105_ren := {
 mixed := by kernel_rfl
 f99 := Tryz.func288.trans (congrArg some (by kernel_rfl))
 f105 := Tryz.func258.trans (congrArg some (by kernel_rfl))
 f165 := Tryz.func217.trans (congrArg some (by kernel_rfl))
 f166 := Tryz.func218.trans (congrArg some (by kernel_rfl))
 f169 := Tryz.func219.trans (congrArg some (by kernel_rfl))
 f170 := Tryz.func289.trans (congrArg some (by kernel_rfl))
 f206 := Tryz.func290.trans (congrArg some (by kernel_rfl))
 f212 := Tryz.func287.trans (congrArg some (by kernel_rfl))
 f240 := Tryz.func265.trans (congrArg some (by kernel_rfl))
 f241 := Tryz.func266.trans (congrArg some (by kernel_rfl))
 f263 := Tryz.func303.trans (congrArg some (by kernel_rfl))
 f264 := Tryz.func304.trans (congrArg some (by kernel_rfl))
 f276 := Tryz.func293.trans (congrArg some (by kernel_rfl))
 f277 := Tryz.func294.trans (congrArg some (by kernel_rfl))
 t0 := Tryz.underlying0
 a0 := Tryz.isAgg0
 z0 := Tryz.sizeOf0
 v0 := Tryz.zeroValue0
 t3 := Tryz.underlying3
 a3 := Tryz.isAgg3
 z3 := Tryz.sizeOf3
 v3 := Tryz.zeroValue3
 t4 := Tryz.underlying4
 a4 := Tryz.isAgg4
 z4 := Tryz.sizeOf4
 v4 := Tryz.zeroValue4
 t5 := Tryz.underlying5
 a5 := Tryz.isAgg5
 z5 := Tryz.sizeOf5
 v5 := Tryz.zeroValue5
 t9 := Tryz.underlying9
 a9 := Tryz.isAgg9
 z9 := Tryz.sizeOf9
 v9 := Tryz.zeroValue9
 t20 := Tryz.underlying20
 a20 := Tryz.isAgg20
 z20 := Tryz.sizeOf20
 v20 := Tryz.zeroValue20
 t37 := Tryz.underlying71
 a37 := Tryz.isAgg71
 z37 := Tryz.sizeOf71
 v37 := Tryz.zeroValue71
 t46 := Tryz.underlying250
 a46 := Tryz.isAgg250
 z46 := Tryz.sizeOf250
 v46 := Tryz.zeroValue250
 t51 := Tryz.underlying312
 a51 := Tryz.isAgg312
 z51 := Tryz.sizeOf312
 v51 := Tryz.zeroValue312
 t53 := Tryz.underlying249
 a53 := Tryz.isAgg249
 z53 := Tryz.sizeOf249
 v53 := Tryz.zeroValue249
 t70 := Tryz.underlying289
 a70 := Tryz.isAgg289
 z70 := Tryz.sizeOf289
 v70 := Tryz.zeroValue289
 t72 := Tryz.underlying291
 a72 := Tryz.isAgg291
 z72 := Tryz.sizeOf291
 v72 := Tryz.zeroValue291
 t75 := Tryz.underlying293
 a75 := Tryz.isAgg293
 z75 := Tryz.sizeOf293
 v75 := Tryz.zeroValue293
 t76 := Tryz.underlying294
 a76 := Tryz.isAgg294
 z76 := Tryz.sizeOf294
 v76 := Tryz.zeroValue294
 t109 := Tryz.underlying344
 a109 := Tryz.isAgg344
 z109 := Tryz.sizeOf344
 v109 := Tryz.zeroValue344
 t127 := Tryz.underlying331
 a127 := Tryz.isAgg331
 z127 := Tryz.sizeOf331
 v127 := Tryz.zeroValue331
 t146 := Tryz.underlying357
 a146 := Tryz.isAgg357
 z146 := Tryz.sizeOf357
 v146 := Tryz.zeroValue357
 t148 := Tryz.underlying359
 a148 := Tryz.isAgg359
 z148 := Tryz.sizeOf359
 v148 := Tryz.zeroValue359
 t164 := Tryz.underlying346
 a164 := Tryz.isAgg346
 z164 := Tryz.sizeOf346
 v164 := Tryz.zeroValue346 }
theorem Tryz.Builder_Extra_105 : Builder.Extra Tryz.prog Tryz.lays105_ren := {
 sizeBuilder := by kernel_rfl
 liesBuilder := by kernel_rfl
 t5 := Tryz.underlying5
 a5 := Tryz.isAgg5
 z5 := Tryz.sizeOf5
 v5 := Tryz.zeroValue5
 infoByte := by kernel_rfl
 cellsByte := by kernel_rfl
 sizeByte := by kernel_rfl
 neB5 := by decide }
open Go.RowKit Go.Lib in
theorem Tryz.strings_Repeat (s : ByteArray) (c : Nat) (w : World) (hc : c ≤ 9223372036854775807) (hlen : s.size * c ≤ 140737488355328) :
  Calls Tryz.prog 258 #[.string s, .int .i64 c] w fun e w' => e = .returned (.string ⟨(Lib.repeatL s.data.toList c).toArray⟩) ∧ Below w.heap.size w w' := Any.strings_Repeat Tryz.lays105 Tryz.Builder_Extra_105 s c w hc hlen
def Tryz.laysNm224_ren : Go.Shelf.Ren := ⟨fun | 24 => 228 | n => n, fun | 24 => 94 | 9 => 9 | 3 => 3 | 4 => 4 | 0 => 0 | n => n, fun | n => n⟩
theorem Tryz.laysNm224 : Go.Proofs.Lays2.n24 Tryz.prog Tryz.laysNm224_ren := {
 mixed := by kernel_rfl
 f24 := Tryz.func228.trans (congrArg some (by kernel_rfl))
 t0 := Tryz.underlying0
 a0 := Tryz.isAgg0
 z0 := Tryz.sizeOf0
 v0 := Tryz.zeroValue0
 t3 := Tryz.underlying3
 a3 := Tryz.isAgg3
 z3 := Tryz.sizeOf3
 v3 := Tryz.zeroValue3
 t4 := Tryz.underlying4
 a4 := Tryz.isAgg4
 z4 := Tryz.sizeOf4
 v4 := Tryz.zeroValue4
 t9 := Tryz.underlying9
 a9 := Tryz.isAgg9
 z9 := Tryz.sizeOf9
 v9 := Tryz.zeroValue9
 t24 := Tryz.underlying94
 a24 := Tryz.isAgg94
 z24 := Tryz.sizeOf94
 v24 := Tryz.zeroValue94
 i9 := by kernel_rfl }
open Go.RowKit Go.Lib Go.Sort in
theorem Tryz.slices_Delete_string_cells (b off n c i j : Nat) (Sx : Nat → ByteArray) (w : World) (hcap : n ≤ c) (hm : c ≤ 9223372036854775807) (hij : i ≤ j) (hj : j ≤ n) (hc : ∀ i, i < n → w.cell? ⟨b, off + i, none⟩ = some (.string (Sx i))) (hf : ∀ j, j < n → w.frozen? ⟨b, off + j, none⟩ = false) :
  Calls Tryz.prog 228 #[.slice (some ⟨b, off, none⟩) n c, .int .i64 i, .int .i64 j] w fun e w' => e = .returned (.slice (some ⟨b, off, none⟩) (n - (j - i)) c) ∧ ∃ q, w' = (w.drewN q).setCells b off (((Lib.strsOf Sx n).take i ++ (Lib.strsOf Sx n).drop j ++ List.replicate (j - i) []).map encStr) := Any.slices_Delete_string_cells Tryz.laysNm224 b off n c i j Sx w hcap hm hij hj hc hf
end Go.Proofs

namespace Go.Av
open Go.RowKit
def sv (l : Bs) : Value := .string ⟨l.toArray⟩
theorem ysa' (s : ByteArray) : sv s.data.toList = .string s := rfl
theorem yl7' {l : List Bs} : ∀ u ∈ l.map sv, u.oneCell' = true := by
 intro u hu
 obtain ⟨x, _, rfl⟩ := List.mem_map.1 hu
 rfl
theorem yft' : ∀ {l : Bs} {x : Bs}, x ∈ cutS l → x.length ≤ l.length
 | [], x, h => by simp [cutS] at h; simp [h]
 | c :: r, x, h => by
  unfold cutS at h
  split at h
  ·rcases List.mem_cons.1 h with rfl | h
   ·simp
   ·have := yft' h; simp; omega
  ·split at h
   ·rename_i h0; exact absurd h0 (yc8' r)
   ·rename_i y t hy
    rcases List.mem_cons.1 h with rfl | h
    ·have := yft' (x := y) (l := r) (by rw [hy]; simp); simp; omega
    ·have := yft' (x := x) (l := r) (by rw [hy]; simp [h]); simp; omega
end Go.Av
namespace Go.Proofs.YtcnkifbjlihaoaaGreatDoor
open Go.RowKit Go.Av
def Door (w : World) : Prop := ∃ m, w.cell? ⟨0, 0, none⟩ = some (.int .i64 m)
theorem Door.upd {w w' : World} {D' : List Nat} (h : Door w) (hu : Upd w w' [] D') : Door w' := by
 obtain ⟨m, hm⟩ := h
 exact ⟨m, ya2' hu hm⟩
theorem Door.sep {w0 w : World} {R : List Thing} {rows : List (Value × Bs)} (h : Door w0) (hS : Sep w0 w R rows) : Door w := by
 obtain ⟨m, hm⟩ := h
 exact ⟨m, hS.cell hm⟩
theorem yrd' (s : ByteArray) : (Lib.splitB ⟨#[47]⟩ 0 (Lib.countB s ⟨#[47]⟩) s).map Value.string = (cutS s.data.toList).map sv := by
 rw [← yr7', List.map_map]
 rfl
theorem yl5' (s : ByteArray) (w : World) (hd : Door w) (hs : s.size ≤ 1000000000) :
  Calls Tryz.prog 191 #[.string s, .string ⟨#[47]⟩] w fun e w' =>
   e = .returned (.slice (some ⟨w.heap.size, 0, none⟩) (cutS s.data.toList).length (cutS s.data.toList).length) ∧ w' = w.alloc (.cells ((cutS s.data.toList).map sv).toArray 9) := by
 obtain ⟨m, hm⟩ := hd
 have := Tryz.strings_Split s ⟨#[47]⟩ m w (by omega) hm (by decide)
 rw [yrd', yp7'] at this
 exact this
theorem yl1' (l : List Bs) (w : World) (hl : l.length ≤ 1000000000) : OwnRow (w.alloc (.cells (l.map sv).toArray 9)) 1 (.slice (some ⟨w.heap.size, 0, none⟩) l.length l.length) (l.map sv) [w.heap.size] :=
 OwnRow.made w 9 1 _ _ _ _ (by simp) (Nat.le_refl _) (by unfold maxLen; omega) (by simp) (by simp [List.take_of_length_le])
set_option maxHeartbeats 1000000 in
theorem yfv' (s : ByteArray) (w : World) (hd : Door w) (hs : s.size ≤ maxLen) :
  Calls Tryz.prog 180 #[.string s] w fun e w' => e = .returned (.bool (ya4' s.data.toList)) ∧ Upd w w' [] [] := by
 have hcp := Tryz.strings_CutPrefix s ⟨#[47]⟩ w
 rw [show (⟨#[47]⟩ : ByteArray).data.toList = [47] from rfl] at hcp
 unfold maxLen at hs
 have hsz : s.size = s.data.toList.length := by simp
 obtain ⟨l, hl⟩ : ∃ l, s.data.toList = l := ⟨_, rfl⟩
 rw [hl] at hcp hsz ⊢
 cases hb : Lib.hasPrefix l [47] with
 | false =>
  have hg : ya4' l = false := by
   cases l with
   | nil => rfl
   | cons c r =>
    unfold ya4'
    have : decide (c = 47) = false := by
     simp [Lib.hasPrefix, List.isPrefixOf] at hb
     simp
     exact fun e => hb e.symm
    show (decide (c = 47) && _ && _ && _) = false
    rw [this]; rfl
  rw [hg]
  rw [hb] at hcp
  have HCP := Lib.hid hcp
  clear hcp hb hg hl hsz
  go_enter Tryz.func180, Tryz.ntmps180
  go_wp2_with fail
  refine HCP.out.mono ?_
  rintro e w1 ⟨rfl, rfl⟩
  go_wp2_with fail
  go_ret
  exact ⟨rfl, Upd.refl _ _⟩
 | true =>
  obtain ⟨r, rfl⟩ : ∃ r, l = 47 :: r := by
   cases l with
   | nil => cases hb
   | cons c r =>
    simp [Lib.hasPrefix, List.isPrefixOf] at hb
    exact ⟨r, by rw [hb]⟩
  have ht : Lib.trimPrefix (47 :: r) [47] = r := by unfold Lib.trimPrefix; rw [if_pos hb]; rfl
  rw [hb, ht] at hcp
  have HCP := Lib.hid hcp
  clear hcp hb ht hl
  rw [List.length_cons] at hsz
  have hgd : ya4' (47 :: r) = (decide (s.size ≤ 200) && (cutS r).all yel' && decide (((cutS r).length : Int) ≤ 8)) := by
   unfold ya4'
   have e8 : decide ((cutS r).length ≤ 8) = decide (((cutS r).length : Int) ≤ 8) := by rw [decide_eq_decide]; omega
   show (decide ((47 : UInt8) = 47) && decide (r.length + 1 ≤ 200) && (cutS r).all yel' && decide ((cutS r).length ≤ 8)) = _
   rw [e8, ← hsz]
   simp
  by_cases h200 : 200 < s.size
  ·rw [show decide (s.size ≤ 200) = false from decide_eq_false (by omega)] at hgd
   rw [hgd]
   clear hgd hsz
   go_enter Tryz.func180, Tryz.ntmps180
   go_wp2_with fail
   refine HCP.out.mono ?_
   rintro e w1 ⟨rfl, rfl⟩
   go_wp2_with fail
   go_ret
   exact ⟨by simp, Upd.refl _ _⟩
  rw [show decide (s.size ≤ 200) = true from decide_eq_true (by omega), Bool.true_and] at hgd
  have hsp := yl5' ⟨r.toArray⟩ w hd (by show r.toArray.size ≤ _; simp; omega)
  rw [show (⟨r.toArray⟩ : ByteArray).data.toList = r from rfl] at hsp
  have hcl : (cutS r).length ≤ 201 := by rw [ydu']; have := List.count_le_length (a := 47) (l := r); omega
  have hmem : ∀ x ∈ cutS r, x.length ≤ 1000 := fun x hx => by have := yft' hx; omega
  have hu := Upd.alloc0 w (.cells ((cutS r).map sv).toArray 9) []
  have hrow := (yl1' (cutS r) w (by omega))
  obtain ⟨w1, hw1⟩ : ∃ x, x = w.alloc (.cells ((cutS r).map sv).toArray 9) := ⟨_, rfl⟩
  rw [← hw1] at hsp hu hrow
  obtain ⟨q, hq⟩ : ∃ q, q = w.heap.size := ⟨_, rfl⟩
  rw [← hq] at hsp hrow
  obtain ⟨ps, hps⟩ : ∃ ps, cutS r = ps := ⟨_, rfl⟩
  rw [hps] at hgd hsp hcl hmem hrow
  rw [hgd]
  have HSP := Lib.hid hsp
  have HR := Lib.hid (show _ ∧ _ ∧ _ from ⟨hrow, hmem, hu⟩)
  clear hgd hsp hmem hu hrow hps hw1 hq hsz hd
  go_enter Tryz.func180, Tryz.ntmps180
  go_wp2_with fail
  refine HCP.out.mono ?_
  rintro e w2 ⟨rfl, hW⟩
  subst w2
  go_wp2_with fail
  refine HSP.out.mono ?_
  rintro e w2 ⟨rfl, hW⟩
  subst w2
  go_wp2_with fail
  go_loopg [24] ps.length (fun k i wr => wr = w1 ∧ ∃ p : Nat, p ≤ ps.length ∧ k = ps.length - p ∧ i = .int .i64 p ∧ (ps.take p).all yel' = true)
  case atStart => exact ⟨rfl, 0, Nat.zero_le _, rfl, rfl, rfl⟩
  case round =>
   obtain ⟨hW, p, hp, hk, hv, ha⟩ := hrel
   subst wr hv
   by_cases hlt : p < ps.length
   ·obtain ⟨y, hy, -, hcy⟩ := yra' HR.out.1 (i := p) (x := sv ps[p]) (by rw [List.getElem?_map, List.getElem?_eq_getElem hlt]; rfl)
    cases hy
    have hx := HR.out.2.1 _ (List.getElem_mem hlt)
    have hts : ps.take (p + 1) = ps.take p ++ [ps[p]] := by rw [List.take_succ_eq_append_getElem hlt]
    have hmm : ps[p] ∈ ps := List.getElem_mem hlt
    obtain ⟨x, hxx⟩ : ∃ x, ps[p] = x := ⟨_, rfl⟩
    rw [hxx] at hcy hx hts hmm
    rw [Addr.add_lit, Nat.zero_add] at hcy
    have hn := yt3' ⟨x.toArray⟩ w1 (by show x.toArray.size ≤ _; unfold maxLen; simp; omega)
    rw [show (⟨x.toArray⟩ : ByteArray).data.toList = x from rfl] at hn
    unfold sv at hcy
    have HX := Lib.hid (show _ ∧ _ ∧ _ from ⟨hts, ha, hmm⟩)
    cases hnx : yel' x with
    | false =>
     rw [hnx] at hn
     have HN := Lib.hid hn
     have HB := Lib.hid hnx
     clear hn hx hxx hts ha hmm hnx
     go_wp2_with fail
     refine HN.out.mono ?_
     rintro e w2 ⟨rfl, hW⟩
     subst w2
     go_wp2_with fail
     go_ret
     rw [show ps.all yel' = false from List.all_eq_false.2 ⟨x, HX.out.2.2, by simp [HB.out]⟩]
     exact ⟨rfl, HR.out.2.2⟩
    | true =>
     rw [hnx] at hn
     have HN := Lib.hid hn
     have HB := Lib.hid hnx
     clear hn hx hxx hts ha hmm hnx
     go_wp2_with fail
     refine HN.out.mono ?_
     rintro e w2 ⟨rfl, hW⟩
     subst w2
     go_wp2_with fail
     go_roundg (ps.length - (p + 1))
     case rel =>
      refine ⟨rfl, p + 1, by omega, rfl, by go_num, ?_⟩
      rw [HX.out.1, List.all_append, HX.out.2.1]
      simp [HB.out]
     case measure => omega
   ·obtain rfl : p = ps.length := by omega
    rw [List.take_length] at ha
    have HA := Lib.hid ha
    clear ha
    go_wp2_with fail
    go_ret
    rw [HA.out]
    exact ⟨by simp, HR.out.2.2⟩
end Go.Proofs.YtcnkifbjlihaoaaGreatDoor

namespace Go.Av
open Go.RowKit
def ivn (n : Int) : Value := .int .i64 n
def ybl' (s : Bs) : Bs := yad' s.length ++ s
end Go.Av
namespace Go.Proofs.YtcnkifbjlihaoaaGreatDoor
open Go.RowKit Go.Av
def yaj' (most : Int) (d : Rd) : Bs × Rd :=
 if ((cntR most d).2.1.length : Int) < (cntR most d).1 then ([], [], true) else ((cntR most d).2.1.take (cntR most d).1.toNat, (cntR most d).2.1.drop (cntR most d).1.toNat, (cntR most d).2.2)
theorem ycz' (most : Int) (s x : Bs) (bad : Bool) (h1 : (s.length : Int) ≤ most) (h3 : most ≤ 9223372036854775807) : yaj' most (ybl' s ++ x, bad) = (s, x, bad) := by
 unfold yaj' ybl'
 rw [List.append_assoc, yhm' most _ _ bad (by omega) h1 h3]
 simp only
 rw [if_neg (by rw [List.length_append]; omega), Int.toNat_natCast, List.take_append_of_le_length (Nat.le_refl _), List.take_length, List.drop_append_of_le_length (Nat.le_refl _), List.drop_length]
 rfl
theorem ykw' {s : ByteArray} : byteCells s = s.data.toList.map bv := by
 unfold byteCells
 first | rfl | simp [bv]
set_option maxRecDepth 100000 in
set_option maxHeartbeats 1000000 in
theorem ysl' (b : Value) (l : Bs) (E : List Nat) (s : ByteArray) (w : World) (h : ReadRow w 1 b (l.map bv) E) (hl : l.length ≤ 1000000) (hs : s.size ≤ 1000000) :
  Calls Tryz.prog 116 #[b, .string s] w (yhi' w [] (l ++ ybl' s.data.toList)) := by
 obtain ⟨i0, hi0, hz0, hz1, hz2⟩ := info_parts yj0'
 have hsz : s.size = s.data.toList.length := by simp
 have hp := yka' b l E (s.size : Int) w h (by omega)
 have HP := Lib.hid hp
 have hln : (l ++ yad' (s.size : Int)).length ≤ 1000008 := by rw [List.length_append, yaf']; omega
 have HT := Lib.hid (show l ++ ybl' s.data.toList = (l ++ yad' (s.size : Int)) ++ s.data.toList by unfold ybl'; rw [hsz, List.append_assoc])
 obtain ⟨lp, hlp⟩ : ∃ lp, l ++ yad' (s.size : Int) = lp := ⟨_, rfl⟩
 rw [hlp] at hln HP HT
 clear h hp hlp hsz
 go_enter Tryz.func116, Tryz.ntmps116
 go_wp2_with fail
 refine HP.out.mono ?_
 rintro e w1 ⟨v1, D1, rfl, ho1, hu1⟩
 have hsrc : Src Tryz.prog 1 9 (.string s) s.size (byteCells s) w1 := Src.ofString _ Tryz.underlying9 s
 have HBD := Lib.hid (show ∀ n', (lp.map bv).length = n' * 1 → n' + s.size ≤ 140737488355328 ∧ (n' + s.size) * i0.bytes ≤ 140737488355328 from fun n' hn' => by
  rw [List.length_map] at hn'
  rw [hz2]; omega)
 have HU := Lib.hid hu1
 clear hu1 HP
 obtain ⟨a1, n1, c1, rfl, -⟩ := ho1.len
 go_wp2_with (at_builtin; go_must (refine ybs' rfl _ _ 71 9 rfl 1 _ _ _ rfl ho1 _ i0 _ Tryz.underlying71 hi0 hz0 hz1 rfl _ _ _ rfl hsrc HBD.out ?_); intro a3 n3 c3' w3 D3 hown3 hu3)
 go_ret
 rw [HT.out]
 rw [ykw', ← List.map_append] at hown3
 exact ⟨_, D3, rfl, hown3, HU.out.trans hu3⟩
set_option maxRecDepth 100000 in
set_option maxHeartbeats 1000000 in
theorem yv7' (b v : Value) (l : Bs) (xs : List Int) (E F : List Nat) (w : World) (h : ReadRow w 1 b (l.map bv) E) (hv : ReadRow w 1 v (xs.map ivn) F) (hl : l.length ≤ 1000000) (hx : xs.length ≤ 1000) :
  Calls Tryz.prog 115 #[b, v] w (yhi' w [] (l ++ xs.flatMap yad')) := by
 obtain ⟨i0, hi0, hz0, hz1, hz2⟩ := info_parts yj0'
 obtain ⟨av, nv, cv, rfl, -⟩ := _root_.id hv
 obtain ⟨hnv, hncv, hcmv, hcell⟩ := yd0' hv
 rw [List.length_map] at hnv
 subst hnv
 unfold maxLen at hcmv
 have h0 := h.frame ((Upd.alloc0 w (.cells #[] 5 (0, 0)) []).same h.lt (by simp))
 obtain ⟨nb, hnb, hsrc⟩ := h0.src (P := Tryz.prog) (tx := 71) Tryz.underlying71 ynn'
 rw [List.length_map, Nat.mul_one] at hnb
 subst hnb
 have HBD := Lib.hid (show ∀ n', ([] : List Value).length = n' * 1 → n' + l.length ≤ 140737488355328 ∧ (n' + l.length) * i0.bytes ≤ 140737488355328 from fun n' hn' => by simp at hn'; rw [hz2]; omega)
 have HC := Lib.hid hcell
 clear h0 h hv hcell
 go_enter Tryz.func115, Tryz.ntmps115
 go_wp2_with (at_builtin; go_must (refine ybs' rfl _ _ 71 71 rfl 1 _ [] [] rfl (OwnRow.zero _ _ _) _ i0 _ Tryz.underlying71 hi0 hz0 hz1 rfl _ _ _ rfl hsrc HBD.out ?_); intro a3 n3 c3' w3 D3 hown3 hu3)
 have HST := Lib.hid (show _ ∧ _ from ⟨hown3, ((Upd.alloc0 w (.cells #[] 5 (0, 0)) []).trans hu3 : Upd w w3 [] D3)⟩)
 clear hown3 hu3 hsrc
 go_loopg [5, 13] xs.length (fun k vb vi wr => ∃ (p : Nat) (D : List Nat), p ≤ xs.length ∧ k = xs.length - p ∧ vi = .int .i64 (p : Int) ∧
  OwnRow wr 1 vb ((l ++ (xs.take p).flatMap yad').map bv) D ∧ Upd w wr [] D)
 case atStart => exact ⟨0, D3, Nat.zero_le _, rfl, rfl, by simpa using HST.out.1, HST.out.2⟩
 case round =>
  obtain ⟨p, D, hp, hk, hvi, ho, hu⟩ := hrel
  subst hvi
  clear HST
  by_cases hlt : p < xs.length
  ·obtain ⟨x, rfl, hsx, hcx⟩ := HC.out (by simpa using by omega)
   have hcx1 := hcx p (ivn xs[p]) (by rw [List.getElem?_map, List.getElem?_eq_getElem hlt]; rfl)
   have hcx1 := (hu.below.cell (World.block_lt_of_cell? w _ hcx1)).trans hcx1
   have hst : (l ++ (xs.take p).flatMap yad') ++ yad' xs[p] = l ++ (xs.take (p + 1)).flatMap yad' := by
    rw [List.take_succ_eq_append_getElem hlt, List.flatMap_append]; simp
   obtain ⟨z, hz⟩ : ∃ z, xs[p] = z := ⟨_, rfl⟩
   rw [hz] at hcx1 hst
   unfold ivn at hcx1
   obtain ⟨E1, hr1, hE1⟩ := ho.read
   have hp2 := yka' _ _ E1 z wr hr1 (by
    simp only [List.length_append, yfu', List.length_take]; omega)
   rw [hst] at hp2
   have HP := Lib.hid hp2
   have HU := Lib.hid hu
   clear ho hu hr1 hE1 hp2 hz hst hcx
   go_wp2_with fail
   refine HP.out.mono ?_
   rintro e w2 ⟨v2, D2, rfl, ho2, hu2⟩
   have HN := Lib.hid (show _ ∧ _ from ⟨ho2, HU.out.trans (hu2.mono (by simp) (fun _ hb => .inl hb))⟩)
   clear ho2 hu2 HU HP
   go_wp2_with fail
   go_roundg (xs.length - (p + 1))
   case rel => exact ⟨p + 1, D2, by omega, rfl, by go_num, HN.out.1, HN.out.2⟩
   case measure => omega
  ·obtain rfl : p = xs.length := by omega
   rw [List.take_length] at ho
   have HO := Lib.hid (show _ ∧ _ from ⟨ho, hu⟩)
   clear ho hu
   go_wp2_with fail
   go_ret
   exact ⟨_, D, rfl, HO.out.1, HO.out.2⟩
end Go.Proofs.YtcnkifbjlihaoaaGreatDoor

namespace Go.Av
open Go.RowKit
theorem ReadRow.take {w : World} {size : Nat} {a : Option Addr} {n c : Nat} {xs : List Value} {D : List Nat} (h : ReadRow w size (.slice a n c) xs D) {k : Nat} (hk : k ≤ n) : ReadRow w size (.slice a k c) (xs.take (k * size)) D := by
 obtain ⟨a', n', c', hv, hl, hn, hc, ha, hr⟩ := h
 cases hv
 have hle : k * size ≤ n * size := Nat.mul_le_mul_right _ hk
 refine ⟨a, k, c, rfl, by rw [List.length_take, hl]; omega, by omega, hc, ha, ?_⟩
 rcases hr with ⟨rfl, h2⟩ | ⟨g, off, h1, h2, h3, h4⟩
 ·exact .inl ⟨by simp, h2⟩
 ·refine .inr ⟨g, off, h1, h2, h3, fun i x hx => h4 i x ?_⟩
  rw [List.getElem?_take] at hx
  split at hx
  ·exact hx
  ·cases hx
end Go.Av
namespace Go.Proofs.YtcnkifbjlihaoaaGreatDoor
open Go.RowKit Go.Av
set_option maxRecDepth 100000 in
set_option maxHeartbeats 1000000 in
theorem yug' (r : Nat) (l : Bs) (bad : Bool) (most : Int) (hm : 0 ≤ most) (D : List Nat) (w : World) (h : ReaderAt w r l bad D) :
  Calls Tryz.prog 168 #[.pointer (some ⟨r, 0, none⟩), .int .i64 most] w (yjs' w D r (yaj' most (l, bad)).2.1 (yaj' most (l, bad)).2.2 (.returned (sv (yaj' most (l, bad)).1))) := by
 obtain ⟨i0, hi0, hz0, hz1, hz2⟩ := info_parts yj0'
 have hc := ylw' r l bad most hm D w h
 have hbd := yct' hm (l, bad)
 have htx : yaj' most (l, bad) = yaj' most (l, bad) := rfl
 conv at htx => rhs; unfold yaj'
 unfold cntR at htx hbd
 obtain ⟨q, hq⟩ : ∃ q, cntS l bad most = q := ⟨_, rfl⟩
 simp only [hq] at htx hbd
 rw [hq] at hc
 obtain ⟨l1, bad1, n⟩ := q
 dsimp only at htx hbd hc
 obtain ⟨k, rfl⟩ : ∃ k : Nat, n = k := ⟨n.toNat, by omega⟩
 rw [Int.toNat_natCast] at htx
 have HC := Lib.hid hc
 clear hc hq h hbd
 obtain ⟨tx, htx2⟩ : ∃ tx, yaj' most (l, bad) = tx := ⟨_, rfl⟩
 rw [htx2] at htx ⊢
 clear htx2
 have HT := Lib.hid htx
 clear htx
 go_enter Tryz.func168, Tryz.ntmps168
 go_wp2_with fail
 refine HC.out.mono ?_
 rintro e w1 ⟨rfl, D1, h1, hu1⟩
 have h1' := h1
 obtain ⟨v, E, T, hb, hr, hE, rfl⟩ := h1'
 obtain ⟨a, nn, cp, rfl, -⟩ := id hr
 obtain ⟨hn, hnc, hcm, hcell⟩ := yd0' hr
 rw [List.length_map] at hn
 subst hn
 unfold maxLen at hcm
 have c0 : w1.cell? ⟨r, 0, none⟩ = some (.slice a l1.length cp) := yaa' hb 0 rfl
 have y0 := yae' hb 0
 by_cases hlt : (l1.length : Int) < (k : Int)
 ·have HS := Lib.hid (yh8' r l1 bad1 (r :: E) w1 h1)
  have HTX := Lib.hid (show tx = ([], [], true) by rw [HT.out, if_pos hlt])
  have HU := Lib.hid hu1
  clear h1 hb hr hE hcell hu1 HC
  go_wp2_with fail
  refine HS.out.mono ?_
  rintro e w2 ⟨rfl, D2, h2, hu2⟩
  have H2 := Lib.hid (show _ ∧ _ from ⟨h2, HU.out.trans hu2⟩)
  clear h2 hu2
  go_wp2_with fail
  go_ret
  rw [HTX.out]
  exact ⟨rfl, D2, H2.out.1, H2.out.2⟩
 ·have HTX := Lib.hid (show tx = (l1.take k, l1.drop k, bad1) by rw [HT.out, if_neg hlt])
  have hkl : k ≤ l1.length := by omega
  have hsl1 : ∀ W : World, (Instr.slice 71 (.slice a l1.length cp) none (some (.int .i64 (k : Int))) none).run Tryz.prog W = .ok (.slice a k cp) W := fun W => yg0' (P := Tryz.prog) Tryz.underlying71 hi0 a l1.length cp k (by omega) W
  have hrt := hr.take hkl
  rw [Nat.mul_one, ← List.map_take] at hrt
  have hcv := conv_str (P := Tryz.prog) (src := 71) (dst := 9) Tryz.underlying71 Tryz.underlying5 Tryz.underlying9 hrt w1 (fun _ _ => rfl)
  obtain ⟨ap, hsp, Ep, hrp, hEp⟩ := yje' Tryz.underlying71 hi0 hz1 hr k hkl
  have hsp2 : ∀ W : World, (Instr.slice 71 (.slice a l1.length cp) (some (.int .i64 (k : Int))) none none).run Tryz.prog W = .ok (.slice ap (l1.length - k) (cp - k)) W := fun W => hsp W
  have HP := Lib.hid (show _ ∧ _ ∧ _ ∧ _ ∧ _ from ⟨hrp, hEp, hE, hb, hu1⟩)
  clear h1 hb hr hE hcell hu1 HC hsp hrp hEp hrt
  go_wp2_with fail
  go_ret
  rw [HTX.out]
  obtain ⟨hrp, hEp, hE, hb, hu1⟩ := HP.out
  refine ⟨rfl, r :: Ep, ⟨_, Ep, T, heap_setCell_same w1 r 0 _ T (.slice ap (l1.length - k) (cp - k)) hb, hrp.frame (fun b hb => heap_setCell_other _ _ _ _ (fun e => hE b (hEp b hb) e)), fun x hx => hE x (hEp x hx), rfl⟩, ?_⟩
  refine hu1.trans ((Upd.set1 w1 ⟨r, 0, none⟩ (.slice ap (l1.length - k) (cp - k)) (r :: E) (by simp)).mono (fun _ h => h) (fun b hb => .inr ?_))
  rcases List.mem_cons.1 hb with rfl | hb
  ·simp
  ·simp [hEp b hb]
section
variable {w0 w : World} {r : Nat} {d : Rd} {R : List Thing} {rows : List (Value × Bs)}
theorem yfj' (h : Sep w0 w (yds' r d :: R) rows) (most : Int) (hm : 0 ≤ most) :
  Calls Tryz.prog 168 #[.pointer (some ⟨r, 0, none⟩), .int .i64 most] w fun e w' => e = .returned (sv (yaj' most d).1) ∧ Sep w0 w' (yds' r (yaj' most d).2 :: R) rows := by
 obtain ⟨D, hP, -, back⟩ := h.use
 refine (yug' r d.1 d.2 most hm D w hP).mono ?_
 rintro e w' ⟨rfl, D', h', hu⟩
 exact ⟨rfl, back w' D' (yds' r (yaj' most d).2) hu h'⟩
end
end Go.Proofs.YtcnkifbjlihaoaaGreatDoor

namespace Go.Av
open Go.RowKit
theorem sWL {G C : Prop} (k : C) (h : C → G := by (intro kk; (first | ((with_reducible apply ykl' HX); (· rfl); (· rfl); (· (first | exact sn_op | exact sn_res | exact sn_stat | exact sn_node | exact sn_reply | exact sn_req | exact sn_tree | exact sn_rnode | exact sn_rtree | exact sn_rent | exact sn_act)); (· (repeat (first | (with_reducible exact k_s) | (with_reducible apply k_m)))); (· rfl); exact kk) | fail))) : G := h k
theorem sWM {G C : Prop} (k : C) (h : C → G := by (intro kk; (first | ((with_reducible apply yse' HX); (· rfl); (· rfl); (· kernel_rfl); (· (repeat (first | (with_reducible exact k_s) | (with_reducible apply k_m)))); (· rfl); exact kk) | fail))) : G := h k
theorem sWS {G C : Prop} (k : C) (h : C → G := by (intro kk; (first | ((with_reducible apply yij' HX); (· rfl); (· rfl); (· rfl); (· kernel_rfl); (· (repeat (first | (with_reducible exact Rep.here) | (with_reducible apply Rep.there)))); (· rfl); (· rfl); exact kk) | fail))) : G := h k
theorem sWT {G C : Prop} (k : C) (h : C → G := by (intro kk; (first | ((with_reducible apply yl8' HX); (· rfl); (· ((conv => lhs; whnf) <;> rfl)); (· rfl); (· rfl); (· kernel_rfl); (· (repeat (first | (with_reducible exact Rep.here) | (with_reducible apply Rep.there)))); (· rfl); (· rfl); exact kk) | fail))) : G := h k
theorem sWA {G C : Prop} (k : C) (h : C → G := by (intro kk; (first | ((with_reducible apply yoi' HX); (· rfl); (· (first | exact z_op | exact z_res | exact z_node | exact z_reply | exact z_req | exact z_rnode | exact z_rreply)); exact kk) | ((with_reducible apply ysd' HX); (· rfl); (· rfl); exact kk) | ((with_reducible apply ysc' HX); (· ((conv => lhs; whnf) <;> rfl)); (· rfl); (· rfl); exact kk) | ((with_reducible apply ysg' HX); (· (first | exact sl_str | exact sl_res | exact sl_op | exact sl_ent)); (· exact ⟨rfl, rfl⟩); (· rfl); (· rfl); exact kk) | ((with_reducible apply ysf' HX); (· (first | exact sl_str | exact sl_res | exact sl_op | exact sl_ent)); (· ((conv => lhs; whnf) <;> rfl)); (· rfl); exact kk) | fail))) : G := h k
theorem sWN {G C : Prop} (k : C) (h : C → G := by (intro kk; (first | ((with_reducible apply ygu' .string HX); (· rfl); exact kk) | fail))) : G := h k
theorem sWP {G C : Prop} (k : C) (h : C → G := by (intro kk; (first | ((with_reducible apply ysb' HX); (· (first | exact sl_str | exact sl_res | exact sl_op | exact sl_ent)); (· rfl); (· rfl); (· (repeat (first | (with_reducible exact Rem.here) | (with_reducible apply Rem.there)))); (· (repeat (first | (with_reducible exact k_s) | (with_reducible apply k_m)))); (· rfl); (· rfl); (· exact HBD.out); exact kk) | fail))) : G := h k
theorem yD {G C : Prop} (k : C) (h : C → G := by (intro kk; (first | ((apply yiq'); (· exact HX); (· (simp only [k_i, k_j, k_k]; try rfl)); (· rfl); (· rfl); (· (first | exact sn_op | exact sn_res | exact sn_stat | exact sn_node | exact sn_reply | exact sn_req | exact sn_tree | exact sn_rnode | exact sn_rtree | exact sn_rent | exact sn_act)); (· (repeat (first | (with_reducible exact k_s) | (with_reducible apply k_m)))); (· rfl); (· (simp only [Act.put, k_a, k_b, k_c, k_d, k_e, k_f, k_g, k_h, NodeS.cells, OpS.cells, ResS.cells]; try rfl)); exact kk) | ((apply yjp'); (· exact HX); (· (simp only [k_i, k_j, k_k]; try rfl)); (· rfl); (· rfl); (· kernel_rfl); (· (repeat (first | (with_reducible exact k_s) | (with_reducible apply k_m)))); (· rfl); (· (simp only [Act.put, k_a, k_b, k_c, k_d, k_e, k_f, k_g, k_h, NodeS.cells, OpS.cells, ResS.cells]; try rfl)); exact kk) | ((apply ybu'); (· exact hl); (· (simp only [k_i, k_j, k_k]; try rfl)); (· rfl); (· rfl); (· (simp only [Act.put, k_a, k_b, k_c, k_d, k_e, k_f, k_g, k_h, NodeS.cells, OpS.cells, ResS.cells]; try rfl)); exact kk) | ((apply ybu'); (· exact hl2); (· (simp only [k_i, k_j, k_k]; try rfl)); (· rfl); (· rfl); (· (simp only [Act.put, k_a, k_b, k_c, k_d, k_e, k_f, k_g, k_h, NodeS.cells, OpS.cells, ResS.cells]; try rfl)); exact kk) | ((apply ybu'); (· exact hl3); (· (simp only [k_i, k_j, k_k]; try rfl)); (· rfl); (· rfl); (· (simp only [Act.put, k_a, k_b, k_c, k_d, k_e, k_f, k_g, k_h, NodeS.cells, OpS.cells, ResS.cells]; try rfl)); exact kk) | ((apply ybu'); (· exact hl4); (· (simp only [k_i, k_j, k_k]; try rfl)); (· rfl); (· rfl); (· (simp only [Act.put, k_a, k_b, k_c, k_d, k_e, k_f, k_g, k_h, NodeS.cells, OpS.cells, ResS.cells]; try rfl)); exact kk) | ((apply ybm'); (· (simp only [k_i, k_j, k_k]; try rfl)); (· rfl); (· (simp only [Act.put, k_a, k_b, k_c, k_d, k_e, k_f, k_g, k_h, NodeS.cells, OpS.cells, ResS.cells]; try rfl)); exact kk) | ((first | apply yav' | apply yas'); (· (simp only [k_i, k_j, k_k]; try rfl)); (· rfl); (· (intros; go_simp; try with_reducible rfl)); (· (simp only [Act.put, k_a, k_b, k_c, k_d, k_e, k_f, k_g, k_h, NodeS.cells, OpS.cells, ResS.cells]; try rfl)); exact kk) | fail))) : G := h k
end Go.Av
namespace Go.Av
theorem vK {G C : Prop} (k : C) (h : C → G := by (intro kk; ((with_reducible apply wpList_skip); (· rfl); simp only [Act.put, k_a, k_b, k_c]); exact kk)) : G := h k
theorem vL {G C : Prop} (k : C) (h : C → G := by (intro kk; (refine sWL ?_; simp only [Act.put, k_a, k_b, k_c, k_d, k_e, k_f, k_g, k_h, NodeS.cells, OpS.cells, ResS.cells]); exact kk)) : G := h k
theorem vS {G C : Prop} (k : C) (h : C → G := by (intro kk; ((first | refine sWS ?_ | refine sWT ?_); simp only [Act.put, k_a, k_b, k_c, yci', Nat.reduceAdd, NodeS.cells, OpS.cells, ResS.cells]); exact kk)) : G := h k
theorem vLp {G C : Prop} (k : C) (h : C → G := by (intro kk; (refine sWL ?_; simp only [Act.put, k_a, k_b, k_c, k_d, k_e, k_f, k_g, k_h]); exact kk)) : G := h k
theorem vSp {G C : Prop} (k : C) (h : C → G := by (intro kk; ((first | refine sWS ?_ | refine sWT ?_); simp only [Act.put, k_a, k_b, k_c, yci', Nat.reduceAdd]); exact kk)) : G := h k
theorem vM {G C : Prop} (k : C) (h : C → G := by (intro kk; (refine sWM ?_; simp only [Act.put, k_a, k_b, k_c]); exact kk)) : G := h k
theorem vA {G C : Prop} (k : C) (h : C → G := by (intro kk; (refine sWA ?_; simp only [Act.put, k_a, k_b, k_c]); exact kk)) : G := h k
end Go.Av
namespace Go.Av
theorem v0 {G C : Prop} (k : C) (h : C → G := by (intro kk; first | (go_skip; exact kk) | ((with_reducible apply wpList_skip); (· rfl); simp only [Act.put, k_a, k_b, k_c]; exact kk) | (refine sWL ?_; simp only [Act.put, k_a, k_b, k_c, k_d, k_e, k_f, k_g, k_h, NodeS.cells, OpS.cells, ResS.cells]; exact kk) | (refine sWM ?_; simp only [Act.put, k_a, k_b, k_c]; exact kk) | fail)) : G := h k
theorem v1 {G C : Prop} (k : C) (h : C → G := by (intro kk; first | (refine sWL ?_; simp only [Act.put, k_a, k_b, k_c, k_d, k_e, k_f, k_g, k_h, NodeS.cells, OpS.cells, ResS.cells]; exact kk) | (refine sWM ?_; simp only [Act.put, k_a, k_b, k_c]; exact kk) | fail)) : G := h k
theorem v0p {G C : Prop} (k : C) (h : C → G := by (intro kk; first | (go_skip; exact kk) | ((with_reducible apply wpList_skip); (· rfl); simp only [Act.put, k_a, k_b, k_c]; exact kk) | (refine sWL ?_; simp only [Act.put, k_a, k_b, k_c, k_d, k_e, k_f, k_g, k_h]; exact kk) | (refine sWM ?_; simp only [Act.put, k_a, k_b, k_c]; exact kk) | fail)) : G := h k
theorem v1p {G C : Prop} (k : C) (h : C → G := by (intro kk; first | (refine sWL ?_; simp only [Act.put, k_a, k_b, k_c, k_d, k_e, k_f, k_g, k_h]; exact kk) | (refine sWM ?_; simp only [Act.put, k_a, k_b, k_c]; exact kk) | fail)) : G := h k
theorem vN {G C : Prop} (k : C) (h : C → G := by (intro kk; (refine sWN ?_; simp only [Act.put, k_a, k_b, k_c]); exact kk)) : G := h k
theorem vP {G C : Prop} (k : C) (h : C → G := by (intro kk; (refine sWP ?_; simp only [Act.put, k_a, k_b, k_c]); exact kk)) : G := h k
section
open Go.RowKit
variable {P : Program} {ops : Array Oper} {Q : Exit → Act → World → Prop} {md : Region.Mode} {S : World → Prop} {N : Nat} {listed : Array Bool} {a : Act} {w : World}
theorem rT (l : List (Nat × Bool)) (fuel : Nat) (h : ∃ A, ya0' P ops S l a A ∧ S w ∧ ybh' P md ops Q S N fuel (yj3' l listed) A w) (hs : Region.noSelect ops = true := by kernel_rfl) (hQ : ∀ c a (d : Option Tmp) v w, Q (.panic c) (a.put d v) w → Q (.panic c) a w := by intro c a d v w h; cases d <;> exact h) (hok : yfn' md ops N l listed = true := by kernel_rfl) : ybh' P md ops Q S N (fuel + l.length) listed a w := ynh' hs hQ l (fuel := fuel) hok h
theorem rM (S : World → Prop) (N : Nat) {id : Nat} (h : (∀ W, S W → S W) → ybh' P .any ops Q S N ops.size (Array.replicate ops.size false) a w.drew) (hm : P.follows .mixedOrders = true := by kernel_rfl) : (Code.region id ops true).wp P Q a w := yan' S N hm (h fun _ h => h)
theorem r1 (fuel i : Nat) {o : Oper} (h : ∀ K : Act → World → Prop, (∀ a' w', S w' → ybh' P md ops Q S N fuel (listed.setIfInBounds i true) a' w' → K a' w') → wpList P ops (Exit.then K Q) [o] a w) (hr : Region.ready md ops listed = [i] := by kernel_rfl) (ho : ops[i]? = some o := by (simp only [k_i, k_j, k_k]; try rfl)) : ybh' P md ops Q S N (fuel + 1) listed a w := ybb' hr ho h
theorem rL (l : List Nat) (fuel : Nat) (h : wpList P ops Q (l.filterMap (ops[·]?)) a w) (hl : ∀ i, i < N → listed.getD i true = true := by decide) (hf : yk9' md ops l listed = true := by kernel_rfl) : ybh' P md ops Q S N (fuel + l.length) listed a w := ygd' _ _ _ _ hl (ygw' l hf h)
end
end Go.Av

namespace Go.Av
open Go.RowKit
def ya7' (l : List Bs) (s : Bs) : Nat := (l.takeWhile fun y => decide (y < s)).length
def insS (l : List Bs) (s : Bs) : List Bs := l.take (ya7' l s) ++ s :: l.drop (ya7' l s)
def delS (l : List Bs) (s : Bs) : List Bs := l.take (ya7' l s) ++ l.drop (ya7' l s + 1)
def hasS (l : List Bs) (s : Bs) : Bool := decide (l[ya7' l s]? = some s)
def yg5' (l : List Bs) : Prop := l.Pairwise (· < ·)
theorem yf2' (l : List Bs) (s : Bs) : ya7' l s ≤ l.length := by
 unfold ya7'
 exact (List.takeWhile_sublist _).length_le
theorem yen' {x s : Bs} {l : List Bs} (h : x < s) : ya7' (x :: l) s = ya7' l s + 1 := by
 unfold ya7'
 rw [List.takeWhile_cons_of_pos (by simpa using h)]
 rfl
theorem yf3' {x s : Bs} {l : List Bs} (h : ¬ x < s) : ya7' (x :: l) s = 0 := by
 unfold ya7'
 rw [List.takeWhile_cons_of_neg (by simpa using h)]
 rfl
theorem yhf' : ∀ {l : List Bs} {s : Bs} {j : Nat} (hj : j < l.length), j < ya7' l s → l[j] < s
 | x :: l, s, j, hj, h => by
  by_cases hx : x < s
  ·rw [yen' hx] at h
   cases j with
   | zero => exact hx
   | succ j => exact yhf' (l := l) (by simpa using hj) (by omega)
  ·rw [yf3' hx] at h; omega
theorem ykb' : ∀ {l : List Bs} {s : Bs}, yg5' l → ∀ {j : Nat} (hj : j < l.length), ya7' l s ≤ j → ¬ l[j] < s
 | x :: l, s, hr, j, hj, h => by
  have hr2 := List.pairwise_cons.1 hr
  by_cases hx : x < s
  ·rw [yen' hx] at h
   cases j with
   | zero => omega
   | succ j => exact ykb' (l := l) hr2.2 (by simpa using hj) (by omega)
  ·cases j with
   | zero => exact hx
   | succ j => exact fun hl => hx (List.lt_trans (hr2.1 _ (List.getElem_mem (by simpa using hj))) hl)
theorem yt9' {l : List Bs} {s : Bs} {k : Nat} (hk : k ≤ l.length) (h1 : ∀ j (hj : j < l.length), j < k → l[j] < s) (h2 : ∀ h : k < l.length, ¬ l[k] < s) : ya7' l s = k := by
 have hp := yf2' l s
 by_cases h : ya7' l s < k
 ·have hl : ya7' l s < l.length := by omega
  exfalso
  have hx := h1 _ hl h
  have : ∀ (l : List Bs) (hl : ya7' l s < l.length), ¬ l[ya7' l s] < s := by
   intro l
   induction l with
   | nil => intro hl; simp at hl
   | cons x l ih =>
    intro hl
    by_cases hx : x < s
    ·have e := yen' (l := l) hx
     have : ya7' l s < l.length := by rw [e] at hl; simpa using hl
     have := ih this
     simp only [e, List.getElem_cons_succ]
     exact this
    ·have e := yf3' (l := l) hx
     simp only [e, List.getElem_cons_zero]
     exact hx
  exact this l hl hx
 ·by_cases h' : k < ya7' l s
  ·have hl : k < l.length := by omega
   exact absurd (yhf' hl h') (h2 hl)
  ·omega
theorem yqh' {l : List Bs} {s : Bs} (hr : yg5' l) : hasS l s = true ↔ s ∈ l := by
 unfold hasS
 rw [decide_eq_true_eq]
 constructor
 ·exact fun h => List.mem_of_getElem? h
 ·intro h
  obtain ⟨j, hj, rfl⟩ := List.getElem_of_mem h
  have : ya7' l l[j] = j := yt9' (Nat.le_of_lt hj) (fun i hi hij => List.pairwise_iff_getElem.1 hr i j hi hj hij) (fun _ => List.lt_irrefl _)
  rw [this, List.getElem?_eq_getElem hj]
theorem yq5' {a b : Bs} (h : ¬ a < b) (hne : a ≠ b) : b < a := by
 rcases (List.not_lt.1 h : b ≤ a) with h2
 exact Classical.byContradiction fun h3 => hne (List.le_antisymm (List.not_lt.1 h3) h2)
theorem ynv' {l : List Bs} {s : Bs} (hr : yg5' l) (hn : hasS l s = false) : yg5' (insS l s) := by
 have hne : s ∉ l := fun h => by rw [(yqh' hr).2 h] at hn; cases hn
 unfold insS yg5'
 rw [List.pairwise_append]
 refine ⟨List.Pairwise.sublist (List.take_sublist _ _) hr, ?_, fun a ha b hb => ?_⟩
 ·rw [List.pairwise_cons]
  refine ⟨fun b hb => ?_, List.Pairwise.sublist (List.drop_sublist _ _) hr⟩
  obtain ⟨j, hj, rfl⟩ := List.getElem_of_mem hb
  rw [List.getElem_drop]
  rw [List.length_drop] at hj
  have hj2 : ya7' l s + j < l.length := by omega
  exact yq5' (ykb' hr hj2 (by omega)) fun e => hne (e ▸ List.getElem_mem hj2)
 ·have h1 : a < s := by
   obtain ⟨j, hj, rfl⟩ := List.getElem_of_mem ha
   rw [List.getElem_take]
   rw [List.length_take] at hj
   exact yhf' (by omega) (by omega)
  rcases List.mem_cons.1 hb with rfl | hb
  ·exact h1
  ·obtain ⟨i, hi, rfl⟩ := List.getElem_of_mem ha
   obtain ⟨j, hj, rfl⟩ := List.getElem_of_mem hb
   rw [List.getElem_take, List.getElem_drop]
   rw [List.length_take] at hi
   rw [List.length_drop] at hj
   exact List.pairwise_iff_getElem.1 hr _ _ _ _ (by omega)
theorem ytj' {l : List Bs} {s : Bs} (hr : yg5' l) : yg5' (delS l s) := by
 unfold delS
 have : (l.take (ya7' l s) ++ l.drop (ya7' l s + 1)).Sublist l := by
  conv => rhs; rw [← List.take_append_drop (ya7' l s) l]
  exact (List.Sublist.refl _).append (List.drop_sublist_drop_left _ (Nat.le_succ _))
 exact List.Pairwise.sublist this hr
theorem ywr' (l : List Bs) (s : Bs) : (insS l s).length = l.length + 1 := by
 have := yf2' l s
 unfold insS
 simp only [List.length_append, List.length_take, List.length_cons, List.length_drop]
 omega
theorem ywk' {l : List Bs} {s : Bs} (h : hasS l s = true) : (delS l s).length + 1 = l.length := by
 have hp : ya7' l s < l.length := by
  unfold hasS at h
  rw [decide_eq_true_eq] at h
  exact (List.getElem?_eq_some_iff.1 h).1
 unfold delS
 simp only [List.length_append, List.length_take, List.length_drop]
 omega
theorem ys3' {l : List Bs} {s : Bs} (hr : yg5' l) (less : Nat → Bool) (h : ∀ j (hj : j < l.length), less j = decide (l[j] < s)) (n : Nat) (hn : n = l.length) : Lib.bsGo less n 0 n = ya7' l s := by
 subst hn
 have hp := yf2' l s
 rw [show Lib.bsGo less l.length 0 l.length = Lib.bsGo (fun t => decide (t < ya7' l s)) l.length 0 l.length from ?_]
 ·exact Lib.bsGo_spec _ (ya7' l s) (fun t ht => by simpa using ht) (fun t ht => by simpa using ht) _ _ _ (by omega) (by omega) hp
 ·have : ∀ (f lo hi : Nat), hi ≤ l.length → Lib.bsGo less f lo hi = Lib.bsGo (fun t => decide (t < ya7' l s)) f lo hi := by
   intro f
   induction f with
   | zero => intro lo hi _; rfl
   | succ f ih =>
    intro lo hi hhi
    unfold Lib.bsGo
    by_cases hlt : lo < hi
    ·rw [if_pos hlt, if_pos hlt]
     have hm : (lo + hi) / 2 < l.length := by omega
     have : less ((lo + hi) / 2) = decide ((lo + hi) / 2 < ya7' l s) := by
      rw [h _ hm]
      apply decide_eq_decide.2
      constructor
      ·intro hx
       exact Classical.byContradiction fun hc => ykb' hr hm (by omega) hx
      ·exact fun hx => yhf' hm hx
     rw [this, ih _ _ hhi, ih _ _ (by omega)]
    ·rw [if_neg hlt, if_neg hlt]
  exact this _ _ _ (Nat.le_refl _)
end Go.Av

namespace Go.Proofs.YtcnkifbjlihaoaaGreatDoor
open Go.RowKit Go.Av
def yfq' (w : World) (l : List Bs) (e : Ending) (w' : World) : Prop := ∃ v D, e = .returned v ∧ OwnRow w' 1 v (l.map sv) D ∧ Upd w w' [] D
set_option maxHeartbeats 1000000 in
theorem yh4' (s : ByteArray) (w : World) (hd : Door w) (hs : s.size ≤ maxLen) :
  Calls Tryz.prog 156 #[.string s] w (yfq' w (yaz' s.data.toList)) := by
 have hg := yfv' s w hd hs
 have hsz : s.size = s.data.toList.length := by simp
 unfold yaz'
 cases hb : ya4' s.data.toList with
 | false =>
  rw [hb] at hg
  have HG := Lib.hid hg
  clear hg hb hsz hd
  go_enter Tryz.func156, Tryz.ntmps156
  go_wp2_with fail
  refine HG.out.mono ?_
  rintro e w1 ⟨rfl, hu⟩
  have HU := Lib.hid hu
  clear hu
  go_wp2_with fail
  go_ret
  exact ⟨_, [], rfl, OwnRow.nil _ _, HU.out⟩
 | true =>
  rw [hb] at hg
  have hl := yb3' hb
  have h1 : 1 ≤ s.size := by
   rw [hsz]
   cases h : s.data.toList with
   | nil => rw [h] at hb; cases hb
   | cons c r => simp
  have hex : (s.extract 1 s.size).data.toList = s.data.toList.drop 1 := Lib.extract_to_end s 1
  have hsp := fun W (hW : Door W) => yl5' (s.extract 1 s.size) W hW (by simp; omega)
  rw [hex] at hsp
  rw [if_pos rfl]
  have hlen : (cutS (s.data.toList.drop 1)).length ≤ 1000000000 := by
   rw [ydu']
   have := List.count_le_length (a := 47) (l := s.data.toList.drop 1)
   rw [List.length_drop] at this
   omega
  obtain ⟨ps, hps⟩ : ∃ ps, cutS (s.data.toList.drop 1) = ps := ⟨_, rfl⟩
  rw [hps] at hsp hlen ⊢
  have HG := Lib.hid hg
  have HS := Lib.hid hsp
  have HD := Lib.hid hd
  have HL := Lib.hid hlen
  clear hg hb hsp hps hex hl hlen hd hsz
  go_enter Tryz.func156, Tryz.ntmps156
  go_wp2_with fail
  refine HG.out.mono ?_
  rintro e w1 ⟨rfl, hu⟩
  have HU := Lib.hid hu
  clear hu
  go_wp2_with fail
  refine (HS.out w1 (HD.out.upd HU.out)).mono ?_
  rintro e w2 ⟨rfl, hw2⟩
  have hro := yl1' ps w1 HL.out
  have hu2 := HU.out.trans (Upd.alloc1 w1 (.cells (ps.map sv).toArray 9) [])
  rw [← hw2] at hro hu2
  have HR := Lib.hid (show _ ∧ _ from ⟨hro, hu2⟩)
  clear hro hu2 hw2
  go_wp2_with fail
  go_ret
  exact ⟨_, _, rfl, HR.out.1, HR.out.2⟩
end Go.Proofs.YtcnkifbjlihaoaaGreatDoor

namespace Go.Proofs.YtcnkifbjlihaoaaGreatDoor
open Go.RowKit Go.Av
end Go.Proofs.YtcnkifbjlihaoaaGreatDoor

namespace Go.Av
open Go.RowKit
def ofP (l : List Bs) : Bs := l.flatMap (fun x => 47 :: x)
def yap' (p : Bs) : Option Bs := if (yaz' p).length < 2 then none else some (ofP (yaz' p).dropLast)
theorem yws' : ∀ {l : List Bs}, l ≠ [] → 47 :: Lib.join l [47] = ofP l
 | [], h => absurd rfl h
 | x :: r, _ => by
  rw [Lib.join_cons]
  unfold Lib.joinTail ofP
  rw [List.flatMap_cons, List.cons_append]
  congr 1
theorem yog' : ∀ (l : List Bs), (ofP l).length = l.length + (l.map List.length).sum
 | [] => rfl
 | x :: r => by
  have := yog' r
  unfold ofP at this ⊢
  rw [List.flatMap_cons, List.length_append, this]
  simp only [List.length_cons, List.map_cons, List.sum_cons]
  omega
theorem ymq' : ∀ (p : Bs), ofP (cutS p) = 47 :: p
 | [] => rfl
 | c :: r => by
  have ih := ymq' r
  unfold cutS
  split
  ·rename_i hc
   unfold ofP at ih ⊢
   rw [List.flatMap_cons, ih, hc]
   rfl
  ·split
   ·rename_i h0; exact absurd h0 (yc8' r)
   ·rename_i x t hx
    unfold ofP at ih ⊢
    rw [hx, List.flatMap_cons] at ih
    rw [List.flatMap_cons]
    simp only [List.cons_append, List.cons.injEq, true_and] at ih ⊢
    exact ih
theorem yt8' {p : Bs} (h : ya4' p = true) : ofP (yaz' p) = p := by
 unfold yaz'
 rw [if_pos h, ymq']
 unfold ya4' at h
 split at h
 ·cases h
 ·simp only [Bool.and_eq_true, decide_eq_true_eq] at h
  rw [h.1.1.1]
  rfl
theorem ypb' {p : Bs} (h : yaz' p ≠ []) : ya4' p = true := by
 unfold yaz' at h
 split at h
 ·assumption
 ·exact absurd rfl h
theorem ylv' (p : Bs) : (ofP (yaz' p)).length ≤ 200 := by
 by_cases h : ya4' p = true
 ·rw [yt8' h]; exact yb3' h
 ·unfold yaz'; rw [if_neg h]; simp [ofP]
theorem yn1' (l : List Bs) : (ofP l.dropLast).length ≤ (ofP l).length := by
 by_cases h0 : l = []
 ·subst h0; exact Nat.le_refl _
 ·have h := List.dropLast_concat_getLast h0
  unfold ofP
  conv => rhs; rw [← h]
  rw [List.flatMap_append, List.length_append]
  exact Nat.le_add_right _ _
theorem yi5' {p q : Bs} (h : yap' p = some q) : q.length ≤ 200 := by
 unfold yap' at h
 split at h
 ·cases h
 ·cases h
  exact Nat.le_trans (yn1' _) (ylv' p)
end Go.Av
namespace Go.Proofs.YtcnkifbjlihaoaaGreatDoor
open Go.RowKit Go.Av
theorem yqm' : (Tryz.prog.info? 9).map (fun i => (i.zero, i.size, i.bytes)) = some (some (.string ByteArray.empty), 1, 16) := by kernel_rfl
theorem ypk' {P : Program} {t e : TypeId} {i : TypeInfo} (ht : P.underlying t = some (.slice e)) (hi : P.info? e = some i) (x : Addr) (hx : x.spot = none) (n c k : Nat) (hk : k ≤ c) (hc : 0 < c) (W : World) :
  (Instr.slice t (.slice (some x) n c) none (some (.int .i64 (k : Int))) none).run P W = .ok (.slice (some x) k c) W := by
 obtain ⟨xb, xo, xs⟩ := x
 dsimp only at hx
 subst hx
 simp [Instr.slice, run_underlying ht, Instr.sliceBounds, Instr.sliceBound, asIntOf, hk, sizeOf, typeInfo, hi, Result.andThen, Addr.add]
 try omega
theorem yn6' {w : World} {a : Option Addr} {n c : Nat} {xs : List Value} {D : List Nat} (h : OwnRow w 1 (.slice a n c) xs D) (h0 : 0 < n) :
  ∃ (g o : Nat), a = some ⟨g, o, none⟩ ∧ g < w.heap.size ∧ ∀ (i : Nat) x, xs[i]? = some x → w.cell? ⟨g, o + i, none⟩ = some x := by
 obtain ⟨E, hr, -⟩ := h.read
 obtain ⟨a', n', c', hv, hl, hn, hc, ha, hr⟩ := hr
 cases hv
 rcases hr with ⟨h2, -⟩ | ⟨g, off, h2, h3, h4, h5⟩
 ·rw [h2] at hl; simp at hl; omega
 ·exact ⟨g, off, h2, h4, h5⟩
set_option maxRecDepth 100000 in
set_option maxHeartbeats 1000000 in
theorem ydh' (s : ByteArray) (w : World) (hd : Door w) (hs : s.size ≤ maxLen) :
  Calls Tryz.prog 148 #[.string s] w fun e w' => e = .returned (.tuple #[sv ((yap' s.data.toList).getD []), .bool (yap' s.data.toList).isSome]) ∧ Upd w w' [] [] := by
 obtain ⟨i0, hi0, hz0, hz1, hz2⟩ := info_parts yqm'
 have hg := yh4' s w hd hs
 have hlen := yn1' (yaz' s.data.toList)
 have hlen2 := ylv' s.data.toList
 obtain ⟨po, hpo⟩ : ∃ po, yap' s.data.toList = po := ⟨_, rfl⟩
 rw [hpo]
 unfold yap' at hpo
 obtain ⟨ps, hps⟩ : ∃ ps, yaz' s.data.toList = ps := ⟨_, rfl⟩
 rw [hps] at hg hlen hlen2 hpo
 have HG := Lib.hid hg
 have HP := Lib.hid hpo
 clear hg hps hd hs hpo
 go_enter Tryz.func148, Tryz.ntmps148
 go_wp2_with fail
 refine HG.out.mono ?_
 rintro e w1 ⟨v, D, rfl, ho, hu⟩
 obtain ⟨a, n, c, rfl, hl, hn, hc, -⟩ := id ho
 rw [List.length_map, Nat.mul_one] at hl
 subst hl
 unfold maxLen at hc
 have HU := Lib.hid (hu.mono (fun _ h => h) (fun b hb => by cases hb) : Upd w w1 [] [])
 by_cases h2 : ps.length < 2
 ·have h2' : decide ((ps.length : Int) < 2) = true := decide_eq_true (by omega)
  have HL := Lib.hid (show po = none by rw [← HP.out, if_pos h2])
  clear ho hu h2 hlen hlen2 HP
  go_wp2_with fail
  go_ret2
  rw [HL.out]
  exact ⟨rfl, HU.out⟩
 have h2' : decide ((ps.length : Int) < 2) = false := decide_eq_false (by omega)
 have HL := Lib.hid (show po = some (ofP ps.dropLast) by rw [← HP.out, if_neg h2])
 have hp2 : 2 ≤ ps.length := by omega
 have hps200 : ps.length ≤ 200 := by have := yog' ps; omega
 obtain ⟨g, o, rfl, hgl, hcell⟩ := yn6' ho (by omega)
 have hsl := ypk' (P := Tryz.prog) (t := 94) Tryz.underlying94 hi0 ⟨g, o, none⟩ rfl ps.length c (ps.length - 1) (by omega) (by omega)
 have hw : wrap64 ((ps.length : Int) - 1) = ((ps.length - 1 : Nat) : Int) := by rw [IntWalk.wrap64_in _ (by omega)]; omega
 obtain ⟨qs, hqs⟩ : ∃ qs, ps.dropLast = qs := ⟨_, rfl⟩
 have hql : qs.length = ps.length - 1 := by rw [← hqs, List.length_dropLast]
 have hq0 : qs ≠ [] := fun h => by rw [h] at hql; simp at hql; omega
 have hmm : (qs.map fun b => (⟨b.toArray⟩ : ByteArray)).map (·.data.toList) = qs := by
  rw [List.map_map]
  exact List.map_id _
 have hjo := yws' hq0
 rw [hqs] at hlen
 have hj := Tryz.strings_Join g o c (qs.map fun b => ⟨b.toArray⟩) ⟨#[47]⟩ w1 (fun j x hx => by
  rw [List.getElem?_map] at hx
  cases hy : qs[j]? with
  | none => rw [hy] at hx; cases hx
  | some y =>
   rw [hy] at hx
   cases hx
   refine hcell j _ ?_
   rw [List.getElem?_map]
   have : ps[j]? = some y := by
    rw [← hqs, List.getElem?_dropLast] at hy
    split at hy
    ·exact hy
    ·cases hy
   rw [this]
   rfl) hgl (by simp; omega) (by simp; omega) (by
  rw [hmm]
  have := congrArg List.length hjo
  simp only [List.length_cons] at this
  show (Lib.join qs [47]).length ≤ _
  omega)
 rw [List.length_map, hql, hmm, show (⟨#[47]⟩ : ByteArray).data.toList = [47] from rfl] at hj
 obtain ⟨js, hjs⟩ : ∃ js : ByteArray, js = ⟨(Lib.join qs [47]).toArray⟩ := ⟨_, rfl⟩
 have hjl : js.size ≤ 200 := by
  have := congrArg List.length hjo
  simp only [List.length_cons] at this
  rw [hjs]
  show (Lib.join qs [47]).toArray.size ≤ _
  rw [List.size_toArray]
  omega
 have HJO := Lib.hid (show sv (po.getD []) = .string (⟨#[47]⟩ ++ js) ∧ po.isSome = true by
  rw [HL.out, hqs, ← hjo]
  refine ⟨congrArg Value.string (WideShapes.bytes_inj ?_), rfl⟩
  rw [ByteArray.data_append, Array.toList_append, hjs]
  rfl)
 rw [← hjs] at hj
 have HJ := Lib.hid hj
 clear ho hu h2 hlen hlen2 HP HL hcell hqs hql hq0 hmm hjo hj hgl hjs
 go_wp2_with fail
 refine HJ.out.mono ?_
 rintro e w2 ⟨rfl, hb⟩
 have HU2 := Lib.hid (HU.out.trans (Upd.of_below hb))
 clear hb HJ
 go_wp2_with fail
 go_ret2
 rw [HJO.out.1, HJO.out.2]
 exact ⟨rfl, HU2.out⟩
set_option maxRecDepth 100000 in
set_option maxHeartbeats 1000000 in
theorem ylk' (s : ByteArray) (w : World) (hd : Door w) (hs : s.size ≤ maxLen) :
  Calls Tryz.prog 193 #[.string s] w fun e w' => e = .returned (sv (yeu' s.data.toList)) ∧ Upd w w' [] [] := by
 have hg := yh4' s w hd hs
 obtain ⟨nm, hnm⟩ : ∃ nm, yeu' s.data.toList = nm := ⟨_, rfl⟩
 rw [hnm]
 unfold yeu' at hnm
 obtain ⟨ps, hps⟩ : ∃ ps, yaz' s.data.toList = ps := ⟨_, rfl⟩
 rw [hps] at hg hnm
 have HG := Lib.hid hg
 have HN := Lib.hid hnm
 clear hg hps hd hs hnm
 go_enter Tryz.func193, Tryz.ntmps193
 go_wp2_with fail
 refine HG.out.mono ?_
 rintro e w1 ⟨v, D, rfl, ho, hu⟩
 obtain ⟨a, n, c, rfl, hl, hn, hc, -⟩ := id ho
 rw [List.length_map, Nat.mul_one] at hl
 subst hl
 unfold maxLen at hc
 have HU := Lib.hid (hu.mono (fun _ h => h) (fun b hb => by cases hb) : Upd w w1 [] [])
 by_cases h0 : ps.length = 0
 ·have h2' : ((ps.length : Int) == 0) = true := by simp [h0]
  have HL := Lib.hid (show nm = [] by rw [← HN.out, List.length_eq_zero_iff.1 h0]; rfl)
  clear ho hu h0 HN
  go_wp2_with fail
  go_ret
  rw [HL.out]
  exact ⟨rfl, HU.out⟩
 have h2' : ((ps.length : Int) == 0) = false := by rw [beq_eq_false_iff_ne]; omega
 obtain ⟨g, o, rfl, hgl, hcell⟩ := yn6' ho (by omega)
 have hlx := List.getLast?_eq_getElem? (l := ps)
 obtain ⟨x, hx⟩ : ∃ x, ps[ps.length - 1]? = some x := ⟨_, List.getElem?_eq_getElem (by omega)⟩
 have hc0 := hcell (ps.length - 1) (sv x) (by rw [List.getElem?_map, hx]; rfl)
 have HL := Lib.hid (show nm = x by rw [← HN.out, hlx, hx])
 have hw : wrap64 ((ps.length : Int) - 1) = ((ps.length - 1 : Nat) : Int) := by rw [IntWalk.wrap64_in _ (by omega)]; omega
 clear ho hu hcell hlx HN hx
 go_wp2_with fail
 go_ret
 rw [HL.out]
 exact ⟨rfl, HU.out⟩
end Go.Proofs.YtcnkifbjlihaoaaGreatDoor

namespace Go.Av
open Go.RowKit
def padD (n : Int) : Bs := List.replicate (10 - (Lib.decDigits n.toNat).length) 48 ++ Lib.decDigits n.toNat
def yba' (p : Bs) (n : Int) : Option Bs := if ya4' p = false ∨ n < 0 ∨ 2147483647 < n then none else if ya4' (p ++ padD n) then some (p ++ padD n) else none
theorem ymr' : ∀ (k u : Nat), u < 10 ^ (k + 1) → (Lib.decDigits u).length ≤ k + 1
 | 0, u, h => by rw [Lib.decDigits, dif_pos (by simpa using h)]; simp
 | k + 1, u, h => by
  rw [Lib.decDigits]
  split
  ·simp
  ·rw [List.length_append]
   have := ymr' k (u / 10) (by rw [Nat.pow_succ] at h; omega)
   simp only [List.length_singleton]
   omega
theorem ywi' (u : Nat) : 1 ≤ (Lib.decDigits u).length := by
 rw [Lib.decDigits]
 split
 ·simp
 ·rw [List.length_append]; simp
theorem yp9' {n : Int} (h : n ≤ 2147483647) : (Lib.decDigits n.toNat).length ≤ 10 := ymr' 9 _ (by
 have : (10 : Nat) ^ (9 + 1) = 10000000000 := by decide
 omega)
theorem ypa' {p q : Bs} {n : Int} (h : yba' p n = some q) : q.length ≤ 200 := by
 unfold yba' at h
 split at h
 ·cases h
 ·split at h
  ·rename_i hg
   cases h
   exact yb3' hg
  ·cases h
def errO {α : Type} (o : Option α) (e : Int) : Int := if o.isSome then 0 else e
end Go.Av
namespace Go.Proofs.YtcnkifbjlihaoaaGreatDoor
open Go.RowKit Go.Av
theorem ykc' : Tryz.prog.globalNamed "internal/strconv.uint64pow10" = some 3 := by kernel_rfl
def DoorN (w : World) : Prop := Door w ∧ Lib.TabIs Tryz.prog w "internal/strconv.uint64pow10" .u64 Lib.pow10Tab
theorem DoorN.lt {w : World} (h : DoorN w) : 3 < w.heap.size := by
 have h2 := h.2
 unfold Lib.TabIs World.var? at h2
 rw [ykc', Option.bind_some] at h2
 split at h2
 ·rename_i hh; exact ya6' hh
 ·cases h2
theorem DoorN.upd {w w' : World} {D' : List Nat} (h : DoorN w) (hu : Upd w w' [] D') : DoorN w' :=
 ⟨h.1.upd hu, var?_below (B := w.heap.size) hu.below ykc' h.lt h.2⟩
theorem DoorN.sep {w0 w : World} {R : List Thing} {rows : List (Value × Bs)} (h : DoorN w0) (hS : Sep w0 w R rows) : DoorN w :=
 ⟨h.1.sep hS, var?_below (B := w0.heap.size) hS.below ykc' h.lt h.2⟩
theorem DoorN.below {w w' : World} (h : DoorN w) (hb : Below w.heap.size w w') : DoorN w' := h.upd (Upd.of_below hb)
theorem ysp' (w : World) (k : Nat) (os : Array Obj) : Upd w (Sort.grow (w.drewN k) os) [] [] := ⟨rfl, rfl, rfl, by simp [Sort.grow], fun b hb _ => by
 show ((w.drewN k).heap ++ os)[b]? = _
 rw [Array.getElem?_append_left (by exact hb)]
 rfl, fun b hb => by cases hb⟩
set_option maxRecDepth 100000 in
set_option maxHeartbeats 1000000 in
theorem yi2' (s : ByteArray) (n : Int) (w : World) (hd : DoorN w) (hs : s.size ≤ 100000) (hn0 : -9223372036854775808 ≤ n) (hn1 : n ≤ 9223372036854775807) :
  Calls Tryz.prog 209 #[.string s, .int .i64 n] w fun e w' => e = .returned (.tuple #[sv ((yba' s.data.toList n).getD []), .int .i64 (errO (yba' s.data.toList n) 1)]) ∧ Upd w w' [] [] := by
 have hsz : s.size = s.data.toList.length := by simp
 obtain ⟨po, hpo⟩ : ∃ po, yba' s.data.toList n = po := ⟨_, rfl⟩
 rw [hpo]
 unfold yba' at hpo
 have hg1 := yfv' s w hd.1 (by unfold maxLen; omega)
 have hten : n ≤ 2147483647 → (Lib.decDigits n.toNat).length ≤ 10 := yp9'
 have hone := ywi' n.toNat
 have hit := Tryz.strconv_Itoa n hn0 hn1
 have hrp := fun c => Tryz.strings_Repeat ⟨#[48]⟩ c
 have HA := Lib.hid (show _ ∧ _ ∧ _ from ⟨hd, hit, hrp⟩)
 have HP := Lib.hid hpo
 have HG := Lib.hid hg1
 clear hd hit hrp hpo hg1 hsz
 go_enter Tryz.func209, Tryz.ntmps209
 go_wp2_with fail
 refine HG.out.mono ?_
 rintro e w1 ⟨rfl, hu1⟩
 have HU := Lib.hid hu1
 clear hu1 HG
 cases hg : ya4' s.data.toList with
 | false =>
  have HL := Lib.hid (show po = none by rw [← HP.out, if_pos (.inl hg)])
  clear hg HP HA
  go_wp2_with fail
  go_ret2
  rw [HL.out]
  exact ⟨rfl, HU.out⟩
 | true =>
 by_cases hn : n < 0 ∨ 2147483647 < n
 ·have HL := Lib.hid (show po = none by rw [← HP.out, if_pos (.inr hn)])
  clear hg HP HA
  rcases hn with h | h
  ·have q1 : decide (n < 0) = true := decide_eq_true h
   go_wp2_with fail
   go_ret2
   rw [HL.out]
   exact ⟨rfl, HU.out⟩
  ·have q1 : decide (n < 0) = false := decide_eq_false (by omega)
   have q2 : decide (2147483647 < n) = true := decide_eq_true h
   go_wp2_with fail
   go_ret2
   rw [HL.out]
   exact ⟨rfl, HU.out⟩
 have q1 : decide (n < 0) = false := decide_eq_false (by omega)
 have q2 : decide (2147483647 < n) = false := decide_eq_false (by omega)
 have hl10 := hten (by omega)
 obtain ⟨is, his⟩ : ∃ is : ByteArray, is = ⟨(Lib.itoa n).toArray⟩ := ⟨_, rfl⟩
 have hit2 : Lib.itoa n = Lib.decDigits n.toNat := by unfold Lib.itoa; rw [if_neg (by omega)]
 obtain ⟨k, hk⟩ : ∃ k, is.size = k := ⟨_, rfl⟩
 have hk2 : (Lib.decDigits n.toNat).length = k := by
  rw [← hk, his, hit2]
  show _ = (Lib.decDigits n.toNat).toArray.size
  simp
 rw [hk2] at hl10 hone
 have hI := HA.out.2.1 w1 ((HA.out.1.upd HU.out).2)
 rw [← his] at hI
 have HI := Lib.hid hI
 have hrp := fun w => HA.out.2.2 (10 - k) w (by omega) (by show 1 * (10 - k) ≤ _; omega)
 obtain ⟨rs, hrs⟩ : ∃ rs : ByteArray, rs = ⟨(Lib.repeatL (⟨#[48]⟩ : ByteArray).data.toList (10 - k)).toArray⟩ := ⟨_, rfl⟩
 have hrl : Lib.repeatL (⟨#[48]⟩ : ByteArray).data.toList (10 - k) = List.replicate (10 - k) 48 := by
  have := Lib.repeatL_replicate 48 1 (10 - k)
  rw [Nat.mul_one] at this
  exact this
 have hrz : rs.size ≤ 10 := by
  rw [hrs, hrl]
  show (List.replicate (10 - k) (48 : UInt8)).toArray.size ≤ _
  simp
 have hisz : is.size ≤ 10 := by omega
 rw [← hrs] at hrp
 have HR := Lib.hid hrp
 have hw10 : wrap64 (10 - (is.size : Int)) = ((10 - k : Nat) : Int) := by rw [IntWalk.wrap64_in _ (by omega)]; omega
 have hpad : (s ++ (rs ++ is)).data.toList = s.data.toList ++ padD n := by
  rw [ByteArray.data_append, Array.toList_append, ByteArray.data_append, Array.toList_append, hrs, his, hrl, hit2]
  unfold padD
  rw [hk2]
 obtain ⟨q, hq⟩ : ∃ q, q = s ++ (rs ++ is) := ⟨_, rfl⟩
 rw [← hq] at hpad
 have HPP := Lib.hid (show (if ya4' q.data.toList = true then some q.data.toList else none) = po by rw [← HP.out, if_neg (c := ya4' s.data.toList = false ∨ n < 0 ∨ 2147483647 < n) (by rw [hg]; rintro (h | h); cases h; exact hn h), ← hpad])
 have HQ := Lib.hid (show q.size ≤ 100100 by rw [hq, ByteArray.size_append, ByteArray.size_append]; omega)
 have HD := Lib.hid HA.out.1
 clear hg HP HA hn hrl hrs his hrp hpad hit2 hk2 hI hl10
 go_wp2_with fail
 refine HI.out.mono ?_
 rintro e w2 ⟨rfl, k2, os, hw2⟩
 have HU2 := Lib.hid (HU.out.trans (show Upd w1 w2 [] [] by rw [hw2]; exact ysp' _ _ _))
 clear hw2 HI HU
 rw [hk] at hw10
 obtain ⟨ri, hri⟩ : ∃ ri, rs ++ is = ri := ⟨_, rfl⟩
 have hri2 : ri.size ≤ 20 := by rw [← hri, ByteArray.size_append]; omega
 rw [hri] at hq
 have HQ2 := Lib.hid hq
 clear hq
 have hw11 : (10 : Int) - (k : Int) = ((10 - k : Nat) : Int) := by omega
 go_wp2_with fail
 refine (HR.out w2).mono ?_
 rintro e w3 ⟨rfl, hb3⟩
 have HU3 := Lib.hid (HU2.out.trans (Upd.of_below hb3))
 clear hb3 HR HU2
 go_wp2_with fail
 rw [← HQ2.out]
 refine (yfv' q w3 ((HD.out.upd HU3.out).1) (by have := HQ.out; unfold maxLen; omega)).mono ?_
 rintro e w4 ⟨rfl, hu4⟩
 have HU4 := Lib.hid (HU3.out.trans hu4)
 clear hu4 HU3
 cases hg : ya4' q.data.toList with
 | false =>
  have HL := Lib.hid (show po = none by rw [← HPP.out, hg]; rfl)
  clear hg HPP
  go_wp2_with fail
  go_ret2
  rw [HL.out]
  exact ⟨rfl, HU4.out⟩
 | true =>
  have HL := Lib.hid (show po = some q.data.toList by rw [← HPP.out, hg]; rfl)
  clear hg HPP
  go_wp2_with fail
  go_ret2
  rw [HL.out]
  exact ⟨rfl, HU4.out⟩
end Go.Proofs.YtcnkifbjlihaoaaGreatDoor

namespace Go.Proofs
open Go.Shelf
def Tryz.laysNm226_ren : Go.Shelf.Ren := ⟨fun | 26 => 227 | 33 => 254 | 34 => 271 | 38 => 285 | n => n, fun | 24 => 94 | 9 => 9 | 3 => 3 | 4 => 4 | 40 => 250 | 0 => 0 | n => n, fun | n => n⟩
theorem Tryz.laysNm226 : Go.Proofs.Lays2.n26 Tryz.prog Tryz.laysNm226_ren := {
 mixed := by kernel_rfl
 f26 := Tryz.func227.trans (congrArg some (by kernel_rfl))
 f33 := Tryz.func254.trans (congrArg some (by kernel_rfl))
 f34 := Tryz.func271.trans (congrArg some (by kernel_rfl))
 f38 := Tryz.func285.trans (congrArg some (by kernel_rfl))
 t0 := Tryz.underlying0
 a0 := Tryz.isAgg0
 z0 := Tryz.sizeOf0
 v0 := Tryz.zeroValue0
 t3 := Tryz.underlying3
 a3 := Tryz.isAgg3
 z3 := Tryz.sizeOf3
 v3 := Tryz.zeroValue3
 t4 := Tryz.underlying4
 a4 := Tryz.isAgg4
 z4 := Tryz.sizeOf4
 v4 := Tryz.zeroValue4
 t9 := Tryz.underlying9
 a9 := Tryz.isAgg9
 z9 := Tryz.sizeOf9
 v9 := Tryz.zeroValue9
 t24 := Tryz.underlying94
 a24 := Tryz.isAgg94
 z24 := Tryz.sizeOf94
 v24 := Tryz.zeroValue94
 t40 := Tryz.underlying250
 a40 := Tryz.isAgg250
 z40 := Tryz.sizeOf250
 v40 := Tryz.zeroValue250 }
def Tryz.laysNm222_ren : Go.Shelf.Ren := ⟨fun | 22 => 305 | 29 => 315 | 30 => 316 | 36 => 323 | 17 => 326 | n => n, fun | 24 => 94 | 9 => 9 | 3 => 3 | 4 => 4 | 0 => 0 | n => n, fun | n => n⟩
theorem Tryz.laysNm222 : Go.Proofs.Lays2.n22 Tryz.prog Tryz.laysNm222_ren := {
 mixed := by kernel_rfl
 f17 := Tryz.func326.trans (congrArg some (by kernel_rfl))
 f22 := Tryz.func305.trans (congrArg some (by kernel_rfl))
 f29 := Tryz.func315.trans (congrArg some (by kernel_rfl))
 f30 := Tryz.func316.trans (congrArg some (by kernel_rfl))
 f36 := Tryz.func323.trans (congrArg some (by kernel_rfl))
 t0 := Tryz.underlying0
 a0 := Tryz.isAgg0
 z0 := Tryz.sizeOf0
 v0 := Tryz.zeroValue0
 t3 := Tryz.underlying3
 a3 := Tryz.isAgg3
 z3 := Tryz.sizeOf3
 v3 := Tryz.zeroValue3
 t4 := Tryz.underlying4
 a4 := Tryz.isAgg4
 z4 := Tryz.sizeOf4
 v4 := Tryz.zeroValue4
 t9 := Tryz.underlying9
 a9 := Tryz.isAgg9
 z9 := Tryz.sizeOf9
 v9 := Tryz.zeroValue9
 t24 := Tryz.underlying94
 a24 := Tryz.isAgg94
 z24 := Tryz.sizeOf94
 v24 := Tryz.zeroValue94
 i9 := by kernel_rfl }
end Go.Proofs

namespace Go.Av
open Go.RowKit
theorem ydx' {w : World} {g off n c : Nat} {xs : List Value} {cur : Array Value} {T : TypeId} (hb : w.heap[g]? = some (.cells cur T (0, 0))) (hs : off + c ≤ cur.size) (hl : xs.length = n) (hn : n ≤ c) (hc : c ≤ maxLen)
  (hcell : ∀ j (hj : j < xs.length), w.cell? ⟨g, off + j, none⟩ = some xs[j]) : OwnRow w 1 (.slice (some ⟨g, off, none⟩) n c) xs [g] := by
 refine ⟨_, n, c, rfl, by omega, hn, hc, by simp, .inr ⟨g, off, cur, T, rfl, rfl, hb, by omega, ?_⟩⟩
 apply List.ext_getElem?
 intro j
 rw [List.getElem?_take]
 by_cases hj : j < n * 1
 ·rw [if_pos hj, List.getElem?_drop]
  have h1 := hcell j (by omega)
  rw [cell_of_row w g (off + j) cur T _ hb] at h1
  rw [Array.getElem?_toList, h1, List.getElem?_eq_getElem (by omega)]
 ·rw [if_neg hj, List.getElem?_eq_none (by omega)]
theorem ycj' {w : World} {g o : Nat} {vs : List Value} {cur : Array Value} {T : TypeId} (hb : w.heap[g]? = some (.cells cur T (0, 0))) (h : o + vs.length ≤ cur.size) :
  ∃ cur', (w.setCells g o vs).heap[g]? = some (.cells cur' T (0, 0)) ∧ cur'.size = cur.size := by
 refine ⟨_, ybf' g T vs o w cur hb h, ?_⟩
 simp
 omega
theorem yb5' (w : World) (g o : Nat) (vs : List Value) : Upd w (w.setCells g o vs) [g] [g] := by
 obtain ⟨h1, h2, h3⟩ := yb9' g vs o w
 exact ⟨h1, h2, h3, by rw [yca']; exact Nat.le_refl _, fun b _ hn => ybe' g b (fun e => hn (by simp [e])) vs o w, fun b hb => .inl hb⟩
end Go.Av
namespace Go.Proofs.YtcnkifbjlihaoaaGreatDoor
open Go.RowKit Go.Av Go.Sort
set_option maxRecDepth 100000 in
theorem yjd' (v : Value) (l : List Bs) (E : List Nat) (w : World) (s : ByteArray) (h : ReadRow w 1 v (l.map sv) E) (hr : yg5' l) (hl : l.length ≤ 1000000) :
  Calls Tryz.prog 227 #[v, .string s] w fun e w' => e = .returned (.tuple #[.int .i64 (ya7' l s.data.toList : Nat), .bool (hasS l s.data.toList)]) ∧ Upd w w' [] [] := by
 obtain ⟨a, n, c, rfl, hln, hn, hc, ha, hrr⟩ := h
 rw [List.length_map, Nat.mul_one] at hln
 subst hln
 by_cases h0 : l.length = 0
 ·have : l = [] := List.length_eq_zero_iff.1 h0
  subst this
  refine (Any2.slices_BinarySearch_string_empty Tryz.laysNm226 a c s w).mono ?_
  rintro e w' ⟨rfl, rfl⟩
  exact ⟨rfl, Upd.refl _ _⟩
 ·rcases hrr with ⟨hx, -⟩ | ⟨g, off, rfl, -, hg, hcell⟩
  ·simp at hx; exact absurd (by rw [hx]; rfl) h0
  ·have hc2 : ∀ j, j < l.length → w.cell? ⟨g, off + j, none⟩ = some (.string ((l.map fun b => (⟨b.toArray⟩ : ByteArray)).getD j ByteArray.empty)) := fun j hj => by
    refine hcell j _ ?_
    rw [List.getElem?_map, List.getElem?_eq_getElem hj]
    simp [List.getD, List.getElem?_map, List.getElem?_eq_getElem hj, sv]
   refine (Any2.slices_BinarySearch_string Tryz.laysNm226 g off l.length c _ s w (by omega) hc2).mono ?_
   have hbs := ys3' (s := s.data.toList) hr (fun t => Op.bytesLess ((l.map fun b => (⟨b.toArray⟩ : ByteArray)).getD t ByteArray.empty).toList s.toList) (fun j hj => by
    rw [bytesLess_eq, Lib.toList_data, Lib.toList_data]
    simp [List.getD, List.getElem?_map, List.getElem?_eq_getElem hj]) l.length rfl
   rintro e w' ⟨rfl, q, rfl⟩
   rw [hbs]
   refine ⟨?_, (Upd.refl w []).drewN q⟩
   have hhas : (decide (ya7' l s.data.toList < l.length ∧ (l.map fun b => (⟨b.toArray⟩ : ByteArray)).getD (ya7' l s.data.toList) ByteArray.empty = s)) = hasS l s.data.toList := by
    unfold hasS
    apply decide_eq_decide.2
    constructor
    ·rintro ⟨h1, h2⟩
     rw [List.getElem?_eq_getElem h1]
     have e := congrArg (fun z : ByteArray => z.data.toList) h2
     simp only [List.getD, List.getElem?_map, List.getElem?_eq_getElem h1, Option.map_some, Option.getD_some] at e
     exact congrArg some e
    ·intro h1
     obtain ⟨h2, h3⟩ := List.getElem?_eq_some_iff.1 h1
     refine ⟨h2, ?_⟩
     simp only [List.getD, List.getElem?_map, h1, Option.map_some, Option.getD_some]
   rw [hhas]
def NewS (w : World) (xs : List Value) (e : Ending) (w' : World) : Prop := ∃ v' D, e = .returned v' ∧ OwnRow w' 1 v' xs D ∧ Upd w w' [] D
theorem oneS {xs : List Bs} : ∀ u ∈ xs.map sv, u.oneCell' = true := yl7'
set_option maxRecDepth 100000 in
set_option maxHeartbeats 1000000 in
theorem yd9' (v : Value) (b : List Bs) (E : List Nat) (w : World) (hb : ReadRow w 1 v (b.map sv) E) (hlen : b.length ≤ 1048576) :
  Calls Tryz.prog 183 #[v] w (NewS w (b.map sv)) := by
 obtain ⟨i0, hi0, hz0, hz1, hz2⟩ := info_parts yqm'
 obtain ⟨nb, hnb, hsrc⟩ := hb.src (P := Tryz.prog) (tx := 94) Tryz.underlying94 yl7'
 obtain rfl : b.length = nb := by simpa using hnb
 obtain ⟨a, n, c, rfl, hl, hn, hc, ha, hr⟩ := hb
 obtain rfl : b.length = n := by simpa using hl
 have hnil := fun (W : World) (a : Option Addr) (n c n' c' : Nat) => Lib.run_eql_slice_nil (P := Tryz.prog) W 94 9 a n c n' c' Tryz.underlying94
 cases a with
 | none =>
  obtain rfl : c = 0 := ha rfl
  have hb0 : b.length = 0 := by omega
  have H0 := Lib.hid (show b = [] by simpa using hb0)
  clear hl hn hnb hb0 hsrc hr
  go_enter Tryz.func183, Tryz.ntmps183
  go_wp2_with fail
  go_ret
  rw [H0.out]
  exact ⟨_, [], rfl, OwnRow.nil _ _, Upd.refl _ _⟩
 | some ad =>
  have HBD := Lib.hid (show ∀ n, ([] : List Value).length = n * 1 → n + b.length ≤ 140737488355328 ∧ (n + b.length) * i0.bytes ≤ 140737488355328 from fun n hn => by simp at hn; rw [hz2]; omega)
  have hread : ReadRow w 1 (.slice (some ad) b.length c) (b.map sv) E := ⟨_, _, _, rfl, hl, hn, hc, ha, hr⟩
  have HR := Lib.hid hread
  clear hread hr hl hnb
  go_enter Tryz.func183, Tryz.ntmps183
  obtain ⟨nb', hnb', hsrc'⟩ := (HR.out.frame ((Upd.alloc0 w (.cells #[] 9) []).same HR.out.lt (by simp))).src (P := Tryz.prog) (tx := 94) Tryz.underlying94 yl7'
  obtain rfl : b.length = nb' := by simpa using hnb'
  clear hsrc hnb'
  go_wp2_with (at_builtin; go_must (refine ybs' rfl _ _ 94 94 rfl 1 _ _ _ rfl (OwnRow.zero _ _ _) _ i0 _ Tryz.underlying94 hi0 hz0 hz1 rfl _ _ _ rfl hsrc' HBD.out ?_); intro a3 n3 c3' w4 D3 hown3 hu4)
  go_ret
  exact ⟨_, D3, rfl, by simpa using hown3, (Upd.alloc0 _ _ _).trans hu4⟩
set_option maxHeartbeats 1000000 in
theorem yo4' (v : Value) (l : List Bs) (D : List Nat) (w : World) (k : Nat) (x : Bs) (vb : Nat) (Tv : TypeId) (h : OwnRow w 1 v (l.map sv) D) (hk : k ≤ l.length) (hl : l.length ≤ 1000000) (hvb : w.heap[vb]? = some (.cells #[sv x] Tv (0, 0))) (hne : vb ∉ D) :
  Calls Tryz.prog 305 #[v, .int .i64 (k : Nat), .slice (some ⟨vb, 0, none⟩) 1 1] w fun e w' => ∃ v' D', e = .returned v' ∧ OwnRow w' 1 v' ((l.take k ++ x :: l.drop k).map sv) D' ∧ Upd w w' D D' := by
 obtain ⟨a, n, c, rfl, hln, hn, hc, ha, hr⟩ := h
 rw [List.length_map, Nat.mul_one] at hln
 subst hln
 have hvs : ∀ (j : Nat) v, [sv x][j]? = some v → w.cell? ⟨vb, 0 + j, none⟩ = some v := fun j v hj => by
  match j, hj with
  | 0, hj => cases hj; exact yaa' hvb 0 rfl
  | j + 1, hj => cases hj
 have h1v : ∀ v ∈ [sv x], v.oneCell' = true := by simp [sv, Value.oneCell']
 unfold maxLen at hc
 have hlen2 : ((l.take k ++ x :: l.drop k).map sv).length = l.length + 1 := by
  simp only [List.length_map, List.length_append, List.length_take, List.length_cons, List.length_drop]
  omega
 have hg0 := grownCap_ge w (l.length + 1) c 9
 have hg1 := grownCap_le_maxLen w (l.length + 1) c 9 (by unfold maxLen; omega)
 by_cases hkn : k = l.length
 ·have htk : (l.take k ++ x :: l.drop k).map sv = l.map sv ++ [sv x] := by
   rw [hkn, List.take_length, List.drop_length, List.map_append]
   rfl
  rw [htk] at hlen2 ⊢
  by_cases hroom : l.length + 1 ≤ c
  ·rcases hr with ⟨h0, -⟩ | ⟨g, off, cur, T, rfl, rfl, h3, h4, h5⟩
   ·omega
   ·have hbk : ∀ j, j < l.length → w.cell? ⟨g, off + j, none⟩ = (l.map sv)[j]? := fun j hj => by
     rw [cell_of_row w g _ cur T _ h3, ← h5, List.getElem?_take, if_pos (by omega), List.getElem?_drop, Array.getElem?_toList]
    have := Any2.slices_Insert_string_end_room Tryz.laysNm222 g off l.length c vb 0 1 1 [sv x] w (by omega) hroom (by omega) rfl (fun j hj => by
     obtain rfl : j = 0 := by omega
     rw [cell_of_row w g _ cur T _ h3]
     simp
     omega) (fun j _ => yae' h3 _) hvs h1v
    rw [hkn]
    refine this.mono ?_
    rintro e w' ⟨rfl, rfl⟩
    obtain ⟨cur', hb', hs'⟩ := ycj' (vs := [sv x]) (o := off + l.length) h3 (by simp; omega)
    refine ⟨_, [g], rfl, ydx' hb' (by omega) hlen2 hroom (by unfold maxLen; omega) (fun j hj => ?_), yb5' _ _ _ _⟩
    rw [hlen2] at hj
    by_cases hjl : j < l.length
    ·rw [World.cell?_setCells_out _ _ _ _ _ (fun _ _ => .inl (by show off + j < off + l.length; omega)), hbk j hjl, List.getElem_append_left (by simpa using hjl), List.getElem?_eq_getElem (by simpa using hjl)]
    ·obtain rfl : j = l.length := by omega
     have := World.cell?_setCells_in g [sv x] (off + l.length) w (fun i hi => by
      obtain rfl : i = 0 := by simpa using hi
      rw [cell_of_row w g _ cur T _ h3]
      simp
      omega) 0 (by simp)
     rw [Nat.add_zero] at this
     rw [this, List.getElem_append_right (by simp)]
     simp
  ·have := Any2.slices_Insert_string_end_grow Tryz.laysNm222 a l.length c vb 0 1 1 (l.map sv) [sv x] w (by omega) hn (by omega) (by omega) (by simp) rfl (fun h => by have := ha h; omega) (fun ad had j u hj => by
     rcases hr with ⟨h0, -⟩ | ⟨g, off, cur, T, h1, rfl, h3, h4, h5⟩
     ·have : l = [] := List.length_eq_zero_iff.1 (by omega)
      subst this
      cases hj
     ·rw [h1] at had
      cases had
      rw [Addr.add_lit, cell_of_row w g _ cur T _ h3]
      rw [← h5, List.getElem?_take] at hj
      split at hj
      ·rw [List.getElem?_drop, Array.getElem?_toList] at hj; exact hj
      ·cases hj) hvs h1v
   rw [hkn]
   refine this.mono ?_
   rintro e w' ⟨rfl, rfl⟩
   refine ⟨_, [w.heap.size], rfl, ?_, ?_⟩
   ·refine OwnRow.made w.drew 9 1 (l.length + 1) _ _ _ (by omega) hg0 hg1 ?_ ?_
    ·rw [Array.size_append, size_zeroCells]
     simp only [List.size_toArray]
     rw [hlen2, show (Value.string ⟨#[]⟩).cells.size = 1 from rfl]
     omega
    ·rw [Array.toList_append, List.take_append_of_le_length (by rw [hlen2]; omega)]
     exact List.take_of_length_le (by rw [hlen2]; omega)
   ·exact ((Upd.refl w []).drew.trans (Upd.alloc1 w.drew _ [])).mono (by simp) (fun b hb => .inl hb)
 ·rcases hr with ⟨h0, -⟩ | ⟨g, off, cur, T, rfl, rfl, h3, h4, h5⟩
  ·omega
  have hvg : vb ≠ g := fun e => hne (by simp [e])
  have hbk : ∀ j, j < l.length → w.cell? ⟨g, off + j, none⟩ = (l.map sv)[j]? := fun j hj => by
   rw [cell_of_row w g _ cur T _ h3, ← h5, List.getElem?_take, if_pos (by omega), List.getElem?_drop, Array.getElem?_toList]
  have hcs : ∀ (j : Nat) v, (l.map sv)[j]? = some v → w.cell? ⟨g, off + j, none⟩ = some v := fun j v hj => by
   have : j < l.length := by have := (List.getElem?_eq_some_iff.1 hj).1; simpa using this
   rw [hbk j this]; exact hj
  have hdl : ((l.map sv).drop k).length = l.length - k := by simp
  -- what stands at each place behind the call
  have hat : ∀ j (hj : j < ((l.take k ++ x :: l.drop k).map sv).length), ((l.take k ++ x :: l.drop k).map sv)[j] = if h : j < k then (l.map sv)[j]'(by simp; omega) else if h' : j = k then sv x else (l.map sv)[j - 1]'(by rw [hlen2] at hj; simp; omega) := fun j hj => by
   rw [hlen2] at hj
   simp only [List.getElem_map]
   split
   ·rename_i h
    rw [List.getElem_append_left (by simp; omega), List.getElem_take]
   ·rename_i h
    split
    ·rename_i h'
     subst h'
     rw [List.getElem_append_right (by rw [List.length_take]; omega)]
     simp only [List.length_take, Nat.min_eq_left (show j ≤ l.length by omega), Nat.sub_self, List.getElem_cons_zero]
    ·rename_i h'
     rw [List.getElem_append_right (by simp; omega)]
     simp only [List.length_take, Nat.min_eq_left (show k ≤ l.length by omega)]
     rw [List.getElem_cons]
     rw [dif_neg (by omega), List.getElem_drop]
     congr 2
     omega
  by_cases hroom : l.length + 1 ≤ c
  ·have hsz : ∀ o, o < c → (w.cell? ⟨g, off + o, none⟩).isSome = true := fun o ho => by
    rw [cell_of_row w g _ cur T _ h3]
    simp
    omega
   have := Any2.slices_Insert_string_shift Tryz.laysNm222 g off l.length c k vb 0 1 1 (l.map sv) [sv x] w (by omega) (by omega) hroom (by omega) hvg (by simp) rfl hcs (fun j hj => hsz j (by omega)) (fun j _ => yae' h3 _) hvs yl7' h1v Tv T 1 cur.size
    (by unfold World.shape?; rw [hvb]; rfl) (by unfold World.shape?; rw [h3]) (by omega) (yae' hvb 0) (yae' hvb 1)
   refine this.mono ?_
   rintro e w' ⟨rfl, rfl⟩
   have h3d : w.drew.heap[g]? = some (.cells cur T (0, 0)) := h3
   obtain ⟨cur1, hb1, hs1⟩ := ycj' (vs := (l.map sv).drop k) (o := off + (k + 1)) h3d (by rw [hdl]; omega)
   obtain ⟨cur2, hb2, hs2⟩ := ycj' (vs := [sv x]) (o := off + k) hb1 (by simp; omega)
   have hz1 : ∀ o, o < c → ((w.drew.setCells g (off + (k + 1)) ((l.map sv).drop k)).cell? ⟨g, off + o, none⟩).isSome = true := fun o ho => by
    rw [cell_of_row _ g _ cur1 T _ hb1]
    simp
    omega
   refine ⟨_, [g], rfl, ydx' hb2 (by omega) hlen2 hroom (by unfold maxLen; omega) (fun j hj => ?_), ((Upd.refl w [g]).drew.trans (yb5' _ _ _ _)).trans (yb5' _ _ _ _)⟩
   rw [hat j hj]
   rw [hlen2] at hj
   by_cases hjk : j < k
   ·rw [dif_pos hjk, World.cell?_setCells_out _ _ _ _ _ (fun _ _ => .inl (by show off + j < off + k; omega)), World.cell?_setCells_out _ _ _ _ _ (fun _ _ => .inl (by show off + j < off + (k + 1); omega))]
    refine (hbk j (by omega)).trans ?_
    rw [List.getElem?_eq_getElem (by simp; omega)]
   ·rw [dif_neg hjk]
    by_cases hje : j = k
    ·rw [dif_pos hje]
     subst hje
     have := World.cell?_setCells_in g [sv x] (off + j) (w.drew.setCells g (off + (j + 1)) ((l.map sv).drop j)) (fun i hi => by
      obtain rfl : i = 0 := by simpa using hi
      exact hz1 j (by omega)) 0 (by simp)
     rw [Nat.add_zero] at this
     exact this
    ·rw [dif_neg hje, World.cell?_setCells_out _ _ _ _ _ (fun _ _ => .inr (by show off + k + 1 ≤ off + j; omega))]
     have := World.cell?_setCells_in g ((l.map sv).drop k) (off + (k + 1)) w.drew (fun i hi => by
      rw [hdl] at hi
      have := hsz (k + 1 + i) (by omega)
      rw [← Nat.add_assoc] at this
      exact this) (j - (k + 1)) (by rw [hdl]; omega)
     rw [show off + (k + 1) + (j - (k + 1)) = off + j by omega] at this
     rw [this, List.getElem_drop]
     congr 2
     omega
  ·have := Any2.slices_Insert_string_grow Tryz.laysNm222 g off l.length c k vb 0 1 1 (l.map sv) [sv x] w (by omega) (by omega) hn (by omega) (by omega) (by simp) rfl hcs hvs yl7' h1v
   refine this.mono ?_
   rintro e w' ⟨rfl, rfl⟩
   obtain ⟨gc, hgc⟩ : ∃ gc, grownCap w (l.length + 1) c 9 = gc := ⟨_, rfl⟩
   rw [hgc] at hg0 hg1
   rw [show Tryz.laysNm222_ren.t 9 = 9 from rfl, hgc]
   obtain ⟨cur0, hcur0⟩ : ∃ cur0, cur0 = ((l.map sv).take k).toArray ++ Builtin.zeroCells (Value.string ⟨#[]⟩).cells (l.length + 1 - k) ++ Builtin.zeroCells (Value.string ⟨#[]⟩).cells (gc - (l.length + 1)) := ⟨_, rfl⟩
   have hz0 : cur0.size = gc := by
    rw [hcur0, Array.size_append, Array.size_append, size_zeroCells, size_zeroCells, show (Value.string ⟨#[]⟩).cells.size = 1 from rfl]
    simp only [List.size_toArray, List.length_take, List.length_map, Nat.min_eq_left (show k ≤ l.length by omega)]
    omega
   have hk0 : ∀ j (hj : j < k), cur0[j]? = (l.map sv)[j]? := fun j hj => by
    rw [hcur0, Array.append_assoc, Array.getElem?_append_left (by simp; omega)]
    rw [k_i, List.getElem?_take, if_pos hj]
   rw [← hcur0]
   have hb0 : (w.alloc (.cells cur0 9)).drew.heap[w.heap.size]? = some (.cells cur0 9 (0, 0)) := heap_alloc_new w _
   obtain ⟨cur1, hb1, hs1⟩ := ycj' (vs := [sv x]) (o := k) hb0 (by simp; omega)
   have hb1' : (((w.alloc (.cells cur0 9)).drew.setCells w.heap.size k [sv x]).drew).heap[w.heap.size]? = some (.cells cur1 9 (0, 0)) := hb1
   obtain ⟨cur2, hb2, hs2⟩ := ycj' (vs := (l.map sv).drop k) (o := k + 1) hb1' (by rw [hdl]; omega)
   refine ⟨_, [w.heap.size], rfl, ydx' hb2 (by omega) hlen2 hg0 hg1 (fun j hj => ?_), ?_⟩
   ·rw [hat j hj, Nat.zero_add]
    rw [hlen2] at hj
    by_cases hjk : j < k
    ·rw [dif_pos hjk, World.cell?_setCells_out _ _ _ _ _ (fun _ _ => .inl (by show j < k + 1; omega))]
     refine (World.cell?_setCells_out _ [sv x] k (w.alloc (.cells cur0 9)).drew _ (fun _ _ => .inl (by show j < k; omega))).trans ?_
     rw [cell_of_row _ _ _ cur0 _ _ hb0, hk0 j hjk, List.getElem?_eq_getElem (by simp; omega)]
    ·rw [dif_neg hjk]
     by_cases hje : j = k
     ·rw [dif_pos hje]
      subst hje
      rw [World.cell?_setCells_out _ _ _ _ _ (fun _ _ => .inl (by show j < j + 1; omega))]
      have := World.cell?_setCells_in w.heap.size [sv x] j (w.alloc (.cells cur0 9)).drew (fun i hi => by
       obtain rfl : i = 0 := by simpa using hi
       rw [cell_of_row _ _ _ cur0 _ _ hb0]
       simp
       omega) 0 (by simp)
      exact this
     ·rw [dif_neg hje]
      have := World.cell?_setCells_in w.heap.size ((l.map sv).drop k) (k + 1) (((w.alloc (.cells cur0 9)).drew.setCells w.heap.size k [sv x]).drew) (fun i hi => by
       rw [hdl] at hi
       rw [cell_of_row _ _ _ cur1 _ _ hb1']
       simp
       omega) (j - (k + 1)) (by rw [hdl]; omega)
      rw [show k + 1 + (j - (k + 1)) = j by omega] at this
      rw [this, List.getElem_drop]
      congr 2
      omega
   ·refine (((((Upd.alloc1 w (.cells cur0 9) []).drew).trans (yb5' _ _ _ _)).drew).trans (yb5' _ _ _ _)).mono (by simp) (fun b hb => .inl hb)
set_option maxHeartbeats 1000000 in
theorem yox' (v : Value) (l : List Bs) (D : List Nat) (w : World) (k : Nat) (h : OwnRow w 1 v (l.map sv) D) (hk : k < l.length) (hl : l.length ≤ 1000000) :
  Calls Tryz.prog 228 #[v, .int .i64 (k : Nat), .int .i64 (k + 1 : Nat)] w fun e w' => ∃ v' D', e = .returned v' ∧ OwnRow w' 1 v' ((l.take k ++ l.drop (k + 1)).map sv) D' ∧ Upd w w' D D' := by
 obtain ⟨a, n, c, rfl, hln, hn, hc, ha, hr⟩ := h
 rw [List.length_map, Nat.mul_one] at hln
 subst hln
 unfold maxLen at hc
 rcases hr with ⟨h0, -⟩ | ⟨g, off, cur, T, rfl, rfl, h3, h4, h5⟩
 ·omega
 have hbk : ∀ j (hj : j < l.length), w.cell? ⟨g, off + j, none⟩ = some (.string ((fun j => (⟨(l.getD j []).toArray⟩ : ByteArray)) j)) := fun j hj => by
  have : w.cell? ⟨g, off + j, none⟩ = (l.map sv)[j]? := by
   rw [cell_of_row w g _ cur T _ h3, ← h5, List.getElem?_take, if_pos (by omega), List.getElem?_drop, Array.getElem?_toList]
  rw [this, List.getElem?_map, List.getElem?_eq_getElem hj]
  simp [sv, List.getD, List.getElem?_eq_getElem hj]
 refine (Tryz.slices_Delete_string_cells g off l.length c k (k + 1) _ w hn (by omega) (by omega) (by omega) hbk (fun j _ => yae' h3 _)).mono ?_
 rintro e w' ⟨rfl, q, rfl⟩
 have hso : Lib.strsOf (fun j => (⟨(l.getD j []).toArray⟩ : ByteArray)) l.length = l := by
  unfold Lib.strsOf
  apply List.ext_getElem
  ·simp
  ·intro j h1 h2
   simp [List.getD, List.getElem?_eq_getElem h2]
 rw [hso]
 obtain ⟨vs, hvs⟩ : ∃ vs, (l.take k ++ l.drop (k + 1) ++ List.replicate (k + 1 - k) []).map encStr = vs := ⟨_, rfl⟩
 have hvl : vs.length = l.length := by
  rw [← hvs]
  simp only [List.length_map, List.length_append, List.length_take, List.length_drop, List.length_replicate]
  omega
 have hcl : ((l.take k ++ l.drop (k + 1)).map sv).length = l.length - 1 := by
  simp only [List.length_map, List.length_append, List.length_take, List.length_drop]
  omega
 rw [hvs, show l.length - (k + 1 - k) = l.length - 1 by omega]
 have h3d : (w.drewN q).heap[g]? = some (.cells cur T (0, 0)) := h3
 obtain ⟨cur1, hb1, hs1⟩ := ycj' (vs := vs) (o := off) h3d (by omega)
 refine ⟨_, [g], rfl, ydx' hb1 (by omega) hcl (by omega) (by unfold maxLen; omega) (fun j hj => ?_), ((Upd.refl w [g]).drewN q).trans (yb5' _ _ _ _)⟩
 have := World.cell?_setCells_in g vs off (w.drewN q) (fun i hi => by
  rw [cell_of_row _ g _ cur T _ h3d]
  simp
  omega) j (by omega)
 rw [this]
 congr 1
 simp only [← hvs]
 rw [List.getElem_map, List.getElem_map, List.getElem_append_left (by rw [hcl] at hj; simp only [List.length_append, List.length_take, List.length_drop]; omega)]
 rfl
end Go.Proofs.YtcnkifbjlihaoaaGreatDoor

namespace Go.Av
open Go.RowKit
structure OpS where
 kind : Int
 path : ByteArray
 data : ByteArray
 ver : Int
 flags : Int
def OpS.cells (o : OpS) : List Value := [.int .i64 o.kind, .string o.path, .string o.data, .int .i64 o.ver, .int .i64 o.flags]
def OpS.val (o : OpS) : Value := .agg #[.int .i64 o.kind, .string o.path, .string o.data, .int .i64 o.ver, .int .i64 o.flags]
def OpS.p (o : OpS) : Bs := o.path.data.toList
def seqF (f : Int) : Bool := f == 2 || f == 3
def yc9' (o : OpS) : Bool := decide (1 ≤ o.kind) && (decide (o.kind ≤ 7) && (ya4' o.p && (decide (-1 ≤ o.ver) && (decide (0 ≤ o.flags) && decide (o.flags ≤ 3)))))
def ysq' (k : Int) : Bool := k == 2 || (k == 3 || k == 4)
def ownS (o : OpS) : Bool := (o.data.toList == [] || (o.kind == 1 || o.kind == 3)) && ((o.ver == 0 || ysq' o.kind) && (o.flags == 0 || o.kind == 1))
def numS (o : OpS) : Bool := !seqF o.flags || (decide (1 < (yaz' o.p).length) && (yba' o.p 0).isSome)
def ybk' (o : OpS) : Int := if yc9' o = false then 1 else if 1000 < o.data.size then 2 else if ownS o = false ∨ numS o = false then 1 else 0
end Go.Av
namespace Go.Proofs.YtcnkifbjlihaoaaGreatDoor
open Go.RowKit Go.Av
set_option maxRecDepth 100000 in
theorem yko' (k : Int) (w : World) : Calls Tryz.prog 208 #[.int .i64 k] w fun e w' => e = .returned (.bool (ysq' k)) ∧ w' = w := by
 unfold ysq'
 obtain ⟨k2, h2⟩ : ∃ z, (k == 2) = z := ⟨_, rfl⟩
 obtain ⟨k3, h3⟩ : ∃ z, (k == 3) = z := ⟨_, rfl⟩
 obtain ⟨k4, h4⟩ : ∃ z, (k == 4) = z := ⟨_, rfl⟩
 rw [h2, h3, h4]
 cases k2 <;> cases k3
 all_goals
  go_enter Tryz.func208, Tryz.ntmps208
  go_wp2_with fail
  go_ret
  exact ⟨rfl, rfl⟩
set_option maxRecDepth 100000 in
set_option maxHeartbeats 2000000 in
theorem yxb' (o : OpS) (w : World) : Calls Tryz.prog 176 #[o.val] w fun e w' => e = .returned (.bool (ownS o)) ∧ Upd w w' [] [] := by
 obtain ⟨kind, path, data, ver, flags⟩ := o
 unfold ownS OpS.val
 dsimp only
 have HV := Lib.hid (yko' kind)
 obtain ⟨de, h1⟩ : ∃ z, (data.toList == []) = z := ⟨_, rfl⟩
 obtain ⟨k1, h2⟩ : ∃ z, (kind == 1) = z := ⟨_, rfl⟩
 obtain ⟨k3, h3⟩ : ∃ z, (kind == 3) = z := ⟨_, rfl⟩
 obtain ⟨v0, h4⟩ : ∃ z, (ver == 0) = z := ⟨_, rfl⟩
 obtain ⟨vs, h5⟩ : ∃ z, ysq' kind = z := ⟨_, rfl⟩
 obtain ⟨f0, h6⟩ : ∃ z, (flags == 0) = z := ⟨_, rfl⟩
 rw [h1, h2, h3, h4, h5, h6]
 rw [h5] at HV
 clear h5
 go_enter Tryz.func176, Tryz.ntmps176
 go_wp2_with (go_at_call 208; refine (HV.out _).mono ?_; rintro e w1 ⟨rfl, hw1⟩; subst hw1)
 all_goals
  go_ret
  refine ⟨?_, Upd.alloc0 _ _ _⟩
  first | rfl | (simp; done) | (cases de <;> cases k1 <;> cases k3 <;> cases v0 <;> cases vs <;> cases f0 <;> first | rfl | (simp at *; done))
theorem ym6' {f : Int} (h0 : 0 ≤ f) (h3 : f ≤ 3) : (bits .and .i64 f 2 == 0) = !seqF f := by
 rcases (show f = 0 ∨ f = 1 ∨ f = 2 ∨ f = 3 by omega) with rfl | rfl | rfl | rfl <;> decide
set_option maxRecDepth 100000 in
set_option maxHeartbeats 2000000 in
theorem ylo' (o : OpS) (w : World) (hd : DoorN w) (hp : o.path.size ≤ 100000) (h0 : 0 ≤ o.flags) (h3 : o.flags ≤ 3) : Calls Tryz.prog 177 #[o.val] w fun e w' => e = .returned (.bool (numS o)) ∧ Upd w w' [] [] := by
 obtain ⟨kind, path, data, ver, flags⟩ := o
 unfold numS OpS.val OpS.p
 dsimp only at hp h0 h3 ⊢
 have hb := ym6' h0 h3
 obtain ⟨sq, hsq⟩ : ∃ z, (!seqF flags) = z := ⟨_, rfl⟩
 have hu0 : Upd w (w.alloc (.cells #[.int .i64 kind, .string path, .string data, .int .i64 ver, .int .i64 flags] 89)) [] [] := Upd.alloc0 _ _ _
 have HN := Lib.hid (yi2' path 0 _ (hd.upd hu0) hp (by omega) (by omega))
 have HP := Lib.hid (fun w hd => yh4' path w hd (by unfold maxLen; omega))
 have HD := Lib.hid hd
 have HU0 := Lib.hid hu0
 rw [hsq] at hb ⊢
 obtain ⟨po, hpo⟩ : ∃ z, yba' path.data.toList 0 = z := ⟨_, rfl⟩
 obtain ⟨ps, hps⟩ : ∃ z, yaz' path.data.toList = z := ⟨_, rfl⟩
 rw [hpo] at HN ⊢
 rw [hps] at HP ⊢
 obtain ⟨z, hz⟩ : ∃ z, decide (1 < ps.length) = z := ⟨_, rfl⟩
 obtain ⟨po1, hpo1⟩ : ∃ z, po.isSome = z := ⟨_, rfl⟩
 rw [hz, hpo1]
 have HZ := Lib.hid hz
 have HE := Lib.hid (show (errO po 1 == 0) = po1 by rw [← hpo1]; cases po <;> rfl)
 clear hsq hd hu0 hpo hps hz hpo1
 go_enter Tryz.func177, Tryz.ntmps177
 cases sq with
 | true =>
  clear HN HP
  go_wp2_with fail
  go_ret
  exact ⟨rfl, HU0.out⟩
 | false =>
  go_wp2_with fail
  refine HN.out.mono ?_
  rintro e w1 ⟨rfl, hu1⟩
  have HU1 := Lib.hid (HU0.out.trans hu1)
  have hc : ∀ {i : Nat} {v : Value}, (#[Value.int .i64 kind, .string path, .string data, .int .i64 ver, .int .i64 flags] : Array Value)[i]? = some v → w1.cell? ⟨w.heap.size, i, none⟩ = some v := fun {i v} hi => ya2' hu1 (yaa' (heap_alloc_new w _) i hi)
  have c1 := hc (i := 1) rfl
  clear hu1 HN hc
  go_wp2_with fail
  refine (HP.out w1 ((HD.out.upd HU1.out).1)).mono ?_
  rintro e w2 ⟨v, D, rfl, ho, hu⟩
  obtain ⟨a, n, c, rfl, hl, hn, hc, -⟩ := id ho
  rw [List.length_map, Nat.mul_one] at hl
  subst hl
  have HU := Lib.hid (HU1.out.trans (hu.mono (fun _ h => h) (fun b hb => by cases hb) : Upd w1 w2 [] []))
  have h1 : decide (1 < (ps.length : Int)) = z := by rw [← HZ.out]; exact decide_eq_decide.2 (by omega)
  have he := HE.out
  clear ho hu c1
  cases z
  all_goals
   go_wp2_with fail
   go_ret
   exact ⟨rfl, HU.out⟩
set_option maxRecDepth 100000 in
set_option maxHeartbeats 2000000 in
theorem yo0' (o : OpS) (w : World) (hd : DoorN w) (hp : o.path.size ≤ 100000) : Calls Tryz.prog 175 #[o.val] w fun e w' => e = .returned (.bool (yc9' o)) ∧ Upd w w' [] [] := by
 obtain ⟨kind, path, data, ver, flags⟩ := o
 unfold yc9' OpS.val OpS.p
 dsimp only at hp ⊢
 have hu0 : Upd w (w.alloc (.cells #[.int .i64 kind, .string path, .string data, .int .i64 ver, .int .i64 flags] 89)) [] [] := Upd.alloc0 _ _ _
 have HG := Lib.hid (yfv' path _ (hd.upd hu0).1 (by unfold maxLen; omega))
 have HU0 := Lib.hid hu0
 obtain ⟨b1, h1⟩ : ∃ z, decide (1 ≤ kind) = z := ⟨_, rfl⟩
 obtain ⟨b2, h2⟩ : ∃ z, decide (kind ≤ 7) = z := ⟨_, rfl⟩
 obtain ⟨b3, h3⟩ : ∃ z, ya4' path.data.toList = z := ⟨_, rfl⟩
 obtain ⟨b4, h4⟩ : ∃ z, decide (-1 ≤ ver) = z := ⟨_, rfl⟩
 obtain ⟨b5, h5⟩ : ∃ z, decide (0 ≤ flags) = z := ⟨_, rfl⟩
 obtain ⟨b6, h6⟩ : ∃ z, decide (flags ≤ 3) = z := ⟨_, rfl⟩
 rw [h1, h2, h3, h4, h5, h6]
 rw [h3] at HG
 clear h3 hu0 hd
 go_enter Tryz.func175, Tryz.ntmps175
 go_wp2_with (go_at_call 180; refine HG.out.mono ?_; rintro e w1 ⟨rfl, hu1⟩; have c3 := ya2' hu1 (yaa' (heap_alloc_new w _) 3 (v := .int .i64 ver) rfl); have c4 := ya2' hu1 (yaa' (heap_alloc_new w _) 4 (v := .int .i64 flags) rfl); have HU := Lib.hid (HU0.out.trans hu1); clear hu1)
 all_goals
  go_ret
  refine ⟨?_, by first | exact HU.out | exact HU0.out⟩
  first | rfl | (simp; done) | (cases b1 <;> cases b2 <;> cases b3 <;> cases b4 <;> cases b5 <;> cases b6 <;> first | rfl | (simp at *; done))
def OpAt (w : World) (b : Nat) (o : OpS) : Prop := w.cell? ⟨b, 0, none⟩ = some (.int .i64 o.kind) ∧ w.cell? ⟨b, 1, none⟩ = some (.string o.path) ∧ w.cell? ⟨b, 2, none⟩ = some (.string o.data) ∧ w.cell? ⟨b, 3, none⟩ = some (.int .i64 o.ver) ∧ w.cell? ⟨b, 4, none⟩ = some (.int .i64 o.flags)
theorem yfz' (w : World) (o : OpS) {w' : World} {D' : List Nat} (hu : Upd (w.alloc (.cells #[.int .i64 o.kind, .string o.path, .string o.data, .int .i64 o.ver, .int .i64 o.flags] 89)) w' [] D') : OpAt w' w.heap.size o :=
 have h := heap_alloc_new w (.cells #[.int .i64 o.kind, .string o.path, .string o.data, .int .i64 o.ver, .int .i64 o.flags] 89)
 ⟨ya2' hu (yaa' h 0 rfl), ya2' hu (yaa' h 1 rfl), ya2' hu (yaa' h 2 rfl), ya2' hu (yaa' h 3 rfl), ya2' hu (yaa' h 4 rfl)⟩
theorem yet' {o : OpS} (h : yc9' o = true) : 0 ≤ o.flags ∧ o.flags ≤ 3 := by
 unfold yc9' at h
 simp only [Bool.and_eq_true, decide_eq_true_eq] at h
 exact h.2.2.2.2
set_option maxRecDepth 100000 in
set_option maxHeartbeats 2000000 in
theorem yi3' (o : OpS) (w : World) (hd : DoorN w) (hp : o.path.size ≤ 100000) : Calls Tryz.prog 136 #[o.val] w fun e w' => e = .returned (.int .i64 (ybk' o)) ∧ Upd w w' [] [] := by
 have HF := Lib.hid (fun w hd => yo0' o w hd hp)
 have HO := Lib.hid (yxb' o)
 have HN := Lib.hid (fun w hd h => ylo' o w hd hp (yet' h).1 (yet' h).2)
 have hu0 : Upd w (w.alloc (.cells #[.int .i64 o.kind, .string o.path, .string o.data, .int .i64 o.ver, .int .i64 o.flags] 89)) [] [] := Upd.alloc0 _ _ _
 have HD := Lib.hid (show ∀ w' : World, Upd w w' [] [] → DoorN w' from fun w' hu => hd.upd hu)
 have HA := Lib.hid (show ∀ w' : World, Upd (w.alloc (.cells #[.int .i64 o.kind, .string o.path, .string o.data, .int .i64 o.ver, .int .i64 o.flags] 89)) w' [] [] → OpAt w' w.heap.size o from fun w' hu => yfz' w o hu)
 obtain ⟨g, hg⟩ : ∃ g, ybk' o = g := ⟨_, rfl⟩
 have HG := Lib.hid hg
 unfold ybk' at HG
 obtain ⟨fo, h1⟩ : ∃ z, yc9' o = z := ⟨_, rfl⟩
 obtain ⟨ow, h2⟩ : ∃ z, ownS o = z := ⟨_, rfl⟩
 obtain ⟨nu, h3⟩ : ∃ z, numS o = z := ⟨_, rfl⟩
 rw [hg]
 rw [h1] at HG HF HN
 rw [h2] at HG HO
 rw [h3] at HG HN
 obtain ⟨kind, path, data, ver, flags⟩ := o
 unfold OpS.val at HF HO HN ⊢
 dsimp only at HF HO HN HG HA hu0 ⊢
 unfold OpAt at HA
 dsimp only at HA
 have HU0 := Lib.hid hu0
 clear hg h1 h2 h3 hp hd hu0
 go_enter Tryz.func136, Tryz.ntmps136
 go_wp2_with fail
 refine (HF.out _ (HD.out _ HU0.out)).mono ?_
 rintro e w1 ⟨rfl, hu1⟩
 obtain ⟨c0, c1, c2, c3, c4⟩ := HA.out _ hu1
 have HU1 := Lib.hid hu1
 clear hu1 HF
 cases fo with
 | false =>
  have HE := Lib.hid (show g = 1 by rw [← HG.out]; rfl)
  clear HG HN HO
  go_wp2_with fail
  go_ret
  rw [HE.out]
  exact ⟨rfl, HU0.out.trans HU1.out⟩
 | true =>
 by_cases hl : 1000 < data.size
 ·have HE := Lib.hid (show g = 2 by have := HG.out; rw [if_neg (by decide), if_pos hl] at this; exact this.symm)
  have hl2 : decide (1000 < (data.size : Int)) = true := decide_eq_true (by omega)
  clear HG HN HO
  go_wp2_with fail
  go_ret
  rw [HE.out]
  exact ⟨rfl, HU0.out.trans HU1.out⟩
 have hl2 : decide (1000 < (data.size : Int)) = false := decide_eq_false (by omega)
 have HG2 := Lib.hid (show (if ow = false ∨ nu = false then 1 else 0) = g by have := HG.out; rw [if_neg (by decide), if_neg hl] at this; exact this)
 clear HG hl
 go_wp2_with fail
 refine (HO.out _).mono ?_
 rintro e w2 ⟨rfl, hu2⟩
 obtain ⟨c0, c1, c2, c3, c4⟩ := HA.out _ (HU1.out.trans hu2)
 have HU2 := Lib.hid (HU1.out.trans hu2)
 clear hu2 HO
 cases ow with
 | false =>
  have HE := Lib.hid (show g = 1 by rw [← HG2.out]; rfl)
  clear HG2 HN
  go_wp2_with fail
  go_ret
  rw [HE.out]
  exact ⟨rfl, HU0.out.trans HU2.out⟩
 | true =>
 go_wp2_with fail
 refine (HN.out _ (HD.out _ (HU0.out.trans HU2.out)) trivial).mono ?_
 rintro e w3 ⟨rfl, hu3⟩
 have HU3 := Lib.hid (HU2.out.trans hu3)
 clear hu3 HN
 have HE := Lib.hid (show g = if nu = false then 1 else 0 by rw [← HG2.out]; cases nu <;> simp)
 clear HG2
 cases nu
 all_goals
  go_wp2_with fail
  go_ret
  rw [HE.out]
  exact ⟨rfl, HU0.out.trans HU3.out⟩
end Go.Proofs.YtcnkifbjlihaoaaGreatDoor

namespace Go.Av
open Go.RowKit
structure NodeS where
 made : Int
 changed : Int
 ver : Int
 kids : Int
 owner : Int
 data : ByteArray
 next : Int
 names : List Bs
def yek' (n : Int) : Int := if 2147483647 ≤ n then n else n + 1
def newS (zxid owner : Int) (data : ByteArray) : NodeS := ⟨zxid, zxid, 0, 0, owner, data, 0, []⟩
def ycr' (n : NodeS) (zxid : Int) (data : ByteArray) : NodeS := { n with data := data, changed := zxid, ver := yek' n.ver }
def addS (n : NodeS) (s : Bs) : NodeS := if hasS n.names s then n else { n with names := insS n.names s, kids := yek' n.kids, next := yek' n.next }
def remS (n : NodeS) (s : Bs) : NodeS := if hasS n.names s then { n with names := delS n.names s, kids := yek' n.kids } else n
def NodeS.cells (n : NodeS) (nv : Value) : Array Value := #[.int .i64 n.made, .int .i64 n.changed, .int .i64 n.ver, .int .i64 n.kids, .int .i64 n.owner, .int .i64 (n.data.size : Nat), .int .i64 (n.names.length : Nat), .string n.data, .int .i64 n.next, nv]
def NodeS.val (n : NodeS) (nv : Value) : Value := .agg (n.cells nv)
theorem Sep.oneS {w w' : World} {v : Value} {xs : List Value} {size : Nat} {rows : List (Value × Bs)} (h : Sep w w' [ybc' size v xs] rows) : ∃ D, OwnRow w' size v xs D ∧ Upd w w' [] D := by
 obtain ⟨D, hl, hu, -⟩ := h
 cases hl with
 | @cons _ D _ E h1 h2 h3 =>
  cases h3 with
  | nil => exact ⟨D, h1, by simpa using hu⟩
structure NodeOk (n : NodeS) : Prop where
 ver : 0 ≤ n.ver ∧ n.ver ≤ 2147483647
 kids : 0 ≤ n.kids ∧ n.kids ≤ 2147483647
 next : 0 ≤ n.next ∧ n.next ≤ 2147483647
 rise : yg5' n.names
 few : n.names.length ≤ 100000
 data : n.data.size ≤ 100000
theorem yj8' {n : Int} (h : 0 ≤ n ∧ n ≤ 2147483647) : 0 ≤ yek' n ∧ yek' n ≤ 2147483647 := by unfold yek'; split <;> omega
end Go.Av
namespace Go.Proofs.YtcnkifbjlihaoaaGreatDoor
open Go.RowKit Go.Av
set_option maxRecDepth 100000 in
theorem yhc' (n : Int) (w : World) (h : -9223372036854775808 ≤ n) : Calls Tryz.prog 229 #[.int .i64 n] w fun e w' => e = .returned (.int .i64 (yek' n)) ∧ w' = w := by
 unfold yek'
 by_cases h1 : 2147483647 ≤ n
 ·rw [if_pos h1]
  go_enter Tryz.func229, Tryz.ntmps229
  go_wp2_with fail
  go_ret
  exact ⟨rfl, rfl⟩
 ·rw [if_neg h1]
  have q1 : decide (2147483647 ≤ n) = false := decide_eq_false h1
  go_enter Tryz.func229, Tryz.ntmps229
  go_wp2_with fail
  go_ret
  exact ⟨by first | rfl | go_num, rfl⟩
set_option maxRecDepth 100000 in
theorem yif' (zxid owner : Int) (data : ByteArray) (w : World) (hd : data.size ≤ 100000) : Calls Tryz.prog 261 #[.int .i64 zxid, .int .i64 owner, .string data] w fun e w' => e = .returned ((newS zxid owner data).val (.slice none 0 0)) ∧ Upd w w' [] [] := by
 go_enter Tryz.func261, Tryz.ntmps261
 go_wp2_with fail
 refine bodyPost_ret (ycg' rfl _ rfl (heap_alloc_new w _) Tryz.underlying172 (by kernel_rfl)) rfl ?_
 exact ⟨rfl, Upd.alloc0 _ _ _⟩
set_option maxRecDepth 100000 in
theorem yjv' (x : Nat) (n : NodeS) (nv : Value) (w : World) (h : w.heap[x]? = some (.cells (n.cells nv) 172 (0, 0))) : Calls Tryz.prog 291 #[.pointer (some ⟨x, 0, none⟩)] w fun e w' => e = .returned (.bool (n.owner != 0)) ∧ w' = w := by
 have c4 := yaa' h 4 (v := .int .i64 n.owner) rfl
 clear h
 go_enter Tryz.func291, Tryz.ntmps291
 go_wp2_with fail
 go_ret
 exact ⟨rfl, rfl⟩
section
variable {w0 w : World} {x : Nat} {n : NodeS} {nv : Value} {P : List PRow} {R : List Thing} {rows : List (Value × Bs)}
set_option maxRecDepth 100000 in
theorem ysx' (h : Sep w0 w (yac' x (.cells (n.cells nv) 172 (0, 0)) :: R) rows) (zxid : Int) (data : ByteArray) (hv : 0 ≤ n.ver) (hd : data.size ≤ 100000) :
  Calls Tryz.prog 264 #[.pointer (some ⟨x, 0, none⟩), .int .i64 zxid, .string data] w fun e w' => e = .returned (.tuple #[]) ∧ Sep w0 w' (yac' x (.cells ((ycr' n zxid data).cells nv) 172 (0, 0)) :: R) rows := by
 have hm := yhc' n.ver
 have hb := h.blk
 have c1 := yaa' hb 1 (v := .int .i64 n.changed) rfl
 have c2 := yaa' hb 2 (v := .int .i64 n.ver) rfl
 have c5 := yaa' hb 5 (v := .int .i64 (n.data.size : Nat)) rfl
 have c7 := yaa' hb 7 (v := .string n.data) rfl
 have f1 := yae' hb 1
 have f2 := yae' hb 2
 have f5 := yae' hb 5
 have f7 := yae' hb 7
 have HS := Lib.hid ((((h.set 7 (.string data)).set 1 (.int .i64 zxid)).set 5 (.int .i64 (data.size : Nat))).set 2 (.int .i64 (yek' n.ver)))
 have HM := Lib.hid (fun w => hm w (by omega))
 obtain ⟨made, changed, ver, kids, owner, dat, next, names⟩ := n
 dsimp only at *
 clear h hm hb
 go_enter Tryz.func264, Tryz.ntmps264
 go_wp2_with fail
 refine (HM.out _).mono ?_
 rintro e w1 ⟨rfl, rfl⟩
 go_wp2_with fail
 go_end0
 exact ⟨rfl, HS.out⟩
def ynj' (w0 : World) (x : Nat) (n : NodeS) (P : List PRow) (R : List Thing) (rows : List (Value × Bs)) (b : Bool) (e : Ending) (w' : World) : Prop :=
 e = .returned (.bool b) ∧ ∃ nv P', (∀ r ∈ P, r ∈ P') ∧ (1, nv, n.names.map sv) ∈ P' ∧ Sep w0 w' (yac' x (.cells (n.cells nv) 172 (0, 0)) :: yab' w0 P' :: R) rows
set_option maxRecDepth 100000 in
set_option maxHeartbeats 1000000 in
theorem yv6' (h : Sep w0 w (yac' x (.cells (n.cells nv) 172 (0, 0)) :: yab' w0 P :: R) rows) (s : ByteArray) (hok : NodeOk n) (hnv : (1, nv, n.names.map sv) ∈ P) :
  Calls Tryz.prog 292 #[.pointer (some ⟨x, 0, none⟩), .string s] w (ynj' w0 x (addS n s.data.toList) P R rows (!hasS n.names s.data.toList)) := by
 have hb := h.blk
 obtain ⟨E, hE⟩ := (h.perm (List.Perm.swap _ _ _)).poolGet hnv
 have c9 := yaa' hb 9 (v := nv) rfl
 obtain ⟨na, nn, nc, rfl, -⟩ := id hE
 have HSE := Lib.hid (yjd' _ _ E w s hE hok.rise (by have := hok.few; omega))
 have HCL := Lib.hid (fun w' (hu : Upd w w' [] []) => yd9' _ n.names E w' (hE.frame (hu.same hE.lt (by simp))) (by have := hok.few; omega))
 have H := Lib.hid h
 have HOK := Lib.hid hok
 have HNV := Lib.hid hnv
 clear h hb hE hok hnv
 go_enter Tryz.func292, Tryz.ntmps292
 go_wp2_with fail
 refine HSE.out.mono ?_
 rintro e w1 ⟨rfl, hu1⟩
 have HU1 := Lib.hid hu1
 have H1 := Lib.hid (H.out.keep hu1)
 have c9 := yaa' (H.out.keep hu1).blk 9 (v := .slice na nn nc) rfl
 clear hu1 H HSE
 have hpl := yf2' n.names s.data.toList
 cases hh : hasS n.names s.data.toList with
 | true =>
  have HN := Lib.hid (show addS n s.data.toList = n by unfold addS; rw [if_pos hh])
  have HB := Lib.hid hh
  clear hh HCL
  go_wp2_with fail
  go_ret
  rw [HN.out, HB.out]
  exact ⟨rfl, _, P, fun _ h => h, HNV.out, H1.out⟩
 | false =>
 have HN := Lib.hid (show addS n s.data.toList = { n with names := insS n.names s.data.toList, kids := yek' n.kids, next := yek' n.next } by unfold addS; rw [if_neg (by rw [hh]; decide)])
 have HB := Lib.hid hh
 clear hh
 go_wp2_with fail
 refine (HCL.out w1 HU1.out).mono ?_
 rintro e w2 ⟨v2, D2, rfl, ho2, hu2⟩
 obtain ⟨a2, n2, k2, rfl, -⟩ := id ho2
 have hu3 := hu2.trans (Upd.alloc0 w2 (.cells #[.string s] 9) D2)
 have hin := yo4' _ n.names D2 (w2.alloc (.cells #[.string s] 9)) (ya7' n.names s.data.toList) s.data.toList w2.heap.size 9 (ho2.frame ((Upd.alloc0 w2 _ []).same ho2.lt (by simp))) hpl (by have := HOK.out.few; omega) (heap_alloc_new w2 _) (fun hb => by have := ho2.lt _ hb; omega)
 have HIN := Lib.hid hin
 have HU3 := Lib.hid hu3
 have c9' := ya2' (hu3.mono (fun _ h => h) (fun b hb => (hu3.new b hb).elim (fun h => by cases h) (fun _ => .inl hb)) : Upd w1 _ [] D2) c9
 clear ho2 hu2 hu3 hin HCL c9 hpl
 go_wp2_with fail
 refine HIN.out.mono ?_
 rintro e w3 ⟨v3, D3, rfl, ho3, hu3⟩
 have hS := (H1.out.addRow ho3 (HU3.out.trans hu3)).perm (List.Perm.swap _ _ _)
 have hS2 : Sep w0 w3 (yac' x (.cells (n.cells (.slice na nn nc)) 172 (0, 0)) :: yab' w0 ((1, v3, (insS n.names s.data.toList).map sv) :: P) :: R) rows :=
  ((hS.perm (List.Perm.swap _ _ _ |>.trans ((List.Perm.swap _ _ _).cons _))).poolRow).perm (List.Perm.swap _ _ _)
 obtain ⟨a3, n3, k3, rfl, hl3⟩ := ho3.len
 rw [List.length_map, Nat.mul_one] at hl3
 have hb3 := hS2.blk
 have d9 := yaa' hb3 9 (v := .slice na nn nc) rfl
 have d6 := yaa' hb3 6 (v := .int .i64 (n.names.length : Nat)) rfl
 have f9 := yae' hb3 9
 have f6 := yae' hb3 6
 have hs6 := (hS2.set 9 (.slice a3 n3 k3)).set 6 (.int .i64 (n3 : Nat))
 have HS6 := Lib.hid hs6
 have hb6 := hs6.drew.blk
 have HB6 := Lib.hid hb6
 have HL3 := Lib.hid hl3
 have HM1 := Lib.hid (fun w => yhc' n.kids w (by have := HOK.out.kids; omega))
 have HM2 := Lib.hid (fun w => yhc' n.next w (by have := HOK.out.next; omega))
 clear ho3 hu3 hS hS2 hb3 hs6 hb6 HIN HU3 c9' hl3
 go_wp2_with fail
 obtain ⟨w6, hw6⟩ : ∃ z, z = (w3.setCell ⟨x, 9, none⟩ (.slice a3 n3 k3)).setCell ⟨x, 6, none⟩ (.int .i64 (n3 : Nat)) := ⟨_, rfl⟩
 rw [← hw6] at HS6 HB6 ⊢
 clear hw6 d9 d6 f9 f6
 have e3 := yaa' HB6.out 3 (v := .int .i64 n.kids) rfl
 have e8 := yaa' HB6.out 8 (v := .int .i64 n.next) rfl
 refine yan' (fun W => W.cell? ⟨x, 3, none⟩ = some (.int .i64 n.kids) ∧ W.cell? ⟨x, 8, none⟩ = some (.int .i64 n.next)) 13 (by kernel_rfl) ?_
 refine rT [(0, false), (1, false), (2, false), (3, false), (4, false), (5, false), (6, true), (8, false), (9, false), (10, false), (11, true)] 9 ?_
 apply Exists.intro; refine ⟨?_, ⟨e3, e8⟩, ?_⟩
 ·iterate 11 ((first | (apply ybm'; (· (simp only [k_i, k_j, k_k]; try rfl)); (· rfl)) | ((first | apply yav' | apply yas'); (· (simp only [k_i, k_j, k_k]; try rfl)); (· rfl); (· (intros; go_simp; try with_reducible rfl)))); (· (simp only [Act.put, k_a, k_b, k_c]; try rfl)))
  exact rfl
 refine ybb' (fuel := 8) (i := 7) (by kernel_rfl) (by rfl) (fun K hK => ?_)
 go_wp2_with fail
 refine (HM1.out _).mono ?_
 rintro e w7 ⟨rfl, hw7⟩
 subst hw7
 go_wp2_with fail
 refine hK _ _ ⟨e3, e8⟩ ?_
 clear hK
 refine ybb' (fuel := 7) (i := 12) (by kernel_rfl) (by rfl) (fun K hK => ?_)
 go_wp2_with fail
 refine (HM2.out _).mono ?_
 rintro e w7 ⟨rfl, hw7⟩
 subst hw7
 go_wp2_with fail
 refine hK _ _ ⟨e3, e8⟩ ?_
 clear hK
 refine rL [13, 14, 15, 16, 17, 18, 19] 0 ?_
 simp only [List.filterMap_cons, List.filterMap_nil, k_i, k_j, k_k]
 have f3 := yae' HS6.out.blk 3
 have f8 := yae' (HS6.out.set 3 (.int .i64 (yek' n.kids))).drew.blk 8
 have f8b := yae' (HS6.out.set 3 (.int .i64 (yek' n.kids))).blk 8
 have f8c := yae' HS6.out.blk 8
 have g8b := yaa' HS6.out.blk 8 (v := .int .i64 n.next) rfl
 have g3b := yaa' HS6.out.blk 3 (v := .int .i64 n.kids) rfl
 have g8 := yaa' (HS6.out.set 3 (.int .i64 (yek' n.kids))).drew.blk 8 (v := .int .i64 n.next) rfl
 have HFIN := Lib.hid ((HS6.out.set 3 (.int .i64 (yek' n.kids))).drew.set 8 (.int .i64 (yek' n.next)))
 clear e3 e8
 go_wp2_with fail
 go_ret
 rw [HN.out, HB.out]
 refine ⟨rfl, .slice a3 n3 k3, _, fun r hr => k_n _ hr, k_s, ?_⟩
 have e := HL3.out
 subst e
 exact HFIN.out
set_option maxRecDepth 100000 in
set_option maxHeartbeats 1000000 in
theorem ypf' (h : Sep w0 w (yac' x (.cells (n.cells nv) 172 (0, 0)) :: yab' w0 P :: R) rows) (s : ByteArray) (hok : NodeOk n) (hnv : (1, nv, n.names.map sv) ∈ P) :
  Calls Tryz.prog 192 #[.pointer (some ⟨x, 0, none⟩), .string s] w (ynj' w0 x (remS n s.data.toList) P R rows (hasS n.names s.data.toList)) := by
 have hb := h.blk
 obtain ⟨E, hE⟩ := (h.perm (List.Perm.swap _ _ _)).poolGet hnv
 have c9 := yaa' hb 9 (v := nv) rfl
 obtain ⟨na, nn, nc, rfl, -⟩ := id hE
 have HSE := Lib.hid (yjd' _ _ E w s hE hok.rise (by have := hok.few; omega))
 have HCL := Lib.hid (fun w' (hu : Upd w w' [] []) => yd9' _ n.names E w' (hE.frame (hu.same hE.lt (by simp))) (by have := hok.few; omega))
 have H := Lib.hid h
 have HOK := Lib.hid hok
 have HNV := Lib.hid hnv
 clear h hb hE hok hnv
 go_enter Tryz.func192, Tryz.ntmps192
 go_wp2_with fail
 refine HSE.out.mono ?_
 rintro e w1 ⟨rfl, hu1⟩
 have HU1 := Lib.hid hu1
 have H1 := Lib.hid (H.out.keep hu1)
 have c9 := yaa' (H.out.keep hu1).blk 9 (v := .slice na nn nc) rfl
 clear hu1 H HSE
 cases hh : hasS n.names s.data.toList with
 | false =>
  have HN := Lib.hid (show remS n s.data.toList = n by unfold remS; rw [if_neg (by rw [hh]; decide)])
  have HB := Lib.hid hh
  clear hh HCL
  go_wp2_with fail
  go_ret
  rw [HN.out, HB.out]
  exact ⟨rfl, _, P, fun _ h => h, HNV.out, H1.out⟩
 | true =>
 have hpl : ya7' n.names s.data.toList < n.names.length := by
  have := hh
  unfold hasS at this
  rw [decide_eq_true_eq] at this
  exact (List.getElem?_eq_some_iff.1 this).1
 have hfew := HOK.out.few
 have HN := Lib.hid (show remS n s.data.toList = { n with names := delS n.names s.data.toList, kids := yek' n.kids } by unfold remS; rw [if_pos hh])
 have HB := Lib.hid hh
 clear hh
 go_wp2_with fail
 refine (HCL.out w1 HU1.out).mono ?_
 rintro e w2 ⟨v2, D2, rfl, ho2, hu2⟩
 obtain ⟨a2, n2, k2, rfl, -⟩ := id ho2
 have hin := yox' _ n.names D2 w2 (ya7' n.names s.data.toList) ho2 hpl (by omega)
 rw [show ((ya7' n.names s.data.toList + 1 : Nat) : Int) = ((ya7' n.names s.data.toList : Nat) : Int) + 1 by omega] at hin
 have HIN := Lib.hid hin
 have HU3 := Lib.hid hu2
 have c9' := ya2' (hu2.mono (fun _ h => h) (fun b hb => (hu2.new b hb).elim (fun h => by cases h) (fun _ => .inl hb)) : Upd w1 _ [] D2) c9
 clear ho2 hu2 hin HCL c9
 go_wp2_with fail
 refine HIN.out.mono ?_
 rintro e w3 ⟨v3, D3, rfl, ho3, hu3⟩
 have hS := (H1.out.addRow ho3 (HU3.out.trans hu3)).perm (List.Perm.swap _ _ _)
 have hS2 : Sep w0 w3 (yac' x (.cells (n.cells (.slice na nn nc)) 172 (0, 0)) :: yab' w0 ((1, v3, (delS n.names s.data.toList).map sv) :: P) :: R) rows :=
  ((hS.perm (List.Perm.swap _ _ _ |>.trans ((List.Perm.swap _ _ _).cons _))).poolRow).perm (List.Perm.swap _ _ _)
 obtain ⟨a3, n3, k3, rfl, hl3⟩ := ho3.len
 rw [List.length_map, Nat.mul_one] at hl3
 have hb3 := hS2.blk
 have d9 := yaa' hb3 9 (v := .slice na nn nc) rfl
 have d6 := yaa' hb3 6 (v := .int .i64 (n.names.length : Nat)) rfl
 have d3 := yaa' hb3 3 (v := .int .i64 n.kids) rfl
 have f9 := yae' hb3 9
 have f6 := yae' hb3 6
 have f3 := yae' hb3 3
 have HFIN := Lib.hid (((hS2.set 9 (.slice a3 n3 k3)).set 6 (.int .i64 (n3 : Nat))).set 3 (.int .i64 (yek' n.kids)))
 have HL3 := Lib.hid hl3
 have HM1 := Lib.hid (fun w => yhc' n.kids w (by have := HOK.out.kids; omega))
 clear ho3 hu3 hS hS2 hb3 HIN HU3 c9' hl3 hfew hpl
 go_wp2_with fail
 refine (HM1.out _).mono ?_
 rintro e w7 ⟨rfl, hw7⟩
 subst hw7
 go_wp2_with fail
 go_ret
 rw [HN.out, HB.out]
 refine ⟨rfl, .slice a3 n3 k3, _, fun r hr => k_n _ hr, k_s, ?_⟩
 have e := HL3.out
 subst e
 exact HFIN.out
end
def yvw' (w : World) (n : NodeS) (e : Ending) (w' : World) : Prop := ∃ nv D, e = .returned (n.val nv) ∧ OwnRow w' 1 nv (n.names.map sv) D ∧ Upd w w' [] D
set_option maxRecDepth 100000 in
set_option maxHeartbeats 1000000 in
theorem yix' (n : NodeS) (nv : Value) (w : World) (E : List Nat) (h : ReadRow w 1 nv (n.names.map sv) E) (hl : n.names.length ≤ 100000) :
  Calls Tryz.prog 146 #[n.val nv] w (yvw' w n) := by
 have hu0 := (Upd.alloc0 w (.cells (n.cells nv) 172) []).trans (Upd.alloc0 _ (.cells #[.int .i64 0, .int .i64 0, .int .i64 0, .int .i64 0, .int .i64 0, .int .i64 0, .int .i64 0, .string ⟨#[]⟩, .int .i64 0, .slice none 0 0] 172) [])
 have HCL := Lib.hid (yd9' nv n.names E _ (h.frame (hu0.same h.lt (by simp))) (by omega))
 obtain ⟨na, nn, nc, rfl, -⟩ := id h
 obtain ⟨made, changed, ver, kids, owner, dat, next, names⟩ := n
 unfold NodeS.val NodeS.cells at *
 dsimp only at *
 clear h
 go_enter Tryz.func146, Tryz.ntmps146
 go_wp2_with fail
 refine HCL.out.mono ?_
 rintro e w2 ⟨v2, D2, rfl, ho2, hu2⟩
 obtain ⟨a2, n2, k2, rfl, -⟩ := id ho2
 have h0 := ((Sep.start w).newCell (.cells #[.int .i64 made, .int .i64 changed, .int .i64 ver, .int .i64 kids, .int .i64 owner, .int .i64 (dat.size : Nat), .int .i64 (names.length : Nat), .string dat, .int .i64 next, .slice na nn nc] 172)).newCell (.cells #[.int .i64 0, .int .i64 0, .int .i64 0, .int .i64 0, .int .i64 0, .int .i64 0, .int .i64 0, .string ⟨#[]⟩, .int .i64 0, .slice none 0 0] 172)
 have h1 := h0.addRow ho2 hu2
 rw [show (w.alloc (.cells #[.int .i64 made, .int .i64 changed, .int .i64 ver, .int .i64 kids, .int .i64 owner, .int .i64 (dat.size : Nat), .int .i64 (names.length : Nat), .string dat, .int .i64 next, .slice na nn nc] 172)).heap.size = w.heap.size + 1 by simp] at h1
 obtain ⟨b1, hb1⟩ : ∃ b1, b1 = w.heap.size := ⟨_, rfl⟩
 obtain ⟨b2, hb2⟩ : ∃ b2, b2 = w.heap.size + 1 := ⟨_, rfl⟩
 rw [← hb2, ← hb1] at h1
 have hb12 : b2 ≠ b1 := by omega
 rw [← hb2, ← hb1]
 clear h0 hu2 ho2 HCL hu0 hb1 hb2
 have h2 := (h1.perm ((List.Perm.swap _ _ _).cons _)).perm (List.Perm.swap _ _ _)
 have e1 := h2.blk
 have e2 := (h1.perm (List.Perm.swap _ _ _)).blk
 have c0 := yaa' e1 0 (v := .int .i64 made) rfl
 have c1 := yaa' e1 1 (v := .int .i64 changed) rfl
 have c2 := yaa' e1 2 (v := .int .i64 ver) rfl
 have c3 := yaa' e1 3 (v := .int .i64 kids) rfl
 have c4 := yaa' e1 4 (v := .int .i64 owner) rfl
 have c5 := yaa' e1 5 (v := .int .i64 (dat.size : Nat)) rfl
 have c6 := yaa' e1 6 (v := .int .i64 (names.length : Nat)) rfl
 have c7 := yaa' e1 7 (v := .string dat) rfl
 have c8 := yaa' e1 8 (v := .int .i64 next) rfl
 have c9 := yaa' e1 9 (v := .slice na nn nc) rfl
 have f9 := yae' e1 9
 have d0 := yaa' e2 0 (v := .int .i64 0) rfl
 have d1 := yaa' e2 1 (v := .int .i64 0) rfl
 have d2 := yaa' e2 2 (v := .int .i64 0) rfl
 have d3 := yaa' e2 3 (v := .int .i64 0) rfl
 have d4 := yaa' e2 4 (v := .int .i64 0) rfl
 have d5 := yaa' e2 5 (v := .int .i64 0) rfl
 have d6 := yaa' e2 6 (v := .int .i64 0) rfl
 have d7 := yaa' e2 7 (v := .string ⟨#[]⟩) rfl
 have d8 := yaa' e2 8 (v := .int .i64 0) rfl
 have d9 := yaa' e2 9 (v := .slice none 0 0) rfl
 have g0 := yae' e2 0
 have g1 := yae' e2 1
 have g2 := yae' e2 2
 have g3 := yae' e2 3
 have g4 := yae' e2 4
 have g5 := yae' e2 5
 have g6 := yae' e2 6
 have g7 := yae' e2 7
 have g8 := yae' e2 8
 have g9 := yae' e2 9
 have hA := h2.set 9 (.slice a2 n2 k2)
 simp only [k_a, k_c, k_b] at hA
 have hB := (((((((((((hA.pick 2 rfl rfl).set 0 (.int .i64 made)).set 1 (.int .i64 changed)).set 2 (.int .i64 ver)).set 3 (.int .i64 kids)).set 4 (.int .i64 owner)).set 5 (.int .i64 (dat.size : Nat))).set 6 (.int .i64 (names.length : Nat))).set 7 (.string dat)).set 8 (.int .i64 next)).set 9 (.slice a2 n2 k2))
 simp only [k_a, k_c, k_b] at hB
 have H := Lib.hid hB
 clear h1 h2 e1 e2 hA hB
 go_wp2_with fail
 refine bodyPost_ret (ycg' rfl _ rfl H.out.blk Tryz.underlying172 (by kernel_rfl)) rfl ?_
 obtain ⟨D, ho, hu⟩ := (H.out.drop.drop).oneS
 exact ⟨_, D, rfl, ho, hu⟩
end Go.Proofs.YtcnkifbjlihaoaaGreatDoor

namespace Go.Av
open Go.RowKit
abbrev NoL := List (Bs × NodeS)
structure TreeS where
 room : Int
 l : NoL
def yak' (p : Bs) (l : NoL) : Option NodeS := (l.find? fun e => decide (e.1 = p)).map (·.2)
def setT (p : Bs) (n : NodeS) (l : NoL) : NoL := l.map fun e => if e.1 = p then (e.1, n) else e
def insT (p : Bs) (n : NodeS) (l : NoL) : NoL := l.takeWhile (fun e => decide (e.1 < p)) ++ (p, n) :: l.dropWhile (fun e => decide (e.1 < p))
def delT (p : Bs) (l : NoL) : NoL := l.filter fun e => decide (e.1 ≠ p)
def yc6' (l : NoL) : Prop := (l.map (·.1)).Pairwise (· < ·)
theorem ya9' {l : NoL} (h : yc6' l) : (l.map (·.1)).Nodup := by
 refine List.Pairwise.imp (fun hab e => ?_) h
 rw [e] at hab
 exact List.lt_irrefl _ hab
theorem ybj' {p : Bs} {l : NoL} (hn : (l.map (·.1)).Nodup) {n : NodeS} : yak' p l = some n ↔ (p, n) ∈ l := by
 induction l with
 | nil => simp [yak']
 | cons e l ih =>
  rw [List.map_cons, List.nodup_cons] at hn
  unfold yak' at ih ⊢
  by_cases he : e.1 = p
  ·rw [List.find?_cons_of_pos (by simpa using he)]
   simp only [Option.map_some, Option.some.injEq, List.mem_cons]
   constructor
   ·intro h; left; rw [← h, ← he]
   ·rintro (h | h)
    ·rw [← h]
    ·exact absurd (List.mem_map_of_mem (f := (·.1)) h) (by rw [← he] ; exact hn.1)
  ·rw [List.find?_cons_of_neg (by simpa using he), ih hn.2]
   simp only [List.mem_cons]
   constructor
   ·exact .inr
   ·rintro (h | h)
    ·exact absurd (by rw [← h]) he
    ·exact h
theorem yde' {p : Bs} {l : NoL} : yak' p l = none ↔ ∀ e ∈ l, e.1 ≠ p := by
 unfold yak'
 rw [Option.map_eq_none_iff, List.find?_eq_none]
 constructor
 ·intro h e he; simpa using h e he
 ·intro h e he; simpa using h e he
theorem ydl' (p : Bs) (n : NodeS) (l : NoL) : (insT p n l).Perm ((p, n) :: l) := by
 unfold insT
 refine List.perm_middle.trans ?_
 rw [List.takeWhile_append_dropWhile]
theorem yic' (p : Bs) (n : NodeS) (l : NoL) : (setT p n l).map (·.1) = l.map (·.1) := by
 unfold setT
 rw [List.map_map]
 apply List.map_congr_left
 intro e _
 simp only [Function.comp]
 split <;> rfl
theorem yqn' (p : Bs) (n : NodeS) (l : NoL) : (insT p n l).map (·.1) = insS (l.map (·.1)) p := by
 unfold insT insS ya7'
 induction l with
 | nil => rfl
 | cons e l ih =>
  by_cases he : e.1 < p
  ·have h1 : decide (e.1 < p) = true := by simpa using he
   simp only [List.takeWhile_cons, h1, if_true, List.dropWhile_cons, List.map_cons, List.cons_append, List.length_cons, k_f, k_e]
   congr 1
  ·have h1 : decide (e.1 < p) = false := by simpa using he
   simp [h1]
theorem yk1' (p : Bs) (l : NoL) : (delT p l).map (·.1) = (l.map (·.1)).filter fun k => decide (k ≠ p) := by
 unfold delT
 rw [List.filter_map]
 rfl
theorem yhz' {p : Bs} {n : NodeS} {l : NoL} (h : yc6' l) (hn : yak' p l = none) : yc6' (insT p n l) := by
 unfold yc6'
 rw [yqn']
 refine ynv' h ?_
 cases hh : hasS (l.map (·.1)) p with
 | false => rfl
 | true =>
  obtain ⟨e, he, hep⟩ := List.mem_map.1 ((yqh' h).1 hh)
  exact absurd hep (yde'.1 hn e he)
theorem yf8' {p : Bs} {n : NodeS} {l : NoL} (h : yc6' l) : yc6' (setT p n l) := by unfold yc6'; rw [yic']; exact h
theorem yk3' {p : Bs} {l : NoL} (h : yc6' l) : yc6' (delT p l) := by
 unfold yc6'
 rw [yk1']
 exact List.Pairwise.sublist (List.filter_sublist ..) h
theorem yj1' (p : Bs) (n : NodeS) (l : NoL) : (insT p n l).length = l.length + 1 := by rw [(ydl' p n l).length_eq]; rfl
theorem ye9' (p : Bs) (n : NodeS) (l : NoL) : (setT p n l).length = l.length := by unfold setT; rw [List.length_map]
structure NodeG where
 blk : Nat
 key : Bs
 n : NodeS
 nv : Value
def NodeG.ent (g : NodeG) : Bs × NodeS := (g.key, g.n)
def NodeG.kv (g : NodeG) : Value × Value := (sv g.key, .pointer (some ⟨g.blk, 0, none⟩))
end Go.Av
namespace Go.Proofs.YtcnkifbjlihaoaaGreatDoor
open Go.RowKit Go.Av
def NodeG.th (g : NodeG) : Thing := yac' g.blk (.cells (g.n.cells g.nv) 172 (0, 0))
def trTh (t m : Nat) (room : Int) (gs : List NodeG) : List Thing := yac' t (.cells #[.int .i64 room, .map (some m)] 213 (0, 0)) :: yay' .string m (gs.map NodeG.kv) :: gs.map NodeG.th
def TrO (t : Nat) (S : TreeS) (P : List PRow) (L : List Thing) : Prop := ∃ m gs, L = trTh t m S.room gs ∧ (gs.map NodeG.ent).Perm S.l ∧ yc6' S.l ∧ ∀ g ∈ gs, (1, g.nv, g.n.names.map sv) ∈ P
def yaq' (t : Nat) (S : TreeS) (P : List PRow) : Thing := Bun (TrO t S P)
theorem yol' (w : World) : (zeroValue 211).run Tryz.prog w = .ok (.pointer none) w := by kernel_rfl
theorem yii' {a b : Bs} (h : sv a = sv b) : a = b := by
 unfold sv at h
 injection h with h
 injection h with h
 exact congrArg Array.toList h
section
variable {w0 w : World} {t : Nat} {S : TreeS} {P P' : List PRow} {R : List Thing} {rows : List (Value × Bs)}
theorem ybi' (h : Sep w0 w (yaq' t S P :: R) rows) (hP : ∀ r ∈ P, r ∈ P') : Sep w0 w (yaq' t S P' :: R) rows := by
 obtain ⟨L, ⟨m, gs, rfl, h1, h2, h3⟩, hS⟩ := h.opens
 exact Sep.shut (O := TrO t S P') ⟨m, gs, rfl, h1, h2, fun g hg => hP _ (h3 g hg)⟩ hS
theorem yeb' {gs : List NodeG} {l : NoL} (hp : (gs.map NodeG.ent).Perm l) (hr : yc6' l) : (gs.map NodeG.key).Nodup := by
 have h1 : ((gs.map NodeG.ent).map (·.1)).Nodup := (hp.map (·.1)).nodup_iff.2 (ya9' hr)
 rw [List.map_map] at h1
 exact h1
theorem ydi' (h : Sep w0 w (yaq' t S P :: R) rows) : ∃ m, w.cell? ⟨t, 0, none⟩ = some (.int .i64 S.room) ∧ w.cell? ⟨t, 1, none⟩ = some (.map (some m)) ∧
  (∀ s : ByteArray, yak' s.data.toList S.l = none → ∀ W : World, W.heap = w.heap → (Instr.lookup 210 (.map (some m)) (.string s) false).run Tryz.prog W = .ok (.pointer none) W) ∧
  (∀ (s : ByteArray) (n : NodeS), yak' s.data.toList S.l = some n → ∃ x nv, (1, nv, n.names.map sv) ∈ P ∧ w.heap[x]? = some (.cells (n.cells nv) 172 (0, 0)) ∧ ∀ W : World, W.heap = w.heap → (Instr.lookup 210 (.map (some m)) (.string s) false).run Tryz.prog W = .ok (.pointer (some ⟨x, 0, none⟩)) W) ∧
  (∀ ty, ∀ W : World, W.heap = w.heap → (Builtin.len_ #[210] ty #[.map (some m)]).run Tryz.prog W = .ok (.int .i64 (S.l.length : Nat)) W) := by
 obtain ⟨L, ⟨m, gs, rfl, h1, h2, h3⟩, hS⟩ := h.opens
 have hc := hS.block (b := t) (o := .cells #[.int .i64 S.room, .map (some m)] 213 (0, 0)) (by simp [trTh])
 obtain ⟨E, hM, -⟩ := hS.has (T := yay' .string m (gs.map NodeG.kv)) (by simp [trTh])
 refine ⟨m, yaa' hc 0 rfl, yaa' hc 1 rfl, fun s hn W hW => ?_, fun s n hn => ?_, fun ty W hW => ?_⟩
 ·have hM' := hM.frame (w' := W) (by rw [hW])
  refine yhd' hM' Tryz.underlying210 Tryz.underlying9 (key := .string s) trivial (fun q hq e => ?_) (yol' _) false
  obtain ⟨g, hg, rfl⟩ := List.mem_map.1 hq
  exact yde'.1 hn g.ent (h1.mem_iff.1 (List.mem_map_of_mem hg)) (yii' (b := s.data.toList) e)
 ·have hm := (ybj' (ya9' h2)).1 hn
  obtain ⟨g, hg, he⟩ := List.mem_map.1 (h1.mem_iff.2 hm)
  have hgk : g.key = s.data.toList ∧ g.n = n := Prod.mk.inj he
  refine ⟨g.blk, g.nv, by rw [← hgk.2]; exact h3 g hg, ?_, fun W hW => ?_⟩
  ·have := hS.block (b := g.blk) (o := .cells (g.n.cells g.nv) 172 (0, 0)) (by
    simp only [trTh, List.cons_append, List.mem_cons, List.mem_append]
    exact .inr (.inr (.inl (List.mem_map.2 ⟨g, hg, rfl⟩))))
   rw [hgk.2] at this
   exact this
  ·have hM' := hM.frame (w' := W) (by rw [hW])
   refine yh3' hM' Tryz.underlying210 Tryz.underlying9 (key := .string s) trivial ?_ false
   refine List.mem_map.2 ⟨g, hg, ?_⟩
   unfold NodeG.kv
   rw [hgk.1]
   rfl
 ·have hM' := hM.frame (w' := W) (by rw [hW])
  have := yx6' (P := Tryz.prog) hM' Tryz.underlying210 ty
  rw [List.length_map] at this
  rw [← h1.length_eq, List.length_map]
  exact this
theorem yf0' (H : List Thing) (l1 l2 : List NodeG) (g : NodeG) (R : List Thing) : (H ++ ((l1 ++ g :: l2).map NodeG.th ++ R)).Perm (NodeG.th g :: (H ++ ((l1 ++ l2).map NodeG.th ++ R))) := by
 simp only [List.map_append, List.map_cons, List.append_assoc, List.cons_append]
 rw [← List.append_assoc H, ← List.append_assoc H]
 exact List.perm_middle
theorem ym7' {l1 l2 : List NodeG} {g g' : NodeG} (hk : g'.key = g.key) (hn : ((l1 ++ g :: l2).map NodeG.key).Nodup) : (l1 ++ g' :: l2).map NodeG.ent = setT g.key g'.n ((l1 ++ g :: l2).map NodeG.ent) := by
 have hne : ∀ x ∈ l1 ++ l2, x.key ≠ g.key := by
  simp only [List.map_append, List.map_cons, List.nodup_append, List.nodup_cons, List.mem_map, List.mem_cons] at hn
  obtain ⟨-, ⟨h2, -⟩, h3⟩ := hn
  intro x hx e
  rcases List.mem_append.1 hx with hx | hx
  ·exact h3 _ ⟨x, hx, rfl⟩ _ (.inl rfl) e
  ·exact h2 ⟨x, hx, e⟩
 unfold setT
 simp only [List.map_append, List.map_cons, List.map_map]
 have h1 : ∀ l : List NodeG, (∀ x ∈ l, x ∈ l1 ++ l2) → l.map NodeG.ent = l.map ((fun e : Bs × NodeS => if e.1 = g.key then (e.1, g'.n) else e) ∘ NodeG.ent) := fun l hl => List.map_congr_left fun x hx => by
  simp only [Function.comp]
  rw [if_neg (show ¬ x.ent.1 = g.key from hne x (hl x hx))]
 rw [← h1 l1 (fun x hx => by simp [hx]), ← h1 l2 (fun x hx => by simp [hx]), if_pos (show g.ent.1 = g.key from rfl)]
 unfold NodeG.ent
 rw [hk]
def yjr' (w : World) (t m x : Nat) (p : Bs) : Prop := w.cell? ⟨t, 1, none⟩ = some (.map (some m)) ∧ ∀ (W : World) (D' : List Nat), Upd w W [] D' → ∀ s : ByteArray, s.data.toList = p → (Instr.lookup 210 (.map (some m)) (.string s) false).run Tryz.prog W = .ok (.pointer (some ⟨x, 0, none⟩)) W
theorem ylm' {A : List Thing} {m x : Nat} {p : Bs} {r : Value} {kvs : List (Value × Value)} (hS : Sep w0 w A rows) (hc : yac' t (.cells #[r, .map (some m)] 213 (0, 0)) ∈ A) (hm : yay' .string m kvs ∈ A) (hk : (sv p, Value.pointer (some ⟨x, 0, none⟩)) ∈ kvs) : yjr' w t m x p := by
 obtain ⟨E, hM, -⟩ := hS.has hm
 refine ⟨yaa' (hS.block hc) 1 rfl, fun W D' hu s hs => ?_⟩
 have hM' := hM.frame (w' := W) (hu.keep m hM.lt (by simp))
 refine yh3' hM' Tryz.underlying210 Tryz.underlying9 (key := .string s) trivial ?_ false
 rw [← hs] at hk
 exact hk
theorem yjk' (h : Sep w0 w (yab' w0 P :: yaq' t S P :: R) rows) {p : Bs} {n : NodeS} (hl : yak' p S.l = some n) :
  ∃ x nv X m, (1, nv, n.names.map sv) ∈ P ∧ Sep w0 w (yac' x (.cells (n.cells nv) 172 (0, 0)) :: yab' w0 P :: X) rows ∧ yjr' w t m x p ∧
   ∀ w' n' nv' P', (∀ r ∈ P, r ∈ P') → (1, nv', n'.names.map sv) ∈ P' → Sep w0 w' (yac' x (.cells (n'.cells nv') 172 (0, 0)) :: yab' w0 P' :: X) rows → Sep w0 w' (yab' w0 P' :: yaq' t { S with l := setT p n' S.l } P' :: R) rows ∧ yjr' w' t m x p := by
 have h0 := h.perm (List.Perm.swap _ _ _)
 obtain ⟨L, ⟨m, gs, rfl, h1, h2, h3⟩, hS⟩ := h0.opens
 have hm := (ybj' (ya9' h2)).1 hl
 obtain ⟨g, hg, he⟩ := List.mem_map.1 (h1.mem_iff.2 hm)
 obtain ⟨l1, l2, rfl⟩ := List.append_of_mem hg
 have hgk : g.key = p ∧ g.n = n := Prod.mk.inj he
 obtain ⟨hk1, hk2⟩ := hgk
 subst hk1 hk2
 have hnd := yeb' h1 h2
 let H : List Thing := [yac' t (.cells #[.int .i64 S.room, .map (some m)] 213 (0, 0)), yay' .string m ((l1 ++ g :: l2).map NodeG.kv)]
 have e : ∀ (g : NodeG) (Q : List PRow), (H ++ ((l1 ++ g :: l2).map NodeG.th ++ (yab' w0 Q :: R))).Perm (NodeG.th g :: yab' w0 Q :: (H ++ ((l1 ++ l2).map NodeG.th ++ R))) := fun g Q => by
  refine (yf0' H l1 l2 g _).trans (List.Perm.cons _ ?_)
  rw [← List.append_assoc, ← List.append_assoc]
  exact List.perm_middle
 have hkm : (sv g.key, Value.pointer (some ⟨g.blk, 0, none⟩)) ∈ (l1 ++ g :: l2).map NodeG.kv := List.mem_map.2 ⟨g, hg, rfl⟩
 refine ⟨g.blk, g.nv, H ++ ((l1 ++ l2).map NodeG.th ++ R), m, h3 g hg, hS.perm (e g P), ?_, fun w' n' nv' P' hP hnv hS' => ⟨?_, ?_⟩⟩
 ·exact ylm' (r := .int .i64 S.room) (kvs := (l1 ++ g :: l2).map NodeG.kv) hS (by simp [trTh]) (by simp [trTh]) hkm
 ·have h5 := hS'.perm (e ⟨g.blk, g.key, n', nv'⟩ P').symm
  refine (Sep.shut (O := TrO t { S with l := setT g.key n' S.l } P') (L := trTh t m S.room (l1 ++ ⟨g.blk, g.key, n', nv'⟩ :: l2)) ⟨m, _, rfl, ?_, yf8' h2, fun x hx => ?_⟩ ?_).perm (List.Perm.swap _ _ _)
  ·rw [ym7' (g := g) (g' := ⟨g.blk, g.key, n', nv'⟩) rfl hnd]
   exact h1.map _
  ·rcases List.mem_append.1 hx with hx | hx
   ·exact hP _ (h3 x (by simp [hx]))
   ·rcases List.mem_cons.1 hx with rfl | hx
    ·exact hnv
    ·exact hP _ (h3 x (by simp [hx]))
  ·have hkv : (l1 ++ (⟨g.blk, g.key, n', nv'⟩ : NodeG) :: l2).map NodeG.kv = (l1 ++ g :: l2).map NodeG.kv := by simp [NodeG.kv]
   unfold trTh
   rw [hkv]
   exact h5
 ·exact ylm' (r := .int .i64 S.room) (kvs := (l1 ++ g :: l2).map NodeG.kv) hS' (by simp [H]) (by simp [H]) hkm
theorem yuv' {b : Nat} {n : NodeS} {nv : Value} (h : Sep w0 w (yac' b (.cells (n.cells nv) 172 (0, 0)) :: yab' w0 P :: yaq' t S P :: R) rows) (hnv : (1, nv, n.names.map sv) ∈ P) (s : ByteArray) (hl : yak' s.data.toList S.l = none) :
  ∃ m w', w.cell? ⟨t, 1, none⟩ = some (.map (some m)) ∧ (Instr.mapUpdate 210 (.map (some m)) (.string s) (.pointer (some ⟨b, 0, none⟩))).run Tryz.prog w = .ok () w' ∧ Sep w0 w' (yab' w0 P :: yaq' t { S with l := insT s.data.toList n S.l } P :: R) rows := by
 have h0 := h.pick 2 rfl rfl
 obtain ⟨L, ⟨m, gs, rfl, h1, h2, h3⟩, hS⟩ := h0.opens
 have hc := hS.block (b := t) (o := .cells #[.int .i64 S.room, .map (some m)] 213 (0, 0)) (by simp [trTh])
 have h4 := hS.perm (List.Perm.swap _ _ _)
 obtain ⟨w', hrun, hM, hU⟩ := yvi' (P := Tryz.prog) h4.mapIs Tryz.underlying210 Tryz.underlying9 (key := .string s) (v := .pointer (some ⟨b, 0, none⟩)) trivial (fun q hq e => by
  obtain ⟨g, hg, rfl⟩ := List.mem_map.1 hq
  exact yde'.1 hl g.ent (h1.mem_iff.1 (List.mem_map_of_mem hg)) (yii' (b := s.data.toList) e))
 have h5 := (h4.mapTo hU hM).perm (List.Perm.swap _ _ _)
 refine ⟨m, w', yaa' hc 1 rfl, hrun, ?_⟩
 refine (Sep.shut (O := TrO t { S with l := insT s.data.toList n S.l } P) (L := trTh t m S.room (gs ++ [⟨b, s.data.toList, n, nv⟩])) ⟨m, _, rfl, ?_, yhz' h2 hl, fun x hx => ?_⟩ ?_).perm (List.Perm.swap _ _ _)
 ·refine List.Perm.trans ?_ (ydl' _ _ _).symm
  rw [List.map_append]
  refine List.perm_append_comm.trans ?_
  exact List.Perm.cons _ h1
 ·rcases List.mem_append.1 hx with hx | hx
  ·exact h3 x hx
  ·rw [List.mem_singleton.1 hx]; exact hnv
 ·have hkv : (gs ++ [(⟨b, s.data.toList, n, nv⟩ : NodeG)]).map NodeG.kv = gs.map NodeG.kv ++ [(.string s, .pointer (some ⟨b, 0, none⟩))] := by simp [NodeG.kv, ysa']
  unfold trTh
  rw [hkv]
  refine h5.perm ?_
  refine List.Perm.cons _ (List.Perm.cons _ ?_)
  show ((gs.map NodeG.th) ++ (yac' b (.cells (n.cells nv) 172 (0, 0)) :: (yab' w0 P :: R))).Perm (((gs ++ [(⟨b, s.data.toList, n, nv⟩ : NodeG)]).map NodeG.th) ++ (yab' w0 P :: R))
  rw [List.map_append, List.append_assoc]
  exact List.Perm.refl _
end
end Go.Proofs.YtcnkifbjlihaoaaGreatDoor

namespace Go.Av
open Go.RowKit
def endT (S : TreeS) (p : Bs) : Int × Bs := if (yak' p S.l).isSome = true then (5, []) else if S.room ≤ S.l.length then (9, []) else (0, p)
def yax' (S : TreeS) (o : OpS) : Int × Bs := match yap' o.p with
 | none => endT S o.p
 | some up => match yak' up S.l with
  | none => (4, [])
  | some n => if n.owner ≠ 0 then (8, []) else if seqF o.flags = true then (match yba' o.p n.next with | none => (1, []) | some q => endT S q) else endT S o.p
theorem ywj' {l1 l2 : List NodeG} {g : NodeG} (hn : ((l1 ++ g :: l2).map NodeG.key).Nodup) : (l1 ++ l2).map NodeG.ent = delT g.key ((l1 ++ g :: l2).map NodeG.ent) := by
 have hne : ∀ x ∈ l1 ++ l2, x.key ≠ g.key := by
  simp only [List.map_append, List.map_cons, List.nodup_append, List.nodup_cons, List.mem_map, List.mem_cons] at hn
  obtain ⟨-, ⟨h2, -⟩, h3⟩ := hn
  intro x hx e
  rcases List.mem_append.1 hx with hx | hx
  ·exact h3 _ ⟨x, hx, rfl⟩ _ (.inl rfl) e
  ·exact h2 ⟨x, hx, e⟩
 have h1 : ∀ l : List NodeG, (∀ x ∈ l, x ∈ l1 ++ l2) → (l.map NodeG.ent).filter (fun e => decide (e.1 ≠ g.key)) = l.map NodeG.ent := fun l hl => List.filter_eq_self.2 fun e he => by
  obtain ⟨x, hx, rfl⟩ := List.mem_map.1 he
  exact decide_eq_true (hne x (hl x hx))
 unfold delT
 rw [List.map_append, List.map_append, List.map_cons, List.filter_append, List.filter_cons, h1 l1 (fun x hx => by simp [hx]), h1 l2 (fun x hx => by simp [hx]), if_neg (by simp [NodeG.ent])]
theorem yk2' {p : Bs} {l : NoL} (h : yak' p l = none) : delT p l = l := List.filter_eq_self.2 fun e he => by simpa using yde'.1 h e he
end Go.Av
namespace Go.Proofs.YtcnkifbjlihaoaaGreatDoor
open Go.RowKit Go.Av
section
variable {w0 w : World} {t : Nat} {S : TreeS} {P P' : List PRow} {R : List Thing} {rows : List (Value × Bs)}
theorem yuy' {b : Nat} {n n0 : NodeS} {nv : Value} (h : Sep w0 w (yac' b (.cells (n.cells nv) 172 (0, 0)) :: yab' w0 P :: yaq' t S P :: R) rows) (hnv : (1, nv, n.names.map sv) ∈ P) (s : ByteArray) (hl : yak' s.data.toList S.l = some n0) :
  ∃ m w', w.cell? ⟨t, 1, none⟩ = some (.map (some m)) ∧ (Instr.mapUpdate 210 (.map (some m)) (.string s) (.pointer (some ⟨b, 0, none⟩))).run Tryz.prog w = .ok () w' ∧ Sep w0 w' (yab' w0 P :: yaq' t { S with l := setT s.data.toList n S.l } P :: R) rows := by
 have h0 := h.pick 2 rfl rfl
 obtain ⟨L, ⟨m, gs, rfl, h1, h2, h3⟩, hS⟩ := h0.opens
 have hc := hS.block (b := t) (o := .cells #[.int .i64 S.room, .map (some m)] 213 (0, 0)) (by simp [trTh])
 have hm := (ybj' (ya9' h2)).1 hl
 obtain ⟨g, hg, he⟩ := List.mem_map.1 (h1.mem_iff.2 hm)
 obtain ⟨l1, l2, rfl⟩ := List.append_of_mem hg
 obtain ⟨hk1, hk2⟩ := Prod.mk.inj he
 have hnd := yeb' h1 h2
 have h4 := hS.perm (List.Perm.swap _ _ _)
 have hkv : (l1 ++ g :: l2).map NodeG.kv = l1.map NodeG.kv ++ (.string s, .pointer (some ⟨g.blk, 0, none⟩)) :: l2.map NodeG.kv := by
  rw [List.map_append, List.map_cons]
  unfold NodeG.kv
  rw [hk1]
  rfl
 rw [hkv] at h4
 obtain ⟨w', hrun, hM, hU⟩ := yx7' (P := Tryz.prog) (v := .pointer (some ⟨b, 0, none⟩)) h4.mapIs Tryz.underlying210 Tryz.underlying9 (show MapKept.IsKey .string (.string s) from trivial)
 have h5 := (h4.mapTo hU hM).perm (List.Perm.swap _ _ _)
 refine ⟨m, w', yaa' hc 1 rfl, hrun, ?_⟩
 refine (Sep.shut (O := TrO t { S with l := setT s.data.toList n S.l } P) (L := trTh t m S.room (l1 ++ ⟨b, s.data.toList, n, nv⟩ :: l2)) ⟨m, _, rfl, ?_, yf8' h2, fun x hx => ?_⟩ ?_).perm (List.Perm.swap _ _ _)
 ·rw [ym7' (g := g) (g' := ⟨b, s.data.toList, n, nv⟩) hk1.symm hnd, hk1]
  exact h1.map _
 ·rcases List.mem_append.1 hx with hx | hx
  ·exact h3 x (by simp [hx])
  ·rcases List.mem_cons.1 hx with rfl | hx
   ·exact hnv
   ·exact h3 x (by simp [hx])
 ·have hkv2 : (l1 ++ (⟨b, s.data.toList, n, nv⟩ : NodeG) :: l2).map NodeG.kv = l1.map NodeG.kv ++ (.string s, .pointer (some ⟨b, 0, none⟩)) :: l2.map NodeG.kv := by simp [NodeG.kv, ysa']
  unfold trTh
  rw [hkv2]
  -- the old node is let go
  have h6 : Sep w0 w' (NodeG.th g :: yac' t (.cells #[.int .i64 S.room, .map (some m)] 213 (0, 0)) :: yay' .string m (l1.map NodeG.kv ++ (.string s, .pointer (some ⟨b, 0, none⟩)) :: l2.map NodeG.kv) :: ((l1 ++ l2).map NodeG.th ++ (yac' b (.cells (n.cells nv) 172 (0, 0)) :: (yab' w0 P :: R)))) rows :=
   h5.perm (yf0' [_, _] l1 l2 g _)
  have h7 := h6.drop
  refine h7.perm (List.Perm.cons _ (List.Perm.cons _ ?_))
  show ((l1 ++ l2).map NodeG.th ++ (NodeG.th ⟨b, s.data.toList, n, nv⟩ :: (yab' w0 P :: R))).Perm ((l1 ++ (⟨b, s.data.toList, n, nv⟩ : NodeG) :: l2).map NodeG.th ++ (yab' w0 P :: R))
  have := yf0' [] l1 l2 ⟨b, s.data.toList, n, nv⟩ (yab' w0 P :: R)
  exact List.perm_middle.trans this.symm
theorem yuu' {n0 : NodeS} (h : Sep w0 w (yab' w0 P :: yaq' t S P :: R) rows) (s : ByteArray) (hl : yak' s.data.toList S.l = some n0) :
  ∃ m w', w.cell? ⟨t, 1, none⟩ = some (.map (some m)) ∧ (∀ ty, (Builtin.delete_ #[210, 9] ty #[.map (some m), .string s]).run Tryz.prog w = .ok (.tuple #[]) w') ∧ Sep w0 w' (yab' w0 P :: yaq' t { S with l := delT s.data.toList S.l } P :: R) rows := by
 have h0 := h.pick 1 rfl rfl
 obtain ⟨L, ⟨m, gs, rfl, h1, h2, h3⟩, hS⟩ := h0.opens
 have hc := hS.block (b := t) (o := .cells #[.int .i64 S.room, .map (some m)] 213 (0, 0)) (by simp [trTh])
 have hm := (ybj' (ya9' h2)).1 hl
 obtain ⟨g, hg, he⟩ := List.mem_map.1 (h1.mem_iff.2 hm)
 obtain ⟨l1, l2, rfl⟩ := List.append_of_mem hg
 obtain ⟨hk1, hk2⟩ := Prod.mk.inj he
 have hnd := yeb' h1 h2
 have h4 := hS.perm (List.Perm.swap _ _ _)
 have hkv : (l1 ++ g :: l2).map NodeG.kv = l1.map NodeG.kv ++ (.string s, .pointer (some ⟨g.blk, 0, none⟩)) :: l2.map NodeG.kv := by
  rw [List.map_append, List.map_cons]
  unfold NodeG.kv
  rw [hk1]
  rfl
 rw [hkv] at h4
 obtain ⟨w', hrun, hM, hU⟩ := yx5' (P := Tryz.prog) h4.mapIs Tryz.underlying210 Tryz.underlying9 (show MapKept.IsKey .string (.string s) from trivial) 9 0
 have h5 := (h4.mapTo hU hM).perm (List.Perm.swap _ _ _)
 refine ⟨m, w', yaa' hc 1 rfl, fun _ => hrun, ?_⟩
 refine (Sep.shut (O := TrO t { S with l := delT s.data.toList S.l } P) (L := trTh t m S.room (l1 ++ l2)) ⟨m, _, rfl, ?_, yk3' h2, fun x hx => h3 x (by
  rcases List.mem_append.1 hx with hx | hx
  ·simp [hx]
  ·simp [hx])⟩ ?_).perm (List.Perm.swap _ _ _)
 ·rw [ywj' hnd, hk1]
  exact h1.filter _
 ·unfold trTh
  rw [List.map_append (f := NodeG.kv)]
  have h6 : Sep w0 w' (NodeG.th g :: yac' t (.cells #[.int .i64 S.room, .map (some m)] 213 (0, 0)) :: yay' .string m (l1.map NodeG.kv ++ l2.map NodeG.kv) :: ((l1 ++ l2).map NodeG.th ++ (yab' w0 P :: R))) rows :=
   h5.perm (yf0' [_, _] l1 l2 g _)
  exact h6.drop
theorem yso' (h : Sep w0 w (yab' w0 P :: yaq' t S P :: R) rows) (s : ByteArray) (hl : yak' s.data.toList S.l = none) :
  ∃ m w', w.cell? ⟨t, 1, none⟩ = some (.map (some m)) ∧ (∀ ty, (Builtin.delete_ #[210, 9] ty #[.map (some m), .string s]).run Tryz.prog w = .ok (.tuple #[]) w') ∧ Sep w0 w' (yab' w0 P :: yaq' t S P :: R) rows := by
 have h0 := h.pick 1 rfl rfl
 obtain ⟨L, ⟨m, gs, rfl, h1, h2, h3⟩, hS⟩ := h0.opens
 have hc := hS.block (b := t) (o := .cells #[.int .i64 S.room, .map (some m)] 213 (0, 0)) (by simp [trTh])
 have h4 := hS.perm (List.Perm.swap _ _ _)
 obtain ⟨w', hrun, hM, hU⟩ := yw1' (P := Tryz.prog) h4.mapIs Tryz.underlying210 Tryz.underlying9 (show MapKept.IsKey .string (.string s) from trivial) (fun q hq e => by
  obtain ⟨g, hg, rfl⟩ := List.mem_map.1 hq
  exact yde'.1 hl g.ent (h1.mem_iff.1 (List.mem_map_of_mem hg)) (yii' (b := s.data.toList) e)) 9 0
 have h5 := (h4.mapTo hU hM).perm (List.Perm.swap _ _ _)
 exact ⟨m, w', yaa' hc 1 rfl, fun _ => hrun, (Sep.shut (O := TrO t S P) (L := trTh t m S.room gs) ⟨m, _, rfl, h1, h2, h3⟩ h5).perm (List.Perm.swap _ _ _)⟩
theorem ye0' (h : Sep w0 w (yaq' t S P :: R) rows) : (S.l.map (·.1)).Nodup := by
 obtain ⟨L, ⟨m, gs, rfl, h1, h2, h3⟩, hS⟩ := h.opens
 exact ya9' h2
set_option maxRecDepth 100000 in
set_option maxHeartbeats 4000000 in
theorem yrf' (h : Sep w0 w (yaq' t S P :: R) rows) (hd : DoorN w) (o : OpS) (hp : o.path.size ≤ 100000) (h0 : 0 ≤ o.flags) (h3 : o.flags ≤ 3) (hok : ∀ e ∈ S.l, NodeOk e.2) :
  Calls Tryz.prog 260 #[.pointer (some ⟨t, 0, none⟩), o.val] w fun e w' => e = .returned (.tuple #[sv (yax' S o).2, .int .i64 (yax' S o).1]) ∧ Upd w w' [] [] := by
 have hu0 := Upd.alloc0 w (.cells #[.int .i64 o.kind, .string o.path, .string o.data, .int .i64 o.ver, .int .i64 o.flags] 89) []
 have HPA := Lib.hid (ydh' o.path _ (hd.upd hu0).1 (by unfold maxLen; omega))
 have HA := Lib.hid (show ∀ w' : World, Upd (w.alloc (.cells #[.int .i64 o.kind, .string o.path, .string o.data, .int .i64 o.ver, .int .i64 o.flags] 89)) w' [] [] → OpAt w' w.heap.size o from fun w' hu => yfz' w o hu)
 obtain ⟨rr, hrr⟩ : ∃ rr, yax' S o = rr := ⟨_, rfl⟩
 have HR := Lib.hid hrr
 unfold yax' at HR
 rw [hrr]
 have HU0 := Lib.hid hu0
 have HH := Lib.hid (show _ ∧ _ from ⟨h, hd⟩)
 obtain ⟨kind, path, data, ver, flags⟩ := o
 unfold OpS.val
 unfold OpS.p at HR
 unfold OpAt at HA
 dsimp only at HPA HA HR hp h0 h3 ⊢
 have hsb := ym6' h0 h3
 have hsb2 : (bits .and .i64 flags 2 != 0) = seqF flags := by
  rw [show (bits .and .i64 flags 2 != 0) = !(bits .and .i64 flags 2 == 0) from rfl, hsb, Bool.not_not]
 clear hrr hu0 h hd hsb
 cases hpp : yap' path.data.toList with
 | none =>
  rw [hpp] at HR HPA
  have HR := Lib.hid (show endT S path.data.toList = rr from HR.out)
  clear hpp
  go_enter Tryz.func260, Tryz.ntmps260
  go_wp2_with fail
  refine HPA.out.mono ?_
  rintro e w1 ⟨rfl, hu1⟩
  obtain ⟨o0, o1, o2, o3, o4⟩ := HA.out _ hu1
  have HU := Lib.hid (HU0.out.trans hu1)
  obtain ⟨m, c0, c1, hnone, hsome, hlen⟩ := ydi' (HH.out.1.keep (HU0.out.trans hu1))
  have HF := Lib.hid (show _ ∧ _ from ⟨hnone, hsome⟩)
  have HLN := Lib.hid hlen
  clear hu1 hnone hsome hlen HPA
  obtain ⟨lo, hlo⟩ : ∃ lo, yak' (path).data.toList S.l = lo := ⟨_, rfl⟩
  cases lo with
  | some n1 =>
   obtain ⟨x1, nv1, -, hb1, hk0⟩ := HF.out.2 path n1 hlo
   have hk1 := hk0 w1 rfl
   clear hk0
   have HE := Lib.hid (show rr = (5, []) by rw [← HR.out]; unfold endT; rw [if_pos (show (yak' (path).data.toList S.l).isSome = true by rw [hlo]; rfl)])
   clear hb1 hlo HR
   go_wp2_with fail
   go_ret2
   rw [HE.out]
   exact ⟨rfl, HU.out⟩
  | none =>
   have hk1 := HF.out.1 path hlo w1 rfl
   have HR2 := Lib.hid (show (if S.room ≤ S.l.length then (9, []) else (0, (path).data.toList)) = rr by rw [← HR.out]; unfold endT; rw [if_neg (show ¬ (yak' (path).data.toList S.l).isSome = true by rw [hlo]; decide)])
   clear hlo HR
   go_wp2_with fail
   by_cases hrm : S.room ≤ S.l.length
   case' pos =>
    have HE := Lib.hid (show rr = (9, []) by rw [← HR2.out, if_pos hrm])
    have q9 : decide (S.room ≤ ((S.l.length : Nat) : Int)) = true := decide_eq_true hrm
   case' neg =>
    have HE := Lib.hid (show rr = (0, (path).data.toList) by rw [← HR2.out, if_neg hrm])
    have q9 : decide (S.room ≤ ((S.l.length : Nat) : Int)) = false := decide_eq_false hrm
   all_goals
    clear hrm HR2
    refine yan' (fun W => W.cell? ⟨t, 0, none⟩ = some (.int .i64 S.room) ∧ W.cell? ⟨t, 1, none⟩ = some (.map (some m))) 11 (by kernel_rfl) ?_
    refine rT [(0, false), (1, false), (2, false), (3, true), (5, false), (6, false), (7, false), (8, true)] 3 ?_
    apply Exists.intro; refine ⟨?_, ⟨c0, c1⟩, ?_⟩
    ·iterate 8 ((first | (apply ybm'; (· (simp only [k_i, k_j, k_k]; try rfl)); (· rfl)) | ((first | apply yav' | apply yas'); (· (simp only [k_i, k_j, k_k]; try rfl)); (· rfl); (· (intros; go_simp; try with_reducible rfl)))); (· (simp only [Act.put, k_a, k_b, k_c]; try rfl)))
     exact rfl
    refine ybb' (fuel := 2) (i := 4) (by kernel_rfl) (by rfl) (fun K hK => ?_)
    have hln := HLN.out 3 w1.drew rfl
    go_wp2_with fail
    refine hK _ _ ⟨c0, c1⟩ ?_
    clear hK
    refine rT [(9, false), (10, false)] 0 ?_
    apply Exists.intro; refine ⟨?_, ⟨c0, c1⟩, ?_⟩
    ·iterate 2 ((first | (apply ybm'; (· (simp only [k_i, k_j, k_k]; try rfl)); (· rfl)) | ((first | apply yav' | apply yas'); (· (simp only [k_i, k_j, k_k]; try rfl)); (· rfl); (· (intros; go_simp; try with_reducible rfl)))); (· (simp only [Act.put, k_a, k_b, k_c]; try rfl)))
     exact rfl
    refine yah' (by kernel_rfl) ?_ _
    go_wp2_with fail
    go_ret2
    rw [HE.out]
    exact ⟨rfl, HU.out.drew⟩
 | some up =>
  rw [hpp] at HR HPA
  obtain ⟨us, hus⟩ : ∃ us : ByteArray, us = ⟨up.toArray⟩ := ⟨_, rfl⟩
  have hup : us.data.toList = up := by rw [hus]
  have HPA := Lib.hid (show Calls Tryz.prog _ _ _ (fun e w' => e = .returned (.tuple #[.string us, .bool true]) ∧ _) from by rw [hus]; exact HPA.out)
  have HUP := Lib.hid hup
  clear hpp hus hup
  go_enter Tryz.func260, Tryz.ntmps260
  go_wp2_with fail
  refine HPA.out.mono ?_
  rintro e w1 ⟨rfl, hu1⟩
  obtain ⟨o0, o1, o2, o3, o4⟩ := HA.out _ hu1
  have HU := Lib.hid (HU0.out.trans hu1)
  obtain ⟨m, c0, c1, hnone, hsome, hlen⟩ := ydi' (HH.out.1.keep (HU0.out.trans hu1))
  have HF := Lib.hid (show _ ∧ _ from ⟨hnone, hsome⟩)
  have HLN := Lib.hid hlen
  clear hu1 hnone hsome hlen HPA
  cases hlu : yak' up S.l with
  | none =>
   have hk := HF.out.1 us (by rw [HUP.out]; exact hlu) w1 rfl
   have HE := Lib.hid (show rr = (4, []) by rw [← HR.out]; simp only [hlu])
   clear hlu HR
   go_wp2_with fail
   go_ret2
   rw [HE.out]
   exact ⟨rfl, HU.out⟩
  | some n =>
  obtain ⟨x, nv, -, hb, hk0⟩ := HF.out.2 us n (by rw [HUP.out]; exact hlu)
  have hk := hk0 w1 rfl
  have HEP := Lib.hid (yjv' x n nv w1 hb)
  have n8 := yaa' hb 8 (v := .int .i64 n.next) rfl
  have HOK := Lib.hid (hok _ ((ybj' (ye0' HH.out.1)).1 hlu))
  have HR2 := Lib.hid (show (if n.owner ≠ 0 then (8, []) else if seqF flags = true then (match yba' path.data.toList n.next with | none => (1, []) | some q => endT S q) else endT S path.data.toList) = rr by rw [← HR.out]; simp only [hlu])
  clear hlu HR hk0 hb
  go_wp2_with fail
  refine HEP.out.mono ?_
  rintro e w2 ⟨rfl, hw2⟩
  subst hw2
  clear HEP
  by_cases how : n.owner = 0
  case neg =>
   have HE := Lib.hid (show rr = (8, []) by rw [← HR2.out, if_pos how])
   have q1 : (n.owner != 0) = true := by rw [bne_iff_ne]; exact how
   clear how HR2
   go_wp2_with fail
   go_ret2
   rw [HE.out]
   exact ⟨rfl, HU.out⟩
  case pos =>
  have q1 : (n.owner != 0) = false := by rw [how]; rfl
  have HR3 := Lib.hid (show (if seqF flags = true then (match yba' path.data.toList n.next with | none => (1, []) | some q => endT S q) else endT S path.data.toList) = rr by have := HR2.out; rw [if_neg (by rw [how]; simp)] at this; exact this)
  clear how HR2
  cases hsq : seqF flags with
  | false =>
   rw [hsq] at hsb2
   have HR := Lib.hid (show endT S path.data.toList = rr by have := HR3.out; rw [hsq] at this; exact this)
   clear hsq HR3
   obtain ⟨lo, hlo⟩ : ∃ lo, yak' (path).data.toList S.l = lo := ⟨_, rfl⟩
   cases lo with
   | some n1 =>
    obtain ⟨x1, nv1, -, hb1, hk0⟩ := HF.out.2 path n1 hlo
    have hk1 := hk0 w2 rfl
    clear hk0
    have HE := Lib.hid (show rr = (5, []) by rw [← HR.out]; unfold endT; rw [if_pos (show (yak' (path).data.toList S.l).isSome = true by rw [hlo]; rfl)])
    clear hb1 hlo HR
    go_wp2_with fail
    go_ret2
    rw [HE.out]
    exact ⟨rfl, HU.out⟩
   | none =>
    have hk1 := HF.out.1 path hlo w2 rfl
    have HR2 := Lib.hid (show (if S.room ≤ S.l.length then (9, []) else (0, (path).data.toList)) = rr by rw [← HR.out]; unfold endT; rw [if_neg (show ¬ (yak' (path).data.toList S.l).isSome = true by rw [hlo]; decide)])
    clear hlo HR
    go_wp2_with fail
    by_cases hrm : S.room ≤ S.l.length
    case' pos =>
     have HE := Lib.hid (show rr = (9, []) by rw [← HR2.out, if_pos hrm])
     have q9 : decide (S.room ≤ ((S.l.length : Nat) : Int)) = true := decide_eq_true hrm
    case' neg =>
     have HE := Lib.hid (show rr = (0, (path).data.toList) by rw [← HR2.out, if_neg hrm])
     have q9 : decide (S.room ≤ ((S.l.length : Nat) : Int)) = false := decide_eq_false hrm
    all_goals
     clear hrm HR2
     refine yan' (fun W => W.cell? ⟨t, 0, none⟩ = some (.int .i64 S.room) ∧ W.cell? ⟨t, 1, none⟩ = some (.map (some m))) 11 (by kernel_rfl) ?_
     refine rT [(0, false), (1, false), (2, false), (3, true), (5, false), (6, false), (7, false), (8, true)] 3 ?_
     apply Exists.intro; refine ⟨?_, ⟨c0, c1⟩, ?_⟩
     ·iterate 8 ((first | (apply ybm'; (· (simp only [k_i, k_j, k_k]; try rfl)); (· rfl)) | ((first | apply yav' | apply yas'); (· (simp only [k_i, k_j, k_k]; try rfl)); (· rfl); (· (intros; go_simp; try with_reducible rfl)))); (· (simp only [Act.put, k_a, k_b, k_c]; try rfl)))
      exact rfl
     refine ybb' (fuel := 2) (i := 4) (by kernel_rfl) (by rfl) (fun K hK => ?_)
     have hln := HLN.out 3 w2.drew rfl
     go_wp2_with fail
     refine hK _ _ ⟨c0, c1⟩ ?_
     clear hK
     refine rT [(9, false), (10, false)] 0 ?_
     apply Exists.intro; refine ⟨?_, ⟨c0, c1⟩, ?_⟩
     ·iterate 2 ((first | (apply ybm'; (· (simp only [k_i, k_j, k_k]; try rfl)); (· rfl)) | ((first | apply yav' | apply yas'); (· (simp only [k_i, k_j, k_k]; try rfl)); (· rfl); (· (intros; go_simp; try with_reducible rfl)))); (· (simp only [Act.put, k_a, k_b, k_c]; try rfl)))
      exact rfl
     refine yah' (by kernel_rfl) ?_ _
     go_wp2_with fail
     go_ret2
     rw [HE.out]
     exact ⟨rfl, HU.out.drew⟩
  | true =>
  rw [hsq] at hsb2
  have HR4 := Lib.hid (show (match yba' path.data.toList n.next with | none => (1, []) | some q => endT S q) = rr by have := HR3.out; rw [hsq] at this; exact this)
  have hnn := HOK.out.next
  have HNU := Lib.hid (yi2' path n.next w2 (HH.out.2.upd HU.out) hp (by omega) (by omega))
  clear hsq HR3 hnn
  cases hnb : yba' path.data.toList n.next with
  | none =>
   have HE := Lib.hid (show rr = (1, []) by rw [← HR4.out, hnb])
   rw [hnb] at HNU
   have HNU := Lib.hid (show Calls Tryz.prog _ _ _ (fun e w' => e = .returned (.tuple #[.string ⟨#[]⟩, .int .i64 1]) ∧ _) from HNU.out)
   clear hnb HR4
   go_wp2_with fail
   refine HNU.out.mono ?_
   rintro e w3 ⟨rfl, hu2⟩
   have HU2 := Lib.hid (HU.out.trans hu2)
   clear hu2
   go_wp2_with fail
   go_ret2
   rw [HE.out]
   exact ⟨rfl, HU2.out⟩
  | some q =>
   obtain ⟨qs, hqs⟩ : ∃ qs : ByteArray, qs = ⟨q.toArray⟩ := ⟨_, rfl⟩
   have HR := Lib.hid (show endT S qs.data.toList = rr by rw [← HR4.out, hnb, hqs])
   rw [hnb] at HNU
   have HNU := Lib.hid (show Calls Tryz.prog _ _ _ (fun e w' => e = .returned (.tuple #[.string qs, .int .i64 0]) ∧ _) from by rw [hqs]; exact HNU.out)
   clear hnb HR4 hqs
   go_wp2_with fail
   refine HNU.out.mono ?_
   rintro e w3 ⟨rfl, hu2⟩
   have HU := Lib.hid (HU.out.trans hu2)
   obtain ⟨m2, d0, d1, hnone, hsome, hlen⟩ := ydi' (HH.out.1.keep HU.out)
   obtain rfl : m = m2 := by
    have := (ya2' hu2 c1).symm.trans d1
    injection this with this
    injection this with this
    injection this with this
   have HF := Lib.hid (show _ ∧ _ from ⟨hnone, hsome⟩)
   have HLN := Lib.hid hlen
   have c0 := d0
   have c1 := d1
   clear hu2 hnone hsome hlen d0 d1 HNU
   obtain ⟨lo, hlo⟩ : ∃ lo, yak' (qs).data.toList S.l = lo := ⟨_, rfl⟩
   cases lo with
   | some n1 =>
    obtain ⟨x1, nv1, -, hb1, hk0⟩ := HF.out.2 qs n1 hlo
    have hk1 := hk0 w3 rfl
    clear hk0
    have HE := Lib.hid (show rr = (5, []) by rw [← HR.out]; unfold endT; rw [if_pos (show (yak' (qs).data.toList S.l).isSome = true by rw [hlo]; rfl)])
    clear hb1 hlo HR
    go_wp2_with fail
    go_ret2
    rw [HE.out]
    exact ⟨rfl, HU.out⟩
   | none =>
    have hk1 := HF.out.1 qs hlo w3 rfl
    have HR2 := Lib.hid (show (if S.room ≤ S.l.length then (9, []) else (0, (qs).data.toList)) = rr by rw [← HR.out]; unfold endT; rw [if_neg (show ¬ (yak' (qs).data.toList S.l).isSome = true by rw [hlo]; decide)])
    clear hlo HR
    go_wp2_with fail
    by_cases hrm : S.room ≤ S.l.length
    case' pos =>
     have HE := Lib.hid (show rr = (9, []) by rw [← HR2.out, if_pos hrm])
     have q9 : decide (S.room ≤ ((S.l.length : Nat) : Int)) = true := decide_eq_true hrm
    case' neg =>
     have HE := Lib.hid (show rr = (0, (qs).data.toList) by rw [← HR2.out, if_neg hrm])
     have q9 : decide (S.room ≤ ((S.l.length : Nat) : Int)) = false := decide_eq_false hrm
    all_goals
     clear hrm HR2
     refine yan' (fun W => W.cell? ⟨t, 0, none⟩ = some (.int .i64 S.room) ∧ W.cell? ⟨t, 1, none⟩ = some (.map (some m))) 11 (by kernel_rfl) ?_
     refine rT [(0, false), (1, false), (2, false), (3, true), (5, false), (6, false), (7, false), (8, true)] 3 ?_
     apply Exists.intro; refine ⟨?_, ⟨c0, c1⟩, ?_⟩
     ·iterate 8 ((first | (apply ybm'; (· (simp only [k_i, k_j, k_k]; try rfl)); (· rfl)) | ((first | apply yav' | apply yas'); (· (simp only [k_i, k_j, k_k]; try rfl)); (· rfl); (· (intros; go_simp; try with_reducible rfl)))); (· (simp only [Act.put, k_a, k_b, k_c]; try rfl)))
      exact rfl
     refine ybb' (fuel := 2) (i := 4) (by kernel_rfl) (by rfl) (fun K hK => ?_)
     have hln := HLN.out 3 w3.drew rfl
     go_wp2_with fail
     refine hK _ _ ⟨c0, c1⟩ ?_
     clear hK
     refine rT [(9, false), (10, false)] 0 ?_
     apply Exists.intro; refine ⟨?_, ⟨c0, c1⟩, ?_⟩
     ·iterate 2 ((first | (apply ybm'; (· (simp only [k_i, k_j, k_k]; try rfl)); (· rfl)) | ((first | apply yav' | apply yas'); (· (simp only [k_i, k_j, k_k]; try rfl)); (· rfl); (· (intros; go_simp; try with_reducible rfl)))); (· (simp only [Act.put, k_a, k_b, k_c]; try rfl)))
      exact rfl
     refine yah' (by kernel_rfl) ?_ _
     go_wp2_with fail
     go_ret2
     rw [HE.out]
     exact ⟨rfl, HU.out.drew⟩
end
end Go.Proofs.YtcnkifbjlihaoaaGreatDoor
