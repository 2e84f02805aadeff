/-
  Texts of this claim, laid together.
-/
import Derived.Test.YtcnkifbjlihaoaaGreatDoorMg4
import Derived.Shelf.SlIter.Nil
import Derived.Shelf.SortM.Plain
import Derived.Shelf.SortM.SortNone
import Derived.Ground.GgzProg
import Derived.Ground.SlgmProg
import Derived.Test.YtcnkifbjlihaoaaGreatDoorProg
import Derived.Sort.KeysCollected
set_option linter.unusedVariables false
set_option linter.unusedSimpArgs false

namespace Go.Proofs
open Go.Shelf
def Tryz.keys131_ren : Go.Shelf.Ren := ⟨fun | 7 => 131 | 10 => 173 | n => n, fun | 23 => 210 | 26 => 9 | 3 => 211 | 28 => 208 | 0 => 0 | 27 => 207 | 33 => 229 | 4 => 4 | n => n, fun | n => n⟩
theorem Tryz.keys131 : Go.Proofs.SlLaysZ.n7 Tryz.prog Tryz.keys131_ren := {
 mixed := by kernel_rfl
 f7 := ⟨Tryz.f131.name, by decide, Tryz.func131.trans (congrArg some (by kernel_rfl))⟩
 f10 := ⟨Tryz.f173.name, by decide, Tryz.func173.trans (congrArg some (by kernel_rfl))⟩
 t0 := Tryz.underlying0
 a0 := Tryz.isAgg0
 z0 := Tryz.sizeOf0
 v0 := Tryz.zeroValue0
 t4 := Tryz.underlying4
 a4 := Tryz.isAgg4
 z4 := Tryz.sizeOf4
 v4 := Tryz.zeroValue4
 t23 := Tryz.underlying210
 a23 := Tryz.isAgg210
 z23 := Tryz.sizeOf210
 v23 := Tryz.zeroValue210
 t26 := Tryz.underlying9
 a26 := Tryz.isAgg9
 z26 := Tryz.sizeOf9
 v26 := Tryz.zeroValue9
 t27 := Tryz.underlying207
 a27 := Tryz.isAgg207
 z27 := Tryz.sizeOf207
 v27 := Tryz.zeroValue207
 t28 := Tryz.underlying208
 a28 := Tryz.isAgg208
 z28 := Tryz.sizeOf208
 v28 := Tryz.zeroValue208
 t33 := Tryz.underlying229
 a33 := Tryz.isAgg229
 z33 := Tryz.sizeOf229
 v33 := Tryz.zeroValue229 }
def Tryz.sorted130_ren : Go.Shelf.Ren := ⟨fun | 6 => 130 | 8 => 171 | 9 => 172 | 11 => 206 | 13 => 200 | 12 => 207 | 23 => 240 | 24 => 241 | 14 => 248 | 15 => 249 | 16 => 250 | 17 => 251 | 18 => 252 | 19 => 253 | 20 => 254 | 21 => 255 | 22 => 256 | 25 => 282 | 26 => 273 | 27 => 274 | 28 => 283 | 29 => 284 | 30 => 285 | 31 => 301 | n => n, fun | 26 => 9 | 28 => 208 | 24 => 94 | 0 => 0 | 3 => 3 | 37 => 250 | 48 => 312 | 50 => 249 | 4 => 4 | 40 => 306 | 39 => 305 | 45 => 242 | 5 => 5 | 9 => 9 | 51 => 333 | 55 => 337 | 57 => 353 | 58 => 162 | 33 => 229 | n => n, fun | n => n⟩
theorem Tryz.sorted130 : Go.Proofs.SlLaysZ.n6 Tryz.prog Tryz.sorted130_ren := {
 mixed := by kernel_rfl
 f6 := ⟨Tryz.f130.name, by decide, Tryz.func130.trans (congrArg some (by kernel_rfl))⟩
 f8 := ⟨Tryz.f171.name, by decide, Tryz.func171.trans (congrArg some (by kernel_rfl))⟩
 f11 := ⟨Tryz.f206.name, by decide, Tryz.func206.trans (congrArg some (by kernel_rfl))⟩
 t0 := Tryz.underlying0
 a0 := Tryz.isAgg0
 z0 := Tryz.sizeOf0
 v0 := Tryz.zeroValue0
 t24 := Tryz.underlying94
 a24 := Tryz.isAgg94
 z24 := Tryz.sizeOf94
 v24 := Tryz.zeroValue94
 t26 := Tryz.underlying9
 a26 := Tryz.isAgg9
 z26 := Tryz.sizeOf9
 v26 := Tryz.zeroValue9
 t28 := Tryz.underlying208
 a28 := Tryz.isAgg208
 z28 := Tryz.sizeOf208
 v28 := Tryz.zeroValue208
 i26 := by kernel_rfl }
def Tryz.sort172_ren : Go.Shelf.Ren := ⟨fun | 6 => 172 | 8 => 200 | 9 => 207 | 19 => 240 | 20 => 241 | 21 => 248 | 22 => 249 | 23 => 250 | 24 => 251 | 25 => 252 | 26 => 253 | 27 => 254 | 28 => 255 | 29 => 256 | 36 => 282 | 31 => 273 | 32 => 274 | 37 => 283 | 38 => 284 | 39 => 285 | 41 => 301 | n => n, fun | 27 => 94 | 29 => 9 | 3 => 3 | 32 => 250 | 26 => 94 | 0 => 0 | 44 => 312 | 46 => 249 | 4 => 4 | 36 => 306 | 35 => 305 | 41 => 242 | 5 => 5 | 9 => 9 | 53 => 333 | 57 => 337 | 63 => 353 | 64 => 162 | n => n, fun | n => n⟩
theorem Tryz.sort172 : Go.Proofs.SlLaysM.n6 Tryz.prog Tryz.sort172_ren := {
 mixed := by kernel_rfl
 f6 := ⟨Tryz.f172.name, by decide, Tryz.func172.trans (congrArg some (by kernel_rfl))⟩
 f8 := Tryz.func200.trans (congrArg some (by kernel_rfl))
 f9 := ⟨Tryz.f207.name, by decide, Tryz.func207.trans (congrArg some (by kernel_rfl))⟩
 f19 := Tryz.func240.trans (congrArg some (by kernel_rfl))
 f20 := Tryz.func241.trans (congrArg some (by kernel_rfl))
 f21 := ⟨Tryz.f248.name, by decide, Tryz.func248.trans (congrArg some (by kernel_rfl))⟩
 f22 := ⟨Tryz.f249.name, by decide, Tryz.func249.trans (congrArg some (by kernel_rfl))⟩
 f23 := ⟨Tryz.f250.name, by decide, Tryz.func250.trans (congrArg some (by kernel_rfl))⟩
 f24 := ⟨Tryz.f251.name, by decide, Tryz.func251.trans (congrArg some (by kernel_rfl))⟩
 f25 := ⟨Tryz.f252.name, by decide, Tryz.func252.trans (congrArg some (by kernel_rfl))⟩
 f26 := ⟨Tryz.f253.name, by decide, Tryz.func253.trans (congrArg some (by kernel_rfl))⟩
 f27 := ⟨Tryz.f254.name, by decide, Tryz.func254.trans (congrArg some (by kernel_rfl))⟩
 f28 := ⟨Tryz.f255.name, by decide, Tryz.func255.trans (congrArg some (by kernel_rfl))⟩
 f29 := ⟨Tryz.f256.name, by decide, Tryz.func256.trans (congrArg some (by kernel_rfl))⟩
 f31 := Tryz.func273.trans (congrArg some (by kernel_rfl))
 f32 := Tryz.func274.trans (congrArg some (by kernel_rfl))
 f36 := ⟨Tryz.f282.name, by decide, Tryz.func282.trans (congrArg some (by kernel_rfl))⟩
 f37 := ⟨Tryz.f283.name, by decide, Tryz.func283.trans (congrArg some (by kernel_rfl))⟩
 f38 := ⟨Tryz.f284.name, by decide, Tryz.func284.trans (congrArg some (by kernel_rfl))⟩
 f39 := ⟨Tryz.f285.name, by decide, Tryz.func285.trans (congrArg some (by kernel_rfl))⟩
 f41 := ⟨Tryz.f301.name, by decide, Tryz.func301.trans (congrArg some (by kernel_rfl))⟩
 t0 := Tryz.underlying0
 a0 := Tryz.isAgg0
 z0 := Tryz.sizeOf0
 v0 := Tryz.zeroValue0
 t3 := Tryz.underlying3
 a3 := Tryz.isAgg3
 z3 := Tryz.sizeOf3
 v3 := Tryz.zeroValue3
 t4 := Tryz.underlying4
 a4 := Tryz.isAgg4
 z4 := Tryz.sizeOf4
 v4 := Tryz.zeroValue4
 t5 := Tryz.underlying5
 a5 := Tryz.isAgg5
 z5 := Tryz.sizeOf5
 v5 := Tryz.zeroValue5
 t9 := Tryz.underlying9
 a9 := Tryz.isAgg9
 z9 := Tryz.sizeOf9
 v9 := Tryz.zeroValue9
 t26 := Tryz.underlying94
 a26 := Tryz.isAgg94
 z26 := Tryz.sizeOf94
 v26 := Tryz.zeroValue94
 t27 := Tryz.underlying94
 a27 := Tryz.isAgg94
 z27 := Tryz.sizeOf94
 v27 := Tryz.zeroValue94
 t29 := Tryz.underlying9
 a29 := Tryz.isAgg9
 z29 := Tryz.sizeOf9
 v29 := Tryz.zeroValue9
 t32 := Tryz.underlying250
 a32 := Tryz.isAgg250
 z32 := Tryz.sizeOf250
 v32 := Tryz.zeroValue250
 t35 := Tryz.underlying305
 a35 := Tryz.isAgg305
 z35 := Tryz.sizeOf305
 v35 := Tryz.zeroValue305
 t36 := Tryz.underlying306
 a36 := Tryz.isAgg306
 z36 := Tryz.sizeOf306
 v36 := Tryz.zeroValue306
 t41 := Tryz.underlying242
 a41 := Tryz.isAgg242
 z41 := Tryz.sizeOf242
 v41 := Tryz.zeroValue242
 t44 := Tryz.underlying312
 a44 := Tryz.isAgg312
 z44 := Tryz.sizeOf312
 v44 := Tryz.zeroValue312
 t46 := Tryz.underlying249
 a46 := Tryz.isAgg249
 z46 := Tryz.sizeOf249
 v46 := Tryz.zeroValue249
 t53 := Tryz.underlying333
 a53 := Tryz.isAgg333
 z53 := Tryz.sizeOf333
 v53 := Tryz.zeroValue333
 t57 := Tryz.underlying337
 a57 := Tryz.isAgg337
 z57 := Tryz.sizeOf337
 v57 := Tryz.zeroValue337
 t63 := Tryz.underlying353
 a63 := Tryz.isAgg353
 z63 := Tryz.sizeOf353
 v63 := Tryz.zeroValue353
 t64 := Tryz.underlying162
 a64 := Tryz.isAgg162
 z64 := Tryz.sizeOf162
 v64 := Tryz.zeroValue162 }
open Go.RowKit Go.Maps Go.Sort Go.Shelf
theorem Tryz.sorts130 (m : Nat) : AnyZ.SortsIn Tryz.prog Tryz.sorted130_ren Fence.wide m :=
  ⟨fun blk off cap ss W hH hblk hsz => callsIn_wide.2 (AnyM.slices_Sort_string Tryz.sort172 blk off cap ss W hH hblk hsz),
   fun p cap W => callsIn_wide.2 (AnyM.slices_Sort_string_none Tryz.sort172 p cap W)⟩
theorem Tryz.maps_Keys_131 (mb : Option Nat) (W : World) : CallsIn Fence.wide 5 Tryz.prog 131 #[.map mb] W fun e w' => e = .returned (.func (.func 173) #[] #[.pointer (some ⟨W.heap.size, 0, none⟩)]) ∧ w' = W.alloc (.cells #[.map mb] 210) :=
 AnyZ.keys_in Tryz.keys131 Fence.wide 5 trivial rfl mb W
set_option maxHeartbeats 1000000 in
theorem Tryz.slices_Sorted_keys_130_131 {H : Type} (b nn : Nat) (D0 : DataW H) (R : Value → Option (DataW H × List MemPlace)) (w : World) (hown : w.ownsMap Tryz.prog 9 R b nn D0) (hmax : Maps.size D0 ≤ maxLen) (hbytes : Maps.size D0 * 16 ≤ 140737488355328) :
  CallsIn Fence.wide 5 Tryz.prog 130 #[.func (.func 173) #[] #[.pointer (some ⟨w.heap.size, 0, none⟩)]] (w.alloc (.cells #[.map (some b)] 210)) fun e w' => ∃ (v : Value) (ss : List (List UInt8)), e = .returned v ∧ ss.Perm (strKeys D0) ∧
   w'.ownsRow (w.alloc (.cells #[.map (some b)] 210)).heap.size 9 1 v ss.length ((ss.mergeSort (fun x y => decide (x ≤ y))).map encStr) ∧ (v = .slice none 0 0 ↔ ss = []) ∧ Below (w.alloc (.cells #[.map (some b)] 210)).heap.size (w.alloc (.cells #[.map (some b)] 210)) w' := by
 have hbl := hown.lt
 have hseq : SeqGives Fence.wide 2 Tryz.prog 173 #[.pointer (some ⟨w.heap.size, 0, none⟩)] encStr (fun ss => ss.Perm (strKeys D0)) (Maps.size D0) (w.alloc (.cells #[.map (some b)] 210)) :=
  AnyZ.keys_gives (ρ := Tryz.keys131_ren) { Tryz.keys131 with } Fence.wide _ trivial rfl (by omega) w.heap.size b nn D0 _ (by simp) (by simp) (by
   obtain ⟨es, clock, hb, Ft, hs, hD⟩ := hown
   exact ⟨es, clock, (Below.heap_alloc _ _ b hbl).trans hb, Ft, hs, hD⟩)
 exact AnyZ.sorted_in Tryz.sorted130 Fence.wide 5 trivial trivial trivial trivial rfl (by omega) (Tryz.sorts130 _) (enters_of Tryz.func172 (by kernel_rfl) rfl) 173 #[.pointer (some ⟨w.heap.size, 0, none⟩)] trivial (enters_of Tryz.func173 (by kernel_rfl) rfl) _ _ hmax hbytes _ hseq
end Go.Proofs

namespace Go.Av
open Go.RowKit Go.Sort Go.Maps
theorem yo7' {l ss : List Bs} (hr : l.Pairwise (· < ·)) (hp : ss.Perm l) : ss.mergeSort (fun x y => decide (x ≤ y)) = l := by
 refine (mergeSort_of_perm hp).trans ?_
 refine List.mergeSort_of_pairwise (List.Pairwise.imp (fun h => ?_) hr)
 simp only [leB, decide_eq_true_eq]
 exact List.le_of_lt h
def ofT (S : TreeS) (sess : Int) : List Bs := (S.l.filter fun e => decide (0 < sess) && e.2.owner == sess).map (·.1)
end Go.Av
namespace Go.Proofs.YtcnkifbjlihaoaaGreatDoor
open Go.RowKit Go.Av Go.Maps Go.Sort
section
variable {w0 w : World} {t : Nat} {S : TreeS} {P P' : List PRow} {R : List Thing} {rows : List (Value × Bs)}
def ypm' (w0 : World) (t : Nat) (S : TreeS) (P : List PRow) (R : List Thing) (rows : List (Value × Bs)) (l : List Bs) (e : Ending) (w' : World) : Prop :=
 ∃ v P', e = .returned v ∧ (∀ r ∈ P, r ∈ P') ∧ (1, v, l.map sv) ∈ P' ∧ Sep w0 w' (yab' w0 P' :: yan' t S P' :: R) rows
set_option maxRecDepth 100000 in
set_option maxHeartbeats 4000000 in
theorem yff' (h : Sep w0 w (yab' w0 P :: yan' t S P :: R) rows) (hn : S.l.length ≤ 100000) (hk : ∀ e ∈ S.l, e.1.length ≤ 100000) :
  Calls Tryz.prog 50 #[.pointer (some ⟨t, 0, none⟩)] w (ypm' w0 t S P R rows (S.l.map (·.1))) := by
 obtain ⟨m, gs, hperm, hrise, hgs, hS⟩ := yhe' (h.perm (List.Perm.swap _ _ _))
 obtain ⟨D, hM, -⟩ := hS.has (T := yam' .string m (gs.map NodeG.kv)) (by simp)
 have hgl : gs.length = S.l.length := by rw [← hperm.length_eq, List.length_map]
 obtain ⟨D0, ho, hz, hp⟩ := yri' (P := Tryz.prog) (k := 9) (l := gs.map fun g => (⟨g.key.toArray⟩, Value.pointer (some ⟨g.blk, 0, none⟩))) (by rw [List.map_map]; exact hM) Tryz.underlying9 (by simp; omega) (by
  intro x hx
  obtain ⟨g, hg, rfl⟩ := List.mem_map.1 hx
  have := hk g.ent (hperm.mem_iff.1 (List.mem_map_of_mem hg))
  unfold maxLen
  show g.key.toArray.size ≤ _
  simp only [List.size_toArray]
  have h2 : g.ent.1 = g.key := rfl
  rw [h2] at this
  omega)
 rw [List.length_map] at hz
 have HP := Lib.hid (show (strKeys D0).Perm (S.l.map (·.1)) from hp.trans (by
  rw [List.map_map]
  have := hperm.map (·.1)
  rw [List.map_map] at this
  exact this))
 have HRI := Lib.hid hrise
 have HC := Lib.hid (show _ ∧ _ ∧ _ from ⟨hperm, hrise, hgs⟩)
 have HX := Lib.hid hS
 have cK := callsIn_wide.1 (Tryz.maps_Keys_131 (some m) w)
 have cS := callsIn_wide.1 (Tryz.slices_Sorted_keys_130_131 m _ D0 yke' w ho (by rw [hz]; unfold maxLen; omega) (by rw [hz]; omega))
 have CK := Lib.hid cK
 have CS := Lib.hid cS
 clear cK cS ho hz hp h hperm hrise hgs hS hM
 go_enter Tryz.func50, Tryz.ntmps50
 go_wp2_with (first | refine v1 ?_ | (refine vS ?_; clear HX; intro w HX) | (refine vA ?_; clear HX; (first | (have hq := b; clear hq; intro w b2 HX) | intro w b HX)) | (go_at_call 131; go_must (refine CK.out.mono ?_); rintro e w1 ⟨rfl, rfl⟩) | (go_at_call 130; go_must (refine CS.out.mono ?_); rintro e w1 ⟨v, ss, rfl, hS, hrow, hnil, hb⟩))
 go_ret
 obtain ⟨E, hr, hE⟩ := ywo' hrow
 have hss : ss.mergeSort (fun x y => decide (x ≤ y)) = S.l.map (·.1) := yo7' HRI.out (hS.trans HP.out)
 rw [hss] at hr
 have hsz : w.heap.size ≤ (w.alloc (.cells #[.map (some m)] 210)).heap.size := by simp
 have h1 := (HX.out.up3).poolRead hr (fun b hb => Nat.le_trans hsz (hE b hb)) ((Upd.alloc0 w _ []).trans (Upd.of_below hb))
 obtain ⟨hperm, hrise, hgs⟩ := HC.out
 have h2 := yhf' (S := S) (P := (1, v, (S.l.map (·.1)).map sv) :: P) (h1.up3.up3.up3) hperm hrise (fun g hg => k_n _ (hgs g hg))
 exact ⟨v, _, rfl, fun q hq => k_n _ hq, k_s, h2.up1⟩
theorem yz1' {S : TreeS} {sess : Int} {i : Nat} (hi : i < S.l.length) : ofT ⟨S.room, S.l.take (i + 1)⟩ sess = ofT ⟨S.room, S.l.take i⟩ sess ++ (if decide (0 < sess) && S.l[i].2.owner == sess then [S.l[i].1] else []) := by
 unfold ofT
 dsimp only
 rw [List.take_succ_eq_append_getElem hi, List.filter_append, List.map_append]
 congr 1
 cases hq : (decide (0 < sess) && S.l[i].2.owner == sess) <;> simp [List.filter_cons, hq]
def ysa' (w0 : World) (t : Nat) (S : TreeS) (P : List PRow) (R : List Thing) (rows : List (Value × Bs)) (l : List Bs) (e : Ending) (w' : World) : Prop :=
 ∃ v P', e = .returned v ∧ (∀ r ∈ P, r ∈ P') ∧ Sep w0 w' (yai' 1 v (l.map sv) :: yab' w0 P' :: yan' t S P' :: R) rows
def y0b' (w0 : World) (t : Nat) (S : TreeS) (P : List PRow) (R : List Thing) (rows : List (Value × Bs)) (sess : Int) (k : Nat) (v5 v11 : Value) (w : World) : Prop :=
 ∃ (i : Nat) (a : Option Addr) (n c : Nat), i + k = S.l.length ∧ v11 = .int .i64 (i : Int) ∧ v5 = .slice a n c ∧ Sep w0 w (yai' 1 (.slice a n c) ((ofT ⟨S.room, S.l.take i⟩ sess).map sv) :: yab' w0 P :: yan' t S P :: R) rows
set_option maxRecDepth 100000 in
set_option maxHeartbeats 4000000 in
theorem yk1' (h : Sep w0 w (yab' w0 P :: yan' t S P :: R) rows) (sess : Int) (hn : S.l.length ≤ 100000) (hk : ∀ e ∈ S.l, e.1.length ≤ 100000) :
  Calls Tryz.prog 80 #[.pointer (some ⟨t, 0, none⟩), .int .i64 sess] w (ysa' w0 t S P R rows (ofT S sess)) := by
 have HN := Lib.hid hn
 have HK := Lib.hid hk
 have HX := Lib.hid h
 clear hn hk h
 go_enter Tryz.func80, Tryz.ntmps80
 go_wp2_with (first | refine v1 ?_ | (refine vS ?_; clear HX; intro w HX) | (refine vA ?_; clear HX; (first | (have hq := b; clear hq; intro w b2 HX) | intro w b HX)) | (refine vP ?_; clear HX; intro w av nv cv HX))
 refine (yff' HX.out HN.out HK.out).mono ?_
 rintro e w ⟨v, P', rfl, hP', hv, hS⟩
 obtain ⟨E, hE⟩ := hS.poolGet hv
 obtain ⟨a0, n0, c0, rfl, hl0, hn0, hc0, hne⟩ := ReadRow.some hE
 rw [List.length_map, List.length_map, Nat.mul_one] at hl0
 subst hl0
 replace HX := Lib.hid hS
 have HNE := Lib.hid hne
 have HV := Lib.hid hv
 have HPP := Lib.hid hP'
 clear hS hE hne hv hP' hn0 hc0
 have HST := Lib.hid (show y0b' w0 t S P' R rows sess S.l.length (.slice none 0 0) (.int .i64 (0 : Int)) w from ⟨0, none, 0, 0, by simp, rfl, rfl, HX.out.nilRow 1⟩)
 clear HX
 go_wp2_with (first | refine v1 ?_ | (refine vS ?_; clear HX; intro w HX) | (refine vA ?_; clear HX; (first | (have hq := b; clear hq; intro w b2 HX) | intro w b HX)) | (refine vP ?_; clear HX; intro w av nv cv HX))
 go_loopg [5, 11] S.l.length (fun k v5 v11 wr => y0b' w0 t S P' R rows sess k v5 v11 wr)
 case atStart => exact HST.out
 case round =>
  obtain ⟨i, a, n, c, hik, rfl, rfl, hS⟩ := hrel
  have HIK := Lib.hid hik
  by_cases hlt : i < S.l.length
  case neg =>
   obtain rfl : i = S.l.length := by omega
   have HX := Lib.hid hS
   clear hS hlt hik
   go_wp2_with (first | refine v1 ?_ | (refine vS ?_; clear HX; intro w HX) | (refine vA ?_; clear HX; (first | (have hq := b; clear hq; intro w b2 HX) | intro w b HX)) | (refine vP ?_; clear HX; intro w av nv cv HX))
   go_ret
   have h1 := HX.out
   rw [List.take_length] at h1
   exact ⟨_, P', rfl, HPP.out, h1⟩
  case pos =>
   have hmem : S.l[i] ∈ S.l := List.getElem_mem hlt
   have hlook : yaj' S.l[i].1 S.l = some S.l[i].2 := (ybt' (yd6' hS.up2)).2 hmem
   have hnd := yd6' hS.up2
   obtain ⟨g, off, rfl⟩ := HNE.out (by intro e; rw [List.map_map, List.map_eq_nil_iff] at e; rw [e] at hlt; simp at hlt)
   obtain ⟨E, hE⟩ := hS.up1.poolGet HV.out
   have hl := yb5' (P := Tryz.prog) (ty := 9) (i := i) (v := sv S.l[i].1) hE (by kernel_rfl) (by simp [hlt])
   obtain ⟨m, x, nv, kvs, N, hnv, hkv, hS2, back⟩ := yux' hS.up2 hlook
   have HB := Lib.hid (show ∀ w' R', Sep w0 w' (yk0' x S.l[i].2 nv :: ydl' t m S.room :: yam' .string m kvs :: ThL N :: R') rows → Sep w0 w' (yan' t S P' :: R') rows from fun w' R' hh => by
    have := back w' S.l[i].2 nv P' R' (fun _ h => h) hnv hh
    rw [yny' hnd hlook] at this
    exact this)
   have HT := Lib.hid (yz1' (sess := sess) hlt)
   obtain ⟨en, hen⟩ : ∃ en, S.l[i] = en := ⟨_, rfl⟩
   rw [hen] at HT hl hS2 hkv HB
   obtain ⟨ps, hps⟩ : ∃ ps : ByteArray, ps = ⟨en.1.toArray⟩ := ⟨_, rfl⟩
   have hpv : sv en.1 = .string ps := by rw [hps]; rfl
   have hpl : ps.data.toList = en.1 := by rw [hps]
   rw [hpv] at hl hkv
   have hlk := yp3' (Lib.hid hS2) ps (by (repeat (first | (with_reducible exact k_s) | (with_reducible apply k_m)))) (by rw [hpl, hpv]; exact hkv)
   have HX := Lib.hid hS2
   have HPV := Lib.hid hpv
   have q0 : decide (i < S.l.length) = true := decide_eq_true hlt
   have q9 : i ≤ 100000 := by have := HN.out; omega
   obtain ⟨zs, hzs⟩ : ∃ z, decide (0 < sess) = z := ⟨_, rfl⟩
   obtain ⟨zo, hzo⟩ : ∃ z, (en.2.owner == sess) = z := ⟨_, rfl⟩
   rw [hzs, hzo] at HT
   clear hS hS2 hlook hnd hE back hen hps hpv hpl hkv hnv hmem
   cases zs with
   | false =>
    go_wp2_with (first | refine v1 ?_ | (refine vS ?_; clear HX; intro w HX) | (refine vA ?_; clear HX; (first | (have hq := b; clear hq; intro w b2 HX) | intro w b HX)) | (refine vP ?_; clear HX; intro w av nv cv HX) | ((with_reducible apply yaw' hl); (· rfl); (· rfl); simp only [Act.put, k_a, k_b, k_c]))
    go_roundg (S.l.length - (i + 1))
    case rel =>
     have h2 := HB.out _ _ HX.out
     refine ⟨i + 1, a, n, c, by omega, by go_num, rfl, ?_⟩
     rw [HT.out]
     simp only [Bool.false_and, Bool.false_eq_true, if_false, List.append_nil]
     exact Sep.pm h2 3 [1, 2, 0] rfl rfl
    case measure => omega
   | true =>
    cases zo with
    | false =>
     go_wp2_with (first | refine v1 ?_ | (refine vS ?_; clear HX; intro w HX) | (refine vA ?_; clear HX; (first | (have hq := b; clear hq; intro w b2 HX) | intro w b HX)) | (refine vP ?_; clear HX; intro w av nv cv HX) | ((with_reducible apply yaw' hl); (· rfl); (· rfl); simp only [Act.put, k_a, k_b, k_c]))
     go_roundg (S.l.length - (i + 1))
     case rel =>
      have h2 := HB.out _ _ HX.out
      refine ⟨i + 1, a, n, c, by omega, by go_num, rfl, ?_⟩
      rw [HT.out]
      simp only [Bool.and_false, Bool.false_eq_true, if_false, List.append_nil]
      exact Sep.pm h2 3 [1, 2, 0] rfl rfl
     case measure => omega
    | true =>
     have HBD := Lib.hid (show ∀ n, ((ofT ⟨S.room, S.l.take i⟩ sess).map sv).length = n * 1 → n + 1 ≤ 140737488355328 ∧ (n + 1) * 16 ≤ 140737488355328 from fun n hn => by
      have h1 : (ofT ⟨S.room, S.l.take i⟩ sess).length ≤ S.l.length := by
       unfold ofT
       rw [List.length_map]
       exact Nat.le_trans (List.length_filter_le _ _) (by simp; omega)
      have h2 := HN.out
      rw [List.length_map] at hn
      omega)
     go_wp2_with (first | refine v1 ?_ | (refine vS ?_; clear HX; intro w HX) | (refine vA ?_; clear HX; (first | (have hq := b; clear hq; intro w b2 HX) | intro w b HX)) | (refine vP ?_; clear HX; intro w av nv cv HX) | ((with_reducible apply yaw' hl); (· rfl); (· rfl); simp only [Act.put, k_a, k_b, k_c]))
     go_roundg (S.l.length - (i + 1))
     case rel =>
      have h1 := HX.out.cut1
      have h2 := HB.out _ _ (h1.up4.up4.up4.up4)
      refine ⟨i + 1, av, nv, cv, by omega, by go_num, rfl, ?_⟩
      rw [HT.out]
      simp only [Bool.and_self, if_true, List.map_append, List.map_cons, List.map_nil, HPV.out]
      exact Sep.pm h2 3 [1, 2, 0] rfl rfl
     case measure => omega
theorem yz6' (h : Sep w0 w (yab' w0 P :: yan' t S P :: R) rows) (sess : Int) (hn : S.l.length ≤ 100000) (hk : ∀ e ∈ S.l, e.1.length ≤ 100000) :
  Calls Tryz.prog 80 #[.pointer (some ⟨t, 0, none⟩), .int .i64 sess] w (ypm' w0 t S P R rows (ofT S sess)) :=
 (yk1' h sess hn hk).mono fun e w' ⟨v, P', he, hP, hS⟩ =>
  ⟨v, (1, v, (ofT S sess).map sv) :: P', he, fun q hq => k_n _ (hP q hq), k_s, (ya1' hS.poolRow.up1 (P' := (1, v, (ofT S sess).map sv) :: P') (fun q hq => k_n _ hq)).up1⟩
end
end Go.Proofs.YtcnkifbjlihaoaaGreatDoor

namespace Go.Av
open Go.RowKit
def ydz' (p : Bs) : Nat := (ybr' p).length
def yet' (l : List Bs) : List Bs := [8, 7, 6, 5, 4, 3, 2, 1].flatMap fun d => l.filter fun p => ydz' p == d
theorem ymv' {α : Type} (k : α → Nat) : ∀ (ds : List Nat) (l : List α), ds.Nodup → (∀ x ∈ l, k x ∈ ds) → (ds.flatMap fun d => l.filter fun x => k x == d).Perm l
 | [], l, _, h => by
  cases l with
  | nil => exact .refl _
  | cons x l => exact absurd (h x k_s) (by simp)
 | d :: ds, l, hn, h => by
  rw [List.flatMap_cons]
  have hne : ∀ d' ∈ ds, d' ≠ d := fun d' hd e => (List.nodup_cons.1 hn).1 (e ▸ hd)
  have he : (ds.flatMap fun d' => l.filter fun x => k x == d') = ds.flatMap fun d' => (l.filter fun x => !(k x == d)).filter fun x => k x == d' := by
   rw [List.flatMap_def, List.flatMap_def]
   congr 1
   apply List.map_congr_left
   intro d' hd
   rw [List.filter_filter]
   apply List.filter_congr
   intro x _
   have := hne d' hd
   by_cases hx : k x = d'
   ·have h2 : ¬ k x = d := by omega
    simp [hx, this]
   ·simp [hx]
  rw [he]
  refine ((ymv' k ds (l.filter fun x => !(k x == d)) (List.nodup_cons.1 hn).2 (fun x hx => ?_)).append_left _).trans (List.filter_append_perm _ l)
  have h1 := List.mem_filter.1 hx
  have h2 := h x h1.1
  simp at h1
  rcases List.mem_cons.1 h2 with h3 | h3
  ·exact absurd h3 h1.2
  ·exact h3
theorem yuh' (f : Nat → Bs) (n : Nat) (τ : Nat → Nat) (hp : PermF 0 n (fun i => i) τ) (hb : InBlk (fun i => -(ydz' (f i) : Int)) τ 0 n) :
  (((List.range n).map τ).map f).Perm ((List.range n).map f) ∧ ((∀ i, i < n → 1 ≤ ydz' (f i) ∧ ydz' (f i) ≤ 8) → ((List.range n).map τ).map f = yet' ((List.range n).map f)) := by
 have hpm : ((List.range n).map τ).Perm (List.range n) := by
  have := hp.all n (Nat.le_refl _)
  rwa [List.map_id'] at this
 refine ⟨hpm.map f, fun hd => ?_⟩
 have he : (List.range n).map τ = [8, 7, 6, 5, 4, 3, 2, 1].flatMap fun d => (List.range n).filter fun i => ydz' (f i) == d := by
  refine ylo' (K := fun i => -(ydz' (f i) : Int)) (hpm.trans (ymv' (fun i => ydz' (f i)) _ _ (by decide) (fun i hi => ?_)).symm) ?_ ?_
  ·have := hd i (List.mem_range.1 hi)
   simp
   omega
  ·rw [List.pairwise_map]
   refine List.Pairwise.imp_of_mem ?_ List.pairwise_lt_range
   intro i j hi hj hij
   exact hb.sort i j (Nat.zero_le _) hij (List.mem_range.1 hj)
  ·rw [List.pairwise_flatMap]
   refine ⟨fun d _ => ?_, ?_⟩
   ·refine List.Pairwise.imp_of_mem ?_ (List.pairwise_lt_range.filter _)
    intro i j hi hj hij
    have h1 := (List.mem_filter.1 hi).2
    have h2 := (List.mem_filter.1 hj).2
    simp at h1 h2
    exact .inr ⟨show -(ydz' (f i) : Int) = -(ydz' (f j) : Int) by rw [h1, h2], hij⟩
   ·have : ([8, 7, 6, 5, 4, 3, 2, 1] : List Nat).Pairwise (fun a b => b < a) := by decide
    refine this.imp ?_
    intro a b hab x hx y hy
    have h1 := (List.mem_filter.1 hx).2
    have h2 := (List.mem_filter.1 hy).2
    simp at h1 h2
    exact .inl (show -(ydz' (f x) : Int) < -(ydz' (f y) : Int) by rw [h1, h2]; omega)
 rw [he]
 unfold yet'
 rw [List.map_flatMap]
 rw [List.flatMap_def, List.flatMap_def]
 congr 1
 apply List.map_congr_left
 intro d _
 rw [List.filter_map]
 rfl
def purT (l : List Bs) (S : TreeS) : TreeS := l.foldl (fun S p => { S with l := remT p S.l }) S
theorem yqf' {K : Nat} : ∀ (l : List Bs) {S : TreeS}, TreeB K S → TreeB K (purT l S)
 | [], _, h => h
 | p :: l, S, h => yqf' l (y0u' h p)
theorem yt1' {l : List Bs} {S : TreeS} {i : Nat} (hi : i < l.length) : purT (l.take (i + 1)) S = { purT (l.take i) S with l := remT l[i] (purT (l.take i) S).l } := by
 rw [List.take_succ_eq_append_getElem hi]
 unfold purT
 rw [List.foldl_append]
 rfl
end Go.Av
namespace Go.Proofs.YtcnkifbjlihaoaaGreatDoor
open Go.RowKit Go.Av
section
variable {w0 w : World} {t : Nat} {S : TreeS} {P P' : List PRow} {R : List Thing} {rows : List (Value × Bs)}
set_option maxRecDepth 100000 in
theorem yvi' (a b : Int) (w : World) : Calls Tryz.prog 155 #[.int .i64 a, .int .i64 b] w fun e w' => (∃ r : Int, e = .returned (.int .i64 r) ∧ (r < 0 ↔ a < b)) ∧ w' = w := by
 have qa : (a != a) = false := by simp
 have qb : (b != b) = false := by simp
 rcases Int.lt_trichotomy a b with h | h | h
 ·have q1 : decide (a < b) = true := decide_eq_true h
  go_enter Tryz.func155, Tryz.ntmps155
  go_wp2
  go_ret
  exact ⟨⟨_, rfl, by omega⟩, rfl⟩
 ·subst h
  have q1 : decide (a < a) = false := decide_eq_false (by omega)
  go_enter Tryz.func155, Tryz.ntmps155
  go_wp2
  go_ret
  exact ⟨⟨_, rfl, by omega⟩, rfl⟩
 ·have q1 : decide (a < b) = false := decide_eq_false (by omega)
  have q2 : decide (b < a) = true := decide_eq_true h
  go_enter Tryz.func155, Tryz.ntmps155
  go_wp2
  go_ret
  exact ⟨⟨_, rfl, by omega⟩, rfl⟩
set_option maxRecDepth 100000 in
theorem yv4' (hd : DoorN w0) : ymb' w0 (fun p => -(ydz' p : Int)) (fun p => p.length ≤ 100000) := by
 intro x y w R rows hx hy h
 have HX := Lib.hid h
 have hpy := yfe' ⟨y.toArray⟩
 have hpx := yfe' ⟨x.toArray⟩
 have HPY := Lib.hid (fun w hw => hpy w hw (by show y.toArray.size ≤ _; rw [List.size_toArray]; unfold maxLen; omega))
 have HPX := Lib.hid (fun w hw => hpx w hw (by show x.toArray.size ≤ _; rw [List.size_toArray]; unfold maxLen; omega))
 clear h hpx hpy
 unfold sv
 go_enter Tryz.func154, Tryz.ntmps154
 go_wp2_with fail
 refine (HPY.out w (hd.1.sep HX.out)).mono ?_
 rintro e w ⟨v, D, rfl, ho, hu⟩
 obtain ⟨a, n, c, rfl, hl, hn, hc, -⟩ := id ho
 rw [List.length_map, Nat.mul_one] at hl
 have hx2 := HX.out.keep (hu.mono (fun _ h => h) (fun b hb => by cases hb) : Upd _ w [] [])
 clear HX HPY
 have HX := Lib.hid hx2
 clear hx2 ho hu
 go_wp2_with fail
 refine (HPX.out w (hd.1.sep HX.out)).mono ?_
 rintro e w ⟨v, D, rfl, ho, hu⟩
 obtain ⟨a2, n2, c2, rfl, hl2, hn2, hc2, -⟩ := id ho
 rw [List.length_map, Nat.mul_one] at hl2
 have hx2 := HX.out.keep (hu.mono (fun _ h => h) (fun b hb => by cases hb) : Upd _ w [] [])
 clear HX HPX
 have HX := Lib.hid hx2
 clear hx2 ho hu
 go_wp2_with fail
 refine (yvi' _ _ _).mono ?_
 rintro e w1 ⟨⟨r, rfl, hr⟩, rfl⟩
 go_wp2_with fail
 go_ret
 refine ⟨r, rfl, hr.trans ?_, HX.out⟩
 have e1 : (ybr' y).length = n := hl
 have e2 : (ybr' x).length = n2 := hl2
 show (n : Int) < (n2 : Int) ↔ -((ybr' x).length : Int) < -((ybr' y).length : Int)
 omega
set_option maxRecDepth 100000 in
theorem yln' (a : Option Addr) (c : Nat) (fv : Value) (w : World) : Calls Tryz.prog 224 #[.slice a 0 c, .int .i64 0, .int .i64 0, fv] w fun e w' => e = .returned (.tuple #[]) ∧ w' = w := by
 go_enter Tryz.func224, Tryz.ntmps224
 go_wp2
 refine wp_loop_rounds 1 ?_
 rw [rounds_succ]
 go_wp2
 go_end0
 exact ⟨rfl, rfl⟩
set_option maxRecDepth 100000 in
theorem yrv' (a : Option Addr) (c : Nat) (fv : Value) (w : World) : Calls Tryz.prog 189 #[.slice a 0 c, .int .i64 0, fv] w fun e w' => e = .returned (.tuple #[]) ∧ w' = w := by
 go_enter Tryz.func189, Tryz.ntmps189
 go_wp2
 refine wp_loop_rounds 1 ?_
 rw [rounds_succ]
 go_wp2_with fail
 refine (yln' a c fv _).mono ?_
 rintro e w1 ⟨rfl, rfl⟩
 go_wp2_with fail
 refine wp_loop_rounds 1 ?_
 rw [rounds_succ]
 go_wp2
 go_end0
 exact ⟨rfl, rfl⟩
set_option maxRecDepth 100000 in
theorem yj1' (a : Option Addr) (c : Nat) (fv : Value) (w : World) : Calls Tryz.prog 153 #[.slice a 0 c, fv] w fun e w' => e = .returned (.tuple #[]) ∧ w' = w := by
 go_enter Tryz.func153, Tryz.ntmps153
 go_wp2_with fail
 refine (yrv' a c fv _).mono ?_
 rintro e w1 ⟨rfl, rfl⟩
 go_wp2_with fail
 go_end0
 exact ⟨rfl, rfl⟩
def yu7' (w0 : World) (v : Value) (l : List Bs) (R : List Thing) (rows : List (Value × Bs)) (e : Ending) (w' : World) : Prop :=
 e = .returned (.tuple #[]) ∧ ∃ l', l'.Perm l ∧ ((∀ p ∈ l, 1 ≤ ydz' p ∧ ydz' p ≤ 8) → l' = yet' l) ∧ Sep w0 w' (yai' 1 v (l'.map sv) :: R) rows
theorem yvr' (hd : DoorN w0) {v : Value} {l : List Bs} (h : Sep w0 w (yai' 1 v (l.map sv) :: R) rows) (hl : ∀ p ∈ l, p.length ≤ 100000) (hn : l.length ≤ 100000) :
  Calls Tryz.prog 153 #[v, yja'] w (yu7' w0 v l R rows) := by
 obtain ⟨a, n, c, rfl, h1, h2, h3⟩ := h.rowLen
 rw [List.length_map, Nat.mul_one] at h1
 by_cases h0 : n = 0
 ·subst h0
  refine (yj1' a c yja' w).mono ?_
  rintro e w1 ⟨rfl, rfl⟩
  have : l = [] := List.eq_nil_of_length_eq_zero h1
  subst this
  exact ⟨rfl, [], .refl _, fun _ => rfl, h⟩
 ·have hsome : ∃ g off, a = some ⟨g, off, none⟩ := by
   obtain ⟨y, hy, hs, -⟩ := h.rowCell (i := 0) (x := sv (l[0]'(by omega))) (by rw [List.getElem?_map, List.getElem?_eq_getElem (by omega)]; rfl)
   obtain ⟨g, off, sp⟩ := y
   simp only at hs
   subst hs
   exact ⟨g, off, hy⟩
  obtain ⟨g, off, rfl⟩ := hsome
  have hc : l.map sv = yar' n (strF (fun i => l.getD i []) fun i => i) := by
   apply List.ext_getElem
   ·simp [yar', h1]
   ·intro i g1 g2
    simp only [List.length_map] at g1
    simp [yar', strF, g1]
  have hb : (List.range n).map (fun i => l.getD i []) = l := by
   apply List.ext_getElem
   ·simp [h1]
   ·intro i g1 g2
    simp [g2]
  rw [hc] at h
  refine (yj0' (ok := fun p => p.length ≤ 100000) (yv4' hd) (fun i => ?_) (by omega) w h).mono ?_
  ·rw [List.getD_eq_getElem?_getD]
   cases hg : l[i]? with
   | none => simp
   | some p => exact hl p (List.mem_of_getElem? hg)
  ·rintro e w1 ⟨τ, rfl, ⟨hp, hbk⟩, hS⟩
   obtain ⟨e1, e2⟩ := yuh' (fun i => l.getD i []) n τ hp hbk
   rw [hb] at e1 e2
   refine ⟨rfl, _, e1, fun hh => e2 (fun i hi => ?_), ?_⟩
   ·have : l.getD i [] = l[i]'(by omega) := by rw [List.getD_eq_getElem?_getD, List.getElem?_eq_getElem (by omega)]; rfl
    show 1 ≤ ydz' (l.getD i []) ∧ ydz' (l.getD i []) ≤ 8
    rw [this]
    exact hh _ (List.getElem_mem _)
   ·have : (((List.range n).map τ).map fun i => l.getD i []).map sv = yar' n (strF (fun i => l.getD i []) τ) := by
     simp [yar', strF, Function.comp_def]
    rw [this]
    exact hS
def yyg' (w0 : World) (t : Nat) (S : TreeS) (P : List PRow) (R : List Thing) (rows : List (Value × Bs)) (l : List Bs) (e : Ending) (w' : World) : Prop :=
 ∃ l', l'.Perm l ∧ ((∀ p ∈ l, 1 ≤ ydz' p ∧ ydz' p ≤ 8) → l' = yet' l) ∧ ysa' w0 t (purT l' S) P R rows l' e w'
def yxm' (w0 : World) (t : Nat) (S : TreeS) (P : List PRow) (R : List Thing) (rows : List (Value × Bs)) (v : Value) (l : List Bs) (k : Nat) (vi : Value) (w : World) : Prop :=
 ∃ (i : Nat) (P' : List PRow), i + k = l.length ∧ vi = .int .i64 (i : Int) ∧ (∀ r ∈ P, r ∈ P') ∧ Sep w0 w (yab' w0 P' :: yan' t (purT (l.take i) S) P' :: yai' 1 v (l.map sv) :: R) rows
set_option maxRecDepth 100000 in
set_option maxHeartbeats 4000000 in
theorem yt3' {K : Nat} (h : Sep w0 w (yab' w0 P :: yan' t S P :: R) rows) (hd : DoorN w0) (hB : TreeB K S) (hK : K ≤ 100000) (sess : Int) :
  Calls Tryz.prog 85 #[.pointer (some ⟨t, 0, none⟩), .int .i64 sess] w (yyg' w0 t S P R rows (ofT S sess)) := by
 have HX := Lib.hid h
 have HB := Lib.hid (show _ ∧ _ from ⟨hB, hK⟩)
 clear h hB hK
 go_enter Tryz.func85, Tryz.ntmps85
 go_wp2_with (first | refine v1 ?_ | (refine vS ?_; clear HX; intro w HX) | (refine vA ?_; clear HX; (first | (have hq := b; clear hq; intro w b2 HX) | intro w b HX)))
 refine (yk1' HX.out sess (by have := HB.out.1.many; omega) (fun e he => by have := HB.out.1.keys e he; omega)).mono ?_
 rintro e w ⟨v, P', rfl, hP', hS⟩
 obtain ⟨a0, n0, c0, rfl, hl0, hn0, hc0⟩ := hS.rowLen
 rw [List.length_map, Nat.mul_one] at hl0
 replace HX := Lib.hid hS
 have HP := Lib.hid hP'
 clear hS hP'
 go_wp2_with (first | refine v1 ?_ | (refine vS ?_; clear HX; intro w HX) | (refine vA ?_; clear HX; (first | (have hq := b; clear hq; intro w b2 HX) | intro w b HX)))
 refine (yvr' hd HX.out (fun p hp => ?_) ?_).mono ?_
 ·obtain ⟨e, he, rfl⟩ := List.mem_map.1 hp
  have := HB.out.1.keys e (List.mem_filter.1 he).1
  omega
 ·have h1 : (ofT S sess).length ≤ S.l.length := by unfold ofT; rw [List.length_map]; exact List.length_filter_le _ _
  have := HB.out.1.many
  omega
 rintro e w ⟨rfl, l', hp, hpu, hS⟩
 have hlen := hp.length_eq
 have hkey : ∀ p ∈ l', p.length ≤ 200 := fun p hpm => by
  obtain ⟨e, he, rfl⟩ := List.mem_map.1 (hp.mem_iff.1 hpm)
  exact HB.out.1.keys e (List.mem_filter.1 he).1
 have h500 : l'.length ≤ 500 := by
  have h1 : (ofT S sess).length ≤ S.l.length := by unfold ofT; rw [List.length_map]; exact List.length_filter_le _ _
  have := HB.out.1.many
  omega
 have HPU := Lib.hid (show _ ∧ _ ∧ _ from ⟨hp, hpu, hkey⟩)
 rw [← hl0] at hn0 HX
 rw [← hl0]
 rw [← hlen] at hn0
 rw [← hl0] at hS
 rw [← hlen] at hS ⊢
 clear HX hp hpu hkey hl0 hlen
 have HX := Lib.hid hS
 clear hS
 go_wp2_with (first | refine v1 ?_ | (refine vS ?_; clear HX; intro w HX) | (refine vA ?_; clear HX; (first | (have hq := b; clear hq; intro w b2 HX) | intro w b HX)))
 have HST := Lib.hid (show yxm' w0 t S P' R rows (.slice a0 l'.length c0) l' l'.length (.int .i64 (0 : Int)) _ from ⟨0, P', by simp, rfl, fun q hq => hq, HX.out.pm 3 [1, 2, 0] rfl rfl⟩)
 clear HX
 go_loopg [15] l'.length (fun k v wr => yxm' w0 t S P' R rows (.slice a0 l'.length c0) l' k v wr)
 case atStart => exact HST.out
 case round =>
  rename World => w
  obtain ⟨i, P2, hik, rfl, hP2, hS⟩ := hrel
  clear HST
  have HX := Lib.hid hS
  have HP2 := Lib.hid hP2
  clear hS hP2
  by_cases hlt : i < l'.length
  case neg =>
   obtain rfl : i = l'.length := by omega
   clear hlt hik
   go_wp2_with (first | refine v1 ?_ | (refine vS ?_; clear HX; intro w HX) | (refine vA ?_; clear HX; (first | (have hq := b; clear hq; intro w b2 HX) | intro w b HX)))
   go_ret
   have h1 := HX.out.up2
   rw [List.take_length] at h1
   exact ⟨l', HPU.out.1, HPU.out.2.1, _, P2, rfl, fun q hq => HP2.out q (HP.out q hq), h1⟩
  case pos =>
   obtain ⟨y, hy, hs, -⟩ := HX.out.up2.rowCell (i := i) (x := sv l'[i]) (by simp [hlt])
   obtain ⟨g, off, sp⟩ := y
   simp only at hs
   subst hs hy
   obtain ⟨D, hD⟩ := HX.out.up2.fst
   obtain ⟨E, hE, -⟩ := OwnRow.read hD
   have hl := yb5' (P := Tryz.prog) (ty := 9) (i := i) (v := sv l'[i]) hE (by kernel_rfl) (by simp [hlt])
   have HTK := Lib.hid (yt1' (S := S) hlt)
   have HBI := Lib.hid (yqf' (l'.take i) HB.out.1)
   have hps := HPU.out.2.2 _ (List.getElem_mem hlt)
   obtain ⟨p, hp⟩ : ∃ p, l'[i] = p := ⟨_, rfl⟩
   rw [hp] at hl HTK hps
   have q0 : decide (i < l'.length) = true := decide_eq_true hlt
   have HPS := Lib.hid hps
   unfold sv at hl
   clear hD hE hp hps
   go_wp2_with (first | refine v1 ?_ | (refine vS ?_; clear HX; intro w HX) | (refine vA ?_; clear HX; (first | (have hq := b; clear hq; intro w b2 HX) | intro w b HX)) | ((with_reducible apply yaw' hl); (· rfl); (· rfl); simp only [Act.put, k_a, k_b, k_c]))
   refine (yf6' HX.out hd ⟨p.toArray⟩ (by show p.toArray.size ≤ _; rw [List.size_toArray]; have := HPS.out; omega) (HBI.out.ok HB.out.2)).mono ?_
   rintro e w ⟨rfl, P3, hP3, hx⟩
   clear HX hl
   have HX := Lib.hid hx
   have HP3 := Lib.hid hP3
   clear hx hP3
   go_wp2_with (first | refine v1 ?_ | (refine vS ?_; clear HX; intro w HX) | (refine vA ?_; clear HX; (first | (have hq := b; clear hq; intro w b2 HX) | intro w b HX)))
   go_roundg (l'.length - (i + 1))
   case rel => exact ⟨i + 1, P3, by omega, by go_num, fun q hq => HP3.out q (HP2.out q hq), by rw [HTK.out]; exact HX.out⟩
   case measure => omega
end
end Go.Proofs.YtcnkifbjlihaoaaGreatDoor

namespace Go.Av
open Go.RowKit
structure WaitS where
 sess : Int
 ops : List OpS
 close : Bool
 fails : Bool
abbrev yby' := List (Bs × Int)
abbrev yeh' := List (Int × WaitS)
structure PartS where
 t : TreeS
 held : yby'
 zxid : Int
 wait : yeh'
 decided : List Int
 closed : List Int
def yap' (l : List OpS) : Nat := (l.filter fun o => o.kind == 1).length
def yed' (l : List OpS) : Nat := if yap' l = 0 then 0 else l.findIdx fun o => o.kind == 1
def ya6' (W : yeh') : Nat := (W.map fun e => if e.2.fails then 0 else yap' e.2.ops).sum
def yaz' (o : OpS) : List Bs := match yat' o.p with
 | none => [o.p]
 | some up => if o.kind == 1 && seqF o.flags then [o.p, up] else [o.p]
def ydp' (p q : Bs) : Bool := decide (q = p) || (decide (q = (yat' p).getD []) || decide (yat' q = some p))
def ybp' (H : yby') (who : Int) (p : Bs) : Bool := ybo' p && H.any fun e => e.2 != who && ydp' p e.1
def setH (H : yby') (p : Bs) (who : Int) : yby' := if (H.any fun e => decide (e.1 = p)) then H.map (fun e => if e.1 = p then (p, who) else e) else H ++ [(p, who)]
def ydq' (H : yby') (who : Int) (ps : List Bs) : Option Bs := match ps.find? (fun p => !ybo' p) with
 | some p => some p
 | none => ps.find? fun p => ybp' H who p
def ydi' (H : yby') (who : Int) (ps : List Bs) : yby' := if (ydq' H who ps).isSome then H else ps.foldl (fun H p => setH H p who) H
def ydd' (H : yby') (who : Int) : yby' := H.filter fun e => e.2 != who
def yc0' (W : yeh') (sess : Int) : Bool := W.any fun e => e.2.close && e.2.sess == sess
def yn9' (W : yeh') (sess : Int) : Bool := W.any fun e => e.2.sess == sess
def ydx' (H : yby') (id : Int) (ops : List OpS) : Option Nat := ops.findIdx? fun o => (yaz' o).any fun p => ybp' H id p
def ycz' (S : PartS) (id sess : Int) (ops : List OpS) : Int × Int :=
 if sess ∈ S.closed then (11, -1)
 else if yc0' S.wait sess = true then (12, -1)
 else match ydx' S.held id ops with
  | some i => (12, i)
  | none => if 0 < yap' ops ∧ 0 < ya6' S.wait ∧ S.t.room < ya6' S.wait + S.t.l.length + yap' ops then (12, yed' ops) else (0, -1)
def ybg' (S : PartS) (sess num : Int) (ops : List OpS) : ReplyS × PartS :=
 if mayS sess num ops ≠ 0 then (yeo' num (mayS sess num ops) (-1) 0, S)
 else if (ycz' S 0 sess ops).1 ≠ 0 then ({ yeo' num (ycz' S 0 sess ops).1 (ycz' S 0 sess ops).2 ops.length with zxid := S.zxid + 1 }, { S with zxid := S.zxid + 1 })
 else ((yas' S.t sess num (S.zxid + 1) ops).1, { S with zxid := S.zxid + 1, t := (yas' S.t sess num (S.zxid + 1) ops).2 })
def hasW (W : yeh') (id : Int) : Bool := W.any fun e => e.1 == id
def yce' (S : PartS) (id sess : Int) : Bool := decide (id < 1) || (decide (sess < 1) || (hasW S.wait id || decide (id ∈ S.decided)))
def ya7' (H : yby') (id : Int) (ops : List OpS) : yby' := ops.foldl (fun H o => ydi' H id (yaz' o)) H
def ydf' (S : PartS) (id sess : Int) (ops : List OpS) : (Int × Int) × PartS :=
 if yce' S id sess = true then ((1, -1), S)
 else if mayS sess 1 ops ≠ 0 then ((mayS sess 1 ops, -1), S)
 else if (ycz' S id sess ops).1 ≠ 0 then (ycz' S id sess ops, S)
 else (if (ya2' S.t sess S.zxid ops).2.2 = true then (0, -1) else ((ya2' S.t sess S.zxid ops).1.err, (ya2' S.t sess S.zxid ops).1.at_),
  { S with held := ya7' S.held id ops, wait := S.wait ++ [(id, ⟨sess, ops, false, !(ya2' S.t sess S.zxid ops).2.2⟩)] })
def ycl' (S : PartS) (id sess : Int) : Int × PartS :=
 if yce' S id sess = true then (1, S)
 else if sess ∈ S.closed then (11, S)
 else if yn9' S.wait sess = true then (12, S)
 else if (ydq' S.held id (ofT S.t sess)).isSome = true then (12, S)
 else (0, { S with held := ydi' S.held id (ofT S.t sess), wait := S.wait ++ [(id, ⟨sess, [], true, false⟩)] })
def yd1' (W : yeh') (id : Int) : Option WaitS := (W.find? fun e => e.1 == id).map (·.2)
def delW (W : yeh') (id : Int) : yeh' := W.filter fun e => e.1 != id
def ya9' (S : PartS) (id : Int) (commit : Bool) : (List ResS × Int) × PartS := match yd1' S.wait id with
 | none => (([], 4), S)
 | some x =>
  if (!commit || x.fails) = true then (([], 0), { S with zxid := S.zxid + 1, held := ydd' S.held id, wait := delW S.wait id, decided := S.decided ++ [id] })
  else if x.close = true then (([], 0), { S with zxid := S.zxid + 1, held := ydd' S.held id, wait := delW S.wait id, decided := S.decided ++ [id], t := purT (yet' (ofT S.t x.sess)) S.t, closed := if x.sess ∈ S.closed then S.closed else S.closed ++ [x.sess] })
  else (((ya2' S.t x.sess (S.zxid + 1) x.ops).1.rs, 0), { S with zxid := S.zxid + 1, held := ydd' S.held id, wait := delW S.wait id, decided := S.decided ++ [id], t := (ya2' S.t x.sess (S.zxid + 1) x.ops).2.1 })
end Go.Av

namespace Go.Av
theorem yoi' (a b : Bs) : (a == b) = decide (a = b) := by
 by_cases h : a = b
 ·subst h; simp
 ·rw [decide_eq_false h, beq_eq_false_iff_ne]; exact h
end Go.Av
namespace Go.Proofs.YtcnkifbjlihaoaaGreatDoor
open Go.RowKit Go.Av
def hkv (e : Bs × Int) : Value × Value := (sv e.1, .int .i64 e.2)
def LkO (l : Nat) (H : yby') (L : List Thing) : Prop := ∃ m, L = [yac' l (.cells #[.map (some m)] 223 (0, 0)), yam' .string m (H.map hkv)]
def ThLk (l : Nat) (H : yby') : Thing := Bun (LkO l H)
section
variable {w0 w : World} {l : Nat} {H : yby'} {R : List Thing} {rows : List (Value × Bs)}
theorem ylq' (h : Sep w0 w (ThLk l H :: R) rows) : ∃ m, Sep w0 w (yac' l (.cells #[.map (some m)] 223 (0, 0)) :: yam' .string m (H.map hkv) :: R) rows := by
 obtain ⟨L, ⟨m, rfl⟩, hS⟩ := h.opens
 exact ⟨m, hS⟩
theorem yej' {m : Nat} (h : Sep w0 w (yac' l (.cells #[.map (some m)] 223 (0, 0)) :: yam' .string m (H.map hkv) :: R) rows) : Sep w0 w (ThLk l H :: R) rows :=
 Sep.shut (O := LkO l H) ⟨m, rfl⟩ h
def yxg' (w0 : World) (l m r : Nat) (H : yby') (R : List Thing) (rows : List (Value × Bs)) (f : Bs × Int → Bool) (k : Nat) (w : World) : Prop :=
 ∃ left : yby', left.length = k ∧ (∀ e ∈ left, e ∈ H) ∧ (∀ e ∈ H, e ∈ left ∨ f e = false) ∧ Sep w0 w (yea' .string m r (H.map hkv) (left.map hkv) :: yac' l (.cells #[.map (some m)] 223 (0, 0)) :: R) rows
set_option maxRecDepth 100000 in
set_option maxHeartbeats 8000000 in
theorem yj3' (h : Sep w0 w (ThLk l H :: R) rows) (hd : DoorN w0) (who : Int) (p : ByteArray) (hp : p.size ≤ 100000) (hH : ∀ e ∈ H, e.1.length ≤ 100000) :
  Calls Tryz.prog 143 #[.pointer (some ⟨l, 0, none⟩), .int .i64 who, .string p] w fun e w' => e = .returned (.bool (ybp' H who p.data.toList)) ∧ Sep w0 w' (ThLk l H :: R) rows := by
 have HX := Lib.hid h
 have HH := Lib.hid hH
 clear h hH
 obtain ⟨res, hres⟩ : ∃ res, ybp' H who p.data.toList = res := ⟨_, rfl⟩
 rw [hres]
 have HRES := Lib.hid hres
 clear hres
 go_enter Tryz.func143, Tryz.ntmps143
 go_wp2_with (first | refine u0 ?_ | (refine uS ?_; clear HX; intro w HX) | (refine uA ?_; clear HX; (first | (have hq := b; clear hq; intro w b2 HX) | intro w b HX)))
 refine (yfs' p _ (hd.sep HX.out).1 (by unfold maxLen; omega)).mono ?_
 obtain ⟨g, hg⟩ : ∃ g, ybo' p.data.toList = g := ⟨_, rfl⟩
 rw [hg]
 rintro e w1 ⟨rfl, hu⟩
 replace HX := Lib.hid (HX.out.keep hu)
 clear hu
 cases g with
 | false =>
  obtain rfl : res = false := by rw [← HRES.out]; unfold ybp'; rw [hg]; rfl
  clear hg HRES
  go_wp2_with (first | refine u0 ?_ | (refine uS ?_; clear HX; intro w HX) | (refine uA ?_; clear HX; (first | (have hq := b; clear hq; intro w b2 HX) | intro w b HX)))
  go_ret
  exact ⟨rfl, HX.out⟩
 | true =>
  have HR0 := Lib.hid (show res = H.any fun e => e.2 != who && ydp' p.data.toList e.1 by rw [← HRES.out]; unfold ybp'; rw [hg]; rfl)
  clear hg HRES
  go_wp2_with (first | refine u0 ?_ | (refine uS ?_; clear HX; intro w HX) | (refine uA ?_; clear HX; (first | (have hq := b; clear hq; intro w b2 HX) | intro w b HX)))
  refine (ydv' p _ (hd.sep HX.out).1 (by unfold maxLen; omega)).mono ?_
  obtain ⟨pp, hpp⟩ : ∃ pp, yat' p.data.toList = pp := ⟨_, rfl⟩
  rw [hpp]
  rintro e w1 ⟨rfl, hu⟩
  replace HX := Lib.hid (HX.out.keep hu)
  have HPP := Lib.hid hpp
  clear hu hpp
  obtain ⟨up, hup⟩ : ∃ up : ByteArray, up = ⟨(pp.getD []).toArray⟩ := ⟨_, rfl⟩
  have hupv : sv (pp.getD []) = .string up := by rw [hup]; rfl
  obtain ⟨zz, hzz⟩ : ∃ zz, pp.isSome = zz := ⟨_, rfl⟩
  rw [hupv, hzz]
  have HUP := Lib.hid (show up.data.toList = pp.getD [] by rw [hup])
  clear hup hupv hzz
  obtain ⟨m, hS⟩ := ylq' HX.out
  replace HX := Lib.hid hS
  clear hS
  go_upto_region 4 with (first | refine u0 ?_ | (refine uS ?_; clear HX; intro w HX) | (refine uA ?_; clear HX; (first | (have hq := b; clear hq; intro w b2 HX) | intro w b HX)))
  obtain ⟨r, w9, hrun, h9⟩ := yft' (P := Tryz.prog) HX.out.up1 Tryz.underlying221
  have HST := Lib.hid (show yxg' w0 l m r H R rows (fun e => e.2 != who && ydp' p.data.toList e.1) H.length w9 from ⟨H, rfl, fun _ h => h, fun e he => .inl he, h9⟩)
  go_wp2_with (first | refine u0 ?_ | (refine uS ?_; clear HX; intro w HX) | (refine uA ?_; clear HX; (first | (have hq := b; clear hq; intro w b2 HX) | intro w b HX)))
  clear HX hrun h9
  go_loopg [9, 10, 11, 12] H.length (fun k _ _ _ _ wr => yxg' w0 l m r H R rows (fun e => e.2 != who && ydp' p.data.toList e.1) k wr)
  case atStart => exact HST.out
  case round =>
   obtain ⟨left, hk, hin, hall, hS⟩ := hrel
   clear HST
   rcases yht' (P := Tryz.prog) hkv hS with ⟨rfl, hn⟩ | ⟨l1, ge, l2, w1, rfl, hn, h1, hen⟩
   ·have HX := Lib.hid hS
    obtain rfl : res = false := by
     rw [HR0.out, List.any_eq_false]
     intro e he
     rcases hall e he with h | h
     ·cases h
     ·exact fun hh => by have h' : (e.2 != who && ydp' p.data.toList e.1) = false := h; rw [h'] at hh; cases hh
    clear hS hk hin hall
    go_wp2_with (first | refine u0 ?_ | (refine uS ?_; clear HX; intro w HX) | (refine uA ?_; clear HX; (first | (have hq := b; clear hq; intro w b2 HX) | intro w b HX)))
    go_ret
    exact ⟨rfl, yej' (yeq' HX.out).up1⟩
   ·have HX := Lib.hid h1
    have hge := hin ge (by simp)
    have HGE := Lib.hid (HH.out ge hge)
    have HR := Lib.hid (show (ge.2 != who && ydp' p.data.toList ge.1) = true → true = res from fun hf => by rw [HR0.out]; exact (List.any_eq_true.2 ⟨ge, hge, hf⟩).symm)
    have HF := Lib.hid (show _ ∧ _ ∧ _ from ⟨hk, hin, hall⟩)
    clear hS h1 hk hin hall hge
    obtain ⟨q, x⟩ := ge
    dsimp only [hkv] at hn hen HGE HR HX
    obtain ⟨qs, hqs⟩ : ∃ qs : ByteArray, qs = ⟨q.toArray⟩ := ⟨_, rfl⟩
    have hqv : sv q = .string qs := by rw [hqs]; rfl
    have HQ := Lib.hid (show qs.data.toList = q by rw [hqs])
    rw [hqv] at hn hen
    clear hqs hqv
    by_cases hx : x = who
    ·have q1 : (x == who) = true := by rw [hx]; exact beq_self_eq_true _
     have HFE := Lib.hid (show (x != who && ydp' p.data.toList q) = false by rw [hx]; simp)
     clear hx HR
     go_wp2_with (first | refine u0 ?_ | (refine uS ?_; clear HX; intro w HX) | (refine uA ?_; clear HX; (first | (have hq := b; clear hq; intro w b2 HX) | intro w b HX)))
     go_roundg (l1 ++ l2).length
     case rel =>
      obtain ⟨hk, hin, hall⟩ := HF.out
      refine ⟨l1 ++ l2, rfl, fun x hx => hin x ?_, fun x hx => ?_, HX.out⟩
      ·rcases List.mem_append.1 hx with h | h <;> simp [h]
      ·rcases hall x hx with h | h
       ·rcases List.mem_append.1 h with h | h
        ·exact .inl (List.mem_append_left _ h)
        ·rcases List.mem_cons.1 h with rfl | h
         ·exact .inr HFE.out
         ·exact .inl (List.mem_append_right _ h)
       ·exact .inr h
     case measure =>
      obtain ⟨hk, hin, hall⟩ := HF.out
      simp at hk ⊢; omega
    ·have q1 : (x == who) = false := by rw [beq_eq_false_iff_ne]; exact hx
     have HXW := Lib.hid (show (x != who) = true by rw [bne_iff_ne]; exact hx)
     clear hx
     go_wp2_with (first | refine u0 ?_ | (refine uS ?_; clear HX; intro w HX) | (refine uA ?_; clear HX; (first | (have hq := b; clear hq; intro w b2 HX) | intro w b HX)))
     refine (ydv' qs _ (hd.sep HX.out).1 (by rw [show qs.size = qs.data.toList.length by simp, HQ.out]; unfold maxLen; have := HGE.out; omega)).mono ?_
     rw [HQ.out]
     obtain ⟨z1, hz1⟩ : ∃ z, (qs.toList == p.toList) = z := ⟨_, rfl⟩
     obtain ⟨z2, hz2⟩ : ∃ z, (qs.toList == up.toList) = z := ⟨_, rfl⟩
     have e1 : decide (q = p.data.toList) = z1 := by rw [← hz1, ypb', HQ.out]; exact (yoi' ..).symm
     have e2 : decide (q = (yat' p.data.toList).getD []) = z2 := by rw [← hz2, ypb', HQ.out, HUP.out, HPP.out]; exact (yoi' ..).symm
     have HNR := Lib.hid (show ydp' p.data.toList q = (z1 || (z2 || decide (yat' q = some p.data.toList))) by unfold ydp'; rw [e1, e2])
     clear e1 e2
     cases hpq : yat' q with
     | none =>
      rintro e w1 ⟨rfl, hu⟩
      replace HX := Lib.hid (HX.out.keep hu)
      have HPQ := Lib.hid hpq
      clear hu hpq
      dsimp only [Option.isSome, Option.getD]
      unfold sv
      cases z1 with
      | true =>
       have HFE := Lib.hid (show (x != who && ydp' p.data.toList q) = true by rw [HXW.out, HNR.out]; rfl)
       obtain rfl : res = true := (HR.out HFE.out).symm
       go_wp2_with (first | refine u0 ?_ | (refine uS ?_; clear HX; intro w HX) | (refine uA ?_; clear HX; (first | (have hq := b; clear hq; intro w b2 HX) | intro w b HX)))
       go_ret
       exact ⟨rfl, yej' (yeq' HX.out).up1⟩
      | false =>
       cases z2 with
       | true =>
        have HFE := Lib.hid (show (x != who && ydp' p.data.toList q) = true by rw [HXW.out, HNR.out]; rfl)
        obtain rfl : res = true := (HR.out HFE.out).symm
        go_wp2_with (first | refine u0 ?_ | (refine uS ?_; clear HX; intro w HX) | (refine uA ?_; clear HX; (first | (have hq := b; clear hq; intro w b2 HX) | intro w b HX)))
        go_ret
        exact ⟨rfl, yej' (yeq' HX.out).up1⟩
       | false =>
        have HFE := Lib.hid (show (x != who && ydp' p.data.toList q) = false by rw [HXW.out, HNR.out, HPQ.out]; rfl)
        go_wp2_with (first | refine u0 ?_ | (refine uS ?_; clear HX; intro w HX) | (refine uA ?_; clear HX; (first | (have hq := b; clear hq; intro w b2 HX) | intro w b HX)))
        go_roundg (l1 ++ l2).length
        case rel =>
         obtain ⟨hk, hin, hall⟩ := HF.out
         refine ⟨l1 ++ l2, rfl, fun x hx => hin x ?_, fun x hx => ?_, HX.out⟩
         ·rcases List.mem_append.1 hx with h | h <;> simp [h]
         ·rcases hall x hx with h | h
          ·rcases List.mem_append.1 h with h | h
           ·exact .inl (List.mem_append_left _ h)
           ·rcases List.mem_cons.1 h with rfl | h
            ·exact .inr HFE.out
            ·exact .inl (List.mem_append_right _ h)
          ·exact .inr h
        case measure =>
         obtain ⟨hk, hin, hall⟩ := HF.out
         simp at hk ⊢; omega
     | some u =>
      rintro e w1 ⟨rfl, hu⟩
      replace HX := Lib.hid (HX.out.keep hu)
      have HPQ := Lib.hid hpq
      clear hu hpq
      dsimp only [Option.isSome, Option.getD]
      unfold sv
      obtain ⟨us, hus⟩ : ∃ us : ByteArray, us = ⟨u.toArray⟩ := ⟨_, rfl⟩
      have HU := Lib.hid (show us.data.toList = u by rw [hus])
      rw [← hus]
      clear hus
      obtain ⟨z4, hz4⟩ : ∃ z, (us.toList == p.toList) = z := ⟨_, rfl⟩
      have e4 : decide (some u = some p.data.toList) = z4 := by rw [← hz4, ypb', HU.out]; exact (by rw [yoi']; exact decide_eq_decide.2 ⟨fun h => Option.some.inj h, fun h => congrArg some h⟩)
      have HN4 := Lib.hid (show ydp' p.data.toList q = (z1 || (z2 || z4)) by rw [HNR.out, HPQ.out, e4])
      clear e4
      cases z1 with
      | true =>
       have HFE := Lib.hid (show (x != who && ydp' p.data.toList q) = true by rw [HXW.out, HN4.out]; rfl)
       obtain rfl : res = true := (HR.out HFE.out).symm
       go_wp2_with (first | refine u0 ?_ | (refine uS ?_; clear HX; intro w HX) | (refine uA ?_; clear HX; (first | (have hq := b; clear hq; intro w b2 HX) | intro w b HX)))
       go_ret
       exact ⟨rfl, yej' (yeq' HX.out).up1⟩
      | false =>
       cases z2 with
       | true =>
        have HFE := Lib.hid (show (x != who && ydp' p.data.toList q) = true by rw [HXW.out, HN4.out]; rfl)
        obtain rfl : res = true := (HR.out HFE.out).symm
        go_wp2_with (first | refine u0 ?_ | (refine uS ?_; clear HX; intro w HX) | (refine uA ?_; clear HX; (first | (have hq := b; clear hq; intro w b2 HX) | intro w b HX)))
        go_ret
        exact ⟨rfl, yej' (yeq' HX.out).up1⟩
       | false =>
        cases z4 with
        | true =>
         have HFE := Lib.hid (show (x != who && ydp' p.data.toList q) = true by rw [HXW.out, HN4.out]; rfl)
         obtain rfl : res = true := (HR.out HFE.out).symm
         go_wp2_with (first | refine u0 ?_ | (refine uS ?_; clear HX; intro w HX) | (refine uA ?_; clear HX; (first | (have hq := b; clear hq; intro w b2 HX) | intro w b HX)))
         go_ret
         exact ⟨rfl, yej' (yeq' HX.out).up1⟩
        | false =>
         have HFE := Lib.hid (show (x != who && ydp' p.data.toList q) = false by rw [HXW.out, HN4.out]; rfl)
         go_wp2_with (first | refine u0 ?_ | (refine uS ?_; clear HX; intro w HX) | (refine uA ?_; clear HX; (first | (have hq := b; clear hq; intro w b2 HX) | intro w b HX)))
         go_roundg (l1 ++ l2).length
         case rel =>
          obtain ⟨hk, hin, hall⟩ := HF.out
          refine ⟨l1 ++ l2, rfl, fun x hx => hin x ?_, fun x hx => ?_, HX.out⟩
          ·rcases List.mem_append.1 hx with h | h <;> simp [h]
          ·rcases hall x hx with h | h
           ·rcases List.mem_append.1 h with h | h
            ·exact .inl (List.mem_append_left _ h)
            ·rcases List.mem_cons.1 h with rfl | h
             ·exact .inr HFE.out
             ·exact .inl (List.mem_append_right _ h)
           ·exact .inr h
         case measure =>
          obtain ⟨hk, hin, hall⟩ := HF.out
          simp at hk ⊢; omega
end
end Go.Proofs.YtcnkifbjlihaoaaGreatDoor

namespace Go.Av
open Go.RowKit Go.MapKept Go.ChangeMaps
section
variable {P : Program} {w w0 : World} {d : TypeDesc} {m r : Nat} {t k e : TypeId} {R : List Thing} {rows : List (Value × Bs)}
theorem yoy' {l1 l2 left : List (Value × Value)} {key v0 : Value} (h : RangeIs w d m r (l1 ++ (key, v0) :: l2) left) (hne : m ≠ r) (hk : MapKept.IsKey d key) (hl : ∀ p ∈ left, p.1 ≠ key) (ht : P.underlying t = some (.map k e)) (hd : P.underlying k = some d) (tk ty : TypeId) :
  ∃ w', (Builtin.delete_ #[t, tk] ty #[.map (some m), key]).run P w = .ok (.tuple #[]) w' ∧ RangeIs w' d m r (l1 ++ l2) left ∧ Upd w w' [m] [m] := by
 obtain ⟨es, clock, seen, a1, a2, a3, a4, a5, a6⟩ := h
 have hM : MapIs w d m (l1 ++ (key, v0) :: l2) := ⟨es, clock, a1, a2, a3, a4⟩
 have hnd := hM.nodup
 rcases MapKept.findNow_spec hk es.toList 0 a3 with ⟨b1, b2⟩ | ⟨j, e', b1, b2, b3⟩
 ·exfalso
  have hm : (key, v0) ∈ es.toList.map kv := by rw [a4]; simp
  obtain ⟨e', he', heq⟩ := List.mem_map.1 hm
  exact b2 e' he' (congrArg Prod.fst heq)
 ·have hjs : j < es.size := by
   have := (List.getElem?_eq_some_iff.1 b2).1
   simpa using this
  have hlist : (es.eraseIdxIfInBounds j).toList = es.toList.take j ++ es.toList.drop (j + 1) := by
   rw [Array.eraseIdxIfInBounds, dif_pos hjs, Array.toList_eraseIdx, yf9' b2]
  refine ⟨setBlock w m (.map (es.eraseIdxIfInBounds j) clock), ?_, ⟨_, clock, seen, (heap_set a1).1, MapKept.stamped_erase a2 _, ?_, ?_, ?_, ?_⟩, ydm' w m _ _ a1⟩
  ·simp [Builtin.delete_, run_underlying ht, MapKept.run_getObj_map a1, MapKept.run_checkKey hd hk, MapKept.run_findKey hd b1, MapKept.run_setObj_map _ a1, Result.andThen, setBlock]
  ·intro x hx
   rw [hlist] at hx
   refine a3 x ?_
   rcases List.mem_append.1 hx with hx | hx
   ·exact List.mem_of_mem_take hx
   ·exact List.mem_of_mem_drop hx
  ·have hs := yha' b2
   have hsp : l1 ++ (key, v0) :: l2 = (es.toList.take j).map kv ++ (key, e'.val) :: (es.toList.drop (j + 1)).map kv := by
    rw [← a4]
    conv => lhs; rw [hs]
    simp [kv, b3]
   obtain ⟨r1, _, r3⟩ := ylz' hnd hsp
   rw [hlist, List.map_append, r1, r3]
  ·exact ((heap_set a1).2 _ (Ne.symm hne)).trans a5
  ·rw [← a6]
   have hsee : seen.contains e'.born = true := by
    cases hc : seen.contains e'.born with
    | true => rfl
    | false =>
     exfalso
     refine hl (kv e') ?_ b3
     rw [← a6]
     refine List.mem_map.2 ⟨e', ?_, rfl⟩
     simp only [leftOf, Array.toList_filter, List.mem_filter]
     exact ⟨List.mem_of_getElem? b2, by rw [hc]; rfl⟩
   simp only [leftOf, Array.toList_filter]
   rw [hlist]
   conv => rhs; rw [yha' b2]
   rw [List.filter_append, List.filter_append, List.filter_cons, hsee]
   rfl
theorem y0h' {l1 l2 left : List (Value × Value)} {key v0 : Value} (h : Sep w0 w (yea' d m r (l1 ++ (key, v0) :: l2) left :: R) rows) (hk : MapKept.IsKey d key) (hl : ∀ p ∈ left, p.1 ≠ key) (ht : P.underlying t = some (.map k e)) (hd : P.underlying k = some d) :
  ∃ w', (∀ tk ty, (Builtin.delete_ #[t, tk] ty #[.map (some m), key]).run P w = .ok (.tuple #[]) w') ∧ Sep w0 w' (yea' d m r (l1 ++ l2) left :: R) rows := by
 obtain ⟨D, hP, _, back⟩ := h.use
 obtain ⟨hR, hne, rfl⟩ := hP
 obtain ⟨w', hrun, hR', hU⟩ := yoy' (P := P) hR hne hk hl ht hd 0 0
 exact ⟨w', fun _ _ => hrun, back w' [m, r] (yea' d m r (l1 ++ l2) left) (hU.mono (fun b hb => by simp at hb; simp [hb]) (fun b hb => .inr hb)) ⟨hR', hne, rfl⟩⟩
theorem Sep.mapOld {l1 l2 : List (Value × Value)} {key v0 v : Value} (h : Sep w0 w (yam' d m (l1 ++ (key, v0) :: l2) :: R) rows) (ht : P.underlying t = some (.map k e)) (hd : P.underlying k = some d) (hk : MapKept.IsKey d key) :
  ∃ w', (Instr.mapUpdate t (.map (some m)) key v).run P w = .ok () w' ∧ Sep w0 w' (yam' d m (l1 ++ (key, v) :: l2) :: R) rows := by
 obtain ⟨w', hrun, hM, hU⟩ := yxw' (P := P) (v := v) h.mapIs ht hd hk
 exact ⟨w', hrun, h.mapTo hU hM⟩
end
theorem ysv' {α : Type} {f : α → Bool} {l : List α} {i : Nat} (hi : i < l.length) (h : ∀ x ∈ l.take i, f x = false) (hf : f l[i] = true) : l.find? f = some l[i] := by
 have hs : l = l.take i ++ l[i] :: l.drop (i + 1) := by rw [← List.drop_eq_getElem_cons hi, List.take_append_drop]
 obtain ⟨o, ho⟩ : ∃ o, l[i] = o := ⟨_, rfl⟩
 rw [ho] at hf hs ⊢
 obtain ⟨T, hT⟩ : ∃ T, l.take i = T := ⟨_, rfl⟩
 obtain ⟨D, hD⟩ : ∃ D, l.drop (i + 1) = D := ⟨_, rfl⟩
 rw [hT] at h hs
 rw [hD] at hs
 rw [hs, List.find?_append, List.find?_eq_none.2 fun o ho => by simp [h o ho], List.find?_cons, hf]
 rfl
theorem yj9' {α : Type} [DecidableEq α] {f f' : α → Bool} {g : α} : ∀ {H : List α}, H.Nodup → g ∈ H → f g = true → f' g = false → (∀ x ∈ H, x ≠ g → f' x = f x) → ∃ c1 c2, H.filter f = c1 ++ g :: c2 ∧ H.filter f' = c1 ++ c2
 | [], _, h, _, _, _ => by cases h
 | y :: H, hn, hg, h1, h2, h3 => by
  rw [List.nodup_cons] at hn
  by_cases hy : y = g
  ·subst hy
   refine ⟨[], H.filter f, by rw [List.filter_cons, h1]; rfl, ?_⟩
   rw [List.filter_cons, h2]
   refine List.filter_congr (fun x hx => h3 x (k_n _ hx) (fun e => hn.1 (e ▸ hx)))
  ·rcases List.mem_cons.1 hg with hg | hg
   ·exact absurd hg.symm hy
   obtain ⟨c1, c2, e1, e2⟩ := yj9' hn.2 hg h1 h2 (fun x hx => h3 x (k_n _ hx))
   have hf := h3 y k_s hy
   rw [List.filter_cons, List.filter_cons, hf]
   cases f y with
   | true => exact ⟨y :: c1, c2, by rw [e1]; rfl, by rw [e2]; rfl⟩
   | false => exact ⟨c1, c2, e1, e2⟩
theorem ywu' {H1 H2 : yby'} {p : Bs} {x who : Int} (hn : ((H1 ++ (p, x) :: H2).map (·.1)).Nodup) : setH (H1 ++ (p, x) :: H2) p who = H1 ++ (p, who) :: H2 := by
 have h1 : ((H1 ++ (p, x) :: H2).any fun e => decide (e.1 = p)) = true := List.any_eq_true.2 ⟨(p, x), by simp, by simp⟩
 rw [List.map_append, List.map_cons, List.nodup_append] at hn
 obtain ⟨-, h3, h4⟩ := hn
 rw [List.nodup_cons] at h3
 unfold setH
 rw [if_pos h1, List.map_append, List.map_cons]
 have ha : ∀ L : yby', (∀ e ∈ L, e.1 ≠ p) → L.map (fun e => if e.1 = p then (p, who) else e) = L := fun L hL => by
  conv => rhs; rw [← List.map_id L]
  exact List.map_congr_left fun e he => by rw [if_neg (hL e he)]; rfl
 rw [ha H1 (fun e he h => h4 e.1 (List.mem_map_of_mem he) p k_s h), ha H2 (fun e he h => h3.1 (List.mem_map.2 ⟨e, he, h⟩))]
 simp
theorem ywt' {H : yby'} {p : Bs} {who : Int} (hn : ∀ e ∈ H, e.1 ≠ p) : setH H p who = H ++ [(p, who)] := by
 unfold setH
 rw [if_neg]
 rw [List.any_eq_true]
 rintro ⟨e, he, h⟩
 exact hn e he (by simpa using h)
theorem yws' (H : yby') (p : Bs) (who : Int) : (setH H p who).length ≤ H.length + 1 := by
 unfold setH
 split
 ·rw [List.length_map]; omega
 ·rw [List.length_append]; simp
theorem yuc' {H : yby'} {p : Bs} {who : Int} {e : Bs × Int} (h : e ∈ setH H p who) : e = (p, who) ∨ e ∈ H := by
 unfold setH at h
 split at h
 ·obtain ⟨x, hx, rfl⟩ := List.mem_map.1 h
  by_cases hp : x.1 = p
  ·rw [if_pos hp]; exact .inl rfl
  ·rw [if_neg hp]; exact .inr hx
 ·rcases List.mem_append.1 h with h | h
  ·exact .inr h
  ·exact .inl (List.mem_singleton.1 h)
end Go.Av
namespace Go.Proofs.YtcnkifbjlihaoaaGreatDoor
open Go.RowKit Go.Av
section
variable {w0 w : World} {l : Nat} {H : yby'} {P P' : List PRow} {R : List Thing} {rows : List (Value × Bs)}
theorem ykc' {d : TypeDesc} {m : Nat} (h : Sep w0 w (yam' d m (H.map hkv) :: R) rows) : (H.map (·.1)).Nodup := by
 have h1 := h.mapIs.nodup
 rw [List.map_map] at h1
 rw [List.nodup_iff_pairwise_ne, List.pairwise_map] at h1 ⊢
 exact List.Pairwise.imp (fun hab e => hab (congrArg sv e)) h1
theorem y0i' {m : Nat} (h : Sep w0 w (yam' .string m (H.map hkv) :: R) rows) (p : Bs) (who : Int) :
  ∃ w', (Instr.mapUpdate 221 (.map (some m)) (sv p) (.int .i64 who)).run Tryz.prog w = .ok () w' ∧ Sep w0 w' (yam' .string m ((setH H p who).map hkv) :: R) rows := by
 by_cases hin : ∃ e ∈ H, e.1 = p
 ·obtain ⟨⟨q, x⟩, he, rfl⟩ := hin
  obtain ⟨H1, H2, rfl⟩ := List.append_of_mem he
  have hn := ykc' h
  rw [ywu' hn]
  rw [List.map_append, List.map_cons] at h ⊢
  exact Sep.mapOld (P := Tryz.prog) h Tryz.underlying221 Tryz.underlying9 trivial
 ·have hn : ∀ e ∈ H, e.1 ≠ p := fun e he h => hin ⟨e, he, h⟩
  rw [ywt' hn, List.map_append]
  exact Sep.mapAdd (P := Tryz.prog) h Tryz.underlying221 Tryz.underlying9 trivial (fun q hq e => by
   obtain ⟨x, hx, rfl⟩ := List.mem_map.1 hq
   exact hn x hx (yhc' e))
set_option maxRecDepth 100000 in
set_option maxHeartbeats 4000000 in
theorem ypi' (h : Sep w0 w (yab' w0 P :: ThLk l H :: R) rows) (hd : DoorN w0) (who : Int) (ps : List Bs) (v : Value) (hv : (1, v, ps.map sv) ∈ P) (hp : ∀ p ∈ ps, p.length ≤ 100000) (hH : ∀ e ∈ H, e.1.length ≤ 100000) (hn : ps.length ≤ 100000) :
  Calls Tryz.prog 147 #[.pointer (some ⟨l, 0, none⟩), .int .i64 who, v] w fun e w' => e = .returned (.tuple #[sv ((ydq' H who ps).getD []), .bool (ydq' H who ps).isSome]) ∧ Sep w0 w' (yab' w0 P :: ThLk l H :: R) rows := by
 obtain ⟨E, hE⟩ := h.poolGet hv
 obtain ⟨a, n, c, rfl, hl0, -, -, hne⟩ := ReadRow.some hE
 rw [List.length_map, Nat.mul_one] at hl0
 subst hl0
 have HNE := Lib.hid hne
 have HV := Lib.hid (show _ ∧ _ ∧ _ ∧ _ from ⟨hv, hp, hH, hn⟩)
 have HX := Lib.hid h
 obtain ⟨wr, hwr⟩ : ∃ wr, ydq' H who ps = wr := ⟨_, rfl⟩
 rw [hwr]
 have HWR := Lib.hid hwr
 clear h hE hne hv hp hH hwr
 go_enter Tryz.func147, Tryz.ntmps147
 go_wp2_with (first | refine u0 ?_ | (refine uS ?_; clear HX; intro w HX) | (refine uA ?_; clear HX; (first | (have hq := b; clear hq; intro w b2 HX) | intro w b HX)))
 have HST := HX
 clear HX
 go_loopg [9, 14] ps.length (fun k _ v14 wr => ∃ i : Nat, i + k = ps.length ∧ v14 = .int .i64 (i : Int) ∧ (∀ p ∈ ps.take i, ybo' p = true) ∧ Sep w0 wr (yab' w0 P :: ThLk l H :: R) rows)
 case atStart => exact ⟨0, by simp, rfl, by simp, HST.out⟩
 case round =>
  rename World => w
  obtain ⟨i, hik, rfl, hgd, hS⟩ := hrel
  clear HST
  have HX := Lib.hid hS
  have HGD := Lib.hid hgd
  clear hS hgd
  by_cases hlt : i < ps.length
  case neg =>
   obtain rfl : i = ps.length := by omega
   rw [List.take_length] at HGD
   have HW2 := Lib.hid (show wr = ps.find? fun p => ybp' H who p by rw [← HWR.out]; unfold ydq'; rw [List.find?_eq_none.2 (fun p hp => by rw [HGD.out p hp]; simp)])
   clear hlt hik HWR
   go_wp2_with (first | refine u0 ?_ | (refine uS ?_; clear HX; intro w HX) | (refine uA ?_; clear HX; (first | (have hq := b; clear hq; intro w b2 HX) | intro w b HX)))
   have HST := HX
   clear HX
   go_loopg [11, 25] ps.length (fun k _ v14 wr => ∃ i : Nat, i + k = ps.length ∧ v14 = .int .i64 (i : Int) ∧ (∀ p ∈ ps.take i, ybp' H who p = false) ∧ Sep w0 wr (yab' w0 P :: ThLk l H :: R) rows)
   case atStart => exact ⟨0, by simp, rfl, by simp, HST.out⟩
   case round =>
    rename World => w
    obtain ⟨i, hik, rfl, hbl, hS⟩ := hrel
    clear HST
    have HX := Lib.hid hS
    have HBL := Lib.hid hbl
    clear hS hbl
    by_cases hlt : i < ps.length
    case neg =>
     obtain rfl : i = ps.length := by omega
     rw [List.take_length] at HBL
     obtain rfl : wr = none := by rw [HW2.out, List.find?_eq_none]; intro p hp; rw [HBL.out p hp]; exact Bool.false_ne_true
     clear hlt hik
     go_wp2_with (first | refine u0 ?_ | (refine uS ?_; clear HX; intro w HX) | (refine uA ?_; clear HX; (first | (have hq := b; clear hq; intro w b2 HX) | intro w b HX)))
     go_ret2
     exact ⟨rfl, HX.out⟩
    case pos =>
     obtain ⟨g, off, rfl⟩ := HNE.out (by intro e; rw [List.map_eq_nil_iff] at e; rw [e] at hlt; simp at hlt)
     obtain ⟨E, hE⟩ := HX.out.poolGet HV.out.1
     have hl := yb5' (P := Tryz.prog) (ty := 9) (i := i) (v := sv ps[i]) hE (by kernel_rfl) (by simp [hlt])
     have HTK := Lib.hid (show ps.take (i + 1) = ps.take i ++ [ps[i]] from List.take_succ_eq_append_getElem hlt)
     have HPS := Lib.hid (HV.out.2.1 ps[i] (List.getElem_mem hlt))
     have hfd := ysv' (f := fun p => ybp' H who p) hlt HBL.out
     have q0 : decide (i < ps.length) = true := decide_eq_true hlt
     obtain ⟨p, hp⟩ : ∃ p, ps[i] = p := ⟨_, rfl⟩
     rw [hp] at hl HTK HPS hfd
     have HFD := Lib.hid hfd
     unfold sv at hl
     clear hE hp hfd
     go_wp2_with (first | refine u0 ?_ | (refine uS ?_; clear HX; intro w HX) | (refine uA ?_; clear HX; (first | (have hq := b; clear hq; intro w b2 HX) | intro w b HX)) | ((with_reducible apply yaw' hl); (· rfl); (· rfl); simp only [Act.put, k_a, k_b, k_c]))
     refine (yj3' HX.out.up1 hd who ⟨p.toArray⟩ (by show p.toArray.size ≤ _; rw [List.size_toArray]; exact HPS.out) HV.out.2.2.1).mono ?_
     have e1 : (⟨p.toArray⟩ : ByteArray).data.toList = p := rfl
     rw [e1]
     obtain ⟨zb, hzb⟩ : ∃ zb, ybp' H who p = zb := ⟨_, rfl⟩
     rw [hzb]
     have HZB := Lib.hid hzb
     rintro e w ⟨rfl, hx⟩
     clear HX hl e1 hzb
     have HX := Lib.hid hx.up1
     clear hx
     cases zb with
     | true =>
      obtain rfl : wr = some p := by rw [HW2.out]; exact HFD.out HZB.out
      go_wp2_with (first | refine u0 ?_ | (refine uS ?_; clear HX; intro w HX) | (refine uA ?_; clear HX; (first | (have hq := b; clear hq; intro w b2 HX) | intro w b HX)))
      go_ret2
      exact ⟨rfl, HX.out⟩
     | false =>
      go_wp2_with (first | refine u0 ?_ | (refine uS ?_; clear HX; intro w HX) | (refine uA ?_; clear HX; (first | (have hq := b; clear hq; intro w b2 HX) | intro w b HX)))
      go_roundg (ps.length - (i + 1))
      case rel => exact ⟨i + 1, by omega, by go_num, by
       rw [HTK.out]
       intro q hq
       rcases List.mem_append.1 hq with hq | hq
       ·exact HBL.out q hq
       ·rw [List.mem_singleton] at hq; rw [hq]; exact HZB.out, HX.out⟩
      case measure => omega
  case pos =>
   obtain ⟨g, off, rfl⟩ := HNE.out (by intro e; rw [List.map_eq_nil_iff] at e; rw [e] at hlt; simp at hlt)
   obtain ⟨E, hE⟩ := HX.out.poolGet HV.out.1
   have hl := yb5' (P := Tryz.prog) (ty := 9) (i := i) (v := sv ps[i]) hE (by kernel_rfl) (by simp [hlt])
   have HTK := Lib.hid (show ps.take (i + 1) = ps.take i ++ [ps[i]] from List.take_succ_eq_append_getElem hlt)
   have HPS := Lib.hid (HV.out.2.1 ps[i] (List.getElem_mem hlt))
   have hfd := ysv' (f := fun p => !ybo' p) hlt (fun p hp => by rw [HGD.out p hp]; rfl)
   have q0 : decide (i < ps.length) = true := decide_eq_true hlt
   obtain ⟨p, hp⟩ : ∃ p, ps[i] = p := ⟨_, rfl⟩
   rw [hp] at hl HTK HPS hfd
   have HFD := Lib.hid hfd
   unfold sv at hl
   clear hE hp hfd
   go_wp2_with (first | refine u0 ?_ | (refine uS ?_; clear HX; intro w HX) | (refine uA ?_; clear HX; (first | (have hq := b; clear hq; intro w b2 HX) | intro w b HX)) | ((with_reducible apply yaw' hl); (· rfl); (· rfl); simp only [Act.put, k_a, k_b, k_c]))
   refine (yfs' ⟨p.toArray⟩ _ (hd.sep HX.out).1 (by show p.toArray.size ≤ _; rw [List.size_toArray]; unfold maxLen; have := HPS.out; omega)).mono ?_
   have e1 : (⟨p.toArray⟩ : ByteArray).data.toList = p := rfl
   rw [e1]
   obtain ⟨zb, hzb⟩ : ∃ zb, ybo' p = zb := ⟨_, rfl⟩
   rw [hzb]
   have HZB := Lib.hid hzb
   rintro e w ⟨rfl, hu⟩
   replace HX := Lib.hid (HX.out.keep hu)
   clear hl e1 hzb hu
   cases zb with
   | false =>
    obtain rfl : wr = some p := by rw [← HWR.out]; unfold ydq'; rw [HFD.out (by rw [HZB.out]; rfl)]
    go_wp2_with (first | refine u0 ?_ | (refine uS ?_; clear HX; intro w HX) | (refine uA ?_; clear HX; (first | (have hq := b; clear hq; intro w b2 HX) | intro w b HX)))
    go_ret2
    exact ⟨rfl, HX.out⟩
   | true =>
    go_wp2_with (first | refine u0 ?_ | (refine uS ?_; clear HX; intro w HX) | (refine uA ?_; clear HX; (first | (have hq := b; clear hq; intro w b2 HX) | intro w b HX)))
    go_roundg (ps.length - (i + 1))
    case rel => exact ⟨i + 1, by omega, by go_num, by
     rw [HTK.out]
     intro q hq
     rcases List.mem_append.1 hq with hq | hq
     ·exact HGD.out q hq
     ·rw [List.mem_singleton] at hq; rw [hq]; exact HZB.out, HX.out⟩
    case measure => omega
end
end Go.Proofs.YtcnkifbjlihaoaaGreatDoor

namespace Go.Av
theorem ymw' (who : Int) : ∀ (ps : List Bs) (H : yby'), (ps.foldl (fun H p => setH H p who) H).length ≤ H.length + ps.length
 | [], H => by simp
 | p :: ps, H => by
  have h1 := ymw' who ps (setH H p who)
  have h2 := yws' H p who
  rw [List.foldl_cons, List.length_cons]
  omega
theorem yhs' {who : Int} {e : Bs × Int} : ∀ (ps : List Bs) (H : yby'), e ∈ ps.foldl (fun H p => setH H p who) H → (e.1 ∈ ps ∧ e.2 = who) ∨ e ∈ H
 | [], H, h => .inr h
 | p :: ps, H, h => by
  rcases yhs' ps (setH H p who) h with h | h
  ·exact .inl ⟨k_n _ h.1, h.2⟩
  ·rcases yuc' h with h | h
   ·exact .inl ⟨by rw [h]; exact k_s, by rw [h]⟩
   ·exact .inr h
end Go.Av
namespace Go.Proofs.YtcnkifbjlihaoaaGreatDoor
open Go.RowKit Go.Av
section
variable {w0 w : World} {l : Nat} {H : yby'} {P P' : List PRow} {R : List Thing} {rows : List (Value × Bs)}
set_option maxRecDepth 100000 in
set_option maxHeartbeats 4000000 in
theorem yiv' (h : Sep w0 w (yab' w0 P :: ThLk l H :: R) rows) (hd : DoorN w0) (who : Int) (ps : List Bs) (v : Value) (hv : (1, v, ps.map sv) ∈ P) (hp : ∀ p ∈ ps, p.length ≤ 100000) (hH : ∀ e ∈ H, e.1.length ≤ 100000) (hn : ps.length ≤ 100000) :
  Calls Tryz.prog 71 #[.pointer (some ⟨l, 0, none⟩), .int .i64 who, v] w fun e w' => e = .returned (.tuple #[sv ((ydq' H who ps).getD []), .bool (!(ydq' H who ps).isSome)]) ∧ Sep w0 w' (yab' w0 P :: ThLk l (ydi' H who ps) :: R) rows := by
 obtain ⟨E, hE⟩ := h.poolGet hv
 obtain ⟨a, n, c, rfl, hl0, -, -, hne⟩ := ReadRow.some hE
 rw [List.length_map, Nat.mul_one] at hl0
 subst hl0
 have HNE := Lib.hid hne
 have HV := Lib.hid (show _ ∧ _ ∧ _ ∧ _ from ⟨hv, hp, hH, hn⟩)
 have HX := Lib.hid h
 clear h hE hne hv hp hH
 obtain ⟨wr, hwr⟩ : ∃ wr, ydq' H who ps = wr := ⟨_, rfl⟩
 obtain ⟨H', hH'⟩ : ∃ H', ydi' H who ps = H' := ⟨_, rfl⟩
 rw [hwr, hH']
 have HTH := Lib.hid (show H' = if wr.isSome then H else ps.foldl (fun H p => setH H p who) H by rw [← hH', ← hwr]; rfl)
 have HWR := Lib.hid hwr
 clear hwr hH'
 go_enter Tryz.func71, Tryz.ntmps71
 go_wp2_with (first | refine u0 ?_ | (refine uS ?_; clear HX; intro w HX) | (refine uA ?_; clear HX; (first | (have hq := b; clear hq; intro w b2 HX) | intro w b HX)))
 refine (ypi' HX.out hd who ps _ HV.out.1 HV.out.2.1 HV.out.2.2.1 HV.out.2.2.2).mono ?_
 rw [HWR.out]
 rintro e w ⟨rfl, hx⟩
 replace HX := Lib.hid hx
 clear hx
 cases wr with
 | some p =>
  obtain rfl : H' = H := HTH.out
  dsimp only [Option.isSome, Option.getD]
  unfold sv
  go_wp2_with (first | refine u0 ?_ | (refine uS ?_; clear HX; intro w HX) | (refine uA ?_; clear HX; (first | (have hq := b; clear hq; intro w b2 HX) | intro w b HX)))
  go_ret2
  exact ⟨rfl, HX.out⟩
 | none =>
  have HTI := Lib.hid (show H' = ps.foldl (fun H p => setH H p who) H from HTH.out)
  clear HTH
  dsimp only [Option.isSome, Option.getD]
  unfold sv
  go_wp2_with (first | refine u0 ?_ | (refine uS ?_; clear HX; intro w HX) | (refine uA ?_; clear HX; (first | (have hq := b; clear hq; intro w b2 HX) | intro w b HX)))
  have HST := HX
  clear HX
  go_loopg [11, 23] ps.length (fun k _ v23 wr => ∃ i : Nat, i + k = ps.length ∧ v23 = .int .i64 (i : Int) ∧ Sep w0 wr (yab' w0 P :: ThLk l ((ps.take i).foldl (fun H p => setH H p who) H) :: R) rows)
  case atStart => exact ⟨0, by simp, rfl, HST.out⟩
  case round =>
   rename World => w
   obtain ⟨i, hik, rfl, hS⟩ := hrel
   clear HST
   by_cases hlt : i < ps.length
   case neg =>
    obtain rfl : i = ps.length := by omega
    rw [List.take_length, ← HTI.out] at hS
    have HX := Lib.hid hS
    clear hS hlt hik
    go_wp2_with (first | refine u0 ?_ | (refine uS ?_; clear HX; intro w HX) | (refine uA ?_; clear HX; (first | (have hq := b; clear hq; intro w b2 HX) | intro w b HX)))
    go_ret2
    exact ⟨rfl, HX.out⟩
   case pos =>
    obtain ⟨g, off, rfl⟩ := HNE.out (by intro e; rw [List.map_eq_nil_iff] at e; rw [e] at hlt; simp at hlt)
    obtain ⟨E, hE⟩ := hS.poolGet HV.out.1
    have hl := yb5' (P := Tryz.prog) (ty := 9) (i := i) (v := sv ps[i]) hE (by kernel_rfl) (by simp [hlt])
    have HTK := Lib.hid (show (ps.take (i + 1)).foldl (fun H p => setH H p who) H = setH ((ps.take i).foldl (fun H p => setH H p who) H) ps[i] who by rw [List.take_succ_eq_append_getElem hlt, List.foldl_append]; rfl)
    have q0 : decide (i < ps.length) = true := decide_eq_true hlt
    obtain ⟨p, hp⟩ : ∃ p, ps[i] = p := ⟨_, rfl⟩
    rw [hp] at hl HTK
    obtain ⟨Hi, hHi⟩ : ∃ Hi, (ps.take i).foldl (fun H p => setH H p who) H = Hi := ⟨_, rfl⟩
    rw [hHi] at hS HTK
    obtain ⟨m, hS⟩ := ylq' hS.up1
    obtain ⟨w9, hrun, h9⟩ := y0i' hS.up1 p who
    have HX := Lib.hid hS
    have H9 := Lib.hid h9
    unfold sv at hl hrun
    clear hE hp hHi hS h9
    go_wp2_with (first | refine u0 ?_ | (refine uS ?_; clear HX; intro w HX) | (refine uA ?_; clear HX; (first | (have hq := b; clear hq; intro w b2 HX) | intro w b HX)) | ((with_reducible apply yaw' hl); (· rfl); (· rfl); simp only [Act.put, k_a, k_b, k_c]))
    go_roundg (ps.length - (i + 1))
    case rel => exact ⟨i + 1, by omega, by go_num, by rw [HTK.out]; exact (yej' H9.out.up1).up1⟩
    case measure => omega
def yxi' (w0 : World) (l m r : Nat) (H : yby') (R : List Thing) (rows : List (Value × Bs)) (who : Int) (k : Nat) (v5 : Value) (w : World) : Prop :=
 ∃ (left : yby') (n : Nat), left.length = k ∧ left.Nodup ∧ (∀ e ∈ left, e ∈ H) ∧ n + left.length ≤ H.length ∧ v5 = .int .i64 (n : Int) ∧
  Sep w0 w (yea' .string m r ((H.filter fun e => decide (e ∈ left) || e.2 != who).map hkv) (left.map hkv) :: yac' l (.cells #[.map (some m)] 223 (0, 0)) :: R) rows
def yya' (w0 : World) (l : Nat) (H : yby') (R : List Thing) (rows : List (Value × Bs)) (e : Ending) (w' : World) : Prop :=
 ∃ n : Int, e = .returned (.int .i64 n) ∧ Sep w0 w' (ThLk l H :: R) rows
set_option maxRecDepth 100000 in
set_option maxHeartbeats 4000000 in
theorem yvy' (h : Sep w0 w (ThLk l H :: R) rows) (who : Int) (hn : H.length ≤ 100000) :
  Calls Tryz.prog 84 #[.pointer (some ⟨l, 0, none⟩), .int .i64 who] w (yya' w0 l (ydd' H who) R rows) := by
 obtain ⟨m, hS⟩ := ylq' h
 have hk := ykc' hS.up1
 have hnd : H.Nodup := by
  rw [List.nodup_iff_pairwise_ne, List.pairwise_map] at hk
  rw [List.nodup_iff_pairwise_ne]
  exact List.Pairwise.imp (fun hab e => hab (congrArg Prod.fst e)) hk
 have HK := Lib.hid (show _ ∧ _ ∧ _ from ⟨hk, hnd, hn⟩)
 have HX := Lib.hid hS
 clear h hS hk hnd hn
 go_enter Tryz.func84, Tryz.ntmps84
 go_upto_region 2 with (first | refine u0 ?_ | (refine uS ?_; clear HX; intro w HX) | (refine uA ?_; clear HX; (first | (have hq := b; clear hq; intro w b2 HX) | intro w b HX)))
 obtain ⟨r, w9, hrun, h9⟩ := yft' (P := Tryz.prog) HX.out.up1 Tryz.underlying221
 have HST := Lib.hid (show yxi' w0 l m r H R rows who H.length (.int .i64 (0 : Int)) w9 from ⟨H, 0, rfl, HK.out.2.1, fun _ h => h, by omega, rfl, by rw [List.filter_eq_self.2 (fun e he => by simp [he])]; exact h9⟩)
 go_wp2_with (first | refine u0 ?_ | (refine uS ?_; clear HX; intro w HX) | (refine uA ?_; clear HX; (first | (have hq := b; clear hq; intro w b2 HX) | intro w b HX)))
 clear HX hrun h9
 go_loopg [5, 6, 7] H.length (fun k v5 _ _ wr => yxi' w0 l m r H R rows who k v5 wr)
 case atStart => exact HST.out
 case round =>
  obtain ⟨left, n, hk, hnd, hin, hn, rfl, hS⟩ := hrel
  clear HST
  rcases yht' (P := Tryz.prog) hkv hS with ⟨rfl, hnx⟩ | ⟨l1, ge, l2, w1, rfl, hnx, h1, hen⟩
  ·have HX := Lib.hid hS
   clear hS hk hnd hin hn
   go_wp2_with (first | refine u0 ?_ | (refine uS ?_; clear HX; intro w HX) | (refine uA ?_; clear HX; (first | (have hq := b; clear hq; intro w b2 HX) | intro w b HX)))
   go_ret
   have h5 := yeq' HX.out
   have e5 : (H.filter fun e => decide (e ∈ ([] : yby')) || e.2 != who) = ydd' H who := by
    unfold ydd'
    exact List.filter_congr (fun x _ => by simp)
   rw [e5] at h5
   exact ⟨_, rfl, yej' h5.up1⟩
  ·have hge := hin ge (by simp)
   rw [List.nodup_append] at hnd
   obtain ⟨n1, n2, n3⟩ := hnd
   rw [List.nodup_cons] at n2
   have hnot : ge ∉ l1 ++ l2 := fun hm => by
    rcases List.mem_append.1 hm with hm | hm
    ·exact n3 _ hm _ k_s rfl
    ·exact n2.1 hm
   have hnd2 : (l1 ++ l2).Nodup := List.nodup_append.2 ⟨n1, n2.2, fun a ha b hb => n3 a ha b (k_n _ hb)⟩
   have HF := Lib.hid (show _ ∧ _ ∧ _ ∧ _ from ⟨hk, hnd2, fun e (he : e ∈ l1 ++ l2) => hin e (by rcases List.mem_append.1 he with h | h <;> simp [h]), hn⟩)
   have hlen : n + (l1 ++ l2).length + 1 ≤ H.length := by simp at hn ⊢; omega
   have HLN := Lib.hid (show n ≤ 100000 ∧ n + (l1 ++ l2).length + 1 ≤ H.length from ⟨by have := HK.out.2.2; omega, hlen⟩)
   have hothers : ∀ x ∈ H, x ≠ ge → (decide (x ∈ l1 ++ l2) || x.2 != who) = (decide (x ∈ l1 ++ ge :: l2) || x.2 != who) := fun x _ hx => by
    have : (x ∈ l1 ++ l2) ↔ (x ∈ l1 ++ ge :: l2) := by simp [hx]
    simp [this]
   by_cases hx : ge.2 = who
   ·obtain ⟨c1, c2, e1, e2⟩ := yj9' (f := fun e => decide (e ∈ l1 ++ ge :: l2) || e.2 != who) (f' := fun e => decide (e ∈ l1 ++ l2) || e.2 != who) HK.out.2.1 hge (by simp) (by rw [hx]; simp only [bne_self_eq_false, Bool.or_false]; exact decide_eq_false hnot) hothers
    rw [e1, List.map_append, List.map_cons] at h1
    obtain ⟨w9, hrun, h9⟩ := y0h' (P := Tryz.prog) (key := (hkv ge).1) (v0 := (hkv ge).2) h1 trivial (fun p hp e => by
     obtain ⟨x, hx2, rfl⟩ := List.mem_map.1 hp
     have hxe : x.1 = ge.1 := yhc' e
     have hxH := HF.out.2.2.1 x hx2
     exact hnot ((yjh' (f := fun e : Bs × Int => e.1) HK.out.1 hxH hge hxe) ▸ hx2)) Tryz.underlying221 Tryz.underlying9
    rw [← List.map_append, ← e2] at h9
    have HX := Lib.hid h1
    have H9 := Lib.hid h9
    clear hS h1 h9 hk hin hge hnot n1 n2 n3 hnd2 hn hlen hothers e1 e2
    obtain ⟨q, x⟩ := ge
    dsimp only [hkv] at hnx hen hrun hx HX
    have q1 : (x == who) = true := by rw [hx]; exact beq_self_eq_true _
    have q9 : n ≤ 100000 := HLN.out.1
    clear hx
    go_wp2_with (first | refine u0 ?_ | (refine uS ?_; clear HX; intro w HX) | (refine uA ?_; clear HX; (first | (have hq := b; clear hq; intro w b2 HX) | intro w b HX)))
    go_roundg (l1 ++ l2).length
    case rel => exact ⟨l1 ++ l2, n + 1, rfl, HF.out.2.1, HF.out.2.2.1, by have := HLN.out.2; omega, by go_num, H9.out⟩
    case measure =>
     have := HF.out.1
     simp at this ⊢; omega
   ·have e2 : (H.filter fun e => decide (e ∈ l1 ++ ge :: l2) || e.2 != who) = H.filter fun e => decide (e ∈ l1 ++ l2) || e.2 != who := List.filter_congr (fun x hxH => by
     by_cases hxg : x = ge
     ·subst hxg
      have : (x.2 != who) = true := by rw [bne_iff_ne]; exact hx
      simp [this]
     ·exact (hothers x hxH hxg).symm)
    rw [e2] at h1
    have HX := Lib.hid h1
    clear hS h1 hk hin hge hnot n1 n2 n3 hnd2 hn hlen hothers e2
    obtain ⟨q, x⟩ := ge
    dsimp only [hkv] at hnx hen hx HX
    have q1 : (x == who) = false := by rw [beq_eq_false_iff_ne]; exact hx
    clear hx
    go_wp2_with (first | refine u0 ?_ | (refine uS ?_; clear HX; intro w HX) | (refine uA ?_; clear HX; (first | (have hq := b; clear hq; intro w b2 HX) | intro w b HX)))
    go_roundg (l1 ++ l2).length
    case rel => exact ⟨l1 ++ l2, n, rfl, HF.out.2.1, HF.out.2.2.1, by have := HLN.out.2; omega, rfl, HX.out⟩
    case measure =>
     have := HF.out.1
     simp at this ⊢; omega
set_option maxRecDepth 100000 in
theorem you' (h : Sep w0 w (ThLk l H :: R) rows) : Calls Tryz.prog 92 #[.pointer (some ⟨l, 0, none⟩)] w fun e w' => e = .returned (.int .i64 (H.length : Nat)) ∧ Sep w0 w' (ThLk l H :: R) rows := by
 obtain ⟨m, hS⟩ := ylq' h
 have hlen := fun ty => yxv' (P := Tryz.prog) hS.up1.mapIs Tryz.underlying221 ty
 rw [List.length_map] at hlen
 have HX := Lib.hid hS
 clear h hS
 go_enter Tryz.func92, Tryz.ntmps92
 go_wp2_with (first | refine u0 ?_ | (refine uS ?_; clear HX; intro w HX) | (refine uA ?_; clear HX; (first | (have hq := b; clear hq; intro w b2 HX) | intro w b HX)))
 go_ret
 exact ⟨rfl, yej' HX.out⟩
set_option maxRecDepth 100000 in
theorem yov' (h : Sep w0 w R rows) : Calls Tryz.prog 59 #[] w fun e w' => ∃ l, e = .returned (.pointer (some ⟨l, 0, none⟩)) ∧ Sep w0 w' (ThLk l [] :: R) rows := by
 have HX := Lib.hid h
 clear h
 go_enter Tryz.func59, Tryz.ntmps59
 go_wp2_with (first | refine u0 ?_ | (refine uS ?_; clear HX; intro w HX) | (refine uA ?_; clear HX; (first | (have hq := b; clear hq; intro w b2 HX) | intro w b HX)) | (refine uN ?_; clear HX; intro w mm HX))
 go_ret
 exact ⟨_, rfl, yej' HX.out⟩
end
end Go.Proofs.YtcnkifbjlihaoaaGreatDoor

namespace Go.Av
open Go.RowKit
structure WaitG where
 id : Int
 x : WaitS
 v : Value
def WaitG.kv (g : WaitG) : Value × Value := (.int .i64 g.id, .agg #[.int .i64 g.x.sess, g.v, .bool g.x.close, .bool g.x.fails])
def WaitG.ent (g : WaitG) : Int × WaitS := (g.id, g.x)
def ikv (i : Int) : Value × Value := (.int .i64 i, .bool true)
theorem yc8' (a b : List OpS) : yap' (a ++ b) = yap' a + yap' b := by unfold yap'; rw [List.filter_append, List.length_append]
theorem ydy' (o : OpS) : yap' [o] = if o.kind = 1 then 1 else 0 := by
 unfold yap'
 by_cases h : o.kind = 1
 ·rw [if_pos h]; simp [h]
 ·rw [if_neg h]; simp [h]
theorem yf8' (l : List OpS) : yap' l ≤ l.length := List.length_filter_le _ _
theorem yhr' {l : List OpS} (h : yap' l = 0) : yed' l = 0 := by unfold yed'; rw [if_pos h]
theorem yka' {a : List OpS} (o : OpS) (h : yap' a ≠ 0) : yed' (a ++ [o]) = yed' a := by
 unfold yed'
 rw [if_neg h, if_neg (by rw [yc8']; omega), List.findIdx_append, if_pos]
 unfold yap' at h
 obtain ⟨x, hx⟩ := List.exists_mem_of_length_pos (Nat.pos_of_ne_zero h)
 obtain ⟨h1, h2⟩ := List.mem_filter.1 hx
 exact List.findIdx_lt_length_of_exists ⟨x, h1, h2⟩
theorem yq7' {a : List OpS} {o : OpS} (h : yap' a = 0) (ho : o.kind = 1) : yed' (a ++ [o]) = a.length := by
 have hn : ∀ x ∈ a, (x.kind == 1) = false := fun x hx => by
  cases hh : (x.kind == 1) with
  | false => rfl
  | true =>
   have : x ∈ a.filter fun o => o.kind == 1 := List.mem_filter.2 ⟨hx, hh⟩
   unfold yap' at h
   rw [List.eq_nil_of_length_eq_zero h] at this
   cases this
 unfold yed'
 rw [if_neg (by rw [yc8', ydy', if_pos ho]; omega), List.findIdx_append, if_neg]
 ·simp [ho]
 ·have : List.findIdx (fun o => o.kind == 1) a = a.length := List.findIdx_eq_length.2 hn
  omega
end Go.Av
namespace Go.Proofs.YtcnkifbjlihaoaaGreatDoor
open Go.RowKit Go.Av
theorem sn_x1 : StructN Tryz.prog 123 7 := ⟨by kernel_rfl⟩
theorem sn_x2 : StructN Tryz.prog 144 4 := ⟨by kernel_rfl⟩
theorem z_x2 : yd8' Tryz.prog 144 #[.int .i64 0, .slice none 0 0, .bool false, .bool false] := by unfold yd8'; kernel_rfl
abbrev yak' (room : Int) (t lk : Nat) (zxid : Int) (mw md mc : Nat) : Array Value := #[.int .i64 room, .pointer (some ⟨t, 0, none⟩), .pointer (some ⟨lk, 0, none⟩), .int .i64 zxid, .map (some mw), .map (some md), .map (some mc)]
def PtO (b : Nat) (S : PartS) (P : List PRow) (L : List Thing) : Prop :=
 ∃ (t lk mw md mc : Nat) (gs : List WaitG), L = [yac' b (.cells (yak' S.t.room t lk S.zxid mw md mc) 123 (0, 0)), yan' t S.t P, ThLk lk S.held, yam' (.int .i64) mw (gs.map WaitG.kv), yam' (.int .i64) md (S.decided.map ikv), yam' (.int .i64) mc (S.closed.map ikv)] ∧
  gs.map WaitG.ent = S.wait ∧ ∀ g ∈ gs, (5, g.v, g.x.ops.flatMap OpS.cells) ∈ P
def ybm' (b : Nat) (S : PartS) (P : List PRow) : Thing := Bun (PtO b S P)
section
variable {w0 w : World} {b : Nat} {S : PartS} {P P' : List PRow} {R : List Thing} {rows : List (Value × Bs)}
theorem ybu' (h : Sep w0 w (ybm' b S P :: R) rows) : ∃ (t lk mw md mc : Nat) (gs : List WaitG), gs.map WaitG.ent = S.wait ∧ (∀ g ∈ gs, (5, g.v, g.x.ops.flatMap OpS.cells) ∈ P) ∧
  Sep w0 w (yac' b (.cells (yak' S.t.room t lk S.zxid mw md mc) 123 (0, 0)) :: yan' t S.t P :: ThLk lk S.held :: yam' (.int .i64) mw (gs.map WaitG.kv) :: yam' (.int .i64) md (S.decided.map ikv) :: yam' (.int .i64) mc (S.closed.map ikv) :: R) rows := by
 obtain ⟨L, ⟨t, lk, mw, md, mc, gs, rfl, h1, h2⟩, hS⟩ := h.opens
 exact ⟨t, lk, mw, md, mc, gs, h1, h2, hS⟩
theorem yba' {t lk mw md mc : Nat} {gs : List WaitG} (h : Sep w0 w (yac' b (.cells (yak' S.t.room t lk S.zxid mw md mc) 123 (0, 0)) :: yan' t S.t P :: ThLk lk S.held :: yam' (.int .i64) mw (gs.map WaitG.kv) :: yam' (.int .i64) md (S.decided.map ikv) :: yam' (.int .i64) mc (S.closed.map ikv) :: R) rows)
  (h1 : gs.map WaitG.ent = S.wait) (h2 : ∀ g ∈ gs, (5, g.v, g.x.ops.flatMap OpS.cells) ∈ P) : Sep w0 w (ybm' b S P :: R) rows :=
 Sep.shut (O := PtO b S P) ⟨t, lk, mw, md, mc, gs, rfl, h1, h2⟩ h
theorem yc9' (h : Sep w0 w (ybm' b S P :: R) rows) (hP : ∀ r ∈ P, r ∈ P') : Sep w0 w (ybm' b S P' :: R) rows := by
 obtain ⟨t, lk, mw, md, mc, gs, h1, h2, hS⟩ := ybu' h
 exact yba' (ya1' hS.up1 hP).up1 h1 (fun g hg => hP _ (h2 g hg))
set_option maxRecDepth 100000 in
set_option maxHeartbeats 4000000 in
theorem yi2' (h : Sep w0 w (yab' w0 P :: R) rows) (l : List OpS) (v : Value) (hv : (5, v, l.flatMap OpS.cells) ∈ P) (hn : l.length ≤ 100000) :
  Calls Tryz.prog 93 #[v] w fun e w' => e = .returned (.tuple #[.int .i64 (yap' l : Nat), .int .i64 (yed' l : Nat)]) ∧ Sep w0 w' (yab' w0 P :: R) rows := by
 obtain ⟨E, hE⟩ := h.poolGet hv
 obtain ⟨a, n, c, rfl, hl0, -, -, hne⟩ := ReadRow.some hE
 rw [yau' yag'] at hl0
 obtain rfl : l.length = n := by omega
 have HNE := Lib.hid hne
 have HV := Lib.hid hv
 have HX := Lib.hid h
 have HN := Lib.hid hn
 clear h hE hne hv hl0
 go_enter Tryz.func93, Tryz.ntmps93
 go_wp2_with (first | refine u0 ?_ | (refine uS ?_; clear HX; intro w HX) | (refine uA ?_; clear HX; (first | (have hq := b; clear hq; intro w b2 HX) | intro w b HX)))
 have HST := HX
 clear HX
 go_loopg [2, 3, 8] l.length (fun k v2 v3 v8 wr => ∃ i : Nat, i + k = l.length ∧ v2 = .int .i64 (yap' (l.take i) : Nat) ∧ v3 = .int .i64 (yed' (l.take i) : Nat) ∧ v8 = .int .i64 (i : Int) ∧ Sep w0 wr (yab' w0 P :: R) rows)
 case atStart => exact ⟨0, by simp, rfl, rfl, rfl, HST.out⟩
 case round =>
  rename World => w
  obtain ⟨i, hik, rfl, rfl, rfl, hS⟩ := hrel
  clear HST
  have HX := Lib.hid hS
  clear hS
  by_cases hlt : i < l.length
  case neg =>
   obtain rfl : i = l.length := by omega
   rw [List.take_length]
   clear hlt hik
   go_wp2_with (first | refine u0 ?_ | (refine uS ?_; clear HX; intro w HX) | (refine uA ?_; clear HX; (first | (have hq := b; clear hq; intro w b2 HX) | intro w b HX)))
   go_ret2
   exact ⟨rfl, HX.out⟩
  case pos =>
   obtain ⟨g, off, rfl⟩ := HNE.out (by intro e; have := congrArg List.length e; rw [yau' yag'] at this; simp at this; omega)
   obtain ⟨E, hE⟩ := HX.out.poolGet HV.out
   have hl := ycs' (P := Tryz.prog) (f := OpS.cells) (i := i) hE yag' sn_op hlt
   have htk : l.take (i + 1) = l.take i ++ [l[i]] := List.take_succ_eq_append_getElem hlt
   have hcn := yf8' (l.take i)
   have hti : (l.take i).length = i := by rw [List.length_take]; omega
   have q0 : decide (i < l.length) = true := decide_eq_true hlt
   obtain ⟨o, ho⟩ : ∃ o, l[i] = o := ⟨_, rfl⟩
   rw [ho] at hl htk
   have hca : yap' (l.take (i + 1)) = yap' (l.take i) + (if o.kind = 1 then 1 else 0) := by rw [htk, yc8', ydy']
   obtain ⟨kind, path, data, ver, flags⟩ := o
   simp only [OpS.cells] at hl
   dsimp only at hca
   by_cases hk : kind = 1
   ·have q1 : (kind != 1) = false := by rw [hk]; rfl
    rw [if_pos hk] at hca
    by_cases h0 : yap' (l.take i) = 0
    ·have hfi := yq7' (o := ⟨kind, path, data, ver, flags⟩) h0 hk
     rw [← htk, hti] at hfi
     rw [h0, yhr' h0]
     have HFI := Lib.hid (show _ ∧ _ from ⟨hca, hfi⟩)
     clear hE ho hfi hk hca hcn htk
     go_wp2_with (first | refine u0 ?_ | (refine uS ?_; clear HX; intro w HX) | (refine uA ?_; clear HX; (first | (have hq := b; clear hq; intro w b2 HX) | intro w b HX)) | ((with_reducible apply yaw' hl); (· rfl); (· rfl); simp only [Act.put, k_a, k_b, k_c]))
     go_roundg (l.length - (i + 1))
     case rel => exact ⟨i + 1, by omega, by rw [HFI.out.1, h0]; rfl, by rw [HFI.out.2], by go_num, HX.out.drop⟩
     case measure => omega
    ·have hfi := yka' ⟨kind, path, data, ver, flags⟩ h0
     rw [← htk] at hfi
     have HFI := Lib.hid (show _ ∧ _ from ⟨hca, hfi⟩)
     obtain ⟨cc, hcc⟩ : ∃ cc, yap' (l.take i) = cc := ⟨_, rfl⟩
     rw [hcc] at h0 HFI hcn ⊢
     have q2 : ((cc : Int) == 0) = false := by rw [beq_eq_false_iff_ne]; omega
     have q3 : cc ≤ 100000 := by have := HN.out; omega
     clear hE ho hfi hk hca hcn htk hcc
     go_wp2_with (first | refine u0 ?_ | (refine uS ?_; clear HX; intro w HX) | (refine uA ?_; clear HX; (first | (have hq := b; clear hq; intro w b2 HX) | intro w b HX)) | ((with_reducible apply yaw' hl); (· rfl); (· rfl); simp only [Act.put, k_a, k_b, k_c]))
     go_roundg (l.length - (i + 1))
     case rel => exact ⟨i + 1, by omega, by rw [HFI.out.1]; go_num, by rw [HFI.out.2], by go_num, HX.out.drop⟩
     case measure => omega
   ·have q1 : (kind != 1) = true := by rw [bne_iff_ne]; exact hk
    rw [if_neg hk, Nat.add_zero] at hca
    have hfi : yed' (l.take (i + 1)) = yed' (l.take i) := by
     by_cases h0 : yap' (l.take i) = 0
     ·rw [yhr' h0, yhr' (by rw [hca]; exact h0)]
     ·rw [htk]; exact yka' _ h0
    have HFI := Lib.hid (show _ ∧ _ from ⟨hca, hfi⟩)
    clear hE ho hfi hk hca hcn htk
    go_wp2_with (first | refine u0 ?_ | (refine uS ?_; clear HX; intro w HX) | (refine uA ?_; clear HX; (first | (have hq := b; clear hq; intro w b2 HX) | intro w b HX)) | ((with_reducible apply yaw' hl); (· rfl); (· rfl); simp only [Act.put, k_a, k_b, k_c]))
    go_roundg (l.length - (i + 1))
    case rel => exact ⟨i + 1, by omega, by rw [HFI.out.1]; rfl, by rw [HFI.out.2], by go_num, HX.out.drop⟩
    case measure => omega
end
end Go.Proofs.YtcnkifbjlihaoaaGreatDoor

namespace Go.Av
open Go.RowKit
theorem ywr' {f : Int} (h0 : 0 ≤ f) (h3 : f ≤ 3) : (bits .and .i64 f 2 != 0) = seqF f := by
 rcases (show f = 0 ∨ f = 1 ∨ f = 2 ∨ f = 3 by omega) with rfl | rfl | rfl | rfl <;> decide
end Go.Av
namespace Go.Proofs.YtcnkifbjlihaoaaGreatDoor
open Go.RowKit Go.Av
section
variable {w0 w : World} {b : Nat} {S : PartS} {P P' : List PRow} {R : List Thing} {rows : List (Value × Bs)}
def yyk' (w0 : World) (l : List Bs) (R : List Thing) (rows : List (Value × Bs)) (e : Ending) (w' : World) : Prop :=
 ∃ v, e = .returned v ∧ Sep w0 w' (yai' 1 v (l.map sv) :: R) rows
set_option maxRecDepth 100000 in
set_option maxHeartbeats 4000000 in
theorem yhh' (h : Sep w0 w R rows) (hd : DoorN w0) (o : OpS) (hp : o.path.size ≤ 100000) (h0 : 0 ≤ o.flags) (h3 : o.flags ≤ 3) :
  Calls Tryz.prog 72 #[o.val] w (yyk' w0 (yaz' o) R rows) := by
 have hsq := ywr' h0 h3
 obtain ⟨ws, hws⟩ : ∃ ws, yaz' o = ws := ⟨_, rfl⟩
 rw [hws]
 have HWS := Lib.hid hws
 have HX := Lib.hid h
 clear h hws h0 h3
 obtain ⟨kind, path, data, ver, flags⟩ := o
 unfold OpS.val
 dsimp only at hp hsq ⊢
 obtain ⟨zs, hzs⟩ : ∃ z, seqF flags = z := ⟨_, rfl⟩
 rw [hzs] at hsq
 have HZS := Lib.hid hzs
 clear hzs
 have HBD := Lib.hid (show ∀ n, [sv path.data.toList].length = n * 1 → n + 1 ≤ 140737488355328 ∧ (n + 1) * 16 ≤ 140737488355328 from fun n hn => by simp at hn; omega)
 go_enter Tryz.func72, Tryz.ntmps72
 go_upto_region 2 with (first | refine u0 ?_ | (refine uS ?_; clear HX; intro w HX) | (refine uA ?_; clear HX; (first | (have hq := b; clear hq; intro w b2 HX) | intro w b HX)) | (refine uP ?_; clear HX; intro w av nv cv HX))
 have h9 := HX.out.cellRow (K := 1) (n := 1) (cs := [Value.string path]) rfl (by omega)
 replace HX := Lib.hid h9
 clear h9
 go_wp2_with (first | refine u0 ?_ | (refine uS ?_; clear HX; intro w HX) | (refine uA ?_; clear HX; (first | (have hq := b; clear hq; intro w b2 HX) | intro w b HX)) | (refine uP ?_; clear HX; intro w av nv cv HX))
 refine (ydv' path _ (hd.sep HX.out).1 (by unfold maxLen; omega)).mono ?_
 cases hpa : yat' path.data.toList with
 | none =>
  rintro e w1 ⟨rfl, hu⟩
  replace HX := Lib.hid (HX.out.keep hu)
  obtain rfl : ws = [path.data.toList] := by rw [← HWS.out]; unfold yaz'; rw [show yat' (OpS.p ⟨kind, path, data, ver, flags⟩) = none from hpa]; rfl
  clear hu hpa
  dsimp only [Option.isSome, Option.getD]
  unfold sv
  go_wp2_with (first | refine u0 ?_ | (refine uS ?_; clear HX; intro w HX) | (refine uA ?_; clear HX; (first | (have hq := b; clear hq; intro w b2 HX) | intro w b HX)) | (refine uP ?_; clear HX; intro w av nv cv HX))
  go_ret
  exact ⟨_, rfl, HX.out.cut1⟩
 | some up =>
  rintro e w1 ⟨rfl, hu⟩
  replace HX := Lib.hid (HX.out.keep hu)
  have HW2 := Lib.hid (show ws = if kind == 1 && zs then [path.data.toList, up] else [path.data.toList] by rw [← HWS.out]; unfold yaz'; rw [show yat' (OpS.p ⟨kind, path, data, ver, flags⟩) = some up from hpa, ← HZS.out]; rfl)
  clear hu hpa
  dsimp only [Option.isSome, Option.getD]
  obtain ⟨us, hus⟩ : ∃ us : ByteArray, us = ⟨up.toArray⟩ := ⟨_, rfl⟩
  have husv : sv up = .string us := by rw [hus]; rfl
  rw [husv]
  have HUS := Lib.hid husv
  clear hus husv
  obtain ⟨zk, hzk⟩ : ∃ z, (kind == 1) = z := ⟨_, rfl⟩
  rw [hzk] at HW2
  cases zk with
  | false =>
   obtain rfl : ws = [path.data.toList] := HW2.out
   go_wp2_with (first | refine u0 ?_ | (refine uS ?_; clear HX; intro w HX) | (refine uA ?_; clear HX; (first | (have hq := b; clear hq; intro w b2 HX) | intro w b HX)) | (refine uP ?_; clear HX; intro w av nv cv HX))
   go_ret
   exact ⟨_, rfl, HX.out.cut1⟩
  | true =>
   cases zs with
   | false =>
    obtain rfl : ws = [path.data.toList] := HW2.out
    go_wp2_with (first | refine u0 ?_ | (refine uS ?_; clear HX; intro w HX) | (refine uA ?_; clear HX; (first | (have hq := b; clear hq; intro w b2 HX) | intro w b HX)) | (refine uP ?_; clear HX; intro w av nv cv HX))
    go_ret
    exact ⟨_, rfl, HX.out.cut1⟩
   | true =>
    obtain rfl : ws = [path.data.toList, up] := HW2.out
    go_wp2_with (first | refine u0 ?_ | (refine uS ?_; clear HX; intro w HX) | (refine uA ?_; clear HX; (first | (have hq := b; clear hq; intro w b2 HX) | intro w b HX)) | (refine uP ?_; clear HX; intro w av nv cv HX))
    go_ret
    refine ⟨_, rfl, ?_⟩
    rw [List.map_cons, List.map_cons, List.map_nil, HUS.out]
    exact HX.out.cut1.cut1
end
end Go.Proofs.YtcnkifbjlihaoaaGreatDoor

namespace Go.Av
open Go.RowKit
def wG (g : WaitG) : Nat := if g.x.fails then 0 else yap' g.x.ops
theorem yof' (gs : List WaitG) : ya6' (gs.map WaitG.ent) = (gs.map wG).sum := by
 unfold ya6'
 rw [List.map_map]
 rfl
theorem yqm' {a b : List Nat} (h : a.Perm b) : a.sum = b.sum := by
 induction h with
 | nil => rfl
 | cons x _ ih => rw [List.sum_cons, List.sum_cons, ih]
 | swap x y l => simp only [List.sum_cons]; omega
 | trans _ _ h1 h2 => exact h1.trans h2
end Go.Av
namespace Go.Proofs.YtcnkifbjlihaoaaGreatDoor
open Go.RowKit Go.Av
section
variable {w0 w : World} {b : Nat} {S : PartS} {P P' : List PRow} {R : List Thing} {rows : List (Value × Bs)}
def yxp' (w0 : World) (mw r : Nat) (gs : List WaitG) (P : List PRow) (R : List Thing) (rows : List (Value × Bs)) (k : Nat) (v3 : Value) (w : World) : Prop :=
 ∃ left done : List WaitG, left.length = k ∧ (done ++ left).Perm gs ∧ v3 = .int .i64 ((done.map wG).sum : Nat) ∧ Sep w0 w (yea' (.int .i64) mw r (gs.map WaitG.kv) (left.map WaitG.kv) :: yab' w0 P :: R) rows
set_option maxRecDepth 100000 in
set_option maxHeartbeats 8000000 in
theorem yrz' (h : Sep w0 w (yab' w0 P :: ybm' b S P :: R) rows) (hW : ya6' S.wait ≤ 100000) (hO : ∀ e ∈ S.wait, e.2.ops.length ≤ 100000) :
  Calls Tryz.prog 29 #[.pointer (some ⟨b, 0, none⟩)] w fun e w' => e = .returned (.int .i64 (ya6' S.wait : Nat)) ∧ Sep w0 w' (yab' w0 P :: ybm' b S P :: R) rows := by
 obtain ⟨t, lk, mw, md, mc, gs, hgs, hv, hS⟩ := ybu' h.up1
 rw [← hgs] at hW hO
 have HG := Lib.hid (show _ ∧ _ ∧ _ ∧ _ from ⟨hgs, hv, hW, hO⟩)
 obtain ⟨R', hR'⟩ : ∃ R', yan' t S.t P :: ThLk lk S.held :: yam' (.int .i64) md (S.decided.map ikv) :: yam' (.int .i64) mc (S.closed.map ikv) :: R = R' := ⟨_, rfl⟩
 have HRR := Lib.hid hR'
 have h1 : Sep w0 w (yam' (.int .i64) mw (gs.map WaitG.kv) :: yab' w0 P :: yac' b (.cells (yak' S.t.room t lk S.zxid mw md mc) 123 (0, 0)) :: R') rows := by
  rw [← hR']
  exact hS.pm 7 [3, 6, 0, 1, 2, 4, 5] rfl rfl
 have HX := Lib.hid h1
 clear h hgs hv hS hR' h1 hW hO
 go_enter Tryz.func29, Tryz.ntmps29
 go_upto_region 2 with (first | refine u0 ?_ | (refine uS ?_; clear HX; intro w HX) | (refine uA ?_; clear HX; (first | (have hq := b; clear hq; intro w b2 HX) | intro w b HX)))
 obtain ⟨r, w9, hrun, h9⟩ := yft' (P := Tryz.prog) HX.out Tryz.underlying120
 have HST := Lib.hid (show yxp' w0 mw r gs P (yac' b (.cells (yak' S.t.room t lk S.zxid mw md mc) 123 (0, 0)) :: R') rows gs.length (.int .i64 (0 : Int)) w9 from ⟨gs, [], rfl, by simp, rfl, h9⟩)
 go_wp2_with (first | refine u0 ?_ | (refine uS ?_; clear HX; intro w HX) | (refine uA ?_; clear HX; (first | (have hq := b; clear hq; intro w b2 HX) | intro w b HX)))
 clear HX hrun h9
 go_loopg [3, 5, 6, 7] gs.length (fun k v3 _ _ _ wr => yxp' w0 mw r gs P (yac' b (.cells (yak' S.t.room t lk S.zxid mw md mc) 123 (0, 0)) :: R') rows k v3 wr)
 case atStart => exact HST.out
 case round =>
  obtain ⟨left, done, hk, hpm, rfl, hS⟩ := hrel
  clear HST
  rcases yht' (P := Tryz.prog) WaitG.kv hS with ⟨rfl, hn⟩ | ⟨l1, g, l2, w1, rfl, hn, h1, hen⟩
  ·have HX := Lib.hid hS
   have HT := Lib.hid (show (done.map wG).sum = ya6' S.wait by rw [← HG.out.1, yof']; exact yqm' ((by simpa using hpm : done.Perm gs).map wG))
   clear hS hk hpm
   go_wp2_with (first | refine u0 ?_ | (refine uS ?_; clear HX; intro w HX) | (refine uA ?_; clear HX; (first | (have hq := b; clear hq; intro w b2 HX) | intro w b HX)))
   go_ret
   have h5 := yeq' HX.out
   rw [← HRR.out] at h5
   refine ⟨by rw [HT.out]; rfl, ?_⟩
   exact (yba' (b := b) (t := t) (lk := lk) (mw := mw) (md := md) (mc := mc) (gs := gs) (S := S) (R := yab' w0 P :: R) (h5.pm 7 [2, 3, 4, 0, 5, 6, 1] rfl rfl) HG.out.1 HG.out.2.1).up1
  ·have hg : g ∈ gs := hpm.mem_iff.1 (by simp)
   have hgv := HG.out.2.1 g hg
   obtain ⟨E, hE⟩ := h1.up1.poolGet hgv
   obtain ⟨ga, gn, gc, hvs, -⟩ := ReadRow.some hE
   have htot : ((done ++ (l1 ++ g :: l2)).map wG).sum = ya6' (gs.map WaitG.ent) := by rw [yof']; exact yqm' (hpm.map wG)
   have hbd : (done.map wG).sum + wG g ≤ 100000 := by
    have := HG.out.2.2.1
    rw [← htot] at this
    simp only [List.map_append, List.map_cons, List.sum_append, List.sum_cons] at this
    omega
   have hol := HG.out.2.2.2 g.ent (List.mem_map_of_mem hg)
   have HF := Lib.hid (show _ ∧ _ from ⟨hk, (show (done ++ [g] ++ (l1 ++ l2)).Perm gs from List.Perm.trans (by simp only [List.append_assoc]; refine List.Perm.append_left _ ?_; rw [List.singleton_append]; exact List.perm_middle.symm) hpm)⟩)
   have HS := Lib.hid (show ((done ++ [g]).map wG).sum = (done.map wG).sum + wG g by simp)
   have HX := Lib.hid h1
   clear hS h1 hk hpm hg hE htot
   obtain ⟨id, ⟨gs1, gops, gcl, gfa⟩, gv⟩ := g
   dsimp only [WaitG.kv, WaitG.ent] at hn hen hgv hvs hol HX
   subst hvs
   have HGV := Lib.hid (show _ ∧ _ from ⟨hgv, hol⟩)
   obtain ⟨sd, hsd⟩ : ∃ sd, (done.map wG).sum = sd := ⟨_, rfl⟩
   rw [hsd] at HS hbd ⊢
   clear hgv hol hsd
   cases gfa with
   | true =>
    go_wp2_with (first | refine u0 ?_ | (refine uS ?_; clear HX; intro w HX) | (refine uA ?_; clear HX; (first | (have hq := b; clear hq; intro w b2 HX) | intro w b HX)))
    go_roundg (l1 ++ l2).length
    case rel =>
     refine ⟨l1 ++ l2, _, rfl, HF.out.2, by rw [HS.out]; rfl, HX.out.drop⟩
    case measure =>
     have := HF.out.1
     simp at this ⊢; omega
   | false =>
    have hb2 : sd + yap' gops ≤ 100000 := hbd
    clear hbd
    go_wp2_with (first | refine u0 ?_ | (refine uS ?_; clear HX; intro w HX) | (refine uA ?_; clear HX; (first | (have hq := b; clear hq; intro w b2 HX) | intro w b HX)))
    refine (yi2' HX.out.up2 gops _ HGV.out.1 HGV.out.2).mono ?_
    rintro e w ⟨rfl, hx⟩
    replace HX := Lib.hid hx
    clear hx
    obtain ⟨cc, hcc⟩ : ∃ cc, yap' gops = cc := ⟨_, rfl⟩
    rw [hcc] at hb2 ⊢
    have HCC := Lib.hid hcc
    clear hcc
    go_wp2_with (first | refine u0 ?_ | (refine uS ?_; clear HX; intro w HX) | (refine uA ?_; clear HX; (first | (have hq := b; clear hq; intro w b2 HX) | intro w b HX)))
    go_roundg (l1 ++ l2).length
    case rel =>
     refine ⟨l1 ++ l2, _, rfl, HF.out.2, by rw [HS.out, show wG ⟨id, ⟨gs1, gops, gcl, false⟩, .slice ga gn gc⟩ = cc from HCC.out]; go_num, HX.out.cut1.up1⟩
    case measure =>
     have := HF.out.1
     simp at this ⊢; omega
def ypk' (w0 : World) (mw r : Nat) (gs : List WaitG) (f : Int × WaitS → Bool) (R : List Thing) (rows : List (Value × Bs)) (k : Nat) (w : World) : Prop :=
 ∃ left : List WaitG, left.length = k ∧ (∀ g ∈ left, g ∈ gs) ∧ (∀ g ∈ gs, g ∈ left ∨ f g.ent = false) ∧ Sep w0 w (yea' (.int .i64) mw r (gs.map WaitG.kv) (left.map WaitG.kv) :: R) rows
set_option maxRecDepth 100000 in
set_option maxHeartbeats 8000000 in
theorem yw9' (h : Sep w0 w (yab' w0 P :: ybm' b S P :: R) rows) (sess : Int) :
  Calls Tryz.prog 79 #[.pointer (some ⟨b, 0, none⟩), .int .i64 sess] w fun e w' => e = .returned (.bool (yn9' S.wait sess)) ∧ Sep w0 w' (yab' w0 P :: ybm' b S P :: R) rows := by
 obtain ⟨t, lk, mw, md, mc, gs, hgs, hv, hS⟩ := ybu' h.up1
 have HG := Lib.hid (show _ ∧ _ from ⟨hgs, hv⟩)
 obtain ⟨R', hR'⟩ : ∃ R', yan' t S.t P :: ThLk lk S.held :: yam' (.int .i64) md (S.decided.map ikv) :: yam' (.int .i64) mc (S.closed.map ikv) :: R = R' := ⟨_, rfl⟩
 have HRR := Lib.hid hR'
 have h1 : Sep w0 w (yam' (.int .i64) mw (gs.map WaitG.kv) :: yab' w0 P :: yac' b (.cells (yak' S.t.room t lk S.zxid mw md mc) 123 (0, 0)) :: R') rows := by
  rw [← hR']
  exact hS.pm 7 [3, 6, 0, 1, 2, 4, 5] rfl rfl
 have HX := Lib.hid h1
 obtain ⟨res, hres⟩ : ∃ res, yn9' S.wait sess = res := ⟨_, rfl⟩
 rw [hres]
 have HRES := Lib.hid (show res = gs.any fun g => (fun e : Int × WaitS => e.2.sess == sess) g.ent by rw [← hres, ← hgs]; unfold yn9'; rw [List.any_map]; rfl)
 clear h hgs hv hS hR' h1 hres
 go_enter Tryz.func79, Tryz.ntmps79
 go_upto_region 1 with (first | refine u0 ?_ | (refine uS ?_; clear HX; intro w HX) | (refine uA ?_; clear HX; (first | (have hq := b; clear hq; intro w b2 HX) | intro w b HX)))
 obtain ⟨r, w9, hrun, h9⟩ := yft' (P := Tryz.prog) HX.out Tryz.underlying120
 have HST := Lib.hid (show ypk' w0 mw r gs (fun e : Int × WaitS => e.2.sess == sess) (yab' w0 P :: yac' b (.cells (yak' S.t.room t lk S.zxid mw md mc) 123 (0, 0)) :: R') rows gs.length w9 from ⟨gs, rfl, fun _ h => h, fun g hg => .inl hg, h9⟩)
 go_wp2_with (first | refine u0 ?_ | (refine uS ?_; clear HX; intro w HX) | (refine uA ?_; clear HX; (first | (have hq := b; clear hq; intro w b2 HX) | intro w b HX)))
 clear HX hrun h9
 go_loopg [6] gs.length (fun k _ wr => ypk' w0 mw r gs (fun e : Int × WaitS => e.2.sess == sess) (yab' w0 P :: yac' b (.cells (yak' S.t.room t lk S.zxid mw md mc) 123 (0, 0)) :: R') rows k wr)
 case atStart => exact HST.out
 case round =>
  obtain ⟨left, hk, hin, hall, hS⟩ := hrel
  clear HST
  rcases yht' (P := Tryz.prog) WaitG.kv hS with ⟨rfl, hn⟩ | ⟨l1, g, l2, w1, rfl, hn, h1, hen⟩
  ·have HX := Lib.hid hS
   obtain rfl : res = false := by
    rw [HRES.out, List.any_eq_false]
    intro g hg
    rcases hall g hg with h | h
    ·cases h
    ·exact fun hh => Bool.false_ne_true (h.symm.trans hh)
   clear hS hk hin hall
   go_wp2_with (first | refine u0 ?_ | (refine uS ?_; clear HX; intro w HX) | (refine uA ?_; clear HX; (first | (have hq := b; clear hq; intro w b2 HX) | intro w b HX)))
   go_ret
   have h5 := yeq' HX.out
   rw [← HRR.out] at h5
   refine ⟨rfl, ?_⟩
   exact (yba' (b := b) (t := t) (lk := lk) (mw := mw) (md := md) (mc := mc) (gs := gs) (S := S) (R := yab' w0 P :: R) (h5.pm 7 [2, 3, 4, 0, 5, 6, 1] rfl rfl) HG.out.1 HG.out.2).up1
  ·have hg := hin g (by simp)
   obtain ⟨E, hE⟩ := h1.up1.poolGet (HG.out.2 g hg)
   obtain ⟨ga, gn, gc, hvs, -⟩ := ReadRow.some hE
   have HF := Lib.hid (show _ ∧ _ ∧ _ from ⟨hk, hin, hall⟩)
   have HR := Lib.hid (show (fun e : Int × WaitS => e.2.sess == sess) g.ent = true → res = true from fun hf => by rw [HRES.out]; exact List.any_eq_true.2 ⟨g, hg, hf⟩)
   have HX := Lib.hid h1
   clear hS h1 hk hin hall hg hE
   obtain ⟨id, ⟨gs1, gops, gcl, gfa⟩, gv⟩ := g
   dsimp only [WaitG.kv, WaitG.ent] at hn hen hvs HX HR
   subst hvs
   by_cases hs : gs1 = sess
   ·have q1 : (gs1 == sess) = true := by rw [hs]; exact beq_self_eq_true _
    have HFE := Lib.hid (show (gs1 == sess) = true from q1)
    obtain rfl : res = true := HR.out HFE.out
    go_wp2_with (first | refine u0 ?_ | (refine uS ?_; clear HX; intro w HX) | (refine uA ?_; clear HX; (first | (have hq := b; clear hq; intro w b2 HX) | intro w b HX)))
    go_ret
    replace HX := Lib.hid HX.out.drop
    have h5 := yeq' HX.out
    rw [← HRR.out] at h5
    refine ⟨rfl, ?_⟩
    exact (yba' (b := b) (t := t) (lk := lk) (mw := mw) (md := md) (mc := mc) (gs := gs) (S := S) (R := yab' w0 P :: R) (h5.pm 7 [2, 3, 4, 0, 5, 6, 1] rfl rfl) HG.out.1 HG.out.2).up1
   ·have q1 : (gs1 == sess) = false := by rw [beq_eq_false_iff_ne]; exact hs
    have HFE := Lib.hid (show (gs1 == sess) = false from q1)
    go_wp2_with (first | refine u0 ?_ | (refine uS ?_; clear HX; intro w HX) | (refine uA ?_; clear HX; (first | (have hq := b; clear hq; intro w b2 HX) | intro w b HX)))
    go_roundg (l1 ++ l2).length
    case rel =>
     obtain ⟨hk, hin, hall⟩ := HF.out
     refine ⟨l1 ++ l2, rfl, fun x hx => hin x ?_, fun x hx => ?_, HX.out.drop⟩
     ·rcases List.mem_append.1 hx with h | h <;> simp [h]
     ·rcases hall x hx with h | h
      ·rcases List.mem_append.1 h with h | h
       ·exact .inl (List.mem_append_left _ h)
       ·rcases List.mem_cons.1 h with rfl | h
        ·exact .inr HFE.out
        ·exact .inl (List.mem_append_right _ h)
      ·exact .inr h
    case measure =>
     obtain ⟨hk, hin, hall⟩ := HF.out
     simp at hk ⊢; omega
set_option maxRecDepth 100000 in
set_option maxHeartbeats 8000000 in
theorem yol' (h : Sep w0 w (yab' w0 P :: ybm' b S P :: R) rows) (sess : Int) :
  Calls Tryz.prog 140 #[.pointer (some ⟨b, 0, none⟩), .int .i64 sess] w fun e w' => e = .returned (.bool (yc0' S.wait sess)) ∧ Sep w0 w' (yab' w0 P :: ybm' b S P :: R) rows := by
 obtain ⟨t, lk, mw, md, mc, gs, hgs, hv, hS⟩ := ybu' h.up1
 have HG := Lib.hid (show _ ∧ _ from ⟨hgs, hv⟩)
 obtain ⟨R', hR'⟩ : ∃ R', yan' t S.t P :: ThLk lk S.held :: yam' (.int .i64) md (S.decided.map ikv) :: yam' (.int .i64) mc (S.closed.map ikv) :: R = R' := ⟨_, rfl⟩
 have HRR := Lib.hid hR'
 have h1 : Sep w0 w (yam' (.int .i64) mw (gs.map WaitG.kv) :: yab' w0 P :: yac' b (.cells (yak' S.t.room t lk S.zxid mw md mc) 123 (0, 0)) :: R') rows := by
  rw [← hR']
  exact hS.pm 7 [3, 6, 0, 1, 2, 4, 5] rfl rfl
 have HX := Lib.hid h1
 obtain ⟨res, hres⟩ : ∃ res, yc0' S.wait sess = res := ⟨_, rfl⟩
 rw [hres]
 have HRES := Lib.hid (show res = gs.any fun g => (fun e : Int × WaitS => e.2.close && e.2.sess == sess) g.ent by rw [← hres, ← hgs]; unfold yc0'; rw [List.any_map]; rfl)
 clear h hgs hv hS hR' h1 hres
 go_enter Tryz.func140, Tryz.ntmps140
 go_upto_region 1 with (first | refine u0 ?_ | (refine uS ?_; clear HX; intro w HX) | (refine uA ?_; clear HX; (first | (have hq := b; clear hq; intro w b2 HX) | intro w b HX)))
 obtain ⟨r, w9, hrun, h9⟩ := yft' (P := Tryz.prog) HX.out Tryz.underlying120
 have HST := Lib.hid (show ypk' w0 mw r gs (fun e : Int × WaitS => e.2.close && e.2.sess == sess) (yab' w0 P :: yac' b (.cells (yak' S.t.room t lk S.zxid mw md mc) 123 (0, 0)) :: R') rows gs.length w9 from ⟨gs, rfl, fun _ h => h, fun g hg => .inl hg, h9⟩)
 go_wp2_with (first | refine u0 ?_ | (refine uS ?_; clear HX; intro w HX) | (refine uA ?_; clear HX; (first | (have hq := b; clear hq; intro w b2 HX) | intro w b HX)))
 clear HX hrun h9
 go_loopg [6] gs.length (fun k _ wr => ypk' w0 mw r gs (fun e : Int × WaitS => e.2.close && e.2.sess == sess) (yab' w0 P :: yac' b (.cells (yak' S.t.room t lk S.zxid mw md mc) 123 (0, 0)) :: R') rows k wr)
 case atStart => exact HST.out
 case round =>
  obtain ⟨left, hk, hin, hall, hS⟩ := hrel
  clear HST
  rcases yht' (P := Tryz.prog) WaitG.kv hS with ⟨rfl, hn⟩ | ⟨l1, g, l2, w1, rfl, hn, h1, hen⟩
  ·have HX := Lib.hid hS
   obtain rfl : res = false := by
    rw [HRES.out, List.any_eq_false]
    intro g hg
    rcases hall g hg with h | h
    ·cases h
    ·exact fun hh => Bool.false_ne_true (h.symm.trans hh)
   clear hS hk hin hall
   go_wp2_with (first | refine u0 ?_ | (refine uS ?_; clear HX; intro w HX) | (refine uA ?_; clear HX; (first | (have hq := b; clear hq; intro w b2 HX) | intro w b HX)))
   go_ret
   have h5 := yeq' HX.out
   rw [← HRR.out] at h5
   refine ⟨rfl, ?_⟩
   exact (yba' (b := b) (t := t) (lk := lk) (mw := mw) (md := md) (mc := mc) (gs := gs) (S := S) (R := yab' w0 P :: R) (h5.pm 7 [2, 3, 4, 0, 5, 6, 1] rfl rfl) HG.out.1 HG.out.2).up1
  ·have hg := hin g (by simp)
   obtain ⟨E, hE⟩ := h1.up1.poolGet (HG.out.2 g hg)
   obtain ⟨ga, gn, gc, hvs, -⟩ := ReadRow.some hE
   have HF := Lib.hid (show _ ∧ _ ∧ _ from ⟨hk, hin, hall⟩)
   have HR := Lib.hid (show (fun e : Int × WaitS => e.2.close && e.2.sess == sess) g.ent = true → res = true from fun hf => by rw [HRES.out]; exact List.any_eq_true.2 ⟨g, hg, hf⟩)
   have HX := Lib.hid h1
   clear hS h1 hk hin hall hg hE
   obtain ⟨id, ⟨gs1, gops, gcl, gfa⟩, gv⟩ := g
   dsimp only [WaitG.kv, WaitG.ent] at hn hen hvs HX HR
   subst hvs
   cases gcl with
   | false =>
    have HFE := Lib.hid (show (false && gs1 == sess) = false from rfl)
    go_wp2_with (first | refine u0 ?_ | (refine uS ?_; clear HX; intro w HX) | (refine uA ?_; clear HX; (first | (have hq := b; clear hq; intro w b2 HX) | intro w b HX)))
    go_roundg (l1 ++ l2).length
    case rel =>
     obtain ⟨hk, hin, hall⟩ := HF.out
     refine ⟨l1 ++ l2, rfl, fun x hx => hin x ?_, fun x hx => ?_, HX.out.drop⟩
     ·rcases List.mem_append.1 hx with h | h <;> simp [h]
     ·rcases hall x hx with h | h
      ·rcases List.mem_append.1 h with h | h
       ·exact .inl (List.mem_append_left _ h)
       ·rcases List.mem_cons.1 h with rfl | h
        ·exact .inr HFE.out
        ·exact .inl (List.mem_append_right _ h)
      ·exact .inr h
    case measure =>
     obtain ⟨hk, hin, hall⟩ := HF.out
     simp at hk ⊢; omega
   | true =>
    by_cases hs : gs1 = sess
    ·have q1 : (gs1 == sess) = true := by rw [hs]; exact beq_self_eq_true _
     have HFE := Lib.hid (show (true && gs1 == sess) = true by rw [q1]; rfl)
     obtain rfl : res = true := HR.out HFE.out
     go_wp2_with (first | refine u0 ?_ | (refine uS ?_; clear HX; intro w HX) | (refine uA ?_; clear HX; (first | (have hq := b; clear hq; intro w b2 HX) | intro w b HX)))
     go_ret
     replace HX := Lib.hid HX.out.drop
     have h5 := yeq' HX.out
     rw [← HRR.out] at h5
     refine ⟨rfl, ?_⟩
     exact (yba' (b := b) (t := t) (lk := lk) (mw := mw) (md := md) (mc := mc) (gs := gs) (S := S) (R := yab' w0 P :: R) (h5.pm 7 [2, 3, 4, 0, 5, 6, 1] rfl rfl) HG.out.1 HG.out.2).up1
    ·have q1 : (gs1 == sess) = false := by rw [beq_eq_false_iff_ne]; exact hs
     have HFE := Lib.hid (show (true && gs1 == sess) = false by rw [q1]; rfl)
     go_wp2_with (first | refine u0 ?_ | (refine uS ?_; clear HX; intro w HX) | (refine uA ?_; clear HX; (first | (have hq := b; clear hq; intro w b2 HX) | intro w b HX)))
     go_roundg (l1 ++ l2).length
     case rel =>
      obtain ⟨hk, hin, hall⟩ := HF.out
      refine ⟨l1 ++ l2, rfl, fun x hx => hin x ?_, fun x hx => ?_, HX.out.drop⟩
      ·rcases List.mem_append.1 hx with h | h <;> simp [h]
      ·rcases hall x hx with h | h
       ·rcases List.mem_append.1 h with h | h
        ·exact .inl (List.mem_append_left _ h)
        ·rcases List.mem_cons.1 h with rfl | h
         ·exact .inr HFE.out
         ·exact .inl (List.mem_append_right _ h)
       ·exact .inr h
     case measure =>
      obtain ⟨hk, hin, hall⟩ := HF.out
      simp at hk ⊢; omega
end
end Go.Proofs.YtcnkifbjlihaoaaGreatDoor

namespace Go.Proofs.YtcnkifbjlihaoaaGreatDoor
open Go.RowKit Go.Av
section
variable {w0 w : World} {b : Nat} {S : PartS} {P P' : List PRow} {R : List Thing} {rows : List (Value × Bs)}
abbrev yiy' (b b4 b5 : Nat) (id : Int) (S : PartS) (P : List PRow) (R : List Thing) : List Thing := yac' b5 (.cells #[.int .i64 id] 2 (0, 0)) :: yac' b4 (.cells #[.pointer (some ⟨b, 0, none⟩)] 24 (0, 0)) :: ybm' b S P :: R
set_option maxRecDepth 100000 in
set_option maxHeartbeats 4000000 in
theorem yyp' {b4 b5 : Nat} {id : Int} (h : Sep w0 w (yiy' b b4 b5 id S P R) rows) (hd : DoorN w0) (p : ByteArray) (hp : p.size ≤ 100000) (hH : ∀ e ∈ S.held, e.1.length ≤ 100000) :
  Calls Tryz.prog 142 #[.string p, .pointer (some ⟨b4, 0, none⟩), .pointer (some ⟨b5, 0, none⟩)] w fun e w' => e = .returned (.bool (ybp' S.held id p.data.toList)) ∧ Sep w0 w' (yiy' b b4 b5 id S P R) rows := by
 obtain ⟨t, lk, mw, md, mc, gs, h1, h2, hS⟩ := ybu' h.up2
 have HG := Lib.hid (show _ ∧ _ from ⟨h1, h2⟩)
 obtain ⟨R', hR'⟩ : ∃ R', yan' t S.t P :: yam' (.int .i64) mw (gs.map WaitG.kv) :: yam' (.int .i64) md (S.decided.map ikv) :: yam' (.int .i64) mc (S.closed.map ikv) :: R = R' := ⟨_, rfl⟩
 have h3 : Sep w0 w (ThLk lk S.held :: yac' b5 (.cells #[.int .i64 id] 2 (0, 0)) :: yac' b4 (.cells #[.pointer (some ⟨b, 0, none⟩)] 24 (0, 0)) :: yac' b (.cells (yak' S.t.room t lk S.zxid mw md mc) 123 (0, 0)) :: R') rows := by
  rw [← hR']
  exact hS.pm 8 [2, 6, 7, 0, 1, 3, 4, 5] rfl rfl
 have HRR := Lib.hid hR'
 have HX := Lib.hid h3
 clear h h1 h2 hS h3 hR'
 go_enter Tryz.func142, Tryz.ntmps142
 go_wp2_with (first | refine u0 ?_ | (refine uS ?_; clear HX; intro w HX) | (refine uA ?_; clear HX; (first | (have hq := b5; clear hq; intro w b6 HX) | (have hq := b4; clear hq; intro w b5 HX) | (have hq := b3; clear hq; intro w b4 HX) | (have hq := b2; clear hq; intro w b3 HX) | (have hq := b; clear hq; intro w b2 HX) | intro w b HX)))
 refine rM (fun W => Sep w0 W (ThLk lk S.held :: yac' b5 (.cells #[.int .i64 id] 2 (0, 0)) :: yac' b4 (.cells #[.pointer (some ⟨b, 0, none⟩)] 24 (0, 0)) :: yac' b (.cells (yak' S.t.room t lk S.zxid mw md mc) 123 (0, 0)) :: R') rows) 7 ?_
 intro KEEPX
 replace HX := Lib.hid HX.out.drew
 refine rT [(0, true), (1, false), (2, false), (3, true), (4, true), (5, false)] 2 ?_
 apply Exists.intro; refine ⟨?_, HX.out, ?_⟩
 ·iterate 6 (refine xE ?_)
  exact rfl
 refine r1 1 6 fun K hK => ?_
 go_wp2_with fail
 refine (yj3' HX.out hd id p hp hH).mono ?_
 rintro e w ⟨rfl, hx⟩
 replace HX := Lib.hid hx
 clear hx
 go_wp2_with fail
 refine hK _ _ HX.out ?_
 clear hK
 refine rL [7] 0 ?_
 simp only [List.filterMap_cons, List.filterMap_nil, k_i, k_j, k_k]
 go_wp2_with fail
 go_ret
 have h5 := HX.out
 rw [← HRR.out] at h5
 exact ⟨rfl, (yba' (b := b) (t := t) (lk := lk) (mw := mw) (md := md) (mc := mc) (gs := gs) (S := S) (R := yac' b5 _ :: yac' b4 _ :: R) (h5.pm 8 [3, 4, 0, 5, 6, 7, 1, 2] rfl rfl) HG.out.1 HG.out.2).pm 3 [1, 2, 0] rfl rfl⟩
abbrev cloV (b4 b5 : Nat) : Value := .func (.func 142) #[] #[.pointer (some ⟨b4, 0, none⟩), .pointer (some ⟨b5, 0, none⟩)]
def yx8' (w0 : World) (R : List Thing) (rows : List (Value × Bs)) (z : Bool) (e : Ending) (w' : World) : Prop :=
 ∃ r : Int, e = .returned (.int .i64 r) ∧ decide (0 ≤ r) = z ∧ Sep w0 w' R rows
set_option maxRecDepth 100000 in
set_option maxHeartbeats 2000000 in
theorem yra' {b4 b5 : Nat} {id : Int} (h : Sep w0 w (yab' w0 P :: yiy' b b4 b5 id S P R) rows) (hd : DoorN w0) (ws : List Bs) (v : Value) (hv : (1, v, ws.map sv) ∈ P) (hp : ∀ p ∈ ws, p.length ≤ 100000) (hH : ∀ e ∈ S.held, e.1.length ≤ 100000) (hn : ws.length ≤ 100000) :
  Calls Tryz.prog 179 #[v, cloV b4 b5] w (yx8' w0 (yab' w0 P :: yiy' b b4 b5 id S P R) rows (ws.any fun p => ybp' S.held id p)) := by
 obtain ⟨E, hE⟩ := h.poolGet hv
 obtain ⟨a, n, c, rfl, hl0, -, -, hne⟩ := ReadRow.some hE
 rw [List.length_map, Nat.mul_one] at hl0
 subst hl0
 have HNE := Lib.hid hne
 have HV := Lib.hid (show _ ∧ _ from ⟨hv, hp⟩)
 have HX := Lib.hid h
 clear h hE hne hv hp
 go_enter Tryz.func179, Tryz.ntmps179
 go_wp2_with (first | refine u0 ?_ | (refine uS ?_; clear HX; intro w HX) | (refine uA ?_; clear HX; (first | (have hq := b5; clear hq; intro w b6 HX) | (have hq := b4; clear hq; intro w b5 HX) | (have hq := b3; clear hq; intro w b4 HX) | (have hq := b2; clear hq; intro w b3 HX) | (have hq := b; clear hq; intro w b2 HX) | intro w b HX)))
 go_loopg [5, 8] ws.length (fun k _ v wr => ∃ i : Nat, i + k = ws.length ∧ v = .int .i64 (i : Int) ∧ (∀ p ∈ ws.take i, ybp' S.held id p = false) ∧ Sep w0 wr (yab' w0 P :: yiy' b b4 b5 id S P R) rows)
 case atStart => exact ⟨0, by simp, rfl, by simp, HX.out⟩
 case round =>
  rename World => w
  obtain ⟨i, hik, rfl, hno, hS⟩ := hrel
  replace HX := Lib.hid hS
  have HNO := Lib.hid hno
  clear hS hno
  by_cases hlt : i < ws.length
  case neg =>
   obtain rfl : i = ws.length := by omega
   clear hlt hik
   go_wp2_with (first | refine u0 ?_ | (refine uS ?_; clear HX; intro w HX) | (refine uA ?_; clear HX; (first | (have hq := b5; clear hq; intro w b6 HX) | (have hq := b4; clear hq; intro w b5 HX) | (have hq := b3; clear hq; intro w b4 HX) | (have hq := b2; clear hq; intro w b3 HX) | (have hq := b; clear hq; intro w b2 HX) | intro w b HX)))
   go_ret
   have h1 := HNO.out
   rw [List.take_length] at h1
   exact ⟨-1, rfl, by rw [List.any_eq_false.2 fun o ho => by simp [h1 o ho]]; rfl, HX.out⟩
  case pos =>
   obtain ⟨g, off, rfl⟩ := HNE.out (by intro e; rw [List.map_eq_nil_iff] at e; rw [e] at hlt; simp at hlt)
   obtain ⟨E, hE⟩ := HX.out.poolGet HV.out.1
   have hl := yb5' (P := Tryz.prog) (ty := 9) (i := i) (v := sv ws[i]) hE (by kernel_rfl) (by simp [hlt])
   have HTK := Lib.hid (show ws.take (i + 1) = ws.take i ++ [ws[i]] from List.take_succ_eq_append_getElem hlt)
   have HIN := Lib.hid (show ws[i] ∈ ws from List.getElem_mem hlt)
   obtain ⟨p, hp⟩ : ∃ p, ws[i] = p := ⟨_, rfl⟩
   rw [hp] at hl HTK HIN
   have HPS := Lib.hid (HV.out.2 p HIN.out)
   have q0 : decide (i < ws.length) = true := decide_eq_true hlt
   unfold sv at hl
   clear hE hp
   go_wp2_with (first | refine u0 ?_ | (refine uS ?_; clear HX; intro w HX) | (refine uA ?_; clear HX; (first | (have hq := b5; clear hq; intro w b6 HX) | (have hq := b4; clear hq; intro w b5 HX) | (have hq := b3; clear hq; intro w b4 HX) | (have hq := b2; clear hq; intro w b3 HX) | (have hq := b; clear hq; intro w b2 HX) | intro w b HX)) | ((with_reducible apply yaw' hl); (· rfl); (· rfl); simp only [Act.put, k_a, k_b, k_c]))
   refine (yyp' (HX.out.pm 4 [1, 2, 3, 0] rfl rfl : Sep w0 _ (yiy' b b4 b5 id S P (yab' w0 P :: R)) rows) hd ⟨p.toArray⟩ (by show p.toArray.size ≤ _; rw [List.size_toArray]; exact HPS.out) hH).mono ?_
   have e1 : (⟨p.toArray⟩ : ByteArray).data.toList = p := rfl
   rw [e1]
   obtain ⟨z, hz⟩ : ∃ z, ybp' S.held id p = z := ⟨_, rfl⟩
   rw [hz]
   rintro e w ⟨rfl, hx⟩
   clear HX hl e1
   have HX := Lib.hid (show Sep w0 w (yab' w0 P :: yiy' b b4 b5 id S P R) rows from hx.pm 4 [3, 0, 1, 2] rfl rfl)
   have HZ := Lib.hid hz
   clear hx hz
   cases z with
   | true =>
    go_wp2_with (first | refine u0 ?_ | (refine uS ?_; clear HX; intro w HX) | (refine uA ?_; clear HX; (first | (have hq := b5; clear hq; intro w b6 HX) | (have hq := b4; clear hq; intro w b5 HX) | (have hq := b3; clear hq; intro w b4 HX) | (have hq := b2; clear hq; intro w b3 HX) | (have hq := b; clear hq; intro w b2 HX) | intro w b HX)))
    go_ret
    refine ⟨(i : Int), rfl, ?_, HX.out⟩
    rw [List.any_eq_true.2 ⟨p, HIN.out, HZ.out⟩]
    exact decide_eq_true (by omega)
   | false =>
    go_wp2_with (first | refine u0 ?_ | (refine uS ?_; clear HX; intro w HX) | (refine uA ?_; clear HX; (first | (have hq := b5; clear hq; intro w b6 HX) | (have hq := b4; clear hq; intro w b5 HX) | (have hq := b3; clear hq; intro w b4 HX) | (have hq := b2; clear hq; intro w b3 HX) | (have hq := b; clear hq; intro w b2 HX) | intro w b HX)))
    go_roundg (ws.length - (i + 1))
    case rel => exact ⟨i + 1, by omega, by go_num, by
     rw [HTK.out]
     intro q hq
     rcases List.mem_append.1 hq with hq | hq
     ·exact HNO.out q hq
     ·rw [List.mem_singleton] at hq; rw [hq]; exact HZ.out, HX.out⟩
    case measure => omega
set_option maxRecDepth 100000 in
theorem yom' {b4 b5 : Nat} {id : Int} (h : Sep w0 w (yab' w0 P :: yiy' b b4 b5 id S P R) rows) (hd : DoorN w0) (ws : List Bs) (v : Value) (hv : (1, v, ws.map sv) ∈ P) (hp : ∀ p ∈ ws, p.length ≤ 100000) (hH : ∀ e ∈ S.held, e.1.length ≤ 100000) (hn : ws.length ≤ 100000) :
  Calls Tryz.prog 141 #[v, cloV b4 b5] w fun e w' => e = .returned (.bool (ws.any fun p => ybp' S.held id p)) ∧ Sep w0 w' (yab' w0 P :: yiy' b b4 b5 id S P R) rows := by
 have HC := Lib.hid (yra' h hd ws v hv hp hH hn)
 clear h hv hn hp
 obtain ⟨z, hz⟩ : ∃ z, (ws.any fun p => ybp' S.held id p) = z := ⟨_, rfl⟩
 rw [hz] at HC ⊢
 clear hz
 go_enter Tryz.func141, Tryz.ntmps141
 go_wp2_with fail
 refine HC.out.mono ?_
 rintro e w ⟨r, rfl, hr, hS⟩
 have HX := Lib.hid hS
 clear hS HC
 go_wp2_with fail
 go_ret
 refine ⟨?_, HX.out⟩
 rw [← hr]
 rfl
theorem yiq' {d : List Int} {m : Nat} (h : Sep w0 w (yam' (.int .i64) m (d.map ikv) :: R) rows) (i : Int) : (Instr.lookup 121 (.map (some m)) (.int .i64 i) false).run Tryz.prog w = .ok (.bool (decide (i ∈ d))) w := by
 have hM := h.mapIs
 by_cases hi : i ∈ d
 ·rw [decide_eq_true hi]
  exact ygb' hM Tryz.underlying121 Tryz.underlying2 (key := .int .i64 i) (by first | trivial | rfl | exact ⟨_, rfl⟩) (List.mem_map.2 ⟨i, hi, rfl⟩) false
 ·rw [decide_eq_false hi]
  refine yfv' hM Tryz.underlying121 Tryz.underlying2 (key := .int .i64 i) (by first | trivial | rfl | exact ⟨_, rfl⟩) (fun q hq e => ?_) (by kernel_rfl) false
  obtain ⟨j, hj, rfl⟩ := List.mem_map.1 hq
  simp only [ikv, Value.int.injEq, true_and] at e
  exact hi (e ▸ hj)
end
end Go.Proofs.YtcnkifbjlihaoaaGreatDoor

namespace Go.Proofs.YtcnkifbjlihaoaaGreatDoor
open Go.RowKit Go.Av
section
variable {w0 w : World} {t : Nat} {S : TreeS} {P P' : List PRow} {R : List Thing} {rows : List (Value × Bs)}
set_option maxRecDepth 100000 in
set_option maxHeartbeats 1000000 in
theorem ype' (h : Sep w0 w (yab' w0 P :: R) rows) (room : Int) (h1 : 1 ≤ room) (h2 : room ≤ 500) :
  Calls Tryz.prog 58 #[.int .i64 room] w fun e w' => ∃ t, e = .returned (.tuple #[.pointer (some ⟨t, 0, none⟩), .int .i64 0]) ∧ Sep w0 w' (yab' w0 P :: yan' t ⟨room, []⟩ P :: R) rows := by
 have h3 := (h.newMap .string).newCell (.cells #[.int .i64 room, .map (some w.heap.size)] 213 (0, 0))
 rw [show (w.alloc (.map #[] 0)).heap.size = w.heap.size + 1 by simp] at h3
 have H := Lib.hid h3
 have hmm := @run_makeMap Tryz.prog
 have q1 : decide (room < 1) = false := decide_eq_false (by omega)
 have q2 : decide (500 < room) = false := decide_eq_false (by omega)
 clear h h3
 go_enter Tryz.func58, Tryz.ntmps58
 go_wp2_with fail
 go_ret2
 refine ⟨_, rfl, ?_⟩
 have h4 := Sep.shut (O := TrO (w.heap.size + 1) ⟨room, []⟩ P) (L := trTh (w.heap.size + 1) w.heap.size room []) ⟨w.heap.size, [], rfl, List.Perm.refl _, List.Pairwise.nil, fun g hg => by cases hg⟩ H.out
 exact h4.perm (List.Perm.swap _ _ _)
set_option maxRecDepth 100000 in
theorem ygh' (h : Sep w0 w (yan' t S P :: R) rows) : Calls Tryz.prog 99 #[.pointer (some ⟨t, 0, none⟩)] w fun e w' => e = .returned (.int .i64 (S.l.length : Nat)) ∧ Upd w w' [] [] := by
 obtain ⟨m, -, hm1, -, -, hlen⟩ := ydw' h
 have hl := hlen 3 w rfl
 clear h hlen
 go_enter Tryz.func99, Tryz.ntmps99
 go_wp2_with fail
 go_ret
 exact ⟨rfl, Upd.refl _ _⟩
end
end Go.Proofs.YtcnkifbjlihaoaaGreatDoor

namespace Go.Av
theorem yme' {H : yby'} {id : Int} {ops : List OpS} (h : ∀ o ∈ ops, ((yaz' o).any fun p => ybp' H id p) = false) : ydx' H id ops = none := by
 unfold ydx'
 rw [List.findIdx?_eq_none_iff]
 exact h
theorem yqs' {H : yby'} {id : Int} {ops : List OpS} {i : Nat} (hi : i < ops.length) (h : ∀ o ∈ ops.take i, ((yaz' o).any fun p => ybp' H id p) = false) (hb : ((yaz' ops[i]).any fun p => ybp' H id p) = true) : ydx' H id ops = some i := by
 unfold ydx'
 rw [List.findIdx?_eq_some_iff_getElem]
 refine ⟨hi, hb, fun j hj => ?_⟩
 have := h ops[j] (List.mem_iff_getElem.2 ⟨j, by rw [List.length_take]; omega, by rw [List.getElem_take]⟩)
 rw [this]
 exact Bool.false_ne_true
theorem yhj' (o : OpS) {K : Nat} (h : o.p.length ≤ K) (hK : 200 ≤ K) : ∀ p ∈ yaz' o, p.length ≤ K := by
 intro p hp
 unfold yaz' at hp
 split at hp
 ·rw [List.mem_singleton] at hp; rw [hp]; exact h
 ·rename_i up hu
  have hup := ykh' hu
  split at hp
  ·rcases List.mem_cons.1 hp with rfl | hp
   ·exact h
   ·rw [List.mem_singleton] at hp; rw [hp]; omega
  ·rw [List.mem_singleton] at hp; rw [hp]; exact h
theorem yhi' (o : OpS) : (yaz' o).length ≤ 100000 := by
 unfold yaz'
 split
 ·simp
 ·split <;> simp
theorem yoj' {S : PartS} {id sess : Int} {ops : List OpS} (h : sess ∈ S.closed) : ycz' S id sess ops = (11, -1) := by unfold ycz'; rw [if_pos h]
theorem ymf' {S : PartS} {id sess : Int} {ops : List OpS} (h : ¬ sess ∈ S.closed) (h2 : yc0' S.wait sess = true) : ycz' S id sess ops = (12, -1) := by unfold ycz'; rw [if_neg h, if_pos h2]
theorem yqv' {S : PartS} {id sess : Int} {ops : List OpS} (h : ¬ sess ∈ S.closed) (h2 : yc0' S.wait sess = false) {i : Nat} (h3 : ydx' S.held id ops = some i) : ycz' S id sess ops = (12, (i : Int)) := by
 unfold ycz'; rw [if_neg h, if_neg (by rw [h2]; exact Bool.false_ne_true), h3]
theorem ysh' {S : PartS} {id sess : Int} {ops : List OpS} (h : ¬ sess ∈ S.closed) (h2 : yc0' S.wait sess = false) (h3 : ydx' S.held id ops = none) :
  ycz' S id sess ops = if 0 < yap' ops ∧ 0 < ya6' S.wait ∧ S.t.room < ya6' S.wait + S.t.l.length + yap' ops then (12, (yed' ops : Int)) else (0, -1) := by
 unfold ycz'; rw [if_neg h, if_neg (by rw [h2]; exact Bool.false_ne_true), h3]
end Go.Av
namespace Go.Proofs.YtcnkifbjlihaoaaGreatDoor
open Go.RowKit Go.Av
section
variable {w0 w : World} {b : Nat} {S : PartS} {P P' : List PRow} {R : List Thing} {rows : List (Value × Bs)}
def yx6' (w0 : World) (b : Nat) (S : PartS) (P : List PRow) (R : List Thing) (rows : List (Value × Bs)) (r : Int × Int) (e : Ending) (w' : World) : Prop :=
 ∃ P', e = .returned (.tuple #[.int .i64 r.1, .int .i64 r.2]) ∧ (∀ q ∈ P, q ∈ P') ∧ Sep w0 w' (yab' w0 P' :: ybm' b S P' :: R) rows
def yxh' (w0 : World) (b b2 b3 : Nat) (id : Int) (ops : List OpS) (S : PartS) (P : List PRow) (R : List Thing) (rows : List (Value × Bs)) (k : Nat) (v : Value) (w : World) : Prop :=
 ∃ (i : Nat) (P' : List PRow), i + k = ops.length ∧ v = .int .i64 (i : Int) ∧ (∀ q ∈ P, q ∈ P') ∧ (∀ o ∈ ops.take i, ((yaz' o).any fun p => ybp' S.held id p) = false) ∧ Sep w0 w (yab' w0 P' :: yiy' b b2 b3 id S P' R) rows
set_option maxRecDepth 100000 in
set_option maxHeartbeats 8000000 in
theorem ypq' (h : Sep w0 w (yab' w0 P :: ybm' b S P :: R) rows) (hd : DoorN w0) (id sess : Int) (ops : List OpS) (v : Value) (hv : (5, v, ops.flatMap OpS.cells) ∈ P) (hg : ∀ o ∈ ops, o.path.size ≤ 100000 ∧ 0 ≤ o.flags ∧ o.flags ≤ 3) (hn : ops.length ≤ 1000)
  (hH : ∀ e ∈ S.held, e.1.length ≤ 100000) (hW : ya6' S.wait ≤ 50000) (hO : ∀ e ∈ S.wait, e.2.ops.length ≤ 100000) (hT : S.t.l.length ≤ 500 ∧ S.t.room ≤ 500) :
  Calls Tryz.prog 62 #[.pointer (some ⟨b, 0, none⟩), .int .i64 id, .int .i64 sess, v] w (yx6' w0 b S P R rows (ycz' S id sess ops)) := by
 obtain ⟨E, hE⟩ := h.poolGet hv
 obtain ⟨a, n, c, rfl, hl0, -, -, hne⟩ := ReadRow.some hE
 rw [yau' yag'] at hl0
 obtain rfl : ops.length = n := by omega
 have HNE := Lib.hid hne
 have HV := Lib.hid (show _ ∧ _ ∧ _ from ⟨hv, hg, hn⟩)
 have HB := Lib.hid (show _ ∧ _ ∧ _ ∧ _ from ⟨hH, hW, hO, hT⟩)
 have HX := Lib.hid h
 obtain ⟨res, hres⟩ : ∃ res, ycz' S id sess ops = res := ⟨_, rfl⟩
 rw [hres]
 have HRES := Lib.hid hres
 clear h hE hne hv hl0 hg hH hW hO hT hres
 go_enter Tryz.func62, Tryz.ntmps62
 go_upto_region 1 with (first | refine u0 ?_ | (refine uS ?_; clear HX; intro w HX) | (refine uA ?_; clear HX; (first | (have hq := b4; clear hq; intro w b5 HX) | (have hq := b3; clear hq; intro w b4 HX) | (have hq := b2; clear hq; intro w b3 HX) | (have hq := b; clear hq; intro w b2 HX) | intro w b HX)))
 obtain ⟨t, lk, mw, md, mc, gs, hgs, hgv, hS⟩ := ybu' HX.out.up3
 have HG := Lib.hid (show _ ∧ _ from ⟨hgs, hgv⟩)
 have hk := yiq' hS.up5 sess
 obtain ⟨zc, hzc⟩ : ∃ z, decide (sess ∈ S.closed) = z := ⟨_, rfl⟩
 rw [hzc] at hk
 have HZC := Lib.hid hzc
 clear HX hgs hgv hzc
 have HX := Lib.hid hS
 clear hS
 cases zc with
 | true =>
  obtain rfl : res = (11, -1) := by rw [← HRES.out]; exact yoj' (of_decide_eq_true HZC.out)
  go_wp2_with (first | refine u0 ?_ | (refine uS ?_; clear HX; intro w HX) | (refine uA ?_; clear HX; (first | (have hq := b4; clear hq; intro w b5 HX) | (have hq := b3; clear hq; intro w b4 HX) | (have hq := b2; clear hq; intro w b3 HX) | (have hq := b; clear hq; intro w b2 HX) | intro w b HX)))
  go_ret2
  exact ⟨P, rfl, fun q hq => hq, (yba' HX.out HG.out.1 HG.out.2).pm 4 [3, 0] rfl rfl⟩
 | false =>
  have HNC := Lib.hid (of_decide_eq_false HZC.out)
  go_wp2_with (first | refine u0 ?_ | (refine uS ?_; clear HX; intro w HX) | (refine uA ?_; clear HX; (first | (have hq := b4; clear hq; intro w b5 HX) | (have hq := b3; clear hq; intro w b4 HX) | (have hq := b2; clear hq; intro w b3 HX) | (have hq := b; clear hq; intro w b2 HX) | intro w b HX)))
  have h9 := (yba' HX.out HG.out.1 HG.out.2).up3
  clear HX hk
  have HX := Lib.hid h9
  clear h9
  refine (yol' HX.out sess).mono ?_
  obtain ⟨z2, hz2⟩ : ∃ z, yc0' S.wait sess = z := ⟨_, rfl⟩
  rw [hz2]
  rintro e w ⟨rfl, hx⟩
  replace HX := Lib.hid hx
  have HZ2 := Lib.hid hz2
  clear hx hz2
  cases z2 with
  | true =>
   obtain rfl : res = (12, -1) := by rw [← HRES.out]; exact ymf' HNC.out HZ2.out
   go_wp2_with (first | refine u0 ?_ | (refine uS ?_; clear HX; intro w HX) | (refine uA ?_; clear HX; (first | (have hq := b4; clear hq; intro w b5 HX) | (have hq := b3; clear hq; intro w b4 HX) | (have hq := b2; clear hq; intro w b3 HX) | (have hq := b; clear hq; intro w b2 HX) | intro w b HX)))
   go_ret2
   exact ⟨P, rfl, fun q hq => hq, HX.out.pm 4 [0, 1] rfl rfl⟩
  | false =>
   go_wp2_with (first | refine u0 ?_ | (refine uS ?_; clear HX; intro w HX) | (refine uA ?_; clear HX; (first | (have hq := b4; clear hq; intro w b5 HX) | (have hq := b3; clear hq; intro w b4 HX) | (have hq := b2; clear hq; intro w b3 HX) | (have hq := b; clear hq; intro w b2 HX) | intro w b HX)))
   have HST := Lib.hid (show yxh' w0 b b2 b3 id ops S P R rows ops.length (.int .i64 (0 : Int)) w from ⟨0, P, by simp, rfl, fun q hq => hq, by simp, HX.out.pm 4 [0, 2, 3, 1] rfl rfl⟩)
   clear HX
   go_loopg [10, 11, 28] ops.length (fun k _ _ v wr => yxh' w0 b b2 b3 id ops S P R rows k v wr)
   case atStart => exact HST.out
   case round =>
    rename World => w
    obtain ⟨i, P1, hik, rfl, hP1, hno, hS⟩ := hrel
    clear HST
    have HX := Lib.hid hS
    have HP1 := Lib.hid (show _ ∧ _ from ⟨hP1, hno⟩)
    clear hS hP1 hno
    by_cases hlt : i < ops.length
    case neg =>
     obtain rfl : i = ops.length := by omega
     have hno := HP1.out.2
     rw [List.take_length] at hno
     have HRM := Lib.hid (show res = _ from HRES.out.symm.trans (ysh' HNC.out HZ2.out (yme' hno)))
     clear hno hlt hik
     go_wp2_with (first | refine u0 ?_ | (refine uS ?_; clear HX; intro w HX) | (refine uA ?_; clear HX; (first | (have hq := b4; clear hq; intro w b5 HX) | (have hq := b3; clear hq; intro w b4 HX) | (have hq := b2; clear hq; intro w b3 HX) | (have hq := b; clear hq; intro w b2 HX) | intro w b HX)))
     refine (yi2' HX.out ops _ (HP1.out.1 _ HV.out.1) (by have := HV.out.2.2; omega)).mono ?_
     obtain ⟨cn, hcn⟩ : ∃ cn, yap' ops = cn := ⟨_, rfl⟩
     obtain ⟨fc, hfc⟩ : ∃ fc, yed' ops = fc := ⟨_, rfl⟩
     rw [hcn, hfc] at HRM ⊢
     have hcb : cn ≤ 1000 := by rw [← hcn]; have h1 := yf8' ops; have h2 := HV.out.2.2; omega
     rintro e w ⟨rfl, hx⟩
     clear HX hcn hfc
     have HX := Lib.hid hx
     clear hx
     go_wp2_with (first | refine u0 ?_ | (refine uS ?_; clear HX; intro w HX) | (refine uA ?_; clear HX; (first | (have hq := b4; clear hq; intro w b5 HX) | (have hq := b3; clear hq; intro w b4 HX) | (have hq := b2; clear hq; intro w b3 HX) | (have hq := b; clear hq; intro w b2 HX) | intro w b HX)))
     refine (yrz' HX.out.up3.up1 (by have := HB.out.2.1; omega) HB.out.2.2.1).mono ?_
     obtain ⟨wn, hwn⟩ : ∃ wn, ya6' S.wait = wn := ⟨_, rfl⟩
     rw [hwn] at HRM ⊢
     have hwb : wn ≤ 50000 := by rw [← hwn]; exact HB.out.2.1
     rintro e w ⟨rfl, hx⟩
     clear HX hwn
     obtain ⟨t, lk, mw, md, mc, gs, hgs, hgv, hS⟩ := ybu' hx.up1
     have HG := Lib.hid (show _ ∧ _ from ⟨hgs, hgv⟩)
     obtain ⟨R', hR'⟩ : ∃ R', ThLk lk S.held :: yam' (.int .i64) mw (gs.map WaitG.kv) :: yam' (.int .i64) md (S.decided.map ikv) :: yam' (.int .i64) mc (S.closed.map ikv) :: yab' w0 P1 :: yac' b3 (.cells #[.int .i64 id] 2 (0, 0)) :: R = R' := ⟨_, rfl⟩
     have h3 : Sep w0 w (yan' t S.t P1 :: yac' b (.cells (yak' S.t.room t lk S.zxid mw md mc) 123 (0, 0)) :: yac' b2 (.cells #[.pointer (some ⟨b, 0, none⟩)] 24 (0, 0)) :: R') rows := by
      rw [← hR']
      exact hS.pm 9 [1, 0, 8, 2, 3, 4, 5, 6, 7] rfl rfl
     have HRR := Lib.hid hR'
     have HX := Lib.hid h3
     have hlb := HB.out.2.2.2.1
     have HFIN := Lib.hid (show ∀ w', Sep w0 w' (yan' t S.t P1 :: yac' b (.cells (yak' S.t.room t lk S.zxid mw md mc) 123 (0, 0)) :: yac' b2 (.cells #[.pointer (some ⟨b, 0, none⟩)] 24 (0, 0)) :: R') rows → Sep w0 w' (yab' w0 P1 :: ybm' b S P1 :: R) rows from fun w' h5 => by
      rw [← hR'] at h5
      exact (yba' (b := b) (t := t) (lk := lk) (mw := mw) (md := md) (mc := mc) (gs := gs) (S := S) (R := yab' w0 P1 :: R) (h5.pm 9 [1, 0, 3, 4, 5, 6, 7] rfl rfl) hgs hgv).up1)
     clear hx hgs hgv hS hR' h3
     go_wp2_with (first | refine u0 ?_ | (refine uS ?_; clear HX; intro w HX) | (refine uA ?_; clear HX; (first | (have hq := b4; clear hq; intro w b5 HX) | (have hq := b3; clear hq; intro w b4 HX) | (have hq := b2; clear hq; intro w b3 HX) | (have hq := b; clear hq; intro w b2 HX) | intro w b HX)))
     by_cases hc0 : 0 < cn
     ·by_cases hw0 : 0 < wn
      ·have hq1 : decide (0 < (cn : Int)) = true := decide_eq_true (by omega)
       have hq2 : decide (0 < (wn : Int)) = true := decide_eq_true (by omega)
       have hq3 : decide (0 < cn) = true := decide_eq_true hc0
       have hq4 : decide (0 < wn) = true := decide_eq_true hw0
       obtain ⟨ln, hln⟩ : ∃ ln, S.t.l.length = ln := ⟨_, rfl⟩
       rw [hln] at HRM hlb
       have hs1 : IntKind.i64.wrap ((wn : Int) + (ln : Int)) = (wn : Int) + (ln : Int) := IntWalk.i64_in _ (by omega)
       have hs2 : IntKind.i64.wrap ((wn : Int) + (ln : Int) + (cn : Int)) = (wn : Int) + (ln : Int) + (cn : Int) := IntWalk.i64_in _ (by omega)
       have HLN := Lib.hid hln
       clear hln
       by_cases hrm : S.t.room < (wn : Int) + (ln : Int) + (cn : Int)
       ·obtain rfl : res = (12, (fc : Int)) := by rw [HRM.out, if_pos ⟨hc0, hw0, hrm⟩]
        have hq5 : decide (S.t.room < (wn : Int) + (ln : Int) + (cn : Int)) = true := decide_eq_true hrm
        refine rM (fun W => Sep w0 W (yan' t S.t P1 :: yac' b (.cells (yak' S.t.room t lk S.zxid mw md mc) 123 (0, 0)) :: yac' b2 (.cells #[.pointer (some ⟨b, 0, none⟩)] 24 (0, 0)) :: R') rows) 22 ?_
        intro KEEPX
        replace HX := Lib.hid HX.out.drew
        refine rT [(0, false), (1, false), (2, false), (3, false), (4, false), (5, false), (6, false), (7, false), (8, true), (9, false), (10, false), (11, true), (14, false), (16, true), (17, false), (18, false), (19, true)] 5 ?_
        apply Exists.intro; refine ⟨?_, HX.out, ?_⟩
        ·iterate 17 (first | refine xE ?_ | ((first | apply ya5' | apply yay'); (· (simp only [k_i, k_j, k_k]; try rfl)); (· rfl); (· (intros; go_simp; (try simp only [hq1, hq2, hq3, hq4, hq5, hs1, hs2, ↓reduceIte, and_self, Int.toNat_natCast]); try with_reducible rfl)); (· (simp only [Act.put, k_a, k_b, k_c, k_d, k_e, k_f, k_g, k_h, NodeS.cells, OpS.cells, ResS.cells]; try rfl))))
         exact rfl
        refine r1 4 12 fun K hK => ?_
        go_wp2_with fail
        refine (ygh' HX.out).mono ?_
        rw [HLN.out]
        rintro e w1 ⟨rfl, hu⟩
        replace HX := Lib.hid (HX.out.keep hu)
        clear hu
        go_wp2_with fail
        refine hK _ _ HX.out ?_
        clear hK
        refine rT [(13, false), (15, false), (20, false), (21, false)] 0 ?_
        apply Exists.intro; refine ⟨?_, HX.out, ?_⟩
        ·iterate 4 (first | refine xE ?_ | ((first | apply ya5' | apply yay'); (· (simp only [k_i, k_j, k_k]; try rfl)); (· rfl); (· (intros; go_simp; (try simp only [hq1, hq2, hq3, hq4, hq5, hs1, hs2, ↓reduceIte, and_self, Int.toNat_natCast]); try with_reducible rfl)); (· (simp only [Act.put, k_a, k_b, k_c, k_d, k_e, k_f, k_g, k_h, NodeS.cells, OpS.cells, ResS.cells]; try rfl))))
         exact rfl
        refine yaf' (by kernel_rfl) ?_ _
        go_wp2_with (first | refine u0 ?_ | (refine uS ?_; clear HX; intro w HX) | (refine uA ?_; clear HX; (first | (have hq := b4; clear hq; intro w b5 HX) | (have hq := b3; clear hq; intro w b4 HX) | (have hq := b2; clear hq; intro w b3 HX) | (have hq := b; clear hq; intro w b2 HX) | intro w b HX)))
        go_ret2
        exact ⟨P1, rfl, HP1.out.1, HFIN.out _ HX.out⟩
       ·obtain rfl : res = (0, -1) := by rw [HRM.out, if_neg (fun hh => hrm hh.2.2)]
        have hq5 : decide (S.t.room < (wn : Int) + (ln : Int) + (cn : Int)) = false := decide_eq_false hrm
        refine rM (fun W => Sep w0 W (yan' t S.t P1 :: yac' b (.cells (yak' S.t.room t lk S.zxid mw md mc) 123 (0, 0)) :: yac' b2 (.cells #[.pointer (some ⟨b, 0, none⟩)] 24 (0, 0)) :: R') rows) 22 ?_
        intro KEEPX
        replace HX := Lib.hid HX.out.drew
        refine rT [(0, false), (1, false), (2, false), (3, false), (4, false), (5, false), (6, false), (7, false), (8, true), (9, false), (10, false), (11, true), (14, false), (16, true), (17, false), (18, false), (19, true)] 5 ?_
        apply Exists.intro; refine ⟨?_, HX.out, ?_⟩
        ·iterate 17 (first | refine xE ?_ | ((first | apply ya5' | apply yay'); (· (simp only [k_i, k_j, k_k]; try rfl)); (· rfl); (· (intros; go_simp; (try simp only [hq1, hq2, hq3, hq4, hq5, hs1, hs2, ↓reduceIte, and_self, Int.toNat_natCast]); try with_reducible rfl)); (· (simp only [Act.put, k_a, k_b, k_c, k_d, k_e, k_f, k_g, k_h, NodeS.cells, OpS.cells, ResS.cells]; try rfl))))
         exact rfl
        refine r1 4 12 fun K hK => ?_
        go_wp2_with fail
        refine (ygh' HX.out).mono ?_
        rw [HLN.out]
        rintro e w1 ⟨rfl, hu⟩
        replace HX := Lib.hid (HX.out.keep hu)
        clear hu
        go_wp2_with fail
        refine hK _ _ HX.out ?_
        clear hK
        refine rT [(13, false), (15, false), (20, false), (21, false)] 0 ?_
        apply Exists.intro; refine ⟨?_, HX.out, ?_⟩
        ·iterate 4 (first | refine xE ?_ | ((first | apply ya5' | apply yay'); (· (simp only [k_i, k_j, k_k]; try rfl)); (· rfl); (· (intros; go_simp; (try simp only [hq1, hq2, hq3, hq4, hq5, hs1, hs2, ↓reduceIte, and_self, Int.toNat_natCast]); try with_reducible rfl)); (· (simp only [Act.put, k_a, k_b, k_c, k_d, k_e, k_f, k_g, k_h, NodeS.cells, OpS.cells, ResS.cells]; try rfl))))
         exact rfl
        refine yaf' (by kernel_rfl) ?_ _
        go_wp2_with (first | refine u0 ?_ | (refine uS ?_; clear HX; intro w HX) | (refine uA ?_; clear HX; (first | (have hq := b4; clear hq; intro w b5 HX) | (have hq := b3; clear hq; intro w b4 HX) | (have hq := b2; clear hq; intro w b3 HX) | (have hq := b; clear hq; intro w b2 HX) | intro w b HX)))
        go_ret2
        exact ⟨P1, rfl, HP1.out.1, HFIN.out _ HX.out⟩
      ·obtain rfl : res = (0, -1) := by rw [HRM.out, if_neg (fun hh => hw0 hh.2.1)]
       have hq1 : decide (0 < (cn : Int)) = true := decide_eq_true (by omega)
       have hq2 : decide (0 < (wn : Int)) = false := decide_eq_false (by omega)
       have hq3 : decide (0 < cn) = true := decide_eq_true hc0
       have hq4 : decide (0 < wn) = false := decide_eq_false hw0
       refine rM (fun W => Sep w0 W (yan' t S.t P1 :: yac' b (.cells (yak' S.t.room t lk S.zxid mw md mc) 123 (0, 0)) :: yac' b2 (.cells #[.pointer (some ⟨b, 0, none⟩)] 24 (0, 0)) :: R') rows) 22 ?_
       intro KEEPX
       replace HX := Lib.hid HX.out.drew
       refine rT [(0, false), (1, false), (2, false), (3, false), (4, false), (5, false), (6, false), (7, false), (8, true), (9, false), (10, false), (11, true), (14, false), (16, true), (17, false), (18, false), (19, true)] 5 ?_
       apply Exists.intro; refine ⟨?_, HX.out, ?_⟩
       ·iterate 17 (first | refine xE ?_ | ((first | apply ya5' | apply yay'); (· (simp only [k_i, k_j, k_k]; try rfl)); (· rfl); (· (intros; go_simp; (try simp only [hq1, hq2, hq3, hq4, ↓reduceIte, and_self, Int.toNat_natCast]); try with_reducible rfl)); (· (simp only [Act.put, k_a, k_b, k_c, k_d, k_e, k_f, k_g, k_h, NodeS.cells, OpS.cells, ResS.cells]; try rfl))))
        exact rfl
       apply ygi' (fuel := 4) (i := 12)
       ·kernel_rfl
       ·simp only [k_i, k_j, k_k]; try rfl
       ·rfl
       ·simp only [Act.put, k_a, k_b, k_c]; try rfl
       ·exact HX.out
       refine rT [(13, false), (15, false), (20, false), (21, false)] 0 ?_
       apply Exists.intro; refine ⟨?_, HX.out, ?_⟩
       ·iterate 4 (first | refine xE ?_ | ((first | apply ya5' | apply yay'); (· (simp only [k_i, k_j, k_k]; try rfl)); (· rfl); (· (intros; go_simp; (try simp only [hq1, hq2, hq3, hq4, ↓reduceIte, and_self, Int.toNat_natCast]); try with_reducible rfl)); (· (simp only [Act.put, k_a, k_b, k_c, k_d, k_e, k_f, k_g, k_h, NodeS.cells, OpS.cells, ResS.cells]; try rfl))))
        exact rfl
       refine yaf' (by kernel_rfl) ?_ _
       go_wp2_with (first | refine u0 ?_ | (refine uS ?_; clear HX; intro w HX) | (refine uA ?_; clear HX; (first | (have hq := b4; clear hq; intro w b5 HX) | (have hq := b3; clear hq; intro w b4 HX) | (have hq := b2; clear hq; intro w b3 HX) | (have hq := b; clear hq; intro w b2 HX) | intro w b HX)))
       go_ret2
       exact ⟨P1, rfl, HP1.out.1, HFIN.out _ HX.out⟩
     ·obtain rfl : res = (0, -1) := by rw [HRM.out, if_neg (fun hh => hc0 hh.1)]
      have hq1 : decide (0 < (cn : Int)) = false := decide_eq_false (by omega)
      have hq3 : decide (0 < cn) = false := decide_eq_false hc0
      refine rM (fun W => Sep w0 W (yan' t S.t P1 :: yac' b (.cells (yak' S.t.room t lk S.zxid mw md mc) 123 (0, 0)) :: yac' b2 (.cells #[.pointer (some ⟨b, 0, none⟩)] 24 (0, 0)) :: R') rows) 22 ?_
      intro KEEPX
      replace HX := Lib.hid HX.out.drew
      refine rT [(0, false), (1, false), (2, false), (3, false), (4, false), (5, false), (6, false), (7, false), (8, true), (9, false), (10, false), (11, true), (14, false), (16, true), (17, false), (18, false), (19, true)] 5 ?_
      apply Exists.intro; refine ⟨?_, HX.out, ?_⟩
      ·iterate 17 (first | refine xE ?_ | ((first | apply ya5' | apply yay'); (· (simp only [k_i, k_j, k_k]; try rfl)); (· rfl); (· (intros; go_simp; (try simp only [hq1, hq3, ↓reduceIte, and_self, Int.toNat_natCast]); try with_reducible rfl)); (· (simp only [Act.put, k_a, k_b, k_c, k_d, k_e, k_f, k_g, k_h, NodeS.cells, OpS.cells, ResS.cells]; try rfl))))
       exact rfl
      apply ygi' (fuel := 4) (i := 12)
      ·kernel_rfl
      ·simp only [k_i, k_j, k_k]; try rfl
      ·rfl
      ·simp only [Act.put, k_a, k_b, k_c]; try rfl
      ·exact HX.out
      refine rT [(13, false), (15, false), (20, false), (21, false)] 0 ?_
      apply Exists.intro; refine ⟨?_, HX.out, ?_⟩
      ·iterate 4 (first | refine xE ?_ | ((first | apply ya5' | apply yay'); (· (simp only [k_i, k_j, k_k]; try rfl)); (· rfl); (· (intros; go_simp; (try simp only [hq1, hq3, ↓reduceIte, and_self, Int.toNat_natCast]); try with_reducible rfl)); (· (simp only [Act.put, k_a, k_b, k_c, k_d, k_e, k_f, k_g, k_h, NodeS.cells, OpS.cells, ResS.cells]; try rfl))))
       exact rfl
      refine yaf' (by kernel_rfl) ?_ _
      go_wp2_with (first | refine u0 ?_ | (refine uS ?_; clear HX; intro w HX) | (refine uA ?_; clear HX; (first | (have hq := b4; clear hq; intro w b5 HX) | (have hq := b3; clear hq; intro w b4 HX) | (have hq := b2; clear hq; intro w b3 HX) | (have hq := b; clear hq; intro w b2 HX) | intro w b HX)))
      go_ret2
      exact ⟨P1, rfl, HP1.out.1, HFIN.out _ HX.out⟩
    case pos =>
     obtain ⟨g, off, rfl⟩ := HNE.out (by intro e; have := congrArg List.length e; rw [yau' yag'] at this; simp at this; omega)
     obtain ⟨E, hE⟩ := HX.out.poolGet (HP1.out.1 _ HV.out.1)
     have hl := ycs' (P := Tryz.prog) (f := OpS.cells) (i := i) hE yag' sn_op hlt
     have HTK := Lib.hid (show ops.take (i + 1) = ops.take i ++ [ops[i]] from List.take_succ_eq_append_getElem hlt)
     have hbl := fun hb => yqs' (H := S.held) (id := id) hlt HP1.out.2 hb
     have hgo := HV.out.2.1 ops[i] (List.getElem_mem hlt)
     obtain ⟨o, ho⟩ : ∃ o, ops[i] = o := ⟨_, rfl⟩
     rw [ho] at hl HTK hbl hgo
     have HBL := Lib.hid hbl
     have HGO := Lib.hid hgo
     have q0 : decide (i < ops.length) = true := decide_eq_true hlt
     have q9 : i ≤ 1000 := by have := HV.out.2.2; omega
     have hwl : ∀ p ∈ yaz' o, p.length ≤ 100000 := yhj' o (by show o.path.data.toList.length ≤ _; have := hgo.1; simpa using this) (by omega)
     have HWL := Lib.hid hwl
     obtain ⟨kind, path, data, ver, flags⟩ := o
     simp only [OpS.cells] at hl
     clear hE ho hbl hgo hwl
     go_wp2_with (first | refine u0 ?_ | (refine uS ?_; clear HX; intro w HX) | (refine uA ?_; clear HX; (first | (have hq := b4; clear hq; intro w b5 HX) | (have hq := b3; clear hq; intro w b4 HX) | (have hq := b2; clear hq; intro w b3 HX) | (have hq := b; clear hq; intro w b2 HX) | intro w b HX)) | ((with_reducible apply yaw' hl); (· rfl); (· rfl); simp only [Act.put, k_a, k_b, k_c]))
     refine (yhh' HX.out hd ⟨kind, path, data, ver, flags⟩ HGO.out.1 HGO.out.2.1 HGO.out.2.2).mono ?_
     rintro e w ⟨vw, rfl, hx⟩
     obtain ⟨wa, wn, wc, rfl, hwl, -, -⟩ := hx.rowLen
     obtain ⟨Q, hQ⟩ : ∃ Q, (1, Value.slice wa wn wc, (yaz' ⟨kind, path, data, ver, flags⟩).map sv) :: P1 = Q := ⟨_, rfl⟩
     have h9 := hx.up2.up1.poolRow
     rw [hQ] at h9
     have hsub : ∀ q ∈ P1, q ∈ Q := by rw [← hQ]; exact fun q hq => k_n _ hq
     have HQ := Lib.hid (show (1, Value.slice wa wn wc, (yaz' ⟨kind, path, data, ver, flags⟩).map sv) ∈ Q ∧ ∀ q ∈ P, q ∈ Q from ⟨by rw [← hQ]; exact k_s, fun q hq => hsub q (HP1.out.1 q hq)⟩)
     have h11 : Sep w0 w (yab' w0 Q :: yiy' b b2 b3 id S Q (yac' b4 (.cells #[.int .i64 kind, .string path, .string data, .int .i64 ver, .int .i64 flags] 89 (0, 0)) :: R)) rows := (yc9' h9.up4 hsub).pm 5 [1, 3, 4, 0, 2] rfl rfl
     clear HX hl hx h9 hQ hsub hwl
     have HX := Lib.hid h11
     clear h11
     go_wp2_with (first | refine u0 ?_ | (refine uS ?_; clear HX; intro w HX) | (refine uA ?_; clear HX; (first | (have hq := b4; clear hq; intro w b5 HX) | (have hq := b3; clear hq; intro w b4 HX) | (have hq := b2; clear hq; intro w b3 HX) | (have hq := b; clear hq; intro w b2 HX) | intro w b HX)))
     refine (yom' HX.out hd (yaz' ⟨kind, path, data, ver, flags⟩) _ HQ.out.1 HWL.out HB.out.1 (yhi' _)).mono ?_
     obtain ⟨z, hz⟩ : ∃ z, ((yaz' ⟨kind, path, data, ver, flags⟩).any fun p => ybp' S.held id p) = z := ⟨_, rfl⟩
     rw [hz]
     rintro e w ⟨rfl, hx⟩
     replace HX := Lib.hid hx
     have HZ := Lib.hid hz
     clear hx hz
     cases z with
     | true =>
      obtain rfl : res = (12, (i : Int)) := by rw [← HRES.out]; exact yqv' HNC.out HZ2.out (HBL.out HZ.out)
      go_wp2_with (first | refine u0 ?_ | (refine uS ?_; clear HX; intro w HX) | (refine uA ?_; clear HX; (first | (have hq := b4; clear hq; intro w b5 HX) | (have hq := b3; clear hq; intro w b4 HX) | (have hq := b2; clear hq; intro w b3 HX) | (have hq := b; clear hq; intro w b2 HX) | intro w b HX)))
      go_ret2
      exact ⟨Q, rfl, HQ.out.2, HX.out.pm 5 [0, 3] rfl rfl⟩
     | false =>
      go_wp2_with (first | refine u0 ?_ | (refine uS ?_; clear HX; intro w HX) | (refine uA ?_; clear HX; (first | (have hq := b4; clear hq; intro w b5 HX) | (have hq := b3; clear hq; intro w b4 HX) | (have hq := b2; clear hq; intro w b3 HX) | (have hq := b; clear hq; intro w b2 HX) | intro w b HX)))
      go_roundg (ops.length - (i + 1))
      case rel => exact ⟨i + 1, Q, by omega, by go_num, HQ.out.2, by
       rw [HTK.out]
       intro q hq
       rcases List.mem_append.1 hq with hq | hq
       ·exact HP1.out.2 q hq
       ·rw [List.mem_singleton] at hq; rw [hq]; exact HZ.out, HX.out.pm 5 [0, 1, 2, 3] rfl rfl⟩
      case measure => omega
end
end Go.Proofs.YtcnkifbjlihaoaaGreatDoor

namespace Go.Av
theorem ypu' : ∀ (x d : Bs), (∀ c ∈ d, c ≠ 47) → (cutS (x ++ d)).dropLast = (cutS x).dropLast ∧ (cutS (x ++ d)).length = (cutS x).length
 | [], d, h => by
  have h1 : (cutS d).length = 1 := by rw [ygo', List.count_eq_zero.2 (fun hh => h 47 hh rfl)]
  rw [List.nil_append]
  refine ⟨?_, h1⟩
  match hc : cutS d, h1 with
  | [y], _ => rfl
 | c :: r, d, h => by
  obtain ⟨h1, h2⟩ := ypu' r d h
  rw [List.cons_append]
  unfold cutS
  by_cases hc : c = 47
  ·rw [if_pos hc, if_pos hc]
   refine ⟨?_, by rw [List.length_cons, List.length_cons, h2]⟩
   have n1 := yez' (r ++ d)
   have n2 := yez' r
   rw [List.dropLast_cons_of_ne_nil n1, List.dropLast_cons_of_ne_nil n2, h1]
  ·rw [if_neg hc, if_neg hc]
   match ha : cutS (r ++ d), hb : cutS r with
   | [], _ => exact absurd ha (yez' _)
   | _ :: _, [] => exact absurd hb (yez' _)
   | x1 :: t1, x2 :: t2 =>
    rw [ha, hb] at h1 h2
    simp only [List.length_cons] at h2
    cases t1 with
    | nil =>
     cases t2 with
     | nil => exact ⟨rfl, rfl⟩
     | cons y t2 => simp at h2
    | cons y t1 =>
     cases t2 with
     | nil => simp at h2
     | cons z t2 =>
      simp only [List.dropLast_cons_cons] at h1 ⊢
      injection h1 with h3 h4
      rw [h3, h4]
      exact ⟨rfl, by simp at h2 ⊢; omega⟩
theorem yj7' : ∀ (k u : Nat), u < 10 ^ (k + 1) → ∀ c ∈ Lib.decDigits u, c ≠ 47
 | 0, u, h => by
  rw [Lib.decDigits, dif_pos (by simpa using h)]
  intro c hc
  rw [List.mem_singleton] at hc
  have hu : u < 10 := by simpa using h
  rcases (show u = 0 ∨ u = 1 ∨ u = 2 ∨ u = 3 ∨ u = 4 ∨ u = 5 ∨ u = 6 ∨ u = 7 ∨ u = 8 ∨ u = 9 by omega) with rfl | rfl | rfl | rfl | rfl | rfl | rfl | rfl | rfl | rfl <;> (rw [hc]; decide)
 | k + 1, u, h => by
  rw [Lib.decDigits]
  split
  ·rename_i hu
   intro c hc
   rw [List.mem_singleton] at hc
   rcases (show u = 0 ∨ u = 1 ∨ u = 2 ∨ u = 3 ∨ u = 4 ∨ u = 5 ∨ u = 6 ∨ u = 7 ∨ u = 8 ∨ u = 9 by omega) with rfl | rfl | rfl | rfl | rfl | rfl | rfl | rfl | rfl | rfl <;> (rw [hc]; decide)
  ·intro c hc
   rcases List.mem_append.1 hc with hc | hc
   ·exact yj7' k (u / 10) (by rw [Nat.pow_succ] at h; omega) c hc
   ·rw [List.mem_singleton] at hc
    have hm : u % 10 < 10 := Nat.mod_lt _ (by omega)
    rcases (show u % 10 = 0 ∨ u % 10 = 1 ∨ u % 10 = 2 ∨ u % 10 = 3 ∨ u % 10 = 4 ∨ u % 10 = 5 ∨ u % 10 = 6 ∨ u % 10 = 7 ∨ u % 10 = 8 ∨ u % 10 = 9 by omega) with e | e | e | e | e | e | e | e | e | e <;> (rw [hc, e]; decide)
theorem ywe' {n : Int} (h0 : 0 ≤ n) (h : n ≤ 2147483647) : ∀ c ∈ padD n, c ≠ 47 := by
 intro c hc
 unfold padD at hc
 rcases List.mem_append.1 hc with hc | hc
 ·rw [List.mem_replicate] at hc
  rw [hc.2]
  decide
 ·exact yj7' 9 n.toNat (by omega) c hc
theorem yg0' {p q : Bs} {n : Int} (h : yb0' p n = some q) : yat' q = yat' p ∧ ybo' q = true := by
 unfold yb0' at h
 split at h
 ·cases h
 ·rename_i h1
  split at h
  ·rename_i h2
   cases h
   have hg : ybo' p = true := by
    cases hh : ybo' p with
    | true => rfl
    | false => exact absurd (.inl hh) h1
   have hn : 0 ≤ n ∧ n ≤ 2147483647 := by omega
   refine ⟨?_, h2⟩
   cases p with
   | nil => cases hg
   | cons c r =>
    obtain ⟨h3, h4⟩ := ypu' r (padD n) (ywe' hn.1 hn.2)
    unfold yat' ybr'
    rw [if_pos h2, if_pos hg]
    show (if (cutS (r ++ padD n)).length < 2 then none else some (ofP (cutS (r ++ padD n)).dropLast)) = if (cutS r).length < 2 then none else some (ofP (cutS r).dropLast)
    rw [h3, h4]
  ·cases h
end Go.Av

namespace Go.Av
open Go.RowKit
def ydr' (S : TreeS) : Prop := ∀ k ∈ S.l.map (·.1), ybo' k = true
theorem yss' {p : Bs} (h : ybo' p = true) : 1 ≤ ydz' p ∧ ydz' p ≤ 8 := by
 unfold ydz' ybr'
 rw [if_pos h]
 cases p with
 | nil => cases h
 | cons c r =>
  unfold ybo' at h
  simp only [Bool.and_eq_true, decide_eq_true_eq] at h
  refine ⟨?_, h.2⟩
  have h1 := yez' r
  show 1 ≤ (cutS r).length
  cases hc : cutS r with
  | nil => exact absurd hc h1
  | cons x l => simp
theorem yv0' (room : Int) : ydr' ⟨room, []⟩ := fun k hk => by simp at hk
theorem y00' {S : TreeS} (h : ydr' S) {q : Bs} (hq : ybo' q = true) (n : NodeS) : ydr' { S with l := layT q n S.l } := by
 intro k hk
 have hk : k ∈ (layT q n S.l).map (·.1) := hk
 unfold layT at hk
 rw [ygm'] at hk
 have h1 := ((yd0' q n S.l).map (·.1)).mem_iff.1 hk
 rcases List.mem_cons.1 h1 with h1 | h1
 ·rw [h1]; exact hq
 ·exact h k h1
theorem y0v' {S : TreeS} (h : ydr' S) (q : Bs) : ydr' { S with l := remT q S.l } := by
 intro k hk
 have hk : k ∈ (remT q S.l).map (·.1) := hk
 unfold remT at hk
 rw [ygm', ymq'] at hk
 exact h k (List.mem_filter.1 hk).1
theorem y04' {S : TreeS} (h : ydr' S) (q : Bs) (n : NodeS) : ydr' { S with l := setT q n S.l } := by
 intro k hk
 have hk : k ∈ (setT q n S.l).map (·.1) := hk
 rw [yjm'] at hk
 exact h k hk
theorem yvw' {S : TreeS} {p : Bs} (h : (endT S p).1 = 0) : (endT S p).2 = p := by
 unfold endT at h ⊢
 split at h
 ·cases h
 ·rename_i h1
  rw [if_neg h1]
  split at h
  ·cases h
  ·rename_i h2
   rw [if_neg h2]
theorem ytz' {S : TreeS} {o : OpS} (hg : ybo' o.p = true) (h : (ya3' S o).1 = 0) : ybo' (ya3' S o).2 = true := by
 obtain ⟨x, hx⟩ : ∃ x, ya3' S o = x := ⟨_, rfl⟩
 rw [hx] at h ⊢
 unfold ya3' at hx
 split at hx
 ·subst hx
  rw [yvw' h]; exact hg
 ·split at hx
  ·subst hx; cases h
  ·split at hx
   ·subst hx; cases h
   ·split at hx
    ·split at hx
     ·subst hx; cases h
     ·rename_i q h5
      subst hx
      rw [yvw' h]
      exact (yg0' h5).2
    ·subst hx
     rw [yvw' h]; exact hg
theorem yvm' {S : TreeS} (h : ydr' S) {o : OpS} (hg : ybo' o.p = true) (sess zxid : Int) : ydr' (yb3' S o sess zxid).2 := by
 unfold yb3'
 split
 ·exact h
 ·rename_i h1
  exact y00' h (ytz' hg (by simpa using h1)) _
theorem yvh' {S : TreeS} (h : ydr' S) (o : OpS) (zxid : Int) : ydr' (ybv' S o zxid).2 := by
 unfold ybv'
 split
 ·exact h
 ·split
  ·exact h
  ·split
   ·exact h
   ·split
    ·exact y0v' h _
    ·split
     ·exact y04' h _ _
     ·exact h
theorem do_g {S : TreeS} (h : ydr' S) (o : OpS) (sess zxid : Int) : ydr' (doT S o sess zxid).2 := by
 unfold doT
 split
 ·exact h
 ·rename_i h1
  have h1 : yb9' o = 0 := by simpa using h1
  split
  ·exact h
  ·split
   ·exact yvm' h (ydc' (yds' h1).1).2.2.1 sess zxid
   ·split
    ·exact yvh' h o zxid
    ·exact h
theorem yuk' {sess zxid : Int} : ∀ (l : List OpS) {S : TreeS}, ydr' S → ydr' (yao' sess zxid l S).2.1
 | [], S, h => h
 | o :: l, S, h => by
  have h1 := do_g h o sess zxid
  unfold yao'
  split
  ·exact h1
  ·exact yuk' l h1
theorem yxt' {S : TreeS} (h : ydr' S) (sess zxid : Int) (ops : List OpS) : ydr' (ya2' S sess zxid ops).2.1 := by
 unfold ya2'
 split
 ·exact h
 ·split
  ·exact h
  ·split
   ·exact h
   ·exact yuk' ops h
theorem yt9' {S : TreeS} (h : ydr' S) (sess num zxid : Int) (ops : List OpS) : ydr' (yas' S sess num zxid ops).2 := by
 unfold yas'
 split
 ·exact h
 ·exact yxt' h sess zxid ops
theorem y0s' : ∀ (l : List Bs) {S : TreeS}, ydr' S → ydr' (purT l S)
 | [], S, h => h
 | p :: l, S, h => y0s' l (y0v' h p)
theorem yzh' {S : TreeS} (h : ydr' S) (sess : Int) : ∀ p ∈ ofT S sess, 1 ≤ ydz' p ∧ ydz' p ≤ 8 := fun p hp => by
 obtain ⟨e, he, rfl⟩ := List.mem_map.1 hp
 exact yss' (h _ (List.mem_map_of_mem (List.mem_filter.1 he).1))
theorem yns' {K : Nat} {S : TreeS} (h : TreeB K S) (sess num zxid : Int) (ops : List OpS) : TreeB (K + 16) (yas' S sess num zxid ops).2 := by
 unfold yas'
 split
 ·exact h.mono (by omega)
 ·exact ytk' h sess zxid ops
theorem ygy' (S : TreeS) (sess zxid : Int) (ops : List OpS) : (ya2' S sess zxid ops).2.1.room = S.room := by
 unfold ya2'
 split
 ·rfl
 ·split
  ·rfl
  ·split
   ·rfl
   ·exact ykw' ops S
theorem yfj' (S : TreeS) (sess num zxid : Int) (ops : List OpS) : (yas' S sess num zxid ops).2.room = S.room := by
 unfold yas'
 split
 ·rfl
 ·exact ygy' S sess zxid ops
theorem yit' : ∀ (l : List Bs) (S : TreeS), (purT l S).room = S.room
 | [], S => rfl
 | p :: l, S => yit' l _
end Go.Av

namespace Go.Av
structure PartB (K : Nat) (S : PartS) : Prop where
 tree : TreeB (16 * K) S.t
 held : ∀ e ∈ S.held, ybo' e.1 = true
 wait : ∀ e ∈ S.wait, e.2.ops.length ≤ 16 ∧ ∀ o ∈ e.2.ops, yb9' o = 0
 many : S.wait.length ≤ K
 zx : 0 ≤ S.zxid ∧ S.zxid ≤ K
 apart : ∀ e ∈ S.wait, e.1 ∉ S.decided
 good : ydr' S.t
theorem yu1' {W : yeh'} (h : ∀ e ∈ W, e.2.ops.length ≤ 16) : ya6' W ≤ 16 * W.length := by
 induction W with
 | nil => simp [ya6']
 | cons e W ih =>
  have h1 := ih (fun x hx => h x (k_n _ hx))
  have h2 := h e k_s
  have h3 := yf8' e.2.ops
  unfold ya6' at h1 ⊢
  rw [List.map_cons, List.sum_cons, List.length_cons]
  split <;> omega
theorem PartB.wanted {K : Nat} {S : PartS} (h : PartB K S) : ya6' S.wait ≤ 16 * K := Nat.le_trans (yu1' (fun e he => (h.wait e he).1)) (Nat.mul_le_mul_left _ h.many)
theorem PartB.keys {K : Nat} {S : PartS} (h : PartB K S) : ∀ e ∈ S.held, e.1.length ≤ 100000 := fun e he => Nat.le_trans (ycc' (h.held e he)) (by omega)
def newP (room : Int) : PartS := ⟨⟨room, []⟩, [], 0, [], [], []⟩
theorem y0k' (room : Int) (h : 1 ≤ room ∧ room ≤ 500) : PartB 0 (newP room) := ⟨yw6' room h, by simp [newP], by simp [newP], by simp [newP], by simp [newP], by simp [newP], yv0' room⟩
theorem yfb' {sess num : Int} {l : List OpS} (h : mayS sess num l = 0) : l.length ≤ 16 ∧ ∀ o ∈ l, yb9' o = 0 := by
 unfold mayS at h
 split at h
 ·cases h
 ·split at h
  ·cases h
  ·split at h
   ·rename_i h3; exact absurd h h3
   ·rename_i h2 h3
    refine ⟨by omega, fun o ho => ?_⟩
    have h3 : yep' l = 0 := by simpa using h3
    unfold yep' at h3
    cases hf : l.find? (fun o => yb9' o != 0) with
    | none =>
     have := List.find?_eq_none.1 hf o ho
     simpa using this
    | some q =>
     rw [hf] at h3
     have := List.find?_some hf
     rw [bne_iff_ne] at this
     exact absurd h3 this
theorem ye3' {o : OpS} (h : yb9' o = 0) : o.path.size ≤ 100000 ∧ 0 ≤ o.flags ∧ o.flags ≤ 3 := by
 obtain ⟨-, -, h3, -, h5, h6⟩ := ydc' (yds' h).1
 have := ycc' h3
 refine ⟨?_, h5, h6⟩
 have e : o.path.size = o.p.length := by unfold OpS.p; simp
 omega
end Go.Av
namespace Go.Proofs.YtcnkifbjlihaoaaGreatDoor
open Go.RowKit Go.Av
section
variable {w0 w : World} {b : Nat} {S : PartS} {P P' : List PRow} {R : List Thing} {rows : List (Value × Bs)}
set_option maxRecDepth 100000 in
set_option maxHeartbeats 4000000 in
theorem yo3' (h : Sep w0 w (yab' w0 P :: R) rows) (room : Int) (h1 : 1 ≤ room) (h2 : room ≤ 500) :
  Calls Tryz.prog 10 #[.int .i64 room] w fun e w' => ∃ b, e = .returned (.tuple #[.pointer (some ⟨b, 0, none⟩), .int .i64 0]) ∧ Sep w0 w' (yab' w0 P :: ybm' b (newP room) P :: R) rows := by
 have HX := Lib.hid h
 clear h
 go_enter Tryz.func10, Tryz.ntmps10
 go_wp2_with (first | refine u0 ?_ | (refine uS ?_; clear HX; intro w HX) | (refine uA ?_; clear HX; (first | (have hq := b; clear hq; intro w b2 HX) | intro w b HX)) | (refine uN ?_; clear HX; intro w mm HX))
 refine (ype' HX.out room h1 h2).mono ?_
 rintro e w ⟨t, rfl, hx⟩
 replace HX := Lib.hid hx
 clear hx
 go_wp2_with (first | refine u0 ?_ | (refine uS ?_; clear HX; intro w HX) | (refine uA ?_; clear HX; (first | (have hq := b; clear hq; intro w b2 HX) | intro w b HX)) | (refine uN ?_; clear HX; intro w mm HX))
 refine (yov' HX.out).mono ?_
 rintro e w ⟨l, rfl, hx⟩
 replace HX := Lib.hid hx
 clear hx
 go_wp2_with (first | ((with_reducible apply yh7' (.int .i64) HX); (· rfl); clear HX; first | (have hq := mm2; clear hq; intro w mm3 HX) | (have hq := mm; clear hq; intro w mm2 HX) | intro w mm HX); simp only [Act.put, k_a, k_b, k_c] | refine u0 ?_ | (refine uS ?_; clear HX; intro w HX) | (refine uA ?_; clear HX; (first | (have hq := b; clear hq; intro w b2 HX) | intro w b HX)) | (refine uN ?_; clear HX; intro w mm HX))
 go_ret2
 refine ⟨_, rfl, ?_⟩
 exact (yba' (b := b) (t := t) (lk := l) (mw := mm) (md := mm2) (mc := mm3) (gs := []) (S := newP room) (R := yab' w0 P :: R) (HX.out.pm 7 [0, 6, 4, 3, 2, 1, 5] rfl rfl) rfl (by simp)).up1
def yyd' (w0 : World) (b : Nat) (P : List PRow) (R : List Thing) (rows : List (Value × Bs)) (m : ReplyS × PartS) (e : Ending) (w' : World) : Prop :=
 ∃ v P', e = .returned v ∧ (∀ q ∈ P, q ∈ P') ∧ yk9' P' m.1 v ∧ Sep w0 w' (yab' w0 P' :: ybm' b m.2 P' :: R) rows
set_option maxRecDepth 100000 in
set_option maxHeartbeats 8000000 in
theorem ytd' {K : Nat} (h : Sep w0 w (yab' w0 P :: ybm' b S P :: R) rows) (hd : DoorN w0) (hB : PartB K S) (hK : K ≤ 1000) (sess num : Int) (ops : List OpS) (v : Value) (hv : (5, v, ops.flatMap OpS.cells) ∈ P) (hp : ∀ o ∈ ops, o.path.size ≤ 100000) :
  Calls Tryz.prog 15 #[.pointer (some ⟨b, 0, none⟩), .agg #[.int .i64 sess, .int .i64 num, v]] w (yyd' w0 b P R rows (ybg' S sess num ops)) := by
 obtain ⟨E, hE⟩ := h.poolGet hv
 obtain ⟨a, n, c, rfl, hl0, -⟩ := ReadRow.some hE
 rw [yau' yag'] at hl0
 obtain rfl : ops.length = n := by omega
 have HV := Lib.hid (show _ ∧ _ from ⟨hv, hp⟩)
 have HB := Lib.hid (show _ ∧ _ from ⟨hB, hK⟩)
 have HX := Lib.hid h
 obtain ⟨rr, hrr⟩ : ∃ rr, ybg' S sess num ops = rr := ⟨_, rfl⟩
 rw [hrr]
 have HRR := Lib.hid hrr
 clear h hE hv hp hB hK hrr hl0
 obtain ⟨me, hme⟩ : ∃ me, mayS sess num ops = me := ⟨_, rfl⟩
 have HME := Lib.hid hme
 clear hme
 go_enter Tryz.func15, Tryz.ntmps15
 go_wp2_with (first | refine u0 ?_ | (refine uS ?_; clear HX; intro w HX) | (refine uA ?_; clear HX; (first | (have hq := b3; clear hq; intro w b4 HX) | (have hq := b2; clear hq; intro w b3 HX) | (have hq := b; clear hq; intro w b2 HX) | intro w b HX)))
 refine (yjd' HX.out.up2 hd sess num ops _ HV.out.1 HV.out.2).mono ?_
 rw [HME.out]
 rintro e w ⟨rfl, hx⟩
 replace HX := Lib.hid hx
 clear hx
 by_cases h0 : me = 0
 case neg =>
  have q1 : (me != 0) = true := by rw [bne_iff_ne]; exact h0
  obtain rfl : rr = (yeo' num me (-1) 0, S) := by rw [← HRR.out]; unfold ybg'; rw [HME.out, if_pos h0]
  clear h0
  go_wp2_with (first | refine u0 ?_ | (refine uS ?_; clear HX; intro w HX) | (refine uA ?_; clear HX; (first | (have hq := b3; clear hq; intro w b4 HX) | (have hq := b2; clear hq; intro w b3 HX) | (have hq := b; clear hq; intro w b2 HX) | intro w b HX)))
  refine (yev' HX.out _ _ _ _).mono ?_
  rintro e w ⟨v, P', rfl, hP', ⟨a', n', c', xs', rfl, hrl, hmem⟩, hx⟩
  replace HX := Lib.hid hx
  have HPN := Lib.hid (show _ ∧ _ ∧ _ from ⟨hP', hrl, hmem⟩)
  clear hx hP' hrl hmem
  dsimp only at HX ⊢
  go_wp2_with (first | refine u0 ?_ | (refine uS ?_; clear HX; intro w HX) | (refine uA ?_; clear HX; (first | (have hq := b3; clear hq; intro w b4 HX) | (have hq := b2; clear hq; intro w b3 HX) | (have hq := b; clear hq; intro w b2 HX) | intro w b HX)))
  refine ybe' HX rfl rfl (by (repeat (first | (with_reducible exact k_s) | (with_reducible apply k_m)))) (by kernel_rfl) ?_
  exact ⟨_, P', rfl, HPN.out.1, ⟨a', n', c', xs', rfl, HPN.out.2.1, HPN.out.2.2⟩, (yc9' HX.out.up3 HPN.out.1).pm 4 [1, 0] rfl rfl⟩
 case pos =>
  subst h0
  have HGD := Lib.hid (yfb' HME.out)
  obtain ⟨⟨be, bat⟩, hbs⟩ : ∃ r, ycz' S 0 sess ops = r := ⟨_, rfl⟩
  have HR2 := Lib.hid (show rr = if be ≠ 0 then ({ yeo' num be bat ops.length with zxid := S.zxid + 1 }, { S with zxid := S.zxid + 1 }) else ((yas' S.t sess num (S.zxid + 1) ops).1, { S with zxid := S.zxid + 1, t := (yas' S.t sess num (S.zxid + 1) ops).2 }) by
   rw [← HRR.out]; unfold ybg'; rw [HME.out, hbs]; exact if_neg (fun hh => hh rfl))
  have HBS := Lib.hid (show ycz' { S with zxid := S.zxid + 1 } 0 sess ops = (be, bat) from hbs)
  obtain ⟨t, lk, mw, md, mc, gs, hgs, hgv, hS⟩ := ybu' HX.out.up3
  have HG := Lib.hid (show _ ∧ _ from ⟨hgs, hgv⟩)
  have hz1 := HB.out.1.zx.1
  have hz2 : S.zxid ≤ 1000 := by have := HB.out.1.zx.2; have := HB.out.2; omega
  clear HX hgs hgv hbs HRR
  have HX := Lib.hid hS
  clear hS
  simp only [yak'] at HX
  go_wp2_with (first | refine u0 ?_ | (refine uS ?_; clear HX; intro w HX) | (refine uA ?_; clear HX; (first | (have hq := b3; clear hq; intro w b4 HX) | (have hq := b2; clear hq; intro w b3 HX) | (have hq := b; clear hq; intro w b2 HX) | intro w b HX)))
  have h9 := (yba' (b := b) (t := t) (lk := lk) (mw := mw) (md := md) (mc := mc) (gs := gs) (S := { S with zxid := S.zxid + 1 }) HX.out HG.out.1 HG.out.2).up1
  replace HX := Lib.hid h9
  clear h9
  refine (ypq' HX.out hd 0 sess ops _ HV.out.1 (fun o ho => ye3' (HGD.out.2 o ho)) (by have := HGD.out.1; omega) HB.out.1.keys (by have := HB.out.1.wanted; have := HB.out.2; show ya6' S.wait ≤ _; omega) (fun e he => by have := (HB.out.1.wait e he).1; omega) ⟨HB.out.1.tree.many, HB.out.1.tree.room.2⟩).mono ?_
  rw [HBS.out]
  rintro e w ⟨P2, rfl, hP2, hx⟩
  replace HX := Lib.hid hx
  have HP2 := Lib.hid hP2
  clear hx hP2
  by_cases h0 : be = 0
  case neg =>
   have q1 : (be != 0) = true := by rw [bne_iff_ne]; exact h0
   obtain rfl : rr = ({ yeo' num be bat ops.length with zxid := S.zxid + 1 }, { S with zxid := S.zxid + 1 }) := by rw [HR2.out, if_pos h0]
   clear h0
   go_wp2_with (first | refine u0 ?_ | (refine uS ?_; clear HX; intro w HX) | (refine uA ?_; clear HX; (first | (have hq := b3; clear hq; intro w b4 HX) | (have hq := b2; clear hq; intro w b3 HX) | (have hq := b; clear hq; intro w b2 HX) | intro w b HX)))
   refine (yev' HX.out _ _ _ _).mono ?_
   rintro e w ⟨v, P', rfl, hP', ⟨a', n', c', xs', rfl, hrl, hmem⟩, hx⟩
   have HPN := Lib.hid (show _ ∧ _ ∧ _ from ⟨hP', hrl, hmem⟩)
   obtain ⟨t, lk, mw, md, mc, gs, hgs, hgv, hS⟩ := ybu' hx.up1
   have HG := Lib.hid (show _ ∧ _ from ⟨hgs, hgv⟩)
   clear HX hx hP' hrl hmem hgs hgv
   have HX := Lib.hid hS
   clear hS
   simp only [yak'] at HX
   dsimp only
   go_wp2_with (first | refine u0 ?_ | (refine uS ?_; clear HX; intro w HX) | (refine uA ?_; clear HX; (first | (have hq := b3; clear hq; intro w b4 HX) | (have hq := b2; clear hq; intro w b3 HX) | (have hq := b; clear hq; intro w b2 HX) | intro w b HX)))
   refine ybe' HX rfl rfl (by (repeat (first | (with_reducible exact k_s) | (with_reducible apply k_m)))) (by kernel_rfl) ?_
   exact ⟨_, P', rfl, fun q hq => HPN.out.1 q (HP2.out q hq), ⟨a', n', c', xs', rfl, HPN.out.2.1, HPN.out.2.2⟩, (yc9' (yba' (b := b) (t := t) (lk := lk) (mw := mw) (md := md) (mc := mc) (gs := gs) (S := { S with zxid := S.zxid + 1 }) HX.out.drop HG.out.1 HG.out.2) HPN.out.1).pm 4 [1, 0] rfl rfl⟩
  case pos =>
   subst h0
   obtain rfl : rr = ((yas' S.t sess num (S.zxid + 1) ops).1, { S with zxid := S.zxid + 1, t := (yas' S.t sess num (S.zxid + 1) ops).2 }) := by rw [HR2.out, if_neg (fun hh => hh rfl)]
   go_wp2_with (first | refine u0 ?_ | (refine uS ?_; clear HX; intro w HX) | (refine uA ?_; clear HX; (first | (have hq := b3; clear hq; intro w b4 HX) | (have hq := b2; clear hq; intro w b3 HX) | (have hq := b; clear hq; intro w b2 HX) | intro w b HX)))
   obtain ⟨t, lk, mw, md, mc, gs, hgs, hgv, hS⟩ := ybu' HX.out.up1
   have HG := Lib.hid (show _ ∧ _ from ⟨hgs, hgv⟩)
   obtain ⟨R', hR'⟩ : ∃ R', ThLk lk S.held :: yam' (.int .i64) mw (gs.map WaitG.kv) :: yam' (.int .i64) md (S.decided.map ikv) :: yam' (.int .i64) mc (S.closed.map ikv) :: R = R' := ⟨_, rfl⟩
   have h3 : Sep w0 w (yab' w0 P2 :: yan' t S.t P2 :: yac' b (.cells (yak' S.t.room t lk (S.zxid + 1) mw md mc) 123 (0, 0)) :: yac' b2 (.cells #[.int .i64 sess, .int .i64 num, .slice a ops.length c] 42 (0, 0)) :: yac' b3 (.cells #[.int .i64 0, .int .i64 0, .int .i64 0, .int .i64 0, .slice none 0 0] 39 (0, 0)) :: R') rows := by
    rw [← hR']
    exact hS.pm 9 [6, 1, 0, 8, 7, 2, 3, 4, 5] rfl rfl
   have HRR2 := Lib.hid hR'
   clear HX hgs hgv hS hR'
   have HX := Lib.hid h3
   clear h3
   refine rM (fun W => (∃ Ts, Sep w0 W (yac' b (.cells (yak' S.t.room t lk (S.zxid + 1) mw md mc) 123 (0, 0)) :: yac' b2 (.cells #[.int .i64 sess, .int .i64 num, .slice a ops.length c] 42 (0, 0)) :: Ts) rows)) 10 ?_
   intro KEEPX
   replace HX := Lib.hid HX.out.drew
   have hl : ∀ V, (∃ Ts, Sep w0 V (yac' b (.cells (yak' S.t.room t lk (S.zxid + 1) mw md mc) 123 (0, 0)) :: yac' b2 (.cells #[.int .i64 sess, .int .i64 num, .slice a ops.length c] 42 (0, 0)) :: Ts) rows) → (Instr.loadAt 65 (.pointer (some ⟨b, 1, none⟩))).run Tryz.prog V = .ok (.pointer (some ⟨t, 0, none⟩)) V := by
    rintro V ⟨Ts, hV⟩
    exact yae' (by kernel_rfl) (yaa' hV.blk 1 rfl)
   have hl2 : ∀ V, (∃ Ts, Sep w0 V (yac' b (.cells (yak' S.t.room t lk (S.zxid + 1) mw md mc) 123 (0, 0)) :: yac' b2 (.cells #[.int .i64 sess, .int .i64 num, .slice a ops.length c] 42 (0, 0)) :: Ts) rows) → (Instr.loadAt 42 (.pointer (some ⟨b2, 0, none⟩))).run Tryz.prog V = .ok (.agg #[.int .i64 sess, .int .i64 num, .slice a ops.length c]) V := by
    rintro V ⟨Ts, hV⟩
    exact ya4' (i := 0) sn_req.1 hV.up1.blk (by simp)
   have hl3 : ∀ V, (∃ Ts, Sep w0 V (yac' b (.cells (yak' S.t.room t lk (S.zxid + 1) mw md mc) 123 (0, 0)) :: yac' b2 (.cells #[.int .i64 sess, .int .i64 num, .slice a ops.length c] 42 (0, 0)) :: Ts) rows) → (Instr.loadAt 2 (.pointer (some ⟨b, 3, none⟩))).run Tryz.prog V = .ok (.int .i64 (S.zxid + 1)) V := by
    rintro V ⟨Ts, hV⟩
    exact yae' (by kernel_rfl) (yaa' hV.blk 3 rfl)
   refine rT [(0, false), (1, false), (2, false), (3, true), (4, true), (5, false), (6, false), (7, false), (8, true)] 2 ?_
   apply Exists.intro; refine ⟨?_, ⟨_, HX.out.up3.up3⟩, ?_⟩
   ·iterate 9 (refine xE ?_)
    exact rfl
   clear hl hl2 hl3
   refine r1 1 9 fun K hK => ?_
   go_wp2_with fail
   have hrq := yo6' HX.out hd HB.out.1.tree (by have := HB.out.2; omega) sess num (S.zxid + 1) ops _ (HP2.out _ HV.out.1) HV.out.2
   obtain ⟨⟨⟨n1, z1, e1, t1, rs1⟩, S2⟩, hm1⟩ : ∃ m1, yas' S.t sess num (S.zxid + 1) ops = m1 := ⟨_, rfl⟩
   have hroom : S2.room = S.t.room := by have := yfj' S.t sess num (S.zxid + 1) ops; rw [hm1] at this; exact this
   rw [hm1] at hrq
   have HM1 := Lib.hid (show _ ∧ _ from ⟨hm1, hroom⟩)
   refine hrq.mono ?_
   clear hrq hm1 hroom
   rintro e w ⟨v, P', rfl, hP', ⟨a', n', c', xs', rfl, hrl, hmem⟩, hx⟩
   replace HX := Lib.hid hx
   have HPN := Lib.hid (show _ ∧ _ ∧ _ from ⟨hP', hrl, hmem⟩)
   clear hx hP' hrl hmem
   dsimp only at HX HPN ⊢
   go_wp2_with fail
   refine hK _ _ ⟨_, HX.out.up3.up3⟩ ?_
   clear hK
   refine rL [10] 0 ?_
   simp only [List.filterMap_cons, List.filterMap_nil, k_i, k_j, k_k]
   (with_reducible apply ydh' HX)
   ·rfl
   ·rfl
   ·rfl
   ·kernel_rfl
   ·(repeat (first | (with_reducible exact Rep.here) | (with_reducible apply Rep.there)))
   ·rfl
   ·rfl
   clear HX
   intro w HX
   simp only [Act.put, k_a, k_b, k_c, yb6', Nat.reduceAdd] at HX ⊢
   go_wp2_with (first | refine u0 ?_ | (refine uS ?_; clear HX; intro w HX) | (refine uA ?_; clear HX; (first | (have hq := b3; clear hq; intro w b4 HX) | (have hq := b2; clear hq; intro w b3 HX) | (have hq := b; clear hq; intro w b2 HX) | intro w b HX)))
   refine ybe' HX rfl rfl (by (repeat (first | (with_reducible exact k_s) | (with_reducible apply k_m)))) (by kernel_rfl) ?_
   have h5 := HX.out
   rw [← HRR2.out] at h5
   rw [HM1.out.1]
   refine ⟨_, P', rfl, fun q hq => HPN.out.1 q (HP2.out q hq), ⟨a', n', c', xs', rfl, HPN.out.2.1, HPN.out.2.2⟩, ?_⟩
   refine (yba' (b := b) (t := t) (lk := lk) (mw := mw) (md := md) (mc := mc) (gs := gs) (S := { S with zxid := S.zxid + 1, t := S2 }) (R := yab' w0 P' :: R) ?_ HG.out.1 (fun g hg => HPN.out.1 _ (HG.out.2 g hg))).up1
   show Sep w0 w (yac' b (.cells (yak' S2.room t lk (S.zxid + 1) mw md mc) 123 (0, 0)) :: _) rows
   rw [HM1.out.2]
   exact h5.pm 9 [2, 1, 5, 6, 7, 8, 0] rfl rfl
end
end Go.Proofs.YtcnkifbjlihaoaaGreatDoor
