/-
  Texts of this claim, laid together.
-/
import Derived.Test.YtcnkifbjlihaoaaGreatDoorMg8
import Derived.HandedShaped
import Derived.Handed
import Derived.Lib.LaidTab
set_option linter.unusedVariables false
set_option linter.unusedSimpArgs false

namespace Go.Av
open Go.RowKit
section
variable {P : Program} {ops : Array Oper} {Q : Exit → Act → World → Prop} {a : Act} {w w0 : World} {rest : List Oper} {Ts : List Thing} {rows : List (Value × Bs)} {dst : Option Tmp} {t e tyy : TypeId} {y0 y1 y2 : Operand} {pos : String} {aft : Array Edge} {v0 v1 v2 : Value}
theorem yut' (H : Hid (Sep w0 w Ts rows)) {by_ : Nat} (hsl : SliceN P t e 1 by_) (h0 : a.eval y0 = v0) (h1 : a.eval y1 = v1) (h2 : a.eval y2 = v2) (e0 : v0.cells = #[v0]) (e1 : v1.cells = #[v1]) (e2 : v2.cells = #[v2])
  (k : ∀ w' b, Hid (Sep w0 w' (yac' b (.cells [v0, v1, v2].toArray e (0, 0)) :: Ts) rows) → wpList P ops Q rest (a.put dst (.slice (some ⟨b, 0, none⟩) 3 3)) w') : wpList P ops Q (⟨dst, .buildSlice t 3 #[(0, y0), (1, y1), (2, y2)], tyy, pos, aft, none⟩ :: rest) a w := by
 refine yup' H hsl (by omega) (by omega) (by omega) [v0, v1, v2] (by simp [h0, h1, h2]) rfl (fun v hv => ?_) (fun w' b HX => k w' b (by simpa [e0, e1, e2] using HX))
 simp only [List.mem_cons, List.not_mem_nil, or_false] at hv
 rcases hv with rfl | rfl | rfl
 ·simp [e0]
 ·simp [e1]
 ·simp [e2]
end
end Go.Av
namespace Go.Proofs.YtcnkifbjlihaoaaGreatDoor
open Go.RowKit Go.Av
section
variable {w0 w : World} {b : Nat} {P P' : List PRow} {R : List Thing} {rows : List (Value × Bs)}
set_option maxRecDepth 100000 in
theorem ypf' (h : Sep w0 w R rows) (room : Int) (h1 : room < 1 ∨ 500 < room) :
  Calls Tryz.prog 58 #[.int .i64 room] w fun e w' => e = .returned (.tuple #[.pointer none, .int .i64 1]) ∧ Sep w0 w' R rows := by
 have HX := Lib.hid h
 clear h
 by_cases h2 : room < 1
 ·have q1 : decide (room < 1) = true := decide_eq_true h2
  clear h1 h2
  go_enter Tryz.func58, Tryz.ntmps58
  go_wp2_with fail
  go_ret2
  exact ⟨rfl, HX.out⟩
 ·have q1 : decide (room < 1) = false := decide_eq_false h2
  have q2 : decide (500 < room) = true := decide_eq_true (by omega)
  clear h1 h2
  go_enter Tryz.func58, Tryz.ntmps58
  go_wp2_with fail
  go_ret2
  exact ⟨rfl, HX.out⟩
set_option maxRecDepth 100000 in
theorem yo4' (h : Sep w0 w R rows) (room : Int) (h1 : room < 1 ∨ 500 < room) :
  Calls Tryz.prog 10 #[.int .i64 room] w fun e w' => e = .returned (.tuple #[.pointer none, .int .i64 1]) ∧ Sep w0 w' R rows := by
 have HX := Lib.hid h
 clear h
 go_enter Tryz.func10, Tryz.ntmps10
 go_wp2_with (first | refine u0 ?_ | (refine uS ?_; clear HX; intro w HX) | (refine uA ?_; clear HX; (first | (have hq := b; clear hq; intro w b2 HX) | intro w b HX)))
 refine (ypf' HX.out room h1).mono ?_
 rintro e w ⟨rfl, hx⟩
 replace HX := Lib.hid hx
 clear hx
 go_wp2_with (first | refine u0 ?_ | (refine uS ?_; clear HX; intro w HX) | (refine uA ?_; clear HX; (first | (have hq := b; clear hq; intro w b2 HX) | intro w b HX)))
 go_ret2
 exact ⟨rfl, HX.out⟩
set_option maxRecDepth 100000 in
theorem yud' (h : Sep w0 w R rows) (room : Int) (h1 : room < 1 ∨ 500 < room) :
  Calls Tryz.prog 46 #[.int .i64 room] w fun e w' => e = .returned (.tuple #[.pointer none, .int .i64 1]) ∧ Sep w0 w' R rows := by
 have HX := Lib.hid h
 clear h
 go_enter Tryz.func46, Tryz.ntmps46
 go_wp2_with (first | refine u0 ?_ | (refine uS ?_; clear HX; intro w HX) | (refine uA ?_; clear HX; (first | (have hq := b; clear hq; intro w b2 HX) | intro w b HX)))
 refine (yo4' HX.out room h1).mono ?_
 rintro e w ⟨rfl, hx⟩
 replace HX := Lib.hid hx
 clear hx
 go_wp2_with (first | refine u0 ?_ | (refine uS ?_; clear HX; intro w HX) | (refine uA ?_; clear HX; (first | (have hq := b; clear hq; intro w b2 HX) | intro w b HX)))
 go_ret2
 exact ⟨rfl, HX.out⟩
end
section
variable {w0 w : World} {b d n K : Nat} {S : ShardS} {P : List PRow} {R : List Thing} {rows : List (Value × Bs)}
theorem yl5' {v : Value} {xs : List Value} (h : Sep w0 w (yai' K v xs :: yab' w0 P :: ybb' b S P :: R) rows) : ∃ P', (K, v, xs) ∈ P' ∧ (∀ r ∈ P, r ∈ P') ∧ Sep w0 w (yab' w0 P' :: ybb' b S P' :: R) rows :=
 ⟨_, k_s, fun r hr => k_n _ hr, yh0' h.poolRow (fun r hr => k_n _ hr)⟩
theorem yin' {cs : List Value} {A : TypeId} (h : Sep w0 w (yac' d (.cells cs.toArray A (0, 0)) :: yab' w0 P :: ybb' b S P :: R) rows) (hl : cs.length = n * K) (hn : n ≤ 1000) :
  ∃ P', (K, .slice (some ⟨d, 0, none⟩) n n, cs) ∈ P' ∧ (∀ r ∈ P, r ∈ P') ∧ Sep w0 w (yab' w0 P' :: ybb' b S P' :: R) rows :=
 ⟨_, k_s, fun r hr => k_n _ hr, yh0' (h.poolCell hl hn) (fun r hr => k_n _ hr)⟩
end
def opG : OpS := ⟨5, ⟨#[47, 97]⟩, ⟨#[]⟩, 0, 0⟩
def kc4 : CmdS := ⟨4, 9, 5, 0, 0, [], [], 0, true⟩
def kc9 : CmdS := ⟨9, 0, 0, 0, 0, [], [], 0, false⟩
def kc2 : CmdS := ⟨2, 3, 4, 0, 0, [opG], [0, 1], 0, false⟩
def kc2r : CmdS := ⟨2, 3, 4, 4, 3, [opG], [0, 1], 0, false⟩
theorem kn4 : getC (putC kc4) = some (decC 9 true) := by
 have h : putC kc4 = putC (decC 9 true) := rfl
 rw [h]
 exact ylh' (by omega) (by omega) true
theorem kn0 : getC [] = none := by
 unfold getC
 rw [if_neg]
 rintro ⟨-, h, -⟩
 revert h
 decide
theorem kn9 : putC kc9 = [] := by
 unfold putC kc9
 simp
theorem kn2 : getC (putC kc2) = some kc2r := by kernel_rfl
theorem yqb' (S : ShardS) : yav' S [] = (badO, { S with played := S.played + 1 }) := by
 unfold yav'
 rw [kn0]
set_option maxRecDepth 100000 in
theorem knP : ∃ rs S', ycm' [putC (locC 1 [opA]), putC (locC 1 [opA]), []] (ycy' 10) = ([⟨1, 1, ⟨1, 1, 0, -1, rs⟩, 0, 0, [], false⟩, ⟨1, 1, ⟨1, 1, 0, -1, rs⟩, 0, 0, [], false⟩, badO], S') ∧ S'.p.zxid = 1 := by
 obtain ⟨rs, h, -⟩ := aw25
 have h1 : (yav' (ycy' 10) (putC (locC 1 [opA]))).1 = ⟨1, 1, ⟨1, 1, 0, -1, rs⟩, 0, 0, [], false⟩ := by
  have := congrArg Prod.fst h
  rw [ycv'] at this
  exact List.head_eq_of_cons_eq this
 obtain ⟨p1, p2, -⟩ := yrl' (ycy' 10) (putC (locC 1 [opA]))
 refine ⟨rs, (yav' (yav' (yav' (ycy' 10) (putC (locC 1 [opA]))).2 (putC (locC 1 [opA]))).2 []).2, ?_, ?_⟩
 ·show ([(yav' (ycy' 10) (putC (locC 1 [opA]))).1, (yav' (yav' (ycy' 10) (putC (locC 1 [opA]))).2 (putC (locC 1 [opA]))).1, (yav' (yav' (yav' (ycy' 10) (putC (locC 1 [opA]))).2 (putC (locC 1 [opA]))).2 []).1], _) = _
  rw [p1, h1, yqb']
  rfl
 ·rw [yqb']
  show (yav' (yav' (ycy' 10) (putC (locC 1 [opA]))).2 (putC (locC 1 [opA]))).2.p.zxid = 1
  rw [p2]
  rw [yfw' (by omega) (by omega) (fun o ho => by rw [List.mem_singleton] at ho; subst ho; exact ⟨by decide, by decide⟩) (fun e he => by cases he), if_pos (by kernel_rfl)]
  kernel_rfl
set_option maxRecDepth 100000 in
set_option maxHeartbeats 16000000 in
theorem shardKnown_walk (W : World) (hd : DoorN W) : Calls Tryz.prog 6 #[] W fun e w' => e = .returned (.bool true) ∧ Below W.heap.size W w' := by
 go_enter Tryz.func6, Tryz.ntmps6
 go_wp2_with fail
 refine (yf7' hd).mono ?_
 rintro e w ⟨rfl, hu⟩
 have HX := Lib.hid (((Sep.start W).keep hu).poolNew.poolNil 1 |>.poolNil 5)
 clear hu
 go_wp2_with (first | refine u0 ?_ | (refine uS ?_; clear HX; intro w HX) | (refine uA ?_; clear HX; (first | (have hq := b; clear hq; intro w b2 HX) | intro w b HX)))
 refine (yud' HX.out 0 (by omega)).mono ?_
 rintro e w ⟨rfl, hx⟩
 replace HX := Lib.hid hx
 clear hx
 go_wp2_with (first | refine u0 ?_ | (refine uS ?_; clear HX; intro w HX) | (refine uA ?_; clear HX; (first | (have hq := b; clear hq; intro w b2 HX) | intro w b HX)))
 refine (yew' HX.out 10 (by omega) (by omega)).mono ?_
 rintro e w ⟨b, rfl, hx⟩
 replace HX := Lib.hid hx
 clear hx
 go_wp2_with (first | refine u0 ?_ | (refine uS ?_; clear HX; intro w HX) | (refine uA ?_; clear HX; (first | (have hq := b; clear hq; intro w b2 HX) | intro w b HX)))
 refine (ycg' HX.out 1 [opA] _ _ _).mono ?_
 rintro e w ⟨rfl, hx⟩
 obtain ⟨P1, m1, h1, hx⟩ := yin' (K := 5) (n := 1) (cs := [opA].flatMap OpS.cells) hx rfl (by omega)
 replace HX := Lib.hid hx
 clear hx
 have H1 := Lib.hid (show _ ∧ (1, .slice none 0 0, []) ∈ P1 ∧ (5, .slice none 0 0, []) ∈ P1 from ⟨m1, h1 _ (by simp), h1 _ (by simp)⟩)
 clear m1 h1
 unfold cmdV locC
 dsimp only
 go_wp2_with (first | refine u0 ?_ | (refine uS ?_; clear HX; intro w HX) | (refine uA ?_; clear HX; (first | (have hq := b; clear hq; intro w b2 HX) | intro w b HX)))
 refine (yb1' HX.out hd (locC 1 [opA]) _ _ H1.out.1 H1.out.2.1 (by intro o ho; have ho : o ∈ [opA] := ho; simp at ho; subst ho; decide) (by simp [locC])).mono ?_
 rintro e w ⟨v, rfl, hx⟩
 obtain ⟨P2, m2, h2, hx⟩ := yl5' hx
 replace HX := Lib.hid hx
 clear hx
 obtain ⟨ba, bn, bc, rfl⟩ := yah' HX.out m2
 have H2 := Lib.hid (show _ ∧ (1, .slice none 0 0, []) ∈ P2 ∧ (5, .slice none 0 0, []) ∈ P2 from ⟨m2, h2 _ H1.out.2.1, h2 _ H1.out.2.2⟩)
 clear m2 h2 H1
 go_wp2_with (first | refine u0 ?_ | (refine uS ?_; clear HX; intro w HX) | (refine uA ?_; clear HX; (first | (have hq := b; clear hq; intro w b2 HX) | intro w b HX)) | (refine yut' HX sl_x4 rfl rfl rfl rfl rfl rfl ?_; clear HX; intro w d1 HX; simp only [Act.put, k_a, k_b, k_c]))
 obtain ⟨P3, m3, h3, hx⟩ := yin' (K := 1) (n := 3) (cs := [.slice ba bn bc, .slice ba bn bc, .slice none 0 0]) HX.out rfl (by omega)
 replace HX := Lib.hid hx
 clear hx
 refine (yb7' HX.out hd (ylv' 10 (by omega)) [putC (locC 1 [opA]), putC (locC 1 [opA]), []] _ _ m3 (.cons (h3 _ H2.out.1) (.cons (h3 _ H2.out.1) (.cons (h3 _ H2.out.2.1) .nil))) (by simp) (by intro l hl; simp only [List.mem_cons, List.not_mem_nil, or_false] at hl; rcases hl with rfl | rfl | rfl; exact ycq' _ (by simp [locC]); exact ycq' _ (by simp [locC]); simp)).mono ?_
 obtain ⟨rs, S', hpl, hzx⟩ := knP
 rw [hpl]
 rintro e w ⟨v5, xs5, P5, rfl, h5, ol5, m5, hx⟩
 replace HX := Lib.hid hx
 clear hx
 obtain ⟨a5, n5, c5, rfl⟩ := yah' HX.out m5
 have H5 := Lib.hid (show _ ∧ _ ∧ (1, .slice none 0 0, []) ∈ P5 ∧ (5, .slice none 0 0, []) ∈ P5 ∧ S'.p.zxid = 1 from ⟨ol5, m5, h5 _ (h3 _ H2.out.2.1), h5 _ (h3 _ H2.out.2.2), hzx⟩)
 clear m3 h3 h5 m5 ol5 H2 hzx hpl
 go_wp2_with (first | refine u0 ?_ | (refine uS ?_; clear HX; intro w HX) | (refine uA ?_; clear HX; (first | (have hq := b; clear hq; intro w b2 HX) | intro w b HX)))
 refine (yb1' HX.out hd kc4 _ _ H5.out.2.2.2.1 H5.out.2.2.1 (by intro o ho; cases ho) (by simp [kc4])).mono ?_
 rintro e w ⟨v, rfl, hx⟩
 obtain ⟨P6, m6, h6, hx⟩ := yl5' hx
 replace HX := Lib.hid hx
 clear hx
 obtain ⟨da, dn, dc, rfl⟩ := yah' HX.out m6
 have H6 := Lib.hid (show _ ∧ _ from ⟨m6, h6⟩)
 clear m6 h6
 go_wp2_with (first | refine u0 ?_ | (refine uS ?_; clear HX; intro w HX) | (refine uA ?_; clear HX; (first | (have hq := b; clear hq; intro w b2 HX) | intro w b HX)))
 refine (yg9' HX.out hd _ _ H6.out.1 (ycq' _ (by simp [kc4]))).mono ?_
 rw [kn4]
 rintro e w ⟨vo, vs, P7, rfl, h7, hvo, hvs, hx⟩
 obtain ⟨oa, on, oc, rfl⟩ := yah' hx hvo
 obtain ⟨sa, sn, sc, rfl⟩ := yah' hx hvs
 have hx := yh0' hx (fun r hr => h7 r hr)
 replace HX := Lib.hid hx
 clear hx
 have H7 := Lib.hid h7
 clear h7 hvo hvs
 unfold cmdV decC
 dsimp only [Option.getD, Option.isSome]
 go_wp2_with (first | refine u0 ?_ | (refine uS ?_; clear HX; intro w HX) | (refine uA ?_; clear HX; (first | (have hq := b; clear hq; intro w b2 HX) | intro w b HX)))
 refine (yg9' HX.out.up1 hd _ [] (H7.out _ (H6.out.2 _ H5.out.2.2.1)) (by simp)).mono ?_
 rw [kn0]
 rintro e w ⟨vo, vs, P8, rfl, h8, hvo, hvs, hx⟩
 obtain ⟨oa2, on2, oc2, rfl⟩ := yah' hx hvo
 obtain ⟨sa2, sn2, sc2, rfl⟩ := yah' hx hvs
 have hx := (yhz' hx.up2 h8).up1
 replace HX := Lib.hid hx
 clear hx
 have H8 := Lib.hid (show (1, .slice none 0 0, []) ∈ P8 ∧ (5, .slice none 0 0, []) ∈ P8 ∧ (∀ r ∈ P5, r ∈ P8) from ⟨h8 _ (H7.out _ (H6.out.2 _ H5.out.2.2.1)), h8 _ (H7.out _ (H6.out.2 _ H5.out.2.2.2.1)), fun r hr => h8 _ (H7.out _ (H6.out.2 _ hr))⟩)
 clear h8 hvo hvs H6 H7
 unfold cmdV ypj'
 dsimp only [Option.getD, Option.isSome]
 go_wp2_with (first | refine u0 ?_ | (refine uS ?_; clear HX; intro w HX) | (refine uA ?_; clear HX; (first | (have hq := b; clear hq; intro w b2 HX) | intro w b HX)))
 refine (yb1' HX.out.up1 hd kc9 _ _ H8.out.2.1 H8.out.1 (by intro o ho; cases ho) (by simp [kc9])).mono ?_
 rw [kn9]
 rintro e w ⟨v, rfl, hx⟩
 obtain ⟨P9, m9, h9, hx⟩ := yl5' hx.cut2
 replace HX := Lib.hid hx
 clear hx
 obtain ⟨fa, fc, rfl⟩ : ∃ a c, v = .slice a 0 c := by
  obtain ⟨E, hE⟩ := HX.out.poolGet m9
  obtain ⟨a, n, c, rfl, hl, -⟩ := ReadRow.some hE
  simp only [List.map_nil, List.length_nil, Nat.mul_one] at hl
  exact ⟨a, c, by rw [← hl]⟩
 have H9 := Lib.hid (show (1, .slice none 0 0, []) ∈ P9 ∧ (5, .slice none 0 0, []) ∈ P9 ∧ (∀ r ∈ P5, r ∈ P9) from ⟨h9 _ H8.out.1, h9 _ H8.out.2.1, fun r hr => h9 _ (H8.out.2.2 r hr)⟩)
 clear m9 h9 H8
 go_wp2_with (first | refine u0 ?_ | (refine uS ?_; clear HX; intro w HX) | (refine uA ?_; clear HX; (first | (have hq := b; clear hq; intro w b2 HX) | intro w b HX)) | (refine ypc' HX sl_x2 rfl rfl rfl rfl ?_; clear HX; intro w d2 HX; simp only [Act.put, k_a, k_b, k_c]))
 obtain ⟨P10, m10, h10, hx⟩ := yin' (K := 5) (n := 1) (cs := [opG].flatMap OpS.cells) HX.out.up3.up3.up2 rfl (by omega)
 obtain ⟨P11, m11, h11, hx⟩ := yin' (K := 1) (n := 2) (cs := [.int .i64 0, .int .i64 1]) hx.up2 rfl (by omega)
 replace HX := Lib.hid hx
 clear hx
 refine (yb1' HX.out hd kc2 _ _ (h11 _ m10) m11 (by intro o ho; have ho : o ∈ [opG] := ho; simp at ho; subst ho; decide) (by simp [kc2])).mono ?_
 rintro e w ⟨v, rfl, hx⟩
 obtain ⟨P12, m12, h12, hx⟩ := yl5' hx
 replace HX := Lib.hid hx
 clear hx
 obtain ⟨ga, gn, gc, rfl⟩ := yah' HX.out m12
 have H12 := Lib.hid (show _ ∧ (∀ r ∈ P5, r ∈ P12) from ⟨m12, fun r hr => h12 _ (h11 _ (h10 _ (H9.out.2.2 r hr)))⟩)
 clear m10 h10 m11 h11 m12 h12 H9
 go_wp2_with (first | refine u0 ?_ | (refine uS ?_; clear HX; intro w HX) | (refine uA ?_; clear HX; (first | (have hq := b; clear hq; intro w b2 HX) | intro w b HX)))
 refine (yg9' HX.out hd _ _ H12.out.1 (ycq' _ (by simp [kc2]))).mono ?_
 rw [kn2]
 rintro e w ⟨vo, vs, P13, rfl, h13, hvo, hvs, hx⟩
 obtain ⟨oa3, on3, oc3, rfl⟩ := yah' hx hvo
 obtain ⟨sa3, sc3, rfl⟩ : ∃ a c, vs = .slice a 2 c := by
  obtain ⟨E, hE⟩ := hx.poolGet hvs
  obtain ⟨a, n, c, rfl, hl, -⟩ := ReadRow.some hE
  simp [kc2r] at hl
  exact ⟨a, c, by rw [← hl]⟩
 have hx := (yhz' hx.up1 h13).up1
 replace HX := Lib.hid hx
 clear hx
 have H13 := Lib.hid (show _ ∧ _ from ⟨H5.out.1.mono (fun r hr => h13 _ (H12.out.2 r hr)), h13 _ (H12.out.2 _ H5.out.2.1)⟩)
 clear h13 hvo hvs H12
 unfold cmdV kc2r
 dsimp only [Option.getD, Option.isSome]
 rename_i xk
 refine xk _ _ ?_
 clear xk
 iterate 3 (go_step; rename_i xk; refine xk _ _ ?_; clear xk)
 refine tWA ?_
 clear HX
 intro w d3 HX
 simp only [Act.put, k_a, k_b, k_c]
 refine tWS ?_
 clear HX
 intro w HX
 simp only [Act.put, k_a, k_b, k_c, yb6', Nat.reduceAdd] at HX ⊢
 obtain ⟨g, off, m, ex, hcx⟩ := yg1' HX.out.up1 H13.out.1 H13.out.2 (by simp)
 simp only [Value.slice.injEq] at ex
 obtain ⟨rfl, rfl, rfl⟩ := ex
 obtain ⟨-, -, x3, x4, -, -, -, -, -⟩ := hcx 1 (by simp)
 obtain ⟨y0, -, -, -, -, y7, -, -, -⟩ := hcx 2 (by simp)
 simp only [Nat.one_mul, Nat.reduceMul, Nat.reduceAdd, Nat.add_zero, List.getElem_cons_zero, List.getElem_cons_succ, List.length_cons, List.length_nil, badO] at x3 x4 y0 y7
 have c1 := yaa' HX.out.up3.blk 1 rfl
 have c2 := yaa' HX.out.up3.blk 2 rfl
 have c6 := yaa' HX.out.up3.blk 8 rfl
 have e3 := yaa' HX.out.blk 3 rfl
 have e4 := yaa' HX.out.blk 4 rfl
 have e6 := yaa' HX.out.blk 6 rfl
 clear hcx
 obtain ⟨p1, c9, mk1, gs1, -, -, hS⟩ := yek' HX.out.up2
 have hx := hS
 replace HX := Lib.hid hx
 clear hx
 go_wp2_with (first | refine u0 ?_ | (refine uS ?_; clear HX; intro w HX) | (refine uA ?_; clear HX; (first | (have hq := b; clear hq; intro w b2 HX) | intro w b HX)))
 refine (yda' HX.out).mono ?_
 rintro e w2 ⟨rfl, rfl⟩
 go_wp2_with (first | refine u0 ?_ | (refine uS ?_; clear HX; intro w HX) | (refine uA ?_; clear HX; (first | (have hq := b; clear hq; intro w b2 HX) | intro w b HX)))
 refine (yxf' HX.out.up1).mono ?_
 rw [H5.out.2.2.2.2]
 rintro e w ⟨rfl, hx⟩
 replace HX := Lib.hid hx
 clear hx
 go_wp2_with (first | refine u0 ?_ | (refine uS ?_; clear HX; intro w HX) | (refine uA ?_; clear HX; (first | (have hq := b; clear hq; intro w b2 HX) | intro w b HX)))
 go_ret
 exact ⟨rfl, HX.out.below⟩
end Go.Proofs.YtcnkifbjlihaoaaGreatDoor

namespace Go.Av
variable {H : Type} {enc : TypeId × Value → H}
theorem handed_both {a : Assume} {C : Checked} {os : Os} {f : FuncId} {fn : Func} {s : ChangeSpec} {conds : List PathCond} {apart fresh handsOn again : Bool} {X : World → Array Value → Prop}
  (hX : ∀ (w w' : World) (args : Array Value), w.heap = w'.heap → X w args → X w' args)
  (own : ownKnob C.prog.godebug = none) (started : os.Started) (noInit : C.prog.inits.idxOf? f = none) (hfn : C.prog.funcs[f]? = some fn)
  (witness : ∃ (w : World) (tape : Tape) (i : Input), w.os = os ∧ (w.forCall tape i).Shaped C.prog ∧ i.vars = [] ∧ Input.okWide C.prog (w.forCall tape i) .any w.heap.size f i ∧
   ((s.pre enc C.prog fn conds apart (w.forCall tape i).memory i.args ∧ X (w.forCall tape i).memory i.args) ∧ sizedMet enc C.prog fn (OpenSpec.ofChange s) apart (w.forCall tape i).memory i.args) ∧ a.holds C.prog (lone (Frame.enter C.prog f i.args .normal) [] (w.forCall tape i)))
  (contract : ∀ (W : World) (base : Nat) (args : Array Value) (ds gs : List (DataW H)) (before : List MemPlace),
   (∀ (j : Nat) t v, fn.params[j]? = some t → args[j]? = some v → Value.okWide C.prog W .any base t v) →
   DataW.Whole enc C.prog fn.params.toList s.vars apart W args.toList ds gs before →
   W.ShapedOpen C.prog → X W args →
   Calls C.prog f args W fun e W' => ∃ v, e = .returned v ∧ s.post enc C.prog fn apart fresh handsOn again W args v W') :
  ReturnsInHanded a C os f .any (fun w args => (s.pre enc C.prog fn conds apart w args ∧ X w args) ∧ sizedMet enc C.prog fn (OpenSpec.ofChange s) apart w args) (s.post enc C.prog fn apart fresh handsOn again) := by
 refine returnsInHanded_of_calls own started noInit witness ?_
 intro w tape i _ hsh _ hok hpre hholds
 obtain ⟨_, _, _, fn', hfn', _, _, _, _, hval⟩ := hok
 have e : fn' = fn := Option.some.inj (hfn'.symm.trans hfn)
 subst e
 obtain ⟨⟨⟨ds, gs, before, hw, hc⟩, hx⟩, hz⟩ := hpre
 have hw' := DataW.Whole.of_heap (w' := w.forCall tape i) (by rfl) hw
 refine (contract (w.forCall tape i) w.heap.size i.args ds gs before hval hw' hsh (hX _ _ _ (by rfl) hx)).mono fun e W' ⟨v, he, hp⟩ => ?_
 subst he
 exact ChangeSpec.post_blind hp
end Go.Av
namespace Go.Proofs.YtcnkifbjlihaoaaGreatDoor
open Go.Av
theorem yyx' {W : World} (h : W.ShapedOpen Tryz.prog) : Door W := Tryz.laysM146.s1_3 W h
end Go.Proofs.YtcnkifbjlihaoaaGreatDoor

namespace Go.Av
theorem ym5' {P : Program} {w : World} {x : String × DataW Unit} {rest : List (String × DataW Unit)} (h : ∃ ps, DataW.LaidVars P w (x :: rest) ps) : ∃ ps, DataW.LaidVars P w rest ps := by
 obtain ⟨ps, g, t, cs, fuel, p, q, -, -, -, -, h1, h2⟩ := h
 exact ⟨q, by assumption⟩
theorem yw1' {P : Program} {W : World} {name : String} {k : IntKind} {zs : List Int} {rest : List (String × DataW Unit)} {g : Nat} {t e : TypeId} {n : Nat}
  (hg : P.globalNamed name = some g) (hty : (P.globals[g]?).map (·.type) = some t) (ht : P.underlying t = some (.array n e)) (he : P.underlying e = some (.int k)) (hce : P.cellsOf e = 1) (hct : P.cellsOf t = n)
  (h : ∃ ps, DataW.LaidVars P W ((name, Lib.tabData k zs) :: rest) ps) : Lib.TabIs P W name k zs := by
 obtain ⟨ps, g', t', cs, fuel, p, q, hg', ht', hvar, hd, _, _⟩ := h
 obtain rfl := Option.some.inj (hg.symm.trans hg')
 obtain rfl := Option.some.inj (hty.symm.trans ht')
 unfold Lib.TabIs
 rw [hvar, ← Lib.cells_of_tab ht he hce hct hd]
end Go.Av
namespace Go.Proofs.YtcnkifbjlihaoaaGreatDoor
open Go.Av
theorem doorN_of {W : World} {a b c : String × DataW Unit} {r : List (String × DataW Unit)} (h : W.ShapedOpen Tryz.prog) (hc : c = ("internal/strconv.uint64pow10", Lib.tabData .u64 Lib.pow10Tab)) (hl : laidMet Tryz.prog (a :: b :: c :: r) W) : DoorN W := by
 subst hc
 obtain ⟨ps, h1, -⟩ := hl
 refine ⟨yyx' h, ?_⟩
 exact yw1' (g := 3) (by kernel_rfl) (by kernel_rfl) Tryz.underlying373 Tryz.underlying249 (by kernel_rfl) (by kernel_rfl) (ym5' (ym5' ⟨ps, h1⟩))
end Go.Proofs.YtcnkifbjlihaoaaGreatDoor

namespace Go.Proofs.YtcnkifbjlihaoaaGreatDoor
open Go.RowKit Go.Av
section
variable {W : World}
def yxj' (W : World) (n n2 : Nat) (rs : List PRow) (b c k : Nat) (v : Value) (w : World) : Prop :=
 ∃ (i : Nat) (S T : ShardS) (P' : List PRow), i + k = n2 ∧ v = .int .i64 (i : Int) ∧ (∀ r ∈ rs, r ∈ P') ∧ RelN i S T ∧ ShB (n + 2 + i) S ∧ ShB (n + 2 + i) T ∧ Sep W w [yab' W P', ybb' b S P', ybb' c T P'] []
set_option maxRecDepth 100000 in
set_option maxHeartbeats 16000000 in
theorem shardNever_walk (a0 : Option Addr) (len0 cap0 : Nat) (l0 : List OpS) (a1 : Option Addr) (len1 cap1 : Nat) (l1 : List OpS) (a2 : Option Addr) (len2 cap2 : Nat) (l2 : List OpS) (W : World) (hd : DoorN W) (h0 : IsOpsF W a0 len0 cap0 l0) (h1 : IsOpsF W a1 len1 cap1 l1) (h2 : IsOpsF W a2 len2 cap2 l2) :
  Calls Tryz.prog 7 #[.slice a0 len0 cap0, .slice a1 len1 cap1, .slice a2 len2 cap2] W fun e w' => e = .returned (.bool true) ∧ Below W.heap.size W w' := by
 obtain ⟨E0, r0⟩ := h0.1.row
 obtain ⟨E1, r1⟩ := h1.1.row
 obtain ⟨E2, r2⟩ := h2.1.row
 obtain rfl : l0.length = len0 := h0.1.1
 obtain rfl : l1.length = len1 := h1.1.1
 obtain rfl : l2.length = len2 := h2.1.1
 have HR := Lib.hid (show _ ∧ _ ∧ _ from ⟨r0, r1, r2⟩)
 have HFO := Lib.hid (show (∀ o ∈ l0, FitO o) ∧ (∀ o ∈ l1, FitO o) ∧ (∀ o ∈ l2, FitO o) from ⟨h0.2, h1.2, h2.2⟩)
 clear h0 h1 h2 r0 r1 r2
 go_enter Tryz.func7, Tryz.ntmps7
 go_wp2_with fail
 refine (yf7' hd).mono ?_
 rintro e w ⟨rfl, hu⟩
 have hx := (((Sep.start W).keep hu).poolNew.poolNil 1 |>.poolNil 5 |>.poolOld HR.out.2.2 |>.poolOld HR.out.2.1 |>.poolOld HR.out.1)
 clear hu
 obtain ⟨rs, hrs⟩ : ∃ rs : List PRow, [(5, .slice a0 l0.length cap0, l0.flatMap OpS.cells), (5, .slice a1 l1.length cap1, l1.flatMap OpS.cells), (5, .slice a2 l2.length cap2, l2.flatMap OpS.cells), (5, .slice none 0 0, []), (1, .slice none 0 0, [])] = rs := ⟨_, rfl⟩
 have HRS := Lib.hid (show (1, Value.slice none 0 0, []) ∈ rs ∧ (5, Value.slice none 0 0, []) ∈ rs ∧ (5, Value.slice a0 l0.length cap0, l0.flatMap OpS.cells) ∈ rs ∧ (5, Value.slice a1 l1.length cap1, l1.flatMap OpS.cells) ∈ rs ∧ (5, Value.slice a2 l2.length cap2, l2.flatMap OpS.cells) ∈ rs by rw [← hrs]; simp)
 rw [hrs] at hx
 clear hrs
 have HX := Lib.hid hx
 clear hx
 go_wp2_with (first | refine u0 ?_ | (refine uS ?_; clear HX; intro w HX) | (refine tWA ?_; clear HX; (first | (have hq := b; clear hq; intro w b2 HX) | intro w b HX); simp only [Act.put, k_a, k_b, k_c]))
 refine (ygv' HX.out l0 _ HRS.out.2.2.1).mono ?_
 obtain ⟨z, hz⟩ : ∃ z, ygu' l0 = z := ⟨_, rfl⟩
 rw [hz]
 rintro e w ⟨rfl, hx⟩
 replace HX := Lib.hid hx
 clear hx
 cases z with
 | true =>
  go_wp2_with (first | refine u0 ?_ | (refine uS ?_; clear HX; intro w HX) | (refine tWA ?_; clear HX; (first | (have hq := b; clear hq; intro w b2 HX) | intro w b HX); simp only [Act.put, k_a, k_b, k_c]))
  go_ret
  exact ⟨rfl, HX.out.below⟩
 | false =>
  have LG0 := Lib.hid hz
  clear hz
  go_wp2_with (first | refine u0 ?_ | (refine uS ?_; clear HX; intro w HX) | (refine tWA ?_; clear HX; (first | (have hq := b; clear hq; intro w b2 HX) | intro w b HX); simp only [Act.put, k_a, k_b, k_c]))
  refine (ygv' HX.out l1 _ HRS.out.2.2.2.1).mono ?_
  obtain ⟨z, hz⟩ : ∃ z, ygu' l1 = z := ⟨_, rfl⟩
  rw [hz]
  rintro e w ⟨rfl, hx⟩
  replace HX := Lib.hid hx
  clear hx
  cases z with
  | true =>
   go_wp2_with (first | refine u0 ?_ | (refine uS ?_; clear HX; intro w HX) | (refine tWA ?_; clear HX; (first | (have hq := b; clear hq; intro w b2 HX) | intro w b HX); simp only [Act.put, k_a, k_b, k_c]))
   go_ret
   exact ⟨rfl, HX.out.below⟩
  | false =>
   have LG1 := Lib.hid hz
   clear hz
   go_wp2_with (first | refine u0 ?_ | (refine uS ?_; clear HX; intro w HX) | (refine tWA ?_; clear HX; (first | (have hq := b; clear hq; intro w b2 HX) | intro w b HX); simp only [Act.put, k_a, k_b, k_c]))
   refine (ygv' HX.out l2 _ HRS.out.2.2.2.2).mono ?_
   obtain ⟨z, hz⟩ : ∃ z, ygu' l2 = z := ⟨_, rfl⟩
   rw [hz]
   rintro e w ⟨rfl, hx⟩
   replace HX := Lib.hid hx
   clear hx
   cases z with
   | true =>
    go_wp2_with (first | refine u0 ?_ | (refine uS ?_; clear HX; intro w HX) | (refine tWA ?_; clear HX; (first | (have hq := b; clear hq; intro w b2 HX) | intro w b HX); simp only [Act.put, k_a, k_b, k_c]))
    go_ret
    exact ⟨rfl, HX.out.below⟩
   | false =>
    have LG2 := Lib.hid hz
    clear hz
    go_wp2_with (first | refine u0 ?_ | (refine uS ?_; clear HX; intro w HX) | (refine tWA ?_; clear HX; (first | (have hq := b; clear hq; intro w b2 HX) | intro w b HX); simp only [Act.put, k_a, k_b, k_c]))
    refine (yew' HX.out 60 (by omega) (by omega)).mono ?_
    rintro e w ⟨b, rfl, hx⟩
    replace HX := Lib.hid hx
    clear hx
    go_wp2_with (first | refine u0 ?_ | (refine uS ?_; clear HX; intro w HX) | (refine tWA ?_; clear HX; (first | (have hq := b; clear hq; intro w b2 HX) | intro w b HX); simp only [Act.put, k_a, k_b, k_c]))
    refine (yew' HX.out 60 (by omega) (by omega)).mono ?_
    rintro e w ⟨c, rfl, hx⟩
    replace HX := Lib.hid hx
    clear hx
    go_wp2_with (first | refine u0 ?_ | (refine uS ?_; clear HX; intro w HX) | (refine tWA ?_; clear HX; (first | (have hq := b; clear hq; intro w b2 HX) | intro w b HX); simp only [Act.put, k_a, k_b, k_c]))
    have HST := Lib.hid (show yvc' W l0 rs b c l0.length (.int .i64 (0 : Int)) w from ⟨0, rs, by simp, rfl, fun r hr => hr, by rw [k_g]; exact HX.out.pm 3 [0, 2, 1] rfl rfl⟩)
    clear HX
    go_loopg [11, 12] l0.length (fun k v _ wr => yvc' W l0 rs b c k v wr)
    case atStart => exact HST.out
    case round =>
     rename World => w
     obtain ⟨i, P1, hik, rfl, hP1, hS⟩ := hrel
     have HX := Lib.hid hS
     have HP := Lib.hid hP1
     clear hS hP1 HST
     by_cases hlt : i < l0.length
     case neg =>
      obtain rfl : i = l0.length := by omega
      have hB := ym6' (l := l0) l0.length (Nat.le_refl _) (by have := (ybs' LG0.out).1; omega)
      have hL := ylr' (l := l0) HFO.out.1 (by have := (ybs' LG0.out).1; omega) (ytc' 60) l0.length (Nat.le_refl _)
      obtain ⟨S, hSS⟩ : ∃ S, locs 100 (l0.take l0.length) (ycy' 60) = S := ⟨_, rfl⟩
      rw [hSS] at HX hB hL
      have HBL := Lib.hid (show _ ∧ _ from ⟨hB, hL⟩)
      clear hlt hik hB hL hSS
      go_wp2_with (first | refine u0 ?_ | (refine uS ?_; clear HX; intro w HX) | (refine tWA ?_; clear HX; (first | (have hq := b; clear hq; intro w b2 HX) | intro w b HX); simp only [Act.put, k_a, k_b, k_c]))
      refine (ycg' HX.out 1 l1 _ _ _).mono ?_
      rintro e w ⟨rfl, hx⟩
      replace HX := Lib.hid hx
      clear hx
      unfold cmdV locC
      dsimp only
      go_wp2_with (first | refine u0 ?_ | (refine uS ?_; clear HX; intro w HX) | (refine tWA ?_; clear HX; (first | (have hq := b; clear hq; intro w b2 HX) | intro w b HX); simp only [Act.put, k_a, k_b, k_c]))
      refine (yb1' HX.out.up1 hd (preC 1 l1) _ _ (HP.out _ HRS.out.2.2.2.1) (HP.out _ HRS.out.1) (ylw' LG1.out) (by simp [preC])).mono ?_
      obtain ⟨rec, hrec⟩ : ∃ rec, putC (preC 1 l1) = rec := ⟨_, rfl⟩
      have hlen := ycq' (preC 1 l1) (by simp [preC])
      rw [hrec] at hlen ⊢
      have HR1 := Lib.hid (show _ ∧ _ from ⟨hrec, hlen⟩)
      clear hrec hlen
      rintro e w ⟨v, rfl, hx⟩
      obtain ⟨P3, m3, h3, hx⟩ := yfk' hx.cut2
      replace HX := Lib.hid hx
      clear hx
      obtain ⟨ba, bn, bc, rfl⟩ := yah' HX.out m3
      have H3 := Lib.hid (show _ ∧ _ from ⟨m3, h3⟩)
      clear m3 h3
      go_wp2_with (first | refine u0 ?_ | (refine uS ?_; clear HX; intro w HX) | (refine tWA ?_; clear HX; (first | (have hq := b; clear hq; intro w b2 HX) | intro w b HX); simp only [Act.put, k_a, k_b, k_c]))
      refine (yb1' HX.out hd (decC 1 false) _ _ (H3.out.2 _ (HP.out _ HRS.out.2.1)) (H3.out.2 _ (HP.out _ HRS.out.1)) (by intro o ho; cases ho) (by simp [decC])).mono ?_
      obtain ⟨rec2, hrec⟩ : ∃ rec, putC (decC 1 false) = rec := ⟨_, rfl⟩
      have hlen := ycq' (decC 1 false) (by simp [decC])
      rw [hrec] at hlen ⊢
      have HR2 := Lib.hid (show _ ∧ _ from ⟨hrec, hlen⟩)
      clear hrec hlen
      rintro e w ⟨v, rfl, hx⟩
      obtain ⟨P4, m4, h4, hx⟩ := yfk' hx
      replace HX := Lib.hid hx
      clear hx
      obtain ⟨da, dn, dc, rfl⟩ := yah' HX.out m4
      have H4 := Lib.hid (show _ ∧ _ from ⟨m4, h4⟩)
      clear m4 h4
      go_wp2_with (first | refine u0 ?_ | (refine uS ?_; clear HX; intro w HX) | (refine tWA ?_; clear HX; (first | (have hq := b; clear hq; intro w b2 HX) | intro w b HX); simp only [Act.put, k_a, k_b, k_c]) | (refine ypc' HX sl_x4 rfl rfl rfl rfl ?_; clear HX; intro w b9 HX; simp only [Act.put, k_a, k_b, k_c]))
      obtain ⟨P5, m5, h5, hx⟩ := yco' (K := 1) (n := 2) (cs := [.slice ba bn bc, .slice da dn dc]) HX.out rfl (by omega)
      replace HX := Lib.hid hx
      clear hx
      have H5 := Lib.hid (show _ ∧ _ from ⟨m5, h5⟩)
      clear m5 h5
      refine (yb7' HX.out hd HBL.out.1 [rec, rec2] _ _ H5.out.1 (.cons (H5.out.2 _ (H4.out.2 _ H3.out.1)) (.cons (H5.out.2 _ H4.out.1) .nil)) (by have := (ybs' LG0.out).1; simp; omega) (by intro l hl; simp only [List.mem_cons, List.not_mem_nil, or_false] at hl; rcases hl with rfl | rfl; exact HR1.out.2; exact HR2.out.2)).mono ?_
      rw [ykm']
      rintro e w ⟨v6, xs6, P6, rfl, h6, -, -, hx⟩
      have hx := yc5' hx (fun r hr => hr) h6
      replace HX := Lib.hid hx
      clear hx
      have HP6 := Lib.hid (show ∀ r ∈ rs, r ∈ P6 from fun r hr => h6 _ (H5.out.2 _ (H4.out.2 _ (H3.out.2 _ (HP.out _ hr)))))
      clear h6
      have hst := yoz' HBL.out.2 (by have := (ybs' LG0.out).1; omega) HFO.out.2.1
      have hb2 := (yf5' (yf5' HBL.out.1 (by have := (ybs' LG0.out).1; omega) rec).2 (by have := (ybs' LG0.out).1; omega) rec2).2
      rw [HR1.out.1, HR2.out.1] at hst
      have HST := Lib.hid (show yxj' W l0.length l2.length rs b c l2.length (.int .i64 (0 : Int)) w from ⟨0, _, S, P6, by simp, rfl, HP6.out, hst, hb2, ⟨HBL.out.1.p.mono (by omega), by have := HBL.out.1.c; omega, HBL.out.1.known, by have := HBL.out.1.played; omega⟩, HX.out⟩)
      clear HX hst hb2 HP HBL H3 H4 H5 HP6
      go_wp2_with (first | refine u0 ?_ | (refine uS ?_; clear HX; intro w HX) | (refine tWA ?_; clear HX; (first | (have hq := b; clear hq; intro w b2 HX) | intro w b HX); simp only [Act.put, k_a, k_b, k_c]))
      go_loopg [14, 15, 16, 17] l2.length (fun k v _ _ _ wr => yxj' W l0.length l2.length rs b c k v wr)
      case atStart => exact HST.out
      case round =>
       rename World => w
       obtain ⟨i, S, T, P1, hik, rfl, hP1, hRN, hBS, hBT, hS⟩ := hrel
       have HX := Lib.hid hS
       have HP := Lib.hid hP1
       have HRN := Lib.hid (show _ ∧ _ ∧ _ from ⟨hRN, hBS, hBT⟩)
       clear hS hP1 HST hRN hBS hBT
       by_cases hlt : i < l2.length
       case neg =>
        obtain rfl : i = l2.length := by omega
        have hkeq := (yle' HRN.out.1.like.t).2.2
        have hcn := yle' HRN.out.1.like.t
        have hl2 := (ybs' LG2.out).1
        have hl02 := (ybs' LG0.out).1
        have htS := HRN.out.2.1.p.b.tree
        have htT := HRN.out.2.2.p.b.tree
        have HK := Lib.hid (show (∀ e ∈ S.p.t.l, NodeOk e.2) ∧ (∀ e ∈ T.p.t.l, NodeOk e.2) ∧ (S.p.t.l.length ≤ 100000 ∧ ∀ e ∈ S.p.t.l, e.1.length ≤ 100000) ∧ (T.p.t.l.length ≤ 100000 ∧ ∀ e ∈ T.p.t.l, e.1.length ≤ 100000) ∧ S.p.t.l.map (·.1) = T.p.t.l.map (·.1) ∧ S.p.held = [] from
         ⟨htS.ok (by omega), htT.ok (by omega), ⟨by have := htS.many; omega, fun e he => by have := htS.keys e he; omega⟩, ⟨by have := htT.many; omega, fun e he => by have := htT.keys e he; omega⟩, hkeq, HRN.out.1.held⟩)
        clear hlt hik hkeq hcn hl2 hl02 htS htT HRN
        obtain ⟨p1, c1, mk1, gs1, -, -, hS⟩ := yek' HX.out.up1
        obtain ⟨p2, c2, mk2, gs2, -, -, hS⟩ := yek' hS.up5
        replace HX := Lib.hid hS
        clear hS
        go_wp2_with (first | refine u0 ?_ | (refine uS ?_; clear HX; intro w HX) | (refine tWA ?_; clear HX; (first | (have hq := b; clear hq; intro w b2 HX) | intro w b HX); simp only [Act.put, k_a, k_b, k_c]))
        refine (yda' HX.out.up4).mono ?_
        rintro e w2 ⟨rfl, rfl⟩
        go_wp2_with (first | refine u0 ?_ | (refine uS ?_; clear HX; intro w HX) | (refine tWA ?_; clear HX; (first | (have hq := b; clear hq; intro w b2 HX) | intro w b HX); simp only [Act.put, k_a, k_b, k_c]))
        refine (yfg' HX.out.up5.up8 HK.out.1).mono ?_
        rintro e w ⟨t1, P2, rfl, hP2, hx⟩
        replace HX := Lib.hid hx
        clear hx
        go_wp2_with (first | refine u0 ?_ | (refine uS ?_; clear HX; intro w HX) | (refine tWA ?_; clear HX; (first | (have hq := b; clear hq; intro w b2 HX) | intro w b HX); simp only [Act.put, k_a, k_b, k_c]))
        refine (yff' HX.out HK.out.2.2.1.1 HK.out.2.2.1.2).mono ?_
        rintro e w ⟨vp, P3, rfl, hP3, hvp, hx⟩
        have hx := (yc9' hx.up4 (fun r hr => hP3 r (hP2 r hr))).up1
        replace HX := Lib.hid hx
        clear hx
        obtain ⟨pa, pn, pc, rfl⟩ := yah' HX.out hvp
        have HVP := Lib.hid hvp
        clear hvp hP2 hP3
        go_wp2_with (first | refine u0 ?_ | (refine uS ?_; clear HX; intro w HX) | (refine tWA ?_; clear HX; (first | (have hq := b; clear hq; intro w b2 HX) | intro w b HX); simp only [Act.put, k_a, k_b, k_c]))
        refine (yda' HX.out.up4).mono ?_
        rintro e w2 ⟨rfl, rfl⟩
        go_wp2_with (first | refine u0 ?_ | (refine uS ?_; clear HX; intro w HX) | (refine tWA ?_; clear HX; (first | (have hq := b; clear hq; intro w b2 HX) | intro w b HX); simp only [Act.put, k_a, k_b, k_c]))
        refine (yfg' HX.out HK.out.2.1).mono ?_
        rintro e w ⟨t2, P4, rfl, hP4, hx⟩
        replace HX := Lib.hid hx
        clear hx
        go_wp2_with (first | refine u0 ?_ | (refine uS ?_; clear HX; intro w HX) | (refine tWA ?_; clear HX; (first | (have hq := b; clear hq; intro w b2 HX) | intro w b HX); simp only [Act.put, k_a, k_b, k_c]))
        refine (yff' HX.out HK.out.2.2.2.1.1 HK.out.2.2.2.1.2).mono ?_
        rintro e w ⟨vq, P5, rfl, hP5, hvq, hx⟩
        rw [← HK.out.2.2.2.2.1] at hvq
        replace HX := Lib.hid hx
        clear hx
        obtain ⟨qa, qn, qc, rfl⟩ := yah' HX.out hvq
        have HVQ := Lib.hid (show _ ∧ _ from ⟨hP5 _ (hP4 _ HVP.out), hvq⟩)
        clear hvq hP4 hP5 HVP
        obtain ⟨L, hL⟩ : ∃ L, S.p.t.l.map (·.1) = L := ⟨_, rfl⟩
        rw [hL] at HVQ
        obtain ⟨E1, hE1⟩ := HX.out.poolGet HVQ.out.1
        obtain ⟨_, _, _, ee, hl1, _, _, hne1⟩ := ReadRow.some hE1
        simp only [Value.slice.injEq] at ee
        obtain ⟨rfl, rfl, rfl⟩ := ee
        obtain ⟨E2, hE2⟩ := HX.out.poolGet HVQ.out.2
        obtain ⟨_, _, _, ee, hl2, _, _, hne2⟩ := ReadRow.some hE2
        simp only [Value.slice.injEq] at ee
        obtain ⟨rfl, rfl, rfl⟩ := ee
        rw [List.length_map, Nat.mul_one] at hl1 hl2
        subst hl1
        subst hl2
        have HNE := Lib.hid (show _ ∧ _ from ⟨hne1, hne2⟩)
        have q4 : ((L.length : Int) != (L.length : Int)) = false := by simp
        have HLN := Lib.hid (show L.length = S.p.t.l.length by rw [← hL, List.length_map])
        clear hE1 hE2 hne1 hne2 hL
        go_wp2_with (first | refine u0 ?_ | (refine uS ?_; clear HX; intro w HX) | (refine tWA ?_; clear HX; (first | (have hq := b; clear hq; intro w b2 HX) | intro w b HX); simp only [Act.put, k_a, k_b, k_c]))
        refine (yda' HX.out.up8).mono ?_
        rintro e w2 ⟨rfl, rfl⟩
        go_wp2_with (first | refine u0 ?_ | (refine uS ?_; clear HX; intro w HX) | (refine tWA ?_; clear HX; (first | (have hq := b; clear hq; intro w b2 HX) | intro w b HX); simp only [Act.put, k_a, k_b, k_c]))
        refine (yrm' HX.out.up4).mono ?_
        rw [HK.out.2.2.2.2.2]
        rintro e w ⟨rfl, hx⟩
        replace HX := Lib.hid hx
        clear hx
        go_wp2_with (first | refine u0 ?_ | (refine uS ?_; clear HX; intro w HX) | (refine tWA ?_; clear HX; (first | (have hq := b; clear hq; intro w b2 HX) | intro w b HX); simp only [Act.put, k_a, k_b, k_c]))
        have HST := Lib.hid (show ypl' W L.length [yab' W P5] L.length (.int .i64 (0 : Int)) w from ⟨0, by simp, rfl, (show Sep W w ([yab' W P5] ++ _) [] from HX.out.up1).take⟩)
        clear HX
        go_loopg [20] L.length (fun k v wr => ypl' W L.length [yab' W P5] k v wr)
        case atStart => exact HST.out
        case round =>
         rename World => w
         obtain ⟨i, hik, rfl, hS⟩ := hrel
         have HX := Lib.hid hS
         clear hS HST
         by_cases hlt : i < L.length
         case neg =>
          obtain rfl : i = L.length := by omega
          clear hlt hik
          go_wp2_with (first | refine u0 ?_ | (refine uS ?_; clear HX; intro w HX) | (refine tWA ?_; clear HX; (first | (have hq := b; clear hq; intro w b2 HX) | intro w b HX); simp only [Act.put, k_a, k_b, k_c]))
          go_ret
          exact ⟨rfl, HX.out.below⟩
         case pos =>
          obtain ⟨g1, o1, rfl⟩ := HNE.out.1 (by intro e; rw [List.map_eq_nil_iff] at e; rw [e] at hlt; simp at hlt)
          obtain ⟨g2, o2, rfl⟩ := HNE.out.2 (by intro e; rw [List.map_eq_nil_iff] at e; rw [e] at hlt; simp at hlt)
          have q0 : decide (i < L.length) = true := decide_eq_true hlt
          have q9 : (i < L.length) = True := eq_true hlt
          have q8 : i ≤ 100000 := by have := HK.out.2.2.1.1; have := HLN.out; omega
          obtain ⟨s, hs⟩ : ∃ s, sv L[i] = .string s := ⟨_, rfl⟩
          go_upto_region 29 with (first | refine u0 ?_ | (refine uS ?_; clear HX; intro w HX) | (refine tWA ?_; clear HX; (first | (have hq := b; clear hq; intro w b2 HX) | intro w b HX); simp only [Act.put, k_a, k_b, k_c]))
          refine yaq' (fun W => W = w.drew) 9 (by kernel_rfl) ?_
          replace HX := Lib.hid HX.out.drew
          generalize w.drew = w at HX ⊢
          obtain ⟨E1, hE1⟩ := HX.out.poolGet HVQ.out.1
          obtain ⟨E2, hE2⟩ := HX.out.poolGet HVQ.out.2
          have hl := yb5' (P := Tryz.prog) (ty := 9) (i := i) (v := .string s) hE1 (by kernel_rfl) (by rw [List.getElem?_map, List.getElem?_eq_getElem hlt]; exact congrArg some hs)
          have hl2 := yb5' (P := Tryz.prog) (ty := 9) (i := i) (v := .string s) hE2 (by kernel_rfl) (by rw [List.getElem?_map, List.getElem?_eq_getElem hlt]; exact congrArg some hs)
          clear hE1 hE2 hs
          refine rT [(0, false), (1, false), (2, false), (3, true), (4, false), (5, false), (6, false), (7, true), (8, false)] 0 ?_
          apply Exists.intro; refine ⟨?_, rfl, ?_⟩
          ·iterate 9 (first | refine xD ?_ | ((first | apply ya5' | apply yay'); (· (simp only [k_i, k_j, k_k]; try rfl)); (· rfl); (· (intros; go_simp; (try simp only [q9, ↓reduceIte, and_self, Int.toNat_natCast]); try with_reducible rfl)); (· (simp only [Act.put, k_a, k_b, k_c, k_d, k_e, k_f, k_g, k_h, NodeS.cells, OpS.cells, ResS.cells]; try rfl))))
           exact rfl
          clear hl hl2
          refine yaf' (by kernel_rfl) ?_ _
          go_wp2_with (first | refine u0 ?_ | (refine uS ?_; clear HX; intro w HX) | (refine tWA ?_; clear HX; (first | (have hq := b; clear hq; intro w b2 HX) | intro w b HX); simp only [Act.put, k_a, k_b, k_c]))
          go_roundg (L.length - (i + 1))
          case rel => exact ⟨i + 1, by omega, by go_num, HX.out⟩
          case measure => omega
       case pos =>
        obtain ⟨E, hE⟩ := HX.out.poolGet (HP.out _ HRS.out.2.2.2.2)
        obtain ⟨_, _, _, ee, _, _, _, hne⟩ := ReadRow.some hE
        simp only [Value.slice.injEq] at ee
        obtain ⟨rfl, rfl, rfl⟩ := ee
        obtain ⟨g, off, rfl⟩ := hne (by intro e; have := congrArg List.length e; rw [yau' yag'] at this; simp only [List.length_nil] at this; omega)
        have hl := ycs' (P := Tryz.prog) (ty := 89) (i := i) hE yag' sn_op hlt
        have hfo := HFO.out.2.2 _ (List.getElem_mem hlt)
        have hpa := (ybs' LG2.out).2 _ (List.getElem_mem hlt)
        have hlc := (rfl : l2[i] = l2[i])
        obtain ⟨⟨kind, path, data, ver, flags⟩, ho⟩ : ∃ o, l2[i] = o := ⟨_, rfl⟩
        rw [ho] at hl hfo hpa hlc
        have HF := Lib.hid (show _ ∧ _ ∧ _ from ⟨hfo, hpa, hlc⟩)
        have q0 : decide (i < l2.length) = true := decide_eq_true hlt
        have q9 : i ≤ 20 := by have := (ybs' LG2.out).1; omega
        clear hE hne hfo hpa hlc ho
        simp only [OpS.cells] at hl
        have HQN := Lib.hid (show l0.length ≤ 20 ∧ i ≤ 20 from ⟨(ybs' LG0.out).1, q9⟩)
        go_wp2_with (first | refine u0 ?_ | (refine uS ?_; clear HX; intro w HX) | (refine tWA ?_; clear HX; (first | (have hq := b; clear hq; intro w b2 HX) | intro w b HX); simp only [Act.put, k_a, k_b, k_c]) | ((with_reducible apply yaw' hl); (· rfl); (· rfl); simp only [Act.put, k_a, k_b, k_c]))
        refine (ycg' HX.out (200 + (i : Int)) [⟨kind, path, data, ver, flags⟩] _ _ _).mono ?_
        rintro e w ⟨rfl, hx⟩
        obtain ⟨P2, m2, h2, hx⟩ := yco' (K := 5) (n := 1) (cs := [⟨kind, path, data, ver, flags⟩].flatMap OpS.cells) hx rfl (by omega)
        clear hl
        replace HX := Lib.hid hx
        clear hx
        have H2 := Lib.hid (show _ ∧ _ from ⟨m2, h2⟩)
        clear m2 h2
        unfold cmdV locC
        dsimp only
        go_wp2_with (first | refine u0 ?_ | (refine uS ?_; clear HX; intro w HX) | (refine tWA ?_; clear HX; (first | (have hq := b; clear hq; intro w b2 HX) | intro w b HX); simp only [Act.put, k_a, k_b, k_c]))
        refine (yb1' HX.out hd (locC (200 + (i : Int)) [⟨kind, path, data, ver, flags⟩]) _ _ H2.out.1 (H2.out.2 _ (HP.out _ HRS.out.1)) (yts' HF.out.2.1) (by simp [locC])).mono ?_
        obtain ⟨rec, hrec⟩ : ∃ rec, putC (locC (200 + (i : Int)) [⟨kind, path, data, ver, flags⟩]) = rec := ⟨_, rfl⟩
        have hlen := ycq' (locC (200 + (i : Int)) [⟨kind, path, data, ver, flags⟩]) (by simp [locC])
        rw [hrec] at hlen ⊢
        have HREC := Lib.hid (show _ ∧ _ from ⟨hrec, hlen⟩)
        clear hrec hlen
        rintro e w ⟨v, rfl, hx⟩
        obtain ⟨P3, m3, h3, hx⟩ := yfk' hx
        replace HX := Lib.hid hx
        clear hx
        obtain ⟨ba, bn, bc, rfl⟩ := yah' HX.out m3
        have H3 := Lib.hid (show _ ∧ _ from ⟨m3, h3⟩)
        clear m3 h3
        go_wp2_with (first | refine u0 ?_ | (refine uS ?_; clear HX; intro w HX) | (refine tWA ?_; clear HX; (first | (have hq := b; clear hq; intro w b2 HX) | intro w b HX); simp only [Act.put, k_a, k_b, k_c]))
        obtain ⟨P4, m4, h4, hx⟩ := yco' (K := 1) (n := 1) (cs := [.slice ba bn bc]) HX.out rfl (by omega)
        replace HX := Lib.hid hx
        clear hx
        have H4 := Lib.hid (show _ ∧ _ from ⟨m4, h4⟩)
        clear m4 h4
        refine (yb7' HX.out hd HRN.out.2.1 [rec] _ _ H4.out.1 (.cons (H4.out.2 _ H3.out.1) .nil) (by have := HQN.out; simp; omega) (by intro l hl; rw [List.mem_singleton] at hl; subst hl; exact HREC.out.2)).mono ?_
        rw [ycv']
        rintro e w ⟨v5, xs5, P5, rfl, h5, ol5, m5, hx⟩
        have hx := yc5' hx (fun r hr => hr) h5
        replace HX := Lib.hid hx
        clear hx
        obtain ⟨a5, n5, c5, rfl⟩ := yah' HX.out m5
        have H5 := Lib.hid (show _ ∧ _ ∧ _ from ⟨h5, ol5, m5⟩)
        clear h5 ol5 m5
        go_wp2_with (first | refine u0 ?_ | (refine uS ?_; clear HX; intro w HX) | (refine tWA ?_; clear HX; (first | (have hq := b; clear hq; intro w b2 HX) | intro w b HX); simp only [Act.put, k_a, k_b, k_c]))
        obtain ⟨P6, m6, h6, hx⟩ := yco' (K := 1) (n := 1) (cs := [.slice ba bn bc]) HX.out rfl (by omega)
        replace HX := Lib.hid hx
        clear hx
        have H6 := Lib.hid (show _ ∧ _ from ⟨m6, h6⟩)
        clear m6 h6
        refine (yb7' HX.out.up2.up1 hd HRN.out.2.2 [rec] _ _ H6.out.1 (.cons (H6.out.2 _ (H5.out.1 _ (H4.out.2 _ H3.out.1))) .nil) (by have := HQN.out; simp; omega) (by intro l hl; rw [List.mem_singleton] at hl; subst hl; exact HREC.out.2)).mono ?_
        rw [ycv']
        rintro e w ⟨v7, xs7, P7, rfl, h7, ol7, m7, hx⟩
        have hx := (yc5' hx (fun r hr => hr) h7).up2.up1
        obtain ⟨a7, n7, c7, rfl⟩ := yah' hx m7
        replace HX := Lib.hid hx
        clear hx
        have H7 := Lib.hid (show _ ∧ _ ∧ _ from ⟨h7, ol7, m7⟩)
        clear h7 ol7 m7
        have HP7 := Lib.hid (show ∀ r ∈ rs, r ∈ P7 from fun r hr => H7.out.1 _ (H6.out.2 _ (H5.out.1 _ (H4.out.2 _ (H3.out.2 _ (H2.out.2 _ (HP.out _ hr)))))))
        go_wp2_with (first | refine u0 ?_ | (refine uS ?_; clear HX; intro w HX) | (refine tWA ?_; clear HX; (first | (have hq := b; clear hq; intro w b2 HX) | intro w b HX); simp only [Act.put, k_a, k_b, k_c]))
        have hns := yre' HRN.out.1 (by omega) HF.out.1
        have hb1 := (yf5' HRN.out.2.1 (by have := HQN.out; omega) rec).2
        have hb2 := (yf5' HRN.out.2.2 (by have := HQN.out; omega) rec).2
        rw [HREC.out.1] at hns
        have HNS := Lib.hid (show _ ∧ _ ∧ _ from ⟨hns.2.2.2, hb1, hb2⟩)
        obtain ⟨n1, n2, n3, -⟩ := hns
        refine yaq' (fun W => W = w.drew) 39 (by kernel_rfl) ?_
        replace HX := Lib.hid HX.out.drew
        generalize w.drew = w at HX ⊢
        obtain ⟨gx, ox, mx, ex, hcx⟩ := yg1' HX.out (H5.out.2.1.mono (fun r hr => H7.out.1 _ (H6.out.2 _ hr))) (H7.out.1 _ (H6.out.2 _ H5.out.2.2)) (by simp)
        obtain ⟨gy, oy, my, ey, hcy⟩ := yg1' HX.out H7.out.2.1 H7.out.2.2 (by simp)
        simp only [Value.slice.injEq] at ex ey
        obtain ⟨rfl, rfl, rfl⟩ := ex
        obtain ⟨rfl, rfl, rfl⟩ := ey
        obtain ⟨-, -, -, x4, x5, -, -, ⟨xa, xm, x6⟩, -⟩ := hcx 0 (by simp)
        obtain ⟨-, -, -, y4, y5, -, -, ⟨ya, ym, y6⟩, -⟩ := hcy 0 (by simp)
        simp only [Nat.zero_mul, Nat.zero_add, List.getElem_cons_zero] at x4 x5 x6 y4 y5 y6
        rw [← n1] at y4
        rw [← n2] at y5
        rw [← n3] at y6
        clear hcx hcy n1 n2 n3
        obtain ⟨z4, hz4⟩ : ∃ z, (yav' S rec).1.reply.err = z := ⟨_, rfl⟩
        obtain ⟨z5, hz5⟩ : ∃ z, (yav' S rec).1.reply.at_ = z := ⟨_, rfl⟩
        obtain ⟨z6, hz6⟩ : ∃ z, (yav' S rec).1.reply.rs.length = z := ⟨_, rfl⟩
        rw [hz4] at x4 y4
        rw [hz5] at x5 y5
        rw [hz6] at x6 y6
        clear hz4 hz5 hz6 hb1 hb2
        refine rT [(0, false), (1, false), (2, false), (3, false), (4, true), (5, false), (6, false), (7, false), (8, false), (9, true), (10, false), (11, false), (12, false), (13, false), (14, false), (15, false), (16, true), (17, false), (18, false), (19, false), (20, false), (21, true), (22, false), (23, false), (24, false), (25, false), (26, false), (27, false), (28, false), (29, true), (30, false), (31, false), (32, false), (33, false), (34, false), (35, true), (36, false), (37, false), (38, false)] 0 ?_
        apply Exists.intro; refine ⟨?_, rfl, ?_⟩
        ·iterate 39 (first | refine xD ?_ | ((first | apply ya5' | apply yay'); (· (simp only [k_i, k_j, k_k]; try rfl)); (· rfl); (· (intros; go_simp; (try simp only [q9, ↓reduceIte, and_self, Int.toNat_natCast]); try with_reducible rfl)); (· (simp only [Act.put, k_a, k_b, k_c, k_d, k_e, k_f, k_g, k_h, NodeS.cells, OpS.cells, ResS.cells]; try rfl))))
         exact rfl
        clear x4 x5 x6 y4 y5 y6
        refine yaf' (by kernel_rfl) ?_ _
        go_wp2_with (first | refine u0 ?_ | (refine uS ?_; clear HX; intro w HX) | (refine tWA ?_; clear HX; (first | (have hq := b; clear hq; intro w b2 HX) | intro w b HX); simp only [Act.put, k_a, k_b, k_c]))
        go_roundg (l2.length - (i + 1))
        case rel => exact ⟨i + 1, _, _, P7, by omega, by go_num, HP7.out, HNS.out.1, HNS.out.2.1, HNS.out.2.2, HX.out⟩
        case measure => omega
     case pos =>
      have hsb := ym6' (l := l0) i (by omega) (by have := (ybs' LG0.out).1; omega)
      obtain ⟨E, hE⟩ := HX.out.poolGet (HP.out _ HRS.out.2.2.1)
      obtain ⟨_, _, _, ee, _, _, _, hne⟩ := ReadRow.some hE
      simp only [Value.slice.injEq] at ee
      obtain ⟨rfl, rfl, rfl⟩ := ee
      obtain ⟨g, off, rfl⟩ := hne (by intro e; have := congrArg List.length e; rw [yau' yag'] at this; simp only [List.length_nil] at this; omega)
      have hl := ycs' (P := Tryz.prog) (ty := 89) (i := i) hE yag' sn_op hlt
      have hfo := HFO.out.1 _ (List.getElem_mem hlt)
      have hpa := (ybs' LG0.out).2 _ (List.getElem_mem hlt)
      have hlc := (ygt' l0 100 (ycy' 60) hlt)
      obtain ⟨⟨kind, path, data, ver, flags⟩, ho⟩ : ∃ o, l0[i] = o := ⟨_, rfl⟩
      rw [ho] at hl hfo hpa hlc
      have HF := Lib.hid (show _ ∧ _ ∧ _ from ⟨hfo, hpa, hlc⟩)
      have q0 : decide (i < l0.length) = true := decide_eq_true hlt
      have q9 : i ≤ 20 := by have := (ybs' LG0.out).1; omega
      clear hE hne hfo hpa hlc ho
      simp only [OpS.cells] at hl
      obtain ⟨S, hSS⟩ : ∃ S, locs 100 (l0.take i) (ycy' 60) = S := ⟨_, rfl⟩
      rw [hSS] at HX hsb HF
      have HSB := Lib.hid hsb
      clear hsb hSS
      have HQN := Lib.hid (show i ≤ 20 from q9)
      go_wp2_with (first | refine u0 ?_ | (refine uS ?_; clear HX; intro w HX) | (refine tWA ?_; clear HX; (first | (have hq := b; clear hq; intro w b2 HX) | intro w b HX); simp only [Act.put, k_a, k_b, k_c]) | ((with_reducible apply yaw' hl); (· rfl); (· rfl); simp only [Act.put, k_a, k_b, k_c]))
      refine (ycg' HX.out (100 + (i : Int)) [⟨kind, path, data, ver, flags⟩] _ _ _).mono ?_
      rintro e w ⟨rfl, hx⟩
      obtain ⟨P2, m2, h2, hx⟩ := yco' (K := 5) (n := 1) (cs := [⟨kind, path, data, ver, flags⟩].flatMap OpS.cells) hx rfl (by omega)
      clear hl
      replace HX := Lib.hid hx
      clear hx
      have H2 := Lib.hid (show _ ∧ _ from ⟨m2, h2⟩)
      clear m2 h2
      unfold cmdV locC
      dsimp only
      go_wp2_with (first | refine u0 ?_ | (refine uS ?_; clear HX; intro w HX) | (refine tWA ?_; clear HX; (first | (have hq := b; clear hq; intro w b2 HX) | intro w b HX); simp only [Act.put, k_a, k_b, k_c]))
      refine (yb1' HX.out hd (locC (100 + (i : Int)) [⟨kind, path, data, ver, flags⟩]) _ _ H2.out.1 (H2.out.2 _ (HP.out _ HRS.out.1)) (yts' HF.out.2.1) (by simp [locC])).mono ?_
      obtain ⟨rec, hrec⟩ : ∃ rec, putC (locC (100 + (i : Int)) [⟨kind, path, data, ver, flags⟩]) = rec := ⟨_, rfl⟩
      have hlen := ycq' (locC (100 + (i : Int)) [⟨kind, path, data, ver, flags⟩]) (by simp [locC])
      rw [hrec] at hlen ⊢
      have HREC := Lib.hid (show _ ∧ _ from ⟨hrec, hlen⟩)
      clear hrec hlen
      rintro e w ⟨v, rfl, hx⟩
      obtain ⟨P3, m3, h3, hx⟩ := yfk' hx
      replace HX := Lib.hid hx
      clear hx
      obtain ⟨ba, bn, bc, rfl⟩ := yah' HX.out m3
      have H3 := Lib.hid (show _ ∧ _ from ⟨m3, h3⟩)
      clear m3 h3
      go_wp2_with (first | refine u0 ?_ | (refine uS ?_; clear HX; intro w HX) | (refine tWA ?_; clear HX; (first | (have hq := b; clear hq; intro w b2 HX) | intro w b HX); simp only [Act.put, k_a, k_b, k_c]))
      obtain ⟨P4, m4, h4, hx⟩ := yco' (K := 1) (n := 1) (cs := [.slice ba bn bc]) HX.out rfl (by omega)
      replace HX := Lib.hid hx
      clear hx
      have H4 := Lib.hid (show _ ∧ _ from ⟨m4, h4⟩)
      clear m4 h4
      refine (yb7' HX.out hd HSB.out [rec] _ _ H4.out.1 (.cons (H4.out.2 _ H3.out.1) .nil) (by have := HQN.out; simp; omega) (by intro l hl; rw [List.mem_singleton] at hl; subst hl; exact HREC.out.2)).mono ?_
      rw [ycv']
      rintro e w ⟨v5, xs5, P5, rfl, h5, ol5, m5, hx⟩
      have hx := yc5' hx (fun r hr => hr) h5
      replace HX := Lib.hid hx
      clear hx
      obtain ⟨a5, n5, c5, rfl⟩ := yah' HX.out m5
      have H5 := Lib.hid (show _ ∧ _ ∧ _ from ⟨h5, ol5, m5⟩)
      clear h5 ol5 m5
      go_wp2_with (first | refine u0 ?_ | (refine uS ?_; clear HX; intro w HX) | (refine tWA ?_; clear HX; (first | (have hq := b; clear hq; intro w b2 HX) | intro w b HX); simp only [Act.put, k_a, k_b, k_c]))
      obtain ⟨P6, m6, h6, hx⟩ := yco' (K := 1) (n := 1) (cs := [.slice ba bn bc]) HX.out rfl (by omega)
      replace HX := Lib.hid hx
      clear hx
      have H6 := Lib.hid (show _ ∧ _ from ⟨m6, h6⟩)
      clear m6 h6
      refine (yb7' HX.out.up2.up1 hd HSB.out [rec] _ _ H6.out.1 (.cons (H6.out.2 _ (H5.out.1 _ (H4.out.2 _ H3.out.1))) .nil) (by have := HQN.out; simp; omega) (by intro l hl; rw [List.mem_singleton] at hl; subst hl; exact HREC.out.2)).mono ?_
      rw [ycv']
      rintro e w ⟨v7, xs7, P7, rfl, h7, ol7, m7, hx⟩
      have hx := (yc5' hx (fun r hr => hr) h7).up2.up1
      obtain ⟨a7, n7, c7, rfl⟩ := yah' hx m7
      replace HX := Lib.hid hx
      clear hx
      have H7 := Lib.hid (show _ ∧ _ ∧ _ from ⟨h7, ol7, m7⟩)
      clear h7 ol7 m7
      have HP7 := Lib.hid (show ∀ r ∈ rs, r ∈ P7 from fun r hr => H7.out.1 _ (H6.out.2 _ (H5.out.1 _ (H4.out.2 _ (H3.out.2 _ (H2.out.2 _ (HP.out _ hr)))))))
      go_wp2_with (first | refine u0 ?_ | (refine uS ?_; clear HX; intro w HX) | (refine tWA ?_; clear HX; (first | (have hq := b; clear hq; intro w b2 HX) | intro w b HX); simp only [Act.put, k_a, k_b, k_c]))
      go_roundg (l0.length - (i + 1))
      case rel =>
       refine ⟨i + 1, P7, by omega, by go_num, HP7.out, ?_⟩
       rw [HF.out.2.2, HREC.out.1]
       exact HX.out
      case measure => omega
end
end Go.Proofs.YtcnkifbjlihaoaaGreatDoor

namespace Go.Proofs.YtcnkifbjlihaoaaGreatDoor
open Go.RowKit Go.Av
section
variable {W : World}
set_option maxRecDepth 100000 in
set_option maxHeartbeats 16000000 in
theorem shardSplit_walk (a0 : Option Addr) (len0 cap0 : Nat) (l0 : List OpS) (a1 : Option Addr) (len1 cap1 : Nat) (l1 : List OpS) (W : World) (hd : DoorN W) (h0 : IsOpsF W a0 len0 cap0 l0) (h1 : IsOpsF W a1 len1 cap1 l1) :
  Calls Tryz.prog 5 #[.slice a0 len0 cap0, .slice a1 len1 cap1] W fun e w' => e = .returned (.bool true) ∧ Below W.heap.size W w' := by
 obtain ⟨E0, r0⟩ := h0.1.row
 obtain ⟨E1, r1⟩ := h1.1.row
 obtain rfl : l0.length = len0 := h0.1.1
 obtain rfl : l1.length = len1 := h1.1.1
 have HR := Lib.hid (show _ ∧ _ from ⟨r0, r1⟩)
 have HFO := Lib.hid (show (∀ o ∈ l0, FitO o) ∧ (∀ o ∈ l1, FitO o) from ⟨h0.2, h1.2⟩)
 clear h0 h1 r0 r1
 go_enter Tryz.func5, Tryz.ntmps5
 go_wp2_with fail
 refine (yf7' hd).mono ?_
 rintro e w ⟨rfl, hu⟩
 have hx := (((Sep.start W).keep hu).poolNew.poolNil 1 |>.poolNil 5 |>.poolOld HR.out.2 |>.poolOld HR.out.1)
 clear hu
 obtain ⟨rs, hrs⟩ : ∃ rs : List PRow, [(5, .slice a0 l0.length cap0, l0.flatMap OpS.cells), (5, .slice a1 l1.length cap1, l1.flatMap OpS.cells), (5, .slice none 0 0, []), (1, .slice none 0 0, [])] = rs := ⟨_, rfl⟩
 have HRS := Lib.hid (show (1, Value.slice none 0 0, []) ∈ rs ∧ (5, Value.slice none 0 0, []) ∈ rs ∧ (5, Value.slice a0 l0.length cap0, l0.flatMap OpS.cells) ∈ rs ∧ (5, Value.slice a1 l1.length cap1, l1.flatMap OpS.cells) ∈ rs by rw [← hrs]; simp)
 rw [hrs] at hx
 clear hrs
 have HX := Lib.hid hx
 clear hx
 go_wp2_with (first | refine u0 ?_ | (refine uS ?_; clear HX; intro w HX) | (refine tWA ?_; clear HX; (first | (have hq := b; clear hq; intro w b2 HX) | intro w b HX); simp only [Act.put, k_a, k_b, k_c]))
 refine (ygv' HX.out l0 _ HRS.out.2.2.1).mono ?_
 obtain ⟨z, hz⟩ : ∃ z, ygu' l0 = z := ⟨_, rfl⟩
 rw [hz]
 rintro e w ⟨rfl, hx⟩
 replace HX := Lib.hid hx
 clear hx
 cases z with
 | true =>
  go_wp2_with (first | refine u0 ?_ | (refine uS ?_; clear HX; intro w HX) | (refine tWA ?_; clear HX; (first | (have hq := b; clear hq; intro w b2 HX) | intro w b HX); simp only [Act.put, k_a, k_b, k_c]))
  go_ret
  exact ⟨rfl, HX.out.below⟩
 | false =>
  have LG0 := Lib.hid hz
  clear hz
  go_wp2_with (first | refine u0 ?_ | (refine uS ?_; clear HX; intro w HX) | (refine tWA ?_; clear HX; (first | (have hq := b; clear hq; intro w b2 HX) | intro w b HX); simp only [Act.put, k_a, k_b, k_c]))
  refine (ygv' HX.out l1 _ HRS.out.2.2.2).mono ?_
  obtain ⟨z, hz⟩ : ∃ z, ygu' l1 = z := ⟨_, rfl⟩
  rw [hz]
  rintro e w ⟨rfl, hx⟩
  replace HX := Lib.hid hx
  clear hx
  cases z with
  | true =>
   go_wp2_with (first | refine u0 ?_ | (refine uS ?_; clear HX; intro w HX) | (refine tWA ?_; clear HX; (first | (have hq := b; clear hq; intro w b2 HX) | intro w b HX); simp only [Act.put, k_a, k_b, k_c]))
   go_ret
   exact ⟨rfl, HX.out.below⟩
  | false =>
   have LG1 := Lib.hid hz
   clear hz
   go_wp2_with (first | refine u0 ?_ | (refine uS ?_; clear HX; intro w HX) | (refine tWA ?_; clear HX; (first | (have hq := b; clear hq; intro w b2 HX) | intro w b HX); simp only [Act.put, k_a, k_b, k_c]))
   refine (yew' HX.out 60 (by omega) (by omega)).mono ?_
   rintro e w ⟨b, rfl, hx⟩
   replace HX := Lib.hid hx
   clear hx
   go_wp2_with (first | refine u0 ?_ | (refine uS ?_; clear HX; intro w HX) | (refine tWA ?_; clear HX; (first | (have hq := b; clear hq; intro w b2 HX) | intro w b HX); simp only [Act.put, k_a, k_b, k_c]))
   refine (yew' HX.out 60 (by omega) (by omega)).mono ?_
   rintro e w ⟨c, rfl, hx⟩
   replace HX := Lib.hid hx
   clear hx
   go_wp2_with (first | refine u0 ?_ | (refine uS ?_; clear HX; intro w HX) | (refine tWA ?_; clear HX; (first | (have hq := b; clear hq; intro w b2 HX) | intro w b HX); simp only [Act.put, k_a, k_b, k_c]))
   have HST := Lib.hid (show yvc' W l0 rs b c l0.length (.int .i64 (0 : Int)) w from ⟨0, rs, by simp, rfl, fun r hr => hr, by rw [k_g]; exact HX.out.pm 3 [0, 2, 1] rfl rfl⟩)
   clear HX
   go_loopg [9, 10] l0.length (fun k v _ wr => yvc' W l0 rs b c k v wr)
   case atStart => exact HST.out
   case round =>
    rename World => w
    obtain ⟨i, P1, hik, rfl, hP1, hS⟩ := hrel
    have HX := Lib.hid hS
    have HP := Lib.hid hP1
    clear hS hP1 HST
    by_cases hlt : i < l0.length
    case neg =>
     obtain rfl : i = l0.length := by omega
     have hn20 := (ybs' LG0.out).1
     have hB := ym6' (l := l0) l0.length (Nat.le_refl _) (by omega)
     have hL := ylr' (l := l0) HFO.out.1 (by omega) (ytc' 60) l0.length (Nat.le_refl _)
     obtain ⟨S, hSS⟩ : ∃ S, locs 100 (l0.take l0.length) (ycy' 60) = S := ⟨_, rfl⟩
     rw [hSS] at HX hB hL
     have HBL := Lib.hid (show _ ∧ _ ∧ l0.length ≤ 20 from ⟨hB, hL, hn20⟩)
     clear hlt hik hB hL hSS hn20
     go_wp2_with (first | refine u0 ?_ | (refine uS ?_; clear HX; intro w HX) | (refine tWA ?_; clear HX; (first | (have hq := b; clear hq; intro w b2 HX) | intro w b HX); simp only [Act.put, k_a, k_b, k_c]))
     refine (ycg' HX.out 1 l1 _ _ _).mono ?_
     rintro e w ⟨rfl, hx⟩
     replace HX := Lib.hid hx
     clear hx
     unfold cmdV locC
     dsimp only
     go_wp2_with (first | refine u0 ?_ | (refine uS ?_; clear HX; intro w HX) | (refine tWA ?_; clear HX; (first | (have hq := b; clear hq; intro w b2 HX) | intro w b HX); simp only [Act.put, k_a, k_b, k_c]))
     refine (yb1' HX.out hd (locC 1 l1) _ _ (HP.out _ HRS.out.2.2.2) (HP.out _ HRS.out.1) (ylw' LG1.out) (by simp [locC])).mono ?_
     obtain ⟨rec, hrec⟩ : ∃ rec, putC (locC 1 l1) = rec := ⟨_, rfl⟩
     have hlen := ycq' (locC 1 l1) (by simp [locC, preC, decC])
     rw [hrec] at hlen ⊢
     have HR1 := Lib.hid (show _ ∧ _ from ⟨hrec, hlen⟩)
     clear hrec hlen
     rintro e w ⟨v, rfl, hx⟩
     obtain ⟨P2, m2, h2, hx⟩ := yfk' hx
     replace HX := Lib.hid hx
     clear hx
     obtain ⟨ba, bn, bc, rfl⟩ := yah' HX.out m2
     go_wp2_with (first | refine u0 ?_ | (refine uS ?_; clear HX; intro w HX) | (refine tWA ?_; clear HX; (first | (have hq := b; clear hq; intro w b2 HX) | intro w b HX); simp only [Act.put, k_a, k_b, k_c]))
     obtain ⟨P3, m3, h3, hx⟩ := yco' (K := 1) (n := 1) (cs := [.slice ba bn bc]) HX.out rfl (by omega)
     replace HX := Lib.hid hx
     clear hx
     refine (yb7' HX.out hd HBL.out.1 [rec] _ _ m3 (.cons (h3 _ m2) .nil) (by have := HBL.out.2.2; simp; omega) (by intro l hl; rw [List.mem_singleton] at hl; subst hl; exact HR1.out.2)).mono ?_
     rw [ycv']
     rintro e w ⟨v5, xs5, P5, rfl, h5, ol5, m5, hx⟩
     have hx := yc5' hx (fun r hr => hr) h5
     replace HX := Lib.hid hx
     clear hx
     obtain ⟨a5, n5, c5, rfl⟩ := yah' HX.out m5
     have H5 := Lib.hid (show _ ∧ _ ∧ (∀ r ∈ rs, r ∈ P5) from ⟨ol5, m5, fun r hr => h5 _ (h3 _ (h2 _ (HP.out _ hr)))⟩)
     clear h2 h3 h5 m2 m3 m5 ol5 HP
     go_wp2_with (first | refine u0 ?_ | (refine uS ?_; clear HX; intro w HX) | (refine tWA ?_; clear HX; (first | (have hq := b; clear hq; intro w b2 HX) | intro w b HX); simp only [Act.put, k_a, k_b, k_c]))
     refine (ycg' HX.out 1 l1 _ _ _).mono ?_
     rintro e w ⟨rfl, hx⟩
     replace HX := Lib.hid hx
     clear hx
     unfold cmdV locC
     dsimp only
     go_wp2_with (first | refine u0 ?_ | (refine uS ?_; clear HX; intro w HX) | (refine tWA ?_; clear HX; (first | (have hq := b; clear hq; intro w b2 HX) | intro w b HX); simp only [Act.put, k_a, k_b, k_c]))
     refine (yb1' HX.out.up1 hd (preC 1 l1) _ _ (H5.out.2.2 _ HRS.out.2.2.2) (H5.out.2.2 _ HRS.out.1) (ylw' LG1.out) (by simp [preC])).mono ?_
     obtain ⟨rec2, hrec⟩ : ∃ rec, putC (preC 1 l1) = rec := ⟨_, rfl⟩
     have hlen := ycq' (preC 1 l1) (by simp [locC, preC, decC])
     rw [hrec] at hlen ⊢
     have HR2 := Lib.hid (show _ ∧ _ from ⟨hrec, hlen⟩)
     clear hrec hlen
     rintro e w ⟨v, rfl, hx⟩
     obtain ⟨P6, m6, h6, hx⟩ := yfk' hx.cut2
     replace HX := Lib.hid hx
     clear hx
     obtain ⟨da, dn, dc, rfl⟩ := yah' HX.out m6
     have H6 := Lib.hid (show _ ∧ _ from ⟨m6, h6⟩)
     clear m6 h6
     go_wp2_with (first | refine u0 ?_ | (refine uS ?_; clear HX; intro w HX) | (refine tWA ?_; clear HX; (first | (have hq := b; clear hq; intro w b2 HX) | intro w b HX); simp only [Act.put, k_a, k_b, k_c]))
     refine (yb1' HX.out hd (decC 1 true) _ _ (H6.out.2 _ (H5.out.2.2 _ HRS.out.2.1)) (H6.out.2 _ (H5.out.2.2 _ HRS.out.1)) (by intro o ho; cases ho) (by simp [decC])).mono ?_
     obtain ⟨rec3, hrec⟩ : ∃ rec, putC (decC 1 true) = rec := ⟨_, rfl⟩
     have hlen := ycq' (decC 1 true) (by simp [locC, preC, decC])
     rw [hrec] at hlen ⊢
     have HR3 := Lib.hid (show _ ∧ _ from ⟨hrec, hlen⟩)
     clear hrec hlen
     rintro e w ⟨v, rfl, hx⟩
     obtain ⟨P7, m7, h7, hx⟩ := yfk' hx
     replace HX := Lib.hid hx
     clear hx
     obtain ⟨ea, en, ec, rfl⟩ := yah' HX.out m7
     have H7 := Lib.hid (show _ ∧ _ from ⟨m7, h7⟩)
     clear m7 h7
     go_wp2_with (first | refine u0 ?_ | (refine uS ?_; clear HX; intro w HX) | (refine tWA ?_; clear HX; (first | (have hq := b; clear hq; intro w b2 HX) | intro w b HX); simp only [Act.put, k_a, k_b, k_c]) | (refine ypc' HX sl_x4 rfl rfl rfl rfl ?_; clear HX; intro w b9 HX; simp only [Act.put, k_a, k_b, k_c]))
     obtain ⟨P8, m8, h8, hx⟩ := yco' (K := 1) (n := 2) (cs := [.slice da dn dc, .slice ea en ec]) HX.out rfl (by omega)
     replace HX := Lib.hid hx
     clear hx
     refine (yb7' HX.out.up2.up1 hd HBL.out.1 [rec2, rec3] _ _ m8 (.cons (h8 _ (H7.out.2 _ H6.out.1)) (.cons (h8 _ H7.out.1) .nil)) (by have := HBL.out.2.2; simp; omega) (by intro l hl; simp only [List.mem_cons, List.not_mem_nil, or_false] at hl; rcases hl with rfl | rfl; exact HR2.out.2; exact HR3.out.2)).mono ?_
     rw [ykm']
     rintro e w ⟨v9, xs9, P9, rfl, h9, ol9, m9, hx⟩
     have hx := (yc5' hx (fun r hr => hr) h9).up2.up1
     replace HX := Lib.hid hx
     clear hx
     obtain ⟨a9, n9, c9, rfl⟩ := yah' HX.out m9
     have hq : ∀ r ∈ P5, r ∈ P9 := fun r hr => h9 _ (h8 _ (H7.out.2 _ (H6.out.2 _ hr)))
     have H9 := Lib.hid (show _ ∧ _ ∧ _ ∧ _ from ⟨H5.out.1.mono hq, hq _ H5.out.2.1, ol9, m9⟩)
     clear h8 h9 m8 m9 ol9 hq H5 H6 H7
     obtain ⟨x, hx0⟩ : ∃ x, yav' S rec = x := ⟨_, rfl⟩
     obtain ⟨y1, hy1⟩ : ∃ x, yav' S rec2 = x := ⟨_, rfl⟩
     obtain ⟨y2, hy2⟩ : ∃ x, yav' y1.2 rec3 = x := ⟨_, rfl⟩
     have hbx := (yf5' HBL.out.1 (by have := HBL.out.2.2; omega) rec).2
     have hby := (yf5' (yf5' HBL.out.1 (by have := HBL.out.2.2; omega) rec2).2 (by have := HBL.out.2.2; omega) rec3).2
     have hsp := yuj' (x := x) (y1 := y1) (y2 := y2) HBL.out.2.1 (by have := HBL.out.2.2; omega) HFO.out.2 (by rw [HR1.out.1]; exact hx0) (by rw [HR2.out.1]; exact hy1) (by rw [HR3.out.1]; exact hy2)
     rw [hx0] at hbx HX H9
     rw [hy1, hy2] at hby HX H9
     have HSP := Lib.hid (show _ ∧ _ ∧ _ from ⟨hsp, hbx, hby⟩)
     clear hx0 hy1 hy2 hbx hby hsp HR1 HR2 HR3
     obtain ⟨gx, ox, mx, ex, -⟩ := yg1' HX.out H9.out.1 H9.out.2.1 (by simp)
     obtain ⟨gy, oy, my, ey, -⟩ := yg1' HX.out H9.out.2.2.1 H9.out.2.2.2 (by simp)
     simp only [Value.slice.injEq, List.length_cons, List.length_nil] at ex ey
     obtain ⟨rfl, rfl, rfl⟩ := ex
     obtain ⟨rfl, rfl, rfl⟩ := ey
     go_upto_region 19 with (first | refine u0 ?_ | (refine uS ?_; clear HX; intro w HX) | (refine tWA ?_; clear HX; (first | (have hq := b; clear hq; intro w b2 HX) | intro w b HX); simp only [Act.put, k_a, k_b, k_c]))
     have hk0 := HSP.out.1
     by_cases hk : x.1.kind = 0
     case pos =>
      have hyk := hk0.1 hk
      obtain ⟨g2, o2, m2, ex, hcx⟩ := yg1' HX.out H9.out.1 H9.out.2.1 (by simp)
      obtain ⟨g3, o3, m3, ey, hcy⟩ := yg1' HX.out H9.out.2.2.1 H9.out.2.2.2 (by simp)
      simp only [Value.slice.injEq, Option.some.injEq, Addr.mk.injEq] at ex ey
      obtain ⟨⟨rfl, rfl, -⟩, -, rfl⟩ := ex
      obtain ⟨⟨rfl, rfl, -⟩, -, rfl⟩ := ey
      obtain ⟨x0, -⟩ := hcx 0 (by simp)
      obtain ⟨y0, -⟩ := hcy 0 (by simp)
      simp only [Nat.zero_mul, Nat.add_zero, List.getElem_cons_zero] at x0 y0
      rw [hk] at x0
      rw [hyk] at y0
      clear hcx hcy hk hyk hk0
      go_wp2_with (first | refine u0 ?_ | (refine uS ?_; clear HX; intro w HX) | (refine tWA ?_; clear HX; (first | (have hq := b; clear hq; intro w b2 HX) | intro w b HX); simp only [Act.put, k_a, k_b, k_c]))
      go_ret
      exact ⟨rfl, HX.out.below⟩
     case neg =>
      obtain ⟨s1, s2, s3, s4⟩ := hk0.2 hk
      obtain ⟨kx, hkx⟩ : ∃ z, x.1.kind = z := ⟨_, rfl⟩
      obtain ⟨z4, hz4⟩ : ∃ z, x.1.reply.err = z := ⟨_, rfl⟩
      obtain ⟨z5, hz5⟩ : ∃ z, x.1.reply.at_ = z := ⟨_, rfl⟩
      obtain ⟨z6, hz6⟩ : ∃ z, y2.1.rs.length = z := ⟨_, rfl⟩
      obtain ⟨z8, hz8⟩ : ∃ z, y1.1.at_ = z := ⟨_, rfl⟩
      rw [hkx] at hk
      rw [hz4] at s1 s2 s3
      rw [hz8, hz5] at s2
      rw [hz6] at s3
      have HZ := Lib.hid (show _ ∧ _ ∧ _ ∧ _ ∧ _ ∧ _ ∧ _ from ⟨hkx, hz4, hz5, hz6, hz8, s1, s4⟩)
      have q0 : (kx == 0) = false := by rw [beq_eq_false_iff_ne]; exact hk
      have HCEL := Lib.hid (show ∀ (PP : List PRow) (Ts : List Thing) (V : World), (∀ r ∈ P9, r ∈ PP) → Sep W V (yab' W PP :: Ts) [] → (V.cell? ⟨gx, ox, none⟩ = some (.int .i64 kx) ∧ V.cell? ⟨gx, ox + 4, none⟩ = some (.int .i64 z4) ∧ V.cell? ⟨gx, ox + 5, none⟩ = some (.int .i64 z5)) ∧ V.cell? ⟨gy, oy + 3, none⟩ = V.cell? ⟨gy, oy + 3, none⟩ ∧ V.cell? ⟨gy, oy + 7, none⟩ = some (.int .i64 z4) ∧ V.cell? ⟨gy, oy + 8, none⟩ = some (.int .i64 z8) ∧ ∃ a m, V.cell? ⟨gy, oy + (11 + 9), none⟩ = some (.slice a z6 m) from by
       intro PP Ts V hPP hV
       obtain ⟨g2, o2, m2, ex, hcx⟩ := yg1' hV (H9.out.1.mono hPP) (hPP _ H9.out.2.1) (by simp)
       obtain ⟨g3, o3, m3, ey, hcy⟩ := yg1' hV (H9.out.2.2.1.mono hPP) (hPP _ H9.out.2.2.2) (by simp)
       simp only [Value.slice.injEq, Option.some.injEq, Addr.mk.injEq] at ex ey
       obtain ⟨⟨rfl, rfl, -⟩, -, rfl⟩ := ex
       obtain ⟨⟨rfl, rfl, -⟩, -, rfl⟩ := ey
       obtain ⟨x0, -, -, x4, x5, -⟩ := hcx 0 (by simp)
       obtain ⟨-, -, -, -, -, y7, y8, -, -⟩ := hcy 0 (by simp)
       obtain ⟨-, -, -, -, -, -, -, -, y20⟩ := hcy 1 (by simp)
       simp only [Nat.zero_mul, Nat.zero_add, Nat.one_mul, Nat.add_zero, List.getElem_cons_zero, List.getElem_cons_succ] at x0 x4 x5 y7 y8 y20
       obtain ⟨e1, e2, e3, e4, e5, e6, -⟩ := HZ.out
       rw [e1] at x0
       rw [e2] at x4
       rw [e3] at x5
       rw [e6] at y7
       rw [e5] at y8
       rw [e4] at y20
       exact ⟨⟨x0, x4, x5⟩, rfl, y7, y8, y20⟩)
      clear hkx hz4 hz5 hz6 hz8 s1 s4 hk0 hk
      obtain ⟨⟨x0, -, -⟩, -⟩ := HCEL.out _ _ _ (fun r hr => hr) HX.out
      go_upto_region 21 with (first | refine u0 ?_ | (refine uS ?_; clear HX; intro w HX) | (refine tWA ?_; clear HX; (first | (have hq := b; clear hq; intro w b2 HX) | intro w b HX); simp only [Act.put, k_a, k_b, k_c]))
      clear x0
      by_cases hz : z4 = 0
      case' pos =>
       subst hz
       have h6 := s3 rfl
       subst h6
       have q6 : ((l1.length : Int) != (l1.length : Int)) = false := by simp
       clear s2 s3
      case' neg =>
       have h5 := s2 hz
       subst h5
       have q6 : (z4 == 0) = false := by rw [beq_eq_false_iff_ne]; exact hz
       have q7 : (z4 != 0) = true := by rw [bne_iff_ne]; exact hz
       clear s2 s3 hz
      all_goals
       refine yaq' (fun W => W = w.drew) 30 (by kernel_rfl) ?_
       replace HX := Lib.hid HX.out.drew
       generalize w.drew = w at HX ⊢
       obtain ⟨⟨x0, x4, x5⟩, -, y7, y8, ya, ym, y20⟩ := HCEL.out _ _ _ (fun r hr => hr) HX.out
       refine rT [(0, false), (1, false), (2, false), (3, true), (4, false), (5, false), (6, false), (7, false), (8, true), (9, false), (10, false), (11, false), (12, false), (13, false), (14, false), (15, true), (16, false), (17, false), (18, false), (19, false), (20, false), (21, true), (22, false), (23, false), (24, false), (25, false), (26, true), (27, false), (28, false), (29, false)] 0 ?_
       apply Exists.intro; refine ⟨?_, rfl, ?_⟩
       ·iterate 30 (refine xD ?_)
        exact rfl
       clear x0 x4 x5 y7 y8 y20
       refine yaf' (by kernel_rfl) ?_ _
       have HK := Lib.hid (show (∀ e ∈ x.2.p.t.l, NodeOk e.2) ∧ (∀ e ∈ y2.2.p.t.l, NodeOk e.2) ∧ (x.2.p.t.l.length ≤ 100000 ∧ ∀ e ∈ x.2.p.t.l, e.1.length ≤ 100000) ∧ (y2.2.p.t.l.length ≤ 100000 ∧ ∀ e ∈ y2.2.p.t.l, e.1.length ≤ 100000) ∧ x.2.p.t.l.map (·.1) = y2.2.p.t.l.map (·.1) from by
        have hn20 := HBL.out.2.2
        have htS := HSP.out.2.1.p.b.tree
        have htT := HSP.out.2.2.p.b.tree
        exact ⟨htS.ok (by omega), htT.ok (by omega), ⟨by have := htS.many; omega, fun e he => by have := htS.keys e he; omega⟩, ⟨by have := htT.many; omega, fun e he => by have := htT.keys e he; omega⟩, by rw [HZ.out.2.2.2.2.2.2]⟩)
       obtain ⟨p1, c1, mk1, gs1, -, -, hS⟩ := yek' HX.out.up1
       obtain ⟨p2, c2, mk2, gs2, -, -, hS⟩ := yek' hS.up5
       replace HX := Lib.hid hS
       clear hS
       go_wp2_with (first | refine u0 ?_ | (refine uS ?_; clear HX; intro w HX) | (refine tWA ?_; clear HX; (first | (have hq := b; clear hq; intro w b2 HX) | intro w b HX); simp only [Act.put, k_a, k_b, k_c]))
       refine (yda' HX.out.up4).mono ?_
       rintro e w2 ⟨rfl, rfl⟩
       go_wp2_with (first | refine u0 ?_ | (refine uS ?_; clear HX; intro w HX) | (refine tWA ?_; clear HX; (first | (have hq := b; clear hq; intro w b2 HX) | intro w b HX); simp only [Act.put, k_a, k_b, k_c]))
       refine (yfg' HX.out.up5.up8 HK.out.1).mono ?_
       rintro e w ⟨t1, P2, rfl, hP2, hx⟩
       replace HX := Lib.hid hx
       clear hx
       go_wp2_with (first | refine u0 ?_ | (refine uS ?_; clear HX; intro w HX) | (refine tWA ?_; clear HX; (first | (have hq := b; clear hq; intro w b2 HX) | intro w b HX); simp only [Act.put, k_a, k_b, k_c]))
       refine (yff' HX.out HK.out.2.2.1.1 HK.out.2.2.1.2).mono ?_
       rintro e w ⟨vp, P3, rfl, hP3, hvp, hx⟩
       have hx := (yc9' hx.up4 (fun r hr => hP3 r (hP2 r hr))).up1
       replace HX := Lib.hid hx
       clear hx
       obtain ⟨pa, pn, pc, rfl⟩ := yah' HX.out hvp
       have HVP := Lib.hid (show _ ∧ (∀ r ∈ P9, r ∈ P3) from ⟨hvp, fun r hr => hP3 r (hP2 r hr)⟩)
       clear hvp hP2 hP3
       go_wp2_with (first | refine u0 ?_ | (refine uS ?_; clear HX; intro w HX) | (refine tWA ?_; clear HX; (first | (have hq := b; clear hq; intro w b2 HX) | intro w b HX); simp only [Act.put, k_a, k_b, k_c]))
       refine (yda' HX.out.up4).mono ?_
       rintro e w2 ⟨rfl, rfl⟩
       go_wp2_with (first | refine u0 ?_ | (refine uS ?_; clear HX; intro w HX) | (refine tWA ?_; clear HX; (first | (have hq := b; clear hq; intro w b2 HX) | intro w b HX); simp only [Act.put, k_a, k_b, k_c]))
       refine (yfg' HX.out HK.out.2.1).mono ?_
       rintro e w ⟨t2, P4, rfl, hP4, hx⟩
       replace HX := Lib.hid hx
       clear hx
       go_wp2_with (first | refine u0 ?_ | (refine uS ?_; clear HX; intro w HX) | (refine tWA ?_; clear HX; (first | (have hq := b; clear hq; intro w b2 HX) | intro w b HX); simp only [Act.put, k_a, k_b, k_c]))
       refine (yff' HX.out HK.out.2.2.2.1.1 HK.out.2.2.2.1.2).mono ?_
       rintro e w ⟨vq, P5, rfl, hP5, hvq, hx⟩
       rw [← HK.out.2.2.2.2] at hvq
       replace HX := Lib.hid hx
       clear hx
       obtain ⟨qa, qn, qc, rfl⟩ := yah' HX.out hvq
       have HVQ := Lib.hid (show _ ∧ _ from ⟨hP5 _ (hP4 _ HVP.out.1), hvq⟩)
       have HP5 := Lib.hid (show ∀ r ∈ P9, r ∈ P5 from fun r hr => hP5 _ (hP4 _ (HVP.out.2 r hr)))
       clear hvq hP4 hP5 HVP
       obtain ⟨L, hL⟩ : ∃ L, x.2.p.t.l.map (·.1) = L := ⟨_, rfl⟩
       rw [hL] at HVQ
       obtain ⟨E1, hE1⟩ := HX.out.poolGet HVQ.out.1
       obtain ⟨_, _, _, ee, hl1, _, _, hne1⟩ := ReadRow.some hE1
       simp only [Value.slice.injEq] at ee
       obtain ⟨rfl, rfl, rfl⟩ := ee
       obtain ⟨E2, hE2⟩ := HX.out.poolGet HVQ.out.2
       obtain ⟨_, _, _, ee, hl2, _, _, hne2⟩ := ReadRow.some hE2
       simp only [Value.slice.injEq] at ee
       obtain ⟨rfl, rfl, rfl⟩ := ee
       rw [List.length_map, Nat.mul_one] at hl1 hl2
       subst hl1
       subst hl2
       have HNE := Lib.hid (show _ ∧ _ from ⟨hne1, hne2⟩)
       have q4 : ((L.length : Int) != (L.length : Int)) = false := by simp
       have HLN := Lib.hid (show L.length = x.2.p.t.l.length by rw [← hL, List.length_map])
       clear hE1 hE2 hne1 hne2 hL
       obtain ⟨⟨x0, x4, x5⟩, -, y7, y8, ya, ym, y20⟩ := HCEL.out _ _ _ HP5.out HX.out
       go_wp2_with (first | refine u0 ?_ | (refine uS ?_; clear HX; intro w HX) | (refine tWA ?_; clear HX; (first | (have hq := b; clear hq; intro w b2 HX) | intro w b HX); simp only [Act.put, k_a, k_b, k_c]))
       clear x0 x4 x5 y7 y8 y20
       have HST := Lib.hid (show ypl' W L.length [yab' W P5] L.length (.int .i64 (0 : Int)) w from ⟨0, by simp, rfl, (show Sep W w ([yab' W P5] ++ _) [] from HX.out).take⟩)
       clear HX
       go_loopg [16] L.length (fun k v wr => ypl' W L.length [yab' W P5] k v wr)
       case atStart => exact HST.out
       case round =>
        rename World => w
        obtain ⟨i, hik, rfl, hS⟩ := hrel
        have HX := Lib.hid hS
        clear hS HST
        by_cases hlt : i < L.length
        case neg =>
         obtain rfl : i = L.length := by omega
         clear hlt hik
         go_wp2_with (first | refine u0 ?_ | (refine uS ?_; clear HX; intro w HX) | (refine tWA ?_; clear HX; (first | (have hq := b; clear hq; intro w b2 HX) | intro w b HX); simp only [Act.put, k_a, k_b, k_c]))
         go_ret
         exact ⟨rfl, HX.out.below⟩
        case pos =>
         obtain ⟨g1, o1, rfl⟩ := HNE.out.1 (by intro e; rw [List.map_eq_nil_iff] at e; rw [e] at hlt; simp at hlt)
         obtain ⟨g2, o2, rfl⟩ := HNE.out.2 (by intro e; rw [List.map_eq_nil_iff] at e; rw [e] at hlt; simp at hlt)
         have q0 : decide (i < L.length) = true := decide_eq_true hlt
         have q9 : (i < L.length) = True := eq_true hlt
         have q8 : i ≤ 100000 := by have := HK.out.2.2.1.1; have := HLN.out; omega
         obtain ⟨s, hs⟩ : ∃ s, sv L[i] = .string s := ⟨_, rfl⟩
         go_upto_region 29 with (first | refine u0 ?_ | (refine uS ?_; clear HX; intro w HX) | (refine tWA ?_; clear HX; (first | (have hq := b; clear hq; intro w b2 HX) | intro w b HX); simp only [Act.put, k_a, k_b, k_c]))
         refine yaq' (fun W => W = w.drew) 9 (by kernel_rfl) ?_
         replace HX := Lib.hid HX.out.drew
         generalize w.drew = w at HX ⊢
         obtain ⟨E1, hE1⟩ := HX.out.poolGet HVQ.out.1
         obtain ⟨E2, hE2⟩ := HX.out.poolGet HVQ.out.2
         have hl := yb5' (P := Tryz.prog) (ty := 9) (i := i) (v := .string s) hE1 (by kernel_rfl) (by rw [List.getElem?_map, List.getElem?_eq_getElem hlt]; exact congrArg some hs)
         have hl2 := yb5' (P := Tryz.prog) (ty := 9) (i := i) (v := .string s) hE2 (by kernel_rfl) (by rw [List.getElem?_map, List.getElem?_eq_getElem hlt]; exact congrArg some hs)
         clear hE1 hE2 hs
         refine rT [(0, false), (1, false), (2, false), (3, true), (4, false), (5, false), (6, false), (7, true), (8, false)] 0 ?_
         apply Exists.intro; refine ⟨?_, rfl, ?_⟩
         ·iterate 9 (first | refine xD ?_ | ((first | apply ya5' | apply yay'); (· (simp only [k_i, k_j, k_k]; try rfl)); (· rfl); (· (intros; go_simp; (try simp only [q9, ↓reduceIte, and_self, Int.toNat_natCast]); try with_reducible rfl)); (· (simp only [Act.put, k_a, k_b, k_c, k_d, k_e, k_f, k_g, k_h, NodeS.cells, OpS.cells, ResS.cells]; try rfl))))
          exact rfl
         clear hl hl2
         refine yaf' (by kernel_rfl) ?_ _
         go_wp2_with (first | refine u0 ?_ | (refine uS ?_; clear HX; intro w HX) | (refine tWA ?_; clear HX; (first | (have hq := b; clear hq; intro w b2 HX) | intro w b HX); simp only [Act.put, k_a, k_b, k_c]))
         go_roundg (L.length - (i + 1))
         case rel => exact ⟨i + 1, by omega, by go_num, HX.out⟩
         case measure => omega
    case pos =>
     have hsb := ym6' (l := l0) i (by omega) (by have := (ybs' LG0.out).1; omega)
     obtain ⟨E, hE⟩ := HX.out.poolGet (HP.out _ HRS.out.2.2.1)
     obtain ⟨_, _, _, ee, _, _, _, hne⟩ := ReadRow.some hE
     simp only [Value.slice.injEq] at ee
     obtain ⟨rfl, rfl, rfl⟩ := ee
     obtain ⟨g, off, rfl⟩ := hne (by intro e; have := congrArg List.length e; rw [yau' yag'] at this; simp only [List.length_nil] at this; omega)
     have hl := ycs' (P := Tryz.prog) (ty := 89) (i := i) hE yag' sn_op hlt
     have hfo := HFO.out.1 _ (List.getElem_mem hlt)
     have hpa := (ybs' LG0.out).2 _ (List.getElem_mem hlt)
     have hlc := (ygt' l0 100 (ycy' 60) hlt)
     obtain ⟨⟨kind, path, data, ver, flags⟩, ho⟩ : ∃ o, l0[i] = o := ⟨_, rfl⟩
     rw [ho] at hl hfo hpa hlc
     have HF := Lib.hid (show _ ∧ _ ∧ _ from ⟨hfo, hpa, hlc⟩)
     have q0 : decide (i < l0.length) = true := decide_eq_true hlt
     have q9 : i ≤ 20 := by have := (ybs' LG0.out).1; omega
     clear hE hne hfo hpa hlc ho
     simp only [OpS.cells] at hl
     obtain ⟨S, hSS⟩ : ∃ S, locs 100 (l0.take i) (ycy' 60) = S := ⟨_, rfl⟩
     rw [hSS] at HX hsb HF
     have HSB := Lib.hid hsb
     clear hsb hSS
     have HQN := Lib.hid (show i ≤ 20 from q9)
     go_wp2_with (first | refine u0 ?_ | (refine uS ?_; clear HX; intro w HX) | (refine tWA ?_; clear HX; (first | (have hq := b; clear hq; intro w b2 HX) | intro w b HX); simp only [Act.put, k_a, k_b, k_c]) | ((with_reducible apply yaw' hl); (· rfl); (· rfl); simp only [Act.put, k_a, k_b, k_c]))
     refine (ycg' HX.out (100 + (i : Int)) [⟨kind, path, data, ver, flags⟩] _ _ _).mono ?_
     rintro e w ⟨rfl, hx⟩
     obtain ⟨P2, m2, h2, hx⟩ := yco' (K := 5) (n := 1) (cs := [⟨kind, path, data, ver, flags⟩].flatMap OpS.cells) hx rfl (by omega)
     clear hl
     replace HX := Lib.hid hx
     clear hx
     have H2 := Lib.hid (show _ ∧ _ from ⟨m2, h2⟩)
     clear m2 h2
     unfold cmdV locC
     dsimp only
     go_wp2_with (first | refine u0 ?_ | (refine uS ?_; clear HX; intro w HX) | (refine tWA ?_; clear HX; (first | (have hq := b; clear hq; intro w b2 HX) | intro w b HX); simp only [Act.put, k_a, k_b, k_c]))
     refine (yb1' HX.out hd (locC (100 + (i : Int)) [⟨kind, path, data, ver, flags⟩]) _ _ H2.out.1 (H2.out.2 _ (HP.out _ HRS.out.1)) (yts' HF.out.2.1) (by simp [locC])).mono ?_
     obtain ⟨rec, hrec⟩ : ∃ rec, putC (locC (100 + (i : Int)) [⟨kind, path, data, ver, flags⟩]) = rec := ⟨_, rfl⟩
     have hlen := ycq' (locC (100 + (i : Int)) [⟨kind, path, data, ver, flags⟩]) (by simp [locC])
     rw [hrec] at hlen ⊢
     have HREC := Lib.hid (show _ ∧ _ from ⟨hrec, hlen⟩)
     clear hrec hlen
     rintro e w ⟨v, rfl, hx⟩
     obtain ⟨P3, m3, h3, hx⟩ := yfk' hx
     replace HX := Lib.hid hx
     clear hx
     obtain ⟨ba, bn, bc, rfl⟩ := yah' HX.out m3
     have H3 := Lib.hid (show _ ∧ _ from ⟨m3, h3⟩)
     clear m3 h3
     go_wp2_with (first | refine u0 ?_ | (refine uS ?_; clear HX; intro w HX) | (refine tWA ?_; clear HX; (first | (have hq := b; clear hq; intro w b2 HX) | intro w b HX); simp only [Act.put, k_a, k_b, k_c]))
     obtain ⟨P4, m4, h4, hx⟩ := yco' (K := 1) (n := 1) (cs := [.slice ba bn bc]) HX.out rfl (by omega)
     replace HX := Lib.hid hx
     clear hx
     have H4 := Lib.hid (show _ ∧ _ from ⟨m4, h4⟩)
     clear m4 h4
     refine (yb7' HX.out hd HSB.out [rec] _ _ H4.out.1 (.cons (H4.out.2 _ H3.out.1) .nil) (by have := HQN.out; simp; omega) (by intro l hl; rw [List.mem_singleton] at hl; subst hl; exact HREC.out.2)).mono ?_
     rw [ycv']
     rintro e w ⟨v5, xs5, P5, rfl, h5, ol5, m5, hx⟩
     have hx := yc5' hx (fun r hr => hr) h5
     replace HX := Lib.hid hx
     clear hx
     obtain ⟨a5, n5, c5, rfl⟩ := yah' HX.out m5
     have H5 := Lib.hid (show _ ∧ _ ∧ _ from ⟨h5, ol5, m5⟩)
     clear h5 ol5 m5
     go_wp2_with (first | refine u0 ?_ | (refine uS ?_; clear HX; intro w HX) | (refine tWA ?_; clear HX; (first | (have hq := b; clear hq; intro w b2 HX) | intro w b HX); simp only [Act.put, k_a, k_b, k_c]))
     obtain ⟨P6, m6, h6, hx⟩ := yco' (K := 1) (n := 1) (cs := [.slice ba bn bc]) HX.out rfl (by omega)
     replace HX := Lib.hid hx
     clear hx
     have H6 := Lib.hid (show _ ∧ _ from ⟨m6, h6⟩)
     clear m6 h6
     refine (yb7' HX.out.up2.up1 hd HSB.out [rec] _ _ H6.out.1 (.cons (H6.out.2 _ (H5.out.1 _ (H4.out.2 _ H3.out.1))) .nil) (by have := HQN.out; simp; omega) (by intro l hl; rw [List.mem_singleton] at hl; subst hl; exact HREC.out.2)).mono ?_
     rw [ycv']
     rintro e w ⟨v7, xs7, P7, rfl, h7, ol7, m7, hx⟩
     have hx := (yc5' hx (fun r hr => hr) h7).up2.up1
     obtain ⟨a7, n7, c7, rfl⟩ := yah' hx m7
     replace HX := Lib.hid hx
     clear hx
     have H7 := Lib.hid (show _ ∧ _ ∧ _ from ⟨h7, ol7, m7⟩)
     clear h7 ol7 m7
     have HP7 := Lib.hid (show ∀ r ∈ rs, r ∈ P7 from fun r hr => H7.out.1 _ (H6.out.2 _ (H5.out.1 _ (H4.out.2 _ (H3.out.2 _ (H2.out.2 _ (HP.out _ hr)))))))
     go_wp2_with (first | refine u0 ?_ | (refine uS ?_; clear HX; intro w HX) | (refine tWA ?_; clear HX; (first | (have hq := b; clear hq; intro w b2 HX) | intro w b HX); simp only [Act.put, k_a, k_b, k_c]))
     go_roundg (l0.length - (i + 1))
     case rel =>
      refine ⟨i + 1, P7, by omega, by go_num, HP7.out, ?_⟩
      rw [HF.out.2.2, HREC.out.1]
      exact HX.out
     case measure => omega
end
end Go.Proofs.YtcnkifbjlihaoaaGreatDoor
