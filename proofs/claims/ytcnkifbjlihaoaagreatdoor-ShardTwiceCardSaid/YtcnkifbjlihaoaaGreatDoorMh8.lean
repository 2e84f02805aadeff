/-
  Texts of this claim, laid together.
-/
import Derived.Test.YtcnkifbjlihaoaaGreatDoorMh7
import Derived.Deep.DeepCutAuto
import Derived.Deep.CutBlock
set_option linter.unusedVariables false
set_option linter.unusedSimpArgs false

namespace Go.Proofs.YtcnkifbjlihaoaaGreatDoor
open Go.RowKit Go.Av
section
variable {w0 w : World} {P P' : List PRow} {R : List Thing} {rows : List (Value × Bs)}
def yrk' : CmdS := ⟨0, 0, 0, 0, 0, [], [], 0, false⟩
def yut' (w0 : World) (o : Option CmdS) (P : List PRow) (R : List Thing) (rows : List (Value × Bs)) (e : Ending) (w' : World) : Prop :=
 ∃ vo vs P', e = .returned (.tuple #[.agg (cmdV (o.getD yrk') vo vs), .int .i64 (if o.isSome then 0 else 3)]) ∧ (∀ z ∈ P, z ∈ P') ∧ (5, vo, (o.getD yrk').ops.flatMap OpS.cells) ∈ P' ∧ (1, vs, (o.getD yrk').shards.map ivn) ∈ P' ∧ Sep w0 w' (yab' w0 P' :: R) rows
theorem yez' (t : Bs) : ∀ o ∈ (ydf' t).2.2, o.path.size ≤ 100000 := by
 unfold ydf' getR
 intro o ho
 split at ho
 ·have := yht' _ _ o ho
  omega
 ·cases ho
theorem yos' (d : Rd) : (shR d).1.length ≤ 1000 := by
 have h := yis' (most := 4) (by omega) d
 unfold shR
 rw [yk2']
 omega
theorem ybc' {K : Nat} {v : Value} {xs : List Value} (h : Sep w0 w (yab' w0 P :: R) rows) (hv : (K, v, xs) ∈ P) : ∃ a n c, v = .slice a n c := by
 obtain ⟨E, hE⟩ := h.poolGet hv
 obtain ⟨a, n, c, e, -⟩ := hE
 exact ⟨a, n, c, e⟩
def yx5' (w0 : World) (l : Bs) (r b b2 b3 : Nat) (P : List PRow) (R : List Thing) (rows : List (Value × Bs)) (W : World) : Prop :=
 ∃ (c : CmdS) (d : Rd) (bad : Bool) (vo vs : Value) (P' : List PRow), rawC l = (c, d, bad) ∧ (∀ z ∈ P, z ∈ P') ∧ (5, vo, c.ops.flatMap OpS.cells) ∈ P' ∧ (1, vs, c.shards.map ivn) ∈ P' ∧ (∀ o ∈ c.ops, o.path.size ≤ 100000) ∧ c.shards.length ≤ 1000 ∧
  Sep w0 W (ydy' r d :: yac' b2 (.cells #[.pointer (some ⟨r, 0, none⟩), .bool bad] 180 (0, 0)) :: yab' w0 P' :: yac' b3 (.cells (cmdV c vo vs) 70 (0, 0)) :: yac' b (.cells (cmdV yrk' (.slice none 0 0) (.slice none 0 0)) 70 (0, 0)) :: R) rows
set_option maxRecDepth 100000 in
set_option maxHeartbeats 8000000 in
theorem yt1' (h : Sep w0 w (yab' w0 P :: R) rows) (hd : DoorN w0) (v : Value) (l : Bs) (hv : (1, v, l.map bv) ∈ P) (hl : l.length ≤ 1000000) :
  Calls Tryz.prog 39 #[v] w (yut' w0 (getC l) P R rows) := by
 have HV := Lib.hid (show _ ∧ _ from ⟨hv, hl⟩)
 have HX := Lib.hid ((h.poolNil 5).poolNil 1)
 obtain ⟨o, ho⟩ : ∃ o, getC l = o := ⟨_, rfl⟩
 rw [ho]
 have HO := Lib.hid ho
 clear h hv hl ho
 obtain ⟨⟨k0, d1⟩, h1⟩ : ∃ x, i64R (l, false) = x := ⟨_, rfl⟩
 obtain ⟨⟨id, d2⟩, h2⟩ : ∃ x, i64R d1 = x := ⟨_, rfl⟩
 have HD := Lib.hid (show yk6' l = (k0, id, d2) by unfold yk6'; rw [h1]; dsimp only; rw [h2])
 have H1 := Lib.hid h1
 have H2 := Lib.hid h2
 clear h1 h2
 go_enter Tryz.func39, Tryz.ntmps39
 go_wp2_with (first | refine u0 ?_ | (refine uS ?_; clear HX; intro w HX) | (refine uA ?_; clear HX; (first | (have hq := b3; clear hq; intro w b4 HX) | (have hq := b2; clear hq; intro w b3 HX) | (have hq := b; clear hq; intro w b2 HX) | intro w b HX)))
 refine (ym4' HX.out.up1 v l (k_n _ (k_n _ HV.out.1)) HV.out.2).mono ?_
 rintro e w ⟨r, rfl, hx⟩
 replace HX := Lib.hid hx
 clear hx
 go_wp2_with (first | refine u0 ?_ | (refine uS ?_; clear HX; intro w HX) | (refine uA ?_; clear HX; (first | (have hq := b3; clear hq; intro w b4 HX) | (have hq := b2; clear hq; intro w b3 HX) | (have hq := b; clear hq; intro w b2 HX) | intro w b HX)))
 refine (ycf' HX.out.up1).mono ?_
 rw [H1.out]
 rintro e w ⟨rfl, hx⟩
 replace HX := Lib.hid hx
 clear hx
 go_wp2_with (first | refine u0 ?_ | (refine uS ?_; clear HX; intro w HX) | (refine uA ?_; clear HX; (first | (have hq := b3; clear hq; intro w b4 HX) | (have hq := b2; clear hq; intro w b3 HX) | (have hq := b; clear hq; intro w b2 HX) | intro w b HX)))
 refine (ycf' HX.out.up1).mono ?_
 rw [H2.out]
 rintro e w ⟨rfl, hx⟩
 replace HX := Lib.hid hx
 clear hx
 go_upto_block 0 with (first | refine u0 ?_ | (refine uS ?_; clear HX; intro w HX) | (refine uA ?_; clear HX; (first | (have hq := b3; clear hq; intro w b4 HX) | (have hq := b2; clear hq; intro w b3 HX) | (have hq := b; clear hq; intro w b2 HX) | intro w b HX)))
 go_cut [] (fun W => yx5' w0 l r b b2 b3 P R rows W)
 case first =>
  by_cases g1 : k0 = 1
  ·subst g1
   go_wp2_with (first | refine u0 ?_ | (refine uS ?_; clear HX; intro w HX) | (refine uA ?_; clear HX; (first | (have hq := b3; clear hq; intro w b4 HX) | (have hq := b2; clear hq; intro w b3 HX) | (have hq := b; clear hq; intro w b2 HX) | intro w b HX)))
   refine (ykg' HX.out.up3.up3.up2 hd).mono ?_
   rintro e w ⟨vo, P3, rfl, hP3, hvo, hx⟩
   replace HX := Lib.hid hx
   clear hx
   obtain ⟨va, vn, vc, rfl⟩ := ybc' HX.out.up2 hvo
   have HP := Lib.hid (show _ ∧ _ from ⟨hP3, hvo⟩)
   clear hP3 hvo
   go_wp2_with (first | refine u0 ?_ | (refine uS ?_; clear HX; intro w HX) | (refine uA ?_; clear HX; (first | (have hq := b3; clear hq; intro w b4 HX) | (have hq := b2; clear hq; intro w b3 HX) | (have hq := b; clear hq; intro w b2 HX) | intro w b HX)))
   go_meet
   refine ⟨⟨1, id, 0, (ydf' (ybq' 40000 d2).1).1, (ydf' (ybq' 40000 d2).1).2.1, (ydf' (ybq' 40000 d2).1).2.2, [], 0, false⟩, _, _, _, .slice none 0 0, _, ?_, fun z hz => HP.out.1 _ ((fun z hz => k_n _ (k_n _ hz)) z hz), HP.out.2, HP.out.1 _ k_s, yez' _, by simp, HX.out⟩
   unfold rawC
   rw [HD.out]
   dsimp only
   rw [if_pos rfl, Bool.false_or]
  by_cases g2 : k0 = 2
  ·subst g2
   clear g1
   obtain ⟨⟨se, d3⟩, h3⟩ : ∃ x, i64R d2 = x := ⟨_, rfl⟩
   obtain ⟨⟨sl, d4⟩, h4⟩ : ∃ x, shR d3 = x := ⟨_, rfl⟩
   have hsl := yos' d3
   rw [h4] at hsl
   have H34 := Lib.hid (show _ ∧ _ ∧ _ from ⟨h3, h4, hsl⟩)
   clear h3 h4 hsl
   go_wp2_with (first | refine u0 ?_ | (refine uS ?_; clear HX; intro w HX) | (refine uA ?_; clear HX; (first | (have hq := b3; clear hq; intro w b4 HX) | (have hq := b2; clear hq; intro w b3 HX) | (have hq := b; clear hq; intro w b2 HX) | intro w b HX)))
   refine (ycf' HX.out).mono ?_
   rw [H34.out.1]
   rintro e w ⟨rfl, hx⟩
   replace HX := Lib.hid hx
   clear hx
   go_wp2_with (first | refine u0 ?_ | (refine uS ?_; clear HX; intro w HX) | (refine uA ?_; clear HX; (first | (have hq := b3; clear hq; intro w b4 HX) | (have hq := b2; clear hq; intro w b3 HX) | (have hq := b; clear hq; intro w b2 HX) | intro w b HX)))
   refine (yfc' HX.out.up3.up3.up2).mono ?_
   rw [H34.out.2.1]
   rintro e w ⟨vs, P2, rfl, hP2, hvs, hx⟩
   replace HX := Lib.hid hx
   clear hx
   obtain ⟨sa, sn, sc, rfl⟩ := ybc' HX.out.up2 hvs
   have HQ := Lib.hid (show _ ∧ _ from ⟨hP2, hvs⟩)
   clear hP2 hvs
   go_wp2_with (first | refine u0 ?_ | (refine uS ?_; clear HX; intro w HX) | (refine uA ?_; clear HX; (first | (have hq := b3; clear hq; intro w b4 HX) | (have hq := b2; clear hq; intro w b3 HX) | (have hq := b; clear hq; intro w b2 HX) | intro w b HX)))
   refine (ykg' HX.out hd).mono ?_
   rintro e w ⟨vo, P3, rfl, hP3, hvo, hx⟩
   replace HX := Lib.hid hx
   clear hx
   obtain ⟨va, vn, vc, rfl⟩ := ybc' HX.out.up2 hvo
   have HP := Lib.hid (show _ ∧ _ from ⟨hP3, hvo⟩)
   clear hP3 hvo
   go_wp2_with (first | refine u0 ?_ | (refine uS ?_; clear HX; intro w HX) | (refine uA ?_; clear HX; (first | (have hq := b3; clear hq; intro w b4 HX) | (have hq := b2; clear hq; intro w b3 HX) | (have hq := b; clear hq; intro w b2 HX) | intro w b HX)))
   go_meet
   refine ⟨⟨2, id, se, (ydf' (ybq' 40000 d4).1).1, (ydf' (ybq' 40000 d4).1).2.1, (ydf' (ybq' 40000 d4).1).2.2, sl, 0, false⟩, _, _, _, .slice sa sn sc, _, ?_, fun z hz => HP.out.1 _ (HQ.out.1 _ ((fun z hz => k_n _ (k_n _ hz)) z hz)), HP.out.2, HP.out.1 _ HQ.out.2, yez' _, H34.out.2.2, HX.out⟩
   unfold rawC
   rw [HD.out]
   dsimp only
   rw [if_neg (by decide), if_pos rfl, H34.out.1]
   dsimp only
   rw [H34.out.2.1, Bool.false_or]
  by_cases g3 : k0 = 3
  ·subst g3
   clear g1 g2
   obtain ⟨⟨se, d3⟩, h3⟩ : ∃ x, i64R d2 = x := ⟨_, rfl⟩
   obtain ⟨⟨sl, d4⟩, h4⟩ : ∃ x, shR d3 = x := ⟨_, rfl⟩
   have hsl := yos' d3
   rw [h4] at hsl
   have H34 := Lib.hid (show _ ∧ _ ∧ _ from ⟨h3, h4, hsl⟩)
   clear h3 h4 hsl
   go_wp2_with (first | refine u0 ?_ | (refine uS ?_; clear HX; intro w HX) | (refine uA ?_; clear HX; (first | (have hq := b3; clear hq; intro w b4 HX) | (have hq := b2; clear hq; intro w b3 HX) | (have hq := b; clear hq; intro w b2 HX) | intro w b HX)))
   refine (ycf' HX.out).mono ?_
   rw [H34.out.1]
   rintro e w ⟨rfl, hx⟩
   replace HX := Lib.hid hx
   clear hx
   go_wp2_with (first | refine u0 ?_ | (refine uS ?_; clear HX; intro w HX) | (refine uA ?_; clear HX; (first | (have hq := b3; clear hq; intro w b4 HX) | (have hq := b2; clear hq; intro w b3 HX) | (have hq := b; clear hq; intro w b2 HX) | intro w b HX)))
   refine (yfc' HX.out.up3.up3.up2).mono ?_
   rw [H34.out.2.1]
   rintro e w ⟨vs, P2, rfl, hP2, hvs, hx⟩
   replace HX := Lib.hid hx
   clear hx
   obtain ⟨sa, sn, sc, rfl⟩ := ybc' HX.out.up2 hvs
   have HQ := Lib.hid (show _ ∧ _ from ⟨hP2, hvs⟩)
   clear hP2 hvs
   go_wp2_with (first | refine u0 ?_ | (refine uS ?_; clear HX; intro w HX) | (refine uA ?_; clear HX; (first | (have hq := b3; clear hq; intro w b4 HX) | (have hq := b2; clear hq; intro w b3 HX) | (have hq := b; clear hq; intro w b2 HX) | intro w b HX)))
   go_meet
   refine ⟨⟨3, id, se, 0, 0, [], sl, 0, false⟩, d4, false, .slice none 0 0, .slice sa sn sc, _, ?_, fun z hz => HQ.out.1 _ ((fun z hz => k_n _ (k_n _ hz)) z hz), HQ.out.1 _ (k_n _ k_s), HQ.out.2, by simp, H34.out.2.2, HX.out⟩
   unfold rawC
   rw [HD.out]
   dsimp only
   rw [if_neg (by decide), if_neg (by decide), if_pos rfl, H34.out.1]
   dsimp only
   rw [H34.out.2.1]
  by_cases g4 : k0 = 4
  ·subst g4
   clear g1 g2 g3
   go_wp2_with (first | refine u0 ?_ | (refine uS ?_; clear HX; intro w HX) | (refine uA ?_; clear HX; (first | (have hq := b3; clear hq; intro w b4 HX) | (have hq := b2; clear hq; intro w b3 HX) | (have hq := b; clear hq; intro w b2 HX) | intro w b HX)))
   refine (ym3' HX.out.up2.up1).mono ?_
   rintro e w ⟨rfl, hx⟩
   replace HX := Lib.hid hx
   clear hx
   go_wp2_with (first | refine u0 ?_ | (refine uS ?_; clear HX; intro w HX) | (refine uA ?_; clear HX; (first | (have hq := b3; clear hq; intro w b4 HX) | (have hq := b2; clear hq; intro w b3 HX) | (have hq := b; clear hq; intro w b2 HX) | intro w b HX)))
   go_meet
   refine ⟨⟨4, id, 0, 0, 0, [], [], 0, (cntR 1 d2).1 == 1⟩, _, false, .slice none 0 0, .slice none 0 0, _, ?_, fun z hz => k_n _ (k_n _ hz), k_n _ k_s, k_s, by simp, by simp, HX.out.pm 5 [0, 1, 3, 2, 4] rfl rfl⟩
   unfold rawC
   rw [HD.out]
   dsimp only
   rw [if_neg (by decide), if_neg (by decide), if_neg (by decide), if_pos rfl]
  by_cases g5 : k0 = 5
  ·subst g5
   clear g1 g2 g3 g4
   obtain ⟨⟨sl, d4⟩, h4⟩ : ∃ x, shR d2 = x := ⟨_, rfl⟩
   have hsl := yos' d2
   rw [h4] at hsl
   have H34 := Lib.hid (show _ ∧ _ from ⟨h4, hsl⟩)
   clear h4 hsl
   go_wp2_with (first | refine u0 ?_ | (refine uS ?_; clear HX; intro w HX) | (refine uA ?_; clear HX; (first | (have hq := b3; clear hq; intro w b4 HX) | (have hq := b2; clear hq; intro w b3 HX) | (have hq := b; clear hq; intro w b2 HX) | intro w b HX)))
   refine (yfc' HX.out.up3.up3.up2).mono ?_
   rw [H34.out.1]
   rintro e w ⟨vs, P2, rfl, hP2, hvs, hx⟩
   replace HX := Lib.hid hx
   clear hx
   obtain ⟨sa, sn, sc, rfl⟩ := ybc' HX.out.up2 hvs
   have HQ := Lib.hid (show _ ∧ _ from ⟨hP2, hvs⟩)
   clear hP2 hvs
   go_wp2_with (first | refine u0 ?_ | (refine uS ?_; clear HX; intro w HX) | (refine uA ?_; clear HX; (first | (have hq := b3; clear hq; intro w b4 HX) | (have hq := b2; clear hq; intro w b3 HX) | (have hq := b; clear hq; intro w b2 HX) | intro w b HX)))
   go_meet
   refine ⟨⟨5, id, 0, 0, 0, [], sl, 0, false⟩, d4, false, .slice none 0 0, .slice sa sn sc, _, ?_, fun z hz => HQ.out.1 _ ((fun z hz => k_n _ (k_n _ hz)) z hz), HQ.out.1 _ (k_n _ k_s), HQ.out.2, by simp, H34.out.2, HX.out⟩
   unfold rawC
   rw [HD.out]
   dsimp only
   rw [if_neg (by decide), if_neg (by decide), if_neg (by decide), if_neg (by decide), if_pos rfl]
   rw [H34.out.1]
  by_cases g6 : k0 = 6
  ·subst g6
   clear g1 g2 g3 g4 g5
   go_wp2_with (first | refine u0 ?_ | (refine uS ?_; clear HX; intro w HX) | (refine uA ?_; clear HX; (first | (have hq := b3; clear hq; intro w b4 HX) | (have hq := b2; clear hq; intro w b3 HX) | (have hq := b; clear hq; intro w b2 HX) | intro w b HX)))
   refine (ycn' HX.out 3 (by omega)).mono ?_
   rintro e w ⟨rfl, hx⟩
   replace HX := Lib.hid hx
   clear hx
   go_wp2_with (first | refine u0 ?_ | (refine uS ?_; clear HX; intro w HX) | (refine uA ?_; clear HX; (first | (have hq := b3; clear hq; intro w b4 HX) | (have hq := b2; clear hq; intro w b3 HX) | (have hq := b; clear hq; intro w b2 HX) | intro w b HX)))
   refine (ym3' HX.out.up2.up1).mono ?_
   rintro e w ⟨rfl, hx⟩
   replace HX := Lib.hid hx
   clear hx
   go_wp2_with (first | refine u0 ?_ | (refine uS ?_; clear HX; intro w HX) | (refine uA ?_; clear HX; (first | (have hq := b3; clear hq; intro w b4 HX) | (have hq := b2; clear hq; intro w b3 HX) | (have hq := b; clear hq; intro w b2 HX) | intro w b HX)))
   go_meet
   refine ⟨⟨6, id, 0, 0, 0, [], [], (cntR 3 d2).1, (cntR 1 (cntR 3 d2).2).1 == 1⟩, _, false, .slice none 0 0, .slice none 0 0, _, ?_, fun z hz => k_n _ (k_n _ hz), k_n _ k_s, k_s, by simp, by simp, HX.out.pm 5 [0, 1, 3, 2, 4] rfl rfl⟩
   unfold rawC
   rw [HD.out]
   dsimp only
   rw [if_neg (by decide), if_neg (by decide), if_neg (by decide), if_neg (by decide), if_neg (by decide), if_pos rfl]
  by_cases g7 : k0 = 7
  ·subst g7
   clear g1 g2 g3 g4 g5 g6
   go_wp2_with (first | refine u0 ?_ | (refine uS ?_; clear HX; intro w HX) | (refine uA ?_; clear HX; (first | (have hq := b3; clear hq; intro w b4 HX) | (have hq := b2; clear hq; intro w b3 HX) | (have hq := b; clear hq; intro w b2 HX) | intro w b HX)))
   refine (ycn' HX.out 3 (by omega)).mono ?_
   rintro e w ⟨rfl, hx⟩
   replace HX := Lib.hid hx
   clear hx
   go_wp2_with (first | refine u0 ?_ | (refine uS ?_; clear HX; intro w HX) | (refine uA ?_; clear HX; (first | (have hq := b3; clear hq; intro w b4 HX) | (have hq := b2; clear hq; intro w b3 HX) | (have hq := b; clear hq; intro w b2 HX) | intro w b HX)))
   go_meet
   refine ⟨⟨7, id, 0, 0, 0, [], [], (cntR 3 d2).1, false⟩, _, false, .slice none 0 0, .slice none 0 0, _, ?_, fun z hz => k_n _ (k_n _ hz), k_n _ k_s, k_s, by simp, by simp, HX.out.pm 5 [0, 2, 3, 1, 4] rfl rfl⟩
   unfold rawC
   rw [HD.out]
   dsimp only
   rw [if_neg (by decide), if_neg (by decide), if_neg (by decide), if_neg (by decide), if_neg (by decide), if_neg (by decide), if_pos rfl]
  have f1 : (k0 == 1) = false := by rw [beq_eq_false_iff_ne]; exact g1
  have f2 : (k0 == 2) = false := by rw [beq_eq_false_iff_ne]; exact g2
  have f3 : (k0 == 3) = false := by rw [beq_eq_false_iff_ne]; exact g3
  have f4 : (k0 == 4) = false := by rw [beq_eq_false_iff_ne]; exact g4
  have f5 : (k0 == 5) = false := by rw [beq_eq_false_iff_ne]; exact g5
  have f6 : (k0 == 6) = false := by rw [beq_eq_false_iff_ne]; exact g6
  have f7 : (k0 == 7) = false := by rw [beq_eq_false_iff_ne]; exact g7
  have HG := Lib.hid (show _ ∧ _ ∧ _ ∧ _ ∧ _ ∧ _ ∧ _ from ⟨g1, g2, g3, g4, g5, g6, g7⟩)
  clear g1 g2 g3 g4 g5 g6 g7
  go_wp2_with (first | refine u0 ?_ | (refine uS ?_; clear HX; intro w HX) | (refine uA ?_; clear HX; (first | (have hq := b3; clear hq; intro w b4 HX) | (have hq := b2; clear hq; intro w b3 HX) | (have hq := b; clear hq; intro w b2 HX) | intro w b HX)))
  go_meet
  refine ⟨⟨k0, id, 0, 0, 0, [], [], 0, false⟩, _, false, .slice none 0 0, .slice none 0 0, _, ?_, fun z hz => k_n _ (k_n _ hz), k_n _ k_s, k_s, by simp, by simp, HX.out.pm 5 [0, 2, 3, 1, 4] rfl rfl⟩
  unfold rawC
  rw [HD.out]
  dsimp only
  obtain ⟨g1, g2, g3, g4, g5, g6, g7⟩ := HG.out
  rw [if_neg g1, if_neg g2, if_neg g3, if_neg g4, if_neg g5, if_neg g6, if_neg g7]
 case rest =>
  obtain ⟨⟨k, i2, se, rs, rn, ops, shs, sd, ys⟩, d, bad, vo, vs, P', hr, hPP, hvo, hvs, hpa, hsh, hS⟩ := hcut
  obtain ⟨va, vn, vc, rfl⟩ := ybc' hS.up2 hvo
  obtain ⟨sa, sn, sc, rfl⟩ := ybc' hS.up2 hvs
  have HR := Lib.hid hr
  have HPP := Lib.hid (show _ ∧ _ ∧ _ ∧ _ ∧ _ from ⟨hPP, hvo, hvs, hpa, hsh⟩)
  clear HX hr hPP hvo hvs hpa hsh
  rename World => w
  have HX := Lib.hid hS.up2
  clear hS
  have HS := Lib.hid (fun (q : PRow) (h : q ∈ P') => h)
  unfold cmdV yrk' at HX
  dsimp only at HX HPP
  cases bad with
  | true =>
   obtain rfl : o = none := by
    rw [← HO.out]
    unfold getC
    rw [HR.out, if_neg]
    rintro ⟨h1, h2, h3⟩
    cases h1
   go_wp2_with (first | refine u0 ?_ | (refine uS ?_; clear HX; intro w HX) | (refine uA ?_; clear HX; (first | (have hq := b3; clear hq; intro w b4 HX) | (have hq := b2; clear hq; intro w b3 HX) | (have hq := b; clear hq; intro w b2 HX) | intro w b HX)))
   refine ydx' HX rfl rfl (by (repeat (first | (with_reducible exact k_s) | (with_reducible apply k_m)))) (by kernel_rfl) ?_
   exact ⟨.slice none 0 0, .slice none 0 0, _, rfl, fun z hz => k_n _ (k_n _ (HS.out _ (HPP.out.1 z hz))), k_n _ k_s, k_s, (HX.out.cut1.cut1.cut1.cut1.poolNil 5).poolNil 1⟩
  | false =>
   go_wp2_with (first | refine u0 ?_ | (refine uS ?_; clear HX; intro w HX) | (refine uA ?_; clear HX; (first | (have hq := b3; clear hq; intro w b4 HX) | (have hq := b2; clear hq; intro w b3 HX) | (have hq := b; clear hq; intro w b2 HX) | intro w b HX)))
   refine (ykf' HX.out.up1).mono ?_
   obtain ⟨ze, hze⟩ : ∃ z, endR d = z := ⟨_, rfl⟩
   have hze2 : (!d.2 && d.1.isEmpty) = ze := hze
   rw [hze2]
   rintro e w2 ⟨rfl, rfl⟩
   clear hze2
   have HZ := Lib.hid hze
   clear hze
   cases ze with
   | false =>
    obtain rfl : o = none := by
     rw [← HO.out]
     unfold getC
     rw [HR.out, if_neg]
     rintro ⟨h1, h2, h3⟩
     (rw [HZ.out] at h2; cases h2)
    go_wp2_with (first | refine u0 ?_ | (refine uS ?_; clear HX; intro w HX) | (refine uA ?_; clear HX; (first | (have hq := b3; clear hq; intro w b4 HX) | (have hq := b2; clear hq; intro w b3 HX) | (have hq := b; clear hq; intro w b2 HX) | intro w b HX)))
    refine ydx' HX rfl rfl (by (repeat (first | (with_reducible exact k_s) | (with_reducible apply k_m)))) (by kernel_rfl) ?_
    exact ⟨.slice none 0 0, .slice none 0 0, _, rfl, fun z hz => k_n _ (k_n _ (HS.out _ (HPP.out.1 z hz))), k_n _ k_s, k_s, (HX.out.cut1.cut1.cut1.cut1.poolNil 5).poolNil 1⟩
   | true =>
    go_wp2_with (first | refine u0 ?_ | (refine uS ?_; clear HX; intro w HX) | (refine uA ?_; clear HX; (first | (have hq := b3; clear hq; intro w b4 HX) | (have hq := b2; clear hq; intro w b3 HX) | (have hq := b; clear hq; intro w b2 HX) | intro w b HX)))
    refine (yje' HX.out hd ⟨k, i2, se, rs, rn, ops, shs, sd, ys⟩ (.slice va vn vc) (.slice sa sn sc) HPP.out.2.1 HPP.out.2.2.1 HPP.out.2.2.2.1 HPP.out.2.2.2.2).mono ?_
    rintro e w ⟨v4, rfl, hx⟩
    have hx := hx.poolRow
    replace HX := Lib.hid hx
    clear hx
    go_wp2_with (first | refine u0 ?_ | (refine uS ?_; clear HX; intro w HX) | (refine uA ?_; clear HX; (first | (have hq := b3; clear hq; intro w b4 HX) | (have hq := b2; clear hq; intro w b3 HX) | (have hq := b; clear hq; intro w b2 HX) | intro w b HX)))
    refine (yyx' HX.out k_s (k_n _ (HPP.out.1 _ HV.out.1))).mono ?_
    obtain ⟨q, hq⟩ : ∃ q, decide (putC ⟨k, i2, se, rs, rn, ops, shs, sd, ys⟩ = l) = q := ⟨_, rfl⟩
    rw [hq]
    rintro e w ⟨rfl, hx⟩
    replace HX := Lib.hid hx
    clear hx
    have HQ := Lib.hid hq
    clear hq HS
    have HS := Lib.hid (fun (q : PRow) (h : q ∈ P') => List.mem_cons_of_mem (1, v4, (putC ⟨k, i2, se, rs, rn, ops, shs, sd, ys⟩).map bv) h)
    cases q with
    | false =>
     obtain rfl : o = none := by
      rw [← HO.out]
      unfold getC
      rw [HR.out, if_neg]
      rintro ⟨h1, h2, h3⟩
      exact of_decide_eq_false HQ.out h3
     go_wp2_with (first | refine u0 ?_ | (refine uS ?_; clear HX; intro w HX) | (refine uA ?_; clear HX; (first | (have hq := b3; clear hq; intro w b4 HX) | (have hq := b2; clear hq; intro w b3 HX) | (have hq := b; clear hq; intro w b2 HX) | intro w b HX)))
     refine ydx' HX rfl rfl (by (repeat (first | (with_reducible exact k_s) | (with_reducible apply k_m)))) (by kernel_rfl) ?_
     exact ⟨.slice none 0 0, .slice none 0 0, _, rfl, fun z hz => k_n _ (k_n _ (HS.out _ (HPP.out.1 z hz))), k_n _ k_s, k_s, (HX.out.cut1.cut1.cut1.cut1.poolNil 5).poolNil 1⟩
    | true =>
     obtain rfl : o = some ⟨k, i2, se, rs, rn, ops, shs, sd, ys⟩ := by
      rw [← HO.out]
      unfold getC
      rw [HR.out, if_pos ⟨rfl, HZ.out, of_decide_eq_true HQ.out⟩]
     go_wp2_with (first | refine u0 ?_ | (refine uS ?_; clear HX; intro w HX) | (refine uA ?_; clear HX; (first | (have hq := b3; clear hq; intro w b4 HX) | (have hq := b2; clear hq; intro w b3 HX) | (have hq := b; clear hq; intro w b2 HX) | intro w b HX)))
     refine ydx' HX rfl rfl (by (repeat (first | (with_reducible exact k_s) | (with_reducible apply k_m)))) (by kernel_rfl) ?_
     exact ⟨.slice va vn vc, .slice sa sn sc, _, rfl, fun z hz => HS.out _ (HPP.out.1 z hz), HS.out _ HPP.out.2.1, HS.out _ HPP.out.2.2.1, HX.out.cut1.cut1.cut1.cut1⟩
end
end Go.Proofs.YtcnkifbjlihaoaaGreatDoor

namespace Go.Proofs.YtcnkifbjlihaoaaGreatDoor
open Go.RowKit Go.Av
section
variable {w0 w : World} {b : Nat} {S : TreeS} {P P' : List PRow} {R : List Thing} {rows : List (Value × Bs)}
end
end Go.Proofs.YtcnkifbjlihaoaaGreatDoor

namespace Go.Proofs.YtcnkifbjlihaoaaGreatDoor
open Go.RowKit Go.Av
section
variable {w0 w : World} {b : Nat} {S : TreeS} {P P' : List PRow} {R : List Thing} {rows : List (Value × Bs)}
end
end Go.Proofs.YtcnkifbjlihaoaaGreatDoor

namespace Go.Proofs.YtcnkifbjlihaoaaGreatDoor
open Go.RowKit Go.Av
section
variable {w0 w : World} {P P' : List PRow} {R : List Thing} {rows : List (Value × Bs)}
theorem sn_act : StructN Tryz.prog 37 5 := ⟨by kernel_rfl⟩
theorem z_rreply : ydh' Tryz.prog 37 #[.int .i64 0, .int .i64 0, .int .i64 0, .int .i64 0, .slice none 0 0] := by unfold ydh'; kernel_rfl
end
end Go.Proofs.YtcnkifbjlihaoaaGreatDoor

namespace Go.Proofs.YtcnkifbjlihaoaaGreatDoor
open Go.RowKit Go.Av
section
variable {w0 w : World} {P P' : List PRow} {R : List Thing} {rows : List (Value × Bs)}
set_option maxRecDepth 100000 in
set_option maxHeartbeats 2000000 in
theorem yze' (h : Sep w0 w (yab' w0 P :: R) rows) (r : ResS) (va vb : Value) (ha : (1, va, r.names.map sv) ∈ P) (hb : (1, vb, r.names.map sv) ∈ P) :
  Calls Tryz.prog 89 #[.agg (r.cells va), .agg (r.cells vb)] w fun e w' => e = .returned (.bool true) ∧ Sep w0 w' (yab' w0 P :: R) rows := by
 obtain ⟨E, hE⟩ := h.poolGet ha
 obtain ⟨a1, n1, c1, rfl, -⟩ := ReadRow.some hE
 obtain ⟨E2, hE2⟩ := h.poolGet hb
 obtain ⟨a2, n2, c2, rfl, -⟩ := ReadRow.some hE2
 have HA := Lib.hid ha
 have HB := Lib.hid hb
 have HX := Lib.hid h
 have hq := yc1' r.data
 have hq2 : (r.data.toList == r.data.toList) = true := by simp
 have hq3 := yc1' r.path
 have hq4 : (r.path.toList == r.path.toList) = true := by simp
 clear h ha hb hE hE2
 unfold ResS.cells
 go_enter Tryz.func89, Tryz.ntmps89
 go_wp2_with (first | refine v1 ?_ | (refine vS ?_; clear HX; intro w HX) | (refine vA ?_; clear HX; (first | (have hq := b; clear hq; intro w b2 HX) | intro w b HX)))
 refine (ync' HX.out.up2 _ _ r.names HA.out HB.out).mono ?_
 rintro e w ⟨rfl, hx⟩
 replace HX := Lib.hid hx
 clear hx
 go_wp2_with (first | refine v1 ?_ | (refine vS ?_; clear HX; intro w HX) | (refine vA ?_; clear HX; (first | (have hq := b; clear hq; intro w b2 HX) | intro w b HX)))
 go_ret
 exact ⟨rfl, HX.out.cut1.cut1⟩
theorem yvz' {l : List OpS} (h : yhq' l = false) : l.length ≤ 20 ∧ ∀ o ∈ l, o.path.size ≤ 300 := by
 unfold yhq' at h
 rw [Bool.or_eq_false_iff] at h
 refine ⟨by have := of_decide_eq_false h.1; omega, fun o ho => ?_⟩
 have := List.any_eq_false.1 h.2 o ho
 simp at this
 omega
end
end Go.Proofs.YtcnkifbjlihaoaaGreatDoor

namespace Go.Proofs.YtcnkifbjlihaoaaGreatDoor
open Go.RowKit Go.Av
section
variable {w0 w : World} {P P' : List PRow} {R : List Thing} {rows : List (Value × Bs)}
set_option maxRecDepth 100000 in
set_option maxHeartbeats 4000000 in
theorem yna' (h : Sep w0 w (yab' w0 P :: R) rows) (rs : List ResS) (va vb : Value) (xa xb : List Value) (ha : (11, va, xa) ∈ P) (hb : (11, vb, xb) ∈ P) (ra : ResL P rs xa) (rb : ResL P rs xb) (hn : rs.length ≤ 100000) :
  Calls Tryz.prog 23 #[va, vb] w fun e w' => e = .returned (.bool true) ∧ Sep w0 w' (yab' w0 P :: R) rows := by
 obtain ⟨E, hE⟩ := h.poolGet ha
 obtain ⟨a1, n1, c1, rfl, hl1, -, -, he1⟩ := ReadRow.some hE
 obtain ⟨E2, hE2⟩ := h.poolGet hb
 obtain ⟨a2, n2, c2, rfl, hl2, -, -, he2⟩ := ReadRow.some hE2
 rw [ra.len] at hl1
 rw [rb.len] at hl2
 obtain rfl : rs.length = n1 := by omega
 obtain rfl : rs.length = n2 := by omega
 have HA := Lib.hid (show _ ∧ _ from ⟨ha, ra⟩)
 have HB := Lib.hid (show _ ∧ _ from ⟨hb, rb⟩)
 have HE1 := Lib.hid he1
 have HE2 := Lib.hid he2
 have HX := Lib.hid h
 have q5 : (((rs.length : Nat) : Int) != ((rs.length : Nat) : Int)) = false := by simp
 clear h ha hb ra rb hE hE2 he1 he2 hl1 hl2
 go_enter Tryz.func23, Tryz.ntmps23
 go_wp2_with (first | refine v1 ?_ | (refine vS ?_; clear HX; intro w HX) | (refine vA ?_; clear HX; (first | (have hq := b; clear hq; intro w b2 HX) | intro w b HX)))
 go_loopg [5] rs.length (fun k v wr => ∃ i : Nat, i + k = rs.length ∧ v = .int .i64 (i : Int) ∧ Sep w0 wr (yab' w0 P :: R) rows)
 case atStart => exact ⟨0, by simp, rfl, HX.out⟩
 case round =>
  rename World => w
  obtain ⟨i, hik, rfl, hS⟩ := hrel
  replace HX := Lib.hid hS
  clear hS
  by_cases hlt : i < rs.length
  case neg =>
   obtain rfl : i = rs.length := by omega
   clear hlt hik
   go_wp2_with (first | refine v1 ?_ | (refine vS ?_; clear HX; intro w HX) | (refine vA ?_; clear HX; (first | (have hq := b; clear hq; intro w b2 HX) | intro w b HX)))
   go_ret
   exact ⟨rfl, HX.out⟩
  case pos =>
   obtain ⟨nv1, m1, k1⟩ := HA.out.2.at hlt
   obtain ⟨nv2, m2, k2⟩ := HB.out.2.at hlt
   obtain ⟨r, hr⟩ : ∃ r, rs[i] = r := ⟨_, rfl⟩
   rw [hr] at m1 k1 m2 k2
   obtain ⟨g1, o1, rfl⟩ := HE1.out (by intro e; have e : xa = [] := e; have := k1 0 _ rfl; rw [e] at this; cases this)
   obtain ⟨g2, o2, rfl⟩ := HE2.out (by intro e; have e : xb = [] := e; have := k2 0 _ rfl; rw [e] at this; cases this)
   have HK := Lib.hid (show _ ∧ _ ∧ _ ∧ _ from ⟨m1, k1, m2, k2⟩)
   have q0 : decide (i < rs.length) = true := decide_eq_true hlt
   have q9 : (i < rs.length) = True := eq_true hlt
   clear m1 k1 m2 k2 hr
   go_wp2_with (first | refine v1 ?_ | (refine vS ?_; clear HX; intro w HX) | (refine vA ?_; clear HX; (first | (have hq := b; clear hq; intro w b2 HX) | intro w b HX)))
   refine rM (fun W => Sep w0 W (yab' w0 P :: R) rows) 10 ?_
   intro KEEPX
   have hl : ∀ V, Sep w0 V (yab' w0 P :: R) rows → (Instr.loadAt 115 (.pointer (some ⟨g1, o1 + i * 11, none⟩))).run Tryz.prog V = .ok (.agg (r.cells nv1)) V := fun V hV => by
    obtain ⟨E, hE⟩ := Sep.poolGet hV HA.out.1
    exact yft' (f := 0) hE sn_res rfl (by simp [ResS.cells]) HK.out.2.1
   have hl2 : ∀ V, Sep w0 V (yab' w0 P :: R) rows → (Instr.loadAt 115 (.pointer (some ⟨g2, o2 + i * 11, none⟩))).run Tryz.prog V = .ok (.agg (r.cells nv2)) V := fun V hV => by
    obtain ⟨E, hE⟩ := Sep.poolGet hV HB.out.1
    exact yft' (f := 0) hE sn_res rfl (by simp [ResS.cells]) HK.out.2.2.2
   replace HX := Lib.hid HX.out.drew
   refine rT [(0, false), (1, false), (2, false), (3, true), (4, false), (5, false), (6, false), (7, true)] 2 ?_
   apply Exists.intro; refine ⟨?_, HX.out, ?_⟩
   ·iterate 8 (first | refine yE ?_ | ((first | apply yax' | apply yas'); (· (simp only [k_i, k_j, k_k]; try rfl)); (· rfl); (· (intros; go_simp; (try simp only [q9, ↓reduceIte, and_self, Int.toNat_natCast]); try with_reducible rfl)); (· (simp only [Act.put, k_a, k_b, k_c, k_d, k_e, k_f, k_g, k_h, NodeS.cells, OpS.cells, ResS.cells]; try rfl))))
    exact rfl
   clear hl hl2
   refine r1 1 8 fun K hK => ?_
   go_wp2_with fail
   refine (yze' HX.out r nv1 nv2 HK.out.1 HK.out.2.2.1).mono ?_
   rintro e w ⟨rfl, hx⟩
   replace HX := Lib.hid hx
   clear hx
   go_wp2_with fail
   refine hK _ _ HX.out ?_
   clear hK
   refine rT [(9, false)] 0 ?_
   apply Exists.intro; refine ⟨?_, HX.out, ?_⟩
   ·iterate 1 (first | refine yE ?_ | ((first | apply yax' | apply yas'); (· (simp only [k_i, k_j, k_k]; try rfl)); (· rfl); (· (intros; go_simp; (try simp only [q9, ↓reduceIte, and_self, Int.toNat_natCast]); try with_reducible rfl)); (· (simp only [Act.put, k_a, k_b, k_c, k_d, k_e, k_f, k_g, k_h, NodeS.cells, OpS.cells, ResS.cells]; try rfl))))
    exact rfl
   refine yag' (by kernel_rfl) ?_ _
   go_wp2_with (first | refine v1 ?_ | (refine vS ?_; clear HX; intro w HX) | (refine vA ?_; clear HX; (first | (have hq := b; clear hq; intro w b2 HX) | intro w b HX)))
   go_roundg (rs.length - (i + 1))
   case rel => exact ⟨i + 1, by omega, by go_num, HX.out⟩
   case measure => omega
set_option maxRecDepth 100000 in
set_option maxHeartbeats 4000000 in
theorem ylo' (h : Sep w0 w (yab' w0 P :: R) rows) (m : ReplyS) (va vb : Value) (ha : yf5' P m va) (hb : yf5' P m vb) (hn : m.rs.length ≤ 100000) :
  Calls Tryz.prog 13 #[va, vb] w fun e w' => e = .returned (.bool true) ∧ Sep w0 w' (yab' w0 P :: R) rows := by
 obtain ⟨a1, n1, c1, x1, rfl, r1, m1⟩ := ha
 obtain ⟨a2, n2, c2, x2, rfl, r2, m2⟩ := hb
 have HX := Lib.hid h
 have HA := Lib.hid (show _ ∧ _ ∧ _ ∧ _ from ⟨r1, m1, r2, m2⟩)
 clear h r1 m1 r2 m2
 go_enter Tryz.func13, Tryz.ntmps13
 go_wp2_with (first | refine v1 ?_ | (refine vS ?_; clear HX; intro w HX) | (refine vA ?_; clear HX; (first | (have hq := b; clear hq; intro w b2 HX) | intro w b HX)))
 refine (yna' HX.out.up2 m.rs _ _ x1 x2 HA.out.2.1 HA.out.2.2.2 HA.out.1 HA.out.2.2.1 hn).mono ?_
 rintro e w ⟨rfl, hx⟩
 replace HX := Lib.hid hx
 clear hx
 go_wp2_with (first | refine v1 ?_ | (refine vS ?_; clear HX; intro w HX) | (refine vA ?_; clear HX; (first | (have hq := b; clear hq; intro w b2 HX) | intro w b HX)))
 go_ret
 exact ⟨rfl, HX.out.cut1.cut1⟩
end
end Go.Proofs.YtcnkifbjlihaoaaGreatDoor

namespace Go.Proofs.YtcnkifbjlihaoaaGreatDoor
open Go.RowKit Go.Av
theorem sn_x6 : StructN Tryz.prog 93 11 := ⟨by kernel_rfl⟩
theorem z_x6 : ydh' Tryz.prog 93 #[.int .i64 0, .int .i64 0, .int .i64 0, .int .i64 0, .int .i64 0, .int .i64 0, .slice none 0 0, .int .i64 0, .int .i64 0, .slice none 0 0, .bool false] := by unfold ydh'; kernel_rfl
section
variable {w0 w : World} {P P' : List PRow} {R : List Thing} {rows : List (Value × Bs)}
def outV (o : OutS) (v1 v2 : Value) : Array Value := #[.int .i64 o.kind, .int .i64 o.id, .int .i64 o.reply.num, .int .i64 o.reply.zxid, .int .i64 o.reply.err, .int .i64 o.reply.at_, v1, .int .i64 o.err, .int .i64 o.at_, v2, .bool o.yes]
def RsIn (P : List PRow) (rs : List ResS) (v : Value) : Prop := ∃ xs, ResL P rs xs ∧ (11, v, xs) ∈ P
theorem RsIn.mono {P P' : List PRow} {rs : List ResS} {v : Value} (h : RsIn P rs v) (hP : ∀ q ∈ P, q ∈ P') : RsIn P' rs v := by
 obtain ⟨xs, h1, h2⟩ := h
 exact ⟨xs, h1.mono hP, hP _ h2⟩
def OutIn (P : List PRow) (o : OutS) (v1 v2 : Value) : Prop := RsIn P o.reply.rs v1 ∧ RsIn P o.rs v2
theorem OutIn.mono {P P' : List PRow} {o : OutS} {v1 v2 : Value} (h : OutIn P o v1 v2) (hP : ∀ q ∈ P, q ∈ P') : OutIn P' o v1 v2 := ⟨h.1.mono hP, h.2.mono hP⟩
theorem yqd' (h : Sep w0 w (yab' w0 P :: R) rows) (v : Value) (b : List Bs) (hv : (1, v, b.map sv) ∈ P) (hn : b.length ≤ 1000000) :
  Calls Tryz.prog 183 #[v] w fun e w' => ∃ v', e = .returned v' ∧ Sep w0 w' (yab' w0 ((1, v', b.map sv) :: P) :: R) rows := by
 obtain ⟨E, hE⟩ := h.poolGet hv
 refine (yef' v b E w hE (by omega)).mono ?_
 rintro e w' ⟨v', D, rfl, ho, hu⟩
 exact ⟨v', rfl, h.poolAdd ho hu⟩
def y0b' (w0 : World) (rs : List ResS) (P : List PRow) (R : List Thing) (rows : List (Value × Bs)) (e : Ending) (w' : World) : Prop :=
 ∃ v P', e = .returned v ∧ (∀ q ∈ P, q ∈ P') ∧ RsIn P' rs v ∧ Sep w0 w' (yab' w0 P' :: R) rows
def y0c' (w0 : World) (rs : List ResS) (P : List PRow) (R : List Thing) (rows : List (Value × Bs)) (k : Nat) (v3 v8 : Value) (w : World) : Prop :=
 ∃ (i : Nat) (ys : List Value) (a : Option Addr) (n c : Nat) (P' : List PRow), i + k = rs.length ∧ v3 = .slice a n c ∧ v8 = .int .i64 (i : Int) ∧ (∀ q ∈ P, q ∈ P') ∧ ResL P' (rs.take i) ys ∧ Sep w0 w (yaf' 11 (.slice a n c) ys :: yab' w0 P' :: R) rows
set_option maxRecDepth 100000 in
set_option maxHeartbeats 4000000 in
theorem yja' (h : Sep w0 w (yab' w0 P :: R) rows) (rs : List ResS) (v : Value) (hv : RsIn P rs v) (hok : ylx' rs) :
  Calls Tryz.prog 201 #[v] w (y0b' w0 rs P R rows) := by
 obtain ⟨xs, hr, hm⟩ := hv
 obtain ⟨E, hE⟩ := h.poolGet hm
 obtain ⟨a0, n0, c0, rfl, hl0, -, -, hne⟩ := ReadRow.some hE
 rw [hr.len] at hl0
 obtain rfl : rs.length = n0 := by omega
 have HV := Lib.hid (show _ ∧ _ ∧ _ from ⟨hr, hm, hok⟩)
 have HNE := Lib.hid hne
 have HX := Lib.hid h
 clear h hE hl0 hne hr hm hok
 go_enter Tryz.func201, Tryz.ntmps201
 go_wp2_with (first | refine u0 ?_ | (refine uS ?_; clear HX; intro w HX) | (refine uA ?_; clear HX; (first | (have hq := b; clear hq; intro w b2 HX) | intro w b HX)) | (refine uP ?_; clear HX; intro w av nv cv HX))
 have HST := Lib.hid (show y0c' w0 rs P R rows rs.length (.slice none 0 0) (.int .i64 (0 : Int)) w from ⟨0, [], none, 0, 0, P, by simp, rfl, rfl, fun q hq => hq, .nil, HX.out.nilRow 11⟩)
 clear HX
 go_loopg [3, 5, 8] rs.length (fun k v3 _ v8 wr => y0c' w0 rs P R rows k v3 v8 wr)
 case atStart => exact HST.out
 case round =>
  rename World => w
  obtain ⟨i, ys, a, n, c, P', hik, rfl, rfl, hP', hrl, hS⟩ := hrel
  have HRL := Lib.hid (show _ ∧ _ from ⟨hP', hrl⟩)
  have HX := Lib.hid hS
  clear hP' hrl hS HST
  by_cases hlt : i < rs.length
  case neg =>
   obtain rfl : i = rs.length := by omega
   rw [List.take_length] at HRL
   clear hlt hik
   go_wp2_with (first | refine u0 ?_ | (refine uS ?_; clear HX; intro w HX) | (refine uA ?_; clear HX; (first | (have hq := b; clear hq; intro w b2 HX) | intro w b HX)) | (refine uP ?_; clear HX; intro w av nv cv HX))
   go_ret
   exact ⟨_, _, rfl, fun q hq => k_n _ (HRL.out.1 q hq), ⟨ys, HRL.out.2.mono (fun q hq => k_n _ hq), k_s⟩, HX.out.poolRow⟩
  case pos =>
   obtain ⟨nv, m1, k1⟩ := HV.out.1.at hlt
   obtain ⟨g, off, rfl⟩ := HNE.out (by intro e; have e : xs = [] := e; have := k1 0 _ rfl; rw [e] at this; cases this)
   have htk : rs.take (i + 1) = rs.take i ++ [rs[i]] := List.take_succ_eq_append_getElem hlt
   have hfew := HV.out.2.2.2 _ (List.getElem_mem hlt)
   obtain ⟨r, hr⟩ : ∃ r, rs[i] = r := ⟨_, rfl⟩
   rw [hr] at m1 k1 htk hfew
   obtain ⟨E, hE⟩ := HX.out.up1.poolGet (HRL.out.1 _ HV.out.2.1)
   have hl := yft' (P := Tryz.prog) (ty := 115) (f := 0) hE sn_res rfl (by simp [ResS.cells]) k1
   obtain ⟨E2, hE2⟩ := HX.out.up1.poolGet (HRL.out.1 _ m1)
   obtain ⟨na, nn, nc, rfl, -⟩ := _root_.id hE2
   have HLN := Lib.hid (show ys.length = i * 11 by have := HRL.out.2.len; rw [List.length_take, Nat.min_eq_left (by omega)] at this; exact this)
   have HBD := Lib.hid (show ∀ n, ys.length = n * 11 → n + 1 ≤ 140737488355328 ∧ (n + 1) * 120 ≤ 140737488355328 from fun n hn => by
    have := HLN.out
    have := HV.out.2.2.1
    omega)
   have HK := Lib.hid (show _ ∧ _ ∧ _ from ⟨m1, htk, hfew⟩)
   have q0 : decide (i < rs.length) = true := decide_eq_true hlt
   have q9 : i ≤ 16 := by have := HV.out.2.2.1; omega
   clear hE hE2 k1 m1 htk hfew hr
   go_wp2_with (first | refine u0 ?_ | (refine uS ?_; clear HX; intro w HX) | (refine uA ?_; clear HX; (first | (have hq := b; clear hq; intro w b2 HX) | intro w b HX)) | (refine uP ?_; clear HX; intro w av nv cv HX) | ((with_reducible apply yau' hl); (· rfl); (· rfl); simp only [Act.put, k_a, k_b, k_c]))
   refine (yqd' HX.out.up2 _ r.names (HRL.out.1 _ HK.out.1) (by have := HK.out.2.2; omega)).mono ?_
   rintro e w ⟨v4, rfl, hx⟩
   obtain ⟨E3, hE3⟩ := hx.poolGet k_s
   obtain ⟨ma, mn, mc, rfl, -⟩ := _root_.id hE3
   clear hE3 hl
   replace HX := Lib.hid hx
   clear hx
   go_wp2_with (first | refine u0 ?_ | (refine uS ?_; clear HX; intro w HX) | (refine uA ?_; clear HX; (first | (have hq := b; clear hq; intro w b2 HX) | intro w b HX)) | (refine uP ?_; clear HX; intro w av nv cv HX))
   go_roundg (rs.length - (i + 1))
   case rel =>
    refine ⟨i + 1, _, av, nv, cv, (1, .slice ma mn mc, r.names.map sv) :: P', by omega, rfl, by go_num, fun q hq => k_n _ (HRL.out.1 q hq), ?_, HX.out.pm 4 [0, 2] rfl rfl⟩
    rw [HK.out.2.1]
    exact (HRL.out.2.mono (fun q hq => k_n _ hq)).snoc k_s
   case measure => omega
def yz9' (w0 : World) (o : OutS) (P : List PRow) (R : List Thing) (rows : List (Value × Bs)) (e : Ending) (w' : World) : Prop :=
 ∃ v1 v2 P', e = .returned (.agg (outV o v1 v2)) ∧ (∀ q ∈ P, q ∈ P') ∧ OutIn P' o v1 v2 ∧ Sep w0 w' (yab' w0 P' :: R) rows
theorem ybr' {rs : List ResS} {v : Value} (h : Sep w0 w (yab' w0 P :: R) rows) (hv : RsIn P rs v) : ∃ a n c, v = .slice a n c := by
 obtain ⟨xs, -, hm⟩ := hv
 exact ybc' h hm
set_option maxRecDepth 100000 in
set_option maxHeartbeats 4000000 in
theorem yie' (h : Sep w0 w (yab' w0 P :: R) rows) (o : OutS) (v1 v2 : Value) (hin : OutIn P o v1 v2) (hok : yp8' o) :
  Calls Tryz.prog 169 #[.agg (outV o v1 v2)] w (yz9' w0 o P R rows) := by
 obtain ⟨a1, n1, c1, rfl⟩ := ybr' h hin.1
 obtain ⟨a2, n2, c2, rfl⟩ := ybr' h hin.2
 have HV := Lib.hid (show _ ∧ _ from ⟨hin, hok⟩)
 have HX := Lib.hid h
 obtain ⟨kind, id, ⟨num, zxid, err, at_, rs1⟩, e2, at2, rs2, yes⟩ := o
 clear h hin hok
 unfold outV
 dsimp only at HV ⊢
 go_enter Tryz.func169, Tryz.ntmps169
 go_wp2_with (first | refine u0 ?_ | (refine uS ?_; clear HX; intro w HX) | (refine uA ?_; clear HX; (first | (have hq := b; clear hq; intro w b2 HX) | intro w b HX)))
 refine (yja' HX.out.up2 rs2 _ HV.out.1.2 HV.out.2.2).mono ?_
 rintro e w ⟨v9, P9, rfl, hP9, hv9, hx⟩
 replace HX := Lib.hid hx
 clear hx
 obtain ⟨ra, rn, rc, rfl⟩ := ybr' HX.out hv9
 have H2 := Lib.hid (show _ ∧ _ from ⟨hP9, hv9⟩)
 clear hP9 hv9
 go_wp2_with (first | refine u0 ?_ | (refine uS ?_; clear HX; intro w HX) | (refine uA ?_; clear HX; (first | (have hq := b; clear hq; intro w b2 HX) | intro w b HX)))
 refine (yja' HX.out rs1 _ (HV.out.1.1.mono H2.out.1) HV.out.2.1).mono ?_
 rintro e w ⟨v9, P8, rfl, hP8, hv8, hx⟩
 replace HX := Lib.hid hx
 clear hx
 obtain ⟨sa, sn, sc, rfl⟩ := ybr' HX.out hv8
 have H1 := Lib.hid (show _ ∧ _ from ⟨hP8, hv8⟩)
 clear hP8 hv8
 go_wp2_with (first | refine u0 ?_ | (refine uS ?_; clear HX; intro w HX) | (refine uA ?_; clear HX; (first | (have hq := b; clear hq; intro w b2 HX) | intro w b HX)))
 refine ya9' HX rfl rfl (by (repeat (first | (with_reducible exact k_s) | (with_reducible apply k_m)))) (by kernel_rfl) ?_
 exact ⟨_, _, _, rfl, fun q hq => H1.out.1 q (H2.out.1 q hq), ⟨H1.out.2, H2.out.2.mono H1.out.1⟩, HX.out.cut1.cut1⟩
end
end Go.Proofs.YtcnkifbjlihaoaaGreatDoor

namespace Go.Proofs.YtcnkifbjlihaoaaGreatDoor
open Go.RowKit Go.Av
section
variable {w0 w : World} {P P' : List PRow} {R : List Thing} {rows : List (Value × Bs)}
theorem yzh' (l : List OpS) : ∀ u ∈ l.flatMap OpS.cells, u.oneCell' = true := by
 intro u hu
 obtain ⟨o, -, ho⟩ := List.mem_flatMap.1 hu
 simp only [OpS.cells, List.mem_cons, List.not_mem_nil, or_false] at ho
 rcases ho with rfl | rfl | rfl | rfl | rfl <;> rfl
def yx2' (w0 : World) (P : List PRow) (R : List Thing) (rows : List (Value × Bs)) (l : List OpS) (e : Ending) (w' : World) : Prop :=
 ∃ v, e = .returned v ∧ Sep w0 w' (yaf' 5 v (l.flatMap OpS.cells) :: yab' w0 P :: R) rows
set_option maxRecDepth 100000 in
set_option maxHeartbeats 4000000 in
theorem ye4' (h : Sep w0 w (yab' w0 P :: R) rows) (l : List OpS) (v : Value) (hv : (5, v, l.flatMap OpS.cells) ∈ P) (hn : l.length ≤ 1000) (h0 : l ≠ []) :
  Calls Tryz.prog 73 #[v] w (yx2' w0 P R rows l) := by
 obtain ⟨E, hE⟩ := h.poolGet hv
 obtain ⟨a, n, c, rfl, hl0, -, -, hne⟩ := ReadRow.some hE
 rw [yav' yak'] at hl0
 obtain rfl : l.length = n := by omega
 obtain ⟨g, off, rfl⟩ := hne (by intro e; have := congrArg List.length e; rw [yav' yak'] at this; simp only [List.length_nil] at this; exact h0 (List.eq_nil_of_length_eq_zero (by omega)))
 have hnil := fun (W : World) (a : Option Addr) (n c n' c' : Nat) => Lib.run_eql_slice_nil (P := Tryz.prog) W 30 89 a n c n' c' Tryz.underlying30
 have HV := Lib.hid hv
 have HONE := Lib.hid (yzh' l)
 have HLEN := Lib.hid (show (l.flatMap OpS.cells).length = l.length * 5 from yav' yak' ..)
 have HX := Lib.hid h
 clear h hv hE hne hl0 h0
 go_enter Tryz.func73, Tryz.ntmps73
 go_wp2_with (first | refine u0 ?_ | (refine uS ?_; clear HX; intro w HX) | (refine uA ?_; clear HX; (first | (have hq := b; clear hq; intro w b2 HX) | intro w b HX)) | (refine yzy' HX sl_op ?_; clear HX; intro w b3 HX; simp only [Act.put, k_a, k_b, k_c]) | ((with_reducible apply yzw' HX); (· exact sl_op); (· rfl); (· rfl); (· (repeat (first | (with_reducible exact Rem.here) | (with_reducible apply Rem.there)))); (· (repeat (first | (with_reducible exact k_s) | (with_reducible apply k_m)))); (· exact HV.out); (· exact HONE.out); (· (intro n m hn2 hm; have := HLEN.out; simp only [List.length_nil] at hn2; omega)); clear HX; intro w av nv cv HX; simp only [Act.put, k_a, k_b, k_c]))
 go_ret
 refine ⟨_, rfl, ?_⟩
 have h1 := HX.out
 rw [List.nil_append] at h1
 exact h1
end
end Go.Proofs.YtcnkifbjlihaoaaGreatDoor

namespace Go.Av
theorem yq4' {S : PartS} {id sess : Int} {ops : List OpS} (h : ych' S id sess = true) : yd1' S id sess ops = ((1, -1), S) := by unfold yd1'; rw [if_pos h]
theorem ywe' {S : PartS} {id sess : Int} {ops : List OpS} (h : ych' S id sess = false) (h1 : mayS sess 1 ops ≠ 0) : yd1' S id sess ops = ((mayS sess 1 ops, -1), S) := by unfold yd1'; rw [if_neg (by rw [h]; exact Bool.false_ne_true), if_pos h1]
theorem yti' {S : PartS} {id sess : Int} {ops : List OpS} (h : ych' S id sess = false) (h1 : mayS sess 1 ops = 0) (h2 : (ydk' S id sess ops).1 ≠ 0) : yd1' S id sess ops = (ydk' S id sess ops, S) := by unfold yd1'; rw [if_neg (by rw [h]; exact Bool.false_ne_true), if_neg (fun hh => hh h1), if_pos h2]
theorem ytj' {S : PartS} {id sess : Int} {ops : List OpS} (h : ych' S id sess = false) (h1 : mayS sess 1 ops = 0) (h2 : (ydk' S id sess ops).1 = 0) : yd1' S id sess ops =
 (if (ybv' S.t sess S.zxid ops).2.2 = true then (0, -1) else ((ybv' S.t sess S.zxid ops).1.err, (ybv' S.t sess S.zxid ops).1.at_),
  { S with held := ybb' S.held id ops, wait := S.wait ++ [(id, ⟨sess, ops, false, !(ybv' S.t sess S.zxid ops).2.2⟩)] }) := by
 unfold yd1'; rw [if_neg (by rw [h]; exact Bool.false_ne_true), if_neg (fun hh => hh h1), if_neg (fun hh => hh h2)]
theorem yv2' {sess num : Int} {l : List OpS} (h : mayS sess num l = 0) : l ≠ [] := by
 rintro rfl
 unfold mayS at h
 rw [if_pos (show sess < 1 ∨ num < 1 ∨ ([] : List OpS).length = 0 from .inr (.inr rfl))] at h
 exact absurd h (by decide)
end Go.Av
namespace Go.Proofs.YtcnkifbjlihaoaaGreatDoor
open Go.RowKit Go.Av
section
variable {w0 w : World} {b : Nat} {S : PartS} {P P' : List PRow} {R : List Thing} {rows : List (Value × Bs)}
def PrpP (w0 : World) (b : Nat) (P : List PRow) (R : List Thing) (rows : List (Value × Bs)) (m : (Int × Int) × PartS) (e : Ending) (w' : World) : Prop :=
 ∃ P', e = .returned (.tuple #[.int .i64 m.1.1, .int .i64 m.1.2]) ∧ (∀ q ∈ P, q ∈ P') ∧ Sep w0 w' (yab' w0 P' :: ybk' b m.2 P' :: R) rows
def yjw' (w0 : World) (b b2 : Nat) (rc : Array Value) (id : Int) (ops : List OpS) (S : PartS) (P : List PRow) (R : List Thing) (rows : List (Value × Bs)) (k : Nat) (v : Value) (w : World) : Prop :=
 ∃ (i : Nat) (P' : List PRow), i + k = ops.length ∧ v = .int .i64 (i : Int) ∧ (∀ q ∈ P, q ∈ P') ∧ Sep w0 w (yab' w0 P' :: ybk' b { S with held := ybb' S.held id (ops.take i) } P' :: yac' b2 (.cells rc 39 (0, 0)) :: R) rows
set_option maxRecDepth 100000 in
set_option maxHeartbeats 8000000 in
theorem ywd' {K : Nat} (h : Sep w0 w (yab' w0 P :: ybk' b S P :: R) rows) (hd : DoorN w0) (hB : PartB K S) (hK : K ≤ 1000) (id sess : Int) (ops : List OpS) (v : Value) (hv : (5, v, ops.flatMap OpS.cells) ∈ P) (hp : ∀ o ∈ ops, o.path.size ≤ 100000) :
  Calls Tryz.prog 17 #[.pointer (some ⟨b, 0, none⟩), .int .i64 id, .int .i64 sess, v] w (PrpP w0 b P R rows (yd1' S id sess ops)) := by
 obtain ⟨E, hE⟩ := h.poolGet hv
 obtain ⟨a, n, c, rfl, hl0, -, -, hne⟩ := ReadRow.some hE
 rw [yav' yak'] at hl0
 obtain rfl : ops.length = n := by omega
 have HNE := Lib.hid hne
 have HV := Lib.hid (show _ ∧ _ from ⟨hv, hp⟩)
 have HB := Lib.hid (show _ ∧ _ from ⟨hB, hK⟩)
 have HX := Lib.hid h
 obtain ⟨rr, hrr⟩ : ∃ rr, yd1' S id sess ops = rr := ⟨_, rfl⟩
 rw [hrr]
 have HRR := Lib.hid hrr
 clear h hE hv hp hB hK hrr hl0 hne
 go_enter Tryz.func17, Tryz.ntmps17
 go_wp2_with (first | refine u0 ?_ | (refine uS ?_; clear HX; intro w HX) | (refine uA ?_; clear HX; (first | (have hq := b3; clear hq; intro w b4 HX) | (have hq := b2; clear hq; intro w b3 HX) | (have hq := b; clear hq; intro w b2 HX) | intro w b HX)))
 refine (ymj' HX.out id sess).mono ?_
 obtain ⟨zk, hzk⟩ : ∃ z, ych' S id sess = z := ⟨_, rfl⟩
 rw [hzk]
 rintro e w ⟨rfl, hx⟩
 replace HX := Lib.hid hx
 have HZK := Lib.hid hzk
 clear hx hzk
 cases zk with
 | true =>
  obtain rfl : rr = ((1, -1), S) := by rw [← HRR.out]; exact yq4' HZK.out
  go_wp2_with (first | refine u0 ?_ | (refine uS ?_; clear HX; intro w HX) | (refine uA ?_; clear HX; (first | (have hq := b3; clear hq; intro w b4 HX) | (have hq := b2; clear hq; intro w b3 HX) | (have hq := b; clear hq; intro w b2 HX) | intro w b HX)))
  go_ret2
  exact ⟨P, rfl, fun q hq => hq, HX.out⟩
 | false =>
  obtain ⟨me, hme⟩ : ∃ me, mayS sess 1 ops = me := ⟨_, rfl⟩
  have HME := Lib.hid hme
  clear hme
  go_wp2_with (first | refine u0 ?_ | (refine uS ?_; clear HX; intro w HX) | (refine uA ?_; clear HX; (first | (have hq := b3; clear hq; intro w b4 HX) | (have hq := b2; clear hq; intro w b3 HX) | (have hq := b; clear hq; intro w b2 HX) | intro w b HX)))
  refine (yi2' HX.out hd sess 1 ops _ HV.out.1 HV.out.2).mono ?_
  rw [HME.out]
  rintro e w ⟨rfl, hx⟩
  replace HX := Lib.hid hx
  clear hx
  by_cases h0 : me = 0
  case neg =>
   have q1 : (me != 0) = true := by rw [bne_iff_ne]; exact h0
   obtain rfl : rr = ((me, -1), S) := by rw [← HRR.out, ywe' HZK.out (by rw [HME.out]; exact h0), HME.out]
   clear h0
   go_wp2_with (first | refine u0 ?_ | (refine uS ?_; clear HX; intro w HX) | (refine uA ?_; clear HX; (first | (have hq := b3; clear hq; intro w b4 HX) | (have hq := b2; clear hq; intro w b3 HX) | (have hq := b; clear hq; intro w b2 HX) | intro w b HX)))
   go_ret2
   exact ⟨P, rfl, fun q hq => hq, HX.out⟩
  case pos =>
   subst h0
   have HGD := Lib.hid (ye7' HME.out)
   have HGD0 := Lib.hid (yv2' HME.out)
   go_wp2_with (first | refine u0 ?_ | (refine uS ?_; clear HX; intro w HX) | (refine uA ?_; clear HX; (first | (have hq := b3; clear hq; intro w b4 HX) | (have hq := b2; clear hq; intro w b3 HX) | (have hq := b; clear hq; intro w b2 HX) | intro w b HX)))
   refine (yo6' HX.out hd id sess ops _ HV.out.1 (fun o ho => yex' (HGD.out.2 o ho)) (by have := HGD.out.1; omega) HB.out.1.keys (by have := HB.out.1.wanted; have := HB.out.2; omega) (fun e he => by have := (HB.out.1.wait e he).1; omega) ⟨HB.out.1.tree.many, HB.out.1.tree.room.2⟩).mono ?_
   obtain ⟨⟨be, bat⟩, hbs⟩ : ∃ r, ydk' S id sess ops = r := ⟨_, rfl⟩
   rw [hbs]
   have HBS := Lib.hid hbs
   rintro e w ⟨P2, rfl, hP2, hx⟩
   clear HX hbs
   have HX := Lib.hid hx
   have HP2 := Lib.hid hP2
   clear hx hP2
   by_cases h0 : be = 0
   case neg =>
    have q1 : (be != 0) = true := by rw [bne_iff_ne]; exact h0
    obtain rfl : rr = ((be, bat), S) := by rw [← HRR.out, yti' HZK.out HME.out (by rw [HBS.out]; exact h0), HBS.out]
    clear h0
    go_wp2_with (first | refine u0 ?_ | (refine uS ?_; clear HX; intro w HX) | (refine uA ?_; clear HX; (first | (have hq := b3; clear hq; intro w b4 HX) | (have hq := b2; clear hq; intro w b3 HX) | (have hq := b; clear hq; intro w b2 HX) | intro w b HX)))
    go_ret2
    exact ⟨P2, rfl, HP2.out, HX.out⟩
   case pos =>
    subst h0
    have HR2 := Lib.hid (HRR.out.symm.trans (ytj' HZK.out HME.out (by rw [HBS.out])))
    clear HRR
    go_wp2_with (first | refine u0 ?_ | (refine uS ?_; clear HX; intro w HX) | (refine uA ?_; clear HX; (first | (have hq := b3; clear hq; intro w b4 HX) | (have hq := b2; clear hq; intro w b3 HX) | (have hq := b; clear hq; intro w b2 HX) | intro w b HX)))
    obtain ⟨t, lk, mw, md, mc, gs, hgs, hgv, hS⟩ := ybt' HX.out.up1
    have HG := Lib.hid (show _ ∧ _ from ⟨hgs, hgv⟩)
    obtain ⟨R', hR'⟩ : ∃ R', ThLk lk S.held :: yam' (.int .i64) mw (gs.map WaitG.kv) :: yam' (.int .i64) md (S.decided.map ikv) :: yam' (.int .i64) mc (S.closed.map ikv) :: R = R' := ⟨_, rfl⟩
    have h3 : Sep w0 w (yab' w0 P2 :: yaj' t S.t P2 :: yac' b (.cells (yai' S.t.room t lk S.zxid mw md mc) 123 (0, 0)) :: R') rows := by
     rw [← hR']
     exact hS.pm 7 [6, 1, 0, 2, 3, 4, 5] rfl rfl
    have HRR2 := Lib.hid hR'
    obtain ⟨⟨⟨n1, z1, e1, t1, rs1⟩, S2, ok1⟩, hm1⟩ : ∃ m1, ybv' S.t sess S.zxid ops = m1 := ⟨_, rfl⟩
    have hr2 := HR2.out
    rw [hm1] at hr2
    have HR3 := Lib.hid hr2
    have HM1 := Lib.hid hm1
    clear HX hgs hgv hS hR' hr2 HR2 hm1
    have HX := Lib.hid h3
    clear h3
    refine rM (fun W => (∃ Ts, Sep w0 W (yac' b (.cells (yai' S.t.room t lk S.zxid mw md mc) 123 (0, 0)) :: Ts) rows)) 16 ?_
    intro KEEPX
    replace HX := Lib.hid HX.out.drew
    have hl : ∀ V, (∃ Ts, Sep w0 V (yac' b (.cells (yai' S.t.room t lk S.zxid mw md mc) 123 (0, 0)) :: Ts) rows) → (Instr.loadAt 65 (.pointer (some ⟨b, 1, none⟩))).run Tryz.prog V = .ok (.pointer (some ⟨t, 0, none⟩)) V := by
     rintro V ⟨Ts, hV⟩
     exact yae' (by kernel_rfl) (yaa' hV.blk 1 rfl)
    have hl2 : ∀ V, (∃ Ts, Sep w0 V (yac' b (.cells (yai' S.t.room t lk S.zxid mw md mc) 123 (0, 0)) :: Ts) rows) → (Instr.loadAt 2 (.pointer (some ⟨b, 3, none⟩))).run Tryz.prog V = .ok (.int .i64 S.zxid) V := by
     rintro V ⟨Ts, hV⟩
     exact yae' (by kernel_rfl) (yaa' hV.blk 3 rfl)
    refine rT [(0, false), (1, false), (2, false), (3, true), (5, false), (6, false), (7, false), (8, false), (9, true), (10, false)] 8 ?_
    apply Exists.intro; refine ⟨?_, ⟨_, HX.out.up2⟩, ?_⟩
    ·iterate 10 (refine xE ?_)
     exact rfl
    clear hl hl2
    refine yce' (fuel := 7) [4, 15] (by kernel_rfl) (by simp) (fun i hi => ?_)
    simp only [List.mem_cons, List.not_mem_nil, or_false] at hi
    rcases hi with rfl | rfl
    ·refine ⟨_, (by (simp only [k_i, k_j, k_k]; try rfl)), fun K hK => ?_⟩
     go_wp2_with fail
     refine (yd8' HX.out (HB.out.1.tree.ok (by have := HB.out.2; omega))).mono ?_
     rintro e w ⟨tc, P3, rfl, hP3, hx⟩
     replace HX := Lib.hid hx
     have HP3 := Lib.hid hP3
     clear hx hP3
     go_wp2_with fail
     refine hK _ _ ⟨_, HX.out.up3⟩ ?_
     clear hK
     refine yce' (fuel := 6) [11, 15] (by kernel_rfl) (by simp) (fun i hi => ?_)
     simp only [List.mem_cons, List.not_mem_nil, or_false] at hi
     rcases hi with rfl | rfl
     ·refine ⟨_, (by (simp only [k_i, k_j, k_k]; try rfl)), fun K hK => ?_⟩
      go_wp2_with fail
      have hrq := yhs' HX.out hd HB.out.1.tree (by have := HB.out.2; omega) sess S.zxid ops _ (HP3.out _ (HP2.out _ HV.out.1)) HV.out.2
      rw [HM1.out] at hrq
      refine hrq.mono ?_
      clear hrq
      rintro e w ⟨v9, P4, rfl, hP4, ⟨a9, n9, c9, xs9, rfl, hrl9, hmem9⟩, hx⟩
      replace HX := Lib.hid hx
      have HP4 := Lib.hid hP4
      clear hx hP4 hrl9 hmem9
      dsimp only at HX ⊢
      go_wp2_with fail
      refine hK _ _ ⟨_, HX.out.up3⟩ ?_
      clear hK
      refine rT [(12, false), (13, false), (14, false)] 3 ?_
      apply Exists.intro; refine ⟨?_, ⟨_, HX.out.up3⟩, ?_⟩
      ·iterate 3 (refine xE ?_)
       exact rfl
      refine r1 2 15 fun K hK => ?_
      go_wp2_with (first | refine u0 ?_ | (refine uS ?_; clear HX; intro w HX) | (refine uA ?_; clear HX; (first | (have hq := b3; clear hq; intro w b4 HX) | (have hq := b2; clear hq; intro w b3 HX) | (have hq := b; clear hq; intro w b2 HX) | intro w b HX)))
      refine hK _ _ ⟨_, HX.out.up4⟩ ?_
      clear hK
      refine rL [16, 17] 0 ?_
      simp only [List.filterMap_cons, List.filterMap_nil, k_i, k_j, k_k]
      (with_reducible apply yc4' HX)
      ·rfl
      ·rfl
      ·rfl
      ·kernel_rfl
      ·(repeat (first | (with_reducible exact Rep.here) | (with_reducible apply Rep.there)))
      ·rfl
      ·rfl
      clear HX
      intro w HX
      simp only [Act.put, k_a, k_b, k_c, yb2', Nat.reduceAdd] at HX ⊢
      go_wp2_with (first | refine u0 ?_ | (refine uS ?_; clear HX; intro w HX) | (refine uA ?_; clear HX; (first | (have hq := b3; clear hq; intro w b4 HX) | (have hq := b2; clear hq; intro w b3 HX) | (have hq := b; clear hq; intro w b2 HX) | intro w b HX)))
      have h9 := HX.out.up1.up2
      replace HX := Lib.hid h9
      clear h9
      have h5 := HX.out
      rw [← HRR2.out] at h5
      have hq5 : Sep w0 w (yaj' t S.t P3 :: yac' b (.cells (yai' S.t.room t lk S.zxid mw md mc) 123 (0, 0)) :: ThLk lk S.held :: yam' (.int .i64) mw (gs.map WaitG.kv) :: yam' (.int .i64) md (S.decided.map ikv) :: yam' (.int .i64) mc (S.closed.map ikv) :: yab' w0 P4 :: yac' b2 (.cells #[.int .i64 n1, .int .i64 z1, .int .i64 e1, .int .i64 t1, .slice a9 n9 c9] 39 (0, 0)) :: R) rows := h5.pm 9 [3,4,5,6,7,8,1,2] rfl rfl
      have h6 := yaz' hq5 HP4.out
      have h7 := ya7' h6.up1 HG.out.1 (fun g hg => HP4.out _ (HP3.out _ (HG.out.2 g hg)))
      have HST := Lib.hid (show yjw' w0 b b2 #[.int .i64 n1, .int .i64 z1, .int .i64 e1, .int .i64 t1, .slice a9 n9 c9] id ops S P R rows ops.length (.int .i64 (0 : Int)) w from ⟨0, P4, by simp, rfl, fun q hq => HP4.out _ (HP3.out _ (HP2.out _ hq)), h7.up1⟩)
      clear HX h5 hq5 h6 h7 HG HRR2 HP2 HP3 HP4 HM1
      try clear KEEPX
      go_loopg [16, 57] ops.length (fun k _ v wr => yjw' w0 b b2 #[.int .i64 n1, .int .i64 z1, .int .i64 e1, .int .i64 t1, .slice a9 n9 c9] id ops S P R rows k v wr)
      case atStart => exact HST.out
      case round =>
       rename World => w
       obtain ⟨i, P5, hik, rfl, hP5, hS⟩ := hrel
       clear HST
       have HX := Lib.hid hS
       have HP5 := Lib.hid hP5
       clear hS hP5
       by_cases hlt : i < ops.length
       case neg =>
        obtain rfl : i = ops.length := by omega
        rw [List.take_length] at HX
        have q0 : decide ((ops.length : Int) < (ops.length : Int)) = false := decide_eq_false (by omega)
        have hol : ops.length ≤ 1000 := by have := HGD.out.1; omega
        have q9 : decide (ops.length < ops.length) = false := decide_eq_false (by omega)
        clear hlt hik
        go_wp2_with (first | refine u0 ?_ | (refine uS ?_; clear HX; intro w HX) | (refine uA ?_; clear HX; (first | (have hq := b3; clear hq; intro w b4 HX) | (have hq := b2; clear hq; intro w b3 HX) | (have hq := b; clear hq; intro w b2 HX) | intro w b HX)))
        obtain ⟨t, lk, mw, md, mc, gs, hgs, hgv, hS⟩ := ybt' HX.out.up1
        have HG := Lib.hid (show _ ∧ _ from ⟨hgs, hgv⟩)
        obtain ⟨R', hR'⟩ : ∃ R', yaj' t S.t P5 :: ThLk lk (ybb' S.held id ops) :: yam' (.int .i64) md (S.decided.map ikv) :: yam' (.int .i64) mc (S.closed.map ikv) :: R = R' := ⟨_, rfl⟩
        have h3 : Sep w0 w (yab' w0 P5 :: yac' b (.cells (yai' S.t.room t lk S.zxid mw md mc) 123 (0, 0)) :: yam' (.int .i64) mw (gs.map WaitG.kv) :: yac' b2 (.cells #[.int .i64 n1, .int .i64 z1, .int .i64 e1, .int .i64 t1, .slice a9 n9 c9] 39 (0, 0)) :: R') rows := by
         rw [← hR']
         exact hS.pm 8 [6, 0, 3, 7, 1, 2, 4, 5] rfl rfl
        have HRR2 := Lib.hid hR'
        clear HX hgs hgv hS hR'
        have HX := Lib.hid h3
        clear h3
        refine rM (fun W => (∃ Ts, Sep w0 W (yac' b (.cells (yai' S.t.room t lk S.zxid mw md mc) 123 (0, 0)) :: Ts) rows)) 12 ?_
        intro KEEPX
        replace HX := Lib.hid HX.out.drew
        have hl : ∀ V, (∃ Ts, Sep w0 V (yac' b (.cells (yai' S.t.room t lk S.zxid mw md mc) 123 (0, 0)) :: Ts) rows) → (Instr.loadAt 120 (.pointer (some ⟨b, 4, none⟩))).run Tryz.prog V = .ok (.map (some mw)) V := by
         rintro V ⟨Ts, hV⟩
         exact yae' (by kernel_rfl) (yaa' hV.blk 4 rfl)
        refine rT [(0, false), (1, false), (2, false), (3, true), (4, false), (5, false), (6, false), (8, false), (9, false)] 3 ?_
        apply Exists.intro; refine ⟨?_, ⟨_, HX.out.up1⟩, ?_⟩
        ·iterate 9 (refine xE ?_)
         exact rfl
        clear hl
        refine r1 2 7 fun K hK => ?_
        go_wp2_with fail
        refine (ye4' HX.out ops _ (HP5.out _ HV.out.1) hol HGD0.out).mono ?_
        rintro e w ⟨v9, rfl, hx⟩
        obtain ⟨ka, kn, kc, rfl, -⟩ := hx.rowLen
        have h9 := hx.poolRow
        clear HX hx
        have HX := Lib.hid h9
        clear h9
        go_wp2_with fail
        refine hK _ _ ⟨_, HX.out.up1⟩ ?_
        clear hK
        refine rT [(10, false)] 1 ?_
        apply Exists.intro; refine ⟨?_, ⟨_, HX.out.up1⟩, ?_⟩
        ·iterate 1 (refine xE ?_)
         exact rfl
        refine r1 0 11 fun K hK => ?_
        obtain ⟨w9, hrun, h9⟩ := Sep.mapAdd (P := Tryz.prog) (key := .int .i64 id) (v := .agg #[.int .i64 sess, .slice ka kn kc, .bool false, .bool (!ok1)]) HX.out.up2 Tryz.underlying120 Tryz.underlying2 (by first | trivial | rfl | exact ⟨_, rfl⟩) (fun q hq e => by
         obtain ⟨g, hg, rfl⟩ := List.mem_map.1 hq
         simp only [WaitG.kv, Value.int.injEq, true_and] at e
         have h1 := ygp' HZK.out
         have h2 : S.wait = gs.map WaitG.ent := HG.out.1.symm
         rw [h2, yj3', List.any_eq_false] at h1
         exact h1 g hg (by rw [e]; exact beq_self_eq_true _))
        have H9 := Lib.hid h9
        clear h9
        go_wp2_with fail
        refine hK _ _ ⟨_, H9.out.up2⟩ ?_
        clear hK
        refine yag' (by kernel_rfl) ?_ _
        have h6 := H9.out
        rw [← HRR2.out] at h6
        have h7 := yaz' (P' := (5, Value.slice ka kn kc, ops.flatMap OpS.cells) :: P5) h6.up4 (fun q hq => k_n _ hq)
        have h8 := ya7' (b := b) (t := t) (lk := lk) (mw := mw) (md := md) (mc := mc) (gs := gs ++ [⟨id, ⟨sess, ops, false, !ok1⟩, .slice ka kn kc⟩]) (S := { S with held := ybb' S.held id ops, wait := S.wait ++ [(id, ⟨sess, ops, false, !ok1⟩)] }) (R := yab' w0 ((5, Value.slice ka kn kc, ops.flatMap OpS.cells) :: P5) :: yac' b2 (.cells #[.int .i64 n1, .int .i64 z1, .int .i64 e1, .int .i64 t1, .slice a9 n9 c9] 39 (0, 0)) :: R) (by rw [List.map_append]; exact h7.pm 8 [3, 0, 5, 1, 6, 7, 2, 4] rfl rfl) (by rw [List.map_append, HG.out.1]; rfl) (fun g hg => by
         rcases List.mem_append.1 hg with hg | hg
         ·exact k_n _ (HG.out.2 g hg)
         ·rw [List.mem_singleton] at hg
          rw [hg]
          exact k_s)
        clear HX H9 hrun h6 h7
        have HX := Lib.hid h8
        clear h8
        rename World => w
        cases ok1 with
        | true =>
         obtain rfl : rr = ((0, -1), { S with held := ybb' S.held id ops, wait := S.wait ++ [(id, ⟨sess, ops, false, !true⟩)] }) := HR3.out
         go_wp2_with (first | refine u0 ?_ | (refine uS ?_; clear HX; intro w HX) | (refine uA ?_; clear HX; (first | (have hq := b3; clear hq; intro w b4 HX) | (have hq := b2; clear hq; intro w b3 HX) | (have hq := b; clear hq; intro w b2 HX) | intro w b HX)))
         go_ret2
         exact ⟨_, rfl, fun q hq => k_n _ (HP5.out q hq), HX.out.pm 3 [1, 0] rfl rfl⟩
        | false =>
         obtain rfl : rr = ((e1, t1), { S with held := ybb' S.held id ops, wait := S.wait ++ [(id, ⟨sess, ops, false, !false⟩)] }) := HR3.out
         go_wp2_with (first | refine u0 ?_ | (refine uS ?_; clear HX; intro w HX) | (refine uA ?_; clear HX; (first | (have hq := b3; clear hq; intro w b4 HX) | (have hq := b2; clear hq; intro w b3 HX) | (have hq := b; clear hq; intro w b2 HX) | intro w b HX)))
         refine yao' (fun W => W = w.drew) 6 (by kernel_rfl) ?_
         replace HX := Lib.hid HX.out.drew
         generalize w.drew = w at HX ⊢
         refine rT [(0, false), (1, true), (2, false), (3, true), (4, false), (5, false)] 0 ?_
         apply Exists.intro; refine ⟨?_, rfl, ?_⟩
         ·iterate 6 (refine xD ?_)
          exact rfl
         refine yag' (by kernel_rfl) ?_ _
         go_wp2_with (first | refine u0 ?_ | (refine uS ?_; clear HX; intro w HX) | (refine uA ?_; clear HX; (first | (have hq := b3; clear hq; intro w b4 HX) | (have hq := b2; clear hq; intro w b3 HX) | (have hq := b; clear hq; intro w b2 HX) | intro w b HX)))
         go_ret2
         exact ⟨_, rfl, fun q hq => k_n _ (HP5.out q hq), HX.out.pm 3 [1, 0] rfl rfl⟩
       case pos =>
        obtain ⟨g, off, rfl⟩ := HNE.out (by intro e; have := congrArg List.length e; rw [yav' yak'] at this; simp at this; omega)
        obtain ⟨E, hE⟩ := HX.out.poolGet (HP5.out _ HV.out.1)
        have hl := ycs' (P := Tryz.prog) (f := OpS.cells) (i := i) hE yak' sn_op hlt
        have HTK := Lib.hid (show ops.take (i + 1) = ops.take i ++ [ops[i]] from List.take_succ_eq_append_getElem hlt)
        have hgo := HGD.out.2 ops[i] (List.getElem_mem hlt)
        obtain ⟨o, ho⟩ : ∃ o, ops[i] = o := ⟨_, rfl⟩
        rw [ho] at hl HTK hgo
        have hsz := yex' hgo
        have HGO := Lib.hid hsz
        have q0 : decide (i < ops.length) = true := decide_eq_true hlt
        have q9 : i ≤ 16 := by have := HGD.out.1; omega
        have HWL := Lib.hid (yhd' o (K := 100000) (by show o.path.data.toList.length ≤ _; have := hsz.1; simpa using this) (by omega))
        have HHL := Lib.hid (show ∀ e ∈ ybb' S.held id (ops.take i), e.1.length ≤ 100000 from fun e he => by have := yb8' (yc6' _ HB.out.1.held e he); omega)
        obtain ⟨H1, hH1⟩ : ∃ H1, ybb' S.held id (ops.take i) = H1 := ⟨_, rfl⟩
        rw [hH1] at HX HHL
        have HH1 := Lib.hid hH1
        obtain ⟨kind, path, data, ver, flags⟩ := o
        simp only [OpS.cells] at hl
        clear hE ho hgo hsz hH1
        go_wp2_with (first | refine u0 ?_ | (refine uS ?_; clear HX; intro w HX) | (refine uA ?_; clear HX; (first | (have hq := b3; clear hq; intro w b4 HX) | (have hq := b2; clear hq; intro w b3 HX) | (have hq := b; clear hq; intro w b2 HX) | intro w b HX)) | ((with_reducible apply yau' hl); (· rfl); (· rfl); simp only [Act.put, k_a, k_b, k_c]))
        obtain ⟨t, lk, mw, md, mc, gs, hgs, hgv, hS⟩ := ybt' HX.out.up2
        have HG := Lib.hid (show _ ∧ _ from ⟨hgs, hgv⟩)
        obtain ⟨R', hR'⟩ : ∃ R', yaj' t S.t P5 :: yam' (.int .i64) mw (gs.map WaitG.kv) :: yam' (.int .i64) md (S.decided.map ikv) :: yam' (.int .i64) mc (S.closed.map ikv) :: yac' b2 (.cells #[.int .i64 n1, .int .i64 z1, .int .i64 e1, .int .i64 t1, .slice a9 n9 c9] 39 (0, 0)) :: R = R' := ⟨_, rfl⟩
        have h3 : Sep w0 w (yab' w0 P5 :: ThLk lk H1 :: yac' b (.cells (yai' S.t.room t lk S.zxid mw md mc) 123 (0, 0)) :: yac' b3 (.cells #[.int .i64 kind, .string path, .string data, .int .i64 ver, .int .i64 flags] 89 (0, 0)) :: R') rows := by
         rw [← hR']
         exact hS.pm 9 [7, 2, 0, 6, 1, 3, 4, 5, 8] rfl rfl
        have HRR2 := Lib.hid hR'
        clear HX hl hgs hgv hS hR'
        have HX := Lib.hid h3
        clear h3
        refine rM (fun W => (∃ Ts, Sep w0 W (yac' b (.cells (yai' S.t.room t lk S.zxid mw md mc) 123 (0, 0)) :: yac' b3 (.cells #[.int .i64 kind, .string path, .string data, .int .i64 ver, .int .i64 flags] 89 (0, 0)) :: Ts) rows)) 8 ?_
        intro KEEPX
        replace HX := Lib.hid HX.out.drew
        have hl : ∀ V, (∃ Ts, Sep w0 V (yac' b (.cells (yai' S.t.room t lk S.zxid mw md mc) 123 (0, 0)) :: yac' b3 (.cells #[.int .i64 kind, .string path, .string data, .int .i64 ver, .int .i64 flags] 89 (0, 0)) :: Ts) rows) → (Instr.loadAt 118 (.pointer (some ⟨b, 2, none⟩))).run Tryz.prog V = .ok (.pointer (some ⟨lk, 0, none⟩)) V := by
         rintro V ⟨Ts, hV⟩
         exact yae' (by kernel_rfl) (yaa' hV.blk 2 rfl)
        have hl2 : ∀ V, (∃ Ts, Sep w0 V (yac' b (.cells (yai' S.t.room t lk S.zxid mw md mc) 123 (0, 0)) :: yac' b3 (.cells #[.int .i64 kind, .string path, .string data, .int .i64 ver, .int .i64 flags] 89 (0, 0)) :: Ts) rows) → (Instr.loadAt 89 (.pointer (some ⟨b3, 0, none⟩))).run Tryz.prog V = .ok (.agg #[.int .i64 kind, .string path, .string data, .int .i64 ver, .int .i64 flags]) V := by
         rintro V ⟨Ts, hV⟩
         exact ya1' sn_op.1 hV.up1.blk (Nat.le_refl 5)
        refine rT [(0, false), (1, false), (2, false), (3, true), (4, false), (5, true)] 2 ?_
        apply Exists.intro; refine ⟨?_, ⟨_, HX.out.up3.up3⟩, ?_⟩
        ·iterate 6 (refine xE ?_)
         exact rfl
        clear hl hl2
        refine r1 1 6 fun K hK => ?_
        go_wp2_with fail
        refine (yhb' HX.out hd ⟨kind, path, data, ver, flags⟩ HGO.out.1 HGO.out.2.1 HGO.out.2.2).mono ?_
        rintro e w ⟨vw, rfl, hx⟩
        obtain ⟨wa, wn, wc, rfl, -⟩ := hx.rowLen
        obtain ⟨Q, hQ⟩ : ∃ Q, (1, Value.slice wa wn wc, (yay' ⟨kind, path, data, ver, flags⟩).map sv) :: P5 = Q := ⟨_, rfl⟩
        have h9 := hx.poolRow
        rw [hQ] at h9
        have HQ := Lib.hid (show (1, Value.slice wa wn wc, (yay' ⟨kind, path, data, ver, flags⟩).map sv) ∈ Q ∧ ∀ q ∈ P5, q ∈ Q from ⟨by rw [← hQ]; exact k_s, by rw [← hQ]; exact fun q hq => k_n _ hq⟩)
        clear HX hx hQ
        have HX := Lib.hid h9
        clear h9
        go_wp2_with fail
        refine hK _ _ ⟨_, HX.out.up3.up3⟩ ?_
        clear hK
        refine r1 0 7 fun K hK => ?_
        go_wp2_with fail
        refine (yio' HX.out hd id (yay' ⟨kind, path, data, ver, flags⟩) _ HQ.out.1 HWL.out HHL.out (yhc' _)).mono ?_
        rintro e w ⟨rfl, hx⟩
        replace HX := Lib.hid hx
        clear hx
        go_wp2_with fail
        refine hK _ _ ⟨_, HX.out.up3.up3⟩ ?_
        clear hK
        refine yag' (by kernel_rfl) ?_ _
        have h6 := HX.out
        rw [← HRR2.out] at h6
        have h7 := yaz' (P' := Q) h6.up4 HQ.out.2
        have h8 := ya7' (b := b) (t := t) (lk := lk) (mw := mw) (md := md) (mc := mc) (gs := gs) (S := { S with held := yc5' H1 id (yay' ⟨kind, path, data, ver, flags⟩) }) (R := yab' w0 Q :: yac' b2 (.cells #[.int .i64 n1, .int .i64 z1, .int .i64 e1, .int .i64 t1, .slice a9 n9 c9] 39 (0, 0)) :: R) (h7.pm 9 [3, 0, 2, 5, 6, 7, 1, 8] rfl rfl) HG.out.1 (fun g hg => HQ.out.2 _ (HG.out.2 g hg))
        have HNX := Lib.hid (show ybb' S.held id (ops.take (i + 1)) = yc5' H1 id (yay' ⟨kind, path, data, ver, flags⟩) by rw [HTK.out, ← HH1.out]; unfold ybb'; rw [List.foldl_append]; rfl)
        clear HX h6 h7
        have HX := Lib.hid h8
        clear h8
        go_wp2_with (first | refine u0 ?_ | (refine uS ?_; clear HX; intro w HX) | (refine uA ?_; clear HX; (first | (have hq := b3; clear hq; intro w b4 HX) | (have hq := b2; clear hq; intro w b3 HX) | (have hq := b; clear hq; intro w b2 HX) | intro w b HX)))
        go_roundg (ops.length - (i + 1))
        case rel => exact ⟨i + 1, Q, by omega, by go_num, fun q hq => HQ.out.2 q (HP5.out q hq), by rw [HNX.out]; exact HX.out.pm 3 [1, 0, 2] rfl rfl⟩
        case measure => omega
     ·refine ⟨_, (by (simp only [k_i, k_j, k_k]; try rfl)), fun K hK => ?_⟩
      go_wp2_with (first | refine u0 ?_ | (refine uS ?_; clear HX; intro w HX) | (refine uA ?_; clear HX; (first | (have hq := b3; clear hq; intro w b4 HX) | (have hq := b2; clear hq; intro w b3 HX) | (have hq := b; clear hq; intro w b2 HX) | intro w b HX)))
      refine hK _ _ ⟨_, HX.out.up4⟩ ?_
      clear hK
      refine r1 5 11 fun K hK => ?_
      go_wp2_with fail
      have hrq := yhs' HX.out.up2.up2 hd HB.out.1.tree (by have := HB.out.2; omega) sess S.zxid ops _ (HP3.out _ (HP2.out _ HV.out.1)) HV.out.2
      rw [HM1.out] at hrq
      refine hrq.mono ?_
      clear hrq
      rintro e w ⟨v9, P4, rfl, hP4, ⟨a9, n9, c9, xs9, rfl, hrl9, hmem9⟩, hx⟩
      replace HX := Lib.hid hx
      have HP4 := Lib.hid hP4
      clear hx hP4 hrl9 hmem9
      dsimp only at HX ⊢
      go_wp2_with fail
      refine hK _ _ ⟨_, HX.out.up4⟩ ?_
      clear hK
      refine rT [(12, false), (13, false), (14, false)] 2 ?_
      apply Exists.intro; refine ⟨?_, ⟨_, HX.out.up4⟩, ?_⟩
      ·iterate 3 (refine xE ?_)
       exact rfl
      refine rL [16, 17] 0 ?_
      simp only [List.filterMap_cons, List.filterMap_nil, k_i, k_j, k_k]
      (with_reducible apply yc4' HX)
      ·rfl
      ·rfl
      ·rfl
      ·kernel_rfl
      ·(repeat (first | (with_reducible exact Rep.here) | (with_reducible apply Rep.there)))
      ·rfl
      ·rfl
      clear HX
      intro w HX
      simp only [Act.put, k_a, k_b, k_c, yb2', Nat.reduceAdd] at HX ⊢
      go_wp2_with (first | refine u0 ?_ | (refine uS ?_; clear HX; intro w HX) | (refine uA ?_; clear HX; (first | (have hq := b3; clear hq; intro w b4 HX) | (have hq := b2; clear hq; intro w b3 HX) | (have hq := b; clear hq; intro w b2 HX) | intro w b HX)))
      have h5 := HX.out
      rw [← HRR2.out] at h5
      have hq5 : Sep w0 w (yaj' t S.t P3 :: yac' b (.cells (yai' S.t.room t lk S.zxid mw md mc) 123 (0, 0)) :: ThLk lk S.held :: yam' (.int .i64) mw (gs.map WaitG.kv) :: yam' (.int .i64) md (S.decided.map ikv) :: yam' (.int .i64) mc (S.closed.map ikv) :: yab' w0 P4 :: yac' b2 (.cells #[.int .i64 n1, .int .i64 z1, .int .i64 e1, .int .i64 t1, .slice a9 n9 c9] 39 (0, 0)) :: R) rows := h5.pm 9 [3,4,5,6,7,8,0,2] rfl rfl
      have h6 := yaz' hq5 HP4.out
      have h7 := ya7' h6.up1 HG.out.1 (fun g hg => HP4.out _ (HP3.out _ (HG.out.2 g hg)))
      have HST := Lib.hid (show yjw' w0 b b2 #[.int .i64 n1, .int .i64 z1, .int .i64 e1, .int .i64 t1, .slice a9 n9 c9] id ops S P R rows ops.length (.int .i64 (0 : Int)) w from ⟨0, P4, by simp, rfl, fun q hq => HP4.out _ (HP3.out _ (HP2.out _ hq)), h7.up1⟩)
      clear HX h5 hq5 h6 h7 HG HRR2 HP2 HP3 HP4 HM1
      try clear KEEPX
      go_loopg [16, 57] ops.length (fun k _ v wr => yjw' w0 b b2 #[.int .i64 n1, .int .i64 z1, .int .i64 e1, .int .i64 t1, .slice a9 n9 c9] id ops S P R rows k v wr)
      case atStart => exact HST.out
      case round =>
       rename World => w
       obtain ⟨i, P5, hik, rfl, hP5, hS⟩ := hrel
       clear HST
       have HX := Lib.hid hS
       have HP5 := Lib.hid hP5
       clear hS hP5
       by_cases hlt : i < ops.length
       case neg =>
        obtain rfl : i = ops.length := by omega
        rw [List.take_length] at HX
        have q0 : decide ((ops.length : Int) < (ops.length : Int)) = false := decide_eq_false (by omega)
        have hol : ops.length ≤ 1000 := by have := HGD.out.1; omega
        have q9 : decide (ops.length < ops.length) = false := decide_eq_false (by omega)
        clear hlt hik
        go_wp2_with (first | refine u0 ?_ | (refine uS ?_; clear HX; intro w HX) | (refine uA ?_; clear HX; (first | (have hq := b3; clear hq; intro w b4 HX) | (have hq := b2; clear hq; intro w b3 HX) | (have hq := b; clear hq; intro w b2 HX) | intro w b HX)))
        obtain ⟨t, lk, mw, md, mc, gs, hgs, hgv, hS⟩ := ybt' HX.out.up1
        have HG := Lib.hid (show _ ∧ _ from ⟨hgs, hgv⟩)
        obtain ⟨R', hR'⟩ : ∃ R', yaj' t S.t P5 :: ThLk lk (ybb' S.held id ops) :: yam' (.int .i64) md (S.decided.map ikv) :: yam' (.int .i64) mc (S.closed.map ikv) :: R = R' := ⟨_, rfl⟩
        have h3 : Sep w0 w (yab' w0 P5 :: yac' b (.cells (yai' S.t.room t lk S.zxid mw md mc) 123 (0, 0)) :: yam' (.int .i64) mw (gs.map WaitG.kv) :: yac' b2 (.cells #[.int .i64 n1, .int .i64 z1, .int .i64 e1, .int .i64 t1, .slice a9 n9 c9] 39 (0, 0)) :: R') rows := by
         rw [← hR']
         exact hS.pm 8 [6, 0, 3, 7, 1, 2, 4, 5] rfl rfl
        have HRR2 := Lib.hid hR'
        clear HX hgs hgv hS hR'
        have HX := Lib.hid h3
        clear h3
        refine rM (fun W => (∃ Ts, Sep w0 W (yac' b (.cells (yai' S.t.room t lk S.zxid mw md mc) 123 (0, 0)) :: Ts) rows)) 12 ?_
        intro KEEPX
        replace HX := Lib.hid HX.out.drew
        have hl : ∀ V, (∃ Ts, Sep w0 V (yac' b (.cells (yai' S.t.room t lk S.zxid mw md mc) 123 (0, 0)) :: Ts) rows) → (Instr.loadAt 120 (.pointer (some ⟨b, 4, none⟩))).run Tryz.prog V = .ok (.map (some mw)) V := by
         rintro V ⟨Ts, hV⟩
         exact yae' (by kernel_rfl) (yaa' hV.blk 4 rfl)
        refine rT [(0, false), (1, false), (2, false), (3, true), (4, false), (5, false), (6, false), (8, false), (9, false)] 3 ?_
        apply Exists.intro; refine ⟨?_, ⟨_, HX.out.up1⟩, ?_⟩
        ·iterate 9 (refine xE ?_)
         exact rfl
        clear hl
        refine r1 2 7 fun K hK => ?_
        go_wp2_with fail
        refine (ye4' HX.out ops _ (HP5.out _ HV.out.1) hol HGD0.out).mono ?_
        rintro e w ⟨v9, rfl, hx⟩
        obtain ⟨ka, kn, kc, rfl, -⟩ := hx.rowLen
        have h9 := hx.poolRow
        clear HX hx
        have HX := Lib.hid h9
        clear h9
        go_wp2_with fail
        refine hK _ _ ⟨_, HX.out.up1⟩ ?_
        clear hK
        refine rT [(10, false)] 1 ?_
        apply Exists.intro; refine ⟨?_, ⟨_, HX.out.up1⟩, ?_⟩
        ·iterate 1 (refine xE ?_)
         exact rfl
        refine r1 0 11 fun K hK => ?_
        obtain ⟨w9, hrun, h9⟩ := Sep.mapAdd (P := Tryz.prog) (key := .int .i64 id) (v := .agg #[.int .i64 sess, .slice ka kn kc, .bool false, .bool (!ok1)]) HX.out.up2 Tryz.underlying120 Tryz.underlying2 (by first | trivial | rfl | exact ⟨_, rfl⟩) (fun q hq e => by
         obtain ⟨g, hg, rfl⟩ := List.mem_map.1 hq
         simp only [WaitG.kv, Value.int.injEq, true_and] at e
         have h1 := ygp' HZK.out
         have h2 : S.wait = gs.map WaitG.ent := HG.out.1.symm
         rw [h2, yj3', List.any_eq_false] at h1
         exact h1 g hg (by rw [e]; exact beq_self_eq_true _))
        have H9 := Lib.hid h9
        clear h9
        go_wp2_with fail
        refine hK _ _ ⟨_, H9.out.up2⟩ ?_
        clear hK
        refine yag' (by kernel_rfl) ?_ _
        have h6 := H9.out
        rw [← HRR2.out] at h6
        have h7 := yaz' (P' := (5, Value.slice ka kn kc, ops.flatMap OpS.cells) :: P5) h6.up4 (fun q hq => k_n _ hq)
        have h8 := ya7' (b := b) (t := t) (lk := lk) (mw := mw) (md := md) (mc := mc) (gs := gs ++ [⟨id, ⟨sess, ops, false, !ok1⟩, .slice ka kn kc⟩]) (S := { S with held := ybb' S.held id ops, wait := S.wait ++ [(id, ⟨sess, ops, false, !ok1⟩)] }) (R := yab' w0 ((5, Value.slice ka kn kc, ops.flatMap OpS.cells) :: P5) :: yac' b2 (.cells #[.int .i64 n1, .int .i64 z1, .int .i64 e1, .int .i64 t1, .slice a9 n9 c9] 39 (0, 0)) :: R) (by rw [List.map_append]; exact h7.pm 8 [3, 0, 5, 1, 6, 7, 2, 4] rfl rfl) (by rw [List.map_append, HG.out.1]; rfl) (fun g hg => by
         rcases List.mem_append.1 hg with hg | hg
         ·exact k_n _ (HG.out.2 g hg)
         ·rw [List.mem_singleton] at hg
          rw [hg]
          exact k_s)
        clear HX H9 hrun h6 h7
        have HX := Lib.hid h8
        clear h8
        rename World => w
        cases ok1 with
        | true =>
         obtain rfl : rr = ((0, -1), { S with held := ybb' S.held id ops, wait := S.wait ++ [(id, ⟨sess, ops, false, !true⟩)] }) := HR3.out
         go_wp2_with (first | refine u0 ?_ | (refine uS ?_; clear HX; intro w HX) | (refine uA ?_; clear HX; (first | (have hq := b3; clear hq; intro w b4 HX) | (have hq := b2; clear hq; intro w b3 HX) | (have hq := b; clear hq; intro w b2 HX) | intro w b HX)))
         go_ret2
         exact ⟨_, rfl, fun q hq => k_n _ (HP5.out q hq), HX.out.pm 3 [1, 0] rfl rfl⟩
        | false =>
         obtain rfl : rr = ((e1, t1), { S with held := ybb' S.held id ops, wait := S.wait ++ [(id, ⟨sess, ops, false, !false⟩)] }) := HR3.out
         go_wp2_with (first | refine u0 ?_ | (refine uS ?_; clear HX; intro w HX) | (refine uA ?_; clear HX; (first | (have hq := b3; clear hq; intro w b4 HX) | (have hq := b2; clear hq; intro w b3 HX) | (have hq := b; clear hq; intro w b2 HX) | intro w b HX)))
         refine yao' (fun W => W = w.drew) 6 (by kernel_rfl) ?_
         replace HX := Lib.hid HX.out.drew
         generalize w.drew = w at HX ⊢
         refine rT [(0, false), (1, true), (2, false), (3, true), (4, false), (5, false)] 0 ?_
         apply Exists.intro; refine ⟨?_, rfl, ?_⟩
         ·iterate 6 (refine xD ?_)
          exact rfl
         refine yag' (by kernel_rfl) ?_ _
         go_wp2_with (first | refine u0 ?_ | (refine uS ?_; clear HX; intro w HX) | (refine uA ?_; clear HX; (first | (have hq := b3; clear hq; intro w b4 HX) | (have hq := b2; clear hq; intro w b3 HX) | (have hq := b; clear hq; intro w b2 HX) | intro w b HX)))
         go_ret2
         exact ⟨_, rfl, fun q hq => k_n _ (HP5.out q hq), HX.out.pm 3 [1, 0] rfl rfl⟩
       case pos =>
        obtain ⟨g, off, rfl⟩ := HNE.out (by intro e; have := congrArg List.length e; rw [yav' yak'] at this; simp at this; omega)
        obtain ⟨E, hE⟩ := HX.out.poolGet (HP5.out _ HV.out.1)
        have hl := ycs' (P := Tryz.prog) (f := OpS.cells) (i := i) hE yak' sn_op hlt
        have HTK := Lib.hid (show ops.take (i + 1) = ops.take i ++ [ops[i]] from List.take_succ_eq_append_getElem hlt)
        have hgo := HGD.out.2 ops[i] (List.getElem_mem hlt)
        obtain ⟨o, ho⟩ : ∃ o, ops[i] = o := ⟨_, rfl⟩
        rw [ho] at hl HTK hgo
        have hsz := yex' hgo
        have HGO := Lib.hid hsz
        have q0 : decide (i < ops.length) = true := decide_eq_true hlt
        have q9 : i ≤ 16 := by have := HGD.out.1; omega
        have HWL := Lib.hid (yhd' o (K := 100000) (by show o.path.data.toList.length ≤ _; have := hsz.1; simpa using this) (by omega))
        have HHL := Lib.hid (show ∀ e ∈ ybb' S.held id (ops.take i), e.1.length ≤ 100000 from fun e he => by have := yb8' (yc6' _ HB.out.1.held e he); omega)
        obtain ⟨H1, hH1⟩ : ∃ H1, ybb' S.held id (ops.take i) = H1 := ⟨_, rfl⟩
        rw [hH1] at HX HHL
        have HH1 := Lib.hid hH1
        obtain ⟨kind, path, data, ver, flags⟩ := o
        simp only [OpS.cells] at hl
        clear hE ho hgo hsz hH1
        go_wp2_with (first | refine u0 ?_ | (refine uS ?_; clear HX; intro w HX) | (refine uA ?_; clear HX; (first | (have hq := b3; clear hq; intro w b4 HX) | (have hq := b2; clear hq; intro w b3 HX) | (have hq := b; clear hq; intro w b2 HX) | intro w b HX)) | ((with_reducible apply yau' hl); (· rfl); (· rfl); simp only [Act.put, k_a, k_b, k_c]))
        obtain ⟨t, lk, mw, md, mc, gs, hgs, hgv, hS⟩ := ybt' HX.out.up2
        have HG := Lib.hid (show _ ∧ _ from ⟨hgs, hgv⟩)
        obtain ⟨R', hR'⟩ : ∃ R', yaj' t S.t P5 :: yam' (.int .i64) mw (gs.map WaitG.kv) :: yam' (.int .i64) md (S.decided.map ikv) :: yam' (.int .i64) mc (S.closed.map ikv) :: yac' b2 (.cells #[.int .i64 n1, .int .i64 z1, .int .i64 e1, .int .i64 t1, .slice a9 n9 c9] 39 (0, 0)) :: R = R' := ⟨_, rfl⟩
        have h3 : Sep w0 w (yab' w0 P5 :: ThLk lk H1 :: yac' b (.cells (yai' S.t.room t lk S.zxid mw md mc) 123 (0, 0)) :: yac' b3 (.cells #[.int .i64 kind, .string path, .string data, .int .i64 ver, .int .i64 flags] 89 (0, 0)) :: R') rows := by
         rw [← hR']
         exact hS.pm 9 [7, 2, 0, 6, 1, 3, 4, 5, 8] rfl rfl
        have HRR2 := Lib.hid hR'
        clear HX hl hgs hgv hS hR'
        have HX := Lib.hid h3
        clear h3
        refine rM (fun W => (∃ Ts, Sep w0 W (yac' b (.cells (yai' S.t.room t lk S.zxid mw md mc) 123 (0, 0)) :: yac' b3 (.cells #[.int .i64 kind, .string path, .string data, .int .i64 ver, .int .i64 flags] 89 (0, 0)) :: Ts) rows)) 8 ?_
        intro KEEPX
        replace HX := Lib.hid HX.out.drew
        have hl : ∀ V, (∃ Ts, Sep w0 V (yac' b (.cells (yai' S.t.room t lk S.zxid mw md mc) 123 (0, 0)) :: yac' b3 (.cells #[.int .i64 kind, .string path, .string data, .int .i64 ver, .int .i64 flags] 89 (0, 0)) :: Ts) rows) → (Instr.loadAt 118 (.pointer (some ⟨b, 2, none⟩))).run Tryz.prog V = .ok (.pointer (some ⟨lk, 0, none⟩)) V := by
         rintro V ⟨Ts, hV⟩
         exact yae' (by kernel_rfl) (yaa' hV.blk 2 rfl)
        have hl2 : ∀ V, (∃ Ts, Sep w0 V (yac' b (.cells (yai' S.t.room t lk S.zxid mw md mc) 123 (0, 0)) :: yac' b3 (.cells #[.int .i64 kind, .string path, .string data, .int .i64 ver, .int .i64 flags] 89 (0, 0)) :: Ts) rows) → (Instr.loadAt 89 (.pointer (some ⟨b3, 0, none⟩))).run Tryz.prog V = .ok (.agg #[.int .i64 kind, .string path, .string data, .int .i64 ver, .int .i64 flags]) V := by
         rintro V ⟨Ts, hV⟩
         exact ya1' sn_op.1 hV.up1.blk (Nat.le_refl 5)
        refine rT [(0, false), (1, false), (2, false), (3, true), (4, false), (5, true)] 2 ?_
        apply Exists.intro; refine ⟨?_, ⟨_, HX.out.up3.up3⟩, ?_⟩
        ·iterate 6 (refine xE ?_)
         exact rfl
        clear hl hl2
        refine r1 1 6 fun K hK => ?_
        go_wp2_with fail
        refine (yhb' HX.out hd ⟨kind, path, data, ver, flags⟩ HGO.out.1 HGO.out.2.1 HGO.out.2.2).mono ?_
        rintro e w ⟨vw, rfl, hx⟩
        obtain ⟨wa, wn, wc, rfl, -⟩ := hx.rowLen
        obtain ⟨Q, hQ⟩ : ∃ Q, (1, Value.slice wa wn wc, (yay' ⟨kind, path, data, ver, flags⟩).map sv) :: P5 = Q := ⟨_, rfl⟩
        have h9 := hx.poolRow
        rw [hQ] at h9
        have HQ := Lib.hid (show (1, Value.slice wa wn wc, (yay' ⟨kind, path, data, ver, flags⟩).map sv) ∈ Q ∧ ∀ q ∈ P5, q ∈ Q from ⟨by rw [← hQ]; exact k_s, by rw [← hQ]; exact fun q hq => k_n _ hq⟩)
        clear HX hx hQ
        have HX := Lib.hid h9
        clear h9
        go_wp2_with fail
        refine hK _ _ ⟨_, HX.out.up3.up3⟩ ?_
        clear hK
        refine r1 0 7 fun K hK => ?_
        go_wp2_with fail
        refine (yio' HX.out hd id (yay' ⟨kind, path, data, ver, flags⟩) _ HQ.out.1 HWL.out HHL.out (yhc' _)).mono ?_
        rintro e w ⟨rfl, hx⟩
        replace HX := Lib.hid hx
        clear hx
        go_wp2_with fail
        refine hK _ _ ⟨_, HX.out.up3.up3⟩ ?_
        clear hK
        refine yag' (by kernel_rfl) ?_ _
        have h6 := HX.out
        rw [← HRR2.out] at h6
        have h7 := yaz' (P' := Q) h6.up4 HQ.out.2
        have h8 := ya7' (b := b) (t := t) (lk := lk) (mw := mw) (md := md) (mc := mc) (gs := gs) (S := { S with held := yc5' H1 id (yay' ⟨kind, path, data, ver, flags⟩) }) (R := yab' w0 Q :: yac' b2 (.cells #[.int .i64 n1, .int .i64 z1, .int .i64 e1, .int .i64 t1, .slice a9 n9 c9] 39 (0, 0)) :: R) (h7.pm 9 [3, 0, 2, 5, 6, 7, 1, 8] rfl rfl) HG.out.1 (fun g hg => HQ.out.2 _ (HG.out.2 g hg))
        have HNX := Lib.hid (show ybb' S.held id (ops.take (i + 1)) = yc5' H1 id (yay' ⟨kind, path, data, ver, flags⟩) by rw [HTK.out, ← HH1.out]; unfold ybb'; rw [List.foldl_append]; rfl)
        clear HX h6 h7
        have HX := Lib.hid h8
        clear h8
        go_wp2_with (first | refine u0 ?_ | (refine uS ?_; clear HX; intro w HX) | (refine uA ?_; clear HX; (first | (have hq := b3; clear hq; intro w b4 HX) | (have hq := b2; clear hq; intro w b3 HX) | (have hq := b; clear hq; intro w b2 HX) | intro w b HX)))
        go_roundg (ops.length - (i + 1))
        case rel => exact ⟨i + 1, Q, by omega, by go_num, fun q hq => HQ.out.2 q (HP5.out q hq), by rw [HNX.out]; exact HX.out.pm 3 [1, 0, 2] rfl rfl⟩
        case measure => omega
    ·refine ⟨_, (by (simp only [k_i, k_j, k_k]; try rfl)), fun K hK => ?_⟩
     go_wp2_with (first | refine u0 ?_ | (refine uS ?_; clear HX; intro w HX) | (refine uA ?_; clear HX; (first | (have hq := b3; clear hq; intro w b4 HX) | (have hq := b2; clear hq; intro w b3 HX) | (have hq := b; clear hq; intro w b2 HX) | intro w b HX)))
     refine hK _ _ ⟨_, HX.out.up3⟩ ?_
     clear hK
     refine r1 6 4 fun K hK => ?_
     go_wp2_with fail
     refine (yd8' HX.out.up2.up2 (HB.out.1.tree.ok (by have := HB.out.2; omega))).mono ?_
     rintro e w ⟨tc, P3, rfl, hP3, hx⟩
     replace HX := Lib.hid hx
     have HP3 := Lib.hid hP3
     clear hx hP3
     go_wp2_with fail
     refine hK _ _ ⟨_, HX.out.up4⟩ ?_
     clear hK
     refine r1 5 11 fun K hK => ?_
     go_wp2_with fail
     have hrq := yhs' HX.out hd HB.out.1.tree (by have := HB.out.2; omega) sess S.zxid ops _ (HP3.out _ (HP2.out _ HV.out.1)) HV.out.2
     rw [HM1.out] at hrq
     refine hrq.mono ?_
     clear hrq
     rintro e w ⟨v9, P4, rfl, hP4, ⟨a9, n9, c9, xs9, rfl, hrl9, hmem9⟩, hx⟩
     replace HX := Lib.hid hx
     have HP4 := Lib.hid hP4
     clear hx hP4 hrl9 hmem9
     dsimp only at HX ⊢
     go_wp2_with fail
     refine hK _ _ ⟨_, HX.out.up4⟩ ?_
     clear hK
     refine rT [(12, false), (13, false), (14, false)] 2 ?_
     apply Exists.intro; refine ⟨?_, ⟨_, HX.out.up4⟩, ?_⟩
     ·iterate 3 (refine xE ?_)
      exact rfl
     refine rL [16, 17] 0 ?_
     simp only [List.filterMap_cons, List.filterMap_nil, k_i, k_j, k_k]
     (with_reducible apply yc4' HX)
     ·rfl
     ·rfl
     ·rfl
     ·kernel_rfl
     ·(repeat (first | (with_reducible exact Rep.here) | (with_reducible apply Rep.there)))
     ·rfl
     ·rfl
     clear HX
     intro w HX
     simp only [Act.put, k_a, k_b, k_c, yb2', Nat.reduceAdd] at HX ⊢
     go_wp2_with (first | refine u0 ?_ | (refine uS ?_; clear HX; intro w HX) | (refine uA ?_; clear HX; (first | (have hq := b3; clear hq; intro w b4 HX) | (have hq := b2; clear hq; intro w b3 HX) | (have hq := b; clear hq; intro w b2 HX) | intro w b HX)))
     have h5 := HX.out
     rw [← HRR2.out] at h5
     have hq5 : Sep w0 w (yaj' t S.t P3 :: yac' b (.cells (yai' S.t.room t lk S.zxid mw md mc) 123 (0, 0)) :: ThLk lk S.held :: yam' (.int .i64) mw (gs.map WaitG.kv) :: yam' (.int .i64) md (S.decided.map ikv) :: yam' (.int .i64) mc (S.closed.map ikv) :: yab' w0 P4 :: yac' b2 (.cells #[.int .i64 n1, .int .i64 z1, .int .i64 e1, .int .i64 t1, .slice a9 n9 c9] 39 (0, 0)) :: R) rows := h5.pm 9 [2,4,5,6,7,8,0,3] rfl rfl
     have h6 := yaz' hq5 HP4.out
     have h7 := ya7' h6.up1 HG.out.1 (fun g hg => HP4.out _ (HP3.out _ (HG.out.2 g hg)))
     have HST := Lib.hid (show yjw' w0 b b2 #[.int .i64 n1, .int .i64 z1, .int .i64 e1, .int .i64 t1, .slice a9 n9 c9] id ops S P R rows ops.length (.int .i64 (0 : Int)) w from ⟨0, P4, by simp, rfl, fun q hq => HP4.out _ (HP3.out _ (HP2.out _ hq)), h7.up1⟩)
     clear HX h5 hq5 h6 h7 HG HRR2 HP2 HP3 HP4 HM1
     try clear KEEPX
     go_loopg [16, 57] ops.length (fun k _ v wr => yjw' w0 b b2 #[.int .i64 n1, .int .i64 z1, .int .i64 e1, .int .i64 t1, .slice a9 n9 c9] id ops S P R rows k v wr)
     case atStart => exact HST.out
     case round =>
      rename World => w
      obtain ⟨i, P5, hik, rfl, hP5, hS⟩ := hrel
      clear HST
      have HX := Lib.hid hS
      have HP5 := Lib.hid hP5
      clear hS hP5
      by_cases hlt : i < ops.length
      case neg =>
       obtain rfl : i = ops.length := by omega
       rw [List.take_length] at HX
       have q0 : decide ((ops.length : Int) < (ops.length : Int)) = false := decide_eq_false (by omega)
       have hol : ops.length ≤ 1000 := by have := HGD.out.1; omega
       have q9 : decide (ops.length < ops.length) = false := decide_eq_false (by omega)
       clear hlt hik
       go_wp2_with (first | refine u0 ?_ | (refine uS ?_; clear HX; intro w HX) | (refine uA ?_; clear HX; (first | (have hq := b3; clear hq; intro w b4 HX) | (have hq := b2; clear hq; intro w b3 HX) | (have hq := b; clear hq; intro w b2 HX) | intro w b HX)))
       obtain ⟨t, lk, mw, md, mc, gs, hgs, hgv, hS⟩ := ybt' HX.out.up1
       have HG := Lib.hid (show _ ∧ _ from ⟨hgs, hgv⟩)
       obtain ⟨R', hR'⟩ : ∃ R', yaj' t S.t P5 :: ThLk lk (ybb' S.held id ops) :: yam' (.int .i64) md (S.decided.map ikv) :: yam' (.int .i64) mc (S.closed.map ikv) :: R = R' := ⟨_, rfl⟩
       have h3 : Sep w0 w (yab' w0 P5 :: yac' b (.cells (yai' S.t.room t lk S.zxid mw md mc) 123 (0, 0)) :: yam' (.int .i64) mw (gs.map WaitG.kv) :: yac' b2 (.cells #[.int .i64 n1, .int .i64 z1, .int .i64 e1, .int .i64 t1, .slice a9 n9 c9] 39 (0, 0)) :: R') rows := by
        rw [← hR']
        exact hS.pm 8 [6, 0, 3, 7, 1, 2, 4, 5] rfl rfl
       have HRR2 := Lib.hid hR'
       clear HX hgs hgv hS hR'
       have HX := Lib.hid h3
       clear h3
       refine rM (fun W => (∃ Ts, Sep w0 W (yac' b (.cells (yai' S.t.room t lk S.zxid mw md mc) 123 (0, 0)) :: Ts) rows)) 12 ?_
       intro KEEPX
       replace HX := Lib.hid HX.out.drew
       have hl : ∀ V, (∃ Ts, Sep w0 V (yac' b (.cells (yai' S.t.room t lk S.zxid mw md mc) 123 (0, 0)) :: Ts) rows) → (Instr.loadAt 120 (.pointer (some ⟨b, 4, none⟩))).run Tryz.prog V = .ok (.map (some mw)) V := by
        rintro V ⟨Ts, hV⟩
        exact yae' (by kernel_rfl) (yaa' hV.blk 4 rfl)
       refine rT [(0, false), (1, false), (2, false), (3, true), (4, false), (5, false), (6, false), (8, false), (9, false)] 3 ?_
       apply Exists.intro; refine ⟨?_, ⟨_, HX.out.up1⟩, ?_⟩
       ·iterate 9 (refine xE ?_)
        exact rfl
       clear hl
       refine r1 2 7 fun K hK => ?_
       go_wp2_with fail
       refine (ye4' HX.out ops _ (HP5.out _ HV.out.1) hol HGD0.out).mono ?_
       rintro e w ⟨v9, rfl, hx⟩
       obtain ⟨ka, kn, kc, rfl, -⟩ := hx.rowLen
       have h9 := hx.poolRow
       clear HX hx
       have HX := Lib.hid h9
       clear h9
       go_wp2_with fail
       refine hK _ _ ⟨_, HX.out.up1⟩ ?_
       clear hK
       refine rT [(10, false)] 1 ?_
       apply Exists.intro; refine ⟨?_, ⟨_, HX.out.up1⟩, ?_⟩
       ·iterate 1 (refine xE ?_)
        exact rfl
       refine r1 0 11 fun K hK => ?_
       obtain ⟨w9, hrun, h9⟩ := Sep.mapAdd (P := Tryz.prog) (key := .int .i64 id) (v := .agg #[.int .i64 sess, .slice ka kn kc, .bool false, .bool (!ok1)]) HX.out.up2 Tryz.underlying120 Tryz.underlying2 (by first | trivial | rfl | exact ⟨_, rfl⟩) (fun q hq e => by
        obtain ⟨g, hg, rfl⟩ := List.mem_map.1 hq
        simp only [WaitG.kv, Value.int.injEq, true_and] at e
        have h1 := ygp' HZK.out
        have h2 : S.wait = gs.map WaitG.ent := HG.out.1.symm
        rw [h2, yj3', List.any_eq_false] at h1
        exact h1 g hg (by rw [e]; exact beq_self_eq_true _))
       have H9 := Lib.hid h9
       clear h9
       go_wp2_with fail
       refine hK _ _ ⟨_, H9.out.up2⟩ ?_
       clear hK
       refine yag' (by kernel_rfl) ?_ _
       have h6 := H9.out
       rw [← HRR2.out] at h6
       have h7 := yaz' (P' := (5, Value.slice ka kn kc, ops.flatMap OpS.cells) :: P5) h6.up4 (fun q hq => k_n _ hq)
       have h8 := ya7' (b := b) (t := t) (lk := lk) (mw := mw) (md := md) (mc := mc) (gs := gs ++ [⟨id, ⟨sess, ops, false, !ok1⟩, .slice ka kn kc⟩]) (S := { S with held := ybb' S.held id ops, wait := S.wait ++ [(id, ⟨sess, ops, false, !ok1⟩)] }) (R := yab' w0 ((5, Value.slice ka kn kc, ops.flatMap OpS.cells) :: P5) :: yac' b2 (.cells #[.int .i64 n1, .int .i64 z1, .int .i64 e1, .int .i64 t1, .slice a9 n9 c9] 39 (0, 0)) :: R) (by rw [List.map_append]; exact h7.pm 8 [3, 0, 5, 1, 6, 7, 2, 4] rfl rfl) (by rw [List.map_append, HG.out.1]; rfl) (fun g hg => by
        rcases List.mem_append.1 hg with hg | hg
        ·exact k_n _ (HG.out.2 g hg)
        ·rw [List.mem_singleton] at hg
         rw [hg]
         exact k_s)
       clear HX H9 hrun h6 h7
       have HX := Lib.hid h8
       clear h8
       rename World => w
       cases ok1 with
       | true =>
        obtain rfl : rr = ((0, -1), { S with held := ybb' S.held id ops, wait := S.wait ++ [(id, ⟨sess, ops, false, !true⟩)] }) := HR3.out
        go_wp2_with (first | refine u0 ?_ | (refine uS ?_; clear HX; intro w HX) | (refine uA ?_; clear HX; (first | (have hq := b3; clear hq; intro w b4 HX) | (have hq := b2; clear hq; intro w b3 HX) | (have hq := b; clear hq; intro w b2 HX) | intro w b HX)))
        go_ret2
        exact ⟨_, rfl, fun q hq => k_n _ (HP5.out q hq), HX.out.pm 3 [1, 0] rfl rfl⟩
       | false =>
        obtain rfl : rr = ((e1, t1), { S with held := ybb' S.held id ops, wait := S.wait ++ [(id, ⟨sess, ops, false, !false⟩)] }) := HR3.out
        go_wp2_with (first | refine u0 ?_ | (refine uS ?_; clear HX; intro w HX) | (refine uA ?_; clear HX; (first | (have hq := b3; clear hq; intro w b4 HX) | (have hq := b2; clear hq; intro w b3 HX) | (have hq := b; clear hq; intro w b2 HX) | intro w b HX)))
        refine yao' (fun W => W = w.drew) 6 (by kernel_rfl) ?_
        replace HX := Lib.hid HX.out.drew
        generalize w.drew = w at HX ⊢
        refine rT [(0, false), (1, true), (2, false), (3, true), (4, false), (5, false)] 0 ?_
        apply Exists.intro; refine ⟨?_, rfl, ?_⟩
        ·iterate 6 (refine xD ?_)
         exact rfl
        refine yag' (by kernel_rfl) ?_ _
        go_wp2_with (first | refine u0 ?_ | (refine uS ?_; clear HX; intro w HX) | (refine uA ?_; clear HX; (first | (have hq := b3; clear hq; intro w b4 HX) | (have hq := b2; clear hq; intro w b3 HX) | (have hq := b; clear hq; intro w b2 HX) | intro w b HX)))
        go_ret2
        exact ⟨_, rfl, fun q hq => k_n _ (HP5.out q hq), HX.out.pm 3 [1, 0] rfl rfl⟩
      case pos =>
       obtain ⟨g, off, rfl⟩ := HNE.out (by intro e; have := congrArg List.length e; rw [yav' yak'] at this; simp at this; omega)
       obtain ⟨E, hE⟩ := HX.out.poolGet (HP5.out _ HV.out.1)
       have hl := ycs' (P := Tryz.prog) (f := OpS.cells) (i := i) hE yak' sn_op hlt
       have HTK := Lib.hid (show ops.take (i + 1) = ops.take i ++ [ops[i]] from List.take_succ_eq_append_getElem hlt)
       have hgo := HGD.out.2 ops[i] (List.getElem_mem hlt)
       obtain ⟨o, ho⟩ : ∃ o, ops[i] = o := ⟨_, rfl⟩
       rw [ho] at hl HTK hgo
       have hsz := yex' hgo
       have HGO := Lib.hid hsz
       have q0 : decide (i < ops.length) = true := decide_eq_true hlt
       have q9 : i ≤ 16 := by have := HGD.out.1; omega
       have HWL := Lib.hid (yhd' o (K := 100000) (by show o.path.data.toList.length ≤ _; have := hsz.1; simpa using this) (by omega))
       have HHL := Lib.hid (show ∀ e ∈ ybb' S.held id (ops.take i), e.1.length ≤ 100000 from fun e he => by have := yb8' (yc6' _ HB.out.1.held e he); omega)
       obtain ⟨H1, hH1⟩ : ∃ H1, ybb' S.held id (ops.take i) = H1 := ⟨_, rfl⟩
       rw [hH1] at HX HHL
       have HH1 := Lib.hid hH1
       obtain ⟨kind, path, data, ver, flags⟩ := o
       simp only [OpS.cells] at hl
       clear hE ho hgo hsz hH1
       go_wp2_with (first | refine u0 ?_ | (refine uS ?_; clear HX; intro w HX) | (refine uA ?_; clear HX; (first | (have hq := b3; clear hq; intro w b4 HX) | (have hq := b2; clear hq; intro w b3 HX) | (have hq := b; clear hq; intro w b2 HX) | intro w b HX)) | ((with_reducible apply yau' hl); (· rfl); (· rfl); simp only [Act.put, k_a, k_b, k_c]))
       obtain ⟨t, lk, mw, md, mc, gs, hgs, hgv, hS⟩ := ybt' HX.out.up2
       have HG := Lib.hid (show _ ∧ _ from ⟨hgs, hgv⟩)
       obtain ⟨R', hR'⟩ : ∃ R', yaj' t S.t P5 :: yam' (.int .i64) mw (gs.map WaitG.kv) :: yam' (.int .i64) md (S.decided.map ikv) :: yam' (.int .i64) mc (S.closed.map ikv) :: yac' b2 (.cells #[.int .i64 n1, .int .i64 z1, .int .i64 e1, .int .i64 t1, .slice a9 n9 c9] 39 (0, 0)) :: R = R' := ⟨_, rfl⟩
       have h3 : Sep w0 w (yab' w0 P5 :: ThLk lk H1 :: yac' b (.cells (yai' S.t.room t lk S.zxid mw md mc) 123 (0, 0)) :: yac' b3 (.cells #[.int .i64 kind, .string path, .string data, .int .i64 ver, .int .i64 flags] 89 (0, 0)) :: R') rows := by
        rw [← hR']
        exact hS.pm 9 [7, 2, 0, 6, 1, 3, 4, 5, 8] rfl rfl
       have HRR2 := Lib.hid hR'
       clear HX hl hgs hgv hS hR'
       have HX := Lib.hid h3
       clear h3
       refine rM (fun W => (∃ Ts, Sep w0 W (yac' b (.cells (yai' S.t.room t lk S.zxid mw md mc) 123 (0, 0)) :: yac' b3 (.cells #[.int .i64 kind, .string path, .string data, .int .i64 ver, .int .i64 flags] 89 (0, 0)) :: Ts) rows)) 8 ?_
       intro KEEPX
       replace HX := Lib.hid HX.out.drew
       have hl : ∀ V, (∃ Ts, Sep w0 V (yac' b (.cells (yai' S.t.room t lk S.zxid mw md mc) 123 (0, 0)) :: yac' b3 (.cells #[.int .i64 kind, .string path, .string data, .int .i64 ver, .int .i64 flags] 89 (0, 0)) :: Ts) rows) → (Instr.loadAt 118 (.pointer (some ⟨b, 2, none⟩))).run Tryz.prog V = .ok (.pointer (some ⟨lk, 0, none⟩)) V := by
        rintro V ⟨Ts, hV⟩
        exact yae' (by kernel_rfl) (yaa' hV.blk 2 rfl)
       have hl2 : ∀ V, (∃ Ts, Sep w0 V (yac' b (.cells (yai' S.t.room t lk S.zxid mw md mc) 123 (0, 0)) :: yac' b3 (.cells #[.int .i64 kind, .string path, .string data, .int .i64 ver, .int .i64 flags] 89 (0, 0)) :: Ts) rows) → (Instr.loadAt 89 (.pointer (some ⟨b3, 0, none⟩))).run Tryz.prog V = .ok (.agg #[.int .i64 kind, .string path, .string data, .int .i64 ver, .int .i64 flags]) V := by
        rintro V ⟨Ts, hV⟩
        exact ya1' sn_op.1 hV.up1.blk (Nat.le_refl 5)
       refine rT [(0, false), (1, false), (2, false), (3, true), (4, false), (5, true)] 2 ?_
       apply Exists.intro; refine ⟨?_, ⟨_, HX.out.up3.up3⟩, ?_⟩
       ·iterate 6 (refine xE ?_)
        exact rfl
       clear hl hl2
       refine r1 1 6 fun K hK => ?_
       go_wp2_with fail
       refine (yhb' HX.out hd ⟨kind, path, data, ver, flags⟩ HGO.out.1 HGO.out.2.1 HGO.out.2.2).mono ?_
       rintro e w ⟨vw, rfl, hx⟩
       obtain ⟨wa, wn, wc, rfl, -⟩ := hx.rowLen
       obtain ⟨Q, hQ⟩ : ∃ Q, (1, Value.slice wa wn wc, (yay' ⟨kind, path, data, ver, flags⟩).map sv) :: P5 = Q := ⟨_, rfl⟩
       have h9 := hx.poolRow
       rw [hQ] at h9
       have HQ := Lib.hid (show (1, Value.slice wa wn wc, (yay' ⟨kind, path, data, ver, flags⟩).map sv) ∈ Q ∧ ∀ q ∈ P5, q ∈ Q from ⟨by rw [← hQ]; exact k_s, by rw [← hQ]; exact fun q hq => k_n _ hq⟩)
       clear HX hx hQ
       have HX := Lib.hid h9
       clear h9
       go_wp2_with fail
       refine hK _ _ ⟨_, HX.out.up3.up3⟩ ?_
       clear hK
       refine r1 0 7 fun K hK => ?_
       go_wp2_with fail
       refine (yio' HX.out hd id (yay' ⟨kind, path, data, ver, flags⟩) _ HQ.out.1 HWL.out HHL.out (yhc' _)).mono ?_
       rintro e w ⟨rfl, hx⟩
       replace HX := Lib.hid hx
       clear hx
       go_wp2_with fail
       refine hK _ _ ⟨_, HX.out.up3.up3⟩ ?_
       clear hK
       refine yag' (by kernel_rfl) ?_ _
       have h6 := HX.out
       rw [← HRR2.out] at h6
       have h7 := yaz' (P' := Q) h6.up4 HQ.out.2
       have h8 := ya7' (b := b) (t := t) (lk := lk) (mw := mw) (md := md) (mc := mc) (gs := gs) (S := { S with held := yc5' H1 id (yay' ⟨kind, path, data, ver, flags⟩) }) (R := yab' w0 Q :: yac' b2 (.cells #[.int .i64 n1, .int .i64 z1, .int .i64 e1, .int .i64 t1, .slice a9 n9 c9] 39 (0, 0)) :: R) (h7.pm 9 [3, 0, 2, 5, 6, 7, 1, 8] rfl rfl) HG.out.1 (fun g hg => HQ.out.2 _ (HG.out.2 g hg))
       have HNX := Lib.hid (show ybb' S.held id (ops.take (i + 1)) = yc5' H1 id (yay' ⟨kind, path, data, ver, flags⟩) by rw [HTK.out, ← HH1.out]; unfold ybb'; rw [List.foldl_append]; rfl)
       clear HX h6 h7
       have HX := Lib.hid h8
       clear h8
       go_wp2_with (first | refine u0 ?_ | (refine uS ?_; clear HX; intro w HX) | (refine uA ?_; clear HX; (first | (have hq := b3; clear hq; intro w b4 HX) | (have hq := b2; clear hq; intro w b3 HX) | (have hq := b; clear hq; intro w b2 HX) | intro w b HX)))
       go_roundg (ops.length - (i + 1))
       case rel => exact ⟨i + 1, Q, by omega, by go_num, fun q hq => HQ.out.2 q (HP5.out q hq), by rw [HNX.out]; exact HX.out.pm 3 [1, 0, 2] rfl rfl⟩
       case measure => omega
end
end Go.Proofs.YtcnkifbjlihaoaaGreatDoor

namespace Go.Proofs.YtcnkifbjlihaoaaGreatDoor
open Go.RowKit Go.Av
theorem sn_x7 : StructN Tryz.prog 204 4 := ⟨by kernel_rfl⟩
section
variable {w0 w : World} {b : Nat} {S : ShardS} {P P' : List PRow} {R : List Thing} {rows : List (Value × Bs)}
def CoO (c : Nat) (S : CoS) (L : List Thing) : Prop := ∃ (m : Nat) (gs : List EntG), gs.map EntG.ent = S ∧ (∀ e ∈ S, okE e) ∧ L = ycg' c m (gs.map EntG.kv) ++ gs.flatMap EntG.th
def ThCo (c : Nat) (S : CoS) : Thing := Bun (CoO c S)
theorem ye5' {c : Nat} {S : CoS} (h : Sep w0 w (ThCo c S :: R) rows) : Co w0 w c S R rows := by
 obtain ⟨L, ⟨m, gs, h1, h2, rfl⟩, hS⟩ := h.opens
 rw [List.append_assoc] at hS
 exact ⟨m, gs, h1, h2, hS⟩
theorem yet' {c : Nat} {S : CoS} (h : Co w0 w c S R rows) : Sep w0 w (ThCo c S :: R) rows := by
 obtain ⟨m, gs, h1, h2, hS⟩ := h
 rw [← List.append_assoc] at hS
 exact Sep.shut (O := CoO c S) ⟨m, gs, h1, h2, rfl⟩ hS
structure KnG where
 b : Bs
 o : OutS
 v1 : Value
 v2 : Value
def KnG.kv (g : KnG) : Value × Value := (sv g.b, .agg (outV g.o g.v1 g.v2))
def KnG.ent (g : KnG) : Bs × OutS := (g.b, g.o)
def ShO (b : Nat) (S : ShardS) (P : List PRow) (L : List Thing) : Prop :=
 ∃ (p c mk : Nat) (gs : List KnG), L = [yac' b (.cells #[.pointer (some ⟨p, 0, none⟩), .pointer (some ⟨c, 0, none⟩), .int .i64 S.played, .map (some mk)] 204 (0, 0)), ybk' p S.p P, ThCo c S.c, yam' .string mk (gs.map KnG.kv)] ∧
  gs.map KnG.ent = S.known ∧ ∀ g ∈ gs, OutIn P g.o g.v1 g.v2
def yba' (b : Nat) (S : ShardS) (P : List PRow) : Thing := Bun (ShO b S P)
theorem ygc' (h : Sep w0 w (yba' b S P :: R) rows) : ∃ (p c mk : Nat) (gs : List KnG), gs.map KnG.ent = S.known ∧ (∀ g ∈ gs, OutIn P g.o g.v1 g.v2) ∧
  Sep w0 w (yac' b (.cells #[.pointer (some ⟨p, 0, none⟩), .pointer (some ⟨c, 0, none⟩), .int .i64 S.played, .map (some mk)] 204 (0, 0)) :: ybk' p S.p P :: ThCo c S.c :: yam' .string mk (gs.map KnG.kv) :: R) rows := by
 obtain ⟨L, ⟨p, c, mk, gs, rfl, h1, h2⟩, hS⟩ := h.opens
 exact ⟨p, c, mk, gs, h1, h2, hS⟩
theorem yfg' {p c mk : Nat} {gs : List KnG} (h : Sep w0 w (yac' b (.cells #[.pointer (some ⟨p, 0, none⟩), .pointer (some ⟨c, 0, none⟩), .int .i64 S.played, .map (some mk)] 204 (0, 0)) :: ybk' p S.p P :: ThCo c S.c :: yam' .string mk (gs.map KnG.kv) :: R) rows)
  (h1 : gs.map KnG.ent = S.known) (h2 : ∀ g ∈ gs, OutIn P g.o g.v1 g.v2) : Sep w0 w (yba' b S P :: R) rows :=
 Sep.shut (O := ShO b S P) ⟨p, c, mk, gs, rfl, h1, h2⟩ h
theorem ylp' (h : Sep w0 w (yba' b S P :: R) rows) (hP : ∀ r ∈ P, r ∈ P') : Sep w0 w (yba' b S P' :: R) rows := by
 obtain ⟨p, c, mk, gs, h1, h2, hS⟩ := ygc' h
 exact yfg' (yde' hS.up1 hP).up1 h1 (fun g hg => (h2 g hg).mono hP)
def DoS (w0 : World) (b : Nat) (cs : Array Value) (b2 : Nat) (cs2 : Array Value) (rows : List (Value × Bs)) (W : World) : Prop := ∃ Ts, Sep w0 W (yac' b (.cells cs 204 (0, 0)) :: yac' b2 (.cells cs2 70 (0, 0)) :: Ts) rows
theorem DoS.of {cs cs2 : Array Value} {b2 : Nat} (h : Sep w0 w (yac' b (.cells cs 204 (0, 0)) :: yac' b2 (.cells cs2 70 (0, 0)) :: R) rows) : DoS w0 b cs b2 cs2 rows w := ⟨R, h⟩
theorem DoS.l1 {cs cs2 : Array Value} {b2 : Nat} (h : DoS w0 b cs b2 cs2 rows w) {ty : TypeId} (i : Nat) {v : Value} (hs : ydg' Tryz.prog ty = true) (hv : cs[i]? = some v) : (Instr.loadAt ty (.pointer (some ⟨b, i, none⟩))).run Tryz.prog w = .ok v w := by
 obtain ⟨Ts, hV⟩ := h
 exact yae' hs (yaa' hV.blk i hv)
theorem DoS.l2 {cs cs2 : Array Value} {b2 : Nat} (h : DoS w0 b cs b2 cs2 rows w) {ty : TypeId} (i : Nat) {v : Value} (hs : ydg' Tryz.prog ty = true) (hv : cs2[i]? = some v) : (Instr.loadAt ty (.pointer (some ⟨b2, i, none⟩))).run Tryz.prog w = .ok v w := by
 obtain ⟨Ts, hV⟩ := h
 exact yae' hs (yaa' hV.up1.blk i hv)
theorem DoS.l3 {cs cs2 : Array Value} {b2 : Nat} (h : DoS w0 b cs b2 cs2 rows w) (hn : 6 ≤ cs2.size) : (Instr.loadAt 42 (.pointer (some ⟨b2, 3, none⟩))).run Tryz.prog w = .ok (.agg ((cs2.toList.drop 3).take 3).toArray) w := by
 obtain ⟨Ts, hV⟩ := h
 exact ya1' (i := 3) sn_req.1 hV.up1.blk hn
def yrn' (w0 : World) (b : Nat) (P : List PRow) (R : List Thing) (rows : List (Value × Bs)) (m : OutS × ShardS) (e : Ending) (w' : World) : Prop :=
 ∃ v1 v2 P', e = .returned (.agg (outV m.1 v1 v2)) ∧ (∀ q ∈ P, q ∈ P') ∧ OutIn P' m.1 v1 v2 ∧ Sep w0 w' (yab' w0 P' :: yba' b m.2 P' :: R) rows
theorem ypz' : RsIn ((11, .slice none 0 0, []) :: P) [] (.slice none 0 0) := ⟨[], .nil, k_s⟩
theorem yiv' {p c mk : Nat} {gs : List KnG} {o : OutS} (hr : o.reply.rs = []) (hr2 : o.rs = []) (hP : ∀ q ∈ P, q ∈ P') (h1 : gs.map KnG.ent = S.known) (h2 : ∀ g ∈ gs, OutIn P g.o g.v1 g.v2)
  (h : Sep w0 w (yab' w0 P' :: yac' b (.cells #[.pointer (some ⟨p, 0, none⟩), .pointer (some ⟨c, 0, none⟩), .int .i64 S.played, .map (some mk)] 204 (0, 0)) :: ybk' p S.p P' :: ThCo c S.c :: yam' .string mk (gs.map KnG.kv) :: R) rows) :
  yrn' w0 b P R rows (o, S) (.returned (.agg (outV o (.slice none 0 0) (.slice none 0 0)))) w := by
 have h3 := (h.poolNil 11).up1
 have hq : ∀ q ∈ P', q ∈ (11, Value.slice none 0 0, []) :: P' := fun q hq => k_n _ hq
 have h4 := yde' h3.up2 hq
 refine ⟨_, _, _, rfl, fun q hh => hq q (hP q hh), ⟨by show RsIn _ o.reply.rs _; rw [hr]; exact ypz', by show RsIn _ o.rs _; rw [hr2]; exact ypz'⟩, ?_⟩
 exact (yfg' (b := b) (S := S) (p := p) (c := c) (mk := mk) (gs := gs) (R := yab' w0 ((11, Value.slice none 0 0, []) :: P') :: R) (h4.pm 5 [1, 0, 3, 4, 2] rfl rfl) h1 (fun g hg => (h2 g hg).mono (fun q hh => hq q (hP q hh)))).up1
set_option maxRecDepth 100000 in
theorem yjd' (h : Sep w0 w (yab' w0 P :: R) rows) (room : Int) (h1 : 1 ≤ room) (h2 : room ≤ 500) :
  Calls Tryz.prog 46 #[.int .i64 room] w fun e w' => ∃ b, e = .returned (.tuple #[.pointer (some ⟨b, 0, none⟩), .int .i64 0]) ∧ Sep w0 w' (yab' w0 P :: yba' b (yd0' room) P :: R) rows := by
 have HX := Lib.hid h
 clear h
 go_enter Tryz.func46, Tryz.ntmps46
 go_wp2_with (first | refine u0 ?_ | (refine uS ?_; clear HX; intro w HX) | (refine uA ?_; clear HX; (first | (have hq := b; clear hq; intro w b2 HX) | intro w b HX)) | (refine uN ?_; clear HX; intro w mm HX))
 refine (yoj' HX.out room h1 h2).mono ?_
 rintro e w ⟨p, rfl, hx⟩
 replace HX := Lib.hid hx
 clear hx
 go_wp2_with (first | refine u0 ?_ | (refine uS ?_; clear HX; intro w HX) | (refine uA ?_; clear HX; (first | (have hq := b; clear hq; intro w b2 HX) | intro w b HX)) | (refine uN ?_; clear HX; intro w mm HX))
 refine (ys5' HX.out).mono ?_
 rintro e w ⟨c, rfl, hx⟩
 have hx := yet' hx
 replace HX := Lib.hid hx
 clear hx
 go_wp2_with (first | refine u0 ?_ | (refine uS ?_; clear HX; intro w HX) | (refine uA ?_; clear HX; (first | (have hq := b; clear hq; intro w b2 HX) | intro w b HX)) | (refine uN ?_; clear HX; intro w mm HX))
 go_ret2
 refine ⟨_, rfl, ?_⟩
 exact (yfg' (b := b) (S := yd0' room) (p := p) (c := c) (mk := mm) (gs := []) (R := yab' w0 P :: R) (HX.out.pm 5 [0, 4, 2, 1, 3] rfl rfl) rfl (by simp)).up1
set_option maxRecDepth 100000 in
set_option maxHeartbeats 16000000 in
theorem yws' {K : Nat} (h : Sep w0 w (yab' w0 P :: yba' b S P :: R) rows) (hd : DoorN w0) (hB : PartC K S.p) (hK : K ≤ 100) (c : CmdS) (vo vs : Value) (hvo : (5, vo, c.ops.flatMap OpS.cells) ∈ P) (hvs : (1, vs, c.shards.map ivn) ∈ P) (hp : ∀ o ∈ c.ops, o.path.size ≤ 100000) (hk : 1 ≤ c.kind ∧ c.kind ≤ 8) (hid : c.id ≤ 9223372036854775807) :
  Calls Tryz.prog 170 #[.pointer (some ⟨b, 0, none⟩), .agg (cmdV c vo vs)] w (yrn' w0 b P R rows (doC S c)) := by
 obtain ⟨oa, on, oc, rfl⟩ := ybc' h hvo
 obtain ⟨sa, sn, sc, rfl⟩ := ybc' h hvs
 obtain ⟨p, c2, mk, gs, hgs, hgo, hS⟩ := ygc' h.up1
 have HG := Lib.hid (show _ ∧ _ from ⟨hgs, hgo⟩)
 have HV := Lib.hid (show _ ∧ _ ∧ _ ∧ _ from ⟨hvo, hvs, hp, hid⟩)
 have HB := Lib.hid (show _ ∧ _ from ⟨hB, hK⟩)
 have HX := Lib.hid hS
 obtain ⟨k0, id, sess, rs, rn, ops, shards, shard, yes⟩ := c
 have HK := Lib.hid hk
 obtain ⟨rr, hrr⟩ : ∃ rr, doC S ⟨k0, id, sess, rs, rn, ops, shards, shard, yes⟩ = rr := ⟨_, rfl⟩
 rw [hrr]
 have HRR := Lib.hid hrr
 clear h hS hgs hgo hvo hvs hp hid hB hK hk hrr
 dsimp only at HV HK
 unfold cmdV
 dsimp only
 go_enter Tryz.func170, Tryz.ntmps170
 by_cases g1 : k0 = 1
 ·subst g1
  go_wp2_with (first | refine u0 ?_ | (refine uS ?_; clear HX; intro w HX) | (refine uA ?_; clear HX; (first | (have hq := b2; clear hq; intro w b3 HX) | (have hq := b; clear hq; intro w b2 HX) | intro w b HX)))
  refine rM (fun W => DoS w0 b #[.pointer (some ⟨p, 0, none⟩), .pointer (some ⟨c2, 0, none⟩), .int .i64 S.played, .map (some mk)] b2 #[.int .i64 1, .int .i64 id, .int .i64 sess, .int .i64 rs, .int .i64 rn, .slice oa on oc, .slice sa sn sc, .int .i64 shard, .bool yes] rows W) 7 ?_
  intro KEEPX
  replace HX := Lib.hid HX.out.drew
  have hl := fun V (hV : DoS w0 b #[.pointer (some ⟨p, 0, none⟩), .pointer (some ⟨c2, 0, none⟩), .int .i64 S.played, .map (some mk)] b2 #[.int .i64 1, .int .i64 id, .int .i64 sess, .int .i64 rs, .int .i64 rn, .slice oa on oc, .slice sa sn sc, .int .i64 shard, .bool yes] rows V) => hV.l1 (ty := 24) 0 (by kernel_rfl) rfl
  have hl2 := fun V (hV : DoS w0 b #[.pointer (some ⟨p, 0, none⟩), .pointer (some ⟨c2, 0, none⟩), .int .i64 S.played, .map (some mk)] b2 #[.int .i64 1, .int .i64 id, .int .i64 sess, .int .i64 rs, .int .i64 rn, .slice oa on oc, .slice sa sn sc, .int .i64 shard, .bool yes] rows V) => hV.l3 (by simp)
  simp only [k_e, k_d, k_f, k_g, k_h] at hl2
  refine rT [(0, false), (1, false), (2, false), (3, true), (4, false), (5, true)] 3 ?_
  apply Exists.intro; refine ⟨?_, (DoS.of HX.out.up2.up3), ?_⟩
  ·iterate 6 (refine xE ?_)
   exact rfl
  clear hl hl2
  refine r1 2 6 fun K hK => ?_
  go_wp2_with fail
  obtain ⟨⟨⟨n1, z1, e1, t1, rs1⟩, S2⟩, hm1⟩ : ∃ m1, yb4' S.p rs rn ops = m1 := ⟨_, rfl⟩
  have hm := yss' HX.out.up4.up7 hd HB.out.1.b (by have := HB.out.2; omega) rs rn ops _ HV.out.1 HV.out.2.2.1
  rw [hm1] at hm
  refine hm.mono ?_
  obtain rfl : rr = (⟨1, id, ⟨n1, z1, e1, t1, rs1⟩, 0, 0, [], false⟩, { S with p := S2 }) := by rw [← HRR.out]; unfold doC; dsimp only; rw [if_pos rfl, hm1]
  clear hm hm1
  rintro e w ⟨_, P2, rfl, hP2, ⟨a1, n2, c1, xs1, rfl, hr1, hmem1⟩, hx⟩
  dsimp only at hx hr1 ⊢
  have HP1 := Lib.hid hP2
  have HQ := Lib.hid (show _ ∧ _ from ⟨hr1, hmem1⟩)
  clear hP2 hr1 hmem1
  replace HX := Lib.hid hx
  clear hx
  go_wp2_with fail
  refine hK _ _ (DoS.of HX.out.up4.up5) ?_
  clear hK
  refine rL [7, 8] 0 ?_
  simp only [List.filterMap_cons, List.filterMap_nil, k_i, k_j, k_k]
  go_step
  rename_i xk
  refine xk _ _ ?_
  clear xk
  refine tWS ?_
  clear HX
  intro w HX
  simp only [Act.put, k_a, k_b, k_c, yb2', Nat.reduceAdd] at HX ⊢
  go_wp2_with (first | refine u0 ?_ | (refine uS ?_; clear HX; intro w HX) | (refine uA ?_; clear HX; (first | (have hq := b2; clear hq; intro w b3 HX) | (have hq := b; clear hq; intro w b2 HX) | intro w b HX)))
  refine ya9' HX rfl rfl (by (repeat (first | (with_reducible exact k_s) | (with_reducible apply k_m)))) (by kernel_rfl) ?_
  have h3 := (HX.out.cut2.cut2.cut2.poolNil 11).up1
  have hq : ∀ q ∈ P2, q ∈ (11, Value.slice none 0 0, []) :: P2 := fun q hq => k_n _ hq
  have h4 := yde' h3 hq
  refine ⟨_, _, _, rfl, fun q hh => hq q (HP1.out q hh), ⟨⟨xs1, HQ.out.1.mono hq, hq _ HQ.out.2⟩, ypz'⟩, ?_⟩
  exact (yfg' (b := b) (S := { S with p := S2 }) (p := p) (c := c2) (mk := mk) (gs := gs) (R := yab' w0 ((11, Value.slice none 0 0, []) :: P2) :: R) (h4.pm 5 [2, 0, 3, 4, 1] rfl rfl) HG.out.1 (fun g hg => (HG.out.2 g hg).mono (fun q hh => hq q (HP1.out q hh)))).up1
 by_cases g2 : k0 = 2
 ·subst g2
  go_wp2_with (first | refine u0 ?_ | (refine uS ?_; clear HX; intro w HX) | (refine uA ?_; clear HX; (first | (have hq := b2; clear hq; intro w b3 HX) | (have hq := b; clear hq; intro w b2 HX) | intro w b HX)))
  refine rM (fun W => DoS w0 b #[.pointer (some ⟨p, 0, none⟩), .pointer (some ⟨c2, 0, none⟩), .int .i64 S.played, .map (some mk)] b2 #[.int .i64 2, .int .i64 id, .int .i64 sess, .int .i64 rs, .int .i64 rn, .slice oa on oc, .slice sa sn sc, .int .i64 shard, .bool yes] rows W) 15 ?_
  intro KEEPX
  replace HX := Lib.hid HX.out.drew
  have hl := fun V (hV : DoS w0 b #[.pointer (some ⟨p, 0, none⟩), .pointer (some ⟨c2, 0, none⟩), .int .i64 S.played, .map (some mk)] b2 #[.int .i64 2, .int .i64 id, .int .i64 sess, .int .i64 rs, .int .i64 rn, .slice oa on oc, .slice sa sn sc, .int .i64 shard, .bool yes] rows V) => hV.l1 (ty := 24) 0 (by kernel_rfl) rfl
  have hl2 := fun V (hV : DoS w0 b #[.pointer (some ⟨p, 0, none⟩), .pointer (some ⟨c2, 0, none⟩), .int .i64 S.played, .map (some mk)] b2 #[.int .i64 2, .int .i64 id, .int .i64 sess, .int .i64 rs, .int .i64 rn, .slice oa on oc, .slice sa sn sc, .int .i64 shard, .bool yes] rows V) => hV.l2 (ty := 2) 1 (by kernel_rfl) rfl
  have hl3 := fun V (hV : DoS w0 b #[.pointer (some ⟨p, 0, none⟩), .pointer (some ⟨c2, 0, none⟩), .int .i64 S.played, .map (some mk)] b2 #[.int .i64 2, .int .i64 id, .int .i64 sess, .int .i64 rs, .int .i64 rn, .slice oa on oc, .slice sa sn sc, .int .i64 shard, .bool yes] rows V) => hV.l2 (ty := 2) 2 (by kernel_rfl) rfl
  have hl4 := fun V (hV : DoS w0 b #[.pointer (some ⟨p, 0, none⟩), .pointer (some ⟨c2, 0, none⟩), .int .i64 S.played, .map (some mk)] b2 #[.int .i64 2, .int .i64 id, .int .i64 sess, .int .i64 rs, .int .i64 rn, .slice oa on oc, .slice sa sn sc, .int .i64 shard, .bool yes] rows V) => hV.l2 (ty := 30) 5 (by kernel_rfl) rfl
  refine rT [(0, false), (1, false), (2, false), (3, true), (4, false), (5, true), (6, false), (7, true), (8, false), (9, false), (10, true)] 8 ?_
  apply Exists.intro; refine ⟨?_, (DoS.of HX.out.up2.up3), ?_⟩
  ·iterate 11 (refine xE ?_)
   exact rfl
  clear hl hl2 hl3 hl4
  refine r1 7 11 fun K hK => ?_
  go_wp2_with fail
  obtain ⟨⟨⟨e1, t1⟩, S2⟩, hm1⟩ : ∃ m1, yd1' S.p id sess ops = m1 := ⟨_, rfl⟩
  have hm := ywd' HX.out.up4.up7 hd HB.out.1.b (by have := HB.out.2; omega) id sess ops _ HV.out.1 HV.out.2.2.1
  rw [hm1] at hm
  refine hm.mono ?_
  obtain rfl : rr = (⟨2, id, yf9', e1, t1, [], false⟩, { S with p := S2 }) := by rw [← HRR.out]; unfold doC; dsimp only; rw [if_neg (by decide), if_pos rfl, hm1]
  clear hm hm1
  rintro e w ⟨P2, rfl, hP2, hx⟩
  dsimp only at hx ⊢
  have HP1 := Lib.hid hP2
  clear hP2
  replace HX := Lib.hid hx
  clear hx
  go_wp2_with fail
  refine hK _ _ (DoS.of HX.out.up4.up5) ?_
  clear hK
  refine rT [(12, false), (13, false), (14, false)] 4 ?_
  apply Exists.intro; refine ⟨?_, (DoS.of HX.out.up4.up5), ?_⟩
  ·iterate 3 (refine xE ?_)
   exact rfl
  refine rL [15, 16, 17, 18] 0 ?_
  simp only [List.filterMap_cons, List.filterMap_nil, k_i, k_j, k_k]
  go_step
  rename_i xk
  refine xk _ _ ?_
  clear xk
  refine tWT ?_
  clear HX
  intro w HX
  simp only [Act.put, k_a, k_b, k_c] at HX ⊢
  go_step
  rename_i xk
  refine xk _ _ ?_
  clear xk
  refine tWT ?_
  clear HX
  intro w HX
  simp only [Act.put, k_a, k_b, k_c] at HX ⊢
  go_wp2_with (first | refine u0 ?_ | (refine uS ?_; clear HX; intro w HX) | (refine uA ?_; clear HX; (first | (have hq := b2; clear hq; intro w b3 HX) | (have hq := b; clear hq; intro w b2 HX) | intro w b HX)))
  refine ya9' HX rfl rfl (by (repeat (first | (with_reducible exact k_s) | (with_reducible apply k_m)))) (by kernel_rfl) ?_
  exact yiv' (p := p) (c := c2) (mk := mk) (gs := gs) (S := { S with p := S2 }) rfl rfl HP1.out HG.out.1 HG.out.2 (HX.out.cut2.cut2.cut2.pm 5 [0, 2, 1, 3, 4] rfl rfl)
 by_cases g3 : k0 = 3
 ·subst g3
  go_wp2_with (first | refine u0 ?_ | (refine uS ?_; clear HX; intro w HX) | (refine uA ?_; clear HX; (first | (have hq := b2; clear hq; intro w b3 HX) | (have hq := b; clear hq; intro w b2 HX) | intro w b HX)))
  refine rM (fun W => DoS w0 b #[.pointer (some ⟨p, 0, none⟩), .pointer (some ⟨c2, 0, none⟩), .int .i64 S.played, .map (some mk)] b2 #[.int .i64 3, .int .i64 id, .int .i64 sess, .int .i64 rs, .int .i64 rn, .slice oa on oc, .slice sa sn sc, .int .i64 shard, .bool yes] rows W) 12 ?_
  intro KEEPX
  replace HX := Lib.hid HX.out.drew
  have hl := fun V (hV : DoS w0 b #[.pointer (some ⟨p, 0, none⟩), .pointer (some ⟨c2, 0, none⟩), .int .i64 S.played, .map (some mk)] b2 #[.int .i64 3, .int .i64 id, .int .i64 sess, .int .i64 rs, .int .i64 rn, .slice oa on oc, .slice sa sn sc, .int .i64 shard, .bool yes] rows V) => hV.l1 (ty := 24) 0 (by kernel_rfl) rfl
  have hl2 := fun V (hV : DoS w0 b #[.pointer (some ⟨p, 0, none⟩), .pointer (some ⟨c2, 0, none⟩), .int .i64 S.played, .map (some mk)] b2 #[.int .i64 3, .int .i64 id, .int .i64 sess, .int .i64 rs, .int .i64 rn, .slice oa on oc, .slice sa sn sc, .int .i64 shard, .bool yes] rows V) => hV.l2 (ty := 2) 1 (by kernel_rfl) rfl
  have hl3 := fun V (hV : DoS w0 b #[.pointer (some ⟨p, 0, none⟩), .pointer (some ⟨c2, 0, none⟩), .int .i64 S.played, .map (some mk)] b2 #[.int .i64 3, .int .i64 id, .int .i64 sess, .int .i64 rs, .int .i64 rn, .slice oa on oc, .slice sa sn sc, .int .i64 shard, .bool yes] rows V) => hV.l2 (ty := 2) 2 (by kernel_rfl) rfl
  refine rT [(0, false), (1, false), (2, false), (3, true), (4, false), (5, true), (6, false), (7, true)] 8 ?_
  apply Exists.intro; refine ⟨?_, (DoS.of HX.out.up2.up3), ?_⟩
  ·iterate 8 (refine xE ?_)
   exact rfl
  clear hl hl2 hl3
  refine r1 7 8 fun K hK => ?_
  go_wp2_with fail
  obtain ⟨⟨e1, S2⟩, hm1⟩ : ∃ m1, ycb' S.p id sess = m1 := ⟨_, rfl⟩
  have hm := yr4' HX.out.up4.up7 hd HB.out.1.b (by have := HB.out.2; omega) id sess
  rw [hm1] at hm
  refine hm.mono ?_
  obtain rfl : rr = (⟨3, id, yf9', e1, -1, [], false⟩, { S with p := S2 }) := by rw [← HRR.out]; unfold doC; dsimp only; rw [if_neg (by decide), if_neg (by decide), if_pos rfl, hm1]
  clear hm hm1
  rintro e w ⟨P2, rfl, hP2, hx⟩
  dsimp only at hx ⊢
  have HP1 := Lib.hid hP2
  clear hP2
  replace HX := Lib.hid hx
  clear hx
  go_wp2_with fail
  refine hK _ _ (DoS.of HX.out.up4.up5) ?_
  clear hK
  refine rT [(9, false), (10, false), (11, false)] 4 ?_
  apply Exists.intro; refine ⟨?_, (DoS.of HX.out.up4.up5), ?_⟩
  ·iterate 3 (refine xE ?_)
   exact rfl
  refine rL [12, 13, 14, 15] 0 ?_
  simp only [List.filterMap_cons, List.filterMap_nil, k_i, k_j, k_k]
  go_step
  rename_i xk
  refine xk _ _ ?_
  clear xk
  refine tWT ?_
  clear HX
  intro w HX
  simp only [Act.put, k_a, k_b, k_c] at HX ⊢
  go_step
  rename_i xk
  refine xk _ _ ?_
  clear xk
  refine tWT ?_
  clear HX
  intro w HX
  simp only [Act.put, k_a, k_b, k_c] at HX ⊢
  go_wp2_with (first | refine u0 ?_ | (refine uS ?_; clear HX; intro w HX) | (refine uA ?_; clear HX; (first | (have hq := b2; clear hq; intro w b3 HX) | (have hq := b; clear hq; intro w b2 HX) | intro w b HX)))
  refine ya9' HX rfl rfl (by (repeat (first | (with_reducible exact k_s) | (with_reducible apply k_m)))) (by kernel_rfl) ?_
  exact yiv' (p := p) (c := c2) (mk := mk) (gs := gs) (S := { S with p := S2 }) rfl rfl HP1.out HG.out.1 HG.out.2 (HX.out.cut2.cut2.cut2.pm 5 [0, 2, 1, 3, 4] rfl rfl)
 by_cases g4 : k0 = 4
 ·subst g4
  go_wp2_with (first | refine u0 ?_ | (refine uS ?_; clear HX; intro w HX) | (refine uA ?_; clear HX; (first | (have hq := b2; clear hq; intro w b3 HX) | (have hq := b; clear hq; intro w b2 HX) | intro w b HX)))
  refine rM (fun W => DoS w0 b #[.pointer (some ⟨p, 0, none⟩), .pointer (some ⟨c2, 0, none⟩), .int .i64 S.played, .map (some mk)] b2 #[.int .i64 4, .int .i64 id, .int .i64 sess, .int .i64 rs, .int .i64 rn, .slice oa on oc, .slice sa sn sc, .int .i64 shard, .bool yes] rows W) 12 ?_
  intro KEEPX
  replace HX := Lib.hid HX.out.drew
  have hl := fun V (hV : DoS w0 b #[.pointer (some ⟨p, 0, none⟩), .pointer (some ⟨c2, 0, none⟩), .int .i64 S.played, .map (some mk)] b2 #[.int .i64 4, .int .i64 id, .int .i64 sess, .int .i64 rs, .int .i64 rn, .slice oa on oc, .slice sa sn sc, .int .i64 shard, .bool yes] rows V) => hV.l1 (ty := 24) 0 (by kernel_rfl) rfl
  have hl2 := fun V (hV : DoS w0 b #[.pointer (some ⟨p, 0, none⟩), .pointer (some ⟨c2, 0, none⟩), .int .i64 S.played, .map (some mk)] b2 #[.int .i64 4, .int .i64 id, .int .i64 sess, .int .i64 rs, .int .i64 rn, .slice oa on oc, .slice sa sn sc, .int .i64 shard, .bool yes] rows V) => hV.l2 (ty := 2) 1 (by kernel_rfl) rfl
  have hl3 := fun V (hV : DoS w0 b #[.pointer (some ⟨p, 0, none⟩), .pointer (some ⟨c2, 0, none⟩), .int .i64 S.played, .map (some mk)] b2 #[.int .i64 4, .int .i64 id, .int .i64 sess, .int .i64 rs, .int .i64 rn, .slice oa on oc, .slice sa sn sc, .int .i64 shard, .bool yes] rows V) => hV.l2 (ty := 4) 8 (by kernel_rfl) rfl
  refine rT [(0, false), (1, false), (2, false), (3, true), (4, false), (5, true), (6, false), (7, true)] 8 ?_
  apply Exists.intro; refine ⟨?_, (DoS.of HX.out.up2.up3), ?_⟩
  ·iterate 8 (refine xE ?_)
   exact rfl
  clear hl hl2 hl3
  refine r1 7 8 fun K hK => ?_
  go_wp2_with fail
  obtain ⟨⟨⟨rs1, e1⟩, S2⟩, hm1⟩ : ∃ m1, ybo' S.p id yes = m1 := ⟨_, rfl⟩
  have hm := yql' HX.out.up4.up7 hd HB.out.1.b (by have := HB.out.1.len; have := HB.out.2; omega) (by have := HB.out.2; omega) id yes
  rw [hm1] at hm
  refine hm.mono ?_
  obtain rfl : rr = (⟨4, id, yf9', e1, 0, rs1, false⟩, { S with p := S2 }) := by rw [← HRR.out]; unfold doC; dsimp only; rw [if_neg (by decide), if_neg (by decide), if_neg (by decide), if_pos rfl, hm1]
  clear hm hm1
  rintro e w ⟨P2, a1, n1, c1, xs1, rfl, hP2, hr1, hmem1, hx⟩
  dsimp only at hx hr1 ⊢
  have HP1 := Lib.hid hP2
  have HQ := Lib.hid (show _ ∧ _ from ⟨hr1, hmem1⟩)
  clear hP2 hr1 hmem1
  replace HX := Lib.hid hx
  clear hx
  go_wp2_with fail
  refine hK _ _ (DoS.of HX.out.up4.up5) ?_
  clear hK
  refine rT [(9, false), (10, false), (11, false)] 4 ?_
  apply Exists.intro; refine ⟨?_, (DoS.of HX.out.up4.up5), ?_⟩
  ·iterate 3 (refine xE ?_)
   exact rfl
  refine rL [12, 13, 14, 15] 0 ?_
  simp only [List.filterMap_cons, List.filterMap_nil, k_i, k_j, k_k]
  go_step
  rename_i xk
  refine xk _ _ ?_
  clear xk
  refine tWT ?_
  clear HX
  intro w HX
  simp only [Act.put, k_a, k_b, k_c] at HX ⊢
  go_step
  rename_i xk
  refine xk _ _ ?_
  clear xk
  refine tWT ?_
  clear HX
  intro w HX
  simp only [Act.put, k_a, k_b, k_c] at HX ⊢
  go_wp2_with (first | refine u0 ?_ | (refine uS ?_; clear HX; intro w HX) | (refine uA ?_; clear HX; (first | (have hq := b2; clear hq; intro w b3 HX) | (have hq := b; clear hq; intro w b2 HX) | intro w b HX)))
  refine ya9' HX rfl rfl (by (repeat (first | (with_reducible exact k_s) | (with_reducible apply k_m)))) (by kernel_rfl) ?_
  have h3 := (HX.out.cut2.cut2.cut2.poolNil 11).up1
  have hq : ∀ q ∈ P2, q ∈ (11, Value.slice none 0 0, []) :: P2 := fun q hq => k_n _ hq
  have h4 := yde' h3 hq
  refine ⟨_, _, _, rfl, fun q hh => hq q (HP1.out q hh), ⟨ypz', ⟨xs1, HQ.out.1.mono hq, hq _ HQ.out.2⟩⟩, ?_⟩
  exact (yfg' (b := b) (S := { S with p := S2 }) (p := p) (c := c2) (mk := mk) (gs := gs) (R := yab' w0 ((11, Value.slice none 0 0, []) :: P2) :: R) (h4.pm 5 [2, 0, 3, 4, 1] rfl rfl) HG.out.1 (fun g hg => (HG.out.2 g hg).mono (fun q hh => hq q (HP1.out q hh)))).up1
 by_cases g5 : k0 = 5
 ·subst g5
  go_wp2_with (first | refine u0 ?_ | (refine uS ?_; clear HX; intro w HX) | (refine uA ?_; clear HX; (first | (have hq := b2; clear hq; intro w b3 HX) | (have hq := b; clear hq; intro w b2 HX) | intro w b HX)))
  refine rM (fun W => DoS w0 b #[.pointer (some ⟨p, 0, none⟩), .pointer (some ⟨c2, 0, none⟩), .int .i64 S.played, .map (some mk)] b2 #[.int .i64 5, .int .i64 id, .int .i64 sess, .int .i64 rs, .int .i64 rn, .slice oa on oc, .slice sa sn sc, .int .i64 shard, .bool yes] rows W) 9 ?_
  intro KEEPX
  replace HX := Lib.hid HX.out.drew
  have hl := fun V (hV : DoS w0 b #[.pointer (some ⟨p, 0, none⟩), .pointer (some ⟨c2, 0, none⟩), .int .i64 S.played, .map (some mk)] b2 #[.int .i64 5, .int .i64 id, .int .i64 sess, .int .i64 rs, .int .i64 rn, .slice oa on oc, .slice sa sn sc, .int .i64 shard, .bool yes] rows V) => hV.l1 (ty := 106) 1 (by kernel_rfl) rfl
  have hl2 := fun V (hV : DoS w0 b #[.pointer (some ⟨p, 0, none⟩), .pointer (some ⟨c2, 0, none⟩), .int .i64 S.played, .map (some mk)] b2 #[.int .i64 5, .int .i64 id, .int .i64 sess, .int .i64 rs, .int .i64 rn, .slice oa on oc, .slice sa sn sc, .int .i64 shard, .bool yes] rows V) => hV.l2 (ty := 2) 1 (by kernel_rfl) rfl
  have hl3 := fun V (hV : DoS w0 b #[.pointer (some ⟨p, 0, none⟩), .pointer (some ⟨c2, 0, none⟩), .int .i64 S.played, .map (some mk)] b2 #[.int .i64 5, .int .i64 id, .int .i64 sess, .int .i64 rs, .int .i64 rn, .slice oa on oc, .slice sa sn sc, .int .i64 shard, .bool yes] rows V) => hV.l2 (ty := 68) 6 (by kernel_rfl) rfl
  refine rT [(0, false), (1, false), (2, false), (3, true), (4, false), (5, true), (6, false), (7, true)] 3 ?_
  apply Exists.intro; refine ⟨?_, (DoS.of HX.out.up2.up3), ?_⟩
  ·iterate 8 (refine xE ?_)
   exact rfl
  clear hl hl2 hl3
  refine r1 2 8 fun K hK => ?_
  go_wp2_with fail
  obtain ⟨⟨e1, S2⟩, hm1⟩ : ∃ m1, yia' S.c id shards = m1 := ⟨_, rfl⟩
  obtain ⟨E, hE⟩ := HX.out.up7.poolGet HV.out.2.1
  have hm := yrw' (ye5' HX.out.up5) id _ shards E HV.out.2.2.2 hE
  rw [hm1] at hm
  refine hm.mono ?_
  obtain rfl : rr = (⟨5, id, yf9', e1, 0, [], false⟩, { S with c := S2 }) := by rw [← HRR.out]; unfold doC; dsimp only; rw [if_neg (by decide), if_neg (by decide), if_neg (by decide), if_neg (by decide), if_pos rfl, hm1]
  clear hm hm1 hE
  rintro e w ⟨rfl, hx⟩
  have hx := yet' hx
  dsimp only at hx ⊢
  replace HX := Lib.hid hx
  clear hx
  go_wp2_with fail
  refine hK _ _ (DoS.of HX.out.up3.up4) ?_
  clear hK
  refine rL [9, 10] 0 ?_
  simp only [List.filterMap_cons, List.filterMap_nil, k_i, k_j, k_k]
  go_step
  rename_i xk
  refine xk _ _ ?_
  clear xk
  refine tWT ?_
  clear HX
  intro w HX
  simp only [Act.put, k_a, k_b, k_c] at HX ⊢
  go_wp2_with (first | refine u0 ?_ | (refine uS ?_; clear HX; intro w HX) | (refine uA ?_; clear HX; (first | (have hq := b2; clear hq; intro w b3 HX) | (have hq := b; clear hq; intro w b2 HX) | intro w b HX)))
  refine ya9' HX rfl rfl (by (repeat (first | (with_reducible exact k_s) | (with_reducible apply k_m)))) (by kernel_rfl) ?_
  exact yiv' (p := p) (c := c2) (mk := mk) (gs := gs) (S := { S with c := S2 }) rfl rfl (fun q hq => hq) HG.out.1 HG.out.2 (HX.out.cut1.cut1.cut1.pm 5 [4, 1, 2, 0, 3] rfl rfl)
 by_cases g6 : k0 = 6
 ·subst g6
  go_wp2_with (first | refine u0 ?_ | (refine uS ?_; clear HX; intro w HX) | (refine uA ?_; clear HX; (first | (have hq := b2; clear hq; intro w b3 HX) | (have hq := b; clear hq; intro w b2 HX) | intro w b HX)))
  refine rM (fun W => DoS w0 b #[.pointer (some ⟨p, 0, none⟩), .pointer (some ⟨c2, 0, none⟩), .int .i64 S.played, .map (some mk)] b2 #[.int .i64 6, .int .i64 id, .int .i64 sess, .int .i64 rs, .int .i64 rn, .slice oa on oc, .slice sa sn sc, .int .i64 shard, .bool yes] rows W) 11 ?_
  intro KEEPX
  replace HX := Lib.hid HX.out.drew
  have hl := fun V (hV : DoS w0 b #[.pointer (some ⟨p, 0, none⟩), .pointer (some ⟨c2, 0, none⟩), .int .i64 S.played, .map (some mk)] b2 #[.int .i64 6, .int .i64 id, .int .i64 sess, .int .i64 rs, .int .i64 rn, .slice oa on oc, .slice sa sn sc, .int .i64 shard, .bool yes] rows V) => hV.l1 (ty := 106) 1 (by kernel_rfl) rfl
  have hl2 := fun V (hV : DoS w0 b #[.pointer (some ⟨p, 0, none⟩), .pointer (some ⟨c2, 0, none⟩), .int .i64 S.played, .map (some mk)] b2 #[.int .i64 6, .int .i64 id, .int .i64 sess, .int .i64 rs, .int .i64 rn, .slice oa on oc, .slice sa sn sc, .int .i64 shard, .bool yes] rows V) => hV.l2 (ty := 2) 1 (by kernel_rfl) rfl
  have hl3 := fun V (hV : DoS w0 b #[.pointer (some ⟨p, 0, none⟩), .pointer (some ⟨c2, 0, none⟩), .int .i64 S.played, .map (some mk)] b2 #[.int .i64 6, .int .i64 id, .int .i64 sess, .int .i64 rs, .int .i64 rn, .slice oa on oc, .slice sa sn sc, .int .i64 shard, .bool yes] rows V) => hV.l2 (ty := 3) 7 (by kernel_rfl) rfl
  have hl4 := fun V (hV : DoS w0 b #[.pointer (some ⟨p, 0, none⟩), .pointer (some ⟨c2, 0, none⟩), .int .i64 S.played, .map (some mk)] b2 #[.int .i64 6, .int .i64 id, .int .i64 sess, .int .i64 rs, .int .i64 rn, .slice oa on oc, .slice sa sn sc, .int .i64 shard, .bool yes] rows V) => hV.l2 (ty := 4) 8 (by kernel_rfl) rfl
  refine rT [(0, false), (1, false), (2, false), (3, true), (4, false), (5, true), (6, false), (7, true), (8, false), (9, true)] 3 ?_
  apply Exists.intro; refine ⟨?_, (DoS.of HX.out.up2.up3), ?_⟩
  ·iterate 10 (refine xE ?_)
   exact rfl
  clear hl hl2 hl3 hl4
  refine r1 2 10 fun K hK => ?_
  go_wp2_with fail
  obtain ⟨⟨e1, S2⟩, hm1⟩ : ∃ m1, yno' S.c id shard yes = m1 := ⟨_, rfl⟩
  have hm := yw7' (ye5' HX.out.up5) id shard yes
  rw [hm1] at hm
  refine hm.mono ?_
  obtain rfl : rr = (⟨6, id, yf9', e1, 0, [], false⟩, { S with c := S2 }) := by rw [← HRR.out]; unfold doC; dsimp only; rw [if_neg (by decide), if_neg (by decide), if_neg (by decide), if_neg (by decide), if_neg (by decide), if_pos rfl, hm1]
  clear hm hm1
  rintro e w ⟨rfl, hx⟩
  have hx := yet' hx
  dsimp only at hx ⊢
  replace HX := Lib.hid hx
  clear hx
  go_wp2_with fail
  refine hK _ _ (DoS.of HX.out.up3.up4) ?_
  clear hK
  refine rL [11, 12] 0 ?_
  simp only [List.filterMap_cons, List.filterMap_nil, k_i, k_j, k_k]
  go_step
  rename_i xk
  refine xk _ _ ?_
  clear xk
  refine tWT ?_
  clear HX
  intro w HX
  simp only [Act.put, k_a, k_b, k_c] at HX ⊢
  go_wp2_with (first | refine u0 ?_ | (refine uS ?_; clear HX; intro w HX) | (refine uA ?_; clear HX; (first | (have hq := b2; clear hq; intro w b3 HX) | (have hq := b; clear hq; intro w b2 HX) | intro w b HX)))
  refine ya9' HX rfl rfl (by (repeat (first | (with_reducible exact k_s) | (with_reducible apply k_m)))) (by kernel_rfl) ?_
  exact yiv' (p := p) (c := c2) (mk := mk) (gs := gs) (S := { S with c := S2 }) rfl rfl (fun q hq => hq) HG.out.1 HG.out.2 (HX.out.cut1.cut1.cut1.pm 5 [4, 1, 2, 0, 3] rfl rfl)
 by_cases g7 : k0 = 7
 ·subst g7
  go_wp2_with (first | refine u0 ?_ | (refine uS ?_; clear HX; intro w HX) | (refine uA ?_; clear HX; (first | (have hq := b2; clear hq; intro w b3 HX) | (have hq := b; clear hq; intro w b2 HX) | intro w b HX)))
  refine rM (fun W => DoS w0 b #[.pointer (some ⟨p, 0, none⟩), .pointer (some ⟨c2, 0, none⟩), .int .i64 S.played, .map (some mk)] b2 #[.int .i64 7, .int .i64 id, .int .i64 sess, .int .i64 rs, .int .i64 rn, .slice oa on oc, .slice sa sn sc, .int .i64 shard, .bool yes] rows W) 9 ?_
  intro KEEPX
  replace HX := Lib.hid HX.out.drew
  have hl := fun V (hV : DoS w0 b #[.pointer (some ⟨p, 0, none⟩), .pointer (some ⟨c2, 0, none⟩), .int .i64 S.played, .map (some mk)] b2 #[.int .i64 7, .int .i64 id, .int .i64 sess, .int .i64 rs, .int .i64 rn, .slice oa on oc, .slice sa sn sc, .int .i64 shard, .bool yes] rows V) => hV.l1 (ty := 106) 1 (by kernel_rfl) rfl
  have hl2 := fun V (hV : DoS w0 b #[.pointer (some ⟨p, 0, none⟩), .pointer (some ⟨c2, 0, none⟩), .int .i64 S.played, .map (some mk)] b2 #[.int .i64 7, .int .i64 id, .int .i64 sess, .int .i64 rs, .int .i64 rn, .slice oa on oc, .slice sa sn sc, .int .i64 shard, .bool yes] rows V) => hV.l2 (ty := 2) 1 (by kernel_rfl) rfl
  have hl3 := fun V (hV : DoS w0 b #[.pointer (some ⟨p, 0, none⟩), .pointer (some ⟨c2, 0, none⟩), .int .i64 S.played, .map (some mk)] b2 #[.int .i64 7, .int .i64 id, .int .i64 sess, .int .i64 rs, .int .i64 rn, .slice oa on oc, .slice sa sn sc, .int .i64 shard, .bool yes] rows V) => hV.l2 (ty := 3) 7 (by kernel_rfl) rfl
  refine rT [(0, false), (1, false), (2, false), (3, true), (4, false), (5, true), (6, false), (7, true)] 3 ?_
  apply Exists.intro; refine ⟨?_, (DoS.of HX.out.up2.up3), ?_⟩
  ·iterate 8 (refine xE ?_)
   exact rfl
  clear hl hl2 hl3
  refine r1 2 8 fun K hK => ?_
  go_wp2_with fail
  obtain ⟨⟨e1, S2⟩, hm1⟩ : ∃ m1, yma' S.c id shard = m1 := ⟨_, rfl⟩
  have hm := yvg' (ye5' HX.out.up5) id shard
  rw [hm1] at hm
  refine hm.mono ?_
  obtain rfl : rr = (⟨7, id, yf9', e1, 0, [], false⟩, { S with c := S2 }) := by rw [← HRR.out]; unfold doC; dsimp only; rw [if_neg (by decide), if_neg (by decide), if_neg (by decide), if_neg (by decide), if_neg (by decide), if_neg (by decide), if_pos rfl, hm1]
  clear hm hm1
  rintro e w ⟨rfl, hx⟩
  have hx := yet' hx
  dsimp only at hx ⊢
  replace HX := Lib.hid hx
  clear hx
  go_wp2_with fail
  refine hK _ _ (DoS.of HX.out.up3.up4) ?_
  clear hK
  refine rL [9, 10] 0 ?_
  simp only [List.filterMap_cons, List.filterMap_nil, k_i, k_j, k_k]
  go_step
  rename_i xk
  refine xk _ _ ?_
  clear xk
  refine tWT ?_
  clear HX
  intro w HX
  simp only [Act.put, k_a, k_b, k_c] at HX ⊢
  go_wp2_with (first | refine u0 ?_ | (refine uS ?_; clear HX; intro w HX) | (refine uA ?_; clear HX; (first | (have hq := b2; clear hq; intro w b3 HX) | (have hq := b; clear hq; intro w b2 HX) | intro w b HX)))
  refine ya9' HX rfl rfl (by (repeat (first | (with_reducible exact k_s) | (with_reducible apply k_m)))) (by kernel_rfl) ?_
  exact yiv' (p := p) (c := c2) (mk := mk) (gs := gs) (S := { S with c := S2 }) rfl rfl (fun q hq => hq) HG.out.1 HG.out.2 (HX.out.cut1.cut1.cut1.pm 5 [4, 1, 2, 0, 3] rfl rfl)
 by_cases g8 : k0 = 8
 ·subst g8
  go_wp2_with (first | refine u0 ?_ | (refine uS ?_; clear HX; intro w HX) | (refine uA ?_; clear HX; (first | (have hq := b2; clear hq; intro w b3 HX) | (have hq := b; clear hq; intro w b2 HX) | intro w b HX)))
  refine rM (fun W => DoS w0 b #[.pointer (some ⟨p, 0, none⟩), .pointer (some ⟨c2, 0, none⟩), .int .i64 S.played, .map (some mk)] b2 #[.int .i64 8, .int .i64 id, .int .i64 sess, .int .i64 rs, .int .i64 rn, .slice oa on oc, .slice sa sn sc, .int .i64 shard, .bool yes] rows W) 10 ?_
  intro KEEPX
  replace HX := Lib.hid HX.out.drew
  have hl := fun V (hV : DoS w0 b #[.pointer (some ⟨p, 0, none⟩), .pointer (some ⟨c2, 0, none⟩), .int .i64 S.played, .map (some mk)] b2 #[.int .i64 8, .int .i64 id, .int .i64 sess, .int .i64 rs, .int .i64 rn, .slice oa on oc, .slice sa sn sc, .int .i64 shard, .bool yes] rows V) => hV.l1 (ty := 106) 1 (by kernel_rfl) rfl
  have hl2 := fun V (hV : DoS w0 b #[.pointer (some ⟨p, 0, none⟩), .pointer (some ⟨c2, 0, none⟩), .int .i64 S.played, .map (some mk)] b2 #[.int .i64 8, .int .i64 id, .int .i64 sess, .int .i64 rs, .int .i64 rn, .slice oa on oc, .slice sa sn sc, .int .i64 shard, .bool yes] rows V) => hV.l2 (ty := 2) 1 (by kernel_rfl) rfl
  refine rT [(0, false), (1, false), (2, false), (3, true), (4, false), (5, true)] 8 ?_
  apply Exists.intro; refine ⟨?_, (DoS.of HX.out.up2.up3), ?_⟩
  ·iterate 6 (refine xE ?_)
   exact rfl
  clear hl hl2
  refine r1 7 6 fun K hK => ?_
  go_wp2_with fail
  obtain ⟨⟨y1, e1, S2⟩, hm1⟩ : ∃ m1, yfz' S.c id = m1 := ⟨_, rfl⟩
  have hm := yru' (ye5' HX.out.up5) id
  rw [hm1] at hm
  refine hm.mono ?_
  obtain rfl : rr = (⟨8, id, yf9', e1, 0, [], y1⟩, { S with c := S2 }) := by rw [← HRR.out]; unfold doC; dsimp only; rw [if_neg (by decide), if_neg (by decide), if_neg (by decide), if_neg (by decide), if_neg (by decide), if_neg (by decide), if_neg (by decide), hm1]
  clear hm hm1
  rintro e w ⟨rfl, hx⟩
  have hx := yet' hx
  dsimp only at hx ⊢
  replace HX := Lib.hid hx
  clear hx
  go_wp2_with fail
  refine hK _ _ (DoS.of HX.out.up3.up4) ?_
  clear hK
  refine rT [(7, false), (8, false), (9, false)] 4 ?_
  apply Exists.intro; refine ⟨?_, (DoS.of HX.out.up3.up4), ?_⟩
  ·iterate 3 (refine xE ?_)
   exact rfl
  refine rL [10, 11, 12, 13] 0 ?_
  simp only [List.filterMap_cons, List.filterMap_nil, k_i, k_j, k_k]
  go_step
  rename_i xk
  refine xk _ _ ?_
  clear xk
  refine tWT ?_
  clear HX
  intro w HX
  simp only [Act.put, k_a, k_b, k_c] at HX ⊢
  go_step
  rename_i xk
  refine xk _ _ ?_
  clear xk
  refine tWT ?_
  clear HX
  intro w HX
  simp only [Act.put, k_a, k_b, k_c] at HX ⊢
  go_wp2_with (first | refine u0 ?_ | (refine uS ?_; clear HX; intro w HX) | (refine uA ?_; clear HX; (first | (have hq := b2; clear hq; intro w b3 HX) | (have hq := b; clear hq; intro w b2 HX) | intro w b HX)))
  refine ya9' HX rfl rfl (by (repeat (first | (with_reducible exact k_s) | (with_reducible apply k_m)))) (by kernel_rfl) ?_
  exact yiv' (p := p) (c := c2) (mk := mk) (gs := gs) (S := { S with c := S2 }) rfl rfl (fun q hq => hq) HG.out.1 HG.out.2 (HX.out.cut1.cut1.cut1.pm 5 [4, 1, 2, 0, 3] rfl rfl)
 exfalso
 have := HK.out
 omega
end
end Go.Proofs.YtcnkifbjlihaoaaGreatDoor

namespace Go.Av
open Go.RowKit
section
variable {P : Program} {ops : Array Oper} {S : World → Prop} {a a' A : Act} {dst : Option Tmp} {tyy src tt : TypeId} {x y : Operand} {pos : String} {aft : Array Edge} {g : Option (Nat × Bool)} {k : Nat} {v p q : Value} {r : List (Nat × Bool)} {c : Bool}
theorem ygi' (hl : ∀ W, S W → (convert src tt p).run P W = .ok v W) (ho : ops[k]? = some ⟨dst, .convert src tt x, tyy, pos, aft, g⟩) (hx : a.eval x = p) (hw : Region.wanted ⟨dst, .convert src tt x, tyy, pos, aft, g⟩ (yielded ops a.tmps) = true) (ha : a' = a.put dst v) (hr : ya5' P ops S r a' A) : ya5' P ops S ((k, true) :: r) a A := by
 refine yas' ho hw (fun W hW => ?_) ha hr
 unfold execOp
 dsimp only
 rw [hx]
 exact ycl' (hl W hW)
theorem yjn' (hl : ∀ W, S W → (Instr.lookup src p q c).run P W = .ok v W) (ho : ops[k]? = some ⟨dst, .lookup src x y c, tyy, pos, aft, g⟩) (hx : a.eval x = p) (hy : a.eval y = q) (hw : Region.wanted ⟨dst, .lookup src x y c, tyy, pos, aft, g⟩ (yielded ops a.tmps) = true) (ha : a' = a.put dst v) (hr : ya5' P ops S r a' A) : ya5' P ops S ((k, true) :: r) a A := by
 refine yas' ho hw (fun W hW => ?_) ha hr
 unfold execOp
 dsimp only
 rw [hx, hy]
 exact ycl' (hl W hW)
end
end Go.Av
namespace Go.Proofs.YtcnkifbjlihaoaaGreatDoor
open Go.RowKit Go.Av
section
variable {w0 w : World} {b : Nat} {S : ShardS} {P P' : List PRow} {R : List Thing} {rows : List (Value × Bs)}
theorem yzl' (b : Bs) : (∀ o ∈ (rawC b).1.ops, o.path.size ≤ 100000) ∧ (rawC b).1.id = (yk6' b).2.1 := by
 obtain ⟨⟨k, id, d⟩, h⟩ : ∃ x, yk6' b = x := ⟨_, rfl⟩
 unfold rawC
 rw [h]
 dsimp only
 have hn : ∀ o ∈ ([] : List OpS), o.path.size ≤ 100000 := fun o ho => by cases ho
 have ha := yez' (ybq' 40000 d).1
 have hb := yez' (ybq' 40000 (shR (i64R d).2).2).1
 generalize ydf' (ybq' 40000 d).1 = x1 at ha ⊢
 generalize ydf' (ybq' 40000 (shR (i64R d).2).2).1 = x2 at hb ⊢
 generalize getR (ybq' 40000 d).1 = y1
 generalize getR (ybq' 40000 (shR (i64R d).2).2).1 = y2
 generalize ybq' 40000 d = z1
 generalize ybq' 40000 (shR (i64R d).2).2 = z2
 by_cases h1 : k = 1
 ·rw [if_pos h1]; exact ⟨ha, rfl⟩
 rw [if_neg h1]
 by_cases h1 : k = 2
 ·rw [if_pos h1]; exact ⟨hb, rfl⟩
 rw [if_neg h1]
 by_cases h1 : k = 3
 ·rw [if_pos h1]; exact ⟨hn, rfl⟩
 rw [if_neg h1]
 by_cases h1 : k = 4
 ·rw [if_pos h1]; exact ⟨hn, rfl⟩
 rw [if_neg h1]
 by_cases h1 : k = 5
 ·rw [if_pos h1]; exact ⟨hn, rfl⟩
 rw [if_neg h1]
 by_cases h1 : k = 6
 ·rw [if_pos h1]; exact ⟨hn, rfl⟩
 rw [if_neg h1]
 by_cases h1 : k = 7
 ·rw [if_pos h1]; exact ⟨hn, rfl⟩
 rw [if_neg h1]
 exact ⟨hn, rfl⟩
theorem ysj' (d : Rd) : (i64R d).1 ≤ 9223372036854775807 := by
 unfold i64R
 split
 ·simp
 ·simp only [rdI, IntKind.wrap_i64]
  omega
theorem yyz' {l : Bs} {c : CmdS} (h : getC l = some c) : (∀ o ∈ c.ops, o.path.size ≤ 100000) ∧ (1 ≤ c.kind ∧ c.kind ≤ 8) ∧ c.id ≤ 9223372036854775807 := by
 have hk := yse' h
 obtain ⟨h1, h2⟩ := yzl' l
 unfold getC at h
 split at h
 ·injection h with h
  subst h
  refine ⟨h1, hk, ?_⟩
  rw [h2]
  exact ysj' _
 ·cases h
theorem yz7' (w : World) : (zeroValue 93).run Tryz.prog w = .ok (.agg #[.int .i64 0, .int .i64 0, .int .i64 0, .int .i64 0, .int .i64 0, .int .i64 0, .slice none 0 0, .int .i64 0, .int .i64 0, .slice none 0 0, .bool false]) w := by kernel_rfl
theorem yy4' {gs : List KnG} {m : Nat} (h : Sep w0 w (yam' .string m (gs.map KnG.kv) :: R) rows) (l : Bs) (hn : ∀ g ∈ gs, g.b ≠ l) :
  (Instr.lookup 202 (.map (some m)) (.string ⟨l.toArray⟩) true).run Tryz.prog w = .ok (.tuple #[.agg #[.int .i64 0, .int .i64 0, .int .i64 0, .int .i64 0, .int .i64 0, .int .i64 0, .slice none 0 0, .int .i64 0, .int .i64 0, .slice none 0 0, .bool false], .bool false]) w :=
 yfq' h.mapIs Tryz.underlying202 Tryz.underlying9 (key := .string ⟨l.toArray⟩) (by first | trivial | rfl | exact ⟨_, rfl⟩) (fun q hq e => by
  obtain ⟨g, hg, rfl⟩ := List.mem_map.1 hq
  exact hn g hg (yg6' e)) (yz7' w) true
theorem yy5' {gs : List KnG} {m : Nat} (h : Sep w0 w (yam' .string m (gs.map KnG.kv) :: R) rows) {g : KnG} (hg : g ∈ gs) :
  (Instr.lookup 202 (.map (some m)) (.string ⟨g.b.toArray⟩) true).run Tryz.prog w = .ok (.tuple #[.agg (outV g.o g.v1 g.v2), .bool true]) w :=
 yf8' h.mapIs Tryz.underlying202 Tryz.underlying9 (key := sv g.b) (by first | trivial | rfl | exact ⟨_, rfl⟩) (List.mem_map.2 ⟨g, hg, rfl⟩) true
theorem ydp' {v : Value} {l : Bs} (h : Sep w0 w (yab' w0 P :: R) rows) (hv : (1, v, l.map bv) ∈ P) : (convert 71 9 v).run Tryz.prog w = .ok (.string ⟨l.toArray⟩) w := by
 obtain ⟨E, hE⟩ := h.poolGet hv
 exact Go.Av.conv_str Tryz.underlying71 Tryz.underlying5 Tryz.underlying9 hE w (fun _ _ => rfl)
def PlS (w0 : World) (b : Nat) (cs : Array Value) (mk : Nat) (kvs : List (Value × Value)) (P : List PRow) (rows : List (Value × Bs)) (W : World) : Prop := ∃ Ts, Sep w0 W (yac' b (.cells cs 204 (0, 0)) :: yam' .string mk kvs :: yab' w0 P :: Ts) rows
theorem PlS.l1 {cs : Array Value} {mk : Nat} {kvs : List (Value × Value)} (h : PlS w0 b cs mk kvs P rows w) {ty : TypeId} (i : Nat) {v : Value} (hs : ydg' Tryz.prog ty = true) (hv : cs[i]? = some v) : (Instr.loadAt ty (.pointer (some ⟨b, i, none⟩))).run Tryz.prog w = .ok v w := by
 obtain ⟨Ts, hV⟩ := h
 exact yae' hs (yaa' hV.blk i hv)
theorem PlS.l2 {cs : Array Value} {mk : Nat} {kvs : List (Value × Value)} (h : PlS w0 b cs mk kvs P rows w) {v : Value} {l : Bs} (hv : (1, v, l.map bv) ∈ P) : (convert 71 9 v).run Tryz.prog w = .ok (.string ⟨l.toArray⟩) w := by
 obtain ⟨Ts, hV⟩ := h
 exact ydp' hV.up2 hv
theorem PlS.l3 {cs : Array Value} {mk : Nat} {gs : List KnG} (h : PlS w0 b cs mk (gs.map KnG.kv) P rows w) {g : KnG} (hg : g ∈ gs) :
  (Instr.lookup 202 (.map (some mk)) (.string ⟨g.b.toArray⟩) true).run Tryz.prog w = .ok (.tuple #[.agg (outV g.o g.v1 g.v2), .bool true]) w := by
 obtain ⟨Ts, hV⟩ := h
 exact yy5' hV.up1 hg
theorem PlS.l4 {cs : Array Value} {mk : Nat} {gs : List KnG} (h : PlS w0 b cs mk (gs.map KnG.kv) P rows w) (l : Bs) (hn : ∀ g ∈ gs, g.b ≠ l) :
  (Instr.lookup 202 (.map (some mk)) (.string ⟨l.toArray⟩) true).run Tryz.prog w = .ok (.tuple #[.agg #[.int .i64 0, .int .i64 0, .int .i64 0, .int .i64 0, .int .i64 0, .int .i64 0, .slice none 0 0, .int .i64 0, .int .i64 0, .slice none 0 0, .bool false], .bool false]) w := by
 obtain ⟨Ts, hV⟩ := h
 exact yy4' hV.up1 l hn
def PlT (w0 : World) (b : Nat) (cs : Array Value) (b5 : Nat) (cs5 : Array Value) (q : PRow) (rows : List (Value × Bs)) (W : World) : Prop := ∃ P Ts, q ∈ P ∧ Sep w0 W (yac' b (.cells cs 204 (0, 0)) :: yac' b5 (.cells cs5 93 (0, 0)) :: yab' w0 P :: Ts) rows
theorem PlT.l1 {cs cs5 : Array Value} {b5 : Nat} {q : PRow} (h : PlT w0 b cs b5 cs5 q rows w) {ty : TypeId} (i : Nat) {v : Value} (hs : ydg' Tryz.prog ty = true) (hv : cs[i]? = some v) : (Instr.loadAt ty (.pointer (some ⟨b, i, none⟩))).run Tryz.prog w = .ok v w := by
 obtain ⟨P, Ts, -, hV⟩ := h
 exact yae' hs (yaa' hV.blk i hv)
theorem PlT.l2 {cs cs5 : Array Value} {b5 : Nat} {v : Value} {l : Bs} (h : PlT w0 b cs b5 cs5 (1, v, l.map bv) rows w) : (convert 71 9 v).run Tryz.prog w = .ok (.string ⟨l.toArray⟩) w := by
 obtain ⟨P, Ts, hq, hV⟩ := h
 exact ydp' hV.up2 hq
theorem PlT.l3 {cs cs5 : Array Value} {b5 : Nat} {q : PRow} (h : PlT w0 b cs b5 cs5 q rows w) (hn : 11 ≤ cs5.size) : (Instr.loadAt 93 (.pointer (some ⟨b5, 0, none⟩))).run Tryz.prog w = .ok (.agg ((cs5.toList.drop 0).take 11).toArray) w := by
 obtain ⟨P, Ts, -, hV⟩ := h
 exact ya1' (i := 0) sn_x6.1 hV.up1.blk hn
set_option maxRecDepth 100000 in
set_option maxHeartbeats 16000000 in
theorem yq9' {K : Nat} (h : Sep w0 w (yab' w0 P :: yba' b S P :: R) rows) (hd : DoorN w0) (hB : ShB K S) (hK : K ≤ 100) (v : Value) (l : Bs) (hv : (1, v, l.map bv) ∈ P) (hl : l.length ≤ 1000000) :
  Calls Tryz.prog 129 #[.pointer (some ⟨b, 0, none⟩), v] w (yrn' w0 b P R rows (ya8' S l)) := by
 obtain ⟨p, c2, mk, gs, hgs, hgo, hS⟩ := ygc' h.up1
 have HV := Lib.hid (show _ ∧ _ from ⟨hv, hl⟩)
 have HB := Lib.hid (show _ ∧ _ from ⟨hB, hK⟩)
 have HX := Lib.hid hS
 have q8 : 0 ≤ S.played := hB.played.1
 have q9 : S.played ≤ 1000 := by have := hB.played.2; omega
 obtain ⟨rr, hrr⟩ : ∃ rr, ya8' S l = rr := ⟨_, rfl⟩
 rw [hrr]
 have HRR := Lib.hid hrr
 have HG := Lib.hid (show _ ∧ _ from ⟨hgs, hgo⟩)
 clear h hS hgs hgo hv hl hB hK hrr
 go_enter Tryz.func129, Tryz.ntmps129
 go_wp2_with (first | refine u0 ?_ | (refine uS ?_; clear HX; intro w HX) | (refine uA ?_; clear HX; (first | (have hq := b5; clear hq; intro w b6 HX) | (have hq := b4; clear hq; intro w b5 HX) | (have hq := b3; clear hq; intro w b4 HX) | (have hq := b2; clear hq; intro w b3 HX) | (have hq := b; clear hq; intro w b2 HX) | intro w b HX)))
 refine (yt1' HX.out.up5 hd v l HV.out.1 HV.out.2).mono ?_
 obtain ⟨o, ho⟩ : ∃ o, getC l = o := ⟨_, rfl⟩
 rw [ho]
 rintro e w ⟨vo, vs, P1, rfl, hP1, hvo, hvs, hx⟩
 obtain ⟨oa, on, oc, rfl⟩ := ybc' hx hvo
 obtain ⟨sa, sn, sc, rfl⟩ := ybc' hx hvs
 have hx := (yde' hx.up3 hP1).up3
 replace HX := Lib.hid hx
 clear hx
 have HP1 := Lib.hid hP1
 have HC := Lib.hid (show _ ∧ _ ∧ _ from ⟨ho, hvo, hvs⟩)
 clear hP1 ho hvo hvs
 cases o with
 | none =>
  obtain rfl : rr = (badO, { S with played := S.played + 1 }) := by
   rw [← HRR.out]
   unfold ya8'
   rw [HC.out.1]
  unfold yrk' cmdV
  dsimp only [Option.getD, Option.isSome]
  go_wp2_with (first | refine u0 ?_ | (refine uS ?_; clear HX; intro w HX) | (refine uA ?_; clear HX; (first | (have hq := b5; clear hq; intro w b6 HX) | (have hq := b4; clear hq; intro w b5 HX) | (have hq := b3; clear hq; intro w b4 HX) | (have hq := b2; clear hq; intro w b3 HX) | (have hq := b; clear hq; intro w b2 HX) | intro w b HX)))
  refine ya9' HX rfl rfl (by (repeat (first | (with_reducible exact k_s) | (with_reducible apply k_m)))) (by kernel_rfl) ?_
  exact yiv' (p := p) (c := c2) (mk := mk) (gs := gs) (S := { S with played := S.played + 1 }) rfl rfl HP1.out HG.out.1 HG.out.2 (HX.out.drop.pm 6 [2, 0, 1, 4, 5] rfl rfl)
 | some c =>
  have HCO := Lib.hid (yyz' HC.out.1)
  obtain ⟨k0, id, sess, rs, rn, ops, shards, shard, yes⟩ := c
  unfold cmdV at HX ⊢
  dsimp only [Option.getD, Option.isSome] at HC HX ⊢
  cases hlk : yhr' l S.known with
  | some o =>
   obtain ⟨g, hg, rfl, rfl⟩ : ∃ g ∈ gs, g.b = l ∧ g.o = o := by
    have h1 := yi1' hlk
    rw [← HG.out.1] at h1
    obtain ⟨g, hg, e⟩ := List.mem_map.1 h1
    exact ⟨g, hg, congrArg Prod.fst e, congrArg Prod.snd e⟩
   obtain rfl : rr = (g.o, { S with played := S.played + 1 }) := by
    rw [← HRR.out]
    unfold ya8'
    rw [HC.out.1]
    dsimp only
    rw [hlk]
   have hok := HB.out.1.known _ (yi1' hlk)
   have hin := (HG.out.2 g hg).mono HP1.out
   obtain ⟨gb, ⟨gk, gi, ⟨num, zx, er, gat, rs1⟩, e2, at2, rs2, gy⟩, v1, v2⟩ := g
   obtain ⟨a1, n1, c1, rfl⟩ := ybr' HX.out.up2 hin.1
   obtain ⟨a2, n2, c3, rfl⟩ := ybr' HX.out.up2 hin.2
   have HL := Lib.hid (show _ ∧ _ ∧ _ from ⟨hg, hok, hin⟩)
   clear hg hlk hok hin
   dsimp only at HL HV HC ⊢
   go_upto_region 5 with (first | refine u0 ?_ | (refine uS ?_; clear HX; intro w HX) | (refine uA ?_; clear HX; (first | (have hq := b5; clear hq; intro w b6 HX) | (have hq := b4; clear hq; intro w b5 HX) | (have hq := b3; clear hq; intro w b4 HX) | (have hq := b2; clear hq; intro w b3 HX) | (have hq := b; clear hq; intro w b2 HX) | intro w b HX)))
   refine rM (fun W => PlS w0 b #[.pointer (some ⟨p, 0, none⟩), .pointer (some ⟨c2, 0, none⟩), .int .i64 (S.played + 1), .map (some mk)] mk (gs.map KnG.kv) P1 rows W) 11 ?_
   intro KEEPX
   replace HX := Lib.hid HX.out.drew
   have hl := fun V (hV : PlS w0 b #[.pointer (some ⟨p, 0, none⟩), .pointer (some ⟨c2, 0, none⟩), .int .i64 (S.played + 1), .map (some mk)] mk (gs.map KnG.kv) P1 rows V) => hV.l1 (ty := 202) 3 (by kernel_rfl) rfl
   have hcv := fun V (hV : PlS w0 b #[.pointer (some ⟨p, 0, none⟩), .pointer (some ⟨c2, 0, none⟩), .int .i64 (S.played + 1), .map (some mk)] mk (gs.map KnG.kv) P1 rows V) => hV.l2 (HP1.out _ HV.out.1)
   have hkd := fun V (hV : PlS w0 b #[.pointer (some ⟨p, 0, none⟩), .pointer (some ⟨c2, 0, none⟩), .int .i64 (S.played + 1), .map (some mk)] mk (gs.map KnG.kv) P1 rows V) => hV.l3 HL.out.1
   unfold outV at hkd
   dsimp only at hkd
   refine rT [(0, false), (1, false), (2, false), (3, true), (4, false), (5, true), (6, true), (7, false), (8, false), (9, false)] 3 ?_
   apply Exists.intro; refine ⟨?_, ⟨_, HX.out.up3.up6.up3⟩, ?_⟩
   ·iterate 10 (first | refine xE ?_ | ((apply ygi' hcv); (· (simp only [k_i, k_j, k_k]; try rfl)); (· rfl); (· rfl); (· rfl)) | ((apply yjn' hkd); (· (simp only [k_i, k_j, k_k]; try rfl)); (· rfl); (· rfl); (· rfl); (· rfl)))
    exact rfl
   clear hl hcv hkd
   refine r1 2 10 fun K hK => ?_
   refine tWA ?_
   clear HX
   intro w b4 HX
   simp only [Act.put, k_a, k_b, k_c]
   refine hK _ _ ⟨_, HX.out.up4.up7.up4⟩ ?_
   clear hK
   refine rL [11, 12] 0 ?_
   simp only [List.filterMap_cons, List.filterMap_nil, k_i, k_j, k_k]
   refine tWS ?_
   clear HX
   intro w HX
   simp only [Act.put, k_a, k_b, k_c, yb2', Nat.reduceAdd] at HX ⊢
   go_wp2_with (first | refine u0 ?_ | (refine uS ?_; clear HX; intro w HX) | (refine uA ?_; clear HX; (first | (have hq := b5; clear hq; intro w b6 HX) | (have hq := b4; clear hq; intro w b5 HX) | (have hq := b3; clear hq; intro w b4 HX) | (have hq := b2; clear hq; intro w b3 HX) | (have hq := b; clear hq; intro w b2 HX) | intro w b HX)))
   refine (yie' HX.out.up4 ⟨gk, gi, ⟨num, zx, er, gat, rs1⟩, e2, at2, rs2, gy⟩ _ _ HL.out.2.2 HL.out.2.1).mono ?_
   rintro e w ⟨y1, y2, P9, rfl, hP9, hin9, hx⟩
   obtain ⟨a5, n5, c5, rfl⟩ := ybr' hx hin9.1
   obtain ⟨a6, n6, c6, rfl⟩ := ybr' hx hin9.2
   replace HX := Lib.hid hx
   clear hx
   have H9 := Lib.hid (show _ ∧ _ from ⟨hP9, hin9⟩)
   clear hP9 hin9
   unfold outV
   dsimp only
   go_wp2_with (first | refine u0 ?_ | (refine uS ?_; clear HX; intro w HX) | (refine uA ?_; clear HX; (first | (have hq := b5; clear hq; intro w b6 HX) | (have hq := b4; clear hq; intro w b5 HX) | (have hq := b3; clear hq; intro w b4 HX) | (have hq := b2; clear hq; intro w b3 HX) | (have hq := b; clear hq; intro w b2 HX) | intro w b HX)))
   refine ya9' HX rfl rfl (by (repeat (first | (with_reducible exact k_s) | (with_reducible apply k_m)))) (by kernel_rfl) ?_
   have h4 := yde' HX.out.cut1.cut1.cut3.up2 H9.out.1
   exact ⟨_, _, _, rfl, fun q hq => H9.out.1 q (HP1.out q hq), H9.out.2, (yfg' (b := b) (S := { S with played := S.played + 1 }) (p := p) (c := c2) (mk := mk) (gs := gs) (R := yab' w0 P9 :: R) (h4.pm 5 [2, 0, 3, 4, 1] rfl rfl) HG.out.1 (fun g hg => (HG.out.2 g hg).mono (fun q hq => H9.out.1 q (HP1.out q hq)))).up1⟩
  | none =>
   have hn : ∀ g ∈ gs, g.b ≠ l := fun g hg e => by
    unfold yhr' at hlk
    rw [Option.map_eq_none_iff, List.find?_eq_none] at hlk
    exact hlk (g.b, g.o) (by rw [← HG.out.1]; exact List.mem_map.2 ⟨g, hg, rfl⟩) (by simpa using e)
   have HL := Lib.hid (show _ ∧ _ from ⟨hn, hlk⟩)
   clear hn hlk
   go_upto_region 5 with (first | refine u0 ?_ | (refine uS ?_; clear HX; intro w HX) | (refine uA ?_; clear HX; (first | (have hq := b5; clear hq; intro w b6 HX) | (have hq := b4; clear hq; intro w b5 HX) | (have hq := b3; clear hq; intro w b4 HX) | (have hq := b2; clear hq; intro w b3 HX) | (have hq := b; clear hq; intro w b2 HX) | intro w b HX)))
   refine rM (fun W => PlS w0 b #[.pointer (some ⟨p, 0, none⟩), .pointer (some ⟨c2, 0, none⟩), .int .i64 (S.played + 1), .map (some mk)] mk (gs.map KnG.kv) P1 rows W) 11 ?_
   intro KEEPX
   replace HX := Lib.hid HX.out.drew
   have hl := fun V (hV : PlS w0 b #[.pointer (some ⟨p, 0, none⟩), .pointer (some ⟨c2, 0, none⟩), .int .i64 (S.played + 1), .map (some mk)] mk (gs.map KnG.kv) P1 rows V) => hV.l1 (ty := 202) 3 (by kernel_rfl) rfl
   have hcv := fun V (hV : PlS w0 b #[.pointer (some ⟨p, 0, none⟩), .pointer (some ⟨c2, 0, none⟩), .int .i64 (S.played + 1), .map (some mk)] mk (gs.map KnG.kv) P1 rows V) => hV.l2 (HP1.out _ HV.out.1)
   have hkd := fun V (hV : PlS w0 b #[.pointer (some ⟨p, 0, none⟩), .pointer (some ⟨c2, 0, none⟩), .int .i64 (S.played + 1), .map (some mk)] mk (gs.map KnG.kv) P1 rows V) => hV.l4 l HL.out.1
   refine rT [(0, false), (1, false), (2, false), (3, true), (4, false), (5, true), (6, true), (7, false), (8, false), (9, false)] 3 ?_
   apply Exists.intro; refine ⟨?_, ⟨_, HX.out.up3.up6.up3⟩, ?_⟩
   ·iterate 10 (first | refine xE ?_ | ((apply ygi' hcv); (· (simp only [k_i, k_j, k_k]; try rfl)); (· rfl); (· rfl); (· rfl)) | ((apply yjn' hkd); (· (simp only [k_i, k_j, k_k]; try rfl)); (· rfl); (· rfl); (· rfl); (· rfl)))
    exact rfl
   clear hl hcv hkd
   refine r1 2 10 fun K hK => ?_
   refine tWA ?_
   clear HX
   intro w b4 HX
   simp only [Act.put, k_a, k_b, k_c]
   refine hK _ _ ⟨_, HX.out.up4.up7.up4⟩ ?_
   clear hK
   refine rL [11, 12] 0 ?_
   simp only [List.filterMap_cons, List.filterMap_nil, k_i, k_j, k_k]
   refine tWS ?_
   clear HX
   intro w HX
   simp only [Act.put, k_a, k_b, k_c, yb2', Nat.reduceAdd] at HX ⊢
   go_wp2_with (first | refine u0 ?_ | (refine uS ?_; clear HX; intro w HX) | (refine uA ?_; clear HX; (first | (have hq := b5; clear hq; intro w b6 HX) | (have hq := b4; clear hq; intro w b5 HX) | (have hq := b3; clear hq; intro w b4 HX) | (have hq := b2; clear hq; intro w b3 HX) | (have hq := b; clear hq; intro w b2 HX) | intro w b HX)))
   have hsh := (yfg' (b := b) (S := { S with played := S.played + 1 }) (p := p) (c := c2) (mk := mk) (gs := gs) (P := P1) (HX.out.up7.up7.up5.up5) HG.out.1 (fun g hg => (HG.out.2 g hg).mono HP1.out)).up3
   obtain ⟨⟨⟨gk, gi, ⟨num, zx, er, gat, rs1⟩, e2, at2, rs2, gy⟩, S2⟩, hm1⟩ : ∃ m1, doC { S with played := S.played + 1 } ⟨k0, id, sess, rs, rn, ops, shards, shard, yes⟩ = m1 := ⟨_, rfl⟩
   have hm := yws' hsh hd HB.out.1.p HB.out.2 ⟨k0, id, sess, rs, rn, ops, shards, shard, yes⟩ _ _ HC.out.2.1 HC.out.2.2 HCO.out.1 HCO.out.2.1 HCO.out.2.2
   have hdb := y0f' (S := { S with played := S.played + 1 }) HB.out.1.p HB.out.1.c (by have := HB.out.2; omega) ⟨k0, id, sess, rs, rn, ops, shards, shard, yes⟩
   rw [hm1] at hm hdb
   obtain rfl : rr = (⟨gk, gi, ⟨num, zx, er, gat, rs1⟩, e2, at2, rs2, gy⟩, { S2 with known := S.known ++ [(l, ⟨gk, gi, ⟨num, zx, er, gat, rs1⟩, e2, at2, rs2, gy⟩)] }) := by
    rw [← HRR.out]
    unfold ya8'
    rw [HC.out.1]
    dsimp only
    rw [HL.out.2, hm1]
   have HDB := Lib.hid (show _ ∧ _ from ⟨hdb.1, hdb.2.2.2.1⟩)
   refine hm.mono ?_
   clear hm hm1 hdb hsh
   rintro e w ⟨y1, y2, P2, rfl, hP2, hin, hx⟩
   obtain ⟨a1, n1, c1, rfl⟩ := ybr' hx hin.1
   obtain ⟨a2, n2, c3, rfl⟩ := ybr' hx hin.2
   replace HX := Lib.hid hx
   clear hx
   have HP2 := Lib.hid (show _ ∧ _ from ⟨hP2, hin⟩)
   clear hP2 hin
   unfold outV
   dsimp only at HX ⊢
   go_upto_region 9 with (first | refine u0 ?_ | (refine uS ?_; clear HX; intro w HX) | (refine uA ?_; clear HX; (first | (have hq := b5; clear hq; intro w b6 HX) | (have hq := b4; clear hq; intro w b5 HX) | (have hq := b3; clear hq; intro w b4 HX) | (have hq := b2; clear hq; intro w b3 HX) | (have hq := b; clear hq; intro w b2 HX) | intro w b HX)))
   obtain ⟨p3, c4, mk3, gs3, hgs3, hgo3, hS⟩ := ygc' HX.out.up2
   have HG3 := Lib.hid (show _ ∧ _ from ⟨hgs3, hgo3⟩)
   clear hgs3 hgo3 HX
   have HX := Lib.hid hS
   clear hS
   refine rM (fun W => PlT w0 b #[.pointer (some ⟨p3, 0, none⟩), .pointer (some ⟨c4, 0, none⟩), .int .i64 S2.played, .map (some mk3)] b5 #[.int .i64 gk, .int .i64 gi, .int .i64 num, .int .i64 zx, .int .i64 er, .int .i64 gat, .slice a1 n1 c1, .int .i64 e2, .int .i64 at2, .slice a2 n2 c3, .bool gy] (1, v, l.map bv) rows W) 9 ?_
   intro KEEPX
   replace HX := Lib.hid HX.out.drew
   have hl := fun V (hV : PlT w0 b #[.pointer (some ⟨p3, 0, none⟩), .pointer (some ⟨c4, 0, none⟩), .int .i64 S2.played, .map (some mk3)] b5 #[.int .i64 gk, .int .i64 gi, .int .i64 num, .int .i64 zx, .int .i64 er, .int .i64 gat, .slice a1 n1 c1, .int .i64 e2, .int .i64 at2, .slice a2 n2 c3, .bool gy] (1, v, l.map bv) rows V) => hV.l1 (ty := 202) 3 (by kernel_rfl) rfl
   have hcv := fun V (hV : PlT w0 b #[.pointer (some ⟨p3, 0, none⟩), .pointer (some ⟨c4, 0, none⟩), .int .i64 S2.played, .map (some mk3)] b5 #[.int .i64 gk, .int .i64 gi, .int .i64 num, .int .i64 zx, .int .i64 er, .int .i64 gat, .slice a1 n1 c1, .int .i64 e2, .int .i64 at2, .slice a2 n2 c3, .bool gy] (1, v, l.map bv) rows V) => hV.l2
   have hl2 := fun V (hV : PlT w0 b #[.pointer (some ⟨p3, 0, none⟩), .pointer (some ⟨c4, 0, none⟩), .int .i64 S2.played, .map (some mk3)] b5 #[.int .i64 gk, .int .i64 gi, .int .i64 num, .int .i64 zx, .int .i64 er, .int .i64 gat, .slice a1 n1 c1, .int .i64 e2, .int .i64 at2, .slice a2 n2 c3, .bool gy] (1, v, l.map bv) rows V) => hV.l3 (by simp)
   simp only [k_d, k_f, k_g, k_h] at hl2
   refine rT [(0, false), (1, false), (2, false), (3, true), (4, false), (5, true), (6, true)] 2 ?_
   apply Exists.intro; refine ⟨?_, ⟨_, _, HP2.out.1 _ (HP1.out _ HV.out.1), HX.out.up5.up5.up2⟩, ?_⟩
   ·iterate 7 (first | refine xE ?_ | ((apply ygi' hcv); (· (simp only [k_i, k_j, k_k]; try rfl)); (· rfl); (· rfl); (· rfl)))
    exact rfl
   clear hl hl2 hcv
   refine r1 1 7 fun K hK => ?_
   go_wp2_with fail
   refine (yie' HX.out.up5 ⟨gk, gi, ⟨num, zx, er, gat, rs1⟩, e2, at2, rs2, gy⟩ _ _ HP2.out.2 HDB.out.1).mono ?_
   rintro e w ⟨y1, y2, P9, rfl, hP9, hin9, hx⟩
   obtain ⟨a5, n5, c5, rfl⟩ := ybr' hx hin9.1
   obtain ⟨a6, n6, c6, rfl⟩ := ybr' hx hin9.2
   replace HX := Lib.hid hx
   clear hx
   have H9 := Lib.hid (show _ ∧ _ from ⟨hP9, hin9⟩)
   clear hP9 hin9
   unfold outV
   dsimp only
   go_wp2_with fail
   refine hK _ _ ⟨_, _, H9.out.1 _ (HP2.out.1 _ (HP1.out _ HV.out.1)), HX.out.up5.up2⟩ ?_
   clear hK
   obtain ⟨w9, hrun, h9⟩ := Sep.mapAdd (P := Tryz.prog) (key := .string ⟨l.toArray⟩) (v := .agg #[.int .i64 gk, .int .i64 gi, .int .i64 num, .int .i64 zx, .int .i64 er, .int .i64 gat, .slice a5 n5 c5, .int .i64 e2, .int .i64 at2, .slice a6 n6 c6, .bool gy]) HX.out.up4 Tryz.underlying202 Tryz.underlying9 (by first | trivial | rfl | exact ⟨_, rfl⟩) (fun q hq e => by
    obtain ⟨g, hg, rfl⟩ := List.mem_map.1 hq
    have h1 : (g.b, g.o) ∈ S.known := by
     rw [← HDB.out.2, ← HG3.out.1]
     exact List.mem_map.2 ⟨g, hg, rfl⟩
    rw [← HG.out.1] at h1
    obtain ⟨g2, hg2, e2⟩ := List.mem_map.1 h1
    exact HL.out.1 g2 hg2 ((congrArg Prod.fst e2).trans (yg6' e)))
   have H9 := Lib.hid (show _ ∧ _ from ⟨h9, H9.out⟩)
   clear h9
   refine r1 0 8 fun K hK => ?_
   go_wp2_with fail
   refine hK _ _ ⟨_, _, H9.out.2.1 _ (HP2.out.1 _ (HP1.out _ HV.out.1)), H9.out.1.up1.up5.up3⟩ ?_
   clear hK
   refine yag' (by kernel_rfl) ?_ _
   replace HX := Lib.hid H9.out.1
   rename World => w
   go_wp2_with (first | refine u0 ?_ | (refine uS ?_; clear HX; intro w HX) | (refine uA ?_; clear HX; (first | (have hq := b5; clear hq; intro w b6 HX) | (have hq := b4; clear hq; intro w b5 HX) | (have hq := b3; clear hq; intro w b4 HX) | (have hq := b2; clear hq; intro w b3 HX) | (have hq := b; clear hq; intro w b2 HX) | intro w b HX)))
   refine ya9' HX rfl rfl (by (repeat (first | (with_reducible exact k_s) | (with_reducible apply k_m)))) (by kernel_rfl) ?_
   obtain ⟨-, hP9, hin9⟩ := H9.out
   have h4 := yde' HX.out.cut5.cut5.cut5.cut5.up3 hP9
   refine ⟨_, _, _, rfl, fun q hq => hP9 q (HP2.out.1 q (HP1.out q hq)), HP2.out.2.mono hP9, ?_⟩
   refine (yfg' (b := b) (S := { S2 with known := S.known ++ [(l, ⟨gk, gi, ⟨num, zx, er, gat, rs1⟩, e2, at2, rs2, gy⟩)] }) (p := p3) (c := c4) (mk := mk3) (gs := gs3 ++ [⟨l, ⟨gk, gi, ⟨num, zx, er, gat, rs1⟩, e2, at2, rs2, gy⟩, .slice a5 n5 c5, .slice a6 n6 c6⟩]) (P := P9) (R := yab' w0 P9 :: R) ?_ ?_ ?_).up1
   ·rw [List.map_append]
    exact h4.pm 5 [3, 0, 4, 1, 2] rfl rfl
   ·rw [List.map_append, HG3.out.1, HDB.out.2]
    rfl
   ·intro g hg
    rcases List.mem_append.1 hg with hg | hg
    ·exact (HG3.out.2 g hg).mono hP9
    ·rw [List.mem_singleton] at hg
     rw [hg]
     exact hin9
end
end Go.Proofs.YtcnkifbjlihaoaaGreatDoor

namespace Go.Proofs.YtcnkifbjlihaoaaGreatDoor
open Go.RowKit Go.Av
theorem sl_x3 : SliceN Tryz.prog 90 93 11 120 := .of Tryz.underlying90 (by kernel_rfl)
theorem sl_x4 : SliceN Tryz.prog 101 71 1 24 := .of Tryz.underlying101 (by kernel_rfl)
section
variable {w0 w : World} {b : Nat} {S : ShardS} {P P' : List PRow} {R : List Thing} {rows : List (Value × Bs)}
inductive OutL (P : List PRow) : List OutS → List Value → Prop
 | nil : OutL P [] []
 | cons {o : OutS} {v1 v2 : Value} {os : List OutS} {xs : List Value} : OutIn P o v1 v2 → OutL P os xs → OutL P (o :: os) ((outV o v1 v2).toList ++ xs)
theorem OutL.mono {os : List OutS} {xs : List Value} (h : OutL P os xs) (hP : ∀ r ∈ P, r ∈ P') : OutL P' os xs := by
 induction h with
 | nil => exact .nil
 | cons h1 _ ih => exact .cons (h1.mono hP) ih
theorem OutL.snoc {os : List OutS} {xs : List Value} {o : OutS} {v1 v2 : Value} (h : OutL P os xs) (ho : OutIn P o v1 v2) : OutL P (os ++ [o]) (xs ++ (outV o v1 v2).toList) := by
 induction h with
 | nil => simpa using OutL.cons ho OutL.nil
 | cons h1 _ ih =>
  rw [List.cons_append, List.append_assoc]
  exact .cons h1 ih
theorem OutL.len {os : List OutS} {xs : List Value} (h : OutL P os xs) : xs.length = os.length * 11 := by
 induction h with
 | nil => rfl
 | cons _ _ ih => simp only [List.length_append, List.length_cons, ih]; simp [outV]; omega
theorem OutL.at {os : List OutS} {xs : List Value} (h : OutL P os xs) : ∀ {i : Nat} (hi : i < os.length), ∃ v1 v2, OutIn P os[i] v1 v2 ∧ ∀ j v, (outV os[i] v1 v2).toList[j]? = some v → xs[i * 11 + j]? = some v := by
 induction h with
 | nil => intro i hi; cases hi
 | @cons o v1 v2 os xs h1 h2 ih =>
  intro i hi
  cases i with
  | zero =>
   refine ⟨v1, v2, h1, fun j v hv => ?_⟩
   have hv : (outV o v1 v2).toList[j]? = some v := hv
   have hj := (List.getElem?_eq_some_iff.1 hv).1
   rw [Nat.zero_mul, Nat.zero_add, List.getElem?_append_left hj]
   exact hv
  | succ i =>
   obtain ⟨u1, u2, h3, h4⟩ := ih (i := i) (by simpa using hi)
   refine ⟨u1, u2, h3, fun j v hv => ?_⟩
   have hl : (outV o v1 v2).toList.length = 11 := rfl
   rw [List.getElem?_append_right (by omega), hl, show (i + 1) * 11 + j - 11 = i * 11 + j by omega]
   exact h4 j v hv
inductive RecL (P : List PRow) : List Bs → List Value → Prop
 | nil : RecL P [] []
 | cons {l : Bs} {v : Value} {ls : List Bs} {vs : List Value} : (1, v, l.map bv) ∈ P → RecL P ls vs → RecL P (l :: ls) (v :: vs)
theorem RecL.len {ls : List Bs} {vs : List Value} (h : RecL P ls vs) : vs.length = ls.length := by
 induction h with
 | nil => rfl
 | cons _ _ ih => simp [ih]
theorem RecL.mono {ls : List Bs} {vs : List Value} (h : RecL P ls vs) (hP : ∀ r ∈ P, r ∈ P') : RecL P' ls vs := by
 induction h with
 | nil => exact .nil
 | cons h1 _ ih => exact .cons (hP _ h1) ih
theorem RecL.snoc {ls : List Bs} {vs : List Value} {l : Bs} {v : Value} (h : RecL P ls vs) (hv : (1, v, l.map bv) ∈ P) : RecL P (ls ++ [l]) (vs ++ [v]) := by
 induction h with
 | nil => exact .cons hv .nil
 | cons h1 _ ih => exact .cons h1 ih
theorem RecL.at {ls : List Bs} {vs : List Value} (h : RecL P ls vs) : ∀ {i : Nat} (hi : i < ls.length), ∃ v, vs[i]? = some v ∧ (1, v, ls[i].map bv) ∈ P := by
 induction h with
 | nil => intro i hi; cases hi
 | @cons l v ls vs h1 h2 ih =>
  intro i hi
  cases i with
  | zero => exact ⟨v, rfl, h1⟩
  | succ i => exact ih (i := i) (by simpa using hi)
def yrr' (w0 : World) (b : Nat) (P : List PRow) (R : List Thing) (rows : List (Value × Bs)) (m : List OutS × ShardS) (e : Ending) (w' : World) : Prop :=
 ∃ v xs P', e = .returned v ∧ (∀ q ∈ P, q ∈ P') ∧ OutL P' m.1 xs ∧ (11, v, xs) ∈ P' ∧ Sep w0 w' (yab' w0 P' :: yba' b m.2 P' :: R) rows
def yo4' (w0 : World) (b : Nat) (S : ShardS) (ls : List Bs) (P : List PRow) (R : List Thing) (rows : List (Value × Bs)) (k : Nat) (v5 v10 : Value) (w : World) : Prop :=
 ∃ (i : Nat) (ys : List Value) (a : Option Addr) (n c : Nat) (P' : List PRow), i + k = ls.length ∧ v5 = .slice a n c ∧ v10 = .int .i64 (i : Int) ∧ (∀ q ∈ P, q ∈ P') ∧ OutL P' (ycr' (ls.take i) S).1 ys ∧
  Sep w0 w (yaf' 11 (.slice a n c) ys :: yab' w0 P' :: yba' b (ycr' (ls.take i) S).2 P' :: R) rows
set_option maxRecDepth 100000 in
set_option maxHeartbeats 4000000 in
theorem yfw' {K : Nat} (h : Sep w0 w (yab' w0 P :: yba' b S P :: R) rows) (hd : DoorN w0) (hB : ShB K S) (ls : List Bs) (vr : Value) (vs : List Value) (hvr : (1, vr, vs) ∈ P) (hvs : RecL P ls vs) (hK : K + ls.length ≤ 100) (hl : ∀ l ∈ ls, l.length ≤ 1000000) :
  Calls Tryz.prog 48 #[.pointer (some ⟨b, 0, none⟩), vr] w (yrr' w0 b P R rows (ycr' ls S)) := by
 obtain ⟨E, hE⟩ := h.poolGet hvr
 obtain ⟨a0, n0, c0, rfl, hl0, -, -, hne⟩ := ReadRow.some hE
 rw [hvs.len, Nat.mul_one] at hl0
 subst hl0
 have HV := Lib.hid (show _ ∧ _ ∧ _ ∧ _ ∧ _ from ⟨hvr, hvs, hB, hK, hl⟩)
 have HNE := Lib.hid hne
 have HX := Lib.hid h
 clear h hE hne hvr hvs hB hK hl
 go_enter Tryz.func48, Tryz.ntmps48
 go_wp2_with (first | refine u0 ?_ | (refine uS ?_; clear HX; intro w HX) | (refine uA ?_; clear HX; (first | (have hq := b; clear hq; intro w b2 HX) | intro w b HX)) | (refine uP ?_; clear HX; intro w av nv cv HX))
 have HST := Lib.hid (show yo4' w0 b S ls P R rows ls.length (.slice none 0 0) (.int .i64 (0 : Int)) w from ⟨0, [], none, 0, 0, P, by simp, rfl, rfl, fun q hq => hq, .nil, HX.out.nilRow 11⟩)
 clear HX
 go_loopg [5, 7, 10] ls.length (fun k v5 _ v10 wr => yo4' w0 b S ls P R rows k v5 v10 wr)
 case atStart => exact HST.out
 case round =>
  rename World => w
  obtain ⟨i, ys, a, n, c, P', hik, rfl, rfl, hP', hol, hS⟩ := hrel
  have HOL := Lib.hid (show _ ∧ _ from ⟨hP', hol⟩)
  have HX := Lib.hid hS
  clear hP' hol hS HST
  by_cases hlt : i < ls.length
  case neg =>
   obtain rfl : i = ls.length := by omega
   rw [List.take_length] at HOL HX
   clear hlt hik
   go_wp2_with (first | refine u0 ?_ | (refine uS ?_; clear HX; intro w HX) | (refine uA ?_; clear HX; (first | (have hq := b; clear hq; intro w b2 HX) | intro w b HX)) | (refine uP ?_; clear HX; intro w av nv cv HX))
   go_ret
   have h2 := HX.out.poolRow
   exact ⟨_, ys, _, rfl, fun q hq => k_n _ (HOL.out.1 q hq), HOL.out.2.mono (fun q hq => k_n _ hq), k_s, (ylp' h2.up1 (fun q hq => k_n _ hq)).up1⟩
  case pos =>
   obtain ⟨vi, m1, m2⟩ := HV.out.2.1.at hlt
   obtain ⟨g, off, rfl⟩ := HNE.out (by intro e; have e : vs = [] := e; rw [e] at m1; cases m1)
   obtain ⟨E, hE⟩ := HX.out.up1.poolGet (HOL.out.1 _ HV.out.1)
   have hl := ybz' (P := Tryz.prog) (ty := 71) (i := i) (v := vi) hE (by kernel_rfl) m1
   have htk : ls.take (i + 1) = ls.take i ++ [ls[i]] := List.take_succ_eq_append_getElem hlt
   have hlen := HV.out.2.2.2.2 _ (List.getElem_mem hlt)
   have hsb : ShB (K + i) (ycr' (ls.take i) S).2 := by
    have := yps' (ls.take i) HV.out.2.2.1 (by have := HV.out.2.2.2.1; rw [List.length_take]; omega)
    rw [List.length_take, Nat.min_eq_left (by omega)] at this
    rw [ylj']
    exact this
   have hpl := ykc' (ls.take i) ls[i] S
   rw [← htk] at hpl
   have hlo : (ycr' (ls.take i) S).1.length = i := by rw [yhu', List.length_take, Nat.min_eq_left (by omega)]
   obtain ⟨l, hll⟩ : ∃ l, ls[i] = l := ⟨_, rfl⟩
   obtain ⟨⟨os, S1⟩, hm⟩ : ∃ m, ycr' (ls.take i) S = m := ⟨_, rfl⟩
   rw [hll] at m2 hlen hpl
   rw [hm] at hpl hsb hlo HX HOL
   dsimp only at hsb hlo HX HOL hpl
   have HLN := Lib.hid (show ys.length = i * 11 by have := HOL.out.2.len; rw [hlo] at this; exact this)
   have HBD := Lib.hid (show ∀ n, ys.length = n * 11 → n + 1 ≤ 140737488355328 ∧ (n + 1) * 120 ≤ 140737488355328 from fun n hn => by
    have := HLN.out
    have := HV.out.2.2.2.1
    omega)
   have HK := Lib.hid (show _ ∧ _ ∧ _ ∧ _ from ⟨m2, hpl, hlen, hsb⟩)
   have q0 : decide (i < ls.length) = true := decide_eq_true hlt
   have q9 : i ≤ 1000 := by have := HV.out.2.2.2.1; omega
   clear hE m1 m2 htk hpl hlen hsb hm hll hlo
   go_wp2_with (first | refine u0 ?_ | (refine uS ?_; clear HX; intro w HX) | (refine uA ?_; clear HX; (first | (have hq := b; clear hq; intro w b2 HX) | intro w b HX)) | (refine uP ?_; clear HX; intro w av nv cv HX) | ((with_reducible apply yau' hl); (· rfl); (· rfl); simp only [Act.put, k_a, k_b, k_c]))
   refine (yq9' HX.out.up1.up2.up1 hd HK.out.2.2.2 (by have := HV.out.2.2.2.1; omega) _ l (HOL.out.1 _ HK.out.1) HK.out.2.2.1).mono ?_
   obtain ⟨⟨⟨gk, gi, ⟨num, zx, er, gat, rs1⟩, e2, at2, rs2, gy⟩, S2⟩, hm1⟩ : ∃ m1, ya8' S1 l = m1 := ⟨_, rfl⟩
   rw [hm1] at HK ⊢
   rintro e w ⟨y1, y2, P9, rfl, hP9, hin9, hx⟩
   obtain ⟨a5, n5, c5, rfl⟩ := ybr' hx hin9.1
   obtain ⟨a6, n6, c6, rfl⟩ := ybr' hx hin9.2
   clear hl
   replace HX := Lib.hid hx
   clear hx
   have H9 := Lib.hid (show _ ∧ _ from ⟨hP9, hin9⟩)
   clear hP9 hin9 hm1
   unfold outV
   dsimp only at HK HX ⊢
   go_wp2_with (first | refine u0 ?_ | (refine uS ?_; clear HX; intro w HX) | (refine uA ?_; clear HX; (first | (have hq := b; clear hq; intro w b2 HX) | intro w b HX)) | (refine uP ?_; clear HX; intro w av nv cv HX))
   go_roundg (ls.length - (i + 1))
   case rel =>
    refine ⟨i + 1, ys ++ (outV ⟨gk, gi, ⟨num, zx, er, gat, rs1⟩, e2, at2, rs2, gy⟩ (.slice a5 n5 c5) (.slice a6 n6 c6)).toList, av, nv, cv, P9, by omega, rfl, by go_num, fun q hq => H9.out.1 q (HOL.out.1 q hq), ?_, ?_⟩
    ·rw [HK.out.2.1]
     exact (HOL.out.2.mono H9.out.1).snoc H9.out.2
    ·rw [HK.out.2.1]
     exact HX.out.cut1
   case measure => omega
set_option maxRecDepth 100000 in
theorem ycx' {p : Nat} {c n m : Value} (h : Sep w0 w (yac' b (.cells #[.pointer (some ⟨p, 0, none⟩), c, n, m] 204 (0, 0)) :: R) rows) :
  Calls Tryz.prog 49 #[.pointer (some ⟨b, 0, none⟩)] w fun e w' => e = .returned (.pointer (some ⟨p, 0, none⟩)) ∧ w' = w := by
 have HX := Lib.hid h
 clear h
 go_enter Tryz.func49, Tryz.ntmps49
 go_wp2_with (first | refine u0 ?_ | (refine uS ?_; clear HX; intro w HX) | (refine uA ?_; clear HX; (first | (have hq := b; clear hq; intro w b2 HX) | intro w b HX)))
 go_ret
 exact ⟨rfl, rfl⟩
set_option maxRecDepth 100000 in
theorem ygd' {p c : Nat} {n m : Value} (h : Sep w0 w (yac' b (.cells #[.pointer (some ⟨p, 0, none⟩), .pointer (some ⟨c, 0, none⟩), n, m] 204 (0, 0)) :: R) rows) :
  Calls Tryz.prog 54 #[.pointer (some ⟨b, 0, none⟩)] w fun e w' => e = .returned (.pointer (some ⟨c, 0, none⟩)) ∧ w' = w := by
 have HX := Lib.hid h
 clear h
 go_enter Tryz.func54, Tryz.ntmps54
 go_wp2_with (first | refine u0 ?_ | (refine uS ?_; clear HX; intro w HX) | (refine uA ?_; clear HX; (first | (have hq := b; clear hq; intro w b2 HX) | intro w b HX)))
 go_ret
 exact ⟨rfl, rfl⟩
set_option maxRecDepth 100000 in
theorem yne' {p c : Nat} {z : Int} {m : Value} (h : Sep w0 w (yac' b (.cells #[.pointer (some ⟨p, 0, none⟩), .pointer (some ⟨c, 0, none⟩), .int .i64 z, m] 204 (0, 0)) :: R) rows) :
  Calls Tryz.prog 100 #[.pointer (some ⟨b, 0, none⟩)] w fun e w' => e = .returned (.int .i64 z) ∧ w' = w := by
 have HX := Lib.hid h
 clear h
 go_enter Tryz.func100, Tryz.ntmps100
 go_wp2_with (first | refine u0 ?_ | (refine uS ?_; clear HX; intro w HX) | (refine uA ?_; clear HX; (first | (have hq := b; clear hq; intro w b2 HX) | intro w b HX)))
 go_ret
 exact ⟨rfl, rfl⟩
end
end Go.Proofs.YtcnkifbjlihaoaaGreatDoor
