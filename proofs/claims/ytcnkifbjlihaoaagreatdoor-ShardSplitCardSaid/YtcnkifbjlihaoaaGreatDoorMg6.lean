/-
  Texts of this claim, laid together.
-/
import Derived.Test.YtcnkifbjlihaoaaGreatDoorMg5
import Derived.Deep.Matrix
import Derived.Deep.Slices
import Derived.ChangeSame
import Derived.Deep.LoopGhost
import Derived.Lib.SliceRun
import Derived.Deep.OwnRows
import Derived.Laws.OwnMore
import Derived.Deep.DeepCutAuto
set_option linter.unusedVariables false
set_option linter.unusedSimpArgs false

namespace Go.Av
open Go.RowKit
theorem ykb' (gs : List WaitG) (id : Int) : hasW (gs.map WaitG.ent) id = gs.any fun g => g.id == id := by unfold hasW; rw [List.any_map]; rfl
end Go.Av
namespace Go.Proofs.YtcnkifbjlihaoaaGreatDoor
open Go.RowKit Go.Av
section
variable {w0 w : World} {b : Nat} {S : PartS} {P P' : List PRow} {R : List Thing} {rows : List (Value × Bs)}
theorem yxe' (w : World) : (zeroValue 144).run Tryz.prog w = .ok (.agg #[.int .i64 0, .slice none 0 0, .bool false, .bool false]) w := by kernel_rfl
theorem yob' {gs : List WaitG} {m : Nat} (h : Sep w0 w (yam' (.int .i64) m (gs.map WaitG.kv) :: R) rows) (id : Int) (hn : ∀ g ∈ gs, g.id ≠ id) :
  (Instr.lookup 120 (.map (some m)) (.int .i64 id) true).run Tryz.prog w = .ok (.tuple #[.agg #[.int .i64 0, .slice none 0 0, .bool false, .bool false], .bool false]) w :=
 yfv' h.mapIs Tryz.underlying120 Tryz.underlying2 (key := .int .i64 id) (by first | trivial | rfl | exact ⟨_, rfl⟩) (fun q hq e => by
  obtain ⟨g, hg, rfl⟩ := List.mem_map.1 hq
  simp only [WaitG.kv, Value.int.injEq, true_and] at e
  exact hn g hg e) (yxe' w) true
theorem yoc' {gs : List WaitG} {m : Nat} (h : Sep w0 w (yam' (.int .i64) m (gs.map WaitG.kv) :: R) rows) {g : WaitG} (hg : g ∈ gs) :
  (Instr.lookup 120 (.map (some m)) (.int .i64 g.id) true).run Tryz.prog w = .ok (.tuple #[.agg #[.int .i64 g.x.sess, g.v, .bool g.x.close, .bool g.x.fails], .bool true]) w :=
 ygb' h.mapIs Tryz.underlying120 Tryz.underlying2 (key := .int .i64 g.id) (by first | trivial | rfl | exact ⟨_, rfl⟩) (List.mem_map.2 ⟨g, hg, rfl⟩) true
set_option maxRecDepth 100000 in
set_option maxHeartbeats 8000000 in
theorem ym3' (h : Sep w0 w (yab' w0 P :: ybm' b S P :: R) rows) (id sess : Int) :
  Calls Tryz.prog 68 #[.pointer (some ⟨b, 0, none⟩), .int .i64 id, .int .i64 sess] w fun e w' => e = .returned (.bool (yce' S id sess)) ∧ Sep w0 w' (yab' w0 P :: ybm' b S P :: R) rows := by
 obtain ⟨t, lk, mw, md, mc, gs, hgs, hgv, hS⟩ := ybu' h.up1
 have HG := Lib.hid (show _ ∧ _ from ⟨hgs, hgv⟩)
 by_cases hin : ∃ g ∈ gs, g.id = id
 ·obtain ⟨g, hg, rfl⟩ := hin
  have hk := yoc' hS.up3 hg
  have HHW := Lib.hid (show hasW S.wait g.id = true by rw [← hgs, ykb']; exact List.any_eq_true.2 ⟨g, hg, beq_self_eq_true _⟩)
  obtain ⟨E, hE⟩ := hS.up6.poolGet (hgv g hg)
  obtain ⟨ga, gn, gc, hvs, -⟩ := ReadRow.some hE
  obtain ⟨id, ⟨gs1, gops, gcl, gfa⟩, gv⟩ := g
  dsimp only at hvs hk HHW ⊢
  subst hvs
  have HX := Lib.hid hS
  clear h hgs hgv hS hE hg
  go_enter Tryz.func68, Tryz.ntmps68
  go_upto_region 2 with (first | refine u0 ?_ | (refine uS ?_; clear HX; intro w HX) | (refine uA ?_; clear HX; (first | (have hq := b; clear hq; intro w b2 HX) | intro w b HX)))
  have hk2 := yiq' HX.out.up5 id
  obtain ⟨zd, hzd⟩ : ∃ z, decide (id ∈ S.decided) = z := ⟨_, rfl⟩
  rw [hzd] at hk2
  have HZD := Lib.hid hzd
  clear hk hzd
  obtain ⟨z1, hz1⟩ : ∃ z, decide (id < 1) = z := ⟨_, rfl⟩
  obtain ⟨z2, hz2⟩ : ∃ z, decide (sess < 1) = z := ⟨_, rfl⟩
  have HKN := Lib.hid (show yce' S id sess = (z1 || (z2 || (true || zd))) by unfold yce'; rw [hz1, hz2, HHW.out, HZD.out])
  cases z1 <;> cases z2 <;> cases zd
  all_goals
   go_wp2_with (first | refine u0 ?_ | (refine uS ?_; clear HX; intro w HX) | (refine uA ?_; clear HX; (first | (have hq := b; clear hq; intro w b2 HX) | intro w b HX)))
   go_ret
   rw [HKN.out]
   exact ⟨rfl, (yba' (b := b) (t := t) (lk := lk) (mw := mw) (md := md) (mc := mc) (gs := gs) (S := S) (R := yab' w0 P :: R) HX.out.drop HG.out.1 HG.out.2).up1⟩
 ·have hk := yob' hS.up3 id (fun g hg e => hin ⟨g, hg, e⟩)
  have HHW := Lib.hid (show hasW S.wait id = false by rw [← hgs, ykb', List.any_eq_false]; intro g hg e; exact hin ⟨g, hg, by simpa using e⟩)
  have HX := Lib.hid hS
  clear h hgs hgv hS hin
  go_enter Tryz.func68, Tryz.ntmps68
  go_upto_region 2 with (first | refine u0 ?_ | (refine uS ?_; clear HX; intro w HX) | (refine uA ?_; clear HX; (first | (have hq := b; clear hq; intro w b2 HX) | intro w b HX)))
  have hk2 := yiq' HX.out.up5 id
  obtain ⟨zd, hzd⟩ : ∃ z, decide (id ∈ S.decided) = z := ⟨_, rfl⟩
  rw [hzd] at hk2
  have HZD := Lib.hid hzd
  clear hk hzd
  obtain ⟨z1, hz1⟩ : ∃ z, decide (id < 1) = z := ⟨_, rfl⟩
  obtain ⟨z2, hz2⟩ : ∃ z, decide (sess < 1) = z := ⟨_, rfl⟩
  have HKN := Lib.hid (show yce' S id sess = (z1 || (z2 || (false || zd))) by unfold yce'; rw [hz1, hz2, HHW.out, HZD.out])
  cases z1 <;> cases z2 <;> cases zd
  all_goals
   go_wp2_with (first | refine u0 ?_ | (refine uS ?_; clear HX; intro w HX) | (refine uA ?_; clear HX; (first | (have hq := b; clear hq; intro w b2 HX) | intro w b HX)))
   go_ret
   rw [HKN.out]
   exact ⟨rfl, (yba' (b := b) (t := t) (lk := lk) (mw := mw) (md := md) (mc := mc) (gs := gs) (S := S) (R := yab' w0 P :: R) HX.out.drop HG.out.1 HG.out.2).up1⟩
set_option maxRecDepth 100000 in
theorem yxf' (h : Sep w0 w (ybm' b S P :: R) rows) : Calls Tryz.prog 31 #[.pointer (some ⟨b, 0, none⟩)] w fun e w' => e = .returned (.int .i64 S.zxid) ∧ Sep w0 w' (ybm' b S P :: R) rows := by
 obtain ⟨t, lk, mw, md, mc, gs, hgs, hgv, hS⟩ := ybu' h
 have HX := Lib.hid hS
 clear h hS
 go_enter Tryz.func31, Tryz.ntmps31
 go_wp2_with (first | refine u0 ?_ | (refine uS ?_; clear HX; intro w HX) | (refine uA ?_; clear HX; (first | (have hq := b; clear hq; intro w b2 HX) | intro w b HX)))
 go_ret
 exact ⟨rfl, yba' HX.out hgs hgv⟩
set_option maxRecDepth 100000 in
theorem yrm' (h : Sep w0 w (ybm' b S P :: R) rows) : Calls Tryz.prog 27 #[.pointer (some ⟨b, 0, none⟩)] w fun e w' => e = .returned (.int .i64 (S.held.length : Nat)) ∧ Sep w0 w' (ybm' b S P :: R) rows := by
 obtain ⟨t, lk, mw, md, mc, gs, hgs, hgv, hS⟩ := ybu' h
 have HX := Lib.hid hS
 clear h hS
 go_enter Tryz.func27, Tryz.ntmps27
 go_wp2_with (first | refine u0 ?_ | (refine uS ?_; clear HX; intro w HX) | (refine uA ?_; clear HX; (first | (have hq := b; clear hq; intro w b2 HX) | intro w b HX)))
 refine (you' HX.out.up2).mono ?_
 rintro e w ⟨rfl, hx⟩
 replace HX := Lib.hid hx
 clear hx
 go_wp2_with (first | refine u0 ?_ | (refine uS ?_; clear HX; intro w HX) | (refine uA ?_; clear HX; (first | (have hq := b; clear hq; intro w b2 HX) | intro w b HX)))
 go_ret
 exact ⟨rfl, yba' HX.out.up2.up2 hgs hgv⟩
def yyf' (w0 : World) (b : Nat) (S : PartS) (P : List PRow) (R : List Thing) (rows : List (Value × Bs)) (e : Ending) (w' : World) : Prop :=
 ∃ c P', e = .returned (.pointer (some ⟨c, 0, none⟩)) ∧ (∀ q ∈ P, q ∈ P') ∧ Sep w0 w' (yab' w0 P' :: yan' c S.t P' :: ybm' b S P' :: R) rows
set_option maxRecDepth 100000 in
set_option maxHeartbeats 4000000 in
theorem yfg' (h : Sep w0 w (yab' w0 P :: ybm' b S P :: R) rows) (hok : ∀ e ∈ S.t.l, NodeOk e.2) : Calls Tryz.prog 36 #[.pointer (some ⟨b, 0, none⟩)] w (yyf' w0 b S P R rows) := by
 obtain ⟨t, lk, mw, md, mc, gs, hgs, hgv, hS⟩ := ybu' h.up1
 have HX := Lib.hid hS
 clear h hS
 go_enter Tryz.func36, Tryz.ntmps36
 go_wp2_with (first | refine u0 ?_ | (refine uS ?_; clear HX; intro w HX) | (refine uA ?_; clear HX; (first | (have hq := b; clear hq; intro w b2 HX) | intro w b HX)))
 refine (yeg' HX.out.up1.up6 hok).mono ?_
 rintro e w ⟨c, P', rfl, hP', hx⟩
 replace HX := Lib.hid hx
 clear hx
 go_wp2_with (first | refine u0 ?_ | (refine uS ?_; clear HX; intro w HX) | (refine uA ?_; clear HX; (first | (have hq := b; clear hq; intro w b2 HX) | intro w b HX)))
 go_ret
 refine ⟨c, P', rfl, hP', ?_⟩
 exact (yba' (b := b) (t := t) (lk := lk) (mw := mw) (md := md) (mc := mc) (gs := gs) (S := S) (R := yab' w0 P' :: yan' c S.t P' :: R) (HX.out.pm 8 [3, 2, 4, 5, 6, 7, 0, 1] rfl rfl) hgs (fun g hg => hP' _ (hgv g hg))).pm 3 [1, 2, 0] rfl rfl
end
end Go.Proofs.YtcnkifbjlihaoaaGreatDoor

namespace Go.Av
theorem yok' {S : PartS} {id sess : Int} (h : yce' S id sess = true) : ycl' S id sess = (1, S) := by unfold ycl'; rw [if_pos h]
theorem ymi' {S : PartS} {id sess : Int} (h : yce' S id sess = false) (h1 : sess ∈ S.closed) : ycl' S id sess = (11, S) := by unfold ycl'; rw [if_neg (by rw [h]; exact Bool.false_ne_true), if_pos h1]
theorem yqy' {S : PartS} {id sess : Int} (h : yce' S id sess = false) (h1 : ¬ sess ∈ S.closed) (h2 : yn9' S.wait sess = true) : ycl' S id sess = (12, S) := by unfold ycl'; rw [if_neg (by rw [h]; exact Bool.false_ne_true), if_neg h1, if_pos h2]
theorem yqx' {S : PartS} {id sess : Int} (h : yce' S id sess = false) (h1 : ¬ sess ∈ S.closed) (h2 : yn9' S.wait sess = false) : ycl' S id sess = if (ydq' S.held id (ofT S.t sess)).isSome = true then (12, S)
 else (0, { S with held := ydi' S.held id (ofT S.t sess), wait := S.wait ++ [(id, ⟨sess, [], true, false⟩)] }) := by unfold ycl'; rw [if_neg (by rw [h]; exact Bool.false_ne_true), if_neg h1, if_neg (by rw [h2]; exact Bool.false_ne_true)]
theorem ygs' {S : PartS} {id sess : Int} (h : yce' S id sess = false) : hasW S.wait id = false := by
 unfold yce' at h
 simp only [Bool.or_eq_false_iff] at h
 exact h.2.2.1
theorem yrx' {H : yby'} {id : Int} {ps : List Bs} (h : (ydq' H id ps).isSome = true) : ydi' H id ps = H := by unfold ydi'; rw [if_pos h]
end Go.Av
namespace Go.Proofs.YtcnkifbjlihaoaaGreatDoor
open Go.RowKit Go.Av
section
variable {w0 w : World} {b : Nat} {S : PartS} {P P' : List PRow} {R : List Thing} {rows : List (Value × Bs)}
def CloP (w0 : World) (b : Nat) (P : List PRow) (R : List Thing) (rows : List (Value × Bs)) (m : Int × PartS) (e : Ending) (w' : World) : Prop :=
 ∃ P', e = .returned (.tuple #[.int .i64 m.1, .int .i64 (-1)]) ∧ (∀ q ∈ P, q ∈ P') ∧ Sep w0 w' (yab' w0 P' :: ybm' b m.2 P' :: R) rows
set_option maxRecDepth 100000 in
set_option maxHeartbeats 8000000 in
theorem ysl' {K : Nat} (h : Sep w0 w (yab' w0 P :: ybm' b S P :: R) rows) (hd : DoorN w0) (hB : PartB K S) (hK : K ≤ 1000) (id sess : Int) :
  Calls Tryz.prog 19 #[.pointer (some ⟨b, 0, none⟩), .int .i64 id, .int .i64 sess] w (CloP w0 b P R rows (ycl' S id sess)) := by
 have HB := Lib.hid (show _ ∧ _ from ⟨hB, hK⟩)
 have HX := Lib.hid h
 obtain ⟨rr, hrr⟩ : ∃ rr, ycl' S id sess = rr := ⟨_, rfl⟩
 rw [hrr]
 have HRR := Lib.hid hrr
 clear h hB hK hrr
 go_enter Tryz.func19, Tryz.ntmps19
 go_wp2_with (first | refine u0 ?_ | (refine uS ?_; clear HX; intro w HX) | (refine uA ?_; clear HX; (first | (have hq := b; clear hq; intro w b2 HX) | intro w b HX)))
 refine (ym3' HX.out id sess).mono ?_
 obtain ⟨zk, hzk⟩ : ∃ z, yce' S id sess = z := ⟨_, rfl⟩
 rw [hzk]
 rintro e w ⟨rfl, hx⟩
 replace HX := Lib.hid hx
 have HZK := Lib.hid hzk
 clear hx hzk
 cases zk with
 | true =>
  obtain rfl : rr = (1, S) := by rw [← HRR.out]; exact yok' HZK.out
  go_wp2_with (first | refine u0 ?_ | (refine uS ?_; clear HX; intro w HX) | (refine uA ?_; clear HX; (first | (have hq := b; clear hq; intro w b2 HX) | intro w b HX)))
  go_ret2
  exact ⟨P, rfl, fun q hq => hq, HX.out⟩
 | false =>
  obtain ⟨t, lk, mw, md, mc, gs, hgs, hgv, hS⟩ := ybu' HX.out.up1
  have HG := Lib.hid (show _ ∧ _ from ⟨hgs, hgv⟩)
  have hk := yiq' hS.up5 sess
  obtain ⟨zc, hzc⟩ : ∃ z, decide (sess ∈ S.closed) = z := ⟨_, rfl⟩
  rw [hzc] at hk
  have HZC := Lib.hid hzc
  clear HX hgs hgv hzc
  have HX := Lib.hid hS
  clear hS
  cases zc with
  | true =>
   obtain rfl : rr = (11, S) := by rw [← HRR.out]; exact ymi' HZK.out (of_decide_eq_true HZC.out)
   go_wp2_with (first | refine u0 ?_ | (refine uS ?_; clear HX; intro w HX) | (refine uA ?_; clear HX; (first | (have hq := b; clear hq; intro w b2 HX) | intro w b HX)))
   go_ret2
   exact ⟨P, rfl, fun q hq => hq, (yba' HX.out HG.out.1 HG.out.2).up1⟩
  | false =>
   have HNC := Lib.hid (of_decide_eq_false HZC.out)
   go_wp2_with (first | refine u0 ?_ | (refine uS ?_; clear HX; intro w HX) | (refine uA ?_; clear HX; (first | (have hq := b; clear hq; intro w b2 HX) | intro w b HX)))
   have h9 := (yba' HX.out HG.out.1 HG.out.2).up1
   clear HX hk
   have HX := Lib.hid h9
   clear h9
   refine (yw9' HX.out sess).mono ?_
   obtain ⟨zu, hzu⟩ : ∃ z, yn9' S.wait sess = z := ⟨_, rfl⟩
   rw [hzu]
   rintro e w ⟨rfl, hx⟩
   replace HX := Lib.hid hx
   have HZU := Lib.hid hzu
   clear hx hzu
   cases zu with
   | true =>
    obtain rfl : rr = (12, S) := by rw [← HRR.out]; exact yqy' HZK.out HNC.out HZU.out
    go_wp2_with (first | refine u0 ?_ | (refine uS ?_; clear HX; intro w HX) | (refine uA ?_; clear HX; (first | (have hq := b; clear hq; intro w b2 HX) | intro w b HX)))
    go_ret2
    exact ⟨P, rfl, fun q hq => hq, HX.out⟩
   | false =>
    have HR3 := Lib.hid (HRR.out.symm.trans (yqx' HZK.out HNC.out HZU.out))
    clear HRR
    obtain ⟨t, lk, mw, md, mc, gs, hgs, hgv, hS⟩ := ybu' HX.out.up1
    clear HG
    have HG := Lib.hid (show _ ∧ _ from ⟨hgs, hgv⟩)
    clear HX hgs hgv
    have HX := Lib.hid hS
    clear hS
    go_wp2_with (first | refine u0 ?_ | (refine uS ?_; clear HX; intro w HX) | (refine uA ?_; clear HX; (first | (have hq := b; clear hq; intro w b2 HX) | intro w b HX)))
    refine (yz6' HX.out.up1.up6 sess (by have := HB.out.1.tree.many; omega) (fun e he => by have := HB.out.1.tree.keys e he; omega)).mono ?_
    rintro e w ⟨vg, P2, rfl, hP2, hvg, hx⟩
    obtain ⟨E, hE⟩ := hx.poolGet hvg
    obtain ⟨ga, gn, gc, rfl, -⟩ := ReadRow.some hE
    clear HX hE
    have HX := Lib.hid hx
    have HP2 := Lib.hid (show _ ∧ _ from ⟨hP2, hvg⟩)
    clear hx hP2 hvg
    go_wp2_with (first | refine u0 ?_ | (refine uS ?_; clear HX; intro w HX) | (refine uA ?_; clear HX; (first | (have hq := b; clear hq; intro w b2 HX) | intro w b HX)))
    refine (yiv' (HX.out.up3.up1 : Sep w0 _ (yab' w0 P2 :: ThLk lk S.held :: _) rows) hd id (ofT S.t sess) _ HP2.out.2 (fun p hp => ?_) HB.out.1.keys ?_).mono ?_
    ·obtain ⟨e, he, rfl⟩ := List.mem_map.1 hp
     have := HB.out.1.tree.keys e (List.mem_filter.1 he).1
     omega
    ·have h1 : (ofT S.t sess).length ≤ S.t.l.length := by unfold ofT; rw [List.length_map]; exact List.length_filter_le _ _
     have := HB.out.1.tree.many
     omega
    obtain ⟨wr, hwr⟩ : ∃ wr, ydq' S.held id (ofT S.t sess) = wr := ⟨_, rfl⟩
    obtain ⟨H2, hH2⟩ : ∃ H2, ydi' S.held id (ofT S.t sess) = H2 := ⟨_, rfl⟩
    have htw := fun h => yrx' (H := S.held) (id := id) (ps := ofT S.t sess) h
    rw [hwr, hH2] at HR3 htw ⊢
    rintro e w ⟨rfl, hx⟩
    replace HX := Lib.hid hx
    have HTW := Lib.hid htw
    clear hx hwr hH2 htw
    unfold sv
    cases wr with
    | some p =>
     obtain rfl : H2 = S.held := HTW.out rfl
     obtain rfl : rr = (12, S) := HR3.out
     dsimp only [Option.isSome, Option.getD]
     go_wp2_with (first | refine u0 ?_ | (refine uS ?_; clear HX; intro w HX) | (refine uA ?_; clear HX; (first | (have hq := b; clear hq; intro w b2 HX) | intro w b HX)))
     go_ret2
     exact ⟨P2, rfl, HP2.out.1, (yba' (b := b) (t := t) (lk := lk) (mw := mw) (md := md) (mc := mc) (gs := gs) (S := S) (R := yab' w0 P2 :: R) (HX.out.pm 7 [3, 2, 1, 4, 5, 6, 0] rfl rfl) HG.out.1 (fun g hg => HP2.out.1 _ (HG.out.2 g hg))).up1⟩
    | none =>
     obtain rfl : rr = (0, { S with held := H2, wait := S.wait ++ [(id, ⟨sess, [], true, false⟩)] }) := HR3.out
     dsimp only [Option.isSome, Option.getD]
     obtain ⟨w9, hrun, h9⟩ := Sep.mapAdd (P := Tryz.prog) (key := .int .i64 id) (v := .agg #[.int .i64 sess, .slice none 0 0, .bool true, .bool false]) HX.out.up4 Tryz.underlying120 Tryz.underlying2 (by first | trivial | rfl | exact ⟨_, rfl⟩) (fun q hq e => by
      obtain ⟨g, hg, rfl⟩ := List.mem_map.1 hq
      simp only [WaitG.kv, Value.int.injEq, true_and] at e
      have h1 := ygs' HZK.out
      rw [← HG.out.1, ykb', List.any_eq_false] at h1
      exact h1 g hg (by rw [e]; exact beq_self_eq_true _))
     have H9 := Lib.hid h9
     clear h9
     go_wp2_with (first | refine u0 ?_ | (refine uS ?_; clear HX; intro w HX) | (refine uA ?_; clear HX; (first | (have hq := b; clear hq; intro w b2 HX) | intro w b HX)))
     go_ret2
     have h5 := (H9.out.up1.poolNil 5)
     refine ⟨(5, .slice none 0 0, []) :: P2, rfl, fun q hq => k_n _ (HP2.out.1 q hq), ?_⟩
     have h6 := ya1' (P' := (5, .slice none 0 0, []) :: P2) h5.up3 (fun q hq => k_n _ hq)
     refine (yba' (b := b) (t := t) (lk := lk) (mw := mw) (md := md) (mc := mc) (gs := gs ++ [⟨id, ⟨sess, [], true, false⟩, .slice none 0 0⟩]) (S := { S with held := H2, wait := S.wait ++ [(id, ⟨sess, [], true, false⟩)] }) (R := yab' w0 ((5, .slice none 0 0, []) :: P2) :: R) ?_ ?_ ?_).up1
     ·rw [List.map_append]
      exact h6.pm 7 [4, 0, 3, 2, 5, 6, 1] rfl rfl
     ·rw [List.map_append, HG.out.1]
      rfl
     ·intro g hg
      rcases List.mem_append.1 hg with hg | hg
      ·exact k_n _ (HP2.out.1 _ (HG.out.2 g hg))
      ·rw [List.mem_singleton] at hg
       rw [hg]
       exact k_s
end
end Go.Proofs.YtcnkifbjlihaoaaGreatDoor

namespace Go.Av
open Go.RowKit
theorem ygx' {W : yeh'} {id : Int} (h : ∀ e ∈ W, e.1 ≠ id) : yd1' W id = none := by
 unfold yd1'
 rw [List.find?_eq_none.2 (fun e he => by simp [h e he])]
 rfl
theorem yjc' {W1 W2 : yeh'} {id : Int} {x : WaitS} (h : ((W1 ++ (id, x) :: W2).map (·.1)).Nodup) : yd1' (W1 ++ (id, x) :: W2) id = some x ∧ delW (W1 ++ (id, x) :: W2) id = W1 ++ W2 := by
 rw [List.map_append, List.map_cons, List.nodup_append] at h
 obtain ⟨-, h3, h4⟩ := h
 rw [List.nodup_cons] at h3
 have n1 : ∀ e ∈ W1, e.1 ≠ id := fun e he h => h4 e.1 (List.mem_map_of_mem he) id k_s h
 have n2 : ∀ e ∈ W2, e.1 ≠ id := fun e he h => h3.1 (List.mem_map.2 ⟨e, he, h⟩)
 constructor
 ·unfold yd1'
  rw [List.find?_append, List.find?_eq_none.2 (fun e he => by simp [n1 e he])]
  simp
 ·unfold delW
  rw [List.filter_append, List.filter_cons, List.filter_eq_self.2 (fun e he => by simp [n1 e he]), List.filter_eq_self.2 (fun e he => by simp [n2 e he])]
  simp
section
variable {P : Program} {w w0 : World} {d : TypeDesc} {m : Nat} {t k e : TypeId} {R : List Thing} {rows : List (Value × Bs)}
theorem Sep.mapDel {l1 l2 : List (Value × Value)} {key v0 : Value} (h : Sep w0 w (yam' d m (l1 ++ (key, v0) :: l2) :: R) rows) (ht : P.underlying t = some (.map k e)) (hd : P.underlying k = some d) (hk : MapKept.IsKey d key) :
  ∃ w', (∀ tk ty, (Builtin.delete_ #[t, tk] ty #[.map (some m), key]).run P w = .ok (.tuple #[]) w') ∧ Sep w0 w' (yam' d m (l1 ++ l2) :: R) rows := by
 obtain ⟨w', hrun, hM, hU⟩ := yxu' (P := P) h.mapIs ht hd hk 0 0
 exact ⟨w', fun _ _ => hrun, h.mapTo hU hM⟩
end
end Go.Av
namespace Go.Proofs.YtcnkifbjlihaoaaGreatDoor
open Go.RowKit Go.Av
section
variable {w0 w : World} {b : Nat} {S : PartS} {P P' : List PRow} {R : List Thing} {rows : List (Value × Bs)}
theorem yry' {d : TypeDesc} {m : Nat} {gs : List WaitG} (h : Sep w0 w (yam' d m (gs.map WaitG.kv) :: R) rows) : ((gs.map WaitG.ent).map (·.1)).Nodup := by
 have h1 := h.mapIs.nodup
 rw [List.map_map] at h1 ⊢
 rw [List.nodup_iff_pairwise_ne, List.pairwise_map] at h1 ⊢
 exact List.Pairwise.imp (fun hab e => hab (congrArg (Value.int .i64) e)) h1
theorem ytr' {d : List Int} {m : Nat} (h : Sep w0 w (yam' (.int .i64) m (d.map ikv) :: R) rows) (i : Int) :
  ∃ w', (Instr.mapUpdate 121 (.map (some m)) (.int .i64 i) (.bool true)).run Tryz.prog w = .ok () w' ∧ Sep w0 w' (yam' (.int .i64) m ((if i ∈ d then d else d ++ [i]).map ikv) :: R) rows := by
 by_cases hi : i ∈ d
 ·rw [if_pos hi]
  obtain ⟨d1, d2, rfl⟩ := List.append_of_mem hi
  rw [List.map_append, List.map_cons] at h ⊢
  exact Sep.mapOld (P := Tryz.prog) h Tryz.underlying121 Tryz.underlying2 (by first | trivial | rfl | exact ⟨_, rfl⟩)
 ·rw [if_neg hi, List.map_append]
  exact Sep.mapAdd (P := Tryz.prog) h Tryz.underlying121 Tryz.underlying2 (by first | trivial | rfl | exact ⟨_, rfl⟩) (fun q hq e => by
   obtain ⟨j, hj, rfl⟩ := List.mem_map.1 hq
   simp only [ikv, Value.int.injEq, true_and] at e
   exact hi (e ▸ hj))
def DecP (w0 : World) (b : Nat) (P : List PRow) (R : List Thing) (rows : List (Value × Bs)) (m : (List ResS × Int) × PartS) (e : Ending) (w' : World) : Prop :=
 ∃ P' a n c xs, e = .returned (.tuple #[.slice a n c, .int .i64 m.1.2]) ∧ (∀ q ∈ P, q ∈ P') ∧ ResL P' m.1.1 xs ∧ (11, Value.slice a n c, xs) ∈ P' ∧ Sep w0 w' (yab' w0 P' :: ybm' b m.2 P' :: R) rows
theorem ylf' {S' : PartS} {z : Int} (hP : ∀ q ∈ P, q ∈ P') (h : Sep w0 w (yab' w0 P' :: ybm' b S' P' :: R) rows) : DecP w0 b P R rows (([], z), S') (.returned (.tuple #[.slice none 0 0, .int .i64 z])) w :=
 ⟨(11, .slice none 0 0, []) :: P', none, 0, 0, [], rfl, fun q hq => k_n _ (hP q hq), .nil, k_s, (yc9' (h.poolNil 11).up1 (fun q hq => k_n _ hq)).up1⟩
set_option maxRecDepth 100000 in
set_option maxHeartbeats 8000000 in
theorem yq4' {K : Nat} (h : Sep w0 w (yab' w0 P :: ybm' b S P :: R) rows) (hd : DoorN w0) (hB : PartB K S) (hHn : S.held.length ≤ 100000) (hK : K ≤ 1000) (id : Int) (commit : Bool) :
  Calls Tryz.prog 21 #[.pointer (some ⟨b, 0, none⟩), .int .i64 id, .bool commit] w (DecP w0 b P R rows (ya9' S id commit)) := by
 have HB := Lib.hid (show _ ∧ _ ∧ _ from ⟨hB, hK, hHn⟩)
 obtain ⟨rr, hrr⟩ : ∃ rr, ya9' S id commit = rr := ⟨_, rfl⟩
 rw [hrr]
 have HRR := Lib.hid hrr
 obtain ⟨t, lk, mw, md, mc, gs, hgs, hgv, hS⟩ := ybu' h.up1
 clear h hB hK hrr hHn
 by_cases hin : ∃ g ∈ gs, g.id = id
 case neg =>
  have hk := yob' hS.up3 id (fun g hg e => hin ⟨g, hg, e⟩)
  have HG := Lib.hid (show _ ∧ _ from ⟨hgs, hgv⟩)
  obtain rfl : rr = (([], 4), S) := by
   rw [← HRR.out]
   unfold ya9'
   rw [ygx' (fun e he h => by
    rw [← hgs] at he
    obtain ⟨g, hg, rfl⟩ := List.mem_map.1 he
    exact hin ⟨g, hg, h⟩)]
  have HX := Lib.hid hS
  clear hgs hgv hS hin
  go_enter Tryz.func21, Tryz.ntmps21
  go_wp2_with (first | refine u0 ?_ | (refine uS ?_; clear HX; intro w HX) | (refine uA ?_; clear HX; (first | (have hq := b2; clear hq; intro w b3 HX) | (have hq := b; clear hq; intro w b2 HX) | intro w b HX)))
  go_ret2
  exact ylf' (fun q hq => hq) (yba' (b := b) (t := t) (lk := lk) (mw := mw) (md := md) (mc := mc) (gs := gs) (S := S) (R := yab' w0 P :: R) HX.out.drop HG.out.1 HG.out.2).up1
 case pos =>
  obtain ⟨g, hg, hgi⟩ := hin
  have hk := yoc' hS.up3 hg
  obtain ⟨E, hE⟩ := hS.up6.poolGet (hgv g hg)
  obtain ⟨ga, gn, gc, hvs, -⟩ := ReadRow.some hE
  have hnd := yry' hS.up3
  obtain ⟨l1, l2, rfl⟩ := List.append_of_mem hg
  have hgw := hgv g hg
  obtain ⟨gid, x, gv⟩ := g
  dsimp only at hvs hk hgw hgi
  subst hvs hgi
  rw [List.map_append, List.map_cons] at hnd hgs
  dsimp only [WaitG.ent] at hnd hgs
  obtain ⟨hlw, hdw⟩ := yjc' (W1 := l1.map WaitG.ent) (W2 := l2.map WaitG.ent) hnd
  rw [hgs] at hlw hdw
  have hap := HB.out.1.apart (gid, x) (by rw [← hgs]; simp)
  have hwx := HB.out.1.wait (gid, x) (by rw [← hgs]; simp)
  have HRX := Lib.hid (show rr = _ from HRR.out.symm.trans (by unfold ya9'; rw [hlw, hdw]))
  have HG := Lib.hid (show _ ∧ _ ∧ _ ∧ _ ∧ _ from ⟨hgs, hgv, hgw, hap, hwx⟩)
  have hz1 := HB.out.1.zx.1
  have hz2 : S.zxid ≤ 1000 := by have := HB.out.1.zx.2; have := HB.out.2.1; omega
  have HX := Lib.hid hS
  clear hgs hgv hS hE hnd hlw hdw hap hwx hgw hg HRR
  simp only [yak'] at HX
  go_enter Tryz.func21, Tryz.ntmps21
  go_wp2_with (first | refine u0 ?_ | (refine uS ?_; clear HX; intro w HX) | (refine uA ?_; clear HX; (first | (have hq := b2; clear hq; intro w b3 HX) | (have hq := b; clear hq; intro w b2 HX) | intro w b HX)))
  refine (yvy' HX.out.up3 gid HB.out.2.2).mono ?_
  rintro e w ⟨n, rfl, hx⟩
  rw [List.map_append, List.map_cons] at hx
  obtain ⟨w1, hdel, h1⟩ := Sep.mapDel (P := Tryz.prog) hx.up4 Tryz.underlying120 Tryz.underlying2 (by first | trivial | rfl | exact ⟨_, rfl⟩)
  replace HX := Lib.hid hx
  rw [← List.map_append] at h1
  have H1 := Lib.hid h1
  dsimp only [WaitG.kv] at hdel
  clear hx h1 hk
  go_upto_region 7 with (first | refine u0 ?_ | (refine uS ?_; clear HX; intro w HX) | (refine uA ?_; clear HX; (first | (have hq := b2; clear hq; intro w b3 HX) | (have hq := b; clear hq; intro w b2 HX) | intro w b HX)))
  obtain ⟨w2, hput, h2⟩ := ytr' H1.out.up5 gid
  rw [if_neg HG.out.2.2.2.1] at h2
  clear HX hdel
  have HX := H1
  have H2 := Lib.hid h2
  clear h2 H1
  go_upto_region 8 with (first | refine u0 ?_ | (refine uS ?_; clear HX; intro w HX) | (refine uA ?_; clear HX; (first | (have hq := b2; clear hq; intro w b3 HX) | (have hq := b; clear hq; intro w b2 HX) | intro w b HX)))
  clear HX hput
  have HX := H2
  clear H2
  obtain ⟨xs, xops, xcl, xfa⟩ := x
  dsimp only at HX HRX HG
  have HFIN := Lib.hid (show ∀ (w' : World) (T' : TreeS) (Q : List PRow) (Cl : List Int), T'.room = S.t.room → (∀ q ∈ P, q ∈ Q) → Sep w0 w' (yam' (.int .i64) md ((S.decided ++ [gid]).map ikv) :: yam' (.int .i64) mw ((l1 ++ l2).map WaitG.kv) :: ThLk lk (ydd' S.held gid) :: yac' b (.cells (yak' S.t.room t lk (S.zxid + 1) mw md mc) 123 (0, 0)) :: yan' t T' Q :: yam' (.int .i64) mc (Cl.map ikv) :: yab' w0 Q :: R) rows →
    Sep w0 w' (yab' w0 Q :: ybm' b { S with zxid := S.zxid + 1, held := ydd' S.held gid, wait := l1.map WaitG.ent ++ l2.map WaitG.ent, decided := S.decided ++ [gid], t := T', closed := Cl } Q :: R) rows from fun w' T' Q Cl hrm hQ h5 => by
   rw [← hrm] at h5
   exact (yba' (b := b) (t := t) (lk := lk) (mw := mw) (md := md) (mc := mc) (gs := l1 ++ l2) (S := { S with zxid := S.zxid + 1, held := ydd' S.held gid, wait := l1.map WaitG.ent ++ l2.map WaitG.ent, decided := S.decided ++ [gid], t := T', closed := Cl }) (R := yab' w0 Q :: R) (h5.pm 7 [3, 4, 2, 1, 0, 5, 6] rfl rfl) (by rw [List.map_append]) (fun g hg => hQ _ (HG.out.2.1 g (by
    rcases List.mem_append.1 hg with h | h <;> simp [h])))).up1)
  cases commit with
  | false =>
   have hr : rr = (([], 0), { S with zxid := S.zxid + 1, held := ydd' S.held gid, wait := l1.map WaitG.ent ++ l2.map WaitG.ent, decided := S.decided ++ [gid] }) := HRX.out
   subst hr
   go_wp2_with (first | refine u0 ?_ | (refine uS ?_; clear HX; intro w HX) | (refine uA ?_; clear HX; (first | (have hq := b2; clear hq; intro w b3 HX) | (have hq := b; clear hq; intro w b2 HX) | intro w b HX)))
   go_ret2
   exact ylf' (fun q hq => hq) (HFIN.out _ S.t P S.closed rfl (fun q hq => hq) (HX.out.pm 8 [0, 1, 2, 4, 5, 6, 7] rfl rfl))
  | true =>
   cases xfa with
   | true =>
    have hr : rr = (([], 0), { S with zxid := S.zxid + 1, held := ydd' S.held gid, wait := l1.map WaitG.ent ++ l2.map WaitG.ent, decided := S.decided ++ [gid] }) := HRX.out
    subst hr
    go_wp2_with (first | refine u0 ?_ | (refine uS ?_; clear HX; intro w HX) | (refine uA ?_; clear HX; (first | (have hq := b2; clear hq; intro w b3 HX) | (have hq := b; clear hq; intro w b2 HX) | intro w b HX)))
    go_ret2
    exact ylf' (fun q hq => hq) (HFIN.out _ S.t P S.closed rfl (fun q hq => hq) (HX.out.pm 8 [0, 1, 2, 4, 5, 6, 7] rfl rfl))
   | false =>
    cases xcl with
    | true =>
     obtain ⟨Cl, hCl⟩ : ∃ Cl, (if xs ∈ S.closed then S.closed else S.closed ++ [xs]) = Cl := ⟨_, rfl⟩
     have hr : rr = (([], 0), { S with zxid := S.zxid + 1, held := ydd' S.held gid, wait := l1.map WaitG.ent ++ l2.map WaitG.ent, decided := S.decided ++ [gid], t := purT (yet' (ofT S.t xs)) S.t, closed := Cl }) := by rw [← hCl]; exact HRX.out
     subst hr
     have HCL := Lib.hid hCl
     clear HRX hCl
     go_wp2_with (first | refine u0 ?_ | (refine uS ?_; clear HX; intro w HX) | (refine uA ?_; clear HX; (first | (have hq := b2; clear hq; intro w b3 HX) | (have hq := b; clear hq; intro w b2 HX) | intro w b HX)))
     obtain ⟨R', hR'⟩ : ∃ R', yam' (.int .i64) md ((S.decided ++ [gid]).map ikv) :: yam' (.int .i64) mw ((l1 ++ l2).map WaitG.kv) :: ThLk lk (ydd' S.held gid) :: R = R' := ⟨_, rfl⟩
     have h3 : Sep w0 w2 (yab' w0 P :: yan' t S.t P :: yac' b (.cells (yak' S.t.room t lk (S.zxid + 1) mw md mc) 123 (0, 0)) :: yac' b2 (.cells #[.int .i64 xs, .slice ga gn gc, .bool true, .bool false] 144 (0, 0)) :: yam' (.int .i64) mc (S.closed.map ikv) :: R') rows := by
      rw [← hR']
      exact HX.out.pm 8 [7, 5, 4, 3, 6, 0, 1, 2] rfl rfl
     have HRR2 := Lib.hid hR'
     clear HX hR'
     have HX := Lib.hid h3
     clear h3
     refine rM (fun W => (∃ Ts, Sep w0 W (yac' b (.cells (yak' S.t.room t lk (S.zxid + 1) mw md mc) 123 (0, 0)) :: yac' b2 (.cells #[.int .i64 xs, .slice ga gn gc, .bool true, .bool false] 144 (0, 0)) :: Ts) rows)) 7 ?_
     intro KEEPX
     replace HX := Lib.hid HX.out.drew
     have hl : ∀ V, (∃ Ts, Sep w0 V (yac' b (.cells (yak' S.t.room t lk (S.zxid + 1) mw md mc) 123 (0, 0)) :: yac' b2 (.cells #[.int .i64 xs, .slice ga gn gc, .bool true, .bool false] 144 (0, 0)) :: Ts) rows) → (Instr.loadAt 65 (.pointer (some ⟨b, 1, none⟩))).run Tryz.prog V = .ok (.pointer (some ⟨t, 0, none⟩)) V := by
      rintro V ⟨Ts, hV⟩
      exact yae' (by kernel_rfl) (yaa' hV.blk 1 rfl)
     have hl2 : ∀ V, (∃ Ts, Sep w0 V (yac' b (.cells (yak' S.t.room t lk (S.zxid + 1) mw md mc) 123 (0, 0)) :: yac' b2 (.cells #[.int .i64 xs, .slice ga gn gc, .bool true, .bool false] 144 (0, 0)) :: Ts) rows) → (Instr.loadAt 2 (.pointer (some ⟨b2, 0, none⟩))).run Tryz.prog V = .ok (.int .i64 xs) V := by
      rintro V ⟨Ts, hV⟩
      exact yae' (by kernel_rfl) (yaa' hV.up1.blk 0 rfl)
     refine rT [(0, false), (1, false), (2, false), (3, true), (4, false), (5, true)] 1 ?_
     apply Exists.intro; refine ⟨?_, ⟨_, HX.out.up3.up3⟩, ?_⟩
     ·iterate 6 (refine xE ?_)
      exact rfl
     clear hl
     refine r1 0 6 fun K hK => ?_
     go_wp2_with fail
     refine (yt3' HX.out hd HB.out.1.tree (by have := HB.out.2.1; omega) xs).mono ?_
     rintro e w ⟨l', -, hpu, v', P4, rfl, hP4, hx⟩
     obtain rfl := hpu (yzh' HB.out.1.good xs)
     replace HX := Lib.hid hx.drop
     have HP4 := Lib.hid hP4
     clear hx hP4 hpu
     go_wp2_with fail
     refine hK _ _ ⟨_, HX.out.up3.up3⟩ ?_
     clear hK
     refine yaf' (by kernel_rfl) ?_ _
     go_wp2_with (first | refine u0 ?_ | (refine uS ?_; clear HX; intro w HX) | (refine uA ?_; clear HX; (first | (have hq := b2; clear hq; intro w b3 HX) | (have hq := b; clear hq; intro w b2 HX) | intro w b HX)))
     clear KEEPX
     refine rM (fun W => (∃ Ts, Sep w0 W (yac' b (.cells (yak' S.t.room t lk (S.zxid + 1) mw md mc) 123 (0, 0)) :: yac' b2 (.cells #[.int .i64 xs, .slice ga gn gc, .bool true, .bool false] 144 (0, 0)) :: Ts) rows)) 7 ?_
     intro KEEPX
     replace HX := Lib.hid HX.out.drew
     have hl : ∀ V, (∃ Ts, Sep w0 V (yac' b (.cells (yak' S.t.room t lk (S.zxid + 1) mw md mc) 123 (0, 0)) :: yac' b2 (.cells #[.int .i64 xs, .slice ga gn gc, .bool true, .bool false] 144 (0, 0)) :: Ts) rows) → (Instr.loadAt 121 (.pointer (some ⟨b, 6, none⟩))).run Tryz.prog V = .ok (.map (some mc)) V := by
      rintro V ⟨Ts, hV⟩
      exact yae' (by kernel_rfl) (yaa' hV.blk 6 rfl)
     refine rT [(0, false), (1, false), (2, false), (3, true), (4, false), (5, true)] 1 ?_
     apply Exists.intro; refine ⟨?_, ⟨_, HX.out.up3.up3⟩, ?_⟩
     ·iterate 6 (refine xE ?_)
      exact rfl
     clear hl hl2
     refine r1 0 6 fun K hK => ?_
     obtain ⟨w5, hput, h5⟩ := ytr' HX.out.up4 xs
     rw [HCL.out] at h5
     have H5 := Lib.hid h5
     clear h5
     go_wp2_with fail
     refine hK _ _ ⟨_, H5.out.up4.up4⟩ ?_
     clear hK
     refine yaf' (by kernel_rfl) ?_ _
     go_wp2_with (first | refine u0 ?_ | (refine uS ?_; clear HX; intro w HX) | (refine uA ?_; clear HX; (first | (have hq := b2; clear hq; intro w b3 HX) | (have hq := b; clear hq; intro w b2 HX) | intro w b HX)))
     go_ret2
     have h6 := H5.out
     rw [← HRR2.out] at h6
     exact ylf' HP4.out (HFIN.out _ (purT (yet' (ofT S.t xs)) S.t) P4 Cl (yit' _ _) HP4.out (h6.pm 8 [5, 6, 7, 3, 2, 0, 1] rfl rfl))
    | false =>
     obtain ⟨⟨⟨n1, z1, e1, t1, rs1⟩, S2, ok1⟩, hm1⟩ : ∃ m1, ya2' S.t xs (S.zxid + 1) xops = m1 := ⟨_, rfl⟩
     have hroom : S2.room = S.t.room := by have := ygy' S.t xs (S.zxid + 1) xops; rw [hm1] at this; exact this
     have hr : rr = ((rs1, 0), { S with zxid := S.zxid + 1, held := ydd' S.held gid, wait := l1.map WaitG.ent ++ l2.map WaitG.ent, decided := S.decided ++ [gid], t := S2 }) := by
      rw [HRX.out]
      show (((ya2' S.t xs (S.zxid + 1) xops).1.rs, (0 : Int)), _) = _
      rw [hm1]
     subst hr
     have HM1 := Lib.hid (show _ ∧ _ from ⟨hm1, hroom⟩)
     clear HRX hm1 hroom
     go_wp2_with (first | refine u0 ?_ | (refine uS ?_; clear HX; intro w HX) | (refine uA ?_; clear HX; (first | (have hq := b2; clear hq; intro w b3 HX) | (have hq := b; clear hq; intro w b2 HX) | intro w b HX)))
     obtain ⟨R', hR'⟩ : ∃ R', yam' (.int .i64) md ((S.decided ++ [gid]).map ikv) :: yam' (.int .i64) mw ((l1 ++ l2).map WaitG.kv) :: ThLk lk (ydd' S.held gid) :: R = R' := ⟨_, rfl⟩
     have h3 : Sep w0 w2 (yab' w0 P :: yan' t S.t P :: yac' b (.cells (yak' S.t.room t lk (S.zxid + 1) mw md mc) 123 (0, 0)) :: yac' b2 (.cells #[.int .i64 xs, .slice ga gn gc, .bool false, .bool false] 144 (0, 0)) :: yam' (.int .i64) mc (S.closed.map ikv) :: R') rows := by
      rw [← hR']
      exact HX.out.pm 8 [7, 5, 4, 3, 6, 0, 1, 2] rfl rfl
     have HRR2 := Lib.hid hR'
     clear HX hR'
     have HX := Lib.hid h3
     clear h3
     refine rM (fun W => (∃ Ts, Sep w0 W (yac' b (.cells (yak' S.t.room t lk (S.zxid + 1) mw md mc) 123 (0, 0)) :: yac' b2 (.cells #[.int .i64 xs, .slice ga gn gc, .bool false, .bool false] 144 (0, 0)) :: Ts) rows)) 17 ?_
     intro KEEPX
     replace HX := Lib.hid HX.out.drew
     have hl : ∀ V, (∃ Ts, Sep w0 V (yac' b (.cells (yak' S.t.room t lk (S.zxid + 1) mw md mc) 123 (0, 0)) :: yac' b2 (.cells #[.int .i64 xs, .slice ga gn gc, .bool false, .bool false] 144 (0, 0)) :: Ts) rows) → (Instr.loadAt 65 (.pointer (some ⟨b, 1, none⟩))).run Tryz.prog V = .ok (.pointer (some ⟨t, 0, none⟩)) V := by
      rintro V ⟨Ts, hV⟩
      exact yae' (by kernel_rfl) (yaa' hV.blk 1 rfl)
     have hl2 : ∀ V, (∃ Ts, Sep w0 V (yac' b (.cells (yak' S.t.room t lk (S.zxid + 1) mw md mc) 123 (0, 0)) :: yac' b2 (.cells #[.int .i64 xs, .slice ga gn gc, .bool false, .bool false] 144 (0, 0)) :: Ts) rows) → (Instr.loadAt 2 (.pointer (some ⟨b2, 0, none⟩))).run Tryz.prog V = .ok (.int .i64 xs) V := by
      rintro V ⟨Ts, hV⟩
      exact yae' (by kernel_rfl) (yaa' hV.up1.blk 0 rfl)
     have hl3 : ∀ V, (∃ Ts, Sep w0 V (yac' b (.cells (yak' S.t.room t lk (S.zxid + 1) mw md mc) 123 (0, 0)) :: yac' b2 (.cells #[.int .i64 xs, .slice ga gn gc, .bool false, .bool false] 144 (0, 0)) :: Ts) rows) → (Instr.loadAt 2 (.pointer (some ⟨b, 3, none⟩))).run Tryz.prog V = .ok (.int .i64 (S.zxid + 1)) V := by
      rintro V ⟨Ts, hV⟩
      exact yae' (by kernel_rfl) (yaa' hV.blk 3 rfl)
     have hl4 : ∀ V, (∃ Ts, Sep w0 V (yac' b (.cells (yak' S.t.room t lk (S.zxid + 1) mw md mc) 123 (0, 0)) :: yac' b2 (.cells #[.int .i64 xs, .slice ga gn gc, .bool false, .bool false] 144 (0, 0)) :: Ts) rows) → (Instr.loadAt 30 (.pointer (some ⟨b2, 1, none⟩))).run Tryz.prog V = .ok (.slice ga gn gc) V := by
      rintro V ⟨Ts, hV⟩
      exact yae' (by kernel_rfl) (yaa' hV.up1.blk 1 rfl)
     refine rT [(0, false), (1, false), (2, false), (3, true), (4, false), (5, true), (6, false), (7, false), (8, false), (9, true), (10, false), (11, true)] 7 ?_
     apply Exists.intro; refine ⟨?_, ⟨_, HX.out.up3.up3⟩, ?_⟩
     ·iterate 12 (refine xE ?_)
      exact rfl
     clear hl hl2 hl3 hl4
     refine yd7' (fuel := 6) [12, 16] (by kernel_rfl) (by simp) (fun i hi => ?_)
     simp only [List.mem_cons, List.not_mem_nil, or_false] at hi
     rcases hi with rfl | rfl
     ·refine ⟨_, (by (simp only [k_i, k_j, k_k]; try rfl)), fun K hK => ?_⟩
      go_wp2_with fail
      have hrq := yhv' HX.out hd HB.out.1.tree (by have := HB.out.2.1; omega) xs (S.zxid + 1) xops _ HG.out.2.2.1 (fun o ho => (ye3' (HG.out.2.2.2.2.2 o ho)).1)
      rw [HM1.out.1] at hrq
      refine hrq.mono ?_
      clear hrq
      rintro e w ⟨v9, P4, rfl, hP4, ⟨a9, n9, c9, xs9, rfl, hrl9, hmem9⟩, hx⟩
      replace HX := Lib.hid hx
      have HPN := Lib.hid (show _ ∧ _ ∧ _ from ⟨hP4, hrl9, hmem9⟩)
      clear hx hP4 hrl9 hmem9
      dsimp only at HX HPN ⊢
      go_wp2_with fail
      refine hK _ _ ⟨_, HX.out.up3.up3⟩ ?_
      clear hK
      refine rT [(13, false), (14, false), (15, false)] 3 ?_
      apply Exists.intro; refine ⟨?_, ⟨_, HX.out.up3.up3⟩, ?_⟩
      ·iterate 3 (refine xE ?_)
       exact rfl
      refine r1 2 16 fun K hK => ?_
      go_wp2_with (first | refine u0 ?_ | (refine uS ?_; clear HX; intro w HX) | (refine uA ?_; clear HX; (first | (have hq := b2; clear hq; intro w b3 HX) | (have hq := b; clear hq; intro w b2 HX) | intro w b HX)))
      refine hK _ _ ⟨_, HX.out.up4.up4⟩ ?_
      clear hK
      refine rL [17, 18] 0 ?_
      simp only [List.filterMap_cons, List.filterMap_nil, k_i, k_j, k_k]
      (with_reducible apply ydh' HX)
      ·rfl
      ·rfl
      ·rfl
      ·kernel_rfl
      ·(repeat (first | (with_reducible exact Rep.here) | (with_reducible apply Rep.there)))
      ·rfl
      ·rfl
      clear HX
      intro w HX
      simp only [Act.put, k_a, k_b, k_c, yb6', Nat.reduceAdd] at HX ⊢
      go_wp2_with (first | refine u0 ?_ | (refine uS ?_; clear HX; intro w HX) | (refine uA ?_; clear HX; (first | (have hq := b2; clear hq; intro w b3 HX) | (have hq := b; clear hq; intro w b2 HX) | intro w b HX)))
      go_ret2
      have h6 := HX.out
      rw [← HRR2.out] at h6
      exact ⟨P4, a9, n9, c9, xs9, rfl, HPN.out.1, HPN.out.2.1, HPN.out.2.2, HFIN.out _ S2 P4 S.closed HM1.out.2 HPN.out.1 (h6.pm 9 [6, 7, 8, 3, 2, 5, 1] rfl rfl)⟩
     ·refine ⟨_, (by (simp only [k_i, k_j, k_k]; try rfl)), fun K hK => ?_⟩
      go_wp2_with (first | refine u0 ?_ | (refine uS ?_; clear HX; intro w HX) | (refine uA ?_; clear HX; (first | (have hq := b2; clear hq; intro w b3 HX) | (have hq := b; clear hq; intro w b2 HX) | intro w b HX)))
      refine hK _ _ ⟨_, HX.out.up4.up4⟩ ?_
      clear hK
      refine r1 5 12 fun K hK => ?_
      go_wp2_with fail
      have hrq := yhv' HX.out.up2.up2 hd HB.out.1.tree (by have := HB.out.2.1; omega) xs (S.zxid + 1) xops _ HG.out.2.2.1 (fun o ho => (ye3' (HG.out.2.2.2.2.2 o ho)).1)
      rw [HM1.out.1] at hrq
      refine hrq.mono ?_
      clear hrq
      rintro e w ⟨v9, P4, rfl, hP4, ⟨a9, n9, c9, xs9, rfl, hrl9, hmem9⟩, hx⟩
      replace HX := Lib.hid hx
      have HPN := Lib.hid (show _ ∧ _ ∧ _ from ⟨hP4, hrl9, hmem9⟩)
      clear hx hP4 hrl9 hmem9
      dsimp only at HX HPN ⊢
      go_wp2_with fail
      refine hK _ _ ⟨_, HX.out.up4.up4⟩ ?_
      clear hK
      refine rT [(13, false), (14, false), (15, false)] 2 ?_
      apply Exists.intro; refine ⟨?_, ⟨_, HX.out.up4.up4⟩, ?_⟩
      ·iterate 3 (refine xE ?_)
       exact rfl
      refine rL [17, 18] 0 ?_
      simp only [List.filterMap_cons, List.filterMap_nil, k_i, k_j, k_k]
      (with_reducible apply ydh' HX)
      ·rfl
      ·rfl
      ·rfl
      ·kernel_rfl
      ·(repeat (first | (with_reducible exact Rep.here) | (with_reducible apply Rep.there)))
      ·rfl
      ·rfl
      clear HX
      intro w HX
      simp only [Act.put, k_a, k_b, k_c, yb6', Nat.reduceAdd] at HX ⊢
      go_wp2_with (first | refine u0 ?_ | (refine uS ?_; clear HX; intro w HX) | (refine uA ?_; clear HX; (first | (have hq := b2; clear hq; intro w b3 HX) | (have hq := b; clear hq; intro w b2 HX) | intro w b HX)))
      go_ret2
      have h6 := HX.out
      rw [← HRR2.out] at h6
      exact ⟨P4, a9, n9, c9, xs9, rfl, HPN.out.1, HPN.out.2.1, HPN.out.2.2, HFIN.out _ S2 P4 S.closed HM1.out.2 HPN.out.1 (h6.pm 9 [6, 7, 8, 3, 1, 5, 0] rfl rfl)⟩
end
end Go.Proofs.YtcnkifbjlihaoaaGreatDoor

namespace Go.Av
open Go.RowKit
theorem yn7' {H : yby'} {who : Int} {ps : List Bs} (h : ∀ e ∈ H, ybo' e.1 = true) : ∀ e ∈ ydi' H who ps, ybo' e.1 = true := by
 intro e he
 unfold ydi' at he
 split at he
 ·exact h e he
 ·rename_i hw
  rcases yhs' ps H he with h1 | h1
  ·unfold ydq' at hw
   split at hw
   ·exact absurd rfl hw
   ·rename_i hf
    have := List.find?_eq_none.1 hf e.1 h1.1
    simpa using this
  ·exact h e h1
theorem ydj' {id : Int} : ∀ (ops : List OpS) {H : yby'}, (∀ e ∈ H, ybo' e.1 = true) → ∀ e ∈ ya7' H id ops, ybo' e.1 = true
 | [], H, h => h
 | o :: ops, H, h => ydj' ops (yn7' h)
theorem PartB.mono {K K' : Nat} {S : PartS} (h : PartB K S) (hK : K ≤ K') : PartB K' S :=
 ⟨h.tree.mono (by omega), h.held, h.wait, by have := h.many; omega, by have := h.zx; omega, h.apart, h.good⟩
theorem yy9' {K : Nat} {S : PartS} (h : PartB K S) (sess num : Int) (ops : List OpS) : PartB (K + 1) (ybg' S sess num ops).2 := by
 have hz := h.zx
 have hm := h.many
 unfold ybg'
 split
 ·exact h.mono (by omega)
 ·split
  ·exact ⟨h.tree.mono (by omega), h.held, h.wait, by show S.wait.length ≤ _; omega, by show 0 ≤ S.zxid + 1 ∧ S.zxid + 1 ≤ _; omega, h.apart, h.good⟩
  ·refine ⟨(yns' h.tree sess num (S.zxid + 1) ops).mono (by omega), h.held, h.wait, by show S.wait.length ≤ _; omega, by show 0 ≤ S.zxid + 1 ∧ S.zxid + 1 ≤ _; omega, h.apart, yt9' h.good _ _ _ _⟩
theorem ym4' {S : PartS} {id sess : Int} (h : yce' S id sess = false) : id ∉ S.decided := by
 unfold yce' at h
 simp only [Bool.or_eq_false_iff, decide_eq_false_iff_not] at h
 exact h.2.2.2
theorem y0p' {K : Nat} {S : PartS} (h : PartB K S) (id sess : Int) (ops : List OpS) : PartB (K + 1) (ydf' S id sess ops).2 := by
 have hz := h.zx
 have hm := h.many
 unfold ydf'
 split
 ·exact h.mono (by omega)
 ·rename_i hk
  split
  ·exact h.mono (by omega)
  ·rename_i hmay
   split
   ·exact h.mono (by omega)
   ·have hg := yfb' (by simpa using hmay : mayS sess 1 ops = 0)
    refine ⟨h.tree.mono (by omega), ydj' ops h.held, fun e he => ?_, by show (S.wait ++ [_]).length ≤ _; simp; omega, by show 0 ≤ S.zxid ∧ S.zxid ≤ _; omega, fun e he => ?_, h.good⟩
    ·rcases List.mem_append.1 he with he | he
     ·exact h.wait e he
     ·rw [List.mem_singleton] at he; rw [he]; exact hg
    ·rcases List.mem_append.1 he with he | he
     ·exact h.apart e he
     ·rw [List.mem_singleton] at he; rw [he]; exact ym4' (S := S) (id := id) (sess := sess) (by simpa using hk)
theorem yyq' {K : Nat} {S : PartS} (h : PartB K S) (id sess : Int) : PartB (K + 1) (ycl' S id sess).2 := by
 have hz := h.zx
 have hm := h.many
 unfold ycl'
 split
 ·exact h.mono (by omega)
 ·rename_i hk
  split
  ·exact h.mono (by omega)
  ·split
   ·exact h.mono (by omega)
   ·split
    ·exact h.mono (by omega)
    ·refine ⟨h.tree.mono (by omega), yn7' h.held, fun e he => ?_, by show (S.wait ++ [_]).length ≤ _; simp; omega, by show 0 ≤ S.zxid ∧ S.zxid ≤ _; omega, fun e he => ?_, h.good⟩
     ·rcases List.mem_append.1 he with he | he
      ·exact h.wait e he
      ·rw [List.mem_singleton] at he; rw [he]; exact ⟨by simp, by simp⟩
     ·rcases List.mem_append.1 he with he | he
      ·exact h.apart e he
      ·rw [List.mem_singleton] at he; rw [he]; exact ym4' (S := S) (id := id) (sess := sess) (by simpa using hk)
theorem yvo' {K : Nat} {S : PartS} (h : PartB K S) (id : Int) (commit : Bool) : PartB (K + 1) (ya9' S id commit).2 := by
 have hz := h.zx
 have hm := h.many
 have hw : ∀ e ∈ delW S.wait id, e ∈ S.wait ∧ e.1 ≠ id := fun e he => by
  obtain ⟨h1, h2⟩ := List.mem_filter.1 he
  exact ⟨h1, by simpa using h2⟩
 have hl : (delW S.wait id).length ≤ K + 1 := Nat.le_trans (List.length_filter_le _ _) (by omega)
 have ha : ∀ e ∈ delW S.wait id, e.1 ∉ S.decided ++ [id] := fun e he hh => by
  obtain ⟨h1, h2⟩ := hw e he
  rcases List.mem_append.1 hh with hh | hh
  ·exact h.apart e h1 hh
  ·exact h2 (List.mem_singleton.1 hh)
 have hf : ∀ e ∈ ydd' S.held id, ybo' e.1 = true := fun e he => h.held e (List.mem_filter.1 he).1
 have hzx : 0 ≤ S.zxid + 1 ∧ S.zxid + 1 ≤ ((K + 1 : Nat) : Int) := by omega
 unfold ya9'
 split
 ·exact h.mono (by omega)
 ·split
  ·exact ⟨h.tree.mono (by omega), hf, fun e he => h.wait e (hw e he).1, hl, hzx, ha, h.good⟩
  ·split
   ·exact ⟨(yqf' _ h.tree).mono (by omega), hf, fun e he => h.wait e (hw e he).1, hl, hzx, ha, y0s' _ h.good⟩
   ·exact ⟨(ytk' h.tree _ _ _).mono (by omega), hf, fun e he => h.wait e (hw e he).1, hl, hzx, ha, yxt' h.good _ _ _⟩
end Go.Av

namespace Go.Av
open Go.RowKit
def yk6' (S : PartS) : Prop := ∀ e ∈ S.held, hasW S.wait e.2 = true
theorem ys0' (W : yeh') (e : Int × WaitS) (id : Int) : hasW (W ++ [e]) id = (hasW W id || e.1 == id) := by
 unfold hasW
 rw [List.any_append]
 simp
theorem yqp' {H : yby'} {who : Int} {ps : List Bs} : ∀ e ∈ ydi' H who ps, e.2 = who ∨ e ∈ H := by
 intro e he
 unfold ydi' at he
 split at he
 ·exact .inr he
 ·rcases yhs' ps H he with h1 | h1
  ·exact .inl h1.2
  ·exact .inr h1
theorem ygf' {id : Int} : ∀ (ops : List OpS) {H : yby'}, ∀ e ∈ ya7' H id ops, e.2 = id ∨ e ∈ H
 | [], H, e, he => .inr he
 | o :: ops, H, e, he => by
  rcases ygf' ops (H := ydi' H id (yaz' o)) e he with h | h
  ·exact .inl h
  ·exact yqp' e h
theorem yzb' {S : PartS} (h : yk6' S) (sess num : Int) (ops : List OpS) : yk6' (ybg' S sess num ops).2 := by
 unfold ybg'
 split
 ·exact h
 ·split
  ·exact h
  ·exact h
theorem y0r' {S : PartS} (h : yk6' S) (id sess : Int) (ops : List OpS) : yk6' (ydf' S id sess ops).2 := by
 unfold ydf'
 split
 ·exact h
 ·split
  ·exact h
  ·split
   ·exact h
   ·intro e he
    show hasW (S.wait ++ [_]) e.2 = true
    rw [ys0']
    rcases ygf' ops e he with h1 | h1
    ·rw [h1]; simp
    ·rw [h e h1]; rfl
theorem yys' {S : PartS} (h : yk6' S) (id sess : Int) : yk6' (ycl' S id sess).2 := by
 unfold ycl'
 split
 ·exact h
 ·split
  ·exact h
  ·split
   ·exact h
   ·split
    ·exact h
    ·intro e he
     show hasW (S.wait ++ [_]) e.2 = true
     rw [ys0']
     rcases yqp' e he with h1 | h1
     ·rw [h1]; simp
     ·rw [h e h1]; rfl
theorem yvq' {S : PartS} (h : yk6' S) (id : Int) (commit : Bool) : yk6' (ya9' S id commit).2 := by
 have key : ∀ e ∈ ydd' S.held id, hasW (delW S.wait id) e.2 = true := fun e he => by
  obtain ⟨h1, h2⟩ := List.mem_filter.1 he
  have h3 := h e h1
  unfold hasW at h3 ⊢
  obtain ⟨x, hx, hxe⟩ := List.any_eq_true.1 h3
  refine List.any_eq_true.2 ⟨x, List.mem_filter.2 ⟨hx, ?_⟩, hxe⟩
  have e1 : x.1 = e.2 := by simpa using hxe
  rw [e1]
  exact h2
 unfold ya9'
 split
 ·exact h
 ·split
  ·exact key
  ·split
   ·exact key
   ·exact key
end Go.Av

namespace Go.Av
open Go.RowKit
instance : Inhabited OpS := ⟨⟨0, ⟨#[]⟩, ⟨#[]⟩, 0, 0⟩⟩
def IsOps (w : World) (a : Option Addr) (len cap : Nat) (l : List OpS) : Prop :=
 l.length = len ∧ len ≤ cap ∧ cap ≤ maxLen ∧ (a = none → cap = 0) ∧
  (∀ x, a = some x → ∀ i, (h : i < l.length) → w.cell? (x.add (i * 5)) = some (.int .i64 l[i].kind) ∧ w.cell? (x.add (i * 5 + 1)) = some (.string l[i].path) ∧ w.cell? (x.add (i * 5 + 2)) = some (.string l[i].data) ∧
   w.cell? (x.add (i * 5 + 3)) = some (.int .i64 l[i].ver) ∧ w.cell? (x.add (i * 5 + 4)) = some (.int .i64 l[i].flags)) ∧ ∀ c ∈ l, c.path.size ≤ maxLen ∧ c.data.size ≤ maxLen
theorem yel' (x : Addr) (i j : Nat) : (x.add i).add j = x.add (i + j) := (Go.Deep.add_add x i j).symm ▸ rfl
theorem IsOps.row {w : World} {a : Option Addr} {len cap : Nat} {l : List OpS} (h : IsOps w a len cap l) : ∃ E, ReadRow w 5 (.slice a len cap) (l.flatMap OpS.cells) E := by
 obtain ⟨h1, h2, h3, h4, h5, h6⟩ := h
 have hlen : (l.flatMap OpS.cells).length = len * 5 := by rw [yau' (f := OpS.cells) (K := 5) (fun _ => rfl), h1]
 cases l with
 | nil => exact ⟨[], a, len, cap, rfl, hlen, h2, h3, h4, .inl ⟨rfl, rfl⟩⟩
 | cons o l =>
  cases a with
  | none =>
   have := h4 rfl
   simp at h1
   omega
  | some x =>
   obtain ⟨g0, -⟩ := h5 x rfl 0 (by simp)
   have hs := yiu' g0
   obtain ⟨bk, off, sp⟩ := x
   rw [Nat.zero_mul] at g0
   have hsp : sp = none := by
    have hz : (⟨bk, off, sp⟩ : Addr).add 0 = ⟨bk, off, sp⟩ := by unfold Addr.add; split <;> simp_all
    rw [hz] at g0
    exact yiu' g0
   subst hsp
   refine ⟨[bk], _, len, cap, rfl, hlen, h2, h3, h4, .inr ⟨bk, off, rfl, rfl, ?_, fun i v hv => ?_⟩⟩
   ·have := World.block_lt_of_cell? w _ g0
    rw [Addr.add_lit] at this
    exact this
   ·have hi : i < (o :: l).length * 5 := by
     have := (List.getElem?_eq_some_iff.1 hv).1
     rw [yau' (f := OpS.cells) (K := 5) (fun _ => rfl)] at this
     exact this
    have hp : i / 5 < (o :: l).length := by omega
    have hm : i % 5 < 5 := Nat.mod_lt _ (by omega)
    have hat := ygp' (f := OpS.cells) (K := 5) (fun _ => rfl) (o :: l) hp hm
    rw [show i / 5 * 5 + i % 5 = i by omega, hv] at hat
    obtain ⟨c0, c1, c2, c3, c4⟩ := h5 _ rfl (i / 5) hp
    simp only [Addr.add_lit] at c0 c1 c2 c3 c4
    rcases (show i % 5 = 0 ∨ i % 5 = 1 ∨ i % 5 = 2 ∨ i % 5 = 3 ∨ i % 5 = 4 by omega) with e | e | e | e | e <;> rw [e] at hat <;> simp only [OpS.cells, k_k, k_j, Option.some.injEq] at hat <;> subst hat
    ·rw [show off + i = off + i / 5 * 5 by omega]; exact c0
    ·rw [show off + i = off + (i / 5 * 5 + 1) by omega]; exact c1
    ·rw [show off + i = off + (i / 5 * 5 + 2) by omega]; exact c2
    ·rw [show off + i = off + (i / 5 * 5 + 3) by omega]; exact c3
    ·rw [show off + i = off + (i / 5 * 5 + 4) by omega]; exact c4
end Go.Av
namespace Go.Proofs.YtcnkifbjlihaoaaGreatDoor
open Go.RowKit Go.Av Go.ChangeShapes Go.WideShapes
theorem ywd' : Tryz.prog.cellsOf 89 = 5 ∧ Tryz.prog.cellsOf 3 = 1 ∧ Tryz.prog.cellsOf 9 = 1 := by
 refine ⟨?_, ?_, ?_⟩ <;> kernel_rfl
end Go.Proofs.YtcnkifbjlihaoaaGreatDoor

namespace Go.Av
open Go.RowKit
structure PAct where
 op : Int
 id : Int
 sess : Int
 v : Value
 yes : Bool
 ops : List OpS
def PAct.cells (a : PAct) : List Value := [.int .i64 a.op, .int .i64 a.id, .int .i64 a.sess, a.v, .bool a.yes]
instance : Inhabited PAct := ⟨⟨0, 0, 0, .bool false, false, []⟩⟩
def IsPActs (w : World) (a : Option Addr) (len cap : Nat) (l : List PAct) : Prop :=
 l.length = len ∧ len ≤ cap ∧ cap ≤ maxLen ∧ (a = none → cap = 0) ∧
  (∀ x, a = some x → ∀ i, (h : i < l.length) → w.cell? (x.add (i * 5)) = some (.int .i64 l[i].op) ∧ w.cell? (x.add (i * 5 + 1)) = some (.int .i64 l[i].id) ∧ w.cell? (x.add (i * 5 + 2)) = some (.int .i64 l[i].sess) ∧
   w.cell? (x.add (i * 5 + 3)) = some l[i].v ∧ w.cell? (x.add (i * 5 + 4)) = some (.bool l[i].yes)) ∧ ∀ c ∈ l, c.id ≤ 9223372036854775807 ∧ ∃ E, ReadRow w 5 c.v (c.ops.flatMap OpS.cells) E
theorem IsPActs.row {w : World} {a : Option Addr} {len cap : Nat} {l : List PAct} (h : IsPActs w a len cap l) : ∃ E, ReadRow w 5 (.slice a len cap) (l.flatMap PAct.cells) E := by
 obtain ⟨h1, h2, h3, h4, h5, h6⟩ := h
 have hlen : (l.flatMap PAct.cells).length = len * 5 := by rw [yau' (f := PAct.cells) (K := 5) (fun _ => rfl), h1]
 cases l with
 | nil => exact ⟨[], a, len, cap, rfl, hlen, h2, h3, h4, .inl ⟨rfl, rfl⟩⟩
 | cons o l =>
  cases a with
  | none =>
   have := h4 rfl
   simp at h1
   omega
  | some x =>
   obtain ⟨g0, -⟩ := h5 x rfl 0 (by simp)
   have hs := yiu' g0
   obtain ⟨bk, off, sp⟩ := x
   rw [Nat.zero_mul] at g0
   have hsp : sp = none := by
    have hz : (⟨bk, off, sp⟩ : Addr).add 0 = ⟨bk, off, sp⟩ := by unfold Addr.add; split <;> simp_all
    rw [hz] at g0
    exact yiu' g0
   subst hsp
   refine ⟨[bk], _, len, cap, rfl, hlen, h2, h3, h4, .inr ⟨bk, off, rfl, rfl, ?_, fun i v hv => ?_⟩⟩
   ·have := World.block_lt_of_cell? w _ g0
    rw [Addr.add_lit] at this
    exact this
   ·have hi : i < (o :: l).length * 5 := by
     have := (List.getElem?_eq_some_iff.1 hv).1
     rw [yau' (f := PAct.cells) (K := 5) (fun _ => rfl)] at this
     exact this
    have hp : i / 5 < (o :: l).length := by omega
    have hm : i % 5 < 5 := Nat.mod_lt _ (by omega)
    have hat := ygp' (f := PAct.cells) (K := 5) (fun _ => rfl) (o :: l) hp hm
    rw [show i / 5 * 5 + i % 5 = i by omega, hv] at hat
    obtain ⟨c0, c1, c2, c3, c4⟩ := h5 _ rfl (i / 5) hp
    simp only [Addr.add_lit] at c0 c1 c2 c3 c4
    rcases (show i % 5 = 0 ∨ i % 5 = 1 ∨ i % 5 = 2 ∨ i % 5 = 3 ∨ i % 5 = 4 by omega) with e | e | e | e | e <;> rw [e] at hat <;> simp only [PAct.cells, k_k, k_j, Option.some.injEq] at hat <;> subst hat
    ·rw [show off + i = off + i / 5 * 5 by omega]; exact c0
    ·rw [show off + i = off + (i / 5 * 5 + 1) by omega]; exact c1
    ·rw [show off + i = off + (i / 5 * 5 + 2) by omega]; exact c2
    ·rw [show off + i = off + (i / 5 * 5 + 3) by omega]; exact c3
    ·rw [show off + i = off + (i / 5 * 5 + 4) by omega]; exact c4
end Go.Av
namespace Go.Proofs.YtcnkifbjlihaoaaGreatDoor
open Go.RowKit Go.Av Go.ChangeShapes Go.WideShapes
end Go.Proofs.YtcnkifbjlihaoaaGreatDoor

namespace Go.Av
open Go.RowKit
theorem yn6' (H : yby') (who : Int) (ps : List Bs) : (ydi' H who ps).length ≤ H.length + ps.length := by
 unfold ydi'
 split
 ·omega
 ·exact ymw' who ps H
theorem yu2' (o : OpS) : (yaz' o).length ≤ 2 := by
 unfold yaz'
 split
 ·simp
 ·split <;> simp
theorem yjq' (id : Int) : ∀ (ops : List OpS) (H : yby'), (ya7' H id ops).length ≤ H.length + 2 * ops.length
 | [], H => Nat.le_refl _
 | o :: ops, H => by
  have h1 := yjq' id ops (ydi' H id (yaz' o))
  have h2 := yn6' H id (yaz' o)
  have h3 := yu2' o
  have e : ya7' H id (o :: ops) = ya7' (ydi' H id (yaz' o)) id ops := rfl
  rw [e, List.length_cons]
  omega
theorem y0n' (S : TreeS) (sess : Int) : (ofT S sess).length ≤ S.l.length := by unfold ofT; rw [List.length_map]; exact List.length_filter_le _ _
structure PartC (K : Nat) (S : PartS) : Prop where
 b : PartB K S
 h : yk6' S
 len : S.held.length ≤ 600 * K
theorem PartC.mono {K K' : Nat} {S : PartS} (h : PartC K S) (hK : K ≤ K') : PartC K' S := ⟨h.b.mono hK, h.h, Nat.le_trans h.len (Nat.mul_le_mul_left _ hK)⟩
theorem y0l' (room : Int) (h : 1 ≤ room ∧ room ≤ 500) : PartC 0 (newP room) := ⟨y0k' room h, (fun e he => by cases he), Nat.le_refl _⟩
theorem yza' {K : Nat} {S : PartS} (h : PartC K S) (sess num : Int) (ops : List OpS) : PartC (K + 1) (ybg' S sess num ops).2 := by
 refine ⟨yy9' h.b sess num ops, yzb' h.h sess num ops, ?_⟩
 have := h.len
 unfold ybg'
 split
 ·show S.held.length ≤ _; omega
 ·split
  ·show S.held.length ≤ _; omega
  ·show S.held.length ≤ _; omega
theorem y0q' {K : Nat} {S : PartS} (h : PartC K S) (id sess : Int) (ops : List OpS) : PartC (K + 1) (ydf' S id sess ops).2 := by
 refine ⟨y0p' h.b id sess ops, y0r' h.h id sess ops, ?_⟩
 have := h.len
 unfold ydf'
 split
 ·show S.held.length ≤ _; omega
 ·split
  ·show S.held.length ≤ _; omega
  ·rename_i hm
   split
   ·show S.held.length ≤ _; omega
   ·have hg := (yfb' (by simpa using hm : mayS sess 1 ops = 0)).1
    have := yjq' id ops S.held
    show (ya7' S.held id ops).length ≤ _
    omega
theorem yyr' {K : Nat} {S : PartS} (h : PartC K S) (id sess : Int) : PartC (K + 1) (ycl' S id sess).2 := by
 refine ⟨yyq' h.b id sess, yys' h.h id sess, ?_⟩
 have := h.len
 unfold ycl'
 split
 ·show S.held.length ≤ _; omega
 ·split
  ·show S.held.length ≤ _; omega
  ·split
   ·show S.held.length ≤ _; omega
   ·split
    ·show S.held.length ≤ _; omega
    ·have h1 := yn6' S.held id (ofT S.t sess)
     have h2 := y0n' S.t sess
     have h3 := h.b.tree.many
     show (ydi' S.held id (ofT S.t sess)).length ≤ _
     omega
theorem yvp' {K : Nat} {S : PartS} (h : PartC K S) (id : Int) (commit : Bool) : PartC (K + 1) (ya9' S id commit).2 := by
 refine ⟨yvo' h.b id commit, yvq' h.h id commit, ?_⟩
 have h1 := h.len
 have h2 : (ydd' S.held id).length ≤ S.held.length := List.length_filter_le _ _
 unfold ya9'
 split
 ·show S.held.length ≤ _; omega
 ·split
  ·show (ydd' S.held id).length ≤ _; omega
  ·split
   ·show (ydd' S.held id).length ≤ _; omega
   ·show (ydd' S.held id).length ≤ _; omega
end Go.Av

namespace Go.Proofs.YtcnkifbjlihaoaaGreatDoor
open Go.RowKit Go.Av
def iv (n : Int) : Value := .int .i64 n
theorem yxs' {l : List Int} : ∀ u ∈ l.map iv, u.oneCell' = true := by
 intro u hu
 obtain ⟨x, _, rfl⟩ := List.mem_map.1 hu
 rfl
def risF (last : Int) : List Int → Bool
 | [] => true
 | s :: r => !(decide (s ≤ last) || decide (4 ≤ s)) && risF s r
def risS (l : List Int) : Bool := risF (-1) l
def idxF (k : Int) : List Int → Option Nat
 | [] => none
 | x :: r => if x = k then some 0 else (idxF k r).map (· + 1)
def idxS (k : Int) (l : List Int) : Int := match idxF k l with | none => -1 | some i => i
theorem ynt' (last x : Int) (r : List Int) : risF last (x :: r) = (!(decide (x ≤ last) || decide (4 ≤ x)) && risF x r) := rfl
set_option maxHeartbeats 1000000 in
theorem yrq' (v : Value) (l : List Int) (E : List Nat) (w : World) (h : ReadRow w 1 v (l.map iv) E) :
  Calls Tryz.prog 242 #[v] w fun e w' => e = .returned (.bool (risS l)) ∧ w' = w := by
 obtain ⟨a, n, c, rfl, -⟩ := id h
 obtain ⟨hn, hnc, hcm, hcell⟩ := yc4' h
 rw [List.length_map] at hn
 subst hn
 unfold maxLen at hcm
 have HC := Lib.hid hcell
 clear hcell h
 go_enter Tryz.func242, Tryz.ntmps242
 go_wp2_with fail
 go_loop [3, 8] (fun u i => ∃ (p : Nat) (last : Int), p ≤ l.length ∧ i = .int .i64 p ∧ u = .int .i64 last ∧ risS l = risF last (l.drop p)) (fun _ i => l.length - (intOf i).toNat)
 case atStart => exact ⟨0, -1, Nat.zero_le _, rfl, rfl, rfl⟩
 case round =>
  obtain ⟨p, last, hp, rfl, rfl, hr⟩ := hrel
  by_cases hlt : p < l.length
  ·obtain ⟨x, rfl, hs, hc⟩ := HC.out (by omega)
   have hx := hc p (iv l[p]) (by rw [List.getElem?_map, List.getElem?_eq_getElem hlt]; rfl)
   have hd : l.drop p = l[p] :: l.drop (p + 1) := (List.getElem_cons_drop hlt).symm
   obtain ⟨y, hy⟩ : ∃ y, y = l[p] := ⟨_, rfl⟩
   rw [hd, ← hy] at hr
   rw [← hy] at hx
   rw [ynt'] at hr
   unfold iv at hx
   have HR := Lib.hid hr
   clear hc hd hy hr
   by_cases h1 : y ≤ last
   ·go_wp2_with fail
    go_ret
    rw [HR.out]
    exact ⟨by simp [h1], rfl⟩
   by_cases h2 : 4 ≤ y
   ·go_wp2_with fail
    go_ret
    rw [HR.out]
    exact ⟨by simp [h2], rfl⟩
   go_wp2_with fail
   go_round
   case rel => exact ⟨p + 1, y, by omega, by go_num, rfl, by rw [HR.out]; simp [h1, h2]⟩
   case measure => simp [intOf]; omega
  ·have HR := Lib.hid hr
   clear hr
   go_wp2_with fail
   go_ret
   rw [HR.out, List.drop_eq_nil_of_le (by omega)]
   exact ⟨rfl, rfl⟩
theorem ym0' (k x : Int) (r : List Int) : idxF k (x :: r) = if x = k then some 0 else (idxF k r).map (· + 1) := rfl
set_option maxHeartbeats 1000000 in
theorem ys5' (v : Value) (l : List Int) (k : Int) (E : List Nat) (w : World) (h : ReadRow w 1 v (l.map iv) E) :
  Calls Tryz.prog 278 #[v, .int .i64 k] w fun e w' => e = .returned (.int .i64 (idxS k l)) ∧ w' = w := by
 obtain ⟨a, n, c, rfl, -⟩ := id h
 obtain ⟨hn, hnc, hcm, hcell⟩ := yc4' h
 rw [List.length_map] at hn
 subst hn
 unfold maxLen at hcm
 have HC := Lib.hid hcell
 clear hcell h
 go_enter Tryz.func278, Tryz.ntmps278
 go_wp2_with fail
 go_loop [8] (fun i => ∃ (p : Nat), p ≤ l.length ∧ i = .int .i64 p ∧ idxF k l = (idxF k (l.drop p)).map (· + p)) (fun i => l.length - (intOf i).toNat)
 case atStart => exact ⟨0, Nat.zero_le _, rfl, by simp⟩
 case round =>
  obtain ⟨p, hp, rfl, hr⟩ := hrel
  by_cases hlt : p < l.length
  ·obtain ⟨x, rfl, hs, hc⟩ := HC.out (by omega)
   have hx := hc p (iv l[p]) (by rw [List.getElem?_map, List.getElem?_eq_getElem hlt]; rfl)
   have hd : l.drop p = l[p] :: l.drop (p + 1) := (List.getElem_cons_drop hlt).symm
   obtain ⟨y, hy⟩ : ∃ y, y = l[p] := ⟨_, rfl⟩
   rw [hd, ← hy] at hr
   rw [← hy] at hx
   rw [ym0'] at hr
   unfold iv at hx
   have HR := Lib.hid hr
   clear hc hd hy hr
   by_cases h1 : k = y
   ·have hb : (k == y) = true := by simp [h1]
    have HK := Lib.hid h1
    clear h1
    go_wp2_with fail
    go_ret
    have := HR.out
    rw [if_pos HK.out.symm] at this
    unfold idxS
    rw [this]
    exact ⟨by simp, rfl⟩
   ·have hb : (k == y) = false := by simp [h1]
    go_wp2_with fail
    go_round
    case rel =>
     have := HR.out
     rw [if_neg (fun e => h1 e.symm)] at this
     refine ⟨p + 1, by omega, by go_num, ?_⟩
     rw [this, Option.map_map]
     congr 1
     funext z
     simp
     omega
    case measure => simp [intOf]; omega
  ·have HR := Lib.hid hr
   clear hr
   go_wp2_with fail
   go_ret
   have := HR.out
   rw [List.drop_eq_nil_of_le (by omega)] at this
   unfold idxS
   rw [this]
   exact ⟨rfl, rfl⟩
def yho' (p : Int → Bool) : List Int → Option Nat
 | [] => none
 | x :: r => if p x then some 0 else (yho' p r).map (· + 1)
theorem yfr' (q : Int → Bool) (x : Int) (r : List Int) : yho' q (x :: r) = if q x then some 0 else (yho' q r).map (· + 1) := rfl
def idxQ (q : Int → Bool) (l : List Int) : Int := match yho' q l with | none => -1 | some i => i
set_option maxHeartbeats 1000000 in
theorem yi8' (v : Value) (l : List Int) (q : Int → Bool) (E : List Nat) (w : World) (h : ReadRow w 1 v (l.map iv) E)
  (hq : ∀ x, Calls Tryz.prog 280 #[.int .i64 x] w fun e w' => e = .returned (.bool (q x)) ∧ w' = w) :
  Calls Tryz.prog 281 #[v, .func (.func 280) #[] #[]] w fun e w' => e = .returned (.int .i64 (idxQ q l)) ∧ w' = w := by
 obtain ⟨a, n, c, rfl, -⟩ := id h
 obtain ⟨hn, hnc, hcm, hcell⟩ := yc4' h
 rw [List.length_map] at hn
 subst hn
 unfold maxLen at hcm
 have HC := Lib.hid hcell
 have HQ := Lib.hid hq
 clear hcell h hq
 go_enter Tryz.func281, Tryz.ntmps281
 go_wp2_with fail
 go_loop [8] (fun i => ∃ (p : Nat), p ≤ l.length ∧ i = .int .i64 p ∧ yho' q l = (yho' q (l.drop p)).map (· + p)) (fun i => l.length - (intOf i).toNat)
 case atStart => exact ⟨0, Nat.zero_le _, rfl, by simp⟩
 case round =>
  obtain ⟨p, hp, rfl, hr⟩ := hrel
  by_cases hlt : p < l.length
  ·obtain ⟨x, rfl, hs, hc⟩ := HC.out (by omega)
   have hx := hc p (iv l[p]) (by rw [List.getElem?_map, List.getElem?_eq_getElem hlt]; rfl)
   have hd : l.drop p = l[p] :: l.drop (p + 1) := (List.getElem_cons_drop hlt).symm
   obtain ⟨y, hy⟩ : ∃ y, y = l[p] := ⟨_, rfl⟩
   rw [hd, ← hy] at hr
   rw [← hy] at hx
   rw [yfr'] at hr
   unfold iv at hx
   have HR := Lib.hid hr
   obtain ⟨b, hb⟩ : ∃ b, q y = b := ⟨_, rfl⟩
   have HB := Lib.hid hb
   have hqy := HQ.out y
   rw [hb] at hqy
   have HQY := Lib.hid hqy
   clear hc hd hy hr hb hqy
   cases b with
   | true =>
    go_wp2_with (go_at_call 280; refine HQY.out.mono ?_; rintro e w1 ⟨rfl, rfl⟩)
    go_ret
    have := HR.out
    rw [HB.out, if_pos rfl] at this
    unfold idxQ
    rw [this]
    exact ⟨by simp, rfl⟩
   | false =>
    go_wp2_with (go_at_call 280; refine HQY.out.mono ?_; rintro e w1 ⟨rfl, rfl⟩)
    go_round
    case rel =>
     have := HR.out
     rw [HB.out, if_neg (by simp)] at this
     refine ⟨p + 1, by omega, by go_num, ?_⟩
     rw [this, Option.map_map]
     congr 1
     funext z
     simp
     omega
    case measure => simp [intOf]; omega
  ·have HR := Lib.hid hr
   clear hr
   go_wp2_with fail
   go_ret
   have := HR.out
   rw [List.drop_eq_nil_of_le (by omega)] at this
   unfold idxQ
   rw [this]
   exact ⟨rfl, rfl⟩
set_option maxHeartbeats 1000000 in
theorem yjx' (v : Value) (l : List Int) (cp : Addr) (q : Int → Bool) (E : List Nat) (w : World) (h : ReadRow w 1 v (l.map iv) E)
  (hq : ∀ x, Calls Tryz.prog 247 #[.int .i64 x, .pointer (some cp)] w fun e w' => e = .returned (.bool (q x)) ∧ w' = w) :
  Calls Tryz.prog 281 #[v, .func (.func 247) #[] #[.pointer (some cp)]] w fun e w' => e = .returned (.int .i64 (idxQ q l)) ∧ w' = w := by
 obtain ⟨a, n, c, rfl, -⟩ := id h
 obtain ⟨hn, hnc, hcm, hcell⟩ := yc4' h
 rw [List.length_map] at hn
 subst hn
 unfold maxLen at hcm
 have HC := Lib.hid hcell
 have HQ := Lib.hid hq
 clear hcell h hq
 go_enter Tryz.func281, Tryz.ntmps281
 go_wp2_with fail
 go_loop [8] (fun i => ∃ (p : Nat), p ≤ l.length ∧ i = .int .i64 p ∧ yho' q l = (yho' q (l.drop p)).map (· + p)) (fun i => l.length - (intOf i).toNat)
 case atStart => exact ⟨0, Nat.zero_le _, rfl, by simp⟩
 case round =>
  obtain ⟨p, hp, rfl, hr⟩ := hrel
  by_cases hlt : p < l.length
  ·obtain ⟨x, rfl, hs, hc⟩ := HC.out (by omega)
   have hx := hc p (iv l[p]) (by rw [List.getElem?_map, List.getElem?_eq_getElem hlt]; rfl)
   have hd : l.drop p = l[p] :: l.drop (p + 1) := (List.getElem_cons_drop hlt).symm
   obtain ⟨y, hy⟩ : ∃ y, y = l[p] := ⟨_, rfl⟩
   rw [hd, ← hy] at hr
   rw [← hy] at hx
   rw [yfr'] at hr
   unfold iv at hx
   have HR := Lib.hid hr
   obtain ⟨b, hb⟩ : ∃ b, q y = b := ⟨_, rfl⟩
   have HB := Lib.hid hb
   have hqy := HQ.out y
   rw [hb] at hqy
   have HQY := Lib.hid hqy
   clear hc hd hy hr hb hqy
   cases b with
   | true =>
    go_wp2_with (go_at_call 247; refine HQY.out.mono ?_; rintro e w1 ⟨rfl, rfl⟩)
    go_ret
    have := HR.out
    rw [HB.out, if_pos rfl] at this
    unfold idxQ
    rw [this]
    exact ⟨by simp, rfl⟩
   | false =>
    go_wp2_with (go_at_call 247; refine HQY.out.mono ?_; rintro e w1 ⟨rfl, rfl⟩)
    go_round
    case rel =>
     have := HR.out
     rw [HB.out, if_neg (by simp)] at this
     refine ⟨p + 1, by omega, by go_num, ?_⟩
     rw [this, Option.map_map]
     congr 1
     funext z
     simp
     omega
    case measure => simp [intOf]; omega
  ·have HR := Lib.hid hr
   clear hr
   go_wp2_with fail
   go_ret
   have := HR.out
   rw [List.drop_eq_nil_of_le (by omega)] at this
   unfold idxQ
   rw [this]
   exact ⟨rfl, rfl⟩
end Go.Proofs.YtcnkifbjlihaoaaGreatDoor

namespace Go.Av
open Go.RowKit
section
variable {w0 w : World} {R : List Thing} {rows : List (Value × Bs)}
theorem Sep.rowFill {y : Addr} {n c : Nat} {xs : List Value} (h : Sep w0 w (yai' 1 (.slice (some y) n c) xs :: R) rows) (i k : Nat) (hk : i + k ≤ n) (hn : 0 < n) (v : Value) :
  ∃ b off, y = ⟨b, off, none⟩ ∧ (∀ j, j < k → (w.cell? ⟨b, off + i + j, none⟩).isSome = true) ∧ (∀ j, j < k → w.frozen? ⟨b, off + i + j, none⟩ = false) ∧
   Sep w0 (w.setCells b (off + i) (List.replicate k v)) (yai' 1 (.slice (some y) n c) (xs.take i ++ List.replicate k v ++ xs.drop (i + k)) :: R) rows := by
 obtain ⟨D, hP, _, back⟩ := h.use
 obtain ⟨a', n', c', hv, hl, hn', hc, ha, hr⟩ := hP
 cases hv
 rcases hr with ⟨hc0, _⟩ | ⟨g, off, cur, T, h1, h2, h3, h4, h5⟩
 ·omega
 ·cases h1
  subst h2
  rw [Nat.mul_one] at hl h4 h5
  refine ⟨g, off, rfl, fun j hj => ?_, fun j hj => yad' h3 _, ?_⟩
  ·rw [cell_of_row w g (off + i + j) cur T _ h3, Array.getElem?_eq_getElem (by omega)]; rfl
  ·obtain ⟨r1, r2, r3⟩ := yca' g (List.replicate k v) (off + i) w
   refine back _ [g] (yai' 1 (.slice (some ⟨g, off, none⟩) n c) _) ⟨r1, r2, r3, by rw [ycb']; exact Nat.le_refl _, fun b _ hbn => ybf' g b (by simpa using hbn) _ _ _, fun _ h => .inl h⟩
    ⟨_, n, c, rfl, by simp; omega, hn', hc, ha, .inr ⟨g, off, _, T, rfl, rfl, ybl' g T _ _ w cur h3 (by simp; omega), by simp; omega, ?_⟩⟩
   rw [← h5, Nat.mul_one, List.length_replicate]
   apply List.ext_getElem?
   intro q
   simp only [List.getElem?_take, List.getElem?_drop, List.getElem?_append, List.length_take, List.length_drop, List.length_append, List.length_replicate, Array.length_toList, List.getElem?_replicate, Array.getElem?_toList]
   have e1 : min (off + i) cur.size = off + i := by omega
   have e2 : min i (min n (cur.size - off)) = i := by omega
   rw [e1, e2]
   by_cases hq : q < n
   ·by_cases hq1 : q < i
    ·repeat (first | rw [if_pos (by omega)] | rw [if_neg (by omega)])
    ·by_cases hq2 : q < i + k
     ·repeat (first | rw [if_pos (by omega)] | rw [if_neg (by omega)])
     ·repeat (first | rw [if_pos (by omega)] | rw [if_neg (by omega)])
      congr 1
      omega
   ·repeat (first | rw [if_neg hq] | rw [if_pos (by omega)] | rw [if_neg (by omega)])
theorem Sep.rowTake {a : Option Addr} {n c : Nat} {xs : List Value} (h : Sep w0 w (yai' 1 (.slice a n c) xs :: R) rows) {k : Nat} (hk : k ≤ n) : Sep w0 w (yai' 1 (.slice a k c) (xs.take k) :: R) rows := by
 obtain ⟨D, hP, _, back⟩ := h.use
 have := (OwnRow.take hP hk).1
 rw [Nat.mul_one] at this
 exact back w D (yai' 1 (.slice a k c) (xs.take k)) (Upd.refl w D) this
theorem Sep.readRow {v : Value} {xs : List Value} {size : Nat} (h : Sep w0 w (yai' size v xs :: R) rows) : ∃ E, ReadRow w size v xs E := by
 obtain ⟨D, hP⟩ := h.fst
 obtain ⟨E, hE, _⟩ := OwnRow.read hP
 exact ⟨E, hE⟩
end
end Go.Av
namespace Go.Proofs.YtcnkifbjlihaoaaGreatDoor
open Go.RowKit Go.Av
def yye' (w : World) (b : List Int) (e : Ending) (w' : World) : Prop := ∃ v' D', e = .returned v' ∧ OwnRow w' 1 v' (b.map iv) D' ∧ Upd w w' [] D'
set_option maxHeartbeats 400000 in
theorem yem' (v : Value) (b : List Int) (E : List Nat) (w : World) (hb : ReadRow w 1 v (b.map iv) E) (hlen : b.length ≤ 1048576) :
  Calls Tryz.prog 243 #[v] w (yye' w b) := by
 obtain ⟨i0, hi0, hz0, hz1, hz2⟩ := info_parts yy3'
 obtain ⟨nb, hnb, hsrc⟩ := hb.src (P := Tryz.prog) (tx := 68) Tryz.underlying68 yxs'
 obtain rfl : b.length = nb := by simpa using hnb
 obtain ⟨a, n, c, rfl, hl, hn, hc, ha, hr⟩ := hb
 obtain rfl : b.length = n := by simpa using hl
 have hnil := fun (W : World) (a : Option Addr) (n c n' c' : Nat) => Lib.run_eql_slice_nil (P := Tryz.prog) W 68 3 a n c n' c' Tryz.underlying68
 cases a with
 | none =>
  obtain rfl : c = 0 := ha rfl
  have hb0 : b.length = 0 := by omega
  have H0 := Lib.hid (show b = [] by simpa using hb0)
  clear hl hn hnb hb0 hsrc hr
  go_enter Tryz.func243, Tryz.ntmps243
  go_wp2_with fail
  go_ret
  rw [H0.out]
  exact ⟨_, [], rfl, OwnRow.nil _ _, Upd.refl _ _⟩
 | some ad =>
  have HBD := Lib.hid (show ∀ n, ([] : List Value).length = n * 1 → n + b.length ≤ 140737488355328 ∧ (n + b.length) * i0.bytes ≤ 140737488355328 from fun n hn => by simp at hn; rw [hz2]; omega)
  have hread : ReadRow w 1 (.slice (some ad) b.length c) (b.map iv) E := ⟨_, _, _, rfl, hl, hn, hc, ha, hr⟩
  have HR := Lib.hid hread
  clear hread hr hl hnb
  go_enter Tryz.func243, Tryz.ntmps243
  obtain ⟨nb', hnb', hsrc'⟩ := (HR.out.frame ((Upd.alloc0 w (.cells #[] 3) []).same HR.out.lt (by simp))).src (P := Tryz.prog) (tx := 68) Tryz.underlying68 yxs'
  obtain rfl : b.length = nb' := by simpa using hnb'
  clear hsrc hnb'
  go_wp2_with (at_builtin; go_must (refine ycx' rfl _ _ 68 68 rfl 1 _ _ _ rfl (OwnRow.zero _ _ _) _ i0 _ Tryz.underlying68 hi0 hz0 hz1 rfl _ _ _ rfl hsrc' HBD.out ?_); intro a3 n3 c3' w4 D3 hown3 hu4)
  go_ret
  exact ⟨_, D3, rfl, by simpa using hown3, (Upd.alloc0 _ _ _).trans hu4⟩
theorem ymt' (x s : Int) (q : Nat) (w : World) (hc : w.cell? ⟨q, 0, none⟩ = some (.int .i64 s)) :
  Calls Tryz.prog 247 #[.int .i64 x, .pointer (some ⟨q, 0, none⟩)] w fun e w' => e = .returned (.bool (decide (x = s))) ∧ w' = w := by
 obtain ⟨b, hb⟩ : ∃ b, (x == s) = b := ⟨_, rfl⟩
 have HB := Lib.hid (show decide (x = s) = b by rw [← hb]; rfl)
 go_enter Tryz.func247, Tryz.ntmps247
 go_wp2_with fail
 go_ret
 rw [HB.out]
 exact ⟨rfl, rfl⟩
theorem yhp' {q : Int → Bool} : ∀ {l : List Int}, yho' q l = none → ∀ x ∈ l, q x = false
 | [], _, x, hx => by cases hx
 | y :: r, h, x, hx => by
  rw [yfr'] at h
  by_cases hq : q y = true
  ·rw [if_pos hq] at h; cases h
  ·rw [if_neg hq, Option.map_eq_none_iff] at h
   rcases List.mem_cons.1 hx with rfl | hx
   ·simpa using hq
   ·exact yhp' h x hx
theorem yhq' {q : Int → Bool} : ∀ {l : List Int} {i : Nat}, yho' q l = some i → i < l.length ∧ (l.take (i + 1)).filter (fun x => !q x) = l.take i
 | [], i, h => by cases h
 | y :: r, i, h => by
  rw [yfr'] at h
  by_cases hq : q y = true
  ·rw [if_pos hq] at h
   cases h
   simp [hq]
  ·rw [if_neg hq] at h
   cases hr : yho' q r with
   | none => rw [hr] at h; cases h
   | some j =>
    rw [hr] at h
    cases h
    obtain ⟨h1, h2⟩ := yhq' hr
    have hq' : q y = false := by simpa using hq
    simp only [List.length_cons, k_f, List.filter_cons, hq', Bool.not_false, if_true]
    exact ⟨by omega, by rw [h2]⟩
end Go.Proofs.YtcnkifbjlihaoaaGreatDoor

namespace Go.Proofs.YtcnkifbjlihaoaaGreatDoor
open Go.RowKit Go.Av
theorem yuf' {P : Program} {t e : TypeId} {i : TypeInfo} (ht : P.underlying t = some (.slice e)) (hi : P.info? e = some i) (hz : i.size = 1) (a : Option Addr) (n : Nat) (ha : a = none → n = 0) (W : World) :
  (Instr.slice t (.slice a n n) (some (.int .i64 (n : Int))) none none).run P W = .ok (.slice a 0 0) W := by
 cases a with
 | none =>
  have := ha rfl
  subst this
  simp [Instr.slice, run_underlying ht, Instr.sliceBounds, Instr.sliceBound, asIntOf, sizeOf, typeInfo, hi, Result.andThen, hz]
 | some x => simp [Instr.slice, run_underlying ht, Instr.sliceBounds, Instr.sliceBound, asIntOf, sizeOf, typeInfo, hi, Result.andThen, hz]
theorem Sep.tail {w0 w : World} {R : List Thing} {rows : List (Value × Bs)} {P : Program} {t e : TypeId} {i : TypeInfo} (ht : P.underlying t = some (.slice e)) (hi : P.info? e = some i) (hz : i.size = 1) {a : Option Addr} {n c : Nat} {xs : List Value}
  (h : Sep w0 w (yai' 1 (.slice a n c) xs :: R) rows) : ∃ a', ∀ W, (Instr.slice t (.slice a n c) (some (.int .i64 (n : Int))) none none).run P W = .ok (.slice a' 0 (c - n)) W := by
 obtain ⟨D, hP⟩ := h.fst
 obtain ⟨a', n', c', hv, hl, hn, hc, ha, hr⟩ := hP
 cases hv
 by_cases hcn : c = n
 ·subst hcn
  exact ⟨a, fun W => by rw [Nat.sub_self]; exact yuf' ht hi hz a c ha W⟩
 ·rcases hr with ⟨hc0, _⟩ | ⟨g, off, cur, T, h1, h2, h3, h4, h5⟩
  ·omega
  ·subst h1
   exact ⟨_, fun W => by have := ykt' ht hi hz g off n c n (Nat.le_refl _) W; rwa [Nat.sub_self] at this⟩
section
variable {w0 w : World} {R : List Thing} {rows : List (Value × Bs)}
theorem yos' (q : Int → Bool) (l : List Int) (j : Nat) (hj : j < l.length) : (l.take (j + 1)).filter q = (l.take j).filter q ++ if q l[j] then [l[j]] else [] := by
 rw [List.take_succ_eq_append_getElem hj, List.filter_append, List.filter_cons, List.filter_nil]
set_option maxRecDepth 100000 in
set_option maxHeartbeats 1000000 in
theorem yjw' (v : Value) (l : List Int) (s : Int) (cq : Nat) (T : TypeId) (h : Sep w0 w (yai' 1 v (l.map iv) :: R) rows) (hT : yac' cq (.cells #[.int .i64 s] T (0, 0)) ∈ R) :
  Calls Tryz.prog 246 #[v, .func (.func 247) #[] #[.pointer (some ⟨cq, 0, none⟩)]] w fun e w' => ∃ v', e = .returned v' ∧ Sep w0 w' (yai' 1 v' ((l.filter fun x => !decide (x = s)).map iv) :: R) rows := by
 obtain ⟨a, n, c, rfl, hl, hnc, hcm⟩ := h.rowLen
 rw [List.length_map, Nat.mul_one] at hl
 subst hl
 unfold maxLen at hcm
 obtain ⟨E, hE⟩ := h.readRow
 have hcq : ∀ (W : World) (xs : List Value) (u : Value), Sep w0 W (yai' 1 u xs :: R) rows → W.cell? ⟨cq, 0, none⟩ = some (.int .i64 s) := fun W xs u hS => by
  have hb := hS.block (k_n _ hT)
  exact yaa' hb 0 rfl
 have hifn := yjx' (.slice a l.length c) l ⟨cq, 0, none⟩ (fun x => decide (x = s)) E w hE (fun x => ymt' x s cq w (hcq w _ _ h))
 obtain ⟨r, hr⟩ : ∃ r, yho' (fun x => decide (x = s)) l = r := ⟨_, rfl⟩
 have H := Lib.hid h
 have HC := Lib.hid hcq
 have HF := Lib.hid hifn
 have HRR := Lib.hid hr
 clear h hcq hifn hE hr
 cases r with
 | none =>
  have hF := HF.out
  rw [show idxQ (fun x => decide (x = s)) l = -1 by unfold idxQ; rw [HRR.out]] at hF
  have HF2 := Lib.hid hF
  have hfn := yhp' HRR.out
  clear hF
  have HN := Lib.hid (show l.filter (fun x => !decide (x = s)) = l from List.filter_eq_self.2 fun x hx => by rw [hfn x hx]; rfl)
  clear hfn
  go_enter Tryz.func246, Tryz.ntmps246
  go_wp2_with fail
  refine HF2.out.mono ?_
  rintro e w1 ⟨rfl, rfl⟩
  go_wp2_with fail
  go_ret
  exact ⟨_, rfl, by rw [HN.out]; exact H.out⟩
 | some i0 =>
  have hF := HF.out
  rw [show idxQ (fun x => decide (x = s)) l = (i0 : Int) by unfold idxQ; rw [HRR.out]] at hF
  have HF2 := Lib.hid hF
  clear hF
  obtain ⟨hi0, hf0⟩ := yhq' HRR.out
  have HF0 := Lib.hid hf0
  have b1 : ((i0 : Int) == -1) = false := by simp
  clear hf0
  go_enter Tryz.func246, Tryz.ntmps246
  go_wp2_with fail
  refine HF2.out.mono ?_
  rintro e w1 ⟨rfl, rfl⟩
  go_wp2_with fail
  go_loopg [5, 6] (l.length - (i0 + 1)) (fun k ti tj wr => ∃ (i j : Nat) (xs : List Value), i < j ∧ j ≤ l.length ∧ k = l.length - j ∧ ti = .int .i64 (i : Int) ∧ tj = .int .i64 (j : Int) ∧ Sep w0 wr (yai' 1 (.slice a l.length c) xs :: R) rows ∧ xs.length = l.length ∧
   i = ((l.take j).filter fun x => !decide (x = s)).length ∧ xs.take i = ((l.take j).filter fun x => !decide (x = s)).map iv ∧ xs.drop j = (l.drop j).map iv)
  case atStart =>
   refine ⟨i0, i0 + 1, l.map iv, by omega, by omega, rfl, rfl, by go_num, H.out, by simp, ?_, ?_, by rw [List.map_drop]⟩
   ·rw [HF0.out, List.length_take]; omega
   ·rw [HF0.out, List.map_take]
  case round =>
   obtain ⟨i, j, xs, hij, hj, hk, hti, htj, hS, hxl, hi, hxt, hxd⟩ := hrel
   subst hti htj
   by_cases hlt : j < l.length
   ·have hxj : xs[j]? = some (iv l[j]) := by
     have : (xs.drop j)[0]? = some (iv l[j]) := by rw [hxd, List.getElem?_map, List.getElem?_drop, Nat.add_zero, List.getElem?_eq_getElem hlt]; rfl
     rwa [List.getElem?_drop, Nat.add_zero] at this
    obtain ⟨y, rfl, hys, hcy⟩ := hS.rowCell hxj
    obtain ⟨x, hx⟩ : ∃ x, l[j] = x := ⟨_, rfl⟩
    have hst := yos' (fun x => !decide (x = s)) l j hlt
    rw [hx] at hst hcy
    unfold iv at hcy
    have hd1 := ymt' x s cq wr (HC.out _ _ _ hS)
    have hnx : xs.drop (j + 1) = (l.drop (j + 1)).map iv := by
     have : (xs.drop j).drop 1 = ((l.drop j).map iv).drop 1 := by rw [hxd]
     rwa [List.drop_drop, ← List.map_drop, List.drop_drop] at this
    by_cases hxs : x = s
    ·have hb : decide (x = s) = true := by simp [hxs]
     rw [hb] at hd1
     have hst2 : (l.take (j + 1)).filter (fun x => !decide (x = s)) = (l.take j).filter fun x => !decide (x = s) := by rw [hst, if_neg (by simp [hxs]), List.append_nil]
     have HD := Lib.hid hd1
     have HX := Lib.hid (show _ ∧ _ ∧ _ ∧ _ ∧ _ ∧ _ from ⟨hS, hxl, hi, hxt, hnx, hst2⟩)
     clear hS hxl hi hxt hxd hnx hst hst2 hxj hx hxs hb hd1
     go_wp2_with (go_at_call 247; refine HD.out.mono ?_; rintro e w2 ⟨rfl, rfl⟩)
     go_roundg (l.length - (j + 1))
     case rel =>
      obtain ⟨hS, hxl, hi, hxt, hnx, hst2⟩ := HX.out
      refine ⟨i, j + 1, xs, by omega, by omega, rfl, rfl, by go_num, hS, hxl, ?_, ?_, hnx⟩
      ·rw [hst2]; exact hi
      ·rw [hst2]; exact hxt
     case measure => omega
    ·have hb : decide (x = s) = false := by simp [hxs]
     rw [hb] at hd1
     have hst2 : (l.take (j + 1)).filter (fun x => !decide (x = s)) = ((l.take j).filter fun x => !decide (x = s)) ++ [x] := by rw [hst, if_pos (by simp [hxs])]
     obtain ⟨hfr, -, ⟨u, hu⟩, hset⟩ := hS.rowSet (i := i) (by omega) (.int .i64 x)
     have hxt2 : (xs.set i (iv x)).take (i + 1) = xs.take i ++ [iv x] := by
      rw [List.take_succ_eq_append_getElem (by simp; omega), List.take_set, List.set_eq_of_length_le (by rw [List.length_take]; exact Nat.min_le_left _ _)]
      simp
     have hxd2 : (xs.set i (iv x)).drop (j + 1) = xs.drop (j + 1) := by rw [List.drop_set_of_lt (by omega)]
     have HD := Lib.hid hd1
     have HX := Lib.hid (show _ ∧ _ ∧ _ ∧ _ ∧ _ ∧ _ ∧ _ ∧ _ from ⟨hset, hxl, hi, hxt, hnx, hst2, hxt2, hxd2⟩)
     clear hS hxl hi hxt hxd hnx hst hst2 hxj hx hxs hb hd1 hset hxt2 hxd2
     go_wp2_with (go_at_call 247; refine HD.out.mono ?_; rintro e w2 ⟨rfl, rfl⟩)
     go_roundg (l.length - (j + 1))
     case rel =>
      obtain ⟨hset, hxl, hi, hxt, hnx, hst2, hxt2, hxd2⟩ := HX.out
      refine ⟨i + 1, j + 1, _, by omega, by omega, rfl, by go_num, by go_num, hset, by simpa using hxl, ?_, ?_, ?_⟩
      ·rw [hst2, List.length_append, ← hi]; rfl
      ·rw [hst2, List.map_append, ← hxt]; exact hxt2
      ·exact hxd2.trans hnx
     case measure => omega
   ·obtain rfl : j = l.length := by omega
    rw [List.take_length] at hi hxt
    have hin : i ≤ l.length := by omega
    have hlt' : ¬ l.length < l.length := by omega
    obtain ⟨z0, hz0, hz00, hz1, hz2⟩ := info_parts yy3'
    have HX := Lib.hid (show _ ∧ _ ∧ _ ∧ _ from ⟨hS, hxl, hi, hxt⟩)
    clear hxd hi hxt
    by_cases hil : i = l.length
    ·have hs2 := fun W => yef' (P := Tryz.prog) Tryz.underlying68 hz0 a l.length c i (by omega) W
     have e0 : l.length - i = 0 := by omega
     have hcl : ∀ ty (x : Option Addr) (c' : Nat) (W : World), (Builtin.clear_ #[68] ty #[.slice x (l.length - i) c']).run Tryz.prog W = .ok (.tuple #[]) W := fun ty x c' W => by
      rw [e0]
      cases x <;> simp [Builtin.clear_, run_underlying Tryz.underlying68]
     have hic : i ≤ l.length := by omega
     clear hS hil e0
     by_cases hci : c = i
     all_goals
      go_wp2_with fail
      go_ret
      obtain ⟨hS, hxl, hi, hxt⟩ := HX.out
      refine ⟨_, rfl, ?_⟩
      rw [← hxt]
      have h9 := hS.rowTake hin
      first | exact h9 | (rw [hci] at h9; exact h9)
    ·obtain ⟨b, off, rfl⟩ : ∃ b off, a = some ⟨b, off, none⟩ := by
      obtain ⟨x, hx, hsp, -⟩ := hS.rowCell (i := i) (x := xs[i]'(by omega)) (List.getElem?_eq_getElem (by omega))
      obtain ⟨b, off, sp⟩ := x
      simp only at hsp
      subst hsp
      exact ⟨b, off, hx⟩
     obtain ⟨b', off', hy, hfc, hff, hfill⟩ := hS.rowFill i (l.length - i) (by omega) (by omega) (.int .i64 0)
     cases hy
     have hcl := fun ty => Lib.run_clear_slice (P := Tryz.prog) wr 68 3 ty (.int .i64 0) Tryz.underlying68 (fun _ => rfl) rfl rfl b (off + i) (l.length - i) (c - i) (by omega) hfc hff
     have hs2 := fun W => yef' (P := Tryz.prog) Tryz.underlying68 hz0 (some ⟨b, off, none⟩) l.length c i (by omega) W
     have hci : ¬ c = i := by omega
     have HFI := Lib.hid hfill
     clear hS hil hfc hff hfill
     go_wp2_with fail
     go_ret
     obtain ⟨hS, hxl, hi, hxt⟩ := HX.out
     refine ⟨_, rfl, ?_⟩
     have h9 := HFI.out.rowTake hin
     rw [List.append_assoc, List.take_append_of_le_length (by rw [List.length_take]; omega), List.take_of_length_le (by rw [List.length_take]; omega), hxt] at h9
     exact h9
end
end Go.Proofs.YtcnkifbjlihaoaaGreatDoor

namespace Go.Proofs.YtcnkifbjlihaoaaGreatDoor
open Go.RowKit Go.Av
structure EntS where
 shards : List Int
 votes : List Int
 dec : Int
 owes : List Int
def EntS.wf (x : EntS) : Prop := x.votes.length = x.shards.length ∧ x.shards.length ≤ 4 ∧ x.owes.length ≤ 4
def okE (e : Int × EntS) : Prop := e.2.wf ∧ 1 ≤ e.1 ∧ e.1 ≤ 9223372036854775807
structure EntG where
 id : Int
 p : Nat
 vs : Value
 vv : Value
 vo : Value
 x : EntS
def EntG.th (g : EntG) : List Thing :=
 [yac' g.p (.cells #[g.vs, g.vv, .int .i64 g.x.dec, g.vo] 220 (0, 0)), yai' 1 g.vs (g.x.shards.map iv), yai' 1 g.vv (g.x.votes.map iv), yai' 1 g.vo (g.x.owes.map iv)]
def EntG.kv (g : EntG) : Value × Value := (.int .i64 g.id, .pointer (some ⟨g.p, 0, none⟩))
def EntG.ent (g : EntG) : Int × EntS := (g.id, g.x)
abbrev CoS := List (Int × EntS)
def yeb' (c m : Nat) (kvs : List (Value × Value)) : List Thing := [yac' c (.cells #[.map (some m)] 216 (0, 0)), yam' (.int .i64) m kvs]
def Co (w0 w : World) (c : Nat) (S : CoS) (R : List Thing) (rows : List (Value × Bs)) : Prop :=
 ∃ (m : Nat) (gs : List EntG), gs.map EntG.ent = S ∧ (∀ e ∈ S, okE e) ∧ Sep w0 w (yeb' c m (gs.map EntG.kv) ++ (gs.flatMap EntG.th ++ R)) rows
def CoF (w0 w : World) (c m : Nat) (l1 : List EntG) (g : EntG) (l2 : List EntG) (R : List Thing) (rows : List (Value × Bs)) : Prop :=
 (∀ e ∈ (l1 ++ g :: l2).map EntG.ent, okE e) ∧ Sep w0 w (g.th ++ (yeb' c m ((l1 ++ g :: l2).map EntG.kv) ++ ((l1 ++ l2).flatMap EntG.th ++ R))) rows
theorem yz8' (w : World) : (zeroValue 218).run Tryz.prog w = .ok (.pointer none) w := by kernel_rfl
theorem yki' (P : List Thing) (l1 l2 : List EntG) (g : EntG) (R : List Thing) : (P ++ ((l1 ++ g :: l2).flatMap EntG.th ++ R)).Perm (g.th ++ (P ++ ((l1 ++ l2).flatMap EntG.th ++ R))) := by
 simp only [List.flatMap_append, List.flatMap_cons, List.append_assoc]
 refine (List.Perm.append_left P (List.perm_append_comm_assoc _ _ _)).trans ?_
 exact List.perm_append_comm_assoc _ _ _
def yf1' (id : Int) (S : CoS) : Option EntS := (S.find? fun e => decide (e.1 = id)).map (·.2)
theorem yjc' {id : Int} {S : CoS} {x : EntS} (h : yf1' id S = some x) : ∃ S1 S2, S = S1 ++ (id, x) :: S2 ∧ ∀ e ∈ S1, e.1 ≠ id := by
 unfold yf1' at h
 cases hf : S.find? (fun e => decide (e.1 = id)) with
 | none => rw [hf] at h; cases h
 | some e =>
  rw [hf] at h
  cases h
  obtain ⟨hp, S1, S2, hS, hb⟩ := List.find?_eq_some_iff_append.1 hf
  have he : e.1 = id := by simpa using hp
  subst he
  exact ⟨S1, S2, hS, fun q hq => by simpa using hb q hq⟩
theorem ygx' {id : Int} {S : CoS} (h : yf1' id S = none) : ∀ e ∈ S, e.1 ≠ id := by
 unfold yf1' at h
 rw [Option.map_eq_none_iff, List.find?_eq_none] at h
 exact fun e he => by simpa using h e he
section
variable {w0 w : World} {c m : Nat} {S : CoS} {l1 l2 : List EntG} {g : EntG} {R : List Thing} {rows : List (Value × Bs)}
theorem Co.take (h : Co w0 w c S R rows) {id : Int} {x : EntS} (hx : yf1' id S = some x) :
  ∃ m l1 g l2, g.id = id ∧ g.x = x ∧ CoF w0 w c m l1 g l2 R rows ∧ (∀ e ∈ l1.map EntG.ent, e.1 ≠ id) ∧ S = (l1 ++ g :: l2).map EntG.ent := by
 obtain ⟨m, gs, rfl, hwf, hS⟩ := h
 obtain ⟨S1, S2, hS12, hb⟩ := yjc' hx
 obtain ⟨l1, l2', h1, h2, h3⟩ := List.map_eq_append_iff.1 hS12
 obtain ⟨g, l2, h4, h5, h6⟩ := List.map_eq_cons_iff.1 h3
 subst h1 h4
 have hg : g.id = id ∧ g.x = x := by unfold EntG.ent at h5; cases h5; exact ⟨rfl, rfl⟩
 refine ⟨m, l1, g, l2, hg.1, hg.2, ⟨hwf, ?_⟩, by rw [h2]; exact hb, rfl⟩
 have := hS.perm (yki' (yeb' c m ((l1 ++ g :: l2).map EntG.kv)) l1 l2 g R)
 exact this
theorem CoF.back (h : CoF w0 w c m l1 g l2 R rows) : Co w0 w c ((l1 ++ g :: l2).map EntG.ent) R rows := by
 obtain ⟨hwf, hS⟩ := h
 exact ⟨m, l1 ++ g :: l2, rfl, hwf, hS.perm (yki' (yeb' c m ((l1 ++ g :: l2).map EntG.kv)) l1 l2 g R).symm⟩
theorem Co.below (h : Co w0 w c S R rows) : Below w0.heap.size w0 w := by
 obtain ⟨m, gs, _, _, hS⟩ := h
 exact hS.below
theorem Co.keep (h : Co w0 w c S R rows) {w' : World} {D' : List Nat} (hu : Upd w w' [] D') : Co w0 w' c S R rows := by
 obtain ⟨m, gs, h1, h2, hS⟩ := h
 exact ⟨m, gs, h1, h2, hS.keep hu⟩
theorem CoF.facts (h : CoF w0 w c m l1 g l2 R rows) : w.cell? ⟨c, 0, none⟩ = some (.map (some m)) ∧
  (∀ W : World, W.heap = w.heap → (Instr.lookup 214 (.map (some m)) (.int .i64 g.id) false).run Tryz.prog W = .ok (.pointer (some ⟨g.p, 0, none⟩)) W) ∧
  w.heap[g.p]? = some (.cells #[g.vs, g.vv, .int .i64 g.x.dec, g.vo] 220 (0, 0)) := by
 obtain ⟨hwf, hS⟩ := h
 have hc := hS.block (b := c) (o := .cells #[.map (some m)] 216 (0, 0)) (by simp [yeb'])
 have hp := hS.block (b := g.p) (o := .cells #[g.vs, g.vv, .int .i64 g.x.dec, g.vo] 220 (0, 0)) (by simp [EntG.th])
 obtain ⟨E, hM, -⟩ := hS.has (T := yam' (.int .i64) m ((l1 ++ g :: l2).map EntG.kv)) (by simp [yeb'])
 refine ⟨yaa' hc 0 rfl, fun W hW => ?_, hp⟩
 have hM' := hM.frame (w' := W) (by rw [hW])
 exact ygb' hM' Tryz.underlying214 Tryz.underlying2 (show MapKept.IsKey (.int .i64) (.int .i64 g.id) from rfl) (by simp [EntG.kv]) false
theorem Co.absent (h : Co w0 w c S R rows) {id : Int} (hx : yf1' id S = none) : ∃ m, w.cell? ⟨c, 0, none⟩ = some (.map (some m)) ∧
  ∀ W : World, W.heap = w.heap → (Instr.lookup 214 (.map (some m)) (.int .i64 id) false).run Tryz.prog W = .ok (.pointer none) W := by
 obtain ⟨m, gs, rfl, hwf, hS⟩ := h
 have hn := ygx' hx
 have hc := hS.block (b := c) (o := .cells #[.map (some m)] 216 (0, 0)) (by simp [yeb'])
 obtain ⟨E, hM, -⟩ := hS.has (T := yam' (.int .i64) m (gs.map EntG.kv)) (by simp [yeb'])
 refine ⟨m, yaa' hc 0 rfl, fun W hW => ?_⟩
 have hM' := hM.frame (w' := W) (by rw [hW])
 refine yfv' hM' Tryz.underlying214 Tryz.underlying2 (show MapKept.IsKey (.int .i64) (.int .i64 id) from rfl) (fun q hq => ?_) (yz8' _) false
 obtain ⟨g, hg, rfl⟩ := List.mem_map.1 hq
 intro e
 unfold EntG.kv at e
 simp only [Value.int.injEq, true_and] at e
 exact hn (g.ent) (List.mem_map_of_mem hg) e
set_option maxHeartbeats 400000 in
theorem ytp' (h : Sep w0 w R rows) : Calls Tryz.prog 128 #[] w fun e w' => ∃ c, e = .returned (.pointer (some ⟨c, 0, none⟩)) ∧ Co w0 w' c [] R rows := by
 have h1 := (h.newMap (.int .i64)).newCell (.cells #[.map (some w.heap.size)] 216 (0, 0))
 have H := Lib.hid h1
 clear h h1
 have hmm := @run_makeMap Tryz.prog
 go_enter Tryz.func128, Tryz.ntmps128
 go_wp2_with fail
 go_ret
 exact ⟨_, rfl, _, [], rfl, by simp, by simpa [yeb'] using H.out⟩
set_option maxHeartbeats 400000 in
theorem ysw' (h : Co w0 w c S R rows) (id k : Int) (hx : yf1' id S = none) :
  Calls Tryz.prog 244 #[.pointer (some ⟨c, 0, none⟩), .int .i64 id, .int .i64 k] w fun e w' => e = .returned (.tuple #[.pointer none, .int .i64 (-1)]) ∧ w' = w := by
 obtain ⟨m, hc, hl⟩ := h.absent hx
 have hl := hl w rfl
 clear h hx
 go_enter Tryz.func244, Tryz.ntmps244
 go_wp2_with fail
 go_ret2
 exact ⟨rfl, rfl⟩
set_option maxHeartbeats 400000 in
theorem ypw' (h : CoF w0 w c m l1 g l2 R rows) (k : Int) :
  Calls Tryz.prog 244 #[.pointer (some ⟨c, 0, none⟩), .int .i64 g.id, .int .i64 k] w fun e w' => e = .returned (.tuple #[.pointer (some ⟨g.p, 0, none⟩), .int .i64 (idxS k g.x.shards)]) ∧ w' = w := by
 obtain ⟨hc, hl, hp⟩ := h.facts
 have hl := hl w rfl
 have c0 := yaa' hp 0 rfl
 obtain ⟨E, hE⟩ := (h.2.perm (List.perm_middle (l₁ := [_]))).readRow
 have HE := Lib.hid hE
 clear h hp hE
 go_enter Tryz.func244, Tryz.ntmps244
 go_wp2_with fail
 refine (ys5' _ _ k E w HE.out).mono ?_
 rintro e w1 ⟨rfl, rfl⟩
 go_wp2_with fail
 go_ret2
 exact ⟨rfl, rfl⟩
end
end Go.Proofs.YtcnkifbjlihaoaaGreatDoor

namespace Go.Proofs.YtcnkifbjlihaoaaGreatDoor
open Go.RowKit Go.Av
def EntG.upd (g : EntG) (x : EntS) : EntG := { g with x := x }
section
variable {w0 w : World} {c m : Nat} {S : CoS} {l1 l2 : List EntG} {g : EntG} {R : List Thing} {rows : List (Value × Bs)}
theorem yu3' {x : EntS} (hwf : ∀ e ∈ (l1 ++ g :: l2).map EntG.ent, okE e) (hx : x.wf) : ∀ e ∈ (l1 ++ g.upd x :: l2).map EntG.ent, okE e := by
 intro e he
 have hg := (hwf g.ent (by simp)).2
 simp only [List.map_append, List.map_cons, List.mem_append, List.mem_cons] at he hwf
 rcases he with he | rfl | he
 ·exact hwf e (.inl he)
 ·exact ⟨hx, hg⟩
 ·exact hwf e (.inr (.inr he))
theorem CoF.wf (h : CoF w0 w c m l1 g l2 R rows) : g.x.wf := (h.1 g.ent (by simp)).1
theorem CoF.setDec (h : CoF w0 w c m l1 g l2 R rows) (v : Int) : CoF w0 (w.setCell ⟨g.p, 2, none⟩ (.int .i64 v)) c m l1 (g.upd { g.x with dec := v }) l2 R rows := by
 have hw := h.wf
 have := h.2.set 2 (.int .i64 v)
 refine ⟨yu3' h.1 hw, ?_⟩
 simp only [List.map_append, List.map_cons] at this ⊢
 exact this
theorem CoF.setVote (h : CoF w0 w c m l1 g l2 R rows) {i : Nat} (hi : i < g.x.votes.length) :
  ∃ y n c', g.vv = .slice (some y) n c' ∧ n = g.x.votes.length ∧ n ≤ c' ∧ c' ≤ 2 ^ 63 - 1 ∧ y.spot = none ∧ w.cell? (y.add i) = some (.int .i64 g.x.votes[i]) ∧ w.frozen? (y.add i) = false ∧
   ∀ v, CoF w0 (w.setCell (y.add i) (.int .i64 v)) c m l1 (g.upd { g.x with votes := g.x.votes.set i v }) l2 R rows := by
 have hw := h.wf
 obtain ⟨hwf, hS⟩ := h
 have h2 := hS.perm (List.perm_middle (l₁ := [_, _]))
 obtain ⟨id, p, vs, vv, vo, x⟩ := g
 obtain ⟨a, n, c', hv, hl, hn, hc⟩ := h2.rowLen
 simp only at hv
 subst hv
 rw [List.length_map, Nat.mul_one] at hl
 have hl' : x.votes.length = n := hl
 have hi' : i < x.votes.length := hi
 have hin : i < n := by omega
 obtain ⟨y, rfl, hsp, hcell⟩ := h2.rowCell (i := i) (x := iv x.votes[i]) (by rw [List.getElem?_map, List.getElem?_eq_getElem hi]; rfl)
 refine ⟨y, n, c', rfl, hl.symm, hn, hc, hsp, hcell, (h2.rowSet (i := i) hin (iv 0)).1, fun v => ⟨yu3' hwf ⟨by simpa using hw.1, hw.2⟩, ?_⟩⟩
 obtain ⟨-, -, -, h5⟩ := h2.rowSet (i := i) hin (iv v)
 rw [show (x.votes.map iv).set i (iv v) = (x.votes.set i v).map iv by rw [List.map_set]] at h5
 have h6 := h5.perm (List.perm_middle (l₁ := [_, _])).symm
 simp only [List.map_append, List.map_cons] at h6 ⊢
 exact h6
theorem CoF.setOwes (h : CoF w0 w c m l1 g l2 R rows) (q : Int → Bool) :
  ∃ R', Sep w0 w (yai' 1 g.vo (g.x.owes.map iv) :: R') rows ∧ yac' g.p (.cells #[g.vs, g.vv, .int .i64 g.x.dec, g.vo] 220 (0, 0)) ∈ R' ∧ (∀ T ∈ R, T ∈ R') ∧
   ∀ (w' : World) v, Sep w0 w' (yai' 1 v ((g.x.owes.filter q).map iv) :: R') rows → w'.heap[g.p]? = some (.cells #[g.vs, g.vv, .int .i64 g.x.dec, g.vo] 220 (0, 0)) ∧
    CoF w0 (w'.setCell ⟨g.p, 3, none⟩ v) c m l1 ({ g with vo := v, x := { g.x with owes := g.x.owes.filter q } }) l2 R rows := by
 have hw := h.wf
 obtain ⟨hwf, hS⟩ := h
 have h2 := hS.perm (List.perm_middle (l₁ := [_, _, _]))
 refine ⟨_, h2, by simp, fun T hT => by simp [hT], fun w' v h3 => ?_⟩
 have h4 := h3.perm (List.perm_middle (l₁ := [_, _, _])).symm
 have hg := (hwf g.ent (by simp)).2
 refine ⟨h4.blk, fun e he => ?_, ?_⟩
 ·simp only [List.map_append, List.map_cons, List.mem_append, List.mem_cons] at he hwf
  rcases he with he | rfl | he
  ·exact hwf e (.inl he)
  ·exact ⟨⟨hw.1, hw.2.1, Nat.le_trans (List.length_filter_le _ _) hw.2.2⟩, hg⟩
  ·exact hwf e (.inr (.inr he))
 ·have h5 := h4.set 3 v
  simp only [List.map_append, List.map_cons] at h5 ⊢
  exact h5
def putS (id : Int) (φ : EntS → EntS) (S : CoS) : CoS := S.map fun e => if e.1 = id then (e.1, φ e.2) else e
theorem yzn' {id : Int} {S1 S2 : CoS} {x : EntS} (φ : EntS → EntS) (h1 : ∀ e ∈ S1, e.1 ≠ id) (h2 : ∀ e ∈ S2, e.1 ≠ id) : putS id φ (S1 ++ (id, x) :: S2) = S1 ++ (id, φ x) :: S2 := by
 unfold putS
 rw [List.map_append, List.map_cons]
 congr 1
 ·rw [List.map_congr_left (g := _root_.id) (fun e he => by simp [h1 e he]), List.map_id]
 ·rw [if_pos rfl, List.map_congr_left (g := _root_.id) (fun e he => by simp [h2 e he]), List.map_id]
theorem CoF.once (h : CoF w0 w c m l1 g l2 R rows) : (∀ e ∈ l1.map EntG.ent, e.1 ≠ g.id) ∧ ∀ e ∈ l2.map EntG.ent, e.1 ≠ g.id := by
 obtain ⟨E, hM, -⟩ := h.2.has (T := yam' (.int .i64) m ((l1 ++ g :: l2).map EntG.kv)) (by simp [yeb'])
 have hn := hM.nodup
 rw [List.map_map, List.map_append, List.map_cons, List.nodup_append, List.nodup_cons] at hn
 obtain ⟨-, ⟨h3, -⟩, h5⟩ := hn
 refine ⟨fun e he heq => ?_, fun e he heq => ?_⟩
 ·obtain ⟨q, hq, rfl⟩ := List.mem_map.1 he
  refine h5 _ (List.mem_map_of_mem hq) _ k_s ?_
  simp only [Function.comp, EntG.kv]
  rw [show q.id = g.id from heq]
 ·obtain ⟨q, hq, rfl⟩ := List.mem_map.1 he
  refine h3 ?_
  have : q.id = g.id := heq
  simp only [Function.comp, EntG.kv, List.mem_map]
  exact ⟨q, hq, by rw [this]⟩
theorem CoF.put (h : CoF w0 w c m l1 g l2 R rows) {x : EntS} (φ : EntS → EntS) (hx : φ g.x = x) : (l1 ++ g.upd x :: l2).map EntG.ent = putS g.id φ ((l1 ++ g :: l2).map EntG.ent) := by
 obtain ⟨h1, h2⟩ := h.once
 rw [List.map_append, List.map_cons, List.map_append, List.map_cons, show g.ent = (g.id, g.x) from rfl, yzn' φ h1 h2, hx]
 rfl
def ye7' (x : EntS) : EntS := if x.dec = 0 then { x with dec := 2 } else x
def yf3' (S : CoS) (id : Int) : Bool × Int × CoS := match yf1' id S with | none => (false, 4, S) | some x => ((ye7' x).dec == 1, 0, putS id ye7' S)
set_option maxRecDepth 100000 in
set_option maxHeartbeats 400000 in
theorem ysb' (h : Co w0 w c S R rows) (id : Int) :
  Calls Tryz.prog 205 #[.pointer (some ⟨c, 0, none⟩), .int .i64 id] w fun e w' => e = .returned (.tuple #[.bool (yf3' S id).1, .int .i64 (yf3' S id).2.1]) ∧ Co w0 w' c (yf3' S id).2.2 R rows := by
 unfold yf3'
 cases hx : yf1' id S with
 | none =>
  obtain ⟨m, hc, hl⟩ := h.absent hx
  have hl := hl w rfl
  have H := Lib.hid h
  clear h hx
  go_enter Tryz.func205, Tryz.ntmps205
  go_wp2_with fail
  go_ret2
  exact ⟨rfl, H.out⟩
 | some x =>
  obtain ⟨m, l1, g, l2, rfl, rfl, hF, -, hSS⟩ := h.take hx
  obtain ⟨hc, hl, hp⟩ := hF.facts
  have hl := hl w rfl
  have c2 := yaa' hp 2 rfl
  have y2 := yad' hp 2
  show Calls _ _ _ _ (fun e w' => e = .returned (.tuple #[.bool ((ye7' g.x).dec == 1), .int .i64 0]) ∧ Co w0 w' c (putS g.id ye7' S) R rows)
  by_cases hd : g.x.dec = 0
  ·have hS2 := (hF.setDec 2).back
   rw [hF.put ye7' (by unfold ye7'; rw [if_pos hd]), ← hSS] at hS2
   have H := Lib.hid hS2
   have e1 : ((ye7' g.x).dec == 1) = false := by unfold ye7'; rw [if_pos hd]; rfl
   rw [e1]
   rw [show (#[g.vs, g.vv, Value.int .i64 g.x.dec, g.vo] : Array Value)[2] = .int .i64 0 by simp [hd]] at c2
   clear h hx hF hSS hp hS2 hd e1
   go_enter Tryz.func205, Tryz.ntmps205
   go_wp2_with fail
   go_ret2
   exact ⟨rfl, H.out⟩
  ·have hS2 := hF.back
   have hput := hF.put (x := g.x) ye7' (by unfold ye7'; rw [if_neg hd])
   rw [show g.upd g.x = g from rfl, ← hSS] at hput
   rw [← hSS] at hS2
   rw [← hput]
   have H := Lib.hid hS2
   have e1 : ((ye7' g.x).dec == 1) = (g.x.dec == 1) := by unfold ye7'; rw [if_neg hd]
   rw [e1]
   have hd' : (g.x.dec == 0) = false := by simp [hd]
   clear h hx hF hSS hp hS2 hd e1 hput
   go_enter Tryz.func205, Tryz.ntmps205
   go_wp2_with fail
   go_ret2
   exact ⟨rfl, H.out⟩
end
end Go.Proofs.YtcnkifbjlihaoaaGreatDoor

namespace Go.Proofs.YtcnkifbjlihaoaaGreatDoor
open Go.RowKit Go.Av
theorem yv1' (q : Int → Bool) (l : List Int) : decide (0 ≤ idxQ q l) = l.any q := by
 unfold idxQ
 cases h : yho' q l with
 | none =>
  have := yhp' h
  symm
  rw [show (l.any q) = false from List.any_eq_false.2 fun x hx => by rw [this x hx]; simp]
  rfl
 | some i =>
  obtain ⟨h1, h2⟩ := yhq' h
  have : l.any q = true := by
   cases hb : l.any q with
   | true => rfl
   | false =>
    have hf : (l.take (i + 1)).filter (fun x => !q x) = l.take (i + 1) := List.filter_eq_self.2 fun x hx => by
     have := List.any_eq_false.1 hb x (List.mem_of_mem_take hx)
     simpa using this
    rw [hf] at h2
    have := congrArg List.length h2
    simp at this
    omega
  rw [this]
  simp
theorem ys3' {k : Int} : ∀ {l : List Int} {i : Nat}, idxF k l = some i → i < l.length
 | [], i, h => by cases h
 | x :: r, i, h => by
  rw [ym0'] at h
  by_cases hx : x = k
  ·rw [if_pos hx] at h; cases h; simp
  ·rw [if_neg hx] at h
   cases hr : idxF k r with
   | none => rw [hr] at h; cases h
   | some j =>
    rw [hr] at h
    cases h
    have := ys3' hr
    simp; omega
theorem yr1' (x : Int) (w : World) : Calls Tryz.prog 280 #[.int .i64 x] w fun e w' => e = .returned (.bool (x != 1)) ∧ w' = w := by
 obtain ⟨b, hb⟩ : ∃ b, (x != 1) = b := ⟨_, rfl⟩
 rw [hb]
 go_enter Tryz.func280, Tryz.ntmps280
 go_wp2_with fail
 go_ret
 exact ⟨rfl, rfl⟩
section
variable {w0 w : World} {c m : Nat} {S : CoS} {l1 l2 : List EntG} {g : EntG} {R : List Thing} {rows : List (Value × Bs)}
theorem ylc' (v : Value) (l : List Int) (E : List Nat) (w : World) (h : ReadRow w 1 v (l.map iv) E) :
  Calls Tryz.prog 279 #[v, .func (.func 280) #[] #[]] w fun e w' => e = .returned (.bool (l.any fun x => x != 1)) ∧ w' = w := by
 have hi := yi8' v l (fun x => x != 1) E w h (fun x => yr1' x w)
 obtain ⟨k, hk⟩ : ∃ k, idxQ (fun x => x != 1) l = k := ⟨_, rfl⟩
 have ha := yv1' (fun x => x != 1) l
 rw [hk] at hi ha
 rw [← ha]
 have HI := Lib.hid hi
 clear hi hk ha h
 go_enter Tryz.func279, Tryz.ntmps279
 go_wp2_with fail
 refine HI.out.mono ?_
 rintro e w1 ⟨rfl, rfl⟩
 go_wp2_with fail
 go_ret
 exact ⟨rfl, rfl⟩
def yjs' (l : List Int) : Bool := l.all fun x => x == 1
theorem yu4' (h : CoF w0 w c m l1 g l2 R rows) :
  Calls Tryz.prog 245 #[.pointer (some ⟨g.p, 0, none⟩)] w fun e w' => e = .returned (.bool (yjs' g.x.votes)) ∧ w' = w := by
 obtain ⟨hc, hl, hp⟩ := h.facts
 have c1 := yaa' hp 1 rfl
 obtain ⟨E, hE⟩ := (h.2.perm (List.perm_middle (l₁ := [_, _]))).readRow
 have hw := ylc' _ _ E w hE
 have he : yjs' g.x.votes = !(g.x.votes.any fun x => x != 1) := by
  unfold yjs'
  rw [List.all_eq_not_any_not]
  rfl
 obtain ⟨b, hb⟩ : ∃ b, (g.x.votes.any fun x => x != 1) = b := ⟨_, rfl⟩
 rw [he, hb]
 rw [hb] at hw
 have HW := Lib.hid hw
 clear h hl hp hE hw he hb
 go_enter Tryz.func245, Tryz.ntmps245
 go_wp2_with fail
 refine HW.out.mono ?_
 rintro e w1 ⟨rfl, rfl⟩
 go_wp2_with fail
 go_ret
 exact ⟨rfl, rfl⟩
def yhg' (i : Nat) (ok : Bool) (x : EntS) : EntS :=
 if x.votes.getD i 0 ≠ 0 ∨ x.dec ≠ 0 then x else
  { x with votes := x.votes.set i (if ok then 1 else 2), dec := if ok then (if yjs' (x.votes.set i 1) then 1 else 0) else 2 }
def yoa' (S : CoS) (id k : Int) (ok : Bool) : Int × CoS := match yf1' id S with
 | none => (4, S)
 | some x => match idxF k x.shards with | none => (4, S) | some i => (0, putS id (yhg' i ok) S)
set_option maxRecDepth 100000 in
set_option maxHeartbeats 1000000 in
theorem yxb' (h : Co w0 w c S R rows) (id k : Int) (ok : Bool) :
  Calls Tryz.prog 203 #[.pointer (some ⟨c, 0, none⟩), .int .i64 id, .int .i64 k, .bool ok] w fun e w' => e = .returned (.int .i64 (yoa' S id k ok).1) ∧ Co w0 w' c (yoa' S id k ok).2 R rows := by
 unfold yoa'
 cases hx : yf1' id S with
 | none =>
  have hf := ysw' h id k hx
  have H := Lib.hid h
  have HF := Lib.hid hf
  clear h hx hf
  go_enter Tryz.func203, Tryz.ntmps203
  go_wp2_with fail
  refine HF.out.mono ?_
  rintro e w1 ⟨rfl, rfl⟩
  go_wp2_with fail
  go_ret
  exact ⟨rfl, H.out⟩
 | some x =>
  obtain ⟨m, l1, g, l2, rfl, rfl, hF, -, hSS⟩ := h.take hx
  have hf := ypw' hF k
  unfold idxS at hf
  dsimp only
  cases hi : idxF k g.x.shards with
  | none =>
   rw [hi] at hf
   have H := Lib.hid h
   have HF := Lib.hid hf
   clear h hx hf hF hSS hi
   go_enter Tryz.func203, Tryz.ntmps203
   go_wp2_with fail
   refine HF.out.mono ?_
   rintro e w1 ⟨rfl, rfl⟩
   go_wp2_with fail
   go_ret
   exact ⟨rfl, H.out⟩
  | some i =>
   rw [hi] at hf
   simp only at hf
   have hiv : i < g.x.votes.length := by rw [hF.wf.1]; exact ys3' hi
   have hi4 : g.x.votes.length ≤ 4 := by rw [hF.wf.1]; exact hF.wf.2.1
   obtain ⟨hc, hl, hp⟩ := hF.facts
   have c1 := yaa' hp 1 rfl
   have c2 := yaa' hp 2 rfl
   obtain ⟨y, n, c', hvv, hn, hnc, hcm, hsp, hcell, hfr, hset⟩ := hF.setVote hiv
   have hgd : g.x.votes.getD i 0 = g.x.votes[i] := by rw [List.getD_eq_getElem?_getD, List.getElem?_eq_getElem hiv]; rfl
   have hin : i < n := by omega
   have hSB := hF.back
   rw [← hSS] at hSB
   have c1' : w.cell? ⟨g.p, 1, none⟩ = some (.slice (some y) n c') := by rw [c1, ← hvv]; rfl
   show Calls _ _ _ _ (fun e w' => e = .returned (.int .i64 0) ∧ Co w0 w' c (putS g.id (yhg' i ok) S) R rows)
   by_cases hu : g.x.votes[i] = 0
   case neg =>
    have hput := hF.put (x := g.x) (yhg' i ok) (by unfold yhg'; rw [if_pos (.inl (by rw [hgd]; exact hu))])
    rw [show g.upd g.x = g from rfl, ← hSS] at hput
    rw [← hput]
    obtain ⟨u, huu⟩ : ∃ u, g.x.votes[i] = u := ⟨_, rfl⟩
    rw [huu] at hcell hu
    have hb : (u != 0) = true := by simp [hu]
    have H := Lib.hid hSB
    have HF := Lib.hid hf
    clear h hx hf hF hSS hi hgd hset hput hSB hvv hp c1 hu huu hl
    go_enter Tryz.func203, Tryz.ntmps203
    go_wp2_with fail
    refine HF.out.mono ?_
    rintro e w1 ⟨rfl, rfl⟩
    go_wp2_with fail
    go_ret
    exact ⟨rfl, H.out⟩
   rw [hu] at hcell
   by_cases hd : g.x.dec = 0
   case neg =>
    have hput := hF.put (x := g.x) (yhg' i ok) (by unfold yhg'; rw [if_pos (.inr hd)])
    rw [show g.upd g.x = g from rfl, ← hSS] at hput
    rw [← hput]
    have hb : (g.x.dec != 0) = true := by simp [hd]
    have H := Lib.hid hSB
    have HF := Lib.hid hf
    clear h hx hf hF hSS hi hgd hset hput hSB hvv hp c1 hd hu hl
    go_enter Tryz.func203, Tryz.ntmps203
    go_wp2_with fail
    refine HF.out.mono ?_
    rintro e w1 ⟨rfl, rfl⟩
    go_wp2_with fail
    go_ret
    exact ⟨rfl, H.out⟩
   have hvF : yhg' i ok g.x = { g.x with votes := g.x.votes.set i (if ok then 1 else 2), dec := if ok then (if yjs' (g.x.votes.set i 1) then 1 else 0) else 2 } := by
    unfold yhg'
    rw [if_neg (by rw [hgd]; simp [hu, hd])]
   have c2' : w.cell? ⟨g.p, 2, none⟩ = some (.int .i64 0) := by rw [c2]; simp [hd]
   have F1 := hset 2
   obtain ⟨hc1, -, hp1⟩ := F1.facts
   have c11 : (w.setCell (y.add i) (.int .i64 2)).cell? ⟨g.p, 1, none⟩ = some (.slice (some y) n c') := (yaa' hp1 1 rfl).trans (by rw [← hvv]; rfl)
   have y12 : (w.setCell (y.add i) (.int .i64 2)).frozen? ⟨g.p, 2, none⟩ = false := yad' hp1 2
   have c12 : (w.setCell (y.add i) (.int .i64 2)).cell? ⟨g.p, 2, none⟩ = some (.int .i64 g.x.dec) := yaa' hp1 2 rfl
   cases ok with
   | false =>
    have F2 := (F1.setDec 2).back
    have hput := hF.put (x := { g.x with votes := g.x.votes.set i 2, dec := 2 }) (yhg' i false) (by rw [hvF]; rfl)
    rw [← hSS] at hput
    have H := Lib.hid (show Co w0 _ c (putS g.id (yhg' i false) S) R rows by rw [← hput]; exact F2)
    have HF := Lib.hid hf
    clear h hx hf hF hSS hi hgd hset hput hSB hvv hp c1 hd hu hl F1 F2 hvF c2 hp1
    go_enter Tryz.func203, Tryz.ntmps203
    go_wp2_with fail
    refine HF.out.mono ?_
    rintro e w1 ⟨rfl, rfl⟩
    go_wp2_with fail
    go_ret
    exact ⟨rfl, H.out⟩
   | true =>
    obtain ⟨y2, n2, c2'', hvv2, hn2, -, -, -, hcell2, hfr2, hset2⟩ := F1.setVote (i := i) (by simpa [EntG.upd] using hiv)
    rw [show (g.upd { g.x with votes := g.x.votes.set i 2 }).vv = g.vv from rfl, hvv] at hvv2
    cases hvv2
    have F2 := hset2 1
    obtain ⟨-, -, hp2⟩ := F2.facts
    have c22 : ((w.setCell (y.add i) (.int .i64 2)).setCell (y.add i) (.int .i64 1)).cell? ⟨g.p, 2, none⟩ = some (.int .i64 g.x.dec) := yaa' hp2 2 rfl
    have y22 : ((w.setCell (y.add i) (.int .i64 2)).setCell (y.add i) (.int .i64 1)).frozen? ⟨g.p, 2, none⟩ = false := yad' hp2 2
    have hss : (((g.upd { g.x with votes := g.x.votes.set i 2 }).x.votes).set i 1) = g.x.votes.set i 1 := by simp [EntG.upd, List.set_set]
    have hwh : Calls Tryz.prog 245 #[.pointer (some ⟨g.p, 0, none⟩)] ((w.setCell (y.add i) (.int .i64 2)).setCell (y.add i) (.int .i64 1)) fun e w' => e = .returned (.bool (yjs' (g.x.votes.set i 1))) ∧ w' = ((w.setCell (y.add i) (.int .i64 2)).setCell (y.add i) (.int .i64 1)) := by
     have := yu4' F2
     rw [show ((g.upd { g.x with votes := g.x.votes.set i 2 }).upd { (g.upd { g.x with votes := g.x.votes.set i 2 }).x with votes := (g.upd { g.x with votes := g.x.votes.set i 2 }).x.votes.set i 1 }).x.votes = g.x.votes.set i 1 from hss] at this
     exact this
    cases hww : yjs' (g.x.votes.set i 1) with
    | true =>
     rw [hww] at hwh
     have F3 := (F2.setDec 1).back
     have hput := hF.put (x := { g.x with votes := g.x.votes.set i 1, dec := 1 }) (yhg' i true) (by rw [hvF, hww]; rfl)
     rw [← hSS] at hput
     have H := Lib.hid (show Co w0 _ c (putS g.id (yhg' i true) S) R rows by rw [← hput]; simpa [EntG.upd, EntG.ent, List.set_set] using F3)
     have HF := Lib.hid hf
     have HW := Lib.hid hwh
     clear h hx hf hF hSS hi hgd hset hput hSB hvv hp c1 hd hu hl F1 F2 F3 hvF c2 hp1 hp2 hset2 hss hwh hww hn2
     go_enter Tryz.func203, Tryz.ntmps203
     go_wp2_with fail
     refine HF.out.mono ?_
     rintro e w1 ⟨rfl, rfl⟩
     go_wp2_with fail
     refine HW.out.mono ?_
     rintro e w1 ⟨rfl, rfl⟩
     go_wp2_with fail
     go_ret
     exact ⟨rfl, H.out⟩
    | false =>
     rw [hww] at hwh
     have F3 := F2.back
     have hput := hF.put (x := { g.x with votes := g.x.votes.set i 1, dec := 0 }) (yhg' i true) (by rw [hvF, hww]; rfl)
     rw [← hSS] at hput
     have H := Lib.hid (show Co w0 _ c (putS g.id (yhg' i true) S) R rows by rw [← hput]; simpa [EntG.upd, EntG.ent, List.set_set, hd] using F3)
     have HF := Lib.hid hf
     have HW := Lib.hid hwh
     clear h hx hf hF hSS hi hgd hset hput hSB hvv hp c1 hd hu hl F1 F2 F3 hvF c2 hp1 hp2 hset2 hss hwh hww hn2
     go_enter Tryz.func203, Tryz.ntmps203
     go_wp2_with fail
     refine HF.out.mono ?_
     rintro e w1 ⟨rfl, rfl⟩
     go_wp2_with fail
     refine HW.out.mono ?_
     rintro e w1 ⟨rfl, rfl⟩
     go_wp2_with fail
     go_ret
     exact ⟨rfl, H.out⟩
end
end Go.Proofs.YtcnkifbjlihaoaaGreatDoor

namespace Go.Proofs.YtcnkifbjlihaoaaGreatDoor
open Go.RowKit Go.Av
section
variable {w0 w : World} {c m : Nat} {S : CoS} {l1 l2 : List EntG} {g : EntG} {R : List Thing} {T : Thing} {rows : List (Value × Bs)}
theorem yji' (A B R : List Thing) (T : Thing) : (T :: (A ++ (B ++ R))).Perm (A ++ (B ++ T :: R)) := by
 have := (List.perm_middle (a := T) (l₁ := A ++ B) (l₂ := R)).symm
 simpa [List.append_assoc] using this
theorem Co.newCell (h : Co w0 w c S R rows) (o : Obj) : Co w0 (w.alloc o) c S (yac' w.heap.size o :: R) rows := by
 obtain ⟨m, gs, h1, h2, hS⟩ := h
 exact ⟨m, gs, h1, h2, (hS.newCell o).perm (yji' _ _ _ _)⟩
theorem Co.addR (h : Co w0 w c S R rows) {w' : World} {D' : List Nat} (hu : Upd w w' [] D') (hT : T.P w' D') : Co w0 w' c S (T :: R) rows := by
 obtain ⟨m, gs, h1, h2, hS⟩ := h
 exact ⟨m, gs, h1, h2, (hS.add hu hT).perm (yji' _ _ _ _)⟩
theorem Co.dropR (h : Co w0 w c S (T :: R) rows) : Co w0 w c S R rows := by
 obtain ⟨m, gs, h1, h2, hS⟩ := h
 exact ⟨m, gs, h1, h2, (hS.perm (yji' _ _ _ _).symm).drop⟩
def yoq' (k : Int) (x : EntS) : EntS := { x with owes := x.owes.filter fun y => !decide (y = k) }
def ymu' (S : CoS) (id k : Int) : Int × CoS := match yf1' id S with
 | none => (4, S)
 | some x => match idxF k x.shards with | none => (4, S) | some _ => if x.dec = 0 then (15, S) else (0, putS id (yoq' k) S)
set_option maxRecDepth 100000 in
set_option maxHeartbeats 1000000 in
theorem yvu' (h : Co w0 w c S R rows) (id k : Int) :
  Calls Tryz.prog 204 #[.pointer (some ⟨c, 0, none⟩), .int .i64 id, .int .i64 k] w fun e w' => e = .returned (.int .i64 (ymu' S id k).1) ∧ Co w0 w' c (ymu' S id k).2 R rows := by
 have h0 := h.newCell (.cells #[.int .i64 k] 3 (0, 0))
 have hq0 : w.heap.size < (w.alloc (.cells #[.int .i64 k] 3 (0, 0))).heap.size := by simp
 obtain ⟨q, hq⟩ : ∃ q, q = w.heap.size := ⟨_, rfl⟩
 have hqc : (w.alloc (.cells #[.int .i64 k] 3 (0, 0))).cell? ⟨w.heap.size, 0, none⟩ = some (.int .i64 k) := yaa' (heap_alloc_new w _) 0 rfl
 obtain ⟨w1, hw1⟩ : ∃ w1, w1 = w.alloc (.cells #[.int .i64 k] 3 (0, 0)) := ⟨_, rfl⟩
 unfold ymu'
 cases hx : yf1' id S with
 | none =>
  have hf := ysw' h0 id k hx
  have H := Lib.hid h0
  have HF := Lib.hid hf
  clear h h0 hx hf hq hw1 hq0
  go_enter Tryz.func204, Tryz.ntmps204
  go_wp2_with fail
  refine HF.out.mono ?_
  rintro e w2 ⟨rfl, rfl⟩
  go_wp2_with fail
  go_ret
  exact ⟨rfl, H.out.dropR⟩
 | some x =>
  obtain ⟨m, l1, g, l2, rfl, rfl, hF, -, hSS⟩ := h0.take hx
  have hf := ypw' hF k
  unfold idxS at hf
  dsimp only
  cases hi : idxF k g.x.shards with
  | none =>
   rw [hi] at hf
   have H := Lib.hid h0
   have HF := Lib.hid hf
   clear h h0 hx hf hF hSS hi hq hw1 hq0
   go_enter Tryz.func204, Tryz.ntmps204
   go_wp2_with fail
   refine HF.out.mono ?_
   rintro e w2 ⟨rfl, rfl⟩
   go_wp2_with fail
   go_ret
   exact ⟨rfl, H.out.dropR⟩
  | some i =>
   rw [hi] at hf
   simp only at hf
   obtain ⟨hc, hl, hp⟩ := hF.facts
   have c2 := yaa' hp 2 rfl
   have c3 := yaa' hp 3 rfl
   show Calls _ _ _ _ (fun e w' => e = .returned (.int .i64 (if g.x.dec = 0 then (15, S) else (0, putS g.id (yoq' k) S)).1) ∧ Co w0 w' c (if g.x.dec = 0 then (15, S) else (0, putS g.id (yoq' k) S)).2 R rows)
   by_cases hd : g.x.dec = 0
   ·rw [if_pos hd]
    have c2' : (w.alloc (.cells #[.int .i64 k] 3 (0, 0))).cell? ⟨g.p, 2, none⟩ = some (.int .i64 0) := by rw [c2]; simp [hd]
    have H := Lib.hid h0
    have HF := Lib.hid hf
    clear h h0 hx hf hF hSS hi hq hw1 hq0 c2 c3 hp hl hd
    go_enter Tryz.func204, Tryz.ntmps204
    go_wp2_with fail
    refine HF.out.mono ?_
    rintro e w2 ⟨rfl, rfl⟩
    go_wp2_with fail
    go_ret
    exact ⟨rfl, H.out.dropR⟩
   ·rw [if_neg hd]
    have hd' : (g.x.dec == 0) = false := by simp [hd]
    have hput := hF.put (x := yoq' k g.x) (yoq' k) rfl
    rw [← hSS] at hput
    obtain ⟨R', hrow, hin, hall, hback⟩ := hF.setOwes (fun y => !decide (y = k))
    have hqR : yac' w.heap.size (.cells #[.int .i64 k] 3 (0, 0)) ∈ R' := hall _ k_s
    have hdel := yjw' _ g.x.owes k w.heap.size 3 hrow hqR
    have HF := Lib.hid hf
    have HD := Lib.hid hdel
    have HB := Lib.hid hback
    have HP := Lib.hid hput
    have hmf : ∀ (fn : Fn) (first cap : Array Value) (w : World), (Instr.makeFunc fn first cap).run Tryz.prog w = .ok (.func fn first cap) w := fun _ _ _ _ => rfl
    clear h h0 hx hf hF hSS hi hq hw1 hq0 hp hl hd hput hrow hin hall hback hqR hdel
    go_enter Tryz.func204, Tryz.ntmps204
    go_wp2_with fail
    refine HF.out.mono ?_
    rintro e w2 ⟨rfl, rfl⟩
    go_wp2_with fail
    refine HD.out.mono ?_
    rintro e w3 ⟨v3, rfl, h3⟩
    obtain ⟨a3, n3, cc3, rfl, -⟩ := h3.rowLen
    obtain ⟨hp3, hF3⟩ := HB.out w3 _ h3
    have y3 := yad' hp3 3
    have c3 := yaa' hp3 3 rfl
    have H3 := Lib.hid hF3
    clear h3 hp3 hF3
    go_wp2_with fail
    go_ret
    refine ⟨rfl, ?_⟩
    have := H3.out.back
    rw [show (l1 ++ ({ g with vo := .slice a3 n3 cc3, x := { g.x with owes := g.x.owes.filter fun y => !decide (y = k) } } : EntG) :: l2).map EntG.ent = (l1 ++ g.upd (yoq' k g.x) :: l2).map EntG.ent by simp [EntG.ent, EntG.upd, yoq'], HP.out] at this
    exact this.dropR
end
end Go.Proofs.YtcnkifbjlihaoaaGreatDoor

namespace Go.Proofs.YtcnkifbjlihaoaaGreatDoor
open Go.RowKit Go.Av
theorem yqi' : ∀ (l : List Int) (last : Int), -1 ≤ last → risF last l = true → (l.length : Int) ≤ max 0 (3 - last)
 | [], last, h, _ => by simp; omega
 | x :: r, last, h, hr => by
  rw [ynt'] at hr
  simp only [Bool.and_eq_true, Bool.not_eq_true', Bool.or_eq_false_iff, decide_eq_false_iff_not] at hr
  have := yqi' r x (by omega) hr.2
  simp only [List.length_cons]
  omega
theorem ywp' {l : List Int} (h : risS l = true) : l.length ≤ 4 := by
 have := yqi' l (-1) (Int.le_refl _) h
 omega
theorem yjv' (w : World) (z : Nat) (hz : z ≤ 30000) : OwnRow (w.alloc (.cells (madeCells #[.int .i64 0] z) 3)) 1 (.slice (some ⟨w.heap.size, 0, none⟩) z z) ((List.replicate z (0 : Int)).map iv) [w.heap.size] :=
 OwnRow.made w 3 1 z z (madeCells #[.int .i64 0] z) _ (by simp) (Nat.le_refl _) (by unfold maxLen; omega) (by rw [size_madeCells]; omega) (by
  rw [toList_madeCells_one, Nat.mul_one, List.take_of_length_le (by simp), List.map_replicate]
  rfl)
section
variable {w0 w : World} {c m : Nat} {S : CoS} {l1 l2 : List EntG} {g : EntG} {R : List Thing} {T : Thing} {rows : List (Value × Bs)}
theorem Co.permR (h : Co w0 w c S R rows) {R' : List Thing} (hp : R.Perm R') : Co w0 w c S R' rows := by
 obtain ⟨m, gs, h1, h2, hS⟩ := h
 exact ⟨m, gs, h1, h2, hS.perm (List.Perm.append_left _ (List.Perm.append_left _ hp))⟩
theorem Co.begun {p : Nat} {vs vv vo : Value} {x : EntS} (h : Co w0 w c S (yac' p (.cells #[vs, vv, .int .i64 x.dec, vo] 220 (0, 0)) :: yai' 1 vs (x.shards.map iv) :: yai' 1 vv (x.votes.map iv) :: yai' 1 vo (x.owes.map iv) :: R) rows)
  {id : Int} (hn : yf1' id S = none) (hx : x.wf) (hi1 : 1 ≤ id) (hi2 : id ≤ 9223372036854775807) : ∃ m w', w.cell? ⟨c, 0, none⟩ = some (.map (some m)) ∧
   (Instr.mapUpdate 214 (.map (some m)) (.int .i64 id) (.pointer (some ⟨p, 0, none⟩))).run Tryz.prog w = .ok () w' ∧ w'.cell? ⟨c, 0, none⟩ = some (.map (some m)) ∧ Co w0 w' c (S ++ [(id, x)]) R rows := by
 obtain ⟨m, gs, rfl, hwf, hS⟩ := h
 have hno := ygx' hn
 have hc := hS.block (b := c) (o := .cells #[.map (some m)] 216 (0, 0)) (by simp [yeb'])
 have h2 := hS.perm (List.perm_middle (l₁ := [_]))
 obtain ⟨w', hrun, hM, hU⟩ := ytn' (P := Tryz.prog) h2.mapIs Tryz.underlying214 Tryz.underlying2 (key := .int .i64 id) (v := .pointer (some ⟨p, 0, none⟩)) (show MapKept.IsKey (.int .i64) (.int .i64 id) from rfl) (fun q hq e => by
  obtain ⟨g, hg, rfl⟩ := List.mem_map.1 hq
  unfold EntG.kv at e
  simp only [Value.int.injEq, true_and] at e
  exact hno (g.ent) (List.mem_map_of_mem hg) e)
 have h3 := (h2.mapTo hU hM).perm (List.perm_middle (l₁ := [_])).symm
 have hc' := h3.block (b := c) (o := .cells #[.map (some m)] 216 (0, 0)) (by simp [yeb'])
 refine ⟨m, w', yaa' hc 0 rfl, hrun, yaa' hc' 0 rfl, m, gs ++ [⟨id, p, vs, vv, vo, x⟩], by simp [EntG.ent], fun e he => ?_, ?_⟩
 ·rcases List.mem_append.1 he with he | he
  ·exact hwf e he
  ·rw [List.mem_singleton.1 he]; exact ⟨hx, hi1, hi2⟩
 ·simpa [yeb', EntG.kv, EntG.th] using h3
def newE (l : List Int) : EntS := { shards := l, votes := List.replicate l.length 0, dec := 0, owes := l }
theorem yzg' {l : List Int} (h : l.length ≤ 4) : (newE l).wf := ⟨by simp [newE], h, h⟩
def yic' (S : CoS) (id : Int) (l : List Int) : Int × CoS :=
 if id < 1 ∨ l.length = 0 ∨ risS l = false then (1, S) else match yf1' id S with | some _ => (5, S) | none => (0, S ++ [(id, newE l)])
set_option maxRecDepth 100000 in
set_option maxHeartbeats 2000000 in
theorem ysd' (h : Co w0 w c S R rows) (id : Int) (v : Value) (l : List Int) (E : List Nat) (hid : id ≤ 9223372036854775807) (hv : ReadRow w 1 v (l.map iv) E) :
  Calls Tryz.prog 202 #[.pointer (some ⟨c, 0, none⟩), .int .i64 id, v] w fun e w' => e = .returned (.int .i64 (yic' S id l).1) ∧ Co w0 w' c (yic' S id l).2 R rows := by
 obtain ⟨a, n, cv, rfl, hln, hnc, hcm, -⟩ := _root_.id hv
 rw [List.length_map, Nat.mul_one] at hln
 subst hln
 unfold maxLen at hcm
 have hri := yrq' _ l E w hv
 unfold yic'
 by_cases h1 : id < 1
 ·rw [if_pos (.inl h1)]
  have H := Lib.hid h
  clear h hv hri
  go_enter Tryz.func202, Tryz.ntmps202
  go_wp2_with fail
  go_ret
  exact ⟨rfl, H.out⟩
 by_cases h2 : l.length = 0
 ·rw [if_pos (.inr (.inl h2))]
  have b2 : ((l.length : Int) == 0) = true := beq_iff_eq.2 (by omega)
  have H := Lib.hid h
  clear h hv hri h2
  go_enter Tryz.func202, Tryz.ntmps202
  go_wp2_with fail
  go_ret
  exact ⟨rfl, H.out⟩
 have b2 : ((l.length : Int) == 0) = false := beq_eq_false_iff_ne.2 (by omega)
 cases hr : risS l with
 | false =>
  rw [if_pos (.inr (.inr rfl))]
  rw [hr] at hri
  have H := Lib.hid h
  have HR := Lib.hid hri
  clear h hv hri h2 hr
  go_enter Tryz.func202, Tryz.ntmps202
  go_wp2_with fail
  refine HR.out.mono ?_
  rintro e w1 ⟨rfl, rfl⟩
  go_wp2_with fail
  go_ret
  exact ⟨rfl, H.out⟩
 | true =>
 rw [if_neg (by simp [h1, h2])]
 rw [hr] at hri
 have hl4 := ywp' hr
 cases hx : yf1' id S with
 | some x =>
  obtain ⟨m, l1, g, l2, rfl, rfl, hF, -, hSS⟩ := h.take hx
  obtain ⟨hc, hl, hp⟩ := hF.facts
  have hl := hl w rfl
  have H := Lib.hid h
  have HR := Lib.hid hri
  clear h hv hri h2 hr hF hSS hp hx
  go_enter Tryz.func202, Tryz.ntmps202
  go_wp2_with fail
  refine HR.out.mono ?_
  rintro e w1 ⟨rfl, rfl⟩
  go_wp2_with fail
  go_ret
  exact ⟨rfl, H.out⟩
 | none =>
  obtain ⟨m, hc, hl⟩ := h.absent hx
  have hl := hl w rfl
  have H := Lib.hid h
  have HR := Lib.hid hri
  have HV := Lib.hid hv
  have HX := Lib.hid hx
  have hmk := fun W => run_make_row' (P := Tryz.prog) 68 3 (.int .i64 0) 8 Tryz.underlying68 yy3' rfl .i64 .i64 l.length (by omega) (by omega) W
  clear h hv hri h2 hr hx
  go_enter Tryz.func202, Tryz.ntmps202
  go_wp2_with fail
  refine HR.out.mono ?_
  rintro e w1 ⟨rfl, rfl⟩
  go_wp2_with fail
  refine yaq' (fun W => W.cell? ⟨c, 0, none⟩ = some (.map (some m))) 15 (by kernel_rfl) ?_
  refine rT [(0, false), (1, false), (2, false), (3, true), (4, false), (5, false), (7, false), (8, false), (10, false)] 6 ?_
  apply Exists.intro; refine ⟨?_, hc, ?_⟩
  ·iterate 9 ((first | (apply ycn'; (· (simp only [k_i, k_j, k_k]; try rfl)); (· rfl)) | ((first | apply ya5' | apply yay'); (· (simp only [k_i, k_j, k_k]; try rfl)); (· rfl); (· (intros; go_simp; try with_reducible rfl)))); (· (simp only [Act.put, k_a, k_b, k_c]; try rfl)))
   exact rfl
  obtain ⟨w10, hw10⟩ : ∃ x, x = w1.drew := ⟨_, rfl⟩
  have k10 : w10.cell? ⟨c, 0, none⟩ = some (.map (some m)) := by rw [hw10]; exact hc
  have HV10 := Lib.hid (show ReadRow w10 1 (.slice a l.length cv) (l.map iv) E by rw [hw10]; exact HV.out.frame (fun _ _ => rfl))
  have HC10 := Lib.hid (show Co w0 w10 c S R rows by rw [hw10]; exact H.out.keep (Upd.refl w1 []).drew)
  rw [← hw10]
  clear hw10 hc hl H HV
  refine yd7' (fuel := 5) [6, 9] (by kernel_rfl) (by simp) (fun i hi => ?_)
  simp only [List.mem_cons, List.not_mem_nil, or_false] at hi
  rcases hi with rfl | rfl
  case' inr =>
   refine ⟨_, by rfl, fun K hK => ?_⟩
   have hzr := yjv' w10 l.length (by omega)
   have hzu := Upd.alloc1 w10 (.cells (madeCells #[.int .i64 0] l.length) 3) []
   have k11 := yax' hzu k10
   have HV11 := Lib.hid (HV10.out.frame (hzu.same HV10.out.lt (by simp)))
   have HC11 := Lib.hid (HC10.out.addR (T := yai' 1 (.slice (some ⟨w10.heap.size, 0, none⟩) l.length l.length) ((List.replicate l.length 0).map iv)) hzu hzr)
   clear hzr hzu
   go_wp2_with fail
   obtain ⟨z, hz⟩ : ∃ z, z = w10.heap.size := ⟨_, rfl⟩
   obtain ⟨w11, hw⟩ : ∃ x, x = w10.alloc (.cells (madeCells #[.int .i64 0] l.length) 3) := ⟨_, rfl⟩
   rw [← hw, ← hz] at HC11 ⊢
   rw [← hw] at HV11 k11
   clear hw hz
   refine hK _ _ k11 ?_
   clear hK
   refine ybd' (fuel := 4) (i := 6) (by kernel_rfl) (by rfl) (fun K hK => ?_)
   go_wp2_with fail
   refine (yem' _ l E _ HV11.out (by omega)).mono ?_
   rintro e w12 ⟨va, Da, rfl, ho, hu⟩
   obtain ⟨aa, na, ca, rfl, -⟩ := ho.len
   have k12 := yax' hu k11
   have HV12 := Lib.hid (HV11.out.frame (hu.same HV11.out.lt (by simp)))
   have HC12 := Lib.hid (HC11.out.addR (T := yai' 1 (.slice aa na ca) (l.map iv)) hu ho)
   clear hu ho
   go_wp2_with fail
   refine hK _ _ k12 ?_
   clear hK
   refine ybd' (fuel := 3) (i := 11) (by kernel_rfl) (by rfl) (fun K hK => ?_)
   go_wp2_with fail
   refine (yem' _ l E _ HV12.out (by omega)).mono ?_
   rintro e w13 ⟨vb, Db, rfl, ho, hu⟩
   obtain ⟨ab, nb, cb, rfl, -⟩ := ho.len
   have k13 := yax' hu k12
   have HV13 := Lib.hid (HV12.out.frame (hu.same HV12.out.lt (by simp)))
   have HC13 := Lib.hid (HC12.out.addR (T := yai' 1 (.slice ab nb cb) (l.map iv)) hu ho)
   clear hu ho
   go_wp2_with fail
   refine hK _ _ k13 ?_
   clear hK
   have HC := Lib.hid (show Co w0 w13 c S (yai' 1 (.slice aa na ca) (l.map iv) :: yai' 1 (.slice (some ⟨z, 0, none⟩) l.length l.length) ((List.replicate l.length 0).map iv) :: yai' 1 (.slice ab nb cb) (l.map iv) :: R) rows from HC13.out.permR ((List.Perm.swap _ _ _).trans ((List.Perm.cons _ (List.Perm.swap _ _ _)))))
   clear HC10 HC11 HC12 HC13 HV10 HV11 HV12 HV13
  case' inl =>
   refine ⟨_, by rfl, fun K hK => ?_⟩
   go_wp2_with fail
   refine (yem' _ l E _ HV10.out (by omega)).mono ?_
   rintro e w11 ⟨va, Da, rfl, ho, hu⟩
   obtain ⟨aa, na, ca, rfl, -⟩ := ho.len
   have k11 := yax' hu k10
   have HV11 := Lib.hid (HV10.out.frame (hu.same HV10.out.lt (by simp)))
   have HC11 := Lib.hid (HC10.out.addR (T := yai' 1 (.slice aa na ca) (l.map iv)) hu ho)
   clear hu ho
   go_wp2_with fail
   refine hK _ _ k11 ?_
   clear hK
   refine yd7' (fuel := 4) [9, 11] (by kernel_rfl) (by simp) (fun i hi => ?_)
   simp only [List.mem_cons, List.not_mem_nil, or_false] at hi
   rcases hi with rfl | rfl
   case' inl =>
    refine ⟨_, by rfl, fun K hK => ?_⟩
    have hzr := yjv' w11 l.length (by omega)
    have hzu := Upd.alloc1 w11 (.cells (madeCells #[.int .i64 0] l.length) 3) []
    have k12 := yax' hzu k11
    have HV12 := Lib.hid (HV11.out.frame (hzu.same HV11.out.lt (by simp)))
    have HC12 := Lib.hid (HC11.out.addR (T := yai' 1 (.slice (some ⟨w11.heap.size, 0, none⟩) l.length l.length) ((List.replicate l.length 0).map iv)) hzu hzr)
    clear hzr hzu
    go_wp2_with fail
    obtain ⟨z, hz⟩ : ∃ z, z = w11.heap.size := ⟨_, rfl⟩
    obtain ⟨w12, hw⟩ : ∃ x, x = w11.alloc (.cells (madeCells #[.int .i64 0] l.length) 3) := ⟨_, rfl⟩
    rw [← hw, ← hz] at HC12 ⊢
    rw [← hw] at HV12 k12
    clear hw hz
    refine hK _ _ k12 ?_
    clear hK
    refine ybd' (fuel := 3) (i := 11) (by kernel_rfl) (by rfl) (fun K hK => ?_)
    go_wp2_with fail
    refine (yem' _ l E _ HV12.out (by omega)).mono ?_
    rintro e w13 ⟨vb, Db, rfl, ho, hu⟩
    obtain ⟨ab, nb, cb, rfl, -⟩ := ho.len
    have k13 := yax' hu k12
    have HV13 := Lib.hid (HV12.out.frame (hu.same HV12.out.lt (by simp)))
    have HC13 := Lib.hid (HC12.out.addR (T := yai' 1 (.slice ab nb cb) (l.map iv)) hu ho)
    clear hu ho
    go_wp2_with fail
    refine hK _ _ k13 ?_
    clear hK
    have HC := Lib.hid (show Co w0 w13 c S (yai' 1 (.slice aa na ca) (l.map iv) :: yai' 1 (.slice (some ⟨z, 0, none⟩) l.length l.length) ((List.replicate l.length 0).map iv) :: yai' 1 (.slice ab nb cb) (l.map iv) :: R) rows from HC13.out.permR ((List.perm_middle (l₁ := [_, _]) (l₂ := R)).symm.trans ((List.Perm.swap _ _ _))))
    clear HC10 HC11 HC12 HC13 HV10 HV11 HV12 HV13
   case' inr =>
    refine ⟨_, by rfl, fun K hK => ?_⟩
    go_wp2_with fail
    refine (yem' _ l E _ HV11.out (by omega)).mono ?_
    rintro e w12 ⟨vb, Db, rfl, ho, hu⟩
    obtain ⟨ab, nb, cb, rfl, -⟩ := ho.len
    have k12 := yax' hu k11
    have HV12 := Lib.hid (HV11.out.frame (hu.same HV11.out.lt (by simp)))
    have HC12 := Lib.hid (HC11.out.addR (T := yai' 1 (.slice ab nb cb) (l.map iv)) hu ho)
    clear hu ho
    go_wp2_with fail
    refine hK _ _ k12 ?_
    clear hK
    refine ybd' (fuel := 3) (i := 9) (by kernel_rfl) (by rfl) (fun K hK => ?_)
    have hzr := yjv' w12 l.length (by omega)
    have hzu := Upd.alloc1 w12 (.cells (madeCells #[.int .i64 0] l.length) 3) []
    have k13 := yax' hzu k12
    have HV13 := Lib.hid (HV12.out.frame (hzu.same HV12.out.lt (by simp)))
    have HC13 := Lib.hid (HC12.out.addR (T := yai' 1 (.slice (some ⟨w12.heap.size, 0, none⟩) l.length l.length) ((List.replicate l.length 0).map iv)) hzu hzr)
    clear hzr hzu
    go_wp2_with fail
    obtain ⟨z, hz⟩ : ∃ z, z = w12.heap.size := ⟨_, rfl⟩
    obtain ⟨w13, hw⟩ : ∃ x, x = w12.alloc (.cells (madeCells #[.int .i64 0] l.length) 3) := ⟨_, rfl⟩
    rw [← hw, ← hz] at HC13 ⊢
    rw [← hw] at HV13 k13
    clear hw hz
    refine hK _ _ k13 ?_
    clear hK
    have HC := Lib.hid (show Co w0 w13 c S (yai' 1 (.slice aa na ca) (l.map iv) :: yai' 1 (.slice (some ⟨z, 0, none⟩) l.length l.length) ((List.replicate l.length 0).map iv) :: yai' 1 (.slice ab nb cb) (l.map iv) :: R) rows from HC13.out.permR (List.perm_middle (l₁ := [_, _]) (l₂ := R)))
    clear HC10 HC11 HC12 HC13 HV10 HV11 HV12 HV13
  all_goals
   refine rT [(12, false)] 2 ?_
   apply Exists.intro; refine ⟨?_, k13, ?_⟩
   ·iterate 1 ((first | (apply ycn'; (· (simp only [k_i, k_j, k_k]; try rfl)); (· rfl)) | ((first | apply ya5' | apply yay'); (· (simp only [k_i, k_j, k_k]; try rfl)); (· rfl); (· (intros; go_simp; try with_reducible rfl)))); (· (simp only [Act.put, k_a, k_b, k_c]; try rfl)))
    exact rfl
   have h14 := HC.out.newCell (.cells #[.slice aa na ca, .slice (some ⟨z, 0, none⟩) l.length l.length, .int .i64 0, .slice ab nb cb] 220 (0, 0))
   have k14 := yax' (Upd.alloc0 w13 (.cells #[.slice aa na ca, .slice (some ⟨z, 0, none⟩) l.length l.length, .int .i64 0, .slice ab nb cb] 220 (0, 0)) []) k13
   obtain ⟨m', w15, hm', hrun, k15, hC15⟩ := h14.begun (x := newE l) HX.out (yzg' hl4) (by omega) hid
   have e := k14.symm.trans hm'
   cases e
   have H15 := Lib.hid hC15
   clear h14 hm' hC15 HC
   refine ybd' (fuel := 1) (i := 13) (by kernel_rfl) (by rfl) (fun K hK => ?_)    -- box
   go_wp2_with fail
   refine hK _ _ k14 ?_
   clear hK
   refine ybd' (fuel := 0) (i := 14) (by kernel_rfl) (by rfl) (fun K hK => ?_)    -- mapUpdate
   go_wp2_with fail
   refine hK _ _ k15 ?_
   clear hK
   refine yaf' (by kernel_rfl) ?_ _
   go_wp2_with fail
   go_ret
   exact ⟨rfl, H15.out⟩
end
end Go.Proofs.YtcnkifbjlihaoaaGreatDoor

namespace Go.Proofs.YtcnkifbjlihaoaaGreatDoor
open Go.RowKit Go.Av
structure OutS where
 kind : Int
 id : Int
 reply : ReplyS
 err : Int
 at_ : Int
 rs : List ResS
 yes : Bool
def ye1' : ReplyS := ⟨0, 0, 0, 0, []⟩
def badO : OutS := ⟨0, 0, ye1', 3, 0, [], false⟩
structure ShardS where
 p : PartS
 c : CoS
 played : Int
 known : List (Bs × OutS)
def ylk' (b : Bs) : Int × Int × Rd := ((i64R (b, false)).1, (i64R (i64R (b, false)).2).1, (i64R (i64R (b, false)).2).2)
def rawC (b : Bs) : CmdS × Rd × Bool :=
 let k := (ylk' b).1
 let id := (ylk' b).2.1
 let d := (ylk' b).2.2
 if k = 1 then (⟨k, id, 0, (yc3' (ybq' 40000 d).1).1, (yc3' (ybq' 40000 d).1).2.1, (yc3' (ybq' 40000 d).1).2.2, [], 0, false⟩, (ybq' 40000 d).2, (getR (ybq' 40000 d).1).isNone)
 else if k = 2 then (⟨k, id, (i64R d).1, (yc3' (ybq' 40000 (shR (i64R d).2).2).1).1, (yc3' (ybq' 40000 (shR (i64R d).2).2).1).2.1, (yc3' (ybq' 40000 (shR (i64R d).2).2).1).2.2, (shR (i64R d).2).1, 0, false⟩, (ybq' 40000 (shR (i64R d).2).2).2, (getR (ybq' 40000 (shR (i64R d).2).2).1).isNone)
 else if k = 3 then (⟨k, id, (i64R d).1, 0, 0, [], (shR (i64R d).2).1, 0, false⟩, (shR (i64R d).2).2, false)
 else if k = 4 then (⟨k, id, 0, 0, 0, [], [], 0, (cntR 1 d).1 == 1⟩, (cntR 1 d).2, false)
 else if k = 5 then (⟨k, id, 0, 0, 0, [], (shR d).1, 0, false⟩, (shR d).2, false)
 else if k = 6 then (⟨k, id, 0, 0, 0, [], [], (cntR 3 d).1, (cntR 1 (cntR 3 d).2).1 == 1⟩, (cntR 1 (cntR 3 d).2).2, false)
 else if k = 7 then (⟨k, id, 0, 0, 0, [], [], (cntR 3 d).1, false⟩, (cntR 3 d).2, false)
 else (⟨k, id, 0, 0, 0, [], [], 0, false⟩, d, false)
def getC (b : Bs) : Option CmdS := if (rawC b).2.2 = false ∧ endR (rawC b).2.1 = true ∧ putC (rawC b).1 = b then some (rawC b).1 else none
def doC (S : ShardS) (c : CmdS) : OutS × ShardS :=
 if c.kind = 1 then (⟨c.kind, c.id, (ybg' S.p c.rs c.rn c.ops).1, 0, 0, [], false⟩, { S with p := (ybg' S.p c.rs c.rn c.ops).2 })
 else if c.kind = 2 then (⟨c.kind, c.id, ye1', (ydf' S.p c.id c.sess c.ops).1.1, (ydf' S.p c.id c.sess c.ops).1.2, [], false⟩, { S with p := (ydf' S.p c.id c.sess c.ops).2 })
 else if c.kind = 3 then (⟨c.kind, c.id, ye1', (ycl' S.p c.id c.sess).1, -1, [], false⟩, { S with p := (ycl' S.p c.id c.sess).2 })
 else if c.kind = 4 then (⟨c.kind, c.id, ye1', (ya9' S.p c.id c.yes).1.2, 0, (ya9' S.p c.id c.yes).1.1, false⟩, { S with p := (ya9' S.p c.id c.yes).2 })
 else if c.kind = 5 then (⟨c.kind, c.id, ye1', (yic' S.c c.id c.shards).1, 0, [], false⟩, { S with c := (yic' S.c c.id c.shards).2 })
 else if c.kind = 6 then (⟨c.kind, c.id, ye1', (yoa' S.c c.id c.shard c.yes).1, 0, [], false⟩, { S with c := (yoa' S.c c.id c.shard c.yes).2 })
 else if c.kind = 7 then (⟨c.kind, c.id, ye1', (ymu' S.c c.id c.shard).1, 0, [], false⟩, { S with c := (ymu' S.c c.id c.shard).2 })
 else (⟨c.kind, c.id, ye1', (yf3' S.c c.id).2.1, 0, [], (yf3' S.c c.id).1⟩, { S with c := (yf3' S.c c.id).2.2 })
def ygw' (b : Bs) (K : List (Bs × OutS)) : Option OutS := (K.find? fun e => decide (e.1 = b)).map (·.2)
def yav' (S : ShardS) (b : Bs) : OutS × ShardS := match getC b with
 | none => (badO, { S with played := S.played + 1 })
 | some c => match ygw' b S.known with
  | some o => (o, { S with played := S.played + 1 })
  | none => ((doC { S with played := S.played + 1 } c).1, { (doC { S with played := S.played + 1 } c).2 with known := S.known ++ [(b, (doC { S with played := S.played + 1 } c).1)] })
def ycm' : List Bs → ShardS → List OutS × ShardS
 | [], S => ([], S)
 | b :: l, S => ((yav' S b).1 :: (ycm' l (yav' S b).2).1, (ycm' l (yav' S b).2).2)
def ycy' (room : Int) : ShardS := ⟨newP room, [], 0, []⟩
end Go.Proofs.YtcnkifbjlihaoaaGreatDoor

namespace Go.Av
open Go.RowKit
def y01' (p : ByteArray) (flags : Int) : OpS := ⟨1, p, ⟨#[]⟩, 0, flags⟩
end Go.Av
namespace Go.Proofs.YtcnkifbjlihaoaaGreatDoor
open Go.RowKit Go.Av
section
variable {w0 w : World} {R : List Thing} {rows : List (Value × Bs)}
def opA : OpS := y01' ⟨#[47, 97]⟩ 0
theorem yzs' {P : List PRow} {w0 w : World} {R : List Thing} {rows : List (Value × Bs)} {K : Nat} {a : Option Addr} {n c : Nat} {x : Value} {xs : List Value} (h : Sep w0 w (yab' w0 P :: R) rows) (hm : (K, Value.slice a n c, x :: xs) ∈ P) : ∃ g off, a = some ⟨g, off, none⟩ ∧ ∀ i v, (x :: xs)[i]? = some v → w.cell? ⟨g, off + i, none⟩ = some v := by
 obtain ⟨E, hE⟩ := h.poolGet hm
 obtain ⟨a', n', c', e, hl, hn, hc, ha, hr⟩ := hE
 rcases hr with ⟨h0, _⟩ | ⟨g, off, e2, _, _, hcell⟩
 ·cases h0
 ·injection e with e1 _ _
  subst e1
  exact ⟨g, off, e2, hcell⟩
end
end Go.Proofs.YtcnkifbjlihaoaaGreatDoor

namespace Go.Av
open Go.RowKit
section
variable {P : Program} {w : World}
theorem yua' {K n c off g i f : Nat} {xs : List Value} {v : Value} {E : List Nat} {ty : TypeId} (h : ReadRow w K (.slice (some ⟨g, off, none⟩) n c) xs E) (hs : yd4' P ty = true) (hv : xs[i * K + f]? = some v) :
  (Instr.loadAt ty (.pointer (some ⟨g, off + i * K + f, none⟩))).run P w = .ok v w := by
 obtain ⟨a', n', c', e, hl, hn, hc, ha, hr⟩ := h
 cases e
 rcases hr with ⟨rfl, _⟩ | ⟨g', off', e, rfl, hlt, hcell⟩
 ·cases hv
 ·injection e with e
  injection e with e1 e2
  subst e1 e2
  rw [Nat.add_assoc]
  exact yae' hs (hcell _ v hv)
theorem ywq' {K n c off g i f m : Nat} {xs vs : List Value} {E : List Nat} {ty : TypeId} (h : ReadRow w K (.slice (some ⟨g, off, none⟩) n c) xs E) (hs : StructN P ty m) (hm : vs.length = m) (hne : vs ≠ []) (hv : ∀ j v, vs[j]? = some v → xs[i * K + f + j]? = some v) :
  (Instr.loadAt ty (.pointer (some ⟨g, off + i * K + f, none⟩))).run P w = .ok (.agg vs.toArray) w := by
 obtain ⟨a', n', c', e, hl, hn, hc, ha, hr⟩ := h
 cases e
 have h1 := hs.1
 unfold yge' at h1
 rw [Bool.and_eq_true] at h1
 obtain ⟨h1, h2⟩ := h1
 cases hi0 : P.info? ty with
 | none => simp [hi0] at h2
 | some ii =>
  simp only [hi0, beq_iff_eq] at h2
  cases hu : P.underlying ty with
  | none => simp [hu] at h1
  | some d =>
   refine run_loadAt_mid w g (off + i * K + f) ty _ d (fun j v hj => ?_) hu (by rw [hu] at h1; cases d <;> simp_all) (by rw [hi0, hm]; simpa using h2)
   have hq := hv j v hj
   rcases hr with ⟨rfl, _⟩ | ⟨g', off', e, rfl, hlt, hcell⟩
   ·cases hq
   ·injection e with e
    injection e with e1 e2
    subst e1 e2
    have := hcell _ v hq
    rw [show off + i * K + f + j = off + (i * K + f + j) by omega]
    exact this
end
inductive EntL (P : List PRow) : NoL → List Value → Prop
 | nil : EntL P [] []
 | cons {p : Bs} {n : NodeS} {nv : Value} {l : NoL} {xs : List Value} : (1, nv, n.names.map sv) ∈ P → EntL P l xs → EntL P ((p, n) :: l) (sv p :: (n.cells nv).toList ++ xs)
theorem EntL.mono {P P' : List PRow} {l : NoL} {xs : List Value} (h : EntL P l xs) (hP : ∀ r ∈ P, r ∈ P') : EntL P' l xs := by
 induction h with
 | nil => exact .nil
 | cons h1 _ ih => exact .cons (hP _ h1) ih
theorem EntL.len {P : List PRow} {l : NoL} {xs : List Value} (h : EntL P l xs) : xs.length = l.length * 11 := by
 induction h with
 | nil => rfl
 | cons _ _ ih => simp only [List.length_append, List.length_cons, ih]; simp [NodeS.cells]; omega
theorem EntL.snoc {P : List PRow} {l : NoL} {xs : List Value} {p : Bs} {n : NodeS} {nv : Value} (h : EntL P l xs) (hr : (1, nv, n.names.map sv) ∈ P) : EntL P (l ++ [(p, n)]) (xs ++ sv p :: (n.cells nv).toList) := by
 induction h with
 | nil => simpa using EntL.cons (p := p) hr EntL.nil
 | cons h1 _ ih =>
  rw [List.cons_append, List.append_assoc]
  exact .cons h1 ih
theorem EntL.at {P : List PRow} {l : NoL} {xs : List Value} (h : EntL P l xs) : ∀ {i : Nat} (hi : i < l.length), ∃ nv, (1, nv, l[i].2.names.map sv) ∈ P ∧ ∀ j v, (sv l[i].1 :: (l[i].2.cells nv).toList)[j]? = some v → xs[i * 11 + j]? = some v := by
 induction h with
 | nil => intro i hi; simp at hi
 | @cons p n nv l xs h1 h2 ih =>
  intro i hi
  cases i with
  | zero =>
   refine ⟨nv, h1, fun j v hv => ?_⟩
   have hj : j < (sv p :: (n.cells nv).toList).length := (List.getElem?_eq_some_iff.1 hv).1
   rw [Nat.zero_mul, Nat.zero_add, List.getElem?_append_left hj]
   exact hv
  | succ i =>
   obtain ⟨nv', h3, h4⟩ := ih (i := i) (by simpa using hi)
   refine ⟨nv', h3, fun j v hv => ?_⟩
   have hl : (sv p :: (n.cells nv).toList).length = 11 := rfl
   rw [List.getElem?_append_right (by rw [hl]; omega), hl, show (i + 1) * 11 + j - 11 = i * 11 + j by omega]
   exact h4 j v hv
end Go.Av
namespace Go.Proofs.YtcnkifbjlihaoaaGreatDoor
open Go.RowKit Go.Av
theorem sn_rnode : StructN Tryz.prog 167 10 := ⟨by kernel_rfl⟩
theorem sn_rtree : StructN Tryz.prog 126 2 := ⟨by kernel_rfl⟩
theorem sn_rent : StructN Tryz.prog 169 11 := ⟨by kernel_rfl⟩
theorem z_rnode : yd8' Tryz.prog 167 #[.int .i64 0, .int .i64 0, .int .i64 0, .int .i64 0, .int .i64 0, .int .i64 0, .int .i64 0, .string ⟨#[]⟩, .int .i64 0, .slice none 0 0] := by unfold yd8'; kernel_rfl
theorem sl_ent : SliceN Tryz.prog 124 169 11 120 := .of Tryz.underlying124 (by kernel_rfl)
section
variable {w0 w : World} {b : Nat} {S : TreeS} {P P' : List PRow} {R : List Thing} {rows : List (Value × Bs)}
end
end Go.Proofs.YtcnkifbjlihaoaaGreatDoor

namespace Go.Proofs.YtcnkifbjlihaoaaGreatDoor
open Go.RowKit Go.Av
section
variable {w0 w : World} {P P' : List PRow} {R : List Thing} {rows : List (Value × Bs)}
end
end Go.Proofs.YtcnkifbjlihaoaaGreatDoor

namespace Go.Av
open Go.RowKit
section
variable {P : Program} {w0 w : World} {R Ts Ts' : List Thing} {rows : List (Value × Bs)} {Pl : List PRow}
end
section
variable {P : Program} {ops : Array Oper} {Q : Exit → Act → World → Prop} {a : Act} {w w0 : World} {rest : List Oper} {Ts Ts' : List Thing} {rows : List (Value × Bs)} {dst : Option Tmp} {tyy t e : TypeId} {pos : String} {aft : Array Edge}
theorem yz0' (H : Hid (Sep w0 w Ts rows)) {K by_ : Nat} (hsl : SliceN P t e K by_)
  (k : ∀ w' b, Hid (Sep w0 w' (yai' K (.slice (some ⟨b, 0, none⟩) 0 0) [] :: Ts) rows) → wpList P ops Q rest (a.put dst (.slice (some ⟨b, 0, none⟩) 0 0)) w') : wpList P ops Q (⟨dst, .buildSlice t 0 #[], tyy, pos, aft, none⟩ :: rest) a w := by
 obtain ⟨ii, z, hi, hz, hsz, hzs, -⟩ := hsl.info
 have hr : (Instr.buildSlice t 0 #[]).run P w = .ok (.slice (some ⟨w.heap.size, 0, none⟩) 0 0) (w.alloc (.cells #[] e)) := by
  simp [Instr.buildSlice, Sem.run_bind, run_underlying hsl.ut, sizeOf, typeInfo, hi, newRow, Instr.fill]
  have h0 : Array.range 0 = #[] := Array.eq_empty_of_size_eq_zero (by simp)
  rw [h0, Array.map_empty]
 have h0 : Sep w0 (w.alloc (.cells (([] : List Value).toArray) e)) (yac' w.heap.size (.cells (([] : List Value).toArray) e (0, 0)) :: Ts) rows := H.out.newCell _
 have hk := k (w.alloc (.cells #[] e)) w.heap.size (Lib.hid (Sep.cellRow (K := K) (n := 0) h0 (by simp) (by omega)))
 refine ycd' (w' := w.alloc (.cells #[] e)) (v := .slice (some ⟨w.heap.size, 0, none⟩) 0 0) ?_ ?_ hk
 ·simp [Region.wanted]
 ·unfold execOp
  dsimp only
  rw [Array.map_empty]
  exact yct' hr
theorem yzy' (H : Hid (Sep w0 w Ts rows)) {K by_ : Nat} {s x : Operand} {av a2 : Option Addr} {nv cv n2 c2 : Nat} {xs ys : List Value} {Pl : List PRow} (hsl : SliceN P t e K by_) (hs : a.eval s = .slice av nv cv) (hx : a.eval x = .slice a2 n2 c2)
  (hr : Rem (yai' K (.slice av nv cv) xs) Ts Ts') (hm : yab' w0 Pl ∈ Ts) (hrow : (K, Value.slice a2 n2 c2, ys) ∈ Pl) (h1 : ∀ u ∈ ys, u.oneCell' = true) (hb : ∀ n m, xs.length = n * K → ys.length = m * K → (n + m) ≤ 140737488355328 ∧ (n + m) * by_ ≤ 140737488355328)
  (k : ∀ w' a' n' c', Hid (Sep w0 w' (yai' K (.slice a' n' c') (xs ++ ys) :: Ts') rows) → wpList P ops Q rest (a.put dst (.slice a' n' c')) w') :
  wpList P ops Q (⟨dst, .call { callee := .builtin .append, args := #[s, x], argTypes := #[t, t] }, tyy, pos, aft, none⟩ :: rest) a w := by
 obtain ⟨D, hD⟩ := H.out.has hm
 have : ∃ E, ReadRow w K (.slice a2 n2 c2) ys E := by
  rcases hD.2 _ hrow with ⟨E, hE, -⟩ | ⟨E, hE⟩
  ·exact ⟨E, hE⟩
  ·exact ⟨E, hE.frame (fun b hb => H.out.below.block b (hE.lt b hb))⟩
 obtain ⟨E, hE⟩ := this
 obtain ⟨m, hm1, hsrc⟩ := hE.src hsl.ut h1
 exact yx2' H hsl hs hx hr hsrc (fun n hn => hb n m hn hm1) k
end
end Go.Av

namespace Go.Proofs.YtcnkifbjlihaoaaGreatDoor
open Go.RowKit Go.Av
section
variable {w0 w : World} {P P' : List PRow} {R : List Thing} {rows : List (Value × Bs)}
end
end Go.Proofs.YtcnkifbjlihaoaaGreatDoor

namespace Go.Proofs.YtcnkifbjlihaoaaGreatDoor
open Go.RowKit Go.Av
section
variable {w0 w : World} {P P' : List PRow} {R : List Thing} {rows : List (Value × Bs)}
end
end Go.Proofs.YtcnkifbjlihaoaaGreatDoor

namespace Go.Proofs.YtcnkifbjlihaoaaGreatDoor
open Go.RowKit Go.Av
section
variable {w0 w : World} {b t : Nat} {S : TreeS} {P P' : List PRow} {R : List Thing} {rows : List (Value × Bs)}
def ygu' (l : List OpS) : Bool := decide (20 < l.length) || l.any fun o => decide (300 < o.path.size) || decide (1100 < o.data.size)
end
end Go.Proofs.YtcnkifbjlihaoaaGreatDoor

namespace Go.Proofs.YtcnkifbjlihaoaaGreatDoor
open Go.RowKit Go.Av
end Go.Proofs.YtcnkifbjlihaoaaGreatDoor

namespace Go.Av
open Go.RowKit
theorem EntL.parts {P : List PRow} {l : NoL} {xs : List Value} (h : EntL P l xs) {i : Nat} (hi : i < l.length) : ∃ nv, (1, nv, l[i].2.names.map sv) ∈ P ∧ xs[i * 11]? = some (sv l[i].1) ∧ ∀ j v, (l[i].2.cells nv).toList[j]? = some v → xs[i * 11 + 1 + j]? = some v := by
 obtain ⟨nv, h1, h2⟩ := h.at hi
 refine ⟨nv, h1, h2 0 _ rfl, fun j v hv => ?_⟩
 rw [show i * 11 + 1 + j = i * 11 + (j + 1) by omega]
 exact h2 (j + 1) v hv
end Go.Av
namespace Go.Proofs.YtcnkifbjlihaoaaGreatDoor
open Go.RowKit Go.Av
section
variable {w0 w : World} {b b2 : Nat} {S : TreeS} {P P' : List PRow} {R : List Thing} {rows : List (Value × Bs)}
end
end Go.Proofs.YtcnkifbjlihaoaaGreatDoor

namespace Go.Proofs.YtcnkifbjlihaoaaGreatDoor
open Go.RowKit Go.Av
section
variable {w0 w : World} {b : Nat} {S : TreeS} {P P' : List PRow} {R : List Thing} {rows : List (Value × Bs)}
end
end Go.Proofs.YtcnkifbjlihaoaaGreatDoor

namespace Go.Av
open Go.RowKit
theorem EntL.take {P : List PRow} {l : NoL} {xs : List Value} (h : EntL P l xs) : ∀ k, EntL P (l.take k) (xs.take (k * 11)) := by
 induction h with
 | nil => intro k; simp; exact .nil
 | @cons p n nv l xs h1 h2 ih =>
  intro k
  cases k with
  | zero => rw [Nat.zero_mul]; exact .nil
  | succ k =>
   have hl : (sv p :: (n.cells nv).toList).length = 11 := rfl
   have h3 := EntL.cons (p := p) h1 (ih k)
   obtain ⟨A, hA⟩ : ∃ A, sv p :: (n.cells nv).toList = A := ⟨_, rfl⟩
   rw [hA] at hl h3 ⊢
   rw [k_f, List.take_append, List.take_of_length_le (l := A) (by omega), hl, show (k + 1) * 11 - 11 = k * 11 by omega]
   exact h3
theorem EntL.drop {P : List PRow} {l : NoL} {xs : List Value} (h : EntL P l xs) : ∀ k, EntL P (l.drop k) (xs.drop (k * 11)) := by
 induction h with
 | nil => intro k; simp; exact .nil
 | @cons p n nv l xs h1 h2 ih =>
  intro k
  cases k with
  | zero => rw [Nat.zero_mul]; exact .cons h1 h2
  | succ k =>
   have hl : (sv p :: (n.cells nv).toList).length = 11 := rfl
   have h3 := ih k
   obtain ⟨A, hA⟩ : ∃ A, sv p :: (n.cells nv).toList = A := ⟨_, rfl⟩
   rw [hA] at hl ⊢
   rw [k_e, List.drop_append, List.drop_of_length_le (l := A) (by omega), hl, List.nil_append, show (k + 1) * 11 - 11 = k * 11 by omega]
   exact h3
theorem EntL.one {w0 w : World} {R : List Thing} {rows : List (Value × Bs)} {P : List PRow} {l : NoL} {xs : List Value} (hS : Sep w0 w (yab' w0 P :: R) rows) (h : EntL P l xs) : ∀ u ∈ xs, u.oneCell' = true := by
 induction h with
 | nil => intro u hu; cases hu
 | @cons p n nv l xs h1 h2 ih =>
  intro u hu
  obtain ⟨E, hE⟩ := hS.poolGet h1
  obtain ⟨a, m, c, hnv, -⟩ := ReadRow.some hE
  have hnv : nv = .slice a m c := hnv
  rcases List.mem_append.1 hu with hu | hu
  ·rcases List.mem_cons.1 hu with rfl | hu
   ·rfl
   ·subst hnv
    simp only [NodeS.cells, List.mem_cons, List.not_mem_nil, or_false] at hu
    rcases hu with rfl | rfl | rfl | rfl | rfl | rfl | rfl | rfl | rfl | rfl <;> rfl
  ·exact ih u hu
end Go.Av
namespace Go.Proofs.YtcnkifbjlihaoaaGreatDoor
open Go.RowKit Go.Av
section
variable {w0 w : World} {b : Nat} {S : TreeS} {P P' : List PRow} {R : List Thing} {rows : List (Value × Bs)}
end
end Go.Proofs.YtcnkifbjlihaoaaGreatDoor

namespace Go.Av
open Go.RowKit
section
variable {P : Program} {w0 w : World} {R Ts Ts' : List Thing} {rows : List (Value × Bs)}
variable {ops : Array Oper} {Q : Exit → Act → World → Prop} {rest : List Oper} {a : Act} {dst : Option Tmp} {tyy : TypeId} {pos : String} {aft : Array Edge} {gg : Option (Nat × Bool)}
end
end Go.Av

namespace Go.Av
open Go.RowKit
end Go.Av

namespace Go.Av
theorem yng' : ∀ l : List Bs, l ≠ [] → (ofP l.dropLast).length < (ofP l).length
 | [], h => absurd rfl h
 | [x], _ => by simp [ofP]
 | x :: y :: l, _ => by
  have ih := yng' (y :: l) (by simp)
  rw [List.dropLast_cons_cons]
  unfold ofP at ih ⊢
  rw [List.flatMap_cons, List.flatMap_cons, List.length_append, List.length_append]
  omega
theorem ynk' {p up : Bs} (h : yat' p = some up) : p ≠ up := by
 intro e
 unfold yat' at h
 split at h
 ·cases h
 ·rename_i h1
  injection h with h2
  have hne : ybr' p ≠ [] := by intro e2; rw [e2] at h1; exact h1 (by decide)
  have hs := yng' _ hne
  rw [h2, ← e] at hs
  have hg : ybo' p = true := by
   cases hh : ybo' p with
   | true => rfl
   | false => exact absurd (by unfold ybr'; rw [hh]; rfl) hne
  have hp : ofP (ybr' p) = p := by
   cases p with
   | nil => cases hg
   | cons c r =>
    have hc : c = 47 := by
     unfold ybo' at hg
     simp only [Bool.and_eq_true, decide_eq_true_eq] at hg
     exact hg.1.1.1
    unfold ybr'
    rw [if_pos hg, hc]
    exact yop' r
  rw [hp] at hs
  omega
end Go.Av

namespace Go.Av
open Go.RowKit
theorem yeu' (n : NodeS) (s : Bs) : (remS n s).owner = n.owner := by
 unfold remS
 split <;> rfl
theorem yxx' {S : TreeS} {sess : Int} {p : Bs} : p ∈ ofT S sess ↔ ∃ n, (p, n) ∈ S.l ∧ 0 < sess ∧ n.owner = sess := by
 unfold ofT
 rw [List.mem_map]
 constructor
 ·rintro ⟨⟨k, n⟩, he, rfl⟩
  have := List.mem_filter.1 he
  simp at this
  exact ⟨n, this.1, this.2⟩
 ·rintro ⟨n, h1, h2, h3⟩
  exact ⟨(p, n), List.mem_filter.2 ⟨h1, by simp [h2, h3]⟩, rfl⟩
end Go.Av

namespace Go.Av
open Go.RowKit
theorem yc1' (p : Bs) (e : Bs × NodeS) (l : NoL) : yaj' p (e :: l) = if e.1 = p then some e.2 else yaj' p l := by
 unfold yaj'
 rw [List.find?_cons]
 by_cases h : e.1 = p
 ·simp [h]
 ·simp [h]
theorem ycp' (p q : Bs) (n : NodeS) : ∀ l : NoL, yaj' p (setT q n l) = if p = q then (yaj' q l).map (fun _ => n) else yaj' p l
 | [] => by
  unfold setT
  by_cases h : p = q
  ·rw [if_pos h]; rfl
  ·rw [if_neg h]; rfl
 | e :: l => by
  have ih := ycp' p q n l
  have hs : setT q n (e :: l) = (if e.1 = q then (e.1, n) else e) :: setT q n l := rfl
  rw [hs, yc1', yc1', yc1', ih]
  by_cases he : e.1 = q
  ·rw [if_pos he, if_pos he]
   by_cases h : p = q
   ·rw [if_pos (by rw [he, h]), if_pos h]; rfl
   ·rw [if_neg (by rw [he]; exact fun hh => h hh.symm), if_neg h, if_neg h, if_neg (by rw [he]; exact fun hh => h hh.symm)]
  ·rw [if_neg he, if_neg he]
   by_cases h : p = q
   ·rw [if_pos h, if_pos h, if_neg (by rw [h]; exact he)]
   ·rw [if_neg h, if_neg h]
theorem yp2' (p q : Bs) : ∀ l : NoL, yaj' p (delT q l) = if p = q then none else yaj' p l
 | [] => by
  by_cases h : p = q
  ·rw [if_pos h]; rfl
  ·rw [if_neg h]; rfl
 | e :: l => by
  have ih := yp2' p q l
  by_cases he : e.1 = q
  ·have hs : delT q (e :: l) = delT q l := by unfold delT; rw [List.filter_cons, if_neg (by simp [he])]
   rw [hs, ih, yc1']
   by_cases h : p = q
   ·rw [if_pos h, if_pos h]
   ·rw [if_neg h, if_neg h, if_neg (by rw [he]; exact fun hh => h hh.symm)]
  ·have hs : delT q (e :: l) = e :: delT q l := by unfold delT; rw [List.filter_cons, if_pos (by simp [he])]
   rw [hs, yc1', yc1', ih]
   by_cases h : p = q
   ·rw [if_pos h, if_pos h, if_neg (by rw [h]; exact he)]
   ·rw [if_neg h, if_neg h]
theorem yv6' (p q : Bs) (n : NodeS) {l : NoL} (hr : ydn' l) (hq : yaj' q l = none) : yaj' p (insT q n l) = if p = q then some n else yaj' p l := by
 have h2 := ybj' (yi9' (n := n) hr hq)
 by_cases h : p = q
 ·rw [if_pos h, h]
  exact (ybt' h2).2 ((yd0' q n l).mem_iff.2 k_s)
 ·rw [if_neg h]
  cases hp : yaj' p l with
  | some m => exact (ybt' h2).2 ((yd0' q n l).mem_iff.2 (k_n _ ((ybt' (ybj' hr)).1 hp)))
  | none =>
   refine ydt'.2 fun e he => ?_
   rcases yje' he with rfl | he
   ·exact fun hh => h hh.symm
   ·exact ydt'.1 hp e he
theorem ytj' (p q : Bs) (f : NodeS → NodeS) (l : NoL) : yaj' p (atUp q f l) = if yat' q = some p then (yaj' p l).map f else yaj' p l := by
 unfold atUp
 cases hq : yat' q with
 | none => rw [if_neg (by simp)]
 | some u =>
  dsimp only
  cases hu : yaj' u l with
  | none =>
   dsimp only
   by_cases h : u = p
   ·rw [if_pos (by rw [h]), ← h, hu]; rfl
   ·rw [if_neg (by simpa using h)]
  | some m =>
   dsimp only
   rw [ycp']
   by_cases h : p = u
   ·rw [if_pos h, if_pos (by rw [h]), h, hu]; rfl
   ·rw [if_neg h, if_neg (by simpa using fun hh => h hh.symm)]
theorem ydb' (p q : Bs) (n : NodeS) {l : NoL} (hr : ydn' l) (hq : yaj' q l = none) :
  yaj' p (layT q n l) = if p = q then some n else if yat' q = some p then (yaj' p l).map (fun m => addS m (yfc' q)) else yaj' p l := by
 unfold layT
 rw [ytj', yv6' p q n hr hq]
 by_cases h : p = q
 ·rw [if_pos h, if_pos h, if_neg (by rw [h]; exact fun hh => ynk' hh rfl)]
 ·rw [if_neg h, if_neg h]
theorem yc2' (p q : Bs) (l : NoL) : yaj' p (remT q l) = if p = q then none else if yat' q = some p then (yaj' p l).map (fun m => remS m (yfc' q)) else yaj' p l := by
 unfold remT
 rw [ytj', yp2']
 by_cases h : p = q
 ·rw [if_pos h, if_pos h, if_neg (by rw [h]; exact fun hh => ynk' hh rfl)]
 ·rw [if_neg h, if_neg h]
theorem ys9' (q : Bs) (n : NodeS) (l : NoL) : (layT q n l).length = l.length + 1 := by unfold layT; rw [yey', ylm']
theorem ypv' {p : Bs} {n : NodeS} : ∀ {l : NoL}, (l.map (·.1)).Nodup → yaj' p l = some n → (delT p l).length + 1 = l.length
 | [], _, h => by cases h
 | e :: l, hn, h => by
  rw [List.map_cons, List.nodup_cons] at hn
  rw [yc1'] at h
  by_cases he : e.1 = p
  ·have hs : delT p (e :: l) = delT p l := by unfold delT; rw [List.filter_cons, if_neg (by simp [he])]
   have : yaj' p l = none := ydt'.2 fun x hx hh => hn.1 (by rw [he, ← hh]; exact List.mem_map_of_mem hx)
   rw [hs, ymr' this]
   rfl
  ·rw [if_neg he] at h
   have hs : delT p (e :: l) = e :: delT p l := by unfold delT; rw [List.filter_cons, if_pos (by simp [he])]
   rw [hs, List.length_cons, List.length_cons, ypv' hn.2 h]
theorem yqh' {p : Bs} {n : NodeS} {l : NoL} (hr : ydn' l) (h : yaj' p l = some n) : (remT p l).length + 1 = l.length := by
 unfold remT; rw [yey']; exact ypv' (ybj' hr) h
theorem yt8' (p : Bs) (l : NoL) : (remT p l).length ≤ l.length := by
 unfold remT; rw [yey']; exact List.length_filter_le _ _
theorem yt2' : ∀ (l : List Bs) (S : TreeS), (purT l S).l.length ≤ S.l.length
 | [], _ => Nat.le_refl _
 | p :: l, S => Nat.le_trans (yt2' l { S with l := remT p S.l }) (yt8' p S.l)
theorem y0g' (S : TreeS) (o : OpS) (sess zxid : Int) : (doT S o sess zxid).2.l.length ≤ S.l.length + 1 := by
 unfold doT
 split
 ·exact Nat.le_succ _
 ·split
  ·exact Nat.le_succ _
  ·split
   ·unfold yb3'
    split
    ·exact Nat.le_succ _
    ·show (layT _ _ _).length ≤ _
     unfold layT
     rw [yey', ylm']
     exact Nat.le_refl _
   ·split
    ·unfold ybv'
     split
     ·exact Nat.le_succ _
     ·split
      ·exact Nat.le_succ _
      ·split
       ·exact Nat.le_succ _
       ·split
        ·show (remT _ _).length ≤ _
         unfold remT
         rw [yey']
         exact Nat.le_trans (List.length_filter_le _ _) (Nat.le_succ _)
        ·split
         ·show (setT _ _ _).length ≤ _
          rw [yfz']
          exact Nat.le_succ _
         ·exact Nat.le_succ _
    ·exact Nat.le_succ _
theorem ymp' : ∀ (l : Bs), ∀ x ∈ cutS l, (47 : UInt8) ∉ x
 | [], x, h => by
  rw [show cutS [] = [[]] from rfl, List.mem_singleton] at h
  subst h
  simp
 | c :: r, x, h => by
  have ih := ymp' r
  unfold cutS at h
  split at h
  ·rcases List.mem_cons.1 h with rfl | h
   ·simp
   ·exact ih x h
  ·rename_i hc
   split at h
   ·rename_i h0; exact absurd h0 (yez' r)
   ·rename_i y t hy
    rw [hy] at ih
    rcases List.mem_cons.1 h with rfl | h
    ·intro hh
     rcases List.mem_cons.1 hh with hh | hh
     ·exact hc hh.symm
     ·exact ih y k_s hh
    ·exact ih x (k_n _ h)
theorem yi3' : ∀ (r : List Bs) (x : Bs), (∀ y ∈ x :: r, (47 : UInt8) ∉ y) → cutS (x ++ ofP r) = x :: r
 | r, c :: x, h => by
  have h1 : (47 : UInt8) ∉ c :: x := h _ k_s
  have ih := yi3' r x (fun y hy => by
   rcases List.mem_cons.1 hy with rfl | hy
   ·exact fun hh => h1 (k_n _ hh)
   ·exact h y (k_n _ hy))
  rw [List.cons_append]
  unfold cutS
  rw [if_neg (fun hc => h1 (by rw [← hc]; exact k_s)), ih]
 | [], [], _ => rfl
 | y :: r, [], h => by
  have ih := yi3' r y (fun z hz => h z (k_n _ hz))
  have e : ([] : Bs) ++ ofP (y :: r) = 47 :: (y ++ ofP r) := rfl
  rw [e]
  unfold cutS
  rw [if_pos rfl, ih]
theorem yo2' {p u : Bs} (h : yat' p = some u) : ybo' u = true := by
 have hl := ykh' h
 unfold yat' at h
 split at h
 ·cases h
 ·rename_i h1
  injection h with h
  have hg : ybo' p = true := yrk' (by intro e; rw [e] at h1; exact h1 (by decide))
  have hc : ybr' p = cutS (p.drop 1) := by unfold ybr'; rw [if_pos hg]
  have hnames : ∀ x ∈ ybr' p, yik' x = true := by
   rw [hc]
   cases p with
   | nil => cases hg
   | cons c r =>
    unfold ybo' at hg
    simp only [Bool.and_eq_true, decide_eq_true_eq] at hg
    exact List.all_eq_true.1 hg.1.2
  have hfew : (ybr' p).length ≤ 8 := by
   rw [hc]
   cases p with
   | nil => cases hg
   | cons c r =>
    unfold ybo' at hg
    simp only [Bool.and_eq_true, decide_eq_true_eq] at hg
    exact hg.2
  cases hd : (ybr' p).dropLast with
  | nil =>
   exfalso
   have := congrArg List.length hd
   rw [List.length_dropLast] at this
   simp at this
   omega
  | cons x r =>
   rw [hd] at h
   have hin : ∀ y ∈ x :: r, y ∈ ybr' p := fun y hy => List.dropLast_subset _ (by rw [hd]; exact hy)
   have he : u = 47 :: (x ++ ofP r) := by rw [← h]; rfl
   have hcut : cutS (x ++ ofP r) = x :: r := yi3' r x fun y hy => ymp' (p.drop 1) y (by rw [← hc]; exact hin y hy)
   have hlen : (x :: r).length ≤ 8 := by
    rw [← hd, List.length_dropLast]; omega
   rw [he] at hl ⊢
   unfold ybo'
   dsimp only
   rw [hcut]
   simp only [Bool.and_eq_true, decide_eq_true_eq]
   exact ⟨⟨⟨trivial, by simpa using hl⟩, List.all_eq_true.2 fun y hy => hnames y (hin y hy)⟩, hlen⟩
end Go.Av
