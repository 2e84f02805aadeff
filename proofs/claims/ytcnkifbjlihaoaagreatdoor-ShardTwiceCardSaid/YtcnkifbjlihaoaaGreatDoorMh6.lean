/-
  Texts of this claim, laid together.
-/
import Derived.Test.YtcnkifbjlihaoaaGreatDoorMh5
import Derived.Deep.Matrix
import Derived.Deep.Slices
import Derived.ChangeSame
import Derived.Deep.LoopGhost
import Derived.Lib.SliceRun
set_option linter.unusedVariables false
set_option linter.unusedSimpArgs false

namespace Go.Av
open Go.RowKit
def wG (g : WaitG) : Nat := if g.x.fails then 0 else yan' g.x.ops
theorem ynt' (gs : List WaitG) : ya2' (gs.map WaitG.ent) = (gs.map wG).sum := by
 unfold ya2'
 rw [List.map_map]
 rfl
theorem yp2' {a b : List Nat} (h : a.Perm b) : a.sum = b.sum := by
 induction h with
 | nil => rfl
 | cons x _ ih => rw [List.sum_cons, List.sum_cons, ih]
 | swap x y l => simp only [List.sum_cons]; omega
 | trans _ _ h1 h2 => exact h1.trans h2
end Go.Av
namespace Go.Proofs.YtcnkifbjlihaoaaGreatDoor
open Go.RowKit Go.Av
section
variable {w0 w : World} {b : Nat} {S : PartS} {P P' : List PRow} {R : List Thing} {rows : List (Value × Bs)}
def yxk' (w0 : World) (mw r : Nat) (gs : List WaitG) (P : List PRow) (R : List Thing) (rows : List (Value × Bs)) (k : Nat) (v3 : Value) (w : World) : Prop :=
 ∃ left done : List WaitG, left.length = k ∧ (done ++ left).Perm gs ∧ v3 = .int .i64 ((done.map wG).sum : Nat) ∧ Sep w0 w (yd3' (.int .i64) mw r (gs.map WaitG.kv) (left.map WaitG.kv) :: yab' w0 P :: R) rows
set_option maxRecDepth 100000 in
set_option maxHeartbeats 8000000 in
theorem yrh' (h : Sep w0 w (yab' w0 P :: ybk' b S P :: R) rows) (hW : ya2' S.wait ≤ 100000) (hO : ∀ e ∈ S.wait, e.2.ops.length ≤ 100000) :
  Calls Tryz.prog 29 #[.pointer (some ⟨b, 0, none⟩)] w fun e w' => e = .returned (.int .i64 (ya2' S.wait : Nat)) ∧ Sep w0 w' (yab' w0 P :: ybk' b S P :: R) rows := by
 obtain ⟨t, lk, mw, md, mc, gs, hgs, hv, hS⟩ := ybt' h.up1
 rw [← hgs] at hW hO
 have HG := Lib.hid (show _ ∧ _ ∧ _ ∧ _ from ⟨hgs, hv, hW, hO⟩)
 obtain ⟨R', hR'⟩ : ∃ R', yaj' t S.t P :: ThLk lk S.held :: yam' (.int .i64) md (S.decided.map ikv) :: yam' (.int .i64) mc (S.closed.map ikv) :: R = R' := ⟨_, rfl⟩
 have HRR := Lib.hid hR'
 have h1 : Sep w0 w (yam' (.int .i64) mw (gs.map WaitG.kv) :: yab' w0 P :: yac' b (.cells (yai' S.t.room t lk S.zxid mw md mc) 123 (0, 0)) :: R') rows := by
  rw [← hR']
  exact hS.pm 7 [3, 6, 0, 1, 2, 4, 5] rfl rfl
 have HX := Lib.hid h1
 clear h hgs hv hS hR' h1 hW hO
 go_enter Tryz.func29, Tryz.ntmps29
 go_upto_region 2 with (first | refine u0 ?_ | (refine uS ?_; clear HX; intro w HX) | (refine uA ?_; clear HX; (first | (have hq := b; clear hq; intro w b2 HX) | intro w b HX)))
 obtain ⟨r, w9, hrun, h9⟩ := yfo' (P := Tryz.prog) HX.out Tryz.underlying120
 have HST := Lib.hid (show yxk' w0 mw r gs P (yac' b (.cells (yai' S.t.room t lk S.zxid mw md mc) 123 (0, 0)) :: R') rows gs.length (.int .i64 (0 : Int)) w9 from ⟨gs, [], rfl, by simp, rfl, h9⟩)
 go_wp2_with (first | refine u0 ?_ | (refine uS ?_; clear HX; intro w HX) | (refine uA ?_; clear HX; (first | (have hq := b; clear hq; intro w b2 HX) | intro w b HX)))
 clear HX hrun h9
 go_loopg [3, 5, 6, 7] gs.length (fun k v3 _ _ _ wr => yxk' w0 mw r gs P (yac' b (.cells (yai' S.t.room t lk S.zxid mw md mc) 123 (0, 0)) :: R') rows k v3 wr)
 case atStart => exact HST.out
 case round =>
  obtain ⟨left, done, hk, hpm, rfl, hS⟩ := hrel
  clear HST
  rcases yhp' (P := Tryz.prog) WaitG.kv hS with ⟨rfl, hn⟩ | ⟨l1, g, l2, w1, rfl, hn, h1, hen⟩
  ·have HX := Lib.hid hS
   have HT := Lib.hid (show (done.map wG).sum = ya2' S.wait by rw [← HG.out.1, ynt']; exact yp2' ((by simpa using hpm : done.Perm gs).map wG))
   clear hS hk hpm
   go_wp2_with (first | refine u0 ?_ | (refine uS ?_; clear HX; intro w HX) | (refine uA ?_; clear HX; (first | (have hq := b; clear hq; intro w b2 HX) | intro w b HX)))
   go_ret
   have h5 := yei' HX.out
   rw [← HRR.out] at h5
   refine ⟨by rw [HT.out]; rfl, ?_⟩
   exact (ya7' (b := b) (t := t) (lk := lk) (mw := mw) (md := md) (mc := mc) (gs := gs) (S := S) (R := yab' w0 P :: R) (h5.pm 7 [2, 3, 4, 0, 5, 6, 1] rfl rfl) HG.out.1 HG.out.2.1).up1
  ·have hg : g ∈ gs := hpm.mem_iff.1 (by simp)
   have hgv := HG.out.2.1 g hg
   obtain ⟨E, hE⟩ := h1.up1.poolGet hgv
   obtain ⟨ga, gn, gc, hvs, -⟩ := ReadRow.some hE
   have htot : ((done ++ (l1 ++ g :: l2)).map wG).sum = ya2' (gs.map WaitG.ent) := by rw [ynt']; exact yp2' (hpm.map wG)
   have hbd : (done.map wG).sum + wG g ≤ 100000 := by
    have := HG.out.2.2.1
    rw [← htot] at this
    simp only [List.map_append, List.map_cons, List.sum_append, List.sum_cons] at this
    omega
   have hol := HG.out.2.2.2 g.ent (List.mem_map_of_mem hg)
   have HF := Lib.hid (show _ ∧ _ from ⟨hk, (show (done ++ [g] ++ (l1 ++ l2)).Perm gs from List.Perm.trans (by simp only [List.append_assoc]; refine List.Perm.append_left _ ?_; rw [List.singleton_append]; exact List.perm_middle.symm) hpm)⟩)
   have HS := Lib.hid (show ((done ++ [g]).map wG).sum = (done.map wG).sum + wG g by simp)
   have HX := Lib.hid h1
   clear hS h1 hk hpm hg hE htot
   obtain ⟨id, ⟨gs1, gops, gcl, gfa⟩, gv⟩ := g
   dsimp only [WaitG.kv, WaitG.ent] at hn hen hgv hvs hol HX
   subst hvs
   have HGV := Lib.hid (show _ ∧ _ from ⟨hgv, hol⟩)
   obtain ⟨sd, hsd⟩ : ∃ sd, (done.map wG).sum = sd := ⟨_, rfl⟩
   rw [hsd] at HS hbd ⊢
   clear hgv hol hsd
   cases gfa with
   | true =>
    go_wp2_with (first | refine u0 ?_ | (refine uS ?_; clear HX; intro w HX) | (refine uA ?_; clear HX; (first | (have hq := b; clear hq; intro w b2 HX) | intro w b HX)))
    go_roundg (l1 ++ l2).length
    case rel =>
     refine ⟨l1 ++ l2, _, rfl, HF.out.2, by rw [HS.out]; rfl, HX.out.drop⟩
    case measure =>
     have := HF.out.1
     simp at this ⊢; omega
   | false =>
    have hb2 : sd + yan' gops ≤ 100000 := hbd
    clear hbd
    go_wp2_with (first | refine u0 ?_ | (refine uS ?_; clear HX; intro w HX) | (refine uA ?_; clear HX; (first | (have hq := b; clear hq; intro w b2 HX) | intro w b HX)))
    refine (yit' HX.out.up2 gops _ HGV.out.1 HGV.out.2).mono ?_
    rintro e w ⟨rfl, hx⟩
    replace HX := Lib.hid hx
    clear hx
    obtain ⟨cc, hcc⟩ : ∃ cc, yan' gops = cc := ⟨_, rfl⟩
    rw [hcc] at hb2 ⊢
    have HCC := Lib.hid hcc
    clear hcc
    go_wp2_with (first | refine u0 ?_ | (refine uS ?_; clear HX; intro w HX) | (refine uA ?_; clear HX; (first | (have hq := b; clear hq; intro w b2 HX) | intro w b HX)))
    go_roundg (l1 ++ l2).length
    case rel =>
     refine ⟨l1 ++ l2, _, rfl, HF.out.2, by rw [HS.out, show wG ⟨id, ⟨gs1, gops, gcl, false⟩, .slice ga gn gc⟩ = cc from HCC.out]; go_num, HX.out.cut1.up1⟩
    case measure =>
     have := HF.out.1
     simp at this ⊢; omega
def yo1' (w0 : World) (mw r : Nat) (gs : List WaitG) (f : Int × WaitS → Bool) (R : List Thing) (rows : List (Value × Bs)) (k : Nat) (w : World) : Prop :=
 ∃ left : List WaitG, left.length = k ∧ (∀ g ∈ left, g ∈ gs) ∧ (∀ g ∈ gs, g ∈ left ∨ f g.ent = false) ∧ Sep w0 w (yd3' (.int .i64) mw r (gs.map WaitG.kv) (left.map WaitG.kv) :: R) rows
set_option maxRecDepth 100000 in
set_option maxHeartbeats 8000000 in
theorem yw5' (h : Sep w0 w (yab' w0 P :: ybk' b S P :: R) rows) (sess : Int) :
  Calls Tryz.prog 79 #[.pointer (some ⟨b, 0, none⟩), .int .i64 sess] w fun e w' => e = .returned (.bool (ynn' S.wait sess)) ∧ Sep w0 w' (yab' w0 P :: ybk' b S P :: R) rows := by
 obtain ⟨t, lk, mw, md, mc, gs, hgs, hv, hS⟩ := ybt' h.up1
 have HG := Lib.hid (show _ ∧ _ from ⟨hgs, hv⟩)
 obtain ⟨R', hR'⟩ : ∃ R', yaj' t S.t P :: ThLk lk S.held :: yam' (.int .i64) md (S.decided.map ikv) :: yam' (.int .i64) mc (S.closed.map ikv) :: R = R' := ⟨_, rfl⟩
 have HRR := Lib.hid hR'
 have h1 : Sep w0 w (yam' (.int .i64) mw (gs.map WaitG.kv) :: yab' w0 P :: yac' b (.cells (yai' S.t.room t lk S.zxid mw md mc) 123 (0, 0)) :: R') rows := by
  rw [← hR']
  exact hS.pm 7 [3, 6, 0, 1, 2, 4, 5] rfl rfl
 have HX := Lib.hid h1
 obtain ⟨res, hres⟩ : ∃ res, ynn' S.wait sess = res := ⟨_, rfl⟩
 rw [hres]
 have HRES := Lib.hid (show res = gs.any fun g => (fun e : Int × WaitS => e.2.sess == sess) g.ent by rw [← hres, ← hgs]; unfold ynn'; rw [List.any_map]; rfl)
 clear h hgs hv hS hR' h1 hres
 go_enter Tryz.func79, Tryz.ntmps79
 go_upto_region 1 with (first | refine u0 ?_ | (refine uS ?_; clear HX; intro w HX) | (refine uA ?_; clear HX; (first | (have hq := b; clear hq; intro w b2 HX) | intro w b HX)))
 obtain ⟨r, w9, hrun, h9⟩ := yfo' (P := Tryz.prog) HX.out Tryz.underlying120
 have HST := Lib.hid (show yo1' w0 mw r gs (fun e : Int × WaitS => e.2.sess == sess) (yab' w0 P :: yac' b (.cells (yai' S.t.room t lk S.zxid mw md mc) 123 (0, 0)) :: R') rows gs.length w9 from ⟨gs, rfl, fun _ h => h, fun g hg => .inl hg, h9⟩)
 go_wp2_with (first | refine u0 ?_ | (refine uS ?_; clear HX; intro w HX) | (refine uA ?_; clear HX; (first | (have hq := b; clear hq; intro w b2 HX) | intro w b HX)))
 clear HX hrun h9
 go_loopg [6] gs.length (fun k _ wr => yo1' w0 mw r gs (fun e : Int × WaitS => e.2.sess == sess) (yab' w0 P :: yac' b (.cells (yai' S.t.room t lk S.zxid mw md mc) 123 (0, 0)) :: R') rows k wr)
 case atStart => exact HST.out
 case round =>
  obtain ⟨left, hk, hin, hall, hS⟩ := hrel
  clear HST
  rcases yhp' (P := Tryz.prog) WaitG.kv hS with ⟨rfl, hn⟩ | ⟨l1, g, l2, w1, rfl, hn, h1, hen⟩
  ·have HX := Lib.hid hS
   obtain rfl : res = false := by
    rw [HRES.out, List.any_eq_false]
    intro g hg
    rcases hall g hg with h | h
    ·cases h
    ·exact fun hh => Bool.false_ne_true (h.symm.trans hh)
   clear hS hk hin hall
   go_wp2_with (first | refine u0 ?_ | (refine uS ?_; clear HX; intro w HX) | (refine uA ?_; clear HX; (first | (have hq := b; clear hq; intro w b2 HX) | intro w b HX)))
   go_ret
   have h5 := yei' HX.out
   rw [← HRR.out] at h5
   refine ⟨rfl, ?_⟩
   exact (ya7' (b := b) (t := t) (lk := lk) (mw := mw) (md := md) (mc := mc) (gs := gs) (S := S) (R := yab' w0 P :: R) (h5.pm 7 [2, 3, 4, 0, 5, 6, 1] rfl rfl) HG.out.1 HG.out.2).up1
  ·have hg := hin g (by simp)
   obtain ⟨E, hE⟩ := h1.up1.poolGet (HG.out.2 g hg)
   obtain ⟨ga, gn, gc, hvs, -⟩ := ReadRow.some hE
   have HF := Lib.hid (show _ ∧ _ ∧ _ from ⟨hk, hin, hall⟩)
   have HR := Lib.hid (show (fun e : Int × WaitS => e.2.sess == sess) g.ent = true → res = true from fun hf => by rw [HRES.out]; exact List.any_eq_true.2 ⟨g, hg, hf⟩)
   have HX := Lib.hid h1
   clear hS h1 hk hin hall hg hE
   obtain ⟨id, ⟨gs1, gops, gcl, gfa⟩, gv⟩ := g
   dsimp only [WaitG.kv, WaitG.ent] at hn hen hvs HX HR
   subst hvs
   by_cases hs : gs1 = sess
   ·have q1 : (gs1 == sess) = true := by rw [hs]; exact beq_self_eq_true _
    have HFE := Lib.hid (show (gs1 == sess) = true from q1)
    obtain rfl : res = true := HR.out HFE.out
    go_wp2_with (first | refine u0 ?_ | (refine uS ?_; clear HX; intro w HX) | (refine uA ?_; clear HX; (first | (have hq := b; clear hq; intro w b2 HX) | intro w b HX)))
    go_ret
    replace HX := Lib.hid HX.out.drop
    have h5 := yei' HX.out
    rw [← HRR.out] at h5
    refine ⟨rfl, ?_⟩
    exact (ya7' (b := b) (t := t) (lk := lk) (mw := mw) (md := md) (mc := mc) (gs := gs) (S := S) (R := yab' w0 P :: R) (h5.pm 7 [2, 3, 4, 0, 5, 6, 1] rfl rfl) HG.out.1 HG.out.2).up1
   ·have q1 : (gs1 == sess) = false := by rw [beq_eq_false_iff_ne]; exact hs
    have HFE := Lib.hid (show (gs1 == sess) = false from q1)
    go_wp2_with (first | refine u0 ?_ | (refine uS ?_; clear HX; intro w HX) | (refine uA ?_; clear HX; (first | (have hq := b; clear hq; intro w b2 HX) | intro w b HX)))
    go_roundg (l1 ++ l2).length
    case rel =>
     obtain ⟨hk, hin, hall⟩ := HF.out
     refine ⟨l1 ++ l2, rfl, fun x hx => hin x ?_, fun x hx => ?_, HX.out.drop⟩
     ·rcases List.mem_append.1 hx with h | h <;> simp [h]
     ·rcases hall x hx with h | h
      ·rcases List.mem_append.1 h with h | h
       ·exact .inl (List.mem_append_left _ h)
       ·rcases List.mem_cons.1 h with rfl | h
        ·exact .inr HFE.out
        ·exact .inl (List.mem_append_right _ h)
      ·exact .inr h
    case measure =>
     obtain ⟨hk, hin, hall⟩ := HF.out
     simp at hk ⊢; omega
set_option maxRecDepth 100000 in
set_option maxHeartbeats 8000000 in
theorem ynz' (h : Sep w0 w (yab' w0 P :: ybk' b S P :: R) rows) (sess : Int) :
  Calls Tryz.prog 140 #[.pointer (some ⟨b, 0, none⟩), .int .i64 sess] w fun e w' => e = .returned (.bool (ycz' S.wait sess)) ∧ Sep w0 w' (yab' w0 P :: ybk' b S P :: R) rows := by
 obtain ⟨t, lk, mw, md, mc, gs, hgs, hv, hS⟩ := ybt' h.up1
 have HG := Lib.hid (show _ ∧ _ from ⟨hgs, hv⟩)
 obtain ⟨R', hR'⟩ : ∃ R', yaj' t S.t P :: ThLk lk S.held :: yam' (.int .i64) md (S.decided.map ikv) :: yam' (.int .i64) mc (S.closed.map ikv) :: R = R' := ⟨_, rfl⟩
 have HRR := Lib.hid hR'
 have h1 : Sep w0 w (yam' (.int .i64) mw (gs.map WaitG.kv) :: yab' w0 P :: yac' b (.cells (yai' S.t.room t lk S.zxid mw md mc) 123 (0, 0)) :: R') rows := by
  rw [← hR']
  exact hS.pm 7 [3, 6, 0, 1, 2, 4, 5] rfl rfl
 have HX := Lib.hid h1
 obtain ⟨res, hres⟩ : ∃ res, ycz' S.wait sess = res := ⟨_, rfl⟩
 rw [hres]
 have HRES := Lib.hid (show res = gs.any fun g => (fun e : Int × WaitS => e.2.close && e.2.sess == sess) g.ent by rw [← hres, ← hgs]; unfold ycz'; rw [List.any_map]; rfl)
 clear h hgs hv hS hR' h1 hres
 go_enter Tryz.func140, Tryz.ntmps140
 go_upto_region 1 with (first | refine u0 ?_ | (refine uS ?_; clear HX; intro w HX) | (refine uA ?_; clear HX; (first | (have hq := b; clear hq; intro w b2 HX) | intro w b HX)))
 obtain ⟨r, w9, hrun, h9⟩ := yfo' (P := Tryz.prog) HX.out Tryz.underlying120
 have HST := Lib.hid (show yo1' w0 mw r gs (fun e : Int × WaitS => e.2.close && e.2.sess == sess) (yab' w0 P :: yac' b (.cells (yai' S.t.room t lk S.zxid mw md mc) 123 (0, 0)) :: R') rows gs.length w9 from ⟨gs, rfl, fun _ h => h, fun g hg => .inl hg, h9⟩)
 go_wp2_with (first | refine u0 ?_ | (refine uS ?_; clear HX; intro w HX) | (refine uA ?_; clear HX; (first | (have hq := b; clear hq; intro w b2 HX) | intro w b HX)))
 clear HX hrun h9
 go_loopg [6] gs.length (fun k _ wr => yo1' w0 mw r gs (fun e : Int × WaitS => e.2.close && e.2.sess == sess) (yab' w0 P :: yac' b (.cells (yai' S.t.room t lk S.zxid mw md mc) 123 (0, 0)) :: R') rows k wr)
 case atStart => exact HST.out
 case round =>
  obtain ⟨left, hk, hin, hall, hS⟩ := hrel
  clear HST
  rcases yhp' (P := Tryz.prog) WaitG.kv hS with ⟨rfl, hn⟩ | ⟨l1, g, l2, w1, rfl, hn, h1, hen⟩
  ·have HX := Lib.hid hS
   obtain rfl : res = false := by
    rw [HRES.out, List.any_eq_false]
    intro g hg
    rcases hall g hg with h | h
    ·cases h
    ·exact fun hh => Bool.false_ne_true (h.symm.trans hh)
   clear hS hk hin hall
   go_wp2_with (first | refine u0 ?_ | (refine uS ?_; clear HX; intro w HX) | (refine uA ?_; clear HX; (first | (have hq := b; clear hq; intro w b2 HX) | intro w b HX)))
   go_ret
   have h5 := yei' HX.out
   rw [← HRR.out] at h5
   refine ⟨rfl, ?_⟩
   exact (ya7' (b := b) (t := t) (lk := lk) (mw := mw) (md := md) (mc := mc) (gs := gs) (S := S) (R := yab' w0 P :: R) (h5.pm 7 [2, 3, 4, 0, 5, 6, 1] rfl rfl) HG.out.1 HG.out.2).up1
  ·have hg := hin g (by simp)
   obtain ⟨E, hE⟩ := h1.up1.poolGet (HG.out.2 g hg)
   obtain ⟨ga, gn, gc, hvs, -⟩ := ReadRow.some hE
   have HF := Lib.hid (show _ ∧ _ ∧ _ from ⟨hk, hin, hall⟩)
   have HR := Lib.hid (show (fun e : Int × WaitS => e.2.close && e.2.sess == sess) g.ent = true → res = true from fun hf => by rw [HRES.out]; exact List.any_eq_true.2 ⟨g, hg, hf⟩)
   have HX := Lib.hid h1
   clear hS h1 hk hin hall hg hE
   obtain ⟨id, ⟨gs1, gops, gcl, gfa⟩, gv⟩ := g
   dsimp only [WaitG.kv, WaitG.ent] at hn hen hvs HX HR
   subst hvs
   cases gcl with
   | false =>
    have HFE := Lib.hid (show (false && gs1 == sess) = false from rfl)
    go_wp2_with (first | refine u0 ?_ | (refine uS ?_; clear HX; intro w HX) | (refine uA ?_; clear HX; (first | (have hq := b; clear hq; intro w b2 HX) | intro w b HX)))
    go_roundg (l1 ++ l2).length
    case rel =>
     obtain ⟨hk, hin, hall⟩ := HF.out
     refine ⟨l1 ++ l2, rfl, fun x hx => hin x ?_, fun x hx => ?_, HX.out.drop⟩
     ·rcases List.mem_append.1 hx with h | h <;> simp [h]
     ·rcases hall x hx with h | h
      ·rcases List.mem_append.1 h with h | h
       ·exact .inl (List.mem_append_left _ h)
       ·rcases List.mem_cons.1 h with rfl | h
        ·exact .inr HFE.out
        ·exact .inl (List.mem_append_right _ h)
      ·exact .inr h
    case measure =>
     obtain ⟨hk, hin, hall⟩ := HF.out
     simp at hk ⊢; omega
   | true =>
    by_cases hs : gs1 = sess
    ·have q1 : (gs1 == sess) = true := by rw [hs]; exact beq_self_eq_true _
     have HFE := Lib.hid (show (true && gs1 == sess) = true by rw [q1]; rfl)
     obtain rfl : res = true := HR.out HFE.out
     go_wp2_with (first | refine u0 ?_ | (refine uS ?_; clear HX; intro w HX) | (refine uA ?_; clear HX; (first | (have hq := b; clear hq; intro w b2 HX) | intro w b HX)))
     go_ret
     replace HX := Lib.hid HX.out.drop
     have h5 := yei' HX.out
     rw [← HRR.out] at h5
     refine ⟨rfl, ?_⟩
     exact (ya7' (b := b) (t := t) (lk := lk) (mw := mw) (md := md) (mc := mc) (gs := gs) (S := S) (R := yab' w0 P :: R) (h5.pm 7 [2, 3, 4, 0, 5, 6, 1] rfl rfl) HG.out.1 HG.out.2).up1
    ·have q1 : (gs1 == sess) = false := by rw [beq_eq_false_iff_ne]; exact hs
     have HFE := Lib.hid (show (true && gs1 == sess) = false by rw [q1]; rfl)
     go_wp2_with (first | refine u0 ?_ | (refine uS ?_; clear HX; intro w HX) | (refine uA ?_; clear HX; (first | (have hq := b; clear hq; intro w b2 HX) | intro w b HX)))
     go_roundg (l1 ++ l2).length
     case rel =>
      obtain ⟨hk, hin, hall⟩ := HF.out
      refine ⟨l1 ++ l2, rfl, fun x hx => hin x ?_, fun x hx => ?_, HX.out.drop⟩
      ·rcases List.mem_append.1 hx with h | h <;> simp [h]
      ·rcases hall x hx with h | h
       ·rcases List.mem_append.1 h with h | h
        ·exact .inl (List.mem_append_left _ h)
        ·rcases List.mem_cons.1 h with rfl | h
         ·exact .inr HFE.out
         ·exact .inl (List.mem_append_right _ h)
       ·exact .inr h
     case measure =>
      obtain ⟨hk, hin, hall⟩ := HF.out
      simp at hk ⊢; omega
end
end Go.Proofs.YtcnkifbjlihaoaaGreatDoor

namespace Go.Proofs.YtcnkifbjlihaoaaGreatDoor
open Go.RowKit Go.Av
section
variable {w0 w : World} {b : Nat} {S : PartS} {P P' : List PRow} {R : List Thing} {rows : List (Value × Bs)}
abbrev yir' (b b4 b5 : Nat) (id : Int) (S : PartS) (P : List PRow) (R : List Thing) : List Thing := yac' b5 (.cells #[.int .i64 id] 2 (0, 0)) :: yac' b4 (.cells #[.pointer (some ⟨b, 0, none⟩)] 24 (0, 0)) :: ybk' b S P :: R
set_option maxRecDepth 100000 in
set_option maxHeartbeats 4000000 in
theorem yyl' {b4 b5 : Nat} {id : Int} (h : Sep w0 w (yir' b b4 b5 id S P R) rows) (hd : DoorN w0) (p : ByteArray) (hp : p.size ≤ 100000) (hH : ∀ e ∈ S.held, e.1.length ≤ 100000) :
  Calls Tryz.prog 142 #[.string p, .pointer (some ⟨b4, 0, none⟩), .pointer (some ⟨b5, 0, none⟩)] w fun e w' => e = .returned (.bool (ybp' S.held id p.data.toList)) ∧ Sep w0 w' (yir' b b4 b5 id S P R) rows := by
 obtain ⟨t, lk, mw, md, mc, gs, h1, h2, hS⟩ := ybt' h.up2
 have HG := Lib.hid (show _ ∧ _ from ⟨h1, h2⟩)
 obtain ⟨R', hR'⟩ : ∃ R', yaj' t S.t P :: yam' (.int .i64) mw (gs.map WaitG.kv) :: yam' (.int .i64) md (S.decided.map ikv) :: yam' (.int .i64) mc (S.closed.map ikv) :: R = R' := ⟨_, rfl⟩
 have h3 : Sep w0 w (ThLk lk S.held :: yac' b5 (.cells #[.int .i64 id] 2 (0, 0)) :: yac' b4 (.cells #[.pointer (some ⟨b, 0, none⟩)] 24 (0, 0)) :: yac' b (.cells (yai' S.t.room t lk S.zxid mw md mc) 123 (0, 0)) :: R') rows := by
  rw [← hR']
  exact hS.pm 8 [2, 6, 7, 0, 1, 3, 4, 5] rfl rfl
 have HRR := Lib.hid hR'
 have HX := Lib.hid h3
 clear h h1 h2 hS h3 hR'
 go_enter Tryz.func142, Tryz.ntmps142
 go_wp2_with (first | refine u0 ?_ | (refine uS ?_; clear HX; intro w HX) | (refine uA ?_; clear HX; (first | (have hq := b5; clear hq; intro w b6 HX) | (have hq := b4; clear hq; intro w b5 HX) | (have hq := b3; clear hq; intro w b4 HX) | (have hq := b2; clear hq; intro w b3 HX) | (have hq := b; clear hq; intro w b2 HX) | intro w b HX)))
 refine rM (fun W => Sep w0 W (ThLk lk S.held :: yac' b5 (.cells #[.int .i64 id] 2 (0, 0)) :: yac' b4 (.cells #[.pointer (some ⟨b, 0, none⟩)] 24 (0, 0)) :: yac' b (.cells (yai' S.t.room t lk S.zxid mw md mc) 123 (0, 0)) :: R') rows) 7 ?_
 intro KEEPX
 replace HX := Lib.hid HX.out.drew
 refine rT [(0, true), (1, false), (2, false), (3, true), (4, true), (5, false)] 2 ?_
 apply Exists.intro; refine ⟨?_, HX.out, ?_⟩
 ·iterate 6 (refine xE ?_)
  exact rfl
 refine r1 1 6 fun K hK => ?_
 go_wp2_with fail
 refine (yjx' HX.out hd id p hp hH).mono ?_
 rintro e w ⟨rfl, hx⟩
 replace HX := Lib.hid hx
 clear hx
 go_wp2_with fail
 refine hK _ _ HX.out ?_
 clear hK
 refine rL [7] 0 ?_
 simp only [List.filterMap_cons, List.filterMap_nil, k_i, k_j, k_k]
 go_wp2_with fail
 go_ret
 have h5 := HX.out
 rw [← HRR.out] at h5
 exact ⟨rfl, (ya7' (b := b) (t := t) (lk := lk) (mw := mw) (md := md) (mc := mc) (gs := gs) (S := S) (R := yac' b5 _ :: yac' b4 _ :: R) (h5.pm 8 [3, 4, 0, 5, 6, 7, 1, 2] rfl rfl) HG.out.1 HG.out.2).pm 3 [1, 2, 0] rfl rfl⟩
abbrev cloV (b4 b5 : Nat) : Value := .func (.func 142) #[] #[.pointer (some ⟨b4, 0, none⟩), .pointer (some ⟨b5, 0, none⟩)]
def yx3' (w0 : World) (R : List Thing) (rows : List (Value × Bs)) (z : Bool) (e : Ending) (w' : World) : Prop :=
 ∃ r : Int, e = .returned (.int .i64 r) ∧ decide (0 ≤ r) = z ∧ Sep w0 w' R rows
set_option maxRecDepth 100000 in
set_option maxHeartbeats 2000000 in
theorem yqr' {b4 b5 : Nat} {id : Int} (h : Sep w0 w (yab' w0 P :: yir' b b4 b5 id S P R) rows) (hd : DoorN w0) (ws : List Bs) (v : Value) (hv : (1, v, ws.map sv) ∈ P) (hp : ∀ p ∈ ws, p.length ≤ 100000) (hH : ∀ e ∈ S.held, e.1.length ≤ 100000) (hn : ws.length ≤ 100000) :
  Calls Tryz.prog 179 #[v, cloV b4 b5] w (yx3' w0 (yab' w0 P :: yir' b b4 b5 id S P R) rows (ws.any fun p => ybp' S.held id p)) := by
 obtain ⟨E, hE⟩ := h.poolGet hv
 obtain ⟨a, n, c, rfl, hl0, -, -, hne⟩ := ReadRow.some hE
 rw [List.length_map, Nat.mul_one] at hl0
 subst hl0
 have HNE := Lib.hid hne
 have HV := Lib.hid (show _ ∧ _ from ⟨hv, hp⟩)
 have HX := Lib.hid h
 clear h hE hne hv hp
 go_enter Tryz.func179, Tryz.ntmps179
 go_wp2_with (first | refine u0 ?_ | (refine uS ?_; clear HX; intro w HX) | (refine uA ?_; clear HX; (first | (have hq := b5; clear hq; intro w b6 HX) | (have hq := b4; clear hq; intro w b5 HX) | (have hq := b3; clear hq; intro w b4 HX) | (have hq := b2; clear hq; intro w b3 HX) | (have hq := b; clear hq; intro w b2 HX) | intro w b HX)))
 go_loopg [5, 8] ws.length (fun k _ v wr => ∃ i : Nat, i + k = ws.length ∧ v = .int .i64 (i : Int) ∧ (∀ p ∈ ws.take i, ybp' S.held id p = false) ∧ Sep w0 wr (yab' w0 P :: yir' b b4 b5 id S P R) rows)
 case atStart => exact ⟨0, by simp, rfl, by simp, HX.out⟩
 case round =>
  rename World => w
  obtain ⟨i, hik, rfl, hno, hS⟩ := hrel
  replace HX := Lib.hid hS
  have HNO := Lib.hid hno
  clear hS hno
  by_cases hlt : i < ws.length
  case neg =>
   obtain rfl : i = ws.length := by omega
   clear hlt hik
   go_wp2_with (first | refine u0 ?_ | (refine uS ?_; clear HX; intro w HX) | (refine uA ?_; clear HX; (first | (have hq := b5; clear hq; intro w b6 HX) | (have hq := b4; clear hq; intro w b5 HX) | (have hq := b3; clear hq; intro w b4 HX) | (have hq := b2; clear hq; intro w b3 HX) | (have hq := b; clear hq; intro w b2 HX) | intro w b HX)))
   go_ret
   have h1 := HNO.out
   rw [List.take_length] at h1
   exact ⟨-1, rfl, by rw [List.any_eq_false.2 fun o ho => by simp [h1 o ho]]; rfl, HX.out⟩
  case pos =>
   obtain ⟨g, off, rfl⟩ := HNE.out (by intro e; rw [List.map_eq_nil_iff] at e; rw [e] at hlt; simp at hlt)
   obtain ⟨E, hE⟩ := HX.out.poolGet HV.out.1
   have hl := ybz' (P := Tryz.prog) (ty := 9) (i := i) (v := sv ws[i]) hE (by kernel_rfl) (by simp [hlt])
   have HTK := Lib.hid (show ws.take (i + 1) = ws.take i ++ [ws[i]] from List.take_succ_eq_append_getElem hlt)
   have HIN := Lib.hid (show ws[i] ∈ ws from List.getElem_mem hlt)
   obtain ⟨p, hp⟩ : ∃ p, ws[i] = p := ⟨_, rfl⟩
   rw [hp] at hl HTK HIN
   have HPS := Lib.hid (HV.out.2 p HIN.out)
   have q0 : decide (i < ws.length) = true := decide_eq_true hlt
   unfold sv at hl
   clear hE hp
   go_wp2_with (first | refine u0 ?_ | (refine uS ?_; clear HX; intro w HX) | (refine uA ?_; clear HX; (first | (have hq := b5; clear hq; intro w b6 HX) | (have hq := b4; clear hq; intro w b5 HX) | (have hq := b3; clear hq; intro w b4 HX) | (have hq := b2; clear hq; intro w b3 HX) | (have hq := b; clear hq; intro w b2 HX) | intro w b HX)) | ((with_reducible apply yau' hl); (· rfl); (· rfl); simp only [Act.put, k_a, k_b, k_c]))
   refine (yyl' (HX.out.pm 4 [1, 2, 3, 0] rfl rfl : Sep w0 _ (yir' b b4 b5 id S P (yab' w0 P :: R)) rows) hd ⟨p.toArray⟩ (by show p.toArray.size ≤ _; rw [List.size_toArray]; exact HPS.out) hH).mono ?_
   have e1 : (⟨p.toArray⟩ : ByteArray).data.toList = p := rfl
   rw [e1]
   obtain ⟨z, hz⟩ : ∃ z, ybp' S.held id p = z := ⟨_, rfl⟩
   rw [hz]
   rintro e w ⟨rfl, hx⟩
   clear HX hl e1
   have HX := Lib.hid (show Sep w0 w (yab' w0 P :: yir' b b4 b5 id S P R) rows from hx.pm 4 [3, 0, 1, 2] rfl rfl)
   have HZ := Lib.hid hz
   clear hx hz
   cases z with
   | true =>
    go_wp2_with (first | refine u0 ?_ | (refine uS ?_; clear HX; intro w HX) | (refine uA ?_; clear HX; (first | (have hq := b5; clear hq; intro w b6 HX) | (have hq := b4; clear hq; intro w b5 HX) | (have hq := b3; clear hq; intro w b4 HX) | (have hq := b2; clear hq; intro w b3 HX) | (have hq := b; clear hq; intro w b2 HX) | intro w b HX)))
    go_ret
    refine ⟨(i : Int), rfl, ?_, HX.out⟩
    rw [List.any_eq_true.2 ⟨p, HIN.out, HZ.out⟩]
    exact decide_eq_true (by omega)
   | false =>
    go_wp2_with (first | refine u0 ?_ | (refine uS ?_; clear HX; intro w HX) | (refine uA ?_; clear HX; (first | (have hq := b5; clear hq; intro w b6 HX) | (have hq := b4; clear hq; intro w b5 HX) | (have hq := b3; clear hq; intro w b4 HX) | (have hq := b2; clear hq; intro w b3 HX) | (have hq := b; clear hq; intro w b2 HX) | intro w b HX)))
    go_roundg (ws.length - (i + 1))
    case rel => exact ⟨i + 1, by omega, by go_num, by
     rw [HTK.out]
     intro q hq
     rcases List.mem_append.1 hq with hq | hq
     ·exact HNO.out q hq
     ·rw [List.mem_singleton] at hq; rw [hq]; exact HZ.out, HX.out⟩
    case measure => omega
set_option maxRecDepth 100000 in
theorem yn0' {b4 b5 : Nat} {id : Int} (h : Sep w0 w (yab' w0 P :: yir' b b4 b5 id S P R) rows) (hd : DoorN w0) (ws : List Bs) (v : Value) (hv : (1, v, ws.map sv) ∈ P) (hp : ∀ p ∈ ws, p.length ≤ 100000) (hH : ∀ e ∈ S.held, e.1.length ≤ 100000) (hn : ws.length ≤ 100000) :
  Calls Tryz.prog 141 #[v, cloV b4 b5] w fun e w' => e = .returned (.bool (ws.any fun p => ybp' S.held id p)) ∧ Sep w0 w' (yab' w0 P :: yir' b b4 b5 id S P R) rows := by
 have HC := Lib.hid (yqr' h hd ws v hv hp hH hn)
 clear h hv hn hp
 obtain ⟨z, hz⟩ : ∃ z, (ws.any fun p => ybp' S.held id p) = z := ⟨_, rfl⟩
 rw [hz] at HC ⊢
 clear hz
 go_enter Tryz.func141, Tryz.ntmps141
 go_wp2_with fail
 refine HC.out.mono ?_
 rintro e w ⟨r, rfl, hr, hS⟩
 have HX := Lib.hid hS
 clear hS HC
 go_wp2_with fail
 go_ret
 refine ⟨?_, HX.out⟩
 rw [← hr]
 rfl
theorem yil' {d : List Int} {m : Nat} (h : Sep w0 w (yam' (.int .i64) m (d.map ikv) :: R) rows) (i : Int) : (Instr.lookup 121 (.map (some m)) (.int .i64 i) false).run Tryz.prog w = .ok (.bool (decide (i ∈ d))) w := by
 have hM := h.mapIs
 by_cases hi : i ∈ d
 ·rw [decide_eq_true hi]
  exact yf8' hM Tryz.underlying121 Tryz.underlying2 (key := .int .i64 i) (by first | trivial | rfl | exact ⟨_, rfl⟩) (List.mem_map.2 ⟨i, hi, rfl⟩) false
 ·rw [decide_eq_false hi]
  refine yfq' hM Tryz.underlying121 Tryz.underlying2 (key := .int .i64 i) (by first | trivial | rfl | exact ⟨_, rfl⟩) (fun q hq e => ?_) (by kernel_rfl) false
  obtain ⟨j, hj, rfl⟩ := List.mem_map.1 hq
  simp only [ikv, Value.int.injEq, true_and] at e
  exact hi (e ▸ hj)
end
end Go.Proofs.YtcnkifbjlihaoaaGreatDoor

namespace Go.Proofs.YtcnkifbjlihaoaaGreatDoor
open Go.RowKit Go.Av
section
variable {w0 w : World} {t : Nat} {S : TreeS} {P P' : List PRow} {R : List Thing} {rows : List (Value × Bs)}
set_option maxRecDepth 100000 in
set_option maxHeartbeats 1000000 in
theorem yox' (h : Sep w0 w (yab' w0 P :: R) rows) (room : Int) (h1 : 1 ≤ room) (h2 : room ≤ 500) :
  Calls Tryz.prog 58 #[.int .i64 room] w fun e w' => ∃ t, e = .returned (.tuple #[.pointer (some ⟨t, 0, none⟩), .int .i64 0]) ∧ Sep w0 w' (yab' w0 P :: yaj' t ⟨room, []⟩ P :: R) rows := by
 have h3 := (h.newMap .string).newCell (.cells #[.int .i64 room, .map (some w.heap.size)] 213 (0, 0))
 rw [show (w.alloc (.map #[] 0)).heap.size = w.heap.size + 1 by simp] at h3
 have H := Lib.hid h3
 have hmm := @run_makeMap Tryz.prog
 have q1 : decide (room < 1) = false := decide_eq_false (by omega)
 have q2 : decide (500 < room) = false := decide_eq_false (by omega)
 clear h h3
 go_enter Tryz.func58, Tryz.ntmps58
 go_wp2_with fail
 go_ret2
 refine ⟨_, rfl, ?_⟩
 have h4 := Sep.shut (O := TrO (w.heap.size + 1) ⟨room, []⟩ P) (L := trTh (w.heap.size + 1) w.heap.size room []) ⟨w.heap.size, [], rfl, List.Perm.refl _, List.Pairwise.nil, fun g hg => by cases hg⟩ H.out
 exact h4.perm (List.Perm.swap _ _ _)
set_option maxRecDepth 100000 in
theorem ygg' (h : Sep w0 w (yaj' t S P :: R) rows) : Calls Tryz.prog 99 #[.pointer (some ⟨t, 0, none⟩)] w fun e w' => e = .returned (.int .i64 (S.l.length : Nat)) ∧ Upd w w' [] [] := by
 obtain ⟨m, -, hm1, -, -, hlen⟩ := ycy' h
 have hl := hlen 3 w rfl
 clear h hlen
 go_enter Tryz.func99, Tryz.ntmps99
 go_wp2_with fail
 go_ret
 exact ⟨rfl, Upd.refl _ _⟩
def yx6' (w0 : World) (t : Nat) (S : TreeS) (P : List PRow) (R : List Thing) (rows : List (Value × Bs)) (n : NodeS) (e : Ending) (w' : World) : Prop :=
 ∃ nv P', e = .returned (.tuple #[n.val nv, .bool true]) ∧ (∀ q ∈ P, q ∈ P') ∧ (1, nv, n.names.map sv) ∈ P' ∧ Sep w0 w' (yab' w0 P' :: yaj' t S P' :: R) rows
set_option maxRecDepth 100000 in
set_option maxHeartbeats 4000000 in
theorem yls' (h : Sep w0 w (yab' w0 P :: yaj' t S P :: R) rows) (s : ByteArray) (n : NodeS) (hl : yal' s.data.toList S.l = some n) (hok : NodeOk n) :
  Calls Tryz.prog 97 #[.pointer (some ⟨t, 0, none⟩), .string s] w (yx6' w0 t S P R rows n) := by
 have hA := h.newCell (.cells #[.int .i64 0, .int .i64 0, .int .i64 0, .int .i64 0, .int .i64 0, .int .i64 0, .int .i64 0, .string ⟨#[]⟩, .int .i64 0, .slice none 0 0] 172)
 obtain ⟨m, -, hm1, -, hsome, -⟩ := ycy' (hA.pick 2 rfl rfl)
 obtain ⟨x, nv, hnv, hb, hk0⟩ := hsome s n hl
 obtain ⟨wA, hwA⟩ : ∃ wA, wA = w.alloc (.cells #[.int .i64 0, .int .i64 0, .int .i64 0, .int .i64 0, .int .i64 0, .int .i64 0, .int .i64 0, .string ⟨#[]⟩, .int .i64 0, .slice none 0 0] 172) := ⟨_, rfl⟩
 rw [← hwA] at hA hm1 hb hk0
 have hk := hk0 wA rfl
 obtain ⟨E, hE⟩ := (hA.pick 1 rfl rfl).poolGet hnv
 have HCP := Lib.hid (yhh' n nv wA E hE hok.few)
 unfold yrl' NodeS.val NodeS.cells at HCP
 obtain ⟨n0, n1, n2, n3, n4, n5, n6, n7, n8, n9⟩ := yj6' hb
 obtain ⟨na, nn, nc, rfl, -⟩ := id hE
 have HA := Lib.hid hA
 have HWA := Lib.hid hwA
 clear h hA hsome hnv hb hk0 hE hl hwA
 go_enter Tryz.func97, Tryz.ntmps97
 go_upto_region 1 with fail
 rw [← HWA.out]
 go_wp2_with fail
 refine HCP.out.mono ?_
 rintro e w2 ⟨v2, D2, rfl, ho2, hu2⟩
 obtain ⟨a2, l2, k2, rfl, -⟩ := id ho2
 have h8 := ((((HA.out.addRow ho2 hu2).pick 2 rfl rfl).perm (List.Perm.swap _ _ _)).poolRow).pick 2 rfl rfl
 have HX := Lib.hid ((yaz' h8 (P' := (1, .slice a2 l2 k2, n.names.map sv) :: P) (fun q hq => k_n _ hq)).perm ((List.Perm.cons _ (List.Perm.swap _ _ _)).trans (List.perm_middle (l₁ := [_, _])).symm))
 clear h8 ho2 hu2 HCP n0 n1 n2 n3 n4 n5 n6 n7 n8 n9 hk hm1
 have r0 := yaa' HX.out.blk 0 (v := .int .i64 0) rfl
 have g0 := yad' HX.out.blk 0
 have r1 := yaa' HX.out.blk 1 (v := .int .i64 0) rfl
 have g1 := yad' HX.out.blk 1
 have r2 := yaa' HX.out.blk 2 (v := .int .i64 0) rfl
 have g2 := yad' HX.out.blk 2
 have r3 := yaa' HX.out.blk 3 (v := .int .i64 0) rfl
 have g3 := yad' HX.out.blk 3
 have r4 := yaa' HX.out.blk 4 (v := .int .i64 0) rfl
 have g4 := yad' HX.out.blk 4
 have r5 := yaa' HX.out.blk 5 (v := .int .i64 0) rfl
 have g5 := yad' HX.out.blk 5
 have r6 := yaa' HX.out.blk 6 (v := .int .i64 0) rfl
 have g6 := yad' HX.out.blk 6
 have r7 := yaa' HX.out.blk 7 (v := .string ⟨#[]⟩) rfl
 have g7 := yad' HX.out.blk 7
 have r8 := yaa' HX.out.blk 8 (v := .int .i64 0) rfl
 have g8 := yad' HX.out.blk 8
 have r9 := yaa' HX.out.blk 9 (v := .slice none 0 0) rfl
 have g9 := yad' HX.out.blk 9
 have HF := Lib.hid (HX.out.setAll [.int .i64 n.made, .int .i64 n.changed, .int .i64 n.ver, .int .i64 n.kids, .int .i64 n.owner, .int .i64 (n.data.size : Nat), .int .i64 (n.names.length : Nat), .string n.data, .int .i64 n.next, .slice a2 l2 k2] rfl)
 go_wp2_with fail
 refine bodyPost_ret (ytt' rfl _ rfl HF.out.blk Tryz.underlying172 (by kernel_rfl)) rfl ?_
 exact ⟨.slice a2 l2 k2, _, rfl, fun q hq => k_n _ hq, k_s, HF.out.drop⟩
end
end Go.Proofs.YtcnkifbjlihaoaaGreatDoor

namespace Go.Av
theorem ylz' {H : ybx'} {id : Int} {ops : List OpS} (h : ∀ o ∈ ops, ((yay' o).any fun p => ybp' H id p) = false) : yes' H id ops = none := by
 unfold yes'
 rw [List.findIdx?_eq_none_iff]
 exact h
theorem yqa' {H : ybx'} {id : Int} {ops : List OpS} {i : Nat} (hi : i < ops.length) (h : ∀ o ∈ ops.take i, ((yay' o).any fun p => ybp' H id p) = false) (hb : ((yay' ops[i]).any fun p => ybp' H id p) = true) : yes' H id ops = some i := by
 unfold yes'
 rw [List.findIdx?_eq_some_iff_getElem]
 refine ⟨hi, hb, fun j hj => ?_⟩
 have := h ops[j] (List.mem_iff_getElem.2 ⟨j, by rw [List.length_take]; omega, by rw [List.getElem_take]⟩)
 rw [this]
 exact Bool.false_ne_true
theorem yhd' (o : OpS) {K : Nat} (h : o.p.length ≤ K) (hK : 200 ≤ K) : ∀ p ∈ yay' o, p.length ≤ K := by
 intro p hp
 unfold yay' at hp
 split at hp
 ·rw [List.mem_singleton] at hp; rw [hp]; exact h
 ·rename_i up hu
  have hup := yj9' hu
  split at hp
  ·rcases List.mem_cons.1 hp with rfl | hp
   ·exact h
   ·rw [List.mem_singleton] at hp; rw [hp]; omega
  ·rw [List.mem_singleton] at hp; rw [hp]; exact h
theorem yhc' (o : OpS) : (yay' o).length ≤ 100000 := by
 unfold yay'
 split
 ·simp
 ·split <;> simp
theorem ynx' {S : PartS} {id sess : Int} {ops : List OpS} (h : sess ∈ S.closed) : ydk' S id sess ops = (11, -1) := by unfold ydk'; rw [if_pos h]
theorem yl0' {S : PartS} {id sess : Int} {ops : List OpS} (h : ¬ sess ∈ S.closed) (h2 : ycz' S.wait sess = true) : ydk' S id sess ops = (12, -1) := by unfold ydk'; rw [if_neg h, if_pos h2]
theorem yqc' {S : PartS} {id sess : Int} {ops : List OpS} (h : ¬ sess ∈ S.closed) (h2 : ycz' S.wait sess = false) {i : Nat} (h3 : yes' S.held id ops = some i) : ydk' S id sess ops = (12, (i : Int)) := by
 unfold ydk'; rw [if_neg h, if_neg (by rw [h2]; exact Bool.false_ne_true), h3]
theorem yr0' {S : PartS} {id sess : Int} {ops : List OpS} (h : ¬ sess ∈ S.closed) (h2 : ycz' S.wait sess = false) (h3 : yes' S.held id ops = none) :
  ydk' S id sess ops = if 0 < yan' ops ∧ 0 < ya2' S.wait ∧ S.t.room < ya2' S.wait + S.t.l.length + yan' ops then (12, (yd5' ops : Int)) else (0, -1) := by
 unfold ydk'; rw [if_neg h, if_neg (by rw [h2]; exact Bool.false_ne_true), h3]
end Go.Av
namespace Go.Proofs.YtcnkifbjlihaoaaGreatDoor
open Go.RowKit Go.Av
section
variable {w0 w : World} {b : Nat} {S : PartS} {P P' : List PRow} {R : List Thing} {rows : List (Value × Bs)}
def yx1' (w0 : World) (b : Nat) (S : PartS) (P : List PRow) (R : List Thing) (rows : List (Value × Bs)) (r : Int × Int) (e : Ending) (w' : World) : Prop :=
 ∃ P', e = .returned (.tuple #[.int .i64 r.1, .int .i64 r.2]) ∧ (∀ q ∈ P, q ∈ P') ∧ Sep w0 w' (yab' w0 P' :: ybk' b S P' :: R) rows
def yxc' (w0 : World) (b b2 b3 : Nat) (id : Int) (ops : List OpS) (S : PartS) (P : List PRow) (R : List Thing) (rows : List (Value × Bs)) (k : Nat) (v : Value) (w : World) : Prop :=
 ∃ (i : Nat) (P' : List PRow), i + k = ops.length ∧ v = .int .i64 (i : Int) ∧ (∀ q ∈ P, q ∈ P') ∧ (∀ o ∈ ops.take i, ((yay' o).any fun p => ybp' S.held id p) = false) ∧ Sep w0 w (yab' w0 P' :: yir' b b2 b3 id S P' R) rows
set_option maxRecDepth 100000 in
set_option maxHeartbeats 8000000 in
theorem yo6' (h : Sep w0 w (yab' w0 P :: ybk' b S P :: R) rows) (hd : DoorN w0) (id sess : Int) (ops : List OpS) (v : Value) (hv : (5, v, ops.flatMap OpS.cells) ∈ P) (hg : ∀ o ∈ ops, o.path.size ≤ 100000 ∧ 0 ≤ o.flags ∧ o.flags ≤ 3) (hn : ops.length ≤ 1000)
  (hH : ∀ e ∈ S.held, e.1.length ≤ 100000) (hW : ya2' S.wait ≤ 50000) (hO : ∀ e ∈ S.wait, e.2.ops.length ≤ 100000) (hT : S.t.l.length ≤ 500 ∧ S.t.room ≤ 500) :
  Calls Tryz.prog 62 #[.pointer (some ⟨b, 0, none⟩), .int .i64 id, .int .i64 sess, v] w (yx1' w0 b S P R rows (ydk' S id sess ops)) := by
 obtain ⟨E, hE⟩ := h.poolGet hv
 obtain ⟨a, n, c, rfl, hl0, -, -, hne⟩ := ReadRow.some hE
 rw [yav' yak'] at hl0
 obtain rfl : ops.length = n := by omega
 have HNE := Lib.hid hne
 have HV := Lib.hid (show _ ∧ _ ∧ _ from ⟨hv, hg, hn⟩)
 have HB := Lib.hid (show _ ∧ _ ∧ _ ∧ _ from ⟨hH, hW, hO, hT⟩)
 have HX := Lib.hid h
 obtain ⟨res, hres⟩ : ∃ res, ydk' S id sess ops = res := ⟨_, rfl⟩
 rw [hres]
 have HRES := Lib.hid hres
 clear h hE hne hv hl0 hg hH hW hO hT hres
 go_enter Tryz.func62, Tryz.ntmps62
 go_upto_region 1 with (first | refine u0 ?_ | (refine uS ?_; clear HX; intro w HX) | (refine uA ?_; clear HX; (first | (have hq := b4; clear hq; intro w b5 HX) | (have hq := b3; clear hq; intro w b4 HX) | (have hq := b2; clear hq; intro w b3 HX) | (have hq := b; clear hq; intro w b2 HX) | intro w b HX)))
 obtain ⟨t, lk, mw, md, mc, gs, hgs, hgv, hS⟩ := ybt' HX.out.up3
 have HG := Lib.hid (show _ ∧ _ from ⟨hgs, hgv⟩)
 have hk := yil' hS.up5 sess
 obtain ⟨zc, hzc⟩ : ∃ z, decide (sess ∈ S.closed) = z := ⟨_, rfl⟩
 rw [hzc] at hk
 have HZC := Lib.hid hzc
 clear HX hgs hgv hzc
 have HX := Lib.hid hS
 clear hS
 cases zc with
 | true =>
  obtain rfl : res = (11, -1) := by rw [← HRES.out]; exact ynx' (of_decide_eq_true HZC.out)
  go_wp2_with (first | refine u0 ?_ | (refine uS ?_; clear HX; intro w HX) | (refine uA ?_; clear HX; (first | (have hq := b4; clear hq; intro w b5 HX) | (have hq := b3; clear hq; intro w b4 HX) | (have hq := b2; clear hq; intro w b3 HX) | (have hq := b; clear hq; intro w b2 HX) | intro w b HX)))
  go_ret2
  exact ⟨P, rfl, fun q hq => hq, (ya7' HX.out HG.out.1 HG.out.2).pm 4 [3, 0] rfl rfl⟩
 | false =>
  have HNC := Lib.hid (of_decide_eq_false HZC.out)
  go_wp2_with (first | refine u0 ?_ | (refine uS ?_; clear HX; intro w HX) | (refine uA ?_; clear HX; (first | (have hq := b4; clear hq; intro w b5 HX) | (have hq := b3; clear hq; intro w b4 HX) | (have hq := b2; clear hq; intro w b3 HX) | (have hq := b; clear hq; intro w b2 HX) | intro w b HX)))
  have h9 := (ya7' HX.out HG.out.1 HG.out.2).up3
  clear HX hk
  have HX := Lib.hid h9
  clear h9
  refine (ynz' HX.out sess).mono ?_
  obtain ⟨z2, hz2⟩ : ∃ z, ycz' S.wait sess = z := ⟨_, rfl⟩
  rw [hz2]
  rintro e w ⟨rfl, hx⟩
  replace HX := Lib.hid hx
  have HZ2 := Lib.hid hz2
  clear hx hz2
  cases z2 with
  | true =>
   obtain rfl : res = (12, -1) := by rw [← HRES.out]; exact yl0' HNC.out HZ2.out
   go_wp2_with (first | refine u0 ?_ | (refine uS ?_; clear HX; intro w HX) | (refine uA ?_; clear HX; (first | (have hq := b4; clear hq; intro w b5 HX) | (have hq := b3; clear hq; intro w b4 HX) | (have hq := b2; clear hq; intro w b3 HX) | (have hq := b; clear hq; intro w b2 HX) | intro w b HX)))
   go_ret2
   exact ⟨P, rfl, fun q hq => hq, HX.out.pm 4 [0, 1] rfl rfl⟩
  | false =>
   go_wp2_with (first | refine u0 ?_ | (refine uS ?_; clear HX; intro w HX) | (refine uA ?_; clear HX; (first | (have hq := b4; clear hq; intro w b5 HX) | (have hq := b3; clear hq; intro w b4 HX) | (have hq := b2; clear hq; intro w b3 HX) | (have hq := b; clear hq; intro w b2 HX) | intro w b HX)))
   have HST := Lib.hid (show yxc' w0 b b2 b3 id ops S P R rows ops.length (.int .i64 (0 : Int)) w from ⟨0, P, by simp, rfl, fun q hq => hq, by simp, HX.out.pm 4 [0, 2, 3, 1] rfl rfl⟩)
   clear HX
   go_loopg [10, 11, 28] ops.length (fun k _ _ v wr => yxc' w0 b b2 b3 id ops S P R rows k v wr)
   case atStart => exact HST.out
   case round =>
    rename World => w
    obtain ⟨i, P1, hik, rfl, hP1, hno, hS⟩ := hrel
    clear HST
    have HX := Lib.hid hS
    have HP1 := Lib.hid (show _ ∧ _ from ⟨hP1, hno⟩)
    clear hS hP1 hno
    by_cases hlt : i < ops.length
    case neg =>
     obtain rfl : i = ops.length := by omega
     have hno := HP1.out.2
     rw [List.take_length] at hno
     have HRM := Lib.hid (show res = _ from HRES.out.symm.trans (yr0' HNC.out HZ2.out (ylz' hno)))
     clear hno hlt hik
     go_wp2_with (first | refine u0 ?_ | (refine uS ?_; clear HX; intro w HX) | (refine uA ?_; clear HX; (first | (have hq := b4; clear hq; intro w b5 HX) | (have hq := b3; clear hq; intro w b4 HX) | (have hq := b2; clear hq; intro w b3 HX) | (have hq := b; clear hq; intro w b2 HX) | intro w b HX)))
     refine (yit' HX.out ops _ (HP1.out.1 _ HV.out.1) (by have := HV.out.2.2; omega)).mono ?_
     obtain ⟨cn, hcn⟩ : ∃ cn, yan' ops = cn := ⟨_, rfl⟩
     obtain ⟨fc, hfc⟩ : ∃ fc, yd5' ops = fc := ⟨_, rfl⟩
     rw [hcn, hfc] at HRM ⊢
     have hcb : cn ≤ 1000 := by rw [← hcn]; have h1 := yf6' ops; have h2 := HV.out.2.2; omega
     rintro e w ⟨rfl, hx⟩
     clear HX hcn hfc
     have HX := Lib.hid hx
     clear hx
     go_wp2_with (first | refine u0 ?_ | (refine uS ?_; clear HX; intro w HX) | (refine uA ?_; clear HX; (first | (have hq := b4; clear hq; intro w b5 HX) | (have hq := b3; clear hq; intro w b4 HX) | (have hq := b2; clear hq; intro w b3 HX) | (have hq := b; clear hq; intro w b2 HX) | intro w b HX)))
     refine (yrh' HX.out.up3.up1 (by have := HB.out.2.1; omega) HB.out.2.2.1).mono ?_
     obtain ⟨wn, hwn⟩ : ∃ wn, ya2' S.wait = wn := ⟨_, rfl⟩
     rw [hwn] at HRM ⊢
     have hwb : wn ≤ 50000 := by rw [← hwn]; exact HB.out.2.1
     rintro e w ⟨rfl, hx⟩
     clear HX hwn
     obtain ⟨t, lk, mw, md, mc, gs, hgs, hgv, hS⟩ := ybt' hx.up1
     have HG := Lib.hid (show _ ∧ _ from ⟨hgs, hgv⟩)
     obtain ⟨R', hR'⟩ : ∃ R', ThLk lk S.held :: yam' (.int .i64) mw (gs.map WaitG.kv) :: yam' (.int .i64) md (S.decided.map ikv) :: yam' (.int .i64) mc (S.closed.map ikv) :: yab' w0 P1 :: yac' b3 (.cells #[.int .i64 id] 2 (0, 0)) :: R = R' := ⟨_, rfl⟩
     have h3 : Sep w0 w (yaj' t S.t P1 :: yac' b (.cells (yai' S.t.room t lk S.zxid mw md mc) 123 (0, 0)) :: yac' b2 (.cells #[.pointer (some ⟨b, 0, none⟩)] 24 (0, 0)) :: R') rows := by
      rw [← hR']
      exact hS.pm 9 [1, 0, 8, 2, 3, 4, 5, 6, 7] rfl rfl
     have HRR := Lib.hid hR'
     have HX := Lib.hid h3
     have hlb := HB.out.2.2.2.1
     have HFIN := Lib.hid (show ∀ w', Sep w0 w' (yaj' t S.t P1 :: yac' b (.cells (yai' S.t.room t lk S.zxid mw md mc) 123 (0, 0)) :: yac' b2 (.cells #[.pointer (some ⟨b, 0, none⟩)] 24 (0, 0)) :: R') rows → Sep w0 w' (yab' w0 P1 :: ybk' b S P1 :: R) rows from fun w' h5 => by
      rw [← hR'] at h5
      exact (ya7' (b := b) (t := t) (lk := lk) (mw := mw) (md := md) (mc := mc) (gs := gs) (S := S) (R := yab' w0 P1 :: R) (h5.pm 9 [1, 0, 3, 4, 5, 6, 7] rfl rfl) hgs hgv).up1)
     clear hx hgs hgv hS hR' h3
     go_wp2_with (first | refine u0 ?_ | (refine uS ?_; clear HX; intro w HX) | (refine uA ?_; clear HX; (first | (have hq := b4; clear hq; intro w b5 HX) | (have hq := b3; clear hq; intro w b4 HX) | (have hq := b2; clear hq; intro w b3 HX) | (have hq := b; clear hq; intro w b2 HX) | intro w b HX)))
     by_cases hc0 : 0 < cn
     ·by_cases hw0 : 0 < wn
      ·have hq1 : decide (0 < (cn : Int)) = true := decide_eq_true (by omega)
       have hq2 : decide (0 < (wn : Int)) = true := decide_eq_true (by omega)
       have hq3 : decide (0 < cn) = true := decide_eq_true hc0
       have hq4 : decide (0 < wn) = true := decide_eq_true hw0
       obtain ⟨ln, hln⟩ : ∃ ln, S.t.l.length = ln := ⟨_, rfl⟩
       rw [hln] at HRM hlb
       have hs1 : IntKind.i64.wrap ((wn : Int) + (ln : Int)) = (wn : Int) + (ln : Int) := IntWalk.i64_in _ (by omega)
       have hs2 : IntKind.i64.wrap ((wn : Int) + (ln : Int) + (cn : Int)) = (wn : Int) + (ln : Int) + (cn : Int) := IntWalk.i64_in _ (by omega)
       have HLN := Lib.hid hln
       clear hln
       by_cases hrm : S.t.room < (wn : Int) + (ln : Int) + (cn : Int)
       ·obtain rfl : res = (12, (fc : Int)) := by rw [HRM.out, if_pos ⟨hc0, hw0, hrm⟩]
        have hq5 : decide (S.t.room < (wn : Int) + (ln : Int) + (cn : Int)) = true := decide_eq_true hrm
        refine rM (fun W => Sep w0 W (yaj' t S.t P1 :: yac' b (.cells (yai' S.t.room t lk S.zxid mw md mc) 123 (0, 0)) :: yac' b2 (.cells #[.pointer (some ⟨b, 0, none⟩)] 24 (0, 0)) :: R') rows) 22 ?_
        intro KEEPX
        replace HX := Lib.hid HX.out.drew
        refine rT [(0, false), (1, false), (2, false), (3, false), (4, false), (5, false), (6, false), (7, false), (8, true), (9, false), (10, false), (11, true), (14, false), (16, true), (17, false), (18, false), (19, true)] 5 ?_
        apply Exists.intro; refine ⟨?_, HX.out, ?_⟩
        ·iterate 17 (first | refine xE ?_ | ((first | apply yax' | apply yas'); (· (simp only [k_i, k_j, k_k]; try rfl)); (· rfl); (· (intros; go_simp; (try simp only [hq1, hq2, hq3, hq4, hq5, hs1, hs2, ↓reduceIte, and_self, Int.toNat_natCast]); try with_reducible rfl)); (· (simp only [Act.put, k_a, k_b, k_c, k_d, k_e, k_f, k_g, k_h, NodeS.cells, OpS.cells, ResS.cells]; try rfl))))
         exact rfl
        refine r1 4 12 fun K hK => ?_
        go_wp2_with fail
        refine (ygg' HX.out).mono ?_
        rw [HLN.out]
        rintro e w1 ⟨rfl, hu⟩
        replace HX := Lib.hid (HX.out.keep hu)
        clear hu
        go_wp2_with fail
        refine hK _ _ HX.out ?_
        clear hK
        refine rT [(13, false), (15, false), (20, false), (21, false)] 0 ?_
        apply Exists.intro; refine ⟨?_, HX.out, ?_⟩
        ·iterate 4 (first | refine xE ?_ | ((first | apply yax' | apply yas'); (· (simp only [k_i, k_j, k_k]; try rfl)); (· rfl); (· (intros; go_simp; (try simp only [hq1, hq2, hq3, hq4, hq5, hs1, hs2, ↓reduceIte, and_self, Int.toNat_natCast]); try with_reducible rfl)); (· (simp only [Act.put, k_a, k_b, k_c, k_d, k_e, k_f, k_g, k_h, NodeS.cells, OpS.cells, ResS.cells]; try rfl))))
         exact rfl
        refine yag' (by kernel_rfl) ?_ _
        go_wp2_with (first | refine u0 ?_ | (refine uS ?_; clear HX; intro w HX) | (refine uA ?_; clear HX; (first | (have hq := b4; clear hq; intro w b5 HX) | (have hq := b3; clear hq; intro w b4 HX) | (have hq := b2; clear hq; intro w b3 HX) | (have hq := b; clear hq; intro w b2 HX) | intro w b HX)))
        go_ret2
        exact ⟨P1, rfl, HP1.out.1, HFIN.out _ HX.out⟩
       ·obtain rfl : res = (0, -1) := by rw [HRM.out, if_neg (fun hh => hrm hh.2.2)]
        have hq5 : decide (S.t.room < (wn : Int) + (ln : Int) + (cn : Int)) = false := decide_eq_false hrm
        refine rM (fun W => Sep w0 W (yaj' t S.t P1 :: yac' b (.cells (yai' S.t.room t lk S.zxid mw md mc) 123 (0, 0)) :: yac' b2 (.cells #[.pointer (some ⟨b, 0, none⟩)] 24 (0, 0)) :: R') rows) 22 ?_
        intro KEEPX
        replace HX := Lib.hid HX.out.drew
        refine rT [(0, false), (1, false), (2, false), (3, false), (4, false), (5, false), (6, false), (7, false), (8, true), (9, false), (10, false), (11, true), (14, false), (16, true), (17, false), (18, false), (19, true)] 5 ?_
        apply Exists.intro; refine ⟨?_, HX.out, ?_⟩
        ·iterate 17 (first | refine xE ?_ | ((first | apply yax' | apply yas'); (· (simp only [k_i, k_j, k_k]; try rfl)); (· rfl); (· (intros; go_simp; (try simp only [hq1, hq2, hq3, hq4, hq5, hs1, hs2, ↓reduceIte, and_self, Int.toNat_natCast]); try with_reducible rfl)); (· (simp only [Act.put, k_a, k_b, k_c, k_d, k_e, k_f, k_g, k_h, NodeS.cells, OpS.cells, ResS.cells]; try rfl))))
         exact rfl
        refine r1 4 12 fun K hK => ?_
        go_wp2_with fail
        refine (ygg' HX.out).mono ?_
        rw [HLN.out]
        rintro e w1 ⟨rfl, hu⟩
        replace HX := Lib.hid (HX.out.keep hu)
        clear hu
        go_wp2_with fail
        refine hK _ _ HX.out ?_
        clear hK
        refine rT [(13, false), (15, false), (20, false), (21, false)] 0 ?_
        apply Exists.intro; refine ⟨?_, HX.out, ?_⟩
        ·iterate 4 (first | refine xE ?_ | ((first | apply yax' | apply yas'); (· (simp only [k_i, k_j, k_k]; try rfl)); (· rfl); (· (intros; go_simp; (try simp only [hq1, hq2, hq3, hq4, hq5, hs1, hs2, ↓reduceIte, and_self, Int.toNat_natCast]); try with_reducible rfl)); (· (simp only [Act.put, k_a, k_b, k_c, k_d, k_e, k_f, k_g, k_h, NodeS.cells, OpS.cells, ResS.cells]; try rfl))))
         exact rfl
        refine yag' (by kernel_rfl) ?_ _
        go_wp2_with (first | refine u0 ?_ | (refine uS ?_; clear HX; intro w HX) | (refine uA ?_; clear HX; (first | (have hq := b4; clear hq; intro w b5 HX) | (have hq := b3; clear hq; intro w b4 HX) | (have hq := b2; clear hq; intro w b3 HX) | (have hq := b; clear hq; intro w b2 HX) | intro w b HX)))
        go_ret2
        exact ⟨P1, rfl, HP1.out.1, HFIN.out _ HX.out⟩
      ·obtain rfl : res = (0, -1) := by rw [HRM.out, if_neg (fun hh => hw0 hh.2.1)]
       have hq1 : decide (0 < (cn : Int)) = true := decide_eq_true (by omega)
       have hq2 : decide (0 < (wn : Int)) = false := decide_eq_false (by omega)
       have hq3 : decide (0 < cn) = true := decide_eq_true hc0
       have hq4 : decide (0 < wn) = false := decide_eq_false hw0
       refine rM (fun W => Sep w0 W (yaj' t S.t P1 :: yac' b (.cells (yai' S.t.room t lk S.zxid mw md mc) 123 (0, 0)) :: yac' b2 (.cells #[.pointer (some ⟨b, 0, none⟩)] 24 (0, 0)) :: R') rows) 22 ?_
       intro KEEPX
       replace HX := Lib.hid HX.out.drew
       refine rT [(0, false), (1, false), (2, false), (3, false), (4, false), (5, false), (6, false), (7, false), (8, true), (9, false), (10, false), (11, true), (14, false), (16, true), (17, false), (18, false), (19, true)] 5 ?_
       apply Exists.intro; refine ⟨?_, HX.out, ?_⟩
       ·iterate 17 (first | refine xE ?_ | ((first | apply yax' | apply yas'); (· (simp only [k_i, k_j, k_k]; try rfl)); (· rfl); (· (intros; go_simp; (try simp only [hq1, hq2, hq3, hq4, ↓reduceIte, and_self, Int.toNat_natCast]); try with_reducible rfl)); (· (simp only [Act.put, k_a, k_b, k_c, k_d, k_e, k_f, k_g, k_h, NodeS.cells, OpS.cells, ResS.cells]; try rfl))))
        exact rfl
       apply ygh' (fuel := 4) (i := 12)
       ·kernel_rfl
       ·simp only [k_i, k_j, k_k]; try rfl
       ·rfl
       ·simp only [Act.put, k_a, k_b, k_c]; try rfl
       ·exact HX.out
       refine rT [(13, false), (15, false), (20, false), (21, false)] 0 ?_
       apply Exists.intro; refine ⟨?_, HX.out, ?_⟩
       ·iterate 4 (first | refine xE ?_ | ((first | apply yax' | apply yas'); (· (simp only [k_i, k_j, k_k]; try rfl)); (· rfl); (· (intros; go_simp; (try simp only [hq1, hq2, hq3, hq4, ↓reduceIte, and_self, Int.toNat_natCast]); try with_reducible rfl)); (· (simp only [Act.put, k_a, k_b, k_c, k_d, k_e, k_f, k_g, k_h, NodeS.cells, OpS.cells, ResS.cells]; try rfl))))
        exact rfl
       refine yag' (by kernel_rfl) ?_ _
       go_wp2_with (first | refine u0 ?_ | (refine uS ?_; clear HX; intro w HX) | (refine uA ?_; clear HX; (first | (have hq := b4; clear hq; intro w b5 HX) | (have hq := b3; clear hq; intro w b4 HX) | (have hq := b2; clear hq; intro w b3 HX) | (have hq := b; clear hq; intro w b2 HX) | intro w b HX)))
       go_ret2
       exact ⟨P1, rfl, HP1.out.1, HFIN.out _ HX.out⟩
     ·obtain rfl : res = (0, -1) := by rw [HRM.out, if_neg (fun hh => hc0 hh.1)]
      have hq1 : decide (0 < (cn : Int)) = false := decide_eq_false (by omega)
      have hq3 : decide (0 < cn) = false := decide_eq_false hc0
      refine rM (fun W => Sep w0 W (yaj' t S.t P1 :: yac' b (.cells (yai' S.t.room t lk S.zxid mw md mc) 123 (0, 0)) :: yac' b2 (.cells #[.pointer (some ⟨b, 0, none⟩)] 24 (0, 0)) :: R') rows) 22 ?_
      intro KEEPX
      replace HX := Lib.hid HX.out.drew
      refine rT [(0, false), (1, false), (2, false), (3, false), (4, false), (5, false), (6, false), (7, false), (8, true), (9, false), (10, false), (11, true), (14, false), (16, true), (17, false), (18, false), (19, true)] 5 ?_
      apply Exists.intro; refine ⟨?_, HX.out, ?_⟩
      ·iterate 17 (first | refine xE ?_ | ((first | apply yax' | apply yas'); (· (simp only [k_i, k_j, k_k]; try rfl)); (· rfl); (· (intros; go_simp; (try simp only [hq1, hq3, ↓reduceIte, and_self, Int.toNat_natCast]); try with_reducible rfl)); (· (simp only [Act.put, k_a, k_b, k_c, k_d, k_e, k_f, k_g, k_h, NodeS.cells, OpS.cells, ResS.cells]; try rfl))))
       exact rfl
      apply ygh' (fuel := 4) (i := 12)
      ·kernel_rfl
      ·simp only [k_i, k_j, k_k]; try rfl
      ·rfl
      ·simp only [Act.put, k_a, k_b, k_c]; try rfl
      ·exact HX.out
      refine rT [(13, false), (15, false), (20, false), (21, false)] 0 ?_
      apply Exists.intro; refine ⟨?_, HX.out, ?_⟩
      ·iterate 4 (first | refine xE ?_ | ((first | apply yax' | apply yas'); (· (simp only [k_i, k_j, k_k]; try rfl)); (· rfl); (· (intros; go_simp; (try simp only [hq1, hq3, ↓reduceIte, and_self, Int.toNat_natCast]); try with_reducible rfl)); (· (simp only [Act.put, k_a, k_b, k_c, k_d, k_e, k_f, k_g, k_h, NodeS.cells, OpS.cells, ResS.cells]; try rfl))))
       exact rfl
      refine yag' (by kernel_rfl) ?_ _
      go_wp2_with (first | refine u0 ?_ | (refine uS ?_; clear HX; intro w HX) | (refine uA ?_; clear HX; (first | (have hq := b4; clear hq; intro w b5 HX) | (have hq := b3; clear hq; intro w b4 HX) | (have hq := b2; clear hq; intro w b3 HX) | (have hq := b; clear hq; intro w b2 HX) | intro w b HX)))
      go_ret2
      exact ⟨P1, rfl, HP1.out.1, HFIN.out _ HX.out⟩
    case pos =>
     obtain ⟨g, off, rfl⟩ := HNE.out (by intro e; have := congrArg List.length e; rw [yav' yak'] at this; simp at this; omega)
     obtain ⟨E, hE⟩ := HX.out.poolGet (HP1.out.1 _ HV.out.1)
     have hl := ycs' (P := Tryz.prog) (f := OpS.cells) (i := i) hE yak' sn_op hlt
     have HTK := Lib.hid (show ops.take (i + 1) = ops.take i ++ [ops[i]] from List.take_succ_eq_append_getElem hlt)
     have hbl := fun hb => yqa' (H := S.held) (id := id) hlt HP1.out.2 hb
     have hgo := HV.out.2.1 ops[i] (List.getElem_mem hlt)
     obtain ⟨o, ho⟩ : ∃ o, ops[i] = o := ⟨_, rfl⟩
     rw [ho] at hl HTK hbl hgo
     have HBL := Lib.hid hbl
     have HGO := Lib.hid hgo
     have q0 : decide (i < ops.length) = true := decide_eq_true hlt
     have q9 : i ≤ 1000 := by have := HV.out.2.2; omega
     have hwl : ∀ p ∈ yay' o, p.length ≤ 100000 := yhd' o (by show o.path.data.toList.length ≤ _; have := hgo.1; simpa using this) (by omega)
     have HWL := Lib.hid hwl
     obtain ⟨kind, path, data, ver, flags⟩ := o
     simp only [OpS.cells] at hl
     clear hE ho hbl hgo hwl
     go_wp2_with (first | refine u0 ?_ | (refine uS ?_; clear HX; intro w HX) | (refine uA ?_; clear HX; (first | (have hq := b4; clear hq; intro w b5 HX) | (have hq := b3; clear hq; intro w b4 HX) | (have hq := b2; clear hq; intro w b3 HX) | (have hq := b; clear hq; intro w b2 HX) | intro w b HX)) | ((with_reducible apply yau' hl); (· rfl); (· rfl); simp only [Act.put, k_a, k_b, k_c]))
     refine (yhb' HX.out hd ⟨kind, path, data, ver, flags⟩ HGO.out.1 HGO.out.2.1 HGO.out.2.2).mono ?_
     rintro e w ⟨vw, rfl, hx⟩
     obtain ⟨wa, wn, wc, rfl, hwl, -, -⟩ := hx.rowLen
     obtain ⟨Q, hQ⟩ : ∃ Q, (1, Value.slice wa wn wc, (yay' ⟨kind, path, data, ver, flags⟩).map sv) :: P1 = Q := ⟨_, rfl⟩
     have h9 := hx.up2.up1.poolRow
     rw [hQ] at h9
     have hsub : ∀ q ∈ P1, q ∈ Q := by rw [← hQ]; exact fun q hq => k_n _ hq
     have HQ := Lib.hid (show (1, Value.slice wa wn wc, (yay' ⟨kind, path, data, ver, flags⟩).map sv) ∈ Q ∧ ∀ q ∈ P, q ∈ Q from ⟨by rw [← hQ]; exact k_s, fun q hq => hsub q (HP1.out.1 q hq)⟩)
     have h11 : Sep w0 w (yab' w0 Q :: yir' b b2 b3 id S Q (yac' b4 (.cells #[.int .i64 kind, .string path, .string data, .int .i64 ver, .int .i64 flags] 89 (0, 0)) :: R)) rows := (yde' h9.up4 hsub).pm 5 [1, 3, 4, 0, 2] rfl rfl
     clear HX hl hx h9 hQ hsub hwl
     have HX := Lib.hid h11
     clear h11
     go_wp2_with (first | refine u0 ?_ | (refine uS ?_; clear HX; intro w HX) | (refine uA ?_; clear HX; (first | (have hq := b4; clear hq; intro w b5 HX) | (have hq := b3; clear hq; intro w b4 HX) | (have hq := b2; clear hq; intro w b3 HX) | (have hq := b; clear hq; intro w b2 HX) | intro w b HX)))
     refine (yn0' HX.out hd (yay' ⟨kind, path, data, ver, flags⟩) _ HQ.out.1 HWL.out HB.out.1 (yhc' _)).mono ?_
     obtain ⟨z, hz⟩ : ∃ z, ((yay' ⟨kind, path, data, ver, flags⟩).any fun p => ybp' S.held id p) = z := ⟨_, rfl⟩
     rw [hz]
     rintro e w ⟨rfl, hx⟩
     replace HX := Lib.hid hx
     have HZ := Lib.hid hz
     clear hx hz
     cases z with
     | true =>
      obtain rfl : res = (12, (i : Int)) := by rw [← HRES.out]; exact yqc' HNC.out HZ2.out (HBL.out HZ.out)
      go_wp2_with (first | refine u0 ?_ | (refine uS ?_; clear HX; intro w HX) | (refine uA ?_; clear HX; (first | (have hq := b4; clear hq; intro w b5 HX) | (have hq := b3; clear hq; intro w b4 HX) | (have hq := b2; clear hq; intro w b3 HX) | (have hq := b; clear hq; intro w b2 HX) | intro w b HX)))
      go_ret2
      exact ⟨Q, rfl, HQ.out.2, HX.out.pm 5 [0, 3] rfl rfl⟩
     | false =>
      go_wp2_with (first | refine u0 ?_ | (refine uS ?_; clear HX; intro w HX) | (refine uA ?_; clear HX; (first | (have hq := b4; clear hq; intro w b5 HX) | (have hq := b3; clear hq; intro w b4 HX) | (have hq := b2; clear hq; intro w b3 HX) | (have hq := b; clear hq; intro w b2 HX) | intro w b HX)))
      go_roundg (ops.length - (i + 1))
      case rel => exact ⟨i + 1, Q, by omega, by go_num, HQ.out.2, by
       rw [HTK.out]
       intro q hq
       rcases List.mem_append.1 hq with hq | hq
       ·exact HP1.out.2 q hq
       ·rw [List.mem_singleton] at hq; rw [hq]; exact HZ.out, HX.out.pm 5 [0, 1, 2, 3] rfl rfl⟩
      case measure => omega
end
end Go.Proofs.YtcnkifbjlihaoaaGreatDoor

namespace Go.Av
theorem yo9' : ∀ (x d : Bs), (∀ c ∈ d, c ≠ 47) → (cutS (x ++ d)).dropLast = (cutS x).dropLast ∧ (cutS (x ++ d)).length = (cutS x).length
 | [], d, h => by
  have h1 : (cutS d).length = 1 := by rw [ygn', List.count_eq_zero.2 (fun hh => h 47 hh rfl)]
  rw [List.nil_append]
  refine ⟨?_, h1⟩
  match hc : cutS d, h1 with
  | [y], _ => rfl
 | c :: r, d, h => by
  obtain ⟨h1, h2⟩ := yo9' r d h
  rw [List.cons_append]
  unfold cutS
  by_cases hc : c = 47
  ·rw [if_pos hc, if_pos hc]
   refine ⟨?_, by rw [List.length_cons, List.length_cons, h2]⟩
   have n1 := yeu' (r ++ d)
   have n2 := yeu' r
   rw [List.dropLast_cons_of_ne_nil n1, List.dropLast_cons_of_ne_nil n2, h1]
  ·rw [if_neg hc, if_neg hc]
   match ha : cutS (r ++ d), hb : cutS r with
   | [], _ => exact absurd ha (yeu' _)
   | _ :: _, [] => exact absurd hb (yeu' _)
   | x1 :: t1, x2 :: t2 =>
    rw [ha, hb] at h1 h2
    simp only [List.length_cons] at h2
    cases t1 with
    | nil =>
     cases t2 with
     | nil => exact ⟨rfl, rfl⟩
     | cons y t2 => simp at h2
    | cons y t1 =>
     cases t2 with
     | nil => simp at h2
     | cons z t2 =>
      simp only [List.dropLast_cons_cons] at h1 ⊢
      injection h1 with h3 h4
      rw [h3, h4]
      exact ⟨rfl, by simp at h2 ⊢; omega⟩
theorem yjz' : ∀ (k u : Nat), u < 10 ^ (k + 1) → ∀ c ∈ Lib.decDigits u, c ≠ 47
 | 0, u, h => by
  rw [Lib.decDigits, dif_pos (by simpa using h)]
  intro c hc
  rw [List.mem_singleton] at hc
  have hu : u < 10 := by simpa using h
  rcases (show u = 0 ∨ u = 1 ∨ u = 2 ∨ u = 3 ∨ u = 4 ∨ u = 5 ∨ u = 6 ∨ u = 7 ∨ u = 8 ∨ u = 9 by omega) with rfl | rfl | rfl | rfl | rfl | rfl | rfl | rfl | rfl | rfl <;> (rw [hc]; decide)
 | k + 1, u, h => by
  rw [Lib.decDigits]
  split
  ·rename_i hu
   intro c hc
   rw [List.mem_singleton] at hc
   rcases (show u = 0 ∨ u = 1 ∨ u = 2 ∨ u = 3 ∨ u = 4 ∨ u = 5 ∨ u = 6 ∨ u = 7 ∨ u = 8 ∨ u = 9 by omega) with rfl | rfl | rfl | rfl | rfl | rfl | rfl | rfl | rfl | rfl <;> (rw [hc]; decide)
  ·intro c hc
   rcases List.mem_append.1 hc with hc | hc
   ·exact yjz' k (u / 10) (by rw [Nat.pow_succ] at h; omega) c hc
   ·rw [List.mem_singleton] at hc
    have hm : u % 10 < 10 := Nat.mod_lt _ (by omega)
    rcases (show u % 10 = 0 ∨ u % 10 = 1 ∨ u % 10 = 2 ∨ u % 10 = 3 ∨ u % 10 = 4 ∨ u % 10 = 5 ∨ u % 10 = 6 ∨ u % 10 = 7 ∨ u % 10 = 8 ∨ u % 10 = 9 by omega) with e | e | e | e | e | e | e | e | e | e <;> (rw [hc, e]; decide)
theorem yv9' {n : Int} (h0 : 0 ≤ n) (h : n ≤ 2147483647) : ∀ c ∈ padD n, c ≠ 47 := by
 intro c hc
 unfold padD at hc
 rcases List.mem_append.1 hc with hc | hc
 ·rw [List.mem_replicate] at hc
  rw [hc.2]
  decide
 ·exact yjz' 9 n.toNat (by omega) c hc
theorem ygs' {p q : Bs} {n : Int} (h : yb0' p n = some q) : yat' q = yat' p ∧ ybn' q = true := by
 unfold yb0' at h
 split at h
 ·cases h
 ·rename_i h1
  split at h
  ·rename_i h2
   cases h
   have hg : ybn' p = true := by
    cases hh : ybn' p with
    | true => rfl
    | false => exact absurd (.inl hh) h1
   have hn : 0 ≤ n ∧ n ≤ 2147483647 := by omega
   refine ⟨?_, h2⟩
   cases p with
   | nil => cases hg
   | cons c r =>
    obtain ⟨h3, h4⟩ := yo9' r (padD n) (yv9' hn.1 hn.2)
    unfold yat' ybs'
    rw [if_pos h2, if_pos hg]
    show (if (cutS (r ++ padD n)).length < 2 then none else some (ofP (cutS (r ++ padD n)).dropLast)) = if (cutS r).length < 2 then none else some (ofP (cutS r).dropLast)
    rw [h3, h4]
  ·cases h
end Go.Av

namespace Go.Av
open Go.RowKit
def ydj' (S : TreeS) : Prop := ∀ k ∈ S.l.map (·.1), ybn' k = true
theorem yr7' {p : Bs} (h : ybn' p = true) : 1 ≤ ydr' p ∧ ydr' p ≤ 8 := by
 unfold ydr' ybs'
 rw [if_pos h]
 cases p with
 | nil => cases h
 | cons c r =>
  unfold ybn' at h
  simp only [Bool.and_eq_true, decide_eq_true_eq] at h
  refine ⟨?_, h.2⟩
  have h1 := yeu' r
  show 1 ≤ (cutS r).length
  cases hc : cutS r with
  | nil => exact absurd hc h1
  | cons x l => simp
theorem yvr' (room : Int) : ydj' ⟨room, []⟩ := fun k hk => by simp at hk
theorem y07' {S : TreeS} (h : ydj' S) {q : Bs} (hq : ybn' q = true) (n : NodeS) : ydj' { S with l := layT q n S.l } := by
 intro k hk
 have hk : k ∈ (layT q n S.l).map (·.1) := hk
 unfold layT at hk
 rw [ygm'] at hk
 have h1 := ((ydt' q n S.l).map (·.1)).mem_iff.1 hk
 rcases List.mem_cons.1 h1 with h1 | h1
 ·rw [h1]; exact hq
 ·exact h k h1
theorem y0z' {S : TreeS} (h : ydj' S) (q : Bs) : ydj' { S with l := remT q S.l } := by
 intro k hk
 have hk : k ∈ (remT q S.l).map (·.1) := hk
 unfold remT at hk
 rw [ygm', yl6'] at hk
 exact h k (List.mem_filter.1 hk).1
theorem y1b' {S : TreeS} (h : ydj' S) (q : Bs) (n : NodeS) : ydj' { S with l := setT q n S.l } := by
 intro k hk
 have hk : k ∈ (setT q n S.l).map (·.1) := hk
 rw [yjc'] at hk
 exact h k hk
theorem yvi' {S : TreeS} {p : Bs} (h : (endT S p).1 = 0) : (endT S p).2 = p := by
 unfold endT at h ⊢
 split at h
 ·cases h
 ·rename_i h1
  rw [if_neg h1]
  split at h
  ·cases h
  ·rename_i h2
   rw [if_neg h2]
theorem ytg' {S : TreeS} {o : OpS} (hg : ybn' o.p = true) (h : (ya4' S o).1 = 0) : ybn' (ya4' S o).2 = true := by
 obtain ⟨x, hx⟩ : ∃ x, ya4' S o = x := ⟨_, rfl⟩
 rw [hx] at h ⊢
 unfold ya4' at hx
 split at hx
 ·subst hx
  rw [yvi' h]; exact hg
 ·split at hx
  ·subst hx; cases h
  ·split at hx
   ·subst hx; cases h
   ·split at hx
    ·split at hx
     ·subst hx; cases h
     ·rename_i q h5
      subst hx
      rw [yvi' h]
      exact (ygs' h5).2
    ·subst hx
     rw [yvi' h]; exact hg
theorem yu7' {S : TreeS} (h : ydj' S) {o : OpS} (hg : ybn' o.p = true) (sess zxid : Int) : ydj' (yb1' S o sess zxid).2 := by
 unfold yb1'
 split
 ·exact h
 ·rename_i h1
  exact y07' h (ytg' hg (by simpa using h1)) _
theorem yu1' {S : TreeS} (h : ydj' S) (o : OpS) (zxid : Int) : ydj' (yby' S o zxid).2 := by
 unfold yby'
 split
 ·exact h
 ·split
  ·exact h
  ·split
   ·exact h
   ·split
    ·exact y0z' h _
    ·split
     ·exact y1b' h _ _
     ·exact h
theorem do_g {S : TreeS} (h : ydj' S) (o : OpS) (sess zxid : Int) : ydj' (doT S o sess zxid).2 := by
 unfold doT
 split
 ·exact h
 ·rename_i h1
  have h1 : yb5' o = 0 := by simpa using h1
  split
  ·exact h
  ·split
   ·exact yu7' h (yc2' (ydm' h1).1).2.2.1 sess zxid
   ·split
    ·exact yu1' h o zxid
    ·exact h
theorem yt7' {sess zxid : Int} : ∀ (l : List OpS) {S : TreeS}, ydj' S → ydj' (yaq' sess zxid l S).2.1
 | [], S, h => h
 | o :: l, S, h => by
  have h1 := do_g h o sess zxid
  unfold yaq'
  split
  ·exact h1
  ·exact yt7' l h1
theorem yxp' {S : TreeS} (h : ydj' S) (sess zxid : Int) (ops : List OpS) : ydj' (ybv' S sess zxid ops).2.1 := by
 unfold ybv'
 split
 ·exact h
 ·split
  ·exact h
  ·split
   ·exact h
   ·exact yt7' ops h
theorem yts' {S : TreeS} (h : ydj' S) (sess num zxid : Int) (ops : List OpS) : ydj' (ya3' S sess num zxid ops).2 := by
 unfold ya3'
 split
 ·exact h
 ·exact yxp' h sess zxid ops
theorem y0v' : ∀ (l : List Bs) {S : TreeS}, ydj' S → ydj' (purT l S)
 | [], S, h => h
 | p :: l, S, h => y0v' l (y0z' h p)
theorem yzd' {S : TreeS} (h : ydj' S) (sess : Int) : ∀ p ∈ ofT S sess, 1 ≤ ydr' p ∧ ydr' p ≤ 8 := fun p hp => by
 obtain ⟨e, he, rfl⟩ := List.mem_map.1 hp
 exact yr7' (h _ (List.mem_map_of_mem (List.mem_filter.1 he).1))
theorem ym5' {K : Nat} {S : TreeS} (h : TreeB K S) (sess num zxid : Int) (ops : List OpS) : TreeB (K + 16) (ya3' S sess num zxid ops).2 := by
 unfold ya3'
 split
 ·exact h.mono (by omega)
 ·exact ysz' h sess zxid ops
theorem yek' (S : TreeS) (sess zxid : Int) (ops : List OpS) : (ybv' S sess zxid ops).2.1.room = S.room := by
 unfold ybv'
 split
 ·rfl
 ·split
  ·rfl
  ·split
   ·rfl
   ·exact yko' ops S
theorem yfe' (S : TreeS) (sess num zxid : Int) (ops : List OpS) : (ya3' S sess num zxid ops).2.room = S.room := by
 unfold ya3'
 split
 ·rfl
 ·exact yek' S sess zxid ops
theorem ygx' : ∀ (l : List Bs) (S : TreeS), (purT l S).room = S.room
 | [], S => rfl
 | p :: l, S => ygx' l _
end Go.Av

namespace Go.Av
structure PartB (K : Nat) (S : PartS) : Prop where
 tree : TreeB (16 * K) S.t
 held : ∀ e ∈ S.held, ybn' e.1 = true
 wait : ∀ e ∈ S.wait, e.2.ops.length ≤ 16 ∧ ∀ o ∈ e.2.ops, yb5' o = 0
 many : S.wait.length ≤ K
 zx : 0 ≤ S.zxid ∧ S.zxid ≤ K
 apart : ∀ e ∈ S.wait, e.1 ∉ S.decided
 good : ydj' S.t
theorem yum' {W : yd9'} (h : ∀ e ∈ W, e.2.ops.length ≤ 16) : ya2' W ≤ 16 * W.length := by
 induction W with
 | nil => simp [ya2']
 | cons e W ih =>
  have h1 := ih (fun x hx => h x (k_n _ hx))
  have h2 := h e k_s
  have h3 := yf6' e.2.ops
  unfold ya2' at h1 ⊢
  rw [List.map_cons, List.sum_cons, List.length_cons]
  split <;> omega
theorem PartB.wanted {K : Nat} {S : PartS} (h : PartB K S) : ya2' S.wait ≤ 16 * K := Nat.le_trans (yum' (fun e he => (h.wait e he).1)) (Nat.mul_le_mul_left _ h.many)
theorem PartB.keys {K : Nat} {S : PartS} (h : PartB K S) : ∀ e ∈ S.held, e.1.length ≤ 100000 := fun e he => Nat.le_trans (yb8' (h.held e he)) (by omega)
def newP (room : Int) : PartS := ⟨⟨room, []⟩, [], 0, [], [], []⟩
theorem y0m' (room : Int) (h : 1 ≤ room ∧ room ≤ 500) : PartB 0 (newP room) := ⟨yw2' room h, by simp [newP], by simp [newP], by simp [newP], by simp [newP], by simp [newP], yvr' room⟩
theorem ye7' {sess num : Int} {l : List OpS} (h : mayS sess num l = 0) : l.length ≤ 16 ∧ ∀ o ∈ l, yb5' o = 0 := by
 unfold mayS at h
 split at h
 ·cases h
 ·split at h
  ·cases h
  ·split at h
   ·rename_i h3; exact absurd h h3
   ·rename_i h2 h3
    refine ⟨by omega, fun o ho => ?_⟩
    have h3 : yeh' l = 0 := by simpa using h3
    unfold yeh' at h3
    cases hf : l.find? (fun o => yb5' o != 0) with
    | none =>
     have := List.find?_eq_none.1 hf o ho
     simpa using this
    | some q =>
     rw [hf] at h3
     have := List.find?_some hf
     rw [bne_iff_ne] at this
     exact absurd h3 this
theorem yex' {o : OpS} (h : yb5' o = 0) : o.path.size ≤ 100000 ∧ 0 ≤ o.flags ∧ o.flags ≤ 3 := by
 obtain ⟨-, -, h3, -, h5, h6⟩ := yc2' (ydm' h).1
 have := yb8' h3
 refine ⟨?_, h5, h6⟩
 have e : o.path.size = o.p.length := by unfold OpS.p; simp
 omega
end Go.Av
namespace Go.Proofs.YtcnkifbjlihaoaaGreatDoor
open Go.RowKit Go.Av
section
variable {w0 w : World} {b : Nat} {S : PartS} {P P' : List PRow} {R : List Thing} {rows : List (Value × Bs)}
set_option maxRecDepth 100000 in
set_option maxHeartbeats 4000000 in
theorem yoj' (h : Sep w0 w (yab' w0 P :: R) rows) (room : Int) (h1 : 1 ≤ room) (h2 : room ≤ 500) :
  Calls Tryz.prog 10 #[.int .i64 room] w fun e w' => ∃ b, e = .returned (.tuple #[.pointer (some ⟨b, 0, none⟩), .int .i64 0]) ∧ Sep w0 w' (yab' w0 P :: ybk' b (newP room) P :: R) rows := by
 have HX := Lib.hid h
 clear h
 go_enter Tryz.func10, Tryz.ntmps10
 go_wp2_with (first | refine u0 ?_ | (refine uS ?_; clear HX; intro w HX) | (refine uA ?_; clear HX; (first | (have hq := b; clear hq; intro w b2 HX) | intro w b HX)) | (refine uN ?_; clear HX; intro w mm HX))
 refine (yox' HX.out room h1 h2).mono ?_
 rintro e w ⟨t, rfl, hx⟩
 replace HX := Lib.hid hx
 clear hx
 go_wp2_with (first | refine u0 ?_ | (refine uS ?_; clear HX; intro w HX) | (refine uA ?_; clear HX; (first | (have hq := b; clear hq; intro w b2 HX) | intro w b HX)) | (refine uN ?_; clear HX; intro w mm HX))
 refine (yoa' HX.out).mono ?_
 rintro e w ⟨l, rfl, hx⟩
 replace HX := Lib.hid hx
 clear hx
 go_wp2_with (first | ((with_reducible apply yh3' (.int .i64) HX); (· rfl); clear HX; first | (have hq := mm2; clear hq; intro w mm3 HX) | (have hq := mm; clear hq; intro w mm2 HX) | intro w mm HX); simp only [Act.put, k_a, k_b, k_c] | refine u0 ?_ | (refine uS ?_; clear HX; intro w HX) | (refine uA ?_; clear HX; (first | (have hq := b; clear hq; intro w b2 HX) | intro w b HX)) | (refine uN ?_; clear HX; intro w mm HX))
 go_ret2
 refine ⟨_, rfl, ?_⟩
 exact (ya7' (b := b) (t := t) (lk := l) (mw := mm) (md := mm2) (mc := mm3) (gs := []) (S := newP room) (R := yab' w0 P :: R) (HX.out.pm 7 [0, 6, 4, 3, 2, 1, 5] rfl rfl) rfl (by simp)).up1
def yx8' (w0 : World) (b : Nat) (P : List PRow) (R : List Thing) (rows : List (Value × Bs)) (m : ReplyS × PartS) (e : Ending) (w' : World) : Prop :=
 ∃ v P', e = .returned v ∧ (∀ q ∈ P, q ∈ P') ∧ yf5' P' m.1 v ∧ Sep w0 w' (yab' w0 P' :: ybk' b m.2 P' :: R) rows
set_option maxRecDepth 100000 in
set_option maxHeartbeats 8000000 in
theorem yss' {K : Nat} (h : Sep w0 w (yab' w0 P :: ybk' b S P :: R) rows) (hd : DoorN w0) (hB : PartB K S) (hK : K ≤ 1000) (sess num : Int) (ops : List OpS) (v : Value) (hv : (5, v, ops.flatMap OpS.cells) ∈ P) (hp : ∀ o ∈ ops, o.path.size ≤ 100000) :
  Calls Tryz.prog 15 #[.pointer (some ⟨b, 0, none⟩), .agg #[.int .i64 sess, .int .i64 num, v]] w (yx8' w0 b P R rows (yb4' S sess num ops)) := by
 obtain ⟨E, hE⟩ := h.poolGet hv
 obtain ⟨a, n, c, rfl, hl0, -⟩ := ReadRow.some hE
 rw [yav' yak'] at hl0
 obtain rfl : ops.length = n := by omega
 have HV := Lib.hid (show _ ∧ _ from ⟨hv, hp⟩)
 have HB := Lib.hid (show _ ∧ _ from ⟨hB, hK⟩)
 have HX := Lib.hid h
 obtain ⟨rr, hrr⟩ : ∃ rr, yb4' S sess num ops = rr := ⟨_, rfl⟩
 rw [hrr]
 have HRR := Lib.hid hrr
 clear h hE hv hp hB hK hrr hl0
 obtain ⟨me, hme⟩ : ∃ me, mayS sess num ops = me := ⟨_, rfl⟩
 have HME := Lib.hid hme
 clear hme
 go_enter Tryz.func15, Tryz.ntmps15
 go_wp2_with (first | refine u0 ?_ | (refine uS ?_; clear HX; intro w HX) | (refine uA ?_; clear HX; (first | (have hq := b3; clear hq; intro w b4 HX) | (have hq := b2; clear hq; intro w b3 HX) | (have hq := b; clear hq; intro w b2 HX) | intro w b HX)))
 refine (yi2' HX.out.up2 hd sess num ops _ HV.out.1 HV.out.2).mono ?_
 rw [HME.out]
 rintro e w ⟨rfl, hx⟩
 replace HX := Lib.hid hx
 clear hx
 by_cases h0 : me = 0
 case neg =>
  have q1 : (me != 0) = true := by rw [bne_iff_ne]; exact h0
  obtain rfl : rr = (yeg' num me (-1) 0, S) := by rw [← HRR.out]; unfold yb4'; rw [HME.out, if_pos h0]
  clear h0
  go_wp2_with (first | refine u0 ?_ | (refine uS ?_; clear HX; intro w HX) | (refine uA ?_; clear HX; (first | (have hq := b3; clear hq; intro w b4 HX) | (have hq := b2; clear hq; intro w b3 HX) | (have hq := b; clear hq; intro w b2 HX) | intro w b HX)))
  refine (yep' HX.out _ _ _ _).mono ?_
  rintro e w ⟨v, P', rfl, hP', ⟨a', n', c', xs', rfl, hrl, hmem⟩, hx⟩
  replace HX := Lib.hid hx
  have HPN := Lib.hid (show _ ∧ _ ∧ _ from ⟨hP', hrl, hmem⟩)
  clear hx hP' hrl hmem
  dsimp only at HX ⊢
  go_wp2_with (first | refine u0 ?_ | (refine uS ?_; clear HX; intro w HX) | (refine uA ?_; clear HX; (first | (have hq := b3; clear hq; intro w b4 HX) | (have hq := b2; clear hq; intro w b3 HX) | (have hq := b; clear hq; intro w b2 HX) | intro w b HX)))
  refine ya9' HX rfl rfl (by (repeat (first | (with_reducible exact k_s) | (with_reducible apply k_m)))) (by kernel_rfl) ?_
  exact ⟨_, P', rfl, HPN.out.1, ⟨a', n', c', xs', rfl, HPN.out.2.1, HPN.out.2.2⟩, (yde' HX.out.up3 HPN.out.1).pm 4 [1, 0] rfl rfl⟩
 case pos =>
  subst h0
  have HGD := Lib.hid (ye7' HME.out)
  obtain ⟨⟨be, bat⟩, hbs⟩ : ∃ r, ydk' S 0 sess ops = r := ⟨_, rfl⟩
  have HR2 := Lib.hid (show rr = if be ≠ 0 then ({ yeg' num be bat ops.length with zxid := S.zxid + 1 }, { S with zxid := S.zxid + 1 }) else ((ya3' S.t sess num (S.zxid + 1) ops).1, { S with zxid := S.zxid + 1, t := (ya3' S.t sess num (S.zxid + 1) ops).2 }) by
   rw [← HRR.out]; unfold yb4'; rw [HME.out, hbs]; exact if_neg (fun hh => hh rfl))
  have HBS := Lib.hid (show ydk' { S with zxid := S.zxid + 1 } 0 sess ops = (be, bat) from hbs)
  obtain ⟨t, lk, mw, md, mc, gs, hgs, hgv, hS⟩ := ybt' HX.out.up3
  have HG := Lib.hid (show _ ∧ _ from ⟨hgs, hgv⟩)
  have hz1 := HB.out.1.zx.1
  have hz2 : S.zxid ≤ 1000 := by have := HB.out.1.zx.2; have := HB.out.2; omega
  clear HX hgs hgv hbs HRR
  have HX := Lib.hid hS
  clear hS
  simp only [yai'] at HX
  go_wp2_with (first | refine u0 ?_ | (refine uS ?_; clear HX; intro w HX) | (refine uA ?_; clear HX; (first | (have hq := b3; clear hq; intro w b4 HX) | (have hq := b2; clear hq; intro w b3 HX) | (have hq := b; clear hq; intro w b2 HX) | intro w b HX)))
  have h9 := (ya7' (b := b) (t := t) (lk := lk) (mw := mw) (md := md) (mc := mc) (gs := gs) (S := { S with zxid := S.zxid + 1 }) HX.out HG.out.1 HG.out.2).up1
  replace HX := Lib.hid h9
  clear h9
  refine (yo6' HX.out hd 0 sess ops _ HV.out.1 (fun o ho => yex' (HGD.out.2 o ho)) (by have := HGD.out.1; omega) HB.out.1.keys (by have := HB.out.1.wanted; have := HB.out.2; show ya2' S.wait ≤ _; omega) (fun e he => by have := (HB.out.1.wait e he).1; omega) ⟨HB.out.1.tree.many, HB.out.1.tree.room.2⟩).mono ?_
  rw [HBS.out]
  rintro e w ⟨P2, rfl, hP2, hx⟩
  replace HX := Lib.hid hx
  have HP2 := Lib.hid hP2
  clear hx hP2
  by_cases h0 : be = 0
  case neg =>
   have q1 : (be != 0) = true := by rw [bne_iff_ne]; exact h0
   obtain rfl : rr = ({ yeg' num be bat ops.length with zxid := S.zxid + 1 }, { S with zxid := S.zxid + 1 }) := by rw [HR2.out, if_pos h0]
   clear h0
   go_wp2_with (first | refine u0 ?_ | (refine uS ?_; clear HX; intro w HX) | (refine uA ?_; clear HX; (first | (have hq := b3; clear hq; intro w b4 HX) | (have hq := b2; clear hq; intro w b3 HX) | (have hq := b; clear hq; intro w b2 HX) | intro w b HX)))
   refine (yep' HX.out _ _ _ _).mono ?_
   rintro e w ⟨v, P', rfl, hP', ⟨a', n', c', xs', rfl, hrl, hmem⟩, hx⟩
   have HPN := Lib.hid (show _ ∧ _ ∧ _ from ⟨hP', hrl, hmem⟩)
   obtain ⟨t, lk, mw, md, mc, gs, hgs, hgv, hS⟩ := ybt' hx.up1
   have HG := Lib.hid (show _ ∧ _ from ⟨hgs, hgv⟩)
   clear HX hx hP' hrl hmem hgs hgv
   have HX := Lib.hid hS
   clear hS
   simp only [yai'] at HX
   dsimp only
   go_wp2_with (first | refine u0 ?_ | (refine uS ?_; clear HX; intro w HX) | (refine uA ?_; clear HX; (first | (have hq := b3; clear hq; intro w b4 HX) | (have hq := b2; clear hq; intro w b3 HX) | (have hq := b; clear hq; intro w b2 HX) | intro w b HX)))
   refine ya9' HX rfl rfl (by (repeat (first | (with_reducible exact k_s) | (with_reducible apply k_m)))) (by kernel_rfl) ?_
   exact ⟨_, P', rfl, fun q hq => HPN.out.1 q (HP2.out q hq), ⟨a', n', c', xs', rfl, HPN.out.2.1, HPN.out.2.2⟩, (yde' (ya7' (b := b) (t := t) (lk := lk) (mw := mw) (md := md) (mc := mc) (gs := gs) (S := { S with zxid := S.zxid + 1 }) HX.out.drop HG.out.1 HG.out.2) HPN.out.1).pm 4 [1, 0] rfl rfl⟩
  case pos =>
   subst h0
   obtain rfl : rr = ((ya3' S.t sess num (S.zxid + 1) ops).1, { S with zxid := S.zxid + 1, t := (ya3' S.t sess num (S.zxid + 1) ops).2 }) := by rw [HR2.out, if_neg (fun hh => hh rfl)]
   go_wp2_with (first | refine u0 ?_ | (refine uS ?_; clear HX; intro w HX) | (refine uA ?_; clear HX; (first | (have hq := b3; clear hq; intro w b4 HX) | (have hq := b2; clear hq; intro w b3 HX) | (have hq := b; clear hq; intro w b2 HX) | intro w b HX)))
   obtain ⟨t, lk, mw, md, mc, gs, hgs, hgv, hS⟩ := ybt' HX.out.up1
   have HG := Lib.hid (show _ ∧ _ from ⟨hgs, hgv⟩)
   obtain ⟨R', hR'⟩ : ∃ R', ThLk lk S.held :: yam' (.int .i64) mw (gs.map WaitG.kv) :: yam' (.int .i64) md (S.decided.map ikv) :: yam' (.int .i64) mc (S.closed.map ikv) :: R = R' := ⟨_, rfl⟩
   have h3 : Sep w0 w (yab' w0 P2 :: yaj' t S.t P2 :: yac' b (.cells (yai' S.t.room t lk (S.zxid + 1) mw md mc) 123 (0, 0)) :: yac' b2 (.cells #[.int .i64 sess, .int .i64 num, .slice a ops.length c] 42 (0, 0)) :: yac' b3 (.cells #[.int .i64 0, .int .i64 0, .int .i64 0, .int .i64 0, .slice none 0 0] 39 (0, 0)) :: R') rows := by
    rw [← hR']
    exact hS.pm 9 [6, 1, 0, 8, 7, 2, 3, 4, 5] rfl rfl
   have HRR2 := Lib.hid hR'
   clear HX hgs hgv hS hR'
   have HX := Lib.hid h3
   clear h3
   refine rM (fun W => (∃ Ts, Sep w0 W (yac' b (.cells (yai' S.t.room t lk (S.zxid + 1) mw md mc) 123 (0, 0)) :: yac' b2 (.cells #[.int .i64 sess, .int .i64 num, .slice a ops.length c] 42 (0, 0)) :: Ts) rows)) 10 ?_
   intro KEEPX
   replace HX := Lib.hid HX.out.drew
   have hl : ∀ V, (∃ Ts, Sep w0 V (yac' b (.cells (yai' S.t.room t lk (S.zxid + 1) mw md mc) 123 (0, 0)) :: yac' b2 (.cells #[.int .i64 sess, .int .i64 num, .slice a ops.length c] 42 (0, 0)) :: Ts) rows) → (Instr.loadAt 65 (.pointer (some ⟨b, 1, none⟩))).run Tryz.prog V = .ok (.pointer (some ⟨t, 0, none⟩)) V := by
    rintro V ⟨Ts, hV⟩
    exact yae' (by kernel_rfl) (yaa' hV.blk 1 rfl)
   have hl2 : ∀ V, (∃ Ts, Sep w0 V (yac' b (.cells (yai' S.t.room t lk (S.zxid + 1) mw md mc) 123 (0, 0)) :: yac' b2 (.cells #[.int .i64 sess, .int .i64 num, .slice a ops.length c] 42 (0, 0)) :: Ts) rows) → (Instr.loadAt 42 (.pointer (some ⟨b2, 0, none⟩))).run Tryz.prog V = .ok (.agg #[.int .i64 sess, .int .i64 num, .slice a ops.length c]) V := by
    rintro V ⟨Ts, hV⟩
    exact ya1' (i := 0) sn_req.1 hV.up1.blk (by simp)
   have hl3 : ∀ V, (∃ Ts, Sep w0 V (yac' b (.cells (yai' S.t.room t lk (S.zxid + 1) mw md mc) 123 (0, 0)) :: yac' b2 (.cells #[.int .i64 sess, .int .i64 num, .slice a ops.length c] 42 (0, 0)) :: Ts) rows) → (Instr.loadAt 2 (.pointer (some ⟨b, 3, none⟩))).run Tryz.prog V = .ok (.int .i64 (S.zxid + 1)) V := by
    rintro V ⟨Ts, hV⟩
    exact yae' (by kernel_rfl) (yaa' hV.blk 3 rfl)
   refine rT [(0, false), (1, false), (2, false), (3, true), (4, true), (5, false), (6, false), (7, false), (8, true)] 2 ?_
   apply Exists.intro; refine ⟨?_, ⟨_, HX.out.up3.up3⟩, ?_⟩
   ·iterate 9 (refine xE ?_)
    exact rfl
   clear hl hl2 hl3
   refine r1 1 9 fun K hK => ?_
   go_wp2_with fail
   have hrq := yom' HX.out hd HB.out.1.tree (by have := HB.out.2; omega) sess num (S.zxid + 1) ops _ (HP2.out _ HV.out.1) HV.out.2
   obtain ⟨⟨⟨n1, z1, e1, t1, rs1⟩, S2⟩, hm1⟩ : ∃ m1, ya3' S.t sess num (S.zxid + 1) ops = m1 := ⟨_, rfl⟩
   have hroom : S2.room = S.t.room := by have := yfe' S.t sess num (S.zxid + 1) ops; rw [hm1] at this; exact this
   rw [hm1] at hrq
   have HM1 := Lib.hid (show _ ∧ _ from ⟨hm1, hroom⟩)
   refine hrq.mono ?_
   clear hrq hm1 hroom
   rintro e w ⟨v, P', rfl, hP', ⟨a', n', c', xs', rfl, hrl, hmem⟩, hx⟩
   replace HX := Lib.hid hx
   have HPN := Lib.hid (show _ ∧ _ ∧ _ from ⟨hP', hrl, hmem⟩)
   clear hx hP' hrl hmem
   dsimp only at HX HPN ⊢
   go_wp2_with fail
   refine hK _ _ ⟨_, HX.out.up3.up3⟩ ?_
   clear hK
   refine rL [10] 0 ?_
   simp only [List.filterMap_cons, List.filterMap_nil, k_i, k_j, k_k]
   (with_reducible apply yc4' HX)
   ·rfl
   ·rfl
   ·rfl
   ·kernel_rfl
   ·(repeat (first | (with_reducible exact Rep.here) | (with_reducible apply Rep.there)))
   ·rfl
   ·rfl
   clear HX
   intro w HX
   simp only [Act.put, k_a, k_b, k_c, yb2', Nat.reduceAdd] at HX ⊢
   go_wp2_with (first | refine u0 ?_ | (refine uS ?_; clear HX; intro w HX) | (refine uA ?_; clear HX; (first | (have hq := b3; clear hq; intro w b4 HX) | (have hq := b2; clear hq; intro w b3 HX) | (have hq := b; clear hq; intro w b2 HX) | intro w b HX)))
   refine ya9' HX rfl rfl (by (repeat (first | (with_reducible exact k_s) | (with_reducible apply k_m)))) (by kernel_rfl) ?_
   have h5 := HX.out
   rw [← HRR2.out] at h5
   rw [HM1.out.1]
   refine ⟨_, P', rfl, fun q hq => HPN.out.1 q (HP2.out q hq), ⟨a', n', c', xs', rfl, HPN.out.2.1, HPN.out.2.2⟩, ?_⟩
   refine (ya7' (b := b) (t := t) (lk := lk) (mw := mw) (md := md) (mc := mc) (gs := gs) (S := { S with zxid := S.zxid + 1, t := S2 }) (R := yab' w0 P' :: R) ?_ HG.out.1 (fun g hg => HPN.out.1 _ (HG.out.2 g hg))).up1
   show Sep w0 w (yac' b (.cells (yai' S2.room t lk (S.zxid + 1) mw md mc) 123 (0, 0)) :: _) rows
   rw [HM1.out.2]
   exact h5.pm 9 [2, 1, 5, 6, 7, 8, 0] rfl rfl
end
end Go.Proofs.YtcnkifbjlihaoaaGreatDoor

namespace Go.Av
open Go.RowKit
theorem yj3' (gs : List WaitG) (id : Int) : hasW (gs.map WaitG.ent) id = gs.any fun g => g.id == id := by unfold hasW; rw [List.any_map]; rfl
end Go.Av
namespace Go.Proofs.YtcnkifbjlihaoaaGreatDoor
open Go.RowKit Go.Av
section
variable {w0 w : World} {b : Nat} {S : PartS} {P P' : List PRow} {R : List Thing} {rows : List (Value × Bs)}
theorem yxa' (w : World) : (zeroValue 144).run Tryz.prog w = .ok (.agg #[.int .i64 0, .slice none 0 0, .bool false, .bool false]) w := by kernel_rfl
theorem ynp' {gs : List WaitG} {m : Nat} (h : Sep w0 w (yam' (.int .i64) m (gs.map WaitG.kv) :: R) rows) (id : Int) (hn : ∀ g ∈ gs, g.id ≠ id) :
  (Instr.lookup 120 (.map (some m)) (.int .i64 id) true).run Tryz.prog w = .ok (.tuple #[.agg #[.int .i64 0, .slice none 0 0, .bool false, .bool false], .bool false]) w :=
 yfq' h.mapIs Tryz.underlying120 Tryz.underlying2 (key := .int .i64 id) (by first | trivial | rfl | exact ⟨_, rfl⟩) (fun q hq e => by
  obtain ⟨g, hg, rfl⟩ := List.mem_map.1 hq
  simp only [WaitG.kv, Value.int.injEq, true_and] at e
  exact hn g hg e) (yxa' w) true
theorem ynq' {gs : List WaitG} {m : Nat} (h : Sep w0 w (yam' (.int .i64) m (gs.map WaitG.kv) :: R) rows) {g : WaitG} (hg : g ∈ gs) :
  (Instr.lookup 120 (.map (some m)) (.int .i64 g.id) true).run Tryz.prog w = .ok (.tuple #[.agg #[.int .i64 g.x.sess, g.v, .bool g.x.close, .bool g.x.fails], .bool true]) w :=
 yf8' h.mapIs Tryz.underlying120 Tryz.underlying2 (key := .int .i64 g.id) (by first | trivial | rfl | exact ⟨_, rfl⟩) (List.mem_map.2 ⟨g, hg, rfl⟩) true
set_option maxRecDepth 100000 in
set_option maxHeartbeats 8000000 in
theorem ymj' (h : Sep w0 w (yab' w0 P :: ybk' b S P :: R) rows) (id sess : Int) :
  Calls Tryz.prog 68 #[.pointer (some ⟨b, 0, none⟩), .int .i64 id, .int .i64 sess] w fun e w' => e = .returned (.bool (ych' S id sess)) ∧ Sep w0 w' (yab' w0 P :: ybk' b S P :: R) rows := by
 obtain ⟨t, lk, mw, md, mc, gs, hgs, hgv, hS⟩ := ybt' h.up1
 have HG := Lib.hid (show _ ∧ _ from ⟨hgs, hgv⟩)
 by_cases hin : ∃ g ∈ gs, g.id = id
 ·obtain ⟨g, hg, rfl⟩ := hin
  have hk := ynq' hS.up3 hg
  have HHW := Lib.hid (show hasW S.wait g.id = true by rw [← hgs, yj3']; exact List.any_eq_true.2 ⟨g, hg, beq_self_eq_true _⟩)
  obtain ⟨E, hE⟩ := hS.up6.poolGet (hgv g hg)
  obtain ⟨ga, gn, gc, hvs, -⟩ := ReadRow.some hE
  obtain ⟨id, ⟨gs1, gops, gcl, gfa⟩, gv⟩ := g
  dsimp only at hvs hk HHW ⊢
  subst hvs
  have HX := Lib.hid hS
  clear h hgs hgv hS hE hg
  go_enter Tryz.func68, Tryz.ntmps68
  go_upto_region 2 with (first | refine u0 ?_ | (refine uS ?_; clear HX; intro w HX) | (refine uA ?_; clear HX; (first | (have hq := b; clear hq; intro w b2 HX) | intro w b HX)))
  have hk2 := yil' HX.out.up5 id
  obtain ⟨zd, hzd⟩ : ∃ z, decide (id ∈ S.decided) = z := ⟨_, rfl⟩
  rw [hzd] at hk2
  have HZD := Lib.hid hzd
  clear hk hzd
  obtain ⟨z1, hz1⟩ : ∃ z, decide (id < 1) = z := ⟨_, rfl⟩
  obtain ⟨z2, hz2⟩ : ∃ z, decide (sess < 1) = z := ⟨_, rfl⟩
  have HKN := Lib.hid (show ych' S id sess = (z1 || (z2 || (true || zd))) by unfold ych'; rw [hz1, hz2, HHW.out, HZD.out])
  cases z1 <;> cases z2 <;> cases zd
  all_goals
   go_wp2_with (first | refine u0 ?_ | (refine uS ?_; clear HX; intro w HX) | (refine uA ?_; clear HX; (first | (have hq := b; clear hq; intro w b2 HX) | intro w b HX)))
   go_ret
   rw [HKN.out]
   exact ⟨rfl, (ya7' (b := b) (t := t) (lk := lk) (mw := mw) (md := md) (mc := mc) (gs := gs) (S := S) (R := yab' w0 P :: R) HX.out.drop HG.out.1 HG.out.2).up1⟩
 ·have hk := ynp' hS.up3 id (fun g hg e => hin ⟨g, hg, e⟩)
  have HHW := Lib.hid (show hasW S.wait id = false by rw [← hgs, yj3', List.any_eq_false]; intro g hg e; exact hin ⟨g, hg, by simpa using e⟩)
  have HX := Lib.hid hS
  clear h hgs hgv hS hin
  go_enter Tryz.func68, Tryz.ntmps68
  go_upto_region 2 with (first | refine u0 ?_ | (refine uS ?_; clear HX; intro w HX) | (refine uA ?_; clear HX; (first | (have hq := b; clear hq; intro w b2 HX) | intro w b HX)))
  have hk2 := yil' HX.out.up5 id
  obtain ⟨zd, hzd⟩ : ∃ z, decide (id ∈ S.decided) = z := ⟨_, rfl⟩
  rw [hzd] at hk2
  have HZD := Lib.hid hzd
  clear hk hzd
  obtain ⟨z1, hz1⟩ : ∃ z, decide (id < 1) = z := ⟨_, rfl⟩
  obtain ⟨z2, hz2⟩ : ∃ z, decide (sess < 1) = z := ⟨_, rfl⟩
  have HKN := Lib.hid (show ych' S id sess = (z1 || (z2 || (false || zd))) by unfold ych'; rw [hz1, hz2, HHW.out, HZD.out])
  cases z1 <;> cases z2 <;> cases zd
  all_goals
   go_wp2_with (first | refine u0 ?_ | (refine uS ?_; clear HX; intro w HX) | (refine uA ?_; clear HX; (first | (have hq := b; clear hq; intro w b2 HX) | intro w b HX)))
   go_ret
   rw [HKN.out]
   exact ⟨rfl, (ya7' (b := b) (t := t) (lk := lk) (mw := mw) (md := md) (mc := mc) (gs := gs) (S := S) (R := yab' w0 P :: R) HX.out.drop HG.out.1 HG.out.2).up1⟩
set_option maxRecDepth 100000 in
theorem yp7' (h : Sep w0 w (ybk' b S P :: R) rows) : Calls Tryz.prog 31 #[.pointer (some ⟨b, 0, none⟩)] w fun e w' => e = .returned (.int .i64 S.zxid) ∧ Sep w0 w' (ybk' b S P :: R) rows := by
 obtain ⟨t, lk, mw, md, mc, gs, hgs, hgv, hS⟩ := ybt' h
 have HX := Lib.hid hS
 clear h hS
 go_enter Tryz.func31, Tryz.ntmps31
 go_wp2_with (first | refine u0 ?_ | (refine uS ?_; clear HX; intro w HX) | (refine uA ?_; clear HX; (first | (have hq := b; clear hq; intro w b2 HX) | intro w b HX)))
 go_ret
 exact ⟨rfl, ya7' HX.out hgs hgv⟩
set_option maxRecDepth 100000 in
theorem yke' (h : Sep w0 w (ybk' b S P :: R) rows) : Calls Tryz.prog 27 #[.pointer (some ⟨b, 0, none⟩)] w fun e w' => e = .returned (.int .i64 (S.held.length : Nat)) ∧ Sep w0 w' (ybk' b S P :: R) rows := by
 obtain ⟨t, lk, mw, md, mc, gs, hgs, hgv, hS⟩ := ybt' h
 have HX := Lib.hid hS
 clear h hS
 go_enter Tryz.func27, Tryz.ntmps27
 go_wp2_with (first | refine u0 ?_ | (refine uS ?_; clear HX; intro w HX) | (refine uA ?_; clear HX; (first | (have hq := b; clear hq; intro w b2 HX) | intro w b HX)))
 refine (yn9' HX.out.up2).mono ?_
 rintro e w ⟨rfl, hx⟩
 replace HX := Lib.hid hx
 clear hx
 go_wp2_with (first | refine u0 ?_ | (refine uS ?_; clear HX; intro w HX) | (refine uA ?_; clear HX; (first | (have hq := b; clear hq; intro w b2 HX) | intro w b HX)))
 go_ret
 exact ⟨rfl, ya7' HX.out.up2.up2 hgs hgv⟩
def yyb' (w0 : World) (b : Nat) (S : PartS) (P : List PRow) (R : List Thing) (rows : List (Value × Bs)) (e : Ending) (w' : World) : Prop :=
 ∃ c P', e = .returned (.pointer (some ⟨c, 0, none⟩)) ∧ (∀ q ∈ P, q ∈ P') ∧ Sep w0 w' (yab' w0 P' :: yaj' c S.t P' :: ybk' b S P' :: R) rows
set_option maxRecDepth 100000 in
set_option maxHeartbeats 4000000 in
theorem yi7' (h : Sep w0 w (yab' w0 P :: ybk' b S P :: R) rows) (hok : ∀ e ∈ S.t.l, NodeOk e.2) : Calls Tryz.prog 36 #[.pointer (some ⟨b, 0, none⟩)] w (yyb' w0 b S P R rows) := by
 obtain ⟨t, lk, mw, md, mc, gs, hgs, hgv, hS⟩ := ybt' h.up1
 have HX := Lib.hid hS
 clear h hS
 go_enter Tryz.func36, Tryz.ntmps36
 go_wp2_with (first | refine u0 ?_ | (refine uS ?_; clear HX; intro w HX) | (refine uA ?_; clear HX; (first | (have hq := b; clear hq; intro w b2 HX) | intro w b HX)))
 refine (yd8' HX.out.up1.up6 hok).mono ?_
 rintro e w ⟨c, P', rfl, hP', hx⟩
 replace HX := Lib.hid hx
 clear hx
 go_wp2_with (first | refine u0 ?_ | (refine uS ?_; clear HX; intro w HX) | (refine uA ?_; clear HX; (first | (have hq := b; clear hq; intro w b2 HX) | intro w b HX)))
 go_ret
 refine ⟨c, P', rfl, hP', ?_⟩
 exact (ya7' (b := b) (t := t) (lk := lk) (mw := mw) (md := md) (mc := mc) (gs := gs) (S := S) (R := yab' w0 P' :: yaj' c S.t P' :: R) (HX.out.pm 8 [3, 2, 4, 5, 6, 7, 0, 1] rfl rfl) hgs (fun g hg => hP' _ (hgv g hg))).pm 3 [1, 2, 0] rfl rfl
end
end Go.Proofs.YtcnkifbjlihaoaaGreatDoor

namespace Go.Av
theorem yny' {S : PartS} {id sess : Int} (h : ych' S id sess = true) : ycb' S id sess = (1, S) := by unfold ycb'; rw [if_pos h]
theorem yl1' {S : PartS} {id sess : Int} (h : ych' S id sess = false) (h1 : sess ∈ S.closed) : ycb' S id sess = (11, S) := by unfold ycb'; rw [if_neg (by rw [h]; exact Bool.false_ne_true), if_pos h1]
theorem yqg' {S : PartS} {id sess : Int} (h : ych' S id sess = false) (h1 : ¬ sess ∈ S.closed) (h2 : ynn' S.wait sess = true) : ycb' S id sess = (12, S) := by unfold ycb'; rw [if_neg (by rw [h]; exact Bool.false_ne_true), if_neg h1, if_pos h2]
theorem yqe' {S : PartS} {id sess : Int} (h : ych' S id sess = false) (h1 : ¬ sess ∈ S.closed) (h2 : ynn' S.wait sess = false) : ycb' S id sess = if (ydi' S.held id (ofT S.t sess)).isSome = true then (12, S)
 else (0, { S with held := yc5' S.held id (ofT S.t sess), wait := S.wait ++ [(id, ⟨sess, [], true, false⟩)] }) := by unfold ycb'; rw [if_neg (by rw [h]; exact Bool.false_ne_true), if_neg h1, if_neg (by rw [h2]; exact Bool.false_ne_true)]
theorem ygp' {S : PartS} {id sess : Int} (h : ych' S id sess = false) : hasW S.wait id = false := by
 unfold ych' at h
 simp only [Bool.or_eq_false_iff] at h
 exact h.2.2.1
theorem yre' {H : ybx'} {id : Int} {ps : List Bs} (h : (ydi' H id ps).isSome = true) : yc5' H id ps = H := by unfold yc5'; rw [if_pos h]
end Go.Av
namespace Go.Proofs.YtcnkifbjlihaoaaGreatDoor
open Go.RowKit Go.Av
section
variable {w0 w : World} {b : Nat} {S : PartS} {P P' : List PRow} {R : List Thing} {rows : List (Value × Bs)}
def CloP (w0 : World) (b : Nat) (P : List PRow) (R : List Thing) (rows : List (Value × Bs)) (m : Int × PartS) (e : Ending) (w' : World) : Prop :=
 ∃ P', e = .returned (.tuple #[.int .i64 m.1, .int .i64 (-1)]) ∧ (∀ q ∈ P, q ∈ P') ∧ Sep w0 w' (yab' w0 P' :: ybk' b m.2 P' :: R) rows
set_option maxRecDepth 100000 in
set_option maxHeartbeats 8000000 in
theorem yr4' {K : Nat} (h : Sep w0 w (yab' w0 P :: ybk' b S P :: R) rows) (hd : DoorN w0) (hB : PartB K S) (hK : K ≤ 1000) (id sess : Int) :
  Calls Tryz.prog 19 #[.pointer (some ⟨b, 0, none⟩), .int .i64 id, .int .i64 sess] w (CloP w0 b P R rows (ycb' S id sess)) := by
 have HB := Lib.hid (show _ ∧ _ from ⟨hB, hK⟩)
 have HX := Lib.hid h
 obtain ⟨rr, hrr⟩ : ∃ rr, ycb' S id sess = rr := ⟨_, rfl⟩
 rw [hrr]
 have HRR := Lib.hid hrr
 clear h hB hK hrr
 go_enter Tryz.func19, Tryz.ntmps19
 go_wp2_with (first | refine u0 ?_ | (refine uS ?_; clear HX; intro w HX) | (refine uA ?_; clear HX; (first | (have hq := b; clear hq; intro w b2 HX) | intro w b HX)))
 refine (ymj' HX.out id sess).mono ?_
 obtain ⟨zk, hzk⟩ : ∃ z, ych' S id sess = z := ⟨_, rfl⟩
 rw [hzk]
 rintro e w ⟨rfl, hx⟩
 replace HX := Lib.hid hx
 have HZK := Lib.hid hzk
 clear hx hzk
 cases zk with
 | true =>
  obtain rfl : rr = (1, S) := by rw [← HRR.out]; exact yny' HZK.out
  go_wp2_with (first | refine u0 ?_ | (refine uS ?_; clear HX; intro w HX) | (refine uA ?_; clear HX; (first | (have hq := b; clear hq; intro w b2 HX) | intro w b HX)))
  go_ret2
  exact ⟨P, rfl, fun q hq => hq, HX.out⟩
 | false =>
  obtain ⟨t, lk, mw, md, mc, gs, hgs, hgv, hS⟩ := ybt' HX.out.up1
  have HG := Lib.hid (show _ ∧ _ from ⟨hgs, hgv⟩)
  have hk := yil' hS.up5 sess
  obtain ⟨zc, hzc⟩ : ∃ z, decide (sess ∈ S.closed) = z := ⟨_, rfl⟩
  rw [hzc] at hk
  have HZC := Lib.hid hzc
  clear HX hgs hgv hzc
  have HX := Lib.hid hS
  clear hS
  cases zc with
  | true =>
   obtain rfl : rr = (11, S) := by rw [← HRR.out]; exact yl1' HZK.out (of_decide_eq_true HZC.out)
   go_wp2_with (first | refine u0 ?_ | (refine uS ?_; clear HX; intro w HX) | (refine uA ?_; clear HX; (first | (have hq := b; clear hq; intro w b2 HX) | intro w b HX)))
   go_ret2
   exact ⟨P, rfl, fun q hq => hq, (ya7' HX.out HG.out.1 HG.out.2).up1⟩
  | false =>
   have HNC := Lib.hid (of_decide_eq_false HZC.out)
   go_wp2_with (first | refine u0 ?_ | (refine uS ?_; clear HX; intro w HX) | (refine uA ?_; clear HX; (first | (have hq := b; clear hq; intro w b2 HX) | intro w b HX)))
   have h9 := (ya7' HX.out HG.out.1 HG.out.2).up1
   clear HX hk
   have HX := Lib.hid h9
   clear h9
   refine (yw5' HX.out sess).mono ?_
   obtain ⟨zu, hzu⟩ : ∃ z, ynn' S.wait sess = z := ⟨_, rfl⟩
   rw [hzu]
   rintro e w ⟨rfl, hx⟩
   replace HX := Lib.hid hx
   have HZU := Lib.hid hzu
   clear hx hzu
   cases zu with
   | true =>
    obtain rfl : rr = (12, S) := by rw [← HRR.out]; exact yqg' HZK.out HNC.out HZU.out
    go_wp2_with (first | refine u0 ?_ | (refine uS ?_; clear HX; intro w HX) | (refine uA ?_; clear HX; (first | (have hq := b; clear hq; intro w b2 HX) | intro w b HX)))
    go_ret2
    exact ⟨P, rfl, fun q hq => hq, HX.out⟩
   | false =>
    have HR3 := Lib.hid (HRR.out.symm.trans (yqe' HZK.out HNC.out HZU.out))
    clear HRR
    obtain ⟨t, lk, mw, md, mc, gs, hgs, hgv, hS⟩ := ybt' HX.out.up1
    clear HG
    have HG := Lib.hid (show _ ∧ _ from ⟨hgs, hgv⟩)
    clear HX hgs hgv
    have HX := Lib.hid hS
    clear hS
    go_wp2_with (first | refine u0 ?_ | (refine uS ?_; clear HX; intro w HX) | (refine uA ?_; clear HX; (first | (have hq := b; clear hq; intro w b2 HX) | intro w b HX)))
    refine (yz4' HX.out.up1.up6 sess (by have := HB.out.1.tree.many; omega) (fun e he => by have := HB.out.1.tree.keys e he; omega)).mono ?_
    rintro e w ⟨vg, P2, rfl, hP2, hvg, hx⟩
    obtain ⟨E, hE⟩ := hx.poolGet hvg
    obtain ⟨ga, gn, gc, rfl, -⟩ := ReadRow.some hE
    clear HX hE
    have HX := Lib.hid hx
    have HP2 := Lib.hid (show _ ∧ _ from ⟨hP2, hvg⟩)
    clear hx hP2 hvg
    go_wp2_with (first | refine u0 ?_ | (refine uS ?_; clear HX; intro w HX) | (refine uA ?_; clear HX; (first | (have hq := b; clear hq; intro w b2 HX) | intro w b HX)))
    refine (yio' (HX.out.up3.up1 : Sep w0 _ (yab' w0 P2 :: ThLk lk S.held :: _) rows) hd id (ofT S.t sess) _ HP2.out.2 (fun p hp => ?_) HB.out.1.keys ?_).mono ?_
    ·obtain ⟨e, he, rfl⟩ := List.mem_map.1 hp
     have := HB.out.1.tree.keys e (List.mem_filter.1 he).1
     omega
    ·have h1 : (ofT S.t sess).length ≤ S.t.l.length := by unfold ofT; rw [List.length_map]; exact List.length_filter_le _ _
     have := HB.out.1.tree.many
     omega
    obtain ⟨wr, hwr⟩ : ∃ wr, ydi' S.held id (ofT S.t sess) = wr := ⟨_, rfl⟩
    obtain ⟨H2, hH2⟩ : ∃ H2, yc5' S.held id (ofT S.t sess) = H2 := ⟨_, rfl⟩
    have htw := fun h => yre' (H := S.held) (id := id) (ps := ofT S.t sess) h
    rw [hwr, hH2] at HR3 htw ⊢
    rintro e w ⟨rfl, hx⟩
    replace HX := Lib.hid hx
    have HTW := Lib.hid htw
    clear hx hwr hH2 htw
    unfold sv
    cases wr with
    | some p =>
     obtain rfl : H2 = S.held := HTW.out rfl
     obtain rfl : rr = (12, S) := HR3.out
     dsimp only [Option.isSome, Option.getD]
     go_wp2_with (first | refine u0 ?_ | (refine uS ?_; clear HX; intro w HX) | (refine uA ?_; clear HX; (first | (have hq := b; clear hq; intro w b2 HX) | intro w b HX)))
     go_ret2
     exact ⟨P2, rfl, HP2.out.1, (ya7' (b := b) (t := t) (lk := lk) (mw := mw) (md := md) (mc := mc) (gs := gs) (S := S) (R := yab' w0 P2 :: R) (HX.out.pm 7 [3, 2, 1, 4, 5, 6, 0] rfl rfl) HG.out.1 (fun g hg => HP2.out.1 _ (HG.out.2 g hg))).up1⟩
    | none =>
     obtain rfl : rr = (0, { S with held := H2, wait := S.wait ++ [(id, ⟨sess, [], true, false⟩)] }) := HR3.out
     dsimp only [Option.isSome, Option.getD]
     obtain ⟨w9, hrun, h9⟩ := Sep.mapAdd (P := Tryz.prog) (key := .int .i64 id) (v := .agg #[.int .i64 sess, .slice none 0 0, .bool true, .bool false]) HX.out.up4 Tryz.underlying120 Tryz.underlying2 (by first | trivial | rfl | exact ⟨_, rfl⟩) (fun q hq e => by
      obtain ⟨g, hg, rfl⟩ := List.mem_map.1 hq
      simp only [WaitG.kv, Value.int.injEq, true_and] at e
      have h1 := ygp' HZK.out
      rw [← HG.out.1, yj3', List.any_eq_false] at h1
      exact h1 g hg (by rw [e]; exact beq_self_eq_true _))
     have H9 := Lib.hid h9
     clear h9
     go_wp2_with (first | refine u0 ?_ | (refine uS ?_; clear HX; intro w HX) | (refine uA ?_; clear HX; (first | (have hq := b; clear hq; intro w b2 HX) | intro w b HX)))
     go_ret2
     have h5 := (H9.out.up1.poolNil 5)
     refine ⟨(5, .slice none 0 0, []) :: P2, rfl, fun q hq => k_n _ (HP2.out.1 q hq), ?_⟩
     have h6 := yaz' (P' := (5, .slice none 0 0, []) :: P2) h5.up3 (fun q hq => k_n _ hq)
     refine (ya7' (b := b) (t := t) (lk := lk) (mw := mw) (md := md) (mc := mc) (gs := gs ++ [⟨id, ⟨sess, [], true, false⟩, .slice none 0 0⟩]) (S := { S with held := H2, wait := S.wait ++ [(id, ⟨sess, [], true, false⟩)] }) (R := yab' w0 ((5, .slice none 0 0, []) :: P2) :: R) ?_ ?_ ?_).up1
     ·rw [List.map_append]
      exact h6.pm 7 [4, 0, 3, 2, 5, 6, 1] rfl rfl
     ·rw [List.map_append, HG.out.1]
      rfl
     ·intro g hg
      rcases List.mem_append.1 hg with hg | hg
      ·exact k_n _ (HP2.out.1 _ (HG.out.2 g hg))
      ·rw [List.mem_singleton] at hg
       rw [hg]
       exact k_s
end
end Go.Proofs.YtcnkifbjlihaoaaGreatDoor

namespace Go.Av
open Go.RowKit
theorem ye6' {W : yd9'} {id : Int} (h : ∀ e ∈ W, e.1 ≠ id) : yed' W id = none := by
 unfold yed'
 rw [List.find?_eq_none.2 (fun e he => by simp [h e he])]
 rfl
theorem ygq' {W1 W2 : yd9'} {id : Int} {x : WaitS} (h : ((W1 ++ (id, x) :: W2).map (·.1)).Nodup) : yed' (W1 ++ (id, x) :: W2) id = some x ∧ delW (W1 ++ (id, x) :: W2) id = W1 ++ W2 := by
 rw [List.map_append, List.map_cons, List.nodup_append] at h
 obtain ⟨-, h3, h4⟩ := h
 rw [List.nodup_cons] at h3
 have n1 : ∀ e ∈ W1, e.1 ≠ id := fun e he h => h4 e.1 (List.mem_map_of_mem he) id k_s h
 have n2 : ∀ e ∈ W2, e.1 ≠ id := fun e he h => h3.1 (List.mem_map.2 ⟨e, he, h⟩)
 constructor
 ·unfold yed'
  rw [List.find?_append, List.find?_eq_none.2 (fun e he => by simp [n1 e he])]
  simp
 ·unfold delW
  rw [List.filter_append, List.filter_cons, List.filter_eq_self.2 (fun e he => by simp [n1 e he]), List.filter_eq_self.2 (fun e he => by simp [n2 e he])]
  simp
section
variable {P : Program} {w w0 : World} {d : TypeDesc} {m : Nat} {t k e : TypeId} {R : List Thing} {rows : List (Value × Bs)}
theorem Sep.mapDel {l1 l2 : List (Value × Value)} {key v0 : Value} (h : Sep w0 w (yam' d m (l1 ++ (key, v0) :: l2) :: R) rows) (ht : P.underlying t = some (.map k e)) (hd : P.underlying k = some d) (hk : MapKept.IsKey d key) :
  ∃ w', (∀ tk ty, (Builtin.delete_ #[t, tk] ty #[.map (some m), key]).run P w = .ok (.tuple #[]) w') ∧ Sep w0 w' (yam' d m (l1 ++ l2) :: R) rows := by
 obtain ⟨w', hrun, hM, hU⟩ := yxq' (P := P) h.mapIs ht hd hk 0 0
 exact ⟨w', fun _ _ => hrun, h.mapTo hU hM⟩
end
end Go.Av
namespace Go.Proofs.YtcnkifbjlihaoaaGreatDoor
open Go.RowKit Go.Av
section
variable {w0 w : World} {b : Nat} {S : PartS} {P P' : List PRow} {R : List Thing} {rows : List (Value × Bs)}
theorem yrg' {d : TypeDesc} {m : Nat} {gs : List WaitG} (h : Sep w0 w (yam' d m (gs.map WaitG.kv) :: R) rows) : ((gs.map WaitG.ent).map (·.1)).Nodup := by
 have h1 := h.mapIs.nodup
 rw [List.map_map] at h1 ⊢
 rw [List.nodup_iff_pairwise_ne, List.pairwise_map] at h1 ⊢
 exact List.Pairwise.imp (fun hab e => hab (congrArg (Value.int .i64) e)) h1
theorem ys7' {d : List Int} {m : Nat} (h : Sep w0 w (yam' (.int .i64) m (d.map ikv) :: R) rows) (i : Int) :
  ∃ w', (Instr.mapUpdate 121 (.map (some m)) (.int .i64 i) (.bool true)).run Tryz.prog w = .ok () w' ∧ Sep w0 w' (yam' (.int .i64) m ((if i ∈ d then d else d ++ [i]).map ikv) :: R) rows := by
 by_cases hi : i ∈ d
 ·rw [if_pos hi]
  obtain ⟨d1, d2, rfl⟩ := List.append_of_mem hi
  rw [List.map_append, List.map_cons] at h ⊢
  exact Sep.mapOld (P := Tryz.prog) h Tryz.underlying121 Tryz.underlying2 (by first | trivial | rfl | exact ⟨_, rfl⟩)
 ·rw [if_neg hi, List.map_append]
  exact Sep.mapAdd (P := Tryz.prog) h Tryz.underlying121 Tryz.underlying2 (by first | trivial | rfl | exact ⟨_, rfl⟩) (fun q hq e => by
   obtain ⟨j, hj, rfl⟩ := List.mem_map.1 hq
   simp only [ikv, Value.int.injEq, true_and] at e
   exact hi (e ▸ hj))
def DecP (w0 : World) (b : Nat) (P : List PRow) (R : List Thing) (rows : List (Value × Bs)) (m : (List ResS × Int) × PartS) (e : Ending) (w' : World) : Prop :=
 ∃ P' a n c xs, e = .returned (.tuple #[.slice a n c, .int .i64 m.1.2]) ∧ (∀ q ∈ P, q ∈ P') ∧ ResL P' m.1.1 xs ∧ (11, Value.slice a n c, xs) ∈ P' ∧ Sep w0 w' (yab' w0 P' :: ybk' b m.2 P' :: R) rows
theorem yk4' {S' : PartS} {z : Int} (hP : ∀ q ∈ P, q ∈ P') (h : Sep w0 w (yab' w0 P' :: ybk' b S' P' :: R) rows) : DecP w0 b P R rows (([], z), S') (.returned (.tuple #[.slice none 0 0, .int .i64 z])) w :=
 ⟨(11, .slice none 0 0, []) :: P', none, 0, 0, [], rfl, fun q hq => k_n _ (hP q hq), .nil, k_s, (yde' (h.poolNil 11).up1 (fun q hq => k_n _ hq)).up1⟩
set_option maxRecDepth 100000 in
set_option maxHeartbeats 8000000 in
theorem yql' {K : Nat} (h : Sep w0 w (yab' w0 P :: ybk' b S P :: R) rows) (hd : DoorN w0) (hB : PartB K S) (hHn : S.held.length ≤ 100000) (hK : K ≤ 1000) (id : Int) (commit : Bool) :
  Calls Tryz.prog 21 #[.pointer (some ⟨b, 0, none⟩), .int .i64 id, .bool commit] w (DecP w0 b P R rows (ybo' S id commit)) := by
 have HB := Lib.hid (show _ ∧ _ ∧ _ from ⟨hB, hK, hHn⟩)
 obtain ⟨rr, hrr⟩ : ∃ rr, ybo' S id commit = rr := ⟨_, rfl⟩
 rw [hrr]
 have HRR := Lib.hid hrr
 obtain ⟨t, lk, mw, md, mc, gs, hgs, hgv, hS⟩ := ybt' h.up1
 clear h hB hK hrr hHn
 by_cases hin : ∃ g ∈ gs, g.id = id
 case neg =>
  have hk := ynp' hS.up3 id (fun g hg e => hin ⟨g, hg, e⟩)
  have HG := Lib.hid (show _ ∧ _ from ⟨hgs, hgv⟩)
  obtain rfl : rr = (([], 4), S) := by
   rw [← HRR.out]
   unfold ybo'
   rw [ye6' (fun e he h => by
    rw [← hgs] at he
    obtain ⟨g, hg, rfl⟩ := List.mem_map.1 he
    exact hin ⟨g, hg, h⟩)]
  have HX := Lib.hid hS
  clear hgs hgv hS hin
  go_enter Tryz.func21, Tryz.ntmps21
  go_wp2_with (first | refine u0 ?_ | (refine uS ?_; clear HX; intro w HX) | (refine uA ?_; clear HX; (first | (have hq := b2; clear hq; intro w b3 HX) | (have hq := b; clear hq; intro w b2 HX) | intro w b HX)))
  go_ret2
  exact yk4' (fun q hq => hq) (ya7' (b := b) (t := t) (lk := lk) (mw := mw) (md := md) (mc := mc) (gs := gs) (S := S) (R := yab' w0 P :: R) HX.out.drop HG.out.1 HG.out.2).up1
 case pos =>
  obtain ⟨g, hg, hgi⟩ := hin
  have hk := ynq' hS.up3 hg
  obtain ⟨E, hE⟩ := hS.up6.poolGet (hgv g hg)
  obtain ⟨ga, gn, gc, hvs, -⟩ := ReadRow.some hE
  have hnd := yrg' hS.up3
  obtain ⟨l1, l2, rfl⟩ := List.append_of_mem hg
  have hgw := hgv g hg
  obtain ⟨gid, x, gv⟩ := g
  dsimp only at hvs hk hgw hgi
  subst hvs hgi
  rw [List.map_append, List.map_cons] at hnd hgs
  dsimp only [WaitG.ent] at hnd hgs
  obtain ⟨hlw, hdw⟩ := ygq' (W1 := l1.map WaitG.ent) (W2 := l2.map WaitG.ent) hnd
  rw [hgs] at hlw hdw
  have hap := HB.out.1.apart (gid, x) (by rw [← hgs]; simp)
  have hwx := HB.out.1.wait (gid, x) (by rw [← hgs]; simp)
  have HRX := Lib.hid (show rr = _ from HRR.out.symm.trans (by unfold ybo'; rw [hlw, hdw]))
  have HG := Lib.hid (show _ ∧ _ ∧ _ ∧ _ ∧ _ from ⟨hgs, hgv, hgw, hap, hwx⟩)
  have hz1 := HB.out.1.zx.1
  have hz2 : S.zxid ≤ 1000 := by have := HB.out.1.zx.2; have := HB.out.2.1; omega
  have HX := Lib.hid hS
  clear hgs hgv hS hE hnd hlw hdw hap hwx hgw hg HRR
  simp only [yai'] at HX
  go_enter Tryz.func21, Tryz.ntmps21
  go_wp2_with (first | refine u0 ?_ | (refine uS ?_; clear HX; intro w HX) | (refine uA ?_; clear HX; (first | (have hq := b2; clear hq; intro w b3 HX) | (have hq := b; clear hq; intro w b2 HX) | intro w b HX)))
  refine (yvm' HX.out.up3 gid HB.out.2.2).mono ?_
  rintro e w ⟨n, rfl, hx⟩
  rw [List.map_append, List.map_cons] at hx
  obtain ⟨w1, hdel, h1⟩ := Sep.mapDel (P := Tryz.prog) hx.up4 Tryz.underlying120 Tryz.underlying2 (by first | trivial | rfl | exact ⟨_, rfl⟩)
  replace HX := Lib.hid hx
  rw [← List.map_append] at h1
  have H1 := Lib.hid h1
  dsimp only [WaitG.kv] at hdel
  clear hx h1 hk
  go_upto_region 7 with (first | refine u0 ?_ | (refine uS ?_; clear HX; intro w HX) | (refine uA ?_; clear HX; (first | (have hq := b2; clear hq; intro w b3 HX) | (have hq := b; clear hq; intro w b2 HX) | intro w b HX)))
  obtain ⟨w2, hput, h2⟩ := ys7' H1.out.up5 gid
  rw [if_neg HG.out.2.2.2.1] at h2
  clear HX hdel
  have HX := H1
  have H2 := Lib.hid h2
  clear h2 H1
  go_upto_region 8 with (first | refine u0 ?_ | (refine uS ?_; clear HX; intro w HX) | (refine uA ?_; clear HX; (first | (have hq := b2; clear hq; intro w b3 HX) | (have hq := b; clear hq; intro w b2 HX) | intro w b HX)))
  clear HX hput
  have HX := H2
  clear H2
  obtain ⟨xs, xops, xcl, xfa⟩ := x
  dsimp only at HX HRX HG
  have HFIN := Lib.hid (show ∀ (w' : World) (T' : TreeS) (Q : List PRow) (Cl : List Int), T'.room = S.t.room → (∀ q ∈ P, q ∈ Q) → Sep w0 w' (yam' (.int .i64) md ((S.decided ++ [gid]).map ikv) :: yam' (.int .i64) mw ((l1 ++ l2).map WaitG.kv) :: ThLk lk (ydz' S.held gid) :: yac' b (.cells (yai' S.t.room t lk (S.zxid + 1) mw md mc) 123 (0, 0)) :: yaj' t T' Q :: yam' (.int .i64) mc (Cl.map ikv) :: yab' w0 Q :: R) rows →
    Sep w0 w' (yab' w0 Q :: ybk' b { S with zxid := S.zxid + 1, held := ydz' S.held gid, wait := l1.map WaitG.ent ++ l2.map WaitG.ent, decided := S.decided ++ [gid], t := T', closed := Cl } Q :: R) rows from fun w' T' Q Cl hrm hQ h5 => by
   rw [← hrm] at h5
   exact (ya7' (b := b) (t := t) (lk := lk) (mw := mw) (md := md) (mc := mc) (gs := l1 ++ l2) (S := { S with zxid := S.zxid + 1, held := ydz' S.held gid, wait := l1.map WaitG.ent ++ l2.map WaitG.ent, decided := S.decided ++ [gid], t := T', closed := Cl }) (R := yab' w0 Q :: R) (h5.pm 7 [3, 4, 2, 1, 0, 5, 6] rfl rfl) (by rw [List.map_append]) (fun g hg => hQ _ (HG.out.2.1 g (by
    rcases List.mem_append.1 hg with h | h <;> simp [h])))).up1)
  cases commit with
  | false =>
   have hr : rr = (([], 0), { S with zxid := S.zxid + 1, held := ydz' S.held gid, wait := l1.map WaitG.ent ++ l2.map WaitG.ent, decided := S.decided ++ [gid] }) := HRX.out
   subst hr
   go_wp2_with (first | refine u0 ?_ | (refine uS ?_; clear HX; intro w HX) | (refine uA ?_; clear HX; (first | (have hq := b2; clear hq; intro w b3 HX) | (have hq := b; clear hq; intro w b2 HX) | intro w b HX)))
   go_ret2
   exact yk4' (fun q hq => hq) (HFIN.out _ S.t P S.closed rfl (fun q hq => hq) (HX.out.pm 8 [0, 1, 2, 4, 5, 6, 7] rfl rfl))
  | true =>
   cases xfa with
   | true =>
    have hr : rr = (([], 0), { S with zxid := S.zxid + 1, held := ydz' S.held gid, wait := l1.map WaitG.ent ++ l2.map WaitG.ent, decided := S.decided ++ [gid] }) := HRX.out
    subst hr
    go_wp2_with (first | refine u0 ?_ | (refine uS ?_; clear HX; intro w HX) | (refine uA ?_; clear HX; (first | (have hq := b2; clear hq; intro w b3 HX) | (have hq := b; clear hq; intro w b2 HX) | intro w b HX)))
    go_ret2
    exact yk4' (fun q hq => hq) (HFIN.out _ S.t P S.closed rfl (fun q hq => hq) (HX.out.pm 8 [0, 1, 2, 4, 5, 6, 7] rfl rfl))
   | false =>
    cases xcl with
    | true =>
     obtain ⟨Cl, hCl⟩ : ∃ Cl, (if xs ∈ S.closed then S.closed else S.closed ++ [xs]) = Cl := ⟨_, rfl⟩
     have hr : rr = (([], 0), { S with zxid := S.zxid + 1, held := ydz' S.held gid, wait := l1.map WaitG.ent ++ l2.map WaitG.ent, decided := S.decided ++ [gid], t := purT (yen' (ofT S.t xs)) S.t, closed := Cl }) := by rw [← hCl]; exact HRX.out
     subst hr
     have HCL := Lib.hid hCl
     clear HRX hCl
     go_wp2_with (first | refine u0 ?_ | (refine uS ?_; clear HX; intro w HX) | (refine uA ?_; clear HX; (first | (have hq := b2; clear hq; intro w b3 HX) | (have hq := b; clear hq; intro w b2 HX) | intro w b HX)))
     obtain ⟨R', hR'⟩ : ∃ R', yam' (.int .i64) md ((S.decided ++ [gid]).map ikv) :: yam' (.int .i64) mw ((l1 ++ l2).map WaitG.kv) :: ThLk lk (ydz' S.held gid) :: R = R' := ⟨_, rfl⟩
     have h3 : Sep w0 w2 (yab' w0 P :: yaj' t S.t P :: yac' b (.cells (yai' S.t.room t lk (S.zxid + 1) mw md mc) 123 (0, 0)) :: yac' b2 (.cells #[.int .i64 xs, .slice ga gn gc, .bool true, .bool false] 144 (0, 0)) :: yam' (.int .i64) mc (S.closed.map ikv) :: R') rows := by
      rw [← hR']
      exact HX.out.pm 8 [7, 5, 4, 3, 6, 0, 1, 2] rfl rfl
     have HRR2 := Lib.hid hR'
     clear HX hR'
     have HX := Lib.hid h3
     clear h3
     refine rM (fun W => (∃ Ts, Sep w0 W (yac' b (.cells (yai' S.t.room t lk (S.zxid + 1) mw md mc) 123 (0, 0)) :: yac' b2 (.cells #[.int .i64 xs, .slice ga gn gc, .bool true, .bool false] 144 (0, 0)) :: Ts) rows)) 7 ?_
     intro KEEPX
     replace HX := Lib.hid HX.out.drew
     have hl : ∀ V, (∃ Ts, Sep w0 V (yac' b (.cells (yai' S.t.room t lk (S.zxid + 1) mw md mc) 123 (0, 0)) :: yac' b2 (.cells #[.int .i64 xs, .slice ga gn gc, .bool true, .bool false] 144 (0, 0)) :: Ts) rows) → (Instr.loadAt 65 (.pointer (some ⟨b, 1, none⟩))).run Tryz.prog V = .ok (.pointer (some ⟨t, 0, none⟩)) V := by
      rintro V ⟨Ts, hV⟩
      exact yae' (by kernel_rfl) (yaa' hV.blk 1 rfl)
     have hl2 : ∀ V, (∃ Ts, Sep w0 V (yac' b (.cells (yai' S.t.room t lk (S.zxid + 1) mw md mc) 123 (0, 0)) :: yac' b2 (.cells #[.int .i64 xs, .slice ga gn gc, .bool true, .bool false] 144 (0, 0)) :: Ts) rows) → (Instr.loadAt 2 (.pointer (some ⟨b2, 0, none⟩))).run Tryz.prog V = .ok (.int .i64 xs) V := by
      rintro V ⟨Ts, hV⟩
      exact yae' (by kernel_rfl) (yaa' hV.up1.blk 0 rfl)
     refine rT [(0, false), (1, false), (2, false), (3, true), (4, false), (5, true)] 1 ?_
     apply Exists.intro; refine ⟨?_, ⟨_, HX.out.up3.up3⟩, ?_⟩
     ·iterate 6 (refine xE ?_)
      exact rfl
     clear hl
     refine r1 0 6 fun K hK => ?_
     go_wp2_with fail
     refine (ytn' HX.out hd HB.out.1.tree (by have := HB.out.2.1; omega) xs).mono ?_
     rintro e w ⟨l', -, hpu, v', P4, rfl, hP4, hx⟩
     obtain rfl := hpu (yzd' HB.out.1.good xs)
     replace HX := Lib.hid hx.drop
     have HP4 := Lib.hid hP4
     clear hx hP4 hpu
     go_wp2_with fail
     refine hK _ _ ⟨_, HX.out.up3.up3⟩ ?_
     clear hK
     refine yag' (by kernel_rfl) ?_ _
     go_wp2_with (first | refine u0 ?_ | (refine uS ?_; clear HX; intro w HX) | (refine uA ?_; clear HX; (first | (have hq := b2; clear hq; intro w b3 HX) | (have hq := b; clear hq; intro w b2 HX) | intro w b HX)))
     clear KEEPX
     refine rM (fun W => (∃ Ts, Sep w0 W (yac' b (.cells (yai' S.t.room t lk (S.zxid + 1) mw md mc) 123 (0, 0)) :: yac' b2 (.cells #[.int .i64 xs, .slice ga gn gc, .bool true, .bool false] 144 (0, 0)) :: Ts) rows)) 7 ?_
     intro KEEPX
     replace HX := Lib.hid HX.out.drew
     have hl : ∀ V, (∃ Ts, Sep w0 V (yac' b (.cells (yai' S.t.room t lk (S.zxid + 1) mw md mc) 123 (0, 0)) :: yac' b2 (.cells #[.int .i64 xs, .slice ga gn gc, .bool true, .bool false] 144 (0, 0)) :: Ts) rows) → (Instr.loadAt 121 (.pointer (some ⟨b, 6, none⟩))).run Tryz.prog V = .ok (.map (some mc)) V := by
      rintro V ⟨Ts, hV⟩
      exact yae' (by kernel_rfl) (yaa' hV.blk 6 rfl)
     refine rT [(0, false), (1, false), (2, false), (3, true), (4, false), (5, true)] 1 ?_
     apply Exists.intro; refine ⟨?_, ⟨_, HX.out.up3.up3⟩, ?_⟩
     ·iterate 6 (refine xE ?_)
      exact rfl
     clear hl hl2
     refine r1 0 6 fun K hK => ?_
     obtain ⟨w5, hput, h5⟩ := ys7' HX.out.up4 xs
     rw [HCL.out] at h5
     have H5 := Lib.hid h5
     clear h5
     go_wp2_with fail
     refine hK _ _ ⟨_, H5.out.up4.up4⟩ ?_
     clear hK
     refine yag' (by kernel_rfl) ?_ _
     go_wp2_with (first | refine u0 ?_ | (refine uS ?_; clear HX; intro w HX) | (refine uA ?_; clear HX; (first | (have hq := b2; clear hq; intro w b3 HX) | (have hq := b; clear hq; intro w b2 HX) | intro w b HX)))
     go_ret2
     have h6 := H5.out
     rw [← HRR2.out] at h6
     exact yk4' HP4.out (HFIN.out _ (purT (yen' (ofT S.t xs)) S.t) P4 Cl (ygx' _ _) HP4.out (h6.pm 8 [5, 6, 7, 3, 2, 0, 1] rfl rfl))
    | false =>
     obtain ⟨⟨⟨n1, z1, e1, t1, rs1⟩, S2, ok1⟩, hm1⟩ : ∃ m1, ybv' S.t xs (S.zxid + 1) xops = m1 := ⟨_, rfl⟩
     have hroom : S2.room = S.t.room := by have := yek' S.t xs (S.zxid + 1) xops; rw [hm1] at this; exact this
     have hr : rr = ((rs1, 0), { S with zxid := S.zxid + 1, held := ydz' S.held gid, wait := l1.map WaitG.ent ++ l2.map WaitG.ent, decided := S.decided ++ [gid], t := S2 }) := by
      rw [HRX.out]
      show (((ybv' S.t xs (S.zxid + 1) xops).1.rs, (0 : Int)), _) = _
      rw [hm1]
     subst hr
     have HM1 := Lib.hid (show _ ∧ _ from ⟨hm1, hroom⟩)
     clear HRX hm1 hroom
     go_wp2_with (first | refine u0 ?_ | (refine uS ?_; clear HX; intro w HX) | (refine uA ?_; clear HX; (first | (have hq := b2; clear hq; intro w b3 HX) | (have hq := b; clear hq; intro w b2 HX) | intro w b HX)))
     obtain ⟨R', hR'⟩ : ∃ R', yam' (.int .i64) md ((S.decided ++ [gid]).map ikv) :: yam' (.int .i64) mw ((l1 ++ l2).map WaitG.kv) :: ThLk lk (ydz' S.held gid) :: R = R' := ⟨_, rfl⟩
     have h3 : Sep w0 w2 (yab' w0 P :: yaj' t S.t P :: yac' b (.cells (yai' S.t.room t lk (S.zxid + 1) mw md mc) 123 (0, 0)) :: yac' b2 (.cells #[.int .i64 xs, .slice ga gn gc, .bool false, .bool false] 144 (0, 0)) :: yam' (.int .i64) mc (S.closed.map ikv) :: R') rows := by
      rw [← hR']
      exact HX.out.pm 8 [7, 5, 4, 3, 6, 0, 1, 2] rfl rfl
     have HRR2 := Lib.hid hR'
     clear HX hR'
     have HX := Lib.hid h3
     clear h3
     refine rM (fun W => (∃ Ts, Sep w0 W (yac' b (.cells (yai' S.t.room t lk (S.zxid + 1) mw md mc) 123 (0, 0)) :: yac' b2 (.cells #[.int .i64 xs, .slice ga gn gc, .bool false, .bool false] 144 (0, 0)) :: Ts) rows)) 17 ?_
     intro KEEPX
     replace HX := Lib.hid HX.out.drew
     have hl : ∀ V, (∃ Ts, Sep w0 V (yac' b (.cells (yai' S.t.room t lk (S.zxid + 1) mw md mc) 123 (0, 0)) :: yac' b2 (.cells #[.int .i64 xs, .slice ga gn gc, .bool false, .bool false] 144 (0, 0)) :: Ts) rows) → (Instr.loadAt 65 (.pointer (some ⟨b, 1, none⟩))).run Tryz.prog V = .ok (.pointer (some ⟨t, 0, none⟩)) V := by
      rintro V ⟨Ts, hV⟩
      exact yae' (by kernel_rfl) (yaa' hV.blk 1 rfl)
     have hl2 : ∀ V, (∃ Ts, Sep w0 V (yac' b (.cells (yai' S.t.room t lk (S.zxid + 1) mw md mc) 123 (0, 0)) :: yac' b2 (.cells #[.int .i64 xs, .slice ga gn gc, .bool false, .bool false] 144 (0, 0)) :: Ts) rows) → (Instr.loadAt 2 (.pointer (some ⟨b2, 0, none⟩))).run Tryz.prog V = .ok (.int .i64 xs) V := by
      rintro V ⟨Ts, hV⟩
      exact yae' (by kernel_rfl) (yaa' hV.up1.blk 0 rfl)
     have hl3 : ∀ V, (∃ Ts, Sep w0 V (yac' b (.cells (yai' S.t.room t lk (S.zxid + 1) mw md mc) 123 (0, 0)) :: yac' b2 (.cells #[.int .i64 xs, .slice ga gn gc, .bool false, .bool false] 144 (0, 0)) :: Ts) rows) → (Instr.loadAt 2 (.pointer (some ⟨b, 3, none⟩))).run Tryz.prog V = .ok (.int .i64 (S.zxid + 1)) V := by
      rintro V ⟨Ts, hV⟩
      exact yae' (by kernel_rfl) (yaa' hV.blk 3 rfl)
     have hl4 : ∀ V, (∃ Ts, Sep w0 V (yac' b (.cells (yai' S.t.room t lk (S.zxid + 1) mw md mc) 123 (0, 0)) :: yac' b2 (.cells #[.int .i64 xs, .slice ga gn gc, .bool false, .bool false] 144 (0, 0)) :: Ts) rows) → (Instr.loadAt 30 (.pointer (some ⟨b2, 1, none⟩))).run Tryz.prog V = .ok (.slice ga gn gc) V := by
      rintro V ⟨Ts, hV⟩
      exact yae' (by kernel_rfl) (yaa' hV.up1.blk 1 rfl)
     refine rT [(0, false), (1, false), (2, false), (3, true), (4, false), (5, true), (6, false), (7, false), (8, false), (9, true), (10, false), (11, true)] 7 ?_
     apply Exists.intro; refine ⟨?_, ⟨_, HX.out.up3.up3⟩, ?_⟩
     ·iterate 12 (refine xE ?_)
      exact rfl
     clear hl hl2 hl3 hl4
     refine yce' (fuel := 6) [12, 16] (by kernel_rfl) (by simp) (fun i hi => ?_)
     simp only [List.mem_cons, List.not_mem_nil, or_false] at hi
     rcases hi with rfl | rfl
     ·refine ⟨_, (by (simp only [k_i, k_j, k_k]; try rfl)), fun K hK => ?_⟩
      go_wp2_with fail
      have hrq := yhs' HX.out hd HB.out.1.tree (by have := HB.out.2.1; omega) xs (S.zxid + 1) xops _ HG.out.2.2.1 (fun o ho => (yex' (HG.out.2.2.2.2.2 o ho)).1)
      rw [HM1.out.1] at hrq
      refine hrq.mono ?_
      clear hrq
      rintro e w ⟨v9, P4, rfl, hP4, ⟨a9, n9, c9, xs9, rfl, hrl9, hmem9⟩, hx⟩
      replace HX := Lib.hid hx
      have HPN := Lib.hid (show _ ∧ _ ∧ _ from ⟨hP4, hrl9, hmem9⟩)
      clear hx hP4 hrl9 hmem9
      dsimp only at HX HPN ⊢
      go_wp2_with fail
      refine hK _ _ ⟨_, HX.out.up3.up3⟩ ?_
      clear hK
      refine rT [(13, false), (14, false), (15, false)] 3 ?_
      apply Exists.intro; refine ⟨?_, ⟨_, HX.out.up3.up3⟩, ?_⟩
      ·iterate 3 (refine xE ?_)
       exact rfl
      refine r1 2 16 fun K hK => ?_
      go_wp2_with (first | refine u0 ?_ | (refine uS ?_; clear HX; intro w HX) | (refine uA ?_; clear HX; (first | (have hq := b2; clear hq; intro w b3 HX) | (have hq := b; clear hq; intro w b2 HX) | intro w b HX)))
      refine hK _ _ ⟨_, HX.out.up4.up4⟩ ?_
      clear hK
      refine rL [17, 18] 0 ?_
      simp only [List.filterMap_cons, List.filterMap_nil, k_i, k_j, k_k]
      (with_reducible apply yc4' HX)
      ·rfl
      ·rfl
      ·rfl
      ·kernel_rfl
      ·(repeat (first | (with_reducible exact Rep.here) | (with_reducible apply Rep.there)))
      ·rfl
      ·rfl
      clear HX
      intro w HX
      simp only [Act.put, k_a, k_b, k_c, yb2', Nat.reduceAdd] at HX ⊢
      go_wp2_with (first | refine u0 ?_ | (refine uS ?_; clear HX; intro w HX) | (refine uA ?_; clear HX; (first | (have hq := b2; clear hq; intro w b3 HX) | (have hq := b; clear hq; intro w b2 HX) | intro w b HX)))
      go_ret2
      have h6 := HX.out
      rw [← HRR2.out] at h6
      exact ⟨P4, a9, n9, c9, xs9, rfl, HPN.out.1, HPN.out.2.1, HPN.out.2.2, HFIN.out _ S2 P4 S.closed HM1.out.2 HPN.out.1 (h6.pm 9 [6, 7, 8, 3, 2, 5, 1] rfl rfl)⟩
     ·refine ⟨_, (by (simp only [k_i, k_j, k_k]; try rfl)), fun K hK => ?_⟩
      go_wp2_with (first | refine u0 ?_ | (refine uS ?_; clear HX; intro w HX) | (refine uA ?_; clear HX; (first | (have hq := b2; clear hq; intro w b3 HX) | (have hq := b; clear hq; intro w b2 HX) | intro w b HX)))
      refine hK _ _ ⟨_, HX.out.up4.up4⟩ ?_
      clear hK
      refine r1 5 12 fun K hK => ?_
      go_wp2_with fail
      have hrq := yhs' HX.out.up2.up2 hd HB.out.1.tree (by have := HB.out.2.1; omega) xs (S.zxid + 1) xops _ HG.out.2.2.1 (fun o ho => (yex' (HG.out.2.2.2.2.2 o ho)).1)
      rw [HM1.out.1] at hrq
      refine hrq.mono ?_
      clear hrq
      rintro e w ⟨v9, P4, rfl, hP4, ⟨a9, n9, c9, xs9, rfl, hrl9, hmem9⟩, hx⟩
      replace HX := Lib.hid hx
      have HPN := Lib.hid (show _ ∧ _ ∧ _ from ⟨hP4, hrl9, hmem9⟩)
      clear hx hP4 hrl9 hmem9
      dsimp only at HX HPN ⊢
      go_wp2_with fail
      refine hK _ _ ⟨_, HX.out.up4.up4⟩ ?_
      clear hK
      refine rT [(13, false), (14, false), (15, false)] 2 ?_
      apply Exists.intro; refine ⟨?_, ⟨_, HX.out.up4.up4⟩, ?_⟩
      ·iterate 3 (refine xE ?_)
       exact rfl
      refine rL [17, 18] 0 ?_
      simp only [List.filterMap_cons, List.filterMap_nil, k_i, k_j, k_k]
      (with_reducible apply yc4' HX)
      ·rfl
      ·rfl
      ·rfl
      ·kernel_rfl
      ·(repeat (first | (with_reducible exact Rep.here) | (with_reducible apply Rep.there)))
      ·rfl
      ·rfl
      clear HX
      intro w HX
      simp only [Act.put, k_a, k_b, k_c, yb2', Nat.reduceAdd] at HX ⊢
      go_wp2_with (first | refine u0 ?_ | (refine uS ?_; clear HX; intro w HX) | (refine uA ?_; clear HX; (first | (have hq := b2; clear hq; intro w b3 HX) | (have hq := b; clear hq; intro w b2 HX) | intro w b HX)))
      go_ret2
      have h6 := HX.out
      rw [← HRR2.out] at h6
      exact ⟨P4, a9, n9, c9, xs9, rfl, HPN.out.1, HPN.out.2.1, HPN.out.2.2, HFIN.out _ S2 P4 S.closed HM1.out.2 HPN.out.1 (h6.pm 9 [6, 7, 8, 3, 1, 5, 0] rfl rfl)⟩
end
end Go.Proofs.YtcnkifbjlihaoaaGreatDoor

namespace Go.Av
open Go.RowKit
theorem ynl' {H : ybx'} {who : Int} {ps : List Bs} (h : ∀ e ∈ H, ybn' e.1 = true) : ∀ e ∈ yc5' H who ps, ybn' e.1 = true := by
 intro e he
 unfold yc5' at he
 split at he
 ·exact h e he
 ·rename_i hw
  rcases yho' ps H he with h1 | h1
  ·unfold ydi' at hw
   split at hw
   ·exact absurd rfl hw
   ·rename_i hf
    have := List.find?_eq_none.1 hf e.1 h1.1
    simpa using this
  ·exact h e h1
theorem yc6' {id : Int} : ∀ (ops : List OpS) {H : ybx'}, (∀ e ∈ H, ybn' e.1 = true) → ∀ e ∈ ybb' H id ops, ybn' e.1 = true
 | [], H, h => h
 | o :: ops, H, h => yc6' ops (ynl' h)
theorem PartB.mono {K K' : Nat} {S : PartS} (h : PartB K S) (hK : K ≤ K') : PartB K' S :=
 ⟨h.tree.mono (by omega), h.held, h.wait, by have := h.many; omega, by have := h.zx; omega, h.apart, h.good⟩
theorem yy6' {K : Nat} {S : PartS} (h : PartB K S) (sess num : Int) (ops : List OpS) : PartB (K + 1) (yb4' S sess num ops).2 := by
 have hz := h.zx
 have hm := h.many
 unfold yb4'
 split
 ·exact h.mono (by omega)
 ·split
  ·exact ⟨h.tree.mono (by omega), h.held, h.wait, by show S.wait.length ≤ _; omega, by show 0 ≤ S.zxid + 1 ∧ S.zxid + 1 ≤ _; omega, h.apart, h.good⟩
  ·refine ⟨(ym5' h.tree sess num (S.zxid + 1) ops).mono (by omega), h.held, h.wait, by show S.wait.length ≤ _; omega, by show 0 ≤ S.zxid + 1 ∧ S.zxid + 1 ≤ _; omega, h.apart, yts' h.good _ _ _ _⟩
theorem ymk' {S : PartS} {id sess : Int} (h : ych' S id sess = false) : id ∉ S.decided := by
 unfold ych' at h
 simp only [Bool.or_eq_false_iff, decide_eq_false_iff_not] at h
 exact h.2.2.2
theorem y0s' {K : Nat} {S : PartS} (h : PartB K S) (id sess : Int) (ops : List OpS) : PartB (K + 1) (yd1' S id sess ops).2 := by
 have hz := h.zx
 have hm := h.many
 unfold yd1'
 split
 ·exact h.mono (by omega)
 ·rename_i hk
  split
  ·exact h.mono (by omega)
  ·rename_i hmay
   split
   ·exact h.mono (by omega)
   ·have hg := ye7' (by simpa using hmay : mayS sess 1 ops = 0)
    refine ⟨h.tree.mono (by omega), yc6' ops h.held, fun e he => ?_, by show (S.wait ++ [_]).length ≤ _; simp; omega, by show 0 ≤ S.zxid ∧ S.zxid ≤ _; omega, fun e he => ?_, h.good⟩
    ·rcases List.mem_append.1 he with he | he
     ·exact h.wait e he
     ·rw [List.mem_singleton] at he; rw [he]; exact hg
    ·rcases List.mem_append.1 he with he | he
     ·exact h.apart e he
     ·rw [List.mem_singleton] at he; rw [he]; exact ymk' (S := S) (id := id) (sess := sess) (by simpa using hk)
theorem yym' {K : Nat} {S : PartS} (h : PartB K S) (id sess : Int) : PartB (K + 1) (ycb' S id sess).2 := by
 have hz := h.zx
 have hm := h.many
 unfold ycb'
 split
 ·exact h.mono (by omega)
 ·rename_i hk
  split
  ·exact h.mono (by omega)
  ·split
   ·exact h.mono (by omega)
   ·split
    ·exact h.mono (by omega)
    ·refine ⟨h.tree.mono (by omega), ynl' h.held, fun e he => ?_, by show (S.wait ++ [_]).length ≤ _; simp; omega, by show 0 ≤ S.zxid ∧ S.zxid ≤ _; omega, fun e he => ?_, h.good⟩
     ·rcases List.mem_append.1 he with he | he
      ·exact h.wait e he
      ·rw [List.mem_singleton] at he; rw [he]; exact ⟨by simp, by simp⟩
     ·rcases List.mem_append.1 he with he | he
      ·exact h.apart e he
      ·rw [List.mem_singleton] at he; rw [he]; exact ymk' (S := S) (id := id) (sess := sess) (by simpa using hk)
theorem yu8' {K : Nat} {S : PartS} (h : PartB K S) (id : Int) (commit : Bool) : PartB (K + 1) (ybo' S id commit).2 := by
 have hz := h.zx
 have hm := h.many
 have hw : ∀ e ∈ delW S.wait id, e ∈ S.wait ∧ e.1 ≠ id := fun e he => by
  obtain ⟨h1, h2⟩ := List.mem_filter.1 he
  exact ⟨h1, by simpa using h2⟩
 have hl : (delW S.wait id).length ≤ K + 1 := Nat.le_trans (List.length_filter_le _ _) (by omega)
 have ha : ∀ e ∈ delW S.wait id, e.1 ∉ S.decided ++ [id] := fun e he hh => by
  obtain ⟨h1, h2⟩ := hw e he
  rcases List.mem_append.1 hh with hh | hh
  ·exact h.apart e h1 hh
  ·exact h2 (List.mem_singleton.1 hh)
 have hf : ∀ e ∈ ydz' S.held id, ybn' e.1 = true := fun e he => h.held e (List.mem_filter.1 he).1
 have hzx : 0 ≤ S.zxid + 1 ∧ S.zxid + 1 ≤ ((K + 1 : Nat) : Int) := by omega
 unfold ybo'
 split
 ·exact h.mono (by omega)
 ·split
  ·exact ⟨h.tree.mono (by omega), hf, fun e he => h.wait e (hw e he).1, hl, hzx, ha, h.good⟩
  ·split
   ·exact ⟨(ypt' _ h.tree).mono (by omega), hf, fun e he => h.wait e (hw e he).1, hl, hzx, ha, y0v' _ h.good⟩
   ·exact ⟨(ysz' h.tree _ _ _).mono (by omega), hf, fun e he => h.wait e (hw e he).1, hl, hzx, ha, yxp' h.good _ _ _⟩
end Go.Av

namespace Go.Av
open Go.RowKit
def yky' (S : PartS) : Prop := ∀ e ∈ S.held, hasW S.wait e.2 = true
theorem ysg' (W : yd9') (e : Int × WaitS) (id : Int) : hasW (W ++ [e]) id = (hasW W id || e.1 == id) := by
 unfold hasW
 rw [List.any_append]
 simp
theorem yp5' {H : ybx'} {who : Int} {ps : List Bs} : ∀ e ∈ yc5' H who ps, e.2 = who ∨ e ∈ H := by
 intro e he
 unfold yc5' at he
 split at he
 ·exact .inr he
 ·rcases yho' ps H he with h1 | h1
  ·exact .inl h1.2
  ·exact .inr h1
theorem yjk' {id : Int} : ∀ (ops : List OpS) {H : ybx'}, ∀ e ∈ ybb' H id ops, e.2 = id ∨ e ∈ H
 | [], H, e, he => .inr he
 | o :: ops, H, e, he => by
  rcases yjk' ops (H := yc5' H id (yay' o)) e he with h | h
  ·exact .inl h
  ·exact yp5' e h
theorem yy8' {S : PartS} (h : yky' S) (sess num : Int) (ops : List OpS) : yky' (yb4' S sess num ops).2 := by
 unfold yb4'
 split
 ·exact h
 ·split
  ·exact h
  ·exact h
theorem y0u' {S : PartS} (h : yky' S) (id sess : Int) (ops : List OpS) : yky' (yd1' S id sess ops).2 := by
 unfold yd1'
 split
 ·exact h
 ·split
  ·exact h
  ·split
   ·exact h
   ·intro e he
    show hasW (S.wait ++ [_]) e.2 = true
    rw [ysg']
    rcases yjk' ops e he with h1 | h1
    ·rw [h1]; simp
    ·rw [h e h1]; rfl
theorem yyo' {S : PartS} (h : yky' S) (id sess : Int) : yky' (ycb' S id sess).2 := by
 unfold ycb'
 split
 ·exact h
 ·split
  ·exact h
  ·split
   ·exact h
   ·split
    ·exact h
    ·intro e he
     show hasW (S.wait ++ [_]) e.2 = true
     rw [ysg']
     rcases yp5' e he with h1 | h1
     ·rw [h1]; simp
     ·rw [h e h1]; rfl
theorem yva' {S : PartS} (h : yky' S) (id : Int) (commit : Bool) : yky' (ybo' S id commit).2 := by
 have key : ∀ e ∈ ydz' S.held id, hasW (delW S.wait id) e.2 = true := fun e he => by
  obtain ⟨h1, h2⟩ := List.mem_filter.1 he
  have h3 := h e h1
  unfold hasW at h3 ⊢
  obtain ⟨x, hx, hxe⟩ := List.any_eq_true.1 h3
  refine List.any_eq_true.2 ⟨x, List.mem_filter.2 ⟨hx, ?_⟩, hxe⟩
  have e1 : x.1 = e.2 := by simpa using hxe
  rw [e1]
  exact h2
 unfold ybo'
 split
 ·exact h
 ·split
  ·exact key
  ·split
   ·exact key
   ·exact key
end Go.Av

namespace Go.Av
open Go.RowKit
instance : Inhabited OpS := ⟨⟨0, ⟨#[]⟩, ⟨#[]⟩, 0, 0⟩⟩
def IsOps (w : World) (a : Option Addr) (len cap : Nat) (l : List OpS) : Prop :=
 l.length = len ∧ len ≤ cap ∧ cap ≤ maxLen ∧ (a = none → cap = 0) ∧
  (∀ x, a = some x → ∀ i, (h : i < l.length) → w.cell? (x.add (i * 5)) = some (.int .i64 l[i].kind) ∧ w.cell? (x.add (i * 5 + 1)) = some (.string l[i].path) ∧ w.cell? (x.add (i * 5 + 2)) = some (.string l[i].data) ∧
   w.cell? (x.add (i * 5 + 3)) = some (.int .i64 l[i].ver) ∧ w.cell? (x.add (i * 5 + 4)) = some (.int .i64 l[i].flags)) ∧ ∀ c ∈ l, c.path.size ≤ maxLen ∧ c.data.size ≤ maxLen
theorem ycv' (x : Addr) (i j : Nat) : (x.add i).add j = x.add (i + j) := (Go.Deep.add_add x i j).symm ▸ rfl
theorem IsOps.row {w : World} {a : Option Addr} {len cap : Nat} {l : List OpS} (h : IsOps w a len cap l) : ∃ E, ReadRow w 5 (.slice a len cap) (l.flatMap OpS.cells) E := by
 obtain ⟨h1, h2, h3, h4, h5, h6⟩ := h
 have hlen : (l.flatMap OpS.cells).length = len * 5 := by rw [yav' (f := OpS.cells) (K := 5) (fun _ => rfl), h1]
 cases l with
 | nil => exact ⟨[], a, len, cap, rfl, hlen, h2, h3, h4, .inl ⟨rfl, rfl⟩⟩
 | cons o l =>
  cases a with
  | none =>
   have := h4 rfl
   simp at h1
   omega
  | some x =>
   obtain ⟨g0, -⟩ := h5 x rfl 0 (by simp)
   have hs := yg3' g0
   obtain ⟨bk, off, sp⟩ := x
   rw [Nat.zero_mul] at g0
   have hsp : sp = none := by
    have hz : (⟨bk, off, sp⟩ : Addr).add 0 = ⟨bk, off, sp⟩ := by unfold Addr.add; split <;> simp_all
    rw [hz] at g0
    exact yg3' g0
   subst hsp
   refine ⟨[bk], _, len, cap, rfl, hlen, h2, h3, h4, .inr ⟨bk, off, rfl, rfl, ?_, fun i v hv => ?_⟩⟩
   ·have := World.block_lt_of_cell? w _ g0
    rw [Addr.add_lit] at this
    exact this
   ·have hi : i < (o :: l).length * 5 := by
     have := (List.getElem?_eq_some_iff.1 hv).1
     rw [yav' (f := OpS.cells) (K := 5) (fun _ => rfl)] at this
     exact this
    have hp : i / 5 < (o :: l).length := by omega
    have hm : i % 5 < 5 := Nat.mod_lt _ (by omega)
    have hat := yfm' (f := OpS.cells) (K := 5) (fun _ => rfl) (o :: l) hp hm
    rw [show i / 5 * 5 + i % 5 = i by omega, hv] at hat
    obtain ⟨c0, c1, c2, c3, c4⟩ := h5 _ rfl (i / 5) hp
    simp only [Addr.add_lit] at c0 c1 c2 c3 c4
    rcases (show i % 5 = 0 ∨ i % 5 = 1 ∨ i % 5 = 2 ∨ i % 5 = 3 ∨ i % 5 = 4 by omega) with e | e | e | e | e <;> rw [e] at hat <;> simp only [OpS.cells, k_k, k_j, Option.some.injEq] at hat <;> subst hat
    ·rw [show off + i = off + i / 5 * 5 by omega]; exact c0
    ·rw [show off + i = off + (i / 5 * 5 + 1) by omega]; exact c1
    ·rw [show off + i = off + (i / 5 * 5 + 2) by omega]; exact c2
    ·rw [show off + i = off + (i / 5 * 5 + 3) by omega]; exact c3
    ·rw [show off + i = off + (i / 5 * 5 + 4) by omega]; exact c4
end Go.Av
namespace Go.Proofs.YtcnkifbjlihaoaaGreatDoor
open Go.RowKit Go.Av Go.ChangeShapes Go.WideShapes
theorem yv6' : Tryz.prog.cellsOf 89 = 5 ∧ Tryz.prog.cellsOf 3 = 1 ∧ Tryz.prog.cellsOf 9 = 1 := by
 refine ⟨?_, ?_, ?_⟩ <;> kernel_rfl
set_option maxRecDepth 100000 in
theorem yzi' {H : Type} {enc : TypeId × Value → H} {w : World} {base : Nat} {held : Bool} {fuel : Nat} {a : Option Addr} {len cap : Nat} {x : DataW H × List MemPlace}
  (h : DataW.trod enc Tryz.prog w base (fun _ => true) held fuel 30 [.slice a len cap] = some x) : ∃ l, IsOps w a len cap l := by
 obtain ⟨c1, c2, c3⟩ := yv6'
 rcases Deep.open_slice Tryz.underlying30 h with ⟨hcs, _⟩ | ⟨x, l, c, m, n, D, Pl, hcs, hb, hl, hm, hmm, hx, hi⟩
 ·cases hcs
  exact ⟨[], rfl, Nat.le_refl _, by decide, fun _ => rfl, by simp, by simp⟩
 ·cases hcs
  rw [c1] at hi
  have each : ∀ i, i < len → ∃ q : OpS, (w.cell? (x.add (i * 5)) = some (.int .i64 q.kind) ∧ w.cell? (x.add (i * 5 + 1)) = some (.string q.path) ∧ w.cell? (x.add (i * 5 + 2)) = some (.string q.data) ∧
    w.cell? (x.add (i * 5 + 3)) = some (.int .i64 q.ver) ∧ w.cell? (x.add (i * 5 + 4)) = some (.int .i64 q.flags)) ∧ q.path.size ≤ maxLen ∧ q.data.size ≤ maxLen := by
   intro i hil
   obtain ⟨cs', hc, ht⟩ := hi i (by rw [hmm]; split <;> omega)
   obtain ⟨_, hcl, hat⟩ := World.cells?_some hc
   obtain ⟨ys, n', -, -, -, hyl, hf⟩ := DataW.trod_struct Tryz.underlying89 ht
   match cs', hcl with
   | [k0, k1, k2, k3, k4], _ =>
    have f0 : DataW.trod enc Tryz.prog w base (fun _ => true) held n' 3 (List.take (Tryz.prog.cellsOf 3) (List.drop 0 [k0, k1, k2, k3, k4])) = ys[0]? := hf 0 _ rfl
    have f1 : DataW.trod enc Tryz.prog w base (fun _ => true) held n' 9 (List.take (Tryz.prog.cellsOf 9) (List.drop 1 [k0, k1, k2, k3, k4])) = ys[1]? := hf 1 _ rfl
    have f2 : DataW.trod enc Tryz.prog w base (fun _ => true) held n' 9 (List.take (Tryz.prog.cellsOf 9) (List.drop 2 [k0, k1, k2, k3, k4])) = ys[2]? := hf 2 _ rfl
    have f3 : DataW.trod enc Tryz.prog w base (fun _ => true) held n' 3 (List.take (Tryz.prog.cellsOf 3) (List.drop 3 [k0, k1, k2, k3, k4])) = ys[3]? := hf 3 _ rfl
    have f4 : DataW.trod enc Tryz.prog w base (fun _ => true) held n' 3 (List.take (Tryz.prog.cellsOf 3) (List.drop 4 [k0, k1, k2, k3, k4])) = ys[4]? := hf 4 _ rfl
    rw [c2] at f0 f3 f4
    rw [c3] at f1 f2
    have hy : ∀ j, j < 5 → ∃ y, ys[j]? = some y := fun j hj => ⟨ys[j]'(by rw [hyl]; exact hj), List.getElem?_eq_getElem _⟩
    obtain ⟨y0, e0⟩ := hy 0 (by omega)
    obtain ⟨y1, e1⟩ := hy 1 (by omega)
    obtain ⟨y2, e2⟩ := hy 2 (by omega)
    obtain ⟨y3, e3⟩ := hy 3 (by omega)
    obtain ⟨y4, e4⟩ := hy 4 (by omega)
    obtain ⟨n0, g0, -, -⟩ := DataW.trod_int Tryz.underlying3 (f0.trans e0)
    obtain ⟨n1, g1, -, w1⟩ := DataW.trod_string Tryz.underlying9 (f1.trans e1)
    obtain ⟨n2, g2, -, w2⟩ := DataW.trod_string Tryz.underlying9 (f2.trans e2)
    obtain ⟨n3, g3, -, -⟩ := DataW.trod_int Tryz.underlying3 (f3.trans e3)
    obtain ⟨n4, g4, -, -⟩ := DataW.trod_int Tryz.underlying3 (f4.trans e4)
    simp at g0 g1 g2 g3 g4
    subst g0 g1 g2 g3 g4
    refine ⟨⟨n0, n1, n2, n3, n4⟩, ⟨?_, ?_, ?_, ?_, ?_⟩, w1, w2⟩
    ·have := hat 0 (by omega); rw [ycv'] at this; exact this
    ·have := hat 1 (by omega); rw [ycv'] at this; exact this
    ·have := hat 2 (by omega); rw [ycv'] at this; exact this
    ·have := hat 3 (by omega); rw [ycv'] at this; exact this
    ·have := hat 4 (by omega); rw [ycv'] at this; exact this
  obtain ⟨y, hy⟩ := Deep.choose_lt each
  refine ⟨(List.range len).map y, by simp, hl, hm, by simp, ?_, ?_⟩
  ·intro x' hx' i hi'
   cases hx'
   simp at hi'
   simpa using (hy i hi').1
  ·intro q hq
   obtain ⟨i, hi', rfl⟩ := List.mem_map.1 hq
   exact (hy i (List.mem_range.1 hi')).2
end Go.Proofs.YtcnkifbjlihaoaaGreatDoor

namespace Go.Av
open Go.RowKit
structure PAct where
 op : Int
 id : Int
 sess : Int
 v : Value
 yes : Bool
 ops : List OpS
def PAct.cells (a : PAct) : List Value := [.int .i64 a.op, .int .i64 a.id, .int .i64 a.sess, a.v, .bool a.yes]
instance : Inhabited PAct := ⟨⟨0, 0, 0, .bool false, false, []⟩⟩
def IsPActs (w : World) (a : Option Addr) (len cap : Nat) (l : List PAct) : Prop :=
 l.length = len ∧ len ≤ cap ∧ cap ≤ maxLen ∧ (a = none → cap = 0) ∧
  (∀ x, a = some x → ∀ i, (h : i < l.length) → w.cell? (x.add (i * 5)) = some (.int .i64 l[i].op) ∧ w.cell? (x.add (i * 5 + 1)) = some (.int .i64 l[i].id) ∧ w.cell? (x.add (i * 5 + 2)) = some (.int .i64 l[i].sess) ∧
   w.cell? (x.add (i * 5 + 3)) = some l[i].v ∧ w.cell? (x.add (i * 5 + 4)) = some (.bool l[i].yes)) ∧ ∀ c ∈ l, c.id ≤ 9223372036854775807 ∧ ∃ E, ReadRow w 5 c.v (c.ops.flatMap OpS.cells) E
theorem IsPActs.row {w : World} {a : Option Addr} {len cap : Nat} {l : List PAct} (h : IsPActs w a len cap l) : ∃ E, ReadRow w 5 (.slice a len cap) (l.flatMap PAct.cells) E := by
 obtain ⟨h1, h2, h3, h4, h5, h6⟩ := h
 have hlen : (l.flatMap PAct.cells).length = len * 5 := by rw [yav' (f := PAct.cells) (K := 5) (fun _ => rfl), h1]
 cases l with
 | nil => exact ⟨[], a, len, cap, rfl, hlen, h2, h3, h4, .inl ⟨rfl, rfl⟩⟩
 | cons o l =>
  cases a with
  | none =>
   have := h4 rfl
   simp at h1
   omega
  | some x =>
   obtain ⟨g0, -⟩ := h5 x rfl 0 (by simp)
   have hs := yg3' g0
   obtain ⟨bk, off, sp⟩ := x
   rw [Nat.zero_mul] at g0
   have hsp : sp = none := by
    have hz : (⟨bk, off, sp⟩ : Addr).add 0 = ⟨bk, off, sp⟩ := by unfold Addr.add; split <;> simp_all
    rw [hz] at g0
    exact yg3' g0
   subst hsp
   refine ⟨[bk], _, len, cap, rfl, hlen, h2, h3, h4, .inr ⟨bk, off, rfl, rfl, ?_, fun i v hv => ?_⟩⟩
   ·have := World.block_lt_of_cell? w _ g0
    rw [Addr.add_lit] at this
    exact this
   ·have hi : i < (o :: l).length * 5 := by
     have := (List.getElem?_eq_some_iff.1 hv).1
     rw [yav' (f := PAct.cells) (K := 5) (fun _ => rfl)] at this
     exact this
    have hp : i / 5 < (o :: l).length := by omega
    have hm : i % 5 < 5 := Nat.mod_lt _ (by omega)
    have hat := yfm' (f := PAct.cells) (K := 5) (fun _ => rfl) (o :: l) hp hm
    rw [show i / 5 * 5 + i % 5 = i by omega, hv] at hat
    obtain ⟨c0, c1, c2, c3, c4⟩ := h5 _ rfl (i / 5) hp
    simp only [Addr.add_lit] at c0 c1 c2 c3 c4
    rcases (show i % 5 = 0 ∨ i % 5 = 1 ∨ i % 5 = 2 ∨ i % 5 = 3 ∨ i % 5 = 4 by omega) with e | e | e | e | e <;> rw [e] at hat <;> simp only [PAct.cells, k_k, k_j, Option.some.injEq] at hat <;> subst hat
    ·rw [show off + i = off + i / 5 * 5 by omega]; exact c0
    ·rw [show off + i = off + (i / 5 * 5 + 1) by omega]; exact c1
    ·rw [show off + i = off + (i / 5 * 5 + 2) by omega]; exact c2
    ·rw [show off + i = off + (i / 5 * 5 + 3) by omega]; exact c3
    ·rw [show off + i = off + (i / 5 * 5 + 4) by omega]; exact c4
end Go.Av
namespace Go.Proofs.YtcnkifbjlihaoaaGreatDoor
open Go.RowKit Go.Av Go.ChangeShapes Go.WideShapes
theorem ys9' {H : Type} {enc : TypeId × Value → H} {w : World} {base : Nat} {held : Bool} {fuel : Nat} {c : Value} {x : DataW H × List MemPlace}
  (h : DataW.trod enc Tryz.prog w base (fun _ => true) held fuel 30 [c] = some x) : ∃ (l : List OpS) (E : List Nat), ReadRow w 5 c (l.flatMap OpS.cells) E := by
 have hs : ∃ a n m, c = .slice a n m := by
  rcases Deep.open_slice Tryz.underlying30 h with ⟨hcs, _⟩ | ⟨x, l, c', m, n, D, Pl, hcs, _⟩
  ·cases hcs
   exact ⟨_, _, _, rfl⟩
  ·cases hcs
   exact ⟨_, _, _, rfl⟩
 obtain ⟨a, n, m, rfl⟩ := hs
 obtain ⟨l, hl⟩ := yzi' h
 obtain ⟨E, hE⟩ := hl.row
 exact ⟨l, E, hE⟩
end Go.Proofs.YtcnkifbjlihaoaaGreatDoor

namespace Go.Av
open Go.RowKit
theorem ynk' (H : ybx') (who : Int) (ps : List Bs) : (yc5' H who ps).length ≤ H.length + ps.length := by
 unfold yc5'
 split
 ·omega
 ·exact ymc' who ps H
theorem yun' (o : OpS) : (yay' o).length ≤ 2 := by
 unfold yay'
 split
 ·simp
 ·split <;> simp
theorem yjj' (id : Int) : ∀ (ops : List OpS) (H : ybx'), (ybb' H id ops).length ≤ H.length + 2 * ops.length
 | [], H => Nat.le_refl _
 | o :: ops, H => by
  have h1 := yjj' id ops (yc5' H id (yay' o))
  have h2 := ynk' H id (yay' o)
  have h3 := yun' o
  have e : ybb' H id (o :: ops) = ybb' (yc5' H id (yay' o)) id ops := rfl
  rw [e, List.length_cons]
  omega
theorem y0p' (S : TreeS) (sess : Int) : (ofT S sess).length ≤ S.l.length := by unfold ofT; rw [List.length_map]; exact List.length_filter_le _ _
structure PartC (K : Nat) (S : PartS) : Prop where
 b : PartB K S
 h : yky' S
 len : S.held.length ≤ 600 * K
theorem PartC.mono {K K' : Nat} {S : PartS} (h : PartC K S) (hK : K ≤ K') : PartC K' S := ⟨h.b.mono hK, h.h, Nat.le_trans h.len (Nat.mul_le_mul_left _ hK)⟩
theorem y0n' (room : Int) (h : 1 ≤ room ∧ room ≤ 500) : PartC 0 (newP room) := ⟨y0m' room h, (fun e he => by cases he), Nat.le_refl _⟩
theorem yy7' {K : Nat} {S : PartS} (h : PartC K S) (sess num : Int) (ops : List OpS) : PartC (K + 1) (yb4' S sess num ops).2 := by
 refine ⟨yy6' h.b sess num ops, yy8' h.h sess num ops, ?_⟩
 have := h.len
 unfold yb4'
 split
 ·show S.held.length ≤ _; omega
 ·split
  ·show S.held.length ≤ _; omega
  ·show S.held.length ≤ _; omega
theorem y0t' {K : Nat} {S : PartS} (h : PartC K S) (id sess : Int) (ops : List OpS) : PartC (K + 1) (yd1' S id sess ops).2 := by
 refine ⟨y0s' h.b id sess ops, y0u' h.h id sess ops, ?_⟩
 have := h.len
 unfold yd1'
 split
 ·show S.held.length ≤ _; omega
 ·split
  ·show S.held.length ≤ _; omega
  ·rename_i hm
   split
   ·show S.held.length ≤ _; omega
   ·have hg := (ye7' (by simpa using hm : mayS sess 1 ops = 0)).1
    have := yjj' id ops S.held
    show (ybb' S.held id ops).length ≤ _
    omega
theorem yyn' {K : Nat} {S : PartS} (h : PartC K S) (id sess : Int) : PartC (K + 1) (ycb' S id sess).2 := by
 refine ⟨yym' h.b id sess, yyo' h.h id sess, ?_⟩
 have := h.len
 unfold ycb'
 split
 ·show S.held.length ≤ _; omega
 ·split
  ·show S.held.length ≤ _; omega
  ·split
   ·show S.held.length ≤ _; omega
   ·split
    ·show S.held.length ≤ _; omega
    ·have h1 := ynk' S.held id (ofT S.t sess)
     have h2 := y0p' S.t sess
     have h3 := h.b.tree.many
     show (yc5' S.held id (ofT S.t sess)).length ≤ _
     omega
theorem yu9' {K : Nat} {S : PartS} (h : PartC K S) (id : Int) (commit : Bool) : PartC (K + 1) (ybo' S id commit).2 := by
 refine ⟨yu8' h.b id commit, yva' h.h id commit, ?_⟩
 have h1 := h.len
 have h2 : (ydz' S.held id).length ≤ S.held.length := List.length_filter_le _ _
 unfold ybo'
 split
 ·show S.held.length ≤ _; omega
 ·split
  ·show (ydz' S.held id).length ≤ _; omega
  ·split
   ·show (ydz' S.held id).length ≤ _; omega
   ·show (ydz' S.held id).length ≤ _; omega
end Go.Av

namespace Go.Proofs.YtcnkifbjlihaoaaGreatDoor
open Go.RowKit Go.Av
def iv (n : Int) : Value := .int .i64 n
theorem yxo' {l : List Int} : ∀ u ∈ l.map iv, u.oneCell' = true := by
 intro u hu
 obtain ⟨x, _, rfl⟩ := List.mem_map.1 hu
 rfl
def risF (last : Int) : List Int → Bool
 | [] => true
 | s :: r => !(decide (s ≤ last) || decide (4 ≤ s)) && risF s r
def risS (l : List Int) : Bool := risF (-1) l
def idxF (k : Int) : List Int → Option Nat
 | [] => none
 | x :: r => if x = k then some 0 else (idxF k r).map (· + 1)
def idxS (k : Int) (l : List Int) : Int := match idxF k l with | none => -1 | some i => i
theorem ym6' (last x : Int) (r : List Int) : risF last (x :: r) = (!(decide (x ≤ last) || decide (4 ≤ x)) && risF x r) := rfl
set_option maxHeartbeats 1000000 in
theorem yq7' (v : Value) (l : List Int) (E : List Nat) (w : World) (h : ReadRow w 1 v (l.map iv) E) :
  Calls Tryz.prog 242 #[v] w fun e w' => e = .returned (.bool (risS l)) ∧ w' = w := by
 obtain ⟨a, n, c, rfl, -⟩ := id h
 obtain ⟨hn, hnc, hcm, hcell⟩ := yck' h
 rw [List.length_map] at hn
 subst hn
 unfold maxLen at hcm
 have HC := Lib.hid hcell
 clear hcell h
 go_enter Tryz.func242, Tryz.ntmps242
 go_wp2_with fail
 go_loop [3, 8] (fun u i => ∃ (p : Nat) (last : Int), p ≤ l.length ∧ i = .int .i64 p ∧ u = .int .i64 last ∧ risS l = risF last (l.drop p)) (fun _ i => l.length - (intOf i).toNat)
 case atStart => exact ⟨0, -1, Nat.zero_le _, rfl, rfl, rfl⟩
 case round =>
  obtain ⟨p, last, hp, rfl, rfl, hr⟩ := hrel
  by_cases hlt : p < l.length
  ·obtain ⟨x, rfl, hs, hc⟩ := HC.out (by omega)
   have hx := hc p (iv l[p]) (by rw [List.getElem?_map, List.getElem?_eq_getElem hlt]; rfl)
   have hd : l.drop p = l[p] :: l.drop (p + 1) := (List.getElem_cons_drop hlt).symm
   obtain ⟨y, hy⟩ : ∃ y, y = l[p] := ⟨_, rfl⟩
   rw [hd, ← hy] at hr
   rw [← hy] at hx
   rw [ym6'] at hr
   unfold iv at hx
   have HR := Lib.hid hr
   clear hc hd hy hr
   by_cases h1 : y ≤ last
   ·go_wp2_with fail
    go_ret
    rw [HR.out]
    exact ⟨by simp [h1], rfl⟩
   by_cases h2 : 4 ≤ y
   ·go_wp2_with fail
    go_ret
    rw [HR.out]
    exact ⟨by simp [h2], rfl⟩
   go_wp2_with fail
   go_round
   case rel => exact ⟨p + 1, y, by omega, by go_num, rfl, by rw [HR.out]; simp [h1, h2]⟩
   case measure => simp [intOf]; omega
  ·have HR := Lib.hid hr
   clear hr
   go_wp2_with fail
   go_ret
   rw [HR.out, List.drop_eq_nil_of_le (by omega)]
   exact ⟨rfl, rfl⟩
theorem ymg' (k x : Int) (r : List Int) : idxF k (x :: r) = if x = k then some 0 else (idxF k r).map (· + 1) := rfl
set_option maxHeartbeats 1000000 in
theorem ysm' (v : Value) (l : List Int) (k : Int) (E : List Nat) (w : World) (h : ReadRow w 1 v (l.map iv) E) :
  Calls Tryz.prog 278 #[v, .int .i64 k] w fun e w' => e = .returned (.int .i64 (idxS k l)) ∧ w' = w := by
 obtain ⟨a, n, c, rfl, -⟩ := id h
 obtain ⟨hn, hnc, hcm, hcell⟩ := yck' h
 rw [List.length_map] at hn
 subst hn
 unfold maxLen at hcm
 have HC := Lib.hid hcell
 clear hcell h
 go_enter Tryz.func278, Tryz.ntmps278
 go_wp2_with fail
 go_loop [8] (fun i => ∃ (p : Nat), p ≤ l.length ∧ i = .int .i64 p ∧ idxF k l = (idxF k (l.drop p)).map (· + p)) (fun i => l.length - (intOf i).toNat)
 case atStart => exact ⟨0, Nat.zero_le _, rfl, by simp⟩
 case round =>
  obtain ⟨p, hp, rfl, hr⟩ := hrel
  by_cases hlt : p < l.length
  ·obtain ⟨x, rfl, hs, hc⟩ := HC.out (by omega)
   have hx := hc p (iv l[p]) (by rw [List.getElem?_map, List.getElem?_eq_getElem hlt]; rfl)
   have hd : l.drop p = l[p] :: l.drop (p + 1) := (List.getElem_cons_drop hlt).symm
   obtain ⟨y, hy⟩ : ∃ y, y = l[p] := ⟨_, rfl⟩
   rw [hd, ← hy] at hr
   rw [← hy] at hx
   rw [ymg'] at hr
   unfold iv at hx
   have HR := Lib.hid hr
   clear hc hd hy hr
   by_cases h1 : k = y
   ·have hb : (k == y) = true := by simp [h1]
    have HK := Lib.hid h1
    clear h1
    go_wp2_with fail
    go_ret
    have := HR.out
    rw [if_pos HK.out.symm] at this
    unfold idxS
    rw [this]
    exact ⟨by simp, rfl⟩
   ·have hb : (k == y) = false := by simp [h1]
    go_wp2_with fail
    go_round
    case rel =>
     have := HR.out
     rw [if_neg (fun e => h1 e.symm)] at this
     refine ⟨p + 1, by omega, by go_num, ?_⟩
     rw [this, Option.map_map]
     congr 1
     funext z
     simp
     omega
    case measure => simp [intOf]; omega
  ·have HR := Lib.hid hr
   clear hr
   go_wp2_with fail
   go_ret
   have := HR.out
   rw [List.drop_eq_nil_of_le (by omega)] at this
   unfold idxS
   rw [this]
   exact ⟨rfl, rfl⟩
def yhk' (p : Int → Bool) : List Int → Option Nat
 | [] => none
 | x :: r => if p x then some 0 else (yhk' p r).map (· + 1)
theorem yfl' (q : Int → Bool) (x : Int) (r : List Int) : yhk' q (x :: r) = if q x then some 0 else (yhk' q r).map (· + 1) := rfl
def idxQ (q : Int → Bool) (l : List Int) : Int := match yhk' q l with | none => -1 | some i => i
set_option maxHeartbeats 1000000 in
theorem yiy' (v : Value) (l : List Int) (q : Int → Bool) (E : List Nat) (w : World) (h : ReadRow w 1 v (l.map iv) E)
  (hq : ∀ x, Calls Tryz.prog 280 #[.int .i64 x] w fun e w' => e = .returned (.bool (q x)) ∧ w' = w) :
  Calls Tryz.prog 281 #[v, .func (.func 280) #[] #[]] w fun e w' => e = .returned (.int .i64 (idxQ q l)) ∧ w' = w := by
 obtain ⟨a, n, c, rfl, -⟩ := id h
 obtain ⟨hn, hnc, hcm, hcell⟩ := yck' h
 rw [List.length_map] at hn
 subst hn
 unfold maxLen at hcm
 have HC := Lib.hid hcell
 have HQ := Lib.hid hq
 clear hcell h hq
 go_enter Tryz.func281, Tryz.ntmps281
 go_wp2_with fail
 go_loop [8] (fun i => ∃ (p : Nat), p ≤ l.length ∧ i = .int .i64 p ∧ yhk' q l = (yhk' q (l.drop p)).map (· + p)) (fun i => l.length - (intOf i).toNat)
 case atStart => exact ⟨0, Nat.zero_le _, rfl, by simp⟩
 case round =>
  obtain ⟨p, hp, rfl, hr⟩ := hrel
  by_cases hlt : p < l.length
  ·obtain ⟨x, rfl, hs, hc⟩ := HC.out (by omega)
   have hx := hc p (iv l[p]) (by rw [List.getElem?_map, List.getElem?_eq_getElem hlt]; rfl)
   have hd : l.drop p = l[p] :: l.drop (p + 1) := (List.getElem_cons_drop hlt).symm
   obtain ⟨y, hy⟩ : ∃ y, y = l[p] := ⟨_, rfl⟩
   rw [hd, ← hy] at hr
   rw [← hy] at hx
   rw [yfl'] at hr
   unfold iv at hx
   have HR := Lib.hid hr
   obtain ⟨b, hb⟩ : ∃ b, q y = b := ⟨_, rfl⟩
   have HB := Lib.hid hb
   have hqy := HQ.out y
   rw [hb] at hqy
   have HQY := Lib.hid hqy
   clear hc hd hy hr hb hqy
   cases b with
   | true =>
    go_wp2_with (go_at_call 280; refine HQY.out.mono ?_; rintro e w1 ⟨rfl, rfl⟩)
    go_ret
    have := HR.out
    rw [HB.out, if_pos rfl] at this
    unfold idxQ
    rw [this]
    exact ⟨by simp, rfl⟩
   | false =>
    go_wp2_with (go_at_call 280; refine HQY.out.mono ?_; rintro e w1 ⟨rfl, rfl⟩)
    go_round
    case rel =>
     have := HR.out
     rw [HB.out, if_neg (by simp)] at this
     refine ⟨p + 1, by omega, by go_num, ?_⟩
     rw [this, Option.map_map]
     congr 1
     funext z
     simp
     omega
    case measure => simp [intOf]; omega
  ·have HR := Lib.hid hr
   clear hr
   go_wp2_with fail
   go_ret
   have := HR.out
   rw [List.drop_eq_nil_of_le (by omega)] at this
   unfold idxQ
   rw [this]
   exact ⟨rfl, rfl⟩
set_option maxHeartbeats 1000000 in
theorem yjq' (v : Value) (l : List Int) (cp : Addr) (q : Int → Bool) (E : List Nat) (w : World) (h : ReadRow w 1 v (l.map iv) E)
  (hq : ∀ x, Calls Tryz.prog 247 #[.int .i64 x, .pointer (some cp)] w fun e w' => e = .returned (.bool (q x)) ∧ w' = w) :
  Calls Tryz.prog 281 #[v, .func (.func 247) #[] #[.pointer (some cp)]] w fun e w' => e = .returned (.int .i64 (idxQ q l)) ∧ w' = w := by
 obtain ⟨a, n, c, rfl, -⟩ := id h
 obtain ⟨hn, hnc, hcm, hcell⟩ := yck' h
 rw [List.length_map] at hn
 subst hn
 unfold maxLen at hcm
 have HC := Lib.hid hcell
 have HQ := Lib.hid hq
 clear hcell h hq
 go_enter Tryz.func281, Tryz.ntmps281
 go_wp2_with fail
 go_loop [8] (fun i => ∃ (p : Nat), p ≤ l.length ∧ i = .int .i64 p ∧ yhk' q l = (yhk' q (l.drop p)).map (· + p)) (fun i => l.length - (intOf i).toNat)
 case atStart => exact ⟨0, Nat.zero_le _, rfl, by simp⟩
 case round =>
  obtain ⟨p, hp, rfl, hr⟩ := hrel
  by_cases hlt : p < l.length
  ·obtain ⟨x, rfl, hs, hc⟩ := HC.out (by omega)
   have hx := hc p (iv l[p]) (by rw [List.getElem?_map, List.getElem?_eq_getElem hlt]; rfl)
   have hd : l.drop p = l[p] :: l.drop (p + 1) := (List.getElem_cons_drop hlt).symm
   obtain ⟨y, hy⟩ : ∃ y, y = l[p] := ⟨_, rfl⟩
   rw [hd, ← hy] at hr
   rw [← hy] at hx
   rw [yfl'] at hr
   unfold iv at hx
   have HR := Lib.hid hr
   obtain ⟨b, hb⟩ : ∃ b, q y = b := ⟨_, rfl⟩
   have HB := Lib.hid hb
   have hqy := HQ.out y
   rw [hb] at hqy
   have HQY := Lib.hid hqy
   clear hc hd hy hr hb hqy
   cases b with
   | true =>
    go_wp2_with (go_at_call 247; refine HQY.out.mono ?_; rintro e w1 ⟨rfl, rfl⟩)
    go_ret
    have := HR.out
    rw [HB.out, if_pos rfl] at this
    unfold idxQ
    rw [this]
    exact ⟨by simp, rfl⟩
   | false =>
    go_wp2_with (go_at_call 247; refine HQY.out.mono ?_; rintro e w1 ⟨rfl, rfl⟩)
    go_round
    case rel =>
     have := HR.out
     rw [HB.out, if_neg (by simp)] at this
     refine ⟨p + 1, by omega, by go_num, ?_⟩
     rw [this, Option.map_map]
     congr 1
     funext z
     simp
     omega
    case measure => simp [intOf]; omega
  ·have HR := Lib.hid hr
   clear hr
   go_wp2_with fail
   go_ret
   have := HR.out
   rw [List.drop_eq_nil_of_le (by omega)] at this
   unfold idxQ
   rw [this]
   exact ⟨rfl, rfl⟩
end Go.Proofs.YtcnkifbjlihaoaaGreatDoor

namespace Go.Av
open Go.RowKit
section
variable {w0 w : World} {R : List Thing} {rows : List (Value × Bs)}
theorem Sep.rowFill {y : Addr} {n c : Nat} {xs : List Value} (h : Sep w0 w (yaf' 1 (.slice (some y) n c) xs :: R) rows) (i k : Nat) (hk : i + k ≤ n) (hn : 0 < n) (v : Value) :
  ∃ b off, y = ⟨b, off, none⟩ ∧ (∀ j, j < k → (w.cell? ⟨b, off + i + j, none⟩).isSome = true) ∧ (∀ j, j < k → w.frozen? ⟨b, off + i + j, none⟩ = false) ∧
   Sep w0 (w.setCells b (off + i) (List.replicate k v)) (yaf' 1 (.slice (some y) n c) (xs.take i ++ List.replicate k v ++ xs.drop (i + k)) :: R) rows := by
 obtain ⟨D, hP, _, back⟩ := h.use
 obtain ⟨a', n', c', hv, hl, hn', hc, ha, hr⟩ := hP
 cases hv
 rcases hr with ⟨hc0, _⟩ | ⟨g, off, cur, T, h1, h2, h3, h4, h5⟩
 ·omega
 ·cases h1
  subst h2
  rw [Nat.mul_one] at hl h4 h5
  refine ⟨g, off, rfl, fun j hj => ?_, fun j hj => yad' h3 _, ?_⟩
  ·rw [cell_of_row w g (off + i + j) cur T _ h3, Array.getElem?_eq_getElem (by omega)]; rfl
  ·obtain ⟨r1, r2, r3⟩ := yb6' g (List.replicate k v) (off + i) w
   refine back _ [g] (yaf' 1 (.slice (some ⟨g, off, none⟩) n c) _) ⟨r1, r2, r3, by rw [yb7']; exact Nat.le_refl _, fun b _ hbn => ybe' g b (by simpa using hbn) _ _ _, fun _ h => .inl h⟩
    ⟨_, n, c, rfl, by simp; omega, hn', hc, ha, .inr ⟨g, off, _, T, rfl, rfl, ybj' g T _ _ w cur h3 (by simp; omega), by simp; omega, ?_⟩⟩
   rw [← h5, Nat.mul_one, List.length_replicate]
   apply List.ext_getElem?
   intro q
   simp only [List.getElem?_take, List.getElem?_drop, List.getElem?_append, List.length_take, List.length_drop, List.length_append, List.length_replicate, Array.length_toList, List.getElem?_replicate, Array.getElem?_toList]
   have e1 : min (off + i) cur.size = off + i := by omega
   have e2 : min i (min n (cur.size - off)) = i := by omega
   rw [e1, e2]
   by_cases hq : q < n
   ·by_cases hq1 : q < i
    ·repeat (first | rw [if_pos (by omega)] | rw [if_neg (by omega)])
    ·by_cases hq2 : q < i + k
     ·repeat (first | rw [if_pos (by omega)] | rw [if_neg (by omega)])
     ·repeat (first | rw [if_pos (by omega)] | rw [if_neg (by omega)])
      congr 1
      omega
   ·repeat (first | rw [if_neg hq] | rw [if_pos (by omega)] | rw [if_neg (by omega)])
theorem Sep.rowTake {a : Option Addr} {n c : Nat} {xs : List Value} (h : Sep w0 w (yaf' 1 (.slice a n c) xs :: R) rows) {k : Nat} (hk : k ≤ n) : Sep w0 w (yaf' 1 (.slice a k c) (xs.take k) :: R) rows := by
 obtain ⟨D, hP, _, back⟩ := h.use
 have := (OwnRow.take hP hk).1
 rw [Nat.mul_one] at this
 exact back w D (yaf' 1 (.slice a k c) (xs.take k)) (Upd.refl w D) this
theorem Sep.readRow {v : Value} {xs : List Value} {size : Nat} (h : Sep w0 w (yaf' size v xs :: R) rows) : ∃ E, ReadRow w size v xs E := by
 obtain ⟨D, hP⟩ := h.fst
 obtain ⟨E, hE, _⟩ := OwnRow.read hP
 exact ⟨E, hE⟩
end
end Go.Av
namespace Go.Proofs.YtcnkifbjlihaoaaGreatDoor
open Go.RowKit Go.Av
def yx9' (w : World) (b : List Int) (e : Ending) (w' : World) : Prop := ∃ v' D', e = .returned v' ∧ OwnRow w' 1 v' (b.map iv) D' ∧ Upd w w' [] D'
set_option maxHeartbeats 400000 in
theorem yee' (v : Value) (b : List Int) (E : List Nat) (w : World) (hb : ReadRow w 1 v (b.map iv) E) (hlen : b.length ≤ 1048576) :
  Calls Tryz.prog 243 #[v] w (yx9' w b) := by
 obtain ⟨i0, hi0, hz0, hz1, hz2⟩ := info_parts yy0'
 obtain ⟨nb, hnb, hsrc⟩ := hb.src (P := Tryz.prog) (tx := 68) Tryz.underlying68 yxo'
 obtain rfl : b.length = nb := by simpa using hnb
 obtain ⟨a, n, c, rfl, hl, hn, hc, ha, hr⟩ := hb
 obtain rfl : b.length = n := by simpa using hl
 have hnil := fun (W : World) (a : Option Addr) (n c n' c' : Nat) => Lib.run_eql_slice_nil (P := Tryz.prog) W 68 3 a n c n' c' Tryz.underlying68
 cases a with
 | none =>
  obtain rfl : c = 0 := ha rfl
  have hb0 : b.length = 0 := by omega
  have H0 := Lib.hid (show b = [] by simpa using hb0)
  clear hl hn hnb hb0 hsrc hr
  go_enter Tryz.func243, Tryz.ntmps243
  go_wp2_with fail
  go_ret
  rw [H0.out]
  exact ⟨_, [], rfl, OwnRow.nil _ _, Upd.refl _ _⟩
 | some ad =>
  have HBD := Lib.hid (show ∀ n, ([] : List Value).length = n * 1 → n + b.length ≤ 140737488355328 ∧ (n + b.length) * i0.bytes ≤ 140737488355328 from fun n hn => by simp at hn; rw [hz2]; omega)
  have hread : ReadRow w 1 (.slice (some ad) b.length c) (b.map iv) E := ⟨_, _, _, rfl, hl, hn, hc, ha, hr⟩
  have HR := Lib.hid hread
  clear hread hr hl hnb
  go_enter Tryz.func243, Tryz.ntmps243
  obtain ⟨nb', hnb', hsrc'⟩ := (HR.out.frame ((Upd.alloc0 w (.cells #[] 3) []).same HR.out.lt (by simp))).src (P := Tryz.prog) (tx := 68) Tryz.underlying68 yxo'
  obtain rfl : b.length = nb' := by simpa using hnb'
  clear hsrc hnb'
  go_wp2_with (at_builtin; go_must (refine yco' rfl _ _ 68 68 rfl 1 _ _ _ rfl (OwnRow.zero _ _ _) _ i0 _ Tryz.underlying68 hi0 hz0 hz1 rfl _ _ _ rfl hsrc' HBD.out ?_); intro a3 n3 c3' w4 D3 hown3 hu4)
  go_ret
  exact ⟨_, D3, rfl, by simpa using hown3, (Upd.alloc0 _ _ _).trans hu4⟩
theorem yl9' (x s : Int) (q : Nat) (w : World) (hc : w.cell? ⟨q, 0, none⟩ = some (.int .i64 s)) :
  Calls Tryz.prog 247 #[.int .i64 x, .pointer (some ⟨q, 0, none⟩)] w fun e w' => e = .returned (.bool (decide (x = s))) ∧ w' = w := by
 obtain ⟨b, hb⟩ : ∃ b, (x == s) = b := ⟨_, rfl⟩
 have HB := Lib.hid (show decide (x = s) = b by rw [← hb]; rfl)
 go_enter Tryz.func247, Tryz.ntmps247
 go_wp2_with fail
 go_ret
 rw [HB.out]
 exact ⟨rfl, rfl⟩
theorem yhl' {q : Int → Bool} : ∀ {l : List Int}, yhk' q l = none → ∀ x ∈ l, q x = false
 | [], _, x, hx => by cases hx
 | y :: r, h, x, hx => by
  rw [yfl'] at h
  by_cases hq : q y = true
  ·rw [if_pos hq] at h; cases h
  ·rw [if_neg hq, Option.map_eq_none_iff] at h
   rcases List.mem_cons.1 hx with rfl | hx
   ·simpa using hq
   ·exact yhl' h x hx
theorem yhm' {q : Int → Bool} : ∀ {l : List Int} {i : Nat}, yhk' q l = some i → i < l.length ∧ (l.take (i + 1)).filter (fun x => !q x) = l.take i
 | [], i, h => by cases h
 | y :: r, i, h => by
  rw [yfl'] at h
  by_cases hq : q y = true
  ·rw [if_pos hq] at h
   cases h
   simp [hq]
  ·rw [if_neg hq] at h
   cases hr : yhk' q r with
   | none => rw [hr] at h; cases h
   | some j =>
    rw [hr] at h
    cases h
    obtain ⟨h1, h2⟩ := yhm' hr
    have hq' : q y = false := by simpa using hq
    simp only [List.length_cons, k_f, List.filter_cons, hq', Bool.not_false, if_true]
    exact ⟨by omega, by rw [h2]⟩
end Go.Proofs.YtcnkifbjlihaoaaGreatDoor

namespace Go.Proofs.YtcnkifbjlihaoaaGreatDoor
open Go.RowKit Go.Av
theorem yt3' {P : Program} {t e : TypeId} {i : TypeInfo} (ht : P.underlying t = some (.slice e)) (hi : P.info? e = some i) (hz : i.size = 1) (a : Option Addr) (n : Nat) (ha : a = none → n = 0) (W : World) :
  (Instr.slice t (.slice a n n) (some (.int .i64 (n : Int))) none none).run P W = .ok (.slice a 0 0) W := by
 cases a with
 | none =>
  have := ha rfl
  subst this
  simp [Instr.slice, run_underlying ht, Instr.sliceBounds, Instr.sliceBound, asIntOf, sizeOf, typeInfo, hi, Result.andThen, hz]
 | some x => simp [Instr.slice, run_underlying ht, Instr.sliceBounds, Instr.sliceBound, asIntOf, sizeOf, typeInfo, hi, Result.andThen, hz]
theorem Sep.tail {w0 w : World} {R : List Thing} {rows : List (Value × Bs)} {P : Program} {t e : TypeId} {i : TypeInfo} (ht : P.underlying t = some (.slice e)) (hi : P.info? e = some i) (hz : i.size = 1) {a : Option Addr} {n c : Nat} {xs : List Value}
  (h : Sep w0 w (yaf' 1 (.slice a n c) xs :: R) rows) : ∃ a', ∀ W, (Instr.slice t (.slice a n c) (some (.int .i64 (n : Int))) none none).run P W = .ok (.slice a' 0 (c - n)) W := by
 obtain ⟨D, hP⟩ := h.fst
 obtain ⟨a', n', c', hv, hl, hn, hc, ha, hr⟩ := hP
 cases hv
 by_cases hcn : c = n
 ·subst hcn
  exact ⟨a, fun W => by rw [Nat.sub_self]; exact yt3' ht hi hz a c ha W⟩
 ·rcases hr with ⟨hc0, _⟩ | ⟨g, off, cur, T, h1, h2, h3, h4, h5⟩
  ·omega
  ·subst h1
   exact ⟨_, fun W => by have := ykl' ht hi hz g off n c n (Nat.le_refl _) W; rwa [Nat.sub_self] at this⟩
section
variable {w0 w : World} {R : List Thing} {rows : List (Value × Bs)}
theorem yn6' (q : Int → Bool) (l : List Int) (j : Nat) (hj : j < l.length) : (l.take (j + 1)).filter q = (l.take j).filter q ++ if q l[j] then [l[j]] else [] := by
 rw [List.take_succ_eq_append_getElem hj, List.filter_append, List.filter_cons, List.filter_nil]
set_option maxRecDepth 100000 in
set_option maxHeartbeats 1000000 in
theorem yjp' (v : Value) (l : List Int) (s : Int) (cq : Nat) (T : TypeId) (h : Sep w0 w (yaf' 1 v (l.map iv) :: R) rows) (hT : yac' cq (.cells #[.int .i64 s] T (0, 0)) ∈ R) :
  Calls Tryz.prog 246 #[v, .func (.func 247) #[] #[.pointer (some ⟨cq, 0, none⟩)]] w fun e w' => ∃ v', e = .returned v' ∧ Sep w0 w' (yaf' 1 v' ((l.filter fun x => !decide (x = s)).map iv) :: R) rows := by
 obtain ⟨a, n, c, rfl, hl, hnc, hcm⟩ := h.rowLen
 rw [List.length_map, Nat.mul_one] at hl
 subst hl
 unfold maxLen at hcm
 obtain ⟨E, hE⟩ := h.readRow
 have hcq : ∀ (W : World) (xs : List Value) (u : Value), Sep w0 W (yaf' 1 u xs :: R) rows → W.cell? ⟨cq, 0, none⟩ = some (.int .i64 s) := fun W xs u hS => by
  have hb := hS.block (k_n _ hT)
  exact yaa' hb 0 rfl
 have hifn := yjq' (.slice a l.length c) l ⟨cq, 0, none⟩ (fun x => decide (x = s)) E w hE (fun x => yl9' x s cq w (hcq w _ _ h))
 obtain ⟨r, hr⟩ : ∃ r, yhk' (fun x => decide (x = s)) l = r := ⟨_, rfl⟩
 have H := Lib.hid h
 have HC := Lib.hid hcq
 have HF := Lib.hid hifn
 have HRR := Lib.hid hr
 clear h hcq hifn hE hr
 cases r with
 | none =>
  have hF := HF.out
  rw [show idxQ (fun x => decide (x = s)) l = -1 by unfold idxQ; rw [HRR.out]] at hF
  have HF2 := Lib.hid hF
  have hfn := yhl' HRR.out
  clear hF
  have HN := Lib.hid (show l.filter (fun x => !decide (x = s)) = l from List.filter_eq_self.2 fun x hx => by rw [hfn x hx]; rfl)
  clear hfn
  go_enter Tryz.func246, Tryz.ntmps246
  go_wp2_with fail
  refine HF2.out.mono ?_
  rintro e w1 ⟨rfl, rfl⟩
  go_wp2_with fail
  go_ret
  exact ⟨_, rfl, by rw [HN.out]; exact H.out⟩
 | some i0 =>
  have hF := HF.out
  rw [show idxQ (fun x => decide (x = s)) l = (i0 : Int) by unfold idxQ; rw [HRR.out]] at hF
  have HF2 := Lib.hid hF
  clear hF
  obtain ⟨hi0, hf0⟩ := yhm' HRR.out
  have HF0 := Lib.hid hf0
  have b1 : ((i0 : Int) == -1) = false := by simp
  clear hf0
  go_enter Tryz.func246, Tryz.ntmps246
  go_wp2_with fail
  refine HF2.out.mono ?_
  rintro e w1 ⟨rfl, rfl⟩
  go_wp2_with fail
  go_loopg [5, 6] (l.length - (i0 + 1)) (fun k ti tj wr => ∃ (i j : Nat) (xs : List Value), i < j ∧ j ≤ l.length ∧ k = l.length - j ∧ ti = .int .i64 (i : Int) ∧ tj = .int .i64 (j : Int) ∧ Sep w0 wr (yaf' 1 (.slice a l.length c) xs :: R) rows ∧ xs.length = l.length ∧
   i = ((l.take j).filter fun x => !decide (x = s)).length ∧ xs.take i = ((l.take j).filter fun x => !decide (x = s)).map iv ∧ xs.drop j = (l.drop j).map iv)
  case atStart =>
   refine ⟨i0, i0 + 1, l.map iv, by omega, by omega, rfl, rfl, by go_num, H.out, by simp, ?_, ?_, by rw [List.map_drop]⟩
   ·rw [HF0.out, List.length_take]; omega
   ·rw [HF0.out, List.map_take]
  case round =>
   obtain ⟨i, j, xs, hij, hj, hk, hti, htj, hS, hxl, hi, hxt, hxd⟩ := hrel
   subst hti htj
   by_cases hlt : j < l.length
   ·have hxj : xs[j]? = some (iv l[j]) := by
     have : (xs.drop j)[0]? = some (iv l[j]) := by rw [hxd, List.getElem?_map, List.getElem?_drop, Nat.add_zero, List.getElem?_eq_getElem hlt]; rfl
     rwa [List.getElem?_drop, Nat.add_zero] at this
    obtain ⟨y, rfl, hys, hcy⟩ := hS.rowCell hxj
    obtain ⟨x, hx⟩ : ∃ x, l[j] = x := ⟨_, rfl⟩
    have hst := yn6' (fun x => !decide (x = s)) l j hlt
    rw [hx] at hst hcy
    unfold iv at hcy
    have hd1 := yl9' x s cq wr (HC.out _ _ _ hS)
    have hnx : xs.drop (j + 1) = (l.drop (j + 1)).map iv := by
     have : (xs.drop j).drop 1 = ((l.drop j).map iv).drop 1 := by rw [hxd]
     rwa [List.drop_drop, ← List.map_drop, List.drop_drop] at this
    by_cases hxs : x = s
    ·have hb : decide (x = s) = true := by simp [hxs]
     rw [hb] at hd1
     have hst2 : (l.take (j + 1)).filter (fun x => !decide (x = s)) = (l.take j).filter fun x => !decide (x = s) := by rw [hst, if_neg (by simp [hxs]), List.append_nil]
     have HD := Lib.hid hd1
     have HX := Lib.hid (show _ ∧ _ ∧ _ ∧ _ ∧ _ ∧ _ from ⟨hS, hxl, hi, hxt, hnx, hst2⟩)
     clear hS hxl hi hxt hxd hnx hst hst2 hxj hx hxs hb hd1
     go_wp2_with (go_at_call 247; refine HD.out.mono ?_; rintro e w2 ⟨rfl, rfl⟩)
     go_roundg (l.length - (j + 1))
     case rel =>
      obtain ⟨hS, hxl, hi, hxt, hnx, hst2⟩ := HX.out
      refine ⟨i, j + 1, xs, by omega, by omega, rfl, rfl, by go_num, hS, hxl, ?_, ?_, hnx⟩
      ·rw [hst2]; exact hi
      ·rw [hst2]; exact hxt
     case measure => omega
    ·have hb : decide (x = s) = false := by simp [hxs]
     rw [hb] at hd1
     have hst2 : (l.take (j + 1)).filter (fun x => !decide (x = s)) = ((l.take j).filter fun x => !decide (x = s)) ++ [x] := by rw [hst, if_pos (by simp [hxs])]
     obtain ⟨hfr, -, ⟨u, hu⟩, hset⟩ := hS.rowSet (i := i) (by omega) (.int .i64 x)
     have hxt2 : (xs.set i (iv x)).take (i + 1) = xs.take i ++ [iv x] := by
      rw [List.take_succ_eq_append_getElem (by simp; omega), List.take_set, List.set_eq_of_length_le (by rw [List.length_take]; exact Nat.min_le_left _ _)]
      simp
     have hxd2 : (xs.set i (iv x)).drop (j + 1) = xs.drop (j + 1) := by rw [List.drop_set_of_lt (by omega)]
     have HD := Lib.hid hd1
     have HX := Lib.hid (show _ ∧ _ ∧ _ ∧ _ ∧ _ ∧ _ ∧ _ ∧ _ from ⟨hset, hxl, hi, hxt, hnx, hst2, hxt2, hxd2⟩)
     clear hS hxl hi hxt hxd hnx hst hst2 hxj hx hxs hb hd1 hset hxt2 hxd2
     go_wp2_with (go_at_call 247; refine HD.out.mono ?_; rintro e w2 ⟨rfl, rfl⟩)
     go_roundg (l.length - (j + 1))
     case rel =>
      obtain ⟨hset, hxl, hi, hxt, hnx, hst2, hxt2, hxd2⟩ := HX.out
      refine ⟨i + 1, j + 1, _, by omega, by omega, rfl, by go_num, by go_num, hset, by simpa using hxl, ?_, ?_, ?_⟩
      ·rw [hst2, List.length_append, ← hi]; rfl
      ·rw [hst2, List.map_append, ← hxt]; exact hxt2
      ·exact hxd2.trans hnx
     case measure => omega
   ·obtain rfl : j = l.length := by omega
    rw [List.take_length] at hi hxt
    have hin : i ≤ l.length := by omega
    have hlt' : ¬ l.length < l.length := by omega
    obtain ⟨z0, hz0, hz00, hz1, hz2⟩ := info_parts yy0'
    have HX := Lib.hid (show _ ∧ _ ∧ _ ∧ _ from ⟨hS, hxl, hi, hxt⟩)
    clear hxd hi hxt
    by_cases hil : i = l.length
    ·have hs2 := fun W => yd7' (P := Tryz.prog) Tryz.underlying68 hz0 a l.length c i (by omega) W
     have e0 : l.length - i = 0 := by omega
     have hcl : ∀ ty (x : Option Addr) (c' : Nat) (W : World), (Builtin.clear_ #[68] ty #[.slice x (l.length - i) c']).run Tryz.prog W = .ok (.tuple #[]) W := fun ty x c' W => by
      rw [e0]
      cases x <;> simp [Builtin.clear_, run_underlying Tryz.underlying68]
     have hic : i ≤ l.length := by omega
     clear hS hil e0
     by_cases hci : c = i
     all_goals
      go_wp2_with fail
      go_ret
      obtain ⟨hS, hxl, hi, hxt⟩ := HX.out
      refine ⟨_, rfl, ?_⟩
      rw [← hxt]
      have h9 := hS.rowTake hin
      first | exact h9 | (rw [hci] at h9; exact h9)
    ·obtain ⟨b, off, rfl⟩ : ∃ b off, a = some ⟨b, off, none⟩ := by
      obtain ⟨x, hx, hsp, -⟩ := hS.rowCell (i := i) (x := xs[i]'(by omega)) (List.getElem?_eq_getElem (by omega))
      obtain ⟨b, off, sp⟩ := x
      simp only at hsp
      subst hsp
      exact ⟨b, off, hx⟩
     obtain ⟨b', off', hy, hfc, hff, hfill⟩ := hS.rowFill i (l.length - i) (by omega) (by omega) (.int .i64 0)
     cases hy
     have hcl := fun ty => Lib.run_clear_slice (P := Tryz.prog) wr 68 3 ty (.int .i64 0) Tryz.underlying68 (fun _ => rfl) rfl rfl b (off + i) (l.length - i) (c - i) (by omega) hfc hff
     have hs2 := fun W => yd7' (P := Tryz.prog) Tryz.underlying68 hz0 (some ⟨b, off, none⟩) l.length c i (by omega) W
     have hci : ¬ c = i := by omega
     have HFI := Lib.hid hfill
     clear hS hil hfc hff hfill
     go_wp2_with fail
     go_ret
     obtain ⟨hS, hxl, hi, hxt⟩ := HX.out
     refine ⟨_, rfl, ?_⟩
     have h9 := HFI.out.rowTake hin
     rw [List.append_assoc, List.take_append_of_le_length (by rw [List.length_take]; omega), List.take_of_length_le (by rw [List.length_take]; omega), hxt] at h9
     exact h9
end
end Go.Proofs.YtcnkifbjlihaoaaGreatDoor

namespace Go.Proofs.YtcnkifbjlihaoaaGreatDoor
open Go.RowKit Go.Av
structure EntS where
 shards : List Int
 votes : List Int
 dec : Int
 owes : List Int
def EntS.wf (x : EntS) : Prop := x.votes.length = x.shards.length ∧ x.shards.length ≤ 4 ∧ x.owes.length ≤ 4
def okE (e : Int × EntS) : Prop := e.2.wf ∧ 1 ≤ e.1 ∧ e.1 ≤ 9223372036854775807
structure EntG where
 id : Int
 p : Nat
 vs : Value
 vv : Value
 vo : Value
 x : EntS
def EntG.th (g : EntG) : List Thing :=
 [yac' g.p (.cells #[g.vs, g.vv, .int .i64 g.x.dec, g.vo] 220 (0, 0)), yaf' 1 g.vs (g.x.shards.map iv), yaf' 1 g.vv (g.x.votes.map iv), yaf' 1 g.vo (g.x.owes.map iv)]
def EntG.kv (g : EntG) : Value × Value := (.int .i64 g.id, .pointer (some ⟨g.p, 0, none⟩))
def EntG.ent (g : EntG) : Int × EntS := (g.id, g.x)
abbrev CoS := List (Int × EntS)
def ycg' (c m : Nat) (kvs : List (Value × Value)) : List Thing := [yac' c (.cells #[.map (some m)] 216 (0, 0)), yam' (.int .i64) m kvs]
def Co (w0 w : World) (c : Nat) (S : CoS) (R : List Thing) (rows : List (Value × Bs)) : Prop :=
 ∃ (m : Nat) (gs : List EntG), gs.map EntG.ent = S ∧ (∀ e ∈ S, okE e) ∧ Sep w0 w (ycg' c m (gs.map EntG.kv) ++ (gs.flatMap EntG.th ++ R)) rows
def CoF (w0 w : World) (c m : Nat) (l1 : List EntG) (g : EntG) (l2 : List EntG) (R : List Thing) (rows : List (Value × Bs)) : Prop :=
 (∀ e ∈ (l1 ++ g :: l2).map EntG.ent, okE e) ∧ Sep w0 w (g.th ++ (ycg' c m ((l1 ++ g :: l2).map EntG.kv) ++ ((l1 ++ l2).flatMap EntG.th ++ R))) rows
theorem yz6' (w : World) : (zeroValue 218).run Tryz.prog w = .ok (.pointer none) w := by kernel_rfl
theorem yka' (P : List Thing) (l1 l2 : List EntG) (g : EntG) (R : List Thing) : (P ++ ((l1 ++ g :: l2).flatMap EntG.th ++ R)).Perm (g.th ++ (P ++ ((l1 ++ l2).flatMap EntG.th ++ R))) := by
 simp only [List.flatMap_append, List.flatMap_cons, List.append_assoc]
 refine (List.Perm.append_left P (List.perm_append_comm_assoc _ _ _)).trans ?_
 exact List.perm_append_comm_assoc _ _ _
def yec' (id : Int) (S : CoS) : Option EntS := (S.find? fun e => decide (e.1 = id)).map (·.2)
theorem ygq' {id : Int} {S : CoS} {x : EntS} (h : yec' id S = some x) : ∃ S1 S2, S = S1 ++ (id, x) :: S2 ∧ ∀ e ∈ S1, e.1 ≠ id := by
 unfold yec' at h
 cases hf : S.find? (fun e => decide (e.1 = id)) with
 | none => rw [hf] at h; cases h
 | some e =>
  rw [hf] at h
  cases h
  obtain ⟨hp, S1, S2, hS, hb⟩ := List.find?_eq_some_iff_append.1 hf
  have he : e.1 = id := by simpa using hp
  subst he
  exact ⟨S1, S2, hS, fun q hq => by simpa using hb q hq⟩
theorem ye6' {id : Int} {S : CoS} (h : yec' id S = none) : ∀ e ∈ S, e.1 ≠ id := by
 unfold yec' at h
 rw [Option.map_eq_none_iff, List.find?_eq_none] at h
 exact fun e he => by simpa using h e he
section
variable {w0 w : World} {c m : Nat} {S : CoS} {l1 l2 : List EntG} {g : EntG} {R : List Thing} {rows : List (Value × Bs)}
theorem Co.take (h : Co w0 w c S R rows) {id : Int} {x : EntS} (hx : yec' id S = some x) :
  ∃ m l1 g l2, g.id = id ∧ g.x = x ∧ CoF w0 w c m l1 g l2 R rows ∧ (∀ e ∈ l1.map EntG.ent, e.1 ≠ id) ∧ S = (l1 ++ g :: l2).map EntG.ent := by
 obtain ⟨m, gs, rfl, hwf, hS⟩ := h
 obtain ⟨S1, S2, hS12, hb⟩ := ygq' hx
 obtain ⟨l1, l2', h1, h2, h3⟩ := List.map_eq_append_iff.1 hS12
 obtain ⟨g, l2, h4, h5, h6⟩ := List.map_eq_cons_iff.1 h3
 subst h1 h4
 have hg : g.id = id ∧ g.x = x := by unfold EntG.ent at h5; cases h5; exact ⟨rfl, rfl⟩
 refine ⟨m, l1, g, l2, hg.1, hg.2, ⟨hwf, ?_⟩, by rw [h2]; exact hb, rfl⟩
 have := hS.perm (yka' (ycg' c m ((l1 ++ g :: l2).map EntG.kv)) l1 l2 g R)
 exact this
theorem CoF.back (h : CoF w0 w c m l1 g l2 R rows) : Co w0 w c ((l1 ++ g :: l2).map EntG.ent) R rows := by
 obtain ⟨hwf, hS⟩ := h
 exact ⟨m, l1 ++ g :: l2, rfl, hwf, hS.perm (yka' (ycg' c m ((l1 ++ g :: l2).map EntG.kv)) l1 l2 g R).symm⟩
theorem Co.below (h : Co w0 w c S R rows) : Below w0.heap.size w0 w := by
 obtain ⟨m, gs, _, _, hS⟩ := h
 exact hS.below
theorem Co.keep (h : Co w0 w c S R rows) {w' : World} {D' : List Nat} (hu : Upd w w' [] D') : Co w0 w' c S R rows := by
 obtain ⟨m, gs, h1, h2, hS⟩ := h
 exact ⟨m, gs, h1, h2, hS.keep hu⟩
theorem CoF.facts (h : CoF w0 w c m l1 g l2 R rows) : w.cell? ⟨c, 0, none⟩ = some (.map (some m)) ∧
  (∀ W : World, W.heap = w.heap → (Instr.lookup 214 (.map (some m)) (.int .i64 g.id) false).run Tryz.prog W = .ok (.pointer (some ⟨g.p, 0, none⟩)) W) ∧
  w.heap[g.p]? = some (.cells #[g.vs, g.vv, .int .i64 g.x.dec, g.vo] 220 (0, 0)) := by
 obtain ⟨hwf, hS⟩ := h
 have hc := hS.block (b := c) (o := .cells #[.map (some m)] 216 (0, 0)) (by simp [ycg'])
 have hp := hS.block (b := g.p) (o := .cells #[g.vs, g.vv, .int .i64 g.x.dec, g.vo] 220 (0, 0)) (by simp [EntG.th])
 obtain ⟨E, hM, -⟩ := hS.has (T := yam' (.int .i64) m ((l1 ++ g :: l2).map EntG.kv)) (by simp [ycg'])
 refine ⟨yaa' hc 0 rfl, fun W hW => ?_, hp⟩
 have hM' := hM.frame (w' := W) (by rw [hW])
 exact yf8' hM' Tryz.underlying214 Tryz.underlying2 (show MapKept.IsKey (.int .i64) (.int .i64 g.id) from rfl) (by simp [EntG.kv]) false
theorem Co.absent (h : Co w0 w c S R rows) {id : Int} (hx : yec' id S = none) : ∃ m, w.cell? ⟨c, 0, none⟩ = some (.map (some m)) ∧
  ∀ W : World, W.heap = w.heap → (Instr.lookup 214 (.map (some m)) (.int .i64 id) false).run Tryz.prog W = .ok (.pointer none) W := by
 obtain ⟨m, gs, rfl, hwf, hS⟩ := h
 have hn := ye6' hx
 have hc := hS.block (b := c) (o := .cells #[.map (some m)] 216 (0, 0)) (by simp [ycg'])
 obtain ⟨E, hM, -⟩ := hS.has (T := yam' (.int .i64) m (gs.map EntG.kv)) (by simp [ycg'])
 refine ⟨m, yaa' hc 0 rfl, fun W hW => ?_⟩
 have hM' := hM.frame (w' := W) (by rw [hW])
 refine yfq' hM' Tryz.underlying214 Tryz.underlying2 (show MapKept.IsKey (.int .i64) (.int .i64 id) from rfl) (fun q hq => ?_) (yz6' _) false
 obtain ⟨g, hg, rfl⟩ := List.mem_map.1 hq
 intro e
 unfold EntG.kv at e
 simp only [Value.int.injEq, true_and] at e
 exact hn (g.ent) (List.mem_map_of_mem hg) e
set_option maxHeartbeats 400000 in
theorem ys5' (h : Sep w0 w R rows) : Calls Tryz.prog 128 #[] w fun e w' => ∃ c, e = .returned (.pointer (some ⟨c, 0, none⟩)) ∧ Co w0 w' c [] R rows := by
 have h1 := (h.newMap (.int .i64)).newCell (.cells #[.map (some w.heap.size)] 216 (0, 0))
 have H := Lib.hid h1
 clear h h1
 have hmm := @run_makeMap Tryz.prog
 go_enter Tryz.func128, Tryz.ntmps128
 go_wp2_with fail
 go_ret
 exact ⟨_, rfl, _, [], rfl, by simp, by simpa [ycg'] using H.out⟩
set_option maxHeartbeats 400000 in
theorem ysb' (h : Co w0 w c S R rows) (id k : Int) (hx : yec' id S = none) :
  Calls Tryz.prog 244 #[.pointer (some ⟨c, 0, none⟩), .int .i64 id, .int .i64 k] w fun e w' => e = .returned (.tuple #[.pointer none, .int .i64 (-1)]) ∧ w' = w := by
 obtain ⟨m, hc, hl⟩ := h.absent hx
 have hl := hl w rfl
 clear h hx
 go_enter Tryz.func244, Tryz.ntmps244
 go_wp2_with fail
 go_ret2
 exact ⟨rfl, rfl⟩
set_option maxHeartbeats 400000 in
theorem ypb' (h : CoF w0 w c m l1 g l2 R rows) (k : Int) :
  Calls Tryz.prog 244 #[.pointer (some ⟨c, 0, none⟩), .int .i64 g.id, .int .i64 k] w fun e w' => e = .returned (.tuple #[.pointer (some ⟨g.p, 0, none⟩), .int .i64 (idxS k g.x.shards)]) ∧ w' = w := by
 obtain ⟨hc, hl, hp⟩ := h.facts
 have hl := hl w rfl
 have c0 := yaa' hp 0 rfl
 obtain ⟨E, hE⟩ := (h.2.perm (List.perm_middle (l₁ := [_]))).readRow
 have HE := Lib.hid hE
 clear h hp hE
 go_enter Tryz.func244, Tryz.ntmps244
 go_wp2_with fail
 refine (ysm' _ _ k E w HE.out).mono ?_
 rintro e w1 ⟨rfl, rfl⟩
 go_wp2_with fail
 go_ret2
 exact ⟨rfl, rfl⟩
end
end Go.Proofs.YtcnkifbjlihaoaaGreatDoor
