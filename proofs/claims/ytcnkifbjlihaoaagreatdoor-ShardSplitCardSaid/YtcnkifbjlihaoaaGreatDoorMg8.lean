/-
  Texts of this claim, laid together.
-/
import Derived.Test.YtcnkifbjlihaoaaGreatDoorMg7
set_option linter.unusedVariables false
set_option linter.unusedSimpArgs false

namespace Go.Av
theorem yrn' {S : PartS} {id sess : Int} {ops : List OpS} (h : yce' S id sess = true) : ydf' S id sess ops = ((1, -1), S) := by unfold ydf'; rw [if_pos h]
theorem ywi' {S : PartS} {id sess : Int} {ops : List OpS} (h : yce' S id sess = false) (h1 : mayS sess 1 ops ≠ 0) : ydf' S id sess ops = ((mayS sess 1 ops, -1), S) := by unfold ydf'; rw [if_neg (by rw [h]; exact Bool.false_ne_true), if_pos h1]
theorem yt0' {S : PartS} {id sess : Int} {ops : List OpS} (h : yce' S id sess = false) (h1 : mayS sess 1 ops = 0) (h2 : (ycz' S id sess ops).1 ≠ 0) : ydf' S id sess ops = (ycz' S id sess ops, S) := by unfold ydf'; rw [if_neg (by rw [h]; exact Bool.false_ne_true), if_neg (fun hh => hh h1), if_pos h2]
theorem ynn' {S : PartS} {id sess : Int} {ops : List OpS} (h : yce' S id sess = false) (h1 : mayS sess 1 ops = 0) (h2 : (ycz' S id sess ops).1 = 0) : ydf' S id sess ops =
 (if (ya2' S.t sess S.zxid ops).2.2 = true then (0, -1) else ((ya2' S.t sess S.zxid ops).1.err, (ya2' S.t sess S.zxid ops).1.at_),
  { S with held := ya7' S.held id ops, wait := S.wait ++ [(id, ⟨sess, ops, false, !(ya2' S.t sess S.zxid ops).2.2⟩)] }) := by
 unfold ydf'; rw [if_neg (by rw [h]; exact Bool.false_ne_true), if_neg (fun hh => hh h1), if_neg (fun hh => hh h2)]
theorem yv9' {sess num : Int} {l : List OpS} (h : mayS sess num l = 0) : l ≠ [] := by
 rintro rfl
 unfold mayS at h
 rw [if_pos (show sess < 1 ∨ num < 1 ∨ ([] : List OpS).length = 0 from .inr (.inr rfl))] at h
 exact absurd h (by decide)
end Go.Av
namespace Go.Proofs.YtcnkifbjlihaoaaGreatDoor
open Go.RowKit Go.Av
section
variable {w0 w : World} {b : Nat} {S : PartS} {P P' : List PRow} {R : List Thing} {rows : List (Value × Bs)}
def PrpP (w0 : World) (b : Nat) (P : List PRow) (R : List Thing) (rows : List (Value × Bs)) (m : (Int × Int) × PartS) (e : Ending) (w' : World) : Prop :=
 ∃ P', e = .returned (.tuple #[.int .i64 m.1.1, .int .i64 m.1.2]) ∧ (∀ q ∈ P, q ∈ P') ∧ Sep w0 w' (yab' w0 P' :: ybm' b m.2 P' :: R) rows
def yj2' (w0 : World) (b b2 : Nat) (rc : Array Value) (id : Int) (ops : List OpS) (S : PartS) (P : List PRow) (R : List Thing) (rows : List (Value × Bs)) (k : Nat) (v : Value) (w : World) : Prop :=
 ∃ (i : Nat) (P' : List PRow), i + k = ops.length ∧ v = .int .i64 (i : Int) ∧ (∀ q ∈ P, q ∈ P') ∧ Sep w0 w (yab' w0 P' :: ybm' b { S with held := ya7' S.held id (ops.take i) } P' :: yac' b2 (.cells rc 39 (0, 0)) :: R) rows
set_option maxRecDepth 100000 in
set_option maxHeartbeats 8000000 in
theorem ywh' {K : Nat} (h : Sep w0 w (yab' w0 P :: ybm' b S P :: R) rows) (hd : DoorN w0) (hB : PartB K S) (hK : K ≤ 1000) (id sess : Int) (ops : List OpS) (v : Value) (hv : (5, v, ops.flatMap OpS.cells) ∈ P) (hp : ∀ o ∈ ops, o.path.size ≤ 100000) :
  Calls Tryz.prog 17 #[.pointer (some ⟨b, 0, none⟩), .int .i64 id, .int .i64 sess, v] w (PrpP w0 b P R rows (ydf' S id sess ops)) := by
 obtain ⟨E, hE⟩ := h.poolGet hv
 obtain ⟨a, n, c, rfl, hl0, -, -, hne⟩ := ReadRow.some hE
 rw [yau' yag'] at hl0
 obtain rfl : ops.length = n := by omega
 have HNE := Lib.hid hne
 have HV := Lib.hid (show _ ∧ _ from ⟨hv, hp⟩)
 have HB := Lib.hid (show _ ∧ _ from ⟨hB, hK⟩)
 have HX := Lib.hid h
 obtain ⟨rr, hrr⟩ : ∃ rr, ydf' S id sess ops = rr := ⟨_, rfl⟩
 rw [hrr]
 have HRR := Lib.hid hrr
 clear h hE hv hp hB hK hrr hl0 hne
 go_enter Tryz.func17, Tryz.ntmps17
 go_wp2_with (first | refine u0 ?_ | (refine uS ?_; clear HX; intro w HX) | (refine uA ?_; clear HX; (first | (have hq := b3; clear hq; intro w b4 HX) | (have hq := b2; clear hq; intro w b3 HX) | (have hq := b; clear hq; intro w b2 HX) | intro w b HX)))
 refine (ym3' HX.out id sess).mono ?_
 obtain ⟨zk, hzk⟩ : ∃ z, yce' S id sess = z := ⟨_, rfl⟩
 rw [hzk]
 rintro e w ⟨rfl, hx⟩
 replace HX := Lib.hid hx
 have HZK := Lib.hid hzk
 clear hx hzk
 cases zk with
 | true =>
  obtain rfl : rr = ((1, -1), S) := by rw [← HRR.out]; exact yrn' HZK.out
  go_wp2_with (first | refine u0 ?_ | (refine uS ?_; clear HX; intro w HX) | (refine uA ?_; clear HX; (first | (have hq := b3; clear hq; intro w b4 HX) | (have hq := b2; clear hq; intro w b3 HX) | (have hq := b; clear hq; intro w b2 HX) | intro w b HX)))
  go_ret2
  exact ⟨P, rfl, fun q hq => hq, HX.out⟩
 | false =>
  obtain ⟨me, hme⟩ : ∃ me, mayS sess 1 ops = me := ⟨_, rfl⟩
  have HME := Lib.hid hme
  clear hme
  go_wp2_with (first | refine u0 ?_ | (refine uS ?_; clear HX; intro w HX) | (refine uA ?_; clear HX; (first | (have hq := b3; clear hq; intro w b4 HX) | (have hq := b2; clear hq; intro w b3 HX) | (have hq := b; clear hq; intro w b2 HX) | intro w b HX)))
  refine (yjd' HX.out hd sess 1 ops _ HV.out.1 HV.out.2).mono ?_
  rw [HME.out]
  rintro e w ⟨rfl, hx⟩
  replace HX := Lib.hid hx
  clear hx
  by_cases h0 : me = 0
  case neg =>
   have q1 : (me != 0) = true := by rw [bne_iff_ne]; exact h0
   obtain rfl : rr = ((me, -1), S) := by rw [← HRR.out, ywi' HZK.out (by rw [HME.out]; exact h0), HME.out]
   clear h0
   go_wp2_with (first | refine u0 ?_ | (refine uS ?_; clear HX; intro w HX) | (refine uA ?_; clear HX; (first | (have hq := b3; clear hq; intro w b4 HX) | (have hq := b2; clear hq; intro w b3 HX) | (have hq := b; clear hq; intro w b2 HX) | intro w b HX)))
   go_ret2
   exact ⟨P, rfl, fun q hq => hq, HX.out⟩
  case pos =>
   subst h0
   have HGD := Lib.hid (yfb' HME.out)
   have HGD0 := Lib.hid (yv9' HME.out)
   go_wp2_with (first | refine u0 ?_ | (refine uS ?_; clear HX; intro w HX) | (refine uA ?_; clear HX; (first | (have hq := b3; clear hq; intro w b4 HX) | (have hq := b2; clear hq; intro w b3 HX) | (have hq := b; clear hq; intro w b2 HX) | intro w b HX)))
   refine (ypq' HX.out hd id sess ops _ HV.out.1 (fun o ho => ye3' (HGD.out.2 o ho)) (by have := HGD.out.1; omega) HB.out.1.keys (by have := HB.out.1.wanted; have := HB.out.2; omega) (fun e he => by have := (HB.out.1.wait e he).1; omega) ⟨HB.out.1.tree.many, HB.out.1.tree.room.2⟩).mono ?_
   obtain ⟨⟨be, bat⟩, hbs⟩ : ∃ r, ycz' S id sess ops = r := ⟨_, rfl⟩
   rw [hbs]
   have HBS := Lib.hid hbs
   rintro e w ⟨P2, rfl, hP2, hx⟩
   clear HX hbs
   have HX := Lib.hid hx
   have HP2 := Lib.hid hP2
   clear hx hP2
   by_cases h0 : be = 0
   case neg =>
    have q1 : (be != 0) = true := by rw [bne_iff_ne]; exact h0
    obtain rfl : rr = ((be, bat), S) := by rw [← HRR.out, yt0' HZK.out HME.out (by rw [HBS.out]; exact h0), HBS.out]
    clear h0
    go_wp2_with (first | refine u0 ?_ | (refine uS ?_; clear HX; intro w HX) | (refine uA ?_; clear HX; (first | (have hq := b3; clear hq; intro w b4 HX) | (have hq := b2; clear hq; intro w b3 HX) | (have hq := b; clear hq; intro w b2 HX) | intro w b HX)))
    go_ret2
    exact ⟨P2, rfl, HP2.out, HX.out⟩
   case pos =>
    subst h0
    have HR2 := Lib.hid (HRR.out.symm.trans (ynn' HZK.out HME.out (by rw [HBS.out])))
    clear HRR
    go_wp2_with (first | refine u0 ?_ | (refine uS ?_; clear HX; intro w HX) | (refine uA ?_; clear HX; (first | (have hq := b3; clear hq; intro w b4 HX) | (have hq := b2; clear hq; intro w b3 HX) | (have hq := b; clear hq; intro w b2 HX) | intro w b HX)))
    obtain ⟨t, lk, mw, md, mc, gs, hgs, hgv, hS⟩ := ybu' HX.out.up1
    have HG := Lib.hid (show _ ∧ _ from ⟨hgs, hgv⟩)
    obtain ⟨R', hR'⟩ : ∃ R', ThLk lk S.held :: yam' (.int .i64) mw (gs.map WaitG.kv) :: yam' (.int .i64) md (S.decided.map ikv) :: yam' (.int .i64) mc (S.closed.map ikv) :: R = R' := ⟨_, rfl⟩
    have h3 : Sep w0 w (yab' w0 P2 :: yan' t S.t P2 :: yac' b (.cells (yak' S.t.room t lk S.zxid mw md mc) 123 (0, 0)) :: R') rows := by
     rw [← hR']
     exact hS.pm 7 [6, 1, 0, 2, 3, 4, 5] rfl rfl
    have HRR2 := Lib.hid hR'
    obtain ⟨⟨⟨n1, z1, e1, t1, rs1⟩, S2, ok1⟩, hm1⟩ : ∃ m1, ya2' S.t sess S.zxid ops = m1 := ⟨_, rfl⟩
    have hr2 := HR2.out
    rw [hm1] at hr2
    have HR3 := Lib.hid hr2
    have HM1 := Lib.hid hm1
    clear HX hgs hgv hS hR' hr2 HR2 hm1
    have HX := Lib.hid h3
    clear h3
    refine rM (fun W => (∃ Ts, Sep w0 W (yac' b (.cells (yak' S.t.room t lk S.zxid mw md mc) 123 (0, 0)) :: Ts) rows)) 16 ?_
    intro KEEPX
    replace HX := Lib.hid HX.out.drew
    have hl : ∀ V, (∃ Ts, Sep w0 V (yac' b (.cells (yak' S.t.room t lk S.zxid mw md mc) 123 (0, 0)) :: Ts) rows) → (Instr.loadAt 65 (.pointer (some ⟨b, 1, none⟩))).run Tryz.prog V = .ok (.pointer (some ⟨t, 0, none⟩)) V := by
     rintro V ⟨Ts, hV⟩
     exact yae' (by kernel_rfl) (yaa' hV.blk 1 rfl)
    have hl2 : ∀ V, (∃ Ts, Sep w0 V (yac' b (.cells (yak' S.t.room t lk S.zxid mw md mc) 123 (0, 0)) :: Ts) rows) → (Instr.loadAt 2 (.pointer (some ⟨b, 3, none⟩))).run Tryz.prog V = .ok (.int .i64 S.zxid) V := by
     rintro V ⟨Ts, hV⟩
     exact yae' (by kernel_rfl) (yaa' hV.blk 3 rfl)
    refine rT [(0, false), (1, false), (2, false), (3, true), (5, false), (6, false), (7, false), (8, false), (9, true), (10, false)] 8 ?_
    apply Exists.intro; refine ⟨?_, ⟨_, HX.out.up2⟩, ?_⟩
    ·iterate 10 (refine xE ?_)
     exact rfl
    clear hl hl2
    refine yd7' (fuel := 7) [4, 15] (by kernel_rfl) (by simp) (fun i hi => ?_)
    simp only [List.mem_cons, List.not_mem_nil, or_false] at hi
    rcases hi with rfl | rfl
    ·refine ⟨_, (by (simp only [k_i, k_j, k_k]; try rfl)), fun K hK => ?_⟩
     go_wp2_with fail
     refine (yeg' HX.out (HB.out.1.tree.ok (by have := HB.out.2; omega))).mono ?_
     rintro e w ⟨tc, P3, rfl, hP3, hx⟩
     replace HX := Lib.hid hx
     have HP3 := Lib.hid hP3
     clear hx hP3
     go_wp2_with fail
     refine hK _ _ ⟨_, HX.out.up3⟩ ?_
     clear hK
     refine yd7' (fuel := 6) [11, 15] (by kernel_rfl) (by simp) (fun i hi => ?_)
     simp only [List.mem_cons, List.not_mem_nil, or_false] at hi
     rcases hi with rfl | rfl
     ·refine ⟨_, (by (simp only [k_i, k_j, k_k]; try rfl)), fun K hK => ?_⟩
      go_wp2_with fail
      have hrq := yhv' HX.out hd HB.out.1.tree (by have := HB.out.2; omega) sess S.zxid ops _ (HP3.out _ (HP2.out _ HV.out.1)) HV.out.2
      rw [HM1.out] at hrq
      refine hrq.mono ?_
      clear hrq
      rintro e w ⟨v9, P4, rfl, hP4, ⟨a9, n9, c9, xs9, rfl, hrl9, hmem9⟩, hx⟩
      replace HX := Lib.hid hx
      have HP4 := Lib.hid hP4
      clear hx hP4 hrl9 hmem9
      dsimp only at HX ⊢
      go_wp2_with fail
      refine hK _ _ ⟨_, HX.out.up3⟩ ?_
      clear hK
      refine rT [(12, false), (13, false), (14, false)] 3 ?_
      apply Exists.intro; refine ⟨?_, ⟨_, HX.out.up3⟩, ?_⟩
      ·iterate 3 (refine xE ?_)
       exact rfl
      refine r1 2 15 fun K hK => ?_
      go_wp2_with (first | refine u0 ?_ | (refine uS ?_; clear HX; intro w HX) | (refine uA ?_; clear HX; (first | (have hq := b3; clear hq; intro w b4 HX) | (have hq := b2; clear hq; intro w b3 HX) | (have hq := b; clear hq; intro w b2 HX) | intro w b HX)))
      refine hK _ _ ⟨_, HX.out.up4⟩ ?_
      clear hK
      refine rL [16, 17] 0 ?_
      simp only [List.filterMap_cons, List.filterMap_nil, k_i, k_j, k_k]
      (with_reducible apply ydh' HX)
      ·rfl
      ·rfl
      ·rfl
      ·kernel_rfl
      ·(repeat (first | (with_reducible exact Rep.here) | (with_reducible apply Rep.there)))
      ·rfl
      ·rfl
      clear HX
      intro w HX
      simp only [Act.put, k_a, k_b, k_c, yb6', Nat.reduceAdd] at HX ⊢
      go_wp2_with (first | refine u0 ?_ | (refine uS ?_; clear HX; intro w HX) | (refine uA ?_; clear HX; (first | (have hq := b3; clear hq; intro w b4 HX) | (have hq := b2; clear hq; intro w b3 HX) | (have hq := b; clear hq; intro w b2 HX) | intro w b HX)))
      have h9 := HX.out.up1.up2
      replace HX := Lib.hid h9
      clear h9
      have h5 := HX.out
      rw [← HRR2.out] at h5
      have hq5 : Sep w0 w (yan' t S.t P3 :: yac' b (.cells (yak' S.t.room t lk S.zxid mw md mc) 123 (0, 0)) :: ThLk lk S.held :: yam' (.int .i64) mw (gs.map WaitG.kv) :: yam' (.int .i64) md (S.decided.map ikv) :: yam' (.int .i64) mc (S.closed.map ikv) :: yab' w0 P4 :: yac' b2 (.cells #[.int .i64 n1, .int .i64 z1, .int .i64 e1, .int .i64 t1, .slice a9 n9 c9] 39 (0, 0)) :: R) rows := h5.pm 9 [3,4,5,6,7,8,1,2] rfl rfl
      have h6 := ya1' hq5 HP4.out
      have h7 := yba' h6.up1 HG.out.1 (fun g hg => HP4.out _ (HP3.out _ (HG.out.2 g hg)))
      have HST := Lib.hid (show yj2' w0 b b2 #[.int .i64 n1, .int .i64 z1, .int .i64 e1, .int .i64 t1, .slice a9 n9 c9] id ops S P R rows ops.length (.int .i64 (0 : Int)) w from ⟨0, P4, by simp, rfl, fun q hq => HP4.out _ (HP3.out _ (HP2.out _ hq)), h7.up1⟩)
      clear HX h5 hq5 h6 h7 HG HRR2 HP2 HP3 HP4 HM1
      try clear KEEPX
      go_loopg [16, 57] ops.length (fun k _ v wr => yj2' w0 b b2 #[.int .i64 n1, .int .i64 z1, .int .i64 e1, .int .i64 t1, .slice a9 n9 c9] id ops S P R rows k v wr)
      case atStart => exact HST.out
      case round =>
       rename World => w
       obtain ⟨i, P5, hik, rfl, hP5, hS⟩ := hrel
       clear HST
       have HX := Lib.hid hS
       have HP5 := Lib.hid hP5
       clear hS hP5
       by_cases hlt : i < ops.length
       case neg =>
        obtain rfl : i = ops.length := by omega
        rw [List.take_length] at HX
        have q0 : decide ((ops.length : Int) < (ops.length : Int)) = false := decide_eq_false (by omega)
        have hol : ops.length ≤ 1000 := by have := HGD.out.1; omega
        have q9 : decide (ops.length < ops.length) = false := decide_eq_false (by omega)
        clear hlt hik
        go_wp2_with (first | refine u0 ?_ | (refine uS ?_; clear HX; intro w HX) | (refine uA ?_; clear HX; (first | (have hq := b3; clear hq; intro w b4 HX) | (have hq := b2; clear hq; intro w b3 HX) | (have hq := b; clear hq; intro w b2 HX) | intro w b HX)))
        obtain ⟨t, lk, mw, md, mc, gs, hgs, hgv, hS⟩ := ybu' HX.out.up1
        have HG := Lib.hid (show _ ∧ _ from ⟨hgs, hgv⟩)
        obtain ⟨R', hR'⟩ : ∃ R', yan' t S.t P5 :: ThLk lk (ya7' S.held id ops) :: yam' (.int .i64) md (S.decided.map ikv) :: yam' (.int .i64) mc (S.closed.map ikv) :: R = R' := ⟨_, rfl⟩
        have h3 : Sep w0 w (yab' w0 P5 :: yac' b (.cells (yak' S.t.room t lk S.zxid mw md mc) 123 (0, 0)) :: yam' (.int .i64) mw (gs.map WaitG.kv) :: yac' b2 (.cells #[.int .i64 n1, .int .i64 z1, .int .i64 e1, .int .i64 t1, .slice a9 n9 c9] 39 (0, 0)) :: R') rows := by
         rw [← hR']
         exact hS.pm 8 [6, 0, 3, 7, 1, 2, 4, 5] rfl rfl
        have HRR2 := Lib.hid hR'
        clear HX hgs hgv hS hR'
        have HX := Lib.hid h3
        clear h3
        refine rM (fun W => (∃ Ts, Sep w0 W (yac' b (.cells (yak' S.t.room t lk S.zxid mw md mc) 123 (0, 0)) :: Ts) rows)) 12 ?_
        intro KEEPX
        replace HX := Lib.hid HX.out.drew
        have hl : ∀ V, (∃ Ts, Sep w0 V (yac' b (.cells (yak' S.t.room t lk S.zxid mw md mc) 123 (0, 0)) :: Ts) rows) → (Instr.loadAt 120 (.pointer (some ⟨b, 4, none⟩))).run Tryz.prog V = .ok (.map (some mw)) V := by
         rintro V ⟨Ts, hV⟩
         exact yae' (by kernel_rfl) (yaa' hV.blk 4 rfl)
        refine rT [(0, false), (1, false), (2, false), (3, true), (4, false), (5, false), (6, false), (8, false), (9, false)] 3 ?_
        apply Exists.intro; refine ⟨?_, ⟨_, HX.out.up1⟩, ?_⟩
        ·iterate 9 (refine xE ?_)
         exact rfl
        clear hl
        refine r1 2 7 fun K hK => ?_
        go_wp2_with fail
        refine (yfa' HX.out ops _ (HP5.out _ HV.out.1) hol HGD0.out).mono ?_
        rintro e w ⟨v9, rfl, hx⟩
        obtain ⟨ka, kn, kc, rfl, -⟩ := hx.rowLen
        have h9 := hx.poolRow
        clear HX hx
        have HX := Lib.hid h9
        clear h9
        go_wp2_with fail
        refine hK _ _ ⟨_, HX.out.up1⟩ ?_
        clear hK
        refine rT [(10, false)] 1 ?_
        apply Exists.intro; refine ⟨?_, ⟨_, HX.out.up1⟩, ?_⟩
        ·iterate 1 (refine xE ?_)
         exact rfl
        refine r1 0 11 fun K hK => ?_
        obtain ⟨w9, hrun, h9⟩ := Sep.mapAdd (P := Tryz.prog) (key := .int .i64 id) (v := .agg #[.int .i64 sess, .slice ka kn kc, .bool false, .bool (!ok1)]) HX.out.up2 Tryz.underlying120 Tryz.underlying2 (by first | trivial | rfl | exact ⟨_, rfl⟩) (fun q hq e => by
         obtain ⟨g, hg, rfl⟩ := List.mem_map.1 hq
         simp only [WaitG.kv, Value.int.injEq, true_and] at e
         have h1 := ygs' HZK.out
         have h2 : S.wait = gs.map WaitG.ent := HG.out.1.symm
         rw [h2, ykb', List.any_eq_false] at h1
         exact h1 g hg (by rw [e]; exact beq_self_eq_true _))
        have H9 := Lib.hid h9
        clear h9
        go_wp2_with fail
        refine hK _ _ ⟨_, H9.out.up2⟩ ?_
        clear hK
        refine yaf' (by kernel_rfl) ?_ _
        have h6 := H9.out
        rw [← HRR2.out] at h6
        have h7 := ya1' (P' := (5, Value.slice ka kn kc, ops.flatMap OpS.cells) :: P5) h6.up4 (fun q hq => k_n _ hq)
        have h8 := yba' (b := b) (t := t) (lk := lk) (mw := mw) (md := md) (mc := mc) (gs := gs ++ [⟨id, ⟨sess, ops, false, !ok1⟩, .slice ka kn kc⟩]) (S := { S with held := ya7' S.held id ops, wait := S.wait ++ [(id, ⟨sess, ops, false, !ok1⟩)] }) (R := yab' w0 ((5, Value.slice ka kn kc, ops.flatMap OpS.cells) :: P5) :: yac' b2 (.cells #[.int .i64 n1, .int .i64 z1, .int .i64 e1, .int .i64 t1, .slice a9 n9 c9] 39 (0, 0)) :: R) (by rw [List.map_append]; exact h7.pm 8 [3, 0, 5, 1, 6, 7, 2, 4] rfl rfl) (by rw [List.map_append, HG.out.1]; rfl) (fun g hg => by
         rcases List.mem_append.1 hg with hg | hg
         ·exact k_n _ (HG.out.2 g hg)
         ·rw [List.mem_singleton] at hg
          rw [hg]
          exact k_s)
        clear HX H9 hrun h6 h7
        have HX := Lib.hid h8
        clear h8
        rename World => w
        cases ok1 with
        | true =>
         obtain rfl : rr = ((0, -1), { S with held := ya7' S.held id ops, wait := S.wait ++ [(id, ⟨sess, ops, false, !true⟩)] }) := HR3.out
         go_wp2_with (first | refine u0 ?_ | (refine uS ?_; clear HX; intro w HX) | (refine uA ?_; clear HX; (first | (have hq := b3; clear hq; intro w b4 HX) | (have hq := b2; clear hq; intro w b3 HX) | (have hq := b; clear hq; intro w b2 HX) | intro w b HX)))
         go_ret2
         exact ⟨_, rfl, fun q hq => k_n _ (HP5.out q hq), HX.out.pm 3 [1, 0] rfl rfl⟩
        | false =>
         obtain rfl : rr = ((e1, t1), { S with held := ya7' S.held id ops, wait := S.wait ++ [(id, ⟨sess, ops, false, !false⟩)] }) := HR3.out
         go_wp2_with (first | refine u0 ?_ | (refine uS ?_; clear HX; intro w HX) | (refine uA ?_; clear HX; (first | (have hq := b3; clear hq; intro w b4 HX) | (have hq := b2; clear hq; intro w b3 HX) | (have hq := b; clear hq; intro w b2 HX) | intro w b HX)))
         refine yaq' (fun W => W = w.drew) 6 (by kernel_rfl) ?_
         replace HX := Lib.hid HX.out.drew
         generalize w.drew = w at HX ⊢
         refine rT [(0, false), (1, true), (2, false), (3, true), (4, false), (5, false)] 0 ?_
         apply Exists.intro; refine ⟨?_, rfl, ?_⟩
         ·iterate 6 (refine xD ?_)
          exact rfl
         refine yaf' (by kernel_rfl) ?_ _
         go_wp2_with (first | refine u0 ?_ | (refine uS ?_; clear HX; intro w HX) | (refine uA ?_; clear HX; (first | (have hq := b3; clear hq; intro w b4 HX) | (have hq := b2; clear hq; intro w b3 HX) | (have hq := b; clear hq; intro w b2 HX) | intro w b HX)))
         go_ret2
         exact ⟨_, rfl, fun q hq => k_n _ (HP5.out q hq), HX.out.pm 3 [1, 0] rfl rfl⟩
       case pos =>
        obtain ⟨g, off, rfl⟩ := HNE.out (by intro e; have := congrArg List.length e; rw [yau' yag'] at this; simp at this; omega)
        obtain ⟨E, hE⟩ := HX.out.poolGet (HP5.out _ HV.out.1)
        have hl := ycs' (P := Tryz.prog) (f := OpS.cells) (i := i) hE yag' sn_op hlt
        have HTK := Lib.hid (show ops.take (i + 1) = ops.take i ++ [ops[i]] from List.take_succ_eq_append_getElem hlt)
        have hgo := HGD.out.2 ops[i] (List.getElem_mem hlt)
        obtain ⟨o, ho⟩ : ∃ o, ops[i] = o := ⟨_, rfl⟩
        rw [ho] at hl HTK hgo
        have hsz := ye3' hgo
        have HGO := Lib.hid hsz
        have q0 : decide (i < ops.length) = true := decide_eq_true hlt
        have q9 : i ≤ 16 := by have := HGD.out.1; omega
        have HWL := Lib.hid (yhj' o (K := 100000) (by show o.path.data.toList.length ≤ _; have := hsz.1; simpa using this) (by omega))
        have HHL := Lib.hid (show ∀ e ∈ ya7' S.held id (ops.take i), e.1.length ≤ 100000 from fun e he => by have := ycc' (ydj' _ HB.out.1.held e he); omega)
        obtain ⟨H1, hH1⟩ : ∃ H1, ya7' S.held id (ops.take i) = H1 := ⟨_, rfl⟩
        rw [hH1] at HX HHL
        have HH1 := Lib.hid hH1
        obtain ⟨kind, path, data, ver, flags⟩ := o
        simp only [OpS.cells] at hl
        clear hE ho hgo hsz hH1
        go_wp2_with (first | refine u0 ?_ | (refine uS ?_; clear HX; intro w HX) | (refine uA ?_; clear HX; (first | (have hq := b3; clear hq; intro w b4 HX) | (have hq := b2; clear hq; intro w b3 HX) | (have hq := b; clear hq; intro w b2 HX) | intro w b HX)) | ((with_reducible apply yaw' hl); (· rfl); (· rfl); simp only [Act.put, k_a, k_b, k_c]))
        obtain ⟨t, lk, mw, md, mc, gs, hgs, hgv, hS⟩ := ybu' HX.out.up2
        have HG := Lib.hid (show _ ∧ _ from ⟨hgs, hgv⟩)
        obtain ⟨R', hR'⟩ : ∃ R', yan' t S.t P5 :: yam' (.int .i64) mw (gs.map WaitG.kv) :: yam' (.int .i64) md (S.decided.map ikv) :: yam' (.int .i64) mc (S.closed.map ikv) :: yac' b2 (.cells #[.int .i64 n1, .int .i64 z1, .int .i64 e1, .int .i64 t1, .slice a9 n9 c9] 39 (0, 0)) :: R = R' := ⟨_, rfl⟩
        have h3 : Sep w0 w (yab' w0 P5 :: ThLk lk H1 :: yac' b (.cells (yak' S.t.room t lk S.zxid mw md mc) 123 (0, 0)) :: yac' b3 (.cells #[.int .i64 kind, .string path, .string data, .int .i64 ver, .int .i64 flags] 89 (0, 0)) :: R') rows := by
         rw [← hR']
         exact hS.pm 9 [7, 2, 0, 6, 1, 3, 4, 5, 8] rfl rfl
        have HRR2 := Lib.hid hR'
        clear HX hl hgs hgv hS hR'
        have HX := Lib.hid h3
        clear h3
        refine rM (fun W => (∃ Ts, Sep w0 W (yac' b (.cells (yak' S.t.room t lk S.zxid mw md mc) 123 (0, 0)) :: yac' b3 (.cells #[.int .i64 kind, .string path, .string data, .int .i64 ver, .int .i64 flags] 89 (0, 0)) :: Ts) rows)) 8 ?_
        intro KEEPX
        replace HX := Lib.hid HX.out.drew
        have hl : ∀ V, (∃ Ts, Sep w0 V (yac' b (.cells (yak' S.t.room t lk S.zxid mw md mc) 123 (0, 0)) :: yac' b3 (.cells #[.int .i64 kind, .string path, .string data, .int .i64 ver, .int .i64 flags] 89 (0, 0)) :: Ts) rows) → (Instr.loadAt 118 (.pointer (some ⟨b, 2, none⟩))).run Tryz.prog V = .ok (.pointer (some ⟨lk, 0, none⟩)) V := by
         rintro V ⟨Ts, hV⟩
         exact yae' (by kernel_rfl) (yaa' hV.blk 2 rfl)
        have hl2 : ∀ V, (∃ Ts, Sep w0 V (yac' b (.cells (yak' S.t.room t lk S.zxid mw md mc) 123 (0, 0)) :: yac' b3 (.cells #[.int .i64 kind, .string path, .string data, .int .i64 ver, .int .i64 flags] 89 (0, 0)) :: Ts) rows) → (Instr.loadAt 89 (.pointer (some ⟨b3, 0, none⟩))).run Tryz.prog V = .ok (.agg #[.int .i64 kind, .string path, .string data, .int .i64 ver, .int .i64 flags]) V := by
         rintro V ⟨Ts, hV⟩
         exact ya4' sn_op.1 hV.up1.blk (Nat.le_refl 5)
        refine rT [(0, false), (1, false), (2, false), (3, true), (4, false), (5, true)] 2 ?_
        apply Exists.intro; refine ⟨?_, ⟨_, HX.out.up3.up3⟩, ?_⟩
        ·iterate 6 (refine xE ?_)
         exact rfl
        clear hl hl2
        refine r1 1 6 fun K hK => ?_
        go_wp2_with fail
        refine (yhh' HX.out hd ⟨kind, path, data, ver, flags⟩ HGO.out.1 HGO.out.2.1 HGO.out.2.2).mono ?_
        rintro e w ⟨vw, rfl, hx⟩
        obtain ⟨wa, wn, wc, rfl, -⟩ := hx.rowLen
        obtain ⟨Q, hQ⟩ : ∃ Q, (1, Value.slice wa wn wc, (yaz' ⟨kind, path, data, ver, flags⟩).map sv) :: P5 = Q := ⟨_, rfl⟩
        have h9 := hx.poolRow
        rw [hQ] at h9
        have HQ := Lib.hid (show (1, Value.slice wa wn wc, (yaz' ⟨kind, path, data, ver, flags⟩).map sv) ∈ Q ∧ ∀ q ∈ P5, q ∈ Q from ⟨by rw [← hQ]; exact k_s, by rw [← hQ]; exact fun q hq => k_n _ hq⟩)
        clear HX hx hQ
        have HX := Lib.hid h9
        clear h9
        go_wp2_with fail
        refine hK _ _ ⟨_, HX.out.up3.up3⟩ ?_
        clear hK
        refine r1 0 7 fun K hK => ?_
        go_wp2_with fail
        refine (yiv' HX.out hd id (yaz' ⟨kind, path, data, ver, flags⟩) _ HQ.out.1 HWL.out HHL.out (yhi' _)).mono ?_
        rintro e w ⟨rfl, hx⟩
        replace HX := Lib.hid hx
        clear hx
        go_wp2_with fail
        refine hK _ _ ⟨_, HX.out.up3.up3⟩ ?_
        clear hK
        refine yaf' (by kernel_rfl) ?_ _
        have h6 := HX.out
        rw [← HRR2.out] at h6
        have h7 := ya1' (P' := Q) h6.up4 HQ.out.2
        have h8 := yba' (b := b) (t := t) (lk := lk) (mw := mw) (md := md) (mc := mc) (gs := gs) (S := { S with held := ydi' H1 id (yaz' ⟨kind, path, data, ver, flags⟩) }) (R := yab' w0 Q :: yac' b2 (.cells #[.int .i64 n1, .int .i64 z1, .int .i64 e1, .int .i64 t1, .slice a9 n9 c9] 39 (0, 0)) :: R) (h7.pm 9 [3, 0, 2, 5, 6, 7, 1, 8] rfl rfl) HG.out.1 (fun g hg => HQ.out.2 _ (HG.out.2 g hg))
        have HNX := Lib.hid (show ya7' S.held id (ops.take (i + 1)) = ydi' H1 id (yaz' ⟨kind, path, data, ver, flags⟩) by rw [HTK.out, ← HH1.out]; unfold ya7'; rw [List.foldl_append]; rfl)
        clear HX h6 h7
        have HX := Lib.hid h8
        clear h8
        go_wp2_with (first | refine u0 ?_ | (refine uS ?_; clear HX; intro w HX) | (refine uA ?_; clear HX; (first | (have hq := b3; clear hq; intro w b4 HX) | (have hq := b2; clear hq; intro w b3 HX) | (have hq := b; clear hq; intro w b2 HX) | intro w b HX)))
        go_roundg (ops.length - (i + 1))
        case rel => exact ⟨i + 1, Q, by omega, by go_num, fun q hq => HQ.out.2 q (HP5.out q hq), by rw [HNX.out]; exact HX.out.pm 3 [1, 0, 2] rfl rfl⟩
        case measure => omega
     ·refine ⟨_, (by (simp only [k_i, k_j, k_k]; try rfl)), fun K hK => ?_⟩
      go_wp2_with (first | refine u0 ?_ | (refine uS ?_; clear HX; intro w HX) | (refine uA ?_; clear HX; (first | (have hq := b3; clear hq; intro w b4 HX) | (have hq := b2; clear hq; intro w b3 HX) | (have hq := b; clear hq; intro w b2 HX) | intro w b HX)))
      refine hK _ _ ⟨_, HX.out.up4⟩ ?_
      clear hK
      refine r1 5 11 fun K hK => ?_
      go_wp2_with fail
      have hrq := yhv' HX.out.up2.up2 hd HB.out.1.tree (by have := HB.out.2; omega) sess S.zxid ops _ (HP3.out _ (HP2.out _ HV.out.1)) HV.out.2
      rw [HM1.out] at hrq
      refine hrq.mono ?_
      clear hrq
      rintro e w ⟨v9, P4, rfl, hP4, ⟨a9, n9, c9, xs9, rfl, hrl9, hmem9⟩, hx⟩
      replace HX := Lib.hid hx
      have HP4 := Lib.hid hP4
      clear hx hP4 hrl9 hmem9
      dsimp only at HX ⊢
      go_wp2_with fail
      refine hK _ _ ⟨_, HX.out.up4⟩ ?_
      clear hK
      refine rT [(12, false), (13, false), (14, false)] 2 ?_
      apply Exists.intro; refine ⟨?_, ⟨_, HX.out.up4⟩, ?_⟩
      ·iterate 3 (refine xE ?_)
       exact rfl
      refine rL [16, 17] 0 ?_
      simp only [List.filterMap_cons, List.filterMap_nil, k_i, k_j, k_k]
      (with_reducible apply ydh' HX)
      ·rfl
      ·rfl
      ·rfl
      ·kernel_rfl
      ·(repeat (first | (with_reducible exact Rep.here) | (with_reducible apply Rep.there)))
      ·rfl
      ·rfl
      clear HX
      intro w HX
      simp only [Act.put, k_a, k_b, k_c, yb6', Nat.reduceAdd] at HX ⊢
      go_wp2_with (first | refine u0 ?_ | (refine uS ?_; clear HX; intro w HX) | (refine uA ?_; clear HX; (first | (have hq := b3; clear hq; intro w b4 HX) | (have hq := b2; clear hq; intro w b3 HX) | (have hq := b; clear hq; intro w b2 HX) | intro w b HX)))
      have h5 := HX.out
      rw [← HRR2.out] at h5
      have hq5 : Sep w0 w (yan' t S.t P3 :: yac' b (.cells (yak' S.t.room t lk S.zxid mw md mc) 123 (0, 0)) :: ThLk lk S.held :: yam' (.int .i64) mw (gs.map WaitG.kv) :: yam' (.int .i64) md (S.decided.map ikv) :: yam' (.int .i64) mc (S.closed.map ikv) :: yab' w0 P4 :: yac' b2 (.cells #[.int .i64 n1, .int .i64 z1, .int .i64 e1, .int .i64 t1, .slice a9 n9 c9] 39 (0, 0)) :: R) rows := h5.pm 9 [3,4,5,6,7,8,0,2] rfl rfl
      have h6 := ya1' hq5 HP4.out
      have h7 := yba' h6.up1 HG.out.1 (fun g hg => HP4.out _ (HP3.out _ (HG.out.2 g hg)))
      have HST := Lib.hid (show yj2' w0 b b2 #[.int .i64 n1, .int .i64 z1, .int .i64 e1, .int .i64 t1, .slice a9 n9 c9] id ops S P R rows ops.length (.int .i64 (0 : Int)) w from ⟨0, P4, by simp, rfl, fun q hq => HP4.out _ (HP3.out _ (HP2.out _ hq)), h7.up1⟩)
      clear HX h5 hq5 h6 h7 HG HRR2 HP2 HP3 HP4 HM1
      try clear KEEPX
      go_loopg [16, 57] ops.length (fun k _ v wr => yj2' w0 b b2 #[.int .i64 n1, .int .i64 z1, .int .i64 e1, .int .i64 t1, .slice a9 n9 c9] id ops S P R rows k v wr)
      case atStart => exact HST.out
      case round =>
       rename World => w
       obtain ⟨i, P5, hik, rfl, hP5, hS⟩ := hrel
       clear HST
       have HX := Lib.hid hS
       have HP5 := Lib.hid hP5
       clear hS hP5
       by_cases hlt : i < ops.length
       case neg =>
        obtain rfl : i = ops.length := by omega
        rw [List.take_length] at HX
        have q0 : decide ((ops.length : Int) < (ops.length : Int)) = false := decide_eq_false (by omega)
        have hol : ops.length ≤ 1000 := by have := HGD.out.1; omega
        have q9 : decide (ops.length < ops.length) = false := decide_eq_false (by omega)
        clear hlt hik
        go_wp2_with (first | refine u0 ?_ | (refine uS ?_; clear HX; intro w HX) | (refine uA ?_; clear HX; (first | (have hq := b3; clear hq; intro w b4 HX) | (have hq := b2; clear hq; intro w b3 HX) | (have hq := b; clear hq; intro w b2 HX) | intro w b HX)))
        obtain ⟨t, lk, mw, md, mc, gs, hgs, hgv, hS⟩ := ybu' HX.out.up1
        have HG := Lib.hid (show _ ∧ _ from ⟨hgs, hgv⟩)
        obtain ⟨R', hR'⟩ : ∃ R', yan' t S.t P5 :: ThLk lk (ya7' S.held id ops) :: yam' (.int .i64) md (S.decided.map ikv) :: yam' (.int .i64) mc (S.closed.map ikv) :: R = R' := ⟨_, rfl⟩
        have h3 : Sep w0 w (yab' w0 P5 :: yac' b (.cells (yak' S.t.room t lk S.zxid mw md mc) 123 (0, 0)) :: yam' (.int .i64) mw (gs.map WaitG.kv) :: yac' b2 (.cells #[.int .i64 n1, .int .i64 z1, .int .i64 e1, .int .i64 t1, .slice a9 n9 c9] 39 (0, 0)) :: R') rows := by
         rw [← hR']
         exact hS.pm 8 [6, 0, 3, 7, 1, 2, 4, 5] rfl rfl
        have HRR2 := Lib.hid hR'
        clear HX hgs hgv hS hR'
        have HX := Lib.hid h3
        clear h3
        refine rM (fun W => (∃ Ts, Sep w0 W (yac' b (.cells (yak' S.t.room t lk S.zxid mw md mc) 123 (0, 0)) :: Ts) rows)) 12 ?_
        intro KEEPX
        replace HX := Lib.hid HX.out.drew
        have hl : ∀ V, (∃ Ts, Sep w0 V (yac' b (.cells (yak' S.t.room t lk S.zxid mw md mc) 123 (0, 0)) :: Ts) rows) → (Instr.loadAt 120 (.pointer (some ⟨b, 4, none⟩))).run Tryz.prog V = .ok (.map (some mw)) V := by
         rintro V ⟨Ts, hV⟩
         exact yae' (by kernel_rfl) (yaa' hV.blk 4 rfl)
        refine rT [(0, false), (1, false), (2, false), (3, true), (4, false), (5, false), (6, false), (8, false), (9, false)] 3 ?_
        apply Exists.intro; refine ⟨?_, ⟨_, HX.out.up1⟩, ?_⟩
        ·iterate 9 (refine xE ?_)
         exact rfl
        clear hl
        refine r1 2 7 fun K hK => ?_
        go_wp2_with fail
        refine (yfa' HX.out ops _ (HP5.out _ HV.out.1) hol HGD0.out).mono ?_
        rintro e w ⟨v9, rfl, hx⟩
        obtain ⟨ka, kn, kc, rfl, -⟩ := hx.rowLen
        have h9 := hx.poolRow
        clear HX hx
        have HX := Lib.hid h9
        clear h9
        go_wp2_with fail
        refine hK _ _ ⟨_, HX.out.up1⟩ ?_
        clear hK
        refine rT [(10, false)] 1 ?_
        apply Exists.intro; refine ⟨?_, ⟨_, HX.out.up1⟩, ?_⟩
        ·iterate 1 (refine xE ?_)
         exact rfl
        refine r1 0 11 fun K hK => ?_
        obtain ⟨w9, hrun, h9⟩ := Sep.mapAdd (P := Tryz.prog) (key := .int .i64 id) (v := .agg #[.int .i64 sess, .slice ka kn kc, .bool false, .bool (!ok1)]) HX.out.up2 Tryz.underlying120 Tryz.underlying2 (by first | trivial | rfl | exact ⟨_, rfl⟩) (fun q hq e => by
         obtain ⟨g, hg, rfl⟩ := List.mem_map.1 hq
         simp only [WaitG.kv, Value.int.injEq, true_and] at e
         have h1 := ygs' HZK.out
         have h2 : S.wait = gs.map WaitG.ent := HG.out.1.symm
         rw [h2, ykb', List.any_eq_false] at h1
         exact h1 g hg (by rw [e]; exact beq_self_eq_true _))
        have H9 := Lib.hid h9
        clear h9
        go_wp2_with fail
        refine hK _ _ ⟨_, H9.out.up2⟩ ?_
        clear hK
        refine yaf' (by kernel_rfl) ?_ _
        have h6 := H9.out
        rw [← HRR2.out] at h6
        have h7 := ya1' (P' := (5, Value.slice ka kn kc, ops.flatMap OpS.cells) :: P5) h6.up4 (fun q hq => k_n _ hq)
        have h8 := yba' (b := b) (t := t) (lk := lk) (mw := mw) (md := md) (mc := mc) (gs := gs ++ [⟨id, ⟨sess, ops, false, !ok1⟩, .slice ka kn kc⟩]) (S := { S with held := ya7' S.held id ops, wait := S.wait ++ [(id, ⟨sess, ops, false, !ok1⟩)] }) (R := yab' w0 ((5, Value.slice ka kn kc, ops.flatMap OpS.cells) :: P5) :: yac' b2 (.cells #[.int .i64 n1, .int .i64 z1, .int .i64 e1, .int .i64 t1, .slice a9 n9 c9] 39 (0, 0)) :: R) (by rw [List.map_append]; exact h7.pm 8 [3, 0, 5, 1, 6, 7, 2, 4] rfl rfl) (by rw [List.map_append, HG.out.1]; rfl) (fun g hg => by
         rcases List.mem_append.1 hg with hg | hg
         ·exact k_n _ (HG.out.2 g hg)
         ·rw [List.mem_singleton] at hg
          rw [hg]
          exact k_s)
        clear HX H9 hrun h6 h7
        have HX := Lib.hid h8
        clear h8
        rename World => w
        cases ok1 with
        | true =>
         obtain rfl : rr = ((0, -1), { S with held := ya7' S.held id ops, wait := S.wait ++ [(id, ⟨sess, ops, false, !true⟩)] }) := HR3.out
         go_wp2_with (first | refine u0 ?_ | (refine uS ?_; clear HX; intro w HX) | (refine uA ?_; clear HX; (first | (have hq := b3; clear hq; intro w b4 HX) | (have hq := b2; clear hq; intro w b3 HX) | (have hq := b; clear hq; intro w b2 HX) | intro w b HX)))
         go_ret2
         exact ⟨_, rfl, fun q hq => k_n _ (HP5.out q hq), HX.out.pm 3 [1, 0] rfl rfl⟩
        | false =>
         obtain rfl : rr = ((e1, t1), { S with held := ya7' S.held id ops, wait := S.wait ++ [(id, ⟨sess, ops, false, !false⟩)] }) := HR3.out
         go_wp2_with (first | refine u0 ?_ | (refine uS ?_; clear HX; intro w HX) | (refine uA ?_; clear HX; (first | (have hq := b3; clear hq; intro w b4 HX) | (have hq := b2; clear hq; intro w b3 HX) | (have hq := b; clear hq; intro w b2 HX) | intro w b HX)))
         refine yaq' (fun W => W = w.drew) 6 (by kernel_rfl) ?_
         replace HX := Lib.hid HX.out.drew
         generalize w.drew = w at HX ⊢
         refine rT [(0, false), (1, true), (2, false), (3, true), (4, false), (5, false)] 0 ?_
         apply Exists.intro; refine ⟨?_, rfl, ?_⟩
         ·iterate 6 (refine xD ?_)
          exact rfl
         refine yaf' (by kernel_rfl) ?_ _
         go_wp2_with (first | refine u0 ?_ | (refine uS ?_; clear HX; intro w HX) | (refine uA ?_; clear HX; (first | (have hq := b3; clear hq; intro w b4 HX) | (have hq := b2; clear hq; intro w b3 HX) | (have hq := b; clear hq; intro w b2 HX) | intro w b HX)))
         go_ret2
         exact ⟨_, rfl, fun q hq => k_n _ (HP5.out q hq), HX.out.pm 3 [1, 0] rfl rfl⟩
       case pos =>
        obtain ⟨g, off, rfl⟩ := HNE.out (by intro e; have := congrArg List.length e; rw [yau' yag'] at this; simp at this; omega)
        obtain ⟨E, hE⟩ := HX.out.poolGet (HP5.out _ HV.out.1)
        have hl := ycs' (P := Tryz.prog) (f := OpS.cells) (i := i) hE yag' sn_op hlt
        have HTK := Lib.hid (show ops.take (i + 1) = ops.take i ++ [ops[i]] from List.take_succ_eq_append_getElem hlt)
        have hgo := HGD.out.2 ops[i] (List.getElem_mem hlt)
        obtain ⟨o, ho⟩ : ∃ o, ops[i] = o := ⟨_, rfl⟩
        rw [ho] at hl HTK hgo
        have hsz := ye3' hgo
        have HGO := Lib.hid hsz
        have q0 : decide (i < ops.length) = true := decide_eq_true hlt
        have q9 : i ≤ 16 := by have := HGD.out.1; omega
        have HWL := Lib.hid (yhj' o (K := 100000) (by show o.path.data.toList.length ≤ _; have := hsz.1; simpa using this) (by omega))
        have HHL := Lib.hid (show ∀ e ∈ ya7' S.held id (ops.take i), e.1.length ≤ 100000 from fun e he => by have := ycc' (ydj' _ HB.out.1.held e he); omega)
        obtain ⟨H1, hH1⟩ : ∃ H1, ya7' S.held id (ops.take i) = H1 := ⟨_, rfl⟩
        rw [hH1] at HX HHL
        have HH1 := Lib.hid hH1
        obtain ⟨kind, path, data, ver, flags⟩ := o
        simp only [OpS.cells] at hl
        clear hE ho hgo hsz hH1
        go_wp2_with (first | refine u0 ?_ | (refine uS ?_; clear HX; intro w HX) | (refine uA ?_; clear HX; (first | (have hq := b3; clear hq; intro w b4 HX) | (have hq := b2; clear hq; intro w b3 HX) | (have hq := b; clear hq; intro w b2 HX) | intro w b HX)) | ((with_reducible apply yaw' hl); (· rfl); (· rfl); simp only [Act.put, k_a, k_b, k_c]))
        obtain ⟨t, lk, mw, md, mc, gs, hgs, hgv, hS⟩ := ybu' HX.out.up2
        have HG := Lib.hid (show _ ∧ _ from ⟨hgs, hgv⟩)
        obtain ⟨R', hR'⟩ : ∃ R', yan' t S.t P5 :: yam' (.int .i64) mw (gs.map WaitG.kv) :: yam' (.int .i64) md (S.decided.map ikv) :: yam' (.int .i64) mc (S.closed.map ikv) :: yac' b2 (.cells #[.int .i64 n1, .int .i64 z1, .int .i64 e1, .int .i64 t1, .slice a9 n9 c9] 39 (0, 0)) :: R = R' := ⟨_, rfl⟩
        have h3 : Sep w0 w (yab' w0 P5 :: ThLk lk H1 :: yac' b (.cells (yak' S.t.room t lk S.zxid mw md mc) 123 (0, 0)) :: yac' b3 (.cells #[.int .i64 kind, .string path, .string data, .int .i64 ver, .int .i64 flags] 89 (0, 0)) :: R') rows := by
         rw [← hR']
         exact hS.pm 9 [7, 2, 0, 6, 1, 3, 4, 5, 8] rfl rfl
        have HRR2 := Lib.hid hR'
        clear HX hl hgs hgv hS hR'
        have HX := Lib.hid h3
        clear h3
        refine rM (fun W => (∃ Ts, Sep w0 W (yac' b (.cells (yak' S.t.room t lk S.zxid mw md mc) 123 (0, 0)) :: yac' b3 (.cells #[.int .i64 kind, .string path, .string data, .int .i64 ver, .int .i64 flags] 89 (0, 0)) :: Ts) rows)) 8 ?_
        intro KEEPX
        replace HX := Lib.hid HX.out.drew
        have hl : ∀ V, (∃ Ts, Sep w0 V (yac' b (.cells (yak' S.t.room t lk S.zxid mw md mc) 123 (0, 0)) :: yac' b3 (.cells #[.int .i64 kind, .string path, .string data, .int .i64 ver, .int .i64 flags] 89 (0, 0)) :: Ts) rows) → (Instr.loadAt 118 (.pointer (some ⟨b, 2, none⟩))).run Tryz.prog V = .ok (.pointer (some ⟨lk, 0, none⟩)) V := by
         rintro V ⟨Ts, hV⟩
         exact yae' (by kernel_rfl) (yaa' hV.blk 2 rfl)
        have hl2 : ∀ V, (∃ Ts, Sep w0 V (yac' b (.cells (yak' S.t.room t lk S.zxid mw md mc) 123 (0, 0)) :: yac' b3 (.cells #[.int .i64 kind, .string path, .string data, .int .i64 ver, .int .i64 flags] 89 (0, 0)) :: Ts) rows) → (Instr.loadAt 89 (.pointer (some ⟨b3, 0, none⟩))).run Tryz.prog V = .ok (.agg #[.int .i64 kind, .string path, .string data, .int .i64 ver, .int .i64 flags]) V := by
         rintro V ⟨Ts, hV⟩
         exact ya4' sn_op.1 hV.up1.blk (Nat.le_refl 5)
        refine rT [(0, false), (1, false), (2, false), (3, true), (4, false), (5, true)] 2 ?_
        apply Exists.intro; refine ⟨?_, ⟨_, HX.out.up3.up3⟩, ?_⟩
        ·iterate 6 (refine xE ?_)
         exact rfl
        clear hl hl2
        refine r1 1 6 fun K hK => ?_
        go_wp2_with fail
        refine (yhh' HX.out hd ⟨kind, path, data, ver, flags⟩ HGO.out.1 HGO.out.2.1 HGO.out.2.2).mono ?_
        rintro e w ⟨vw, rfl, hx⟩
        obtain ⟨wa, wn, wc, rfl, -⟩ := hx.rowLen
        obtain ⟨Q, hQ⟩ : ∃ Q, (1, Value.slice wa wn wc, (yaz' ⟨kind, path, data, ver, flags⟩).map sv) :: P5 = Q := ⟨_, rfl⟩
        have h9 := hx.poolRow
        rw [hQ] at h9
        have HQ := Lib.hid (show (1, Value.slice wa wn wc, (yaz' ⟨kind, path, data, ver, flags⟩).map sv) ∈ Q ∧ ∀ q ∈ P5, q ∈ Q from ⟨by rw [← hQ]; exact k_s, by rw [← hQ]; exact fun q hq => k_n _ hq⟩)
        clear HX hx hQ
        have HX := Lib.hid h9
        clear h9
        go_wp2_with fail
        refine hK _ _ ⟨_, HX.out.up3.up3⟩ ?_
        clear hK
        refine r1 0 7 fun K hK => ?_
        go_wp2_with fail
        refine (yiv' HX.out hd id (yaz' ⟨kind, path, data, ver, flags⟩) _ HQ.out.1 HWL.out HHL.out (yhi' _)).mono ?_
        rintro e w ⟨rfl, hx⟩
        replace HX := Lib.hid hx
        clear hx
        go_wp2_with fail
        refine hK _ _ ⟨_, HX.out.up3.up3⟩ ?_
        clear hK
        refine yaf' (by kernel_rfl) ?_ _
        have h6 := HX.out
        rw [← HRR2.out] at h6
        have h7 := ya1' (P' := Q) h6.up4 HQ.out.2
        have h8 := yba' (b := b) (t := t) (lk := lk) (mw := mw) (md := md) (mc := mc) (gs := gs) (S := { S with held := ydi' H1 id (yaz' ⟨kind, path, data, ver, flags⟩) }) (R := yab' w0 Q :: yac' b2 (.cells #[.int .i64 n1, .int .i64 z1, .int .i64 e1, .int .i64 t1, .slice a9 n9 c9] 39 (0, 0)) :: R) (h7.pm 9 [3, 0, 2, 5, 6, 7, 1, 8] rfl rfl) HG.out.1 (fun g hg => HQ.out.2 _ (HG.out.2 g hg))
        have HNX := Lib.hid (show ya7' S.held id (ops.take (i + 1)) = ydi' H1 id (yaz' ⟨kind, path, data, ver, flags⟩) by rw [HTK.out, ← HH1.out]; unfold ya7'; rw [List.foldl_append]; rfl)
        clear HX h6 h7
        have HX := Lib.hid h8
        clear h8
        go_wp2_with (first | refine u0 ?_ | (refine uS ?_; clear HX; intro w HX) | (refine uA ?_; clear HX; (first | (have hq := b3; clear hq; intro w b4 HX) | (have hq := b2; clear hq; intro w b3 HX) | (have hq := b; clear hq; intro w b2 HX) | intro w b HX)))
        go_roundg (ops.length - (i + 1))
        case rel => exact ⟨i + 1, Q, by omega, by go_num, fun q hq => HQ.out.2 q (HP5.out q hq), by rw [HNX.out]; exact HX.out.pm 3 [1, 0, 2] rfl rfl⟩
        case measure => omega
    ·refine ⟨_, (by (simp only [k_i, k_j, k_k]; try rfl)), fun K hK => ?_⟩
     go_wp2_with (first | refine u0 ?_ | (refine uS ?_; clear HX; intro w HX) | (refine uA ?_; clear HX; (first | (have hq := b3; clear hq; intro w b4 HX) | (have hq := b2; clear hq; intro w b3 HX) | (have hq := b; clear hq; intro w b2 HX) | intro w b HX)))
     refine hK _ _ ⟨_, HX.out.up3⟩ ?_
     clear hK
     refine r1 6 4 fun K hK => ?_
     go_wp2_with fail
     refine (yeg' HX.out.up2.up2 (HB.out.1.tree.ok (by have := HB.out.2; omega))).mono ?_
     rintro e w ⟨tc, P3, rfl, hP3, hx⟩
     replace HX := Lib.hid hx
     have HP3 := Lib.hid hP3
     clear hx hP3
     go_wp2_with fail
     refine hK _ _ ⟨_, HX.out.up4⟩ ?_
     clear hK
     refine r1 5 11 fun K hK => ?_
     go_wp2_with fail
     have hrq := yhv' HX.out hd HB.out.1.tree (by have := HB.out.2; omega) sess S.zxid ops _ (HP3.out _ (HP2.out _ HV.out.1)) HV.out.2
     rw [HM1.out] at hrq
     refine hrq.mono ?_
     clear hrq
     rintro e w ⟨v9, P4, rfl, hP4, ⟨a9, n9, c9, xs9, rfl, hrl9, hmem9⟩, hx⟩
     replace HX := Lib.hid hx
     have HP4 := Lib.hid hP4
     clear hx hP4 hrl9 hmem9
     dsimp only at HX ⊢
     go_wp2_with fail
     refine hK _ _ ⟨_, HX.out.up4⟩ ?_
     clear hK
     refine rT [(12, false), (13, false), (14, false)] 2 ?_
     apply Exists.intro; refine ⟨?_, ⟨_, HX.out.up4⟩, ?_⟩
     ·iterate 3 (refine xE ?_)
      exact rfl
     refine rL [16, 17] 0 ?_
     simp only [List.filterMap_cons, List.filterMap_nil, k_i, k_j, k_k]
     (with_reducible apply ydh' HX)
     ·rfl
     ·rfl
     ·rfl
     ·kernel_rfl
     ·(repeat (first | (with_reducible exact Rep.here) | (with_reducible apply Rep.there)))
     ·rfl
     ·rfl
     clear HX
     intro w HX
     simp only [Act.put, k_a, k_b, k_c, yb6', Nat.reduceAdd] at HX ⊢
     go_wp2_with (first | refine u0 ?_ | (refine uS ?_; clear HX; intro w HX) | (refine uA ?_; clear HX; (first | (have hq := b3; clear hq; intro w b4 HX) | (have hq := b2; clear hq; intro w b3 HX) | (have hq := b; clear hq; intro w b2 HX) | intro w b HX)))
     have h5 := HX.out
     rw [← HRR2.out] at h5
     have hq5 : Sep w0 w (yan' t S.t P3 :: yac' b (.cells (yak' S.t.room t lk S.zxid mw md mc) 123 (0, 0)) :: ThLk lk S.held :: yam' (.int .i64) mw (gs.map WaitG.kv) :: yam' (.int .i64) md (S.decided.map ikv) :: yam' (.int .i64) mc (S.closed.map ikv) :: yab' w0 P4 :: yac' b2 (.cells #[.int .i64 n1, .int .i64 z1, .int .i64 e1, .int .i64 t1, .slice a9 n9 c9] 39 (0, 0)) :: R) rows := h5.pm 9 [2,4,5,6,7,8,0,3] rfl rfl
     have h6 := ya1' hq5 HP4.out
     have h7 := yba' h6.up1 HG.out.1 (fun g hg => HP4.out _ (HP3.out _ (HG.out.2 g hg)))
     have HST := Lib.hid (show yj2' w0 b b2 #[.int .i64 n1, .int .i64 z1, .int .i64 e1, .int .i64 t1, .slice a9 n9 c9] id ops S P R rows ops.length (.int .i64 (0 : Int)) w from ⟨0, P4, by simp, rfl, fun q hq => HP4.out _ (HP3.out _ (HP2.out _ hq)), h7.up1⟩)
     clear HX h5 hq5 h6 h7 HG HRR2 HP2 HP3 HP4 HM1
     try clear KEEPX
     go_loopg [16, 57] ops.length (fun k _ v wr => yj2' w0 b b2 #[.int .i64 n1, .int .i64 z1, .int .i64 e1, .int .i64 t1, .slice a9 n9 c9] id ops S P R rows k v wr)
     case atStart => exact HST.out
     case round =>
      rename World => w
      obtain ⟨i, P5, hik, rfl, hP5, hS⟩ := hrel
      clear HST
      have HX := Lib.hid hS
      have HP5 := Lib.hid hP5
      clear hS hP5
      by_cases hlt : i < ops.length
      case neg =>
       obtain rfl : i = ops.length := by omega
       rw [List.take_length] at HX
       have q0 : decide ((ops.length : Int) < (ops.length : Int)) = false := decide_eq_false (by omega)
       have hol : ops.length ≤ 1000 := by have := HGD.out.1; omega
       have q9 : decide (ops.length < ops.length) = false := decide_eq_false (by omega)
       clear hlt hik
       go_wp2_with (first | refine u0 ?_ | (refine uS ?_; clear HX; intro w HX) | (refine uA ?_; clear HX; (first | (have hq := b3; clear hq; intro w b4 HX) | (have hq := b2; clear hq; intro w b3 HX) | (have hq := b; clear hq; intro w b2 HX) | intro w b HX)))
       obtain ⟨t, lk, mw, md, mc, gs, hgs, hgv, hS⟩ := ybu' HX.out.up1
       have HG := Lib.hid (show _ ∧ _ from ⟨hgs, hgv⟩)
       obtain ⟨R', hR'⟩ : ∃ R', yan' t S.t P5 :: ThLk lk (ya7' S.held id ops) :: yam' (.int .i64) md (S.decided.map ikv) :: yam' (.int .i64) mc (S.closed.map ikv) :: R = R' := ⟨_, rfl⟩
       have h3 : Sep w0 w (yab' w0 P5 :: yac' b (.cells (yak' S.t.room t lk S.zxid mw md mc) 123 (0, 0)) :: yam' (.int .i64) mw (gs.map WaitG.kv) :: yac' b2 (.cells #[.int .i64 n1, .int .i64 z1, .int .i64 e1, .int .i64 t1, .slice a9 n9 c9] 39 (0, 0)) :: R') rows := by
        rw [← hR']
        exact hS.pm 8 [6, 0, 3, 7, 1, 2, 4, 5] rfl rfl
       have HRR2 := Lib.hid hR'
       clear HX hgs hgv hS hR'
       have HX := Lib.hid h3
       clear h3
       refine rM (fun W => (∃ Ts, Sep w0 W (yac' b (.cells (yak' S.t.room t lk S.zxid mw md mc) 123 (0, 0)) :: Ts) rows)) 12 ?_
       intro KEEPX
       replace HX := Lib.hid HX.out.drew
       have hl : ∀ V, (∃ Ts, Sep w0 V (yac' b (.cells (yak' S.t.room t lk S.zxid mw md mc) 123 (0, 0)) :: Ts) rows) → (Instr.loadAt 120 (.pointer (some ⟨b, 4, none⟩))).run Tryz.prog V = .ok (.map (some mw)) V := by
        rintro V ⟨Ts, hV⟩
        exact yae' (by kernel_rfl) (yaa' hV.blk 4 rfl)
       refine rT [(0, false), (1, false), (2, false), (3, true), (4, false), (5, false), (6, false), (8, false), (9, false)] 3 ?_
       apply Exists.intro; refine ⟨?_, ⟨_, HX.out.up1⟩, ?_⟩
       ·iterate 9 (refine xE ?_)
        exact rfl
       clear hl
       refine r1 2 7 fun K hK => ?_
       go_wp2_with fail
       refine (yfa' HX.out ops _ (HP5.out _ HV.out.1) hol HGD0.out).mono ?_
       rintro e w ⟨v9, rfl, hx⟩
       obtain ⟨ka, kn, kc, rfl, -⟩ := hx.rowLen
       have h9 := hx.poolRow
       clear HX hx
       have HX := Lib.hid h9
       clear h9
       go_wp2_with fail
       refine hK _ _ ⟨_, HX.out.up1⟩ ?_
       clear hK
       refine rT [(10, false)] 1 ?_
       apply Exists.intro; refine ⟨?_, ⟨_, HX.out.up1⟩, ?_⟩
       ·iterate 1 (refine xE ?_)
        exact rfl
       refine r1 0 11 fun K hK => ?_
       obtain ⟨w9, hrun, h9⟩ := Sep.mapAdd (P := Tryz.prog) (key := .int .i64 id) (v := .agg #[.int .i64 sess, .slice ka kn kc, .bool false, .bool (!ok1)]) HX.out.up2 Tryz.underlying120 Tryz.underlying2 (by first | trivial | rfl | exact ⟨_, rfl⟩) (fun q hq e => by
        obtain ⟨g, hg, rfl⟩ := List.mem_map.1 hq
        simp only [WaitG.kv, Value.int.injEq, true_and] at e
        have h1 := ygs' HZK.out
        have h2 : S.wait = gs.map WaitG.ent := HG.out.1.symm
        rw [h2, ykb', List.any_eq_false] at h1
        exact h1 g hg (by rw [e]; exact beq_self_eq_true _))
       have H9 := Lib.hid h9
       clear h9
       go_wp2_with fail
       refine hK _ _ ⟨_, H9.out.up2⟩ ?_
       clear hK
       refine yaf' (by kernel_rfl) ?_ _
       have h6 := H9.out
       rw [← HRR2.out] at h6
       have h7 := ya1' (P' := (5, Value.slice ka kn kc, ops.flatMap OpS.cells) :: P5) h6.up4 (fun q hq => k_n _ hq)
       have h8 := yba' (b := b) (t := t) (lk := lk) (mw := mw) (md := md) (mc := mc) (gs := gs ++ [⟨id, ⟨sess, ops, false, !ok1⟩, .slice ka kn kc⟩]) (S := { S with held := ya7' S.held id ops, wait := S.wait ++ [(id, ⟨sess, ops, false, !ok1⟩)] }) (R := yab' w0 ((5, Value.slice ka kn kc, ops.flatMap OpS.cells) :: P5) :: yac' b2 (.cells #[.int .i64 n1, .int .i64 z1, .int .i64 e1, .int .i64 t1, .slice a9 n9 c9] 39 (0, 0)) :: R) (by rw [List.map_append]; exact h7.pm 8 [3, 0, 5, 1, 6, 7, 2, 4] rfl rfl) (by rw [List.map_append, HG.out.1]; rfl) (fun g hg => by
        rcases List.mem_append.1 hg with hg | hg
        ·exact k_n _ (HG.out.2 g hg)
        ·rw [List.mem_singleton] at hg
         rw [hg]
         exact k_s)
       clear HX H9 hrun h6 h7
       have HX := Lib.hid h8
       clear h8
       rename World => w
       cases ok1 with
       | true =>
        obtain rfl : rr = ((0, -1), { S with held := ya7' S.held id ops, wait := S.wait ++ [(id, ⟨sess, ops, false, !true⟩)] }) := HR3.out
        go_wp2_with (first | refine u0 ?_ | (refine uS ?_; clear HX; intro w HX) | (refine uA ?_; clear HX; (first | (have hq := b3; clear hq; intro w b4 HX) | (have hq := b2; clear hq; intro w b3 HX) | (have hq := b; clear hq; intro w b2 HX) | intro w b HX)))
        go_ret2
        exact ⟨_, rfl, fun q hq => k_n _ (HP5.out q hq), HX.out.pm 3 [1, 0] rfl rfl⟩
       | false =>
        obtain rfl : rr = ((e1, t1), { S with held := ya7' S.held id ops, wait := S.wait ++ [(id, ⟨sess, ops, false, !false⟩)] }) := HR3.out
        go_wp2_with (first | refine u0 ?_ | (refine uS ?_; clear HX; intro w HX) | (refine uA ?_; clear HX; (first | (have hq := b3; clear hq; intro w b4 HX) | (have hq := b2; clear hq; intro w b3 HX) | (have hq := b; clear hq; intro w b2 HX) | intro w b HX)))
        refine yaq' (fun W => W = w.drew) 6 (by kernel_rfl) ?_
        replace HX := Lib.hid HX.out.drew
        generalize w.drew = w at HX ⊢
        refine rT [(0, false), (1, true), (2, false), (3, true), (4, false), (5, false)] 0 ?_
        apply Exists.intro; refine ⟨?_, rfl, ?_⟩
        ·iterate 6 (refine xD ?_)
         exact rfl
        refine yaf' (by kernel_rfl) ?_ _
        go_wp2_with (first | refine u0 ?_ | (refine uS ?_; clear HX; intro w HX) | (refine uA ?_; clear HX; (first | (have hq := b3; clear hq; intro w b4 HX) | (have hq := b2; clear hq; intro w b3 HX) | (have hq := b; clear hq; intro w b2 HX) | intro w b HX)))
        go_ret2
        exact ⟨_, rfl, fun q hq => k_n _ (HP5.out q hq), HX.out.pm 3 [1, 0] rfl rfl⟩
      case pos =>
       obtain ⟨g, off, rfl⟩ := HNE.out (by intro e; have := congrArg List.length e; rw [yau' yag'] at this; simp at this; omega)
       obtain ⟨E, hE⟩ := HX.out.poolGet (HP5.out _ HV.out.1)
       have hl := ycs' (P := Tryz.prog) (f := OpS.cells) (i := i) hE yag' sn_op hlt
       have HTK := Lib.hid (show ops.take (i + 1) = ops.take i ++ [ops[i]] from List.take_succ_eq_append_getElem hlt)
       have hgo := HGD.out.2 ops[i] (List.getElem_mem hlt)
       obtain ⟨o, ho⟩ : ∃ o, ops[i] = o := ⟨_, rfl⟩
       rw [ho] at hl HTK hgo
       have hsz := ye3' hgo
       have HGO := Lib.hid hsz
       have q0 : decide (i < ops.length) = true := decide_eq_true hlt
       have q9 : i ≤ 16 := by have := HGD.out.1; omega
       have HWL := Lib.hid (yhj' o (K := 100000) (by show o.path.data.toList.length ≤ _; have := hsz.1; simpa using this) (by omega))
       have HHL := Lib.hid (show ∀ e ∈ ya7' S.held id (ops.take i), e.1.length ≤ 100000 from fun e he => by have := ycc' (ydj' _ HB.out.1.held e he); omega)
       obtain ⟨H1, hH1⟩ : ∃ H1, ya7' S.held id (ops.take i) = H1 := ⟨_, rfl⟩
       rw [hH1] at HX HHL
       have HH1 := Lib.hid hH1
       obtain ⟨kind, path, data, ver, flags⟩ := o
       simp only [OpS.cells] at hl
       clear hE ho hgo hsz hH1
       go_wp2_with (first | refine u0 ?_ | (refine uS ?_; clear HX; intro w HX) | (refine uA ?_; clear HX; (first | (have hq := b3; clear hq; intro w b4 HX) | (have hq := b2; clear hq; intro w b3 HX) | (have hq := b; clear hq; intro w b2 HX) | intro w b HX)) | ((with_reducible apply yaw' hl); (· rfl); (· rfl); simp only [Act.put, k_a, k_b, k_c]))
       obtain ⟨t, lk, mw, md, mc, gs, hgs, hgv, hS⟩ := ybu' HX.out.up2
       have HG := Lib.hid (show _ ∧ _ from ⟨hgs, hgv⟩)
       obtain ⟨R', hR'⟩ : ∃ R', yan' t S.t P5 :: yam' (.int .i64) mw (gs.map WaitG.kv) :: yam' (.int .i64) md (S.decided.map ikv) :: yam' (.int .i64) mc (S.closed.map ikv) :: yac' b2 (.cells #[.int .i64 n1, .int .i64 z1, .int .i64 e1, .int .i64 t1, .slice a9 n9 c9] 39 (0, 0)) :: R = R' := ⟨_, rfl⟩
       have h3 : Sep w0 w (yab' w0 P5 :: ThLk lk H1 :: yac' b (.cells (yak' S.t.room t lk S.zxid mw md mc) 123 (0, 0)) :: yac' b3 (.cells #[.int .i64 kind, .string path, .string data, .int .i64 ver, .int .i64 flags] 89 (0, 0)) :: R') rows := by
        rw [← hR']
        exact hS.pm 9 [7, 2, 0, 6, 1, 3, 4, 5, 8] rfl rfl
       have HRR2 := Lib.hid hR'
       clear HX hl hgs hgv hS hR'
       have HX := Lib.hid h3
       clear h3
       refine rM (fun W => (∃ Ts, Sep w0 W (yac' b (.cells (yak' S.t.room t lk S.zxid mw md mc) 123 (0, 0)) :: yac' b3 (.cells #[.int .i64 kind, .string path, .string data, .int .i64 ver, .int .i64 flags] 89 (0, 0)) :: Ts) rows)) 8 ?_
       intro KEEPX
       replace HX := Lib.hid HX.out.drew
       have hl : ∀ V, (∃ Ts, Sep w0 V (yac' b (.cells (yak' S.t.room t lk S.zxid mw md mc) 123 (0, 0)) :: yac' b3 (.cells #[.int .i64 kind, .string path, .string data, .int .i64 ver, .int .i64 flags] 89 (0, 0)) :: Ts) rows) → (Instr.loadAt 118 (.pointer (some ⟨b, 2, none⟩))).run Tryz.prog V = .ok (.pointer (some ⟨lk, 0, none⟩)) V := by
        rintro V ⟨Ts, hV⟩
        exact yae' (by kernel_rfl) (yaa' hV.blk 2 rfl)
       have hl2 : ∀ V, (∃ Ts, Sep w0 V (yac' b (.cells (yak' S.t.room t lk S.zxid mw md mc) 123 (0, 0)) :: yac' b3 (.cells #[.int .i64 kind, .string path, .string data, .int .i64 ver, .int .i64 flags] 89 (0, 0)) :: Ts) rows) → (Instr.loadAt 89 (.pointer (some ⟨b3, 0, none⟩))).run Tryz.prog V = .ok (.agg #[.int .i64 kind, .string path, .string data, .int .i64 ver, .int .i64 flags]) V := by
        rintro V ⟨Ts, hV⟩
        exact ya4' sn_op.1 hV.up1.blk (Nat.le_refl 5)
       refine rT [(0, false), (1, false), (2, false), (3, true), (4, false), (5, true)] 2 ?_
       apply Exists.intro; refine ⟨?_, ⟨_, HX.out.up3.up3⟩, ?_⟩
       ·iterate 6 (refine xE ?_)
        exact rfl
       clear hl hl2
       refine r1 1 6 fun K hK => ?_
       go_wp2_with fail
       refine (yhh' HX.out hd ⟨kind, path, data, ver, flags⟩ HGO.out.1 HGO.out.2.1 HGO.out.2.2).mono ?_
       rintro e w ⟨vw, rfl, hx⟩
       obtain ⟨wa, wn, wc, rfl, -⟩ := hx.rowLen
       obtain ⟨Q, hQ⟩ : ∃ Q, (1, Value.slice wa wn wc, (yaz' ⟨kind, path, data, ver, flags⟩).map sv) :: P5 = Q := ⟨_, rfl⟩
       have h9 := hx.poolRow
       rw [hQ] at h9
       have HQ := Lib.hid (show (1, Value.slice wa wn wc, (yaz' ⟨kind, path, data, ver, flags⟩).map sv) ∈ Q ∧ ∀ q ∈ P5, q ∈ Q from ⟨by rw [← hQ]; exact k_s, by rw [← hQ]; exact fun q hq => k_n _ hq⟩)
       clear HX hx hQ
       have HX := Lib.hid h9
       clear h9
       go_wp2_with fail
       refine hK _ _ ⟨_, HX.out.up3.up3⟩ ?_
       clear hK
       refine r1 0 7 fun K hK => ?_
       go_wp2_with fail
       refine (yiv' HX.out hd id (yaz' ⟨kind, path, data, ver, flags⟩) _ HQ.out.1 HWL.out HHL.out (yhi' _)).mono ?_
       rintro e w ⟨rfl, hx⟩
       replace HX := Lib.hid hx
       clear hx
       go_wp2_with fail
       refine hK _ _ ⟨_, HX.out.up3.up3⟩ ?_
       clear hK
       refine yaf' (by kernel_rfl) ?_ _
       have h6 := HX.out
       rw [← HRR2.out] at h6
       have h7 := ya1' (P' := Q) h6.up4 HQ.out.2
       have h8 := yba' (b := b) (t := t) (lk := lk) (mw := mw) (md := md) (mc := mc) (gs := gs) (S := { S with held := ydi' H1 id (yaz' ⟨kind, path, data, ver, flags⟩) }) (R := yab' w0 Q :: yac' b2 (.cells #[.int .i64 n1, .int .i64 z1, .int .i64 e1, .int .i64 t1, .slice a9 n9 c9] 39 (0, 0)) :: R) (h7.pm 9 [3, 0, 2, 5, 6, 7, 1, 8] rfl rfl) HG.out.1 (fun g hg => HQ.out.2 _ (HG.out.2 g hg))
       have HNX := Lib.hid (show ya7' S.held id (ops.take (i + 1)) = ydi' H1 id (yaz' ⟨kind, path, data, ver, flags⟩) by rw [HTK.out, ← HH1.out]; unfold ya7'; rw [List.foldl_append]; rfl)
       clear HX h6 h7
       have HX := Lib.hid h8
       clear h8
       go_wp2_with (first | refine u0 ?_ | (refine uS ?_; clear HX; intro w HX) | (refine uA ?_; clear HX; (first | (have hq := b3; clear hq; intro w b4 HX) | (have hq := b2; clear hq; intro w b3 HX) | (have hq := b; clear hq; intro w b2 HX) | intro w b HX)))
       go_roundg (ops.length - (i + 1))
       case rel => exact ⟨i + 1, Q, by omega, by go_num, fun q hq => HQ.out.2 q (HP5.out q hq), by rw [HNX.out]; exact HX.out.pm 3 [1, 0, 2] rfl rfl⟩
       case measure => omega
end
end Go.Proofs.YtcnkifbjlihaoaaGreatDoor

namespace Go.Proofs.YtcnkifbjlihaoaaGreatDoor
open Go.RowKit Go.Av
theorem sn_x7 : StructN Tryz.prog 204 4 := ⟨by kernel_rfl⟩
section
variable {w0 w : World} {b : Nat} {S : ShardS} {P P' : List PRow} {R : List Thing} {rows : List (Value × Bs)}
def CoO (c : Nat) (S : CoS) (L : List Thing) : Prop := ∃ (m : Nat) (gs : List EntG), gs.map EntG.ent = S ∧ (∀ e ∈ S, okE e) ∧ L = yeb' c m (gs.map EntG.kv) ++ gs.flatMap EntG.th
def ThCo (c : Nat) (S : CoS) : Thing := Bun (CoO c S)
theorem ylb' {c : Nat} {S : CoS} (h : Sep w0 w (ThCo c S :: R) rows) : Co w0 w c S R rows := by
 obtain ⟨L, ⟨m, gs, h1, h2, rfl⟩, hS⟩ := h.opens
 rw [List.append_assoc] at hS
 exact ⟨m, gs, h1, h2, hS⟩
theorem yi0' {c : Nat} {S : CoS} (h : Co w0 w c S R rows) : Sep w0 w (ThCo c S :: R) rows := by
 obtain ⟨m, gs, h1, h2, hS⟩ := h
 rw [← List.append_assoc] at hS
 exact Sep.shut (O := CoO c S) ⟨m, gs, h1, h2, rfl⟩ hS
structure KnG where
 b : Bs
 o : OutS
 v1 : Value
 v2 : Value
def KnG.kv (g : KnG) : Value × Value := (sv g.b, .agg (outV g.o g.v1 g.v2))
def KnG.ent (g : KnG) : Bs × OutS := (g.b, g.o)
def ShO (b : Nat) (S : ShardS) (P : List PRow) (L : List Thing) : Prop :=
 ∃ (p c mk : Nat) (gs : List KnG), L = [yac' b (.cells #[.pointer (some ⟨p, 0, none⟩), .pointer (some ⟨c, 0, none⟩), .int .i64 S.played, .map (some mk)] 204 (0, 0)), ybm' p S.p P, ThCo c S.c, yam' .string mk (gs.map KnG.kv)] ∧
  gs.map KnG.ent = S.known ∧ ∀ g ∈ gs, OutIn P g.o g.v1 g.v2
def ybb' (b : Nat) (S : ShardS) (P : List PRow) : Thing := Bun (ShO b S P)
theorem yek' (h : Sep w0 w (ybb' b S P :: R) rows) : ∃ (p c mk : Nat) (gs : List KnG), gs.map KnG.ent = S.known ∧ (∀ g ∈ gs, OutIn P g.o g.v1 g.v2) ∧
  Sep w0 w (yac' b (.cells #[.pointer (some ⟨p, 0, none⟩), .pointer (some ⟨c, 0, none⟩), .int .i64 S.played, .map (some mk)] 204 (0, 0)) :: ybm' p S.p P :: ThCo c S.c :: yam' .string mk (gs.map KnG.kv) :: R) rows := by
 obtain ⟨L, ⟨p, c, mk, gs, rfl, h1, h2⟩, hS⟩ := h.opens
 exact ⟨p, c, mk, gs, h1, h2, hS⟩
theorem yfm' {p c mk : Nat} {gs : List KnG} (h : Sep w0 w (yac' b (.cells #[.pointer (some ⟨p, 0, none⟩), .pointer (some ⟨c, 0, none⟩), .int .i64 S.played, .map (some mk)] 204 (0, 0)) :: ybm' p S.p P :: ThCo c S.c :: yam' .string mk (gs.map KnG.kv) :: R) rows)
  (h1 : gs.map KnG.ent = S.known) (h2 : ∀ g ∈ gs, OutIn P g.o g.v1 g.v2) : Sep w0 w (ybb' b S P :: R) rows :=
 Sep.shut (O := ShO b S P) ⟨p, c, mk, gs, rfl, h1, h2⟩ h
theorem yhz' (h : Sep w0 w (ybb' b S P :: R) rows) (hP : ∀ r ∈ P, r ∈ P') : Sep w0 w (ybb' b S P' :: R) rows := by
 obtain ⟨p, c, mk, gs, h1, h2, hS⟩ := yek' h
 exact yfm' (yc9' hS.up1 hP).up1 h1 (fun g hg => (h2 g hg).mono hP)
def DoS (w0 : World) (b : Nat) (cs : Array Value) (b2 : Nat) (cs2 : Array Value) (rows : List (Value × Bs)) (W : World) : Prop := ∃ Ts, Sep w0 W (yac' b (.cells cs 204 (0, 0)) :: yac' b2 (.cells cs2 70 (0, 0)) :: Ts) rows
theorem DoS.of {cs cs2 : Array Value} {b2 : Nat} (h : Sep w0 w (yac' b (.cells cs 204 (0, 0)) :: yac' b2 (.cells cs2 70 (0, 0)) :: R) rows) : DoS w0 b cs b2 cs2 rows w := ⟨R, h⟩
theorem DoS.l1 {cs cs2 : Array Value} {b2 : Nat} (h : DoS w0 b cs b2 cs2 rows w) {ty : TypeId} (i : Nat) {v : Value} (hs : yd4' Tryz.prog ty = true) (hv : cs[i]? = some v) : (Instr.loadAt ty (.pointer (some ⟨b, i, none⟩))).run Tryz.prog w = .ok v w := by
 obtain ⟨Ts, hV⟩ := h
 exact yae' hs (yaa' hV.blk i hv)
theorem DoS.l2 {cs cs2 : Array Value} {b2 : Nat} (h : DoS w0 b cs b2 cs2 rows w) {ty : TypeId} (i : Nat) {v : Value} (hs : yd4' Tryz.prog ty = true) (hv : cs2[i]? = some v) : (Instr.loadAt ty (.pointer (some ⟨b2, i, none⟩))).run Tryz.prog w = .ok v w := by
 obtain ⟨Ts, hV⟩ := h
 exact yae' hs (yaa' hV.up1.blk i hv)
theorem DoS.l3 {cs cs2 : Array Value} {b2 : Nat} (h : DoS w0 b cs b2 cs2 rows w) (hn : 6 ≤ cs2.size) : (Instr.loadAt 42 (.pointer (some ⟨b2, 3, none⟩))).run Tryz.prog w = .ok (.agg ((cs2.toList.drop 3).take 3).toArray) w := by
 obtain ⟨Ts, hV⟩ := h
 exact ya4' (i := 3) sn_req.1 hV.up1.blk hn
def yr3' (w0 : World) (b : Nat) (P : List PRow) (R : List Thing) (rows : List (Value × Bs)) (m : OutS × ShardS) (e : Ending) (w' : World) : Prop :=
 ∃ v1 v2 P', e = .returned (.agg (outV m.1 v1 v2)) ∧ (∀ q ∈ P, q ∈ P') ∧ OutIn P' m.1 v1 v2 ∧ Sep w0 w' (yab' w0 P' :: ybb' b m.2 P' :: R) rows
theorem yqj' : RsIn ((11, .slice none 0 0, []) :: P) [] (.slice none 0 0) := ⟨[], .nil, k_s⟩
theorem yi4' {p c mk : Nat} {gs : List KnG} {o : OutS} (hr : o.reply.rs = []) (hr2 : o.rs = []) (hP : ∀ q ∈ P, q ∈ P') (h1 : gs.map KnG.ent = S.known) (h2 : ∀ g ∈ gs, OutIn P g.o g.v1 g.v2)
  (h : Sep w0 w (yab' w0 P' :: yac' b (.cells #[.pointer (some ⟨p, 0, none⟩), .pointer (some ⟨c, 0, none⟩), .int .i64 S.played, .map (some mk)] 204 (0, 0)) :: ybm' p S.p P' :: ThCo c S.c :: yam' .string mk (gs.map KnG.kv) :: R) rows) :
  yr3' w0 b P R rows (o, S) (.returned (.agg (outV o (.slice none 0 0) (.slice none 0 0)))) w := by
 have h3 := (h.poolNil 11).up1
 have hq : ∀ q ∈ P', q ∈ (11, Value.slice none 0 0, []) :: P' := fun q hq => k_n _ hq
 have h4 := yc9' h3.up2 hq
 refine ⟨_, _, _, rfl, fun q hh => hq q (hP q hh), ⟨by show RsIn _ o.reply.rs _; rw [hr]; exact yqj', by show RsIn _ o.rs _; rw [hr2]; exact yqj'⟩, ?_⟩
 exact (yfm' (b := b) (S := S) (p := p) (c := c) (mk := mk) (gs := gs) (R := yab' w0 ((11, Value.slice none 0 0, []) :: P') :: R) (h4.pm 5 [1, 0, 3, 4, 2] rfl rfl) h1 (fun g hg => (h2 g hg).mono (fun q hh => hq q (hP q hh)))).up1
set_option maxRecDepth 100000 in
theorem yew' (h : Sep w0 w (yab' w0 P :: R) rows) (room : Int) (h1 : 1 ≤ room) (h2 : room ≤ 500) :
  Calls Tryz.prog 46 #[.int .i64 room] w fun e w' => ∃ b, e = .returned (.tuple #[.pointer (some ⟨b, 0, none⟩), .int .i64 0]) ∧ Sep w0 w' (yab' w0 P :: ybb' b (ycy' room) P :: R) rows := by
 have HX := Lib.hid h
 clear h
 go_enter Tryz.func46, Tryz.ntmps46
 go_wp2_with (first | refine u0 ?_ | (refine uS ?_; clear HX; intro w HX) | (refine uA ?_; clear HX; (first | (have hq := b; clear hq; intro w b2 HX) | intro w b HX)) | (refine uN ?_; clear HX; intro w mm HX))
 refine (yo3' HX.out room h1 h2).mono ?_
 rintro e w ⟨p, rfl, hx⟩
 replace HX := Lib.hid hx
 clear hx
 go_wp2_with (first | refine u0 ?_ | (refine uS ?_; clear HX; intro w HX) | (refine uA ?_; clear HX; (first | (have hq := b; clear hq; intro w b2 HX) | intro w b HX)) | (refine uN ?_; clear HX; intro w mm HX))
 refine (ytp' HX.out).mono ?_
 rintro e w ⟨c, rfl, hx⟩
 have hx := yi0' hx
 replace HX := Lib.hid hx
 clear hx
 go_wp2_with (first | refine u0 ?_ | (refine uS ?_; clear HX; intro w HX) | (refine uA ?_; clear HX; (first | (have hq := b; clear hq; intro w b2 HX) | intro w b HX)) | (refine uN ?_; clear HX; intro w mm HX))
 go_ret2
 refine ⟨_, rfl, ?_⟩
 exact (yfm' (b := b) (S := ycy' room) (p := p) (c := c) (mk := mm) (gs := []) (R := yab' w0 P :: R) (HX.out.pm 5 [0, 4, 2, 1, 3] rfl rfl) rfl (by simp)).up1
set_option maxRecDepth 100000 in
set_option maxHeartbeats 16000000 in
theorem yww' {K : Nat} (h : Sep w0 w (yab' w0 P :: ybb' b S P :: R) rows) (hd : DoorN w0) (hB : PartC K S.p) (hK : K ≤ 100) (c : CmdS) (vo vs : Value) (hvo : (5, vo, c.ops.flatMap OpS.cells) ∈ P) (hvs : (1, vs, c.shards.map ivn) ∈ P) (hp : ∀ o ∈ c.ops, o.path.size ≤ 100000) (hk : 1 ≤ c.kind ∧ c.kind ≤ 8) (hid : c.id ≤ 9223372036854775807) :
  Calls Tryz.prog 170 #[.pointer (some ⟨b, 0, none⟩), .agg (cmdV c vo vs)] w (yr3' w0 b P R rows (doC S c)) := by
 obtain ⟨oa, on, oc, rfl⟩ := yah' h hvo
 obtain ⟨sa, sn, sc, rfl⟩ := yah' h hvs
 obtain ⟨p, c2, mk, gs, hgs, hgo, hS⟩ := yek' h.up1
 have HG := Lib.hid (show _ ∧ _ from ⟨hgs, hgo⟩)
 have HV := Lib.hid (show _ ∧ _ ∧ _ ∧ _ from ⟨hvo, hvs, hp, hid⟩)
 have HB := Lib.hid (show _ ∧ _ from ⟨hB, hK⟩)
 have HX := Lib.hid hS
 obtain ⟨k0, id, sess, rs, rn, ops, shards, shard, yes⟩ := c
 have HK := Lib.hid hk
 obtain ⟨rr, hrr⟩ : ∃ rr, doC S ⟨k0, id, sess, rs, rn, ops, shards, shard, yes⟩ = rr := ⟨_, rfl⟩
 rw [hrr]
 have HRR := Lib.hid hrr
 clear h hS hgs hgo hvo hvs hp hid hB hK hk hrr
 dsimp only at HV HK
 unfold cmdV
 dsimp only
 go_enter Tryz.func170, Tryz.ntmps170
 by_cases g1 : k0 = 1
 ·subst g1
  go_wp2_with (first | refine u0 ?_ | (refine uS ?_; clear HX; intro w HX) | (refine uA ?_; clear HX; (first | (have hq := b2; clear hq; intro w b3 HX) | (have hq := b; clear hq; intro w b2 HX) | intro w b HX)))
  refine rM (fun W => DoS w0 b #[.pointer (some ⟨p, 0, none⟩), .pointer (some ⟨c2, 0, none⟩), .int .i64 S.played, .map (some mk)] b2 #[.int .i64 1, .int .i64 id, .int .i64 sess, .int .i64 rs, .int .i64 rn, .slice oa on oc, .slice sa sn sc, .int .i64 shard, .bool yes] rows W) 7 ?_
  intro KEEPX
  replace HX := Lib.hid HX.out.drew
  have hl := fun V (hV : DoS w0 b #[.pointer (some ⟨p, 0, none⟩), .pointer (some ⟨c2, 0, none⟩), .int .i64 S.played, .map (some mk)] b2 #[.int .i64 1, .int .i64 id, .int .i64 sess, .int .i64 rs, .int .i64 rn, .slice oa on oc, .slice sa sn sc, .int .i64 shard, .bool yes] rows V) => hV.l1 (ty := 24) 0 (by kernel_rfl) rfl
  have hl2 := fun V (hV : DoS w0 b #[.pointer (some ⟨p, 0, none⟩), .pointer (some ⟨c2, 0, none⟩), .int .i64 S.played, .map (some mk)] b2 #[.int .i64 1, .int .i64 id, .int .i64 sess, .int .i64 rs, .int .i64 rn, .slice oa on oc, .slice sa sn sc, .int .i64 shard, .bool yes] rows V) => hV.l3 (by simp)
  simp only [k_e, k_d, k_f, k_g, k_h] at hl2
  refine rT [(0, false), (1, false), (2, false), (3, true), (4, false), (5, true)] 3 ?_
  apply Exists.intro; refine ⟨?_, (DoS.of HX.out.up2.up3), ?_⟩
  ·iterate 6 (refine xE ?_)
   exact rfl
  clear hl hl2
  refine r1 2 6 fun K hK => ?_
  go_wp2_with fail
  obtain ⟨⟨⟨n1, z1, e1, t1, rs1⟩, S2⟩, hm1⟩ : ∃ m1, ybg' S.p rs rn ops = m1 := ⟨_, rfl⟩
  have hm := ytd' HX.out.up4.up7 hd HB.out.1.b (by have := HB.out.2; omega) rs rn ops _ HV.out.1 HV.out.2.2.1
  rw [hm1] at hm
  refine hm.mono ?_
  obtain rfl : rr = (⟨1, id, ⟨n1, z1, e1, t1, rs1⟩, 0, 0, [], false⟩, { S with p := S2 }) := by rw [← HRR.out]; unfold doC; dsimp only; rw [if_pos rfl, hm1]
  clear hm hm1
  rintro e w ⟨_, P2, rfl, hP2, ⟨a1, n2, c1, xs1, rfl, hr1, hmem1⟩, hx⟩
  dsimp only at hx hr1 ⊢
  have HP1 := Lib.hid hP2
  have HQ := Lib.hid (show _ ∧ _ from ⟨hr1, hmem1⟩)
  clear hP2 hr1 hmem1
  replace HX := Lib.hid hx
  clear hx
  go_wp2_with fail
  refine hK _ _ (DoS.of HX.out.up4.up5) ?_
  clear hK
  refine rL [7, 8] 0 ?_
  simp only [List.filterMap_cons, List.filterMap_nil, k_i, k_j, k_k]
  go_step
  rename_i xk
  refine xk _ _ ?_
  clear xk
  refine tWS ?_
  clear HX
  intro w HX
  simp only [Act.put, k_a, k_b, k_c, yb6', Nat.reduceAdd] at HX ⊢
  go_wp2_with (first | refine u0 ?_ | (refine uS ?_; clear HX; intro w HX) | (refine uA ?_; clear HX; (first | (have hq := b2; clear hq; intro w b3 HX) | (have hq := b; clear hq; intro w b2 HX) | intro w b HX)))
  refine ybe' HX rfl rfl (by (repeat (first | (with_reducible exact k_s) | (with_reducible apply k_m)))) (by kernel_rfl) ?_
  have h3 := (HX.out.cut2.cut2.cut2.poolNil 11).up1
  have hq : ∀ q ∈ P2, q ∈ (11, Value.slice none 0 0, []) :: P2 := fun q hq => k_n _ hq
  have h4 := yc9' h3 hq
  refine ⟨_, _, _, rfl, fun q hh => hq q (HP1.out q hh), ⟨⟨xs1, HQ.out.1.mono hq, hq _ HQ.out.2⟩, yqj'⟩, ?_⟩
  exact (yfm' (b := b) (S := { S with p := S2 }) (p := p) (c := c2) (mk := mk) (gs := gs) (R := yab' w0 ((11, Value.slice none 0 0, []) :: P2) :: R) (h4.pm 5 [2, 0, 3, 4, 1] rfl rfl) HG.out.1 (fun g hg => (HG.out.2 g hg).mono (fun q hh => hq q (HP1.out q hh)))).up1
 by_cases g2 : k0 = 2
 ·subst g2
  go_wp2_with (first | refine u0 ?_ | (refine uS ?_; clear HX; intro w HX) | (refine uA ?_; clear HX; (first | (have hq := b2; clear hq; intro w b3 HX) | (have hq := b; clear hq; intro w b2 HX) | intro w b HX)))
  refine rM (fun W => DoS w0 b #[.pointer (some ⟨p, 0, none⟩), .pointer (some ⟨c2, 0, none⟩), .int .i64 S.played, .map (some mk)] b2 #[.int .i64 2, .int .i64 id, .int .i64 sess, .int .i64 rs, .int .i64 rn, .slice oa on oc, .slice sa sn sc, .int .i64 shard, .bool yes] rows W) 15 ?_
  intro KEEPX
  replace HX := Lib.hid HX.out.drew
  have hl := fun V (hV : DoS w0 b #[.pointer (some ⟨p, 0, none⟩), .pointer (some ⟨c2, 0, none⟩), .int .i64 S.played, .map (some mk)] b2 #[.int .i64 2, .int .i64 id, .int .i64 sess, .int .i64 rs, .int .i64 rn, .slice oa on oc, .slice sa sn sc, .int .i64 shard, .bool yes] rows V) => hV.l1 (ty := 24) 0 (by kernel_rfl) rfl
  have hl2 := fun V (hV : DoS w0 b #[.pointer (some ⟨p, 0, none⟩), .pointer (some ⟨c2, 0, none⟩), .int .i64 S.played, .map (some mk)] b2 #[.int .i64 2, .int .i64 id, .int .i64 sess, .int .i64 rs, .int .i64 rn, .slice oa on oc, .slice sa sn sc, .int .i64 shard, .bool yes] rows V) => hV.l2 (ty := 2) 1 (by kernel_rfl) rfl
  have hl3 := fun V (hV : DoS w0 b #[.pointer (some ⟨p, 0, none⟩), .pointer (some ⟨c2, 0, none⟩), .int .i64 S.played, .map (some mk)] b2 #[.int .i64 2, .int .i64 id, .int .i64 sess, .int .i64 rs, .int .i64 rn, .slice oa on oc, .slice sa sn sc, .int .i64 shard, .bool yes] rows V) => hV.l2 (ty := 2) 2 (by kernel_rfl) rfl
  have hl4 := fun V (hV : DoS w0 b #[.pointer (some ⟨p, 0, none⟩), .pointer (some ⟨c2, 0, none⟩), .int .i64 S.played, .map (some mk)] b2 #[.int .i64 2, .int .i64 id, .int .i64 sess, .int .i64 rs, .int .i64 rn, .slice oa on oc, .slice sa sn sc, .int .i64 shard, .bool yes] rows V) => hV.l2 (ty := 30) 5 (by kernel_rfl) rfl
  refine rT [(0, false), (1, false), (2, false), (3, true), (4, false), (5, true), (6, false), (7, true), (8, false), (9, false), (10, true)] 8 ?_
  apply Exists.intro; refine ⟨?_, (DoS.of HX.out.up2.up3), ?_⟩
  ·iterate 11 (refine xE ?_)
   exact rfl
  clear hl hl2 hl3 hl4
  refine r1 7 11 fun K hK => ?_
  go_wp2_with fail
  obtain ⟨⟨⟨e1, t1⟩, S2⟩, hm1⟩ : ∃ m1, ydf' S.p id sess ops = m1 := ⟨_, rfl⟩
  have hm := ywh' HX.out.up4.up7 hd HB.out.1.b (by have := HB.out.2; omega) id sess ops _ HV.out.1 HV.out.2.2.1
  rw [hm1] at hm
  refine hm.mono ?_
  obtain rfl : rr = (⟨2, id, ye1', e1, t1, [], false⟩, { S with p := S2 }) := by rw [← HRR.out]; unfold doC; dsimp only; rw [if_neg (by decide), if_pos rfl, hm1]
  clear hm hm1
  rintro e w ⟨P2, rfl, hP2, hx⟩
  dsimp only at hx ⊢
  have HP1 := Lib.hid hP2
  clear hP2
  replace HX := Lib.hid hx
  clear hx
  go_wp2_with fail
  refine hK _ _ (DoS.of HX.out.up4.up5) ?_
  clear hK
  refine rT [(12, false), (13, false), (14, false)] 4 ?_
  apply Exists.intro; refine ⟨?_, (DoS.of HX.out.up4.up5), ?_⟩
  ·iterate 3 (refine xE ?_)
   exact rfl
  refine rL [15, 16, 17, 18] 0 ?_
  simp only [List.filterMap_cons, List.filterMap_nil, k_i, k_j, k_k]
  go_step
  rename_i xk
  refine xk _ _ ?_
  clear xk
  refine tWT ?_
  clear HX
  intro w HX
  simp only [Act.put, k_a, k_b, k_c] at HX ⊢
  go_step
  rename_i xk
  refine xk _ _ ?_
  clear xk
  refine tWT ?_
  clear HX
  intro w HX
  simp only [Act.put, k_a, k_b, k_c] at HX ⊢
  go_wp2_with (first | refine u0 ?_ | (refine uS ?_; clear HX; intro w HX) | (refine uA ?_; clear HX; (first | (have hq := b2; clear hq; intro w b3 HX) | (have hq := b; clear hq; intro w b2 HX) | intro w b HX)))
  refine ybe' HX rfl rfl (by (repeat (first | (with_reducible exact k_s) | (with_reducible apply k_m)))) (by kernel_rfl) ?_
  exact yi4' (p := p) (c := c2) (mk := mk) (gs := gs) (S := { S with p := S2 }) rfl rfl HP1.out HG.out.1 HG.out.2 (HX.out.cut2.cut2.cut2.pm 5 [0, 2, 1, 3, 4] rfl rfl)
 by_cases g3 : k0 = 3
 ·subst g3
  go_wp2_with (first | refine u0 ?_ | (refine uS ?_; clear HX; intro w HX) | (refine uA ?_; clear HX; (first | (have hq := b2; clear hq; intro w b3 HX) | (have hq := b; clear hq; intro w b2 HX) | intro w b HX)))
  refine rM (fun W => DoS w0 b #[.pointer (some ⟨p, 0, none⟩), .pointer (some ⟨c2, 0, none⟩), .int .i64 S.played, .map (some mk)] b2 #[.int .i64 3, .int .i64 id, .int .i64 sess, .int .i64 rs, .int .i64 rn, .slice oa on oc, .slice sa sn sc, .int .i64 shard, .bool yes] rows W) 12 ?_
  intro KEEPX
  replace HX := Lib.hid HX.out.drew
  have hl := fun V (hV : DoS w0 b #[.pointer (some ⟨p, 0, none⟩), .pointer (some ⟨c2, 0, none⟩), .int .i64 S.played, .map (some mk)] b2 #[.int .i64 3, .int .i64 id, .int .i64 sess, .int .i64 rs, .int .i64 rn, .slice oa on oc, .slice sa sn sc, .int .i64 shard, .bool yes] rows V) => hV.l1 (ty := 24) 0 (by kernel_rfl) rfl
  have hl2 := fun V (hV : DoS w0 b #[.pointer (some ⟨p, 0, none⟩), .pointer (some ⟨c2, 0, none⟩), .int .i64 S.played, .map (some mk)] b2 #[.int .i64 3, .int .i64 id, .int .i64 sess, .int .i64 rs, .int .i64 rn, .slice oa on oc, .slice sa sn sc, .int .i64 shard, .bool yes] rows V) => hV.l2 (ty := 2) 1 (by kernel_rfl) rfl
  have hl3 := fun V (hV : DoS w0 b #[.pointer (some ⟨p, 0, none⟩), .pointer (some ⟨c2, 0, none⟩), .int .i64 S.played, .map (some mk)] b2 #[.int .i64 3, .int .i64 id, .int .i64 sess, .int .i64 rs, .int .i64 rn, .slice oa on oc, .slice sa sn sc, .int .i64 shard, .bool yes] rows V) => hV.l2 (ty := 2) 2 (by kernel_rfl) rfl
  refine rT [(0, false), (1, false), (2, false), (3, true), (4, false), (5, true), (6, false), (7, true)] 8 ?_
  apply Exists.intro; refine ⟨?_, (DoS.of HX.out.up2.up3), ?_⟩
  ·iterate 8 (refine xE ?_)
   exact rfl
  clear hl hl2 hl3
  refine r1 7 8 fun K hK => ?_
  go_wp2_with fail
  obtain ⟨⟨e1, S2⟩, hm1⟩ : ∃ m1, ycl' S.p id sess = m1 := ⟨_, rfl⟩
  have hm := ysl' HX.out.up4.up7 hd HB.out.1.b (by have := HB.out.2; omega) id sess
  rw [hm1] at hm
  refine hm.mono ?_
  obtain rfl : rr = (⟨3, id, ye1', e1, -1, [], false⟩, { S with p := S2 }) := by rw [← HRR.out]; unfold doC; dsimp only; rw [if_neg (by decide), if_neg (by decide), if_pos rfl, hm1]
  clear hm hm1
  rintro e w ⟨P2, rfl, hP2, hx⟩
  dsimp only at hx ⊢
  have HP1 := Lib.hid hP2
  clear hP2
  replace HX := Lib.hid hx
  clear hx
  go_wp2_with fail
  refine hK _ _ (DoS.of HX.out.up4.up5) ?_
  clear hK
  refine rT [(9, false), (10, false), (11, false)] 4 ?_
  apply Exists.intro; refine ⟨?_, (DoS.of HX.out.up4.up5), ?_⟩
  ·iterate 3 (refine xE ?_)
   exact rfl
  refine rL [12, 13, 14, 15] 0 ?_
  simp only [List.filterMap_cons, List.filterMap_nil, k_i, k_j, k_k]
  go_step
  rename_i xk
  refine xk _ _ ?_
  clear xk
  refine tWT ?_
  clear HX
  intro w HX
  simp only [Act.put, k_a, k_b, k_c] at HX ⊢
  go_step
  rename_i xk
  refine xk _ _ ?_
  clear xk
  refine tWT ?_
  clear HX
  intro w HX
  simp only [Act.put, k_a, k_b, k_c] at HX ⊢
  go_wp2_with (first | refine u0 ?_ | (refine uS ?_; clear HX; intro w HX) | (refine uA ?_; clear HX; (first | (have hq := b2; clear hq; intro w b3 HX) | (have hq := b; clear hq; intro w b2 HX) | intro w b HX)))
  refine ybe' HX rfl rfl (by (repeat (first | (with_reducible exact k_s) | (with_reducible apply k_m)))) (by kernel_rfl) ?_
  exact yi4' (p := p) (c := c2) (mk := mk) (gs := gs) (S := { S with p := S2 }) rfl rfl HP1.out HG.out.1 HG.out.2 (HX.out.cut2.cut2.cut2.pm 5 [0, 2, 1, 3, 4] rfl rfl)
 by_cases g4 : k0 = 4
 ·subst g4
  go_wp2_with (first | refine u0 ?_ | (refine uS ?_; clear HX; intro w HX) | (refine uA ?_; clear HX; (first | (have hq := b2; clear hq; intro w b3 HX) | (have hq := b; clear hq; intro w b2 HX) | intro w b HX)))
  refine rM (fun W => DoS w0 b #[.pointer (some ⟨p, 0, none⟩), .pointer (some ⟨c2, 0, none⟩), .int .i64 S.played, .map (some mk)] b2 #[.int .i64 4, .int .i64 id, .int .i64 sess, .int .i64 rs, .int .i64 rn, .slice oa on oc, .slice sa sn sc, .int .i64 shard, .bool yes] rows W) 12 ?_
  intro KEEPX
  replace HX := Lib.hid HX.out.drew
  have hl := fun V (hV : DoS w0 b #[.pointer (some ⟨p, 0, none⟩), .pointer (some ⟨c2, 0, none⟩), .int .i64 S.played, .map (some mk)] b2 #[.int .i64 4, .int .i64 id, .int .i64 sess, .int .i64 rs, .int .i64 rn, .slice oa on oc, .slice sa sn sc, .int .i64 shard, .bool yes] rows V) => hV.l1 (ty := 24) 0 (by kernel_rfl) rfl
  have hl2 := fun V (hV : DoS w0 b #[.pointer (some ⟨p, 0, none⟩), .pointer (some ⟨c2, 0, none⟩), .int .i64 S.played, .map (some mk)] b2 #[.int .i64 4, .int .i64 id, .int .i64 sess, .int .i64 rs, .int .i64 rn, .slice oa on oc, .slice sa sn sc, .int .i64 shard, .bool yes] rows V) => hV.l2 (ty := 2) 1 (by kernel_rfl) rfl
  have hl3 := fun V (hV : DoS w0 b #[.pointer (some ⟨p, 0, none⟩), .pointer (some ⟨c2, 0, none⟩), .int .i64 S.played, .map (some mk)] b2 #[.int .i64 4, .int .i64 id, .int .i64 sess, .int .i64 rs, .int .i64 rn, .slice oa on oc, .slice sa sn sc, .int .i64 shard, .bool yes] rows V) => hV.l2 (ty := 4) 8 (by kernel_rfl) rfl
  refine rT [(0, false), (1, false), (2, false), (3, true), (4, false), (5, true), (6, false), (7, true)] 8 ?_
  apply Exists.intro; refine ⟨?_, (DoS.of HX.out.up2.up3), ?_⟩
  ·iterate 8 (refine xE ?_)
   exact rfl
  clear hl hl2 hl3
  refine r1 7 8 fun K hK => ?_
  go_wp2_with fail
  obtain ⟨⟨⟨rs1, e1⟩, S2⟩, hm1⟩ : ∃ m1, ya9' S.p id yes = m1 := ⟨_, rfl⟩
  have hm := yq4' HX.out.up4.up7 hd HB.out.1.b (by have := HB.out.1.len; have := HB.out.2; omega) (by have := HB.out.2; omega) id yes
  rw [hm1] at hm
  refine hm.mono ?_
  obtain rfl : rr = (⟨4, id, ye1', e1, 0, rs1, false⟩, { S with p := S2 }) := by rw [← HRR.out]; unfold doC; dsimp only; rw [if_neg (by decide), if_neg (by decide), if_neg (by decide), if_pos rfl, hm1]
  clear hm hm1
  rintro e w ⟨P2, a1, n1, c1, xs1, rfl, hP2, hr1, hmem1, hx⟩
  dsimp only at hx hr1 ⊢
  have HP1 := Lib.hid hP2
  have HQ := Lib.hid (show _ ∧ _ from ⟨hr1, hmem1⟩)
  clear hP2 hr1 hmem1
  replace HX := Lib.hid hx
  clear hx
  go_wp2_with fail
  refine hK _ _ (DoS.of HX.out.up4.up5) ?_
  clear hK
  refine rT [(9, false), (10, false), (11, false)] 4 ?_
  apply Exists.intro; refine ⟨?_, (DoS.of HX.out.up4.up5), ?_⟩
  ·iterate 3 (refine xE ?_)
   exact rfl
  refine rL [12, 13, 14, 15] 0 ?_
  simp only [List.filterMap_cons, List.filterMap_nil, k_i, k_j, k_k]
  go_step
  rename_i xk
  refine xk _ _ ?_
  clear xk
  refine tWT ?_
  clear HX
  intro w HX
  simp only [Act.put, k_a, k_b, k_c] at HX ⊢
  go_step
  rename_i xk
  refine xk _ _ ?_
  clear xk
  refine tWT ?_
  clear HX
  intro w HX
  simp only [Act.put, k_a, k_b, k_c] at HX ⊢
  go_wp2_with (first | refine u0 ?_ | (refine uS ?_; clear HX; intro w HX) | (refine uA ?_; clear HX; (first | (have hq := b2; clear hq; intro w b3 HX) | (have hq := b; clear hq; intro w b2 HX) | intro w b HX)))
  refine ybe' HX rfl rfl (by (repeat (first | (with_reducible exact k_s) | (with_reducible apply k_m)))) (by kernel_rfl) ?_
  have h3 := (HX.out.cut2.cut2.cut2.poolNil 11).up1
  have hq : ∀ q ∈ P2, q ∈ (11, Value.slice none 0 0, []) :: P2 := fun q hq => k_n _ hq
  have h4 := yc9' h3 hq
  refine ⟨_, _, _, rfl, fun q hh => hq q (HP1.out q hh), ⟨yqj', ⟨xs1, HQ.out.1.mono hq, hq _ HQ.out.2⟩⟩, ?_⟩
  exact (yfm' (b := b) (S := { S with p := S2 }) (p := p) (c := c2) (mk := mk) (gs := gs) (R := yab' w0 ((11, Value.slice none 0 0, []) :: P2) :: R) (h4.pm 5 [2, 0, 3, 4, 1] rfl rfl) HG.out.1 (fun g hg => (HG.out.2 g hg).mono (fun q hh => hq q (HP1.out q hh)))).up1
 by_cases g5 : k0 = 5
 ·subst g5
  go_wp2_with (first | refine u0 ?_ | (refine uS ?_; clear HX; intro w HX) | (refine uA ?_; clear HX; (first | (have hq := b2; clear hq; intro w b3 HX) | (have hq := b; clear hq; intro w b2 HX) | intro w b HX)))
  refine rM (fun W => DoS w0 b #[.pointer (some ⟨p, 0, none⟩), .pointer (some ⟨c2, 0, none⟩), .int .i64 S.played, .map (some mk)] b2 #[.int .i64 5, .int .i64 id, .int .i64 sess, .int .i64 rs, .int .i64 rn, .slice oa on oc, .slice sa sn sc, .int .i64 shard, .bool yes] rows W) 9 ?_
  intro KEEPX
  replace HX := Lib.hid HX.out.drew
  have hl := fun V (hV : DoS w0 b #[.pointer (some ⟨p, 0, none⟩), .pointer (some ⟨c2, 0, none⟩), .int .i64 S.played, .map (some mk)] b2 #[.int .i64 5, .int .i64 id, .int .i64 sess, .int .i64 rs, .int .i64 rn, .slice oa on oc, .slice sa sn sc, .int .i64 shard, .bool yes] rows V) => hV.l1 (ty := 106) 1 (by kernel_rfl) rfl
  have hl2 := fun V (hV : DoS w0 b #[.pointer (some ⟨p, 0, none⟩), .pointer (some ⟨c2, 0, none⟩), .int .i64 S.played, .map (some mk)] b2 #[.int .i64 5, .int .i64 id, .int .i64 sess, .int .i64 rs, .int .i64 rn, .slice oa on oc, .slice sa sn sc, .int .i64 shard, .bool yes] rows V) => hV.l2 (ty := 2) 1 (by kernel_rfl) rfl
  have hl3 := fun V (hV : DoS w0 b #[.pointer (some ⟨p, 0, none⟩), .pointer (some ⟨c2, 0, none⟩), .int .i64 S.played, .map (some mk)] b2 #[.int .i64 5, .int .i64 id, .int .i64 sess, .int .i64 rs, .int .i64 rn, .slice oa on oc, .slice sa sn sc, .int .i64 shard, .bool yes] rows V) => hV.l2 (ty := 68) 6 (by kernel_rfl) rfl
  refine rT [(0, false), (1, false), (2, false), (3, true), (4, false), (5, true), (6, false), (7, true)] 3 ?_
  apply Exists.intro; refine ⟨?_, (DoS.of HX.out.up2.up3), ?_⟩
  ·iterate 8 (refine xE ?_)
   exact rfl
  clear hl hl2 hl3
  refine r1 2 8 fun K hK => ?_
  go_wp2_with fail
  obtain ⟨⟨e1, S2⟩, hm1⟩ : ∃ m1, yic' S.c id shards = m1 := ⟨_, rfl⟩
  obtain ⟨E, hE⟩ := HX.out.up7.poolGet HV.out.2.1
  have hm := ysd' (ylb' HX.out.up5) id _ shards E HV.out.2.2.2 hE
  rw [hm1] at hm
  refine hm.mono ?_
  obtain rfl : rr = (⟨5, id, ye1', e1, 0, [], false⟩, { S with c := S2 }) := by rw [← HRR.out]; unfold doC; dsimp only; rw [if_neg (by decide), if_neg (by decide), if_neg (by decide), if_neg (by decide), if_pos rfl, hm1]
  clear hm hm1 hE
  rintro e w ⟨rfl, hx⟩
  have hx := yi0' hx
  dsimp only at hx ⊢
  replace HX := Lib.hid hx
  clear hx
  go_wp2_with fail
  refine hK _ _ (DoS.of HX.out.up3.up4) ?_
  clear hK
  refine rL [9, 10] 0 ?_
  simp only [List.filterMap_cons, List.filterMap_nil, k_i, k_j, k_k]
  go_step
  rename_i xk
  refine xk _ _ ?_
  clear xk
  refine tWT ?_
  clear HX
  intro w HX
  simp only [Act.put, k_a, k_b, k_c] at HX ⊢
  go_wp2_with (first | refine u0 ?_ | (refine uS ?_; clear HX; intro w HX) | (refine uA ?_; clear HX; (first | (have hq := b2; clear hq; intro w b3 HX) | (have hq := b; clear hq; intro w b2 HX) | intro w b HX)))
  refine ybe' HX rfl rfl (by (repeat (first | (with_reducible exact k_s) | (with_reducible apply k_m)))) (by kernel_rfl) ?_
  exact yi4' (p := p) (c := c2) (mk := mk) (gs := gs) (S := { S with c := S2 }) rfl rfl (fun q hq => hq) HG.out.1 HG.out.2 (HX.out.cut1.cut1.cut1.pm 5 [4, 1, 2, 0, 3] rfl rfl)
 by_cases g6 : k0 = 6
 ·subst g6
  go_wp2_with (first | refine u0 ?_ | (refine uS ?_; clear HX; intro w HX) | (refine uA ?_; clear HX; (first | (have hq := b2; clear hq; intro w b3 HX) | (have hq := b; clear hq; intro w b2 HX) | intro w b HX)))
  refine rM (fun W => DoS w0 b #[.pointer (some ⟨p, 0, none⟩), .pointer (some ⟨c2, 0, none⟩), .int .i64 S.played, .map (some mk)] b2 #[.int .i64 6, .int .i64 id, .int .i64 sess, .int .i64 rs, .int .i64 rn, .slice oa on oc, .slice sa sn sc, .int .i64 shard, .bool yes] rows W) 11 ?_
  intro KEEPX
  replace HX := Lib.hid HX.out.drew
  have hl := fun V (hV : DoS w0 b #[.pointer (some ⟨p, 0, none⟩), .pointer (some ⟨c2, 0, none⟩), .int .i64 S.played, .map (some mk)] b2 #[.int .i64 6, .int .i64 id, .int .i64 sess, .int .i64 rs, .int .i64 rn, .slice oa on oc, .slice sa sn sc, .int .i64 shard, .bool yes] rows V) => hV.l1 (ty := 106) 1 (by kernel_rfl) rfl
  have hl2 := fun V (hV : DoS w0 b #[.pointer (some ⟨p, 0, none⟩), .pointer (some ⟨c2, 0, none⟩), .int .i64 S.played, .map (some mk)] b2 #[.int .i64 6, .int .i64 id, .int .i64 sess, .int .i64 rs, .int .i64 rn, .slice oa on oc, .slice sa sn sc, .int .i64 shard, .bool yes] rows V) => hV.l2 (ty := 2) 1 (by kernel_rfl) rfl
  have hl3 := fun V (hV : DoS w0 b #[.pointer (some ⟨p, 0, none⟩), .pointer (some ⟨c2, 0, none⟩), .int .i64 S.played, .map (some mk)] b2 #[.int .i64 6, .int .i64 id, .int .i64 sess, .int .i64 rs, .int .i64 rn, .slice oa on oc, .slice sa sn sc, .int .i64 shard, .bool yes] rows V) => hV.l2 (ty := 3) 7 (by kernel_rfl) rfl
  have hl4 := fun V (hV : DoS w0 b #[.pointer (some ⟨p, 0, none⟩), .pointer (some ⟨c2, 0, none⟩), .int .i64 S.played, .map (some mk)] b2 #[.int .i64 6, .int .i64 id, .int .i64 sess, .int .i64 rs, .int .i64 rn, .slice oa on oc, .slice sa sn sc, .int .i64 shard, .bool yes] rows V) => hV.l2 (ty := 4) 8 (by kernel_rfl) rfl
  refine rT [(0, false), (1, false), (2, false), (3, true), (4, false), (5, true), (6, false), (7, true), (8, false), (9, true)] 3 ?_
  apply Exists.intro; refine ⟨?_, (DoS.of HX.out.up2.up3), ?_⟩
  ·iterate 10 (refine xE ?_)
   exact rfl
  clear hl hl2 hl3 hl4
  refine r1 2 10 fun K hK => ?_
  go_wp2_with fail
  obtain ⟨⟨e1, S2⟩, hm1⟩ : ∃ m1, yoa' S.c id shard yes = m1 := ⟨_, rfl⟩
  have hm := yxb' (ylb' HX.out.up5) id shard yes
  rw [hm1] at hm
  refine hm.mono ?_
  obtain rfl : rr = (⟨6, id, ye1', e1, 0, [], false⟩, { S with c := S2 }) := by rw [← HRR.out]; unfold doC; dsimp only; rw [if_neg (by decide), if_neg (by decide), if_neg (by decide), if_neg (by decide), if_neg (by decide), if_pos rfl, hm1]
  clear hm hm1
  rintro e w ⟨rfl, hx⟩
  have hx := yi0' hx
  dsimp only at hx ⊢
  replace HX := Lib.hid hx
  clear hx
  go_wp2_with fail
  refine hK _ _ (DoS.of HX.out.up3.up4) ?_
  clear hK
  refine rL [11, 12] 0 ?_
  simp only [List.filterMap_cons, List.filterMap_nil, k_i, k_j, k_k]
  go_step
  rename_i xk
  refine xk _ _ ?_
  clear xk
  refine tWT ?_
  clear HX
  intro w HX
  simp only [Act.put, k_a, k_b, k_c] at HX ⊢
  go_wp2_with (first | refine u0 ?_ | (refine uS ?_; clear HX; intro w HX) | (refine uA ?_; clear HX; (first | (have hq := b2; clear hq; intro w b3 HX) | (have hq := b; clear hq; intro w b2 HX) | intro w b HX)))
  refine ybe' HX rfl rfl (by (repeat (first | (with_reducible exact k_s) | (with_reducible apply k_m)))) (by kernel_rfl) ?_
  exact yi4' (p := p) (c := c2) (mk := mk) (gs := gs) (S := { S with c := S2 }) rfl rfl (fun q hq => hq) HG.out.1 HG.out.2 (HX.out.cut1.cut1.cut1.pm 5 [4, 1, 2, 0, 3] rfl rfl)
 by_cases g7 : k0 = 7
 ·subst g7
  go_wp2_with (first | refine u0 ?_ | (refine uS ?_; clear HX; intro w HX) | (refine uA ?_; clear HX; (first | (have hq := b2; clear hq; intro w b3 HX) | (have hq := b; clear hq; intro w b2 HX) | intro w b HX)))
  refine rM (fun W => DoS w0 b #[.pointer (some ⟨p, 0, none⟩), .pointer (some ⟨c2, 0, none⟩), .int .i64 S.played, .map (some mk)] b2 #[.int .i64 7, .int .i64 id, .int .i64 sess, .int .i64 rs, .int .i64 rn, .slice oa on oc, .slice sa sn sc, .int .i64 shard, .bool yes] rows W) 9 ?_
  intro KEEPX
  replace HX := Lib.hid HX.out.drew
  have hl := fun V (hV : DoS w0 b #[.pointer (some ⟨p, 0, none⟩), .pointer (some ⟨c2, 0, none⟩), .int .i64 S.played, .map (some mk)] b2 #[.int .i64 7, .int .i64 id, .int .i64 sess, .int .i64 rs, .int .i64 rn, .slice oa on oc, .slice sa sn sc, .int .i64 shard, .bool yes] rows V) => hV.l1 (ty := 106) 1 (by kernel_rfl) rfl
  have hl2 := fun V (hV : DoS w0 b #[.pointer (some ⟨p, 0, none⟩), .pointer (some ⟨c2, 0, none⟩), .int .i64 S.played, .map (some mk)] b2 #[.int .i64 7, .int .i64 id, .int .i64 sess, .int .i64 rs, .int .i64 rn, .slice oa on oc, .slice sa sn sc, .int .i64 shard, .bool yes] rows V) => hV.l2 (ty := 2) 1 (by kernel_rfl) rfl
  have hl3 := fun V (hV : DoS w0 b #[.pointer (some ⟨p, 0, none⟩), .pointer (some ⟨c2, 0, none⟩), .int .i64 S.played, .map (some mk)] b2 #[.int .i64 7, .int .i64 id, .int .i64 sess, .int .i64 rs, .int .i64 rn, .slice oa on oc, .slice sa sn sc, .int .i64 shard, .bool yes] rows V) => hV.l2 (ty := 3) 7 (by kernel_rfl) rfl
  refine rT [(0, false), (1, false), (2, false), (3, true), (4, false), (5, true), (6, false), (7, true)] 3 ?_
  apply Exists.intro; refine ⟨?_, (DoS.of HX.out.up2.up3), ?_⟩
  ·iterate 8 (refine xE ?_)
   exact rfl
  clear hl hl2 hl3
  refine r1 2 8 fun K hK => ?_
  go_wp2_with fail
  obtain ⟨⟨e1, S2⟩, hm1⟩ : ∃ m1, ymu' S.c id shard = m1 := ⟨_, rfl⟩
  have hm := yvu' (ylb' HX.out.up5) id shard
  rw [hm1] at hm
  refine hm.mono ?_
  obtain rfl : rr = (⟨7, id, ye1', e1, 0, [], false⟩, { S with c := S2 }) := by rw [← HRR.out]; unfold doC; dsimp only; rw [if_neg (by decide), if_neg (by decide), if_neg (by decide), if_neg (by decide), if_neg (by decide), if_neg (by decide), if_pos rfl, hm1]
  clear hm hm1
  rintro e w ⟨rfl, hx⟩
  have hx := yi0' hx
  dsimp only at hx ⊢
  replace HX := Lib.hid hx
  clear hx
  go_wp2_with fail
  refine hK _ _ (DoS.of HX.out.up3.up4) ?_
  clear hK
  refine rL [9, 10] 0 ?_
  simp only [List.filterMap_cons, List.filterMap_nil, k_i, k_j, k_k]
  go_step
  rename_i xk
  refine xk _ _ ?_
  clear xk
  refine tWT ?_
  clear HX
  intro w HX
  simp only [Act.put, k_a, k_b, k_c] at HX ⊢
  go_wp2_with (first | refine u0 ?_ | (refine uS ?_; clear HX; intro w HX) | (refine uA ?_; clear HX; (first | (have hq := b2; clear hq; intro w b3 HX) | (have hq := b; clear hq; intro w b2 HX) | intro w b HX)))
  refine ybe' HX rfl rfl (by (repeat (first | (with_reducible exact k_s) | (with_reducible apply k_m)))) (by kernel_rfl) ?_
  exact yi4' (p := p) (c := c2) (mk := mk) (gs := gs) (S := { S with c := S2 }) rfl rfl (fun q hq => hq) HG.out.1 HG.out.2 (HX.out.cut1.cut1.cut1.pm 5 [4, 1, 2, 0, 3] rfl rfl)
 by_cases g8 : k0 = 8
 ·subst g8
  go_wp2_with (first | refine u0 ?_ | (refine uS ?_; clear HX; intro w HX) | (refine uA ?_; clear HX; (first | (have hq := b2; clear hq; intro w b3 HX) | (have hq := b; clear hq; intro w b2 HX) | intro w b HX)))
  refine rM (fun W => DoS w0 b #[.pointer (some ⟨p, 0, none⟩), .pointer (some ⟨c2, 0, none⟩), .int .i64 S.played, .map (some mk)] b2 #[.int .i64 8, .int .i64 id, .int .i64 sess, .int .i64 rs, .int .i64 rn, .slice oa on oc, .slice sa sn sc, .int .i64 shard, .bool yes] rows W) 10 ?_
  intro KEEPX
  replace HX := Lib.hid HX.out.drew
  have hl := fun V (hV : DoS w0 b #[.pointer (some ⟨p, 0, none⟩), .pointer (some ⟨c2, 0, none⟩), .int .i64 S.played, .map (some mk)] b2 #[.int .i64 8, .int .i64 id, .int .i64 sess, .int .i64 rs, .int .i64 rn, .slice oa on oc, .slice sa sn sc, .int .i64 shard, .bool yes] rows V) => hV.l1 (ty := 106) 1 (by kernel_rfl) rfl
  have hl2 := fun V (hV : DoS w0 b #[.pointer (some ⟨p, 0, none⟩), .pointer (some ⟨c2, 0, none⟩), .int .i64 S.played, .map (some mk)] b2 #[.int .i64 8, .int .i64 id, .int .i64 sess, .int .i64 rs, .int .i64 rn, .slice oa on oc, .slice sa sn sc, .int .i64 shard, .bool yes] rows V) => hV.l2 (ty := 2) 1 (by kernel_rfl) rfl
  refine rT [(0, false), (1, false), (2, false), (3, true), (4, false), (5, true)] 8 ?_
  apply Exists.intro; refine ⟨?_, (DoS.of HX.out.up2.up3), ?_⟩
  ·iterate 6 (refine xE ?_)
   exact rfl
  clear hl hl2
  refine r1 7 6 fun K hK => ?_
  go_wp2_with fail
  obtain ⟨⟨y1, e1, S2⟩, hm1⟩ : ∃ m1, yf3' S.c id = m1 := ⟨_, rfl⟩
  have hm := ysb' (ylb' HX.out.up5) id
  rw [hm1] at hm
  refine hm.mono ?_
  obtain rfl : rr = (⟨8, id, ye1', e1, 0, [], y1⟩, { S with c := S2 }) := by rw [← HRR.out]; unfold doC; dsimp only; rw [if_neg (by decide), if_neg (by decide), if_neg (by decide), if_neg (by decide), if_neg (by decide), if_neg (by decide), if_neg (by decide), hm1]
  clear hm hm1
  rintro e w ⟨rfl, hx⟩
  have hx := yi0' hx
  dsimp only at hx ⊢
  replace HX := Lib.hid hx
  clear hx
  go_wp2_with fail
  refine hK _ _ (DoS.of HX.out.up3.up4) ?_
  clear hK
  refine rT [(7, false), (8, false), (9, false)] 4 ?_
  apply Exists.intro; refine ⟨?_, (DoS.of HX.out.up3.up4), ?_⟩
  ·iterate 3 (refine xE ?_)
   exact rfl
  refine rL [10, 11, 12, 13] 0 ?_
  simp only [List.filterMap_cons, List.filterMap_nil, k_i, k_j, k_k]
  go_step
  rename_i xk
  refine xk _ _ ?_
  clear xk
  refine tWT ?_
  clear HX
  intro w HX
  simp only [Act.put, k_a, k_b, k_c] at HX ⊢
  go_step
  rename_i xk
  refine xk _ _ ?_
  clear xk
  refine tWT ?_
  clear HX
  intro w HX
  simp only [Act.put, k_a, k_b, k_c] at HX ⊢
  go_wp2_with (first | refine u0 ?_ | (refine uS ?_; clear HX; intro w HX) | (refine uA ?_; clear HX; (first | (have hq := b2; clear hq; intro w b3 HX) | (have hq := b; clear hq; intro w b2 HX) | intro w b HX)))
  refine ybe' HX rfl rfl (by (repeat (first | (with_reducible exact k_s) | (with_reducible apply k_m)))) (by kernel_rfl) ?_
  exact yi4' (p := p) (c := c2) (mk := mk) (gs := gs) (S := { S with c := S2 }) rfl rfl (fun q hq => hq) HG.out.1 HG.out.2 (HX.out.cut1.cut1.cut1.pm 5 [4, 1, 2, 0, 3] rfl rfl)
 exfalso
 have := HK.out
 omega
end
end Go.Proofs.YtcnkifbjlihaoaaGreatDoor

namespace Go.Av
open Go.RowKit
section
variable {P : Program} {ops : Array Oper} {S : World → Prop} {a a' A : Act} {dst : Option Tmp} {tyy src tt : TypeId} {x y : Operand} {pos : String} {aft : Array Edge} {g : Option (Nat × Bool)} {k : Nat} {v p q : Value} {r : List (Nat × Bool)} {c : Bool}
theorem ygj' (hl : ∀ W, S W → (convert src tt p).run P W = .ok v W) (ho : ops[k]? = some ⟨dst, .convert src tt x, tyy, pos, aft, g⟩) (hx : a.eval x = p) (hw : Region.wanted ⟨dst, .convert src tt x, tyy, pos, aft, g⟩ (yielded ops a.tmps) = true) (ha : a' = a.put dst v) (hr : ya8' P ops S r a' A) : ya8' P ops S ((k, true) :: r) a A := by
 refine yay' ho hw (fun W hW => ?_) ha hr
 unfold execOp
 dsimp only
 rw [hx]
 exact yct' (hl W hW)
theorem yju' (hl : ∀ W, S W → (Instr.lookup src p q c).run P W = .ok v W) (ho : ops[k]? = some ⟨dst, .lookup src x y c, tyy, pos, aft, g⟩) (hx : a.eval x = p) (hy : a.eval y = q) (hw : Region.wanted ⟨dst, .lookup src x y c, tyy, pos, aft, g⟩ (yielded ops a.tmps) = true) (ha : a' = a.put dst v) (hr : ya8' P ops S r a' A) : ya8' P ops S ((k, true) :: r) a A := by
 refine yay' ho hw (fun W hW => ?_) ha hr
 unfold execOp
 dsimp only
 rw [hx, hy]
 exact yct' (hl W hW)
end
end Go.Av
namespace Go.Proofs.YtcnkifbjlihaoaaGreatDoor
open Go.RowKit Go.Av
section
variable {w0 w : World} {b : Nat} {S : ShardS} {P P' : List PRow} {R : List Thing} {rows : List (Value × Bs)}
theorem yzo' (b : Bs) : (∀ o ∈ (rawC b).1.ops, o.path.size ≤ 100000) ∧ (rawC b).1.id = (ylk' b).2.1 := by
 obtain ⟨⟨k, id, d⟩, h⟩ : ∃ x, ylk' b = x := ⟨_, rfl⟩
 unfold rawC
 rw [h]
 dsimp only
 have hn : ∀ o ∈ ([] : List OpS), o.path.size ≤ 100000 := fun o ho => by cases ho
 have ha := ye5' (ybq' 40000 d).1
 have hb := ye5' (ybq' 40000 (shR (i64R d).2).2).1
 generalize yc3' (ybq' 40000 d).1 = x1 at ha ⊢
 generalize yc3' (ybq' 40000 (shR (i64R d).2).2).1 = x2 at hb ⊢
 generalize getR (ybq' 40000 d).1 = y1
 generalize getR (ybq' 40000 (shR (i64R d).2).2).1 = y2
 generalize ybq' 40000 d = z1
 generalize ybq' 40000 (shR (i64R d).2).2 = z2
 by_cases h1 : k = 1
 ·rw [if_pos h1]; exact ⟨ha, rfl⟩
 rw [if_neg h1]
 by_cases h1 : k = 2
 ·rw [if_pos h1]; exact ⟨hb, rfl⟩
 rw [if_neg h1]
 by_cases h1 : k = 3
 ·rw [if_pos h1]; exact ⟨hn, rfl⟩
 rw [if_neg h1]
 by_cases h1 : k = 4
 ·rw [if_pos h1]; exact ⟨hn, rfl⟩
 rw [if_neg h1]
 by_cases h1 : k = 5
 ·rw [if_pos h1]; exact ⟨hn, rfl⟩
 rw [if_neg h1]
 by_cases h1 : k = 6
 ·rw [if_pos h1]; exact ⟨hn, rfl⟩
 rw [if_neg h1]
 by_cases h1 : k = 7
 ·rw [if_pos h1]; exact ⟨hn, rfl⟩
 rw [if_neg h1]
 exact ⟨hn, rfl⟩
theorem ys2' (d : Rd) : (i64R d).1 ≤ 9223372036854775807 := by
 unfold i64R
 split
 ·simp
 ·simp only [rdI, IntKind.wrap_i64]
  omega
theorem yy2' {l : Bs} {c : CmdS} (h : getC l = some c) : (∀ o ∈ c.ops, o.path.size ≤ 100000) ∧ (1 ≤ c.kind ∧ c.kind ≤ 8) ∧ c.id ≤ 9223372036854775807 := by
 have hk := ysy' h
 obtain ⟨h1, h2⟩ := yzo' l
 unfold getC at h
 split at h
 ·injection h with h
  subst h
  refine ⟨h1, hk, ?_⟩
  rw [h2]
  exact ys2' _
 ·cases h
theorem yz9' (w : World) : (zeroValue 93).run Tryz.prog w = .ok (.agg #[.int .i64 0, .int .i64 0, .int .i64 0, .int .i64 0, .int .i64 0, .int .i64 0, .slice none 0 0, .int .i64 0, .int .i64 0, .slice none 0 0, .bool false]) w := by kernel_rfl
theorem yy7' {gs : List KnG} {m : Nat} (h : Sep w0 w (yam' .string m (gs.map KnG.kv) :: R) rows) (l : Bs) (hn : ∀ g ∈ gs, g.b ≠ l) :
  (Instr.lookup 202 (.map (some m)) (.string ⟨l.toArray⟩) true).run Tryz.prog w = .ok (.tuple #[.agg #[.int .i64 0, .int .i64 0, .int .i64 0, .int .i64 0, .int .i64 0, .int .i64 0, .slice none 0 0, .int .i64 0, .int .i64 0, .slice none 0 0, .bool false], .bool false]) w :=
 yfv' h.mapIs Tryz.underlying202 Tryz.underlying9 (key := .string ⟨l.toArray⟩) (by first | trivial | rfl | exact ⟨_, rfl⟩) (fun q hq e => by
  obtain ⟨g, hg, rfl⟩ := List.mem_map.1 hq
  exact hn g hg (yhc' e)) (yz9' w) true
theorem yy8' {gs : List KnG} {m : Nat} (h : Sep w0 w (yam' .string m (gs.map KnG.kv) :: R) rows) {g : KnG} (hg : g ∈ gs) :
  (Instr.lookup 202 (.map (some m)) (.string ⟨g.b.toArray⟩) true).run Tryz.prog w = .ok (.tuple #[.agg (outV g.o g.v1 g.v2), .bool true]) w :=
 ygb' h.mapIs Tryz.underlying202 Tryz.underlying9 (key := sv g.b) (by first | trivial | rfl | exact ⟨_, rfl⟩) (List.mem_map.2 ⟨g, hg, rfl⟩) true
theorem ymh' {v : Value} {l : Bs} (h : Sep w0 w (yab' w0 P :: R) rows) (hv : (1, v, l.map bv) ∈ P) : (convert 71 9 v).run Tryz.prog w = .ok (.string ⟨l.toArray⟩) w := by
 obtain ⟨E, hE⟩ := h.poolGet hv
 exact Go.Av.conv_str Tryz.underlying71 Tryz.underlying5 Tryz.underlying9 hE w (fun _ _ => rfl)
def PlS (w0 : World) (b : Nat) (cs : Array Value) (mk : Nat) (kvs : List (Value × Value)) (P : List PRow) (rows : List (Value × Bs)) (W : World) : Prop := ∃ Ts, Sep w0 W (yac' b (.cells cs 204 (0, 0)) :: yam' .string mk kvs :: yab' w0 P :: Ts) rows
theorem PlS.l1 {cs : Array Value} {mk : Nat} {kvs : List (Value × Value)} (h : PlS w0 b cs mk kvs P rows w) {ty : TypeId} (i : Nat) {v : Value} (hs : yd4' Tryz.prog ty = true) (hv : cs[i]? = some v) : (Instr.loadAt ty (.pointer (some ⟨b, i, none⟩))).run Tryz.prog w = .ok v w := by
 obtain ⟨Ts, hV⟩ := h
 exact yae' hs (yaa' hV.blk i hv)
theorem PlS.l2 {cs : Array Value} {mk : Nat} {kvs : List (Value × Value)} (h : PlS w0 b cs mk kvs P rows w) {v : Value} {l : Bs} (hv : (1, v, l.map bv) ∈ P) : (convert 71 9 v).run Tryz.prog w = .ok (.string ⟨l.toArray⟩) w := by
 obtain ⟨Ts, hV⟩ := h
 exact ymh' hV.up2 hv
theorem PlS.l3 {cs : Array Value} {mk : Nat} {gs : List KnG} (h : PlS w0 b cs mk (gs.map KnG.kv) P rows w) {g : KnG} (hg : g ∈ gs) :
  (Instr.lookup 202 (.map (some mk)) (.string ⟨g.b.toArray⟩) true).run Tryz.prog w = .ok (.tuple #[.agg (outV g.o g.v1 g.v2), .bool true]) w := by
 obtain ⟨Ts, hV⟩ := h
 exact yy8' hV.up1 hg
theorem PlS.l4 {cs : Array Value} {mk : Nat} {gs : List KnG} (h : PlS w0 b cs mk (gs.map KnG.kv) P rows w) (l : Bs) (hn : ∀ g ∈ gs, g.b ≠ l) :
  (Instr.lookup 202 (.map (some mk)) (.string ⟨l.toArray⟩) true).run Tryz.prog w = .ok (.tuple #[.agg #[.int .i64 0, .int .i64 0, .int .i64 0, .int .i64 0, .int .i64 0, .int .i64 0, .slice none 0 0, .int .i64 0, .int .i64 0, .slice none 0 0, .bool false], .bool false]) w := by
 obtain ⟨Ts, hV⟩ := h
 exact yy7' hV.up1 l hn
def PlT (w0 : World) (b : Nat) (cs : Array Value) (b5 : Nat) (cs5 : Array Value) (q : PRow) (rows : List (Value × Bs)) (W : World) : Prop := ∃ P Ts, q ∈ P ∧ Sep w0 W (yac' b (.cells cs 204 (0, 0)) :: yac' b5 (.cells cs5 93 (0, 0)) :: yab' w0 P :: Ts) rows
theorem PlT.l1 {cs cs5 : Array Value} {b5 : Nat} {q : PRow} (h : PlT w0 b cs b5 cs5 q rows w) {ty : TypeId} (i : Nat) {v : Value} (hs : yd4' Tryz.prog ty = true) (hv : cs[i]? = some v) : (Instr.loadAt ty (.pointer (some ⟨b, i, none⟩))).run Tryz.prog w = .ok v w := by
 obtain ⟨P, Ts, -, hV⟩ := h
 exact yae' hs (yaa' hV.blk i hv)
theorem PlT.l2 {cs cs5 : Array Value} {b5 : Nat} {v : Value} {l : Bs} (h : PlT w0 b cs b5 cs5 (1, v, l.map bv) rows w) : (convert 71 9 v).run Tryz.prog w = .ok (.string ⟨l.toArray⟩) w := by
 obtain ⟨P, Ts, hq, hV⟩ := h
 exact ymh' hV.up2 hq
theorem PlT.l3 {cs cs5 : Array Value} {b5 : Nat} {q : PRow} (h : PlT w0 b cs b5 cs5 q rows w) (hn : 11 ≤ cs5.size) : (Instr.loadAt 93 (.pointer (some ⟨b5, 0, none⟩))).run Tryz.prog w = .ok (.agg ((cs5.toList.drop 0).take 11).toArray) w := by
 obtain ⟨P, Ts, -, hV⟩ := h
 exact ya4' (i := 0) sn_x6.1 hV.up1.blk hn
set_option maxRecDepth 100000 in
set_option maxHeartbeats 16000000 in
theorem yrs' {K : Nat} (h : Sep w0 w (yab' w0 P :: ybb' b S P :: R) rows) (hd : DoorN w0) (hB : ShB K S) (hK : K ≤ 100) (v : Value) (l : Bs) (hv : (1, v, l.map bv) ∈ P) (hl : l.length ≤ 1000000) :
  Calls Tryz.prog 129 #[.pointer (some ⟨b, 0, none⟩), v] w (yr3' w0 b P R rows (yav' S l)) := by
 obtain ⟨p, c2, mk, gs, hgs, hgo, hS⟩ := yek' h.up1
 have HV := Lib.hid (show _ ∧ _ from ⟨hv, hl⟩)
 have HB := Lib.hid (show _ ∧ _ from ⟨hB, hK⟩)
 have HX := Lib.hid hS
 have q8 : 0 ≤ S.played := hB.played.1
 have q9 : S.played ≤ 1000 := by have := hB.played.2; omega
 obtain ⟨rr, hrr⟩ : ∃ rr, yav' S l = rr := ⟨_, rfl⟩
 rw [hrr]
 have HRR := Lib.hid hrr
 have HG := Lib.hid (show _ ∧ _ from ⟨hgs, hgo⟩)
 clear h hS hgs hgo hv hl hB hK hrr
 go_enter Tryz.func129, Tryz.ntmps129
 go_wp2_with (first | refine u0 ?_ | (refine uS ?_; clear HX; intro w HX) | (refine uA ?_; clear HX; (first | (have hq := b5; clear hq; intro w b6 HX) | (have hq := b4; clear hq; intro w b5 HX) | (have hq := b3; clear hq; intro w b4 HX) | (have hq := b2; clear hq; intro w b3 HX) | (have hq := b; clear hq; intro w b2 HX) | intro w b HX)))
 refine (yg9' HX.out.up5 hd v l HV.out.1 HV.out.2).mono ?_
 obtain ⟨o, ho⟩ : ∃ o, getC l = o := ⟨_, rfl⟩
 rw [ho]
 rintro e w ⟨vo, vs, P1, rfl, hP1, hvo, hvs, hx⟩
 obtain ⟨oa, on, oc, rfl⟩ := yah' hx hvo
 obtain ⟨sa, sn, sc, rfl⟩ := yah' hx hvs
 have hx := (yc9' hx.up3 hP1).up3
 replace HX := Lib.hid hx
 clear hx
 have HP1 := Lib.hid hP1
 have HC := Lib.hid (show _ ∧ _ ∧ _ from ⟨ho, hvo, hvs⟩)
 clear hP1 ho hvo hvs
 cases o with
 | none =>
  obtain rfl : rr = (badO, { S with played := S.played + 1 }) := by
   rw [← HRR.out]
   unfold yav'
   rw [HC.out.1]
  unfold ypj' cmdV
  dsimp only [Option.getD, Option.isSome]
  go_wp2_with (first | refine u0 ?_ | (refine uS ?_; clear HX; intro w HX) | (refine uA ?_; clear HX; (first | (have hq := b5; clear hq; intro w b6 HX) | (have hq := b4; clear hq; intro w b5 HX) | (have hq := b3; clear hq; intro w b4 HX) | (have hq := b2; clear hq; intro w b3 HX) | (have hq := b; clear hq; intro w b2 HX) | intro w b HX)))
  refine ybe' HX rfl rfl (by (repeat (first | (with_reducible exact k_s) | (with_reducible apply k_m)))) (by kernel_rfl) ?_
  exact yi4' (p := p) (c := c2) (mk := mk) (gs := gs) (S := { S with played := S.played + 1 }) rfl rfl HP1.out HG.out.1 HG.out.2 (HX.out.drop.pm 6 [2, 0, 1, 4, 5] rfl rfl)
 | some c =>
  have HCO := Lib.hid (yy2' HC.out.1)
  obtain ⟨k0, id, sess, rs, rn, ops, shards, shard, yes⟩ := c
  unfold cmdV at HX ⊢
  dsimp only [Option.getD, Option.isSome] at HC HX ⊢
  cases hlk : ygw' l S.known with
  | some o =>
   obtain ⟨g, hg, rfl, rfl⟩ : ∃ g ∈ gs, g.b = l ∧ g.o = o := by
    have h1 := yjb' hlk
    rw [← HG.out.1] at h1
    obtain ⟨g, hg, e⟩ := List.mem_map.1 h1
    exact ⟨g, hg, congrArg Prod.fst e, congrArg Prod.snd e⟩
   obtain rfl : rr = (g.o, { S with played := S.played + 1 }) := by
    rw [← HRR.out]
    unfold yav'
    rw [HC.out.1]
    dsimp only
    rw [hlk]
   have hok := HB.out.1.known _ (yjb' hlk)
   have hin := (HG.out.2 g hg).mono HP1.out
   obtain ⟨gb, ⟨gk, gi, ⟨num, zx, er, gat, rs1⟩, e2, at2, rs2, gy⟩, v1, v2⟩ := g
   obtain ⟨a1, n1, c1, rfl⟩ := ycf' HX.out.up2 hin.1
   obtain ⟨a2, n2, c3, rfl⟩ := ycf' HX.out.up2 hin.2
   have HL := Lib.hid (show _ ∧ _ ∧ _ from ⟨hg, hok, hin⟩)
   clear hg hlk hok hin
   dsimp only at HL HV HC ⊢
   go_upto_region 5 with (first | refine u0 ?_ | (refine uS ?_; clear HX; intro w HX) | (refine uA ?_; clear HX; (first | (have hq := b5; clear hq; intro w b6 HX) | (have hq := b4; clear hq; intro w b5 HX) | (have hq := b3; clear hq; intro w b4 HX) | (have hq := b2; clear hq; intro w b3 HX) | (have hq := b; clear hq; intro w b2 HX) | intro w b HX)))
   refine rM (fun W => PlS w0 b #[.pointer (some ⟨p, 0, none⟩), .pointer (some ⟨c2, 0, none⟩), .int .i64 (S.played + 1), .map (some mk)] mk (gs.map KnG.kv) P1 rows W) 11 ?_
   intro KEEPX
   replace HX := Lib.hid HX.out.drew
   have hl := fun V (hV : PlS w0 b #[.pointer (some ⟨p, 0, none⟩), .pointer (some ⟨c2, 0, none⟩), .int .i64 (S.played + 1), .map (some mk)] mk (gs.map KnG.kv) P1 rows V) => hV.l1 (ty := 202) 3 (by kernel_rfl) rfl
   have hcv := fun V (hV : PlS w0 b #[.pointer (some ⟨p, 0, none⟩), .pointer (some ⟨c2, 0, none⟩), .int .i64 (S.played + 1), .map (some mk)] mk (gs.map KnG.kv) P1 rows V) => hV.l2 (HP1.out _ HV.out.1)
   have hkd := fun V (hV : PlS w0 b #[.pointer (some ⟨p, 0, none⟩), .pointer (some ⟨c2, 0, none⟩), .int .i64 (S.played + 1), .map (some mk)] mk (gs.map KnG.kv) P1 rows V) => hV.l3 HL.out.1
   unfold outV at hkd
   dsimp only at hkd
   refine rT [(0, false), (1, false), (2, false), (3, true), (4, false), (5, true), (6, true), (7, false), (8, false), (9, false)] 3 ?_
   apply Exists.intro; refine ⟨?_, ⟨_, HX.out.up3.up6.up3⟩, ?_⟩
   ·iterate 10 (first | refine xE ?_ | ((apply ygj' hcv); (· (simp only [k_i, k_j, k_k]; try rfl)); (· rfl); (· rfl); (· rfl)) | ((apply yju' hkd); (· (simp only [k_i, k_j, k_k]; try rfl)); (· rfl); (· rfl); (· rfl); (· rfl)))
    exact rfl
   clear hl hcv hkd
   refine r1 2 10 fun K hK => ?_
   refine tWA ?_
   clear HX
   intro w b4 HX
   simp only [Act.put, k_a, k_b, k_c]
   refine hK _ _ ⟨_, HX.out.up4.up7.up4⟩ ?_
   clear hK
   refine rL [11, 12] 0 ?_
   simp only [List.filterMap_cons, List.filterMap_nil, k_i, k_j, k_k]
   refine tWS ?_
   clear HX
   intro w HX
   simp only [Act.put, k_a, k_b, k_c, yb6', Nat.reduceAdd] at HX ⊢
   go_wp2_with (first | refine u0 ?_ | (refine uS ?_; clear HX; intro w HX) | (refine uA ?_; clear HX; (first | (have hq := b5; clear hq; intro w b6 HX) | (have hq := b4; clear hq; intro w b5 HX) | (have hq := b3; clear hq; intro w b4 HX) | (have hq := b2; clear hq; intro w b3 HX) | (have hq := b; clear hq; intro w b2 HX) | intro w b HX)))
   refine (yig' HX.out.up4 ⟨gk, gi, ⟨num, zx, er, gat, rs1⟩, e2, at2, rs2, gy⟩ _ _ HL.out.2.2 HL.out.2.1).mono ?_
   rintro e w ⟨y1, y2, P9, rfl, hP9, hin9, hx⟩
   obtain ⟨a5, n5, c5, rfl⟩ := ycf' hx hin9.1
   obtain ⟨a6, n6, c6, rfl⟩ := ycf' hx hin9.2
   replace HX := Lib.hid hx
   clear hx
   have H9 := Lib.hid (show _ ∧ _ from ⟨hP9, hin9⟩)
   clear hP9 hin9
   unfold outV
   dsimp only
   go_wp2_with (first | refine u0 ?_ | (refine uS ?_; clear HX; intro w HX) | (refine uA ?_; clear HX; (first | (have hq := b5; clear hq; intro w b6 HX) | (have hq := b4; clear hq; intro w b5 HX) | (have hq := b3; clear hq; intro w b4 HX) | (have hq := b2; clear hq; intro w b3 HX) | (have hq := b; clear hq; intro w b2 HX) | intro w b HX)))
   refine ybe' HX rfl rfl (by (repeat (first | (with_reducible exact k_s) | (with_reducible apply k_m)))) (by kernel_rfl) ?_
   have h4 := yc9' HX.out.cut1.cut1.cut3.up2 H9.out.1
   exact ⟨_, _, _, rfl, fun q hq => H9.out.1 q (HP1.out q hq), H9.out.2, (yfm' (b := b) (S := { S with played := S.played + 1 }) (p := p) (c := c2) (mk := mk) (gs := gs) (R := yab' w0 P9 :: R) (h4.pm 5 [2, 0, 3, 4, 1] rfl rfl) HG.out.1 (fun g hg => (HG.out.2 g hg).mono (fun q hq => H9.out.1 q (HP1.out q hq)))).up1⟩
  | none =>
   have hn : ∀ g ∈ gs, g.b ≠ l := fun g hg e => by
    unfold ygw' at hlk
    rw [Option.map_eq_none_iff, List.find?_eq_none] at hlk
    exact hlk (g.b, g.o) (by rw [← HG.out.1]; exact List.mem_map.2 ⟨g, hg, rfl⟩) (by simpa using e)
   have HL := Lib.hid (show _ ∧ _ from ⟨hn, hlk⟩)
   clear hn hlk
   go_upto_region 5 with (first | refine u0 ?_ | (refine uS ?_; clear HX; intro w HX) | (refine uA ?_; clear HX; (first | (have hq := b5; clear hq; intro w b6 HX) | (have hq := b4; clear hq; intro w b5 HX) | (have hq := b3; clear hq; intro w b4 HX) | (have hq := b2; clear hq; intro w b3 HX) | (have hq := b; clear hq; intro w b2 HX) | intro w b HX)))
   refine rM (fun W => PlS w0 b #[.pointer (some ⟨p, 0, none⟩), .pointer (some ⟨c2, 0, none⟩), .int .i64 (S.played + 1), .map (some mk)] mk (gs.map KnG.kv) P1 rows W) 11 ?_
   intro KEEPX
   replace HX := Lib.hid HX.out.drew
   have hl := fun V (hV : PlS w0 b #[.pointer (some ⟨p, 0, none⟩), .pointer (some ⟨c2, 0, none⟩), .int .i64 (S.played + 1), .map (some mk)] mk (gs.map KnG.kv) P1 rows V) => hV.l1 (ty := 202) 3 (by kernel_rfl) rfl
   have hcv := fun V (hV : PlS w0 b #[.pointer (some ⟨p, 0, none⟩), .pointer (some ⟨c2, 0, none⟩), .int .i64 (S.played + 1), .map (some mk)] mk (gs.map KnG.kv) P1 rows V) => hV.l2 (HP1.out _ HV.out.1)
   have hkd := fun V (hV : PlS w0 b #[.pointer (some ⟨p, 0, none⟩), .pointer (some ⟨c2, 0, none⟩), .int .i64 (S.played + 1), .map (some mk)] mk (gs.map KnG.kv) P1 rows V) => hV.l4 l HL.out.1
   refine rT [(0, false), (1, false), (2, false), (3, true), (4, false), (5, true), (6, true), (7, false), (8, false), (9, false)] 3 ?_
   apply Exists.intro; refine ⟨?_, ⟨_, HX.out.up3.up6.up3⟩, ?_⟩
   ·iterate 10 (first | refine xE ?_ | ((apply ygj' hcv); (· (simp only [k_i, k_j, k_k]; try rfl)); (· rfl); (· rfl); (· rfl)) | ((apply yju' hkd); (· (simp only [k_i, k_j, k_k]; try rfl)); (· rfl); (· rfl); (· rfl); (· rfl)))
    exact rfl
   clear hl hcv hkd
   refine r1 2 10 fun K hK => ?_
   refine tWA ?_
   clear HX
   intro w b4 HX
   simp only [Act.put, k_a, k_b, k_c]
   refine hK _ _ ⟨_, HX.out.up4.up7.up4⟩ ?_
   clear hK
   refine rL [11, 12] 0 ?_
   simp only [List.filterMap_cons, List.filterMap_nil, k_i, k_j, k_k]
   refine tWS ?_
   clear HX
   intro w HX
   simp only [Act.put, k_a, k_b, k_c, yb6', Nat.reduceAdd] at HX ⊢
   go_wp2_with (first | refine u0 ?_ | (refine uS ?_; clear HX; intro w HX) | (refine uA ?_; clear HX; (first | (have hq := b5; clear hq; intro w b6 HX) | (have hq := b4; clear hq; intro w b5 HX) | (have hq := b3; clear hq; intro w b4 HX) | (have hq := b2; clear hq; intro w b3 HX) | (have hq := b; clear hq; intro w b2 HX) | intro w b HX)))
   have hsh := (yfm' (b := b) (S := { S with played := S.played + 1 }) (p := p) (c := c2) (mk := mk) (gs := gs) (P := P1) (HX.out.up7.up7.up5.up5) HG.out.1 (fun g hg => (HG.out.2 g hg).mono HP1.out)).up3
   obtain ⟨⟨⟨gk, gi, ⟨num, zx, er, gat, rs1⟩, e2, at2, rs2, gy⟩, S2⟩, hm1⟩ : ∃ m1, doC { S with played := S.played + 1 } ⟨k0, id, sess, rs, rn, ops, shards, shard, yes⟩ = m1 := ⟨_, rfl⟩
   have hm := yww' hsh hd HB.out.1.p HB.out.2 ⟨k0, id, sess, rs, rn, ops, shards, shard, yes⟩ _ _ HC.out.2.1 HC.out.2.2 HCO.out.1 HCO.out.2.1 HCO.out.2.2
   have hdb := y0e' (S := { S with played := S.played + 1 }) HB.out.1.p HB.out.1.c (by have := HB.out.2; omega) ⟨k0, id, sess, rs, rn, ops, shards, shard, yes⟩
   rw [hm1] at hm hdb
   obtain rfl : rr = (⟨gk, gi, ⟨num, zx, er, gat, rs1⟩, e2, at2, rs2, gy⟩, { S2 with known := S.known ++ [(l, ⟨gk, gi, ⟨num, zx, er, gat, rs1⟩, e2, at2, rs2, gy⟩)] }) := by
    rw [← HRR.out]
    unfold yav'
    rw [HC.out.1]
    dsimp only
    rw [HL.out.2, hm1]
   have HDB := Lib.hid (show _ ∧ _ from ⟨hdb.1, hdb.2.2.2.1⟩)
   refine hm.mono ?_
   clear hm hm1 hdb hsh
   rintro e w ⟨y1, y2, P2, rfl, hP2, hin, hx⟩
   obtain ⟨a1, n1, c1, rfl⟩ := ycf' hx hin.1
   obtain ⟨a2, n2, c3, rfl⟩ := ycf' hx hin.2
   replace HX := Lib.hid hx
   clear hx
   have HP2 := Lib.hid (show _ ∧ _ from ⟨hP2, hin⟩)
   clear hP2 hin
   unfold outV
   dsimp only at HX ⊢
   go_upto_region 9 with (first | refine u0 ?_ | (refine uS ?_; clear HX; intro w HX) | (refine uA ?_; clear HX; (first | (have hq := b5; clear hq; intro w b6 HX) | (have hq := b4; clear hq; intro w b5 HX) | (have hq := b3; clear hq; intro w b4 HX) | (have hq := b2; clear hq; intro w b3 HX) | (have hq := b; clear hq; intro w b2 HX) | intro w b HX)))
   obtain ⟨p3, c4, mk3, gs3, hgs3, hgo3, hS⟩ := yek' HX.out.up2
   have HG3 := Lib.hid (show _ ∧ _ from ⟨hgs3, hgo3⟩)
   clear hgs3 hgo3 HX
   have HX := Lib.hid hS
   clear hS
   refine rM (fun W => PlT w0 b #[.pointer (some ⟨p3, 0, none⟩), .pointer (some ⟨c4, 0, none⟩), .int .i64 S2.played, .map (some mk3)] b5 #[.int .i64 gk, .int .i64 gi, .int .i64 num, .int .i64 zx, .int .i64 er, .int .i64 gat, .slice a1 n1 c1, .int .i64 e2, .int .i64 at2, .slice a2 n2 c3, .bool gy] (1, v, l.map bv) rows W) 9 ?_
   intro KEEPX
   replace HX := Lib.hid HX.out.drew
   have hl := fun V (hV : PlT w0 b #[.pointer (some ⟨p3, 0, none⟩), .pointer (some ⟨c4, 0, none⟩), .int .i64 S2.played, .map (some mk3)] b5 #[.int .i64 gk, .int .i64 gi, .int .i64 num, .int .i64 zx, .int .i64 er, .int .i64 gat, .slice a1 n1 c1, .int .i64 e2, .int .i64 at2, .slice a2 n2 c3, .bool gy] (1, v, l.map bv) rows V) => hV.l1 (ty := 202) 3 (by kernel_rfl) rfl
   have hcv := fun V (hV : PlT w0 b #[.pointer (some ⟨p3, 0, none⟩), .pointer (some ⟨c4, 0, none⟩), .int .i64 S2.played, .map (some mk3)] b5 #[.int .i64 gk, .int .i64 gi, .int .i64 num, .int .i64 zx, .int .i64 er, .int .i64 gat, .slice a1 n1 c1, .int .i64 e2, .int .i64 at2, .slice a2 n2 c3, .bool gy] (1, v, l.map bv) rows V) => hV.l2
   have hl2 := fun V (hV : PlT w0 b #[.pointer (some ⟨p3, 0, none⟩), .pointer (some ⟨c4, 0, none⟩), .int .i64 S2.played, .map (some mk3)] b5 #[.int .i64 gk, .int .i64 gi, .int .i64 num, .int .i64 zx, .int .i64 er, .int .i64 gat, .slice a1 n1 c1, .int .i64 e2, .int .i64 at2, .slice a2 n2 c3, .bool gy] (1, v, l.map bv) rows V) => hV.l3 (by simp)
   simp only [k_d, k_f, k_g, k_h] at hl2
   refine rT [(0, false), (1, false), (2, false), (3, true), (4, false), (5, true), (6, true)] 2 ?_
   apply Exists.intro; refine ⟨?_, ⟨_, _, HP2.out.1 _ (HP1.out _ HV.out.1), HX.out.up5.up5.up2⟩, ?_⟩
   ·iterate 7 (first | refine xE ?_ | ((apply ygj' hcv); (· (simp only [k_i, k_j, k_k]; try rfl)); (· rfl); (· rfl); (· rfl)))
    exact rfl
   clear hl hl2 hcv
   refine r1 1 7 fun K hK => ?_
   go_wp2_with fail
   refine (yig' HX.out.up5 ⟨gk, gi, ⟨num, zx, er, gat, rs1⟩, e2, at2, rs2, gy⟩ _ _ HP2.out.2 HDB.out.1).mono ?_
   rintro e w ⟨y1, y2, P9, rfl, hP9, hin9, hx⟩
   obtain ⟨a5, n5, c5, rfl⟩ := ycf' hx hin9.1
   obtain ⟨a6, n6, c6, rfl⟩ := ycf' hx hin9.2
   replace HX := Lib.hid hx
   clear hx
   have H9 := Lib.hid (show _ ∧ _ from ⟨hP9, hin9⟩)
   clear hP9 hin9
   unfold outV
   dsimp only
   go_wp2_with fail
   refine hK _ _ ⟨_, _, H9.out.1 _ (HP2.out.1 _ (HP1.out _ HV.out.1)), HX.out.up5.up2⟩ ?_
   clear hK
   obtain ⟨w9, hrun, h9⟩ := Sep.mapAdd (P := Tryz.prog) (key := .string ⟨l.toArray⟩) (v := .agg #[.int .i64 gk, .int .i64 gi, .int .i64 num, .int .i64 zx, .int .i64 er, .int .i64 gat, .slice a5 n5 c5, .int .i64 e2, .int .i64 at2, .slice a6 n6 c6, .bool gy]) HX.out.up4 Tryz.underlying202 Tryz.underlying9 (by first | trivial | rfl | exact ⟨_, rfl⟩) (fun q hq e => by
    obtain ⟨g, hg, rfl⟩ := List.mem_map.1 hq
    have h1 : (g.b, g.o) ∈ S.known := by
     rw [← HDB.out.2, ← HG3.out.1]
     exact List.mem_map.2 ⟨g, hg, rfl⟩
    rw [← HG.out.1] at h1
    obtain ⟨g2, hg2, e2⟩ := List.mem_map.1 h1
    exact HL.out.1 g2 hg2 ((congrArg Prod.fst e2).trans (yhc' e)))
   have H9 := Lib.hid (show _ ∧ _ from ⟨h9, H9.out⟩)
   clear h9
   refine r1 0 8 fun K hK => ?_
   go_wp2_with fail
   refine hK _ _ ⟨_, _, H9.out.2.1 _ (HP2.out.1 _ (HP1.out _ HV.out.1)), H9.out.1.up1.up5.up3⟩ ?_
   clear hK
   refine yaf' (by kernel_rfl) ?_ _
   replace HX := Lib.hid H9.out.1
   rename World => w
   go_wp2_with (first | refine u0 ?_ | (refine uS ?_; clear HX; intro w HX) | (refine uA ?_; clear HX; (first | (have hq := b5; clear hq; intro w b6 HX) | (have hq := b4; clear hq; intro w b5 HX) | (have hq := b3; clear hq; intro w b4 HX) | (have hq := b2; clear hq; intro w b3 HX) | (have hq := b; clear hq; intro w b2 HX) | intro w b HX)))
   refine ybe' HX rfl rfl (by (repeat (first | (with_reducible exact k_s) | (with_reducible apply k_m)))) (by kernel_rfl) ?_
   obtain ⟨-, hP9, hin9⟩ := H9.out
   have h4 := yc9' HX.out.cut5.cut5.cut5.cut5.up3 hP9
   refine ⟨_, _, _, rfl, fun q hq => hP9 q (HP2.out.1 q (HP1.out q hq)), HP2.out.2.mono hP9, ?_⟩
   refine (yfm' (b := b) (S := { S2 with known := S.known ++ [(l, ⟨gk, gi, ⟨num, zx, er, gat, rs1⟩, e2, at2, rs2, gy⟩)] }) (p := p3) (c := c4) (mk := mk3) (gs := gs3 ++ [⟨l, ⟨gk, gi, ⟨num, zx, er, gat, rs1⟩, e2, at2, rs2, gy⟩, .slice a5 n5 c5, .slice a6 n6 c6⟩]) (P := P9) (R := yab' w0 P9 :: R) ?_ ?_ ?_).up1
   ·rw [List.map_append]
    exact h4.pm 5 [3, 0, 4, 1, 2] rfl rfl
   ·rw [List.map_append, HG3.out.1, HDB.out.2]
    rfl
   ·intro g hg
    rcases List.mem_append.1 hg with hg | hg
    ·exact (HG3.out.2 g hg).mono hP9
    ·rw [List.mem_singleton] at hg
     rw [hg]
     exact hin9
end
end Go.Proofs.YtcnkifbjlihaoaaGreatDoor

namespace Go.Proofs.YtcnkifbjlihaoaaGreatDoor
open Go.RowKit Go.Av
theorem sl_x3 : SliceN Tryz.prog 90 93 11 120 := .of Tryz.underlying90 (by kernel_rfl)
theorem sl_x4 : SliceN Tryz.prog 101 71 1 24 := .of Tryz.underlying101 (by kernel_rfl)
section
variable {w0 w : World} {b : Nat} {S : ShardS} {P P' : List PRow} {R : List Thing} {rows : List (Value × Bs)}
inductive OutL (P : List PRow) : List OutS → List Value → Prop
 | nil : OutL P [] []
 | cons {o : OutS} {v1 v2 : Value} {os : List OutS} {xs : List Value} : OutIn P o v1 v2 → OutL P os xs → OutL P (o :: os) ((outV o v1 v2).toList ++ xs)
theorem OutL.mono {os : List OutS} {xs : List Value} (h : OutL P os xs) (hP : ∀ r ∈ P, r ∈ P') : OutL P' os xs := by
 induction h with
 | nil => exact .nil
 | cons h1 _ ih => exact .cons (h1.mono hP) ih
theorem OutL.snoc {os : List OutS} {xs : List Value} {o : OutS} {v1 v2 : Value} (h : OutL P os xs) (ho : OutIn P o v1 v2) : OutL P (os ++ [o]) (xs ++ (outV o v1 v2).toList) := by
 induction h with
 | nil => simpa using OutL.cons ho OutL.nil
 | cons h1 _ ih =>
  rw [List.cons_append, List.append_assoc]
  exact .cons h1 ih
theorem OutL.len {os : List OutS} {xs : List Value} (h : OutL P os xs) : xs.length = os.length * 11 := by
 induction h with
 | nil => rfl
 | cons _ _ ih => simp only [List.length_append, List.length_cons, ih]; simp [outV]; omega
theorem OutL.at {os : List OutS} {xs : List Value} (h : OutL P os xs) : ∀ {i : Nat} (hi : i < os.length), ∃ v1 v2, OutIn P os[i] v1 v2 ∧ ∀ j v, (outV os[i] v1 v2).toList[j]? = some v → xs[i * 11 + j]? = some v := by
 induction h with
 | nil => intro i hi; cases hi
 | @cons o v1 v2 os xs h1 h2 ih =>
  intro i hi
  cases i with
  | zero =>
   refine ⟨v1, v2, h1, fun j v hv => ?_⟩
   have hv : (outV o v1 v2).toList[j]? = some v := hv
   have hj := (List.getElem?_eq_some_iff.1 hv).1
   rw [Nat.zero_mul, Nat.zero_add, List.getElem?_append_left hj]
   exact hv
  | succ i =>
   obtain ⟨u1, u2, h3, h4⟩ := ih (i := i) (by simpa using hi)
   refine ⟨u1, u2, h3, fun j v hv => ?_⟩
   have hl : (outV o v1 v2).toList.length = 11 := rfl
   rw [List.getElem?_append_right (by omega), hl, show (i + 1) * 11 + j - 11 = i * 11 + j by omega]
   exact h4 j v hv
inductive RecL (P : List PRow) : List Bs → List Value → Prop
 | nil : RecL P [] []
 | cons {l : Bs} {v : Value} {ls : List Bs} {vs : List Value} : (1, v, l.map bv) ∈ P → RecL P ls vs → RecL P (l :: ls) (v :: vs)
theorem RecL.len {ls : List Bs} {vs : List Value} (h : RecL P ls vs) : vs.length = ls.length := by
 induction h with
 | nil => rfl
 | cons _ _ ih => simp [ih]
theorem RecL.mono {ls : List Bs} {vs : List Value} (h : RecL P ls vs) (hP : ∀ r ∈ P, r ∈ P') : RecL P' ls vs := by
 induction h with
 | nil => exact .nil
 | cons h1 _ ih => exact .cons (hP _ h1) ih
theorem RecL.snoc {ls : List Bs} {vs : List Value} {l : Bs} {v : Value} (h : RecL P ls vs) (hv : (1, v, l.map bv) ∈ P) : RecL P (ls ++ [l]) (vs ++ [v]) := by
 induction h with
 | nil => exact .cons hv .nil
 | cons h1 _ ih => exact .cons h1 ih
theorem RecL.at {ls : List Bs} {vs : List Value} (h : RecL P ls vs) : ∀ {i : Nat} (hi : i < ls.length), ∃ v, vs[i]? = some v ∧ (1, v, ls[i].map bv) ∈ P := by
 induction h with
 | nil => intro i hi; cases hi
 | @cons l v ls vs h1 h2 ih =>
  intro i hi
  cases i with
  | zero => exact ⟨v, rfl, h1⟩
  | succ i => exact ih (i := i) (by simpa using hi)
def yr8' (w0 : World) (b : Nat) (P : List PRow) (R : List Thing) (rows : List (Value × Bs)) (m : List OutS × ShardS) (e : Ending) (w' : World) : Prop :=
 ∃ v xs P', e = .returned v ∧ (∀ q ∈ P, q ∈ P') ∧ OutL P' m.1 xs ∧ (11, v, xs) ∈ P' ∧ Sep w0 w' (yab' w0 P' :: ybb' b m.2 P' :: R) rows
def ypo' (w0 : World) (b : Nat) (S : ShardS) (ls : List Bs) (P : List PRow) (R : List Thing) (rows : List (Value × Bs)) (k : Nat) (v5 v10 : Value) (w : World) : Prop :=
 ∃ (i : Nat) (ys : List Value) (a : Option Addr) (n c : Nat) (P' : List PRow), i + k = ls.length ∧ v5 = .slice a n c ∧ v10 = .int .i64 (i : Int) ∧ (∀ q ∈ P, q ∈ P') ∧ OutL P' (ycm' (ls.take i) S).1 ys ∧
  Sep w0 w (yai' 11 (.slice a n c) ys :: yab' w0 P' :: ybb' b (ycm' (ls.take i) S).2 P' :: R) rows
set_option maxRecDepth 100000 in
set_option maxHeartbeats 4000000 in
theorem yb7' {K : Nat} (h : Sep w0 w (yab' w0 P :: ybb' b S P :: R) rows) (hd : DoorN w0) (hB : ShB K S) (ls : List Bs) (vr : Value) (vs : List Value) (hvr : (1, vr, vs) ∈ P) (hvs : RecL P ls vs) (hK : K + ls.length ≤ 100) (hl : ∀ l ∈ ls, l.length ≤ 1000000) :
  Calls Tryz.prog 48 #[.pointer (some ⟨b, 0, none⟩), vr] w (yr8' w0 b P R rows (ycm' ls S)) := by
 obtain ⟨E, hE⟩ := h.poolGet hvr
 obtain ⟨a0, n0, c0, rfl, hl0, -, -, hne⟩ := ReadRow.some hE
 rw [hvs.len, Nat.mul_one] at hl0
 subst hl0
 have HV := Lib.hid (show _ ∧ _ ∧ _ ∧ _ ∧ _ from ⟨hvr, hvs, hB, hK, hl⟩)
 have HNE := Lib.hid hne
 have HX := Lib.hid h
 clear h hE hne hvr hvs hB hK hl
 go_enter Tryz.func48, Tryz.ntmps48
 go_wp2_with (first | refine u0 ?_ | (refine uS ?_; clear HX; intro w HX) | (refine uA ?_; clear HX; (first | (have hq := b; clear hq; intro w b2 HX) | intro w b HX)) | (refine uP ?_; clear HX; intro w av nv cv HX))
 have HST := Lib.hid (show ypo' w0 b S ls P R rows ls.length (.slice none 0 0) (.int .i64 (0 : Int)) w from ⟨0, [], none, 0, 0, P, by simp, rfl, rfl, fun q hq => hq, .nil, HX.out.nilRow 11⟩)
 clear HX
 go_loopg [5, 7, 10] ls.length (fun k v5 _ v10 wr => ypo' w0 b S ls P R rows k v5 v10 wr)
 case atStart => exact HST.out
 case round =>
  rename World => w
  obtain ⟨i, ys, a, n, c, P', hik, rfl, rfl, hP', hol, hS⟩ := hrel
  have HOL := Lib.hid (show _ ∧ _ from ⟨hP', hol⟩)
  have HX := Lib.hid hS
  clear hP' hol hS HST
  by_cases hlt : i < ls.length
  case neg =>
   obtain rfl : i = ls.length := by omega
   rw [List.take_length] at HOL HX
   clear hlt hik
   go_wp2_with (first | refine u0 ?_ | (refine uS ?_; clear HX; intro w HX) | (refine uA ?_; clear HX; (first | (have hq := b; clear hq; intro w b2 HX) | intro w b HX)) | (refine uP ?_; clear HX; intro w av nv cv HX))
   go_ret
   have h2 := HX.out.poolRow
   exact ⟨_, ys, _, rfl, fun q hq => k_n _ (HOL.out.1 q hq), HOL.out.2.mono (fun q hq => k_n _ hq), k_s, (yhz' h2.up1 (fun q hq => k_n _ hq)).up1⟩
  case pos =>
   obtain ⟨vi, m1, m2⟩ := HV.out.2.1.at hlt
   obtain ⟨g, off, rfl⟩ := HNE.out (by intro e; have e : vs = [] := e; rw [e] at m1; cases m1)
   obtain ⟨E, hE⟩ := HX.out.up1.poolGet (HOL.out.1 _ HV.out.1)
   have hl := yb5' (P := Tryz.prog) (ty := 71) (i := i) (v := vi) hE (by kernel_rfl) m1
   have htk : ls.take (i + 1) = ls.take i ++ [ls[i]] := List.take_succ_eq_append_getElem hlt
   have hlen := HV.out.2.2.2.2 _ (List.getElem_mem hlt)
   have hsb : ShB (K + i) (ycm' (ls.take i) S).2 := by
    have := yqe' (ls.take i) HV.out.2.2.1 (by have := HV.out.2.2.2.1; rw [List.length_take]; omega)
    rw [List.length_take, Nat.min_eq_left (by omega)] at this
    rw [yqd']
    exact this
   have hpl := ykk' (ls.take i) ls[i] S
   rw [← htk] at hpl
   have hlo : (ycm' (ls.take i) S).1.length = i := by rw [ykl', List.length_take, Nat.min_eq_left (by omega)]
   obtain ⟨l, hll⟩ : ∃ l, ls[i] = l := ⟨_, rfl⟩
   obtain ⟨⟨os, S1⟩, hm⟩ : ∃ m, ycm' (ls.take i) S = m := ⟨_, rfl⟩
   rw [hll] at m2 hlen hpl
   rw [hm] at hpl hsb hlo HX HOL
   dsimp only at hsb hlo HX HOL hpl
   have HLN := Lib.hid (show ys.length = i * 11 by have := HOL.out.2.len; rw [hlo] at this; exact this)
   have HBD := Lib.hid (show ∀ n, ys.length = n * 11 → n + 1 ≤ 140737488355328 ∧ (n + 1) * 120 ≤ 140737488355328 from fun n hn => by
    have := HLN.out
    have := HV.out.2.2.2.1
    omega)
   have HK := Lib.hid (show _ ∧ _ ∧ _ ∧ _ from ⟨m2, hpl, hlen, hsb⟩)
   have q0 : decide (i < ls.length) = true := decide_eq_true hlt
   have q9 : i ≤ 1000 := by have := HV.out.2.2.2.1; omega
   clear hE m1 m2 htk hpl hlen hsb hm hll hlo
   go_wp2_with (first | refine u0 ?_ | (refine uS ?_; clear HX; intro w HX) | (refine uA ?_; clear HX; (first | (have hq := b; clear hq; intro w b2 HX) | intro w b HX)) | (refine uP ?_; clear HX; intro w av nv cv HX) | ((with_reducible apply yaw' hl); (· rfl); (· rfl); simp only [Act.put, k_a, k_b, k_c]))
   refine (yrs' HX.out.up1.up2.up1 hd HK.out.2.2.2 (by have := HV.out.2.2.2.1; omega) _ l (HOL.out.1 _ HK.out.1) HK.out.2.2.1).mono ?_
   obtain ⟨⟨⟨gk, gi, ⟨num, zx, er, gat, rs1⟩, e2, at2, rs2, gy⟩, S2⟩, hm1⟩ : ∃ m1, yav' S1 l = m1 := ⟨_, rfl⟩
   rw [hm1] at HK ⊢
   rintro e w ⟨y1, y2, P9, rfl, hP9, hin9, hx⟩
   obtain ⟨a5, n5, c5, rfl⟩ := ycf' hx hin9.1
   obtain ⟨a6, n6, c6, rfl⟩ := ycf' hx hin9.2
   clear hl
   replace HX := Lib.hid hx
   clear hx
   have H9 := Lib.hid (show _ ∧ _ from ⟨hP9, hin9⟩)
   clear hP9 hin9 hm1
   unfold outV
   dsimp only at HK HX ⊢
   go_wp2_with (first | refine u0 ?_ | (refine uS ?_; clear HX; intro w HX) | (refine uA ?_; clear HX; (first | (have hq := b; clear hq; intro w b2 HX) | intro w b HX)) | (refine uP ?_; clear HX; intro w av nv cv HX))
   go_roundg (ls.length - (i + 1))
   case rel =>
    refine ⟨i + 1, ys ++ (outV ⟨gk, gi, ⟨num, zx, er, gat, rs1⟩, e2, at2, rs2, gy⟩ (.slice a5 n5 c5) (.slice a6 n6 c6)).toList, av, nv, cv, P9, by omega, rfl, by go_num, fun q hq => H9.out.1 q (HOL.out.1 q hq), ?_, ?_⟩
    ·rw [HK.out.2.1]
     exact (HOL.out.2.mono H9.out.1).snoc H9.out.2
    ·rw [HK.out.2.1]
     exact HX.out.cut1
   case measure => omega
set_option maxRecDepth 100000 in
theorem yda' {p : Nat} {c n m : Value} (h : Sep w0 w (yac' b (.cells #[.pointer (some ⟨p, 0, none⟩), c, n, m] 204 (0, 0)) :: R) rows) :
  Calls Tryz.prog 49 #[.pointer (some ⟨b, 0, none⟩)] w fun e w' => e = .returned (.pointer (some ⟨p, 0, none⟩)) ∧ w' = w := by
 have HX := Lib.hid h
 clear h
 go_enter Tryz.func49, Tryz.ntmps49
 go_wp2_with (first | refine u0 ?_ | (refine uS ?_; clear HX; intro w HX) | (refine uA ?_; clear HX; (first | (have hq := b; clear hq; intro w b2 HX) | intro w b HX)))
 go_ret
 exact ⟨rfl, rfl⟩
set_option maxRecDepth 100000 in
theorem ynz' {p c : Nat} {z : Int} {m : Value} (h : Sep w0 w (yac' b (.cells #[.pointer (some ⟨p, 0, none⟩), .pointer (some ⟨c, 0, none⟩), .int .i64 z, m] 204 (0, 0)) :: R) rows) :
  Calls Tryz.prog 100 #[.pointer (some ⟨b, 0, none⟩)] w fun e w' => e = .returned (.int .i64 z) ∧ w' = w := by
 have HX := Lib.hid h
 clear h
 go_enter Tryz.func100, Tryz.ntmps100
 go_wp2_with (first | refine u0 ?_ | (refine uS ?_; clear HX; intro w HX) | (refine uA ?_; clear HX; (first | (have hq := b; clear hq; intro w b2 HX) | intro w b HX)))
 go_ret
 exact ⟨rfl, rfl⟩
end
end Go.Proofs.YtcnkifbjlihaoaaGreatDoor

namespace Go.Proofs.YtcnkifbjlihaoaaGreatDoor
open Go.RowKit Go.Av
section
variable {w0 w : World} {b c : Nat} {S T : ShardS} {P P' Q : List PRow} {R : List Thing} {rows : List (Value × Bs)}
theorem yh0' (h : Sep w0 w (yab' w0 P' :: ybb' b S P :: R) rows) (hP : ∀ r ∈ P, r ∈ P') : Sep w0 w (yab' w0 P' :: ybb' b S P' :: R) rows := (yhz' h.up1 hP).up1
theorem yc5' (h : Sep w0 w (yab' w0 P' :: ybb' b S P :: ybb' c T Q :: R) rows) (hP : ∀ r ∈ P, r ∈ P') (hQ : ∀ r ∈ Q, r ∈ P') : Sep w0 w (yab' w0 P' :: ybb' b S P' :: ybb' c T P' :: R) rows := by
 have h2 := yhz' h.up2 hQ
 have h3 := yhz' h2.up2 hP
 exact h3.pm 3 [2, 0, 1] rfl rfl
set_option maxRecDepth 100000 in
theorem ycg' (h : Sep w0 w R rows) (id : Int) (ops : List OpS) (a : Option Addr) (n m : Nat) :
  Calls Tryz.prog 47 #[.int .i64 id, .slice a n m] w fun e w' => e = .returned (.agg (cmdV (locC id ops) (.slice a n m) (.slice none 0 0))) ∧ Sep w0 w' R rows := by
 have HX := Lib.hid h
 clear h
 go_enter Tryz.func47, Tryz.ntmps47
 go_wp2_with (first | refine u0 ?_ | (refine uS ?_; clear HX; intro w HX) | (refine uA ?_; clear HX; (first | (have hq := b; clear hq; intro w b2 HX) | intro w b HX)))
 refine ybe' HX rfl rfl (by (repeat (first | (with_reducible exact k_s) | (with_reducible apply k_m)))) (by kernel_rfl) ?_
 exact ⟨rfl, HX.out.drop⟩
def awT1 : ShardS := (yav' (ycy' 10) (putC (locC 1 [opA]))).2
set_option maxRecDepth 100000 in
theorem aw25 : ∃ rs, ycm' [putC (locC 1 [opA])] (ycy' 10) = ([⟨1, 1, ⟨1, 1, 0, -1, rs⟩, 0, 0, [], false⟩], awT1) ∧ awT1.p.t.l.length = 1 ∧ awT1.played = 1 := by
 have hf : ∀ o ∈ [opA], FitO o := fun o ho => by rw [List.mem_singleton] at ho; subst ho; exact ⟨by decide, by decide⟩
 have h := yfw' (S := ycy' 10) (id := 1) (by omega) (by omega) hf (fun e he => by cases he)
 have hm : mayS 1 1 [opA] = 0 := by kernel_rfl
 rw [if_pos hm] at h
 have h1 : ybg' (ycy' 10).p 1 1 [opA] = (⟨1, 1, 0, -1, (ybg' (newP 10) 1 1 [opA]).1.rs⟩, (ybg' (newP 10) 1 1 [opA]).2) := by kernel_rfl
 have e : awT1 = _ := congrArg Prod.snd h
 refine ⟨(ybg' (newP 10) 1 1 [opA]).1.rs, ?_, ?_, ?_⟩
 ·show ([(yav' (ycy' 10) (putC (locC 1 [opA]))).1], (yav' (ycy' 10) (putC (locC 1 [opA]))).2) = _
  rw [h, h1]
  unfold awT1
  rw [h, h1]
 ·rw [e]
  kernel_rfl
 ·rw [e]
  kernel_rfl
theorem y0x' : ShB 1 awT1 := (yf5' (ylv' 10 (by omega)) (by omega) _).2
set_option maxRecDepth 100000 in
set_option maxHeartbeats 8000000 in
theorem yf7' (hd : DoorN w) : Calls Tryz.prog 37 #[] w fun e w' => e = .returned (.bool true) ∧ Upd w w' [] [] := by
 have HX := Lib.hid ((Sep.start w).poolNew.poolNil 1)
 go_enter Tryz.func37, Tryz.ntmps37
 go_wp2_with (first | refine u0 ?_ | (refine uS ?_; clear HX; intro w HX) | (refine uA ?_; clear HX; (first | (have hq := b; clear hq; intro w b2 HX) | intro w b HX)))
 refine (yew' HX.out 10 (by omega) (by omega)).mono ?_
 rintro e w ⟨b, rfl, hx⟩
 replace HX := Lib.hid hx
 clear hx
 go_wp2_with (first | refine u0 ?_ | (refine uS ?_; clear HX; intro w HX) | (refine uA ?_; clear HX; (first | (have hq := b; clear hq; intro w b2 HX) | intro w b HX)))
 refine (ycg' HX.out 1 [opA] _ _ _).mono ?_
 rintro e w ⟨rfl, hx⟩
 replace HX := Lib.hid hx
 clear hx
 have hx := yh0' (Sep.poolCell (K := 5) (n := 1) (cs := [opA].flatMap OpS.cells) HX.out rfl (by omega)) (fun r hr => k_n _ hr)
 replace HX := Lib.hid hx
 clear hx
 unfold cmdV locC
 dsimp only
 go_wp2_with (first | refine u0 ?_ | (refine uS ?_; clear HX; intro w HX) | (refine uA ?_; clear HX; (first | (have hq := b; clear hq; intro w b2 HX) | intro w b HX)))
 refine (yb1' HX.out hd (locC 1 [opA]) _ _ k_s (k_n _ k_s) (by intro o ho; have ho : o ∈ [opA] := ho; simp at ho; subst ho; decide) (by simp [locC])).mono ?_
 rintro e w ⟨v, rfl, hx⟩
 have hx := yh0' hx.poolRow (fun r hr => k_n _ hr)
 replace HX := Lib.hid hx
 clear hx
 obtain ⟨ba, bn, bc, rfl⟩ := yah' HX.out k_s
 go_wp2_with (first | refine u0 ?_ | (refine uS ?_; clear HX; intro w HX) | (refine uA ?_; clear HX; (first | (have hq := b; clear hq; intro w b2 HX) | intro w b HX)))
 have hx := yh0' (Sep.poolCell (K := 1) (n := 1) (cs := [.slice ba bn bc]) HX.out rfl (by omega)) (fun r hr => k_n _ hr)
 replace HX := Lib.hid hx
 clear hx
 refine (yb7' HX.out hd (ylv' 10 (by omega)) [putC (locC 1 [opA])] _ _ k_s (.cons (k_n _ k_s) .nil) (by simp) (by intro l hl; rw [List.mem_singleton] at hl; subst hl; decide +kernel)).mono ?_
 obtain ⟨rs, ha, hb, hc⟩ := aw25
 rw [ha]
 have HA := Lib.hid (show _ ∧ _ from ⟨hb, hc⟩)
 clear ha hb hc
 rintro e w ⟨v, xs, P1, rfl, -, hol, hm, hx⟩
 obtain ⟨a4, n4, c4, rfl⟩ := yah' hx hm
 obtain rfl : n4 = 1 := by
  obtain ⟨E, hE⟩ := hx.poolGet hm
  obtain ⟨_, _, _, e, hl, -⟩ := ReadRow.some hE
  simp only [Value.slice.injEq] at e
  obtain ⟨-, rfl, -⟩ := e
  rw [hol.len] at hl
  simp only [List.length_cons, List.length_nil] at hl
  omega
 obtain ⟨p, c2, mk, gs, -, -, hS⟩ := yek' hx.up1
 have HM := Lib.hid (show _ ∧ _ from ⟨hol, hm⟩)
 clear HX hx hol hm
 have HX := Lib.hid hS
 clear hS
 go_upto_region 5 with (first | refine u0 ?_ | (refine uS ?_; clear HX; intro w HX) | (refine uA ?_; clear HX; (first | (have hq := b; clear hq; intro w b2 HX) | intro w b HX)))
 obtain ⟨hol, hm⟩ := HM.out
 obtain ⟨g, off, rfl, hc0, hc1, hc4⟩ : ∃ g off, a4 = some ⟨g, off, none⟩ ∧ w.cell? ⟨g, off, none⟩ = some (.int .i64 1) ∧ w.cell? ⟨g, off + 1, none⟩ = some (.int .i64 1) ∧ w.cell? ⟨g, off + 4, none⟩ = some (.int .i64 0) := by
  cases hol with
  | cons h3 h4 =>
   obtain ⟨g, off, e, hcell⟩ := yzs' HX.out.up4 hm
   exact ⟨g, off, e, hcell 0 _ rfl, hcell 1 _ rfl, hcell 4 _ rfl⟩
 clear HM hol hm
 go_wp2_with (first | refine u0 ?_ | (refine uS ?_; clear HX; intro w HX) | (refine uA ?_; clear HX; (first | (have hq := b; clear hq; intro w b2 HX) | intro w b HX)))
 refine (yda' HX.out).mono ?_
 rintro e w2 ⟨rfl, rfl⟩
 go_wp2_with (first | refine u0 ?_ | (refine uS ?_; clear HX; intro w HX) | (refine uA ?_; clear HX; (first | (have hq := b; clear hq; intro w b2 HX) | intro w b HX)))
 refine (yfg' (HX.out.up1.up4) (y0x'.p.b.tree.ok (by omega))).mono ?_
 rintro e w ⟨t, P2, rfl, -, hx⟩
 replace HX := Lib.hid hx
 clear hx
 go_wp2_with (first | refine u0 ?_ | (refine uS ?_; clear HX; intro w HX) | (refine uA ?_; clear HX; (first | (have hq := b; clear hq; intro w b2 HX) | intro w b HX)))
 refine (ygh' HX.out.up1).mono ?_
 rw [HA.out.1]
 rintro e w2 ⟨rfl, hu⟩
 have hx := HX.out.keep hu
 replace HX := Lib.hid hx
 clear hx
 go_wp2_with (first | refine u0 ?_ | (refine uS ?_; clear HX; intro w HX) | (refine uA ?_; clear HX; (first | (have hq := b; clear hq; intro w b2 HX) | intro w b HX)))
 refine (ynz' HX.out.up3).mono ?_
 rw [HA.out.2]
 rintro e w3 ⟨rfl, rfl⟩
 go_wp2_with (first | refine u0 ?_ | (refine uS ?_; clear HX; intro w HX) | (refine uA ?_; clear HX; (first | (have hq := b; clear hq; intro w b2 HX) | intro w b HX)))
 go_ret
 exact ⟨rfl, Upd.of_below HX.out.below⟩
end
end Go.Proofs.YtcnkifbjlihaoaaGreatDoor

namespace Go.Av
open Go.RowKit
theorem yqt' (id : Int) (ops : List OpS) : ydx' [] id ops = none := by
 unfold ydx'
 rw [List.findIdx?_eq_none_iff]
 intro o _
 rw [List.any_eq_false]
 intro p _
 unfold ybp'
 simp
theorem ymg' {S : PartS} (h1 : S.held = []) (h2 : S.wait = []) (h3 : S.closed = []) (id sess : Int) (ops : List OpS) : ycz' S id sess ops = (0, -1) := by
 unfold ycz'
 rw [h1, h2, h3, yqt', if_neg (by simp), if_neg (by unfold yc0'; simp)]
 dsimp only
 rw [if_neg]
 rintro ⟨-, h, -⟩
 exact absurd h (by decide)
theorem yga' (S : PartS) (sess num : Int) (ops : List OpS) : (ybg' S sess num ops).2.held = S.held ∧ (ybg' S sess num ops).2.wait = S.wait ∧ (ybg' S sess num ops).2.closed = S.closed ∧ (ybg' S sess num ops).2.decided = S.decided ∧ S.zxid ≤ (ybg' S sess num ops).2.zxid := by
 unfold ybg'
 split
 ·exact ⟨rfl, rfl, rfl, rfl, Int.le_refl _⟩
 ·split
  ·exact ⟨rfl, rfl, rfl, rfl, by dsimp only; omega⟩
  ·exact ⟨rfl, rfl, rfl, rfl, by dsimp only; omega⟩
theorem yuu' (id : Int) (ops : List OpS) : ydd' (ya7' [] id ops) id = [] := by
 unfold ydd'
 rw [List.filter_eq_nil_iff]
 intro e he
 rcases ygf' ops e he with h | h
 ·simp [h]
 ·cases h
end Go.Av
namespace Go.Proofs.YtcnkifbjlihaoaaGreatDoor
open Go.RowKit Go.Av
def KnA (S : ShardS) (Q : Int → Int → Prop) : Prop := ∀ e ∈ S.known, ∃ c, getC (putC c) = some c ∧ e.1 = putC c ∧ Q c.kind c.id
theorem KnA.add {S S' : ShardS} {Q Q' : Int → Int → Prop} (h : KnA S Q) (hq : ∀ k i, Q k i → Q' k i) {c : CmdS} {o : OutS} (hc : getC (putC c) = some c) (h1 : Q' c.kind c.id) (h2 : S'.known = S.known ++ [(putC c, o)]) : KnA S' Q' := by
 intro e he
 rw [h2] at he
 rcases List.mem_append.1 he with he | he
 ·obtain ⟨x, x1, x2, x3⟩ := h e he
  exact ⟨x, x1, x2, hq _ _ x3⟩
 ·rw [List.mem_singleton] at he
  exact ⟨c, hc, by rw [he], h1⟩
theorem KnA.mono {S S' : ShardS} {Q Q' : Int → Int → Prop} (h : KnA S Q) (hq : ∀ k i, Q k i → Q' k i) (h2 : S'.known = S.known) : KnA S' Q' := by
 intro e he
 rw [h2] at he
 obtain ⟨x, x1, x2, x3⟩ := h e he
 exact ⟨x, x1, x2, hq _ _ x3⟩
def locs (base : Int) : List OpS → ShardS → ShardS
 | [], S => S
 | o :: l, S => locs (base + 1) l (yav' S (putC (locC base [o]))).2
theorem ym7' : ∀ (l : List OpS) (base : Int) (o : OpS) (S : ShardS), locs base (l ++ [o]) S = (yav' (locs base l S) (putC (locC (base + l.length) [o]))).2
 | [], base, o, S => by
  show (yav' S (putC (locC base [o]))).2 = _
  rw [show base + (([] : List OpS).length : Nat) = base by simp]
  rfl
 | a :: l, base, o, S => by
  have ih := ym7' l (base + 1) o (yav' S (putC (locC base [a]))).2
  show locs (base + 1) (l ++ [o]) _ = _
  rw [ih, show base + 1 + (l.length : Nat) = base + ((a :: l).length : Nat) by rw [List.length_cons]; omega]
  rfl
theorem ygt' (l : List OpS) (base : Int) (S : ShardS) {i : Nat} (hi : i < l.length) : locs base (l.take (i + 1)) S = (yav' (locs base (l.take i) S) (putC (locC (base + i) [l[i]]))).2 := by
 rw [List.take_succ_eq_append_getElem hi, ym7', List.length_take, Nat.min_eq_left (Nat.le_of_lt hi)]
structure Loc (n : Nat) (S : ShardS) : Prop where
 kn : KnA S (fun k id => k = 1 ∧ 100 ≤ id ∧ id < 100 + n)
 held : S.p.held = []
 wait : S.p.wait = []
 closed : S.p.closed = []
 dec : S.p.decided = []
 zx : 0 ≤ S.p.zxid
theorem ytc' (room : Int) : Loc 0 (ycy' room) := ⟨(fun e he => by cases he), rfl, rfl, rfl, rfl, by show (0 : Int) ≤ 0; omega⟩
theorem yv5' {n : Nat} {S : ShardS} (h : Loc n S) (hn : n ≤ 1000) {o : OpS} (hf : FitO o) : Loc (n + 1) (yav' S (putC (locC (100 + n) [o]))).2 := by
 have hf' : ∀ q ∈ [o], FitO q := fun q hq => by rw [List.mem_singleton] at hq; rw [hq]; exact hf
 rw [yfw' (by omega) (by omega) hf' (fun e he => by
  obtain ⟨c, c1, c2, c3⟩ := h.kn e he
  exact ⟨c, c1, c2, .inr (by omega)⟩)]
 obtain ⟨k1, k2, k3, k4, k5⟩ := yga' S.p 1 (100 + n) [o]
 by_cases hm : mayS 1 (100 + n) [o] = 0
 ·have hg := yli' (id := 100 + n) (by omega) (by omega) hf'
  rw [if_pos hm] at hg
  rw [if_pos hm]
  exact ⟨h.kn.add (fun k i hq => ⟨hq.1, hq.2.1, by have := hq.2.2; omega⟩) hg ⟨rfl, by show (100 : Int) ≤ 100 + n; omega, by show (100 : Int) + n < 100 + ((n + 1 : Nat) : Int); omega⟩ rfl, k1.trans h.held, k2.trans h.wait, k3.trans h.closed, k4.trans h.dec, Int.le_trans h.zx k5⟩
 ·rw [if_neg hm]
  exact ⟨h.kn.mono (fun k i hq => ⟨hq.1, hq.2.1, by have := hq.2.2; omega⟩) rfl, h.held, h.wait, h.closed, h.dec, h.zx⟩
theorem ylr' {l : List OpS} (hf : ∀ o ∈ l, FitO o) (hl : l.length ≤ 1000) {S : ShardS} (h : Loc 0 S) : ∀ i, i ≤ l.length → Loc i (locs 100 (l.take i) S)
 | 0, _ => by rw [k_g]; exact h
 | i + 1, hi => by
  rw [ygt' l 100 S (by omega)]
  exact yv5' (ylr' hf hl h i (by omega)) (by omega) (hf _ (List.getElem_mem _))
theorem ynm' {S : PartS} (h1 : S.held = []) (h2 : S.wait = []) (h3 : S.closed = []) (h4 : S.decided = []) {ops : List OpS} (hm : mayS 1 1 ops = 0) : ydf' S 1 1 ops =
  (if (ya2' S.t 1 S.zxid ops).2.2 = true then (0, -1) else ((ya2' S.t 1 S.zxid ops).1.err, (ya2' S.t 1 S.zxid ops).1.at_),
  { S with held := ya7' [] 1 ops, wait := [(1, ⟨1, ops, false, !(ya2' S.t 1 S.zxid ops).2.2⟩)] }) := by
 have hk : yce' S 1 1 = false := by
  unfold yce'
  rw [h2, h4]
  rfl
 rw [ynn' hk hm (by rw [ymg' h1 h2 h3]), h1, h2]
 rfl
theorem yvn' {S : PartS} (h2 : S.wait = []) (yes : Bool) : ya9' S 1 yes = (([], 4), S) := by
 unfold ya9'
 rw [h2]
 rfl
theorem ysr' (S : PartS) (H : yby') (x : WaitS) (hc : x.close = false) (yes : Bool) : ya9' { S with held := H, wait := [(1, x)] } 1 yes =
  if (!yes || x.fails) = true then (([], 0), { S with zxid := S.zxid + 1, held := ydd' H 1, wait := [], decided := S.decided ++ [1] })
  else (((ya2' S.t x.sess (S.zxid + 1) x.ops).1.rs, 0), { S with zxid := S.zxid + 1, held := ydd' H 1, wait := [], decided := S.decided ++ [1], t := (ya2' S.t x.sess (S.zxid + 1) x.ops).2.1 }) := by
 have hl : yd1' [((1 : Int), x)] 1 = some x := by unfold yd1'; simp
 have hd : delW [((1 : Int), x)] 1 = [] := by unfold delW; simp
 unfold ya9'
 dsimp only
 rw [hl]
 dsimp only
 rw [hd]
 split
 ·rfl
 ·rw [if_neg (by rw [hc]; exact Bool.false_ne_true)]
structure RelN (m : Nat) (S T : ShardS) : Prop where
 like : Like S.p T.p
 zs : 0 ≤ S.p.zxid
 zt : 0 ≤ T.p.zxid
 held : S.p.held = []
 ks : KnA S (fun k id => k ≠ 1 ∨ id < 200 + m)
 kt : KnA T (fun k id => k ≠ 1 ∨ id < 200 + m)
theorem ytb' (S : PartS) : Like S S := ⟨rfl, rfl, rfl, rfl⟩
theorem FitO.nil : ∀ o ∈ ([] : List OpS), FitO o := fun o h => by cases h
theorem yoz' {n : Nat} {S : ShardS} (h : Loc n S) (hn : n ≤ 100) {ops : List OpS} (hf : ∀ o ∈ ops, FitO o) :
  RelN 0 (yav' (yav' S (putC (preC 1 ops))).2 (putC (decC 1 false))).2 S := by
 have kt : KnA S (fun k id => k ≠ 1 ∨ id < 200 + ((0 : Nat) : Int)) := h.kn.mono (fun k i hq => .inr (by omega)) rfl
 have e1 := yqc' (S := S) (id := 1) (by omega) (by omega) hf (fun e he => by
  obtain ⟨c, c1, c2, c3⟩ := h.kn e he
  exact ⟨c, c1, c2, .inr (by omega)⟩)
 have hgd := ylh' (id := 1) (by omega) (by omega) false
 by_cases hm : mayS 1 1 ops = 0
 ·rw [if_pos hm] at e1
  have hg := ylj' (id := 1) (by omega) (by omega) hf
  rw [if_pos hm] at hg
  rw [e1]
  dsimp only
  rw [yl1' (by omega) (by omega) false (fun e he => by
   dsimp only at he
   rcases List.mem_append.1 he with he | he
   ·obtain ⟨c, c1, c2, c3⟩ := h.kn e he
    exact ⟨c, c1, c2, .inr (by omega)⟩
   ·rw [List.mem_singleton] at he
    exact ⟨preC 1 ops, hg, by rw [he], .inl (by show ¬ (2 : Int) = 4; omega)⟩)]
  dsimp only
  have hp := ynm' h.held h.wait h.closed h.dec hm
  rw [hp]
  dsimp only
  rw [ysr' S.p _ _ rfl false, if_pos (by simp), yuu']
  dsimp only
  refine ⟨⟨rfl, ?_, ?_, rfl⟩, ?_, h.zx, rfl, ?_, kt⟩
  ·exact h.held.symm
  ·exact h.wait.symm
  ·have := h.zx
   dsimp only
   omega
  ·intro e he
   dsimp only at he
   rcases List.mem_append.1 he with he | he
   ·rcases List.mem_append.1 he with he | he
    ·exact kt e he
    ·rw [List.mem_singleton] at he
     exact ⟨preC 1 ops, hg, by rw [he], .inl (by show ¬ (2 : Int) = 1; omega)⟩
   ·rw [List.mem_singleton] at he
    exact ⟨decC 1 false, hgd, by rw [he], .inl (by show ¬ (4 : Int) = 1; omega)⟩
 ·rw [if_neg hm] at e1
  rw [e1]
  dsimp only
  rw [yl1' (by omega) (by omega) false (fun e he => by
   obtain ⟨c, c1, c2, c3⟩ := h.kn e he
   exact ⟨c, c1, c2, .inr (by omega)⟩)]
  dsimp only
  rw [yvn' h.wait]
  refine ⟨ytb' _, h.zx, h.zx, h.held, ?_, kt⟩
  exact KnA.add kt (fun k i hq => hq) hgd (.inl (by show ¬ (4 : Int) = 1; omega)) rfl
theorem yre' {m : Nat} {S T : ShardS} (h : RelN m S T) (hm : m ≤ 1000) {o : OpS} (hf : FitO o) :
  (yav' S (putC (locC (200 + m) [o]))).1.reply.err = (yav' T (putC (locC (200 + m) [o]))).1.reply.err ∧ (yav' S (putC (locC (200 + m) [o]))).1.reply.at_ = (yav' T (putC (locC (200 + m) [o]))).1.reply.at_ ∧
  (yav' S (putC (locC (200 + m) [o]))).1.reply.rs.length = (yav' T (putC (locC (200 + m) [o]))).1.reply.rs.length ∧ RelN (m + 1) (yav' S (putC (locC (200 + m) [o]))).2 (yav' T (putC (locC (200 + m) [o]))).2 := by
 have hf' : ∀ q ∈ [o], FitO q := fun q hq => by rw [List.mem_singleton] at hq; rw [hq]; exact hf
 have hk : ∀ {S : ShardS}, KnA S (fun k id => k ≠ 1 ∨ id < 200 + m) → ∀ e ∈ S.known, ∃ c, getC (putC c) = some c ∧ e.1 = putC c ∧ (c.kind ≠ 1 ∨ c.id ≠ 200 + m) := fun hh e he => by
  obtain ⟨c, c1, c2, c3⟩ := hh e he
  exact ⟨c, c1, c2, c3.imp id (fun h => by omega)⟩
 have hq : ∀ k i : Int, (k ≠ 1 ∨ i < 200 + (m : Int)) → (k ≠ 1 ∨ i < 200 + ((m + 1 : Nat) : Int)) := fun k i h => h.imp id (fun h => by omega)
 rw [yfw' (S := S) (by omega) (by omega) hf' (hk h.ks), yfw' (S := T) (by omega) (by omega) hf' (hk h.kt)]
 by_cases hmm : mayS 1 (200 + m) [o] = 0
 ·have hg := yli' (id := 200 + m) (by omega) (by omega) hf'
  rw [if_pos hmm] at hg
  rw [if_pos hmm, if_pos hmm]
  obtain ⟨a1, a2, a3, a4⟩ := yrd' h.like h.zs h.zt 1 (200 + m) [o]
  obtain ⟨k1, -, -, -, k5⟩ := yga' S.p 1 (200 + m) [o]
  obtain ⟨-, -, -, -, j5⟩ := yga' T.p 1 (200 + m) [o]
  exact ⟨a1, a2, a3, a4, Int.le_trans h.zs k5, Int.le_trans h.zt j5, k1.trans h.held, h.ks.add hq hg (.inr (by show (200 : Int) + m < 200 + ((m + 1 : Nat) : Int); omega)) rfl, h.kt.add hq hg (.inr (by show (200 : Int) + m < 200 + ((m + 1 : Nat) : Int); omega)) rfl⟩
 ·rw [if_neg hmm, if_neg hmm]
  exact ⟨rfl, rfl, rfl, h.like, h.zs, h.zt, h.held, h.ks.mono hq rfl, h.kt.mono hq rfl⟩
theorem yuj' {n : Nat} {S : ShardS} (h : Loc n S) (hn : n ≤ 100) {ops : List OpS} (hf : ∀ o ∈ ops, FitO o) {x y1 y2 : OutS × ShardS} (hx : yav' S (putC (locC 1 ops)) = x) (hy1 : yav' S (putC (preC 1 ops)) = y1) (hy2 : yav' y1.2 (putC (decC 1 true)) = y2) :
  (x.1.kind = 0 → y1.1.kind = 0) ∧ (x.1.kind ≠ 0 → y1.1.err = x.1.reply.err ∧ (x.1.reply.err ≠ 0 → y1.1.at_ = x.1.reply.at_) ∧ (x.1.reply.err = 0 → y2.1.rs.length = ops.length) ∧ x.2.p.t = y2.2.p.t) := by
 have k1 : ∀ k : Int, ∀ e ∈ S.known, ∃ c, getC (putC c) = some c ∧ e.1 = putC c ∧ (c.kind ≠ k ∨ c.id ≠ 1) := fun k e he => by
  obtain ⟨c, c1, c2, c3⟩ := h.kn e he
  exact ⟨c, c1, c2, .inr (by omega)⟩
 rw [yfw' (by omega) (by omega) hf (k1 1)] at hx
 rw [yqc' (by omega) (by omega) hf (k1 2)] at hy1
 by_cases hm : mayS 1 1 ops = 0
 ·rw [if_pos hm] at hx hy1
  have hg := ylj' (id := 1) (by omega) (by omega) hf
  rw [if_pos hm] at hg
  subst hx hy1
  dsimp only at hy2 ⊢
  rw [yl1' (by omega) (by omega) true (fun e he => by
   dsimp only at he
   rcases List.mem_append.1 he with he | he
   ·exact k1 4 e he
   ·rw [List.mem_singleton] at he
    exact ⟨preC 1 ops, hg, by rw [he], .inl (by show ¬ (2 : Int) = 4; omega)⟩)] at hy2
  subst hy2
  dsimp only
  rw [ynm' h.held h.wait h.closed h.dec hm]
  dsimp only
  rw [ysr' S.p _ _ rfl true]
  have hl : ybg' S.p 1 1 ops = ((yas' S.p.t 1 1 (S.p.zxid + 1) ops).1, { S.p with zxid := S.p.zxid + 1, t := (yas' S.p.t 1 1 (S.p.zxid + 1) ops).2 }) := by
   unfold ybg'
   rw [if_neg (fun hh => hh hm), if_neg (by rw [ymg' h.held h.wait h.closed]; simp)]
  have hr : yas' S.p.t 1 1 (S.p.zxid + 1) ops = (⟨1, S.p.zxid + 1, (ya2' S.p.t 1 (S.p.zxid + 1) ops).1.err, (ya2' S.p.t 1 (S.p.zxid + 1) ops).1.at_, (ya2' S.p.t 1 (S.p.zxid + 1) ops).1.rs⟩, (ya2' S.p.t 1 (S.p.zxid + 1) ops).2.1) := by
   unfold yas'
   rw [if_neg (fun hh => hh hm)]
  rw [hl, hr]
  dsimp only
  obtain ⟨c1, c2, c3, -, -⟩ := ymm' (S := S.p.t) (S' := S.p.t) rfl 1 h.zx (show 0 ≤ S.p.zxid + 1 by have := h.zx; omega) ops
  refine ⟨fun hk => absurd hk (by decide), fun _ => ?_⟩
  cases hb : (ya2' S.p.t 1 S.p.zxid ops).2.2 with
  | true =>
   rw [hb] at c1
   obtain ⟨m1, m2⟩ := yv7' c1.symm
   rw [if_pos rfl, if_neg (by simp)]
   dsimp only
   exact ⟨m1.symm, fun hh => absurd m1 hh, fun _ => m2, rfl⟩
  | false =>
   rw [hb] at c1
   obtain ⟨m1, -, m3⟩ := yzc' c1.symm
   rw [if_neg (by simp), if_pos (by simp)]
   dsimp only
   exact ⟨c2, fun _ => c3, fun hh => absurd hh m1, m3⟩
 ·rw [if_neg hm] at hx hy1
  subst hx hy1
  exact ⟨fun _ => rfl, fun hh => absurd rfl hh⟩
end Go.Proofs.YtcnkifbjlihaoaaGreatDoor

namespace Go.Av
open Go.RowKit
def IsOpsF (w : World) (a : Option Addr) (len cap : Nat) (l : List OpS) : Prop := IsOps w a len cap l ∧ ∀ c ∈ l, -9223372036854775808 ≤ c.ver ∧ c.ver ≤ 9223372036854775807
end Go.Av
namespace Go.Proofs.YtcnkifbjlihaoaaGreatDoor
open Go.RowKit Go.Av Go.ChangeShapes Go.WideShapes
set_option maxRecDepth 100000 in
theorem opsf_of {H : Type} {enc : TypeId × Value → H} {w : World} {base : Nat} {held : Bool} {fuel : Nat} {a : Option Addr} {len cap : Nat} {x : DataW H × List MemPlace}
  (h : DataW.trod enc Tryz.prog w base (fun _ => true) held fuel 30 [.slice a len cap] = some x) : ∃ l, IsOpsF w a len cap l := by
 obtain ⟨c1, c2, c3⟩ := ywd'
 rcases Deep.open_slice Tryz.underlying30 h with ⟨hcs, _⟩ | ⟨x, l, c, m, n, D, Pl, hcs, hb, hl, hm, hmm, hx, hi⟩
 ·cases hcs
  exact ⟨[], ⟨rfl, Nat.le_refl _, by decide, fun _ => rfl, by simp, by simp⟩, by simp⟩
 ·cases hcs
  rw [c1] at hi
  have each : ∀ i, i < len → ∃ q : OpS, (w.cell? (x.add (i * 5)) = some (.int .i64 q.kind) ∧ w.cell? (x.add (i * 5 + 1)) = some (.string q.path) ∧ w.cell? (x.add (i * 5 + 2)) = some (.string q.data) ∧
    w.cell? (x.add (i * 5 + 3)) = some (.int .i64 q.ver) ∧ w.cell? (x.add (i * 5 + 4)) = some (.int .i64 q.flags)) ∧ (q.path.size ≤ maxLen ∧ q.data.size ≤ maxLen) ∧ -9223372036854775808 ≤ q.ver ∧ q.ver ≤ 9223372036854775807 := by
   intro i hil
   obtain ⟨cs', hc, ht⟩ := hi i (by rw [hmm]; split <;> omega)
   obtain ⟨_, hcl, hat⟩ := World.cells?_some hc
   obtain ⟨ys, n', -, -, -, hyl, hf⟩ := DataW.trod_struct Tryz.underlying89 ht
   match cs', hcl with
   | [k0, k1, k2, k3, k4], _ =>
    have f0 : DataW.trod enc Tryz.prog w base (fun _ => true) held n' 3 (List.take (Tryz.prog.cellsOf 3) (List.drop 0 [k0, k1, k2, k3, k4])) = ys[0]? := hf 0 _ rfl
    have f1 : DataW.trod enc Tryz.prog w base (fun _ => true) held n' 9 (List.take (Tryz.prog.cellsOf 9) (List.drop 1 [k0, k1, k2, k3, k4])) = ys[1]? := hf 1 _ rfl
    have f2 : DataW.trod enc Tryz.prog w base (fun _ => true) held n' 9 (List.take (Tryz.prog.cellsOf 9) (List.drop 2 [k0, k1, k2, k3, k4])) = ys[2]? := hf 2 _ rfl
    have f3 : DataW.trod enc Tryz.prog w base (fun _ => true) held n' 3 (List.take (Tryz.prog.cellsOf 3) (List.drop 3 [k0, k1, k2, k3, k4])) = ys[3]? := hf 3 _ rfl
    have f4 : DataW.trod enc Tryz.prog w base (fun _ => true) held n' 3 (List.take (Tryz.prog.cellsOf 3) (List.drop 4 [k0, k1, k2, k3, k4])) = ys[4]? := hf 4 _ rfl
    rw [c2] at f0 f3 f4
    rw [c3] at f1 f2
    have hy : ∀ j, j < 5 → ∃ y, ys[j]? = some y := fun j hj => ⟨ys[j]'(by rw [hyl]; exact hj), List.getElem?_eq_getElem _⟩
    obtain ⟨y0, e0⟩ := hy 0 (by omega)
    obtain ⟨y1, e1⟩ := hy 1 (by omega)
    obtain ⟨y2, e2⟩ := hy 2 (by omega)
    obtain ⟨y3, e3⟩ := hy 3 (by omega)
    obtain ⟨y4, e4⟩ := hy 4 (by omega)
    obtain ⟨n0, g0, -, -⟩ := DataW.trod_int Tryz.underlying3 (f0.trans e0)
    obtain ⟨n1, g1, -, w1⟩ := DataW.trod_string Tryz.underlying9 (f1.trans e1)
    obtain ⟨n2, g2, -, w2⟩ := DataW.trod_string Tryz.underlying9 (f2.trans e2)
    obtain ⟨n3, g3, -, w3⟩ := DataW.trod_int Tryz.underlying3 (f3.trans e3)
    have hw3 : -9223372036854775808 ≤ n3 ∧ n3 ≤ 9223372036854775807 := by
     simp only [Lit.wf, Bool.and_eq_true, decide_eq_true_eq, show IntKind.i64.max = 9223372036854775807 by decide, show IntKind.i64.min = -9223372036854775808 by decide] at w3
     omega
    obtain ⟨n4, g4, -, -⟩ := DataW.trod_int Tryz.underlying3 (f4.trans e4)
    simp at g0 g1 g2 g3 g4
    subst g0 g1 g2 g3 g4
    refine ⟨⟨n0, n1, n2, n3, n4⟩, ⟨?_, ?_, ?_, ?_, ?_⟩, ⟨w1, w2⟩, hw3⟩
    ·have := hat 0 (by omega); rw [yel'] at this; exact this
    ·have := hat 1 (by omega); rw [yel'] at this; exact this
    ·have := hat 2 (by omega); rw [yel'] at this; exact this
    ·have := hat 3 (by omega); rw [yel'] at this; exact this
    ·have := hat 4 (by omega); rw [yel'] at this; exact this
  obtain ⟨y, hy⟩ := Deep.choose_lt each
  refine ⟨(List.range len).map y, ⟨by simp, hl, hm, by simp, ?_, ?_⟩, ?_⟩
  ·intro x' hx' i hi'
   cases hx'
   simp at hi'
   simpa using (hy i hi').1
  ·intro q hq
   obtain ⟨i, hi', rfl⟩ := List.mem_map.1 hq
   exact (hy i (List.mem_range.1 hi')).2.1
  ·intro q hq
   obtain ⟨i, hi', rfl⟩ := List.mem_map.1 hq
   exact (hy i (List.mem_range.1 hi')).2.2
end Go.Proofs.YtcnkifbjlihaoaaGreatDoor

namespace Go.Proofs.YtcnkifbjlihaoaaGreatDoor
open Go.RowKit Go.Av
section
variable {w0 w : World} {b t : Nat} {S : TreeS} {P P' : List PRow} {R : List Thing} {rows : List (Value × Bs)}
set_option maxRecDepth 100000 in
set_option maxHeartbeats 2000000 in
theorem ygv' (h : Sep w0 w (yab' w0 P :: R) rows) (l : List OpS) (v : Value) (hv : (5, v, l.flatMap OpS.cells) ∈ P) :
  Calls Tryz.prog 45 #[v] w fun e w' => e = .returned (.bool (ygu' l)) ∧ Sep w0 w' (yab' w0 P :: R) rows := by
 obtain ⟨E, hE⟩ := h.poolGet hv
 obtain ⟨a1, n1, c1, rfl, hl1, hn1, hc1, hne1⟩ := ReadRow.some hE
 rw [yau' yag'] at hl1
 obtain rfl : l.length = n1 := by omega
 have HV := Lib.hid hv
 have HN := Lib.hid hne1
 have HX := Lib.hid h
 clear h hv hE hne1 hn1 hc1 hl1
 by_cases h20 : 20 < l.length
 ·have HE := Lib.hid (show ygu' l = true by unfold ygu'; rw [decide_eq_true h20]; rfl)
  have q1 : decide (20 < l.length) = true := decide_eq_true h20
  have q2 : decide (20 < (l.length : Int)) = true := decide_eq_true (by omega)
  clear h20
  go_enter Tryz.func45, Tryz.ntmps45
  go_wp2_with (first | refine v1 ?_ | (refine vS ?_; clear HX; intro w HX) | (refine vA ?_; clear HX; (first | (have hq := b; clear hq; intro w b2 HX) | intro w b HX)))
  go_ret
  rw [HE.out]
  exact ⟨rfl, HX.out⟩
 have HE := Lib.hid (show ygu' l = l.any fun o => decide (300 < o.path.size) || decide (1100 < o.data.size) by unfold ygu'; rw [decide_eq_false h20]; rfl)
 have HL := Lib.hid (show l.length ≤ 20 by omega)
 have q1 : decide (20 < l.length) = false := decide_eq_false h20
 have q2 : decide (20 < (l.length : Int)) = false := decide_eq_false (by omega)
 clear h20
 go_enter Tryz.func45, Tryz.ntmps45
 go_wp2_with (first | refine v1 ?_ | (refine vS ?_; clear HX; intro w HX) | (refine vA ?_; clear HX; (first | (have hq := b; clear hq; intro w b2 HX) | intro w b HX)))
 go_loopg [3] l.length (fun k v3 wr => ∃ i : Nat, i + k = l.length ∧ v3 = .int .i64 (i : Int) ∧ ((l.take i).any fun o => decide (300 < o.path.size) || decide (1100 < o.data.size)) = false ∧ Sep w0 wr (yab' w0 P :: R) rows)
 case atStart => exact ⟨0, by omega, rfl, rfl, HX.out⟩
 case round =>
  rename World => w
  obtain ⟨i, hik, rfl, hno, hS⟩ := hrel
  replace HX := Lib.hid hS
  clear hS
  by_cases hlt : i < l.length
  case neg =>
   obtain rfl : i = l.length := by omega
   rw [List.take_length] at hno
   have HE2 := Lib.hid (HE.out.trans hno)
   clear hlt hik hno
   go_wp2_with (first | refine v1 ?_ | (refine vS ?_; clear HX; intro w HX) | (refine vA ?_; clear HX; (first | (have hq := b; clear hq; intro w b2 HX) | intro w b HX)))
   go_ret
   rw [HE2.out]
   exact ⟨rfl, HX.out⟩
  case pos =>
   obtain ⟨g1, o1, rfl⟩ := HN.out (by intro e; have := congrArg List.length e; rw [yau' yag'] at this; simp at this; omega)
   obtain ⟨E, hE⟩ := HX.out.poolGet HV.out
   have hx : ∀ j v, (OpS.cells l[i])[j]? = some v → (l.flatMap OpS.cells)[i * 5 + j]? = some v := fun j v hj => by
    rw [ygp' yag' l hlt (by have := (List.getElem?_eq_some_iff.1 hj).1; exact this)]
    exact hj
   have hl := yua' (P := Tryz.prog) (ty := 9) hE (by kernel_rfl) (hx 1 _ rfl)
   have hl2 := yua' (P := Tryz.prog) (ty := 9) hE (by kernel_rfl) (hx 2 _ rfl)
   have HT := Lib.hid (show l.take (i + 1) = l.take i ++ [l[i]] from List.take_succ_eq_append_getElem hlt)
   have HM := Lib.hid (List.getElem_mem hlt)
   obtain ⟨o, ho⟩ : ∃ o, l[i] = o := ⟨_, rfl⟩
   rw [ho] at hl hl2 HT HM
   have HNO := Lib.hid hno
   have q0 : decide (i < l.length) = true := decide_eq_true hlt
   have q9 : i ≤ 20 := by have := HL.out; omega
   clear hE hx ho hno
   obtain ⟨z1, h1⟩ : ∃ z, decide (300 < o.path.size) = z := ⟨_, rfl⟩
   obtain ⟨z2, h2⟩ : ∃ z, decide (1100 < o.data.size) = z := ⟨_, rfl⟩
   have h1' : decide (300 < (o.path.size : Int)) = z1 := by rw [← h1]; exact decide_eq_decide.2 (by omega)
   have h2' : decide (1100 < (o.data.size : Int)) = z2 := by rw [← h2]; exact decide_eq_decide.2 (by omega)
   by_cases hz : z1 = true ∨ z2 = true
   ·have HE2 := Lib.hid (show ygu' l = true by
     rw [HE.out]
     refine List.any_eq_true.2 ⟨o, HM.out, ?_⟩
     rw [h1, h2]
     rcases hz with h | h <;> simp [h])
    cases z1 <;> cases z2
    case false.false => exact absurd hz (by simp)
    all_goals
     clear hz
     go_wp2_with (first | refine v1 ?_ | (refine vS ?_; clear HX; intro w HX) | (refine vA ?_; clear HX; (first | (have hq := b; clear hq; intro w b2 HX) | intro w b HX)) | ((with_reducible apply yaw' hl); (· rfl); (· rfl); simp only [Act.put, k_a, k_b, k_c]) | ((with_reducible apply yaw' hl2); (· rfl); (· rfl); simp only [Act.put, k_a, k_b, k_c]))
     go_ret
     rw [HE2.out]
     exact ⟨rfl, HX.out⟩
   ·have HN2 := Lib.hid (show ((l.take (i + 1)).any fun o => decide (300 < o.path.size) || decide (1100 < o.data.size)) = false by
     rw [HT.out, List.any_append, HNO.out]
     simp only [List.any_cons, List.any_nil, Bool.or_false, Bool.false_or]
     rw [h1, h2]
     cases z1 <;> cases z2 <;> simp_all)
    obtain rfl : z1 = false := by cases z1 <;> simp_all
    obtain rfl : z2 = false := by cases z2 <;> simp_all
    clear hz
    go_wp2_with (first | refine v1 ?_ | (refine vS ?_; clear HX; intro w HX) | (refine vA ?_; clear HX; (first | (have hq := b; clear hq; intro w b2 HX) | intro w b HX)) | ((with_reducible apply yaw' hl); (· rfl); (· rfl); simp only [Act.put, k_a, k_b, k_c]) | ((with_reducible apply yaw' hl2); (· rfl); (· rfl); simp only [Act.put, k_a, k_b, k_c]))
    go_roundg (l.length - (i + 1))
    case rel => exact ⟨i + 1, by omega, by go_num, HN2.out, HX.out⟩
    case measure => omega
end
end Go.Proofs.YtcnkifbjlihaoaaGreatDoor

namespace Go.Av
open Go.RowKit
section
variable {P : Program} {ops : Array Oper} {Q : Exit → Act → World → Prop} {a : Act} {w w0 : World} {rest : List Oper} {Ts : List Thing} {rows : List (Value × Bs)} {dst : Option Tmp} {t e tyy : TypeId} {y0 y1 : Operand} {pos : String} {aft : Array Edge} {v0 v1 : Value}
theorem ypc' (H : Hid (Sep w0 w Ts rows)) {by_ : Nat} (hsl : SliceN P t e 1 by_) (h0 : a.eval y0 = v0) (h1 : a.eval y1 = v1) (e0 : v0.cells = #[v0]) (e1 : v1.cells = #[v1])
  (k : ∀ w' b, Hid (Sep w0 w' (yac' b (.cells [v0, v1].toArray e (0, 0)) :: Ts) rows) → wpList P ops Q rest (a.put dst (.slice (some ⟨b, 0, none⟩) 2 2)) w') : wpList P ops Q (⟨dst, .buildSlice t 2 #[(0, y0), (1, y1)], tyy, pos, aft, none⟩ :: rest) a w := by
 refine yup' H hsl (by omega) (by omega) (by omega) [v0, v1] (by simp [h0, h1]) rfl (fun v hv => ?_) (fun w' b HX => k w' b (by simpa [e0, e1] using HX))
 ·simp only [List.mem_cons, List.not_mem_nil, or_false] at hv
  rcases hv with rfl | rfl
  ·simp [e0]
  ·simp [e1]
end
end Go.Av
namespace Go.Proofs.YtcnkifbjlihaoaaGreatDoor
open Go.RowKit Go.Av
theorem yzu' (l : List Int) : (shB l).length = 8 + 8 * l.length := by
 unfold shB
 rw [List.length_append, ya0', ygq']
theorem ycq' (c : CmdS) (h : c.shards.length ≤ 1000) : (putC c).length ≤ 1000000 := by
 have h1 := yfx' c.rs c.rn c.ops
 have h2 := yfx' c.sess c.id c.ops
 have h3 := yzu' c.shards
 unfold putC
 repeat' split
 all_goals
  (try unfold ydk')
  simp only [List.length_append, ya0', List.length_nil]
  omega
theorem ycv' (b : Bs) (S : ShardS) : ycm' [b] S = ([(yav' S b).1], (yav' S b).2) := rfl
theorem ykm' (b b2 : Bs) (S : ShardS) : ycm' [b, b2] S = ([(yav' S b).1, (yav' (yav' S b).2 b2).1], (yav' (yav' S b).2 b2).2) := rfl
theorem ym6' {l : List OpS} : ∀ i, i ≤ l.length → i ≤ 500 → ShB i (locs 100 (l.take i) (ycy' 60))
 | 0, _, _ => by rw [k_g]; exact ylv' 60 (by omega)
 | i + 1, hi, h5 => by
  rw [ygt' l 100 _ (by omega)]
  exact (yf5' (ym6' i (by omega) (by omega)) (by omega) _).2
theorem ylw' {l : List OpS} (h : ygu' l = false) : ∀ o ∈ l, o.path.size ≤ 100000 := fun o ho => by
 have := (ybs' h).2 o ho
 omega
theorem yts' {o : OpS} (h : o.path.size ≤ 300) : ∀ q ∈ [o], q.path.size ≤ 100000 := fun q hq => by
 rw [List.mem_singleton] at hq
 subst hq
 omega
def yvc' (W : World) (l : List OpS) (rs : List PRow) (b c k : Nat) (v : Value) (w : World) : Prop :=
 ∃ (i : Nat) (P' : List PRow), i + k = l.length ∧ v = .int .i64 (i : Int) ∧ (∀ r ∈ rs, r ∈ P') ∧ Sep W w [yab' W P', ybb' b (locs 100 (l.take i) (ycy' 60)) P', ybb' c (locs 100 (l.take i) (ycy' 60)) P'] []
end Go.Proofs.YtcnkifbjlihaoaaGreatDoor
namespace Go.Proofs.YtcnkifbjlihaoaaGreatDoor
open Go.RowKit Go.Av
section
variable {w0 w : World} {b c d n K : Nat} {S T : ShardS} {P P' Q : List PRow} {R : List Thing} {rows : List (Value × Bs)}
theorem yfk' {v : Value} {xs : List Value} (h : Sep w0 w (yai' K v xs :: yab' w0 P :: ybb' b S P :: ybb' c T P :: R) rows) : ∃ P', (K, v, xs) ∈ P' ∧ (∀ r ∈ P, r ∈ P') ∧ Sep w0 w (yab' w0 P' :: ybb' b S P' :: ybb' c T P' :: R) rows :=
 ⟨_, k_s, fun r hr => k_n _ hr, yc5' h.poolRow (fun r hr => k_n _ hr) (fun r hr => k_n _ hr)⟩
theorem yco' {cs : List Value} {A : TypeId} (h : Sep w0 w (yac' d (.cells cs.toArray A (0, 0)) :: yab' w0 P :: ybb' b S P :: ybb' c T P :: R) rows) (hl : cs.length = n * K) (hn : n ≤ 1000) :
  ∃ P', (K, .slice (some ⟨d, 0, none⟩) n n, cs) ∈ P' ∧ (∀ r ∈ P, r ∈ P') ∧ Sep w0 w (yab' w0 P' :: ybb' b S P' :: ybb' c T P' :: R) rows :=
 ⟨_, k_s, fun r hr => k_n _ hr, yc5' (h.poolCell hl hn) (fun r hr => k_n _ hr) (fun r hr => k_n _ hr)⟩
theorem yg1' {os : List OutS} {xs : List Value} {v : Value} (h : Sep w0 w (yab' w0 P :: R) rows) (hol : OutL P os xs) (hm : (11, v, xs) ∈ P) (h0 : os ≠ []) : ∃ g off m, v = .slice (some ⟨g, off, none⟩) os.length m ∧
  ∀ i (hi : i < os.length), w.cell? ⟨g, off + i * 11, none⟩ = some (.int .i64 os[i].kind) ∧ w.cell? ⟨g, off + (i * 11 + 1), none⟩ = some (.int .i64 os[i].id) ∧ w.cell? ⟨g, off + (i * 11 + 3), none⟩ = some (.int .i64 os[i].reply.zxid) ∧ w.cell? ⟨g, off + (i * 11 + 4), none⟩ = some (.int .i64 os[i].reply.err) ∧ w.cell? ⟨g, off + (i * 11 + 5), none⟩ = some (.int .i64 os[i].reply.at_) ∧
   w.cell? ⟨g, off + (i * 11 + 7), none⟩ = some (.int .i64 os[i].err) ∧ w.cell? ⟨g, off + (i * 11 + 8), none⟩ = some (.int .i64 os[i].at_) ∧ (∃ a m, w.cell? ⟨g, off + (i * 11 + 6), none⟩ = some (.slice a os[i].reply.rs.length m)) ∧ ∃ a m, w.cell? ⟨g, off + (i * 11 + 9), none⟩ = some (.slice a os[i].rs.length m) := by
 obtain ⟨E, hE⟩ := h.poolGet hm
 obtain ⟨a', n', c', rfl, hl, hn, hc, ha, hr⟩ := hE
 rw [hol.len] at hl
 obtain rfl : os.length = n' := by omega
 rcases hr with ⟨h1, _⟩ | ⟨g, off, rfl, _, _, hcell⟩
 ·exfalso
  have h1 : xs = [] := h1
  have := hol.len
  rw [h1, List.length_nil] at this
  exact h0 (List.eq_nil_of_length_eq_zero (by omega))
 ·refine ⟨g, off, c', rfl, fun i hi => ?_⟩
  obtain ⟨v1, v2, ⟨⟨x1, r1, m1⟩, ⟨x2, r2, m2⟩⟩, hat⟩ := hol.at hi
  have hs : ∀ {v : Value} {rs : List ResS} {xs : List Value}, ResL P rs xs → (11, v, xs) ∈ P → ∃ a m, v = .slice a rs.length m := fun hrl hmm => by
   obtain ⟨E, hE⟩ := h.poolGet hmm
   obtain ⟨a, n, m, rfl, hl, -⟩ := ReadRow.some hE
   rw [hrl.len] at hl
   exact ⟨a, m, by congr 1; omega⟩
  obtain ⟨a1, k1, rfl⟩ := hs r1 m1
  obtain ⟨a2, k2, rfl⟩ := hs r2 m2
  exact ⟨hcell _ _ (hat 0 _ rfl), hcell _ _ (hat 1 _ rfl), hcell _ _ (hat 3 _ rfl), hcell _ _ (hat 4 _ rfl), hcell _ _ (hat 5 _ rfl), hcell _ _ (hat 7 _ rfl), hcell _ _ (hat 8 _ rfl), ⟨a1, k1, hcell _ _ (hat 6 _ rfl)⟩, ⟨a2, k2, hcell _ _ (hat 9 _ rfl)⟩⟩
def ypl' (W : World) (n : Nat) (Ts : List Thing) (k : Nat) (v : Value) (w : World) : Prop :=
 ∃ (i : Nat), i + k = n ∧ v = .int .i64 (i : Int) ∧ Sep W w Ts []
end
end Go.Proofs.YtcnkifbjlihaoaaGreatDoor
