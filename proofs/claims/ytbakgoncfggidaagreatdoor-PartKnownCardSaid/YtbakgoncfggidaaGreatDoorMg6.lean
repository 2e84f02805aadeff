/-
  Texts of this claim, laid together.
-/
import Derived.Test.YtbakgoncfggidaaGreatDoorMg5
import Derived.Deep.Matrix
import Derived.Deep.Slices
import Derived.ChangeSame
set_option linter.unusedVariables false
set_option linter.unusedSimpArgs false

namespace Go.Av
structure PartB (K : Nat) (S : PartS) : Prop where
  tree : TreeB (16 * K) S.t
  held : ∀ e ∈ S.held, goodP e.1 = true
  wait : ∀ e ∈ S.wait, e.2.ops.length ≤ 16 ∧ ∀ o ∈ e.2.ops, goodE o = 0
  many : S.wait.length ≤ K
  zx : 0 ≤ S.zxid ∧ S.zxid ≤ K
  apart : ∀ e ∈ S.wait, e.1 ∉ S.decided
  good : GoodK S.t
theorem wanted_le {W : WaitL} (h : ∀ e ∈ W, e.2.ops.length ≤ 16) : wantedW W ≤ 16 * W.length := by
  induction W with
  | nil => simp [wantedW]
  | cons e W ih =>
    have h1 := ih (fun x hx => h x (k_n _ hx))
    have h2 := h e k_s
    have h3 := creates_len e.2.ops
    unfold wantedW at h1 ⊢
    rw [List.map_cons, List.sum_cons, List.length_cons]
    split <;> omega
theorem PartB.wanted {K : Nat} {S : PartS} (h : PartB K S) : wantedW S.wait ≤ 16 * K := Nat.le_trans (wanted_le (fun e he => (h.wait e he).1)) (Nat.mul_le_mul_left _ h.many)
theorem PartB.keys {K : Nat} {S : PartS} (h : PartB K S) : ∀ e ∈ S.held, e.1.length ≤ 100000 := fun e he => Nat.le_trans (goodP_len (h.held e he)) (by omega)
def newP (room : Int) : PartS := ⟨⟨room, []⟩, [], 0, [], [], []⟩
theorem newP_b (room : Int) (h : 1 ≤ room ∧ room ≤ 500) : PartB 0 (newP room) := ⟨tree_new room h, by simp [newP], by simp [newP], by simp [newP], by simp [newP], by simp [newP], good_new room⟩
theorem may_goods {sess num : Int} {l : List OpS} (h : mayS sess num l = 0) : l.length ≤ 16 ∧ ∀ o ∈ l, goodE o = 0 := by
  unfold mayS at h
  split at h
  · cases h
  · split at h
    · cases h
    · split at h
      · rename_i h3; exact absurd h h3
      · rename_i h2 h3
        refine ⟨by omega, fun o ho => ?_⟩
        have h3 : firstE l = 0 := by simpa using h3
        unfold firstE at h3
        cases hf : l.find? (fun o => goodE o != 0) with
        | none =>
          have := List.find?_eq_none.1 hf o ho
          simpa using this
        | some q =>
          rw [hf] at h3
          have := List.find?_some hf
          rw [bne_iff_ne] at this
          exact absurd h3 this
theorem op_sizes {o : OpS} (h : goodE o = 0) : o.path.size ≤ 100000 ∧ 0 ≤ o.flags ∧ o.flags ≤ 3 := by
  obtain ⟨-, -, h3, -, h5, h6⟩ := formed_ok (goodE_ok h).1
  have := goodP_len h3
  refine ⟨?_, h5, h6⟩
  have e : o.path.size = o.p.length := by unfold OpS.p; simp
  omega
end Go.Av
namespace Go.Proofs.YtbakgoncfggidaaGreatDoor
open Go.RowKit Go.Av
section
variable {w0 w : World} {b : Nat} {S : PartS} {P P' : List PRow} {R : List Thing} {rows : List (Value × Bs)}
set_option maxRecDepth 100000 in
set_option maxHeartbeats 4000000 in
theorem partnew_any (h : Sep w0 w (ThPool w0 P :: R) rows) (room : Int) (h1 : 1 ≤ room) (h2 : room ≤ 500) :
    Calls Tryz.prog 15 #[.int .i64 room] w fun e w' => ∃ b, e = .returned (.tuple #[.pointer (some ⟨b, 0, none⟩), .int .i64 0]) ∧ Sep w0 w' (ThPool w0 P :: ThPart b (newP room) P :: R) rows := by
  have HX := Lib.hid h
  clear h
  go_enter Tryz.func15, Tryz.ntmps15
  go_wp2_with (first | go_skip | refine uK ?_ | refine uL ?_ | refine uM ?_ | (refine uS ?_; clear HX; intro w HX) | (refine uA ?_; clear HX; (first | (have hq := b3; clear hq; intro w b4 HX) | (have hq := b2; clear hq; intro w b3 HX) | (have hq := b; clear hq; intro w b2 HX) | intro w b HX)) | (refine tWN ?_; clear HX; intro w mm HX; simp only [Act.put, k_a, k_b, k_c]) | (refine tWP ?_; clear HX; intro w av nv cv HX; simp only [Act.put, k_a, k_b, k_c]))
  refine (treenew_any HX.out room h1 h2).mono ?_
  rintro e w ⟨t, rfl, hx⟩
  clear HX
  have HX := Lib.hid hx
  clear hx
  go_wp2_with (first | go_skip | refine uK ?_ | refine uL ?_ | refine uM ?_ | (refine uS ?_; clear HX; intro w HX) | (refine uA ?_; clear HX; (first | (have hq := b3; clear hq; intro w b4 HX) | (have hq := b2; clear hq; intro w b3 HX) | (have hq := b; clear hq; intro w b2 HX) | intro w b HX)) | (refine tWN ?_; clear HX; intro w mm HX; simp only [Act.put, k_a, k_b, k_c]) | (refine tWP ?_; clear HX; intro w av nv cv HX; simp only [Act.put, k_a, k_b, k_c]))
  refine (locknew_any HX.out).mono ?_
  rintro e w ⟨l, rfl, hx⟩
  clear HX
  have HX := Lib.hid hx
  clear hx
  go_wp2_with (first | ((with_reducible apply sx_makeMap (.int .i64) HX); (· rfl); clear HX; first | (have hq := mm2; clear hq; intro w mm3 HX) | (have hq := mm; clear hq; intro w mm2 HX) | intro w mm HX); simp only [Act.put, k_a, k_b, k_c] | go_skip | refine uK ?_ | refine uL ?_ | refine uM ?_ | (refine uS ?_; clear HX; intro w HX) | (refine uA ?_; clear HX; (first | (have hq := b3; clear hq; intro w b4 HX) | (have hq := b2; clear hq; intro w b3 HX) | (have hq := b; clear hq; intro w b2 HX) | intro w b HX)) | (refine tWN ?_; clear HX; intro w mm HX; simp only [Act.put, k_a, k_b, k_c]) | (refine tWP ?_; clear HX; intro w av nv cv HX; simp only [Act.put, k_a, k_b, k_c]))
  go_ret2
  refine ⟨_, rfl, ?_⟩
  exact (pt_shut (b := b) (t := t) (lk := l) (mw := mm) (md := mm2) (mc := mm3) (gs := []) (S := newP room) (R := ThPool w0 P :: R) (HX.out.pm 7 [0, 6, 4, 3, 2, 1, 5] rfl rfl) rfl (by simp)).up1
def LocPost (w0 : World) (b : Nat) (P : List PRow) (R : List Thing) (rows : List (Value × Bs)) (m : ReplyS × PartS) (e : Ending) (w' : World) : Prop :=
  ∃ v P', e = .returned v ∧ (∀ q ∈ P, q ∈ P') ∧ ReplyIn P' m.1 v ∧ Sep w0 w' (ThPool w0 P' :: ThPart b m.2 P' :: R) rows
set_option maxRecDepth 100000 in
set_option maxHeartbeats 8000000 in
theorem local_any {K : Nat} (h : Sep w0 w (ThPool w0 P :: ThPart b S P :: R) rows) (hd : DoorN w0) (hB : PartB K S) (hK : K ≤ 1000) (sess num : Int) (ops : List OpS) (v : Value) (hv : (5, v, ops.flatMap OpS.cells) ∈ P) (hp : ∀ o ∈ ops, o.path.size ≤ 100000) :
    Calls Tryz.prog 17 #[.pointer (some ⟨b, 0, none⟩), .agg #[.int .i64 sess, .int .i64 num, v]] w (LocPost w0 b P R rows (localS S sess num ops)) := by
  obtain ⟨E, hE⟩ := h.poolGet hv
  obtain ⟨a, n, c, rfl, hl0, -⟩ := ReadRow.some hE
  rw [flatG_len opcells_len] at hl0
  obtain rfl : ops.length = n := by omega
  have HV := Lib.hid (show _ ∧ _ from ⟨hv, hp⟩)
  have HB := Lib.hid (show _ ∧ _ from ⟨hB, hK⟩)
  have HX := Lib.hid h
  obtain ⟨rr, hrr⟩ : ∃ rr, localS S sess num ops = rr := ⟨_, rfl⟩
  rw [hrr]
  have HRR := Lib.hid hrr
  clear h hE hv hp hB hK hrr hl0
  obtain ⟨me, hme⟩ : ∃ me, mayS sess num ops = me := ⟨_, rfl⟩
  have HME := Lib.hid hme
  clear hme
  go_enter Tryz.func17, Tryz.ntmps17
  go_wp2_with (first | go_skip | refine uK ?_ | refine uL ?_ | refine uM ?_ | (refine uS ?_; clear HX; intro w HX) | (refine uA ?_; clear HX; (first | (have hq := b3; clear hq; intro w b4 HX) | (have hq := b2; clear hq; intro w b3 HX) | (have hq := b; clear hq; intro w b2 HX) | intro w b HX)) | (refine tWN ?_; clear HX; intro w mm HX; simp only [Act.put, k_a, k_b, k_c]) | (refine tWP ?_; clear HX; intro w av nv cv HX; simp only [Act.put, k_a, k_b, k_c]))
  refine (may_any HX.out.up2 hd sess num ops _ HV.out.1 HV.out.2).mono ?_
  rw [HME.out]
  rintro e w ⟨rfl, hx⟩
  clear HX
  have HX := Lib.hid hx
  clear hx
  by_cases h0 : me = 0
  case neg =>
    have q1 : (me != 0) = true := by rw [bne_iff_ne]; exact h0
    obtain rfl : rr = (failR num me (-1) 0, S) := by rw [← HRR.out]; unfold localS; rw [HME.out, if_pos h0]
    clear h0
    go_wp2_with (first | go_skip | refine uK ?_ | refine uL ?_ | refine uM ?_ | (refine uS ?_; clear HX; intro w HX) | (refine uA ?_; clear HX; (first | (have hq := b3; clear hq; intro w b4 HX) | (have hq := b2; clear hq; intro w b3 HX) | (have hq := b; clear hq; intro w b2 HX) | intro w b HX)) | (refine tWN ?_; clear HX; intro w mm HX; simp only [Act.put, k_a, k_b, k_c]) | (refine tWP ?_; clear HX; intro w av nv cv HX; simp only [Act.put, k_a, k_b, k_c]))
    refine (rfail_any HX.out _ _ _ _).mono ?_
    rintro e w ⟨v, P', rfl, hP', ⟨a', n', c', xs', rfl, hrl, hmem⟩, hx⟩
    clear HX
    have HX := Lib.hid hx
    have HPN := Lib.hid (show _ ∧ _ ∧ _ from ⟨hP', hrl, hmem⟩)
    clear hx hP' hrl hmem
    dsimp only at HX ⊢
    go_wp2_with (first | go_skip | refine uK ?_ | refine uL ?_ | refine uM ?_ | (refine uS ?_; clear HX; intro w HX) | (refine uA ?_; clear HX; (first | (have hq := b3; clear hq; intro w b4 HX) | (have hq := b2; clear hq; intro w b3 HX) | (have hq := b; clear hq; intro w b2 HX) | intro w b HX)) | (refine tWN ?_; clear HX; intro w mm HX; simp only [Act.put, k_a, k_b, k_c]) | (refine tWP ?_; clear HX; intro w av nv cv HX; simp only [Act.put, k_a, k_b, k_c]))
    refine sx_ret HX rfl rfl (by (repeat (first | (with_reducible exact k_s) | (with_reducible apply k_m)))) (by kernel_rfl) ?_
    exact ⟨_, P', rfl, HPN.out.1, ⟨a', n', c', xs', rfl, HPN.out.2.1, HPN.out.2.2⟩, (pt_mono HX.out.up3 HPN.out.1).pm 4 [1, 0] rfl rfl⟩
  case pos =>
    subst h0
    have HGD := Lib.hid (may_goods HME.out)
    obtain ⟨⟨be, bat⟩, hbs⟩ : ∃ r, busyS S 0 sess ops = r := ⟨_, rfl⟩
    have HR2 := Lib.hid (show rr = if be ≠ 0 then ({ failR num be bat ops.length with zxid := S.zxid + 1 }, { S with zxid := S.zxid + 1 }) else ((requestT S.t sess num (S.zxid + 1) ops).1, { S with zxid := S.zxid + 1, t := (requestT S.t sess num (S.zxid + 1) ops).2 }) by
      rw [← HRR.out]; unfold localS; rw [HME.out, hbs]; exact if_neg (fun hh => hh rfl))
    have HBS := Lib.hid (show busyS { S with zxid := S.zxid + 1 } 0 sess ops = (be, bat) from hbs)
    obtain ⟨t, lk, mw, md, mc, gs, hgs, hgv, hS⟩ := pt_open HX.out.up3
    have HG := Lib.hid (show _ ∧ _ from ⟨hgs, hgv⟩)
    have hz1 := HB.out.1.zx.1
    have hz2 : S.zxid ≤ 1000 := by have := HB.out.1.zx.2; have := HB.out.2; omega
    clear HX hgs hgv hbs HRR
    have HX := Lib.hid hS
    clear hS
    simp only [ptCells] at HX
    go_wp2_with (first | go_skip | refine uK ?_ | refine uL ?_ | refine uM ?_ | (refine uS ?_; clear HX; intro w HX) | (refine uA ?_; clear HX; (first | (have hq := b3; clear hq; intro w b4 HX) | (have hq := b2; clear hq; intro w b3 HX) | (have hq := b; clear hq; intro w b2 HX) | intro w b HX)) | (refine tWN ?_; clear HX; intro w mm HX; simp only [Act.put, k_a, k_b, k_c]) | (refine tWP ?_; clear HX; intro w av nv cv HX; simp only [Act.put, k_a, k_b, k_c]))
    have h9 := (pt_shut (b := b) (t := t) (lk := lk) (mw := mw) (md := md) (mc := mc) (gs := gs) (S := { S with zxid := S.zxid + 1 }) HX.out HG.out.1 HG.out.2).up1
    clear HX
    have HX := Lib.hid h9
    clear h9
    refine (busy_any HX.out hd 0 sess ops _ HV.out.1 (fun o ho => op_sizes (HGD.out.2 o ho)) (by have := HGD.out.1; omega) HB.out.1.keys (by have := HB.out.1.wanted; have := HB.out.2; show wantedW S.wait ≤ _; omega) (fun e he => by have := (HB.out.1.wait e he).1; omega) ⟨HB.out.1.tree.many, HB.out.1.tree.room.2⟩).mono ?_
    rw [HBS.out]
    rintro e w ⟨P2, rfl, hP2, hx⟩
    clear HX
    have HX := Lib.hid hx
    have HP2 := Lib.hid hP2
    clear hx hP2
    by_cases h0 : be = 0
    case neg =>
      have q1 : (be != 0) = true := by rw [bne_iff_ne]; exact h0
      obtain rfl : rr = ({ failR num be bat ops.length with zxid := S.zxid + 1 }, { S with zxid := S.zxid + 1 }) := by rw [HR2.out, if_pos h0]
      clear h0
      go_wp2_with (first | go_skip | refine uK ?_ | refine uL ?_ | refine uM ?_ | (refine uS ?_; clear HX; intro w HX) | (refine uA ?_; clear HX; (first | (have hq := b3; clear hq; intro w b4 HX) | (have hq := b2; clear hq; intro w b3 HX) | (have hq := b; clear hq; intro w b2 HX) | intro w b HX)) | (refine tWN ?_; clear HX; intro w mm HX; simp only [Act.put, k_a, k_b, k_c]) | (refine tWP ?_; clear HX; intro w av nv cv HX; simp only [Act.put, k_a, k_b, k_c]))
      refine (rfail_any HX.out _ _ _ _).mono ?_
      rintro e w ⟨v, P', rfl, hP', ⟨a', n', c', xs', rfl, hrl, hmem⟩, hx⟩
      have HPN := Lib.hid (show _ ∧ _ ∧ _ from ⟨hP', hrl, hmem⟩)
      obtain ⟨t, lk, mw, md, mc, gs, hgs, hgv, hS⟩ := pt_open hx.up1
      have HG := Lib.hid (show _ ∧ _ from ⟨hgs, hgv⟩)
      clear HX hx hP' hrl hmem hgs hgv
      have HX := Lib.hid hS
      clear hS
      simp only [ptCells] at HX
      dsimp only
      go_wp2_with (first | go_skip | refine uK ?_ | refine uL ?_ | refine uM ?_ | (refine uS ?_; clear HX; intro w HX) | (refine uA ?_; clear HX; (first | (have hq := b3; clear hq; intro w b4 HX) | (have hq := b2; clear hq; intro w b3 HX) | (have hq := b; clear hq; intro w b2 HX) | intro w b HX)) | (refine tWN ?_; clear HX; intro w mm HX; simp only [Act.put, k_a, k_b, k_c]) | (refine tWP ?_; clear HX; intro w av nv cv HX; simp only [Act.put, k_a, k_b, k_c]))
      refine sx_ret HX rfl rfl (by (repeat (first | (with_reducible exact k_s) | (with_reducible apply k_m)))) (by kernel_rfl) ?_
      exact ⟨_, P', rfl, fun q hq => HPN.out.1 q (HP2.out q hq), ⟨a', n', c', xs', rfl, HPN.out.2.1, HPN.out.2.2⟩, (pt_mono (pt_shut (b := b) (t := t) (lk := lk) (mw := mw) (md := md) (mc := mc) (gs := gs) (S := { S with zxid := S.zxid + 1 }) HX.out.drop HG.out.1 HG.out.2) HPN.out.1).pm 4 [1, 0] rfl rfl⟩
    case pos =>
      subst h0
      obtain rfl : rr = ((requestT S.t sess num (S.zxid + 1) ops).1, { S with zxid := S.zxid + 1, t := (requestT S.t sess num (S.zxid + 1) ops).2 }) := by rw [HR2.out, if_neg (fun hh => hh rfl)]
      go_wp2_with (first | go_skip | refine uK ?_ | refine uL ?_ | refine uM ?_ | (refine uS ?_; clear HX; intro w HX) | (refine uA ?_; clear HX; (first | (have hq := b3; clear hq; intro w b4 HX) | (have hq := b2; clear hq; intro w b3 HX) | (have hq := b; clear hq; intro w b2 HX) | intro w b HX)) | (refine tWN ?_; clear HX; intro w mm HX; simp only [Act.put, k_a, k_b, k_c]) | (refine tWP ?_; clear HX; intro w av nv cv HX; simp only [Act.put, k_a, k_b, k_c]))
      obtain ⟨t, lk, mw, md, mc, gs, hgs, hgv, hS⟩ := pt_open HX.out.up1
      have HG := Lib.hid (show _ ∧ _ from ⟨hgs, hgv⟩)
      obtain ⟨R', hR'⟩ : ∃ R', ThLk lk S.held :: ThMap (.int .i64) mw (gs.map WaitG.kv) :: ThMap (.int .i64) md (S.decided.map ikv) :: ThMap (.int .i64) mc (S.closed.map ikv) :: R = R' := ⟨_, rfl⟩
      have h3 : Sep w0 w (ThPool w0 P2 :: ThTree t S.t P2 :: ThCell b (.cells (ptCells S.t.room t lk (S.zxid + 1) mw md mc) 128 (0, 0)) :: ThCell b2 (.cells #[.int .i64 sess, .int .i64 num, .slice a ops.length c] 37 (0, 0)) :: ThCell b3 (.cells #[.int .i64 0, .int .i64 0, .int .i64 0, .int .i64 0, .slice none 0 0] 34 (0, 0)) :: R') rows := by
        rw [← hR']
        exact hS.pm 9 [6, 1, 0, 8, 7, 2, 3, 4, 5] rfl rfl
      have HRR2 := Lib.hid hR'
      clear HX hgs hgv hS hR'
      have HX := Lib.hid h3
      clear h3
      refine wp_region_M (fun W => (∃ Ts, Sep w0 W (ThCell b (.cells (ptCells S.t.room t lk (S.zxid + 1) mw md mc) 128 (0, 0)) :: ThCell b2 (.cells #[.int .i64 sess, .int .i64 num, .slice a ops.length c] 37 (0, 0)) :: Ts) rows)) 10 (by kernel_rfl) ?_
      have KEEPX : ∀ W, (∃ Ts, Sep w0 W (ThCell b (.cells (ptCells S.t.room t lk (S.zxid + 1) mw md mc) 128 (0, 0)) :: ThCell b2 (.cells #[.int .i64 sess, .int .i64 num, .slice a ops.length c] 37 (0, 0)) :: Ts) rows) → (∃ Ts, Sep w0 W (ThCell b (.cells (ptCells S.t.room t lk (S.zxid + 1) mw md mc) 128 (0, 0)) :: ThCell b2 (.cells #[.int .i64 sess, .int .i64 num, .slice a ops.length c] 37 (0, 0)) :: Ts) rows) := fun _ h => h
      replace HX := Lib.hid HX.out.drew
      have hl : ∀ V, (∃ Ts, Sep w0 V (ThCell b (.cells (ptCells S.t.room t lk (S.zxid + 1) mw md mc) 128 (0, 0)) :: ThCell b2 (.cells #[.int .i64 sess, .int .i64 num, .slice a ops.length c] 37 (0, 0)) :: Ts) rows) → (Instr.loadAt 53 (.pointer (some ⟨b, 1, none⟩))).run Tryz.prog V = .ok (.pointer (some ⟨t, 0, none⟩)) V := by
        rintro V ⟨Ts, hV⟩
        exact run_load_scalar (by kernel_rfl) (cell_of hV.blk 1 rfl)
      have hl2 : ∀ V, (∃ Ts, Sep w0 V (ThCell b (.cells (ptCells S.t.room t lk (S.zxid + 1) mw md mc) 128 (0, 0)) :: ThCell b2 (.cells #[.int .i64 sess, .int .i64 num, .slice a ops.length c] 37 (0, 0)) :: Ts) rows) → (Instr.loadAt 37 (.pointer (some ⟨b2, 0, none⟩))).run Tryz.prog V = .ok (.agg #[.int .i64 sess, .int .i64 num, .slice a ops.length c]) V := by
        rintro V ⟨Ts, hV⟩
        exact run_load_struct (i := 0) sn_req.1 hV.up1.blk (by simp)
      have hl3 : ∀ V, (∃ Ts, Sep w0 V (ThCell b (.cells (ptCells S.t.room t lk (S.zxid + 1) mw md mc) 128 (0, 0)) :: ThCell b2 (.cells #[.int .i64 sess, .int .i64 num, .slice a ops.length c] 37 (0, 0)) :: Ts) rows) → (Instr.loadAt 2 (.pointer (some ⟨b, 3, none⟩))).run Tryz.prog V = .ok (.int .i64 (S.zxid + 1)) V := by
        rintro V ⟨Ts, hV⟩
        exact run_load_scalar (by kernel_rfl) (cell_of hV.blk 3 rfl)
      refine wpAnyM_take (by kernel_rfl) (by intro c a d v w h; cases d <;> exact h) [(0, false), (1, false), (2, false), (3, true), (4, true), (5, false), (6, false), (7, false), (8, true)] (fuel := 2) (by kernel_rfl) ?_
      apply Exists.intro; refine ⟨?_, ⟨_, HX.out.up3.up3⟩, ?_⟩
      · iterate 9 (refine xE ?_)
        exact rfl
      clear hl hl2 hl3
      refine wpAnyM_one (fuel := 1) (i := 9) (by kernel_rfl) (by (simp only [k_i, k_j, k_k]; try rfl)) (fun K hK => ?_)
      go_wp2_with fail
      have hrq := request_any HX.out hd HB.out.1.tree (by have := HB.out.2; omega) sess num (S.zxid + 1) ops _ (HP2.out _ HV.out.1) HV.out.2
      obtain ⟨⟨⟨n1, z1, e1, t1, rs1⟩, S2⟩, hm1⟩ : ∃ m1, requestT S.t sess num (S.zxid + 1) ops = m1 := ⟨_, rfl⟩
      have hroom : S2.room = S.t.room := by have := request_room S.t sess num (S.zxid + 1) ops; rw [hm1] at this; exact this
      rw [hm1] at hrq
      have HM1 := Lib.hid (show _ ∧ _ from ⟨hm1, hroom⟩)
      refine hrq.mono ?_
      clear hrq hm1 hroom
      rintro e w ⟨v, P', rfl, hP', ⟨a', n', c', xs', rfl, hrl, hmem⟩, hx⟩
      clear HX
      have HX := Lib.hid hx
      have HPN := Lib.hid (show _ ∧ _ ∧ _ from ⟨hP', hrl, hmem⟩)
      clear hx hP' hrl hmem
      dsimp only at HX HPN ⊢
      go_wp2_with fail
      refine hK _ _ ⟨_, HX.out.up3.up3⟩ ?_
      clear hK
      refine wpAnyM_of_any _ _ _ _ (by decide) ?_
      refine wpAny_list [10] (fuel := 0) (by kernel_rfl) ?_
      simp only [List.filterMap_cons, List.filterMap_nil, k_i, k_j, k_k]
      (with_reducible apply sx_storeS HX)
      · rfl
      · rfl
      · rfl
      · kernel_rfl
      · (repeat (first | (with_reducible exact Rep.here) | (with_reducible apply Rep.there)))
      · rfl
      · rfl
      clear HX
      intro w HX
      simp only [Act.put, k_a, k_b, k_c, setMany, Nat.reduceAdd] at HX ⊢
      go_wp2_with (first | go_skip | refine uK ?_ | refine uL ?_ | refine uM ?_ | (refine uS ?_; clear HX; intro w HX) | (refine uA ?_; clear HX; (first | (have hq := b3; clear hq; intro w b4 HX) | (have hq := b2; clear hq; intro w b3 HX) | (have hq := b; clear hq; intro w b2 HX) | intro w b HX)) | (refine tWN ?_; clear HX; intro w mm HX; simp only [Act.put, k_a, k_b, k_c]) | (refine tWP ?_; clear HX; intro w av nv cv HX; simp only [Act.put, k_a, k_b, k_c]))
      refine sx_ret HX rfl rfl (by (repeat (first | (with_reducible exact k_s) | (with_reducible apply k_m)))) (by kernel_rfl) ?_
      have h5 := HX.out
      rw [← HRR2.out] at h5
      rw [HM1.out.1]
      refine ⟨_, P', rfl, fun q hq => HPN.out.1 q (HP2.out q hq), ⟨a', n', c', xs', rfl, HPN.out.2.1, HPN.out.2.2⟩, ?_⟩
      refine (pt_shut (b := b) (t := t) (lk := lk) (mw := mw) (md := md) (mc := mc) (gs := gs) (S := { S with zxid := S.zxid + 1, t := S2 }) (R := ThPool w0 P' :: R) ?_ HG.out.1 (fun g hg => HPN.out.1 _ (HG.out.2 g hg))).up1
      show Sep w0 w (ThCell b (.cells (ptCells S2.room t lk (S.zxid + 1) mw md mc) 128 (0, 0)) :: _) rows
      rw [HM1.out.2]
      exact h5.pm 9 [2, 1, 5, 6, 7, 8, 0] rfl rfl
end
end Go.Proofs.YtbakgoncfggidaaGreatDoor

namespace Go.Av
open Go.RowKit
theorem has_gs (gs : List WaitG) (id : Int) : hasW (gs.map WaitG.ent) id = gs.any fun g => g.id == id := by unfold hasW; rw [List.any_map]; rfl
end Go.Av
namespace Go.Proofs.YtbakgoncfggidaaGreatDoor
open Go.RowKit Go.Av
section
variable {w0 w : World} {b : Nat} {S : PartS} {P P' : List PRow} {R : List Thing} {rows : List (Value × Bs)}
theorem zeroPrep (w : World) : (zeroValue 139).run Tryz.prog w = .ok (.agg #[.int .i64 0, .slice none 0 0, .bool false, .bool false]) w := by kernel_rfl
theorem wait_none {gs : List WaitG} {m : Nat} (h : Sep w0 w (ThMap (.int .i64) m (gs.map WaitG.kv) :: R) rows) (id : Int) (hn : ∀ g ∈ gs, g.id ≠ id) :
    (Instr.lookup 125 (.map (some m)) (.int .i64 id) true).run Tryz.prog w = .ok (.tuple #[.agg #[.int .i64 0, .slice none 0 0, .bool false, .bool false], .bool false]) w :=
  mp_lookN h.mapIs Tryz.underlying125 Tryz.underlying2 (key := .int .i64 id) (by first | trivial | rfl | exact ⟨_, rfl⟩) (fun q hq e => by
    obtain ⟨g, hg, rfl⟩ := List.mem_map.1 hq
    simp only [WaitG.kv, Value.int.injEq, true_and] at e
    exact hn g hg e) (zeroPrep w) true
theorem wait_some {gs : List WaitG} {m : Nat} (h : Sep w0 w (ThMap (.int .i64) m (gs.map WaitG.kv) :: R) rows) {g : WaitG} (hg : g ∈ gs) :
    (Instr.lookup 125 (.map (some m)) (.int .i64 g.id) true).run Tryz.prog w = .ok (.tuple #[.agg #[.int .i64 g.x.sess, g.v, .bool g.x.close, .bool g.x.fails], .bool true]) w :=
  mp_look h.mapIs Tryz.underlying125 Tryz.underlying2 (key := .int .i64 g.id) (by first | trivial | rfl | exact ⟨_, rfl⟩) (List.mem_map.2 ⟨g, hg, rfl⟩) true
set_option maxRecDepth 100000 in
set_option maxHeartbeats 8000000 in
theorem known_any (h : Sep w0 w (ThPool w0 P :: ThPart b S P :: R) rows) (id sess : Int) :
    Calls Tryz.prog 71 #[.pointer (some ⟨b, 0, none⟩), .int .i64 id, .int .i64 sess] w fun e w' => e = .returned (.bool (knownS S id sess)) ∧ Sep w0 w' (ThPool w0 P :: ThPart b S P :: R) rows := by
  obtain ⟨t, lk, mw, md, mc, gs, hgs, hgv, hS⟩ := pt_open h.up1
  have HG := Lib.hid (show _ ∧ _ from ⟨hgs, hgv⟩)
  by_cases hin : ∃ g ∈ gs, g.id = id
  · obtain ⟨g, hg, rfl⟩ := hin
    have hk := wait_some hS.up3 hg
    have HHW := Lib.hid (show hasW S.wait g.id = true by rw [← hgs, has_gs]; exact List.any_eq_true.2 ⟨g, hg, beq_self_eq_true _⟩)
    obtain ⟨E, hE⟩ := hS.up6.poolGet (hgv g hg)
    obtain ⟨ga, gn, gc, hvs, -⟩ := ReadRow.some hE
    obtain ⟨id, ⟨gs1, gops, gcl, gfa⟩, gv⟩ := g
    dsimp only at hvs hk HHW ⊢
    subst hvs
    have HX := Lib.hid hS
    clear h hgs hgv hS hE hg
    go_enter Tryz.func71, Tryz.ntmps71
    go_upto_region 2 with (first | go_skip | refine uK ?_ | refine uL ?_ | refine uM ?_ | (refine uS ?_; clear HX; intro w HX) | (refine uA ?_; clear HX; (first | (have hq := b; clear hq; intro w b2 HX) | intro w b HX)) | (refine tWN ?_; clear HX; intro w mm HX; simp only [Act.put, k_a, k_b, k_c]) | (refine tWP ?_; clear HX; intro w av nv cv HX; simp only [Act.put, k_a, k_b, k_c]))
    have hk2 := num_look HX.out.up5 id
    obtain ⟨zd, hzd⟩ : ∃ z, decide (id ∈ S.decided) = z := ⟨_, rfl⟩
    rw [hzd] at hk2
    have HZD := Lib.hid hzd
    clear hk hzd
    obtain ⟨z1, hz1⟩ : ∃ z, decide (id < 1) = z := ⟨_, rfl⟩
    obtain ⟨z2, hz2⟩ : ∃ z, decide (sess < 1) = z := ⟨_, rfl⟩
    have HKN := Lib.hid (show knownS S id sess = (z1 || (z2 || (true || zd))) by unfold knownS; rw [hz1, hz2, HHW.out, HZD.out])
    cases z1 <;> cases z2 <;> cases zd
    all_goals
      go_wp2_with (first | go_skip | refine uK ?_ | refine uL ?_ | refine uM ?_ | (refine uS ?_; clear HX; intro w HX) | (refine uA ?_; clear HX; (first | (have hq := b; clear hq; intro w b2 HX) | intro w b HX)) | (refine tWN ?_; clear HX; intro w mm HX; simp only [Act.put, k_a, k_b, k_c]) | (refine tWP ?_; clear HX; intro w av nv cv HX; simp only [Act.put, k_a, k_b, k_c]))
      go_ret
      rw [HKN.out]
      exact ⟨rfl, (pt_shut (b := b) (t := t) (lk := lk) (mw := mw) (md := md) (mc := mc) (gs := gs) (S := S) (R := ThPool w0 P :: R) HX.out.drop HG.out.1 HG.out.2).up1⟩
  · have hk := wait_none hS.up3 id (fun g hg e => hin ⟨g, hg, e⟩)
    have HHW := Lib.hid (show hasW S.wait id = false by rw [← hgs, has_gs, List.any_eq_false]; intro g hg e; exact hin ⟨g, hg, by simpa using e⟩)
    have HX := Lib.hid hS
    clear h hgs hgv hS hin
    go_enter Tryz.func71, Tryz.ntmps71
    go_upto_region 2 with (first | go_skip | refine uK ?_ | refine uL ?_ | refine uM ?_ | (refine uS ?_; clear HX; intro w HX) | (refine uA ?_; clear HX; (first | (have hq := b; clear hq; intro w b2 HX) | intro w b HX)) | (refine tWN ?_; clear HX; intro w mm HX; simp only [Act.put, k_a, k_b, k_c]) | (refine tWP ?_; clear HX; intro w av nv cv HX; simp only [Act.put, k_a, k_b, k_c]))
    have hk2 := num_look HX.out.up5 id
    obtain ⟨zd, hzd⟩ : ∃ z, decide (id ∈ S.decided) = z := ⟨_, rfl⟩
    rw [hzd] at hk2
    have HZD := Lib.hid hzd
    clear hk hzd
    obtain ⟨z1, hz1⟩ : ∃ z, decide (id < 1) = z := ⟨_, rfl⟩
    obtain ⟨z2, hz2⟩ : ∃ z, decide (sess < 1) = z := ⟨_, rfl⟩
    have HKN := Lib.hid (show knownS S id sess = (z1 || (z2 || (false || zd))) by unfold knownS; rw [hz1, hz2, HHW.out, HZD.out])
    cases z1 <;> cases z2 <;> cases zd
    all_goals
      go_wp2_with (first | go_skip | refine uK ?_ | refine uL ?_ | refine uM ?_ | (refine uS ?_; clear HX; intro w HX) | (refine uA ?_; clear HX; (first | (have hq := b; clear hq; intro w b2 HX) | intro w b HX)) | (refine tWN ?_; clear HX; intro w mm HX; simp only [Act.put, k_a, k_b, k_c]) | (refine tWP ?_; clear HX; intro w av nv cv HX; simp only [Act.put, k_a, k_b, k_c]))
      go_ret
      rw [HKN.out]
      exact ⟨rfl, (pt_shut (b := b) (t := t) (lk := lk) (mw := mw) (md := md) (mc := mc) (gs := gs) (S := S) (R := ThPool w0 P :: R) HX.out.drop HG.out.1 HG.out.2).up1⟩
set_option maxRecDepth 100000 in
theorem zxid_any (h : Sep w0 w (ThPart b S P :: R) rows) : Calls Tryz.prog 24 #[.pointer (some ⟨b, 0, none⟩)] w fun e w' => e = .returned (.int .i64 S.zxid) ∧ Sep w0 w' (ThPart b S P :: R) rows := by
  obtain ⟨t, lk, mw, md, mc, gs, hgs, hgv, hS⟩ := pt_open h
  have HX := Lib.hid hS
  clear h hS
  go_enter Tryz.func24, Tryz.ntmps24
  go_wp2_with (first | go_skip | refine uK ?_ | refine uL ?_ | refine uM ?_ | (refine uS ?_; clear HX; intro w HX) | (refine uA ?_; clear HX; (first | (have hq := b; clear hq; intro w b2 HX) | intro w b HX)) | (refine tWN ?_; clear HX; intro w mm HX; simp only [Act.put, k_a, k_b, k_c]) | (refine tWP ?_; clear HX; intro w av nv cv HX; simp only [Act.put, k_a, k_b, k_c]))
  go_ret
  exact ⟨rfl, pt_shut HX.out hgs hgv⟩
set_option maxRecDepth 100000 in
theorem plocks_any (h : Sep w0 w (ThPart b S P :: R) rows) : Calls Tryz.prog 22 #[.pointer (some ⟨b, 0, none⟩)] w fun e w' => e = .returned (.int .i64 (S.held.length : Nat)) ∧ Sep w0 w' (ThPart b S P :: R) rows := by
  obtain ⟨t, lk, mw, md, mc, gs, hgs, hgv, hS⟩ := pt_open h
  have HX := Lib.hid hS
  clear h hS
  go_enter Tryz.func22, Tryz.ntmps22
  go_wp2_with (first | go_skip | refine uK ?_ | refine uL ?_ | refine uM ?_ | (refine uS ?_; clear HX; intro w HX) | (refine uA ?_; clear HX; (first | (have hq := b; clear hq; intro w b2 HX) | intro w b HX)) | (refine tWN ?_; clear HX; intro w mm HX; simp only [Act.put, k_a, k_b, k_c]) | (refine tWP ?_; clear HX; intro w av nv cv HX; simp only [Act.put, k_a, k_b, k_c]))
  refine (locklen_any HX.out.up2).mono ?_
  rintro e w ⟨rfl, hx⟩
  clear HX
  have HX := Lib.hid hx
  clear hx
  go_wp2_with (first | go_skip | refine uK ?_ | refine uL ?_ | refine uM ?_ | (refine uS ?_; clear HX; intro w HX) | (refine uA ?_; clear HX; (first | (have hq := b; clear hq; intro w b2 HX) | intro w b HX)) | (refine tWN ?_; clear HX; intro w mm HX; simp only [Act.put, k_a, k_b, k_c]) | (refine tWP ?_; clear HX; intro w av nv cv HX; simp only [Act.put, k_a, k_b, k_c]))
  go_ret
  exact ⟨rfl, pt_shut HX.out.up2.up2 hgs hgv⟩
def PTrPost (w0 : World) (b : Nat) (S : PartS) (P : List PRow) (R : List Thing) (rows : List (Value × Bs)) (e : Ending) (w' : World) : Prop :=
  ∃ c P', e = .returned (.pointer (some ⟨c, 0, none⟩)) ∧ (∀ q ∈ P, q ∈ P') ∧ Sep w0 w' (ThPool w0 P' :: ThTree c S.t P' :: ThPart b S P' :: R) rows
set_option maxRecDepth 100000 in
set_option maxHeartbeats 4000000 in
theorem ptree_any (h : Sep w0 w (ThPool w0 P :: ThPart b S P :: R) rows) (hok : ∀ e ∈ S.t.l, NodeOk e.2) : Calls Tryz.prog 28 #[.pointer (some ⟨b, 0, none⟩)] w (PTrPost w0 b S P R rows) := by
  obtain ⟨t, lk, mw, md, mc, gs, hgs, hgv, hS⟩ := pt_open h.up1
  have HX := Lib.hid hS
  clear h hS
  go_enter Tryz.func28, Tryz.ntmps28
  go_wp2_with (first | go_skip | refine uK ?_ | refine uL ?_ | refine uM ?_ | (refine uS ?_; clear HX; intro w HX) | (refine uA ?_; clear HX; (first | (have hq := b; clear hq; intro w b2 HX) | intro w b HX)) | (refine tWN ?_; clear HX; intro w mm HX; simp only [Act.put, k_a, k_b, k_c]) | (refine tWP ?_; clear HX; intro w av nv cv HX; simp only [Act.put, k_a, k_b, k_c]))
  refine (treecopy_any HX.out.up1.up6 hok).mono ?_
  rintro e w ⟨c, P', rfl, hP', hx⟩
  clear HX
  have HX := Lib.hid hx
  clear hx
  go_wp2_with (first | go_skip | refine uK ?_ | refine uL ?_ | refine uM ?_ | (refine uS ?_; clear HX; intro w HX) | (refine uA ?_; clear HX; (first | (have hq := b; clear hq; intro w b2 HX) | intro w b HX)) | (refine tWN ?_; clear HX; intro w mm HX; simp only [Act.put, k_a, k_b, k_c]) | (refine tWP ?_; clear HX; intro w av nv cv HX; simp only [Act.put, k_a, k_b, k_c]))
  go_ret
  refine ⟨c, P', rfl, hP', ?_⟩
  exact (pt_shut (b := b) (t := t) (lk := lk) (mw := mw) (md := md) (mc := mc) (gs := gs) (S := S) (R := ThPool w0 P' :: ThTree c S.t P' :: R) (HX.out.pm 8 [3, 2, 4, 5, 6, 7, 0, 1] rfl rfl) hgs (fun g hg => hP' _ (hgv g hg))).pm 3 [1, 2, 0] rfl rfl
end
end Go.Proofs.YtbakgoncfggidaaGreatDoor

namespace Go.Av
theorem close_known {S : PartS} {id sess : Int} (h : knownS S id sess = true) : closeS S id sess = (1, S) := by unfold closeS; rw [if_pos h]
theorem close_closed {S : PartS} {id sess : Int} (h : knownS S id sess = false) (h1 : sess ∈ S.closed) : closeS S id sess = (11, S) := by unfold closeS; rw [if_neg (by rw [h]; exact Bool.false_ne_true), if_pos h1]
theorem close_uses {S : PartS} {id sess : Int} (h : knownS S id sess = false) (h1 : ¬ sess ∈ S.closed) (h2 : usesW S.wait sess = true) : closeS S id sess = (12, S) := by unfold closeS; rw [if_neg (by rw [h]; exact Bool.false_ne_true), if_neg h1, if_pos h2]
theorem close_rest {S : PartS} {id sess : Int} (h : knownS S id sess = false) (h1 : ¬ sess ∈ S.closed) (h2 : usesW S.wait sess = false) : closeS S id sess = if (wrongH S.held id (ofT S.t sess)).isSome = true then (12, S)
  else (0, { S with held := takeH S.held id (ofT S.t sess), wait := S.wait ++ [(id, ⟨sess, [], true, false⟩)] }) := by unfold closeS; rw [if_neg (by rw [h]; exact Bool.false_ne_true), if_neg h1, if_neg (by rw [h2]; exact Bool.false_ne_true)]
theorem known_has {S : PartS} {id sess : Int} (h : knownS S id sess = false) : hasW S.wait id = false := by
  unfold knownS at h
  simp only [Bool.or_eq_false_iff] at h
  exact h.2.2.1
theorem take_wrong {H : HeldL} {id : Int} {ps : List Bs} (h : (wrongH H id ps).isSome = true) : takeH H id ps = H := by unfold takeH; rw [if_pos h]
end Go.Av
namespace Go.Proofs.YtbakgoncfggidaaGreatDoor
open Go.RowKit Go.Av
section
variable {w0 w : World} {b : Nat} {S : PartS} {P P' : List PRow} {R : List Thing} {rows : List (Value × Bs)}
def CloP (w0 : World) (b : Nat) (P : List PRow) (R : List Thing) (rows : List (Value × Bs)) (m : Int × PartS) (e : Ending) (w' : World) : Prop :=
  ∃ P', e = .returned (.tuple #[.int .i64 m.1, .int .i64 (-1)]) ∧ (∀ q ∈ P, q ∈ P') ∧ Sep w0 w' (ThPool w0 P' :: ThPart b m.2 P' :: R) rows
set_option maxRecDepth 100000 in
set_option maxHeartbeats 8000000 in
theorem close_any {K : Nat} (h : Sep w0 w (ThPool w0 P :: ThPart b S P :: R) rows) (hd : DoorN w0) (hB : PartB K S) (hK : K ≤ 1000) (id sess : Int) :
    Calls Tryz.prog 19 #[.pointer (some ⟨b, 0, none⟩), .int .i64 id, .int .i64 sess] w (CloP w0 b P R rows (closeS S id sess)) := by
  have HB := Lib.hid (show _ ∧ _ from ⟨hB, hK⟩)
  have HX := Lib.hid h
  obtain ⟨rr, hrr⟩ : ∃ rr, closeS S id sess = rr := ⟨_, rfl⟩
  rw [hrr]
  have HRR := Lib.hid hrr
  clear h hB hK hrr
  go_enter Tryz.func19, Tryz.ntmps19
  go_wp2_with (first | go_skip | refine uK ?_ | refine uL ?_ | refine uM ?_ | (refine uS ?_; clear HX; intro w HX) | (refine uA ?_; clear HX; (first | (have hq := b; clear hq; intro w b2 HX) | intro w b HX)) | (refine tWN ?_; clear HX; intro w mm HX; simp only [Act.put, k_a, k_b, k_c]) | (refine tWP ?_; clear HX; intro w av nv cv HX; simp only [Act.put, k_a, k_b, k_c]))
  refine (known_any HX.out id sess).mono ?_
  obtain ⟨zk, hzk⟩ : ∃ z, knownS S id sess = z := ⟨_, rfl⟩
  rw [hzk]
  rintro e w ⟨rfl, hx⟩
  clear HX
  have HX := Lib.hid hx
  have HZK := Lib.hid hzk
  clear hx hzk
  cases zk with
  | true =>
    obtain rfl : rr = (1, S) := by rw [← HRR.out]; exact close_known HZK.out
    go_wp2_with (first | go_skip | refine uK ?_ | refine uL ?_ | refine uM ?_ | (refine uS ?_; clear HX; intro w HX) | (refine uA ?_; clear HX; (first | (have hq := b; clear hq; intro w b2 HX) | intro w b HX)) | (refine tWN ?_; clear HX; intro w mm HX; simp only [Act.put, k_a, k_b, k_c]) | (refine tWP ?_; clear HX; intro w av nv cv HX; simp only [Act.put, k_a, k_b, k_c]))
    go_ret2
    exact ⟨P, rfl, fun q hq => hq, HX.out⟩
  | false =>
    obtain ⟨t, lk, mw, md, mc, gs, hgs, hgv, hS⟩ := pt_open HX.out.up1
    have HG := Lib.hid (show _ ∧ _ from ⟨hgs, hgv⟩)
    have hk := num_look hS.up5 sess
    obtain ⟨zc, hzc⟩ : ∃ z, decide (sess ∈ S.closed) = z := ⟨_, rfl⟩
    rw [hzc] at hk
    have HZC := Lib.hid hzc
    clear HX hgs hgv hzc
    have HX := Lib.hid hS
    clear hS
    cases zc with
    | true =>
      obtain rfl : rr = (11, S) := by rw [← HRR.out]; exact close_closed HZK.out (of_decide_eq_true HZC.out)
      go_wp2_with (first | go_skip | refine uK ?_ | refine uL ?_ | refine uM ?_ | (refine uS ?_; clear HX; intro w HX) | (refine uA ?_; clear HX; (first | (have hq := b; clear hq; intro w b2 HX) | intro w b HX)) | (refine tWN ?_; clear HX; intro w mm HX; simp only [Act.put, k_a, k_b, k_c]) | (refine tWP ?_; clear HX; intro w av nv cv HX; simp only [Act.put, k_a, k_b, k_c]))
      go_ret2
      exact ⟨P, rfl, fun q hq => hq, (pt_shut HX.out HG.out.1 HG.out.2).up1⟩
    | false =>
      have HNC := Lib.hid (of_decide_eq_false HZC.out)
      go_wp2_with (first | go_skip | refine uK ?_ | refine uL ?_ | refine uM ?_ | (refine uS ?_; clear HX; intro w HX) | (refine uA ?_; clear HX; (first | (have hq := b; clear hq; intro w b2 HX) | intro w b HX)) | (refine tWN ?_; clear HX; intro w mm HX; simp only [Act.put, k_a, k_b, k_c]) | (refine tWP ?_; clear HX; intro w av nv cv HX; simp only [Act.put, k_a, k_b, k_c]))
      have h9 := (pt_shut HX.out HG.out.1 HG.out.2).up1
      clear HX hk
      have HX := Lib.hid h9
      clear h9
      refine (uses_any HX.out sess).mono ?_
      obtain ⟨zu, hzu⟩ : ∃ z, usesW S.wait sess = z := ⟨_, rfl⟩
      rw [hzu]
      rintro e w ⟨rfl, hx⟩
      clear HX
      have HX := Lib.hid hx
      have HZU := Lib.hid hzu
      clear hx hzu
      cases zu with
      | true =>
        obtain rfl : rr = (12, S) := by rw [← HRR.out]; exact close_uses HZK.out HNC.out HZU.out
        go_wp2_with (first | go_skip | refine uK ?_ | refine uL ?_ | refine uM ?_ | (refine uS ?_; clear HX; intro w HX) | (refine uA ?_; clear HX; (first | (have hq := b; clear hq; intro w b2 HX) | intro w b HX)) | (refine tWN ?_; clear HX; intro w mm HX; simp only [Act.put, k_a, k_b, k_c]) | (refine tWP ?_; clear HX; intro w av nv cv HX; simp only [Act.put, k_a, k_b, k_c]))
        go_ret2
        exact ⟨P, rfl, fun q hq => hq, HX.out⟩
      | false =>
        have HR3 := Lib.hid (HRR.out.symm.trans (close_rest HZK.out HNC.out HZU.out))
        clear HRR
        obtain ⟨t, lk, mw, md, mc, gs, hgs, hgv, hS⟩ := pt_open HX.out.up1
        clear HG
        have HG := Lib.hid (show _ ∧ _ from ⟨hgs, hgv⟩)
        clear HX hgs hgv
        have HX := Lib.hid hS
        clear hS
        go_wp2_with (first | go_skip | refine uK ?_ | refine uL ?_ | refine uM ?_ | (refine uS ?_; clear HX; intro w HX) | (refine uA ?_; clear HX; (first | (have hq := b; clear hq; intro w b2 HX) | intro w b HX)) | (refine tWN ?_; clear HX; intro w mm HX; simp only [Act.put, k_a, k_b, k_c]) | (refine tWP ?_; clear HX; intro w av nv cv HX; simp only [Act.put, k_a, k_b, k_c]))
        refine (tof_any HX.out.up1.up6 sess (by have := HB.out.1.tree.many; omega) (fun e he => by have := HB.out.1.tree.keys e he; omega)).mono ?_
        rintro e w ⟨vg, P2, rfl, hP2, hvg, hx⟩
        obtain ⟨E, hE⟩ := hx.poolGet hvg
        obtain ⟨ga, gn, gc, rfl, -⟩ := ReadRow.some hE
        clear HX hE
        have HX := Lib.hid hx
        have HP2 := Lib.hid (show _ ∧ _ from ⟨hP2, hvg⟩)
        clear hx hP2 hvg
        go_wp2_with (first | go_skip | refine uK ?_ | refine uL ?_ | refine uM ?_ | (refine uS ?_; clear HX; intro w HX) | (refine uA ?_; clear HX; (first | (have hq := b; clear hq; intro w b2 HX) | intro w b HX)) | (refine tWN ?_; clear HX; intro w mm HX; simp only [Act.put, k_a, k_b, k_c]) | (refine tWP ?_; clear HX; intro w av nv cv HX; simp only [Act.put, k_a, k_b, k_c]))
        refine (take_any (HX.out.up3.up1 : Sep w0 _ (ThPool w0 P2 :: ThLk lk S.held :: _) rows) hd id (ofT S.t sess) _ HP2.out.2 (fun p hp => ?_) HB.out.1.keys ?_).mono ?_
        · obtain ⟨e, he, rfl⟩ := List.mem_map.1 hp
          have := HB.out.1.tree.keys e (List.mem_filter.1 he).1
          omega
        · have h1 : (ofT S.t sess).length ≤ S.t.l.length := by unfold ofT; rw [List.length_map]; exact List.length_filter_le _ _
          have := HB.out.1.tree.many
          omega
        obtain ⟨wr, hwr⟩ : ∃ wr, wrongH S.held id (ofT S.t sess) = wr := ⟨_, rfl⟩
        obtain ⟨H2, hH2⟩ : ∃ H2, takeH S.held id (ofT S.t sess) = H2 := ⟨_, rfl⟩
        have htw := fun h => take_wrong (H := S.held) (id := id) (ps := ofT S.t sess) h
        rw [hwr, hH2] at HR3 htw ⊢
        rintro e w ⟨rfl, hx⟩
        clear HX
        have HX := Lib.hid hx
        have HTW := Lib.hid htw
        clear hx hwr hH2 htw
        unfold sv
        cases wr with
        | some p =>
          obtain rfl : H2 = S.held := HTW.out rfl
          obtain rfl : rr = (12, S) := HR3.out
          dsimp only [Option.isSome, Option.getD]
          go_wp2_with (first | go_skip | refine uK ?_ | refine uL ?_ | refine uM ?_ | (refine uS ?_; clear HX; intro w HX) | (refine uA ?_; clear HX; (first | (have hq := b; clear hq; intro w b2 HX) | intro w b HX)) | (refine tWN ?_; clear HX; intro w mm HX; simp only [Act.put, k_a, k_b, k_c]) | (refine tWP ?_; clear HX; intro w av nv cv HX; simp only [Act.put, k_a, k_b, k_c]))
          go_ret2
          exact ⟨P2, rfl, HP2.out.1, (pt_shut (b := b) (t := t) (lk := lk) (mw := mw) (md := md) (mc := mc) (gs := gs) (S := S) (R := ThPool w0 P2 :: R) (HX.out.pm 7 [3, 2, 1, 4, 5, 6, 0] rfl rfl) HG.out.1 (fun g hg => HP2.out.1 _ (HG.out.2 g hg))).up1⟩
        | none =>
          obtain rfl : rr = (0, { S with held := H2, wait := S.wait ++ [(id, ⟨sess, [], true, false⟩)] }) := HR3.out
          dsimp only [Option.isSome, Option.getD]
          obtain ⟨w9, hrun, h9⟩ := Sep.mapAdd (P := Tryz.prog) (key := .int .i64 id) (v := .agg #[.int .i64 sess, .slice none 0 0, .bool true, .bool false]) HX.out.up4 Tryz.underlying125 Tryz.underlying2 (by first | trivial | rfl | exact ⟨_, rfl⟩) (fun q hq e => by
            obtain ⟨g, hg, rfl⟩ := List.mem_map.1 hq
            simp only [WaitG.kv, Value.int.injEq, true_and] at e
            have h1 := known_has HZK.out
            rw [← HG.out.1, has_gs, List.any_eq_false] at h1
            exact h1 g hg (by rw [e]; exact beq_self_eq_true _))
          have H9 := Lib.hid h9
          clear h9
          go_wp2_with (first | go_skip | refine uK ?_ | refine uL ?_ | refine uM ?_ | (refine uS ?_; clear HX; intro w HX) | (refine uA ?_; clear HX; (first | (have hq := b; clear hq; intro w b2 HX) | intro w b HX)) | (refine tWN ?_; clear HX; intro w mm HX; simp only [Act.put, k_a, k_b, k_c]) | (refine tWP ?_; clear HX; intro w av nv cv HX; simp only [Act.put, k_a, k_b, k_c]))
          go_ret2
          have h5 := (H9.out.up1.poolNil 5)
          refine ⟨(5, .slice none 0 0, []) :: P2, rfl, fun q hq => k_n _ (HP2.out.1 q hq), ?_⟩
          have h6 := tree_mono (P' := (5, .slice none 0 0, []) :: P2) h5.up3 (fun q hq => k_n _ hq)
          refine (pt_shut (b := b) (t := t) (lk := lk) (mw := mw) (md := md) (mc := mc) (gs := gs ++ [⟨id, ⟨sess, [], true, false⟩, .slice none 0 0⟩]) (S := { S with held := H2, wait := S.wait ++ [(id, ⟨sess, [], true, false⟩)] }) (R := ThPool w0 ((5, .slice none 0 0, []) :: P2) :: R) ?_ ?_ ?_).up1
          · rw [List.map_append]
            exact h6.pm 7 [4, 0, 3, 2, 5, 6, 1] rfl rfl
          · rw [List.map_append, HG.out.1]
            rfl
          · intro g hg
            rcases List.mem_append.1 hg with hg | hg
            · exact k_n _ (HP2.out.1 _ (HG.out.2 g hg))
            · rw [List.mem_singleton] at hg
              rw [hg]
              exact k_s
end
end Go.Proofs.YtbakgoncfggidaaGreatDoor

namespace Go.Av
open Go.RowKit
theorem look_none {W : WaitL} {id : Int} (h : ∀ e ∈ W, e.1 ≠ id) : lookW W id = none := by
  unfold lookW
  rw [List.find?_eq_none.2 (fun e he => by simp [h e he])]
  rfl
theorem look_some {W1 W2 : WaitL} {id : Int} {x : WaitS} (h : ((W1 ++ (id, x) :: W2).map (·.1)).Nodup) : lookW (W1 ++ (id, x) :: W2) id = some x ∧ delW (W1 ++ (id, x) :: W2) id = W1 ++ W2 := by
  rw [List.map_append, List.map_cons, List.nodup_append] at h
  obtain ⟨-, h3, h4⟩ := h
  rw [List.nodup_cons] at h3
  have n1 : ∀ e ∈ W1, e.1 ≠ id := fun e he h => h4 e.1 (List.mem_map_of_mem he) id k_s h
  have n2 : ∀ e ∈ W2, e.1 ≠ id := fun e he h => h3.1 (List.mem_map.2 ⟨e, he, h⟩)
  constructor
  · unfold lookW
    rw [List.find?_append, List.find?_eq_none.2 (fun e he => by simp [n1 e he])]
    simp
  · unfold delW
    rw [List.filter_append, List.filter_cons, List.filter_eq_self.2 (fun e he => by simp [n1 e he]), List.filter_eq_self.2 (fun e he => by simp [n2 e he])]
    simp
section
variable {P : Program} {w w0 : World} {d : TypeDesc} {m : Nat} {t k e : TypeId} {R : List Thing} {rows : List (Value × Bs)}
theorem Sep.mapDel {l1 l2 : List (Value × Value)} {key v0 : Value} (h : Sep w0 w (ThMap d m (l1 ++ (key, v0) :: l2) :: R) rows) (ht : P.underlying t = some (.map k e)) (hd : P.underlying k = some d) (hk : MapKept.IsKey d key) :
    ∃ w', (∀ tk ty, (Builtin.delete_ #[t, tk] ty #[.map (some m), key]).run P w = .ok (.tuple #[]) w') ∧ Sep w0 w' (ThMap d m (l1 ++ l2) :: R) rows := by
  obtain ⟨w', hrun, hM, hU⟩ := mp_del (P := P) h.mapIs ht hd hk 0 0
  exact ⟨w', fun _ _ => hrun, h.mapTo hU hM⟩
end
end Go.Av
namespace Go.Proofs.YtbakgoncfggidaaGreatDoor
open Go.RowKit Go.Av
section
variable {w0 w : World} {b : Nat} {S : PartS} {P P' : List PRow} {R : List Thing} {rows : List (Value × Bs)}
theorem wait_nodup {d : TypeDesc} {m : Nat} {gs : List WaitG} (h : Sep w0 w (ThMap d m (gs.map WaitG.kv) :: R) rows) : ((gs.map WaitG.ent).map (·.1)).Nodup := by
  have h1 := h.mapIs.nodup
  rw [List.map_map] at h1 ⊢
  rw [List.nodup_iff_pairwise_ne, List.pairwise_map] at h1 ⊢
  exact List.Pairwise.imp (fun hab e => hab (congrArg (Value.int .i64) e)) h1
theorem num_put {d : List Int} {m : Nat} (h : Sep w0 w (ThMap (.int .i64) m (d.map ikv) :: R) rows) (i : Int) :
    ∃ w', (Instr.mapUpdate 126 (.map (some m)) (.int .i64 i) (.bool true)).run Tryz.prog w = .ok () w' ∧ Sep w0 w' (ThMap (.int .i64) m ((if i ∈ d then d else d ++ [i]).map ikv) :: R) rows := by
  by_cases hi : i ∈ d
  · rw [if_pos hi]
    obtain ⟨d1, d2, rfl⟩ := List.append_of_mem hi
    rw [List.map_append, List.map_cons] at h ⊢
    exact Sep.mapOld (P := Tryz.prog) h Tryz.underlying126 Tryz.underlying2 (by first | trivial | rfl | exact ⟨_, rfl⟩)
  · rw [if_neg hi, List.map_append]
    exact Sep.mapAdd (P := Tryz.prog) h Tryz.underlying126 Tryz.underlying2 (by first | trivial | rfl | exact ⟨_, rfl⟩) (fun q hq e => by
      obtain ⟨j, hj, rfl⟩ := List.mem_map.1 hq
      simp only [ikv, Value.int.injEq, true_and] at e
      exact hi (e ▸ hj))
def DecP (w0 : World) (b : Nat) (P : List PRow) (R : List Thing) (rows : List (Value × Bs)) (m : (List ResS × Int) × PartS) (e : Ending) (w' : World) : Prop :=
  ∃ P' a n c xs, e = .returned (.tuple #[.slice a n c, .int .i64 m.1.2]) ∧ (∀ q ∈ P, q ∈ P') ∧ ResL P' m.1.1 xs ∧ (11, Value.slice a n c, xs) ∈ P' ∧ Sep w0 w' (ThPool w0 P' :: ThPart b m.2 P' :: R) rows
theorem dec_nil {S' : PartS} {z : Int} (hP : ∀ q ∈ P, q ∈ P') (h : Sep w0 w (ThPool w0 P' :: ThPart b S' P' :: R) rows) : DecP w0 b P R rows (([], z), S') (.returned (.tuple #[.slice none 0 0, .int .i64 z])) w :=
  ⟨(11, .slice none 0 0, []) :: P', none, 0, 0, [], rfl, fun q hq => k_n _ (hP q hq), .nil, k_s, (pt_mono (h.poolNil 11).up1 (fun q hq => k_n _ hq)).up1⟩
set_option maxRecDepth 100000 in
set_option maxHeartbeats 8000000 in
theorem decide_any {K : Nat} (h : Sep w0 w (ThPool w0 P :: ThPart b S P :: R) rows) (hd : DoorN w0) (hB : PartB K S) (hHn : S.held.length ≤ 100000) (hK : K ≤ 1000) (id : Int) (commit : Bool) :
    Calls Tryz.prog 20 #[.pointer (some ⟨b, 0, none⟩), .int .i64 id, .bool commit] w (DecP w0 b P R rows (decideS S id commit)) := by
  have HB := Lib.hid (show _ ∧ _ ∧ _ from ⟨hB, hK, hHn⟩)
  obtain ⟨rr, hrr⟩ : ∃ rr, decideS S id commit = rr := ⟨_, rfl⟩
  rw [hrr]
  have HRR := Lib.hid hrr
  obtain ⟨t, lk, mw, md, mc, gs, hgs, hgv, hS⟩ := pt_open h.up1
  clear h hB hK hrr hHn
  by_cases hin : ∃ g ∈ gs, g.id = id
  case neg =>
    have hk := wait_none hS.up3 id (fun g hg e => hin ⟨g, hg, e⟩)
    have HG := Lib.hid (show _ ∧ _ from ⟨hgs, hgv⟩)
    obtain rfl : rr = (([], 4), S) := by
      rw [← HRR.out]
      unfold decideS
      rw [look_none (fun e he h => by
        rw [← hgs] at he
        obtain ⟨g, hg, rfl⟩ := List.mem_map.1 he
        exact hin ⟨g, hg, h⟩)]
    have HX := Lib.hid hS
    clear hgs hgv hS hin
    go_enter Tryz.func20, Tryz.ntmps20
    go_wp2_with (first | go_skip | refine uK ?_ | refine uL ?_ | refine uM ?_ | (refine uS ?_; clear HX; intro w HX) | (refine uA ?_; clear HX; (first | (have hq := b2; clear hq; intro w b3 HX) | (have hq := b; clear hq; intro w b2 HX) | intro w b HX)) | (refine tWN ?_; clear HX; intro w mm HX; simp only [Act.put, k_a, k_b, k_c]) | (refine tWP ?_; clear HX; intro w av nv cv HX; simp only [Act.put, k_a, k_b, k_c]))
    go_ret2
    exact dec_nil (fun q hq => hq) (pt_shut (b := b) (t := t) (lk := lk) (mw := mw) (md := md) (mc := mc) (gs := gs) (S := S) (R := ThPool w0 P :: R) HX.out.drop HG.out.1 HG.out.2).up1
  case pos =>
    obtain ⟨g, hg, hgi⟩ := hin
    have hk := wait_some hS.up3 hg
    obtain ⟨E, hE⟩ := hS.up6.poolGet (hgv g hg)
    obtain ⟨ga, gn, gc, hvs, -⟩ := ReadRow.some hE
    have hnd := wait_nodup hS.up3
    obtain ⟨l1, l2, rfl⟩ := List.append_of_mem hg
    have hgw := hgv g hg
    obtain ⟨gid, x, gv⟩ := g
    dsimp only at hvs hk hgw hgi
    subst hvs hgi
    rw [List.map_append, List.map_cons] at hnd hgs
    dsimp only [WaitG.ent] at hnd hgs
    obtain ⟨hlw, hdw⟩ := look_some (W1 := l1.map WaitG.ent) (W2 := l2.map WaitG.ent) hnd
    rw [hgs] at hlw hdw
    have hap := HB.out.1.apart (gid, x) (by rw [← hgs]; simp)
    have hwx := HB.out.1.wait (gid, x) (by rw [← hgs]; simp)
    have HRX := Lib.hid (show rr = _ from HRR.out.symm.trans (by unfold decideS; rw [hlw, hdw]))
    have HG := Lib.hid (show _ ∧ _ ∧ _ ∧ _ ∧ _ from ⟨hgs, hgv, hgw, hap, hwx⟩)
    have hz1 := HB.out.1.zx.1
    have hz2 : S.zxid ≤ 1000 := by have := HB.out.1.zx.2; have := HB.out.2.1; omega
    have HX := Lib.hid hS
    clear hgs hgv hS hE hnd hlw hdw hap hwx hgw hg HRR
    simp only [ptCells] at HX
    go_enter Tryz.func20, Tryz.ntmps20
    go_wp2_with (first | go_skip | refine uK ?_ | refine uL ?_ | refine uM ?_ | (refine uS ?_; clear HX; intro w HX) | (refine uA ?_; clear HX; (first | (have hq := b2; clear hq; intro w b3 HX) | (have hq := b; clear hq; intro w b2 HX) | intro w b HX)) | (refine tWN ?_; clear HX; intro w mm HX; simp only [Act.put, k_a, k_b, k_c]) | (refine tWP ?_; clear HX; intro w av nv cv HX; simp only [Act.put, k_a, k_b, k_c]))
    refine (free_any HX.out.up3 gid HB.out.2.2).mono ?_
    rintro e w ⟨n, rfl, hx⟩
    rw [List.map_append, List.map_cons] at hx
    obtain ⟨w1, hdel, h1⟩ := Sep.mapDel (P := Tryz.prog) hx.up4 Tryz.underlying125 Tryz.underlying2 (by first | trivial | rfl | exact ⟨_, rfl⟩)
    clear HX
    have HX := Lib.hid hx
    rw [← List.map_append] at h1
    have H1 := Lib.hid h1
    dsimp only [WaitG.kv] at hdel
    clear hx h1 hk
    go_upto_region 7 with (first | go_skip | refine uK ?_ | refine uL ?_ | refine uM ?_ | (refine uS ?_; clear HX; intro w HX) | (refine uA ?_; clear HX; (first | (have hq := b2; clear hq; intro w b3 HX) | (have hq := b; clear hq; intro w b2 HX) | intro w b HX)) | (refine tWN ?_; clear HX; intro w mm HX; simp only [Act.put, k_a, k_b, k_c]) | (refine tWP ?_; clear HX; intro w av nv cv HX; simp only [Act.put, k_a, k_b, k_c]))
    obtain ⟨w2, hput, h2⟩ := num_put H1.out.up5 gid
    rw [if_neg HG.out.2.2.2.1] at h2
    clear HX hdel
    have HX := H1
    have H2 := Lib.hid h2
    clear h2 H1
    go_upto_region 8 with (first | go_skip | refine uK ?_ | refine uL ?_ | refine uM ?_ | (refine uS ?_; clear HX; intro w HX) | (refine uA ?_; clear HX; (first | (have hq := b2; clear hq; intro w b3 HX) | (have hq := b; clear hq; intro w b2 HX) | intro w b HX)) | (refine tWN ?_; clear HX; intro w mm HX; simp only [Act.put, k_a, k_b, k_c]) | (refine tWP ?_; clear HX; intro w av nv cv HX; simp only [Act.put, k_a, k_b, k_c]))
    clear HX hput
    have HX := H2
    clear H2
    obtain ⟨xs, xops, xcl, xfa⟩ := x
    dsimp only at HX HRX HG
    have HFIN := Lib.hid (show ∀ (w' : World) (T' : TreeS) (Q : List PRow) (Cl : List Int), T'.room = S.t.room → (∀ q ∈ P, q ∈ Q) → Sep w0 w' (ThMap (.int .i64) md ((S.decided ++ [gid]).map ikv) :: ThMap (.int .i64) mw ((l1 ++ l2).map WaitG.kv) :: ThLk lk (freeH S.held gid) :: ThCell b (.cells (ptCells S.t.room t lk (S.zxid + 1) mw md mc) 128 (0, 0)) :: ThTree t T' Q :: ThMap (.int .i64) mc (Cl.map ikv) :: ThPool w0 Q :: R) rows →
        Sep w0 w' (ThPool w0 Q :: ThPart b { S with zxid := S.zxid + 1, held := freeH S.held gid, wait := l1.map WaitG.ent ++ l2.map WaitG.ent, decided := S.decided ++ [gid], t := T', closed := Cl } Q :: R) rows from fun w' T' Q Cl hrm hQ h5 => by
      rw [← hrm] at h5
      exact (pt_shut (b := b) (t := t) (lk := lk) (mw := mw) (md := md) (mc := mc) (gs := l1 ++ l2) (S := { S with zxid := S.zxid + 1, held := freeH S.held gid, wait := l1.map WaitG.ent ++ l2.map WaitG.ent, decided := S.decided ++ [gid], t := T', closed := Cl }) (R := ThPool w0 Q :: R) (h5.pm 7 [3, 4, 2, 1, 0, 5, 6] rfl rfl) (by rw [List.map_append]) (fun g hg => hQ _ (HG.out.2.1 g (by
        rcases List.mem_append.1 hg with h | h <;> simp [h])))).up1)
    cases commit with
    | false =>
      have hr : rr = (([], 0), { S with zxid := S.zxid + 1, held := freeH S.held gid, wait := l1.map WaitG.ent ++ l2.map WaitG.ent, decided := S.decided ++ [gid] }) := HRX.out
      subst hr
      go_wp2_with (first | go_skip | refine uK ?_ | refine uL ?_ | refine uM ?_ | (refine uS ?_; clear HX; intro w HX) | (refine uA ?_; clear HX; (first | (have hq := b2; clear hq; intro w b3 HX) | (have hq := b; clear hq; intro w b2 HX) | intro w b HX)) | (refine tWN ?_; clear HX; intro w mm HX; simp only [Act.put, k_a, k_b, k_c]) | (refine tWP ?_; clear HX; intro w av nv cv HX; simp only [Act.put, k_a, k_b, k_c]))
      go_ret2
      exact dec_nil (fun q hq => hq) (HFIN.out _ S.t P S.closed rfl (fun q hq => hq) (HX.out.pm 8 [0, 1, 2, 4, 5, 6, 7] rfl rfl))
    | true =>
      cases xfa with
      | true =>
        have hr : rr = (([], 0), { S with zxid := S.zxid + 1, held := freeH S.held gid, wait := l1.map WaitG.ent ++ l2.map WaitG.ent, decided := S.decided ++ [gid] }) := HRX.out
        subst hr
        go_wp2_with (first | go_skip | refine uK ?_ | refine uL ?_ | refine uM ?_ | (refine uS ?_; clear HX; intro w HX) | (refine uA ?_; clear HX; (first | (have hq := b2; clear hq; intro w b3 HX) | (have hq := b; clear hq; intro w b2 HX) | intro w b HX)) | (refine tWN ?_; clear HX; intro w mm HX; simp only [Act.put, k_a, k_b, k_c]) | (refine tWP ?_; clear HX; intro w av nv cv HX; simp only [Act.put, k_a, k_b, k_c]))
        go_ret2
        exact dec_nil (fun q hq => hq) (HFIN.out _ S.t P S.closed rfl (fun q hq => hq) (HX.out.pm 8 [0, 1, 2, 4, 5, 6, 7] rfl rfl))
      | false =>
        cases xcl with
        | true =>
          obtain ⟨Cl, hCl⟩ : ∃ Cl, (if xs ∈ S.closed then S.closed else S.closed ++ [xs]) = Cl := ⟨_, rfl⟩
          have hr : rr = (([], 0), { S with zxid := S.zxid + 1, held := freeH S.held gid, wait := l1.map WaitG.ent ++ l2.map WaitG.ent, decided := S.decided ++ [gid], t := purT (purgeS (ofT S.t xs)) S.t, closed := Cl }) := by rw [← hCl]; exact HRX.out
          subst hr
          have HCL := Lib.hid hCl
          clear HRX hCl
          go_wp2_with (first | go_skip | refine uK ?_ | refine uL ?_ | refine uM ?_ | (refine uS ?_; clear HX; intro w HX) | (refine uA ?_; clear HX; (first | (have hq := b2; clear hq; intro w b3 HX) | (have hq := b; clear hq; intro w b2 HX) | intro w b HX)) | (refine tWN ?_; clear HX; intro w mm HX; simp only [Act.put, k_a, k_b, k_c]) | (refine tWP ?_; clear HX; intro w av nv cv HX; simp only [Act.put, k_a, k_b, k_c]))
          obtain ⟨R', hR'⟩ : ∃ R', ThMap (.int .i64) md ((S.decided ++ [gid]).map ikv) :: ThMap (.int .i64) mw ((l1 ++ l2).map WaitG.kv) :: ThLk lk (freeH S.held gid) :: R = R' := ⟨_, rfl⟩
          have h3 : Sep w0 w2 (ThPool w0 P :: ThTree t S.t P :: ThCell b (.cells (ptCells S.t.room t lk (S.zxid + 1) mw md mc) 128 (0, 0)) :: ThCell b2 (.cells #[.int .i64 xs, .slice ga gn gc, .bool true, .bool false] 139 (0, 0)) :: ThMap (.int .i64) mc (S.closed.map ikv) :: R') rows := by
            rw [← hR']
            exact HX.out.pm 8 [7, 5, 4, 3, 6, 0, 1, 2] rfl rfl
          have HRR2 := Lib.hid hR'
          clear HX hR'
          have HX := Lib.hid h3
          clear h3
          refine wp_region_M (fun W => (∃ Ts, Sep w0 W (ThCell b (.cells (ptCells S.t.room t lk (S.zxid + 1) mw md mc) 128 (0, 0)) :: ThCell b2 (.cells #[.int .i64 xs, .slice ga gn gc, .bool true, .bool false] 139 (0, 0)) :: Ts) rows)) 7 (by kernel_rfl) ?_
          have KEEPX : ∀ W, (∃ Ts, Sep w0 W (ThCell b (.cells (ptCells S.t.room t lk (S.zxid + 1) mw md mc) 128 (0, 0)) :: ThCell b2 (.cells #[.int .i64 xs, .slice ga gn gc, .bool true, .bool false] 139 (0, 0)) :: Ts) rows) → (∃ Ts, Sep w0 W (ThCell b (.cells (ptCells S.t.room t lk (S.zxid + 1) mw md mc) 128 (0, 0)) :: ThCell b2 (.cells #[.int .i64 xs, .slice ga gn gc, .bool true, .bool false] 139 (0, 0)) :: Ts) rows) := fun _ h => h
          replace HX := Lib.hid HX.out.drew
          have hl : ∀ V, (∃ Ts, Sep w0 V (ThCell b (.cells (ptCells S.t.room t lk (S.zxid + 1) mw md mc) 128 (0, 0)) :: ThCell b2 (.cells #[.int .i64 xs, .slice ga gn gc, .bool true, .bool false] 139 (0, 0)) :: Ts) rows) → (Instr.loadAt 53 (.pointer (some ⟨b, 1, none⟩))).run Tryz.prog V = .ok (.pointer (some ⟨t, 0, none⟩)) V := by
            rintro V ⟨Ts, hV⟩
            exact run_load_scalar (by kernel_rfl) (cell_of hV.blk 1 rfl)
          have hl2 : ∀ V, (∃ Ts, Sep w0 V (ThCell b (.cells (ptCells S.t.room t lk (S.zxid + 1) mw md mc) 128 (0, 0)) :: ThCell b2 (.cells #[.int .i64 xs, .slice ga gn gc, .bool true, .bool false] 139 (0, 0)) :: Ts) rows) → (Instr.loadAt 2 (.pointer (some ⟨b2, 0, none⟩))).run Tryz.prog V = .ok (.int .i64 xs) V := by
            rintro V ⟨Ts, hV⟩
            exact run_load_scalar (by kernel_rfl) (cell_of hV.up1.blk 0 rfl)
          refine wpAnyM_take (by kernel_rfl) (by intro c a d v w h; cases d <;> exact h) [(0, false), (1, false), (2, false), (3, true), (4, false), (5, true)] (fuel := 1) (by kernel_rfl) ?_
          apply Exists.intro; refine ⟨?_, ⟨_, HX.out.up3.up3⟩, ?_⟩
          · iterate 6 (refine xE ?_)
            exact rfl
          clear hl
          refine wpAnyM_one (fuel := 0) (i := 6) (by kernel_rfl) (by (simp only [k_i, k_j, k_k]; try rfl)) (fun K hK => ?_)
          go_wp2_with fail
          refine (purge_any HX.out hd HB.out.1.tree (by have := HB.out.2.1; omega) xs).mono ?_
          rintro e w ⟨l', -, hpu, v', P4, rfl, hP4, hx⟩
          obtain rfl := hpu (of_deep HB.out.1.good xs)
          clear HX
          have HX := Lib.hid hx.drop
          have HP4 := Lib.hid hP4
          clear hx hP4 hpu
          go_wp2_with fail
          refine hK _ _ ⟨_, HX.out.up3.up3⟩ ?_
          clear hK
          refine wpAnyM_done (by kernel_rfl) ?_ _
          go_wp2_with (first | go_skip | refine uK ?_ | refine uL ?_ | refine uM ?_ | (refine uS ?_; clear HX; intro w HX) | (refine uA ?_; clear HX; (first | (have hq := b2; clear hq; intro w b3 HX) | (have hq := b; clear hq; intro w b2 HX) | intro w b HX)) | (refine tWN ?_; clear HX; intro w mm HX; simp only [Act.put, k_a, k_b, k_c]) | (refine tWP ?_; clear HX; intro w av nv cv HX; simp only [Act.put, k_a, k_b, k_c]))
          clear KEEPX
          refine wp_region_M (fun W => (∃ Ts, Sep w0 W (ThCell b (.cells (ptCells S.t.room t lk (S.zxid + 1) mw md mc) 128 (0, 0)) :: ThCell b2 (.cells #[.int .i64 xs, .slice ga gn gc, .bool true, .bool false] 139 (0, 0)) :: Ts) rows)) 7 (by kernel_rfl) ?_
          have KEEPX : ∀ W, (∃ Ts, Sep w0 W (ThCell b (.cells (ptCells S.t.room t lk (S.zxid + 1) mw md mc) 128 (0, 0)) :: ThCell b2 (.cells #[.int .i64 xs, .slice ga gn gc, .bool true, .bool false] 139 (0, 0)) :: Ts) rows) → (∃ Ts, Sep w0 W (ThCell b (.cells (ptCells S.t.room t lk (S.zxid + 1) mw md mc) 128 (0, 0)) :: ThCell b2 (.cells #[.int .i64 xs, .slice ga gn gc, .bool true, .bool false] 139 (0, 0)) :: Ts) rows) := fun _ h => h
          replace HX := Lib.hid HX.out.drew
          have hl : ∀ V, (∃ Ts, Sep w0 V (ThCell b (.cells (ptCells S.t.room t lk (S.zxid + 1) mw md mc) 128 (0, 0)) :: ThCell b2 (.cells #[.int .i64 xs, .slice ga gn gc, .bool true, .bool false] 139 (0, 0)) :: Ts) rows) → (Instr.loadAt 126 (.pointer (some ⟨b, 6, none⟩))).run Tryz.prog V = .ok (.map (some mc)) V := by
            rintro V ⟨Ts, hV⟩
            exact run_load_scalar (by kernel_rfl) (cell_of hV.blk 6 rfl)
          refine wpAnyM_take (by kernel_rfl) (by intro c a d v w h; cases d <;> exact h) [(0, false), (1, false), (2, false), (3, true), (4, false), (5, true)] (fuel := 1) (by kernel_rfl) ?_
          apply Exists.intro; refine ⟨?_, ⟨_, HX.out.up3.up3⟩, ?_⟩
          · iterate 6 (refine xE ?_)
            exact rfl
          clear hl hl2
          refine wpAnyM_one (fuel := 0) (i := 6) (by kernel_rfl) (by (simp only [k_i, k_j, k_k]; try rfl)) (fun K hK => ?_)    -- mapUpdate
          obtain ⟨w5, hput, h5⟩ := num_put HX.out.up4 xs
          rw [HCL.out] at h5
          have H5 := Lib.hid h5
          clear h5
          go_wp2_with fail
          refine hK _ _ ⟨_, H5.out.up4.up4⟩ ?_
          clear hK
          refine wpAnyM_done (by kernel_rfl) ?_ _
          go_wp2_with (first | go_skip | refine uK ?_ | refine uL ?_ | refine uM ?_ | (refine uS ?_; clear HX; intro w HX) | (refine uA ?_; clear HX; (first | (have hq := b2; clear hq; intro w b3 HX) | (have hq := b; clear hq; intro w b2 HX) | intro w b HX)) | (refine tWN ?_; clear HX; intro w mm HX; simp only [Act.put, k_a, k_b, k_c]) | (refine tWP ?_; clear HX; intro w av nv cv HX; simp only [Act.put, k_a, k_b, k_c]))
          go_ret2
          have h6 := H5.out
          rw [← HRR2.out] at h6
          exact dec_nil HP4.out (HFIN.out _ (purT (purgeS (ofT S.t xs)) S.t) P4 Cl (pur_room _ _) HP4.out (h6.pm 8 [5, 6, 7, 3, 2, 0, 1] rfl rfl))
        | false =>
          obtain ⟨⟨⟨n1, z1, e1, t1, rs1⟩, S2, ok1⟩, hm1⟩ : ∃ m1, manyT S.t xs (S.zxid + 1) xops = m1 := ⟨_, rfl⟩
          have hroom : S2.room = S.t.room := by have := many_room S.t xs (S.zxid + 1) xops; rw [hm1] at this; exact this
          have hr : rr = ((rs1, 0), { S with zxid := S.zxid + 1, held := freeH S.held gid, wait := l1.map WaitG.ent ++ l2.map WaitG.ent, decided := S.decided ++ [gid], t := S2 }) := by
            rw [HRX.out]
            show (((manyT S.t xs (S.zxid + 1) xops).1.rs, (0 : Int)), _) = _
            rw [hm1]
          subst hr
          have HM1 := Lib.hid (show _ ∧ _ from ⟨hm1, hroom⟩)
          clear HRX hm1 hroom
          go_wp2_with (first | go_skip | refine uK ?_ | refine uL ?_ | refine uM ?_ | (refine uS ?_; clear HX; intro w HX) | (refine uA ?_; clear HX; (first | (have hq := b2; clear hq; intro w b3 HX) | (have hq := b; clear hq; intro w b2 HX) | intro w b HX)) | (refine tWN ?_; clear HX; intro w mm HX; simp only [Act.put, k_a, k_b, k_c]) | (refine tWP ?_; clear HX; intro w av nv cv HX; simp only [Act.put, k_a, k_b, k_c]))
          obtain ⟨R', hR'⟩ : ∃ R', ThMap (.int .i64) md ((S.decided ++ [gid]).map ikv) :: ThMap (.int .i64) mw ((l1 ++ l2).map WaitG.kv) :: ThLk lk (freeH S.held gid) :: R = R' := ⟨_, rfl⟩
          have h3 : Sep w0 w2 (ThPool w0 P :: ThTree t S.t P :: ThCell b (.cells (ptCells S.t.room t lk (S.zxid + 1) mw md mc) 128 (0, 0)) :: ThCell b2 (.cells #[.int .i64 xs, .slice ga gn gc, .bool false, .bool false] 139 (0, 0)) :: ThMap (.int .i64) mc (S.closed.map ikv) :: R') rows := by
            rw [← hR']
            exact HX.out.pm 8 [7, 5, 4, 3, 6, 0, 1, 2] rfl rfl
          have HRR2 := Lib.hid hR'
          clear HX hR'
          have HX := Lib.hid h3
          clear h3
          refine wp_region_M (fun W => (∃ Ts, Sep w0 W (ThCell b (.cells (ptCells S.t.room t lk (S.zxid + 1) mw md mc) 128 (0, 0)) :: ThCell b2 (.cells #[.int .i64 xs, .slice ga gn gc, .bool false, .bool false] 139 (0, 0)) :: Ts) rows)) 17 (by kernel_rfl) ?_
          have KEEPX : ∀ W, (∃ Ts, Sep w0 W (ThCell b (.cells (ptCells S.t.room t lk (S.zxid + 1) mw md mc) 128 (0, 0)) :: ThCell b2 (.cells #[.int .i64 xs, .slice ga gn gc, .bool false, .bool false] 139 (0, 0)) :: Ts) rows) → (∃ Ts, Sep w0 W (ThCell b (.cells (ptCells S.t.room t lk (S.zxid + 1) mw md mc) 128 (0, 0)) :: ThCell b2 (.cells #[.int .i64 xs, .slice ga gn gc, .bool false, .bool false] 139 (0, 0)) :: Ts) rows) := fun _ h => h
          replace HX := Lib.hid HX.out.drew
          have hl : ∀ V, (∃ Ts, Sep w0 V (ThCell b (.cells (ptCells S.t.room t lk (S.zxid + 1) mw md mc) 128 (0, 0)) :: ThCell b2 (.cells #[.int .i64 xs, .slice ga gn gc, .bool false, .bool false] 139 (0, 0)) :: Ts) rows) → (Instr.loadAt 53 (.pointer (some ⟨b, 1, none⟩))).run Tryz.prog V = .ok (.pointer (some ⟨t, 0, none⟩)) V := by
            rintro V ⟨Ts, hV⟩
            exact run_load_scalar (by kernel_rfl) (cell_of hV.blk 1 rfl)
          have hl2 : ∀ V, (∃ Ts, Sep w0 V (ThCell b (.cells (ptCells S.t.room t lk (S.zxid + 1) mw md mc) 128 (0, 0)) :: ThCell b2 (.cells #[.int .i64 xs, .slice ga gn gc, .bool false, .bool false] 139 (0, 0)) :: Ts) rows) → (Instr.loadAt 2 (.pointer (some ⟨b2, 0, none⟩))).run Tryz.prog V = .ok (.int .i64 xs) V := by
            rintro V ⟨Ts, hV⟩
            exact run_load_scalar (by kernel_rfl) (cell_of hV.up1.blk 0 rfl)
          have hl3 : ∀ V, (∃ Ts, Sep w0 V (ThCell b (.cells (ptCells S.t.room t lk (S.zxid + 1) mw md mc) 128 (0, 0)) :: ThCell b2 (.cells #[.int .i64 xs, .slice ga gn gc, .bool false, .bool false] 139 (0, 0)) :: Ts) rows) → (Instr.loadAt 2 (.pointer (some ⟨b, 3, none⟩))).run Tryz.prog V = .ok (.int .i64 (S.zxid + 1)) V := by
            rintro V ⟨Ts, hV⟩
            exact run_load_scalar (by kernel_rfl) (cell_of hV.blk 3 rfl)
          have hl4 : ∀ V, (∃ Ts, Sep w0 V (ThCell b (.cells (ptCells S.t.room t lk (S.zxid + 1) mw md mc) 128 (0, 0)) :: ThCell b2 (.cells #[.int .i64 xs, .slice ga gn gc, .bool false, .bool false] 139 (0, 0)) :: Ts) rows) → (Instr.loadAt 28 (.pointer (some ⟨b2, 1, none⟩))).run Tryz.prog V = .ok (.slice ga gn gc) V := by
            rintro V ⟨Ts, hV⟩
            exact run_load_scalar (by kernel_rfl) (cell_of hV.up1.blk 1 rfl)
          refine wpAnyM_take (by kernel_rfl) (by intro c a d v w h; cases d <;> exact h) [(0, false), (1, false), (2, false), (3, true), (4, false), (5, true), (6, false), (7, false), (8, false), (9, true), (10, false), (11, true)] (fuel := 7) (by kernel_rfl) ?_
          apply Exists.intro; refine ⟨?_, ⟨_, HX.out.up3.up3⟩, ?_⟩
          · iterate 12 (refine xE ?_)
            exact rfl
          clear hl hl2 hl3 hl4
          refine wpAnyM_each (fuel := 6) [12, 16] (by kernel_rfl) (by simp) (fun i hi => ?_)
          simp only [List.mem_cons, List.not_mem_nil, or_false] at hi
          rcases hi with rfl | rfl
          · refine ⟨_, (by (simp only [k_i, k_j, k_k]; try rfl)), fun K hK => ?_⟩
            go_wp2_with fail
            have hrq := mdo_any HX.out hd HB.out.1.tree (by have := HB.out.2.1; omega) xs (S.zxid + 1) xops _ HG.out.2.2.1 (fun o ho => (op_sizes (HG.out.2.2.2.2.2 o ho)).1)
            rw [HM1.out.1] at hrq
            refine hrq.mono ?_
            clear hrq
            rintro e w ⟨v9, P4, rfl, hP4, ⟨a9, n9, c9, xs9, rfl, hrl9, hmem9⟩, hx⟩
            clear HX
            have HX := Lib.hid hx
            have HPN := Lib.hid (show _ ∧ _ ∧ _ from ⟨hP4, hrl9, hmem9⟩)
            clear hx hP4 hrl9 hmem9
            dsimp only at HX HPN ⊢
            go_wp2_with fail
            refine hK _ _ ⟨_, HX.out.up3.up3⟩ ?_
            clear hK
            refine wpAnyM_take (by kernel_rfl) (by intro c a d v w h; cases d <;> exact h) [(13, false), (14, false), (15, false)] (fuel := 3) (by kernel_rfl) ?_
            apply Exists.intro; refine ⟨?_, ⟨_, HX.out.up3.up3⟩, ?_⟩
            · iterate 3 (refine xE ?_)
              exact rfl
            refine wpAnyM_one (fuel := 2) (i := 16) (by kernel_rfl) (by (simp only [k_i, k_j, k_k]; try rfl)) (fun K hK => ?_)    -- alloc
            go_wp2_with (first | go_skip | refine uK ?_ | refine uL ?_ | refine uM ?_ | (refine uS ?_; clear HX; intro w HX) | (refine uA ?_; clear HX; (first | (have hq := b2; clear hq; intro w b3 HX) | (have hq := b; clear hq; intro w b2 HX) | intro w b HX)) | (refine tWN ?_; clear HX; intro w mm HX; simp only [Act.put, k_a, k_b, k_c]) | (refine tWP ?_; clear HX; intro w av nv cv HX; simp only [Act.put, k_a, k_b, k_c]))
            refine hK _ _ ⟨_, HX.out.up4.up4⟩ ?_
            clear hK
            refine wpAnyM_of_any _ _ _ _ (by decide) ?_
            refine wpAny_list [17, 18] (fuel := 0) (by kernel_rfl) ?_
            simp only [List.filterMap_cons, List.filterMap_nil, k_i, k_j, k_k]
            (with_reducible apply sx_storeS HX)
            · rfl
            · rfl
            · rfl
            · kernel_rfl
            · (repeat (first | (with_reducible exact Rep.here) | (with_reducible apply Rep.there)))
            · rfl
            · rfl
            clear HX
            intro w HX
            simp only [Act.put, k_a, k_b, k_c, setMany, Nat.reduceAdd] at HX ⊢
            go_wp2_with (first | go_skip | refine uK ?_ | refine uL ?_ | refine uM ?_ | (refine uS ?_; clear HX; intro w HX) | (refine uA ?_; clear HX; (first | (have hq := b2; clear hq; intro w b3 HX) | (have hq := b; clear hq; intro w b2 HX) | intro w b HX)) | (refine tWN ?_; clear HX; intro w mm HX; simp only [Act.put, k_a, k_b, k_c]) | (refine tWP ?_; clear HX; intro w av nv cv HX; simp only [Act.put, k_a, k_b, k_c]))
            go_ret2
            have h6 := HX.out
            rw [← HRR2.out] at h6
            exact ⟨P4, a9, n9, c9, xs9, rfl, HPN.out.1, HPN.out.2.1, HPN.out.2.2, HFIN.out _ S2 P4 S.closed HM1.out.2 HPN.out.1 (h6.pm 9 [6, 7, 8, 3, 2, 5, 1] rfl rfl)⟩
          · refine ⟨_, (by (simp only [k_i, k_j, k_k]; try rfl)), fun K hK => ?_⟩
            go_wp2_with (first | go_skip | refine uK ?_ | refine uL ?_ | refine uM ?_ | (refine uS ?_; clear HX; intro w HX) | (refine uA ?_; clear HX; (first | (have hq := b2; clear hq; intro w b3 HX) | (have hq := b; clear hq; intro w b2 HX) | intro w b HX)) | (refine tWN ?_; clear HX; intro w mm HX; simp only [Act.put, k_a, k_b, k_c]) | (refine tWP ?_; clear HX; intro w av nv cv HX; simp only [Act.put, k_a, k_b, k_c]))
            refine hK _ _ ⟨_, HX.out.up4.up4⟩ ?_
            clear hK
            refine wpAnyM_one (fuel := 5) (i := 12) (by kernel_rfl) (by (simp only [k_i, k_j, k_k]; try rfl)) (fun K hK => ?_)
            go_wp2_with fail
            have hrq := mdo_any HX.out.up2.up2 hd HB.out.1.tree (by have := HB.out.2.1; omega) xs (S.zxid + 1) xops _ HG.out.2.2.1 (fun o ho => (op_sizes (HG.out.2.2.2.2.2 o ho)).1)
            rw [HM1.out.1] at hrq
            refine hrq.mono ?_
            clear hrq
            rintro e w ⟨v9, P4, rfl, hP4, ⟨a9, n9, c9, xs9, rfl, hrl9, hmem9⟩, hx⟩
            clear HX
            have HX := Lib.hid hx
            have HPN := Lib.hid (show _ ∧ _ ∧ _ from ⟨hP4, hrl9, hmem9⟩)
            clear hx hP4 hrl9 hmem9
            dsimp only at HX HPN ⊢
            go_wp2_with fail
            refine hK _ _ ⟨_, HX.out.up4.up4⟩ ?_
            clear hK
            refine wpAnyM_take (by kernel_rfl) (by intro c a d v w h; cases d <;> exact h) [(13, false), (14, false), (15, false)] (fuel := 2) (by kernel_rfl) ?_
            apply Exists.intro; refine ⟨?_, ⟨_, HX.out.up4.up4⟩, ?_⟩
            · iterate 3 (refine xE ?_)
              exact rfl
            refine wpAnyM_of_any _ _ _ _ (by decide) ?_
            refine wpAny_list [17, 18] (fuel := 0) (by kernel_rfl) ?_
            simp only [List.filterMap_cons, List.filterMap_nil, k_i, k_j, k_k]
            (with_reducible apply sx_storeS HX)
            · rfl
            · rfl
            · rfl
            · kernel_rfl
            · (repeat (first | (with_reducible exact Rep.here) | (with_reducible apply Rep.there)))
            · rfl
            · rfl
            clear HX
            intro w HX
            simp only [Act.put, k_a, k_b, k_c, setMany, Nat.reduceAdd] at HX ⊢
            go_wp2_with (first | go_skip | refine uK ?_ | refine uL ?_ | refine uM ?_ | (refine uS ?_; clear HX; intro w HX) | (refine uA ?_; clear HX; (first | (have hq := b2; clear hq; intro w b3 HX) | (have hq := b; clear hq; intro w b2 HX) | intro w b HX)) | (refine tWN ?_; clear HX; intro w mm HX; simp only [Act.put, k_a, k_b, k_c]) | (refine tWP ?_; clear HX; intro w av nv cv HX; simp only [Act.put, k_a, k_b, k_c]))
            go_ret2
            have h6 := HX.out
            rw [← HRR2.out] at h6
            exact ⟨P4, a9, n9, c9, xs9, rfl, HPN.out.1, HPN.out.2.1, HPN.out.2.2, HFIN.out _ S2 P4 S.closed HM1.out.2 HPN.out.1 (h6.pm 9 [6, 7, 8, 3, 1, 5, 0] rfl rfl)⟩
end
end Go.Proofs.YtbakgoncfggidaaGreatDoor

namespace Go.Av
open Go.RowKit
theorem take_good {H : HeldL} {who : Int} {ps : List Bs} (h : ∀ e ∈ H, goodP e.1 = true) : ∀ e ∈ takeH H who ps, goodP e.1 = true := by
  intro e he
  unfold takeH at he
  split at he
  · exact h e he
  · rename_i hw
    rcases foldH_keys ps H he with h1 | h1
    · unfold wrongH at hw
      split at hw
      · exact absurd rfl hw
      · rename_i hf
        have := List.find?_eq_none.1 hf e.1 h1.1
        simpa using this
    · exact h e h1
theorem takeOps_good {id : Int} : ∀ (ops : List OpS) {H : HeldL}, (∀ e ∈ H, goodP e.1 = true) → ∀ e ∈ takeOps H id ops, goodP e.1 = true
  | [], H, h => h
  | o :: ops, H, h => takeOps_good ops (take_good h)
theorem PartB.mono {K K' : Nat} {S : PartS} (h : PartB K S) (hK : K ≤ K') : PartB K' S :=
  ⟨h.tree.mono (by omega), h.held, h.wait, by have := h.many; omega, by have := h.zx; omega, h.apart, h.good⟩
theorem local_b {K : Nat} {S : PartS} (h : PartB K S) (sess num : Int) (ops : List OpS) : PartB (K + 1) (localS S sess num ops).2 := by
  have hz := h.zx
  have hm := h.many
  unfold localS
  split
  · exact h.mono (by omega)
  · split
    · exact ⟨h.tree.mono (by omega), h.held, h.wait, by show S.wait.length ≤ _; omega, by show 0 ≤ S.zxid + 1 ∧ S.zxid + 1 ≤ _; omega, h.apart, h.good⟩
    · refine ⟨(request_b h.tree sess num (S.zxid + 1) ops).mono (by omega), h.held, h.wait, by show S.wait.length ≤ _; omega, by show 0 ≤ S.zxid + 1 ∧ S.zxid + 1 ≤ _; omega, h.apart, request_g h.good _ _ _ _⟩
theorem known_dec {S : PartS} {id sess : Int} (h : knownS S id sess = false) : id ∉ S.decided := by
  unfold knownS at h
  simp only [Bool.or_eq_false_iff, decide_eq_false_iff_not] at h
  exact h.2.2.2
theorem prep_b {K : Nat} {S : PartS} (h : PartB K S) (id sess : Int) (ops : List OpS) : PartB (K + 1) (prepS S id sess ops).2 := by
  have hz := h.zx
  have hm := h.many
  unfold prepS
  split
  · exact h.mono (by omega)
  · rename_i hk
    split
    · exact h.mono (by omega)
    · rename_i hmay
      split
      · exact h.mono (by omega)
      · have hg := may_goods (by simpa using hmay : mayS sess 1 ops = 0)
        refine ⟨h.tree.mono (by omega), takeOps_good ops h.held, fun e he => ?_, by show (S.wait ++ [_]).length ≤ _; simp; omega, by show 0 ≤ S.zxid ∧ S.zxid ≤ _; omega, fun e he => ?_, h.good⟩
        · rcases List.mem_append.1 he with he | he
          · exact h.wait e he
          · rw [List.mem_singleton] at he; rw [he]; exact hg
        · rcases List.mem_append.1 he with he | he
          · exact h.apart e he
          · rw [List.mem_singleton] at he; rw [he]; exact known_dec (S := S) (id := id) (sess := sess) (by simpa using hk)
theorem close_b {K : Nat} {S : PartS} (h : PartB K S) (id sess : Int) : PartB (K + 1) (closeS S id sess).2 := by
  have hz := h.zx
  have hm := h.many
  unfold closeS
  split
  · exact h.mono (by omega)
  · rename_i hk
    split
    · exact h.mono (by omega)
    · split
      · exact h.mono (by omega)
      · split
        · exact h.mono (by omega)
        · refine ⟨h.tree.mono (by omega), take_good h.held, fun e he => ?_, by show (S.wait ++ [_]).length ≤ _; simp; omega, by show 0 ≤ S.zxid ∧ S.zxid ≤ _; omega, fun e he => ?_, h.good⟩
          · rcases List.mem_append.1 he with he | he
            · exact h.wait e he
            · rw [List.mem_singleton] at he; rw [he]; exact ⟨by simp, by simp⟩
          · rcases List.mem_append.1 he with he | he
            · exact h.apart e he
            · rw [List.mem_singleton] at he; rw [he]; exact known_dec (S := S) (id := id) (sess := sess) (by simpa using hk)
theorem decide_b {K : Nat} {S : PartS} (h : PartB K S) (id : Int) (commit : Bool) : PartB (K + 1) (decideS S id commit).2 := by
  have hz := h.zx
  have hm := h.many
  have hw : ∀ e ∈ delW S.wait id, e ∈ S.wait ∧ e.1 ≠ id := fun e he => by
    obtain ⟨h1, h2⟩ := List.mem_filter.1 he
    exact ⟨h1, by simpa using h2⟩
  have hl : (delW S.wait id).length ≤ K + 1 := Nat.le_trans (List.length_filter_le _ _) (by omega)
  have ha : ∀ e ∈ delW S.wait id, e.1 ∉ S.decided ++ [id] := fun e he hh => by
    obtain ⟨h1, h2⟩ := hw e he
    rcases List.mem_append.1 hh with hh | hh
    · exact h.apart e h1 hh
    · exact h2 (List.mem_singleton.1 hh)
  have hf : ∀ e ∈ freeH S.held id, goodP e.1 = true := fun e he => h.held e (List.mem_filter.1 he).1
  have hzx : 0 ≤ S.zxid + 1 ∧ S.zxid + 1 ≤ ((K + 1 : Nat) : Int) := by omega
  unfold decideS
  split
  · exact h.mono (by omega)
  · split
    · exact ⟨h.tree.mono (by omega), hf, fun e he => h.wait e (hw e he).1, hl, hzx, ha, h.good⟩
    · split
      · exact ⟨(purT_b _ h.tree).mono (by omega), hf, fun e he => h.wait e (hw e he).1, hl, hzx, ha, pur_g _ h.good⟩
      · exact ⟨(many_b h.tree _ _ _).mono (by omega), hf, fun e he => h.wait e (hw e he).1, hl, hzx, ha, many_g h.good _ _ _⟩
end Go.Av

namespace Go.Av
open Go.RowKit
section
variable {P : Program} {w0 w : World} {R Ts Ts' : List Thing} {rows : List (Value × Bs)} {Pl : List PRow}
theorem Sep.poolPut {K K2 : Nat} {v v2 : Value} {xs ys : List Value} (h : Sep w0 w (ThPool w0 Pl :: R) rows) (hr : (K, v, xs) ∈ Pl) (hf : ∀ W E, ReadRow W K v xs E → ∃ E', ReadRow W K2 v2 ys E' ∧ ∀ b ∈ E', b ∈ E) : Sep w0 w (ThPool w0 ((K2, v2, ys) :: Pl) :: R) rows := by
  obtain ⟨F, hl, hu, hrr⟩ := h
  cases hl with
  | @cons _ D _ G h1 h2 h3 =>
    refine ⟨D ++ G, .cons ⟨h1.1, fun r hr' => ?_⟩ h2 h3, hu, hrr⟩
    rcases List.mem_cons.1 hr' with rfl | hr'
    · rcases h1.2 _ hr with ⟨E, hE, hED⟩ | ⟨E, hE⟩
      · obtain ⟨E', hE', hs⟩ := hf _ _ hE
        exact .inl ⟨E', hE', fun b hb => hED b (hs b hb)⟩
      · obtain ⟨E', hE', -⟩ := hf _ _ hE
        exact .inr ⟨E', hE'⟩
    · exact h1.2 r hr'
theorem run_sliceAt {t e : TypeId} (ht : P.underlying t = some (.slice e)) (x : Value) (l h m : Option Value) (W : World) : (Instr.sliceAt t x l h m).run P W = (Instr.slice t x l h m).run P W := by
  unfold Instr.sliceAt
  rw [Sem.run_bind, run_underlying ht]
  rfl
end
section
variable {P : Program} {ops : Array Oper} {Q : Exit → Act → World → Prop} {a : Act} {w w0 : World} {rest : List Oper} {Ts Ts' : List Thing} {rows : List (Value × Bs)} {dst : Option Tmp} {tyy t e : TypeId} {pos : String} {aft : Array Edge}
theorem sx_lit0 (H : Hid (Sep w0 w Ts rows)) {K by_ : Nat} (hsl : SliceN P t e K by_)
    (k : ∀ w' b, Hid (Sep w0 w' (ThRow K (.slice (some ⟨b, 0, none⟩) 0 0) [] :: Ts) rows) → wpList P ops Q rest (a.put dst (.slice (some ⟨b, 0, none⟩) 0 0)) w') : wpList P ops Q (⟨dst, .buildSlice t 0 #[], tyy, pos, aft, none⟩ :: rest) a w := by
  obtain ⟨ii, z, hi, hz, hsz, hzs, -⟩ := hsl.info
  have hr : (Instr.buildSlice t 0 #[]).run P w = .ok (.slice (some ⟨w.heap.size, 0, none⟩) 0 0) (w.alloc (.cells #[] e)) := by
    simp [Instr.buildSlice, Sem.run_bind, run_underlying hsl.ut, sizeOf, typeInfo, hi, newRow, Instr.fill]
    have h0 : Array.range 0 = #[] := Array.eq_empty_of_size_eq_zero (by simp)
    rw [h0, Array.map_empty]
  have h0 : Sep w0 (w.alloc (.cells (([] : List Value).toArray) e)) (ThCell w.heap.size (.cells (([] : List Value).toArray) e (0, 0)) :: Ts) rows := H.out.newCell _
  have hk := k (w.alloc (.cells #[] e)) w.heap.size (Lib.hid (Sep.cellRow (K := K) (n := 0) h0 (by simp) (by omega)))
  refine wpList_ran (w' := w.alloc (.cells #[] e)) (v := .slice (some ⟨w.heap.size, 0, none⟩) 0 0) ?_ ?_ hk
  · simp [Region.wanted]
  · unfold execOp
    dsimp only
    rw [Array.map_empty]
    exact run_val hr
theorem sx_appP (H : Hid (Sep w0 w Ts rows)) {K by_ : Nat} {s x : Operand} {av a2 : Option Addr} {nv cv n2 c2 : Nat} {xs ys : List Value} {Pl : List PRow} (hsl : SliceN P t e K by_) (hs : a.eval s = .slice av nv cv) (hx : a.eval x = .slice a2 n2 c2)
    (hr : Rem (ThRow K (.slice av nv cv) xs) Ts Ts') (hm : ThPool w0 Pl ∈ Ts) (hrow : (K, Value.slice a2 n2 c2, ys) ∈ Pl) (h1 : ∀ u ∈ ys, u.oneCell' = true) (hb : ∀ n m, xs.length = n * K → ys.length = m * K → (n + m) ≤ 140737488355328 ∧ (n + m) * by_ ≤ 140737488355328)
    (k : ∀ w' a' n' c', Hid (Sep w0 w' (ThRow K (.slice a' n' c') (xs ++ ys) :: Ts') rows) → wpList P ops Q rest (a.put dst (.slice a' n' c')) w') :
    wpList P ops Q (⟨dst, .call { callee := .builtin .append, args := #[s, x], argTypes := #[t, t] }, tyy, pos, aft, none⟩ :: rest) a w := by
  obtain ⟨D, hD⟩ := H.out.has hm
  have : ∃ E, ReadRow w K (.slice a2 n2 c2) ys E := by
    rcases hD.2 _ hrow with ⟨E, hE, -⟩ | ⟨E, hE⟩
    · exact ⟨E, hE⟩
    · exact ⟨E, hE.frame (fun b hb => H.out.below.block b (hE.lt b hb))⟩
  obtain ⟨E, hE⟩ := this
  obtain ⟨m, hm1, hsrc⟩ := hE.src hsl.ut h1
  exact sx_app H hsl hs hx hr hsrc (fun n hn => hb n m hn hm1) k
end
end Go.Av

namespace Go.Proofs.YtbakgoncfggidaaGreatDoor
open Go.RowKit Go.Av
section
variable {w0 w : World} {P P' : List PRow} {R : List Thing} {rows : List (Value × Bs)}
theorem ops_one (l : List OpS) : ∀ u ∈ l.flatMap OpS.cells, u.oneCell' = true := by
  intro u hu
  obtain ⟨o, -, ho⟩ := List.mem_flatMap.1 hu
  simp only [OpS.cells, List.mem_cons, List.not_mem_nil, or_false] at ho
  rcases ho with rfl | rfl | rfl | rfl | rfl <;> rfl
def ClnPost (w0 : World) (P : List PRow) (R : List Thing) (rows : List (Value × Bs)) (l : List OpS) (e : Ending) (w' : World) : Prop :=
  ∃ v, e = .returned v ∧ Sep w0 w' (ThRow 5 v (l.flatMap OpS.cells) :: ThPool w0 P :: R) rows
set_option maxRecDepth 100000 in
set_option maxHeartbeats 4000000 in
theorem cloneOps_any (h : Sep w0 w (ThPool w0 P :: R) rows) (l : List OpS) (v : Value) (hv : (5, v, l.flatMap OpS.cells) ∈ P) (hn : l.length ≤ 1000) (h0 : l ≠ []) :
    Calls Tryz.prog 76 #[v] w (ClnPost w0 P R rows l) := by
  obtain ⟨E, hE⟩ := h.poolGet hv
  obtain ⟨a, n, c, rfl, hl0, -, -, hne⟩ := ReadRow.some hE
  rw [flatG_len opcells_len] at hl0
  obtain rfl : l.length = n := by omega
  obtain ⟨g, off, rfl⟩ := hne (by intro e; have := congrArg List.length e; rw [flatG_len opcells_len] at this; simp only [List.length_nil] at this; exact h0 (List.eq_nil_of_length_eq_zero (by omega)))
  have hnil := fun (W : World) (a : Option Addr) (n c n' c' : Nat) => Lib.run_eql_slice_nil (P := Tryz.prog) W 28 50 a n c n' c' Tryz.underlying28
  have HV := Lib.hid hv
  have HONE := Lib.hid (ops_one l)
  have HLEN := Lib.hid (show (l.flatMap OpS.cells).length = l.length * 5 from flatG_len opcells_len ..)
  have HX := Lib.hid h
  clear h hv hE hne hl0 h0
  go_enter Tryz.func76, Tryz.ntmps76
  go_wp2_with (first | go_skip | refine uL ?_ | refine uM ?_ | (refine uS ?_; clear HX; intro w HX) | (refine uA ?_; clear HX; (first | (have hq := b3; clear hq; intro w b4 HX) | (have hq := b2; clear hq; intro w b3 HX) | (have hq := b; clear hq; intro w b2 HX) | intro w b HX)) | (refine tWN ?_; clear HX; intro w mm HX; simp only [Act.put, k_a, k_b, k_c]) | (refine tWP ?_; clear HX; intro w av nv cv HX; simp only [Act.put, k_a, k_b, k_c]) | (refine sx_lit0 HX sl_op ?_; clear HX; intro w b3 HX; simp only [Act.put, k_a, k_b, k_c]) | ((with_reducible apply sx_appP HX); (· exact sl_op); (· rfl); (· rfl); (· (repeat (first | (with_reducible exact Rem.here) | (with_reducible apply Rem.there)))); (· (repeat (first | (with_reducible exact k_s) | (with_reducible apply k_m)))); (· exact HV.out); (· exact HONE.out); (· (intro n m hn2 hm; have := HLEN.out; simp only [List.length_nil] at hn2; omega)); clear HX; intro w av nv cv HX; simp only [Act.put, k_a, k_b, k_c]))
  go_ret
  refine ⟨_, rfl, ?_⟩
  have h1 := HX.out
  rw [List.nil_append] at h1
  exact h1
end
end Go.Proofs.YtbakgoncfggidaaGreatDoor

namespace Go.Av
theorem prep_known {S : PartS} {id sess : Int} {ops : List OpS} (h : knownS S id sess = true) : prepS S id sess ops = ((1, -1), S) := by unfold prepS; rw [if_pos h]
theorem prep_may {S : PartS} {id sess : Int} {ops : List OpS} (h : knownS S id sess = false) (h1 : mayS sess 1 ops ≠ 0) : prepS S id sess ops = ((mayS sess 1 ops, -1), S) := by unfold prepS; rw [if_neg (by rw [h]; exact Bool.false_ne_true), if_pos h1]
theorem prep_busy {S : PartS} {id sess : Int} {ops : List OpS} (h : knownS S id sess = false) (h1 : mayS sess 1 ops = 0) (h2 : (busyS S id sess ops).1 ≠ 0) : prepS S id sess ops = (busyS S id sess ops, S) := by unfold prepS; rw [if_neg (by rw [h]; exact Bool.false_ne_true), if_neg (fun hh => hh h1), if_pos h2]
theorem prep_rest {S : PartS} {id sess : Int} {ops : List OpS} (h : knownS S id sess = false) (h1 : mayS sess 1 ops = 0) (h2 : (busyS S id sess ops).1 = 0) : prepS S id sess ops =
  (if (manyT S.t sess S.zxid ops).2.2 = true then (0, -1) else ((manyT S.t sess S.zxid ops).1.err, (manyT S.t sess S.zxid ops).1.at_),
    { S with held := takeOps S.held id ops, wait := S.wait ++ [(id, ⟨sess, ops, false, !(manyT S.t sess S.zxid ops).2.2⟩)] }) := by
  unfold prepS; rw [if_neg (by rw [h]; exact Bool.false_ne_true), if_neg (fun hh => hh h1), if_neg (fun hh => hh h2)]
theorem may_some {sess num : Int} {l : List OpS} (h : mayS sess num l = 0) : l ≠ [] := by
  rintro rfl
  unfold mayS at h
  rw [if_pos (show sess < 1 ∨ num < 1 ∨ ([] : List OpS).length = 0 from .inr (.inr rfl))] at h
  exact absurd h (by decide)
end Go.Av
namespace Go.Proofs.YtbakgoncfggidaaGreatDoor
open Go.RowKit Go.Av
section
variable {w0 w : World} {b : Nat} {S : PartS} {P P' : List PRow} {R : List Thing} {rows : List (Value × Bs)}
def PrpP (w0 : World) (b : Nat) (P : List PRow) (R : List Thing) (rows : List (Value × Bs)) (m : (Int × Int) × PartS) (e : Ending) (w' : World) : Prop :=
  ∃ P', e = .returned (.tuple #[.int .i64 m.1.1, .int .i64 m.1.2]) ∧ (∀ q ∈ P, q ∈ P') ∧ Sep w0 w' (ThPool w0 P' :: ThPart b m.2 P' :: R) rows
def PrpRel (w0 : World) (b b2 : Nat) (rc : Array Value) (id : Int) (ops : List OpS) (S : PartS) (P : List PRow) (R : List Thing) (rows : List (Value × Bs)) (k : Nat) (v : Value) (w : World) : Prop :=
  ∃ (i : Nat) (P' : List PRow), i + k = ops.length ∧ v = .int .i64 (i : Int) ∧ (∀ q ∈ P, q ∈ P') ∧ Sep w0 w (ThPool w0 P' :: ThPart b { S with held := takeOps S.held id (ops.take i) } P' :: ThCell b2 (.cells rc 34 (0, 0)) :: R) rows
set_option maxRecDepth 100000 in
set_option maxHeartbeats 8000000 in
theorem prep_any {K : Nat} (h : Sep w0 w (ThPool w0 P :: ThPart b S P :: R) rows) (hd : DoorN w0) (hB : PartB K S) (hK : K ≤ 1000) (id sess : Int) (ops : List OpS) (v : Value) (hv : (5, v, ops.flatMap OpS.cells) ∈ P) (hp : ∀ o ∈ ops, o.path.size ≤ 100000) :
    Calls Tryz.prog 18 #[.pointer (some ⟨b, 0, none⟩), .int .i64 id, .int .i64 sess, v] w (PrpP w0 b P R rows (prepS S id sess ops)) := by
  obtain ⟨E, hE⟩ := h.poolGet hv
  obtain ⟨a, n, c, rfl, hl0, -, -, hne⟩ := ReadRow.some hE
  rw [flatG_len opcells_len] at hl0
  obtain rfl : ops.length = n := by omega
  have HNE := Lib.hid hne
  have HV := Lib.hid (show _ ∧ _ from ⟨hv, hp⟩)
  have HB := Lib.hid (show _ ∧ _ from ⟨hB, hK⟩)
  have HX := Lib.hid h
  obtain ⟨rr, hrr⟩ : ∃ rr, prepS S id sess ops = rr := ⟨_, rfl⟩
  rw [hrr]
  have HRR := Lib.hid hrr
  clear h hE hv hp hB hK hrr hl0 hne
  go_enter Tryz.func18, Tryz.ntmps18
  go_wp2_with (first | go_skip | refine uK ?_ | refine uL ?_ | refine uM ?_ | (refine uS ?_; clear HX; intro w HX) | (refine uA ?_; clear HX; (first | (have hq := b3; clear hq; intro w b4 HX) | (have hq := b2; clear hq; intro w b3 HX) | (have hq := b; clear hq; intro w b2 HX) | intro w b HX)) | (refine tWN ?_; clear HX; intro w mm HX; simp only [Act.put, k_a, k_b, k_c]) | (refine tWP ?_; clear HX; intro w av nv cv HX; simp only [Act.put, k_a, k_b, k_c]))
  refine (known_any HX.out id sess).mono ?_
  obtain ⟨zk, hzk⟩ : ∃ z, knownS S id sess = z := ⟨_, rfl⟩
  rw [hzk]
  rintro e w ⟨rfl, hx⟩
  clear HX
  have HX := Lib.hid hx
  have HZK := Lib.hid hzk
  clear hx hzk
  cases zk with
  | true =>
    obtain rfl : rr = ((1, -1), S) := by rw [← HRR.out]; exact prep_known HZK.out
    go_wp2_with (first | go_skip | refine uK ?_ | refine uL ?_ | refine uM ?_ | (refine uS ?_; clear HX; intro w HX) | (refine uA ?_; clear HX; (first | (have hq := b3; clear hq; intro w b4 HX) | (have hq := b2; clear hq; intro w b3 HX) | (have hq := b; clear hq; intro w b2 HX) | intro w b HX)) | (refine tWN ?_; clear HX; intro w mm HX; simp only [Act.put, k_a, k_b, k_c]) | (refine tWP ?_; clear HX; intro w av nv cv HX; simp only [Act.put, k_a, k_b, k_c]))
    go_ret2
    exact ⟨P, rfl, fun q hq => hq, HX.out⟩
  | false =>
    obtain ⟨me, hme⟩ : ∃ me, mayS sess 1 ops = me := ⟨_, rfl⟩
    have HME := Lib.hid hme
    clear hme
    go_wp2_with (first | go_skip | refine uK ?_ | refine uL ?_ | refine uM ?_ | (refine uS ?_; clear HX; intro w HX) | (refine uA ?_; clear HX; (first | (have hq := b3; clear hq; intro w b4 HX) | (have hq := b2; clear hq; intro w b3 HX) | (have hq := b; clear hq; intro w b2 HX) | intro w b HX)) | (refine tWN ?_; clear HX; intro w mm HX; simp only [Act.put, k_a, k_b, k_c]) | (refine tWP ?_; clear HX; intro w av nv cv HX; simp only [Act.put, k_a, k_b, k_c]))
    refine (may_any HX.out hd sess 1 ops _ HV.out.1 HV.out.2).mono ?_
    rw [HME.out]
    rintro e w ⟨rfl, hx⟩
    clear HX
    have HX := Lib.hid hx
    clear hx
    by_cases h0 : me = 0
    case neg =>
      have q1 : (me != 0) = true := by rw [bne_iff_ne]; exact h0
      obtain rfl : rr = ((me, -1), S) := by rw [← HRR.out, prep_may HZK.out (by rw [HME.out]; exact h0), HME.out]
      clear h0
      go_wp2_with (first | go_skip | refine uK ?_ | refine uL ?_ | refine uM ?_ | (refine uS ?_; clear HX; intro w HX) | (refine uA ?_; clear HX; (first | (have hq := b3; clear hq; intro w b4 HX) | (have hq := b2; clear hq; intro w b3 HX) | (have hq := b; clear hq; intro w b2 HX) | intro w b HX)) | (refine tWN ?_; clear HX; intro w mm HX; simp only [Act.put, k_a, k_b, k_c]) | (refine tWP ?_; clear HX; intro w av nv cv HX; simp only [Act.put, k_a, k_b, k_c]))
      go_ret2
      exact ⟨P, rfl, fun q hq => hq, HX.out⟩
    case pos =>
      subst h0
      have HGD := Lib.hid (may_goods HME.out)
      have HGD0 := Lib.hid (may_some HME.out)
      go_wp2_with (first | go_skip | refine uK ?_ | refine uL ?_ | refine uM ?_ | (refine uS ?_; clear HX; intro w HX) | (refine uA ?_; clear HX; (first | (have hq := b3; clear hq; intro w b4 HX) | (have hq := b2; clear hq; intro w b3 HX) | (have hq := b; clear hq; intro w b2 HX) | intro w b HX)) | (refine tWN ?_; clear HX; intro w mm HX; simp only [Act.put, k_a, k_b, k_c]) | (refine tWP ?_; clear HX; intro w av nv cv HX; simp only [Act.put, k_a, k_b, k_c]))
      refine (busy_any HX.out hd id sess ops _ HV.out.1 (fun o ho => op_sizes (HGD.out.2 o ho)) (by have := HGD.out.1; omega) HB.out.1.keys (by have := HB.out.1.wanted; have := HB.out.2; omega) (fun e he => by have := (HB.out.1.wait e he).1; omega) ⟨HB.out.1.tree.many, HB.out.1.tree.room.2⟩).mono ?_
      obtain ⟨⟨be, bat⟩, hbs⟩ : ∃ r, busyS S id sess ops = r := ⟨_, rfl⟩
      rw [hbs]
      have HBS := Lib.hid hbs
      rintro e w ⟨P2, rfl, hP2, hx⟩
      clear HX hbs
      have HX := Lib.hid hx
      have HP2 := Lib.hid hP2
      clear hx hP2
      by_cases h0 : be = 0
      case neg =>
        have q1 : (be != 0) = true := by rw [bne_iff_ne]; exact h0
        obtain rfl : rr = ((be, bat), S) := by rw [← HRR.out, prep_busy HZK.out HME.out (by rw [HBS.out]; exact h0), HBS.out]
        clear h0
        go_wp2_with (first | go_skip | refine uK ?_ | refine uL ?_ | refine uM ?_ | (refine uS ?_; clear HX; intro w HX) | (refine uA ?_; clear HX; (first | (have hq := b3; clear hq; intro w b4 HX) | (have hq := b2; clear hq; intro w b3 HX) | (have hq := b; clear hq; intro w b2 HX) | intro w b HX)) | (refine tWN ?_; clear HX; intro w mm HX; simp only [Act.put, k_a, k_b, k_c]) | (refine tWP ?_; clear HX; intro w av nv cv HX; simp only [Act.put, k_a, k_b, k_c]))
        go_ret2
        exact ⟨P2, rfl, HP2.out, HX.out⟩
      case pos =>
        subst h0
        have HR2 := Lib.hid (HRR.out.symm.trans (prep_rest HZK.out HME.out (by rw [HBS.out])))
        clear HRR
        go_wp2_with (first | go_skip | refine uK ?_ | refine uL ?_ | refine uM ?_ | (refine uS ?_; clear HX; intro w HX) | (refine uA ?_; clear HX; (first | (have hq := b3; clear hq; intro w b4 HX) | (have hq := b2; clear hq; intro w b3 HX) | (have hq := b; clear hq; intro w b2 HX) | intro w b HX)) | (refine tWN ?_; clear HX; intro w mm HX; simp only [Act.put, k_a, k_b, k_c]) | (refine tWP ?_; clear HX; intro w av nv cv HX; simp only [Act.put, k_a, k_b, k_c]))
        obtain ⟨t, lk, mw, md, mc, gs, hgs, hgv, hS⟩ := pt_open HX.out.up1
        have HG := Lib.hid (show _ ∧ _ from ⟨hgs, hgv⟩)
        obtain ⟨R', hR'⟩ : ∃ R', ThLk lk S.held :: ThMap (.int .i64) mw (gs.map WaitG.kv) :: ThMap (.int .i64) md (S.decided.map ikv) :: ThMap (.int .i64) mc (S.closed.map ikv) :: R = R' := ⟨_, rfl⟩
        have h3 : Sep w0 w (ThPool w0 P2 :: ThTree t S.t P2 :: ThCell b (.cells (ptCells S.t.room t lk S.zxid mw md mc) 128 (0, 0)) :: R') rows := by
          rw [← hR']
          exact hS.pm 7 [6, 1, 0, 2, 3, 4, 5] rfl rfl
        have HRR2 := Lib.hid hR'
        obtain ⟨⟨⟨n1, z1, e1, t1, rs1⟩, S2, ok1⟩, hm1⟩ : ∃ m1, manyT S.t sess S.zxid ops = m1 := ⟨_, rfl⟩
        have hr2 := HR2.out
        rw [hm1] at hr2
        have HR3 := Lib.hid hr2
        have HM1 := Lib.hid hm1
        clear HX hgs hgv hS hR' hr2 HR2 hm1
        have HX := Lib.hid h3
        clear h3
        refine wp_region_M (fun W => (∃ Ts, Sep w0 W (ThCell b (.cells (ptCells S.t.room t lk S.zxid mw md mc) 128 (0, 0)) :: Ts) rows)) 16 (by kernel_rfl) ?_
        have KEEPX : ∀ W, (∃ Ts, Sep w0 W (ThCell b (.cells (ptCells S.t.room t lk S.zxid mw md mc) 128 (0, 0)) :: Ts) rows) → (∃ Ts, Sep w0 W (ThCell b (.cells (ptCells S.t.room t lk S.zxid mw md mc) 128 (0, 0)) :: Ts) rows) := fun _ h => h
        replace HX := Lib.hid HX.out.drew
        have hl : ∀ V, (∃ Ts, Sep w0 V (ThCell b (.cells (ptCells S.t.room t lk S.zxid mw md mc) 128 (0, 0)) :: Ts) rows) → (Instr.loadAt 53 (.pointer (some ⟨b, 1, none⟩))).run Tryz.prog V = .ok (.pointer (some ⟨t, 0, none⟩)) V := by
          rintro V ⟨Ts, hV⟩
          exact run_load_scalar (by kernel_rfl) (cell_of hV.blk 1 rfl)
        have hl2 : ∀ V, (∃ Ts, Sep w0 V (ThCell b (.cells (ptCells S.t.room t lk S.zxid mw md mc) 128 (0, 0)) :: Ts) rows) → (Instr.loadAt 2 (.pointer (some ⟨b, 3, none⟩))).run Tryz.prog V = .ok (.int .i64 S.zxid) V := by
          rintro V ⟨Ts, hV⟩
          exact run_load_scalar (by kernel_rfl) (cell_of hV.blk 3 rfl)
        refine wpAnyM_take (by kernel_rfl) (by intro c a d v w h; cases d <;> exact h) [(0, false), (1, false), (2, false), (3, true), (5, false), (6, false), (7, false), (8, false), (9, true), (10, false)] (fuel := 8) (by kernel_rfl) ?_
        apply Exists.intro; refine ⟨?_, ⟨_, HX.out.up2⟩, ?_⟩
        · iterate 10 (refine xE ?_)
          exact rfl
        clear hl hl2
        refine wpAnyM_each (fuel := 7) [4, 15] (by kernel_rfl) (by simp) (fun i hi => ?_)
        simp only [List.mem_cons, List.not_mem_nil, or_false] at hi
        rcases hi with rfl | rfl
        · refine ⟨_, (by (simp only [k_i, k_j, k_k]; try rfl)), fun K hK => ?_⟩
          go_wp2_with fail
          refine (treecopy_any HX.out (HB.out.1.tree.ok (by have := HB.out.2; omega))).mono ?_
          rintro e w ⟨tc, P3, rfl, hP3, hx⟩
          clear HX
          have HX := Lib.hid hx
          have HP3 := Lib.hid hP3
          clear hx hP3
          go_wp2_with fail
          refine hK _ _ ⟨_, HX.out.up3⟩ ?_
          clear hK
          refine wpAnyM_each (fuel := 6) [11, 15] (by kernel_rfl) (by simp) (fun i hi => ?_)
          simp only [List.mem_cons, List.not_mem_nil, or_false] at hi
          rcases hi with rfl | rfl
          · refine ⟨_, (by (simp only [k_i, k_j, k_k]; try rfl)), fun K hK => ?_⟩
            go_wp2_with fail
            have hrq := mdo_any HX.out hd HB.out.1.tree (by have := HB.out.2; omega) sess S.zxid ops _ (HP3.out _ (HP2.out _ HV.out.1)) HV.out.2
            rw [HM1.out] at hrq
            refine hrq.mono ?_
            clear hrq
            rintro e w ⟨v9, P4, rfl, hP4, ⟨a9, n9, c9, xs9, rfl, hrl9, hmem9⟩, hx⟩
            clear HX
            have HX := Lib.hid hx
            have HP4 := Lib.hid hP4
            clear hx hP4 hrl9 hmem9
            dsimp only at HX ⊢
            go_wp2_with fail
            refine hK _ _ ⟨_, HX.out.up3⟩ ?_
            clear hK
            refine wpAnyM_take (by kernel_rfl) (by intro c a d v w h; cases d <;> exact h) [(12, false), (13, false), (14, false)] (fuel := 3) (by kernel_rfl) ?_
            apply Exists.intro; refine ⟨?_, ⟨_, HX.out.up3⟩, ?_⟩
            · iterate 3 (refine xE ?_)
              exact rfl
            refine wpAnyM_one (fuel := 2) (i := 15) (by kernel_rfl) (by (simp only [k_i, k_j, k_k]; try rfl)) (fun K hK => ?_)    -- alloc
            go_wp2_with (first | go_skip | refine uK ?_ | refine uL ?_ | refine uM ?_ | (refine uS ?_; clear HX; intro w HX) | (refine uA ?_; clear HX; (first | (have hq := b3; clear hq; intro w b4 HX) | (have hq := b2; clear hq; intro w b3 HX) | (have hq := b; clear hq; intro w b2 HX) | intro w b HX)) | (refine tWN ?_; clear HX; intro w mm HX; simp only [Act.put, k_a, k_b, k_c]) | (refine tWP ?_; clear HX; intro w av nv cv HX; simp only [Act.put, k_a, k_b, k_c]))
            refine hK _ _ ⟨_, HX.out.up4⟩ ?_
            clear hK
            refine wpAnyM_of_any _ _ _ _ (by decide) ?_
            refine wpAny_list [16, 17] (fuel := 0) (by kernel_rfl) ?_
            simp only [List.filterMap_cons, List.filterMap_nil, k_i, k_j, k_k]
            (with_reducible apply sx_storeS HX)
            · rfl
            · rfl
            · rfl
            · kernel_rfl
            · (repeat (first | (with_reducible exact Rep.here) | (with_reducible apply Rep.there)))
            · rfl
            · rfl
            clear HX
            intro w HX
            simp only [Act.put, k_a, k_b, k_c, setMany, Nat.reduceAdd] at HX ⊢
            go_wp2_with (first | go_skip | refine uK ?_ | refine uL ?_ | refine uM ?_ | (refine uS ?_; clear HX; intro w HX) | (refine uA ?_; clear HX; (first | (have hq := b3; clear hq; intro w b4 HX) | (have hq := b2; clear hq; intro w b3 HX) | (have hq := b; clear hq; intro w b2 HX) | intro w b HX)) | (refine tWN ?_; clear HX; intro w mm HX; simp only [Act.put, k_a, k_b, k_c]) | (refine tWP ?_; clear HX; intro w av nv cv HX; simp only [Act.put, k_a, k_b, k_c]))
            have h9 := HX.out.up1.up2
            clear HX
            have HX := Lib.hid h9
            clear h9
            have h5 := HX.out
            rw [← HRR2.out] at h5
            have hq5 : Sep w0 w (ThTree t S.t P3 :: ThCell b (.cells (ptCells S.t.room t lk S.zxid mw md mc) 128 (0, 0)) :: ThLk lk S.held :: ThMap (.int .i64) mw (gs.map WaitG.kv) :: ThMap (.int .i64) md (S.decided.map ikv) :: ThMap (.int .i64) mc (S.closed.map ikv) :: ThPool w0 P4 :: ThCell b2 (.cells #[.int .i64 n1, .int .i64 z1, .int .i64 e1, .int .i64 t1, .slice a9 n9 c9] 34 (0, 0)) :: R) rows := h5.pm 9 [3,4,5,6,7,8,1,2] rfl rfl
            have h6 := tree_mono hq5 HP4.out
            have h7 := pt_shut h6.up1 HG.out.1 (fun g hg => HP4.out _ (HP3.out _ (HG.out.2 g hg)))
            have HST := Lib.hid (show PrpRel w0 b b2 #[.int .i64 n1, .int .i64 z1, .int .i64 e1, .int .i64 t1, .slice a9 n9 c9] id ops S P R rows ops.length (.int .i64 (0 : Int)) w from ⟨0, P4, by simp, rfl, fun q hq => HP4.out _ (HP3.out _ (HP2.out _ hq)), h7.up1⟩)
            clear HX h5 hq5 h6 h7 HG HRR2 HP2 HP3 HP4 HM1
            try clear KEEPX
            go_loopg [16, 57] ops.length (fun k _ v wr => PrpRel w0 b b2 #[.int .i64 n1, .int .i64 z1, .int .i64 e1, .int .i64 t1, .slice a9 n9 c9] id ops S P R rows k v wr)
            case atStart => exact HST.out
            case round =>
              rename World => w
              obtain ⟨i, P5, hik, rfl, hP5, hS⟩ := hrel
              clear HST
              have HX := Lib.hid hS
              have HP5 := Lib.hid hP5
              clear hS hP5
              by_cases hlt : i < ops.length
              case neg =>
                obtain rfl : i = ops.length := by omega
                rw [List.take_length] at HX
                have q0 : decide ((ops.length : Int) < (ops.length : Int)) = false := decide_eq_false (by omega)
                have hol : ops.length ≤ 1000 := by have := HGD.out.1; omega
                have q9 : decide (ops.length < ops.length) = false := decide_eq_false (by omega)
                clear hlt hik
                go_wp2_with (first | go_skip | refine uK ?_ | refine uL ?_ | refine uM ?_ | (refine uS ?_; clear HX; intro w HX) | (refine uA ?_; clear HX; (first | (have hq := b3; clear hq; intro w b4 HX) | (have hq := b2; clear hq; intro w b3 HX) | (have hq := b; clear hq; intro w b2 HX) | intro w b HX)) | (refine tWN ?_; clear HX; intro w mm HX; simp only [Act.put, k_a, k_b, k_c]) | (refine tWP ?_; clear HX; intro w av nv cv HX; simp only [Act.put, k_a, k_b, k_c]))
                obtain ⟨t, lk, mw, md, mc, gs, hgs, hgv, hS⟩ := pt_open HX.out.up1
                have HG := Lib.hid (show _ ∧ _ from ⟨hgs, hgv⟩)
                obtain ⟨R', hR'⟩ : ∃ R', ThTree t S.t P5 :: ThLk lk (takeOps S.held id ops) :: ThMap (.int .i64) md (S.decided.map ikv) :: ThMap (.int .i64) mc (S.closed.map ikv) :: R = R' := ⟨_, rfl⟩
                have h3 : Sep w0 w (ThPool w0 P5 :: ThCell b (.cells (ptCells S.t.room t lk S.zxid mw md mc) 128 (0, 0)) :: ThMap (.int .i64) mw (gs.map WaitG.kv) :: ThCell b2 (.cells #[.int .i64 n1, .int .i64 z1, .int .i64 e1, .int .i64 t1, .slice a9 n9 c9] 34 (0, 0)) :: R') rows := by
                  rw [← hR']
                  exact hS.pm 8 [6, 0, 3, 7, 1, 2, 4, 5] rfl rfl
                have HRR2 := Lib.hid hR'
                clear HX hgs hgv hS hR'
                have HX := Lib.hid h3
                clear h3
                refine wp_region_M (fun W => (∃ Ts, Sep w0 W (ThCell b (.cells (ptCells S.t.room t lk S.zxid mw md mc) 128 (0, 0)) :: Ts) rows)) 12 (by kernel_rfl) ?_
                have KEEPX : ∀ W, (∃ Ts, Sep w0 W (ThCell b (.cells (ptCells S.t.room t lk S.zxid mw md mc) 128 (0, 0)) :: Ts) rows) → (∃ Ts, Sep w0 W (ThCell b (.cells (ptCells S.t.room t lk S.zxid mw md mc) 128 (0, 0)) :: Ts) rows) := fun _ h => h
                replace HX := Lib.hid HX.out.drew
                have hl : ∀ V, (∃ Ts, Sep w0 V (ThCell b (.cells (ptCells S.t.room t lk S.zxid mw md mc) 128 (0, 0)) :: Ts) rows) → (Instr.loadAt 125 (.pointer (some ⟨b, 4, none⟩))).run Tryz.prog V = .ok (.map (some mw)) V := by
                  rintro V ⟨Ts, hV⟩
                  exact run_load_scalar (by kernel_rfl) (cell_of hV.blk 4 rfl)
                refine wpAnyM_take (by kernel_rfl) (by intro c a d v w h; cases d <;> exact h) [(0, false), (1, false), (2, false), (3, true), (4, false), (5, false), (6, false), (8, false), (9, false)] (fuel := 3) (by kernel_rfl) ?_
                apply Exists.intro; refine ⟨?_, ⟨_, HX.out.up1⟩, ?_⟩
                · iterate 9 (refine xE ?_)
                  exact rfl
                clear hl
                refine wpAnyM_one (fuel := 2) (i := 7) (by kernel_rfl) (by (simp only [k_i, k_j, k_k]; try rfl)) (fun K hK => ?_)
                go_wp2_with fail
                refine (cloneOps_any HX.out ops _ (HP5.out _ HV.out.1) hol HGD0.out).mono ?_
                rintro e w ⟨v9, rfl, hx⟩
                obtain ⟨ka, kn, kc, rfl, -⟩ := hx.rowLen
                have h9 := hx.poolRow
                clear HX hx
                have HX := Lib.hid h9
                clear h9
                go_wp2_with fail
                refine hK _ _ ⟨_, HX.out.up1⟩ ?_
                clear hK
                refine wpAnyM_take (by kernel_rfl) (by intro c a d v w h; cases d <;> exact h) [(10, false)] (fuel := 1) (by kernel_rfl) ?_
                apply Exists.intro; refine ⟨?_, ⟨_, HX.out.up1⟩, ?_⟩
                · iterate 1 (refine xE ?_)
                  exact rfl
                refine wpAnyM_one (fuel := 0) (i := 11) (by kernel_rfl) (by (simp only [k_i, k_j, k_k]; try rfl)) (fun K hK => ?_)    -- mapUpdate
                obtain ⟨w9, hrun, h9⟩ := Sep.mapAdd (P := Tryz.prog) (key := .int .i64 id) (v := .agg #[.int .i64 sess, .slice ka kn kc, .bool false, .bool (!ok1)]) HX.out.up2 Tryz.underlying125 Tryz.underlying2 (by first | trivial | rfl | exact ⟨_, rfl⟩) (fun q hq e => by
                  obtain ⟨g, hg, rfl⟩ := List.mem_map.1 hq
                  simp only [WaitG.kv, Value.int.injEq, true_and] at e
                  have h1 := known_has HZK.out
                  have h2 : S.wait = gs.map WaitG.ent := HG.out.1.symm
                  rw [h2, has_gs, List.any_eq_false] at h1
                  exact h1 g hg (by rw [e]; exact beq_self_eq_true _))
                have H9 := Lib.hid h9
                clear h9
                go_wp2_with fail
                refine hK _ _ ⟨_, H9.out.up2⟩ ?_
                clear hK
                refine wpAnyM_done (by kernel_rfl) ?_ _
                have h6 := H9.out
                rw [← HRR2.out] at h6
                have h7 := tree_mono (P' := (5, Value.slice ka kn kc, ops.flatMap OpS.cells) :: P5) h6.up4 (fun q hq => k_n _ hq)
                have h8 := pt_shut (b := b) (t := t) (lk := lk) (mw := mw) (md := md) (mc := mc) (gs := gs ++ [⟨id, ⟨sess, ops, false, !ok1⟩, .slice ka kn kc⟩]) (S := { S with held := takeOps S.held id ops, wait := S.wait ++ [(id, ⟨sess, ops, false, !ok1⟩)] }) (R := ThPool w0 ((5, Value.slice ka kn kc, ops.flatMap OpS.cells) :: P5) :: ThCell b2 (.cells #[.int .i64 n1, .int .i64 z1, .int .i64 e1, .int .i64 t1, .slice a9 n9 c9] 34 (0, 0)) :: R) (by rw [List.map_append]; exact h7.pm 8 [3, 0, 5, 1, 6, 7, 2, 4] rfl rfl) (by rw [List.map_append, HG.out.1]; rfl) (fun g hg => by
                  rcases List.mem_append.1 hg with hg | hg
                  · exact k_n _ (HG.out.2 g hg)
                  · rw [List.mem_singleton] at hg
                    rw [hg]
                    exact k_s)
                clear HX H9 hrun h6 h7
                have HX := Lib.hid h8
                clear h8
                rename World => w
                cases ok1 with
                | true =>
                  obtain rfl : rr = ((0, -1), { S with held := takeOps S.held id ops, wait := S.wait ++ [(id, ⟨sess, ops, false, !true⟩)] }) := HR3.out
                  go_wp2_with (first | go_skip | refine uK ?_ | refine uL ?_ | refine uM ?_ | (refine uS ?_; clear HX; intro w HX) | (refine uA ?_; clear HX; (first | (have hq := b3; clear hq; intro w b4 HX) | (have hq := b2; clear hq; intro w b3 HX) | (have hq := b; clear hq; intro w b2 HX) | intro w b HX)) | (refine tWN ?_; clear HX; intro w mm HX; simp only [Act.put, k_a, k_b, k_c]) | (refine tWP ?_; clear HX; intro w av nv cv HX; simp only [Act.put, k_a, k_b, k_c]))
                  go_ret2
                  exact ⟨_, rfl, fun q hq => k_n _ (HP5.out q hq), HX.out.pm 3 [1, 0] rfl rfl⟩
                | false =>
                  obtain rfl : rr = ((e1, t1), { S with held := takeOps S.held id ops, wait := S.wait ++ [(id, ⟨sess, ops, false, !false⟩)] }) := HR3.out
                  go_wp2_with (first | go_skip | refine uK ?_ | refine uL ?_ | refine uM ?_ | (refine uS ?_; clear HX; intro w HX) | (refine uA ?_; clear HX; (first | (have hq := b3; clear hq; intro w b4 HX) | (have hq := b2; clear hq; intro w b3 HX) | (have hq := b; clear hq; intro w b2 HX) | intro w b HX)) | (refine tWN ?_; clear HX; intro w mm HX; simp only [Act.put, k_a, k_b, k_c]) | (refine tWP ?_; clear HX; intro w av nv cv HX; simp only [Act.put, k_a, k_b, k_c]))
                  refine wp_region_M (fun W => W = w.drew) 6 (by kernel_rfl) ?_
                  replace HX := Lib.hid HX.out.drew
                  generalize w.drew = w at HX ⊢
                  refine wpAnyM_take (by kernel_rfl) (by intro c a d v w h; cases d <;> exact h) [(0, false), (1, true), (2, false), (3, true), (4, false), (5, false)] (fuel := 0) (by kernel_rfl) ?_
                  apply Exists.intro; refine ⟨?_, rfl, ?_⟩
                  · iterate 6 (refine xD ?_)
                    exact rfl
                  refine wpAnyM_done (by kernel_rfl) ?_ _
                  go_wp2_with (first | go_skip | refine uK ?_ | refine uL ?_ | refine uM ?_ | (refine uS ?_; clear HX; intro w HX) | (refine uA ?_; clear HX; (first | (have hq := b3; clear hq; intro w b4 HX) | (have hq := b2; clear hq; intro w b3 HX) | (have hq := b; clear hq; intro w b2 HX) | intro w b HX)) | (refine tWN ?_; clear HX; intro w mm HX; simp only [Act.put, k_a, k_b, k_c]) | (refine tWP ?_; clear HX; intro w av nv cv HX; simp only [Act.put, k_a, k_b, k_c]))
                  go_ret2
                  exact ⟨_, rfl, fun q hq => k_n _ (HP5.out q hq), HX.out.pm 3 [1, 0] rfl rfl⟩
              case pos =>
                obtain ⟨g, off, rfl⟩ := HNE.out (by intro e; have := congrArg List.length e; rw [flatG_len opcells_len] at this; simp at this; omega)
                obtain ⟨E, hE⟩ := HX.out.poolGet (HP5.out _ HV.out.1)
                have hl := row_load (P := Tryz.prog) (f := OpS.cells) (i := i) hE opcells_len sn_op hlt
                have HTK := Lib.hid (show ops.take (i + 1) = ops.take i ++ [ops[i]] from List.take_succ_eq_append_getElem hlt)
                have hgo := HGD.out.2 ops[i] (List.getElem_mem hlt)
                obtain ⟨o, ho⟩ : ∃ o, ops[i] = o := ⟨_, rfl⟩
                rw [ho] at hl HTK hgo
                have hsz := op_sizes hgo
                have HGO := Lib.hid hsz
                have q0 : decide (i < ops.length) = true := decide_eq_true hlt
                have q9 : i ≤ 16 := by have := HGD.out.1; omega
                have HWL := Lib.hid (wants_len o (K := 100000) (by show o.path.data.toList.length ≤ _; have := hsz.1; simpa using this) (by omega))
                have HHL := Lib.hid (show ∀ e ∈ takeOps S.held id (ops.take i), e.1.length ≤ 100000 from fun e he => by have := goodP_len (takeOps_good _ HB.out.1.held e he); omega)
                obtain ⟨H1, hH1⟩ : ∃ H1, takeOps S.held id (ops.take i) = H1 := ⟨_, rfl⟩
                rw [hH1] at HX HHL
                have HH1 := Lib.hid hH1
                obtain ⟨kind, path, data, ver, flags⟩ := o
                simp only [OpS.cells] at hl
                clear hE ho hgo hsz hH1
                go_wp2_with (first | go_skip | refine uK ?_ | refine uL ?_ | refine uM ?_ | (refine uS ?_; clear HX; intro w HX) | (refine uA ?_; clear HX; (first | (have hq := b3; clear hq; intro w b4 HX) | (have hq := b2; clear hq; intro w b3 HX) | (have hq := b; clear hq; intro w b2 HX) | intro w b HX)) | (refine tWN ?_; clear HX; intro w mm HX; simp only [Act.put, k_a, k_b, k_c]) | (refine tWP ?_; clear HX; intro w av nv cv HX; simp only [Act.put, k_a, k_b, k_c]) | ((with_reducible apply sx_loadAt hl); (· rfl); (· rfl); simp only [Act.put, k_a, k_b, k_c]))
                obtain ⟨t, lk, mw, md, mc, gs, hgs, hgv, hS⟩ := pt_open HX.out.up2
                have HG := Lib.hid (show _ ∧ _ from ⟨hgs, hgv⟩)
                obtain ⟨R', hR'⟩ : ∃ R', ThTree t S.t P5 :: ThMap (.int .i64) mw (gs.map WaitG.kv) :: ThMap (.int .i64) md (S.decided.map ikv) :: ThMap (.int .i64) mc (S.closed.map ikv) :: ThCell b2 (.cells #[.int .i64 n1, .int .i64 z1, .int .i64 e1, .int .i64 t1, .slice a9 n9 c9] 34 (0, 0)) :: R = R' := ⟨_, rfl⟩
                have h3 : Sep w0 w (ThPool w0 P5 :: ThLk lk H1 :: ThCell b (.cells (ptCells S.t.room t lk S.zxid mw md mc) 128 (0, 0)) :: ThCell b3 (.cells #[.int .i64 kind, .string path, .string data, .int .i64 ver, .int .i64 flags] 50 (0, 0)) :: R') rows := by
                  rw [← hR']
                  exact hS.pm 9 [7, 2, 0, 6, 1, 3, 4, 5, 8] rfl rfl
                have HRR2 := Lib.hid hR'
                clear HX hl hgs hgv hS hR'
                have HX := Lib.hid h3
                clear h3
                refine wp_region_M (fun W => (∃ Ts, Sep w0 W (ThCell b (.cells (ptCells S.t.room t lk S.zxid mw md mc) 128 (0, 0)) :: ThCell b3 (.cells #[.int .i64 kind, .string path, .string data, .int .i64 ver, .int .i64 flags] 50 (0, 0)) :: Ts) rows)) 8 (by kernel_rfl) ?_
                have KEEPX : ∀ W, (∃ Ts, Sep w0 W (ThCell b (.cells (ptCells S.t.room t lk S.zxid mw md mc) 128 (0, 0)) :: ThCell b3 (.cells #[.int .i64 kind, .string path, .string data, .int .i64 ver, .int .i64 flags] 50 (0, 0)) :: Ts) rows) → (∃ Ts, Sep w0 W (ThCell b (.cells (ptCells S.t.room t lk S.zxid mw md mc) 128 (0, 0)) :: ThCell b3 (.cells #[.int .i64 kind, .string path, .string data, .int .i64 ver, .int .i64 flags] 50 (0, 0)) :: Ts) rows) := fun _ h => h
                replace HX := Lib.hid HX.out.drew
                have hl : ∀ V, (∃ Ts, Sep w0 V (ThCell b (.cells (ptCells S.t.room t lk S.zxid mw md mc) 128 (0, 0)) :: ThCell b3 (.cells #[.int .i64 kind, .string path, .string data, .int .i64 ver, .int .i64 flags] 50 (0, 0)) :: Ts) rows) → (Instr.loadAt 123 (.pointer (some ⟨b, 2, none⟩))).run Tryz.prog V = .ok (.pointer (some ⟨lk, 0, none⟩)) V := by
                  rintro V ⟨Ts, hV⟩
                  exact run_load_scalar (by kernel_rfl) (cell_of hV.blk 2 rfl)
                have hl2 : ∀ V, (∃ Ts, Sep w0 V (ThCell b (.cells (ptCells S.t.room t lk S.zxid mw md mc) 128 (0, 0)) :: ThCell b3 (.cells #[.int .i64 kind, .string path, .string data, .int .i64 ver, .int .i64 flags] 50 (0, 0)) :: Ts) rows) → (Instr.loadAt 50 (.pointer (some ⟨b3, 0, none⟩))).run Tryz.prog V = .ok (.agg #[.int .i64 kind, .string path, .string data, .int .i64 ver, .int .i64 flags]) V := by
                  rintro V ⟨Ts, hV⟩
                  exact run_load_struct sn_op.1 hV.up1.blk (Nat.le_refl 5)
                refine wpAnyM_take (by kernel_rfl) (by intro c a d v w h; cases d <;> exact h) [(0, false), (1, false), (2, false), (3, true), (4, false), (5, true)] (fuel := 2) (by kernel_rfl) ?_
                apply Exists.intro; refine ⟨?_, ⟨_, HX.out.up3.up3⟩, ?_⟩
                · iterate 6 (refine xE ?_)
                  exact rfl
                clear hl hl2
                refine wpAnyM_one (fuel := 1) (i := 6) (by kernel_rfl) (by (simp only [k_i, k_j, k_k]; try rfl)) (fun K hK => ?_)
                go_wp2_with fail
                refine (wants_any HX.out hd ⟨kind, path, data, ver, flags⟩ HGO.out.1 HGO.out.2.1 HGO.out.2.2).mono ?_
                rintro e w ⟨vw, rfl, hx⟩
                obtain ⟨wa, wn, wc, rfl, -⟩ := hx.rowLen
                obtain ⟨Q, hQ⟩ : ∃ Q, (1, Value.slice wa wn wc, (wantsS ⟨kind, path, data, ver, flags⟩).map sv) :: P5 = Q := ⟨_, rfl⟩
                have h9 := hx.poolRow
                rw [hQ] at h9
                have HQ := Lib.hid (show (1, Value.slice wa wn wc, (wantsS ⟨kind, path, data, ver, flags⟩).map sv) ∈ Q ∧ ∀ q ∈ P5, q ∈ Q from ⟨by rw [← hQ]; exact k_s, by rw [← hQ]; exact fun q hq => k_n _ hq⟩)
                clear HX hx hQ
                have HX := Lib.hid h9
                clear h9
                go_wp2_with fail
                refine hK _ _ ⟨_, HX.out.up3.up3⟩ ?_
                clear hK
                refine wpAnyM_one (fuel := 0) (i := 7) (by kernel_rfl) (by (simp only [k_i, k_j, k_k]; try rfl)) (fun K hK => ?_)
                go_wp2_with fail
                refine (take_any HX.out hd id (wantsS ⟨kind, path, data, ver, flags⟩) _ HQ.out.1 HWL.out HHL.out (wants_few _)).mono ?_
                rintro e w ⟨rfl, hx⟩
                clear HX
                have HX := Lib.hid hx
                clear hx
                go_wp2_with fail
                refine hK _ _ ⟨_, HX.out.up3.up3⟩ ?_
                clear hK
                refine wpAnyM_done (by kernel_rfl) ?_ _
                have h6 := HX.out
                rw [← HRR2.out] at h6
                have h7 := tree_mono (P' := Q) h6.up4 HQ.out.2
                have h8 := pt_shut (b := b) (t := t) (lk := lk) (mw := mw) (md := md) (mc := mc) (gs := gs) (S := { S with held := takeH H1 id (wantsS ⟨kind, path, data, ver, flags⟩) }) (R := ThPool w0 Q :: ThCell b2 (.cells #[.int .i64 n1, .int .i64 z1, .int .i64 e1, .int .i64 t1, .slice a9 n9 c9] 34 (0, 0)) :: R) (h7.pm 9 [3, 0, 2, 5, 6, 7, 1, 8] rfl rfl) HG.out.1 (fun g hg => HQ.out.2 _ (HG.out.2 g hg))
                have HNX := Lib.hid (show takeOps S.held id (ops.take (i + 1)) = takeH H1 id (wantsS ⟨kind, path, data, ver, flags⟩) by rw [HTK.out, ← HH1.out]; unfold takeOps; rw [List.foldl_append]; rfl)
                clear HX h6 h7
                have HX := Lib.hid h8
                clear h8
                go_wp2_with (first | go_skip | refine uK ?_ | refine uL ?_ | refine uM ?_ | (refine uS ?_; clear HX; intro w HX) | (refine uA ?_; clear HX; (first | (have hq := b3; clear hq; intro w b4 HX) | (have hq := b2; clear hq; intro w b3 HX) | (have hq := b; clear hq; intro w b2 HX) | intro w b HX)) | (refine tWN ?_; clear HX; intro w mm HX; simp only [Act.put, k_a, k_b, k_c]) | (refine tWP ?_; clear HX; intro w av nv cv HX; simp only [Act.put, k_a, k_b, k_c]))
                go_roundg (ops.length - (i + 1))
                case rel => exact ⟨i + 1, Q, by omega, by go_num, fun q hq => HQ.out.2 q (HP5.out q hq), by rw [HNX.out]; exact HX.out.pm 3 [1, 0, 2] rfl rfl⟩
                case measure => omega
          · refine ⟨_, (by (simp only [k_i, k_j, k_k]; try rfl)), fun K hK => ?_⟩
            go_wp2_with (first | go_skip | refine uK ?_ | refine uL ?_ | refine uM ?_ | (refine uS ?_; clear HX; intro w HX) | (refine uA ?_; clear HX; (first | (have hq := b3; clear hq; intro w b4 HX) | (have hq := b2; clear hq; intro w b3 HX) | (have hq := b; clear hq; intro w b2 HX) | intro w b HX)) | (refine tWN ?_; clear HX; intro w mm HX; simp only [Act.put, k_a, k_b, k_c]) | (refine tWP ?_; clear HX; intro w av nv cv HX; simp only [Act.put, k_a, k_b, k_c]))
            refine hK _ _ ⟨_, HX.out.up4⟩ ?_
            clear hK
            refine wpAnyM_one (fuel := 5) (i := 11) (by kernel_rfl) (by (simp only [k_i, k_j, k_k]; try rfl)) (fun K hK => ?_)
            go_wp2_with fail
            have hrq := mdo_any HX.out.up2.up2 hd HB.out.1.tree (by have := HB.out.2; omega) sess S.zxid ops _ (HP3.out _ (HP2.out _ HV.out.1)) HV.out.2
            rw [HM1.out] at hrq
            refine hrq.mono ?_
            clear hrq
            rintro e w ⟨v9, P4, rfl, hP4, ⟨a9, n9, c9, xs9, rfl, hrl9, hmem9⟩, hx⟩
            clear HX
            have HX := Lib.hid hx
            have HP4 := Lib.hid hP4
            clear hx hP4 hrl9 hmem9
            dsimp only at HX ⊢
            go_wp2_with fail
            refine hK _ _ ⟨_, HX.out.up4⟩ ?_
            clear hK
            refine wpAnyM_take (by kernel_rfl) (by intro c a d v w h; cases d <;> exact h) [(12, false), (13, false), (14, false)] (fuel := 2) (by kernel_rfl) ?_
            apply Exists.intro; refine ⟨?_, ⟨_, HX.out.up4⟩, ?_⟩
            · iterate 3 (refine xE ?_)
              exact rfl
            refine wpAnyM_of_any _ _ _ _ (by decide) ?_
            refine wpAny_list [16, 17] (fuel := 0) (by kernel_rfl) ?_
            simp only [List.filterMap_cons, List.filterMap_nil, k_i, k_j, k_k]
            (with_reducible apply sx_storeS HX)
            · rfl
            · rfl
            · rfl
            · kernel_rfl
            · (repeat (first | (with_reducible exact Rep.here) | (with_reducible apply Rep.there)))
            · rfl
            · rfl
            clear HX
            intro w HX
            simp only [Act.put, k_a, k_b, k_c, setMany, Nat.reduceAdd] at HX ⊢
            go_wp2_with (first | go_skip | refine uK ?_ | refine uL ?_ | refine uM ?_ | (refine uS ?_; clear HX; intro w HX) | (refine uA ?_; clear HX; (first | (have hq := b3; clear hq; intro w b4 HX) | (have hq := b2; clear hq; intro w b3 HX) | (have hq := b; clear hq; intro w b2 HX) | intro w b HX)) | (refine tWN ?_; clear HX; intro w mm HX; simp only [Act.put, k_a, k_b, k_c]) | (refine tWP ?_; clear HX; intro w av nv cv HX; simp only [Act.put, k_a, k_b, k_c]))
            have h5 := HX.out
            rw [← HRR2.out] at h5
            have hq5 : Sep w0 w (ThTree t S.t P3 :: ThCell b (.cells (ptCells S.t.room t lk S.zxid mw md mc) 128 (0, 0)) :: ThLk lk S.held :: ThMap (.int .i64) mw (gs.map WaitG.kv) :: ThMap (.int .i64) md (S.decided.map ikv) :: ThMap (.int .i64) mc (S.closed.map ikv) :: ThPool w0 P4 :: ThCell b2 (.cells #[.int .i64 n1, .int .i64 z1, .int .i64 e1, .int .i64 t1, .slice a9 n9 c9] 34 (0, 0)) :: R) rows := h5.pm 9 [3,4,5,6,7,8,0,2] rfl rfl
            have h6 := tree_mono hq5 HP4.out
            have h7 := pt_shut h6.up1 HG.out.1 (fun g hg => HP4.out _ (HP3.out _ (HG.out.2 g hg)))
            have HST := Lib.hid (show PrpRel w0 b b2 #[.int .i64 n1, .int .i64 z1, .int .i64 e1, .int .i64 t1, .slice a9 n9 c9] id ops S P R rows ops.length (.int .i64 (0 : Int)) w from ⟨0, P4, by simp, rfl, fun q hq => HP4.out _ (HP3.out _ (HP2.out _ hq)), h7.up1⟩)
            clear HX h5 hq5 h6 h7 HG HRR2 HP2 HP3 HP4 HM1
            try clear KEEPX
            go_loopg [16, 57] ops.length (fun k _ v wr => PrpRel w0 b b2 #[.int .i64 n1, .int .i64 z1, .int .i64 e1, .int .i64 t1, .slice a9 n9 c9] id ops S P R rows k v wr)
            case atStart => exact HST.out
            case round =>
              rename World => w
              obtain ⟨i, P5, hik, rfl, hP5, hS⟩ := hrel
              clear HST
              have HX := Lib.hid hS
              have HP5 := Lib.hid hP5
              clear hS hP5
              by_cases hlt : i < ops.length
              case neg =>
                obtain rfl : i = ops.length := by omega
                rw [List.take_length] at HX
                have q0 : decide ((ops.length : Int) < (ops.length : Int)) = false := decide_eq_false (by omega)
                have hol : ops.length ≤ 1000 := by have := HGD.out.1; omega
                have q9 : decide (ops.length < ops.length) = false := decide_eq_false (by omega)
                clear hlt hik
                go_wp2_with (first | go_skip | refine uK ?_ | refine uL ?_ | refine uM ?_ | (refine uS ?_; clear HX; intro w HX) | (refine uA ?_; clear HX; (first | (have hq := b3; clear hq; intro w b4 HX) | (have hq := b2; clear hq; intro w b3 HX) | (have hq := b; clear hq; intro w b2 HX) | intro w b HX)) | (refine tWN ?_; clear HX; intro w mm HX; simp only [Act.put, k_a, k_b, k_c]) | (refine tWP ?_; clear HX; intro w av nv cv HX; simp only [Act.put, k_a, k_b, k_c]))
                obtain ⟨t, lk, mw, md, mc, gs, hgs, hgv, hS⟩ := pt_open HX.out.up1
                have HG := Lib.hid (show _ ∧ _ from ⟨hgs, hgv⟩)
                obtain ⟨R', hR'⟩ : ∃ R', ThTree t S.t P5 :: ThLk lk (takeOps S.held id ops) :: ThMap (.int .i64) md (S.decided.map ikv) :: ThMap (.int .i64) mc (S.closed.map ikv) :: R = R' := ⟨_, rfl⟩
                have h3 : Sep w0 w (ThPool w0 P5 :: ThCell b (.cells (ptCells S.t.room t lk S.zxid mw md mc) 128 (0, 0)) :: ThMap (.int .i64) mw (gs.map WaitG.kv) :: ThCell b2 (.cells #[.int .i64 n1, .int .i64 z1, .int .i64 e1, .int .i64 t1, .slice a9 n9 c9] 34 (0, 0)) :: R') rows := by
                  rw [← hR']
                  exact hS.pm 8 [6, 0, 3, 7, 1, 2, 4, 5] rfl rfl
                have HRR2 := Lib.hid hR'
                clear HX hgs hgv hS hR'
                have HX := Lib.hid h3
                clear h3
                refine wp_region_M (fun W => (∃ Ts, Sep w0 W (ThCell b (.cells (ptCells S.t.room t lk S.zxid mw md mc) 128 (0, 0)) :: Ts) rows)) 12 (by kernel_rfl) ?_
                have KEEPX : ∀ W, (∃ Ts, Sep w0 W (ThCell b (.cells (ptCells S.t.room t lk S.zxid mw md mc) 128 (0, 0)) :: Ts) rows) → (∃ Ts, Sep w0 W (ThCell b (.cells (ptCells S.t.room t lk S.zxid mw md mc) 128 (0, 0)) :: Ts) rows) := fun _ h => h
                replace HX := Lib.hid HX.out.drew
                have hl : ∀ V, (∃ Ts, Sep w0 V (ThCell b (.cells (ptCells S.t.room t lk S.zxid mw md mc) 128 (0, 0)) :: Ts) rows) → (Instr.loadAt 125 (.pointer (some ⟨b, 4, none⟩))).run Tryz.prog V = .ok (.map (some mw)) V := by
                  rintro V ⟨Ts, hV⟩
                  exact run_load_scalar (by kernel_rfl) (cell_of hV.blk 4 rfl)
                refine wpAnyM_take (by kernel_rfl) (by intro c a d v w h; cases d <;> exact h) [(0, false), (1, false), (2, false), (3, true), (4, false), (5, false), (6, false), (8, false), (9, false)] (fuel := 3) (by kernel_rfl) ?_
                apply Exists.intro; refine ⟨?_, ⟨_, HX.out.up1⟩, ?_⟩
                · iterate 9 (refine xE ?_)
                  exact rfl
                clear hl
                refine wpAnyM_one (fuel := 2) (i := 7) (by kernel_rfl) (by (simp only [k_i, k_j, k_k]; try rfl)) (fun K hK => ?_)
                go_wp2_with fail
                refine (cloneOps_any HX.out ops _ (HP5.out _ HV.out.1) hol HGD0.out).mono ?_
                rintro e w ⟨v9, rfl, hx⟩
                obtain ⟨ka, kn, kc, rfl, -⟩ := hx.rowLen
                have h9 := hx.poolRow
                clear HX hx
                have HX := Lib.hid h9
                clear h9
                go_wp2_with fail
                refine hK _ _ ⟨_, HX.out.up1⟩ ?_
                clear hK
                refine wpAnyM_take (by kernel_rfl) (by intro c a d v w h; cases d <;> exact h) [(10, false)] (fuel := 1) (by kernel_rfl) ?_
                apply Exists.intro; refine ⟨?_, ⟨_, HX.out.up1⟩, ?_⟩
                · iterate 1 (refine xE ?_)
                  exact rfl
                refine wpAnyM_one (fuel := 0) (i := 11) (by kernel_rfl) (by (simp only [k_i, k_j, k_k]; try rfl)) (fun K hK => ?_)    -- mapUpdate
                obtain ⟨w9, hrun, h9⟩ := Sep.mapAdd (P := Tryz.prog) (key := .int .i64 id) (v := .agg #[.int .i64 sess, .slice ka kn kc, .bool false, .bool (!ok1)]) HX.out.up2 Tryz.underlying125 Tryz.underlying2 (by first | trivial | rfl | exact ⟨_, rfl⟩) (fun q hq e => by
                  obtain ⟨g, hg, rfl⟩ := List.mem_map.1 hq
                  simp only [WaitG.kv, Value.int.injEq, true_and] at e
                  have h1 := known_has HZK.out
                  have h2 : S.wait = gs.map WaitG.ent := HG.out.1.symm
                  rw [h2, has_gs, List.any_eq_false] at h1
                  exact h1 g hg (by rw [e]; exact beq_self_eq_true _))
                have H9 := Lib.hid h9
                clear h9
                go_wp2_with fail
                refine hK _ _ ⟨_, H9.out.up2⟩ ?_
                clear hK
                refine wpAnyM_done (by kernel_rfl) ?_ _
                have h6 := H9.out
                rw [← HRR2.out] at h6
                have h7 := tree_mono (P' := (5, Value.slice ka kn kc, ops.flatMap OpS.cells) :: P5) h6.up4 (fun q hq => k_n _ hq)
                have h8 := pt_shut (b := b) (t := t) (lk := lk) (mw := mw) (md := md) (mc := mc) (gs := gs ++ [⟨id, ⟨sess, ops, false, !ok1⟩, .slice ka kn kc⟩]) (S := { S with held := takeOps S.held id ops, wait := S.wait ++ [(id, ⟨sess, ops, false, !ok1⟩)] }) (R := ThPool w0 ((5, Value.slice ka kn kc, ops.flatMap OpS.cells) :: P5) :: ThCell b2 (.cells #[.int .i64 n1, .int .i64 z1, .int .i64 e1, .int .i64 t1, .slice a9 n9 c9] 34 (0, 0)) :: R) (by rw [List.map_append]; exact h7.pm 8 [3, 0, 5, 1, 6, 7, 2, 4] rfl rfl) (by rw [List.map_append, HG.out.1]; rfl) (fun g hg => by
                  rcases List.mem_append.1 hg with hg | hg
                  · exact k_n _ (HG.out.2 g hg)
                  · rw [List.mem_singleton] at hg
                    rw [hg]
                    exact k_s)
                clear HX H9 hrun h6 h7
                have HX := Lib.hid h8
                clear h8
                rename World => w
                cases ok1 with
                | true =>
                  obtain rfl : rr = ((0, -1), { S with held := takeOps S.held id ops, wait := S.wait ++ [(id, ⟨sess, ops, false, !true⟩)] }) := HR3.out
                  go_wp2_with (first | go_skip | refine uK ?_ | refine uL ?_ | refine uM ?_ | (refine uS ?_; clear HX; intro w HX) | (refine uA ?_; clear HX; (first | (have hq := b3; clear hq; intro w b4 HX) | (have hq := b2; clear hq; intro w b3 HX) | (have hq := b; clear hq; intro w b2 HX) | intro w b HX)) | (refine tWN ?_; clear HX; intro w mm HX; simp only [Act.put, k_a, k_b, k_c]) | (refine tWP ?_; clear HX; intro w av nv cv HX; simp only [Act.put, k_a, k_b, k_c]))
                  go_ret2
                  exact ⟨_, rfl, fun q hq => k_n _ (HP5.out q hq), HX.out.pm 3 [1, 0] rfl rfl⟩
                | false =>
                  obtain rfl : rr = ((e1, t1), { S with held := takeOps S.held id ops, wait := S.wait ++ [(id, ⟨sess, ops, false, !false⟩)] }) := HR3.out
                  go_wp2_with (first | go_skip | refine uK ?_ | refine uL ?_ | refine uM ?_ | (refine uS ?_; clear HX; intro w HX) | (refine uA ?_; clear HX; (first | (have hq := b3; clear hq; intro w b4 HX) | (have hq := b2; clear hq; intro w b3 HX) | (have hq := b; clear hq; intro w b2 HX) | intro w b HX)) | (refine tWN ?_; clear HX; intro w mm HX; simp only [Act.put, k_a, k_b, k_c]) | (refine tWP ?_; clear HX; intro w av nv cv HX; simp only [Act.put, k_a, k_b, k_c]))
                  refine wp_region_M (fun W => W = w.drew) 6 (by kernel_rfl) ?_
                  replace HX := Lib.hid HX.out.drew
                  generalize w.drew = w at HX ⊢
                  refine wpAnyM_take (by kernel_rfl) (by intro c a d v w h; cases d <;> exact h) [(0, false), (1, true), (2, false), (3, true), (4, false), (5, false)] (fuel := 0) (by kernel_rfl) ?_
                  apply Exists.intro; refine ⟨?_, rfl, ?_⟩
                  · iterate 6 (refine xD ?_)
                    exact rfl
                  refine wpAnyM_done (by kernel_rfl) ?_ _
                  go_wp2_with (first | go_skip | refine uK ?_ | refine uL ?_ | refine uM ?_ | (refine uS ?_; clear HX; intro w HX) | (refine uA ?_; clear HX; (first | (have hq := b3; clear hq; intro w b4 HX) | (have hq := b2; clear hq; intro w b3 HX) | (have hq := b; clear hq; intro w b2 HX) | intro w b HX)) | (refine tWN ?_; clear HX; intro w mm HX; simp only [Act.put, k_a, k_b, k_c]) | (refine tWP ?_; clear HX; intro w av nv cv HX; simp only [Act.put, k_a, k_b, k_c]))
                  go_ret2
                  exact ⟨_, rfl, fun q hq => k_n _ (HP5.out q hq), HX.out.pm 3 [1, 0] rfl rfl⟩
              case pos =>
                obtain ⟨g, off, rfl⟩ := HNE.out (by intro e; have := congrArg List.length e; rw [flatG_len opcells_len] at this; simp at this; omega)
                obtain ⟨E, hE⟩ := HX.out.poolGet (HP5.out _ HV.out.1)
                have hl := row_load (P := Tryz.prog) (f := OpS.cells) (i := i) hE opcells_len sn_op hlt
                have HTK := Lib.hid (show ops.take (i + 1) = ops.take i ++ [ops[i]] from List.take_succ_eq_append_getElem hlt)
                have hgo := HGD.out.2 ops[i] (List.getElem_mem hlt)
                obtain ⟨o, ho⟩ : ∃ o, ops[i] = o := ⟨_, rfl⟩
                rw [ho] at hl HTK hgo
                have hsz := op_sizes hgo
                have HGO := Lib.hid hsz
                have q0 : decide (i < ops.length) = true := decide_eq_true hlt
                have q9 : i ≤ 16 := by have := HGD.out.1; omega
                have HWL := Lib.hid (wants_len o (K := 100000) (by show o.path.data.toList.length ≤ _; have := hsz.1; simpa using this) (by omega))
                have HHL := Lib.hid (show ∀ e ∈ takeOps S.held id (ops.take i), e.1.length ≤ 100000 from fun e he => by have := goodP_len (takeOps_good _ HB.out.1.held e he); omega)
                obtain ⟨H1, hH1⟩ : ∃ H1, takeOps S.held id (ops.take i) = H1 := ⟨_, rfl⟩
                rw [hH1] at HX HHL
                have HH1 := Lib.hid hH1
                obtain ⟨kind, path, data, ver, flags⟩ := o
                simp only [OpS.cells] at hl
                clear hE ho hgo hsz hH1
                go_wp2_with (first | go_skip | refine uK ?_ | refine uL ?_ | refine uM ?_ | (refine uS ?_; clear HX; intro w HX) | (refine uA ?_; clear HX; (first | (have hq := b3; clear hq; intro w b4 HX) | (have hq := b2; clear hq; intro w b3 HX) | (have hq := b; clear hq; intro w b2 HX) | intro w b HX)) | (refine tWN ?_; clear HX; intro w mm HX; simp only [Act.put, k_a, k_b, k_c]) | (refine tWP ?_; clear HX; intro w av nv cv HX; simp only [Act.put, k_a, k_b, k_c]) | ((with_reducible apply sx_loadAt hl); (· rfl); (· rfl); simp only [Act.put, k_a, k_b, k_c]))
                obtain ⟨t, lk, mw, md, mc, gs, hgs, hgv, hS⟩ := pt_open HX.out.up2
                have HG := Lib.hid (show _ ∧ _ from ⟨hgs, hgv⟩)
                obtain ⟨R', hR'⟩ : ∃ R', ThTree t S.t P5 :: ThMap (.int .i64) mw (gs.map WaitG.kv) :: ThMap (.int .i64) md (S.decided.map ikv) :: ThMap (.int .i64) mc (S.closed.map ikv) :: ThCell b2 (.cells #[.int .i64 n1, .int .i64 z1, .int .i64 e1, .int .i64 t1, .slice a9 n9 c9] 34 (0, 0)) :: R = R' := ⟨_, rfl⟩
                have h3 : Sep w0 w (ThPool w0 P5 :: ThLk lk H1 :: ThCell b (.cells (ptCells S.t.room t lk S.zxid mw md mc) 128 (0, 0)) :: ThCell b3 (.cells #[.int .i64 kind, .string path, .string data, .int .i64 ver, .int .i64 flags] 50 (0, 0)) :: R') rows := by
                  rw [← hR']
                  exact hS.pm 9 [7, 2, 0, 6, 1, 3, 4, 5, 8] rfl rfl
                have HRR2 := Lib.hid hR'
                clear HX hl hgs hgv hS hR'
                have HX := Lib.hid h3
                clear h3
                refine wp_region_M (fun W => (∃ Ts, Sep w0 W (ThCell b (.cells (ptCells S.t.room t lk S.zxid mw md mc) 128 (0, 0)) :: ThCell b3 (.cells #[.int .i64 kind, .string path, .string data, .int .i64 ver, .int .i64 flags] 50 (0, 0)) :: Ts) rows)) 8 (by kernel_rfl) ?_
                have KEEPX : ∀ W, (∃ Ts, Sep w0 W (ThCell b (.cells (ptCells S.t.room t lk S.zxid mw md mc) 128 (0, 0)) :: ThCell b3 (.cells #[.int .i64 kind, .string path, .string data, .int .i64 ver, .int .i64 flags] 50 (0, 0)) :: Ts) rows) → (∃ Ts, Sep w0 W (ThCell b (.cells (ptCells S.t.room t lk S.zxid mw md mc) 128 (0, 0)) :: ThCell b3 (.cells #[.int .i64 kind, .string path, .string data, .int .i64 ver, .int .i64 flags] 50 (0, 0)) :: Ts) rows) := fun _ h => h
                replace HX := Lib.hid HX.out.drew
                have hl : ∀ V, (∃ Ts, Sep w0 V (ThCell b (.cells (ptCells S.t.room t lk S.zxid mw md mc) 128 (0, 0)) :: ThCell b3 (.cells #[.int .i64 kind, .string path, .string data, .int .i64 ver, .int .i64 flags] 50 (0, 0)) :: Ts) rows) → (Instr.loadAt 123 (.pointer (some ⟨b, 2, none⟩))).run Tryz.prog V = .ok (.pointer (some ⟨lk, 0, none⟩)) V := by
                  rintro V ⟨Ts, hV⟩
                  exact run_load_scalar (by kernel_rfl) (cell_of hV.blk 2 rfl)
                have hl2 : ∀ V, (∃ Ts, Sep w0 V (ThCell b (.cells (ptCells S.t.room t lk S.zxid mw md mc) 128 (0, 0)) :: ThCell b3 (.cells #[.int .i64 kind, .string path, .string data, .int .i64 ver, .int .i64 flags] 50 (0, 0)) :: Ts) rows) → (Instr.loadAt 50 (.pointer (some ⟨b3, 0, none⟩))).run Tryz.prog V = .ok (.agg #[.int .i64 kind, .string path, .string data, .int .i64 ver, .int .i64 flags]) V := by
                  rintro V ⟨Ts, hV⟩
                  exact run_load_struct sn_op.1 hV.up1.blk (Nat.le_refl 5)
                refine wpAnyM_take (by kernel_rfl) (by intro c a d v w h; cases d <;> exact h) [(0, false), (1, false), (2, false), (3, true), (4, false), (5, true)] (fuel := 2) (by kernel_rfl) ?_
                apply Exists.intro; refine ⟨?_, ⟨_, HX.out.up3.up3⟩, ?_⟩
                · iterate 6 (refine xE ?_)
                  exact rfl
                clear hl hl2
                refine wpAnyM_one (fuel := 1) (i := 6) (by kernel_rfl) (by (simp only [k_i, k_j, k_k]; try rfl)) (fun K hK => ?_)
                go_wp2_with fail
                refine (wants_any HX.out hd ⟨kind, path, data, ver, flags⟩ HGO.out.1 HGO.out.2.1 HGO.out.2.2).mono ?_
                rintro e w ⟨vw, rfl, hx⟩
                obtain ⟨wa, wn, wc, rfl, -⟩ := hx.rowLen
                obtain ⟨Q, hQ⟩ : ∃ Q, (1, Value.slice wa wn wc, (wantsS ⟨kind, path, data, ver, flags⟩).map sv) :: P5 = Q := ⟨_, rfl⟩
                have h9 := hx.poolRow
                rw [hQ] at h9
                have HQ := Lib.hid (show (1, Value.slice wa wn wc, (wantsS ⟨kind, path, data, ver, flags⟩).map sv) ∈ Q ∧ ∀ q ∈ P5, q ∈ Q from ⟨by rw [← hQ]; exact k_s, by rw [← hQ]; exact fun q hq => k_n _ hq⟩)
                clear HX hx hQ
                have HX := Lib.hid h9
                clear h9
                go_wp2_with fail
                refine hK _ _ ⟨_, HX.out.up3.up3⟩ ?_
                clear hK
                refine wpAnyM_one (fuel := 0) (i := 7) (by kernel_rfl) (by (simp only [k_i, k_j, k_k]; try rfl)) (fun K hK => ?_)
                go_wp2_with fail
                refine (take_any HX.out hd id (wantsS ⟨kind, path, data, ver, flags⟩) _ HQ.out.1 HWL.out HHL.out (wants_few _)).mono ?_
                rintro e w ⟨rfl, hx⟩
                clear HX
                have HX := Lib.hid hx
                clear hx
                go_wp2_with fail
                refine hK _ _ ⟨_, HX.out.up3.up3⟩ ?_
                clear hK
                refine wpAnyM_done (by kernel_rfl) ?_ _
                have h6 := HX.out
                rw [← HRR2.out] at h6
                have h7 := tree_mono (P' := Q) h6.up4 HQ.out.2
                have h8 := pt_shut (b := b) (t := t) (lk := lk) (mw := mw) (md := md) (mc := mc) (gs := gs) (S := { S with held := takeH H1 id (wantsS ⟨kind, path, data, ver, flags⟩) }) (R := ThPool w0 Q :: ThCell b2 (.cells #[.int .i64 n1, .int .i64 z1, .int .i64 e1, .int .i64 t1, .slice a9 n9 c9] 34 (0, 0)) :: R) (h7.pm 9 [3, 0, 2, 5, 6, 7, 1, 8] rfl rfl) HG.out.1 (fun g hg => HQ.out.2 _ (HG.out.2 g hg))
                have HNX := Lib.hid (show takeOps S.held id (ops.take (i + 1)) = takeH H1 id (wantsS ⟨kind, path, data, ver, flags⟩) by rw [HTK.out, ← HH1.out]; unfold takeOps; rw [List.foldl_append]; rfl)
                clear HX h6 h7
                have HX := Lib.hid h8
                clear h8
                go_wp2_with (first | go_skip | refine uK ?_ | refine uL ?_ | refine uM ?_ | (refine uS ?_; clear HX; intro w HX) | (refine uA ?_; clear HX; (first | (have hq := b3; clear hq; intro w b4 HX) | (have hq := b2; clear hq; intro w b3 HX) | (have hq := b; clear hq; intro w b2 HX) | intro w b HX)) | (refine tWN ?_; clear HX; intro w mm HX; simp only [Act.put, k_a, k_b, k_c]) | (refine tWP ?_; clear HX; intro w av nv cv HX; simp only [Act.put, k_a, k_b, k_c]))
                go_roundg (ops.length - (i + 1))
                case rel => exact ⟨i + 1, Q, by omega, by go_num, fun q hq => HQ.out.2 q (HP5.out q hq), by rw [HNX.out]; exact HX.out.pm 3 [1, 0, 2] rfl rfl⟩
                case measure => omega
        · refine ⟨_, (by (simp only [k_i, k_j, k_k]; try rfl)), fun K hK => ?_⟩
          go_wp2_with (first | go_skip | refine uK ?_ | refine uL ?_ | refine uM ?_ | (refine uS ?_; clear HX; intro w HX) | (refine uA ?_; clear HX; (first | (have hq := b3; clear hq; intro w b4 HX) | (have hq := b2; clear hq; intro w b3 HX) | (have hq := b; clear hq; intro w b2 HX) | intro w b HX)) | (refine tWN ?_; clear HX; intro w mm HX; simp only [Act.put, k_a, k_b, k_c]) | (refine tWP ?_; clear HX; intro w av nv cv HX; simp only [Act.put, k_a, k_b, k_c]))
          refine hK _ _ ⟨_, HX.out.up3⟩ ?_
          clear hK
          refine wpAnyM_one (fuel := 6) (i := 4) (by kernel_rfl) (by (simp only [k_i, k_j, k_k]; try rfl)) (fun K hK => ?_)
          go_wp2_with fail
          refine (treecopy_any HX.out.up2.up2 (HB.out.1.tree.ok (by have := HB.out.2; omega))).mono ?_
          rintro e w ⟨tc, P3, rfl, hP3, hx⟩
          clear HX
          have HX := Lib.hid hx
          have HP3 := Lib.hid hP3
          clear hx hP3
          go_wp2_with fail
          refine hK _ _ ⟨_, HX.out.up4⟩ ?_
          clear hK
          refine wpAnyM_one (fuel := 5) (i := 11) (by kernel_rfl) (by (simp only [k_i, k_j, k_k]; try rfl)) (fun K hK => ?_)
          go_wp2_with fail
          have hrq := mdo_any HX.out hd HB.out.1.tree (by have := HB.out.2; omega) sess S.zxid ops _ (HP3.out _ (HP2.out _ HV.out.1)) HV.out.2
          rw [HM1.out] at hrq
          refine hrq.mono ?_
          clear hrq
          rintro e w ⟨v9, P4, rfl, hP4, ⟨a9, n9, c9, xs9, rfl, hrl9, hmem9⟩, hx⟩
          clear HX
          have HX := Lib.hid hx
          have HP4 := Lib.hid hP4
          clear hx hP4 hrl9 hmem9
          dsimp only at HX ⊢
          go_wp2_with fail
          refine hK _ _ ⟨_, HX.out.up4⟩ ?_
          clear hK
          refine wpAnyM_take (by kernel_rfl) (by intro c a d v w h; cases d <;> exact h) [(12, false), (13, false), (14, false)] (fuel := 2) (by kernel_rfl) ?_
          apply Exists.intro; refine ⟨?_, ⟨_, HX.out.up4⟩, ?_⟩
          · iterate 3 (refine xE ?_)
            exact rfl
          refine wpAnyM_of_any _ _ _ _ (by decide) ?_
          refine wpAny_list [16, 17] (fuel := 0) (by kernel_rfl) ?_
          simp only [List.filterMap_cons, List.filterMap_nil, k_i, k_j, k_k]
          (with_reducible apply sx_storeS HX)
          · rfl
          · rfl
          · rfl
          · kernel_rfl
          · (repeat (first | (with_reducible exact Rep.here) | (with_reducible apply Rep.there)))
          · rfl
          · rfl
          clear HX
          intro w HX
          simp only [Act.put, k_a, k_b, k_c, setMany, Nat.reduceAdd] at HX ⊢
          go_wp2_with (first | go_skip | refine uK ?_ | refine uL ?_ | refine uM ?_ | (refine uS ?_; clear HX; intro w HX) | (refine uA ?_; clear HX; (first | (have hq := b3; clear hq; intro w b4 HX) | (have hq := b2; clear hq; intro w b3 HX) | (have hq := b; clear hq; intro w b2 HX) | intro w b HX)) | (refine tWN ?_; clear HX; intro w mm HX; simp only [Act.put, k_a, k_b, k_c]) | (refine tWP ?_; clear HX; intro w av nv cv HX; simp only [Act.put, k_a, k_b, k_c]))
          have h5 := HX.out
          rw [← HRR2.out] at h5
          have hq5 : Sep w0 w (ThTree t S.t P3 :: ThCell b (.cells (ptCells S.t.room t lk S.zxid mw md mc) 128 (0, 0)) :: ThLk lk S.held :: ThMap (.int .i64) mw (gs.map WaitG.kv) :: ThMap (.int .i64) md (S.decided.map ikv) :: ThMap (.int .i64) mc (S.closed.map ikv) :: ThPool w0 P4 :: ThCell b2 (.cells #[.int .i64 n1, .int .i64 z1, .int .i64 e1, .int .i64 t1, .slice a9 n9 c9] 34 (0, 0)) :: R) rows := h5.pm 9 [2,4,5,6,7,8,0,3] rfl rfl
          have h6 := tree_mono hq5 HP4.out
          have h7 := pt_shut h6.up1 HG.out.1 (fun g hg => HP4.out _ (HP3.out _ (HG.out.2 g hg)))
          have HST := Lib.hid (show PrpRel w0 b b2 #[.int .i64 n1, .int .i64 z1, .int .i64 e1, .int .i64 t1, .slice a9 n9 c9] id ops S P R rows ops.length (.int .i64 (0 : Int)) w from ⟨0, P4, by simp, rfl, fun q hq => HP4.out _ (HP3.out _ (HP2.out _ hq)), h7.up1⟩)
          clear HX h5 hq5 h6 h7 HG HRR2 HP2 HP3 HP4 HM1
          try clear KEEPX
          go_loopg [16, 57] ops.length (fun k _ v wr => PrpRel w0 b b2 #[.int .i64 n1, .int .i64 z1, .int .i64 e1, .int .i64 t1, .slice a9 n9 c9] id ops S P R rows k v wr)
          case atStart => exact HST.out
          case round =>
            rename World => w
            obtain ⟨i, P5, hik, rfl, hP5, hS⟩ := hrel
            clear HST
            have HX := Lib.hid hS
            have HP5 := Lib.hid hP5
            clear hS hP5
            by_cases hlt : i < ops.length
            case neg =>
              obtain rfl : i = ops.length := by omega
              rw [List.take_length] at HX
              have q0 : decide ((ops.length : Int) < (ops.length : Int)) = false := decide_eq_false (by omega)
              have hol : ops.length ≤ 1000 := by have := HGD.out.1; omega
              have q9 : decide (ops.length < ops.length) = false := decide_eq_false (by omega)
              clear hlt hik
              go_wp2_with (first | go_skip | refine uK ?_ | refine uL ?_ | refine uM ?_ | (refine uS ?_; clear HX; intro w HX) | (refine uA ?_; clear HX; (first | (have hq := b3; clear hq; intro w b4 HX) | (have hq := b2; clear hq; intro w b3 HX) | (have hq := b; clear hq; intro w b2 HX) | intro w b HX)) | (refine tWN ?_; clear HX; intro w mm HX; simp only [Act.put, k_a, k_b, k_c]) | (refine tWP ?_; clear HX; intro w av nv cv HX; simp only [Act.put, k_a, k_b, k_c]))
              obtain ⟨t, lk, mw, md, mc, gs, hgs, hgv, hS⟩ := pt_open HX.out.up1
              have HG := Lib.hid (show _ ∧ _ from ⟨hgs, hgv⟩)
              obtain ⟨R', hR'⟩ : ∃ R', ThTree t S.t P5 :: ThLk lk (takeOps S.held id ops) :: ThMap (.int .i64) md (S.decided.map ikv) :: ThMap (.int .i64) mc (S.closed.map ikv) :: R = R' := ⟨_, rfl⟩
              have h3 : Sep w0 w (ThPool w0 P5 :: ThCell b (.cells (ptCells S.t.room t lk S.zxid mw md mc) 128 (0, 0)) :: ThMap (.int .i64) mw (gs.map WaitG.kv) :: ThCell b2 (.cells #[.int .i64 n1, .int .i64 z1, .int .i64 e1, .int .i64 t1, .slice a9 n9 c9] 34 (0, 0)) :: R') rows := by
                rw [← hR']
                exact hS.pm 8 [6, 0, 3, 7, 1, 2, 4, 5] rfl rfl
              have HRR2 := Lib.hid hR'
              clear HX hgs hgv hS hR'
              have HX := Lib.hid h3
              clear h3
              refine wp_region_M (fun W => (∃ Ts, Sep w0 W (ThCell b (.cells (ptCells S.t.room t lk S.zxid mw md mc) 128 (0, 0)) :: Ts) rows)) 12 (by kernel_rfl) ?_
              have KEEPX : ∀ W, (∃ Ts, Sep w0 W (ThCell b (.cells (ptCells S.t.room t lk S.zxid mw md mc) 128 (0, 0)) :: Ts) rows) → (∃ Ts, Sep w0 W (ThCell b (.cells (ptCells S.t.room t lk S.zxid mw md mc) 128 (0, 0)) :: Ts) rows) := fun _ h => h
              replace HX := Lib.hid HX.out.drew
              have hl : ∀ V, (∃ Ts, Sep w0 V (ThCell b (.cells (ptCells S.t.room t lk S.zxid mw md mc) 128 (0, 0)) :: Ts) rows) → (Instr.loadAt 125 (.pointer (some ⟨b, 4, none⟩))).run Tryz.prog V = .ok (.map (some mw)) V := by
                rintro V ⟨Ts, hV⟩
                exact run_load_scalar (by kernel_rfl) (cell_of hV.blk 4 rfl)
              refine wpAnyM_take (by kernel_rfl) (by intro c a d v w h; cases d <;> exact h) [(0, false), (1, false), (2, false), (3, true), (4, false), (5, false), (6, false), (8, false), (9, false)] (fuel := 3) (by kernel_rfl) ?_
              apply Exists.intro; refine ⟨?_, ⟨_, HX.out.up1⟩, ?_⟩
              · iterate 9 (refine xE ?_)
                exact rfl
              clear hl
              refine wpAnyM_one (fuel := 2) (i := 7) (by kernel_rfl) (by (simp only [k_i, k_j, k_k]; try rfl)) (fun K hK => ?_)
              go_wp2_with fail
              refine (cloneOps_any HX.out ops _ (HP5.out _ HV.out.1) hol HGD0.out).mono ?_
              rintro e w ⟨v9, rfl, hx⟩
              obtain ⟨ka, kn, kc, rfl, -⟩ := hx.rowLen
              have h9 := hx.poolRow
              clear HX hx
              have HX := Lib.hid h9
              clear h9
              go_wp2_with fail
              refine hK _ _ ⟨_, HX.out.up1⟩ ?_
              clear hK
              refine wpAnyM_take (by kernel_rfl) (by intro c a d v w h; cases d <;> exact h) [(10, false)] (fuel := 1) (by kernel_rfl) ?_
              apply Exists.intro; refine ⟨?_, ⟨_, HX.out.up1⟩, ?_⟩
              · iterate 1 (refine xE ?_)
                exact rfl
              refine wpAnyM_one (fuel := 0) (i := 11) (by kernel_rfl) (by (simp only [k_i, k_j, k_k]; try rfl)) (fun K hK => ?_)    -- mapUpdate
              obtain ⟨w9, hrun, h9⟩ := Sep.mapAdd (P := Tryz.prog) (key := .int .i64 id) (v := .agg #[.int .i64 sess, .slice ka kn kc, .bool false, .bool (!ok1)]) HX.out.up2 Tryz.underlying125 Tryz.underlying2 (by first | trivial | rfl | exact ⟨_, rfl⟩) (fun q hq e => by
                obtain ⟨g, hg, rfl⟩ := List.mem_map.1 hq
                simp only [WaitG.kv, Value.int.injEq, true_and] at e
                have h1 := known_has HZK.out
                have h2 : S.wait = gs.map WaitG.ent := HG.out.1.symm
                rw [h2, has_gs, List.any_eq_false] at h1
                exact h1 g hg (by rw [e]; exact beq_self_eq_true _))
              have H9 := Lib.hid h9
              clear h9
              go_wp2_with fail
              refine hK _ _ ⟨_, H9.out.up2⟩ ?_
              clear hK
              refine wpAnyM_done (by kernel_rfl) ?_ _
              have h6 := H9.out
              rw [← HRR2.out] at h6
              have h7 := tree_mono (P' := (5, Value.slice ka kn kc, ops.flatMap OpS.cells) :: P5) h6.up4 (fun q hq => k_n _ hq)
              have h8 := pt_shut (b := b) (t := t) (lk := lk) (mw := mw) (md := md) (mc := mc) (gs := gs ++ [⟨id, ⟨sess, ops, false, !ok1⟩, .slice ka kn kc⟩]) (S := { S with held := takeOps S.held id ops, wait := S.wait ++ [(id, ⟨sess, ops, false, !ok1⟩)] }) (R := ThPool w0 ((5, Value.slice ka kn kc, ops.flatMap OpS.cells) :: P5) :: ThCell b2 (.cells #[.int .i64 n1, .int .i64 z1, .int .i64 e1, .int .i64 t1, .slice a9 n9 c9] 34 (0, 0)) :: R) (by rw [List.map_append]; exact h7.pm 8 [3, 0, 5, 1, 6, 7, 2, 4] rfl rfl) (by rw [List.map_append, HG.out.1]; rfl) (fun g hg => by
                rcases List.mem_append.1 hg with hg | hg
                · exact k_n _ (HG.out.2 g hg)
                · rw [List.mem_singleton] at hg
                  rw [hg]
                  exact k_s)
              clear HX H9 hrun h6 h7
              have HX := Lib.hid h8
              clear h8
              rename World => w
              cases ok1 with
              | true =>
                obtain rfl : rr = ((0, -1), { S with held := takeOps S.held id ops, wait := S.wait ++ [(id, ⟨sess, ops, false, !true⟩)] }) := HR3.out
                go_wp2_with (first | go_skip | refine uK ?_ | refine uL ?_ | refine uM ?_ | (refine uS ?_; clear HX; intro w HX) | (refine uA ?_; clear HX; (first | (have hq := b3; clear hq; intro w b4 HX) | (have hq := b2; clear hq; intro w b3 HX) | (have hq := b; clear hq; intro w b2 HX) | intro w b HX)) | (refine tWN ?_; clear HX; intro w mm HX; simp only [Act.put, k_a, k_b, k_c]) | (refine tWP ?_; clear HX; intro w av nv cv HX; simp only [Act.put, k_a, k_b, k_c]))
                go_ret2
                exact ⟨_, rfl, fun q hq => k_n _ (HP5.out q hq), HX.out.pm 3 [1, 0] rfl rfl⟩
              | false =>
                obtain rfl : rr = ((e1, t1), { S with held := takeOps S.held id ops, wait := S.wait ++ [(id, ⟨sess, ops, false, !false⟩)] }) := HR3.out
                go_wp2_with (first | go_skip | refine uK ?_ | refine uL ?_ | refine uM ?_ | (refine uS ?_; clear HX; intro w HX) | (refine uA ?_; clear HX; (first | (have hq := b3; clear hq; intro w b4 HX) | (have hq := b2; clear hq; intro w b3 HX) | (have hq := b; clear hq; intro w b2 HX) | intro w b HX)) | (refine tWN ?_; clear HX; intro w mm HX; simp only [Act.put, k_a, k_b, k_c]) | (refine tWP ?_; clear HX; intro w av nv cv HX; simp only [Act.put, k_a, k_b, k_c]))
                refine wp_region_M (fun W => W = w.drew) 6 (by kernel_rfl) ?_
                replace HX := Lib.hid HX.out.drew
                generalize w.drew = w at HX ⊢
                refine wpAnyM_take (by kernel_rfl) (by intro c a d v w h; cases d <;> exact h) [(0, false), (1, true), (2, false), (3, true), (4, false), (5, false)] (fuel := 0) (by kernel_rfl) ?_
                apply Exists.intro; refine ⟨?_, rfl, ?_⟩
                · iterate 6 (refine xD ?_)
                  exact rfl
                refine wpAnyM_done (by kernel_rfl) ?_ _
                go_wp2_with (first | go_skip | refine uK ?_ | refine uL ?_ | refine uM ?_ | (refine uS ?_; clear HX; intro w HX) | (refine uA ?_; clear HX; (first | (have hq := b3; clear hq; intro w b4 HX) | (have hq := b2; clear hq; intro w b3 HX) | (have hq := b; clear hq; intro w b2 HX) | intro w b HX)) | (refine tWN ?_; clear HX; intro w mm HX; simp only [Act.put, k_a, k_b, k_c]) | (refine tWP ?_; clear HX; intro w av nv cv HX; simp only [Act.put, k_a, k_b, k_c]))
                go_ret2
                exact ⟨_, rfl, fun q hq => k_n _ (HP5.out q hq), HX.out.pm 3 [1, 0] rfl rfl⟩
            case pos =>
              obtain ⟨g, off, rfl⟩ := HNE.out (by intro e; have := congrArg List.length e; rw [flatG_len opcells_len] at this; simp at this; omega)
              obtain ⟨E, hE⟩ := HX.out.poolGet (HP5.out _ HV.out.1)
              have hl := row_load (P := Tryz.prog) (f := OpS.cells) (i := i) hE opcells_len sn_op hlt
              have HTK := Lib.hid (show ops.take (i + 1) = ops.take i ++ [ops[i]] from List.take_succ_eq_append_getElem hlt)
              have hgo := HGD.out.2 ops[i] (List.getElem_mem hlt)
              obtain ⟨o, ho⟩ : ∃ o, ops[i] = o := ⟨_, rfl⟩
              rw [ho] at hl HTK hgo
              have hsz := op_sizes hgo
              have HGO := Lib.hid hsz
              have q0 : decide (i < ops.length) = true := decide_eq_true hlt
              have q9 : i ≤ 16 := by have := HGD.out.1; omega
              have HWL := Lib.hid (wants_len o (K := 100000) (by show o.path.data.toList.length ≤ _; have := hsz.1; simpa using this) (by omega))
              have HHL := Lib.hid (show ∀ e ∈ takeOps S.held id (ops.take i), e.1.length ≤ 100000 from fun e he => by have := goodP_len (takeOps_good _ HB.out.1.held e he); omega)
              obtain ⟨H1, hH1⟩ : ∃ H1, takeOps S.held id (ops.take i) = H1 := ⟨_, rfl⟩
              rw [hH1] at HX HHL
              have HH1 := Lib.hid hH1
              obtain ⟨kind, path, data, ver, flags⟩ := o
              simp only [OpS.cells] at hl
              clear hE ho hgo hsz hH1
              go_wp2_with (first | go_skip | refine uK ?_ | refine uL ?_ | refine uM ?_ | (refine uS ?_; clear HX; intro w HX) | (refine uA ?_; clear HX; (first | (have hq := b3; clear hq; intro w b4 HX) | (have hq := b2; clear hq; intro w b3 HX) | (have hq := b; clear hq; intro w b2 HX) | intro w b HX)) | (refine tWN ?_; clear HX; intro w mm HX; simp only [Act.put, k_a, k_b, k_c]) | (refine tWP ?_; clear HX; intro w av nv cv HX; simp only [Act.put, k_a, k_b, k_c]) | ((with_reducible apply sx_loadAt hl); (· rfl); (· rfl); simp only [Act.put, k_a, k_b, k_c]))
              obtain ⟨t, lk, mw, md, mc, gs, hgs, hgv, hS⟩ := pt_open HX.out.up2
              have HG := Lib.hid (show _ ∧ _ from ⟨hgs, hgv⟩)
              obtain ⟨R', hR'⟩ : ∃ R', ThTree t S.t P5 :: ThMap (.int .i64) mw (gs.map WaitG.kv) :: ThMap (.int .i64) md (S.decided.map ikv) :: ThMap (.int .i64) mc (S.closed.map ikv) :: ThCell b2 (.cells #[.int .i64 n1, .int .i64 z1, .int .i64 e1, .int .i64 t1, .slice a9 n9 c9] 34 (0, 0)) :: R = R' := ⟨_, rfl⟩
              have h3 : Sep w0 w (ThPool w0 P5 :: ThLk lk H1 :: ThCell b (.cells (ptCells S.t.room t lk S.zxid mw md mc) 128 (0, 0)) :: ThCell b3 (.cells #[.int .i64 kind, .string path, .string data, .int .i64 ver, .int .i64 flags] 50 (0, 0)) :: R') rows := by
                rw [← hR']
                exact hS.pm 9 [7, 2, 0, 6, 1, 3, 4, 5, 8] rfl rfl
              have HRR2 := Lib.hid hR'
              clear HX hl hgs hgv hS hR'
              have HX := Lib.hid h3
              clear h3
              refine wp_region_M (fun W => (∃ Ts, Sep w0 W (ThCell b (.cells (ptCells S.t.room t lk S.zxid mw md mc) 128 (0, 0)) :: ThCell b3 (.cells #[.int .i64 kind, .string path, .string data, .int .i64 ver, .int .i64 flags] 50 (0, 0)) :: Ts) rows)) 8 (by kernel_rfl) ?_
              have KEEPX : ∀ W, (∃ Ts, Sep w0 W (ThCell b (.cells (ptCells S.t.room t lk S.zxid mw md mc) 128 (0, 0)) :: ThCell b3 (.cells #[.int .i64 kind, .string path, .string data, .int .i64 ver, .int .i64 flags] 50 (0, 0)) :: Ts) rows) → (∃ Ts, Sep w0 W (ThCell b (.cells (ptCells S.t.room t lk S.zxid mw md mc) 128 (0, 0)) :: ThCell b3 (.cells #[.int .i64 kind, .string path, .string data, .int .i64 ver, .int .i64 flags] 50 (0, 0)) :: Ts) rows) := fun _ h => h
              replace HX := Lib.hid HX.out.drew
              have hl : ∀ V, (∃ Ts, Sep w0 V (ThCell b (.cells (ptCells S.t.room t lk S.zxid mw md mc) 128 (0, 0)) :: ThCell b3 (.cells #[.int .i64 kind, .string path, .string data, .int .i64 ver, .int .i64 flags] 50 (0, 0)) :: Ts) rows) → (Instr.loadAt 123 (.pointer (some ⟨b, 2, none⟩))).run Tryz.prog V = .ok (.pointer (some ⟨lk, 0, none⟩)) V := by
                rintro V ⟨Ts, hV⟩
                exact run_load_scalar (by kernel_rfl) (cell_of hV.blk 2 rfl)
              have hl2 : ∀ V, (∃ Ts, Sep w0 V (ThCell b (.cells (ptCells S.t.room t lk S.zxid mw md mc) 128 (0, 0)) :: ThCell b3 (.cells #[.int .i64 kind, .string path, .string data, .int .i64 ver, .int .i64 flags] 50 (0, 0)) :: Ts) rows) → (Instr.loadAt 50 (.pointer (some ⟨b3, 0, none⟩))).run Tryz.prog V = .ok (.agg #[.int .i64 kind, .string path, .string data, .int .i64 ver, .int .i64 flags]) V := by
                rintro V ⟨Ts, hV⟩
                exact run_load_struct sn_op.1 hV.up1.blk (Nat.le_refl 5)
              refine wpAnyM_take (by kernel_rfl) (by intro c a d v w h; cases d <;> exact h) [(0, false), (1, false), (2, false), (3, true), (4, false), (5, true)] (fuel := 2) (by kernel_rfl) ?_
              apply Exists.intro; refine ⟨?_, ⟨_, HX.out.up3.up3⟩, ?_⟩
              · iterate 6 (refine xE ?_)
                exact rfl
              clear hl hl2
              refine wpAnyM_one (fuel := 1) (i := 6) (by kernel_rfl) (by (simp only [k_i, k_j, k_k]; try rfl)) (fun K hK => ?_)
              go_wp2_with fail
              refine (wants_any HX.out hd ⟨kind, path, data, ver, flags⟩ HGO.out.1 HGO.out.2.1 HGO.out.2.2).mono ?_
              rintro e w ⟨vw, rfl, hx⟩
              obtain ⟨wa, wn, wc, rfl, -⟩ := hx.rowLen
              obtain ⟨Q, hQ⟩ : ∃ Q, (1, Value.slice wa wn wc, (wantsS ⟨kind, path, data, ver, flags⟩).map sv) :: P5 = Q := ⟨_, rfl⟩
              have h9 := hx.poolRow
              rw [hQ] at h9
              have HQ := Lib.hid (show (1, Value.slice wa wn wc, (wantsS ⟨kind, path, data, ver, flags⟩).map sv) ∈ Q ∧ ∀ q ∈ P5, q ∈ Q from ⟨by rw [← hQ]; exact k_s, by rw [← hQ]; exact fun q hq => k_n _ hq⟩)
              clear HX hx hQ
              have HX := Lib.hid h9
              clear h9
              go_wp2_with fail
              refine hK _ _ ⟨_, HX.out.up3.up3⟩ ?_
              clear hK
              refine wpAnyM_one (fuel := 0) (i := 7) (by kernel_rfl) (by (simp only [k_i, k_j, k_k]; try rfl)) (fun K hK => ?_)
              go_wp2_with fail
              refine (take_any HX.out hd id (wantsS ⟨kind, path, data, ver, flags⟩) _ HQ.out.1 HWL.out HHL.out (wants_few _)).mono ?_
              rintro e w ⟨rfl, hx⟩
              clear HX
              have HX := Lib.hid hx
              clear hx
              go_wp2_with fail
              refine hK _ _ ⟨_, HX.out.up3.up3⟩ ?_
              clear hK
              refine wpAnyM_done (by kernel_rfl) ?_ _
              have h6 := HX.out
              rw [← HRR2.out] at h6
              have h7 := tree_mono (P' := Q) h6.up4 HQ.out.2
              have h8 := pt_shut (b := b) (t := t) (lk := lk) (mw := mw) (md := md) (mc := mc) (gs := gs) (S := { S with held := takeH H1 id (wantsS ⟨kind, path, data, ver, flags⟩) }) (R := ThPool w0 Q :: ThCell b2 (.cells #[.int .i64 n1, .int .i64 z1, .int .i64 e1, .int .i64 t1, .slice a9 n9 c9] 34 (0, 0)) :: R) (h7.pm 9 [3, 0, 2, 5, 6, 7, 1, 8] rfl rfl) HG.out.1 (fun g hg => HQ.out.2 _ (HG.out.2 g hg))
              have HNX := Lib.hid (show takeOps S.held id (ops.take (i + 1)) = takeH H1 id (wantsS ⟨kind, path, data, ver, flags⟩) by rw [HTK.out, ← HH1.out]; unfold takeOps; rw [List.foldl_append]; rfl)
              clear HX h6 h7
              have HX := Lib.hid h8
              clear h8
              go_wp2_with (first | go_skip | refine uK ?_ | refine uL ?_ | refine uM ?_ | (refine uS ?_; clear HX; intro w HX) | (refine uA ?_; clear HX; (first | (have hq := b3; clear hq; intro w b4 HX) | (have hq := b2; clear hq; intro w b3 HX) | (have hq := b; clear hq; intro w b2 HX) | intro w b HX)) | (refine tWN ?_; clear HX; intro w mm HX; simp only [Act.put, k_a, k_b, k_c]) | (refine tWP ?_; clear HX; intro w av nv cv HX; simp only [Act.put, k_a, k_b, k_c]))
              go_roundg (ops.length - (i + 1))
              case rel => exact ⟨i + 1, Q, by omega, by go_num, fun q hq => HQ.out.2 q (HP5.out q hq), by rw [HNX.out]; exact HX.out.pm 3 [1, 0, 2] rfl rfl⟩
              case measure => omega
end
end Go.Proofs.YtbakgoncfggidaaGreatDoor

namespace Go.Av
open Go.RowKit
def HeldW (S : PartS) : Prop := ∀ e ∈ S.held, hasW S.wait e.2 = true
theorem has_app (W : WaitL) (e : Int × WaitS) (id : Int) : hasW (W ++ [e]) id = (hasW W id || e.1 == id) := by
  unfold hasW
  rw [List.any_append]
  simp
theorem take_who {H : HeldL} {who : Int} {ps : List Bs} : ∀ e ∈ takeH H who ps, e.2 = who ∨ e ∈ H := by
  intro e he
  unfold takeH at he
  split at he
  · exact .inr he
  · rcases foldH_keys ps H he with h1 | h1
    · exact .inl h1.2
    · exact .inr h1
theorem takeOps_who {id : Int} : ∀ (ops : List OpS) {H : HeldL}, ∀ e ∈ takeOps H id ops, e.2 = id ∨ e ∈ H
  | [], H, e, he => .inr he
  | o :: ops, H, e, he => by
    rcases takeOps_who ops (H := takeH H id (wantsS o)) e he with h | h
    · exact .inl h
    · exact take_who e h
theorem local_h {S : PartS} (h : HeldW S) (sess num : Int) (ops : List OpS) : HeldW (localS S sess num ops).2 := by
  unfold localS
  split
  · exact h
  · split
    · exact h
    · exact h
theorem prep_h {S : PartS} (h : HeldW S) (id sess : Int) (ops : List OpS) : HeldW (prepS S id sess ops).2 := by
  unfold prepS
  split
  · exact h
  · split
    · exact h
    · split
      · exact h
      · intro e he
        show hasW (S.wait ++ [_]) e.2 = true
        rw [has_app]
        rcases takeOps_who ops e he with h1 | h1
        · rw [h1]; simp
        · rw [h e h1]; rfl
theorem close_h {S : PartS} (h : HeldW S) (id sess : Int) : HeldW (closeS S id sess).2 := by
  unfold closeS
  split
  · exact h
  · split
    · exact h
    · split
      · exact h
      · split
        · exact h
        · intro e he
          show hasW (S.wait ++ [_]) e.2 = true
          rw [has_app]
          rcases take_who e he with h1 | h1
          · rw [h1]; simp
          · rw [h e h1]; rfl
theorem decide_h {S : PartS} (h : HeldW S) (id : Int) (commit : Bool) : HeldW (decideS S id commit).2 := by
  have key : ∀ e ∈ freeH S.held id, hasW (delW S.wait id) e.2 = true := fun e he => by
    obtain ⟨h1, h2⟩ := List.mem_filter.1 he
    have h3 := h e h1
    unfold hasW at h3 ⊢
    obtain ⟨x, hx, hxe⟩ := List.any_eq_true.1 h3
    refine List.any_eq_true.2 ⟨x, List.mem_filter.2 ⟨hx, ?_⟩, hxe⟩
    have e1 : x.1 = e.2 := by simpa using hxe
    rw [e1]
    exact h2
  unfold decideS
  split
  · exact h
  · split
    · exact key
    · split
      · exact key
      · exact key
theorem held_none {S : PartS} (h : HeldW S) (hw : S.wait = []) : S.held = [] ∧ wantedW S.wait = 0 := by
  refine ⟨?_, by rw [hw]; rfl⟩
  cases hh : S.held with
  | nil => rfl
  | cons e l =>
    have := h e (by rw [hh]; exact k_s)
    rw [hw] at this
    cases this
end Go.Av

namespace Go.Av
open Go.RowKit
instance : Inhabited OpS := ⟨⟨0, ⟨#[]⟩, ⟨#[]⟩, 0, 0⟩⟩
def IsOps (w : World) (a : Option Addr) (len cap : Nat) (l : List OpS) : Prop :=
  l.length = len ∧ len ≤ cap ∧ cap ≤ maxLen ∧ (a = none → cap = 0) ∧
    (∀ x, a = some x → ∀ i, (h : i < l.length) → w.cell? (x.add (i * 5)) = some (.int .i64 l[i].kind) ∧ w.cell? (x.add (i * 5 + 1)) = some (.string l[i].path) ∧ w.cell? (x.add (i * 5 + 2)) = some (.string l[i].data) ∧
      w.cell? (x.add (i * 5 + 3)) = some (.int .i64 l[i].ver) ∧ w.cell? (x.add (i * 5 + 4)) = some (.int .i64 l[i].flags)) ∧ ∀ c ∈ l, c.path.size ≤ maxLen ∧ c.data.size ≤ maxLen
theorem add_twice2 (x : Addr) (i j : Nat) : (x.add i).add j = x.add (i + j) := (Go.Deep.add_add x i j).symm ▸ rfl
theorem IsOps.row {w : World} {a : Option Addr} {len cap : Nat} {l : List OpS} (h : IsOps w a len cap l) : ∃ E, ReadRow w 5 (.slice a len cap) (l.flatMap OpS.cells) E := by
  obtain ⟨h1, h2, h3, h4, h5, h6⟩ := h
  have hlen : (l.flatMap OpS.cells).length = len * 5 := by rw [flatG_len (f := OpS.cells) (K := 5) (fun _ => rfl), h1]
  cases l with
  | nil => exact ⟨[], a, len, cap, rfl, hlen, h2, h3, h4, .inl ⟨rfl, rfl⟩⟩
  | cons o l =>
    cases a with
    | none =>
      have := h4 rfl
      simp at h1
      omega
    | some x =>
      obtain ⟨g0, -⟩ := h5 x rfl 0 (by simp)
      have hs := spotK_of g0
      obtain ⟨bk, off, sp⟩ := x
      rw [Nat.zero_mul] at g0
      have hsp : sp = none := by
        have hz : (⟨bk, off, sp⟩ : Addr).add 0 = ⟨bk, off, sp⟩ := by unfold Addr.add; split <;> simp_all
        rw [hz] at g0
        exact spotK_of g0
      subst hsp
      refine ⟨[bk], _, len, cap, rfl, hlen, h2, h3, h4, .inr ⟨bk, off, rfl, rfl, ?_, fun i v hv => ?_⟩⟩
      · have := World.block_lt_of_cell? w _ g0
        rw [Addr.add_lit] at this
        exact this
      · have hi : i < (o :: l).length * 5 := by
          have := (List.getElem?_eq_some_iff.1 hv).1
          rw [flatG_len (f := OpS.cells) (K := 5) (fun _ => rfl)] at this
          exact this
        have hp : i / 5 < (o :: l).length := by omega
        have hm : i % 5 < 5 := Nat.mod_lt _ (by omega)
        have hat := flatG_at (f := OpS.cells) (K := 5) (fun _ => rfl) (o :: l) hp hm
        rw [show i / 5 * 5 + i % 5 = i by omega, hv] at hat
        obtain ⟨c0, c1, c2, c3, c4⟩ := h5 _ rfl (i / 5) hp
        simp only [Addr.add_lit] at c0 c1 c2 c3 c4
        rcases (show i % 5 = 0 ∨ i % 5 = 1 ∨ i % 5 = 2 ∨ i % 5 = 3 ∨ i % 5 = 4 by omega) with e | e | e | e | e <;> rw [e] at hat <;> simp only [OpS.cells, k_k, k_j, Option.some.injEq] at hat <;> subst hat
        · rw [show off + i = off + i / 5 * 5 by omega]; exact c0
        · rw [show off + i = off + (i / 5 * 5 + 1) by omega]; exact c1
        · rw [show off + i = off + (i / 5 * 5 + 2) by omega]; exact c2
        · rw [show off + i = off + (i / 5 * 5 + 3) by omega]; exact c3
        · rw [show off + i = off + (i / 5 * 5 + 4) by omega]; exact c4
end Go.Av
namespace Go.Proofs.YtbakgoncfggidaaGreatDoor
open Go.RowKit Go.Av Go.ChangeShapes Go.WideShapes
theorem opCells2 : Tryz.prog.cellsOf 50 = 5 ∧ Tryz.prog.cellsOf 3 = 1 ∧ Tryz.prog.cellsOf 9 = 1 := by
  refine ⟨?_, ?_, ?_⟩ <;> kernel_rfl
set_option maxRecDepth 100000 in
theorem opsj_of {H : Type} {enc : TypeId × Value → H} {w : World} {base : Nat} {held : Bool} {fuel : Nat} {a : Option Addr} {len cap : Nat} {x : DataW H × List MemPlace}
    (h : DataW.trod enc Tryz.prog w base (fun _ => true) held fuel 28 [.slice a len cap] = some x) : ∃ l, IsOps w a len cap l := by
  obtain ⟨c1, c2, c3⟩ := opCells2
  rcases Deep.open_slice Tryz.underlying28 h with ⟨hcs, _⟩ | ⟨x, l, c, m, n, D, Pl, hcs, hb, hl, hm, hmm, hx, hi⟩
  · cases hcs
    exact ⟨[], rfl, Nat.le_refl _, by decide, fun _ => rfl, by simp, by simp⟩
  · cases hcs
    rw [c1] at hi
    have each : ∀ i, i < len → ∃ q : OpS, (w.cell? (x.add (i * 5)) = some (.int .i64 q.kind) ∧ w.cell? (x.add (i * 5 + 1)) = some (.string q.path) ∧ w.cell? (x.add (i * 5 + 2)) = some (.string q.data) ∧
        w.cell? (x.add (i * 5 + 3)) = some (.int .i64 q.ver) ∧ w.cell? (x.add (i * 5 + 4)) = some (.int .i64 q.flags)) ∧ q.path.size ≤ maxLen ∧ q.data.size ≤ maxLen := by
      intro i hil
      obtain ⟨cs', hc, ht⟩ := hi i (by rw [hmm]; split <;> omega)
      obtain ⟨_, hcl, hat⟩ := World.cells?_some hc
      obtain ⟨ys, n', -, -, -, hyl, hf⟩ := DataW.trod_struct Tryz.underlying50 ht
      match cs', hcl with
      | [k0, k1, k2, k3, k4], _ =>
        have f0 : DataW.trod enc Tryz.prog w base (fun _ => true) held n' 3 (List.take (Tryz.prog.cellsOf 3) (List.drop 0 [k0, k1, k2, k3, k4])) = ys[0]? := hf 0 _ rfl
        have f1 : DataW.trod enc Tryz.prog w base (fun _ => true) held n' 9 (List.take (Tryz.prog.cellsOf 9) (List.drop 1 [k0, k1, k2, k3, k4])) = ys[1]? := hf 1 _ rfl
        have f2 : DataW.trod enc Tryz.prog w base (fun _ => true) held n' 9 (List.take (Tryz.prog.cellsOf 9) (List.drop 2 [k0, k1, k2, k3, k4])) = ys[2]? := hf 2 _ rfl
        have f3 : DataW.trod enc Tryz.prog w base (fun _ => true) held n' 3 (List.take (Tryz.prog.cellsOf 3) (List.drop 3 [k0, k1, k2, k3, k4])) = ys[3]? := hf 3 _ rfl
        have f4 : DataW.trod enc Tryz.prog w base (fun _ => true) held n' 3 (List.take (Tryz.prog.cellsOf 3) (List.drop 4 [k0, k1, k2, k3, k4])) = ys[4]? := hf 4 _ rfl
        rw [c2] at f0 f3 f4
        rw [c3] at f1 f2
        have hy : ∀ j, j < 5 → ∃ y, ys[j]? = some y := fun j hj => ⟨ys[j]'(by rw [hyl]; exact hj), List.getElem?_eq_getElem _⟩
        obtain ⟨y0, e0⟩ := hy 0 (by omega)
        obtain ⟨y1, e1⟩ := hy 1 (by omega)
        obtain ⟨y2, e2⟩ := hy 2 (by omega)
        obtain ⟨y3, e3⟩ := hy 3 (by omega)
        obtain ⟨y4, e4⟩ := hy 4 (by omega)
        obtain ⟨n0, g0, -, -⟩ := DataW.trod_int Tryz.underlying3 (f0.trans e0)
        obtain ⟨n1, g1, -, w1⟩ := DataW.trod_string Tryz.underlying9 (f1.trans e1)
        obtain ⟨n2, g2, -, w2⟩ := DataW.trod_string Tryz.underlying9 (f2.trans e2)
        obtain ⟨n3, g3, -, -⟩ := DataW.trod_int Tryz.underlying3 (f3.trans e3)
        obtain ⟨n4, g4, -, -⟩ := DataW.trod_int Tryz.underlying3 (f4.trans e4)
        simp at g0 g1 g2 g3 g4
        subst g0 g1 g2 g3 g4
        refine ⟨⟨n0, n1, n2, n3, n4⟩, ⟨?_, ?_, ?_, ?_, ?_⟩, w1, w2⟩
        · have := hat 0 (by omega); rw [add_twice2] at this; exact this
        · have := hat 1 (by omega); rw [add_twice2] at this; exact this
        · have := hat 2 (by omega); rw [add_twice2] at this; exact this
        · have := hat 3 (by omega); rw [add_twice2] at this; exact this
        · have := hat 4 (by omega); rw [add_twice2] at this; exact this
    obtain ⟨y, hy⟩ := Deep.choose_lt each
    refine ⟨(List.range len).map y, by simp, hl, hm, by simp, ?_, ?_⟩
    · intro x' hx' i hi'
      cases hx'
      simp at hi'
      simpa using (hy i hi').1
    · intro q hq
      obtain ⟨i, hi', rfl⟩ := List.mem_map.1 hq
      exact (hy i (List.mem_range.1 hi')).2
end Go.Proofs.YtbakgoncfggidaaGreatDoor

namespace Go.Av
open Go.RowKit
structure PAct where
  op : Int
  id : Int
  sess : Int
  v : Value
  yes : Bool
  ops : List OpS
def PAct.cells (a : PAct) : List Value := [.int .i64 a.op, .int .i64 a.id, .int .i64 a.sess, a.v, .bool a.yes]
instance : Inhabited PAct := ⟨⟨0, 0, 0, .bool false, false, []⟩⟩
def IsPActs (w : World) (a : Option Addr) (len cap : Nat) (l : List PAct) : Prop :=
  l.length = len ∧ len ≤ cap ∧ cap ≤ maxLen ∧ (a = none → cap = 0) ∧
    (∀ x, a = some x → ∀ i, (h : i < l.length) → w.cell? (x.add (i * 5)) = some (.int .i64 l[i].op) ∧ w.cell? (x.add (i * 5 + 1)) = some (.int .i64 l[i].id) ∧ w.cell? (x.add (i * 5 + 2)) = some (.int .i64 l[i].sess) ∧
      w.cell? (x.add (i * 5 + 3)) = some l[i].v ∧ w.cell? (x.add (i * 5 + 4)) = some (.bool l[i].yes)) ∧ ∀ c ∈ l, c.id ≤ 9223372036854775807 ∧ ∃ E, ReadRow w 5 c.v (c.ops.flatMap OpS.cells) E
theorem IsPActs.row {w : World} {a : Option Addr} {len cap : Nat} {l : List PAct} (h : IsPActs w a len cap l) : ∃ E, ReadRow w 5 (.slice a len cap) (l.flatMap PAct.cells) E := by
  obtain ⟨h1, h2, h3, h4, h5, h6⟩ := h
  have hlen : (l.flatMap PAct.cells).length = len * 5 := by rw [flatG_len (f := PAct.cells) (K := 5) (fun _ => rfl), h1]
  cases l with
  | nil => exact ⟨[], a, len, cap, rfl, hlen, h2, h3, h4, .inl ⟨rfl, rfl⟩⟩
  | cons o l =>
    cases a with
    | none =>
      have := h4 rfl
      simp at h1
      omega
    | some x =>
      obtain ⟨g0, -⟩ := h5 x rfl 0 (by simp)
      have hs := spotK_of g0
      obtain ⟨bk, off, sp⟩ := x
      rw [Nat.zero_mul] at g0
      have hsp : sp = none := by
        have hz : (⟨bk, off, sp⟩ : Addr).add 0 = ⟨bk, off, sp⟩ := by unfold Addr.add; split <;> simp_all
        rw [hz] at g0
        exact spotK_of g0
      subst hsp
      refine ⟨[bk], _, len, cap, rfl, hlen, h2, h3, h4, .inr ⟨bk, off, rfl, rfl, ?_, fun i v hv => ?_⟩⟩
      · have := World.block_lt_of_cell? w _ g0
        rw [Addr.add_lit] at this
        exact this
      · have hi : i < (o :: l).length * 5 := by
          have := (List.getElem?_eq_some_iff.1 hv).1
          rw [flatG_len (f := PAct.cells) (K := 5) (fun _ => rfl)] at this
          exact this
        have hp : i / 5 < (o :: l).length := by omega
        have hm : i % 5 < 5 := Nat.mod_lt _ (by omega)
        have hat := flatG_at (f := PAct.cells) (K := 5) (fun _ => rfl) (o :: l) hp hm
        rw [show i / 5 * 5 + i % 5 = i by omega, hv] at hat
        obtain ⟨c0, c1, c2, c3, c4⟩ := h5 _ rfl (i / 5) hp
        simp only [Addr.add_lit] at c0 c1 c2 c3 c4
        rcases (show i % 5 = 0 ∨ i % 5 = 1 ∨ i % 5 = 2 ∨ i % 5 = 3 ∨ i % 5 = 4 by omega) with e | e | e | e | e <;> rw [e] at hat <;> simp only [PAct.cells, k_k, k_j, Option.some.injEq] at hat <;> subst hat
        · rw [show off + i = off + i / 5 * 5 by omega]; exact c0
        · rw [show off + i = off + (i / 5 * 5 + 1) by omega]; exact c1
        · rw [show off + i = off + (i / 5 * 5 + 2) by omega]; exact c2
        · rw [show off + i = off + (i / 5 * 5 + 3) by omega]; exact c3
        · rw [show off + i = off + (i / 5 * 5 + 4) by omega]; exact c4
theorem pact_len (a : PAct) : a.cells.length = 5 := rfl
end Go.Av
namespace Go.Proofs.YtbakgoncfggidaaGreatDoor
open Go.RowKit Go.Av Go.ChangeShapes Go.WideShapes
theorem pactCells : Tryz.prog.cellsOf 30 = 5 ∧ Tryz.prog.cellsOf 3 = 1 ∧ Tryz.prog.cellsOf 2 = 1 ∧ Tryz.prog.cellsOf 28 = 1 ∧ Tryz.prog.cellsOf 4 = 1 := by
  refine ⟨?_, ?_, ?_, ?_, ?_⟩ <;> kernel_rfl
theorem opsrow_of {H : Type} {enc : TypeId × Value → H} {w : World} {base : Nat} {held : Bool} {fuel : Nat} {c : Value} {x : DataW H × List MemPlace}
    (h : DataW.trod enc Tryz.prog w base (fun _ => true) held fuel 28 [c] = some x) : ∃ (l : List OpS) (E : List Nat), ReadRow w 5 c (l.flatMap OpS.cells) E := by
  have hs : ∃ a n m, c = .slice a n m := by
    rcases Deep.open_slice Tryz.underlying28 h with ⟨hcs, _⟩ | ⟨x, l, c', m, n, D, Pl, hcs, _⟩
    · cases hcs
      exact ⟨_, _, _, rfl⟩
    · cases hcs
      exact ⟨_, _, _, rfl⟩
  obtain ⟨a, n, m, rfl⟩ := hs
  obtain ⟨l, hl⟩ := opsj_of h
  obtain ⟨E, hE⟩ := hl.row
  exact ⟨l, E, hE⟩
set_option maxRecDepth 100000 in
theorem pacts_of {H : Type} {enc : TypeId × Value → H} {w : World} {base : Nat} {held : Bool} {fuel : Nat} {a : Option Addr} {len cap : Nat} {x : DataW H × List MemPlace}
    (h : DataW.trod enc Tryz.prog w base (fun _ => true) held fuel 22 [.slice a len cap] = some x) : ∃ l, IsPActs w a len cap l := by
  obtain ⟨c1, c2, c3, c4, c5⟩ := pactCells
  rcases Deep.open_slice Tryz.underlying22 h with ⟨hcs, _⟩ | ⟨x, l, c, m, n, D, Pl, hcs, hb, hl, hm, hmm, hx, hi⟩
  · cases hcs
    exact ⟨[], rfl, Nat.le_refl _, by decide, fun _ => rfl, by simp, by simp⟩
  · cases hcs
    rw [c1] at hi
    have each : ∀ i, i < len → ∃ q : PAct, (w.cell? (x.add (i * 5)) = some (.int .i64 q.op) ∧ w.cell? (x.add (i * 5 + 1)) = some (.int .i64 q.id) ∧ w.cell? (x.add (i * 5 + 2)) = some (.int .i64 q.sess) ∧
        w.cell? (x.add (i * 5 + 3)) = some q.v ∧ w.cell? (x.add (i * 5 + 4)) = some (.bool q.yes)) ∧ q.id ≤ 9223372036854775807 ∧ ∃ E, ReadRow w 5 q.v (q.ops.flatMap OpS.cells) E := by
      intro i hil
      obtain ⟨cs', hc, ht⟩ := hi i (by rw [hmm]; split <;> omega)
      obtain ⟨_, hcl, hat⟩ := World.cells?_some hc
      obtain ⟨ys, n', -, -, -, hyl, hf⟩ := DataW.trod_struct Tryz.underlying30 ht
      match cs', hcl with
      | [k0, k1, k2, k3, k4], _ =>
        have f0 : DataW.trod enc Tryz.prog w base (fun _ => true) held n' 3 (List.take (Tryz.prog.cellsOf 3) (List.drop 0 [k0, k1, k2, k3, k4])) = ys[0]? := hf 0 _ rfl
        have f1 : DataW.trod enc Tryz.prog w base (fun _ => true) held n' 2 (List.take (Tryz.prog.cellsOf 2) (List.drop 1 [k0, k1, k2, k3, k4])) = ys[1]? := hf 1 _ rfl
        have f2 : DataW.trod enc Tryz.prog w base (fun _ => true) held n' 2 (List.take (Tryz.prog.cellsOf 2) (List.drop 2 [k0, k1, k2, k3, k4])) = ys[2]? := hf 2 _ rfl
        have f3 : DataW.trod enc Tryz.prog w base (fun _ => true) held n' 28 (List.take (Tryz.prog.cellsOf 28) (List.drop 3 [k0, k1, k2, k3, k4])) = ys[3]? := hf 3 _ rfl
        have f4 : DataW.trod enc Tryz.prog w base (fun _ => true) held n' 4 (List.take (Tryz.prog.cellsOf 4) (List.drop 4 [k0, k1, k2, k3, k4])) = ys[4]? := hf 4 _ rfl
        rw [c2] at f0
        rw [c3] at f1 f2
        rw [c4] at f3
        rw [c5] at f4
        have hy : ∀ j, j < 5 → ∃ y, ys[j]? = some y := fun j hj => ⟨ys[j]'(by rw [hyl]; exact hj), List.getElem?_eq_getElem _⟩
        obtain ⟨y0, e0⟩ := hy 0 (by omega)
        obtain ⟨y1, e1⟩ := hy 1 (by omega)
        obtain ⟨y2, e2⟩ := hy 2 (by omega)
        obtain ⟨y3, e3⟩ := hy 3 (by omega)
        obtain ⟨y4, e4⟩ := hy 4 (by omega)
        obtain ⟨n0, g0, -, -⟩ := DataW.trod_int Tryz.underlying3 (f0.trans e0)
        obtain ⟨n1, g1, -, w1⟩ := DataW.trod_int Tryz.underlying2 (f1.trans e1)
        have hw1 : n1 ≤ 9223372036854775807 := by
          simp only [Lit.wf, Bool.and_eq_true, decide_eq_true_eq, show IntKind.i64.max = 9223372036854775807 by decide] at w1
          omega
        obtain ⟨n2, g2, -, -⟩ := DataW.trod_int Tryz.underlying2 (f2.trans e2)
        have g3 : DataW.trod enc Tryz.prog w base (fun _ => true) held n' 28 [k3] = some y3 := f3.trans e3
        obtain ⟨n4, g4, -⟩ := DataW.trod_bool Tryz.underlying4 (f4.trans e4)
        obtain ⟨ops, E, hE⟩ := opsrow_of g3
        simp at g0 g1 g2 g4
        subst g0 g1 g2 g4
        refine ⟨⟨n0, n1, n2, k3, n4, ops⟩, ⟨?_, ?_, ?_, ?_, ?_⟩, hw1, E, hE⟩
        · have := hat 0 (by omega); rw [add_twice2] at this; exact this
        · have := hat 1 (by omega); rw [add_twice2] at this; exact this
        · have := hat 2 (by omega); rw [add_twice2] at this; exact this
        · have := hat 3 (by omega); rw [add_twice2] at this; exact this
        · have := hat 4 (by omega); rw [add_twice2] at this; exact this
    obtain ⟨y, hy⟩ := Deep.choose_lt each
    refine ⟨(List.range len).map y, by simp, hl, hm, by simp, ?_, ?_⟩
    · intro x' hx' i hi'
      cases hx'
      simp at hi'
      simpa using (hy i hi').1
    · intro q hq
      obtain ⟨i, hi', rfl⟩ := List.mem_map.1 hq
      exact (hy i (List.mem_range.1 hi')).2
end Go.Proofs.YtbakgoncfggidaaGreatDoor
