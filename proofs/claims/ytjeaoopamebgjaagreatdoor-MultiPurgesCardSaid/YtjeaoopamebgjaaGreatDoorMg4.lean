/-
  Texts of this claim, laid together.
-/
import Derived.Test.YtjeaoopamebgjaaGreatDoorMg3
import Derived.Deep.DeepCutAuto
import Derived.Lib.ItoaWalk
set_option linter.unusedVariables false
set_option linter.unusedSimpArgs false

/-
  A tree: the walk of create.
-/
namespace Go.Proofs.YtjeaoopamebgjaaGreatDoor
open Go.RowKit Go.Av
/-- What a call that answers a result leaves. -/
def ResPost (w0 : World) (t : Nat) (S : TreeS) (P : List PRow) (R : List Thing) (rows : List (Value × Bs)) (r : ResS) (e : Ending) (w' : World) : Prop :=
  ∃ nv P', e = .returned (.agg (r.cells nv)) ∧ (∀ q ∈ P, q ∈ P') ∧ (1, nv, r.names.map sv) ∈ P' ∧ Sep w0 w' (ThPool w0 P' :: ThTree t S P' :: R) rows
abbrev opCells (o : OpS) : Array Value := #[.int .i64 o.kind, .string o.path, .string o.data, .int .i64 o.ver, .int .i64 o.flags]
section
variable {w0 w : World} {t : Nat} {S : TreeS} {P P' : List PRow} {R : List Thing} {rows : List (Value × Bs)}
theorem perm22 (a b p q : Thing) (R : List Thing) : (a :: b :: p :: q :: R).Perm (p :: q :: a :: b :: R) := (List.perm_append_comm (l₁ := [a, b]) (l₂ := [p, q])).append_right R
set_option maxRecDepth 100000 in
set_option maxHeartbeats 4000000 in
theorem create_any (h : Sep w0 w (ThPool w0 P :: ThTree t S P :: R) rows) (hd : DoorN w0) (o : OpS) (hp : o.path.size ≤ 100000) (hdt : o.data.size ≤ 100000) (h0 : 0 ≤ o.flags) (h3 : o.flags ≤ 3) (hok : ∀ e ∈ S.l, NodeOk e.2) (sess zxid : Int) (only : Bool) :
    Calls Tryz.prog 56 #[.pointer (some ⟨t, 0, none⟩), o.val, .int .i64 sess, .int .i64 zxid, .bool only] w (ResPost w0 t (if only then S else (createT S o sess zxid).2) P R rows (createT S o sess zxid).1) := by
  have hA := ((h.newCell (.cells (opCells o) 36)).newCell (.cells ((failS 0).cells (.slice none 0 0)) 33)).perm (perm22 _ _ _ _ _)
  have HPL := Lib.hid (place_any (hA.perm (List.Perm.swap _ _ _)) (hd.sep h |>.upd ((Upd.alloc0 w _ []).trans (Upd.alloc0 _ _ []))) o hp h0 h3 hok)
  have HA := Lib.hid hA
  have HZ := Lib.hid (fun h => place_zero (S := S) (o := o) h)
  obtain ⟨cr, hcr⟩ : ∃ cr, createT S o sess zxid = cr := ⟨_, rfl⟩
  have HCR := Lib.hid hcr
  unfold createT at HCR
  rw [hcr]
  obtain ⟨S', hS'⟩ : ∃ S', (if only = true then S else cr.2) = S' := ⟨_, rfl⟩
  have HS' := Lib.hid hS'
  rw [hS']
  clear hS'
  obtain ⟨pl, hpl⟩ : ∃ pl, placeT S o = pl := ⟨_, rfl⟩
  rw [hpl] at HPL HCR HZ
  obtain ⟨pe, pp⟩ := pl
  have hlo : ∀ W, Upd (w.alloc (.cells (opCells o) 36)) W [] [] → OpAt W w.heap.size o := fun W hu => opAt_new w o hu
  have HB := Lib.hid (show (w.alloc (.cells (opCells o) 36)).heap.size = w.heap.size + 1 by simp)
  obtain ⟨kind, path, data, ver, flags⟩ := o
  unfold OpS.val
  have heb := eph_bit h0 h3
  unfold OpAt at hlo
  unfold opCells ResS.cells failS noSt at HA HPL
  unfold opCells at hlo HB
  dsimp only at HA HPL HCR HZ hlo HB hp hdt h0 h3 heb ⊢
  rw [HB.out] at HA
  have HLO := Lib.hid hlo
  clear h hA hcr hpl hlo
  go_enter Tryz.func56, Tryz.ntmps56
  obtain ⟨o0, o1, o2, o3, o4⟩ := HLO.out _ (Upd.alloc0 _ (.cells #[.int .i64 0, .string ⟨#[]⟩, .string ⟨#[]⟩, .slice none 0 0, .int .i64 0, .int .i64 0, .int .i64 0, .int .i64 0, .int .i64 0, .int .i64 0, .int .i64 0] 33) [])
  go_wp2_with fail
  refine HPL.out.mono ?_
  rintro e w1 ⟨rfl, hu1⟩
  have H1 := Lib.hid (HA.out.keep hu1)
  clear HPL HA HLO o0 o1 o2 o3 o4 hu1
  obtain ⟨b6, hb6⟩ : ∃ b6, b6 = w.heap.size := ⟨_, rfl⟩
  obtain ⟨b10, hb10⟩ : ∃ b10, b10 = w.heap.size + 1 := ⟨_, rfl⟩
  rw [← hb10, ← hb6] at H1 ⊢
  clear hb6 hb10 HB
  have e10 := H1.out.block (b := b10) (o := .cells #[.int .i64 0, .string ⟨#[]⟩, .string ⟨#[]⟩, .slice none 0 0, .int .i64 0, .int .i64 0, .int .i64 0, .int .i64 0, .int .i64 0, .int .i64 0, .int .i64 0] 33 (0, 0)) (by simp)
  have e6 := H1.out.block (b := b6) (o := .cells #[.int .i64 kind, .string path, .string data, .int .i64 ver, .int .i64 flags] 36 (0, 0)) (by simp)
  by_cases hpe : pe = 0
  case neg =>
    have hq : (pe != 0) = true := by rw [bne_iff_ne]; exact hpe
    have HC := Lib.hid (show cr = (failS pe, S) by rw [← HCR.out, if_pos hpe])
    have HFL := Lib.hid (show Calls Tryz.prog _ _ _ (fun e w' => e = .returned (.agg #[.int .i64 pe, .string ⟨#[]⟩, .string ⟨#[]⟩, .slice none 0 0, .int .i64 0, .int .i64 0, .int .i64 0, .int .i64 0, .int .i64 0, .int .i64 0, .int .i64 0]) ∧ _) from fail_any pe w1)
    clear hpe HCR HZ e10
    go_wp2_with fail
    refine HFL.out.mono ?_
    rintro e w2 ⟨rfl, hu2⟩
    have H2 := Lib.hid ((H1.out.keep hu2).pick 2 rfl rfl)
    clear hu2 HFL e6
    have r0 := cell_of H2.out.blk 0 (v := .int .i64 0) rfl
    have g0 := frz_of H2.out.blk 0
    have r1 := cell_of H2.out.blk 1 (v := .string ⟨#[]⟩) rfl
    have g1 := frz_of H2.out.blk 1
    have r2 := cell_of H2.out.blk 2 (v := .string ⟨#[]⟩) rfl
    have g2 := frz_of H2.out.blk 2
    have r3 := cell_of H2.out.blk 3 (v := .slice none 0 0) rfl
    have g3 := frz_of H2.out.blk 3
    have r4 := cell_of H2.out.blk 4 (v := .int .i64 0) rfl
    have g4 := frz_of H2.out.blk 4
    have r5 := cell_of H2.out.blk 5 (v := .int .i64 0) rfl
    have g5 := frz_of H2.out.blk 5
    have r6 := cell_of H2.out.blk 6 (v := .int .i64 0) rfl
    have g6 := frz_of H2.out.blk 6
    have r7 := cell_of H2.out.blk 7 (v := .int .i64 0) rfl
    have g7 := frz_of H2.out.blk 7
    have r8 := cell_of H2.out.blk 8 (v := .int .i64 0) rfl
    have g8 := frz_of H2.out.blk 8
    have r9 := cell_of H2.out.blk 9 (v := .int .i64 0) rfl
    have g9 := frz_of H2.out.blk 9
    have r10 := cell_of H2.out.blk 10 (v := .int .i64 0) rfl
    have g10 := frz_of H2.out.blk 10
    have HF := Lib.hid (H2.out.setAll [.int .i64 pe, .string ⟨#[]⟩, .string ⟨#[]⟩, .slice none 0 0, .int .i64 0, .int .i64 0, .int .i64 0, .int .i64 0, .int .i64 0, .int .i64 0, .int .i64 0] rfl)
    go_wp2_with fail
    refine bodyPost_ret (ret_cell rfl _ rfl HF.out.blk Tryz.underlying33 (by kernel_rfl)) rfl ?_
    have hS := (HF.out.drop.pick 2 rfl rfl).drop
    rw [← HS'.out, HC.out]
    refine ⟨.slice none 0 0, (1, .slice none 0 0, []) :: P, rfl, fun q hq => List.mem_cons_of_mem _ hq, List.mem_cons_self .., ?_⟩
    have h5 := (tree_mono ((hS.poolNil 1).perm (List.Perm.swap _ _ _)) (P' := (1, .slice none 0 0, []) :: P) (fun q hq => List.mem_cons_of_mem _ hq)).perm (List.Perm.swap _ _ _)
    cases only <;> exact h5
  case pos =>
    subst hpe
    obtain ⟨hlk, hpl⟩ := HZ.out rfl
    obtain ⟨ps, hps⟩ : ∃ ps : ByteArray, ps = ⟨pp.toArray⟩ := ⟨_, rfl⟩
    have hpp : ps.data.toList = pp := by rw [hps]
    have hpz : ps.size ≤ 100000 := by
      rw [hps]
      show pp.toArray.size ≤ _
      rw [List.size_toArray]
      omega
    have HPV := Lib.hid (show sv pp = .string ps by rw [hps]; rfl)
    have HLK := Lib.hid (show lookT ps.data.toList S.l = none by rw [hpp]; exact hlk)
    have HC := Lib.hid (show cr = (⟨0, ps, ⟨#[]⟩, [], (newS zxid (if ephF flags then sess else 0) data).st⟩, { S with l := layT ps.data.toList (newS zxid (if ephF flags then sess else 0) data) S.l }) by
      rw [← HCR.out, if_neg (by simp), hpp, hps]
      rfl)
    rw [HPV.out]
    have HOK := Lib.hid (show ∀ ow, ∀ e ∈ insT ps.data.toList (newS zxid ow data) S.l, NodeOk e.2 from fun ow e he => by
      rcases List.mem_cons.1 ((insT_perm _ _ _).mem_iff.1 he) with rfl | he
      · exact ⟨by simp [newS], by simp [newS], by simp [newS], by simp [newS, RiseS], by simp [newS], hdt⟩
      · exact hok e he)
    have HD := Lib.hid hd
    clear hlk hpl hps hpp HCR HZ HPV e10 hok hd
    cases hef : ephF flags
    case' false =>
      rw [hef] at heb HC
      have HC := Lib.hid (show cr = (⟨0, ps, ⟨#[]⟩, [], (newS zxid 0 data).st⟩, { S with l := layT ps.data.toList (newS zxid 0 data) S.l }) from HC.out)
      have HNW := Lib.hid (show Calls Tryz.prog _ _ _ (fun e w' => e = .returned (.agg #[.int .i64 zxid, .int .i64 zxid, .int .i64 0, .int .i64 0, .int .i64 0, .int .i64 (data.size : Nat), .int .i64 (0 : Nat), .string data, .int .i64 0, .slice none 0 0]) ∧ _) from statnew_any zxid 0 data w1 hdt)
    case' true =>
      rw [hef] at heb HC
      have HC := Lib.hid (show cr = (⟨0, ps, ⟨#[]⟩, [], (newS zxid sess data).st⟩, { S with l := layT ps.data.toList (newS zxid sess data) S.l }) from HC.out)
      have HNW := Lib.hid (show Calls Tryz.prog _ _ _ (fun e w' => e = .returned (.agg #[.int .i64 zxid, .int .i64 zxid, .int .i64 0, .int .i64 0, .int .i64 sess, .int .i64 (data.size : Nat), .int .i64 (0 : Nat), .string data, .int .i64 0, .slice none 0 0]) ∧ _) from statnew_any zxid sess data w1 hdt)
    case false =>
      have o4 := cell_of e6 4 (v := .int .i64 flags) rfl
      have o2 := cell_of e6 2 (v := .string data) rfl
      clear hef
      go_wp2_with fail
      refine HNW.out.mono ?_
      rintro e w2 ⟨rfl, hu2⟩
      have h3' := (H1.out.keep hu2).newCell (.cells #[.int .i64 zxid, .int .i64 zxid, .int .i64 0, .int .i64 0, .int .i64 0, .int .i64 (data.size : Nat), .int .i64 0, .string data, .int .i64 0, .slice none 0 0] 51)
      have h4' := (tree_mono (((h3'.pick 1 rfl rfl).poolNil 1).pick 2 rfl rfl) (P' := (1, .slice none 0 0, []) :: P) (fun q hq => List.mem_cons_of_mem _ hq)).perm (List.Perm.swap _ _ _)
      obtain ⟨b14, hb14⟩ : ∃ b14, b14 = w2.heap.size := ⟨_, rfl⟩
      rw [← hb14] at h4'
      have H4 := Lib.hid h4'
      have HB14 := Lib.hid hb14
      clear hu2 HNW o4 o2 e6 h3' h4' hb14
      cases only with
      | true =>
        have HS2 := Lib.hid (show S = S' from HS'.out)
        obtain ⟨PX, hPX⟩ : ∃ PX, PX = (1, .slice none 0 0, []) :: P := ⟨_, rfl⟩
        have HPX := Lib.hid (show ∀ q ∈ P, q ∈ PX from fun q hq => by rw [hPX]; exact List.mem_cons_of_mem _ hq)
        have HNX := Lib.hid (show (1, .slice none 0 0, []) ∈ PX by rw [hPX]; exact List.mem_cons_self ..)
        rw [← hPX, HS2.out] at H4
        have HX := H4
        have hb := HB14.out
        clear hPX HB14
        subst hb
        have HNB := HX.out.block (b := w2.heap.size) (o := .cells #[.int .i64 zxid, .int .i64 zxid, .int .i64 0, .int .i64 0, .int .i64 0, .int .i64 (data.size : Nat), .int .i64 0, .string data, .int .i64 0, .slice none 0 0] 51 (0, 0)) (by simp)
        have n0 := cell_of HNB 0 (v := .int .i64 zxid) rfl
        have n1 := cell_of HNB 1 (v := .int .i64 zxid) rfl
        have n2 := cell_of HNB 2 (v := .int .i64 0) rfl
        have n3 := cell_of HNB 3 (v := .int .i64 0) rfl
        have n4 := cell_of HNB 4 (v := .int .i64 0) rfl
        have n5 := cell_of HNB 5 (v := .int .i64 (data.size : Nat)) rfl
        have n6 := cell_of HNB 6 (v := .int .i64 0) rfl
        have HY := Lib.hid (HX.out.pick 3 rfl rfl)
        clear HNB
        have r0 := cell_of HY.out.blk 0 (v := .int .i64 0) rfl
        have g0 := frz_of HY.out.blk 0
        have r1 := cell_of HY.out.blk 1 (v := .string ⟨#[]⟩) rfl
        have g1 := frz_of HY.out.blk 1
        have r2 := cell_of HY.out.blk 2 (v := .string ⟨#[]⟩) rfl
        have g2 := frz_of HY.out.blk 2
        have r3 := cell_of HY.out.blk 3 (v := .slice none 0 0) rfl
        have g3 := frz_of HY.out.blk 3
        have r4 := cell_of HY.out.blk 4 (v := .int .i64 0) rfl
        have g4 := frz_of HY.out.blk 4
        have r5 := cell_of HY.out.blk 5 (v := .int .i64 0) rfl
        have g5 := frz_of HY.out.blk 5
        have r6 := cell_of HY.out.blk 6 (v := .int .i64 0) rfl
        have g6 := frz_of HY.out.blk 6
        have r7 := cell_of HY.out.blk 7 (v := .int .i64 0) rfl
        have g7 := frz_of HY.out.blk 7
        have r8 := cell_of HY.out.blk 8 (v := .int .i64 0) rfl
        have g8 := frz_of HY.out.blk 8
        have r9 := cell_of HY.out.blk 9 (v := .int .i64 0) rfl
        have g9 := frz_of HY.out.blk 9
        have r10 := cell_of HY.out.blk 10 (v := .int .i64 0) rfl
        have g10 := frz_of HY.out.blk 10
        have HF := Lib.hid (HY.out.setAll [.int .i64 0, .string ps, .string ⟨#[]⟩, .slice none 0 0, .int .i64 zxid, .int .i64 zxid, .int .i64 0, .int .i64 0, .int .i64 0, .int .i64 (data.size : Nat), .int .i64 0] rfl)
        go_wp2_with fail
        refine bodyPost_ret (ret_cell rfl _ rfl HF.out.blk Tryz.underlying33 (by kernel_rfl)) rfl ?_
        rw [HC.out]
        exact ⟨.slice none 0 0, PX, rfl, HPX.out, HNX.out, ((HF.out.drop.pick 2 rfl rfl).drop.pick 2 rfl rfl).drop⟩
      | false =>
        have HS2 := Lib.hid (show cr.2 = S' from HS'.out)
        have HLY := Lib.hid (lay_any H4.out HD.out ps hpz (newS zxid 0 data) (.slice none 0 0) (List.mem_cons_self ..) HLK.out (HOK.out 0))
        go_wp2_with fail
        refine HLY.out.mono ?_
        rintro e w3 ⟨rfl, PX, hPX, hX⟩
        have HX := Lib.hid hX
        have HPX := Lib.hid (show ∀ q ∈ P, q ∈ PX from fun q hq => hPX q (List.mem_cons_of_mem _ hq))
        have HNX := Lib.hid (show (1, .slice none 0 0, []) ∈ PX from hPX _ (List.mem_cons_self ..))
        have HSE := Lib.hid (show S' = { S with l := layT ps.data.toList (newS zxid 0 data) S.l } by rw [← HS2.out]; exact congrArg Prod.snd HC.out)
        rw [← HSE.out] at HX
        rw [← HB14.out]
        clear hX hPX HLY
        have HNB := HX.out.block (b := b14) (o := .cells #[.int .i64 zxid, .int .i64 zxid, .int .i64 0, .int .i64 0, .int .i64 0, .int .i64 (data.size : Nat), .int .i64 0, .string data, .int .i64 0, .slice none 0 0] 51 (0, 0)) (by simp)
        have n0 := cell_of HNB 0 (v := .int .i64 zxid) rfl
        have n1 := cell_of HNB 1 (v := .int .i64 zxid) rfl
        have n2 := cell_of HNB 2 (v := .int .i64 0) rfl
        have n3 := cell_of HNB 3 (v := .int .i64 0) rfl
        have n4 := cell_of HNB 4 (v := .int .i64 0) rfl
        have n5 := cell_of HNB 5 (v := .int .i64 (data.size : Nat)) rfl
        have n6 := cell_of HNB 6 (v := .int .i64 0) rfl
        have HY := Lib.hid (HX.out.pick 3 rfl rfl)
        clear HNB
        have r0 := cell_of HY.out.blk 0 (v := .int .i64 0) rfl
        have g0 := frz_of HY.out.blk 0
        have r1 := cell_of HY.out.blk 1 (v := .string ⟨#[]⟩) rfl
        have g1 := frz_of HY.out.blk 1
        have r2 := cell_of HY.out.blk 2 (v := .string ⟨#[]⟩) rfl
        have g2 := frz_of HY.out.blk 2
        have r3 := cell_of HY.out.blk 3 (v := .slice none 0 0) rfl
        have g3 := frz_of HY.out.blk 3
        have r4 := cell_of HY.out.blk 4 (v := .int .i64 0) rfl
        have g4 := frz_of HY.out.blk 4
        have r5 := cell_of HY.out.blk 5 (v := .int .i64 0) rfl
        have g5 := frz_of HY.out.blk 5
        have r6 := cell_of HY.out.blk 6 (v := .int .i64 0) rfl
        have g6 := frz_of HY.out.blk 6
        have r7 := cell_of HY.out.blk 7 (v := .int .i64 0) rfl
        have g7 := frz_of HY.out.blk 7
        have r8 := cell_of HY.out.blk 8 (v := .int .i64 0) rfl
        have g8 := frz_of HY.out.blk 8
        have r9 := cell_of HY.out.blk 9 (v := .int .i64 0) rfl
        have g9 := frz_of HY.out.blk 9
        have r10 := cell_of HY.out.blk 10 (v := .int .i64 0) rfl
        have g10 := frz_of HY.out.blk 10
        have HF := Lib.hid (HY.out.setAll [.int .i64 0, .string ps, .string ⟨#[]⟩, .slice none 0 0, .int .i64 zxid, .int .i64 zxid, .int .i64 0, .int .i64 0, .int .i64 0, .int .i64 (data.size : Nat), .int .i64 0] rfl)
        go_wp2_with fail
        refine bodyPost_ret (ret_cell rfl _ rfl HF.out.blk Tryz.underlying33 (by kernel_rfl)) rfl ?_
        rw [HC.out]
        exact ⟨.slice none 0 0, PX, rfl, HPX.out, HNX.out, ((HF.out.drop.pick 2 rfl rfl).drop.pick 2 rfl rfl).drop⟩
    case true =>
      have o4 := cell_of e6 4 (v := .int .i64 flags) rfl
      have o2 := cell_of e6 2 (v := .string data) rfl
      clear hef
      go_wp2_with fail
      refine HNW.out.mono ?_
      rintro e w2 ⟨rfl, hu2⟩
      have h3' := (H1.out.keep hu2).newCell (.cells #[.int .i64 zxid, .int .i64 zxid, .int .i64 0, .int .i64 0, .int .i64 sess, .int .i64 (data.size : Nat), .int .i64 0, .string data, .int .i64 0, .slice none 0 0] 51)
      have h4' := (tree_mono (((h3'.pick 1 rfl rfl).poolNil 1).pick 2 rfl rfl) (P' := (1, .slice none 0 0, []) :: P) (fun q hq => List.mem_cons_of_mem _ hq)).perm (List.Perm.swap _ _ _)
      obtain ⟨b14, hb14⟩ : ∃ b14, b14 = w2.heap.size := ⟨_, rfl⟩
      rw [← hb14] at h4'
      have H4 := Lib.hid h4'
      have HB14 := Lib.hid hb14
      clear hu2 HNW o4 o2 e6 h3' h4' hb14
      cases only with
      | true =>
        have HS2 := Lib.hid (show S = S' from HS'.out)
        obtain ⟨PX, hPX⟩ : ∃ PX, PX = (1, .slice none 0 0, []) :: P := ⟨_, rfl⟩
        have HPX := Lib.hid (show ∀ q ∈ P, q ∈ PX from fun q hq => by rw [hPX]; exact List.mem_cons_of_mem _ hq)
        have HNX := Lib.hid (show (1, .slice none 0 0, []) ∈ PX by rw [hPX]; exact List.mem_cons_self ..)
        rw [← hPX, HS2.out] at H4
        have HX := H4
        have hb := HB14.out
        clear hPX HB14
        subst hb
        have HNB := HX.out.block (b := w2.heap.size) (o := .cells #[.int .i64 zxid, .int .i64 zxid, .int .i64 0, .int .i64 0, .int .i64 sess, .int .i64 (data.size : Nat), .int .i64 0, .string data, .int .i64 0, .slice none 0 0] 51 (0, 0)) (by simp)
        have n0 := cell_of HNB 0 (v := .int .i64 zxid) rfl
        have n1 := cell_of HNB 1 (v := .int .i64 zxid) rfl
        have n2 := cell_of HNB 2 (v := .int .i64 0) rfl
        have n3 := cell_of HNB 3 (v := .int .i64 0) rfl
        have n4 := cell_of HNB 4 (v := .int .i64 sess) rfl
        have n5 := cell_of HNB 5 (v := .int .i64 (data.size : Nat)) rfl
        have n6 := cell_of HNB 6 (v := .int .i64 0) rfl
        have HY := Lib.hid (HX.out.pick 3 rfl rfl)
        clear HNB
        have r0 := cell_of HY.out.blk 0 (v := .int .i64 0) rfl
        have g0 := frz_of HY.out.blk 0
        have r1 := cell_of HY.out.blk 1 (v := .string ⟨#[]⟩) rfl
        have g1 := frz_of HY.out.blk 1
        have r2 := cell_of HY.out.blk 2 (v := .string ⟨#[]⟩) rfl
        have g2 := frz_of HY.out.blk 2
        have r3 := cell_of HY.out.blk 3 (v := .slice none 0 0) rfl
        have g3 := frz_of HY.out.blk 3
        have r4 := cell_of HY.out.blk 4 (v := .int .i64 0) rfl
        have g4 := frz_of HY.out.blk 4
        have r5 := cell_of HY.out.blk 5 (v := .int .i64 0) rfl
        have g5 := frz_of HY.out.blk 5
        have r6 := cell_of HY.out.blk 6 (v := .int .i64 0) rfl
        have g6 := frz_of HY.out.blk 6
        have r7 := cell_of HY.out.blk 7 (v := .int .i64 0) rfl
        have g7 := frz_of HY.out.blk 7
        have r8 := cell_of HY.out.blk 8 (v := .int .i64 0) rfl
        have g8 := frz_of HY.out.blk 8
        have r9 := cell_of HY.out.blk 9 (v := .int .i64 0) rfl
        have g9 := frz_of HY.out.blk 9
        have r10 := cell_of HY.out.blk 10 (v := .int .i64 0) rfl
        have g10 := frz_of HY.out.blk 10
        have HF := Lib.hid (HY.out.setAll [.int .i64 0, .string ps, .string ⟨#[]⟩, .slice none 0 0, .int .i64 zxid, .int .i64 zxid, .int .i64 0, .int .i64 0, .int .i64 sess, .int .i64 (data.size : Nat), .int .i64 0] rfl)
        go_wp2_with fail
        refine bodyPost_ret (ret_cell rfl _ rfl HF.out.blk Tryz.underlying33 (by kernel_rfl)) rfl ?_
        rw [HC.out]
        exact ⟨.slice none 0 0, PX, rfl, HPX.out, HNX.out, ((HF.out.drop.pick 2 rfl rfl).drop.pick 2 rfl rfl).drop⟩
      | false =>
        have HS2 := Lib.hid (show cr.2 = S' from HS'.out)
        have HLY := Lib.hid (lay_any H4.out HD.out ps hpz (newS zxid sess data) (.slice none 0 0) (List.mem_cons_self ..) HLK.out (HOK.out sess))
        go_wp2_with fail
        refine HLY.out.mono ?_
        rintro e w3 ⟨rfl, PX, hPX, hX⟩
        have HX := Lib.hid hX
        have HPX := Lib.hid (show ∀ q ∈ P, q ∈ PX from fun q hq => hPX q (List.mem_cons_of_mem _ hq))
        have HNX := Lib.hid (show (1, .slice none 0 0, []) ∈ PX from hPX _ (List.mem_cons_self ..))
        have HSE := Lib.hid (show S' = { S with l := layT ps.data.toList (newS zxid sess data) S.l } by rw [← HS2.out]; exact congrArg Prod.snd HC.out)
        rw [← HSE.out] at HX
        rw [← HB14.out]
        clear hX hPX HLY
        have HNB := HX.out.block (b := b14) (o := .cells #[.int .i64 zxid, .int .i64 zxid, .int .i64 0, .int .i64 0, .int .i64 sess, .int .i64 (data.size : Nat), .int .i64 0, .string data, .int .i64 0, .slice none 0 0] 51 (0, 0)) (by simp)
        have n0 := cell_of HNB 0 (v := .int .i64 zxid) rfl
        have n1 := cell_of HNB 1 (v := .int .i64 zxid) rfl
        have n2 := cell_of HNB 2 (v := .int .i64 0) rfl
        have n3 := cell_of HNB 3 (v := .int .i64 0) rfl
        have n4 := cell_of HNB 4 (v := .int .i64 sess) rfl
        have n5 := cell_of HNB 5 (v := .int .i64 (data.size : Nat)) rfl
        have n6 := cell_of HNB 6 (v := .int .i64 0) rfl
        have HY := Lib.hid (HX.out.pick 3 rfl rfl)
        clear HNB
        have r0 := cell_of HY.out.blk 0 (v := .int .i64 0) rfl
        have g0 := frz_of HY.out.blk 0
        have r1 := cell_of HY.out.blk 1 (v := .string ⟨#[]⟩) rfl
        have g1 := frz_of HY.out.blk 1
        have r2 := cell_of HY.out.blk 2 (v := .string ⟨#[]⟩) rfl
        have g2 := frz_of HY.out.blk 2
        have r3 := cell_of HY.out.blk 3 (v := .slice none 0 0) rfl
        have g3 := frz_of HY.out.blk 3
        have r4 := cell_of HY.out.blk 4 (v := .int .i64 0) rfl
        have g4 := frz_of HY.out.blk 4
        have r5 := cell_of HY.out.blk 5 (v := .int .i64 0) rfl
        have g5 := frz_of HY.out.blk 5
        have r6 := cell_of HY.out.blk 6 (v := .int .i64 0) rfl
        have g6 := frz_of HY.out.blk 6
        have r7 := cell_of HY.out.blk 7 (v := .int .i64 0) rfl
        have g7 := frz_of HY.out.blk 7
        have r8 := cell_of HY.out.blk 8 (v := .int .i64 0) rfl
        have g8 := frz_of HY.out.blk 8
        have r9 := cell_of HY.out.blk 9 (v := .int .i64 0) rfl
        have g9 := frz_of HY.out.blk 9
        have r10 := cell_of HY.out.blk 10 (v := .int .i64 0) rfl
        have g10 := frz_of HY.out.blk 10
        have HF := Lib.hid (HY.out.setAll [.int .i64 0, .string ps, .string ⟨#[]⟩, .slice none 0 0, .int .i64 zxid, .int .i64 zxid, .int .i64 0, .int .i64 0, .int .i64 sess, .int .i64 (data.size : Nat), .int .i64 0] rfl)
        go_wp2_with fail
        refine bodyPost_ret (ret_cell rfl _ rfl HF.out.blk Tryz.underlying33 (by kernel_rfl)) rfl ?_
        rw [HC.out]
        exact ⟨.slice none 0 0, PX, rfl, HPX.out, HNX.out, ((HF.out.drop.pick 2 rfl rfl).drop.pick 2 rfl rfl).drop⟩
end
end Go.Proofs.YtjeaoopamebgjaaGreatDoor

/-
  A tree: the walk of read.
-/
namespace Go.Av
/-- What is read. -/
def readT (S : TreeS) (o : OpS) : ResS := match lookT o.p S.l with
  | none => failS 4
  | some n => ⟨0, o.path, if o.kind == 5 then n.data else ⟨#[]⟩, if o.kind == 7 then n.names else [], n.st⟩
end Go.Av
namespace Go.Proofs.YtjeaoopamebgjaaGreatDoor
open Go.RowKit Go.Av
theorem node_cells {W : World} {x : Nat} {n : NodeS} {nv : Value} (hb : W.heap[x]? = some (.cells (n.cells nv) 51 (0, 0))) :
    W.cell? ⟨x, 0, none⟩ = some (.int .i64 n.made) ∧ W.cell? ⟨x, 1, none⟩ = some (.int .i64 n.changed) ∧ W.cell? ⟨x, 2, none⟩ = some (.int .i64 n.ver) ∧ W.cell? ⟨x, 3, none⟩ = some (.int .i64 n.kids) ∧ W.cell? ⟨x, 4, none⟩ = some (.int .i64 n.owner) ∧ W.cell? ⟨x, 5, none⟩ = some (.int .i64 (n.data.size : Nat)) ∧ W.cell? ⟨x, 6, none⟩ = some (.int .i64 (n.names.length : Nat)) ∧ W.cell? ⟨x, 7, none⟩ = some (.string n.data) ∧ W.cell? ⟨x, 8, none⟩ = some (.int .i64 n.next) ∧ W.cell? ⟨x, 9, none⟩ = some nv :=
  ⟨cell_of hb 0 rfl, cell_of hb 1 rfl, cell_of hb 2 rfl, cell_of hb 3 rfl, cell_of hb 4 rfl, cell_of hb 5 rfl, cell_of hb 6 rfl, cell_of hb 7 rfl, cell_of hb 8 rfl, cell_of hb 9 rfl⟩
section
variable {w0 w : World} {t : Nat} {S : TreeS} {P P' : List PRow} {R : List Thing} {rows : List (Value × Bs)}
set_option maxRecDepth 100000 in
set_option maxHeartbeats 4000000 in
theorem read_any (h : Sep w0 w (ThPool w0 P :: ThTree t S P :: R) rows) (o : OpS) (hok : ∀ e ∈ S.l, NodeOk e.2) :
    Calls Tryz.prog 58 #[.pointer (some ⟨t, 0, none⟩), o.val] w (ResPost w0 t S P R rows (readT S o)) := by
  have hA := ((h.newCell (.cells (opCells o) 36)).newCell (.cells ((failS 0).cells (.slice none 0 0)) 33)).perm (perm22 _ _ _ _ _)
  obtain ⟨m, -, hm1, hnone, hsome, -⟩ := tree_facts (hA.perm (List.Perm.swap _ _ _))
  have HB := Lib.hid (show (w.alloc (.cells (opCells o) 36)).heap.size = w.heap.size + 1 by simp)
  obtain ⟨rr, hrr⟩ : ∃ rr, readT S o = rr := ⟨_, rfl⟩
  have HR := Lib.hid hrr
  unfold readT at HR
  rw [hrr]
  have hno := hnone o.path
  have hso := hsome o.path
  have HRI := Lib.hid (tree_rise (hA.perm (List.Perm.swap _ _ _)))
  obtain ⟨kind, path, data, ver, flags⟩ := o
  unfold OpS.val
  unfold OpS.p at HR
  unfold opCells ResS.cells failS noSt at hA hm1 hno hso
  unfold opCells at HB
  dsimp only at hA hm1 hno hso HB HR ⊢
  rw [HB.out] at hA
  have HA := Lib.hid hA
  clear h hA hrr hnone hsome
  obtain ⟨wA, hwA⟩ : ∃ wA, wA = (w.alloc (.cells #[.int .i64 kind, .string path, .string data, .int .i64 ver, .int .i64 flags] 36)).alloc (.cells #[.int .i64 0, .string ⟨#[]⟩, .string ⟨#[]⟩, .slice none 0 0, .int .i64 0, .int .i64 0, .int .i64 0, .int .i64 0, .int .i64 0, .int .i64 0, .int .i64 0] 33) := ⟨_, rfl⟩
  rw [← hwA] at HA hm1 hno hso
  have HWA := Lib.hid hwA
  clear hwA
  have e3 := HA.out.block (b := w.heap.size) (o := .cells #[.int .i64 kind, .string path, .string data, .int .i64 ver, .int .i64 flags] 36 (0, 0)) (by simp)
  have o1 := cell_of e3 1 (v := .string path) rfl
  have HE3 := Lib.hid e3
  clear e3
  cases hlk : lookT path.data.toList S.l with
  | none =>
    have hk := hno hlk wA rfl
    have hkd := hno hlk wA.drew rfl
    have HC := Lib.hid (show rr = failS 4 by rw [← HR.out, hlk])
    have HFL := Lib.hid (show Calls Tryz.prog _ _ _ (fun e w' => e = .returned (.agg #[.int .i64 4, .string ⟨#[]⟩, .string ⟨#[]⟩, .slice none 0 0, .int .i64 0, .int .i64 0, .int .i64 0, .int .i64 0, .int .i64 0, .int .i64 0, .int .i64 0]) ∧ _) from fail_any 4 wA.drew)
    clear hlk HR hno hso
    go_enter Tryz.func58, Tryz.ntmps58
    go_wp2_with fail
    rw [← HWA.out]
    refine wp_region_M (fun W => W.cell? ⟨t, 1, none⟩ = some (.map (some m)) ∧ W.cell? ⟨w.heap.size, 1, none⟩ = some (.string path) ∧ (Instr.lookup 79 (.map (some m)) (.string path) false).run Tryz.prog W = .ok (.pointer none) W) 8 (by kernel_rfl) ?_
    refine wpAnyM_take (by kernel_rfl) (by intro c a d v w h; cases d <;> exact h) [(0, false), (1, false), (2, false), (3, true), (4, false), (5, true), (6, true), (7, false)] (fuel := 0) (by kernel_rfl) ?_
    apply Exists.intro; refine ⟨?_, ⟨hm1, o1, hkd⟩, ?_⟩
    · iterate 8 ((first | (apply yieldN; (· (simp only [List.getElem?_toArray, List.getElem?_cons_succ, List.getElem?_cons_zero]; try rfl)); (· rfl)) | ((first | apply yieldP | apply yieldL); (· (simp only [List.getElem?_toArray, List.getElem?_cons_succ, List.getElem?_cons_zero]; try rfl)); (· rfl); (· (intros; go_simp; try with_reducible rfl)))); (· (simp only [Act.put, List.setIfInBounds_toArray, List.set_cons_zero, List.set_cons_succ]; try rfl)))
      exact rfl
    refine wpAnyM_done (by kernel_rfl) ?_ _
    go_wp2_with fail
    refine HFL.out.mono ?_
    rintro e w2 ⟨rfl, hu2⟩
    have H2 := Lib.hid ((HA.out.drew.keep hu2).pick 2 rfl rfl)
    clear hu2 HFL o1 hm1 hk hkd
    have r0 := cell_of H2.out.blk 0 (v := .int .i64 0) rfl
    have g0 := frz_of H2.out.blk 0
    have r1 := cell_of H2.out.blk 1 (v := .string ⟨#[]⟩) rfl
    have g1 := frz_of H2.out.blk 1
    have r2 := cell_of H2.out.blk 2 (v := .string ⟨#[]⟩) rfl
    have g2 := frz_of H2.out.blk 2
    have r3 := cell_of H2.out.blk 3 (v := .slice none 0 0) rfl
    have g3 := frz_of H2.out.blk 3
    have r4 := cell_of H2.out.blk 4 (v := .int .i64 0) rfl
    have g4 := frz_of H2.out.blk 4
    have r5 := cell_of H2.out.blk 5 (v := .int .i64 0) rfl
    have g5 := frz_of H2.out.blk 5
    have r6 := cell_of H2.out.blk 6 (v := .int .i64 0) rfl
    have g6 := frz_of H2.out.blk 6
    have r7 := cell_of H2.out.blk 7 (v := .int .i64 0) rfl
    have g7 := frz_of H2.out.blk 7
    have r8 := cell_of H2.out.blk 8 (v := .int .i64 0) rfl
    have g8 := frz_of H2.out.blk 8
    have r9 := cell_of H2.out.blk 9 (v := .int .i64 0) rfl
    have g9 := frz_of H2.out.blk 9
    have r10 := cell_of H2.out.blk 10 (v := .int .i64 0) rfl
    have g10 := frz_of H2.out.blk 10
    have HF := Lib.hid (H2.out.setAll [.int .i64 4, .string ⟨#[]⟩, .string ⟨#[]⟩, .slice none 0 0, .int .i64 0, .int .i64 0, .int .i64 0, .int .i64 0, .int .i64 0, .int .i64 0, .int .i64 0] rfl)
    go_wp2_with fail
    refine bodyPost_ret (ret_cell rfl _ rfl HF.out.blk Tryz.underlying33 (by kernel_rfl)) rfl ?_
    have hS := (HF.out.drop.pick 2 rfl rfl).drop
    rw [HC.out]
    exact ⟨.slice none 0 0, (1, .slice none 0 0, []) :: P, rfl, fun q hq => List.mem_cons_of_mem _ hq, List.mem_cons_self .., (tree_mono ((hS.poolNil 1).perm (List.Perm.swap _ _ _)) (P' := (1, .slice none 0 0, []) :: P) (fun q hq => List.mem_cons_of_mem _ hq)).perm (List.Perm.swap _ _ _)⟩
  | some n =>
    obtain ⟨x, nv, hnv, hb, hk0⟩ := hso n hlk
    have hkd := hk0 wA.drew rfl
    have HNC := Lib.hid (node_cells (W := wA.drew) hb)
    obtain ⟨n0, n1, n2, n3, n4, n5, n6, n7, n8, n9⟩ := HNC.out
    have HC := Lib.hid (show (⟨0, path, if kind == 5 then n.data else ⟨#[]⟩, if kind == 7 then n.names else [], n.st⟩ : ResS) = rr by rw [← HR.out, hlk])
    have HOK := Lib.hid (hok _ ((look_mem HRI.out).1 hlk))
    have HNV := Lib.hid hnv
    have HBN := Lib.hid hb
    clear hlk HR hno hso hk0 hnv hb
    go_enter Tryz.func58, Tryz.ntmps58
    go_wp2_with fail
    rw [← HWA.out]
    refine wp_region_M (fun W => W.cell? ⟨t, 1, none⟩ = some (.map (some m)) ∧ W.cell? ⟨w.heap.size, 1, none⟩ = some (.string path) ∧ (Instr.lookup 79 (.map (some m)) (.string path) false).run Tryz.prog W = .ok (.pointer (some ⟨x, 0, none⟩)) W) 8 (by kernel_rfl) ?_
    refine wpAnyM_take (by kernel_rfl) (by intro c a d v w h; cases d <;> exact h) [(0, false), (1, false), (2, false), (3, true), (4, false), (5, true), (6, true), (7, false)] (fuel := 0) (by kernel_rfl) ?_
    apply Exists.intro; refine ⟨?_, ⟨hm1, o1, hkd⟩, ?_⟩
    · iterate 8 ((first | (apply yieldN; (· (simp only [List.getElem?_toArray, List.getElem?_cons_succ, List.getElem?_cons_zero]; try rfl)); (· rfl)) | ((first | apply yieldP | apply yieldL); (· (simp only [List.getElem?_toArray, List.getElem?_cons_succ, List.getElem?_cons_zero]; try rfl)); (· rfl); (· (intros; go_simp; try with_reducible rfl)))); (· (simp only [Act.put, List.setIfInBounds_toArray, List.set_cons_zero, List.set_cons_succ]; try rfl)))
      exact rfl
    refine wpAnyM_done (by kernel_rfl) ?_ _
    go_wp2_with fail
    refine wp_region_M (fun W => W.cell? ⟨w.heap.size, 1, none⟩ = some (.string path) ∧ W.cell? ⟨x, 0, none⟩ = some (.int .i64 n.made) ∧ W.cell? ⟨x, 1, none⟩ = some (.int .i64 n.changed) ∧ W.cell? ⟨x, 2, none⟩ = some (.int .i64 n.ver) ∧ W.cell? ⟨x, 3, none⟩ = some (.int .i64 n.kids) ∧ W.cell? ⟨x, 4, none⟩ = some (.int .i64 n.owner) ∧ W.cell? ⟨x, 5, none⟩ = some (.int .i64 (n.data.size : Nat)) ∧ W.cell? ⟨x, 6, none⟩ = some (.int .i64 (n.names.length : Nat))) 8 (by kernel_rfl) ?_
    refine wpAnyM_take (by kernel_rfl) (by intro c a d v w h; cases d <;> exact h) [(0, false), (1, true), (2, false), (3, false), (4, false), (5, true), (6, false)] (fuel := 2) (by kernel_rfl) ?_
    apply Exists.intro; refine ⟨?_, ⟨o1, n0, n1, n2, n3, n4, n5, n6⟩, ?_⟩
    · iterate 7 ((first | (apply yieldN; (· (simp only [List.getElem?_toArray, List.getElem?_cons_succ, List.getElem?_cons_zero]; try rfl)); (· rfl)) | ((first | apply yieldP | apply yieldL); (· (simp only [List.getElem?_toArray, List.getElem?_cons_succ, List.getElem?_cons_zero]; try rfl)); (· rfl); (· (intros; go_simp; try with_reducible rfl)))); (· (simp only [Act.put, List.setIfInBounds_toArray, List.set_cons_zero, List.set_cons_succ]; try rfl)))
      exact rfl
    refine wpAnyM_one (fuel := 1) (i := 7) (by kernel_rfl) (by rfl) (fun K hK => ?_)    -- alloc
    go_wp2_with fail
    have hu6 := ((Upd.alloc0 wA (.cells #[.int .i64 0, .string ⟨#[]⟩, .string ⟨#[]⟩, .slice none 0 0, .int .i64 0, .int .i64 0, .int .i64 0, .int .i64 0, .int .i64 0, .int .i64 0, .int .i64 0] 33) []).drew).drew
    have h6 := ((HA.out.newCell (.cells #[.int .i64 0, .string ⟨#[]⟩, .string ⟨#[]⟩, .slice none 0 0, .int .i64 0, .int .i64 0, .int .i64 0, .int .i64 0, .int .i64 0, .int .i64 0, .int .i64 0] 33)).drew).drew
    obtain ⟨b6, hb6⟩ : ∃ b6, b6 = wA.heap.size := ⟨_, rfl⟩
    obtain ⟨w6, hw6⟩ : ∃ w6, w6 = ((wA.alloc (.cells #[.int .i64 0, .string ⟨#[]⟩, .string ⟨#[]⟩, .slice none 0 0, .int .i64 0, .int .i64 0, .int .i64 0, .int .i64 0, .int .i64 0, .int .i64 0, .int .i64 0] 33)).drew).drew := ⟨_, rfl⟩
    have HLT := Lib.hid (show x < b6 by rw [hb6]; exact lt_of_heap HBN.out)
    have HLT10 := Lib.hid (show w.heap.size + 1 < b6 by rw [hb6]; exact lt_of_heap (HA.out.block (b := w.heap.size + 1) (o := .cells #[.int .i64 0, .string ⟨#[]⟩, .string ⟨#[]⟩, .slice none 0 0, .int .i64 0, .int .i64 0, .int .i64 0, .int .i64 0, .int .i64 0, .int .i64 0, .int .i64 0] 33 (0, 0)) (by simp)))
    have HSZ := Lib.hid (show b6 < w6.heap.size by rw [hw6, hb6]; show _ < (wA.alloc _).heap.size; simp)
    rw [← hw6] at hu6 h6 ⊢
    rw [← hb6] at h6 ⊢
    refine hK _ _ ⟨upd_cell hu6 o1, upd_cell hu6 n0, upd_cell hu6 n1, upd_cell hu6 n2, upd_cell hu6 n3, upd_cell hu6 n4, upd_cell hu6 n5, upd_cell hu6 n6⟩ ?_
    clear hK
    have c0 := upd_cell hu6 (cell_of HE3.out 0 (v := .int .i64 kind) rfl)
    have c7 := upd_cell hu6 n7
    have c9 := upd_cell hu6 n9
    have H6 := Lib.hid h6
    clear hw6 hb6 hu6 h6 hkd hm1 o1 n0 n1 n2 n3 n4 n5 n6 n7 n8 n9 HNC HBN
    have r0 := cell_of H6.out.blk 0 (v := .int .i64 0) rfl
    have g0 := frz_of H6.out.blk 0
    have r1 := cell_of H6.out.blk 1 (v := .string ⟨#[]⟩) rfl
    have g1 := frz_of H6.out.blk 1
    have r2 := cell_of H6.out.blk 2 (v := .string ⟨#[]⟩) rfl
    have g2 := frz_of H6.out.blk 2
    have r3 := cell_of H6.out.blk 3 (v := .slice none 0 0) rfl
    have g3 := frz_of H6.out.blk 3
    have r4 := cell_of H6.out.blk 4 (v := .int .i64 0) rfl
    have g4 := frz_of H6.out.blk 4
    have r5 := cell_of H6.out.blk 5 (v := .int .i64 0) rfl
    have g5 := frz_of H6.out.blk 5
    have r6 := cell_of H6.out.blk 6 (v := .int .i64 0) rfl
    have g6 := frz_of H6.out.blk 6
    have r7 := cell_of H6.out.blk 7 (v := .int .i64 0) rfl
    have g7 := frz_of H6.out.blk 7
    have r8 := cell_of H6.out.blk 8 (v := .int .i64 0) rfl
    have g8 := frz_of H6.out.blk 8
    have r9 := cell_of H6.out.blk 9 (v := .int .i64 0) rfl
    have g9 := frz_of H6.out.blk 9
    have r10 := cell_of H6.out.blk 10 (v := .int .i64 0) rfl
    have g10 := frz_of H6.out.blk 10
    have H7 := Lib.hid (H6.out.setAll [.int .i64 0, .string path, .string ⟨#[]⟩, .slice none 0 0, .int .i64 n.made, .int .i64 n.changed, .int .i64 n.ver, .int .i64 n.kids, .int .i64 n.owner, .int .i64 (n.data.size : Nat), .int .i64 (n.names.length : Nat)] rfl)
    have HU7 := Lib.hid (upd_setCells w6 b6 0 [.int .i64 0, .string path, .string ⟨#[]⟩, .slice none 0 0, .int .i64 n.made, .int .i64 n.changed, .int .i64 n.ver, .int .i64 n.kids, .int .i64 n.owner, .int .i64 (n.data.size : Nat), .int .i64 (n.names.length : Nat)])
    refine wpAnyM_of_any _ _ _ _ (by decide) ?_
    refine wpAny_list [8] (fuel := 0) (by kernel_rfl) ?_
    simp only [List.filterMap_cons, List.filterMap_nil, List.getElem?_toArray, List.getElem?_cons_succ, List.getElem?_cons_zero]
    go_upto_region 5 with fail
    go_name_world w7 hw7
    have H7 := Lib.hid (show Sep w0 w7 _ rows from by rw [← hw7]; exact H7.out)
    have HU7 := Lib.hid (show Upd w6 w7 [b6] [b6] from by rw [← hw7]; exact HU7.out)
    have c7 := (World.cell?_of_block (w := w6) (w' := w7) (a := ⟨x, 7, none⟩) (HU7.out.keep x (Nat.lt_trans HLT.out HSZ.out) (by have := HLT.out; simp; omega))).trans c7
    have c9 := (World.cell?_of_block (w := w6) (w' := w7) (a := ⟨x, 9, none⟩) (HU7.out.keep x (Nat.lt_trans HLT.out HSZ.out) (by have := HLT.out; simp; omega))).trans c9
    clear hw7 c0 r0 r1 r2 r3 r4 r5 r6 r7 r8 r9 r10 g0 g1 g2 g3 g4 g5 g6 g7 g8 g9 g10
    have e3 := H7.out.block (b := w.heap.size) (o := .cells #[.int .i64 kind, .string path, .string data, .int .i64 ver, .int .i64 flags] 36 (0, 0)) (by simp)
    have c0 := cell_of e3 0 (v := .int .i64 kind) rfl
    clear e3
    have r0 := cell_of H7.out.blk 0 (v := .int .i64 0) rfl
    have r1 := cell_of H7.out.blk 1 (v := .string path) rfl
    have r2 := cell_of H7.out.blk 2 (v := .string ⟨#[]⟩) rfl
    have r3 := cell_of H7.out.blk 3 (v := .slice none 0 0) rfl
    have r4 := cell_of H7.out.blk 4 (v := .int .i64 n.made) rfl
    have r5 := cell_of H7.out.blk 5 (v := .int .i64 n.changed) rfl
    have r6 := cell_of H7.out.blk 6 (v := .int .i64 n.ver) rfl
    have r7 := cell_of H7.out.blk 7 (v := .int .i64 n.kids) rfl
    have r8 := cell_of H7.out.blk 8 (v := .int .i64 n.owner) rfl
    have r9 := cell_of H7.out.blk 9 (v := .int .i64 (n.data.size : Nat)) rfl
    have r10 := cell_of H7.out.blk 10 (v := .int .i64 (n.names.length : Nat)) rfl
    by_cases hk5 : kind = 5
    · subst hk5
      have g2 := frz_of H7.out.blk 2
      have HX := H7
      have HY := Lib.hid (H7.out.set 2 (.string n.data))
      have HBT := (HX.out.pick 3 rfl rfl).blk
      have hne1 : w.heap.size + 1 ≠ b6 := by have := HLT10.out; omega
      have hne2 : b6 ≠ w.heap.size + 1 := by have := HLT10.out; omega
      have s0 := cell_of HBT 0 (v := .int .i64 0) rfl
      have t0 := frz_of HBT 0
      have s1 := cell_of HBT 1 (v := .string ⟨#[]⟩) rfl
      have t1 := frz_of HBT 1
      have s2 := cell_of HBT 2 (v := .string ⟨#[]⟩) rfl
      have t2 := frz_of HBT 2
      have s3 := cell_of HBT 3 (v := .slice none 0 0) rfl
      have t3 := frz_of HBT 3
      have s4 := cell_of HBT 4 (v := .int .i64 0) rfl
      have t4 := frz_of HBT 4
      have s5 := cell_of HBT 5 (v := .int .i64 0) rfl
      have t5 := frz_of HBT 5
      have s6 := cell_of HBT 6 (v := .int .i64 0) rfl
      have t6 := frz_of HBT 6
      have s7 := cell_of HBT 7 (v := .int .i64 0) rfl
      have t7 := frz_of HBT 7
      have s8 := cell_of HBT 8 (v := .int .i64 0) rfl
      have t8 := frz_of HBT 8
      have s9 := cell_of HBT 9 (v := .int .i64 0) rfl
      have t9 := frz_of HBT 9
      have s10 := cell_of HBT 10 (v := .int .i64 0) rfl
      have t10 := frz_of HBT 10
      have HF := Lib.hid ((HY.out.pick 3 rfl rfl).setAll [.int .i64 0, .string path, .string n.data, (.slice none 0 0), .int .i64 n.made, .int .i64 n.changed, .int .i64 n.ver, .int .i64 n.kids, .int .i64 n.owner, .int .i64 (n.data.size : Nat), .int .i64 (n.names.length : Nat)] rfl)
      clear HBT
      go_wp2_with fail
      refine bodyPost_ret (ret_cell rfl _ rfl HF.out.blk Tryz.underlying33 (by kernel_rfl)) rfl ?_
      have hS := (HF.out.drop.drop.pick 2 rfl rfl).drop
      rw [← HC.out]
      exact ⟨.slice none 0 0, (1, .slice none 0 0, []) :: P, rfl, fun q hq => List.mem_cons_of_mem _ hq, List.mem_cons_self .., (tree_mono ((hS.poolNil 1).perm (List.Perm.swap _ _ _)) (P' := (1, .slice none 0 0, []) :: P) (fun q hq => List.mem_cons_of_mem _ hq)).perm (List.Perm.swap _ _ _)⟩
    by_cases hk7 : kind = 7
    · subst hk7
      have HC := Lib.hid (show (⟨0, path, ⟨#[]⟩, n.names, n.st⟩ : ResS) = rr from HC.out)
      obtain ⟨E, hE⟩ := (H7.out.pick 1 rfl rfl).poolGet HNV.out
      obtain ⟨na, nn, nc, rfl, -⟩ := id hE
      have HCL := Lib.hid (cloneS_any _ n.names E w7 hE (by have := HOK.out.few; omega))
      clear hE
      go_wp2_with fail
      refine HCL.out.mono ?_
      rintro e w8 ⟨v2, D2, rfl, ho2, hu2⟩
      obtain ⟨a2, n2, k2, rfl, -⟩ := id ho2
      have h8 := ((((H7.out.addRow ho2 hu2).pick 2 rfl rfl).perm (List.Perm.swap _ _ _)).poolRow).pick 2 rfl rfl
      have HX := Lib.hid ((tree_mono h8 (P' := (1, .slice a2 n2 k2, n.names.map sv) :: P) (fun q hq => List.mem_cons_of_mem _ hq)).perm ((List.Perm.cons _ (List.Perm.swap _ _ _)).trans (List.perm_middle (l₁ := [_, _])).symm))
      clear r0 r1 r2 r3 r4 r5 r6 r7 r8 r9 r10 c0 c7 c9 h8 ho2 hu2 HCL
      have r0 := cell_of HX.out.blk 0 (v := .int .i64 0) rfl
      have r1 := cell_of HX.out.blk 1 (v := .string path) rfl
      have r2 := cell_of HX.out.blk 2 (v := .string ⟨#[]⟩) rfl
      have r3 := cell_of HX.out.blk 3 (v := .slice none 0 0) rfl
      have r4 := cell_of HX.out.blk 4 (v := .int .i64 n.made) rfl
      have r5 := cell_of HX.out.blk 5 (v := .int .i64 n.changed) rfl
      have r6 := cell_of HX.out.blk 6 (v := .int .i64 n.ver) rfl
      have r7 := cell_of HX.out.blk 7 (v := .int .i64 n.kids) rfl
      have r8 := cell_of HX.out.blk 8 (v := .int .i64 n.owner) rfl
      have r9 := cell_of HX.out.blk 9 (v := .int .i64 (n.data.size : Nat)) rfl
      have r10 := cell_of HX.out.blk 10 (v := .int .i64 (n.names.length : Nat)) rfl
      have g3 := frz_of HX.out.blk 3
      have HY := Lib.hid (HX.out.set 3 (.slice a2 n2 k2))
      have HBT := (HX.out.pick 3 rfl rfl).blk
      have hne1 : w.heap.size + 1 ≠ b6 := by have := HLT10.out; omega
      have hne2 : b6 ≠ w.heap.size + 1 := by have := HLT10.out; omega
      have s0 := cell_of HBT 0 (v := .int .i64 0) rfl
      have t0 := frz_of HBT 0
      have s1 := cell_of HBT 1 (v := .string ⟨#[]⟩) rfl
      have t1 := frz_of HBT 1
      have s2 := cell_of HBT 2 (v := .string ⟨#[]⟩) rfl
      have t2 := frz_of HBT 2
      have s3 := cell_of HBT 3 (v := .slice none 0 0) rfl
      have t3 := frz_of HBT 3
      have s4 := cell_of HBT 4 (v := .int .i64 0) rfl
      have t4 := frz_of HBT 4
      have s5 := cell_of HBT 5 (v := .int .i64 0) rfl
      have t5 := frz_of HBT 5
      have s6 := cell_of HBT 6 (v := .int .i64 0) rfl
      have t6 := frz_of HBT 6
      have s7 := cell_of HBT 7 (v := .int .i64 0) rfl
      have t7 := frz_of HBT 7
      have s8 := cell_of HBT 8 (v := .int .i64 0) rfl
      have t8 := frz_of HBT 8
      have s9 := cell_of HBT 9 (v := .int .i64 0) rfl
      have t9 := frz_of HBT 9
      have s10 := cell_of HBT 10 (v := .int .i64 0) rfl
      have t10 := frz_of HBT 10
      have HF := Lib.hid ((HY.out.pick 3 rfl rfl).setAll [.int .i64 0, .string path, .string ⟨#[]⟩, (.slice a2 n2 k2), .int .i64 n.made, .int .i64 n.changed, .int .i64 n.ver, .int .i64 n.kids, .int .i64 n.owner, .int .i64 (n.data.size : Nat), .int .i64 (n.names.length : Nat)] rfl)
      clear HBT
      go_wp2_with fail
      refine bodyPost_ret (ret_cell rfl _ rfl HF.out.blk Tryz.underlying33 (by kernel_rfl)) rfl ?_
      have hS := (HF.out.drop.drop.pick 2 rfl rfl).drop
      rw [← HC.out]
      exact ⟨.slice a2 n2 k2, _, rfl, fun q hq => List.mem_cons_of_mem _ hq, List.mem_cons_self .., hS⟩
    have q5 : (kind == 5) = false := by rw [beq_eq_false_iff_ne]; exact hk5
    have q7 : (kind == 7) = false := by rw [beq_eq_false_iff_ne]; exact hk7
    have HX := H7
    have HY := H7
    have HC := Lib.hid (show (⟨0, path, ⟨#[]⟩, [], n.st⟩ : ResS) = rr by have := HC.out; rw [q5, q7] at this; exact this)
    have HBT := (HX.out.pick 3 rfl rfl).blk
    have hne1 : w.heap.size + 1 ≠ b6 := by have := HLT10.out; omega
    have hne2 : b6 ≠ w.heap.size + 1 := by have := HLT10.out; omega
    have s0 := cell_of HBT 0 (v := .int .i64 0) rfl
    have t0 := frz_of HBT 0
    have s1 := cell_of HBT 1 (v := .string ⟨#[]⟩) rfl
    have t1 := frz_of HBT 1
    have s2 := cell_of HBT 2 (v := .string ⟨#[]⟩) rfl
    have t2 := frz_of HBT 2
    have s3 := cell_of HBT 3 (v := .slice none 0 0) rfl
    have t3 := frz_of HBT 3
    have s4 := cell_of HBT 4 (v := .int .i64 0) rfl
    have t4 := frz_of HBT 4
    have s5 := cell_of HBT 5 (v := .int .i64 0) rfl
    have t5 := frz_of HBT 5
    have s6 := cell_of HBT 6 (v := .int .i64 0) rfl
    have t6 := frz_of HBT 6
    have s7 := cell_of HBT 7 (v := .int .i64 0) rfl
    have t7 := frz_of HBT 7
    have s8 := cell_of HBT 8 (v := .int .i64 0) rfl
    have t8 := frz_of HBT 8
    have s9 := cell_of HBT 9 (v := .int .i64 0) rfl
    have t9 := frz_of HBT 9
    have s10 := cell_of HBT 10 (v := .int .i64 0) rfl
    have t10 := frz_of HBT 10
    have HF := Lib.hid ((HY.out.pick 3 rfl rfl).setAll [.int .i64 0, .string path, .string ⟨#[]⟩, (.slice none 0 0), .int .i64 n.made, .int .i64 n.changed, .int .i64 n.ver, .int .i64 n.kids, .int .i64 n.owner, .int .i64 (n.data.size : Nat), .int .i64 (n.names.length : Nat)] rfl)
    clear HBT
    go_wp2_with fail
    refine bodyPost_ret (ret_cell rfl _ rfl HF.out.blk Tryz.underlying33 (by kernel_rfl)) rfl ?_
    have hS := (HF.out.drop.drop.pick 2 rfl rfl).drop
    rw [← HC.out]
    exact ⟨.slice none 0 0, (1, .slice none 0 0, []) :: P, rfl, fun q hq => List.mem_cons_of_mem _ hq, List.mem_cons_self .., (tree_mono ((hS.poolNil 1).perm (List.Perm.swap _ _ _)) (P' := (1, .slice none 0 0, []) :: P) (fun q hq => List.mem_cons_of_mem _ hq)).perm (List.Perm.swap _ _ _)⟩
end
end Go.Proofs.YtjeaoopamebgjaaGreatDoor

/-
  A tree, opened: its cell, its map, one node, all the others as one thing; and closed again.
-/
namespace Go.Av
open Go.RowKit
/-- Some things as one. -/
def ThL (N : List Thing) : Thing := Bun (fun L => L = N)
section
variable {w0 w : World} {R N : List Thing} {rows : List (Value × Bs)}
theorem Sep.opensL (h : Sep w0 w (ThL N :: R) rows) : Sep w0 w (N ++ R) rows := by
  obtain ⟨L, hL, h'⟩ := h.opens
  subst hL
  exact h'
theorem Sep.shutL (h : Sep w0 w (N ++ R) rows) : Sep w0 w (ThL N :: R) rows := Sep.shut (O := fun L => L = N) rfl h
end
theorem mid_perm (A N R : List Thing) : (A ++ (N ++ R)).Perm (N ++ (A ++ R)) := by
  rw [← List.append_assoc, ← List.append_assoc]
  exact List.perm_append_comm.append_right R
theorem setT_same {p : Bs} {n : NodeS} {l : NoL} (hn : (l.map (·.1)).Nodup) (h : lookT p l = some n) : setT p n l = l := by
  unfold setT
  conv => rhs; rw [← List.map_id l]
  apply List.map_congr_left
  intro e he
  by_cases hp : e.1 = p
  · rw [if_pos hp]
    have h1 : (p, e.2) ∈ l := by rw [← hp]; exact he
    have h2 := (look_mem hn).2 h1
    rw [h] at h2
    injection h2 with h2
    subst h2
    rfl
  · rw [if_neg hp]; rfl
end Go.Av
namespace Go.Proofs.YtjeaoopamebgjaaGreatDoor
open Go.RowKit Go.Av
section
variable {w0 w : World} {t : Nat} {S : TreeS} {P P' : List PRow} {R : List Thing} {rows : List (Value × Bs)}
abbrev thTree (t m : Nat) (room : Int) : Thing := ThCell t (.cells #[.int .i64 room, .map (some m)] 81 (0, 0))
abbrev thNode (x : Nat) (n : NodeS) (nv : Value) : Thing := ThCell x (.cells (n.cells nv) 51 (0, 0))
/-- A tree opened at one path's node. -/
theorem tree_at (h : Sep w0 w (ThTree t S P :: R) rows) {p : Bs} {n : NodeS} (hl : lookT p S.l = some n) :
    ∃ m x nv kvs N, (1, nv, n.names.map sv) ∈ P ∧ (sv p, Value.pointer (some ⟨x, 0, none⟩)) ∈ kvs ∧ Sep w0 w (thNode x n nv :: thTree t m S.room :: ThMap .string m kvs :: ThL N :: R) rows ∧
      ∀ w' n' nv' P' R', (∀ r ∈ P, r ∈ P') → (1, nv', n'.names.map sv) ∈ P' → Sep w0 w' (thNode x n' nv' :: thTree t m S.room :: ThMap .string m kvs :: ThL N :: R') rows → Sep w0 w' (ThTree t { S with l := setT p n' S.l } P' :: R') rows := by
  obtain ⟨L, ⟨m, gs, rfl, h1, h2, h3⟩, hS⟩ := h.opens
  have hm := (look_mem (rise_nodup h2)).1 hl
  obtain ⟨g, hg, he⟩ := List.mem_map.1 (h1.mem_iff.2 hm)
  obtain ⟨l1, l2, rfl⟩ := List.append_of_mem hg
  obtain ⟨hk1, hk2⟩ := Prod.mk.inj he
  have hk1 : g.key = p := hk1
  have hk2 : g.n = n := hk2
  subst hk1 hk2
  have hnd := keys_nodup h1 h2
  have e : ∀ (g : NodeG) (R : List Thing), (NodeG.th g :: thTree t m S.room :: ThMap .string m ((l1 ++ g :: l2).map NodeG.kv) :: ((l1 ++ l2).map NodeG.th ++ R)).Perm (trTh t m S.room (l1 ++ g :: l2) ++ R) := fun g R => by
    unfold trTh
    exact (perm_out [thTree t m S.room, ThMap .string m ((l1 ++ g :: l2).map NodeG.kv)] l1 l2 g R).symm
  refine ⟨m, g.blk, g.nv, (l1 ++ g :: l2).map NodeG.kv, (l1 ++ l2).map NodeG.th, h3 g hg, List.mem_map.2 ⟨g, hg, rfl⟩, ?_, fun w' n' nv' P' R' hP hnv hS' => ?_⟩
  · have h5 := hS.perm (e g R).symm
    exact (Sep.shutL (N := (l1 ++ l2).map NodeG.th) (h5.perm (mid_perm [NodeG.th g, thTree t m S.room, ThMap .string m ((l1 ++ g :: l2).map NodeG.kv)] _ R))).perm (List.perm_middle (l₁ := [_, _, _])).symm
  · refine Sep.shut (O := TrO t { S with l := setT g.key n' S.l } P') (L := trTh t m S.room (l1 ++ ⟨g.blk, g.key, n', nv'⟩ :: l2)) ⟨m, _, rfl, ?_, setT_rise h2, fun x hx => ?_⟩ ?_
    · rw [set_ent (g := g) (g' := ⟨g.blk, g.key, n', nv'⟩) rfl hnd]
      exact h1.map _
    · rcases List.mem_append.1 hx with hx | hx
      · exact hP _ (h3 x (by simp [hx]))
      · rcases List.mem_cons.1 hx with rfl | hx
        · exact hnv
        · exact hP _ (h3 x (by simp [hx]))
    · have h6 := (hS'.perm (List.perm_middle (l₁ := [_, _, _]))).opensL
      have h7 : Sep w0 w' (thNode g.blk n' nv' :: thTree t m S.room :: ThMap .string m ((l1 ++ g :: l2).map NodeG.kv) :: ((l1 ++ l2).map NodeG.th ++ R')) rows := h6.perm (mid_perm [_, _, _] _ R').symm
      have hkv : (l1 ++ (⟨g.blk, g.key, n', nv'⟩ : NodeG) :: l2).map NodeG.kv = (l1 ++ g :: l2).map NodeG.kv := by simp [NodeG.kv]
      have h9 := e ⟨g.blk, g.key, n', nv'⟩ R'
      rw [hkv] at h9
      exact h7.perm h9
/-- A tree opened, where a path has no node. -/
theorem tree_off (h : Sep w0 w (ThTree t S P :: R) rows) {p : Bs} (hl : lookT p S.l = none) :
    ∃ m kvs N, (∀ e ∈ kvs, e.1 ≠ sv p) ∧ Sep w0 w (thTree t m S.room :: ThMap .string m kvs :: ThL N :: R) rows ∧
      ∀ w' P' R', (∀ r ∈ P, r ∈ P') → Sep w0 w' (thTree t m S.room :: ThMap .string m kvs :: ThL N :: R') rows → Sep w0 w' (ThTree t S P' :: R') rows := by
  obtain ⟨L, ⟨m, gs, rfl, h1, h2, h3⟩, hS⟩ := h.opens
  refine ⟨m, gs.map NodeG.kv, gs.map NodeG.th, fun q hq e => ?_, ?_, fun w' P' R' hP hS' => ?_⟩
  · obtain ⟨g, hg, rfl⟩ := List.mem_map.1 hq
    exact look_not.1 hl g.ent (h1.mem_iff.1 (List.mem_map_of_mem hg)) (sv_inj e)
  · refine (Sep.shutL (N := gs.map NodeG.th) (R := thTree t m S.room :: ThMap .string m (gs.map NodeG.kv) :: R) (hS.perm ?_)).perm (List.perm_middle (l₁ := [_, _])).symm
    exact mid_perm [_, _] _ R
  · refine Sep.shut (O := TrO t S P') (L := trTh t m S.room gs) ⟨m, gs, rfl, h1, h2, fun g hg => hP _ (h3 g hg)⟩ ?_
    have h6 := (hS'.perm (List.perm_middle (l₁ := [_, _]))).opensL
    exact h6.perm (mid_perm [_, _] _ R').symm
/-- What a look-up tells. -/
theorem look_hit {Ts : List Thing} {m x : Nat} {kvs : List (Value × Value)} (H : Hid (Sep w0 w Ts rows)) (s : ByteArray) (hm : ThMap .string m kvs ∈ Ts) (hk : (sv s.data.toList, Value.pointer (some ⟨x, 0, none⟩)) ∈ kvs) :
    (Instr.lookup 79 (.map (some m)) (.string s) false).run Tryz.prog w = .ok (.pointer (some ⟨x, 0, none⟩)) w := by
  obtain ⟨E, hM, -⟩ := H.out.has hm
  exact mp_look hM Tryz.underlying79 Tryz.underlying9 (key := .string s) trivial hk false
theorem look_miss {Ts : List Thing} {m : Nat} {kvs : List (Value × Value)} (H : Hid (Sep w0 w Ts rows)) (s : ByteArray) (hm : ThMap .string m kvs ∈ Ts) (hk : ∀ e ∈ kvs, e.1 ≠ sv s.data.toList) :
    (Instr.lookup 79 (.map (some m)) (.string s) false).run Tryz.prog w = .ok (.pointer none) w := by
  obtain ⟨E, hM, -⟩ := H.out.has hm
  exact mp_lookN hM Tryz.underlying79 Tryz.underlying9 (key := .string s) trivial hk (zeroNode _) false
/-- A key's value is another one. -/
theorem Sep.mapSet {m : Nat} {k1 k2 : List (Value × Value)} {key u v : Value} (h : Sep w0 w (ThMap .string m (k1 ++ (key, u) :: k2) :: R) rows) (hkey : MapKept.IsKey .string key) :
    ∃ w', (Instr.mapUpdate 79 (.map (some m)) key v).run Tryz.prog w = .ok () w' ∧ Sep w0 w' (ThMap .string m (k1 ++ (key, v) :: k2) :: R) rows := by
  obtain ⟨w', hrun, hM, hU⟩ := mp_old (P := Tryz.prog) (v := v) h.mapIs Tryz.underlying79 Tryz.underlying9 hkey
  exact ⟨w', hrun, h.mapTo hU hM⟩
end
end Go.Proofs.YtjeaoopamebgjaaGreatDoor

/-
  A tree: the walk of change .
-/
set_option linter.unusedSimpArgs false
namespace Go.Av
/-- A delete, a set, a check. -/
def changeT (S : TreeS) (o : OpS) (zxid : Int) : ResS × TreeS := match lookT o.p S.l with
  | none => (failS 4, S)
  | some n =>
    if wrongS o n = true then (failS 6, S)
    else if o.kind = 2 ∧ 0 < n.names.length then (failS 7, S)
    else if o.kind = 2 then (⟨0, o.path, ⟨#[]⟩, [], noSt⟩, { S with l := remT o.p S.l })
    else if o.kind = 3 then (⟨0, o.path, ⟨#[]⟩, [], (writeS n zxid o.data).st⟩, { S with l := setT o.p (writeS n zxid o.data) S.l })
    else (⟨0, o.path, ⟨#[]⟩, [], noSt⟩, S)
end Go.Av
namespace Go.Proofs.YtjeaoopamebgjaaGreatDoor
open Go.RowKit Go.Av
section
variable {w0 w : World} {t : Nat} {S : TreeS} {P P' : List PRow} {R : List Thing} {rows : List (Value × Bs)}
theorem res_nil {S' : TreeS} {r : ResS} (hr : r.names = []) (h : Sep w0 w (ThPool w0 P :: ThTree t S' P :: R) rows) : ResPost w0 t S' P R rows r (.returned (.agg (r.cells (.slice none 0 0)))) w :=
  ⟨.slice none 0 0, (1, .slice none 0 0, []) :: P, rfl, fun q hq => List.mem_cons_of_mem _ hq, by rw [hr]; exact List.mem_cons_self .., (tree_mono ((h.poolNil 1).perm (List.Perm.swap _ _ _)) (P' := (1, .slice none 0 0, []) :: P) (fun q hq => List.mem_cons_of_mem _ hq)).perm (List.Perm.swap _ _ _)⟩
set_option maxRecDepth 100000 in
set_option maxHeartbeats 4000000 in
theorem change_any (h : Sep w0 w (ThPool w0 P :: ThTree t S P :: R) rows) (hd : DoorN w0) (o : OpS) (hp : o.path.size ≤ 100000) (hdt : o.data.size ≤ 100000) (zxid : Int) (only : Bool) (hok : ∀ e ∈ S.l, NodeOk e.2) :
    Calls Tryz.prog 57 #[.pointer (some ⟨t, 0, none⟩), o.val, .int .i64 zxid, .bool only] w (ResPost w0 t (if only then S else (changeT S o zxid).2) P R rows (changeT S o zxid).1) := by
  have HND := Lib.hid (tree_rise (h.perm (List.Perm.swap _ _ _)))
  obtain ⟨kind, path, data, ver, flags⟩ := o
  unfold OpS.val
  dsimp only at hp hdt ⊢
  have hsw : Sep w0 w (ThTree t S P :: ThPool w0 P :: R) rows := h.perm (List.Perm.swap _ _ _)
  obtain ⟨rr, hrr⟩ : ∃ rr, changeT S ⟨kind, path, data, ver, flags⟩ zxid = rr := ⟨_, rfl⟩
  rw [hrr]
  obtain ⟨S', hS'⟩ : ∃ S', (if only = true then S else rr.2) = S' := ⟨_, rfl⟩
  rw [hS']
  have HS' := Lib.hid hS'
  clear hS' h
  cases hlk : lookT path.data.toList S.l with
  | none =>
    have HE := Lib.hid (show rr = (failS 4, S) by rw [← hrr]; unfold changeT OpS.p; simp only [hlk])
    obtain ⟨m, kvs, N, hk, hS, back⟩ := tree_off hsw hlk
    have HX := Lib.hid hS
    have HB := Lib.hid back
    have HK := Lib.hid hk
    clear hk hS back hlk hsw hrr
    go_enter Tryz.func57, Tryz.ntmps57
    go_wp2_with (first | (refine sWL ?_; simp only [Act.put, List.setIfInBounds_toArray, List.set_cons_zero, List.set_cons_succ, List.drop_zero, List.drop_succ_cons, List.take_succ_cons, List.take_zero, List.toList_toArray, NodeS.cells, OpS.cells, ResS.cells]) | (refine sWM ?_; simp only [Act.put, List.setIfInBounds_toArray, List.set_cons_zero, List.set_cons_succ]) | (refine sWS ?_; clear HX; intro w HX; simp only [Act.put, List.setIfInBounds_toArray, List.set_cons_zero, List.set_cons_succ, setMany, Nat.reduceAdd, NodeS.cells, OpS.cells, ResS.cells] at HX ⊢) | (refine sWT ?_; clear HX; intro w HX; simp only [Act.put, List.setIfInBounds_toArray, List.set_cons_zero, List.set_cons_succ, NodeS.cells, OpS.cells, ResS.cells] at HX ⊢) | (refine sWA ?_; clear HX; (first | (have hq := b9; clear hq; intro w b10 HX) | (have hq := b8; clear hq; intro w b9 HX) | (have hq := b7; clear hq; intro w b8 HX) | (have hq := b6; clear hq; intro w b7 HX) | (have hq := b5; clear hq; intro w b6 HX) | (have hq := b4; clear hq; intro w b5 HX) | (have hq := b3; clear hq; intro w b4 HX) | (have hq := b2; clear hq; intro w b3 HX) | (have hq := b; clear hq; intro w b2 HX) | intro w b HX); simp only [Act.put, List.setIfInBounds_toArray, List.set_cons_zero, List.set_cons_succ]) | (refine sWN ?_; clear HX; intro w mm HX; simp only [Act.put, List.setIfInBounds_toArray, List.set_cons_zero, List.set_cons_succ]) | (refine sWP ?_; clear HX; intro w av nv cv HX; simp only [Act.put, List.setIfInBounds_toArray, List.set_cons_zero, List.set_cons_succ]))
    refine wp_region_M (fun W => W = w.drew) 8 (by kernel_rfl) ?_
    replace HX := Lib.hid HX.out.drew
    generalize w.drew = w at HX ⊢
    have hkd := look_miss HX path (by (repeat (first | (with_reducible exact List.mem_cons_self ..) | (with_reducible apply List.mem_cons_of_mem)))) HK.out
    refine wpAnyM_take (by kernel_rfl) (by intro c a d v w h; cases d <;> exact h) [(0, false), (1, false), (2, false), (3, true), (4, false), (5, true), (6, true), (7, false)] (fuel := 0) (by kernel_rfl) ?_
    apply Exists.intro; refine ⟨?_, rfl, ?_⟩
    · iterate 8 (refine yD ?_)
      exact rfl
    refine wpAnyM_done (by kernel_rfl) ?_ _
    clear hkd
    go_wp2_with (first | (refine sWL ?_; simp only [Act.put, List.setIfInBounds_toArray, List.set_cons_zero, List.set_cons_succ, List.drop_zero, List.drop_succ_cons, List.take_succ_cons, List.take_zero, List.toList_toArray, NodeS.cells, OpS.cells, ResS.cells]) | (refine sWM ?_; simp only [Act.put, List.setIfInBounds_toArray, List.set_cons_zero, List.set_cons_succ]) | (refine sWS ?_; clear HX; intro w HX; simp only [Act.put, List.setIfInBounds_toArray, List.set_cons_zero, List.set_cons_succ, setMany, Nat.reduceAdd, NodeS.cells, OpS.cells, ResS.cells] at HX ⊢) | (refine sWT ?_; clear HX; intro w HX; simp only [Act.put, List.setIfInBounds_toArray, List.set_cons_zero, List.set_cons_succ, NodeS.cells, OpS.cells, ResS.cells] at HX ⊢) | (refine sWA ?_; clear HX; (first | (have hq := b9; clear hq; intro w b10 HX) | (have hq := b8; clear hq; intro w b9 HX) | (have hq := b7; clear hq; intro w b8 HX) | (have hq := b6; clear hq; intro w b7 HX) | (have hq := b5; clear hq; intro w b6 HX) | (have hq := b4; clear hq; intro w b5 HX) | (have hq := b3; clear hq; intro w b4 HX) | (have hq := b2; clear hq; intro w b3 HX) | (have hq := b; clear hq; intro w b2 HX) | intro w b HX); simp only [Act.put, List.setIfInBounds_toArray, List.set_cons_zero, List.set_cons_succ]) | (refine sWN ?_; clear HX; intro w mm HX; simp only [Act.put, List.setIfInBounds_toArray, List.set_cons_zero, List.set_cons_succ]) | (refine sWP ?_; clear HX; intro w av nv cv HX; simp only [Act.put, List.setIfInBounds_toArray, List.set_cons_zero, List.set_cons_succ]))
    refine (fail_any _ _).mono ?_
    rintro e w ⟨rfl, hu⟩
    replace HX := Lib.hid (HX.out.keep hu)
    clear hu
    simp only [ResS.cells, failS, noSt]
    go_wp2_with (first | (refine sWL ?_; simp only [Act.put, List.setIfInBounds_toArray, List.set_cons_zero, List.set_cons_succ, List.drop_zero, List.drop_succ_cons, List.take_succ_cons, List.take_zero, List.toList_toArray, NodeS.cells, OpS.cells, ResS.cells]) | (refine sWM ?_; simp only [Act.put, List.setIfInBounds_toArray, List.set_cons_zero, List.set_cons_succ]) | (refine sWS ?_; clear HX; intro w HX; simp only [Act.put, List.setIfInBounds_toArray, List.set_cons_zero, List.set_cons_succ, setMany, Nat.reduceAdd, NodeS.cells, OpS.cells, ResS.cells] at HX ⊢) | (refine sWT ?_; clear HX; intro w HX; simp only [Act.put, List.setIfInBounds_toArray, List.set_cons_zero, List.set_cons_succ, NodeS.cells, OpS.cells, ResS.cells] at HX ⊢) | (refine sWA ?_; clear HX; (first | (have hq := b9; clear hq; intro w b10 HX) | (have hq := b8; clear hq; intro w b9 HX) | (have hq := b7; clear hq; intro w b8 HX) | (have hq := b6; clear hq; intro w b7 HX) | (have hq := b5; clear hq; intro w b6 HX) | (have hq := b4; clear hq; intro w b5 HX) | (have hq := b3; clear hq; intro w b4 HX) | (have hq := b2; clear hq; intro w b3 HX) | (have hq := b; clear hq; intro w b2 HX) | intro w b HX); simp only [Act.put, List.setIfInBounds_toArray, List.set_cons_zero, List.set_cons_succ]) | (refine sWN ?_; clear HX; intro w mm HX; simp only [Act.put, List.setIfInBounds_toArray, List.set_cons_zero, List.set_cons_succ]) | (refine sWP ?_; clear HX; intro w av nv cv HX; simp only [Act.put, List.setIfInBounds_toArray, List.set_cons_zero, List.set_cons_succ]))
    refine sx_ret HX rfl rfl (by (repeat (first | (with_reducible exact List.mem_cons_self ..) | (with_reducible apply List.mem_cons_of_mem)))) (by kernel_rfl) ?_
    have h9 := (HB.out _ P _ (fun _ h => h) (HX.out.drop.drop)).perm (List.Perm.swap _ _ _)
    rw [← HS'.out, HE.out]
    refine res_nil rfl ?_
    cases only <;> exact h9
  | some n =>
    have HRX := Lib.hid (show (if wrongS ⟨kind, path, data, ver, flags⟩ n = true then (failS 6, S)
      else if kind = 2 ∧ 0 < n.names.length then (failS 7, S)
      else if kind = 2 then (⟨0, path, ⟨#[]⟩, [], noSt⟩, { S with l := remT path.data.toList S.l })
      else if kind = 3 then (⟨0, path, ⟨#[]⟩, [], (writeS n zxid data).st⟩, { S with l := setT path.data.toList (writeS n zxid data) S.l })
      else (⟨0, path, ⟨#[]⟩, [], noSt⟩, S)) = rr by rw [← hrr]; unfold changeT OpS.p; simp only [hlk])
    obtain ⟨m, x, nv, kvs, N, hnv, hk, hS, back⟩ := tree_at hsw hlk
    have HB := Lib.hid (show ∀ w' P' R', (∀ r ∈ P, r ∈ P') → Sep w0 w' (thNode x n nv :: thTree t m S.room :: ThMap .string m kvs :: ThL N :: R') rows → Sep w0 w' (ThTree t S P' :: R') rows from fun w' P' R' hP hh => by
      have := back w' n nv P' R' hP (hP _ hnv) hh
      rw [setT_same HND.out hlk] at this
      exact this)
    obtain ⟨E, hE⟩ := (hS.pick 4 rfl rfl).poolGet hnv
    obtain ⟨na, nn, nc, rfl, hnn, -⟩ := id hE
    rw [List.length_map, Nat.mul_one] at hnn
    subst hnn
    have HX := Lib.hid hS
    have HK := Lib.hid hk
    have HNV := Lib.hid hnv
    have HLK := Lib.hid hlk
    have HOK := Lib.hid (hok _ ((look_mem HND.out).1 hlk))
    obtain ⟨wr, hwr⟩ : ∃ z, wrongS ⟨kind, path, data, ver, flags⟩ n = z := ⟨_, rfl⟩
    rw [hwr] at HRX
    have HWR := Lib.hid hwr
    clear hk hS back hlk hsw hrr hnv hE hwr
    go_enter Tryz.func57, Tryz.ntmps57
    go_wp2_with (first | (refine sWL ?_; simp only [Act.put, List.setIfInBounds_toArray, List.set_cons_zero, List.set_cons_succ, List.drop_zero, List.drop_succ_cons, List.take_succ_cons, List.take_zero, List.toList_toArray, NodeS.cells, OpS.cells, ResS.cells]) | (refine sWM ?_; simp only [Act.put, List.setIfInBounds_toArray, List.set_cons_zero, List.set_cons_succ]) | (refine sWS ?_; clear HX; intro w HX; simp only [Act.put, List.setIfInBounds_toArray, List.set_cons_zero, List.set_cons_succ, setMany, Nat.reduceAdd, NodeS.cells, OpS.cells, ResS.cells] at HX ⊢) | (refine sWT ?_; clear HX; intro w HX; simp only [Act.put, List.setIfInBounds_toArray, List.set_cons_zero, List.set_cons_succ, NodeS.cells, OpS.cells, ResS.cells] at HX ⊢) | (refine sWA ?_; clear HX; (first | (have hq := b9; clear hq; intro w b10 HX) | (have hq := b8; clear hq; intro w b9 HX) | (have hq := b7; clear hq; intro w b8 HX) | (have hq := b6; clear hq; intro w b7 HX) | (have hq := b5; clear hq; intro w b6 HX) | (have hq := b4; clear hq; intro w b5 HX) | (have hq := b3; clear hq; intro w b4 HX) | (have hq := b2; clear hq; intro w b3 HX) | (have hq := b; clear hq; intro w b2 HX) | intro w b HX); simp only [Act.put, List.setIfInBounds_toArray, List.set_cons_zero, List.set_cons_succ]) | (refine sWN ?_; clear HX; intro w mm HX; simp only [Act.put, List.setIfInBounds_toArray, List.set_cons_zero, List.set_cons_succ]) | (refine sWP ?_; clear HX; intro w av nv cv HX; simp only [Act.put, List.setIfInBounds_toArray, List.set_cons_zero, List.set_cons_succ]))
    refine wp_region_M (fun W => W = w.drew) 8 (by kernel_rfl) ?_
    replace HX := Lib.hid HX.out.drew
    generalize w.drew = w at HX ⊢
    have hkd := look_hit HX path (by (repeat (first | (with_reducible exact List.mem_cons_self ..) | (with_reducible apply List.mem_cons_of_mem)))) HK.out
    refine wpAnyM_take (by kernel_rfl) (by intro c a d v w h; cases d <;> exact h) [(0, false), (1, false), (2, false), (3, true), (4, false), (5, true), (6, true), (7, false)] (fuel := 0) (by kernel_rfl) ?_
    apply Exists.intro; refine ⟨?_, rfl, ?_⟩
    · iterate 8 (refine yD ?_)
      exact rfl
    refine wpAnyM_done (by kernel_rfl) ?_ _
    clear hkd
    go_wp2_with (first | (refine sWL ?_; simp only [Act.put, List.setIfInBounds_toArray, List.set_cons_zero, List.set_cons_succ, List.drop_zero, List.drop_succ_cons, List.take_succ_cons, List.take_zero, List.toList_toArray, NodeS.cells, OpS.cells, ResS.cells]) | (refine sWM ?_; simp only [Act.put, List.setIfInBounds_toArray, List.set_cons_zero, List.set_cons_succ]) | (refine sWS ?_; clear HX; intro w HX; simp only [Act.put, List.setIfInBounds_toArray, List.set_cons_zero, List.set_cons_succ, setMany, Nat.reduceAdd, NodeS.cells, OpS.cells, ResS.cells] at HX ⊢) | (refine sWT ?_; clear HX; intro w HX; simp only [Act.put, List.setIfInBounds_toArray, List.set_cons_zero, List.set_cons_succ, NodeS.cells, OpS.cells, ResS.cells] at HX ⊢) | (refine sWA ?_; clear HX; (first | (have hq := b9; clear hq; intro w b10 HX) | (have hq := b8; clear hq; intro w b9 HX) | (have hq := b7; clear hq; intro w b8 HX) | (have hq := b6; clear hq; intro w b7 HX) | (have hq := b5; clear hq; intro w b6 HX) | (have hq := b4; clear hq; intro w b5 HX) | (have hq := b3; clear hq; intro w b4 HX) | (have hq := b2; clear hq; intro w b3 HX) | (have hq := b; clear hq; intro w b2 HX) | intro w b HX); simp only [Act.put, List.setIfInBounds_toArray, List.set_cons_zero, List.set_cons_succ]) | (refine sWN ?_; clear HX; intro w mm HX; simp only [Act.put, List.setIfInBounds_toArray, List.set_cons_zero, List.set_cons_succ]) | (refine sWP ?_; clear HX; intro w av nv cv HX; simp only [Act.put, List.setIfInBounds_toArray, List.set_cons_zero, List.set_cons_succ]))
    refine (wrong_any ⟨kind, path, data, ver, flags⟩ x n _ _ (HX.out.block (by (repeat (first | (with_reducible exact List.mem_cons_self ..) | (with_reducible apply List.mem_cons_of_mem)))))).mono ?_
    rintro e w ⟨rfl, hu⟩
    rw [HWR.out]
    replace HX := Lib.hid (HX.out.keep hu)
    clear hu
    cases wr with
    | true =>
      have HE := Lib.hid (show rr = (failS 6, S) from HRX.out.symm)
      go_wp2_with (first | (refine sWL ?_; simp only [Act.put, List.setIfInBounds_toArray, List.set_cons_zero, List.set_cons_succ, List.drop_zero, List.drop_succ_cons, List.take_succ_cons, List.take_zero, List.toList_toArray, NodeS.cells, OpS.cells, ResS.cells]) | (refine sWM ?_; simp only [Act.put, List.setIfInBounds_toArray, List.set_cons_zero, List.set_cons_succ]) | (refine sWS ?_; clear HX; intro w HX; simp only [Act.put, List.setIfInBounds_toArray, List.set_cons_zero, List.set_cons_succ, setMany, Nat.reduceAdd, NodeS.cells, OpS.cells, ResS.cells] at HX ⊢) | (refine sWT ?_; clear HX; intro w HX; simp only [Act.put, List.setIfInBounds_toArray, List.set_cons_zero, List.set_cons_succ, NodeS.cells, OpS.cells, ResS.cells] at HX ⊢) | (refine sWA ?_; clear HX; (first | (have hq := b9; clear hq; intro w b10 HX) | (have hq := b8; clear hq; intro w b9 HX) | (have hq := b7; clear hq; intro w b8 HX) | (have hq := b6; clear hq; intro w b7 HX) | (have hq := b5; clear hq; intro w b6 HX) | (have hq := b4; clear hq; intro w b5 HX) | (have hq := b3; clear hq; intro w b4 HX) | (have hq := b2; clear hq; intro w b3 HX) | (have hq := b; clear hq; intro w b2 HX) | intro w b HX); simp only [Act.put, List.setIfInBounds_toArray, List.set_cons_zero, List.set_cons_succ]) | (refine sWN ?_; clear HX; intro w mm HX; simp only [Act.put, List.setIfInBounds_toArray, List.set_cons_zero, List.set_cons_succ]) | (refine sWP ?_; clear HX; intro w av nv cv HX; simp only [Act.put, List.setIfInBounds_toArray, List.set_cons_zero, List.set_cons_succ]))
      refine (fail_any _ _).mono ?_
      rintro e w ⟨rfl, hu⟩
      replace HX := Lib.hid (HX.out.keep hu)
      clear hu
      simp only [ResS.cells, failS, noSt]
      go_wp2_with (first | (refine sWL ?_; simp only [Act.put, List.setIfInBounds_toArray, List.set_cons_zero, List.set_cons_succ, List.drop_zero, List.drop_succ_cons, List.take_succ_cons, List.take_zero, List.toList_toArray, NodeS.cells, OpS.cells, ResS.cells]) | (refine sWM ?_; simp only [Act.put, List.setIfInBounds_toArray, List.set_cons_zero, List.set_cons_succ]) | (refine sWS ?_; clear HX; intro w HX; simp only [Act.put, List.setIfInBounds_toArray, List.set_cons_zero, List.set_cons_succ, setMany, Nat.reduceAdd, NodeS.cells, OpS.cells, ResS.cells] at HX ⊢) | (refine sWT ?_; clear HX; intro w HX; simp only [Act.put, List.setIfInBounds_toArray, List.set_cons_zero, List.set_cons_succ, NodeS.cells, OpS.cells, ResS.cells] at HX ⊢) | (refine sWA ?_; clear HX; (first | (have hq := b9; clear hq; intro w b10 HX) | (have hq := b8; clear hq; intro w b9 HX) | (have hq := b7; clear hq; intro w b8 HX) | (have hq := b6; clear hq; intro w b7 HX) | (have hq := b5; clear hq; intro w b6 HX) | (have hq := b4; clear hq; intro w b5 HX) | (have hq := b3; clear hq; intro w b4 HX) | (have hq := b2; clear hq; intro w b3 HX) | (have hq := b; clear hq; intro w b2 HX) | intro w b HX); simp only [Act.put, List.setIfInBounds_toArray, List.set_cons_zero, List.set_cons_succ]) | (refine sWN ?_; clear HX; intro w mm HX; simp only [Act.put, List.setIfInBounds_toArray, List.set_cons_zero, List.set_cons_succ]) | (refine sWP ?_; clear HX; intro w av nv cv HX; simp only [Act.put, List.setIfInBounds_toArray, List.set_cons_zero, List.set_cons_succ]))
      refine sx_ret HX rfl rfl (by (repeat (first | (with_reducible exact List.mem_cons_self ..) | (with_reducible apply List.mem_cons_of_mem)))) (by kernel_rfl) ?_
      have h9 := (HB.out _ P _ (fun _ h => h) (HX.out.drop.drop)).perm (List.Perm.swap _ _ _)
      rw [← HS'.out, HE.out]
      refine res_nil rfl ?_
      cases only <;> exact h9
    | false =>
      have HRY := Lib.hid (show (if kind = 2 ∧ 0 < n.names.length then (failS 7, S)
        else if kind = 2 then (⟨0, path, ⟨#[]⟩, [], noSt⟩, { S with l := remT path.data.toList S.l })
        else if kind = 3 then (⟨0, path, ⟨#[]⟩, [], (writeS n zxid data).st⟩, { S with l := setT path.data.toList (writeS n zxid data) S.l })
        else (⟨0, path, ⟨#[]⟩, [], noSt⟩, S)) = rr from HRX.out)
      clear HRX
      by_cases hk2 : kind = 2
      · subst hk2
        by_cases hl7 : 0 < n.names.length
        · have HE := Lib.hid (show rr = (failS 7, S) by rw [← HRY.out, if_pos ⟨rfl, hl7⟩])
          have q7 : decide (0 < ((n.names.length : Nat) : Int)) = true := decide_eq_true (by omega)
          have q7' : decide (0 < n.names.length) = true := decide_eq_true hl7
          clear HRY hl7
          go_wp2_with (first | (refine sWL ?_; simp only [Act.put, List.setIfInBounds_toArray, List.set_cons_zero, List.set_cons_succ, List.drop_zero, List.drop_succ_cons, List.take_succ_cons, List.take_zero, List.toList_toArray, NodeS.cells, OpS.cells, ResS.cells]) | (refine sWM ?_; simp only [Act.put, List.setIfInBounds_toArray, List.set_cons_zero, List.set_cons_succ]) | (refine sWS ?_; clear HX; intro w HX; simp only [Act.put, List.setIfInBounds_toArray, List.set_cons_zero, List.set_cons_succ, setMany, Nat.reduceAdd, NodeS.cells, OpS.cells, ResS.cells] at HX ⊢) | (refine sWT ?_; clear HX; intro w HX; simp only [Act.put, List.setIfInBounds_toArray, List.set_cons_zero, List.set_cons_succ, NodeS.cells, OpS.cells, ResS.cells] at HX ⊢) | (refine sWA ?_; clear HX; (first | (have hq := b9; clear hq; intro w b10 HX) | (have hq := b8; clear hq; intro w b9 HX) | (have hq := b7; clear hq; intro w b8 HX) | (have hq := b6; clear hq; intro w b7 HX) | (have hq := b5; clear hq; intro w b6 HX) | (have hq := b4; clear hq; intro w b5 HX) | (have hq := b3; clear hq; intro w b4 HX) | (have hq := b2; clear hq; intro w b3 HX) | (have hq := b; clear hq; intro w b2 HX) | intro w b HX); simp only [Act.put, List.setIfInBounds_toArray, List.set_cons_zero, List.set_cons_succ]) | (refine sWN ?_; clear HX; intro w mm HX; simp only [Act.put, List.setIfInBounds_toArray, List.set_cons_zero, List.set_cons_succ]) | (refine sWP ?_; clear HX; intro w av nv cv HX; simp only [Act.put, List.setIfInBounds_toArray, List.set_cons_zero, List.set_cons_succ]))
          refine (fail_any _ _).mono ?_
          rintro e w ⟨rfl, hu⟩
          replace HX := Lib.hid (HX.out.keep hu)
          clear hu
          simp only [ResS.cells, failS, noSt]
          go_wp2_with (first | (refine sWL ?_; simp only [Act.put, List.setIfInBounds_toArray, List.set_cons_zero, List.set_cons_succ, List.drop_zero, List.drop_succ_cons, List.take_succ_cons, List.take_zero, List.toList_toArray, NodeS.cells, OpS.cells, ResS.cells]) | (refine sWM ?_; simp only [Act.put, List.setIfInBounds_toArray, List.set_cons_zero, List.set_cons_succ]) | (refine sWS ?_; clear HX; intro w HX; simp only [Act.put, List.setIfInBounds_toArray, List.set_cons_zero, List.set_cons_succ, setMany, Nat.reduceAdd, NodeS.cells, OpS.cells, ResS.cells] at HX ⊢) | (refine sWT ?_; clear HX; intro w HX; simp only [Act.put, List.setIfInBounds_toArray, List.set_cons_zero, List.set_cons_succ, NodeS.cells, OpS.cells, ResS.cells] at HX ⊢) | (refine sWA ?_; clear HX; (first | (have hq := b9; clear hq; intro w b10 HX) | (have hq := b8; clear hq; intro w b9 HX) | (have hq := b7; clear hq; intro w b8 HX) | (have hq := b6; clear hq; intro w b7 HX) | (have hq := b5; clear hq; intro w b6 HX) | (have hq := b4; clear hq; intro w b5 HX) | (have hq := b3; clear hq; intro w b4 HX) | (have hq := b2; clear hq; intro w b3 HX) | (have hq := b; clear hq; intro w b2 HX) | intro w b HX); simp only [Act.put, List.setIfInBounds_toArray, List.set_cons_zero, List.set_cons_succ]) | (refine sWN ?_; clear HX; intro w mm HX; simp only [Act.put, List.setIfInBounds_toArray, List.set_cons_zero, List.set_cons_succ]) | (refine sWP ?_; clear HX; intro w av nv cv HX; simp only [Act.put, List.setIfInBounds_toArray, List.set_cons_zero, List.set_cons_succ]))
          refine sx_ret HX rfl rfl (by (repeat (first | (with_reducible exact List.mem_cons_self ..) | (with_reducible apply List.mem_cons_of_mem)))) (by kernel_rfl) ?_
          have h9 := (HB.out _ P _ (fun _ h => h) (HX.out.drop.drop)).perm (List.Perm.swap _ _ _)
          rw [← HS'.out, HE.out]
          refine res_nil rfl ?_
          cases only <;> exact h9
        · have HE := Lib.hid (show rr = (⟨0, path, ⟨#[]⟩, [], noSt⟩, { S with l := remT path.data.toList S.l }) by rw [← HRY.out, if_neg (fun h => hl7 h.2), if_pos rfl])
          have q7 : decide (0 < ((n.names.length : Nat) : Int)) = false := decide_eq_false (by omega)
          have q7' : decide (0 < n.names.length) = false := decide_eq_false hl7
          clear HRY hl7
          cases only with
          | true =>
            go_wp2_with (first | (refine sWL ?_; simp only [Act.put, List.setIfInBounds_toArray, List.set_cons_zero, List.set_cons_succ, List.drop_zero, List.drop_succ_cons, List.take_succ_cons, List.take_zero, List.toList_toArray, NodeS.cells, OpS.cells, ResS.cells]) | (refine sWM ?_; simp only [Act.put, List.setIfInBounds_toArray, List.set_cons_zero, List.set_cons_succ]) | (refine sWS ?_; clear HX; intro w HX; simp only [Act.put, List.setIfInBounds_toArray, List.set_cons_zero, List.set_cons_succ, setMany, Nat.reduceAdd, NodeS.cells, OpS.cells, ResS.cells] at HX ⊢) | (refine sWT ?_; clear HX; intro w HX; simp only [Act.put, List.setIfInBounds_toArray, List.set_cons_zero, List.set_cons_succ, NodeS.cells, OpS.cells, ResS.cells] at HX ⊢) | (refine sWA ?_; clear HX; (first | (have hq := b9; clear hq; intro w b10 HX) | (have hq := b8; clear hq; intro w b9 HX) | (have hq := b7; clear hq; intro w b8 HX) | (have hq := b6; clear hq; intro w b7 HX) | (have hq := b5; clear hq; intro w b6 HX) | (have hq := b4; clear hq; intro w b5 HX) | (have hq := b3; clear hq; intro w b4 HX) | (have hq := b2; clear hq; intro w b3 HX) | (have hq := b; clear hq; intro w b2 HX) | intro w b HX); simp only [Act.put, List.setIfInBounds_toArray, List.set_cons_zero, List.set_cons_succ]) | (refine sWN ?_; clear HX; intro w mm HX; simp only [Act.put, List.setIfInBounds_toArray, List.set_cons_zero, List.set_cons_succ]) | (refine sWP ?_; clear HX; intro w av nv cv HX; simp only [Act.put, List.setIfInBounds_toArray, List.set_cons_zero, List.set_cons_succ]))
            refine sx_ret HX rfl rfl (by (repeat (first | (with_reducible exact List.mem_cons_self ..) | (with_reducible apply List.mem_cons_of_mem)))) (by kernel_rfl) ?_
            have h9 := (HB.out _ P _ (fun _ h => h) (HX.out.drop.drop.drop)).perm (List.Perm.swap _ _ _)
            rw [← HS'.out, HE.out]
            exact res_nil (r := ⟨0, path, ⟨#[]⟩, [], noSt⟩) rfl h9
          | false =>
            go_wp2_with (first | (refine sWL ?_; simp only [Act.put, List.setIfInBounds_toArray, List.set_cons_zero, List.set_cons_succ, List.drop_zero, List.drop_succ_cons, List.take_succ_cons, List.take_zero, List.toList_toArray, NodeS.cells, OpS.cells, ResS.cells]) | (refine sWM ?_; simp only [Act.put, List.setIfInBounds_toArray, List.set_cons_zero, List.set_cons_succ]) | (refine sWS ?_; clear HX; intro w HX; simp only [Act.put, List.setIfInBounds_toArray, List.set_cons_zero, List.set_cons_succ, setMany, Nat.reduceAdd, NodeS.cells, OpS.cells, ResS.cells] at HX ⊢) | (refine sWT ?_; clear HX; intro w HX; simp only [Act.put, List.setIfInBounds_toArray, List.set_cons_zero, List.set_cons_succ, NodeS.cells, OpS.cells, ResS.cells] at HX ⊢) | (refine sWA ?_; clear HX; (first | (have hq := b9; clear hq; intro w b10 HX) | (have hq := b8; clear hq; intro w b9 HX) | (have hq := b7; clear hq; intro w b8 HX) | (have hq := b6; clear hq; intro w b7 HX) | (have hq := b5; clear hq; intro w b6 HX) | (have hq := b4; clear hq; intro w b5 HX) | (have hq := b3; clear hq; intro w b4 HX) | (have hq := b2; clear hq; intro w b3 HX) | (have hq := b; clear hq; intro w b2 HX) | intro w b HX); simp only [Act.put, List.setIfInBounds_toArray, List.set_cons_zero, List.set_cons_succ]) | (refine sWN ?_; clear HX; intro w mm HX; simp only [Act.put, List.setIfInBounds_toArray, List.set_cons_zero, List.set_cons_succ]) | (refine sWP ?_; clear HX; intro w av nv cv HX; simp only [Act.put, List.setIfInBounds_toArray, List.set_cons_zero, List.set_cons_succ]))
            have h8 := HB.out _ P _ (fun _ h => h) HX.out.back3x
            have h9 := Sep.up4 h8
            clear h8
            refine (treeRemove_any h9 hd path hp hok).mono ?_
            rintro e w ⟨rfl, P', hP', h8⟩
            clear HX h9
            have HX := Lib.hid h8
            clear h8
            go_wp2_with (first | (refine sWL ?_; simp only [Act.put, List.setIfInBounds_toArray, List.set_cons_zero, List.set_cons_succ, List.drop_zero, List.drop_succ_cons, List.take_succ_cons, List.take_zero, List.toList_toArray, NodeS.cells, OpS.cells, ResS.cells]) | (refine sWM ?_; simp only [Act.put, List.setIfInBounds_toArray, List.set_cons_zero, List.set_cons_succ]) | (refine sWS ?_; clear HX; intro w HX; simp only [Act.put, List.setIfInBounds_toArray, List.set_cons_zero, List.set_cons_succ, setMany, Nat.reduceAdd, NodeS.cells, OpS.cells, ResS.cells] at HX ⊢) | (refine sWT ?_; clear HX; intro w HX; simp only [Act.put, List.setIfInBounds_toArray, List.set_cons_zero, List.set_cons_succ, NodeS.cells, OpS.cells, ResS.cells] at HX ⊢) | (refine sWA ?_; clear HX; (first | (have hq := b9; clear hq; intro w b10 HX) | (have hq := b8; clear hq; intro w b9 HX) | (have hq := b7; clear hq; intro w b8 HX) | (have hq := b6; clear hq; intro w b7 HX) | (have hq := b5; clear hq; intro w b6 HX) | (have hq := b4; clear hq; intro w b5 HX) | (have hq := b3; clear hq; intro w b4 HX) | (have hq := b2; clear hq; intro w b3 HX) | (have hq := b; clear hq; intro w b2 HX) | intro w b HX); simp only [Act.put, List.setIfInBounds_toArray, List.set_cons_zero, List.set_cons_succ]) | (refine sWN ?_; clear HX; intro w mm HX; simp only [Act.put, List.setIfInBounds_toArray, List.set_cons_zero, List.set_cons_succ]) | (refine sWP ?_; clear HX; intro w av nv cv HX; simp only [Act.put, List.setIfInBounds_toArray, List.set_cons_zero, List.set_cons_succ]))
            refine sx_ret HX rfl rfl (by (repeat (first | (with_reducible exact List.mem_cons_self ..) | (with_reducible apply List.mem_cons_of_mem)))) (by kernel_rfl) ?_
            have h9 := HX.out.cut2.cut2.cut2
            rw [← HS'.out, HE.out]
            obtain ⟨nv', P9, h1, h2, h3, h4⟩ := res_nil (r := ⟨0, path, ⟨#[]⟩, [], noSt⟩) rfl h9
            exact ⟨nv', P9, h1, fun r hr => h2 r (hP' r hr), h3, h4⟩
      have HRZ := Lib.hid (show (if kind = 3 then (⟨0, path, ⟨#[]⟩, [], (writeS n zxid data).st⟩, { S with l := setT path.data.toList (writeS n zxid data) S.l })
        else (⟨0, path, ⟨#[]⟩, [], noSt⟩, S) : ResS × TreeS) = rr by have := HRY.out; rw [if_neg (fun h => hk2 h.1), if_neg hk2] at this; exact this)
      have q2 : (kind == 2) = false := by rw [beq_eq_false_iff_ne]; exact hk2
      clear HRY hk2
      by_cases hk3 : kind = 3
      · subst hk3
        have HE := Lib.hid (show rr = (⟨0, path, ⟨#[]⟩, [], (writeS n zxid data).st⟩, { S with l := setT path.data.toList (writeS n zxid data) S.l }) by rw [← HRZ.out, if_pos rfl])
        clear HRZ
        go_wp2_with (first | (refine sWL ?_; simp only [Act.put, List.setIfInBounds_toArray, List.set_cons_zero, List.set_cons_succ, List.drop_zero, List.drop_succ_cons, List.take_succ_cons, List.take_zero, List.toList_toArray, NodeS.cells, OpS.cells, ResS.cells]) | (refine sWM ?_; simp only [Act.put, List.setIfInBounds_toArray, List.set_cons_zero, List.set_cons_succ]) | (refine sWS ?_; clear HX; intro w HX; simp only [Act.put, List.setIfInBounds_toArray, List.set_cons_zero, List.set_cons_succ, setMany, Nat.reduceAdd, NodeS.cells, OpS.cells, ResS.cells] at HX ⊢) | (refine sWT ?_; clear HX; intro w HX; simp only [Act.put, List.setIfInBounds_toArray, List.set_cons_zero, List.set_cons_succ, NodeS.cells, OpS.cells, ResS.cells] at HX ⊢) | (refine sWA ?_; clear HX; (first | (have hq := b9; clear hq; intro w b10 HX) | (have hq := b8; clear hq; intro w b9 HX) | (have hq := b7; clear hq; intro w b8 HX) | (have hq := b6; clear hq; intro w b7 HX) | (have hq := b5; clear hq; intro w b6 HX) | (have hq := b4; clear hq; intro w b5 HX) | (have hq := b3; clear hq; intro w b4 HX) | (have hq := b2; clear hq; intro w b3 HX) | (have hq := b; clear hq; intro w b2 HX) | intro w b HX); simp only [Act.put, List.setIfInBounds_toArray, List.set_cons_zero, List.set_cons_succ]) | (refine sWN ?_; clear HX; intro w mm HX; simp only [Act.put, List.setIfInBounds_toArray, List.set_cons_zero, List.set_cons_succ]) | (refine sWP ?_; clear HX; intro w av nv cv HX; simp only [Act.put, List.setIfInBounds_toArray, List.set_cons_zero, List.set_cons_succ]))
        obtain ⟨E, hE⟩ := (HX.out.pick 7 rfl rfl).poolGet HNV.out
        refine (copied_any n _ w E hE (by have := HOK.out.few; omega)).mono ?_
        rintro e w ⟨v2, D2, rfl, ho2, hu2⟩
        obtain ⟨a2, n2, k2, rfl, -⟩ := id ho2
        replace HX := Lib.hid (HX.out.addRow ho2 hu2)
        clear ho2 hu2 hE
        simp only [NodeS.val, NodeS.cells]
        go_wp2_with (first | (refine sWL ?_; simp only [Act.put, List.setIfInBounds_toArray, List.set_cons_zero, List.set_cons_succ, List.drop_zero, List.drop_succ_cons, List.take_succ_cons, List.take_zero, List.toList_toArray, NodeS.cells, OpS.cells, ResS.cells]) | (refine sWM ?_; simp only [Act.put, List.setIfInBounds_toArray, List.set_cons_zero, List.set_cons_succ]) | (refine sWS ?_; clear HX; intro w HX; simp only [Act.put, List.setIfInBounds_toArray, List.set_cons_zero, List.set_cons_succ, setMany, Nat.reduceAdd, NodeS.cells, OpS.cells, ResS.cells] at HX ⊢) | (refine sWT ?_; clear HX; intro w HX; simp only [Act.put, List.setIfInBounds_toArray, List.set_cons_zero, List.set_cons_succ, NodeS.cells, OpS.cells, ResS.cells] at HX ⊢) | (refine sWA ?_; clear HX; (first | (have hq := b9; clear hq; intro w b10 HX) | (have hq := b8; clear hq; intro w b9 HX) | (have hq := b7; clear hq; intro w b8 HX) | (have hq := b6; clear hq; intro w b7 HX) | (have hq := b5; clear hq; intro w b6 HX) | (have hq := b4; clear hq; intro w b5 HX) | (have hq := b3; clear hq; intro w b4 HX) | (have hq := b2; clear hq; intro w b3 HX) | (have hq := b; clear hq; intro w b2 HX) | intro w b HX); simp only [Act.put, List.setIfInBounds_toArray, List.set_cons_zero, List.set_cons_succ]) | (refine sWN ?_; clear HX; intro w mm HX; simp only [Act.put, List.setIfInBounds_toArray, List.set_cons_zero, List.set_cons_succ]) | (refine sWP ?_; clear HX; intro w av nv cv HX; simp only [Act.put, List.setIfInBounds_toArray, List.set_cons_zero, List.set_cons_succ]))
        refine (write_any (n := n) (nv := .slice a2 n2 k2) HX.out zxid data HOK.out.ver.1 hdt).mono ?_
        rintro e w ⟨rfl, hx9⟩
        replace HX := Lib.hid hx9
        clear hx9
        cases only with
        | true =>
          go_wp2_with (first | (refine sWL ?_; simp only [Act.put, List.setIfInBounds_toArray, List.set_cons_zero, List.set_cons_succ, List.drop_zero, List.drop_succ_cons, List.take_succ_cons, List.take_zero, List.toList_toArray, NodeS.cells, OpS.cells, ResS.cells]) | (refine sWM ?_; simp only [Act.put, List.setIfInBounds_toArray, List.set_cons_zero, List.set_cons_succ]) | (refine sWS ?_; clear HX; intro w HX; simp only [Act.put, List.setIfInBounds_toArray, List.set_cons_zero, List.set_cons_succ, setMany, Nat.reduceAdd, NodeS.cells, OpS.cells, ResS.cells] at HX ⊢) | (refine sWT ?_; clear HX; intro w HX; simp only [Act.put, List.setIfInBounds_toArray, List.set_cons_zero, List.set_cons_succ, NodeS.cells, OpS.cells, ResS.cells] at HX ⊢) | (refine sWA ?_; clear HX; (first | (have hq := b9; clear hq; intro w b10 HX) | (have hq := b8; clear hq; intro w b9 HX) | (have hq := b7; clear hq; intro w b8 HX) | (have hq := b6; clear hq; intro w b7 HX) | (have hq := b5; clear hq; intro w b6 HX) | (have hq := b4; clear hq; intro w b5 HX) | (have hq := b3; clear hq; intro w b4 HX) | (have hq := b2; clear hq; intro w b3 HX) | (have hq := b; clear hq; intro w b2 HX) | intro w b HX); simp only [Act.put, List.setIfInBounds_toArray, List.set_cons_zero, List.set_cons_succ]) | (refine sWN ?_; clear HX; intro w mm HX; simp only [Act.put, List.setIfInBounds_toArray, List.set_cons_zero, List.set_cons_succ]) | (refine sWP ?_; clear HX; intro w av nv cv HX; simp only [Act.put, List.setIfInBounds_toArray, List.set_cons_zero, List.set_cons_succ]))
          refine sx_ret HX rfl rfl (by (repeat (first | (with_reducible exact List.mem_cons_self ..) | (with_reducible apply List.mem_cons_of_mem)))) (by kernel_rfl) ?_
          have h8 := HB.out _ P _ (fun _ h => h) HX.out.back5x
          have h9 := Sep.up1 h8.cut1.cut1.cut1.cut1.cut1
          rw [← HS'.out, HE.out]
          exact res_nil (r := ⟨0, path, ⟨#[]⟩, [], (writeS n zxid data).st⟩) rfl h9
        | false =>
          have h8 := (HB.out _ P _ (fun _ h => h) HX.out.back5x)
          have h9 := (Sep.up6 (Sep.up2 h8)).perm (List.Perm.swap _ _ _)
          have h10 := (tree_mono (Sep.up1 h9.poolRow) (P' := (1, .slice a2 n2 k2, n.names.map sv) :: P) (fun q hq => List.mem_cons_of_mem _ hq)).up1.up2
          replace HX := Lib.hid h10
          clear h8 h9 h10
          go_wp2_with (first | (refine sWL ?_; simp only [Act.put, List.setIfInBounds_toArray, List.set_cons_zero, List.set_cons_succ, List.drop_zero, List.drop_succ_cons, List.take_succ_cons, List.take_zero, List.toList_toArray, NodeS.cells, OpS.cells, ResS.cells]) | (refine sWM ?_; simp only [Act.put, List.setIfInBounds_toArray, List.set_cons_zero, List.set_cons_succ]) | (refine sWS ?_; clear HX; intro w HX; simp only [Act.put, List.setIfInBounds_toArray, List.set_cons_zero, List.set_cons_succ, setMany, Nat.reduceAdd, NodeS.cells, OpS.cells, ResS.cells] at HX ⊢) | (refine sWT ?_; clear HX; intro w HX; simp only [Act.put, List.setIfInBounds_toArray, List.set_cons_zero, List.set_cons_succ, NodeS.cells, OpS.cells, ResS.cells] at HX ⊢) | (refine sWA ?_; clear HX; (first | (have hq := b9; clear hq; intro w b10 HX) | (have hq := b8; clear hq; intro w b9 HX) | (have hq := b7; clear hq; intro w b8 HX) | (have hq := b6; clear hq; intro w b7 HX) | (have hq := b5; clear hq; intro w b6 HX) | (have hq := b4; clear hq; intro w b5 HX) | (have hq := b3; clear hq; intro w b4 HX) | (have hq := b2; clear hq; intro w b3 HX) | (have hq := b; clear hq; intro w b2 HX) | intro w b HX); simp only [Act.put, List.setIfInBounds_toArray, List.set_cons_zero, List.set_cons_succ]) | (refine sWN ?_; clear HX; intro w mm HX; simp only [Act.put, List.setIfInBounds_toArray, List.set_cons_zero, List.set_cons_succ]) | (refine sWP ?_; clear HX; intro w av nv cv HX; simp only [Act.put, List.setIfInBounds_toArray, List.set_cons_zero, List.set_cons_succ]))
          refine wp_region_M (fun W => W = w.drew) 6 (by kernel_rfl) ?_
          replace HX := Lib.hid HX.out.drew
          generalize w.drew = w at HX ⊢
          obtain ⟨m9, w9, hc9, hrun9, h9⟩ := tree_set HX.out (List.mem_cons_self ..) path HLK.out
          refine wpAnyM_take (by kernel_rfl) (by intro c a d v w h; cases d <;> exact h) [(0, false), (1, false), (2, false), (3, true), (4, false), (5, true)] (fuel := 1) (by kernel_rfl) ?_
          apply Exists.intro; refine ⟨?_, rfl, ?_⟩
          · iterate 6 (refine yD ?_)
            exact rfl
          refine wpAnyM_last (fuel := 0) (i := 6) (by rfl) (by kernel_rfl) (by rfl) (fun K hK => ?_)    -- mapUpdate
          clear HX
          have HX := Lib.hid h9
          clear h9
          go_wp2_with fail
          refine wpAnyM_done (by kernel_rfl) ?_ _
          go_wp2_with (first | (refine sWL ?_; simp only [Act.put, List.setIfInBounds_toArray, List.set_cons_zero, List.set_cons_succ, List.drop_zero, List.drop_succ_cons, List.take_succ_cons, List.take_zero, List.toList_toArray, NodeS.cells, OpS.cells, ResS.cells]) | (refine sWM ?_; simp only [Act.put, List.setIfInBounds_toArray, List.set_cons_zero, List.set_cons_succ]) | (refine sWS ?_; clear HX; intro w HX; simp only [Act.put, List.setIfInBounds_toArray, List.set_cons_zero, List.set_cons_succ, setMany, Nat.reduceAdd, NodeS.cells, OpS.cells, ResS.cells] at HX ⊢) | (refine sWT ?_; clear HX; intro w HX; simp only [Act.put, List.setIfInBounds_toArray, List.set_cons_zero, List.set_cons_succ, NodeS.cells, OpS.cells, ResS.cells] at HX ⊢) | (refine sWA ?_; clear HX; (first | (have hq := b9; clear hq; intro w b10 HX) | (have hq := b8; clear hq; intro w b9 HX) | (have hq := b7; clear hq; intro w b8 HX) | (have hq := b6; clear hq; intro w b7 HX) | (have hq := b5; clear hq; intro w b6 HX) | (have hq := b4; clear hq; intro w b5 HX) | (have hq := b3; clear hq; intro w b4 HX) | (have hq := b2; clear hq; intro w b3 HX) | (have hq := b; clear hq; intro w b2 HX) | intro w b HX); simp only [Act.put, List.setIfInBounds_toArray, List.set_cons_zero, List.set_cons_succ]) | (refine sWN ?_; clear HX; intro w mm HX; simp only [Act.put, List.setIfInBounds_toArray, List.set_cons_zero, List.set_cons_succ]) | (refine sWP ?_; clear HX; intro w av nv cv HX; simp only [Act.put, List.setIfInBounds_toArray, List.set_cons_zero, List.set_cons_succ]))
          refine sx_ret HX rfl rfl (by (repeat (first | (with_reducible exact List.mem_cons_self ..) | (with_reducible apply List.mem_cons_of_mem)))) (by kernel_rfl) ?_
          have h9 := HX.out.cut2.cut2.cut2
          rw [← HS'.out, HE.out]
          obtain ⟨nv', P9, h1, h2, h3, h4⟩ := res_nil (r := ⟨0, path, ⟨#[]⟩, [], (writeS n zxid data).st⟩) rfl h9
          exact ⟨nv', P9, h1, fun r hr => h2 r (List.mem_cons_of_mem _ hr), h3, h4⟩
      have q3 : (kind == 3) = false := by rw [beq_eq_false_iff_ne]; exact hk3
      have HE := Lib.hid (show rr = (⟨0, path, ⟨#[]⟩, [], noSt⟩, S) by rw [← HRZ.out, if_neg hk3])
      clear HRZ hk3
      go_wp2_with (first | (refine sWL ?_; simp only [Act.put, List.setIfInBounds_toArray, List.set_cons_zero, List.set_cons_succ, List.drop_zero, List.drop_succ_cons, List.take_succ_cons, List.take_zero, List.toList_toArray, NodeS.cells, OpS.cells, ResS.cells]) | (refine sWM ?_; simp only [Act.put, List.setIfInBounds_toArray, List.set_cons_zero, List.set_cons_succ]) | (refine sWS ?_; clear HX; intro w HX; simp only [Act.put, List.setIfInBounds_toArray, List.set_cons_zero, List.set_cons_succ, setMany, Nat.reduceAdd, NodeS.cells, OpS.cells, ResS.cells] at HX ⊢) | (refine sWT ?_; clear HX; intro w HX; simp only [Act.put, List.setIfInBounds_toArray, List.set_cons_zero, List.set_cons_succ, NodeS.cells, OpS.cells, ResS.cells] at HX ⊢) | (refine sWA ?_; clear HX; (first | (have hq := b9; clear hq; intro w b10 HX) | (have hq := b8; clear hq; intro w b9 HX) | (have hq := b7; clear hq; intro w b8 HX) | (have hq := b6; clear hq; intro w b7 HX) | (have hq := b5; clear hq; intro w b6 HX) | (have hq := b4; clear hq; intro w b5 HX) | (have hq := b3; clear hq; intro w b4 HX) | (have hq := b2; clear hq; intro w b3 HX) | (have hq := b; clear hq; intro w b2 HX) | intro w b HX); simp only [Act.put, List.setIfInBounds_toArray, List.set_cons_zero, List.set_cons_succ]) | (refine sWN ?_; clear HX; intro w mm HX; simp only [Act.put, List.setIfInBounds_toArray, List.set_cons_zero, List.set_cons_succ]) | (refine sWP ?_; clear HX; intro w av nv cv HX; simp only [Act.put, List.setIfInBounds_toArray, List.set_cons_zero, List.set_cons_succ]))
      refine sx_ret HX rfl rfl (by (repeat (first | (with_reducible exact List.mem_cons_self ..) | (with_reducible apply List.mem_cons_of_mem)))) (by kernel_rfl) ?_
      have h9 := (HB.out _ P _ (fun _ h => h) (HX.out.drop.drop.drop)).perm (List.Perm.swap _ _ _)
      rw [← HS'.out, HE.out]
      refine res_nil (r := ⟨0, path, ⟨#[]⟩, [], noSt⟩) rfl ?_
      cases only <;> exact h9
end
end Go.Proofs.YtjeaoopamebgjaaGreatDoor

/-
  A tree: the walks of do, Do, Try.
-/
set_option linter.unusedSimpArgs false
namespace Go.Av
/-- An op, done. -/
def doT (S : TreeS) (o : OpS) (sess zxid : Int) : ResS × TreeS :=
  if goodE o ≠ 0 then (failS (goodE o), S)
  else if sess < 1 ∨ zxid < 0 then (failS 1, S)
  else if o.kind = 1 then createT S o sess zxid
  else if o.kind = 2 ∨ o.kind = 3 ∨ o.kind = 4 then changeT S o zxid
  else (readT S o, S)
theorem goodE_ok {o : OpS} (h : goodE o = 0) : formedS o = true ∧ o.data.size ≤ 1000 ∧ ownS o = true ∧ numS o = true := by
  unfold goodE at h
  by_cases h1 : formedS o = false
  · rw [if_pos h1] at h; omega
  rw [if_neg h1] at h
  by_cases h2 : 1000 < o.data.size
  · rw [if_pos h2] at h; omega
  rw [if_neg h2] at h
  by_cases h3 : ownS o = false ∨ numS o = false
  · rw [if_pos h3] at h; omega
  refine ⟨by simpa using h1, by omega, ?_, ?_⟩
  · cases hh : ownS o with
    | true => rfl
    | false => exact absurd (.inl hh) h3
  · cases hh : numS o with
    | true => rfl
    | false => exact absurd (.inr hh) h3
theorem formed_ok {o : OpS} (h : formedS o = true) : 1 ≤ o.kind ∧ o.kind ≤ 7 ∧ goodP o.p = true ∧ -1 ≤ o.ver ∧ 0 ≤ o.flags ∧ o.flags ≤ 3 := by
  unfold formedS at h
  simp only [Bool.and_eq_true, decide_eq_true_eq] at h
  exact ⟨h.1, h.2.1, h.2.2.1, h.2.2.2.1, h.2.2.2.2.1, h.2.2.2.2.2⟩
end Go.Av
namespace Go.Proofs.YtjeaoopamebgjaaGreatDoor
open Go.RowKit Go.Av
section
variable {w0 w : World} {t : Nat} {S : TreeS} {P P' : List PRow} {R : List Thing} {rows : List (Value × Bs)}
set_option maxRecDepth 100000 in
set_option maxHeartbeats 4000000 in
theorem do_any (h : Sep w0 w (ThPool w0 P :: ThTree t S P :: R) rows) (hd : DoorN w0) (o : OpS) (hp : o.path.size ≤ 100000) (sess zxid : Int) (only : Bool) (hok : ∀ e ∈ S.l, NodeOk e.2) :
    Calls Tryz.prog 31 #[.pointer (some ⟨t, 0, none⟩), o.val, .int .i64 sess, .int .i64 zxid, .bool only] w (ResPost w0 t (if only then S else (doT S o sess zxid).2) P R rows (doT S o sess zxid).1) := by
  have HG := Lib.hid (fun w hw => opgood_any o w hw hp)
  have HO := Lib.hid (show o = ⟨o.kind, o.path, o.data, o.ver, o.flags⟩ from rfl)
  have HD := Lib.hid hd
  obtain ⟨rr, hrr⟩ : ∃ rr, doT S o sess zxid = rr := ⟨_, rfl⟩
  rw [hrr]
  obtain ⟨S', hS'⟩ : ∃ S', (if only = true then S else rr.2) = S' := ⟨_, rfl⟩
  rw [hS']
  have HS' := Lib.hid hS'
  have HX := Lib.hid h
  clear hS' h hd
  unfold doT at hrr
  obtain ⟨e0, he0⟩ : ∃ e0, goodE o = e0 := ⟨_, rfl⟩
  rw [he0] at HG hrr
  have HRR := Lib.hid hrr
  have HE0 := Lib.hid he0
  clear hrr he0
  obtain ⟨kind, path, data, ver, flags⟩ := o
  unfold OpS.val at HG ⊢
  dsimp only at hp HRR HG ⊢
  go_enter Tryz.func31, Tryz.ntmps31
  go_wp2_with (first | (refine sWL ?_; simp only [Act.put, List.setIfInBounds_toArray, List.set_cons_zero, List.set_cons_succ, List.drop_zero, List.drop_succ_cons, List.take_succ_cons, List.take_zero, List.toList_toArray, NodeS.cells, OpS.cells, ResS.cells]) | (refine sWM ?_; simp only [Act.put, List.setIfInBounds_toArray, List.set_cons_zero, List.set_cons_succ]) | (refine sWS ?_; clear HX; intro w HX; simp only [Act.put, List.setIfInBounds_toArray, List.set_cons_zero, List.set_cons_succ, setMany, Nat.reduceAdd, NodeS.cells, OpS.cells, ResS.cells] at HX ⊢) | (refine sWT ?_; clear HX; intro w HX; simp only [Act.put, List.setIfInBounds_toArray, List.set_cons_zero, List.set_cons_succ, NodeS.cells, OpS.cells, ResS.cells] at HX ⊢) | (refine sWA ?_; clear HX; (first | (have hq := b9; clear hq; intro w b10 HX) | (have hq := b8; clear hq; intro w b9 HX) | (have hq := b7; clear hq; intro w b8 HX) | (have hq := b6; clear hq; intro w b7 HX) | (have hq := b5; clear hq; intro w b6 HX) | (have hq := b4; clear hq; intro w b5 HX) | (have hq := b3; clear hq; intro w b4 HX) | (have hq := b2; clear hq; intro w b3 HX) | (have hq := b; clear hq; intro w b2 HX) | intro w b HX); simp only [Act.put, List.setIfInBounds_toArray, List.set_cons_zero, List.set_cons_succ]) | (refine sWN ?_; clear HX; intro w mm HX; simp only [Act.put, List.setIfInBounds_toArray, List.set_cons_zero, List.set_cons_succ]) | (refine sWP ?_; clear HX; intro w av nv cv HX; simp only [Act.put, List.setIfInBounds_toArray, List.set_cons_zero, List.set_cons_succ]))
  refine (HG.out _ (HD.out.sep HX.out)).mono ?_
  rintro e w ⟨rfl, hu⟩
  replace HX := Lib.hid (HX.out.keep hu)
  clear hu HG
  by_cases h0 : e0 = 0
  case neg =>
    have HE := Lib.hid (show rr = (failS e0, S) by rw [← HRR.out, if_pos h0])
    have q0 : (e0 != 0) = true := by rw [bne_iff_ne]; exact h0
    clear HRR h0
    go_wp2_with (first | (refine sWL ?_; simp only [Act.put, List.setIfInBounds_toArray, List.set_cons_zero, List.set_cons_succ, List.drop_zero, List.drop_succ_cons, List.take_succ_cons, List.take_zero, List.toList_toArray, NodeS.cells, OpS.cells, ResS.cells]) | (refine sWM ?_; simp only [Act.put, List.setIfInBounds_toArray, List.set_cons_zero, List.set_cons_succ]) | (refine sWS ?_; clear HX; intro w HX; simp only [Act.put, List.setIfInBounds_toArray, List.set_cons_zero, List.set_cons_succ, setMany, Nat.reduceAdd, NodeS.cells, OpS.cells, ResS.cells] at HX ⊢) | (refine sWT ?_; clear HX; intro w HX; simp only [Act.put, List.setIfInBounds_toArray, List.set_cons_zero, List.set_cons_succ, NodeS.cells, OpS.cells, ResS.cells] at HX ⊢) | (refine sWA ?_; clear HX; (first | (have hq := b9; clear hq; intro w b10 HX) | (have hq := b8; clear hq; intro w b9 HX) | (have hq := b7; clear hq; intro w b8 HX) | (have hq := b6; clear hq; intro w b7 HX) | (have hq := b5; clear hq; intro w b6 HX) | (have hq := b4; clear hq; intro w b5 HX) | (have hq := b3; clear hq; intro w b4 HX) | (have hq := b2; clear hq; intro w b3 HX) | (have hq := b; clear hq; intro w b2 HX) | intro w b HX); simp only [Act.put, List.setIfInBounds_toArray, List.set_cons_zero, List.set_cons_succ]) | (refine sWN ?_; clear HX; intro w mm HX; simp only [Act.put, List.setIfInBounds_toArray, List.set_cons_zero, List.set_cons_succ]) | (refine sWP ?_; clear HX; intro w av nv cv HX; simp only [Act.put, List.setIfInBounds_toArray, List.set_cons_zero, List.set_cons_succ]))
    refine (fail_any _ _).mono ?_
    rintro e w ⟨rfl, hu⟩
    replace HX := Lib.hid (HX.out.keep hu)
    clear hu
    simp only [ResS.cells, failS, noSt]
    go_wp2_with (first | (refine sWL ?_; simp only [Act.put, List.setIfInBounds_toArray, List.set_cons_zero, List.set_cons_succ, List.drop_zero, List.drop_succ_cons, List.take_succ_cons, List.take_zero, List.toList_toArray, NodeS.cells, OpS.cells, ResS.cells]) | (refine sWM ?_; simp only [Act.put, List.setIfInBounds_toArray, List.set_cons_zero, List.set_cons_succ]) | (refine sWS ?_; clear HX; intro w HX; simp only [Act.put, List.setIfInBounds_toArray, List.set_cons_zero, List.set_cons_succ, setMany, Nat.reduceAdd, NodeS.cells, OpS.cells, ResS.cells] at HX ⊢) | (refine sWT ?_; clear HX; intro w HX; simp only [Act.put, List.setIfInBounds_toArray, List.set_cons_zero, List.set_cons_succ, NodeS.cells, OpS.cells, ResS.cells] at HX ⊢) | (refine sWA ?_; clear HX; (first | (have hq := b9; clear hq; intro w b10 HX) | (have hq := b8; clear hq; intro w b9 HX) | (have hq := b7; clear hq; intro w b8 HX) | (have hq := b6; clear hq; intro w b7 HX) | (have hq := b5; clear hq; intro w b6 HX) | (have hq := b4; clear hq; intro w b5 HX) | (have hq := b3; clear hq; intro w b4 HX) | (have hq := b2; clear hq; intro w b3 HX) | (have hq := b; clear hq; intro w b2 HX) | intro w b HX); simp only [Act.put, List.setIfInBounds_toArray, List.set_cons_zero, List.set_cons_succ]) | (refine sWN ?_; clear HX; intro w mm HX; simp only [Act.put, List.setIfInBounds_toArray, List.set_cons_zero, List.set_cons_succ]) | (refine sWP ?_; clear HX; intro w av nv cv HX; simp only [Act.put, List.setIfInBounds_toArray, List.set_cons_zero, List.set_cons_succ]))
    refine sx_ret HX rfl rfl (by (repeat (first | (with_reducible exact List.mem_cons_self ..) | (with_reducible apply List.mem_cons_of_mem)))) (by kernel_rfl) ?_
    rw [← HS'.out, HE.out]
    refine res_nil rfl ?_
    cases only <;> exact HX.out.drop.drop
  case pos =>
  subst h0
  have HR2 := Lib.hid (show (if sess < 1 ∨ zxid < 0 then (failS 1, S) else if kind = 1 then createT S ⟨kind, path, data, ver, flags⟩ sess zxid else if kind = 2 ∨ kind = 3 ∨ kind = 4 then changeT S ⟨kind, path, data, ver, flags⟩ zxid else (readT S ⟨kind, path, data, ver, flags⟩, S)) = rr by have := HRR.out; rw [if_neg (fun h => h rfl)] at this; exact this)
  clear HRR
  by_cases hs : sess < 1 ∨ zxid < 0
  · have HE := Lib.hid (show rr = (failS 1, S) by rw [← HR2.out, if_pos hs])
    clear HR2
    by_cases h1 : sess < 1
    · have q1 : decide (sess < 1) = true := decide_eq_true h1
      clear h1 hs
      go_wp2_with (first | (refine sWL ?_; simp only [Act.put, List.setIfInBounds_toArray, List.set_cons_zero, List.set_cons_succ, List.drop_zero, List.drop_succ_cons, List.take_succ_cons, List.take_zero, List.toList_toArray, NodeS.cells, OpS.cells, ResS.cells]) | (refine sWM ?_; simp only [Act.put, List.setIfInBounds_toArray, List.set_cons_zero, List.set_cons_succ]) | (refine sWS ?_; clear HX; intro w HX; simp only [Act.put, List.setIfInBounds_toArray, List.set_cons_zero, List.set_cons_succ, setMany, Nat.reduceAdd, NodeS.cells, OpS.cells, ResS.cells] at HX ⊢) | (refine sWT ?_; clear HX; intro w HX; simp only [Act.put, List.setIfInBounds_toArray, List.set_cons_zero, List.set_cons_succ, NodeS.cells, OpS.cells, ResS.cells] at HX ⊢) | (refine sWA ?_; clear HX; (first | (have hq := b9; clear hq; intro w b10 HX) | (have hq := b8; clear hq; intro w b9 HX) | (have hq := b7; clear hq; intro w b8 HX) | (have hq := b6; clear hq; intro w b7 HX) | (have hq := b5; clear hq; intro w b6 HX) | (have hq := b4; clear hq; intro w b5 HX) | (have hq := b3; clear hq; intro w b4 HX) | (have hq := b2; clear hq; intro w b3 HX) | (have hq := b; clear hq; intro w b2 HX) | intro w b HX); simp only [Act.put, List.setIfInBounds_toArray, List.set_cons_zero, List.set_cons_succ]) | (refine sWN ?_; clear HX; intro w mm HX; simp only [Act.put, List.setIfInBounds_toArray, List.set_cons_zero, List.set_cons_succ]) | (refine sWP ?_; clear HX; intro w av nv cv HX; simp only [Act.put, List.setIfInBounds_toArray, List.set_cons_zero, List.set_cons_succ]))
      refine (fail_any _ _).mono ?_
      rintro e w ⟨rfl, hu⟩
      replace HX := Lib.hid (HX.out.keep hu)
      clear hu
      simp only [ResS.cells, failS, noSt]
      go_wp2_with (first | (refine sWL ?_; simp only [Act.put, List.setIfInBounds_toArray, List.set_cons_zero, List.set_cons_succ, List.drop_zero, List.drop_succ_cons, List.take_succ_cons, List.take_zero, List.toList_toArray, NodeS.cells, OpS.cells, ResS.cells]) | (refine sWM ?_; simp only [Act.put, List.setIfInBounds_toArray, List.set_cons_zero, List.set_cons_succ]) | (refine sWS ?_; clear HX; intro w HX; simp only [Act.put, List.setIfInBounds_toArray, List.set_cons_zero, List.set_cons_succ, setMany, Nat.reduceAdd, NodeS.cells, OpS.cells, ResS.cells] at HX ⊢) | (refine sWT ?_; clear HX; intro w HX; simp only [Act.put, List.setIfInBounds_toArray, List.set_cons_zero, List.set_cons_succ, NodeS.cells, OpS.cells, ResS.cells] at HX ⊢) | (refine sWA ?_; clear HX; (first | (have hq := b9; clear hq; intro w b10 HX) | (have hq := b8; clear hq; intro w b9 HX) | (have hq := b7; clear hq; intro w b8 HX) | (have hq := b6; clear hq; intro w b7 HX) | (have hq := b5; clear hq; intro w b6 HX) | (have hq := b4; clear hq; intro w b5 HX) | (have hq := b3; clear hq; intro w b4 HX) | (have hq := b2; clear hq; intro w b3 HX) | (have hq := b; clear hq; intro w b2 HX) | intro w b HX); simp only [Act.put, List.setIfInBounds_toArray, List.set_cons_zero, List.set_cons_succ]) | (refine sWN ?_; clear HX; intro w mm HX; simp only [Act.put, List.setIfInBounds_toArray, List.set_cons_zero, List.set_cons_succ]) | (refine sWP ?_; clear HX; intro w av nv cv HX; simp only [Act.put, List.setIfInBounds_toArray, List.set_cons_zero, List.set_cons_succ]))
      refine sx_ret HX rfl rfl (by (repeat (first | (with_reducible exact List.mem_cons_self ..) | (with_reducible apply List.mem_cons_of_mem)))) (by kernel_rfl) ?_
      rw [← HS'.out, HE.out]
      refine res_nil rfl ?_
      cases only <;> exact HX.out.drop.drop
    · have q1 : decide (sess < 1) = false := decide_eq_false h1
      have q2 : decide (zxid < 0) = true := decide_eq_true (hs.resolve_left h1)
      clear h1 hs
      go_wp2_with (first | (refine sWL ?_; simp only [Act.put, List.setIfInBounds_toArray, List.set_cons_zero, List.set_cons_succ, List.drop_zero, List.drop_succ_cons, List.take_succ_cons, List.take_zero, List.toList_toArray, NodeS.cells, OpS.cells, ResS.cells]) | (refine sWM ?_; simp only [Act.put, List.setIfInBounds_toArray, List.set_cons_zero, List.set_cons_succ]) | (refine sWS ?_; clear HX; intro w HX; simp only [Act.put, List.setIfInBounds_toArray, List.set_cons_zero, List.set_cons_succ, setMany, Nat.reduceAdd, NodeS.cells, OpS.cells, ResS.cells] at HX ⊢) | (refine sWT ?_; clear HX; intro w HX; simp only [Act.put, List.setIfInBounds_toArray, List.set_cons_zero, List.set_cons_succ, NodeS.cells, OpS.cells, ResS.cells] at HX ⊢) | (refine sWA ?_; clear HX; (first | (have hq := b9; clear hq; intro w b10 HX) | (have hq := b8; clear hq; intro w b9 HX) | (have hq := b7; clear hq; intro w b8 HX) | (have hq := b6; clear hq; intro w b7 HX) | (have hq := b5; clear hq; intro w b6 HX) | (have hq := b4; clear hq; intro w b5 HX) | (have hq := b3; clear hq; intro w b4 HX) | (have hq := b2; clear hq; intro w b3 HX) | (have hq := b; clear hq; intro w b2 HX) | intro w b HX); simp only [Act.put, List.setIfInBounds_toArray, List.set_cons_zero, List.set_cons_succ]) | (refine sWN ?_; clear HX; intro w mm HX; simp only [Act.put, List.setIfInBounds_toArray, List.set_cons_zero, List.set_cons_succ]) | (refine sWP ?_; clear HX; intro w av nv cv HX; simp only [Act.put, List.setIfInBounds_toArray, List.set_cons_zero, List.set_cons_succ]))
      refine (fail_any _ _).mono ?_
      rintro e w ⟨rfl, hu⟩
      replace HX := Lib.hid (HX.out.keep hu)
      clear hu
      simp only [ResS.cells, failS, noSt]
      go_wp2_with (first | (refine sWL ?_; simp only [Act.put, List.setIfInBounds_toArray, List.set_cons_zero, List.set_cons_succ, List.drop_zero, List.drop_succ_cons, List.take_succ_cons, List.take_zero, List.toList_toArray, NodeS.cells, OpS.cells, ResS.cells]) | (refine sWM ?_; simp only [Act.put, List.setIfInBounds_toArray, List.set_cons_zero, List.set_cons_succ]) | (refine sWS ?_; clear HX; intro w HX; simp only [Act.put, List.setIfInBounds_toArray, List.set_cons_zero, List.set_cons_succ, setMany, Nat.reduceAdd, NodeS.cells, OpS.cells, ResS.cells] at HX ⊢) | (refine sWT ?_; clear HX; intro w HX; simp only [Act.put, List.setIfInBounds_toArray, List.set_cons_zero, List.set_cons_succ, NodeS.cells, OpS.cells, ResS.cells] at HX ⊢) | (refine sWA ?_; clear HX; (first | (have hq := b9; clear hq; intro w b10 HX) | (have hq := b8; clear hq; intro w b9 HX) | (have hq := b7; clear hq; intro w b8 HX) | (have hq := b6; clear hq; intro w b7 HX) | (have hq := b5; clear hq; intro w b6 HX) | (have hq := b4; clear hq; intro w b5 HX) | (have hq := b3; clear hq; intro w b4 HX) | (have hq := b2; clear hq; intro w b3 HX) | (have hq := b; clear hq; intro w b2 HX) | intro w b HX); simp only [Act.put, List.setIfInBounds_toArray, List.set_cons_zero, List.set_cons_succ]) | (refine sWN ?_; clear HX; intro w mm HX; simp only [Act.put, List.setIfInBounds_toArray, List.set_cons_zero, List.set_cons_succ]) | (refine sWP ?_; clear HX; intro w av nv cv HX; simp only [Act.put, List.setIfInBounds_toArray, List.set_cons_zero, List.set_cons_succ]))
      refine sx_ret HX rfl rfl (by (repeat (first | (with_reducible exact List.mem_cons_self ..) | (with_reducible apply List.mem_cons_of_mem)))) (by kernel_rfl) ?_
      rw [← HS'.out, HE.out]
      refine res_nil rfl ?_
      cases only <;> exact HX.out.drop.drop
  have q1 : decide (sess < 1) = false := decide_eq_false (fun h => hs (.inl h))
  have q2 : decide (zxid < 0) = false := decide_eq_false (fun h => hs (.inr h))
  have HR3 := Lib.hid (show (if kind = 1 then createT S ⟨kind, path, data, ver, flags⟩ sess zxid else if kind = 2 ∨ kind = 3 ∨ kind = 4 then changeT S ⟨kind, path, data, ver, flags⟩ zxid else (readT S ⟨kind, path, data, ver, flags⟩, S)) = rr by have := HR2.out; rw [if_neg hs] at this; exact this)
  have HGO := Lib.hid (goodE_ok HE0.out)
  have HFO := Lib.hid (formed_ok HGO.out.1)
  clear HR2 hs
  by_cases hk1 : kind = 1
  · subst hk1
    have HE := Lib.hid (show rr = createT S ⟨1, path, data, ver, flags⟩ sess zxid by have := HR3.out; rw [if_pos rfl] at this; exact this.symm)
    clear HR3
    go_wp2_with (first | (refine sWL ?_; simp only [Act.put, List.setIfInBounds_toArray, List.set_cons_zero, List.set_cons_succ, List.drop_zero, List.drop_succ_cons, List.take_succ_cons, List.take_zero, List.toList_toArray, NodeS.cells, OpS.cells, ResS.cells]) | (refine sWM ?_; simp only [Act.put, List.setIfInBounds_toArray, List.set_cons_zero, List.set_cons_succ]) | (refine sWS ?_; clear HX; intro w HX; simp only [Act.put, List.setIfInBounds_toArray, List.set_cons_zero, List.set_cons_succ, setMany, Nat.reduceAdd, NodeS.cells, OpS.cells, ResS.cells] at HX ⊢) | (refine sWT ?_; clear HX; intro w HX; simp only [Act.put, List.setIfInBounds_toArray, List.set_cons_zero, List.set_cons_succ, NodeS.cells, OpS.cells, ResS.cells] at HX ⊢) | (refine sWA ?_; clear HX; (first | (have hq := b9; clear hq; intro w b10 HX) | (have hq := b8; clear hq; intro w b9 HX) | (have hq := b7; clear hq; intro w b8 HX) | (have hq := b6; clear hq; intro w b7 HX) | (have hq := b5; clear hq; intro w b6 HX) | (have hq := b4; clear hq; intro w b5 HX) | (have hq := b3; clear hq; intro w b4 HX) | (have hq := b2; clear hq; intro w b3 HX) | (have hq := b; clear hq; intro w b2 HX) | intro w b HX); simp only [Act.put, List.setIfInBounds_toArray, List.set_cons_zero, List.set_cons_succ]) | (refine sWN ?_; clear HX; intro w mm HX; simp only [Act.put, List.setIfInBounds_toArray, List.set_cons_zero, List.set_cons_succ]) | (refine sWP ?_; clear HX; intro w av nv cv HX; simp only [Act.put, List.setIfInBounds_toArray, List.set_cons_zero, List.set_cons_succ]))
    refine (create_any (HX.out.perm (perm22 _ _ _ _ _)) HD.out ⟨1, path, data, ver, flags⟩ hp (Nat.le_trans HGO.out.2.1 (by decide)) HFO.out.2.2.2.2.1 HFO.out.2.2.2.2.2 hok sess zxid only).mono ?_
    rintro e w ⟨nv, P', rfl, hP', hnv, hx⟩
    clear HX
    have HX := Lib.hid hx
    obtain ⟨E, hE⟩ := Sep.poolGet hx hnv
    obtain ⟨na, nn, nc, rfl, -⟩ := id hE
    clear hx hE
    simp only [ResS.cells]
    go_wp2_with (first | (refine sWL ?_; simp only [Act.put, List.setIfInBounds_toArray, List.set_cons_zero, List.set_cons_succ, List.drop_zero, List.drop_succ_cons, List.take_succ_cons, List.take_zero, List.toList_toArray, NodeS.cells, OpS.cells, ResS.cells]) | (refine sWM ?_; simp only [Act.put, List.setIfInBounds_toArray, List.set_cons_zero, List.set_cons_succ]) | (refine sWS ?_; clear HX; intro w HX; simp only [Act.put, List.setIfInBounds_toArray, List.set_cons_zero, List.set_cons_succ, setMany, Nat.reduceAdd, NodeS.cells, OpS.cells, ResS.cells] at HX ⊢) | (refine sWT ?_; clear HX; intro w HX; simp only [Act.put, List.setIfInBounds_toArray, List.set_cons_zero, List.set_cons_succ, NodeS.cells, OpS.cells, ResS.cells] at HX ⊢) | (refine sWA ?_; clear HX; (first | (have hq := b9; clear hq; intro w b10 HX) | (have hq := b8; clear hq; intro w b9 HX) | (have hq := b7; clear hq; intro w b8 HX) | (have hq := b6; clear hq; intro w b7 HX) | (have hq := b5; clear hq; intro w b6 HX) | (have hq := b4; clear hq; intro w b5 HX) | (have hq := b3; clear hq; intro w b4 HX) | (have hq := b2; clear hq; intro w b3 HX) | (have hq := b; clear hq; intro w b2 HX) | intro w b HX); simp only [Act.put, List.setIfInBounds_toArray, List.set_cons_zero, List.set_cons_succ]) | (refine sWN ?_; clear HX; intro w mm HX; simp only [Act.put, List.setIfInBounds_toArray, List.set_cons_zero, List.set_cons_succ]) | (refine sWP ?_; clear HX; intro w av nv cv HX; simp only [Act.put, List.setIfInBounds_toArray, List.set_cons_zero, List.set_cons_succ]))
    refine sx_ret HX rfl rfl (by (repeat (first | (with_reducible exact List.mem_cons_self ..) | (with_reducible apply List.mem_cons_of_mem)))) (by kernel_rfl) ?_
    rw [← HS'.out, HE.out]
    have h9 := HX.out.cut2.cut2
    exact ⟨_, P', rfl, hP', hnv, by cases only <;> exact h9⟩
  have q3 : (kind == 1) = false := by rw [beq_eq_false_iff_ne]; exact hk1
  have HR4 := Lib.hid (show (if kind = 2 ∨ kind = 3 ∨ kind = 4 then changeT S ⟨kind, path, data, ver, flags⟩ zxid else (readT S ⟨kind, path, data, ver, flags⟩, S)) = rr by have := HR3.out; rw [if_neg hk1] at this; exact this)
  clear HR3 hk1
  by_cases hk : kind = 2 ∨ kind = 3 ∨ kind = 4
  · have HE := Lib.hid (show rr = changeT S ⟨kind, path, data, ver, flags⟩ zxid by have := HR4.out; rw [if_pos hk] at this; exact this.symm)
    clear HR4
    rcases hk with rfl | rfl | rfl
    · skip
      go_wp2_with (first | (refine sWL ?_; simp only [Act.put, List.setIfInBounds_toArray, List.set_cons_zero, List.set_cons_succ, List.drop_zero, List.drop_succ_cons, List.take_succ_cons, List.take_zero, List.toList_toArray, NodeS.cells, OpS.cells, ResS.cells]) | (refine sWM ?_; simp only [Act.put, List.setIfInBounds_toArray, List.set_cons_zero, List.set_cons_succ]) | (refine sWS ?_; clear HX; intro w HX; simp only [Act.put, List.setIfInBounds_toArray, List.set_cons_zero, List.set_cons_succ, setMany, Nat.reduceAdd, NodeS.cells, OpS.cells, ResS.cells] at HX ⊢) | (refine sWT ?_; clear HX; intro w HX; simp only [Act.put, List.setIfInBounds_toArray, List.set_cons_zero, List.set_cons_succ, NodeS.cells, OpS.cells, ResS.cells] at HX ⊢) | (refine sWA ?_; clear HX; (first | (have hq := b9; clear hq; intro w b10 HX) | (have hq := b8; clear hq; intro w b9 HX) | (have hq := b7; clear hq; intro w b8 HX) | (have hq := b6; clear hq; intro w b7 HX) | (have hq := b5; clear hq; intro w b6 HX) | (have hq := b4; clear hq; intro w b5 HX) | (have hq := b3; clear hq; intro w b4 HX) | (have hq := b2; clear hq; intro w b3 HX) | (have hq := b; clear hq; intro w b2 HX) | intro w b HX); simp only [Act.put, List.setIfInBounds_toArray, List.set_cons_zero, List.set_cons_succ]) | (refine sWN ?_; clear HX; intro w mm HX; simp only [Act.put, List.setIfInBounds_toArray, List.set_cons_zero, List.set_cons_succ]) | (refine sWP ?_; clear HX; intro w av nv cv HX; simp only [Act.put, List.setIfInBounds_toArray, List.set_cons_zero, List.set_cons_succ]))
      refine (change_any (HX.out.perm (perm22 _ _ _ _ _)) HD.out ⟨2, path, data, ver, flags⟩ hp (Nat.le_trans HGO.out.2.1 (by decide)) zxid only hok).mono ?_
      rintro e w ⟨nv, P', rfl, hP', hnv, hx⟩
      clear HX
      have HX := Lib.hid hx
      obtain ⟨E, hE⟩ := Sep.poolGet hx hnv
      obtain ⟨na, nn, nc, rfl, -⟩ := id hE
      clear hx hE
      simp only [ResS.cells]
      go_wp2_with (first | (refine sWL ?_; simp only [Act.put, List.setIfInBounds_toArray, List.set_cons_zero, List.set_cons_succ, List.drop_zero, List.drop_succ_cons, List.take_succ_cons, List.take_zero, List.toList_toArray, NodeS.cells, OpS.cells, ResS.cells]) | (refine sWM ?_; simp only [Act.put, List.setIfInBounds_toArray, List.set_cons_zero, List.set_cons_succ]) | (refine sWS ?_; clear HX; intro w HX; simp only [Act.put, List.setIfInBounds_toArray, List.set_cons_zero, List.set_cons_succ, setMany, Nat.reduceAdd, NodeS.cells, OpS.cells, ResS.cells] at HX ⊢) | (refine sWT ?_; clear HX; intro w HX; simp only [Act.put, List.setIfInBounds_toArray, List.set_cons_zero, List.set_cons_succ, NodeS.cells, OpS.cells, ResS.cells] at HX ⊢) | (refine sWA ?_; clear HX; (first | (have hq := b9; clear hq; intro w b10 HX) | (have hq := b8; clear hq; intro w b9 HX) | (have hq := b7; clear hq; intro w b8 HX) | (have hq := b6; clear hq; intro w b7 HX) | (have hq := b5; clear hq; intro w b6 HX) | (have hq := b4; clear hq; intro w b5 HX) | (have hq := b3; clear hq; intro w b4 HX) | (have hq := b2; clear hq; intro w b3 HX) | (have hq := b; clear hq; intro w b2 HX) | intro w b HX); simp only [Act.put, List.setIfInBounds_toArray, List.set_cons_zero, List.set_cons_succ]) | (refine sWN ?_; clear HX; intro w mm HX; simp only [Act.put, List.setIfInBounds_toArray, List.set_cons_zero, List.set_cons_succ]) | (refine sWP ?_; clear HX; intro w av nv cv HX; simp only [Act.put, List.setIfInBounds_toArray, List.set_cons_zero, List.set_cons_succ]))
      refine sx_ret HX rfl rfl (by (repeat (first | (with_reducible exact List.mem_cons_self ..) | (with_reducible apply List.mem_cons_of_mem)))) (by kernel_rfl) ?_
      rw [← HS'.out, HE.out]
      have h9 := HX.out.cut2.cut2
      exact ⟨_, P', rfl, hP', hnv, by cases only <;> exact h9⟩
    · skip
      go_wp2_with (first | (refine sWL ?_; simp only [Act.put, List.setIfInBounds_toArray, List.set_cons_zero, List.set_cons_succ, List.drop_zero, List.drop_succ_cons, List.take_succ_cons, List.take_zero, List.toList_toArray, NodeS.cells, OpS.cells, ResS.cells]) | (refine sWM ?_; simp only [Act.put, List.setIfInBounds_toArray, List.set_cons_zero, List.set_cons_succ]) | (refine sWS ?_; clear HX; intro w HX; simp only [Act.put, List.setIfInBounds_toArray, List.set_cons_zero, List.set_cons_succ, setMany, Nat.reduceAdd, NodeS.cells, OpS.cells, ResS.cells] at HX ⊢) | (refine sWT ?_; clear HX; intro w HX; simp only [Act.put, List.setIfInBounds_toArray, List.set_cons_zero, List.set_cons_succ, NodeS.cells, OpS.cells, ResS.cells] at HX ⊢) | (refine sWA ?_; clear HX; (first | (have hq := b9; clear hq; intro w b10 HX) | (have hq := b8; clear hq; intro w b9 HX) | (have hq := b7; clear hq; intro w b8 HX) | (have hq := b6; clear hq; intro w b7 HX) | (have hq := b5; clear hq; intro w b6 HX) | (have hq := b4; clear hq; intro w b5 HX) | (have hq := b3; clear hq; intro w b4 HX) | (have hq := b2; clear hq; intro w b3 HX) | (have hq := b; clear hq; intro w b2 HX) | intro w b HX); simp only [Act.put, List.setIfInBounds_toArray, List.set_cons_zero, List.set_cons_succ]) | (refine sWN ?_; clear HX; intro w mm HX; simp only [Act.put, List.setIfInBounds_toArray, List.set_cons_zero, List.set_cons_succ]) | (refine sWP ?_; clear HX; intro w av nv cv HX; simp only [Act.put, List.setIfInBounds_toArray, List.set_cons_zero, List.set_cons_succ]))
      refine (change_any (HX.out.perm (perm22 _ _ _ _ _)) HD.out ⟨3, path, data, ver, flags⟩ hp (Nat.le_trans HGO.out.2.1 (by decide)) zxid only hok).mono ?_
      rintro e w ⟨nv, P', rfl, hP', hnv, hx⟩
      clear HX
      have HX := Lib.hid hx
      obtain ⟨E, hE⟩ := Sep.poolGet hx hnv
      obtain ⟨na, nn, nc, rfl, -⟩ := id hE
      clear hx hE
      simp only [ResS.cells]
      go_wp2_with (first | (refine sWL ?_; simp only [Act.put, List.setIfInBounds_toArray, List.set_cons_zero, List.set_cons_succ, List.drop_zero, List.drop_succ_cons, List.take_succ_cons, List.take_zero, List.toList_toArray, NodeS.cells, OpS.cells, ResS.cells]) | (refine sWM ?_; simp only [Act.put, List.setIfInBounds_toArray, List.set_cons_zero, List.set_cons_succ]) | (refine sWS ?_; clear HX; intro w HX; simp only [Act.put, List.setIfInBounds_toArray, List.set_cons_zero, List.set_cons_succ, setMany, Nat.reduceAdd, NodeS.cells, OpS.cells, ResS.cells] at HX ⊢) | (refine sWT ?_; clear HX; intro w HX; simp only [Act.put, List.setIfInBounds_toArray, List.set_cons_zero, List.set_cons_succ, NodeS.cells, OpS.cells, ResS.cells] at HX ⊢) | (refine sWA ?_; clear HX; (first | (have hq := b9; clear hq; intro w b10 HX) | (have hq := b8; clear hq; intro w b9 HX) | (have hq := b7; clear hq; intro w b8 HX) | (have hq := b6; clear hq; intro w b7 HX) | (have hq := b5; clear hq; intro w b6 HX) | (have hq := b4; clear hq; intro w b5 HX) | (have hq := b3; clear hq; intro w b4 HX) | (have hq := b2; clear hq; intro w b3 HX) | (have hq := b; clear hq; intro w b2 HX) | intro w b HX); simp only [Act.put, List.setIfInBounds_toArray, List.set_cons_zero, List.set_cons_succ]) | (refine sWN ?_; clear HX; intro w mm HX; simp only [Act.put, List.setIfInBounds_toArray, List.set_cons_zero, List.set_cons_succ]) | (refine sWP ?_; clear HX; intro w av nv cv HX; simp only [Act.put, List.setIfInBounds_toArray, List.set_cons_zero, List.set_cons_succ]))
      refine sx_ret HX rfl rfl (by (repeat (first | (with_reducible exact List.mem_cons_self ..) | (with_reducible apply List.mem_cons_of_mem)))) (by kernel_rfl) ?_
      rw [← HS'.out, HE.out]
      have h9 := HX.out.cut2.cut2
      exact ⟨_, P', rfl, hP', hnv, by cases only <;> exact h9⟩
    · skip
      go_wp2_with (first | (refine sWL ?_; simp only [Act.put, List.setIfInBounds_toArray, List.set_cons_zero, List.set_cons_succ, List.drop_zero, List.drop_succ_cons, List.take_succ_cons, List.take_zero, List.toList_toArray, NodeS.cells, OpS.cells, ResS.cells]) | (refine sWM ?_; simp only [Act.put, List.setIfInBounds_toArray, List.set_cons_zero, List.set_cons_succ]) | (refine sWS ?_; clear HX; intro w HX; simp only [Act.put, List.setIfInBounds_toArray, List.set_cons_zero, List.set_cons_succ, setMany, Nat.reduceAdd, NodeS.cells, OpS.cells, ResS.cells] at HX ⊢) | (refine sWT ?_; clear HX; intro w HX; simp only [Act.put, List.setIfInBounds_toArray, List.set_cons_zero, List.set_cons_succ, NodeS.cells, OpS.cells, ResS.cells] at HX ⊢) | (refine sWA ?_; clear HX; (first | (have hq := b9; clear hq; intro w b10 HX) | (have hq := b8; clear hq; intro w b9 HX) | (have hq := b7; clear hq; intro w b8 HX) | (have hq := b6; clear hq; intro w b7 HX) | (have hq := b5; clear hq; intro w b6 HX) | (have hq := b4; clear hq; intro w b5 HX) | (have hq := b3; clear hq; intro w b4 HX) | (have hq := b2; clear hq; intro w b3 HX) | (have hq := b; clear hq; intro w b2 HX) | intro w b HX); simp only [Act.put, List.setIfInBounds_toArray, List.set_cons_zero, List.set_cons_succ]) | (refine sWN ?_; clear HX; intro w mm HX; simp only [Act.put, List.setIfInBounds_toArray, List.set_cons_zero, List.set_cons_succ]) | (refine sWP ?_; clear HX; intro w av nv cv HX; simp only [Act.put, List.setIfInBounds_toArray, List.set_cons_zero, List.set_cons_succ]))
      refine (change_any (HX.out.perm (perm22 _ _ _ _ _)) HD.out ⟨4, path, data, ver, flags⟩ hp (Nat.le_trans HGO.out.2.1 (by decide)) zxid only hok).mono ?_
      rintro e w ⟨nv, P', rfl, hP', hnv, hx⟩
      clear HX
      have HX := Lib.hid hx
      obtain ⟨E, hE⟩ := Sep.poolGet hx hnv
      obtain ⟨na, nn, nc, rfl, -⟩ := id hE
      clear hx hE
      simp only [ResS.cells]
      go_wp2_with (first | (refine sWL ?_; simp only [Act.put, List.setIfInBounds_toArray, List.set_cons_zero, List.set_cons_succ, List.drop_zero, List.drop_succ_cons, List.take_succ_cons, List.take_zero, List.toList_toArray, NodeS.cells, OpS.cells, ResS.cells]) | (refine sWM ?_; simp only [Act.put, List.setIfInBounds_toArray, List.set_cons_zero, List.set_cons_succ]) | (refine sWS ?_; clear HX; intro w HX; simp only [Act.put, List.setIfInBounds_toArray, List.set_cons_zero, List.set_cons_succ, setMany, Nat.reduceAdd, NodeS.cells, OpS.cells, ResS.cells] at HX ⊢) | (refine sWT ?_; clear HX; intro w HX; simp only [Act.put, List.setIfInBounds_toArray, List.set_cons_zero, List.set_cons_succ, NodeS.cells, OpS.cells, ResS.cells] at HX ⊢) | (refine sWA ?_; clear HX; (first | (have hq := b9; clear hq; intro w b10 HX) | (have hq := b8; clear hq; intro w b9 HX) | (have hq := b7; clear hq; intro w b8 HX) | (have hq := b6; clear hq; intro w b7 HX) | (have hq := b5; clear hq; intro w b6 HX) | (have hq := b4; clear hq; intro w b5 HX) | (have hq := b3; clear hq; intro w b4 HX) | (have hq := b2; clear hq; intro w b3 HX) | (have hq := b; clear hq; intro w b2 HX) | intro w b HX); simp only [Act.put, List.setIfInBounds_toArray, List.set_cons_zero, List.set_cons_succ]) | (refine sWN ?_; clear HX; intro w mm HX; simp only [Act.put, List.setIfInBounds_toArray, List.set_cons_zero, List.set_cons_succ]) | (refine sWP ?_; clear HX; intro w av nv cv HX; simp only [Act.put, List.setIfInBounds_toArray, List.set_cons_zero, List.set_cons_succ]))
      refine sx_ret HX rfl rfl (by (repeat (first | (with_reducible exact List.mem_cons_self ..) | (with_reducible apply List.mem_cons_of_mem)))) (by kernel_rfl) ?_
      rw [← HS'.out, HE.out]
      have h9 := HX.out.cut2.cut2
      exact ⟨_, P', rfl, hP', hnv, by cases only <;> exact h9⟩
  have HE := Lib.hid (show rr = (readT S ⟨kind, path, data, ver, flags⟩, S) by have := HR4.out; rw [if_neg hk] at this; exact this.symm)
  have q4 : (kind == 2) = false := by rw [beq_eq_false_iff_ne]; exact fun h => hk (.inl h)
  have q5 : (kind == 3) = false := by rw [beq_eq_false_iff_ne]; exact fun h => hk (.inr (.inl h))
  have q6 : (kind == 4) = false := by rw [beq_eq_false_iff_ne]; exact fun h => hk (.inr (.inr h))
  clear HR4 hk
  go_wp2_with (first | (refine sWL ?_; simp only [Act.put, List.setIfInBounds_toArray, List.set_cons_zero, List.set_cons_succ, List.drop_zero, List.drop_succ_cons, List.take_succ_cons, List.take_zero, List.toList_toArray, NodeS.cells, OpS.cells, ResS.cells]) | (refine sWM ?_; simp only [Act.put, List.setIfInBounds_toArray, List.set_cons_zero, List.set_cons_succ]) | (refine sWS ?_; clear HX; intro w HX; simp only [Act.put, List.setIfInBounds_toArray, List.set_cons_zero, List.set_cons_succ, setMany, Nat.reduceAdd, NodeS.cells, OpS.cells, ResS.cells] at HX ⊢) | (refine sWT ?_; clear HX; intro w HX; simp only [Act.put, List.setIfInBounds_toArray, List.set_cons_zero, List.set_cons_succ, NodeS.cells, OpS.cells, ResS.cells] at HX ⊢) | (refine sWA ?_; clear HX; (first | (have hq := b9; clear hq; intro w b10 HX) | (have hq := b8; clear hq; intro w b9 HX) | (have hq := b7; clear hq; intro w b8 HX) | (have hq := b6; clear hq; intro w b7 HX) | (have hq := b5; clear hq; intro w b6 HX) | (have hq := b4; clear hq; intro w b5 HX) | (have hq := b3; clear hq; intro w b4 HX) | (have hq := b2; clear hq; intro w b3 HX) | (have hq := b; clear hq; intro w b2 HX) | intro w b HX); simp only [Act.put, List.setIfInBounds_toArray, List.set_cons_zero, List.set_cons_succ]) | (refine sWN ?_; clear HX; intro w mm HX; simp only [Act.put, List.setIfInBounds_toArray, List.set_cons_zero, List.set_cons_succ]) | (refine sWP ?_; clear HX; intro w av nv cv HX; simp only [Act.put, List.setIfInBounds_toArray, List.set_cons_zero, List.set_cons_succ]))
  refine (read_any (HX.out.perm (perm22 _ _ _ _ _)) ⟨kind, path, data, ver, flags⟩ hok).mono ?_
  rintro e w ⟨nv, P', rfl, hP', hnv, hx⟩
  clear HX
  have HX := Lib.hid hx
  obtain ⟨E, hE⟩ := Sep.poolGet hx hnv
  obtain ⟨na, nn, nc, rfl, -⟩ := id hE
  clear hx hE
  simp only [ResS.cells]
  go_wp2_with (first | (refine sWL ?_; simp only [Act.put, List.setIfInBounds_toArray, List.set_cons_zero, List.set_cons_succ, List.drop_zero, List.drop_succ_cons, List.take_succ_cons, List.take_zero, List.toList_toArray, NodeS.cells, OpS.cells, ResS.cells]) | (refine sWM ?_; simp only [Act.put, List.setIfInBounds_toArray, List.set_cons_zero, List.set_cons_succ]) | (refine sWS ?_; clear HX; intro w HX; simp only [Act.put, List.setIfInBounds_toArray, List.set_cons_zero, List.set_cons_succ, setMany, Nat.reduceAdd, NodeS.cells, OpS.cells, ResS.cells] at HX ⊢) | (refine sWT ?_; clear HX; intro w HX; simp only [Act.put, List.setIfInBounds_toArray, List.set_cons_zero, List.set_cons_succ, NodeS.cells, OpS.cells, ResS.cells] at HX ⊢) | (refine sWA ?_; clear HX; (first | (have hq := b9; clear hq; intro w b10 HX) | (have hq := b8; clear hq; intro w b9 HX) | (have hq := b7; clear hq; intro w b8 HX) | (have hq := b6; clear hq; intro w b7 HX) | (have hq := b5; clear hq; intro w b6 HX) | (have hq := b4; clear hq; intro w b5 HX) | (have hq := b3; clear hq; intro w b4 HX) | (have hq := b2; clear hq; intro w b3 HX) | (have hq := b; clear hq; intro w b2 HX) | intro w b HX); simp only [Act.put, List.setIfInBounds_toArray, List.set_cons_zero, List.set_cons_succ]) | (refine sWN ?_; clear HX; intro w mm HX; simp only [Act.put, List.setIfInBounds_toArray, List.set_cons_zero, List.set_cons_succ]) | (refine sWP ?_; clear HX; intro w av nv cv HX; simp only [Act.put, List.setIfInBounds_toArray, List.set_cons_zero, List.set_cons_succ]))
  refine sx_ret HX rfl rfl (by (repeat (first | (with_reducible exact List.mem_cons_self ..) | (with_reducible apply List.mem_cons_of_mem)))) (by kernel_rfl) ?_
  rw [← HS'.out, HE.out]
  have h9 := HX.out.cut2.cut2
  exact ⟨_, P', rfl, hP', hnv, by cases only <;> exact h9⟩
end
end Go.Proofs.YtjeaoopamebgjaaGreatDoor

/-
  The walk by things: a range over a map; one of many things taken up.
-/
namespace Go.Av
open Go.RowKit
/-- A map, and an iterator over it. -/
def ThIter (d : TypeDesc) (m r : Nat) (l left : List (Value × Value)) : Thing :=
  ⟨fun w D => RangeIs w d m r l left ∧ m ≠ r ∧ D = [m, r], fun h hs => ⟨h.1.frame (hs _ (by simp [h.2.2])) (hs _ (by simp [h.2.2])), h.2⟩, fun h x hx => by
    rw [h.2.2] at hx
    obtain ⟨es, clock, seen, a1, a2, a3, a4, a5, a6⟩ := h.1
    rcases List.mem_cons.1 hx with rfl | hx
    · exact lt_of_heap a1
    · rw [List.mem_singleton] at hx; subst hx; exact lt_of_heap a5⟩
section
variable {P : Program} {w0 w : World} {R : List Thing} {rows : List (Value × Bs)} {d : TypeDesc} {m r : Nat} {l : List (Value × Value)}
theorem it_start {t k e : TypeId} (h : Sep w0 w (ThMap d m l :: R) rows) (ht : P.underlying t = some (.map k e)) :
    ∃ r w', (Instr.range t (.map (some m))).run P w = .ok (.pointer (some ⟨r, 0, none⟩)) w' ∧ Sep w0 w' (ThIter d m r l l :: R) rows := by
  obtain ⟨D, hP, _, back⟩ := h.use
  obtain ⟨o, hrun, hR⟩ := mp_range (P := P) hP.1 ht
  have hlt := hP.1.lt
  refine ⟨w.heap.size, w.alloc o, hrun, back (w.alloc o) [m, w.heap.size] (ThIter d m w.heap.size l l) ?_ ⟨hR, by omega, rfl⟩⟩
  rw [hP.2]
  exact (Upd.alloc1 w o [m]).mono (fun _ h => h) (fun b hb => by
    simp only [List.mem_cons, List.not_mem_nil, or_false] at hb ⊢
    rcases hb with h | h <;> simp [h])
theorem it_next {α : Type} (ent : α → Value × Value) {left : List α} (h : Sep w0 w (ThIter d m r l (left.map ent) :: R) rows) :
    (left = [] ∧ ∀ ty, (Instr.next (.pointer (some ⟨r, 0, none⟩)) false ty).run P w = .ok (.tuple #[.bool false]) w) ∨
    ∃ l1 g l2 w', left = l1 ++ g :: l2 ∧ (∀ ty, (Instr.next (.pointer (some ⟨r, 0, none⟩)) false ty).run P w = .ok (.tuple #[.bool true, (ent g).1, (ent g).2]) w') ∧ Sep w0 w' (ThIter d m r l ((l1 ++ l2).map ent) :: R) rows ∧
      (Instr.entry (.pointer (some ⟨r, 0, none⟩))).run P w' = .ok (.tuple #[(ent g).1, (ent g).2]) w' := by
  obtain ⟨D, hP, _, back⟩ := h.use
  obtain ⟨hR, hne, rfl⟩ := hP
  rcases mp_next (P := P) ent hR hne with ⟨h0, hn⟩ | ⟨l1, g, l2, w', h0, hn, hR', hu, he⟩
  · exact .inl ⟨h0, hn⟩
  · exact .inr ⟨l1, g, l2, w', h0, hn, back w' [m, r] (ThIter d m r l ((l1 ++ l2).map ent)) (hu.mono (by simp) (fun b hb => .inr hb)) ⟨hR', hne, rfl⟩, he⟩
theorem it_end {left : List (Value × Value)} (h : Sep w0 w (ThIter d m r l left :: R) rows) : Sep w0 w (ThMap d m l :: R) rows := by
  obtain ⟨D, hP, _, back⟩ := h.use
  obtain ⟨⟨es, clock, seen, a1, a2, a3, a4, a5, a6⟩, hne, rfl⟩ := hP
  exact back w [m] (ThMap d m l) (Upd.mono (Upd.refl w [m, r]) (fun _ h => h) (fun b hb => .inr (by simp at hb; simp [hb]))) ⟨⟨es, clock, a1, a2, a3, a4⟩, rfl⟩
/-- One of many things. -/
theorem thl_out {α : Type} {f : α → Thing} {l1 l2 : List α} {g : α} (h : Sep w0 w (ThL ((l1 ++ g :: l2).map f) :: R) rows) : Sep w0 w (f g :: ThL ((l1 ++ l2).map f) :: R) rows := by
  have h1 := h.opensL
  have h2 : Sep w0 w (((l1 ++ l2).map f) ++ (f g :: R)) rows := h1.perm (by
    simp only [List.map_append, List.map_cons, List.append_assoc, List.cons_append]
    refine List.Perm.append_left _ ?_
    exact List.perm_middle.symm)
  exact h2.shutL.perm (List.Perm.swap _ _ _)
theorem thl_in {α : Type} {f : α → Thing} {l1 l2 : List α} {g : α} (h : Sep w0 w (f g :: ThL ((l1 ++ l2).map f) :: R) rows) : Sep w0 w (ThL ((l1 ++ g :: l2).map f) :: R) rows := by
  have h1 := (h.perm (List.Perm.swap _ _ _)).opensL
  refine Sep.shutL (h1.perm ?_)
  simp only [List.map_append, List.map_cons, List.append_assoc, List.cons_append]
  refine List.Perm.append_left _ ?_
  exact List.perm_middle
theorem thl_add {α : Type} {f : α → Thing} {l1 : List α} {g : α} (h : Sep w0 w (f g :: ThL (l1.map f) :: R) rows) : Sep w0 w (ThL ((l1 ++ [g]).map f) :: R) rows := by
  have h2 : Sep w0 w (f g :: ThL ((l1 ++ []).map f) :: R) rows := by rw [List.append_nil]; exact h
  exact thl_in h2
theorem thl_nil (h : Sep w0 w R rows) : Sep w0 w (ThL [] :: R) rows := Sep.shutL (N := []) h
/-- A key more. -/
theorem Sep.mapAdd {t k e : TypeId} {key v : Value} (h : Sep w0 w (ThMap d m l :: R) rows) (ht : P.underlying t = some (.map k e)) (hd : P.underlying k = some d) (hk : MapKept.IsKey d key) (hn : ∀ p ∈ l, p.1 ≠ key) :
    ∃ w', (Instr.mapUpdate t (.map (some m)) key v).run P w = .ok () w' ∧ Sep w0 w' (ThMap d m (l ++ [(key, v)]) :: R) rows := by
  obtain ⟨w', hrun, hM, hU⟩ := mp_new (P := P) (v := v) h.mapIs ht hd hk hn
  exact ⟨w', hrun, h.mapTo hU hM⟩
end
end Go.Av
namespace Go.Proofs.YtjeaoopamebgjaaGreatDoor
open Go.RowKit Go.Av
section
variable {w0 w : World} {t m : Nat} {S : TreeS} {P P' : List PRow} {R : List Thing} {rows : List (Value × Bs)} {gs : List NodeG}
/-- A tree, all of it opened. -/
theorem tree_open (h : Sep w0 w (ThTree t S P :: R) rows) :
    ∃ (m : Nat) (gs : List NodeG), (gs.map NodeG.ent).Perm S.l ∧ RiseT S.l ∧ (∀ g ∈ gs, (1, g.nv, g.n.names.map sv) ∈ P) ∧ Sep w0 w (thTree t m S.room :: ThMap .string m (gs.map NodeG.kv) :: ThL (gs.map NodeG.th) :: R) rows := by
  obtain ⟨L, ⟨m, gs, rfl, h1, h2, h3⟩, hS⟩ := h.opens
  exact ⟨m, gs, h1, h2, h3, (Sep.shutL (N := gs.map NodeG.th) (R := thTree t m S.room :: ThMap .string m (gs.map NodeG.kv) :: R) (hS.perm (mid_perm [_, _] _ R))).perm (List.perm_middle (l₁ := [_, _])).symm⟩
theorem tree_shut (h : Sep w0 w (thTree t m S.room :: ThMap .string m (gs.map NodeG.kv) :: ThL (gs.map NodeG.th) :: R) rows) (h1 : (gs.map NodeG.ent).Perm S.l) (h2 : RiseT S.l) (h3 : ∀ g ∈ gs, (1, g.nv, g.n.names.map sv) ∈ P) : Sep w0 w (ThTree t S P :: R) rows := by
  refine Sep.shut (O := TrO t S P) (L := trTh t m S.room gs) ⟨m, gs, rfl, h1, h2, h3⟩ ?_
  have h6 := (h.perm (List.perm_middle (l₁ := [_, _]))).opensL
  exact h6.perm (mid_perm [_, _] _ R).symm
end
end Go.Proofs.YtjeaoopamebgjaaGreatDoor

/-
  A tree: the walks of Do, Try, Copy.
-/
set_option linter.unusedSimpArgs false
namespace Go.Proofs.YtjeaoopamebgjaaGreatDoor
open Go.RowKit Go.Av
section
variable {w0 w : World} {t : Nat} {S : TreeS} {P P' : List PRow} {R : List Thing} {rows : List (Value × Bs)}
set_option maxRecDepth 100000 in
theorem tdo_any (h : Sep w0 w (ThPool w0 P :: ThTree t S P :: R) rows) (hd : DoorN w0) (o : OpS) (hp : o.path.size ≤ 100000) (sess zxid : Int) (hok : ∀ e ∈ S.l, NodeOk e.2) :
    Calls Tryz.prog 12 #[.pointer (some ⟨t, 0, none⟩), o.val, .int .i64 sess, .int .i64 zxid] w (ResPost w0 t (doT S o sess zxid).2 P R rows (doT S o sess zxid).1) := by
  have HX := Lib.hid h
  clear h
  obtain ⟨kind, path, data, ver, flags⟩ := o
  unfold OpS.val
  dsimp only at hp ⊢
  obtain ⟨rr, hrr⟩ : ∃ rr, doT S ⟨kind, path, data, ver, flags⟩ sess zxid = rr := ⟨_, rfl⟩
  rw [hrr]
  have HR := Lib.hid hrr
  clear hrr
  go_enter Tryz.func12, Tryz.ntmps12
  go_wp2_with (first | (refine sWL ?_; simp only [Act.put, List.setIfInBounds_toArray, List.set_cons_zero, List.set_cons_succ, List.drop_zero, List.drop_succ_cons, List.take_succ_cons, List.take_zero, List.toList_toArray, NodeS.cells, OpS.cells, ResS.cells]) | (refine sWM ?_; simp only [Act.put, List.setIfInBounds_toArray, List.set_cons_zero, List.set_cons_succ]) | (refine sWS ?_; clear HX; intro w HX; simp only [Act.put, List.setIfInBounds_toArray, List.set_cons_zero, List.set_cons_succ, setMany, Nat.reduceAdd, NodeS.cells, OpS.cells, ResS.cells] at HX ⊢) | (refine sWT ?_; clear HX; intro w HX; simp only [Act.put, List.setIfInBounds_toArray, List.set_cons_zero, List.set_cons_succ, NodeS.cells, OpS.cells, ResS.cells] at HX ⊢) | (refine sWA ?_; clear HX; (first | (have hq := b9; clear hq; intro w b10 HX) | (have hq := b8; clear hq; intro w b9 HX) | (have hq := b7; clear hq; intro w b8 HX) | (have hq := b6; clear hq; intro w b7 HX) | (have hq := b5; clear hq; intro w b6 HX) | (have hq := b4; clear hq; intro w b5 HX) | (have hq := b3; clear hq; intro w b4 HX) | (have hq := b2; clear hq; intro w b3 HX) | (have hq := b; clear hq; intro w b2 HX) | intro w b HX); simp only [Act.put, List.setIfInBounds_toArray, List.set_cons_zero, List.set_cons_succ]) | (refine sWN ?_; clear HX; intro w mm HX; simp only [Act.put, List.setIfInBounds_toArray, List.set_cons_zero, List.set_cons_succ]) | (refine sWP ?_; clear HX; intro w av nv cv HX; simp only [Act.put, List.setIfInBounds_toArray, List.set_cons_zero, List.set_cons_succ]))
  refine (do_any (HX.out.perm (perm22 _ _ _ _ _)) hd ⟨kind, path, data, ver, flags⟩ hp sess zxid false hok).mono ?_
  rw [HR.out]
  rintro e w ⟨nv, P', rfl, hP', hnv, hx⟩
  clear HX
  have HX := Lib.hid hx
  obtain ⟨E, hE⟩ := Sep.poolGet hx hnv
  obtain ⟨na, nn, nc, rfl, -⟩ := id hE
  clear hx hE
  simp only [ResS.cells]
  go_wp2_with (first | (refine sWL ?_; simp only [Act.put, List.setIfInBounds_toArray, List.set_cons_zero, List.set_cons_succ, List.drop_zero, List.drop_succ_cons, List.take_succ_cons, List.take_zero, List.toList_toArray, NodeS.cells, OpS.cells, ResS.cells]) | (refine sWM ?_; simp only [Act.put, List.setIfInBounds_toArray, List.set_cons_zero, List.set_cons_succ]) | (refine sWS ?_; clear HX; intro w HX; simp only [Act.put, List.setIfInBounds_toArray, List.set_cons_zero, List.set_cons_succ, setMany, Nat.reduceAdd, NodeS.cells, OpS.cells, ResS.cells] at HX ⊢) | (refine sWT ?_; clear HX; intro w HX; simp only [Act.put, List.setIfInBounds_toArray, List.set_cons_zero, List.set_cons_succ, NodeS.cells, OpS.cells, ResS.cells] at HX ⊢) | (refine sWA ?_; clear HX; (first | (have hq := b9; clear hq; intro w b10 HX) | (have hq := b8; clear hq; intro w b9 HX) | (have hq := b7; clear hq; intro w b8 HX) | (have hq := b6; clear hq; intro w b7 HX) | (have hq := b5; clear hq; intro w b6 HX) | (have hq := b4; clear hq; intro w b5 HX) | (have hq := b3; clear hq; intro w b4 HX) | (have hq := b2; clear hq; intro w b3 HX) | (have hq := b; clear hq; intro w b2 HX) | intro w b HX); simp only [Act.put, List.setIfInBounds_toArray, List.set_cons_zero, List.set_cons_succ]) | (refine sWN ?_; clear HX; intro w mm HX; simp only [Act.put, List.setIfInBounds_toArray, List.set_cons_zero, List.set_cons_succ]) | (refine sWP ?_; clear HX; intro w av nv cv HX; simp only [Act.put, List.setIfInBounds_toArray, List.set_cons_zero, List.set_cons_succ]))
  refine sx_ret HX rfl rfl (by (repeat (first | (with_reducible exact List.mem_cons_self ..) | (with_reducible apply List.mem_cons_of_mem)))) (by kernel_rfl) ?_
  have h9 := HX.out.cut2.cut2
  exact ⟨_, P', rfl, hP', hnv, h9⟩
/-- What Copy leaves. -/
def TwoPost (w0 : World) (t : Nat) (S : TreeS) (P : List PRow) (R : List Thing) (rows : List (Value × Bs)) (e : Ending) (w' : World) : Prop :=
  ∃ c P', e = .returned (.pointer (some ⟨c, 0, none⟩)) ∧ (∀ r ∈ P, r ∈ P') ∧ Sep w0 w' (ThPool w0 P' :: ThTree c S P' :: ThTree t S P' :: R) rows
def CopyRel (w0 : World) (t m r c mc : Nat) (S : TreeS) (P : List PRow) (R : List Thing) (rows : List (Value × Bs)) (gs : List NodeG) (k : Nat) (w : World) : Prop :=
  ∃ (left done : List NodeG) (P' : List PRow), left.length = k ∧ (done.map NodeG.ent ++ left.map NodeG.ent).Perm (gs.map NodeG.ent) ∧ (∀ g ∈ left, g ∈ gs) ∧ (∀ q ∈ P, q ∈ P') ∧ (∀ g ∈ done, (1, g.nv, g.n.names.map sv) ∈ P') ∧
    Sep w0 w (ThIter .string m r (gs.map NodeG.kv) (left.map NodeG.kv) :: ThL (gs.map NodeG.th) :: thTree t m S.room :: thTree c mc S.room :: ThMap .string mc (done.map NodeG.kv) :: ThL (done.map NodeG.th) :: ThPool w0 P' :: R) rows
theorem copy_key {done gs : List NodeG} {g : NodeG} {l1 l2 : List NodeG} (hp : (done.map NodeG.ent ++ (l1 ++ g :: l2).map NodeG.ent).Perm (gs.map NodeG.ent)) (hn : (gs.map NodeG.key).Nodup) : (∀ q ∈ done.map NodeG.kv, q.1 ≠ sv g.key) ∧
    ∀ g' : NodeG, g'.ent = g.ent → ((done ++ [g']).map NodeG.ent ++ (l1 ++ l2).map NodeG.ent).Perm (gs.map NodeG.ent) := by
  constructor
  · intro q hq e
    obtain ⟨x, hx, rfl⟩ := List.mem_map.1 hq
    have h1 : ((done.map NodeG.ent ++ (l1 ++ g :: l2).map NodeG.ent).map (·.1)).Nodup := by
      refine ((hp.map (·.1)).nodup_iff).2 ?_
      rw [List.map_map]
      exact hn
    rw [List.map_append, List.nodup_append] at h1
    exact h1.2.2 x.key (List.mem_map.2 ⟨x.ent, List.mem_map_of_mem hx, rfl⟩) g.key (List.mem_map.2 ⟨g.ent, List.mem_map_of_mem (by simp), rfl⟩) (sv_inj e)
  · intro g' hg'
    refine List.Perm.trans ?_ hp
    simp only [List.map_append, List.map_cons, List.map_nil, hg', List.append_assoc]
    refine List.Perm.append_left _ ?_
    rw [List.singleton_append]
    exact List.perm_middle.symm
set_option maxRecDepth 100000 in
set_option maxHeartbeats 4000000 in
theorem treecopy_any (h : Sep w0 w (ThPool w0 P :: ThTree t S P :: R) rows) (hok : ∀ e ∈ S.l, NodeOk e.2) :
    Calls Tryz.prog 16 #[.pointer (some ⟨t, 0, none⟩)] w (TwoPost w0 t S P R rows) := by
  obtain ⟨m, gs, hperm, hrise, hgs, hS⟩ := tree_open (h.perm (List.Perm.swap _ _ _))
  have HPM := Lib.hid hperm
  have HRI := Lib.hid hrise
  have HGS := Lib.hid hgs
  have HOK := Lib.hid (show ∀ g ∈ gs, NodeOk g.n from fun g hg => hok g.ent (hperm.mem_iff.1 (List.mem_map_of_mem hg)))
  have HND := Lib.hid (keys_nodup hperm hrise)
  have HX := Lib.hid hS
  clear h hperm hrise hgs hS hok
  go_enter Tryz.func16, Tryz.ntmps16
  go_upto_region 2 with (first | (refine sWL ?_; simp only [Act.put, List.setIfInBounds_toArray, List.set_cons_zero, List.set_cons_succ, List.drop_zero, List.drop_succ_cons, List.take_succ_cons, List.take_zero, List.toList_toArray, NodeS.cells, OpS.cells, ResS.cells]) | (refine sWM ?_; simp only [Act.put, List.setIfInBounds_toArray, List.set_cons_zero, List.set_cons_succ]) | (refine sWS ?_; clear HX; intro w HX; simp only [Act.put, List.setIfInBounds_toArray, List.set_cons_zero, List.set_cons_succ, setMany, Nat.reduceAdd, NodeS.cells, OpS.cells, ResS.cells] at HX ⊢) | (refine sWT ?_; clear HX; intro w HX; simp only [Act.put, List.setIfInBounds_toArray, List.set_cons_zero, List.set_cons_succ, NodeS.cells, OpS.cells, ResS.cells] at HX ⊢) | (refine sWA ?_; clear HX; (first | (have hq := b9; clear hq; intro w b10 HX) | (have hq := b8; clear hq; intro w b9 HX) | (have hq := b7; clear hq; intro w b8 HX) | (have hq := b6; clear hq; intro w b7 HX) | (have hq := b5; clear hq; intro w b6 HX) | (have hq := b4; clear hq; intro w b5 HX) | (have hq := b3; clear hq; intro w b4 HX) | (have hq := b2; clear hq; intro w b3 HX) | (have hq := b; clear hq; intro w b2 HX) | intro w b HX); simp only [Act.put, List.setIfInBounds_toArray, List.set_cons_zero, List.set_cons_succ]) | (refine sWN ?_; clear HX; intro w mm HX; simp only [Act.put, List.setIfInBounds_toArray, List.set_cons_zero, List.set_cons_succ]) | (refine sWP ?_; clear HX; intro w av nv cv HX; simp only [Act.put, List.setIfInBounds_toArray, List.set_cons_zero, List.set_cons_succ]))
  obtain ⟨r, w9, hrun, h9⟩ := it_start (P := Tryz.prog) HX.out.up3 Tryz.underlying79
  have HST := Lib.hid (show CopyRel w0 t m r b mm S P R rows gs gs.length w9 from ⟨gs, [], P, rfl, by simp, fun _ h => h, fun _ h => h, by simp, (thl_nil h9).up3.up3.up4.up5.up5⟩)
  go_wp2_with (first | (refine sWL ?_; simp only [Act.put, List.setIfInBounds_toArray, List.set_cons_zero, List.set_cons_succ, List.drop_zero, List.drop_succ_cons, List.take_succ_cons, List.take_zero, List.toList_toArray, NodeS.cells, OpS.cells, ResS.cells]) | (refine sWM ?_; simp only [Act.put, List.setIfInBounds_toArray, List.set_cons_zero, List.set_cons_succ]) | (refine sWS ?_; clear HX; intro w HX; simp only [Act.put, List.setIfInBounds_toArray, List.set_cons_zero, List.set_cons_succ, setMany, Nat.reduceAdd, NodeS.cells, OpS.cells, ResS.cells] at HX ⊢) | (refine sWT ?_; clear HX; intro w HX; simp only [Act.put, List.setIfInBounds_toArray, List.set_cons_zero, List.set_cons_succ, NodeS.cells, OpS.cells, ResS.cells] at HX ⊢) | (refine sWA ?_; clear HX; (first | (have hq := b9; clear hq; intro w b10 HX) | (have hq := b8; clear hq; intro w b9 HX) | (have hq := b7; clear hq; intro w b8 HX) | (have hq := b6; clear hq; intro w b7 HX) | (have hq := b5; clear hq; intro w b6 HX) | (have hq := b4; clear hq; intro w b5 HX) | (have hq := b3; clear hq; intro w b4 HX) | (have hq := b2; clear hq; intro w b3 HX) | (have hq := b; clear hq; intro w b2 HX) | intro w b HX); simp only [Act.put, List.setIfInBounds_toArray, List.set_cons_zero, List.set_cons_succ]) | (refine sWN ?_; clear HX; intro w mm HX; simp only [Act.put, List.setIfInBounds_toArray, List.set_cons_zero, List.set_cons_succ]) | (refine sWP ?_; clear HX; intro w av nv cv HX; simp only [Act.put, List.setIfInBounds_toArray, List.set_cons_zero, List.set_cons_succ]))
  clear HX hrun h9
  go_loopg [4] gs.length (fun k _ wr => CopyRel w0 t m r b mm S P R rows gs k wr)
  case atStart => exact HST.out
  case round =>
    obtain ⟨left, done, P', hk, hpm, hin, hP', hdn, hS⟩ := hrel
    rcases it_next (P := Tryz.prog) NodeG.kv hS with ⟨rfl, hn⟩ | ⟨l1, g, l2, w1, rfl, hn, h1, hen⟩
    · have HF := Lib.hid (show _ ∧ _ ∧ _ from ⟨hpm, hP', hdn⟩)
      have HX := Lib.hid hS
      clear hpm hP' hdn hS hk hin
      go_wp2_with (first | (refine sWL ?_; simp only [Act.put, List.setIfInBounds_toArray, List.set_cons_zero, List.set_cons_succ, List.drop_zero, List.drop_succ_cons, List.take_succ_cons, List.take_zero, List.toList_toArray, NodeS.cells, OpS.cells, ResS.cells]) | (refine sWM ?_; simp only [Act.put, List.setIfInBounds_toArray, List.set_cons_zero, List.set_cons_succ]) | (refine sWS ?_; clear HX; intro w HX; simp only [Act.put, List.setIfInBounds_toArray, List.set_cons_zero, List.set_cons_succ, setMany, Nat.reduceAdd, NodeS.cells, OpS.cells, ResS.cells] at HX ⊢) | (refine sWT ?_; clear HX; intro w HX; simp only [Act.put, List.setIfInBounds_toArray, List.set_cons_zero, List.set_cons_succ, NodeS.cells, OpS.cells, ResS.cells] at HX ⊢) | (refine sWA ?_; clear HX; (first | (have hq := b9; clear hq; intro w b10 HX) | (have hq := b8; clear hq; intro w b9 HX) | (have hq := b7; clear hq; intro w b8 HX) | (have hq := b6; clear hq; intro w b7 HX) | (have hq := b5; clear hq; intro w b6 HX) | (have hq := b4; clear hq; intro w b5 HX) | (have hq := b3; clear hq; intro w b4 HX) | (have hq := b2; clear hq; intro w b3 HX) | (have hq := b; clear hq; intro w b2 HX) | intro w b HX); simp only [Act.put, List.setIfInBounds_toArray, List.set_cons_zero, List.set_cons_succ]) | (refine sWN ?_; clear HX; intro w mm HX; simp only [Act.put, List.setIfInBounds_toArray, List.set_cons_zero, List.set_cons_succ]) | (refine sWP ?_; clear HX; intro w av nv cv HX; simp only [Act.put, List.setIfInBounds_toArray, List.set_cons_zero, List.set_cons_succ]))
      go_ret
      obtain ⟨hpm, hP', hdn⟩ := HF.out
      have h5 := it_end HX.out
      have h6 := tree_shut (t := t) (P := P') h5.up2 HPM.out HRI.out (fun g hg => hP' _ (HGS.out g hg))
      have h7 := tree_shut (t := b) (S := S) (P := P') h6.up3.up3.up3 (by simpa using hpm.trans HPM.out) HRI.out hdn
      exact ⟨b, P', rfl, hP', h7.up2⟩
    · have hg := hin g (by simp)
      obtain ⟨a1, a2, hgs⟩ := List.append_of_mem hg
      have HF := Lib.hid (show _ ∧ _ ∧ _ ∧ _ ∧ _ from ⟨hpm, hP', hdn, hk, hin⟩)
      rw [hgs] at h1
      have HX := Lib.hid (show Sep w0 w1 (thNode g.blk g.n g.nv :: _) rows from thl_out (f := NodeG.th) h1.up1)
      have HG := Lib.hid hgs
      have hnv := hP' _ (HGS.out g hg)
      have hok := HOK.out g hg
      clear hS h1 hpm hP' hdn hk hin hgs hg
      have HNV := Lib.hid hnv
      clear hnv
      simp only [NodeG.kv] at hn hen
      go_wp2_with (first | (refine sWL ?_; simp only [Act.put, List.setIfInBounds_toArray, List.set_cons_zero, List.set_cons_succ, List.drop_zero, List.drop_succ_cons, List.take_succ_cons, List.take_zero, List.toList_toArray, NodeS.cells, OpS.cells, ResS.cells]) | (refine sWM ?_; simp only [Act.put, List.setIfInBounds_toArray, List.set_cons_zero, List.set_cons_succ]) | (refine sWS ?_; clear HX; intro w HX; simp only [Act.put, List.setIfInBounds_toArray, List.set_cons_zero, List.set_cons_succ, setMany, Nat.reduceAdd, NodeS.cells, OpS.cells, ResS.cells] at HX ⊢) | (refine sWT ?_; clear HX; intro w HX; simp only [Act.put, List.setIfInBounds_toArray, List.set_cons_zero, List.set_cons_succ, NodeS.cells, OpS.cells, ResS.cells] at HX ⊢) | (refine sWA ?_; clear HX; (first | (have hq := b9; clear hq; intro w b10 HX) | (have hq := b8; clear hq; intro w b9 HX) | (have hq := b7; clear hq; intro w b8 HX) | (have hq := b6; clear hq; intro w b7 HX) | (have hq := b5; clear hq; intro w b6 HX) | (have hq := b4; clear hq; intro w b5 HX) | (have hq := b3; clear hq; intro w b4 HX) | (have hq := b2; clear hq; intro w b3 HX) | (have hq := b; clear hq; intro w b2 HX) | intro w b HX); simp only [Act.put, List.setIfInBounds_toArray, List.set_cons_zero, List.set_cons_succ]) | (refine sWN ?_; clear HX; intro w mm HX; simp only [Act.put, List.setIfInBounds_toArray, List.set_cons_zero, List.set_cons_succ]) | (refine sWP ?_; clear HX; intro w av nv cv HX; simp only [Act.put, List.setIfInBounds_toArray, List.set_cons_zero, List.set_cons_succ]))
      obtain ⟨E, hE⟩ := HX.out.up7.poolGet HNV.out
      refine (copied_any g.n g.nv w1 E hE (by have := hok.few; omega)).mono ?_
      rintro e w ⟨v2, D2, rfl, ho2, hu2⟩
      obtain ⟨a2', n2, k2, rfl, -⟩ := id ho2
      replace HX := Lib.hid (HX.out.addRow ho2 hu2)
      clear ho2 hu2 hE
      simp only [NodeS.val, NodeS.cells]
      go_upto_region 6 with (first | (refine sWL ?_; simp only [Act.put, List.setIfInBounds_toArray, List.set_cons_zero, List.set_cons_succ, List.drop_zero, List.drop_succ_cons, List.take_succ_cons, List.take_zero, List.toList_toArray, NodeS.cells, OpS.cells, ResS.cells]) | (refine sWM ?_; simp only [Act.put, List.setIfInBounds_toArray, List.set_cons_zero, List.set_cons_succ]) | (refine sWS ?_; clear HX; intro w HX; simp only [Act.put, List.setIfInBounds_toArray, List.set_cons_zero, List.set_cons_succ, setMany, Nat.reduceAdd, NodeS.cells, OpS.cells, ResS.cells] at HX ⊢) | (refine sWT ?_; clear HX; intro w HX; simp only [Act.put, List.setIfInBounds_toArray, List.set_cons_zero, List.set_cons_succ, NodeS.cells, OpS.cells, ResS.cells] at HX ⊢) | (refine sWA ?_; clear HX; (first | (have hq := b9; clear hq; intro w b10 HX) | (have hq := b8; clear hq; intro w b9 HX) | (have hq := b7; clear hq; intro w b8 HX) | (have hq := b6; clear hq; intro w b7 HX) | (have hq := b5; clear hq; intro w b6 HX) | (have hq := b4; clear hq; intro w b5 HX) | (have hq := b3; clear hq; intro w b4 HX) | (have hq := b2; clear hq; intro w b3 HX) | (have hq := b; clear hq; intro w b2 HX) | intro w b HX); simp only [Act.put, List.setIfInBounds_toArray, List.set_cons_zero, List.set_cons_succ]) | (refine sWN ?_; clear HX; intro w mm HX; simp only [Act.put, List.setIfInBounds_toArray, List.set_cons_zero, List.set_cons_succ]) | (refine sWP ?_; clear HX; intro w av nv cv HX; simp only [Act.put, List.setIfInBounds_toArray, List.set_cons_zero, List.set_cons_succ]))
      obtain ⟨hkey, hadd⟩ := copy_key HF.out.1 HND.out
      obtain ⟨w9, hrun9, h9⟩ := Sep.mapAdd (P := Tryz.prog) (key := sv g.key) (v := .pointer (some ⟨b2, 0, none⟩)) HX.out.up7 Tryz.underlying79 Tryz.underlying9 trivial hkey
      have HAD := Lib.hid hadd
      have H9 := Lib.hid h9
      clear hkey hadd h9
      go_wp2_with (first | (refine sWL ?_; simp only [Act.put, List.setIfInBounds_toArray, List.set_cons_zero, List.set_cons_succ, List.drop_zero, List.drop_succ_cons, List.take_succ_cons, List.take_zero, List.toList_toArray, NodeS.cells, OpS.cells, ResS.cells]) | (refine sWM ?_; simp only [Act.put, List.setIfInBounds_toArray, List.set_cons_zero, List.set_cons_succ]) | (refine sWS ?_; clear HX; intro w HX; simp only [Act.put, List.setIfInBounds_toArray, List.set_cons_zero, List.set_cons_succ, setMany, Nat.reduceAdd, NodeS.cells, OpS.cells, ResS.cells] at HX ⊢) | (refine sWT ?_; clear HX; intro w HX; simp only [Act.put, List.setIfInBounds_toArray, List.set_cons_zero, List.set_cons_succ, NodeS.cells, OpS.cells, ResS.cells] at HX ⊢) | (refine sWA ?_; clear HX; (first | (have hq := b9; clear hq; intro w b10 HX) | (have hq := b8; clear hq; intro w b9 HX) | (have hq := b7; clear hq; intro w b8 HX) | (have hq := b6; clear hq; intro w b7 HX) | (have hq := b5; clear hq; intro w b6 HX) | (have hq := b4; clear hq; intro w b5 HX) | (have hq := b3; clear hq; intro w b4 HX) | (have hq := b2; clear hq; intro w b3 HX) | (have hq := b; clear hq; intro w b2 HX) | intro w b HX); simp only [Act.put, List.setIfInBounds_toArray, List.set_cons_zero, List.set_cons_succ]) | (refine sWN ?_; clear HX; intro w mm HX; simp only [Act.put, List.setIfInBounds_toArray, List.set_cons_zero, List.set_cons_succ]) | (refine sWP ?_; clear HX; intro w av nv cv HX; simp only [Act.put, List.setIfInBounds_toArray, List.set_cons_zero, List.set_cons_succ]))
      go_roundg (l1 ++ l2).length
      case rel =>
        obtain ⟨hpm, hP', hdn, hk, hin⟩ := HF.out
        have h1 := (H9.out.up2.up9.up1).poolRow
        have h2 := thl_add (f := NodeG.th) (g := ⟨b2, g.key, g.n, .slice a2' n2 k2⟩) (h1.up8.up3)
        have h3 := thl_in (f := NodeG.th) (g := g) (h2.up3.up4.up1)
        rw [← HG.out] at h3
        refine ⟨l1 ++ l2, done ++ [⟨b2, g.key, g.n, .slice a2' n2 k2⟩], (1, .slice a2' n2 k2, g.n.names.map sv) :: P', rfl, HAD.out _ rfl, fun x hx => hin x ?_, fun q hq => List.mem_cons_of_mem _ (hP' q hq), fun x hx => ?_, ?_⟩
        · rcases List.mem_append.1 hx with h | h <;> simp [h]
        · rcases List.mem_append.1 hx with h | h
          · exact List.mem_cons_of_mem _ (hdn x h)
          · rw [List.mem_singleton.1 h]; exact List.mem_cons_self ..
        · have e : (done ++ [(⟨b2, g.key, g.n, .slice a2' n2 k2⟩ : NodeG)]).map NodeG.kv = done.map NodeG.kv ++ [(sv g.key, .pointer (some ⟨b2, 0, none⟩))] := by simp [NodeG.kv]
          rw [e]
          exact h3.pm 7 [4, 0, 5, 6, 3, 1, 2] rfl rfl
      case measure =>
        obtain ⟨_, _, _, hk, _⟩ := HF.out
        simp at hk ⊢; omega
end
end Go.Proofs.YtjeaoopamebgjaaGreatDoor

/-
  Replies: in plain words, in memory; the walk of Fail.
-/
set_option linter.unusedSimpArgs false
namespace Go.Av
open Go.RowKit
/-- What a request is answered. -/
structure ReplyS where
  num : Int
  zxid : Int
  err : Int
  at_ : Int
  rs : List ResS
/-- Results' cells; each one's names are a row of the pool's. -/
inductive ResL (P : List PRow) : List ResS → List Value → Prop
  | nil : ResL P [] []
  | cons {r : ResS} {nv : Value} {rs : List ResS} {xs : List Value} : (1, nv, r.names.map sv) ∈ P → ResL P rs xs → ResL P (r :: rs) ((r.cells nv).toList ++ xs)
theorem ResL.mono {P P' : List PRow} {rs : List ResS} {xs : List Value} (h : ResL P rs xs) (hP : ∀ r ∈ P, r ∈ P') : ResL P' rs xs := by
  induction h with
  | nil => exact .nil
  | cons h1 _ ih => exact .cons (hP _ h1) ih
theorem ResL.snoc {P : List PRow} {rs : List ResS} {xs : List Value} {r : ResS} {nv : Value} (h : ResL P rs xs) (hr : (1, nv, r.names.map sv) ∈ P) : ResL P (rs ++ [r]) (xs ++ (r.cells nv).toList) := by
  induction h with
  | nil => simpa using ResL.cons hr ResL.nil
  | cons h1 _ ih =>
    rw [List.cons_append, List.append_assoc]
    exact .cons h1 ih
theorem ResL.len {P : List PRow} {rs : List ResS} {xs : List Value} (h : ResL P rs xs) : xs.length = rs.length * 11 := by
  induction h with
  | nil => rfl
  | cons _ _ ih => simp only [List.length_append, List.length_cons, ih]; simp [ResS.cells]; omega
/-- A reply's value. -/
def ReplyIn (P : List PRow) (r : ReplyS) (v : Value) : Prop := ∃ a n c xs, v = .agg #[.int .i64 r.num, .int .i64 r.zxid, .int .i64 r.err, .int .i64 r.at_, .slice a n c] ∧ ResL P r.rs xs ∧ (11, Value.slice a n c, xs) ∈ P
def failRs (e at_ : Int) (n : Nat) : List ResS := (List.range n).map fun (i : Nat) => failS (if (i : Int) = at_ then e else 14)
/-- A reply of an error. -/
def failR (num e at_ n : Int) : ReplyS := ⟨num, 0, e, at_, if n < 0 ∨ 16 < n then [] else failRs e at_ n.toNat⟩
theorem failRs_succ (e at_ : Int) (n : Nat) : failRs e at_ (n + 1) = failRs e at_ n ++ [failS (if (n : Int) = at_ then e else 14)] := by
  unfold failRs
  rw [List.range_succ, List.map_append]
  rfl
theorem failRs_len (e at_ : Int) (n : Nat) : (failRs e at_ n).length = n := by simp [failRs]
end Go.Av
namespace Go.Proofs.YtjeaoopamebgjaaGreatDoor
open Go.RowKit Go.Av
section
variable {w0 w : World} {P P' : List PRow} {R : List Thing} {rows : List (Value × Bs)}
/-- A reply, answered. -/
def RepPost (w0 : World) (P : List PRow) (R : List Thing) (rows : List (Value × Bs)) (r : ReplyS) (e : Ending) (w' : World) : Prop :=
  ∃ v P', e = .returned v ∧ (∀ q ∈ P, q ∈ P') ∧ ReplyIn P' r v ∧ Sep w0 w' (ThPool w0 P' :: R) rows
def FailRel (w0 : World) (b8 b9 : Nat) (num e at_ : Int) (n : Nat) (P : List PRow) (R : List Thing) (rows : List (Value × Bs)) (k : Nat) (v24 : Value) (w : World) : Prop :=
  ∃ (i : Nat) (xs : List Value) (a : Option Addr) (n' c : Nat), i + k = n ∧ v24 = .int .i64 (i : Int) ∧ ResL ((1, .slice none 0 0, []) :: P) (failRs e at_ i) xs ∧
    Sep w0 w (ThCell b9 (.cells #[.int .i64 num, .int .i64 0, .int .i64 e, .int .i64 at_, .slice a n' c] 41 (0, 0)) :: ThRow 11 (.slice a n' c) xs :: ThCell b8 (.cells #[.int .i64 0, .int .i64 0, .int .i64 0, .int .i64 0, .slice none 0 0] 41 (0, 0)) :: ThPool w0 ((1, .slice none 0 0, []) :: P) :: R) rows
set_option maxRecDepth 100000 in
set_option maxHeartbeats 4000000 in
theorem rfail_any (h : Sep w0 w (ThPool w0 P :: R) rows) (num e at_ n : Int) :
    Calls Tryz.prog 33 #[.int .i64 num, .int .i64 e, .int .i64 at_, .int .i64 n] w (RepPost w0 P R rows (failR num e at_ n)) := by
  obtain ⟨rr, hrr⟩ : ∃ rr, failR num e at_ n = rr := ⟨_, rfl⟩
  rw [hrr]
  have HR := Lib.hid hrr
  have HX := Lib.hid (h.poolNil 1)
  clear hrr h
  by_cases hn : n < 0 ∨ 16 < n
  · have HE := Lib.hid (show rr = ⟨num, 0, e, at_, []⟩ by rw [← HR.out]; unfold failR; rw [if_pos hn])
    have fin : ∀ w b8 b9, Hid (Sep w0 w (ThCell b9 (.cells #[.int .i64 num, .int .i64 0, .int .i64 e, .int .i64 at_, .slice none 0 0] 41 (0, 0)) :: ThCell b8 (.cells #[.int .i64 num, .int .i64 0, .int .i64 e, .int .i64 at_, .slice none 0 0] 41 (0, 0)) :: ThPool w0 ((1, .slice none 0 0, []) :: P) :: R) rows) → RepPost w0 P R rows rr (.returned (.agg #[.int .i64 num, .int .i64 0, .int .i64 e, .int .i64 at_, .slice none 0 0])) w := fun w b8 b9 HX => by
      have h1 := HX.out.drop.drop.poolNil 11
      rw [HE.out]
      exact ⟨_, _, rfl, fun q hq => List.mem_cons_of_mem _ (List.mem_cons_of_mem _ hq), ⟨none, 0, 0, [], rfl, .nil, List.mem_cons_self ..⟩, h1⟩
    have FIN := Lib.hid fin
    clear fin HR
    by_cases h1 : n < 0
    · have q1 : decide (n < 0) = true := decide_eq_true h1
      clear h1 hn
      go_enter Tryz.func33, Tryz.ntmps33
      go_wp2_with (first | (refine sWL ?_; simp only [Act.put, List.setIfInBounds_toArray, List.set_cons_zero, List.set_cons_succ, List.drop_zero, List.drop_succ_cons, List.take_succ_cons, List.take_zero, List.toList_toArray, NodeS.cells, OpS.cells, ResS.cells]) | (refine sWM ?_; simp only [Act.put, List.setIfInBounds_toArray, List.set_cons_zero, List.set_cons_succ]) | (refine sWS ?_; clear HX; intro w HX; simp only [Act.put, List.setIfInBounds_toArray, List.set_cons_zero, List.set_cons_succ, setMany, Nat.reduceAdd, NodeS.cells, OpS.cells, ResS.cells] at HX ⊢) | (refine sWT ?_; clear HX; intro w HX; simp only [Act.put, List.setIfInBounds_toArray, List.set_cons_zero, List.set_cons_succ, NodeS.cells, OpS.cells, ResS.cells] at HX ⊢) | (refine sWA ?_; clear HX; (first | (have hq := b9; clear hq; intro w b10 HX) | (have hq := b8; clear hq; intro w b9 HX) | (have hq := b7; clear hq; intro w b8 HX) | (have hq := b6; clear hq; intro w b7 HX) | (have hq := b5; clear hq; intro w b6 HX) | (have hq := b4; clear hq; intro w b5 HX) | (have hq := b3; clear hq; intro w b4 HX) | (have hq := b2; clear hq; intro w b3 HX) | (have hq := b; clear hq; intro w b2 HX) | intro w b HX); simp only [Act.put, List.setIfInBounds_toArray, List.set_cons_zero, List.set_cons_succ]) | (refine sWN ?_; clear HX; intro w mm HX; simp only [Act.put, List.setIfInBounds_toArray, List.set_cons_zero, List.set_cons_succ]) | (refine sWP ?_; clear HX; intro w av nv cv HX; simp only [Act.put, List.setIfInBounds_toArray, List.set_cons_zero, List.set_cons_succ]))
      refine sx_ret HX rfl rfl (by (repeat (first | (with_reducible exact List.mem_cons_self ..) | (with_reducible apply List.mem_cons_of_mem)))) (by kernel_rfl) ?_
      exact FIN.out _ _ _ HX
    · have q1 : decide (n < 0) = false := decide_eq_false h1
      have q2 : decide (16 < n) = true := decide_eq_true (hn.resolve_left h1)
      clear h1 hn
      go_enter Tryz.func33, Tryz.ntmps33
      go_wp2_with (first | (refine sWL ?_; simp only [Act.put, List.setIfInBounds_toArray, List.set_cons_zero, List.set_cons_succ, List.drop_zero, List.drop_succ_cons, List.take_succ_cons, List.take_zero, List.toList_toArray, NodeS.cells, OpS.cells, ResS.cells]) | (refine sWM ?_; simp only [Act.put, List.setIfInBounds_toArray, List.set_cons_zero, List.set_cons_succ]) | (refine sWS ?_; clear HX; intro w HX; simp only [Act.put, List.setIfInBounds_toArray, List.set_cons_zero, List.set_cons_succ, setMany, Nat.reduceAdd, NodeS.cells, OpS.cells, ResS.cells] at HX ⊢) | (refine sWT ?_; clear HX; intro w HX; simp only [Act.put, List.setIfInBounds_toArray, List.set_cons_zero, List.set_cons_succ, NodeS.cells, OpS.cells, ResS.cells] at HX ⊢) | (refine sWA ?_; clear HX; (first | (have hq := b9; clear hq; intro w b10 HX) | (have hq := b8; clear hq; intro w b9 HX) | (have hq := b7; clear hq; intro w b8 HX) | (have hq := b6; clear hq; intro w b7 HX) | (have hq := b5; clear hq; intro w b6 HX) | (have hq := b4; clear hq; intro w b5 HX) | (have hq := b3; clear hq; intro w b4 HX) | (have hq := b2; clear hq; intro w b3 HX) | (have hq := b; clear hq; intro w b2 HX) | intro w b HX); simp only [Act.put, List.setIfInBounds_toArray, List.set_cons_zero, List.set_cons_succ]) | (refine sWN ?_; clear HX; intro w mm HX; simp only [Act.put, List.setIfInBounds_toArray, List.set_cons_zero, List.set_cons_succ]) | (refine sWP ?_; clear HX; intro w av nv cv HX; simp only [Act.put, List.setIfInBounds_toArray, List.set_cons_zero, List.set_cons_succ]))
      refine sx_ret HX rfl rfl (by (repeat (first | (with_reducible exact List.mem_cons_self ..) | (with_reducible apply List.mem_cons_of_mem)))) (by kernel_rfl) ?_
      exact FIN.out _ _ _ HX
  obtain ⟨m, rfl⟩ : ∃ m : Nat, n = (m : Int) := ⟨n.toNat, by omega⟩
  have HM := Lib.hid (show m ≤ 16 by omega)
  have HE := Lib.hid (show rr = ⟨num, 0, e, at_, failRs e at_ m⟩ by rw [← HR.out]; unfold failR; rw [if_neg hn]; rfl)
  have q1 : decide ((m : Int) < 0) = false := decide_eq_false (fun h => hn (.inl h))
  have q2 : decide (16 < (m : Int)) = false := decide_eq_false (fun h => hn (.inr h))
  have q3 : decide (16 < m) = false := decide_eq_false (fun h => hn (.inr (by omega)))
  clear hn HR
  go_enter Tryz.func33, Tryz.ntmps33
  go_wp2_with (first | (refine sWL ?_; simp only [Act.put, List.setIfInBounds_toArray, List.set_cons_zero, List.set_cons_succ, List.drop_zero, List.drop_succ_cons, List.take_succ_cons, List.take_zero, List.toList_toArray, NodeS.cells, OpS.cells, ResS.cells]) | (refine sWM ?_; simp only [Act.put, List.setIfInBounds_toArray, List.set_cons_zero, List.set_cons_succ]) | (refine sWS ?_; clear HX; intro w HX; simp only [Act.put, List.setIfInBounds_toArray, List.set_cons_zero, List.set_cons_succ, setMany, Nat.reduceAdd, NodeS.cells, OpS.cells, ResS.cells] at HX ⊢) | (refine sWT ?_; clear HX; intro w HX; simp only [Act.put, List.setIfInBounds_toArray, List.set_cons_zero, List.set_cons_succ, NodeS.cells, OpS.cells, ResS.cells] at HX ⊢) | (refine sWA ?_; clear HX; (first | (have hq := b9; clear hq; intro w b10 HX) | (have hq := b8; clear hq; intro w b9 HX) | (have hq := b7; clear hq; intro w b8 HX) | (have hq := b6; clear hq; intro w b7 HX) | (have hq := b5; clear hq; intro w b6 HX) | (have hq := b4; clear hq; intro w b5 HX) | (have hq := b3; clear hq; intro w b4 HX) | (have hq := b2; clear hq; intro w b3 HX) | (have hq := b; clear hq; intro w b2 HX) | intro w b HX); simp only [Act.put, List.setIfInBounds_toArray, List.set_cons_zero, List.set_cons_succ]) | (refine sWN ?_; clear HX; intro w mm HX; simp only [Act.put, List.setIfInBounds_toArray, List.set_cons_zero, List.set_cons_succ]) | (refine sWP ?_; clear HX; intro w av nv cv HX; simp only [Act.put, List.setIfInBounds_toArray, List.set_cons_zero, List.set_cons_succ]))
  have HST := Lib.hid (show FailRel w0 b b2 num e at_ m P R rows m (.int .i64 (0 : Int)) w from ⟨0, [], none, 0, 0, by simp, rfl, .nil, (HX.out.nilRow 11).up1⟩)
  clear HX
  go_loopg [24] m (fun k v24 wr => FailRel w0 b b2 num e at_ m P R rows k v24 wr)
  case atStart => exact HST.out
  case round =>
    obtain ⟨i, xs, a, n', c, hik, rfl, hrl, hS⟩ := hrel
    have HRL := Lib.hid hrl
    have HX := Lib.hid hS
    clear hrl hS
    by_cases hlt : i < m
    case neg =>
      obtain rfl : i = m := by omega
      clear hlt hik
      go_wp2_with (first | (refine sWL ?_; simp only [Act.put, List.setIfInBounds_toArray, List.set_cons_zero, List.set_cons_succ, List.drop_zero, List.drop_succ_cons, List.take_succ_cons, List.take_zero, List.toList_toArray, NodeS.cells, OpS.cells, ResS.cells]) | (refine sWM ?_; simp only [Act.put, List.setIfInBounds_toArray, List.set_cons_zero, List.set_cons_succ]) | (refine sWS ?_; clear HX; intro w HX; simp only [Act.put, List.setIfInBounds_toArray, List.set_cons_zero, List.set_cons_succ, setMany, Nat.reduceAdd, NodeS.cells, OpS.cells, ResS.cells] at HX ⊢) | (refine sWT ?_; clear HX; intro w HX; simp only [Act.put, List.setIfInBounds_toArray, List.set_cons_zero, List.set_cons_succ, NodeS.cells, OpS.cells, ResS.cells] at HX ⊢) | (refine sWA ?_; clear HX; (first | (have hq := b9; clear hq; intro w b10 HX) | (have hq := b8; clear hq; intro w b9 HX) | (have hq := b7; clear hq; intro w b8 HX) | (have hq := b6; clear hq; intro w b7 HX) | (have hq := b5; clear hq; intro w b6 HX) | (have hq := b4; clear hq; intro w b5 HX) | (have hq := b3; clear hq; intro w b4 HX) | (have hq := b2; clear hq; intro w b3 HX) | (have hq := b; clear hq; intro w b2 HX) | intro w b HX); simp only [Act.put, List.setIfInBounds_toArray, List.set_cons_zero, List.set_cons_succ]) | (refine sWN ?_; clear HX; intro w mm HX; simp only [Act.put, List.setIfInBounds_toArray, List.set_cons_zero, List.set_cons_succ]) | (refine sWP ?_; clear HX; intro w av nv cv HX; simp only [Act.put, List.setIfInBounds_toArray, List.set_cons_zero, List.set_cons_succ]))
      refine sx_ret HX rfl rfl (by (repeat (first | (with_reducible exact List.mem_cons_self ..) | (with_reducible apply List.mem_cons_of_mem)))) (by kernel_rfl) ?_
      have h2 := (HX.out.drop.cut1).poolRow
      rw [HE.out]
      exact ⟨_, _, rfl, fun q hq => List.mem_cons_of_mem _ (List.mem_cons_of_mem _ hq), ⟨a, n', c, xs, rfl, HRL.out.mono (fun q hq => List.mem_cons_of_mem _ hq), List.mem_cons_self ..⟩, h2⟩
    case pos =>
      have HLN := Lib.hid (show xs.length = i * 11 by have := HRL.out.len; rw [failRs_len] at this; exact this)
      have HBD := Lib.hid (show ∀ n, xs.length = n * 11 → n + 1 ≤ 140737488355328 ∧ (n + 1) * 120 ≤ 140737488355328 from fun n hn => by
        have := HLN.out
        have := HM.out
        omega)
      have HRN := Lib.hid (show ResL ((1, .slice none 0 0, []) :: P) (failRs e at_ (i + 1)) (xs ++ ((failS (if (i : Int) = at_ then e else 14)).cells (.slice none 0 0)).toList) by rw [failRs_succ]; exact HRL.out.snoc (List.mem_cons_self ..))
      have q0 : decide (i < m) = true := decide_eq_true hlt
      have q9 : i ≤ 16 := by have := HM.out; omega
      by_cases hat : (i : Int) = at_
      case' pos =>
        have q4 : ((i : Int) == at_) = true := by rw [beq_iff_eq]; exact hat
        rw [if_pos hat] at HRN
      case' neg =>
        have q4 : ((i : Int) == at_) = false := by rw [beq_eq_false_iff_ne]; exact hat
        rw [if_neg hat] at HRN
      all_goals
        clear hat
        go_wp2_with (first | (refine sWL ?_; simp only [Act.put, List.setIfInBounds_toArray, List.set_cons_zero, List.set_cons_succ, List.drop_zero, List.drop_succ_cons, List.take_succ_cons, List.take_zero, List.toList_toArray, NodeS.cells, OpS.cells, ResS.cells]) | (refine sWM ?_; simp only [Act.put, List.setIfInBounds_toArray, List.set_cons_zero, List.set_cons_succ]) | (refine sWS ?_; clear HX; intro w HX; simp only [Act.put, List.setIfInBounds_toArray, List.set_cons_zero, List.set_cons_succ, setMany, Nat.reduceAdd, NodeS.cells, OpS.cells, ResS.cells] at HX ⊢) | (refine sWT ?_; clear HX; intro w HX; simp only [Act.put, List.setIfInBounds_toArray, List.set_cons_zero, List.set_cons_succ, NodeS.cells, OpS.cells, ResS.cells] at HX ⊢) | (refine sWA ?_; clear HX; (first | (have hq := b9; clear hq; intro w b10 HX) | (have hq := b8; clear hq; intro w b9 HX) | (have hq := b7; clear hq; intro w b8 HX) | (have hq := b6; clear hq; intro w b7 HX) | (have hq := b5; clear hq; intro w b6 HX) | (have hq := b4; clear hq; intro w b5 HX) | (have hq := b3; clear hq; intro w b4 HX) | (have hq := b2; clear hq; intro w b3 HX) | (have hq := b; clear hq; intro w b2 HX) | intro w b HX); simp only [Act.put, List.setIfInBounds_toArray, List.set_cons_zero, List.set_cons_succ]) | (refine sWN ?_; clear HX; intro w mm HX; simp only [Act.put, List.setIfInBounds_toArray, List.set_cons_zero, List.set_cons_succ]) | (refine sWP ?_; clear HX; intro w av nv cv HX; simp only [Act.put, List.setIfInBounds_toArray, List.set_cons_zero, List.set_cons_succ]))
        go_roundg (m - (i + 1))
        case rel =>
          exact ⟨i + 1, _, av, nv, cv, by omega, by go_num, HRN.out, HX.out.pm 6 [3, 0, 4, 5] rfl rfl⟩
        case measure => omega
end
end Go.Proofs.YtjeaoopamebgjaaGreatDoor
