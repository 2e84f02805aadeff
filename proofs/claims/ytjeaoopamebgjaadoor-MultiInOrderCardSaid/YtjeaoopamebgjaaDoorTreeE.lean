/-
  A tree: the walk of create.
-/
import Derived.Test.YtjeaoopamebgjaaDoorTreeD
namespace Go.Proofs.YtjeaoopamebgjaaDoor
open Go.RowKit Go.Av
/-- What a call that answers a result leaves. -/
def ResPost (w0 : World) (t : Nat) (S : TreeS) (P : List PRow) (R : List Thing) (rows : List (Value × Bs)) (r : ResS) (e : Ending) (w' : World) : Prop :=
  ∃ nv P', e = .returned (.agg (r.cells nv)) ∧ (∀ q ∈ P, q ∈ P') ∧ (1, nv, r.names.map sv) ∈ P' ∧ Sep w0 w' (ThPool P' :: ThTree t S P' :: R) rows
abbrev opCells (o : OpS) : Array Value := #[.int .i64 o.kind, .string o.path, .string o.data, .int .i64 o.ver, .int .i64 o.flags]
section
variable {w0 w : World} {t : Nat} {S : TreeS} {P P' : List PRow} {R : List Thing} {rows : List (Value × Bs)}
theorem perm22 (a b p q : Thing) (R : List Thing) : (a :: b :: p :: q :: R).Perm (p :: q :: a :: b :: R) := (List.perm_append_comm (l₁ := [a, b]) (l₂ := [p, q])).append_right R
set_option maxRecDepth 100000 in
set_option maxHeartbeats 4000000 in
theorem create_any (h : Sep w0 w (ThPool P :: ThTree t S P :: R) rows) (hd : DoorN w0) (o : OpS) (hp : o.path.size ≤ 100000) (hdt : o.data.size ≤ 100000) (h0 : 0 ≤ o.flags) (h3 : o.flags ≤ 3) (hok : ∀ e ∈ S.l, NodeOk e.2) (sess zxid : Int) (only : Bool) :
    Calls Tryd.prog 17 #[.pointer (some ⟨t, 0, none⟩), o.val, .int .i64 sess, .int .i64 zxid, .bool only] w (ResPost w0 t (if only then S else (createT S o sess zxid).2) P R rows (createT S o sess zxid).1) := by
  have hA := ((h.newCell (.cells (opCells o) 25)).newCell (.cells ((failS 0).cells (.slice none 0 0)) 42)).perm (perm22 _ _ _ _ _)
  have HPL := Lib.hid (place_any (hA.perm (List.Perm.swap _ _ _)) (hd.sep h |>.upd ((Upd.alloc0 w _ []).trans (Upd.alloc0 _ _ []))) o hp h0 h3 hok)
  have HA := Lib.hid hA
  have HZ := Lib.hid (fun h => place_zero (S := S) (o := o) h)
  obtain ⟨cr, hcr⟩ : ∃ cr, createT S o sess zxid = cr := ⟨_, rfl⟩
  have HCR := Lib.hid hcr
  unfold createT at HCR
  rw [hcr]
  obtain ⟨S', hS'⟩ : ∃ S', (if only = true then S else cr.2) = S' := ⟨_, rfl⟩
  have HS' := Lib.hid hS'
  rw [hS']
  clear hS'
  obtain ⟨pl, hpl⟩ : ∃ pl, placeT S o = pl := ⟨_, rfl⟩
  rw [hpl] at HPL HCR HZ
  obtain ⟨pe, pp⟩ := pl
  have hlo : ∀ W, Upd (w.alloc (.cells (opCells o) 25)) W [] [] → OpAt W w.heap.size o := fun W hu => opAt_new w o hu
  have HB := Lib.hid (show (w.alloc (.cells (opCells o) 25)).heap.size = w.heap.size + 1 by simp)
  obtain ⟨kind, path, data, ver, flags⟩ := o
  unfold OpS.val
  have heb := eph_bit h0 h3
  unfold OpAt at hlo
  unfold opCells ResS.cells failS noSt at HA HPL
  unfold opCells at hlo HB
  dsimp only at HA HPL HCR HZ hlo HB hp hdt h0 h3 heb ⊢
  rw [HB.out] at HA
  have HLO := Lib.hid hlo
  clear h hA hcr hpl hlo
  go_enter Tryd.func17, Tryd.ntmps17
  obtain ⟨o0, o1, o2, o3, o4⟩ := HLO.out _ (Upd.alloc0 _ (.cells #[.int .i64 0, .string ⟨#[]⟩, .string ⟨#[]⟩, .slice none 0 0, .int .i64 0, .int .i64 0, .int .i64 0, .int .i64 0, .int .i64 0, .int .i64 0, .int .i64 0] 42) [])
  go_wp2_with fail
  refine HPL.out.mono ?_
  rintro e w1 ⟨rfl, hu1⟩
  have H1 := Lib.hid (HA.out.keep hu1)
  clear HPL HA HLO o0 o1 o2 o3 o4 hu1
  obtain ⟨b6, hb6⟩ : ∃ b6, b6 = w.heap.size := ⟨_, rfl⟩
  obtain ⟨b10, hb10⟩ : ∃ b10, b10 = w.heap.size + 1 := ⟨_, rfl⟩
  rw [← hb10, ← hb6] at H1 ⊢
  clear hb6 hb10 HB
  have e10 := H1.out.block (b := b10) (o := .cells #[.int .i64 0, .string ⟨#[]⟩, .string ⟨#[]⟩, .slice none 0 0, .int .i64 0, .int .i64 0, .int .i64 0, .int .i64 0, .int .i64 0, .int .i64 0, .int .i64 0] 42 (0, 0)) (by simp)
  have e6 := H1.out.block (b := b6) (o := .cells #[.int .i64 kind, .string path, .string data, .int .i64 ver, .int .i64 flags] 25 (0, 0)) (by simp)
  by_cases hpe : pe = 0
  case neg =>
    have hq : (pe != 0) = true := by rw [bne_iff_ne]; exact hpe
    have HC := Lib.hid (show cr = (failS pe, S) by rw [← HCR.out, if_pos hpe])
    have HFL := Lib.hid (show Calls Tryd.prog _ _ _ (fun e w' => e = .returned (.agg #[.int .i64 pe, .string ⟨#[]⟩, .string ⟨#[]⟩, .slice none 0 0, .int .i64 0, .int .i64 0, .int .i64 0, .int .i64 0, .int .i64 0, .int .i64 0, .int .i64 0]) ∧ _) from fail_any pe w1)
    clear hpe HCR HZ e10
    go_wp2_with fail
    refine HFL.out.mono ?_
    rintro e w2 ⟨rfl, hu2⟩
    have H2 := Lib.hid ((H1.out.keep hu2).pick 2 rfl rfl)
    clear hu2 HFL e6
    have r0 := cell_of H2.out.blk 0 (v := .int .i64 0) rfl
    have g0 := frz_of H2.out.blk 0
    have r1 := cell_of H2.out.blk 1 (v := .string ⟨#[]⟩) rfl
    have g1 := frz_of H2.out.blk 1
    have r2 := cell_of H2.out.blk 2 (v := .string ⟨#[]⟩) rfl
    have g2 := frz_of H2.out.blk 2
    have r3 := cell_of H2.out.blk 3 (v := .slice none 0 0) rfl
    have g3 := frz_of H2.out.blk 3
    have r4 := cell_of H2.out.blk 4 (v := .int .i64 0) rfl
    have g4 := frz_of H2.out.blk 4
    have r5 := cell_of H2.out.blk 5 (v := .int .i64 0) rfl
    have g5 := frz_of H2.out.blk 5
    have r6 := cell_of H2.out.blk 6 (v := .int .i64 0) rfl
    have g6 := frz_of H2.out.blk 6
    have r7 := cell_of H2.out.blk 7 (v := .int .i64 0) rfl
    have g7 := frz_of H2.out.blk 7
    have r8 := cell_of H2.out.blk 8 (v := .int .i64 0) rfl
    have g8 := frz_of H2.out.blk 8
    have r9 := cell_of H2.out.blk 9 (v := .int .i64 0) rfl
    have g9 := frz_of H2.out.blk 9
    have r10 := cell_of H2.out.blk 10 (v := .int .i64 0) rfl
    have g10 := frz_of H2.out.blk 10
    have HF := Lib.hid (H2.out.setAll [.int .i64 pe, .string ⟨#[]⟩, .string ⟨#[]⟩, .slice none 0 0, .int .i64 0, .int .i64 0, .int .i64 0, .int .i64 0, .int .i64 0, .int .i64 0, .int .i64 0] rfl)
    go_wp2_with fail
    refine bodyPost_ret (ret_cell rfl _ rfl HF.out.blk Tryd.underlying42 (by kernel_rfl)) rfl ?_
    have hS := (HF.out.drop.pick 2 rfl rfl).drop
    rw [← HS'.out, HC.out]
    refine ⟨.slice none 0 0, (1, .slice none 0 0, []) :: P, rfl, fun q hq => List.mem_cons_of_mem _ hq, List.mem_cons_self .., ?_⟩
    have h5 := (tree_mono ((hS.poolNil 1).perm (List.Perm.swap _ _ _)) (P' := (1, .slice none 0 0, []) :: P) (fun q hq => List.mem_cons_of_mem _ hq)).perm (List.Perm.swap _ _ _)
    cases only <;> exact h5
  case pos =>
    subst hpe
    obtain ⟨hlk, hpl⟩ := HZ.out rfl
    obtain ⟨ps, hps⟩ : ∃ ps : ByteArray, ps = ⟨pp.toArray⟩ := ⟨_, rfl⟩
    have hpp : ps.data.toList = pp := by rw [hps]
    have hpz : ps.size ≤ 100000 := by
      rw [hps]
      show pp.toArray.size ≤ _
      rw [List.size_toArray]
      omega
    have HPV := Lib.hid (show sv pp = .string ps by rw [hps]; rfl)
    have HLK := Lib.hid (show lookT ps.data.toList S.l = none by rw [hpp]; exact hlk)
    have HC := Lib.hid (show cr = (⟨0, ps, ⟨#[]⟩, [], (newS zxid (if ephF flags then sess else 0) data).st⟩, { S with l := layT ps.data.toList (newS zxid (if ephF flags then sess else 0) data) S.l }) by
      rw [← HCR.out, if_neg (by simp), hpp, hps]
      rfl)
    rw [HPV.out]
    have HOK := Lib.hid (show ∀ ow, ∀ e ∈ insT ps.data.toList (newS zxid ow data) S.l, NodeOk e.2 from fun ow e he => by
      rcases List.mem_cons.1 ((insT_perm _ _ _).mem_iff.1 he) with rfl | he
      · exact ⟨by simp [newS], by simp [newS], by simp [newS], by simp [newS, RiseS], by simp [newS], hdt⟩
      · exact hok e he)
    have HD := Lib.hid hd
    clear hlk hpl hps hpp HCR HZ HPV e10 hok hd
    cases hef : ephF flags
    case' false =>
      rw [hef] at heb HC
      have HC := Lib.hid (show cr = (⟨0, ps, ⟨#[]⟩, [], (newS zxid 0 data).st⟩, { S with l := layT ps.data.toList (newS zxid 0 data) S.l }) from HC.out)
      have HNW := Lib.hid (show Calls Tryd.prog _ _ _ (fun e w' => e = .returned (.agg #[.int .i64 zxid, .int .i64 zxid, .int .i64 0, .int .i64 0, .int .i64 0, .int .i64 (data.size : Nat), .int .i64 (0 : Nat), .string data, .int .i64 0, .slice none 0 0]) ∧ _) from statnew_any zxid 0 data w1 hdt)
    case' true =>
      rw [hef] at heb HC
      have HC := Lib.hid (show cr = (⟨0, ps, ⟨#[]⟩, [], (newS zxid sess data).st⟩, { S with l := layT ps.data.toList (newS zxid sess data) S.l }) from HC.out)
      have HNW := Lib.hid (show Calls Tryd.prog _ _ _ (fun e w' => e = .returned (.agg #[.int .i64 zxid, .int .i64 zxid, .int .i64 0, .int .i64 0, .int .i64 sess, .int .i64 (data.size : Nat), .int .i64 (0 : Nat), .string data, .int .i64 0, .slice none 0 0]) ∧ _) from statnew_any zxid sess data w1 hdt)
    case false =>
      have o4 := cell_of e6 4 (v := .int .i64 flags) rfl
      have o2 := cell_of e6 2 (v := .string data) rfl
      clear hef
      go_wp2_with fail
      refine HNW.out.mono ?_
      rintro e w2 ⟨rfl, hu2⟩
      have h3' := (H1.out.keep hu2).newCell (.cells #[.int .i64 zxid, .int .i64 zxid, .int .i64 0, .int .i64 0, .int .i64 0, .int .i64 (data.size : Nat), .int .i64 0, .string data, .int .i64 0, .slice none 0 0] 51)
      have h4' := (tree_mono (((h3'.pick 1 rfl rfl).poolNil 1).pick 2 rfl rfl) (P' := (1, .slice none 0 0, []) :: P) (fun q hq => List.mem_cons_of_mem _ hq)).perm (List.Perm.swap _ _ _)
      obtain ⟨b14, hb14⟩ : ∃ b14, b14 = w2.heap.size := ⟨_, rfl⟩
      rw [← hb14] at h4'
      have H4 := Lib.hid h4'
      have HB14 := Lib.hid hb14
      clear hu2 HNW o4 o2 e6 h3' h4' hb14
      cases only with
      | true =>
        have HS2 := Lib.hid (show S = S' from HS'.out)
        obtain ⟨PX, hPX⟩ : ∃ PX, PX = (1, .slice none 0 0, []) :: P := ⟨_, rfl⟩
        have HPX := Lib.hid (show ∀ q ∈ P, q ∈ PX from fun q hq => by rw [hPX]; exact List.mem_cons_of_mem _ hq)
        have HNX := Lib.hid (show (1, .slice none 0 0, []) ∈ PX by rw [hPX]; exact List.mem_cons_self ..)
        rw [← hPX, HS2.out] at H4
        have HX := H4
        have hb := HB14.out
        clear hPX HB14
        subst hb
        have HNB := HX.out.block (b := w2.heap.size) (o := .cells #[.int .i64 zxid, .int .i64 zxid, .int .i64 0, .int .i64 0, .int .i64 0, .int .i64 (data.size : Nat), .int .i64 0, .string data, .int .i64 0, .slice none 0 0] 51 (0, 0)) (by simp)
        have n0 := cell_of HNB 0 (v := .int .i64 zxid) rfl
        have n1 := cell_of HNB 1 (v := .int .i64 zxid) rfl
        have n2 := cell_of HNB 2 (v := .int .i64 0) rfl
        have n3 := cell_of HNB 3 (v := .int .i64 0) rfl
        have n4 := cell_of HNB 4 (v := .int .i64 0) rfl
        have n5 := cell_of HNB 5 (v := .int .i64 (data.size : Nat)) rfl
        have n6 := cell_of HNB 6 (v := .int .i64 0) rfl
        have HY := Lib.hid (HX.out.pick 3 rfl rfl)
        clear HNB
        have r0 := cell_of HY.out.blk 0 (v := .int .i64 0) rfl
        have g0 := frz_of HY.out.blk 0
        have r1 := cell_of HY.out.blk 1 (v := .string ⟨#[]⟩) rfl
        have g1 := frz_of HY.out.blk 1
        have r2 := cell_of HY.out.blk 2 (v := .string ⟨#[]⟩) rfl
        have g2 := frz_of HY.out.blk 2
        have r3 := cell_of HY.out.blk 3 (v := .slice none 0 0) rfl
        have g3 := frz_of HY.out.blk 3
        have r4 := cell_of HY.out.blk 4 (v := .int .i64 0) rfl
        have g4 := frz_of HY.out.blk 4
        have r5 := cell_of HY.out.blk 5 (v := .int .i64 0) rfl
        have g5 := frz_of HY.out.blk 5
        have r6 := cell_of HY.out.blk 6 (v := .int .i64 0) rfl
        have g6 := frz_of HY.out.blk 6
        have r7 := cell_of HY.out.blk 7 (v := .int .i64 0) rfl
        have g7 := frz_of HY.out.blk 7
        have r8 := cell_of HY.out.blk 8 (v := .int .i64 0) rfl
        have g8 := frz_of HY.out.blk 8
        have r9 := cell_of HY.out.blk 9 (v := .int .i64 0) rfl
        have g9 := frz_of HY.out.blk 9
        have r10 := cell_of HY.out.blk 10 (v := .int .i64 0) rfl
        have g10 := frz_of HY.out.blk 10
        have HF := Lib.hid (HY.out.setAll [.int .i64 0, .string ps, .string ⟨#[]⟩, .slice none 0 0, .int .i64 zxid, .int .i64 zxid, .int .i64 0, .int .i64 0, .int .i64 0, .int .i64 (data.size : Nat), .int .i64 0] rfl)
        go_wp2_with fail
        refine bodyPost_ret (ret_cell rfl _ rfl HF.out.blk Tryd.underlying42 (by kernel_rfl)) rfl ?_
        rw [HC.out]
        exact ⟨.slice none 0 0, PX, rfl, HPX.out, HNX.out, ((HF.out.drop.pick 2 rfl rfl).drop.pick 2 rfl rfl).drop⟩
      | false =>
        have HS2 := Lib.hid (show cr.2 = S' from HS'.out)
        have HLY := Lib.hid (lay_any H4.out HD.out ps hpz (newS zxid 0 data) (.slice none 0 0) (List.mem_cons_self ..) HLK.out (HOK.out 0))
        go_wp2_with fail
        refine HLY.out.mono ?_
        rintro e w3 ⟨rfl, PX, hPX, hX⟩
        have HX := Lib.hid hX
        have HPX := Lib.hid (show ∀ q ∈ P, q ∈ PX from fun q hq => hPX q (List.mem_cons_of_mem _ hq))
        have HNX := Lib.hid (show (1, .slice none 0 0, []) ∈ PX from hPX _ (List.mem_cons_self ..))
        have HSE := Lib.hid (show S' = { S with l := layT ps.data.toList (newS zxid 0 data) S.l } by rw [← HS2.out]; exact congrArg Prod.snd HC.out)
        rw [← HSE.out] at HX
        rw [← HB14.out]
        clear hX hPX HLY
        have HNB := HX.out.block (b := b14) (o := .cells #[.int .i64 zxid, .int .i64 zxid, .int .i64 0, .int .i64 0, .int .i64 0, .int .i64 (data.size : Nat), .int .i64 0, .string data, .int .i64 0, .slice none 0 0] 51 (0, 0)) (by simp)
        have n0 := cell_of HNB 0 (v := .int .i64 zxid) rfl
        have n1 := cell_of HNB 1 (v := .int .i64 zxid) rfl
        have n2 := cell_of HNB 2 (v := .int .i64 0) rfl
        have n3 := cell_of HNB 3 (v := .int .i64 0) rfl
        have n4 := cell_of HNB 4 (v := .int .i64 0) rfl
        have n5 := cell_of HNB 5 (v := .int .i64 (data.size : Nat)) rfl
        have n6 := cell_of HNB 6 (v := .int .i64 0) rfl
        have HY := Lib.hid (HX.out.pick 3 rfl rfl)
        clear HNB
        have r0 := cell_of HY.out.blk 0 (v := .int .i64 0) rfl
        have g0 := frz_of HY.out.blk 0
        have r1 := cell_of HY.out.blk 1 (v := .string ⟨#[]⟩) rfl
        have g1 := frz_of HY.out.blk 1
        have r2 := cell_of HY.out.blk 2 (v := .string ⟨#[]⟩) rfl
        have g2 := frz_of HY.out.blk 2
        have r3 := cell_of HY.out.blk 3 (v := .slice none 0 0) rfl
        have g3 := frz_of HY.out.blk 3
        have r4 := cell_of HY.out.blk 4 (v := .int .i64 0) rfl
        have g4 := frz_of HY.out.blk 4
        have r5 := cell_of HY.out.blk 5 (v := .int .i64 0) rfl
        have g5 := frz_of HY.out.blk 5
        have r6 := cell_of HY.out.blk 6 (v := .int .i64 0) rfl
        have g6 := frz_of HY.out.blk 6
        have r7 := cell_of HY.out.blk 7 (v := .int .i64 0) rfl
        have g7 := frz_of HY.out.blk 7
        have r8 := cell_of HY.out.blk 8 (v := .int .i64 0) rfl
        have g8 := frz_of HY.out.blk 8
        have r9 := cell_of HY.out.blk 9 (v := .int .i64 0) rfl
        have g9 := frz_of HY.out.blk 9
        have r10 := cell_of HY.out.blk 10 (v := .int .i64 0) rfl
        have g10 := frz_of HY.out.blk 10
        have HF := Lib.hid (HY.out.setAll [.int .i64 0, .string ps, .string ⟨#[]⟩, .slice none 0 0, .int .i64 zxid, .int .i64 zxid, .int .i64 0, .int .i64 0, .int .i64 0, .int .i64 (data.size : Nat), .int .i64 0] rfl)
        go_wp2_with fail
        refine bodyPost_ret (ret_cell rfl _ rfl HF.out.blk Tryd.underlying42 (by kernel_rfl)) rfl ?_
        rw [HC.out]
        exact ⟨.slice none 0 0, PX, rfl, HPX.out, HNX.out, ((HF.out.drop.pick 2 rfl rfl).drop.pick 2 rfl rfl).drop⟩
    case true =>
      have o4 := cell_of e6 4 (v := .int .i64 flags) rfl
      have o2 := cell_of e6 2 (v := .string data) rfl
      clear hef
      go_wp2_with fail
      refine HNW.out.mono ?_
      rintro e w2 ⟨rfl, hu2⟩
      have h3' := (H1.out.keep hu2).newCell (.cells #[.int .i64 zxid, .int .i64 zxid, .int .i64 0, .int .i64 0, .int .i64 sess, .int .i64 (data.size : Nat), .int .i64 0, .string data, .int .i64 0, .slice none 0 0] 51)
      have h4' := (tree_mono (((h3'.pick 1 rfl rfl).poolNil 1).pick 2 rfl rfl) (P' := (1, .slice none 0 0, []) :: P) (fun q hq => List.mem_cons_of_mem _ hq)).perm (List.Perm.swap _ _ _)
      obtain ⟨b14, hb14⟩ : ∃ b14, b14 = w2.heap.size := ⟨_, rfl⟩
      rw [← hb14] at h4'
      have H4 := Lib.hid h4'
      have HB14 := Lib.hid hb14
      clear hu2 HNW o4 o2 e6 h3' h4' hb14
      cases only with
      | true =>
        have HS2 := Lib.hid (show S = S' from HS'.out)
        obtain ⟨PX, hPX⟩ : ∃ PX, PX = (1, .slice none 0 0, []) :: P := ⟨_, rfl⟩
        have HPX := Lib.hid (show ∀ q ∈ P, q ∈ PX from fun q hq => by rw [hPX]; exact List.mem_cons_of_mem _ hq)
        have HNX := Lib.hid (show (1, .slice none 0 0, []) ∈ PX by rw [hPX]; exact List.mem_cons_self ..)
        rw [← hPX, HS2.out] at H4
        have HX := H4
        have hb := HB14.out
        clear hPX HB14
        subst hb
        have HNB := HX.out.block (b := w2.heap.size) (o := .cells #[.int .i64 zxid, .int .i64 zxid, .int .i64 0, .int .i64 0, .int .i64 sess, .int .i64 (data.size : Nat), .int .i64 0, .string data, .int .i64 0, .slice none 0 0] 51 (0, 0)) (by simp)
        have n0 := cell_of HNB 0 (v := .int .i64 zxid) rfl
        have n1 := cell_of HNB 1 (v := .int .i64 zxid) rfl
        have n2 := cell_of HNB 2 (v := .int .i64 0) rfl
        have n3 := cell_of HNB 3 (v := .int .i64 0) rfl
        have n4 := cell_of HNB 4 (v := .int .i64 sess) rfl
        have n5 := cell_of HNB 5 (v := .int .i64 (data.size : Nat)) rfl
        have n6 := cell_of HNB 6 (v := .int .i64 0) rfl
        have HY := Lib.hid (HX.out.pick 3 rfl rfl)
        clear HNB
        have r0 := cell_of HY.out.blk 0 (v := .int .i64 0) rfl
        have g0 := frz_of HY.out.blk 0
        have r1 := cell_of HY.out.blk 1 (v := .string ⟨#[]⟩) rfl
        have g1 := frz_of HY.out.blk 1
        have r2 := cell_of HY.out.blk 2 (v := .string ⟨#[]⟩) rfl
        have g2 := frz_of HY.out.blk 2
        have r3 := cell_of HY.out.blk 3 (v := .slice none 0 0) rfl
        have g3 := frz_of HY.out.blk 3
        have r4 := cell_of HY.out.blk 4 (v := .int .i64 0) rfl
        have g4 := frz_of HY.out.blk 4
        have r5 := cell_of HY.out.blk 5 (v := .int .i64 0) rfl
        have g5 := frz_of HY.out.blk 5
        have r6 := cell_of HY.out.blk 6 (v := .int .i64 0) rfl
        have g6 := frz_of HY.out.blk 6
        have r7 := cell_of HY.out.blk 7 (v := .int .i64 0) rfl
        have g7 := frz_of HY.out.blk 7
        have r8 := cell_of HY.out.blk 8 (v := .int .i64 0) rfl
        have g8 := frz_of HY.out.blk 8
        have r9 := cell_of HY.out.blk 9 (v := .int .i64 0) rfl
        have g9 := frz_of HY.out.blk 9
        have r10 := cell_of HY.out.blk 10 (v := .int .i64 0) rfl
        have g10 := frz_of HY.out.blk 10
        have HF := Lib.hid (HY.out.setAll [.int .i64 0, .string ps, .string ⟨#[]⟩, .slice none 0 0, .int .i64 zxid, .int .i64 zxid, .int .i64 0, .int .i64 0, .int .i64 sess, .int .i64 (data.size : Nat), .int .i64 0] rfl)
        go_wp2_with fail
        refine bodyPost_ret (ret_cell rfl _ rfl HF.out.blk Tryd.underlying42 (by kernel_rfl)) rfl ?_
        rw [HC.out]
        exact ⟨.slice none 0 0, PX, rfl, HPX.out, HNX.out, ((HF.out.drop.pick 2 rfl rfl).drop.pick 2 rfl rfl).drop⟩
      | false =>
        have HS2 := Lib.hid (show cr.2 = S' from HS'.out)
        have HLY := Lib.hid (lay_any H4.out HD.out ps hpz (newS zxid sess data) (.slice none 0 0) (List.mem_cons_self ..) HLK.out (HOK.out sess))
        go_wp2_with fail
        refine HLY.out.mono ?_
        rintro e w3 ⟨rfl, PX, hPX, hX⟩
        have HX := Lib.hid hX
        have HPX := Lib.hid (show ∀ q ∈ P, q ∈ PX from fun q hq => hPX q (List.mem_cons_of_mem _ hq))
        have HNX := Lib.hid (show (1, .slice none 0 0, []) ∈ PX from hPX _ (List.mem_cons_self ..))
        have HSE := Lib.hid (show S' = { S with l := layT ps.data.toList (newS zxid sess data) S.l } by rw [← HS2.out]; exact congrArg Prod.snd HC.out)
        rw [← HSE.out] at HX
        rw [← HB14.out]
        clear hX hPX HLY
        have HNB := HX.out.block (b := b14) (o := .cells #[.int .i64 zxid, .int .i64 zxid, .int .i64 0, .int .i64 0, .int .i64 sess, .int .i64 (data.size : Nat), .int .i64 0, .string data, .int .i64 0, .slice none 0 0] 51 (0, 0)) (by simp)
        have n0 := cell_of HNB 0 (v := .int .i64 zxid) rfl
        have n1 := cell_of HNB 1 (v := .int .i64 zxid) rfl
        have n2 := cell_of HNB 2 (v := .int .i64 0) rfl
        have n3 := cell_of HNB 3 (v := .int .i64 0) rfl
        have n4 := cell_of HNB 4 (v := .int .i64 sess) rfl
        have n5 := cell_of HNB 5 (v := .int .i64 (data.size : Nat)) rfl
        have n6 := cell_of HNB 6 (v := .int .i64 0) rfl
        have HY := Lib.hid (HX.out.pick 3 rfl rfl)
        clear HNB
        have r0 := cell_of HY.out.blk 0 (v := .int .i64 0) rfl
        have g0 := frz_of HY.out.blk 0
        have r1 := cell_of HY.out.blk 1 (v := .string ⟨#[]⟩) rfl
        have g1 := frz_of HY.out.blk 1
        have r2 := cell_of HY.out.blk 2 (v := .string ⟨#[]⟩) rfl
        have g2 := frz_of HY.out.blk 2
        have r3 := cell_of HY.out.blk 3 (v := .slice none 0 0) rfl
        have g3 := frz_of HY.out.blk 3
        have r4 := cell_of HY.out.blk 4 (v := .int .i64 0) rfl
        have g4 := frz_of HY.out.blk 4
        have r5 := cell_of HY.out.blk 5 (v := .int .i64 0) rfl
        have g5 := frz_of HY.out.blk 5
        have r6 := cell_of HY.out.blk 6 (v := .int .i64 0) rfl
        have g6 := frz_of HY.out.blk 6
        have r7 := cell_of HY.out.blk 7 (v := .int .i64 0) rfl
        have g7 := frz_of HY.out.blk 7
        have r8 := cell_of HY.out.blk 8 (v := .int .i64 0) rfl
        have g8 := frz_of HY.out.blk 8
        have r9 := cell_of HY.out.blk 9 (v := .int .i64 0) rfl
        have g9 := frz_of HY.out.blk 9
        have r10 := cell_of HY.out.blk 10 (v := .int .i64 0) rfl
        have g10 := frz_of HY.out.blk 10
        have HF := Lib.hid (HY.out.setAll [.int .i64 0, .string ps, .string ⟨#[]⟩, .slice none 0 0, .int .i64 zxid, .int .i64 zxid, .int .i64 0, .int .i64 0, .int .i64 sess, .int .i64 (data.size : Nat), .int .i64 0] rfl)
        go_wp2_with fail
        refine bodyPost_ret (ret_cell rfl _ rfl HF.out.blk Tryd.underlying42 (by kernel_rfl)) rfl ?_
        rw [HC.out]
        exact ⟨.slice none 0 0, PX, rfl, HPX.out, HNX.out, ((HF.out.drop.pick 2 rfl rfl).drop.pick 2 rfl rfl).drop⟩
end
end Go.Proofs.YtjeaoopamebgjaaDoor
