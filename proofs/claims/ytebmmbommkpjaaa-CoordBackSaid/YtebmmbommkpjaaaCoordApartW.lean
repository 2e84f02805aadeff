/-
  CoordApart: each decision goes by its own votes: others' change nothing of it.
-/
import Derived.Test.YtebmmbommkpjaaaCoordK
namespace Go.Proofs.Ytebmmbommkpjaaa
open Go.RowKit Go.Av

theorem spot_of {w : World} {x : Addr} {v : Value} (h : w.cell? x = some v) : x.spot = none := by
  cases hs : x.spot with
  | none => rfl
  | some _ =>
    unfold World.cell? at h
    split at h <;> simp [hs] at h
theorem add_field {w : World} {x : Addr} {k : Nat} {v : Value} (h : w.cell? (x.add k) = some v) (j : Nat) : x.add (k + j) = ⟨(x.add k).block, (x.add k).off + j, none⟩ := by
  have h1 := spot_of h
  rw [← Go.Deep.add_add]
  generalize x.add k = y at h1 ⊢
  obtain ⟨b, o, sp⟩ := y
  simp only at h1
  subst h1
  exact Addr.add_lit b o j



set_option maxRecDepth 100000 in
set_option maxHeartbeats 8000000 in
theorem coordApart_walk (a1 : Option Addr) (len1 cap1 : Nat) (acts : List ActS) (a : Option Addr) (len cap : Nat) (z : List Int) (w : World) (h1 : IsActs w a1 len1 cap1 acts) (h : IsInts w a len cap z) :
    Calls Try.prog 5 #[.slice a1 len1 cap1, .slice a len cap] w fun e w' => e = .returned (.bool true) ∧ Below w.heap.size w w' := by
  obtain ⟨l, El, hl, hrl⟩ := h.read
  subst hl
  obtain ⟨hnl, hncl, hcml, hcl⟩ := row_cell hrl
  obtain ⟨hla, hlca, hca, haa, hac, hax⟩ := h1
  subst hla
  unfold maxLen at hcml hca
  have HRL := Lib.hid hrl
  have HAC := Lib.hid (show _ ∧ _ ∧ _ from ⟨haa, hac, hax⟩)
  clear h hrl hcl hnl haa hac hax
  by_cases hok1 : 30 < acts.length
  · go_enter Try.func5, Try.ntmps5
    go_wp2_with fail
    refine (awake20_any _).mono ?_
    rintro e w1 ⟨rfl, hu1⟩
    go_wp2_with fail
    go_ret
    exact ⟨rfl, hu1.below⟩
  by_cases hok2 : 4 < l.length
  · go_enter Try.func5, Try.ntmps5
    go_wp2_with fail
    refine (awake20_any _).mono ?_
    rintro e w1 ⟨rfl, hu1⟩
    go_wp2_with fail
    go_ret
    exact ⟨rfl, hu1.below⟩
  go_enter Try.func5, Try.ntmps5
  go_wp2_with fail
  refine (awake20_any _).mono ?_
  rintro e w1 ⟨rfl, hu1⟩
  go_wp2_with fail
  refine (new_coord ((Sep.start w).keep hu1)).mono ?_
  rintro e w2 ⟨c, rfl, H⟩
  have HT := Lib.hid (two_new H)
  clear H hu1
  go_wp2_with fail
  refine HT.out.mono ?_
  rintro e w3 ⟨d, rfl, H⟩
  have hb2 := H.below
  obtain ⟨R1, g1, b1⟩ := H.flip.use
  have hb := begin_any g1 77 _ l El (by decide) (HRL.out.frame (fun b hb => hb2.block b (HRL.out.lt b hb)))
  obtain ⟨r, hr⟩ : ∃ r, beginS [] 77 l = r := ⟨_, rfl⟩
  rw [hr] at hb
  have HB := Lib.hid hb
  have HRB := Lib.hid hr
  have HBK := Lib.hid b1
  clear H hb hb2 hr g1 b1 HT
  go_wp2_with fail
  refine HB.out.mono ?_
  rintro e w4 ⟨rfl, h⟩
  have H := (HBK.out _ _ h).flip
  by_cases hr0 : r.1 = 0
  case neg =>
    have hb : (r.1 != 0) = true := by simp [hr0]
    have HBB := Lib.hid H.below
    clear H hr0 h HB HBK
    go_wp2_with fail
    go_ret
    exact ⟨rfl, HBB.out⟩
  have hbz : (r.1 != 0) = false := by simp [hr0]
  have hb2 := H.below
  obtain ⟨R1, g1, b1⟩ := H.use
  have hb := begin_any g1 77 _ l El (by decide) (HRL.out.frame (fun b hb => hb2.block b (HRL.out.lt b hb)))
  rw [HRB.out] at hb
  have HB2 := Lib.hid hb
  have HBK2 := Lib.hid b1
  clear H hb hb2 g1 b1 HB HBK h hr0
  go_wp2_with fail
  refine HB2.out.mono ?_
  rintro e w5 ⟨rfl, h⟩
  have HST := Lib.hid (HBK2.out _ _ h).flip
  clear HB2 HBK2 h
  go_wp2_with fail
  go_loopg [7] acts.length (fun k v wr => ∃ (p : Nat) (S T : CoS), p ≤ acts.length ∧ k = acts.length - p ∧ v = .int .i64 (p : Int) ∧ Two w wr c S d T [] [] ∧ lookS 77 S = lookS 77 T)
  case atStart => exact ⟨0, _, _, Nat.zero_le _, rfl, rfl, HST.out, rfl⟩
  case round =>
    obtain ⟨p, S, T, hp, hk, hv3, H, hlook⟩ := hrel
    subst hv3
    clear HST
    by_cases hlt : p < acts.length
    case neg =>
      have HBB := Lib.hid H.below
      clear H hlook
      go_wp2_with fail
      go_ret
      exact ⟨rfl, HBB.out⟩
    obtain ⟨x, hxa⟩ : ∃ x, a1 = some x := by
      cases a1 with
      | none => exact absurd (HAC.out.1 rfl) (by omega)
      | some x => exact ⟨x, rfl⟩
    subst hxa
    obtain ⟨g0, g1, g2, g3, g4⟩ := HAC.out.2.1 x rfl p hlt
    obtain ⟨hidm, Ev, hvs⟩ := HAC.out.2.2 _ (List.getElem_mem hlt)
    obtain ⟨q0, hq0⟩ : ∃ q, acts[p] = q := ⟨_, rfl⟩
    rw [hq0] at g0 g1 g2 g3 g4 hvs hidm
    obtain ⟨op, aid, avs, ash, sh, yes⟩ := q0
    dsimp only at g0 g1 g2 g3 g4 hvs hidm
    have HVS := Lib.hid hvs
    obtain ⟨aS, nS, cS, hvs, -⟩ := hvs
    subst hvs
    have hbl := H.below
    have up : ∀ {j : Nat} {v : Value}, w.cell? (x.add j) = some v → wr.cell? (x.add j) = some v := fun hv => (hbl.cell (World.block_lt_of_cell? w _ hv)).trans hv
    have g0 := up g0
    have g1 := up g1
    have g2 := up g2
    have g3 := up g3
    have g4 := up g4
    rw [add_field g0 1] at g1
    rw [add_field g0 2] at g2
    rw [add_field g0 3] at g3
    rw [add_field g0 4] at g4
    clear hbl up hq0
    by_cases hs6 : 6 < nS
    · have HBB := Lib.hid (H.newCell (.cells #[.int .i64 op, .int .i64 aid, .slice aS nS cS, .int .i64 sh, .bool yes] 40 (0, 0))).below
      clear H hlook
      go_wp2_with fail
      go_ret
      exact ⟨rfl, HBB.out⟩
    obtain ⟨S1, hS1⟩ : ∃ z, S = z := ⟨_, rfl⟩
    by_cases hid : aid = 77
    · subst hid
      have hM2 := H.newCell (.cells #[.int .i64 op, .int .i64 77, .slice aS nS cS, .int .i64 sh, .bool yes] 40 (0, 0))
      rw [hS1] at hM2 hlook
      have HL := Lib.hid hlook
      clear H hlook hS1
      have c0 := cell_of hM2.cellR 0 rfl
      by_cases hop : 0 < op
      · have c1 := cell_of hM2.cellR 1 rfl
        have c2 := cell_of hM2.cellR 2 rfl
        have c3 := cell_of hM2.cellR 3 rfl
        have c4 := cell_of hM2.cellR 4 rfl
        obtain ⟨R1, h1, b1⟩ := hM2.use
        have hbl := hM2.below
        have HS1 := Lib.hid (step_any h1 op 77 _ ash Ev sh yes (by decide) (HVS.out.frame (fun b hb => hbl.block b (HVS.out.lt b hb))))
        have HB1 := Lib.hid b1
        clear hM2 h1 b1 hbl
        go_wp2_with fail
        refine HS1.out.mono ?_
        rintro e' w7 ⟨rfl, h⟩
        have H := HB1.out _ _ h
        clear c0 c1 c2 c3 c4
        have c0 := cell_of H.cellR 0 rfl
        have c1 := cell_of H.cellR 1 rfl
        have c2 := cell_of H.cellR 2 rfl
        have c3 := cell_of H.cellR 3 rfl
        have c4 := cell_of H.cellR 4 rfl
        obtain ⟨R2, h1, b1⟩ := H.flip.use
        have hbl := H.below
        have HS2 := Lib.hid (step_any h1 op 77 _ ash Ev sh yes (by decide) (HVS.out.frame (fun b hb => hbl.block b (HVS.out.lt b hb))))
        have HB2 := Lib.hid b1
        clear H h1 b1 hbl HS1 HB1 h
        go_wp2_with fail
        refine HS2.out.mono ?_
        rintro e' w8 ⟨rfl, h⟩
        have H := (HB2.out _ _ h).flip
        have hlook := step_alike S1 T op 77 ash sh yes HL.out (by omega)
        clear HS2 HB2 h c0 c1 c2 c3 c4
        obtain ⟨S2, hS2⟩ : ∃ z, stepS S1 op 77 ash sh yes = z := ⟨_, rfl⟩
        obtain ⟨T2, hT2⟩ : ∃ z, stepS T op 77 ash sh yes = z := ⟨_, rfl⟩
        rw [hS2, hT2] at H hlook
        clear hS2 hT2
        obtain ⟨R1, h1, b1⟩ := H.use
        have HV := Lib.hid (decision_any h1 77)
        have HB := Lib.hid b1
        have HE := Lib.hid (show _ ∧ _ from ⟨hlook, decS_of _ _ _ hlook⟩)
        clear H h1 b1 hlook
        go_wp2_with fail
        refine HV.out.mono ?_
        rintro e' w9 ⟨rfl, h⟩
        have H := (HB.out _ _ h).flip
        obtain ⟨R2, h1, b1⟩ := H.use
        have hd2 := decision_any h1 77
        rw [← HE.out.2.1] at hd2
        have HV2 := Lib.hid hd2
        have HB2 := Lib.hid b1
        clear H h1 b1 HB HV h hd2
        obtain ⟨da, hda⟩ : ∃ x, decS S2 77 = x := ⟨_, rfl⟩
        obtain ⟨da, db⟩ := da
        rw [hda] at HV2 ⊢
        clear hda
        dsimp only at HV2 ⊢
        have hab : (da != da) = false := by simp
        have hbb : (db != db) = false := by simp
        go_wp2_with fail
        refine HV2.out.mono ?_
        rintro e' w10 ⟨rfl, h⟩
        have H := (HB2.out _ _ h).flip
        obtain ⟨R3, h1, b1⟩ := H.use
        have HV3 := Lib.hid (owes_any h1 77)
        have HH := Lib.hid H
        clear H h1 b1 HB2 HV2 h
        go_wp2_with fail
        refine HV3.out.mono ?_
        rintro e' w11 ⟨v11, D11, rfl, ho11, hu11⟩
        obtain ⟨E11, hr11, -⟩ := ho11.read
        have H := (HH.out.keep hu11).flip
        obtain ⟨R3, h1, b1⟩ := H.use
        have hw4 := owes_any h1 77
        rw [← HE.out.2.2] at hw4
        have HV4 := Lib.hid hw4
        have HH4 := Lib.hid H
        have HR11 := Lib.hid hr11
        clear H h1 b1 HH HV3 hw4 hu11 ho11 hr11
        go_wp2_with fail
        refine HV4.out.mono ?_
        rintro e' w12 ⟨v12, D12, rfl, ho12, hu12⟩
        obtain ⟨E12, hr12, -⟩ := ho12.read
        have H := (HH4.out.keep hu12).flip
        have hsm := same_any _ _ _ _ E11 E12 w12 (HR11.out.frame (hu12.same HR11.out.lt (by simp))) hr12
        have htt : decide (owesS S2 77 = owesS S2 77) = true := by simp
        rw [htt] at hsm
        have HS := Lib.hid hsm
        have HH5 := Lib.hid H
        clear H HV4 HH4 HR11 ho12 hu12 hr12 hsm htt
        go_wp2_with fail
        refine HS.out.mono ?_
        rintro e' w13 ⟨rfl, hu13⟩
        have HN := Lib.hid (HH5.out.keep hu13).dropR
        clear hu13 HH5 HS
        go_wp2_with fail
        go_roundg (acts.length - (p + 1))
        case rel => exact ⟨p + 1, _, _, by omega, rfl, by go_num, HN.out, HE.out.1⟩
        case measure => omega
      · have H := hM2
        have hlook := HL.out
        obtain ⟨S2, hS2⟩ : ∃ z, S1 = z := ⟨_, rfl⟩
        rw [hS2] at H hlook
        clear hM2 hS2
        obtain ⟨R1, h1, b1⟩ := H.use
        have HV := Lib.hid (decision_any h1 77)
        have HB := Lib.hid b1
        have HE := Lib.hid (show _ ∧ _ from ⟨hlook, decS_of _ _ _ hlook⟩)
        clear H h1 b1 hlook
        go_wp2_with fail
        refine HV.out.mono ?_
        rintro e' w9 ⟨rfl, h⟩
        have H := (HB.out _ _ h).flip
        obtain ⟨R2, h1, b1⟩ := H.use
        have hd2 := decision_any h1 77
        rw [← HE.out.2.1] at hd2
        have HV2 := Lib.hid hd2
        have HB2 := Lib.hid b1
        clear H h1 b1 HB HV h hd2
        obtain ⟨da, hda⟩ : ∃ x, decS S2 77 = x := ⟨_, rfl⟩
        obtain ⟨da, db⟩ := da
        rw [hda] at HV2 ⊢
        clear hda
        dsimp only at HV2 ⊢
        have hab : (da != da) = false := by simp
        have hbb : (db != db) = false := by simp
        go_wp2_with fail
        refine HV2.out.mono ?_
        rintro e' w10 ⟨rfl, h⟩
        have H := (HB2.out _ _ h).flip
        obtain ⟨R3, h1, b1⟩ := H.use
        have HV3 := Lib.hid (owes_any h1 77)
        have HH := Lib.hid H
        clear H h1 b1 HB2 HV2 h
        go_wp2_with fail
        refine HV3.out.mono ?_
        rintro e' w11 ⟨v11, D11, rfl, ho11, hu11⟩
        obtain ⟨E11, hr11, -⟩ := ho11.read
        have H := (HH.out.keep hu11).flip
        obtain ⟨R3, h1, b1⟩ := H.use
        have hw4 := owes_any h1 77
        rw [← HE.out.2.2] at hw4
        have HV4 := Lib.hid hw4
        have HH4 := Lib.hid H
        have HR11 := Lib.hid hr11
        clear H h1 b1 HH HV3 hw4 hu11 ho11 hr11
        go_wp2_with fail
        refine HV4.out.mono ?_
        rintro e' w12 ⟨v12, D12, rfl, ho12, hu12⟩
        obtain ⟨E12, hr12, -⟩ := ho12.read
        have H := (HH4.out.keep hu12).flip
        have hsm := same_any _ _ _ _ E11 E12 w12 (HR11.out.frame (hu12.same HR11.out.lt (by simp))) hr12
        have htt : decide (owesS S2 77 = owesS S2 77) = true := by simp
        rw [htt] at hsm
        have HS := Lib.hid hsm
        have HH5 := Lib.hid H
        clear H HV4 HH4 HR11 ho12 hu12 hr12 hsm htt
        go_wp2_with fail
        refine HS.out.mono ?_
        rintro e' w13 ⟨rfl, hu13⟩
        have HN := Lib.hid (HH5.out.keep hu13).dropR
        clear hu13 HH5 HS
        go_wp2_with fail
        go_roundg (acts.length - (p + 1))
        case rel => exact ⟨p + 1, _, _, by omega, rfl, by go_num, HN.out, HE.out.1⟩
        case measure => omega
    · have hb1 : ((aid : Int) != 77) = true := by simp [hid]
      have H0 := H.newCell (.cells #[.int .i64 op, .int .i64 aid, .slice aS nS cS, .int .i64 sh, .bool yes] 40 (0, 0))
      obtain ⟨R1, h1, b1⟩ := H0.use
      have hbl := H0.below
      have HS0 := Lib.hid (step_any h1 op aid _ ash Ev sh yes hidm (HVS.out.frame (fun b hb => hbl.block b (HVS.out.lt b hb))))
      have HB0 := Lib.hid b1
      have hl0 : lookS 77 (stepS S op aid ash sh yes) = lookS 77 T := (step_other S op aid 77 ash sh yes hid).trans hlook
      have HL := Lib.hid hl0
      clear H H0 h1 b1 hbl hlook hl0 hS1 hid
      go_wp2_with fail
      refine HS0.out.mono ?_
      rintro e' w6 ⟨rfl, h⟩
      have H := HB0.out _ _ h
      have k1 := cell_of H.cellR 1 rfl
      have f1 := frz_of H.cellR 1
      have hM2 := H.setR 1 (.int .i64 77)
      clear h HS0 HB0 H S1
      obtain ⟨S1, hS1⟩ : ∃ z, stepS S op aid ash sh yes = z := ⟨_, rfl⟩
      rw [hS1] at hM2 HL
      clear hS1 g0 g1 g2 g3 g4
      have c0 := cell_of hM2.cellR 0 rfl
      by_cases hop : 0 < op
      · have c1 := cell_of hM2.cellR 1 rfl
        have c2 := cell_of hM2.cellR 2 rfl
        have c3 := cell_of hM2.cellR 3 rfl
        have c4 := cell_of hM2.cellR 4 rfl
        obtain ⟨R1, h1, b1⟩ := hM2.use
        have hbl := hM2.below
        have HS1 := Lib.hid (step_any h1 op 77 _ ash Ev sh yes (by decide) (HVS.out.frame (fun b hb => hbl.block b (HVS.out.lt b hb))))
        have HB1 := Lib.hid b1
        clear hM2 h1 b1 hbl
        go_wp2_with fail
        refine HS1.out.mono ?_
        rintro e' w7 ⟨rfl, h⟩
        have H := HB1.out _ _ h
        clear c0 c1 c2 c3 c4
        have c0 := cell_of H.cellR 0 rfl
        have c1 := cell_of H.cellR 1 rfl
        have c2 := cell_of H.cellR 2 rfl
        have c3 := cell_of H.cellR 3 rfl
        have c4 := cell_of H.cellR 4 rfl
        obtain ⟨R2, h1, b1⟩ := H.flip.use
        have hbl := H.below
        have HS2 := Lib.hid (step_any h1 op 77 _ ash Ev sh yes (by decide) (HVS.out.frame (fun b hb => hbl.block b (HVS.out.lt b hb))))
        have HB2 := Lib.hid b1
        clear H h1 b1 hbl HS1 HB1 h
        go_wp2_with fail
        refine HS2.out.mono ?_
        rintro e' w8 ⟨rfl, h⟩
        have H := (HB2.out _ _ h).flip
        have hlook := step_alike S1 T op 77 ash sh yes HL.out (by omega)
        clear HS2 HB2 h c0 c1 c2 c3 c4
        obtain ⟨S2, hS2⟩ : ∃ z, stepS S1 op 77 ash sh yes = z := ⟨_, rfl⟩
        obtain ⟨T2, hT2⟩ : ∃ z, stepS T op 77 ash sh yes = z := ⟨_, rfl⟩
        rw [hS2, hT2] at H hlook
        clear hS2 hT2
        obtain ⟨R1, h1, b1⟩ := H.use
        have HV := Lib.hid (decision_any h1 77)
        have HB := Lib.hid b1
        have HE := Lib.hid (show _ ∧ _ from ⟨hlook, decS_of _ _ _ hlook⟩)
        clear H h1 b1 hlook
        go_wp2_with fail
        refine HV.out.mono ?_
        rintro e' w9 ⟨rfl, h⟩
        have H := (HB.out _ _ h).flip
        obtain ⟨R2, h1, b1⟩ := H.use
        have hd2 := decision_any h1 77
        rw [← HE.out.2.1] at hd2
        have HV2 := Lib.hid hd2
        have HB2 := Lib.hid b1
        clear H h1 b1 HB HV h hd2
        obtain ⟨da, hda⟩ : ∃ x, decS S2 77 = x := ⟨_, rfl⟩
        obtain ⟨da, db⟩ := da
        rw [hda] at HV2 ⊢
        clear hda
        dsimp only at HV2 ⊢
        have hab : (da != da) = false := by simp
        have hbb : (db != db) = false := by simp
        go_wp2_with fail
        refine HV2.out.mono ?_
        rintro e' w10 ⟨rfl, h⟩
        have H := (HB2.out _ _ h).flip
        obtain ⟨R3, h1, b1⟩ := H.use
        have HV3 := Lib.hid (owes_any h1 77)
        have HH := Lib.hid H
        clear H h1 b1 HB2 HV2 h
        go_wp2_with fail
        refine HV3.out.mono ?_
        rintro e' w11 ⟨v11, D11, rfl, ho11, hu11⟩
        obtain ⟨E11, hr11, -⟩ := ho11.read
        have H := (HH.out.keep hu11).flip
        obtain ⟨R3, h1, b1⟩ := H.use
        have hw4 := owes_any h1 77
        rw [← HE.out.2.2] at hw4
        have HV4 := Lib.hid hw4
        have HH4 := Lib.hid H
        have HR11 := Lib.hid hr11
        clear H h1 b1 HH HV3 hw4 hu11 ho11 hr11
        go_wp2_with fail
        refine HV4.out.mono ?_
        rintro e' w12 ⟨v12, D12, rfl, ho12, hu12⟩
        obtain ⟨E12, hr12, -⟩ := ho12.read
        have H := (HH4.out.keep hu12).flip
        have hsm := same_any _ _ _ _ E11 E12 w12 (HR11.out.frame (hu12.same HR11.out.lt (by simp))) hr12
        have htt : decide (owesS S2 77 = owesS S2 77) = true := by simp
        rw [htt] at hsm
        have HS := Lib.hid hsm
        have HH5 := Lib.hid H
        clear H HV4 HH4 HR11 ho12 hu12 hr12 hsm htt
        go_wp2_with fail
        refine HS.out.mono ?_
        rintro e' w13 ⟨rfl, hu13⟩
        have HN := Lib.hid (HH5.out.keep hu13).dropR
        clear hu13 HH5 HS
        go_wp2_with fail
        go_roundg (acts.length - (p + 1))
        case rel => exact ⟨p + 1, _, _, by omega, rfl, by go_num, HN.out, HE.out.1⟩
        case measure => omega
      · have H := hM2
        have hlook := HL.out
        obtain ⟨S2, hS2⟩ : ∃ z, S1 = z := ⟨_, rfl⟩
        rw [hS2] at H hlook
        clear hM2 hS2
        obtain ⟨R1, h1, b1⟩ := H.use
        have HV := Lib.hid (decision_any h1 77)
        have HB := Lib.hid b1
        have HE := Lib.hid (show _ ∧ _ from ⟨hlook, decS_of _ _ _ hlook⟩)
        clear H h1 b1 hlook
        go_wp2_with fail
        refine HV.out.mono ?_
        rintro e' w9 ⟨rfl, h⟩
        have H := (HB.out _ _ h).flip
        obtain ⟨R2, h1, b1⟩ := H.use
        have hd2 := decision_any h1 77
        rw [← HE.out.2.1] at hd2
        have HV2 := Lib.hid hd2
        have HB2 := Lib.hid b1
        clear H h1 b1 HB HV h hd2
        obtain ⟨da, hda⟩ : ∃ x, decS S2 77 = x := ⟨_, rfl⟩
        obtain ⟨da, db⟩ := da
        rw [hda] at HV2 ⊢
        clear hda
        dsimp only at HV2 ⊢
        have hab : (da != da) = false := by simp
        have hbb : (db != db) = false := by simp
        go_wp2_with fail
        refine HV2.out.mono ?_
        rintro e' w10 ⟨rfl, h⟩
        have H := (HB2.out _ _ h).flip
        obtain ⟨R3, h1, b1⟩ := H.use
        have HV3 := Lib.hid (owes_any h1 77)
        have HH := Lib.hid H
        clear H h1 b1 HB2 HV2 h
        go_wp2_with fail
        refine HV3.out.mono ?_
        rintro e' w11 ⟨v11, D11, rfl, ho11, hu11⟩
        obtain ⟨E11, hr11, -⟩ := ho11.read
        have H := (HH.out.keep hu11).flip
        obtain ⟨R3, h1, b1⟩ := H.use
        have hw4 := owes_any h1 77
        rw [← HE.out.2.2] at hw4
        have HV4 := Lib.hid hw4
        have HH4 := Lib.hid H
        have HR11 := Lib.hid hr11
        clear H h1 b1 HH HV3 hw4 hu11 ho11 hr11
        go_wp2_with fail
        refine HV4.out.mono ?_
        rintro e' w12 ⟨v12, D12, rfl, ho12, hu12⟩
        obtain ⟨E12, hr12, -⟩ := ho12.read
        have H := (HH4.out.keep hu12).flip
        have hsm := same_any _ _ _ _ E11 E12 w12 (HR11.out.frame (hu12.same HR11.out.lt (by simp))) hr12
        have htt : decide (owesS S2 77 = owesS S2 77) = true := by simp
        rw [htt] at hsm
        have HS := Lib.hid hsm
        have HH5 := Lib.hid H
        clear H HV4 HH4 HR11 ho12 hu12 hr12 hsm htt
        go_wp2_with fail
        refine HS.out.mono ?_
        rintro e' w13 ⟨rfl, hu13⟩
        have HN := Lib.hid (HH5.out.keep hu13).dropR
        clear hu13 HH5 HS
        go_wp2_with fail
        go_roundg (acts.length - (p + 1))
        case rel => exact ⟨p + 1, _, _, by omega, rfl, by go_num, HN.out, HE.out.1⟩
        case measure => omega
end Go.Proofs.Ytebmmbommkpjaaa
