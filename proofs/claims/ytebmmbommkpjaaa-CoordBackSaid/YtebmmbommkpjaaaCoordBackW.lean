/-
  CoordBack: what is decided, and who owes, is the same in one that is written and read.
-/
import Derived.Test.YtebmmbommkpjaaaCoordR
import Derived.Test.YtebmmbommkpjaaaCoordS
import Derived.Test.YtebmmbommkpjaaaCoordApartW
namespace Go.Proofs.Ytebmmbommkpjaaa
open Go.RowKit Go.Av

section
variable {w0 w : World} {c d : Nat} {S T : CoS} {R : List Thing} {rows : List (Value × Bs)}
theorem Co.toRowR {v : Value} {b : Bs} (h : Co w0 w c S (ThRow 1 v (b.map bv) :: R) rows) : Co w0 w c S R ((v, b) :: rows) := by
  obtain ⟨m, gs, h1, h2, hS⟩ := h
  exact ⟨m, gs, h1, h2, (hS.perm (perm_last _ _ _ _).symm).toRow⟩
theorem two_get (h : Co w0 w c S R rows) {v : Value} (hv : (v, bytesS S) ∈ rows) (hI : InvC S) (hn : S.length ≤ 1000) :
    Calls Try.prog 21 #[v] w fun e w' => ∃ d, e = .returned (.tuple #[.pointer (some ⟨d, 0, none⟩), .int .i64 0]) ∧ Two w0 w' d (sortS S) c S R rows := by
  obtain ⟨m, gs, h1, h2, hS⟩ := h
  have hb : (bytesS S).length ≤ 1073741824 := by
    have := entK_len h2 (keysS S)
    rw [keys_len] at this
    unfold bytesS
    rw [List.length_append, packI_len]
    omega
  have := get_any hS v (bytesS S) hv hb
  rw [getS_put hI (by omega)] at this
  refine this.mono ?_
  rintro e w' ⟨d, rfl, h'⟩
  exact ⟨d, rfl, m, gs, h1, h2, h'⟩
theorem Two.toRowR {v : Value} {b : Bs} (h : Two w0 w c S d T (ThRow 1 v (b.map bv) :: R) rows) : Two w0 w c S d T R ((v, b) :: rows) := by
  obtain ⟨m, gs, h1, h2, h3⟩ := h
  exact ⟨m, gs, h1, h2, (h3.permR (two_perm _ _ _ _).symm).toRowR⟩
theorem Two.get {v : Value} {b : Bs} (h : Two w0 w c S d T R rows) (hm : (v, b) ∈ rows) : ∃ E, ReadRow w 1 v (b.map bv) E := by
  obtain ⟨R', h1, -⟩ := h.use
  exact h1.get hm
theorem Two.drew (h : Two w0 w c S d T R rows) : Two w0 w.drew c S d T R rows := h.keep (Upd.refl w []).drew
/-- Put, of one of two. -/
theorem Two.put (h : Two w0 w c S d T R rows) (hn : S.length ≤ 1000) :
    Calls Try.prog 26 #[.pointer (some ⟨c, 0, none⟩)] w fun e w' => ∃ v, e = .returned v ∧ Two w0 w' c S d T R ((v, bytesS S) :: rows) := by
  obtain ⟨m, gs, h1, h2, h3⟩ := h
  refine (put_any h3 hn).mono ?_
  rintro e w' ⟨v, rfl, h'⟩
  exact ⟨v, rfl, m, gs, h1, h2, h'.toRowR⟩
end



set_option maxRecDepth 100000 in
set_option maxHeartbeats 8000000 in
theorem coordBack_walk (a1 : Option Addr) (len1 cap1 : Nat) (acts : List ActS) (a2 : Option Addr) (len2 cap2 : Nat) (acts2 : List ActS) (w : World) (h1 : IsActs w a1 len1 cap1 acts) (h2 : IsActs w a2 len2 cap2 acts2) :
    Calls Try.prog 9 #[.slice a1 len1 cap1, .slice a2 len2 cap2] w fun e w' => e = .returned (.bool true) ∧ Below w.heap.size w w' := by
  obtain ⟨hla, hlca, hca, haa, hac, hax⟩ := h1
  obtain ⟨hlb, hlcb, hcb, hba, hbc, hbx⟩ := h2
  subst hla hlb
  unfold maxLen at hca hcb
  have HA1 := Lib.hid (show _ ∧ _ ∧ _ from ⟨haa, hac, hax⟩)
  have HA2 := Lib.hid (show _ ∧ _ ∧ _ from ⟨hba, hbc, hbx⟩)
  clear haa hac hax hba hbc hbx
  by_cases hok1 : 30 < acts.length
  · go_enter Try.func9, Try.ntmps9
    go_wp2_with fail
    refine (awake20_any _).mono ?_
    rintro e w1 ⟨rfl, hu1⟩
    go_wp2_with fail
    go_ret
    exact ⟨rfl, hu1.below⟩
  by_cases hok2 : 30 < acts2.length
  · go_enter Try.func9, Try.ntmps9
    go_wp2_with fail
    refine (awake20_any _).mono ?_
    rintro e w1 ⟨rfl, hu1⟩
    go_wp2_with fail
    go_ret
    exact ⟨rfl, hu1.below⟩
  go_enter Try.func9, Try.ntmps9
  go_wp2_with fail
  refine (awake20_any _).mono ?_
  rintro e w1 ⟨rfl, hu1⟩
  go_wp2_with fail
  refine (new_coord ((Sep.start w).keep hu1)).mono ?_
  rintro e w2 ⟨c, rfl, H⟩
  have HT := Lib.hid H
  clear H hu1
  go_wp2_with fail
  go_loopg [6] acts.length (fun k v wr => ∃ (p : Nat) (S : CoS), p ≤ acts.length ∧ k = acts.length - p ∧ v = .int .i64 (p : Int) ∧ Co w wr c S [] [] ∧ InvC S ∧ S.length ≤ p)
  case atStart => exact ⟨0, _, Nat.zero_le _, rfl, rfl, HT.out, inv_nil, Nat.zero_le _⟩
  case round =>
    obtain ⟨p, S, hp, hk, hv3, H, hinv, hlen⟩ := hrel
    subst hv3
    clear HT
    have HI := Lib.hid hinv
    clear hinv
    by_cases hlt : p < acts.length
    case pos =>
      obtain ⟨x, hxa⟩ : ∃ x, a1 = some x := by
        cases a1 with
        | none => exact absurd (HA1.out.1 rfl) (by omega)
        | some x => exact ⟨x, rfl⟩
      subst hxa
      obtain ⟨g0, g1, g2, g3, g4⟩ := HA1.out.2.1 x rfl p hlt
      obtain ⟨hidm, Ev, hvs⟩ := HA1.out.2.2 _ (List.getElem_mem hlt)
      obtain ⟨q0, hq0⟩ : ∃ q, acts[p] = q := ⟨_, rfl⟩
      rw [hq0] at g0 g1 g2 g3 g4 hvs hidm
      obtain ⟨op, aid, avs, ash, sh, yes⟩ := q0
      dsimp only at g0 g1 g2 g3 g4 hvs hidm
      have HVS := Lib.hid hvs
      obtain ⟨aS, nS, cS, hvs, -⟩ := hvs
      subst hvs
      have G := Lib.hid (show _ ∧ _ ∧ _ ∧ _ ∧ _ from ⟨g0, g1, g2, g3, g4⟩)
      have hbl := H.below
      have up : ∀ {j : Nat} {v : Value}, w.cell? (x.add j) = some v → wr.cell? (x.add j) = some v := fun hv => (hbl.cell (World.block_lt_of_cell? w _ hv)).trans hv
      have g0 := up g0
      have g1 := up g1
      have g2 := up g2
      have g3 := up g3
      have g4 := up g4
      rw [add_field g0 1] at g1
      rw [add_field g0 2] at g2
      rw [add_field g0 3] at g3
      rw [add_field g0 4] at g4
      clear up hq0
      by_cases hs6 : 6 < nS
      · have HBB := Lib.hid H.below
        clear H hbl
        go_wp2_with fail
        go_ret
        exact ⟨rfl, HBB.out⟩
      have HS1 := Lib.hid (step_any H op aid _ ash Ev sh yes hidm (HVS.out.frame (fun b hb => hbl.block b (HVS.out.lt b hb))))
      have hl2 := step_len S op aid ash sh yes
      clear H hbl
      go_wp2_with fail
      refine HS1.out.mono ?_
      rintro e' w3 ⟨rfl, h⟩
      have HN := Lib.hid h
      clear h HS1 g0 g1 g2 g3 g4
      go_wp2_with fail
      go_roundg (acts.length - (p + 1))
      case rel => exact ⟨p + 1, _, by omega, rfl, by go_num, HN.out, step_inv HI.out _ _ _ _ _ hidm, by omega⟩
      case measure => omega
    have hlen2 : S.length ≤ 1000 := by omega
    have HP := Lib.hid (put_any H hlen2)
    clear H
    go_wp2_with fail
    refine HP.out.mono ?_
    rintro e w3 ⟨v, rfl, h⟩
    have h' := h.toRowR
    have HG := Lib.hid (two_get (v := v) h' (by simp) HI.out hlen2)
    clear h h' HP
    go_wp2_with fail
    refine HG.out.mono ?_
    rintro e w4 ⟨d, rfl, h⟩
    have HT := Lib.hid h.flip
    clear h HG
    go_wp2_with fail
    have HL := Lib.hid (show _ ∧ _ ∧ _ from ⟨sort_inv HI.out, fun z => (sort_look HI.out z).symm, sort_len HI.out⟩)
    obtain ⟨rows, hrows⟩ : ∃ rows, rows = [(v, bytesS S)] := ⟨_, rfl⟩
    rw [← hrows] at HT
    clear hrows
    have HS := Lib.hid (show S.length ≤ 30 from by omega)
    clear hlen hlen2
    go_loopg [9] acts2.length (fun k v wr => ∃ (p : Nat) (S T : CoS), p ≤ acts2.length ∧ k = acts2.length - p ∧ v = .int .i64 (p : Int) ∧ Two w wr c S d T [] rows ∧ InvC S ∧ InvC T ∧ (∀ z, lookS z S = lookS z T) ∧ S.length ≤ 30 + p)
    case atStart => exact ⟨0, _, _, Nat.zero_le _, rfl, rfl, HT.out, HI.out, HL.out.1, HL.out.2.1, by have := HS.out; omega⟩
    case round =>
      clear HT HL HI HS
      clear S
      obtain ⟨p, S, T, hp, hk, hv3, H, hiS, hiT, hall, hlen⟩ := hrel
      subst hv3
      have HI := Lib.hid (show _ ∧ _ ∧ _ from ⟨hiS, hiT, hall⟩)
      clear hiS hiT hall
      by_cases hlt : p < acts2.length
      case pos =>
        obtain ⟨x, hxa⟩ : ∃ x, a2 = some x := by
          cases a2 with
          | none => exact absurd (HA2.out.1 rfl) (by omega)
          | some x => exact ⟨x, rfl⟩
        subst hxa
        obtain ⟨g0, g1, g2, g3, g4⟩ := HA2.out.2.1 x rfl p hlt
        obtain ⟨hidm, Ev, hvs⟩ := HA2.out.2.2 _ (List.getElem_mem hlt)
        obtain ⟨q0, hq0⟩ : ∃ q, acts2[p] = q := ⟨_, rfl⟩
        rw [hq0] at g0 g1 g2 g3 g4 hvs hidm
        obtain ⟨op, aid, avs, ash, sh, yes⟩ := q0
        dsimp only at g0 g1 g2 g3 g4 hvs hidm
        have HVS := Lib.hid hvs
        obtain ⟨aS, nS, cS, hvs, -⟩ := hvs
        subst hvs
        have G := Lib.hid (show _ ∧ _ ∧ _ ∧ _ ∧ _ from ⟨g0, g1, g2, g3, g4⟩)
        have hbl := H.below
        have up : ∀ {j : Nat} {v : Value}, w.cell? (x.add j) = some v → wr.cell? (x.add j) = some v := fun hv => (hbl.cell (World.block_lt_of_cell? w _ hv)).trans hv
        have g0 := up g0
        have g1 := up g1
        have g2 := up g2
        have g3 := up g3
        have g4 := up g4
        rw [add_field g0 1] at g1
        rw [add_field g0 2] at g2
        rw [add_field g0 3] at g3
        rw [add_field g0 4] at g4
        clear up hq0
        by_cases hs6 : 6 < nS
        · have HBB := Lib.hid H.below
          clear H hbl
          go_wp2_with fail
          go_ret
          exact ⟨rfl, HBB.out⟩
        obtain ⟨R1, f1, b1⟩ := H.use
        have HS1 := Lib.hid (step_any f1 op aid _ ash Ev sh yes hidm (HVS.out.frame (fun b hb => hbl.block b (HVS.out.lt b hb))))
        have HB1 := Lib.hid b1
        have hl2 := step_len S op aid ash sh yes
        clear H hbl f1 b1
        go_wp2_with fail
        refine HS1.out.mono ?_
        rintro e' w5 ⟨rfl, h⟩
        have H := (HB1.out _ _ h).flip
        have hbl := H.below
        clear g0 g1 g2 g3 g4
        have up : ∀ {j : Nat} {v : Value}, w.cell? (x.add j) = some v → _ := fun hv => (hbl.cell (World.block_lt_of_cell? w _ hv)).trans hv
        have g0 := up G.out.1
        have g1 := up G.out.2.1
        have g2 := up G.out.2.2.1
        have g3 := up G.out.2.2.2.1
        have g4 := up G.out.2.2.2.2
        rw [add_field g0 1] at g1
        rw [add_field g0 2] at g2
        rw [add_field g0 3] at g3
        rw [add_field g0 4] at g4
        clear up
        obtain ⟨R1, f1, b1⟩ := H.use
        have HS2 := Lib.hid (step_any f1 op aid _ ash Ev sh yes hidm (HVS.out.frame (fun b hb => hbl.block b (HVS.out.lt b hb))))
        have HB2 := Lib.hid b1
        clear H hbl f1 b1 h HS1 HB1
        go_wp2_with fail
        refine HS2.out.mono ?_
        rintro e' w6 ⟨rfl, h⟩
        have H := (HB2.out _ _ h).flip
        have HI2 := Lib.hid (show _ ∧ _ ∧ _ from ⟨step_inv HI.out.1 op aid ash sh yes hidm, step_inv HI.out.2.1 op aid ash sh yes hidm, step_all HI.out.2.2 op aid ash sh yes⟩)
        obtain ⟨S2, hS2⟩ : ∃ z, stepS S op aid ash sh yes = z := ⟨_, rfl⟩
        obtain ⟨T2, hT2⟩ : ∃ z, stepS T op aid ash sh yes = z := ⟨_, rfl⟩
        rw [hS2, hT2] at H
        rw [hS2, hT2] at HI2
        rw [hS2] at hl2
        have HLN := Lib.hid (show S2.length ≤ 30 + (p + 1) from by omega)
        have hbl := H.below
        clear g0 g1 g2 g3 g4
        have up : ∀ {j : Nat} {v : Value}, w.cell? (x.add j) = some v → _ := fun hv => (hbl.cell (World.block_lt_of_cell? w _ hv)).trans hv
        have g0 := up G.out.1
        have g1 := up G.out.2.1
        have g2 := up G.out.2.2.1
        have g3 := up G.out.2.2.2.1
        have g4 := up G.out.2.2.2.2
        rw [add_field g0 1] at g1
        rw [add_field g0 2] at g2
        rw [add_field g0 3] at g3
        rw [add_field g0 4] at g4
        clear up
        clear HI HS2 HB2 h hS2 hT2 hl2 hlen
        clear S T
        obtain ⟨R1, f1, b1⟩ := H.use
        have HV := Lib.hid (decision_any f1 aid)
        have HB := Lib.hid b1
        have HE := Lib.hid (decS_of _ _ aid (HI2.out.2.2 aid))
        clear H f1 b1 hbl
        go_wp2_with fail
        refine HV.out.mono ?_
        rintro e' w9 ⟨rfl, h⟩
        have H := (HB.out _ _ h).flip
        have hbl := H.below
        clear g0 g1 g2 g3 g4
        have up : ∀ {j : Nat} {v : Value}, w.cell? (x.add j) = some v → _ := fun hv => (hbl.cell (World.block_lt_of_cell? w _ hv)).trans hv
        have g0 := up G.out.1
        have g1 := up G.out.2.1
        have g2 := up G.out.2.2.1
        have g3 := up G.out.2.2.2.1
        have g4 := up G.out.2.2.2.2
        rw [add_field g0 1] at g1
        rw [add_field g0 2] at g2
        rw [add_field g0 3] at g3
        rw [add_field g0 4] at g4
        clear up
        obtain ⟨R2, f1, b1⟩ := H.use
        have hd2 := decision_any f1 aid
        rw [← HE.out.1] at hd2
        have HV2 := Lib.hid hd2
        have HB2 := Lib.hid b1
        clear H f1 b1 HB HV h hd2 hbl
        obtain ⟨da, hda⟩ : ∃ x, decS S2 aid = x := ⟨_, rfl⟩
        obtain ⟨da, db⟩ := da
        rw [hda] at HV2 ⊢
        clear hda
        dsimp only at HV2 ⊢
        have hab : (da != da) = false := by simp
        have hbb : (db != db) = false := by simp
        go_wp2_with fail
        refine HV2.out.mono ?_
        rintro e' w10 ⟨rfl, h⟩
        have H := (HB2.out _ _ h).flip
        have hbl := H.below
        clear g0 g1 g2 g3 g4
        have up : ∀ {j : Nat} {v : Value}, w.cell? (x.add j) = some v → _ := fun hv => (hbl.cell (World.block_lt_of_cell? w _ hv)).trans hv
        have g0 := up G.out.1
        have g1 := up G.out.2.1
        have g2 := up G.out.2.2.1
        have g3 := up G.out.2.2.2.1
        have g4 := up G.out.2.2.2.2
        rw [add_field g0 1] at g1
        rw [add_field g0 2] at g2
        rw [add_field g0 3] at g3
        rw [add_field g0 4] at g4
        clear up
        clear g0 g2 g3 g4
        have HH := Lib.hid H.drew
        clear H HB2 HV2 h hbl
        go_wp2_with fail
        refine wp_region_M (fun W => W.cell? ⟨(x.add (p * 5)).block, (x.add (p * 5)).off + 1, none⟩ = some (.int .i64 aid)) 26 (by kernel_rfl) ?_
        refine wpAnyM_take (by kernel_rfl) (by intro c a d v w h; cases d <;> exact h) [(0, false), (1, false), (2, false), (3, false), (4, false), (5, false), (6, false), (7, false), (8, false), (9, false), (10, false), (11, false), (12, false), (13, false), (14, true), (16, false), (17, false), (18, false), (19, false), (20, false), (21, true)] (fuel := 5) (by kernel_rfl) ?_
        apply Exists.intro; refine ⟨?_, g1, ?_⟩
        · iterate 21 ((first | (apply yieldN; (· (simp only [List.getElem?_toArray, List.getElem?_cons_succ, List.getElem?_cons_zero]; try rfl)); (· rfl)) | ((first | apply yieldP | apply yieldL); (· (simp only [List.getElem?_toArray, List.getElem?_cons_succ, List.getElem?_cons_zero]; try rfl)); (· rfl); (· (intros; go_simp; try with_reducible rfl)))); (· (simp only [Act.put, List.setIfInBounds_toArray, List.set_cons_zero, List.set_cons_succ]; try rfl)))
          exact rfl
        refine wpAnyM_one (fuel := 4) (i := 15) (by kernel_rfl) (by rfl) (fun K hK => ?_)    -- CALL
        go_wp2_with fail
        obtain ⟨R3, f1, b1⟩ := HH.out.use
        refine (owes_any f1 aid).mono ?_
        rintro e' w11 ⟨v11, D11, rfl, ho11, hu11⟩
        obtain ⟨E11, hr11, -⟩ := ho11.read
        have g1 := upd_cell hu11 g1
        have H4 := Lib.hid (HH.out.keep hu11).flip
        have HR11 := Lib.hid hr11
        clear f1 b1 ho11 hr11 hu11 HH
        go_wp2_with fail
        refine hK _ _ g1 ?_
        clear hK
        refine wpAnyM_one (fuel := 3) (i := 22) (by kernel_rfl) (by rfl) (fun K hK => ?_)    -- CALL
        go_wp2_with fail
        obtain ⟨R4, f1, b1⟩ := H4.out.use
        have hw4 := owes_any f1 aid
        rw [← HE.out.2] at hw4
        refine hw4.mono ?_
        rintro e' w12 ⟨v12, D12, rfl, ho12, hu12⟩
        obtain ⟨E12, hr12, -⟩ := ho12.read
        have g2 := upd_cell hu12 g1
        have H5 := Lib.hid (H4.out.keep hu12).flip
        have hsm := same_any _ _ _ _ E11 E12 w12 (HR11.out.frame (hu12.same HR11.out.lt (by simp))) hr12
        rw [show decide (owesS S2 aid = owesS S2 aid) = true by simp] at hsm
        have HSM := Lib.hid hsm
        clear f1 b1 ho12 hr12 hu12 H4 HR11 hw4 hsm
        go_wp2_with fail
        refine hK _ _ g2 ?_
        clear hK
        refine wpAnyM_one (fuel := 2) (i := 23) (by kernel_rfl) (by rfl) (fun K hK => ?_)    -- CALL
        go_wp2_with fail
        refine HSM.out.mono ?_
        rintro e' w13 ⟨rfl, hu13⟩
        have HN := Lib.hid (H5.out.keep hu13)
        have g3 := upd_cell hu13 g2
        clear hu13 H5 HSM
        go_wp2_with fail
        refine hK _ _ g3 ?_
        clear hK
        refine wpAnyM_take (by kernel_rfl) (by intro c a d v w h; cases d <;> exact h) [(24, false), (25, false)] (fuel := 0) (by kernel_rfl) ?_
        apply Exists.intro; refine ⟨?_, g3, ?_⟩
        · iterate 2 ((first | (apply yieldN; (· (simp only [List.getElem?_toArray, List.getElem?_cons_succ, List.getElem?_cons_zero]; try rfl)); (· rfl)) | ((first | apply yieldP | apply yieldL); (· (simp only [List.getElem?_toArray, List.getElem?_cons_succ, List.getElem?_cons_zero]; try rfl)); (· rfl); (· (intros; go_simp; try with_reducible rfl)))); (· (simp only [Act.put, List.setIfInBounds_toArray, List.set_cons_zero, List.set_cons_succ]; try rfl)))
          exact rfl
        refine wpAnyM_done (by kernel_rfl) ?_ _
        go_wp2_with fail
        go_roundg (acts2.length - (p + 1))
        case rel => exact ⟨p + 1, _, _, by omega, rfl, by go_num, HN.out, HI2.out.1, HI2.out.2.1, HI2.out.2.2, HLN.out⟩
        case measure => omega
      obtain ⟨bs, hbs⟩ : ∃ bs, bytesS S = bs := ⟨_, rfl⟩
      have hbt : bytesS T = bs := by rw [← hbs]; exact (bytes_alike HI.out.1 HI.out.2.1 HI.out.2.2).symm
      have hl1 : S.length ≤ 1000 := by omega
      have hl2 : T.length ≤ 1000 := by
        have := keys_alike HI.out.1 HI.out.2.1 HI.out.2.2
        rw [← keys_len T, ← this, keys_len]
        omega
      have HH := Lib.hid H
      have HB := Lib.hid (show _ ∧ _ from ⟨hbs, hbt⟩)
      clear H hbs hbt
      go_wp2_with fail
      refine wp_region_M (fun W => True) 6 (by kernel_rfl) ?_
      refine wpAnyM_take (by kernel_rfl) (by intro c a d v w h; cases d <;> exact h) [(0, false), (3, false)] (fuel := 6) (by kernel_rfl) ?_
      apply Exists.intro; refine ⟨?_, trivial, ?_⟩
      · iterate 2 ((first | (apply yieldN; (· (simp only [List.getElem?_toArray, List.getElem?_cons_succ, List.getElem?_cons_zero]; try rfl)); (· rfl)) | ((first | apply yieldP | apply yieldL); (· (simp only [List.getElem?_toArray, List.getElem?_cons_succ, List.getElem?_cons_zero]; try rfl)); (· rfl); (· (intros; go_simp; try with_reducible rfl)))); (· (simp only [Act.put, List.setIfInBounds_toArray, List.set_cons_zero, List.set_cons_succ]; try rfl)))
        exact rfl
      refine wpAnyM_one (fuel := 5) (i := 1) (by kernel_rfl) (by rfl) (fun K hK => ?_)    -- CALL
      go_wp2_with fail
      have hput := HH.out.drew.put hl1
      rw [HB.out.1] at hput
      refine hput.mono ?_
      rintro e w14 ⟨v14, rfl, H14⟩
      obtain ⟨E14, hr14⟩ := H14.get (v := v14) (b := bs) (by simp)
      have hcv := fun (W : World) (hW : ∀ b ∈ E14, W.heap[b]? = w14.heap[b]?) => conv_str (P := Try.prog) (src := 53) (dst := 9) Try.underlying53 Try.underlying5 Try.underlying9 hr14 W hW
      have hput2 := H14.flip.put hl2
      rw [HB.out.2] at hput2
      have HP2 := Lib.hid hput2
      have H14 := Lib.hid H14
      have hcv1 := hcv w14 (fun _ _ => rfl)
      have HCV := Lib.hid (show _ ∧ _ from ⟨hcv, hr14⟩)
      clear hput hput2 hcv hr14
      go_wp2_with fail
      refine hK _ _ trivial ?_
      clear hK
      refine wpAnyM_each (fuel := 4) [2, 4] (by kernel_rfl) (by simp) (fun i hi => ?_)
      simp only [List.mem_cons, List.not_mem_nil, or_false] at hi
      rcases hi with rfl | rfl
      case' inl =>
        refine ⟨_, by rfl, fun K hK => ?_⟩
        go_wp2_with fail
        refine hK _ _ trivial ?_
        clear hK hcv1
        refine wpAnyM_one (fuel := 3) (i := 4) (by kernel_rfl) (by rfl) (fun K hK => ?_)
        go_wp2_with fail
        refine HP2.out.mono ?_
        rintro e w15 ⟨v15, rfl, H15⟩
        obtain ⟨E15, hr15⟩ := H15.get (v := v15) (b := bs) (by simp)
        have hcv2 := conv_str (P := Try.prog) (src := 53) (dst := 9) Try.underlying53 Try.underlying5 Try.underlying9 hr15 w15 (fun _ _ => rfl)
        have HBL := Lib.hid H15.below
        clear H15 hr15 HP2
        go_wp2_with fail
        refine hK _ _ trivial ?_
        clear hK
        refine wpAnyM_one (fuel := 2) (i := 5) (by kernel_rfl) (by rfl) (fun K hK => ?_)
        go_wp2_with fail
        refine hK _ _ trivial ?_
        clear hK hcv2
      case' inr =>
        refine ⟨_, by rfl, fun K hK => ?_⟩
        clear hcv1
        go_wp2_with fail
        refine HP2.out.mono ?_
        rintro e w15 ⟨v15, rfl, H15⟩
        obtain ⟨E15, hr15⟩ := H15.get (v := v15) (b := bs) (by simp)
        obtain ⟨E16, hr16⟩ := H15.get (v := v14) (b := bs) (by simp)
        have hcv2 := conv_str (P := Try.prog) (src := 53) (dst := 9) Try.underlying53 Try.underlying5 Try.underlying9 hr15 w15 (fun _ _ => rfl)
        have hcv1 := conv_str (P := Try.prog) (src := 53) (dst := 9) Try.underlying53 Try.underlying5 Try.underlying9 hr16 w15 (fun _ _ => rfl)
        have HBL := Lib.hid H15.below
        clear H15 hr15 hr16 HP2
        go_wp2_with fail
        refine hK _ _ trivial ?_
        clear hK
        refine wpAnyM_each (fuel := 3) [2, 5] (by kernel_rfl) (by simp) (fun i hi => ?_)
        simp only [List.mem_cons, List.not_mem_nil, or_false] at hi
        rcases hi with rfl | rfl
        case' inl =>
          refine ⟨_, by rfl, fun K hK => ?_⟩
          go_wp2_with fail
          refine hK _ _ trivial ?_
          clear hK
          refine wpAnyM_one (fuel := 2) (i := 5) (by kernel_rfl) (by rfl) (fun K hK => ?_)
        case' inr =>
          refine ⟨_, by rfl, fun K hK => ?_⟩
          go_wp2_with fail
          refine hK _ _ trivial ?_
          clear hK
          refine wpAnyM_one (fuel := 2) (i := 2) (by kernel_rfl) (by rfl) (fun K hK => ?_)
        all_goals
          go_wp2_with fail
          refine hK _ _ trivial ?_
          clear hK hcv1 hcv2
      all_goals
        refine wpAnyM_of_any _ _ _ _ (by decide) ?_
        refine wpAny_list [6, 7] (fuel := 0) (by kernel_rfl) ?_
        simp only [List.filterMap_cons, List.filterMap_nil, List.getElem?_toArray, List.getElem?_cons_succ, List.getElem?_cons_zero]
        go_wp2_with fail
        go_ret
        exact ⟨by simp, HBL.out⟩
end Go.Proofs.Ytebmmbommkpjaaa
