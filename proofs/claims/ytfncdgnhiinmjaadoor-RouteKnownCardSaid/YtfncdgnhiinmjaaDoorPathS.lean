/-
  The walks of the document's own paths: IsName, Parts, Good, Top.
-/
import Derived.Test.YtfncdgnhiinmjaaDoorPathR
namespace Go.Proofs.YtfncdgnhiinmjaaDoor
open Go.RowKit Go.Av

set_option maxRecDepth 100000 in
set_option maxHeartbeats 2000000 in
theorem isName_any (s : ByteArray) (w : World) (hs : s.size ≤ maxLen) :
    Calls Tryd.prog 43 #[.string s] w fun e w' => e = .returned (.bool (nameR s.data.toList)) ∧ w' = w := by
  unfold maxLen at hs
  have hsz : s.size = s.data.toList.length := by simp
  have hT : s.toList = s.data.toList := Go.Lib.toList_data s
  have hnm : nameR s.data.toList = (decide (1 ≤ s.size) && decide (s.size ≤ 40) && !(s.toList == [46]) && !(s.toList == [46, 46]) && s.data.toList.all fun c => okCh c && !(c == 47)) := by
    unfold nameR
    rw [hsz, hT]
  have HN := Lib.hid hnm
  clear hnm hsz hT
  by_cases h1 : (s.size : Int) < 1
  · go_enter Tryd.func43, Tryd.ntmps43
    go_wp2_with fail
    go_ret
    rw [HN.out, show decide (1 ≤ s.size) = false from decide_eq_false (by omega)]
    exact ⟨rfl, rfl⟩
  by_cases h2 : 40 < (s.size : Int)
  · go_enter Tryd.func43, Tryd.ntmps43
    go_wp2_with fail
    go_ret
    rw [HN.out, show decide (s.size ≤ 40) = false from decide_eq_false (by omega), Bool.and_false]
    exact ⟨rfl, rfl⟩
  have hd1 : decide (1 ≤ s.size) = true := decide_eq_true (by omega)
  have hd2 : decide (s.size ≤ 40) = true := decide_eq_true (by omega)
  have HD := Lib.hid (show _ ∧ _ from ⟨hd1, hd2⟩)
  clear hd1 hd2
  cases h3 : (s.toList == [46]) with
  | true =>
    have h3' : s.toList = [46] := by simpa using h3
    have H3 := Lib.hid h3
    go_enter Tryd.func43, Tryd.ntmps43
    go_wp2_with fail
    go_ret
    rw [HN.out, H3.out]
    exact ⟨by simp, rfl⟩
  | false =>
  cases h4 : (s.toList == [46, 46]) with
  | true =>
    have h3' : ¬ s.toList = [46] := by simpa using h3
    have h4' : s.toList = [46, 46] := by simpa using h4
    have H4 := Lib.hid h4
    go_enter Tryd.func43, Tryd.ntmps43
    go_wp2_with fail
    go_ret
    rw [HN.out, H4.out]
    exact ⟨by simp, rfl⟩
  | false =>
  have h3' : ¬ s.toList = [46] := by simpa using h3
  have h4' : ¬ s.toList = [46, 46] := by simpa using h4
  have hnm : nameR s.data.toList = s.data.toList.all fun c => okCh c && !(c == 47) := by
    rw [HN.out, HD.out.1, HD.out.2, h3, h4]
    simp
  have HN := Lib.hid hnm
  clear hnm
  go_enter Tryd.func43, Tryd.ntmps43
  go_wp2_with fail
  go_loop [3] (fun i => ∃ p : Nat, p ≤ s.size ∧ i = .int .i64 p ∧ ((s.data.toList.take p).all fun c => okCh c && !(c == 47)) = true) (fun i => s.size - (intOf i).toNat)
  case atStart => exact ⟨0, Nat.zero_le _, rfl, rfl⟩
  case round =>
    obtain ⟨p, hp, rfl, ha⟩ := hrel
    by_cases hlt : p < s.size
    · have hts : s.data.toList.take (p + 1) = s.data.toList.take p ++ [s[p]] := by
        rw [List.take_succ_eq_append_getElem (by simpa using hlt)]; rfl
      have hok : okCh s[p] = !(decide ((s[p].toNat : Int) < 33) || decide (126 < (s[p].toNat : Int))) := by
        unfold okCh
        congr 2
        · rw [decide_eq_decide, UInt8.lt_iff_toNat_lt, show (33 : UInt8).toNat = 33 from rfl]; omega
        · rw [decide_eq_decide, UInt8.lt_iff_toNat_lt, show (126 : UInt8).toNat = 126 from rfl]; omega
      have hmem : s[p] ∈ s.data.toList := by
        have : s.data.toList[p]'(by simpa using hlt) = s[p] := rfl
        rw [← this]; exact List.getElem_mem _
      have h47 : (s[p] == 47) = ((s[p].toNat : Int) == 47) := by
        rw [Bool.eq_iff_iff, beq_iff_eq, beq_iff_eq, ← UInt8.toNat_inj, show (47 : UInt8).toNat = 47 from rfl]; omega
      have hno : (okCh s[p] && !(s[p] == 47)) = false → nameR s.data.toList = false := fun h => by
        rw [HN.out]
        exact List.all_eq_false.2 ⟨_, hmem, by simp [h]⟩
      have HX := Lib.hid (show _ ∧ _ ∧ _ ∧ _ ∧ _ from ⟨hts, ha, hok, h47, hno⟩)
      clear hts ha hok hmem h47 hno
      by_cases h1 : (s[p].toNat : Int) < 33
      · go_wp2_with fail
        go_ret
        rw [HX.out.2.2.2.2 (by rw [HX.out.2.2.1]; simp [h1])]
        exact ⟨rfl, rfl⟩
      by_cases h2 : 126 < (s[p].toNat : Int)
      · go_wp2_with fail
        go_ret
        rw [HX.out.2.2.2.2 (by rw [HX.out.2.2.1]; simp [h2])]
        exact ⟨rfl, rfl⟩
      cases h5 : ((s[p].toNat : Int) == 47) with
      | true =>
        have H5 := Lib.hid h5
        go_wp2_with fail
        go_ret
        rw [HX.out.2.2.2.2 (by rw [HX.out.2.2.2.1, H5.out]; simp)]
        exact ⟨rfl, rfl⟩
      | false =>
      have H5 := Lib.hid h5
      go_wp2_with fail
      go_round
      case rel =>
        refine ⟨p + 1, by omega, by go_num, ?_⟩
        rw [HX.out.1, List.all_append, HX.out.2.1, List.all_cons, HX.out.2.2.1, HX.out.2.2.2.1, H5.out]
        simp [h1, h2]
      case measure => simp [intOf]; omega
    obtain rfl : p = s.size := by omega
    rw [List.take_of_length_le (by simp)] at ha
    have HA := Lib.hid ha
    clear ha
    go_wp2_with fail
    go_ret
    rw [HN.out, HA.out]
    exact ⟨rfl, rfl⟩

theorem partsP_of {s : ByteArray} {c : UInt8} {r : Bs} (h : s.data.toList = c :: r) : partsP s.data.toList = if c = 47 ∧ s.size ≤ 200 ∧ (cutS r).all nameS = true ∧ (cutS r).length ≤ 8 then cutS r else [] := by
  have hsz : s.size = r.length + 1 := by
    have : s.size = s.data.toList.length := by simp
    rw [this, h, List.length_cons]
  rw [h]
  unfold partsP
  have hg : goodP (c :: r) = true ↔ (c = 47 ∧ s.size ≤ 200 ∧ (cutS r).all nameS = true ∧ (cutS r).length ≤ 8) := by
    unfold goodP
    simp only [Bool.and_eq_true, decide_eq_true_eq, hsz, and_assoc]
  by_cases hc : c = 47 ∧ s.size ≤ 200 ∧ (cutS r).all nameS = true ∧ (cutS r).length ≤ 8
  · rw [if_pos hc, if_pos (hg.2 hc)]; rfl
  · rw [if_neg hc, if_neg (fun e => hc (hg.1 e))]

set_option maxRecDepth 100000 in
set_option maxHeartbeats 2000000 in
theorem parts1_any (s : ByteArray) (w : World) (hs : s.size ≤ maxLen) :
    Calls Tryd.prog 29 #[.string s] w (PartsPost w (partsP s.data.toList)) := by
  unfold maxLen at hs
  have hsz : s.size = s.data.toList.length := by simp
  have hnil : ∀ w' : World, w' = w → partsP s.data.toList = [] → PartsPost w (partsP s.data.toList) (.returned (.slice none 0 0)) w' := fun w' hw h => by
    rw [h, hw]; exact ⟨_, [], rfl, OwnRow.nil _ _, Upd.refl _ _⟩
  cases hl : s.data.toList with
  | nil =>
    have h2 : (s.size : Int) < 2 := by rw [hsz, hl]; decide
    have HN := Lib.hid (show partsP s.data.toList = [] by rw [hl]; rfl)
    rw [← hl]
    have HI := Lib.hid hnil
    clear hnil hsz hl
    go_enter Tryd.func29, Tryd.ntmps29
    go_wp2_with fail
    go_ret
    exact HI.out _ rfl HN.out
  | cons c r =>
  have hP := partsP_of hl
  rw [← hl]
  by_cases h2 : (s.size : Int) < 2
  · have hr : r = [] := by rw [hl, List.length_cons] at hsz; exact List.length_eq_zero_iff.1 (by omega)
    have HN := Lib.hid (show partsP s.data.toList = [] by rw [hP, if_neg]; rintro ⟨-, -, h, -⟩; rw [hr] at h; cases h)
    have HI := Lib.hid hnil
    clear hnil hsz hl hP hr
    go_enter Tryd.func29, Tryd.ntmps29
    go_wp2_with fail
    go_ret
    exact HI.out _ rfl HN.out
  by_cases h200 : 200 < (s.size : Int)
  · have HN := Lib.hid (show partsP s.data.toList = [] by rw [hP, if_neg]; rintro ⟨-, h, -, -⟩; omega)
    have HI := Lib.hid hnil
    clear hnil hsz hl hP
    go_enter Tryd.func29, Tryd.ntmps29
    go_wp2_with fail
    go_ret
    exact HI.out _ rfl HN.out
  have hp0 : 0 < s.size := by omega
  have h0 : s[0].toNat = c.toNat := by
    have : s.data.toList[0]'(by rw [← hsz]; omega) = s[0] := rfl
    rw [← this]
    simp [hl]
  by_cases hc : c = 47
  case neg =>
    have HN := Lib.hid (show partsP s.data.toList = [] by rw [hP, if_neg]; rintro ⟨h, -⟩; exact hc h)
    have HI := Lib.hid hnil
    have hb : ((s[0].toNat : Int) != 47) = true := by
      rw [h0, bne_iff_ne]; intro e; exact hc (UInt8.toNat_inj.1 (by rw [show (47 : UInt8).toNat = 47 from rfl]; omega))
    clear hnil hsz hl hP h0 hc
    go_enter Tryd.func29, Tryd.ntmps29
    go_wp2_with fail
    go_ret
    exact HI.out _ rfl HN.out
  subst hc
  have hb : ((s[0].toNat : Int) != 47) = false := by rw [h0]; rfl
  have hex : (s.extract 1 s.size).data.toList = r := by rw [Lib.extract_to_end, hl]; rfl
  have hct := cut1_any (s.extract 1 s.size) 47 w (by simp; omega)
  rw [hex, cutG_cut] at hct
  have hle : (cutS r).length ≤ 1000 := by
    rw [cutS_len]
    have := List.count_le_length (a := 47) (l := r)
    rw [hl, List.length_cons] at hsz
    omega
  have hlm : ∀ x ∈ cutS r, x.length ≤ 1000 ∧ 47 ∉ x := fun x hx => by
    have := cutS_mem hx
    rw [hl, List.length_cons] at hsz
    exact ⟨by omega, cut_noslash hx⟩
  have hsz2 : s.size ≤ 200 := by omega
  obtain ⟨ps, hps⟩ : ∃ ps, cutS r = ps := ⟨_, rfl⟩
  rw [hps] at hP hct hle hlm
  have HCT := Lib.hid hct
  have HP := Lib.hid hP
  have HL := Lib.hid hlm
  clear hnil hsz hl hP hct hlm hex hps h0
  go_enter Tryd.func29, Tryd.ntmps29
  go_wp2_with fail
  refine HCT.out.mono ?_
  rintro e w1 ⟨v, D, rfl, ho, hu⟩
  obtain ⟨a, n, cp, rfl, hl, hn, hcp, -⟩ := id ho
  rw [List.length_map, Nat.mul_one] at hl
  subst hl
  unfold maxLen at hcp
  have HO := Lib.hid (show _ ∧ _ from ⟨ho, hu⟩)
  clear ho hu
  by_cases h8 : 8 < (ps.length : Int)
  · go_wp2_with fail
    go_ret
    rw [HP.out, if_neg (by rintro ⟨-, -, -, h⟩; omega)]
    exact ⟨_, [], rfl, OwnRow.nil _ _, HO.out.2.mono (fun _ h => h) (fun b hb => by cases hb)⟩
  go_wp2_with fail
  go_loopg [4] ps.length (fun k i wr => wr = w1 ∧ ∃ p : Nat, p ≤ ps.length ∧ k = ps.length - p ∧ i = .int .i64 p ∧ (ps.take p).all nameS = true)
  case atStart => exact ⟨rfl, 0, Nat.zero_le _, rfl, rfl, rfl⟩
  case round =>
    obtain ⟨hW, p, hp, hk, hv, ha⟩ := hrel
    subst wr hv
    by_cases hlt : p < ps.length
    · obtain ⟨y, rfl, hys, hcy⟩ := ownCell HO.out.1 (i := p) (x := sv ps[p]) (by rw [List.getElem?_map, List.getElem?_eq_getElem hlt]; rfl)
      obtain ⟨hx, hns⟩ := HL.out _ (List.getElem_mem hlt)
      have hts : ps.take (p + 1) = ps.take p ++ [ps[p]] := by rw [List.take_succ_eq_append_getElem hlt]
      have hmm : ps[p] ∈ ps := List.getElem_mem hlt
      obtain ⟨x, hxx⟩ : ∃ x, ps[p] = x := ⟨_, rfl⟩
      rw [hxx] at hcy hx hts hmm hns
      have hn := isName_any ⟨x.toArray⟩ w1 (by show x.toArray.size ≤ _; unfold maxLen; simp; omega)
      rw [show (⟨x.toArray⟩ : ByteArray).data.toList = x from rfl, nameR_eq hns] at hn
      unfold sv at hcy
      have HX := Lib.hid (show _ ∧ _ ∧ _ from ⟨hts, ha, hmm⟩)
      cases hnx : nameS x with
      | false =>
        rw [hnx] at hn
        have HN := Lib.hid hn
        have HB := Lib.hid hnx
        clear hn hx hxx hts ha hmm hnx hns
        go_wp2_with fail
        refine HN.out.mono ?_
        rintro e w2 ⟨rfl, hW⟩
        subst w2
        go_wp2_with fail
        go_ret
        rw [HP.out, if_neg (by rintro ⟨-, -, h, -⟩; have := List.all_eq_true.1 h x HX.out.2.2; rw [HB.out] at this; cases this)]
        exact ⟨_, [], rfl, OwnRow.nil _ _, HO.out.2.mono (fun _ h => h) (fun b hb => by cases hb)⟩
      | true =>
        rw [hnx] at hn
        have HN := Lib.hid hn
        have HB := Lib.hid hnx
        clear hn hx hxx hts ha hmm hnx hns
        go_wp2_with fail
        refine HN.out.mono ?_
        rintro e w2 ⟨rfl, hW⟩
        subst w2
        go_wp2_with fail
        go_roundg (ps.length - (p + 1))
        case rel =>
          refine ⟨rfl, p + 1, by omega, rfl, by go_num, ?_⟩
          rw [HX.out.1, List.all_append, HX.out.2.1]
          simp [HB.out]
        case measure => omega
    · obtain rfl : p = ps.length := by omega
      rw [List.take_length] at ha
      have HA := Lib.hid ha
      clear ha
      go_wp2_with fail
      go_ret
      rw [HP.out, if_pos ⟨by first | rfl | trivial, hsz2, HA.out, by omega⟩]
      exact ⟨_, D, rfl, HO.out.1, HO.out.2⟩

theorem good_parts (p : Bs) : goodP p = decide (0 < (partsP p).length) := by
  unfold partsP
  cases goodP p with
  | false => rfl
  | true =>
    rw [if_pos rfl, cutS_len]
    simp
theorem good1_any (s : ByteArray) (w : World) (hs : s.size ≤ maxLen) :
    Calls Tryd.prog 15 #[.string s] w fun e w' => e = .returned (.bool (goodP s.data.toList)) ∧ Upd w w' [] [] := by
  have hg := parts1_any s w hs
  rw [good_parts]
  obtain ⟨ps, hps⟩ : ∃ ps, partsP s.data.toList = ps := ⟨_, rfl⟩
  rw [hps] at hg ⊢
  have HG := Lib.hid hg
  clear hg hps hs
  go_enter Tryd.func15, Tryd.ntmps15
  go_wp2_with fail
  refine HG.out.mono ?_
  rintro e w1 ⟨v, D, rfl, ho, hu⟩
  obtain ⟨a, n, c, rfl, hl, hn, hc, -⟩ := id ho
  rw [List.length_map, Nat.mul_one] at hl
  subst hl
  unfold maxLen at hc
  have HU := Lib.hid (hu.mono (fun _ h => h) (fun b hb => by cases hb) : Upd w w1 [] [])
  clear ho hu
  go_wp2_with fail
  go_ret
  exact ⟨rfl, HU.out⟩
set_option maxHeartbeats 1000000 in
theorem top1_any (s : ByteArray) (w : World) (hs : s.size ≤ maxLen) :
    Calls Tryd.prog 16 #[.string s] w fun e w' => e = .returned (sv (topP s.data.toList)) ∧ Upd w w' [] [] := by
  have hg := parts1_any s w hs
  unfold topP
  obtain ⟨ps, hps⟩ : ∃ ps, partsP s.data.toList = ps := ⟨_, rfl⟩
  rw [hps] at hg ⊢
  have HG := Lib.hid hg
  clear hg hps hs
  go_enter Tryd.func16, Tryd.ntmps16
  go_wp2_with fail
  refine HG.out.mono ?_
  rintro e w1 ⟨v, D, rfl, ho, hu⟩
  obtain ⟨a, n, c, rfl, hl, hn, hc, -⟩ := id ho
  rw [List.length_map, Nat.mul_one] at hl
  subst hl
  unfold maxLen at hc
  have HU := Lib.hid (hu.mono (fun _ h => h) (fun b hb => by cases hb) : Upd w w1 [] [])
  cases ps with
  | nil =>
    clear ho hu
    go_wp2_with fail
    go_ret
    exact ⟨rfl, HU.out⟩
  | cons x ps =>
    obtain ⟨y, rfl, hys, hcy⟩ := ownCell ho (i := 0) (x := sv x) rfl
    have hl0 : (((x :: ps).length : Int) == 0) = false := by simp; omega
    have HY := Lib.hid hcy
    obtain ⟨yb, yo, ysp⟩ := y
    dsimp only at hys
    subst hys
    have hc0 : w1.cell? ⟨yb, yo, none⟩ = some (sv x) := by have := HY.out; rw [Addr.add_lit] at this; exact this
    clear ho hu hcy
    go_wp2_with fail
    go_ret
    exact ⟨rfl, HU.out⟩
end Go.Proofs.YtfncdgnhiinmjaaDoor
