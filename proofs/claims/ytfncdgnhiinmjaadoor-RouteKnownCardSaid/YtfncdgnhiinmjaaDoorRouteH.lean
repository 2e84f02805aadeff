/-
  Routes in bytes: Get.
-/
import Derived.Test.YtfncdgnhiinmjaaDoorRouteG
import Derived.Sort.Walk0
namespace Go.Proofs.YtfncdgnhiinmjaaDoor
open Go.RowKit Go.Av

def getTN : Nat → Bs → Rd → RtS → Option (RtS × Rd)
  | 0, _, d, S => some (S, d)
  | n + 1, last, d, S => if (textR 40 d).1 ≤ last then none else
      if (moveS S (textR 40 d).1 (cntR 4 (textR 40 d).2).1).1 ≠ 0 then none else getTN n (textR 40 d).1 (cntR 4 (textR 40 d).2).2 (moveS S (textR 40 d).1 (cntR 4 (textR 40 d).2).1).2
def endT (v : Int) (o : Option (RtS × Rd)) : Option RtS := match o with
  | none => none
  | some (S, d) => if (!(!d.2 && d.1.isEmpty) || decide (v < S.ver) || decide (1099511627776 < v) || (((S.mv.length : Int) == 0) && (v != 1))) = true then none else some { S with ver := v }
def getT (b : Bs) : Option RtS :=
  if (cntR 4 (b, false)).1 < 1 then none else
    endT (i64R (cntR 4 (b, false)).2).1 (getTN (cntR 50 (i64R (cntR 4 (b, false)).2).2).1.toNat [] (cntR 50 (i64R (cntR 4 (b, false)).2).2).2 ⟨(cntR 4 (b, false)).1, 1, []⟩)

theorem str_le (a b : ByteArray) : a.data.toList ≤ b.data.toList ↔ (Op.bytesLess a.toList b.toList = true ∨ (a.toList == b.toList) = true) := by
  rw [bytesLess_eq, decide_eq_true_eq, Lib.toList_data, Lib.toList_data, beq_iff_eq]
  constructor
  · intro h
    by_cases h1 : a.data.toList < b.data.toList
    · exact .inl h1
    · exact .inr (List.le_antisymm h h1)
  · rintro (h | h)
    · exact List.le_of_lt h
    · rw [h]; exact List.le_refl _
theorem textR_len (most : Int) (h : 0 ≤ most) (d : Rd) : ((textR most d).1.length : Int) ≤ most := by
  have hb := cntR_bd h d
  unfold textR
  split
  · simpa using h
  · rw [List.length_take]; omega

section
variable {w0 w : World} {t r : Nat} {S : RtS} {d : Rd} {R : List Thing} {rows : List (Value × Bs)}
theorem Rt.rdI64 (h : Rt w0 w t S (ThRdr r d :: R) rows) :
    Calls Tryd.prog 32 #[.pointer (some ⟨r, 0, none⟩)] w fun e w' => e = .returned (.int .i64 (i64R d).1) ∧ Rt w0 w' t S (ThRdr r (i64R d).2 :: R) rows := by
  obtain ⟨X, hS, hb⟩ := Rt.side (A := [_]) h
  refine (rdrSep_i64 hS).mono ?_
  rintro e w' ⟨rfl, h'⟩
  exact ⟨rfl, hb _ [_] h'⟩
theorem Rt.rdCount (h : Rt w0 w t S (ThRdr r d :: R) rows) (most : Int) (hm : 0 ≤ most) :
    Calls Tryd.prog 31 #[.pointer (some ⟨r, 0, none⟩), .int .i64 most] w fun e w' => e = .returned (.int .i64 (cntR most d).1) ∧ Rt w0 w' t S (ThRdr r (cntR most d).2 :: R) rows := by
  obtain ⟨X, hS, hb⟩ := Rt.side (A := [_]) h
  refine (rdrSep_count hS most hm).mono ?_
  rintro e w' ⟨rfl, h'⟩
  exact ⟨rfl, hb _ [_] h'⟩
theorem Rt.rdText (h : Rt w0 w t S (ThRdr r d :: R) rows) (most : Int) (hm : 0 ≤ most) :
    Calls Tryd.prog 33 #[.pointer (some ⟨r, 0, none⟩), .int .i64 most] w fun e w' => e = .returned (sv (textR most d).1) ∧ Rt w0 w' t S (ThRdr r (textR most d).2 :: R) rows := by
  obtain ⟨X, hS, hb⟩ := Rt.side (A := [_]) h
  refine (rdrSep_text hS most hm).mono ?_
  rintro e w' ⟨rfl, h'⟩
  exact ⟨rfl, hb _ [_] h'⟩
theorem Rt.rdEnd (h : Rt w0 w t S (ThRdr r d :: R) rows) :
    Calls Tryd.prog 34 #[.pointer (some ⟨r, 0, none⟩)] w fun e w' => e = .returned (.bool (!d.2 && d.1.isEmpty)) ∧ w' = w := by
  obtain ⟨X, hS, hb⟩ := Rt.side (A := [_]) h
  exact rdrSep_end hS
theorem Rt.dropR {T : Thing} (h : Rt w0 w t S (T :: R) rows) : Rt w0 w t S R rows := by
  obtain ⟨X, hS, hb⟩ := Rt.side (A := [_]) h
  exact hb _ [] hS.drop
theorem Rt.out (h : Rt w0 w t S R rows) : Sep w0 w R rows := by
  obtain ⟨m, hS⟩ := h
  exact hS.drop.drop

def GetTPost (w0 : World) (R : List Thing) (rows : List (Value × Bs)) (o : Option RtS) (e : Ending) (w' : World) : Prop :=
  match o with
  | none => e = .returned (.tuple #[.pointer none, .int .i64 3]) ∧ Sep w0 w' R rows
  | some S => ∃ t, e = .returned (.tuple #[.pointer (some ⟨t, 0, none⟩), .int .i64 0]) ∧ Rt w0 w' t S R rows

set_option maxRecDepth 100000 in
set_option maxHeartbeats 8000000 in
theorem get_table (h : Sep w0 w R rows) (hd : Door w0) (v : Value) (l : Bs) (hv : (v, l) ∈ rows) (hl : l.length ≤ 1073741824) : Calls Tryd.prog 18 #[v] w (GetTPost w0 R rows (getT l)) := by
  obtain ⟨E, hE⟩ := h.get hv
  have HR := Lib.hid (rdr_new v l E w hE hl)
  have H := Lib.hid h
  have HD := Lib.hid hd
  clear h hE hv hl hd
  have hgt : getT l = getT l := rfl
  conv at hgt => rhs; unfold getT
  have hb4 := cntR_bd (most := 4) (by decide) (l, false)
  obtain ⟨q, hq⟩ : ∃ q, cntR 4 (l, false) = q := ⟨_, rfl⟩
  simp only [hq] at hgt
  rw [hq] at hb4
  obtain ⟨n, d0⟩ := q
  obtain ⟨q2, hq2⟩ : ∃ q, i64R d0 = q := ⟨_, rfl⟩
  simp only [hq2] at hgt
  obtain ⟨ver, d1⟩ := q2
  have hb5 := cntR_bd (most := 50) (by decide) d1
  obtain ⟨q3, hq3⟩ : ∃ q, cntR 50 d1 = q := ⟨_, rfl⟩
  dsimp only at hgt hb4
  simp only [hq3] at hgt
  rw [hq3] at hb5
  obtain ⟨cN, d2⟩ := q3
  dsimp only at hgt hb5
  obtain ⟨N, rfl⟩ : ∃ N : Nat, cN = N := ⟨cN.toNat, by omega⟩
  rw [Int.toNat_natCast] at hgt
  have HQ := Lib.hid (show _ ∧ _ ∧ _ from ⟨hq, hq2, hq3⟩)
  obtain ⟨gt, hgt2⟩ : ∃ gt, getT l = gt := ⟨_, rfl⟩
  rw [hgt2] at hgt ⊢
  clear hq hq2 hq3 hgt2
  have HG := Lib.hid hgt
  clear hgt
  go_enter Tryd.func18, Tryd.ntmps18
  go_wp2_with fail
  refine HR.out.mono ?_
  rintro e w1 ⟨r, D, rfl, hr, hu⟩
  have h1 := H.out.add (T := ThRdr r (l, false)) hu hr
  have hct := rdrSep_count h1 4 (by decide)
  rw [HQ.out.1] at hct
  have HC := Lib.hid hct
  clear h1 hct hr hu HR H
  go_wp2_with fail
  refine HC.out.mono ?_
  rintro e w2 ⟨rfl, h2⟩
  clear HC
  by_cases hn1 : n < 1
  · have HN := Lib.hid (rt_new_no w2 n (.inl hn1))
    have H2 := Lib.hid h2.drop
    have HGG := Lib.hid (show gt = none by rw [HG.out, if_pos hn1])
    clear h2
    go_wp2_with fail
    refine HN.out.mono ?_
    rintro e w3 ⟨rfl, hW⟩
    subst w3
    go_wp2_with fail
    go_ret2
    rw [HGG.out]
    exact ⟨rfl, H2.out⟩
  have hgt := HG.out
  rw [if_neg hn1] at hgt
  have HG := Lib.hid hgt
  have HN := Lib.hid (rt_new h2 n (by omega) hb4.2)
  clear h2 hgt
  go_wp2_with fail
  refine HN.out.mono ?_
  rintro e w3 ⟨t, rfl, h3⟩
  have hI := h3.rdI64
  rw [HQ.out.2.1] at hI
  have HI := Lib.hid hI
  clear h3 hI HN
  go_wp2_with fail
  refine HI.out.mono ?_
  rintro e w4 ⟨rfl, h4⟩
  have hct := h4.rdCount 50 (by decide)
  rw [HQ.out.2.2] at hct
  have HC := Lib.hid hct
  clear h4 hct HI
  go_wp2_with fail
  refine HC.out.mono ?_
  rintro e w5 ⟨rfl, h5⟩
  have H5 := Lib.hid h5
  clear h5 HC
  go_wp2_with fail
  go_loopg [8, 24] N (fun k vl vi wr => ∃ (j : Nat) (S : RtS) (last : ByteArray) (d : Rd), j ≤ N ∧ k = N - j ∧ vi = .int .i64 (j : Int) ∧ vl = .string last ∧ Rt w0 wr t S (ThRdr r d :: R) rows ∧
    getTN N [] d2 ⟨n, 1, []⟩ = getTN (N - j) last.data.toList d S ∧ S.n = n ∧ 1 ≤ S.ver ∧ S.ver ≤ 1 + j)
  case atStart => exact ⟨0, _, ⟨#[]⟩, d2, Nat.zero_le _, rfl, rfl, rfl, H5.out, rfl, rfl, by simp, by simp⟩
  case round =>
    obtain ⟨j, S, last, d, hj, hk, hvi, hvl, hC, hg, hSn, hv1, hv2⟩ := hrel
    subst hvi hvl
    clear H5
    by_cases hlt : j < N
    case neg =>
      obtain rfl : j = N := by omega
      rw [Nat.sub_self] at hg
      have hE := hC.rdEnd
      obtain ⟨eb, heb⟩ : ∃ eb, (!d.2 && d.1.isEmpty) = eb := ⟨_, rfl⟩
      rw [heb] at hE
      have hge : gt = if (!eb || decide (ver < S.ver) || decide (1099511627776 < ver) || (((S.mv.length : Int) == 0) && (ver != 1))) = true then none else some { S with ver := ver } := by
        rw [HG.out, hg]
        show endT ver (some (S, d)) = _
        unfold endT
        dsimp only
        rw [heb]
      obtain ⟨m, hb, -, -, hlen⟩ := hC.facts
      have k1 := cell_of hb 1 rfl
      have k2 := cell_of hb 2 rfl
      obtain ⟨sv0, hsv0⟩ : ∃ z, S.ver = z := ⟨_, rfl⟩
      rw [show (#[Value.int .i64 S.n, .int .i64 S.ver, .map (some m)] : Array Value)[1] = .int .i64 sv0 by rw [hsv0]; rfl] at k1
      rw [show (#[Value.int .i64 S.n, .int .i64 S.ver, .map (some m)] : Array Value)[2] = .map (some m) from rfl] at k2
      have hlen := fun ty => hlen ty wr rfl
      have y1 := frz_of hb 1
      rw [hsv0] at hge
      have HX := Lib.hid (show _ ∧ _ from ⟨hC.out.drop, hC.ver ver⟩)
      have HGE := Lib.hid hge
      have HE := Lib.hid hE
      clear hC hg hge hE heb hb hsv0 hv1 hv2
      cases eb with
      | false =>
        go_wp2_with fail
        refine HE.out.mono ?_
        rintro e w6 ⟨rfl, hW⟩
        subst w6
        go_wp2_with fail
        go_ret2
        rw [HGE.out, if_pos (by simp)]
        exact ⟨rfl, HX.out.1⟩
      | true =>
      by_cases h1 : ver < sv0
      · go_wp2_with fail
        refine HE.out.mono ?_
        rintro e w6 ⟨rfl, hW⟩
        subst w6
        go_wp2_with fail
        go_ret2
        rw [HGE.out, if_pos (by simp [h1])]
        exact ⟨rfl, HX.out.1⟩
      by_cases h2 : 1099511627776 < ver
      · go_wp2_with fail
        refine HE.out.mono ?_
        rintro e w6 ⟨rfl, hW⟩
        subst w6
        go_wp2_with fail
        go_ret2
        rw [HGE.out, if_pos (by simp [h2])]
        exact ⟨rfl, HX.out.1⟩
      cases h3 : ((S.mv.length : Int) == 0) with
      | false =>
        have H3 := Lib.hid h3
        go_wp2_with fail
        refine HE.out.mono ?_
        rintro e w6 ⟨rfl, hW⟩
        subst w6
        go_wp2_with fail
        go_ret2
        rw [HGE.out, H3.out, if_neg (by simp; omega)]
        exact ⟨t, rfl, Rt.dropR HX.out.2⟩
      | true =>
      have H3 := Lib.hid h3
      by_cases h4 : ver = 1
      · have h4b : (ver != 1) = false := by simp [h4]
        have H4 := Lib.hid h4b
        clear h4
        go_wp2_with fail
        refine HE.out.mono ?_
        rintro e w6 ⟨rfl, hW⟩
        subst w6
        go_wp2_with fail
        go_ret2
        rw [HGE.out, H3.out, H4.out, if_neg (by simp; omega)]
        exact ⟨t, rfl, Rt.dropR HX.out.2⟩
      · have h4b : (ver != 1) = true := by simp [h4]
        have H4 := Lib.hid h4b
        clear h4
        go_wp2_with fail
        refine HE.out.mono ?_
        rintro e w6 ⟨rfl, hW⟩
        subst w6
        go_wp2_with fail
        go_ret2
        rw [HGE.out, H3.out, H4.out, if_pos (by simp)]
        exact ⟨rfl, HX.out.1⟩
    have hg2 : N - j = (N - (j + 1)) + 1 := by omega
    rw [hg2] at hg
    conv at hg => rhs; unfold getTN
    have htl := textR_len 40 (by decide) d
    have htx := hC.rdText 40 (by decide)
    obtain ⟨q, hq⟩ : ∃ q, textR 40 d = q := ⟨_, rfl⟩
    simp only [hq] at hg
    rw [hq] at htl htx
    obtain ⟨s, da⟩ := q
    dsimp only at hg htl htx
    obtain ⟨q2, hq2⟩ : ∃ q, cntR 4 da = q := ⟨_, rfl⟩
    simp only [hq2] at hg
    obtain ⟨c, db⟩ := q2
    dsimp only at hg
    have HTX := Lib.hid htx
    have HQ2 := Lib.hid hq2
    have HG2 := Lib.hid (show _ ∧ _ from ⟨hg, hSn⟩)
    obtain ⟨sb, hsb⟩ : ∃ sb : ByteArray, sb = ⟨s.toArray⟩ := ⟨_, rfl⟩
    have hsb2 : sb.data.toList = s := by rw [hsb]
    have hsz : sb.size ≤ 1000 := by rw [hsb]; show s.toArray.size ≤ _; simp; omega
    have hsvb : sv s = .string sb := by rw [hsb]; rfl
    rw [hsvb] at HTX
    rw [← hsb2] at HG2
    clear hC hq hq2 hg htl htx hsb hSn hsvb
    go_wp2_with fail
    refine HTX.out.mono ?_
    rintro e w6 ⟨rfl, h6⟩
    have hct := h6.rdCount 4 (by decide)
    rw [HQ2.out] at hct
    have HC := Lib.hid hct
    have H6 := Lib.hid h6
    clear h6 hct HTX
    have hiff := str_le sb last
    cases hl1 : Op.bytesLess sb.toList last.toList with
    | true =>
      have HGN := Lib.hid (show gt = none by rw [HG.out, HG2.out.1, if_pos (hiff.2 (.inl hl1))]; rfl)
      clear hiff
      go_wp2_with fail
      go_ret2
      rw [HGN.out]
      exact ⟨rfl, H6.out.out.drop⟩
    | false =>
    cases hl2 : (sb.toList == last.toList) with
    | true =>
      have HGN := Lib.hid (show gt = none by rw [HG.out, HG2.out.1, if_pos (hiff.2 (.inr hl2))]; rfl)
      clear hiff
      go_wp2_with fail
      go_ret2
      rw [HGN.out]
      exact ⟨rfl, H6.out.out.drop⟩
    | false =>
    have hg3 := HG2.out.1
    rw [if_neg (fun h => by
      rcases hiff.1 h with h | h
      · rw [hl1] at h; cases h
      · rw [hl2] at h; cases h)] at hg3
    have HG3 := Lib.hid (show _ ∧ _ from ⟨hg3, HG2.out.2⟩)
    clear hiff hg3 HG2 H6
    go_wp2_with fail
    refine HC.out.mono ?_
    rintro e w7 ⟨rfl, h7⟩
    have hmv := move_any h7 HD.out sb c (by omega) (by omega) (by omega)
    obtain ⟨m1, m2, m3⟩ := move_n S sb.data.toList c
    rw [HG3.out.2] at m1
    have HMV := Lib.hid hmv
    have HM1 := Lib.hid m1
    clear h7 hmv m1 HC
    by_cases hz : (moveS S sb.data.toList c).1 = 0
    · have hg4 := HG3.out.1
      rw [if_neg (fun h => h hz)] at hg4
      have HG4 := Lib.hid hg4
      rw [hz] at HMV
      clear hg4 hz HG3
      obtain ⟨S2, hS2⟩ : ∃ z, (moveS S sb.data.toList c).2 = z := ⟨_, rfl⟩
      rw [hS2] at HMV HM1 m2 m3
      rw [hS2] at HG4
      clear hS2
      go_wp2_with fail
      refine HMV.out.mono ?_
      rintro e w8 ⟨rfl, h8⟩
      have H8 := Lib.hid h8
      clear h8 HMV
      go_wp2_with fail
      go_roundg (N - (j + 1))
      case rel => exact ⟨j + 1, S2, sb, db, by omega, rfl, by go_num, rfl, H8.out, HG4.out, HM1.out, by omega, by omega⟩
      case measure => omega
    · have HGN := Lib.hid (show gt = none by rw [HG.out, HG3.out.1, if_pos hz]; rfl)
      have hS := move_no hz
      rw [hS] at HMV
      obtain ⟨er, her⟩ : ∃ er, (moveS S sb.data.toList c).1 = er := ⟨_, rfl⟩
      rw [her] at HMV hz
      have hbz : (er != 0) = true := by simp [hz]
      clear hS her m2 m3 HM1 hz
      go_wp2_with fail
      refine HMV.out.mono ?_
      rintro e w8 ⟨rfl, h8⟩
      have H8 := Lib.hid h8
      clear h8 HMV
      go_wp2_with fail
      go_ret2
      rw [HGN.out]
      exact ⟨rfl, H8.out.out.drop⟩
end
end Go.Proofs.YtfncdgnhiinmjaaDoor
