/-
  wal.Open: the walk.
-/
import Derived.Test.YtbfblekabnkghaaWalE
namespace Go.Proofs.Ytbfblekabnkghaa
open Go.RowKit Go.Av

theorem scanF_used : ∀ (f : Nat) (b : Bs), (frames (scanF f b).1).length = (scanF f b).2.1 ∧ (scanF f b).2.1 ≤ b.length
  | 0, b => by simp [scanF, frames]
  | f + 1, b => by
    unfold scanF
    split
    · simp [frames]
    · split
      · rename_i h1 h2
        obtain ⟨h3, h4⟩ := nextS_size b h2
        obtain ⟨h5, h6⟩ := scanF_used f (b.drop (nextS b).1)
        rw [List.length_drop] at h6
        have : (frames (((b.take (nextS b).1).drop 12) :: (scanF f (b.drop (nextS b).1)).1)).length = (12 + ((b.take (nextS b).1).drop 12).length) + (frames (scanF f (b.drop (nextS b).1)).1).length := by simp [frames, frameS_length]
        rw [this, h5]
        simp only [List.length_drop, List.length_take]
        omega
      · simp [frames]
theorem scanS_used (b : Bs) : (frames (scanS b).1).length = (scanS b).2.1 ∧ (scanS b).2.1 ≤ b.length := scanF_used _ b

def openOk (S : DiskS) (first : Int) (ls : List Bs) : Int × LogS × DiskS := (0, { lives := S.lives, done := false, first := first, recs := ls }, S)
def openNo (S : DiskS) (k : Int) : Int × LogS × DiskS := (k, { lives := 0, done := false, first := 0, recs := [] }, S)
def openB (S : DiskS) (first : Int) (b : Bs) : Int × LogS × DiskS :=
  if (scanS b).2.2 = 2 then openNo S 3 else
    if (scanS b).2.1 < b.length then
      if (S.cut nmLog ((scanS b).2.1 : Int)).1 ≠ 0 then openNo (S.cut nmLog ((scanS b).2.1 : Int)).2 (S.cut nmLog ((scanS b).2.1 : Int)).1 else openOk (S.cut nmLog ((scanS b).2.1 : Int)).2 first (scanS b).1
    else openOk S first (scanS b).1
def openS (S : DiskS) : Int × LogS × DiskS :=
  if (baseS S).2 ≠ 0 then openNo S (baseS S).2 else if (readS S nmLog).2 ≠ 0 then openNo S (readS S nmLog).2 else openB S (baseS S).1 (readS S nmLog).1

def OpenPost (w0 : World) (d : Nat) (R : List Thing) (rows : List (Value × Bs)) (q : Int × LogS × DiskS) (e : Ending) (w' : World) : Prop :=
  (q.1 ≠ 0 ∧ e = .returned (.tuple #[.pointer none, .int .i64 q.1]) ∧ Sep w0 w' (ThDisk d q.2.2 :: R) rows) ∨
  (q.1 = 0 ∧ ∃ g, e = .returned (.tuple #[.pointer (some ⟨g, 0, none⟩), .int .i64 0]) ∧ Sep w0 w' (ThLog g d q.2.1 :: ThDisk d q.2.2 :: R) rows)

def ThRecs (v : Value) (ls : List Bs) : Thing := ⟨fun w D => RecsAt w v ls D, fun h hs => h.frame hs, fun h => h.lt⟩

/-- A log is made of its records. -/
theorem log_made {w0 w : World} {v : Value} {ls : List Bs} {R : List Thing} {rows : List (Value × Bs)} (d : Nat) (L : LogS) (T : TypeId) (hL : L.recs = ls) (h : Sep w0 w (ThRecs v ls :: R) rows) :
    Sep w0 (w.alloc (.cells #[.pointer (some ⟨d, 0, none⟩), .int .i64 L.lives, .bool L.done, .int .i64 L.first, v, .slice none 0 0] T (0, 0))) (ThLogE w.heap.size d L [] :: R) rows := by
  obtain ⟨D, hP, _, back⟩ := h.use
  have ha := Upd.alloc1 w (.cells #[.pointer (some ⟨d, 0, none⟩), .int .i64 L.lives, .bool L.done, .int .i64 L.first, v, .slice none 0 0] T (0, 0)) D
  subst hL
  exact back _ (w.heap.size :: D) (ThLogE w.heap.size d L []) ha ⟨v, .slice none 0 0, D, [], T, heap_alloc_new w _, RecsAt.frame hP ((Upd.alloc0 w _ []).same hP.lt (by simp)), OwnRow.nil _ _, by simp, fun x hx => ⟨fun he => by have := hP.lt x hx; omega, by simp⟩, by simp⟩

section
variable {w0 w : World} {g d : Nat} {L : LogS} {S : DiskS} {R : List Thing} {rows : List (Value × Bs)}

theorem readS_small {n : ByteArray} (h : Sep w0 w (ThDisk d S :: R) rows) : (readS S n).1.length ≤ 1048576 := by
  obtain ⟨D, hD, -⟩ := h.use
  have := read_small hD n
  unfold readS
  split
  · simp
  · exact this

/-- The last part: the log is made, its ends are told. -/
def OpenTail (w0 : World) (d : Nat) (R : List Thing) (rows : List (Value × Bs)) (S : DiskS) (first : Int) (ls : List Bs) (e : Ending) (w' : World) : Prop :=
  ∃ g, e = .returned (.tuple #[.pointer (some ⟨g, 0, none⟩), .int .i64 0]) ∧ Sep w0 w' (ThLog g d { lives := S.lives, done := false, first := first, recs := ls } :: ThDisk d S :: R) rows

set_option maxRecDepth 100000 in
set_option maxHeartbeats 1000000 in
theorem open_any (h : Sep w0 w (ThDisk d S :: R) rows) :
    Calls Try.prog 12 #[.pointer (some ⟨d, 0, none⟩)] w (OpenPost w0 d R rows (openS S)) := by
  obtain ⟨i0, hi0, hz0, hz1, hz2⟩ := info_parts infoI
  obtain ⟨q, hq⟩ : ∃ q, openS S = q := ⟨_, rfl⟩
  rw [hq]
  unfold openS at hq
  have H := Lib.hid h
  have hbs := readS_small (n := nmLog) h
  obtain ⟨ba, hba⟩ : ∃ o, baseS S = o := ⟨_, rfl⟩
  obtain ⟨rd, hrd⟩ : ∃ o, readS S nmLog = o := ⟨_, rfl⟩
  rw [hba, hrd] at hq
  rw [hrd] at hbs
  have HQ := Lib.hid hq
  clear hq h
  obtain ⟨first, k1⟩ := ba
  obtain ⟨b, k2⟩ := rd
  simp only at HQ hbs
  have HRD := Lib.hid hrd
  go_enter Try.func12, Try.ntmps12
  go_wp2_with fail
  refine (base_any H.out).mono ?_
  rintro e w1 ⟨rfl, h⟩
  rw [hba]
  have H1 := Lib.hid h
  clear h hba hrd
  by_cases hk1 : k1 = 0
  case neg =>
    have hb : (k1 != 0) = true := by simp [hk1]
    go_wp2_with fail
    go_ret2
    rw [← HQ.out, if_pos hk1]
    exact .inl ⟨hk1, rfl, H1.out⟩
  subst hk1
  go_wp2_with fail
  refine (read_log nmLog (by decide) H1.out).mono ?_
  rintro e w2 ⟨v, rfl, h⟩
  rw [HRD.out] at h ⊢
  have H2 := Lib.hid h
  clear h
  have HQ1 := Lib.hid (show (if k2 ≠ 0 then openNo S k2 else openB S first b) = q by rw [← HQ.out]; simp)
  clear HQ
  by_cases hk2 : k2 = 0
  case neg =>
    have hb : (k2 != 0) = true := by simp [hk2]
    go_wp2_with fail
    go_ret2
    rw [← HQ1.out, if_pos hk2]
    exact .inl ⟨hk2, rfl, H2.out.drop_row⟩
  subst hk2
  have hqb : openB S first b = q := by rw [← HQ1.out]; simp
  unfold openB at hqb
  obtain ⟨E, hE⟩ := H2.out.get (v := v) (b := b) (by simp)
  obtain ⟨av, nv, cv, rfl, hlv, -⟩ := id hE
  obtain rfl : b.length = nv := by simpa using hlv
  have HE := Lib.hid hE
  clear hE hlv HQ1
  go_wp2_with fail
  refine (scan_any _ b E _ HE.out (by omega)).mono ?_
  rintro e w3 ⟨v3, D3, rfl, hr3, hu3⟩
  obtain ⟨hsu1, hsu2⟩ := scanS_used b
  have hsm := scanS_small b
  obtain ⟨how, hhow⟩ : ∃ x, (scanS b).2.2 = x := ⟨_, rfl⟩
  obtain ⟨us, hus⟩ : ∃ x, (scanS b).2.1 = x := ⟨_, rfl⟩
  obtain ⟨ls, hls⟩ : ∃ x, (scanS b).1 = x := ⟨_, rfl⟩
  rw [hls] at hr3 hqb hsu1 hsm
  rw [hhow] at hqb ⊢
  rw [hus] at hqb hsu1 hsu2 ⊢
  have H3 := Lib.hid (H2.out.drop_row.add (T := ThRecs v3 ls) hu3 hr3)
  obtain ⟨a3, c3, rfl, hn3, hc3⟩ := hr3.slice
  unfold maxLen at hc3
  have HQB := Lib.hid hqb
  have HSM := Lib.hid hsm
  have HSU := Lib.hid hsu1
  clear hqb hr3 hu3 hhow hus hls hsm hsu1 HE H2 H1 H HRD
  by_cases hw : how = 2
  · have HQ2 := Lib.hid (show q = openNo S 3 by rw [← HQB.out, if_pos hw])
    subst hw
    clear HQB
    go_wp2_with fail
    go_ret2
    rw [HQ2.out]
    exact .inl ⟨by simp [openNo], rfl, H3.out.drop⟩
  have hw' : (how == 2) = false := by simp [hw]
  obtain ⟨c, hc⟩ : ∃ c, S.cut nmLog (us : Int) = c := ⟨_, rfl⟩
  have hqb := HQB.out
  rw [if_neg hw, hc] at hqb
  by_cases hlt : us < b.length
  case' pos =>
    rw [if_pos hlt] at hqb
    obtain ⟨c1, S'⟩ := c
    simp only at hqb
    have HC := Lib.hid hc
    have HQ2 := Lib.hid hqb
    clear hc hqb HQB
    go_wp2_with fail
    refine (SD.cut H3.out.swap nmLog _ (by decide) HC.out).mono ?_
    rintro e w4 ⟨rfl, h⟩
    have H4 := Lib.hid h.swap
    clear h
    by_cases hc1 : c1 = 0
    case' neg =>
      have hb : (c1 != 0) = true := by simp [hc1]
      go_wp2_with fail
      go_ret2
      rw [← HQ2.out, if_pos hc1]
      exact .inl ⟨hc1, rfl, H4.out.drop⟩
    subst hc1
    have HQ3 := Lib.hid (show q = openOk S' first ls by rw [← HQ2.out, if_neg (by simp)])
    clear HQ2 HC H3
  case' neg =>
    rw [if_neg hlt] at hqb
    have HQ3 := Lib.hid hqb.symm
    obtain ⟨S', hS'⟩ : ∃ x, x = S := ⟨_, rfl⟩
    rw [← hS'] at H3 HQ3
    have H4 := H3
    clear hqb HQB hS' hc H3
  all_goals
    go_wp2_with fail
    refine (SD.lives H4.out.swap).mono ?_
    rintro e w4 ⟨rfl, rfl⟩
    have H5 := Lib.hid (log_made d { lives := S'.lives, done := false, first := first, recs := ls } 60 rfl H4.out)
    have hlen : ls.length ≤ 1048576 := by have := frames_many ls; rw [HSU.out] at this; omega
    have hend : (frames ls).length ≤ 1048576 := by rw [HSU.out]; omega
    clear H4
    go_wp2_with fail
    go_loopg [12, 58] (ls.length) (fun k v1 v2 wr => ∃ p : Nat, p ≤ ls.length ∧ k = ls.length - p ∧ v1 = .int .i64 ((frames (ls.take p)).length : Int) ∧ v2 = .int .i64 (p : Int) ∧
      Sep w0 wr (ThLogE _ d { lives := S'.lives, done := false, first := first, recs := ls } ((endsS ls).take p) :: ThDisk d S' :: R) rows ∧ wr.cell? ⟨_, 4, none⟩ = some (.slice a3 ls.length c3))
    case atStart => exact ⟨0, Nat.zero_le _, rfl, by simp [frames], rfl, by simpa using H5.out, cell_of (heap_alloc_new _ _) 4 rfl⟩
    case round =>
      obtain ⟨p, hp, hk, hv1, hv2, hS, hc4⟩ := hrel
      subst hv1 hv2
      by_cases hlt : p < ls.length
      · obtain ⟨D, hP, hr, back⟩ := hS.use
        obtain ⟨vr, ve, De, T, h1, hown, hinD, hgD, turn⟩ := logE_ends hP
        obtain ⟨vr', ve', Dr, T', h1', hrec, -⟩ := logE_recs hP
        have e4 := cell_of h1 4 rfl
        rw [hc4] at e4
        cases e4
        rw [h1] at h1'
        cases h1'
        obtain ⟨y, v, E, rfl, hys, hcy, hrv, -⟩ := recsCell hrec (List.getElem?_eq_getElem hlt)
        have hrl := HSM.out _ (List.getElem_mem hlt)
        have htk : ls.take (p + 1) = ls.take p ++ [ls[p]] := by rw [List.take_succ_eq_append_getElem hlt]
        obtain ⟨r, hr5⟩ : ∃ r, ls[p] = r := ⟨_, rfl⟩
        rw [hr5] at hrv hrl htk
        obtain ⟨x, hx⟩ : ∃ x, (frames (ls.take p)).length = x := ⟨_, rfl⟩
        obtain ⟨z, hz⟩ : ∃ z, (frameS r).length = z := ⟨_, rfl⟩
        have hxz : (frames (ls.take (p + 1))).length = x + z := by rw [htk, ← hx, ← hz]; simp [frames]
        have hxe := frames_take_le ls (p + 1)
        rw [hxz] at hxe
        have hen : (endsS ls).take (p + 1) = (endsS ls).take p ++ [.int .i64 ((x : Int) + (z : Int))] := by
          rw [endsS_take _ _ (by omega), endsS_take _ _ (by omega), htk, endsS_push, hx, hz, Int.natCast_add]
        have hsz := size_log v r E _ hrv hrl
        rw [hz] at hsz
        have hsum : x + z ≤ 1048576 := by omega
        obtain ⟨ae, ne, ce, rfl, hle, hne, hce, -⟩ := id hown
        rw [List.length_take, endsS_length, Nat.mul_one, Nat.min_eq_left hp] at hle
        subst hle
        obtain ⟨g, hg⟩ : ∃ g, w4.heap.size = g := ⟨_, rfl⟩
        rw [hg] at h1 hc4 hgD turn
        rw [hg]
        have c5 := cell_of h1 5 rfl
        have HSZ := Lib.hid hsz
        have H1 := Lib.hid h1
        have HT := Lib.hid turn
        have HB := Lib.hid back
        have HX := Lib.hid (show _ ∧ _ ∧ _ ∧ _ from ⟨hx, hxz, hen, hgD⟩)
        have HO := Lib.hid hown
        have HG := Lib.hid hg
        unfold maxLen at hce
        rw [hx]
        clear hsz h1 turn back hx hxz hen hgD hr5 hz htk hrv hrl hrec hr hP hS hinD hown hxe H5 hg
        go_wp2_with fail
        refine HSZ.out.mono ?_
        rintro e w6 ⟨rfl, hu6⟩
        have h6 := (hu6.keep g (lt_of_heap H1.out) (by simp)).trans H1.out
        have c5 := cell_of h6 5 rfl
        have hu6a := hu6.trans (Upd.alloc0 w6 (.cells #[.int .i64 ((x : Int) + (z : Int))] 3 (0, 0)) [])
        have hownA := HO.out.frame (hu6a.same HO.out.lt (by simp))
        obtain ⟨nb, hnb, hsrc⟩ := (cell_new w6 (.int .i64 ((x : Int) + (z : Int))) 3 (0, 0)).src (P := Try.prog) (tx := 58) Try.underlying58 (by intro u hu; rw [List.mem_singleton.1 hu]; rfl)
        obtain rfl : 1 = nb := by simpa using hnb
        have HBD := Lib.hid (show ∀ n', ((endsS ls).take p).length = n' * 1 → n' + 1 ≤ 140737488355328 ∧ (n' + 1) * i0.bytes ≤ 140737488355328 from fun n' hn' => by
          rw [List.length_take, endsS_length] at hn'
          rw [hz2]; omega)
        have h6a := (hu6a.keep g (lt_of_heap H1.out) (by simp)).trans H1.out
        have H6A := Lib.hid h6a
        have HU := Lib.hid hu6a
        clear h6 h6a hu6 hu6a hnb
        go_wp2_with (at_builtin; go_must (refine wpList_app rfl _ _ 58 58 rfl 1 _ _ _ rfl hownA _ i0 _ Try.underlying58 hi0 hz0 hz1 rfl _ _ _ rfl hsrc HBD.out ?_); intro a7 n7 c7 w7 D7 hown7 hu7; have h7 := (hu7.keep g (lt_of_heap H6A.out) HX.out.2.2.2).trans H6A.out; have y5 := frz_of h7 5; have c57 := cell_of h7 5 rfl)
        obtain ⟨D8, hL8, hU8⟩ := HT.out _ _ _ _ ((HU.out.mono (by simp) (fun b hb => .inr hb) : Upd wr _ De De).trans hu7) hown7
        have h8 := heap_setCell_same w7 g 5 _ _ (.slice a7 n7 c7) h7
        have H8 := Lib.hid (HB.out _ _ (ThLogE g d { lives := S'.lives, done := false, first := first, recs := ls } _) hU8 hL8)
        have c48 := cell_of h8 4 rfl
        clear hL8 hU8 h8 h7 hu7 hown7 y5 c57 hsrc hownA c5
        have hg := HG.out
        clear HG
        subst hg
        go_roundg (ls.length - (p + 1))
        case rel =>
          refine ⟨p + 1, by omega, rfl, by rw [HX.out.2.1]; go_num, by go_num, ?_, c48⟩
          rw [HX.out.2.2.1]; exact H8.out
        case measure => omega
      · obtain rfl : p = ls.length := by omega
        rw [List.take_of_length_le (by rw [endsS_length]; exact Nat.le_refl _)] at hS
        have H8 := Lib.hid hS
        clear hS
        go_wp2_with fail
        go_ret2
        rw [HQ3.out]
        exact .inr ⟨rfl, _, rfl, H8.out⟩
end
end Go.Proofs.Ytbfblekabnkghaa
