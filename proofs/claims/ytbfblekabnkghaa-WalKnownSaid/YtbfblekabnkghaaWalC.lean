/-
  The log's base: the walk.
-/
import Derived.Test.YtbfblekabnkghaaWalB
namespace Go.Proofs.Ytbfblekabnkghaa
open Go.RowKit Go.Av

theorem getN_le (n : ByteArray) (fs : List FileS) : (getN n fs).length ≤ total fs := by
  unfold getN
  cases h : fs.find? (fun f => decide (f.name = n)) with
  | none => simp
  | some f =>
    obtain ⟨l1, l2, rfl⟩ := List.append_of_mem (List.mem_of_find?_eq_some h)
    simp [total]
    omega
theorem read_small {w : World} {d : Nat} {S : DiskS} {D : List Nat} (h : DiskAt w d S D) (n : ByteArray) : (DiskS.read S n).length ≤ 1048576 := by
  obtain ⟨m, gs, hI, rfl⟩ := h
  have h1 := hI.fits
  have h2 := hI.hi
  have h3 := getN_le n S.fs
  unfold DiskS.read
  split
  · omega
  · simp

def nmBase : ByteArray := ⟨#[98, 97, 115, 101]⟩
def nmLog : ByteArray := ⟨#[108, 111, 103]⟩
def nmNew : ByteArray := ⟨#[98, 97, 115, 101, 46, 110, 101, 119]⟩
def baseR (r : Bs) : Int × Int := if r.length = 8 ∧ 1 ≤ rdI r ∧ rdI r ≤ 1099511627776 then (rdI r, 0) else (0, 3)
def baseB (b : Bs) : Int × Int := if (scanS b).2.2 = 0 ∧ (scanS b).1.length = 1 then baseR ((scanS b).1.headD []) else (0, 3)
def baseS (S : DiskS) : Int × Int := if S.ask nmBase = 4 then (1, 0) else if S.ask nmBase ≠ 0 then (0, S.ask nmBase) else baseB (DiskS.read S nmBase)

theorem scanF_small : ∀ (f : Nat) (b r : Bs), r ∈ (scanF f b).1 → r.length ≤ 20000
  | 0, b, r, h => by cases h
  | f + 1, b, r, h => by
    unfold scanF at h
    split at h
    · cases h
    · split at h
      · rename_i h1 h2
        rcases List.mem_cons.1 h with rfl | h
        · have := nextS_le b h2
          simp
          omega
        · exact scanF_small f _ r h
      · cases h
theorem scanS_small (b r : Bs) (h : r ∈ (scanS b).1) : r.length ≤ 20000 := scanF_small _ b r h

section
variable {w0 w : World} {g d : Nat} {L : LogS} {S : DiskS} {R : List Thing} {rows : List (Value × Bs)}

set_option maxRecDepth 100000 in
set_option maxHeartbeats 1000000 in
theorem base_any (h : Sep w0 w (ThDisk d S :: R) rows) :
    Calls Try.prog 25 #[.pointer (some ⟨d, 0, none⟩)] w fun e w' => e = .returned (.tuple #[.int .i64 (baseS S).1, .int .i64 (baseS S).2]) ∧ Sep w0 w' (ThDisk d S :: R) rows := by
  obtain ⟨k, hk⟩ : ∃ k, S.ask nmBase = k := ⟨_, rfl⟩
  obtain ⟨q, hq⟩ : ∃ q, baseS S = q := ⟨_, rfl⟩
  rw [hq]
  unfold baseS at hq
  rw [hk] at hq
  obtain ⟨D0, hD0, -⟩ := h.use
  have hsm := read_small hD0 nmBase
  obtain ⟨b, hb⟩ : ∃ b, DiskS.read S nmBase = b := ⟨_, rfl⟩
  rw [hb] at hq hsm
  have H := Lib.hid h
  have HQ := Lib.hid hq
  clear h hq hD0
  go_enter Try.func25, Try.ntmps25
  go_wp2_with fail
  refine (SD.read H.out nmBase (by decide) hk hb).mono ?_
  rintro e w1 ⟨v, rfl, h⟩
  have H1 := Lib.hid h
  have HB := Lib.hid hb
  clear h hk hb
  by_cases h4 : k = 4
  · subst h4
    go_wp2_with fail
    go_ret2
    rw [← HQ.out]
    exact ⟨rfl, H1.out.drop_row⟩
  by_cases h0 : k = 0
  case neg =>
    have h4' : (k == 4) = false := by simp [h4]
    have h0' : (k == 0) = false := by simp [h0]
    go_wp2_with fail
    go_ret2
    rw [← HQ.out, if_neg h4, if_pos h0]
    exact ⟨rfl, H1.out.drop_row⟩
  subst h0
  obtain ⟨E, hE⟩ := H1.out.get (v := v) (b := b) (by simp)
  go_wp2_with fail
  refine (scan_any v b E _ hE (by omega)).mono ?_
  rintro e w2 ⟨v2, D2, rfl, hr2, hu2⟩
  have hq2 : q = baseB b := by rw [← HQ.out, if_neg (by decide), if_neg (by decide)]
  unfold baseB at hq2
  obtain ⟨how, hhow⟩ : ∃ x, (scanS b).2.2 = x := ⟨_, rfl⟩
  obtain ⟨us, hus⟩ : ∃ x, (scanS b).2.1 = x := ⟨_, rfl⟩
  obtain ⟨ls, hls⟩ : ∃ x, (scanS b).1 = x := ⟨_, rfl⟩
  rw [hls] at hr2
  rw [hhow, hls] at hq2
  rw [hhow, hus]
  obtain ⟨a, c, rfl, hn, hc⟩ := hr2.slice
  unfold maxLen at hc
  have H2 := Lib.hid (H1.out.keep hu2)
  have HR := Lib.hid hr2
  have HQ2 := Lib.hid hq2
  have HC : ∀ l, ls[0]? = some l → ∃ (y : Addr) (v : Value), a = some y ∧ w2.cell? (y.add 0) = some v ∧ ∃ E, ReadRow w2 1 v (l.map bv) E := fun l hl => by
    obtain ⟨y, v, E, h1, h2, h3, h4, _⟩ := recsCell hr2 hl
    exact ⟨y, v, h1, h3, E, h4⟩
  have HCC := Lib.hid HC
  have HSM := Lib.hid (show ∀ r ∈ ls, r.length ≤ 20000 from fun r hr => scanS_small b r (by rw [hls]; exact hr))
  clear hhow hus hls hr2 hu2 hq2 hE HC HQ
  by_cases hw : how = 0
  case neg =>
    have hw' : (how != 0) = true := by simp [hw]
    go_wp2_with fail
    go_ret2
    rw [HQ2.out, if_neg (by simp [hw])]
    exact ⟨rfl, H2.out.drop_row⟩
  subst hw
  by_cases hl1 : ls.length = 1
  case neg =>
    have hl' : ((ls.length : Int) != 1) = true := by simp; omega
    go_wp2_with fail
    go_ret2
    rw [HQ2.out, if_neg (by simp [hl1])]
    exact ⟨rfl, H2.out.drop_row⟩
  match ls, hl1 with
  | [r], _ =>
    obtain ⟨y, v3, rfl, hc3, E3, hr3⟩ := HCC.out r rfl
    have hy0 : y.add 0 = y := by cases y; rfl
    have hc3' := hc3
    rw [hy0] at hc3'
    have hq3 : q = baseR r := by rw [HQ2.out, if_pos ⟨rfl, rfl⟩]; rfl
    have hrl : r.length ≤ 1073741824 := by have := HSM.out r (by simp); omega
    have H3 := Lib.hid hr3
    clear HQ2 HCC hr3
    simp only [List.length_singleton] at hn
    go_wp2_with fail
    refine (rdr_new v3 r E3 _ H3.out hrl).mono ?_
    rintro e w3 ⟨p, D3, rfl, hR3, hu3⟩
    go_wp2_with fail
    refine (rdr_i64 p r false D3 _ hR3).mono ?_
    rintro e w4 ⟨rfl, D4, hR4, hu4⟩
    obtain ⟨l', hl'⟩ : ∃ x, (if r.length < 8 then [] else r.drop 8) = x := ⟨_, rfl⟩
    obtain ⟨bad, hbad⟩ : ∃ x, (if r.length < 8 then true else false) = x := ⟨_, rfl⟩
    obtain ⟨n, hn4⟩ : ∃ x, (if r.length < 8 then 0 else rdI r) = x := ⟨_, rfl⟩
    rw [hl', hbad] at hR4
    rw [hn4]
    have H5 := Lib.hid (H2.out.drop_row.keep (hu3.trans hu4))
    go_wp2_with fail
    refine (rdr_end p l' bad D4 _ hR4).mono ?_
    rintro e w5 ⟨rfl, rfl⟩
    have hend : (!bad && l'.isEmpty) = decide (r.length = 8) := by
      by_cases h8 : r.length < 8
      · rw [if_pos h8] at hl' hbad
        subst hl'; subst hbad
        simp; omega
      · rw [if_neg h8] at hl' hbad
        subst hl'; subst hbad
        rw [Bool.eq_iff_iff]
        simp only [Bool.not_false, Bool.true_and, List.isEmpty_iff, ← List.length_eq_zero_iff, List.length_drop, decide_eq_true_eq]
        omega
    rw [hend]
    clear hend hl' hbad hR4 hu3 hu4
    have HQ3 := Lib.hid hq3
    clear hq3
    by_cases h8 : r.length = 8
    case neg =>
      have hd : decide (r.length = 8) = false := by simp [h8]
      rw [hd]
      clear hn4
      go_wp2_with fail
      go_ret2
      rw [HQ3.out]
      unfold baseR
      rw [if_neg (by simp [h8])]
      exact ⟨rfl, H5.out⟩
    have hd : decide (r.length = 8) = true := by simp [h8]
    rw [if_neg (by omega)] at hn4
    subst hn4
    rw [hd]
    obtain ⟨n, hnn⟩ : ∃ x, rdI r = x := ⟨_, rfl⟩
    rw [hnn]
    have HQ4 := Lib.hid (show q = if 1 ≤ n ∧ n ≤ 1099511627776 then (n, 0) else (0, 3) by rw [HQ3.out]; unfold baseR; rw [hnn]; simp [h8])
    clear hnn HQ3 hd h8
    by_cases hn1 : n < 1
    · go_wp2_with fail
      go_ret2
      rw [HQ4.out, if_neg (by omega)]
      exact ⟨rfl, H5.out⟩
    by_cases hn2 : n > 1099511627776
    · go_wp2_with fail
      go_ret2
      rw [HQ4.out, if_neg (by omega)]
      exact ⟨rfl, H5.out⟩
    go_wp2_with fail
    go_ret2
    rw [HQ4.out, if_pos (by omega)]
    exact ⟨rfl, H5.out⟩
end
end Go.Proofs.Ytbfblekabnkghaa
