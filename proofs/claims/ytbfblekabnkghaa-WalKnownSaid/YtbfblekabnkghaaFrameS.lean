/-
  The walk of a scan.
-/
import Derived.Test.YtbfblekabnkghaaInfos
import Derived.Test.YtbfblekabnkghaaFrameN
namespace Go.Proofs.Ytbfblekabnkghaa
open Go.RowKit Go.Av


theorem nextS_le (b : Bs) (h : (nextS b).2 = 0) : (nextS b).1 ≤ 20012 := by
  unfold nextS at h ⊢
  split at h
  · cases h
  · split at h
    · cases h
    · split at h
      · cases h
      · split at h
        · cases h
        · rename_i h1 h2 h3 h4
          rw [if_neg h1, if_neg h2, if_neg h3, if_neg h4]
          simp only
          omega

def ScanPost (w : World) (l : Bs) (e : Ending) (w' : World) : Prop :=
  ∃ v D, e = .returned (.tuple #[v, .int .i64 ((scanS l).2.1 : Int), .int .i64 (scanS l).2.2]) ∧ RecsAt w' v (scanS l).1 D ∧ Upd w w' [] D

set_option maxRecDepth 100000 in
set_option maxHeartbeats 1000000 in
theorem scan_any (v : Value) (l : Bs) (E : List Nat) (w : World) (h : ReadRow w 1 v (l.map bv) E) (hl : l.length ≤ 1073741824) :
    Calls Try.prog 27 #[v] w (ScanPost w l) := by
  obtain ⟨i0, hi0, hz0, hz1, hz2⟩ := info_parts info5
  obtain ⟨j0, hj0, hy0, hy1, hy2⟩ := info_parts infoB
  obtain ⟨a, n, c, rfl, -⟩ := id h
  obtain ⟨hn, hnc, hcm, -⟩ := row_cell h
  rw [List.length_map] at hn
  subst hn
  unfold maxLen at hcm
  have H := Lib.hid h
  clear h
  go_enter Try.func27, Try.ntmps27
  go_wp2_with fail
  go_loopg [2, 3] (l.length) (fun k r u wr => ∃ (p : Nat) (ls : List Bs) (D : List Nat), p ≤ l.length ∧ k = l.length - p ∧ u = .int .i64 p ∧ RecsAt wr r ls D ∧ Upd w wr [] D ∧
    scanS l = (ls ++ (scanS (l.drop p)).1, p + (scanS (l.drop p)).2.1, (scanS (l.drop p)).2.2) ∧ 12 * ls.length ≤ p)
  case atStart => exact ⟨0, [], [], Nat.zero_le _, rfl, rfl, RecsAt.nil _, Upd.refl _ _, by simp, by simp⟩
  case round =>
    rename_i r2 u3
    obtain ⟨p, ls, D, hp, hk, rfl, hR, hu, hscan, hcount⟩ := hrel
    by_cases hlt : p < l.length
    · have hr := H.out.frame (hu.same H.out.lt (by simp))
      obtain ⟨ap, hsp, Ep, hrp, -⟩ := slice_from Try.underlying31 hi0 hz1 hr p hp
      have hnx := next_any _ _ _ _ hrp
      have HN := Lib.hid hnx
      have HR := Lib.hid hR
      have HU := Lib.hid hu
      have HS := Lib.hid hscan
      have HRD := Lib.hid hr
      have hne0 : (l.drop p).length ≠ 0 := by rw [List.length_drop]; omega
      clear hrp hnx hR hu hscan hr
      go_wp2_with fail
      refine HN.out.mono ?_
      rintro e w1 ⟨rfl, hu1⟩
      obtain ⟨sz, hsz⟩ : ∃ sz, sz = (nextS (l.drop p)).1 := ⟨_, rfl⟩
      obtain ⟨hw, hhw⟩ : ∃ hw, hw = (nextS (l.drop p)).2 := ⟨_, rfl⟩
      rw [← hsz, ← hhw]
      by_cases h0 : hw = 0
      · subst h0
        obtain ⟨hs1, hs2⟩ := nextS_size (l.drop p) hhw.symm
        have hs3 := nextS_le (l.drop p) hhw.symm
        rw [← hsz] at hs1 hs2 hs3
        rw [List.length_drop] at hs2
        have hstep := scanS_step hne0 hhw.symm
        rw [← hsz, List.drop_drop] at hstep
        have hr1 := HRD.out.frame (hu1.same HRD.out.lt (by simp))
        obtain ⟨ac, hsc, Ec, hrc, -⟩ := slice_cut Try.underlying31 hi0 hz1 hr1 (p + 12) (p + sz) (by omega) (by omega)
        have hsc2 : ∀ W : World, (Instr.slice 31 (.slice a l.length c) (some (.int .i64 ((p : Int) + 12))) (some (.int .i64 ((p : Int) + (sz : Int)))) none).run Try.prog W = .ok (.slice ac (p + sz - (p + 12)) (c - (p + 12))) W := fun W => hsc W
        have hcl := clone_any _ _ _ _ hrc (by simp; omega)
        have hpart : (l.drop (p + 12)).take (p + sz - (p + 12)) = ((l.drop p).take sz).drop 12 := by
          rw [List.drop_take, List.drop_drop]
          congr 1
          omega
        rw [hpart] at hcl
        have HC := Lib.hid hcl
        have HP := Lib.hid (show 12 ≤ sz ∧ p + sz ≤ l.length ∧ scanS (l.drop p) = _ from ⟨hs1, by omega, hstep⟩)
        have hR1 := HR.out.frame (hu1.same HR.out.lt (by simp))
        obtain ⟨rows, D0, hls, hD, hown, hrows⟩ := hR1
        have HROWS := Lib.hid hrows
        have HU1 := Lib.hid (HU.out.trans (hu1.mono (by simp) (fun b hb => .inr hb)))
        have HLS := Lib.hid (show rows.map (·.2.1) = ls ∧ D = D0 ++ rows.flatMap (·.2.2) from ⟨hls, hD⟩)
        have hp12 : p + 12 ≤ 9223372036854775807 := by omega
        have hpsz : p + sz ≤ 1073741824 := by omega
        have HOWN := Lib.hid hown
        clear hsz hhw hne0 hs1 hs2 hs3 hstep hr1 hsc hrc hcl hpart hrows hu1 hls hD hown hp12
        go_wp2_with fail
        refine HC.out.mono ?_
        rintro e w2 ⟨v2, D2, rfl, hown2, hu2⟩
        obtain ⟨E2, hr2, hE2⟩ := hown2.read
        obtain ⟨a2, n2, c2, rfl, -⟩ := hown2.len
        have hownA := HOWN.out.frame ((hu2.trans (Upd.alloc0 w2 (.cells #[.slice a2 n2 c2] 31 (0, 0)) D2)).same HOWN.out.lt (by simp))
        obtain ⟨nb, hnb, hsrc⟩ := (cell_new w2 (.slice a2 n2 c2) 31 (0, 0)).src (P := Try.prog) (tx := 22) Try.underlying22 (by intro u hu; rw [List.mem_singleton.1 hu]; rfl)
        have hnb1 : 1 = nb := by simpa using hnb
        subst hnb1
        have HBD := Lib.hid (show ∀ n', (rows.map (·.1)).length = n' * 1 → n' + 1 ≤ 140737488355328 ∧ (n' + 1) * j0.bytes ≤ 140737488355328 from fun n' hn' => by
          have h1 := congrArg List.length HLS.out.1
          simp at hn' h1
          rw [hy2]; omega)
        have H2 := Lib.hid (show ReadRow w2 1 (.slice a2 n2 c2) ((((l.drop p).take sz).drop 12).map bv) E2 ∧ (∀ b ∈ E2, b ∈ D2) ∧ Upd w1 w2 [] D2 from ⟨hr2, hE2, hu2⟩)
        clear hr2 hE2 hu2 hown2 hnb
        go_wp2_with (at_builtin; go_must (refine wpList_app rfl _ _ 22 22 rfl 1 _ _ _ rfl hownA _ j0 _ Try.underlying22 hj0 hy0 hy1 rfl _ _ _ rfl hsrc HBD.out ?_); intro a3 n3 c3' w3 D3 hown3 hu3)
        obtain ⟨hls, hD⟩ := HLS.out
        obtain ⟨hr2, hE2, hu2⟩ := H2.out
        have ha := Upd.alloc0 w2 (.cells #[.slice a2 n2 c2] 31 (0, 0)) []
        obtain ⟨hX, hY⟩ := recs_push HROWS.out HOWN.out.lt (hu2.trans (Upd.alloc0 w2 (.cells #[.slice a2 n2 c2] 31 (0, 0)) D2)) (hr2.frame (ha.same hr2.lt (by simp))) hE2 hu3 hown3
        rw [hls] at hX
        rw [← hD] at hY
        have HX := Lib.hid hX
        have HY := Lib.hid (HU1.out.trans hY)
        clear hX hY hu2 hr2 hE2 ha hls hD
        go_roundg (l.length - (p + sz))
        case rel =>
          obtain ⟨h1, h2, h3⟩ := HP.out
          refine ⟨p + sz, _, _, by omega, rfl, by go_num, HX.out, HY.out, ?_, by simp; omega⟩
          rw [HS.out, h3]
          simp [Nat.add_assoc]
        case measure =>
          obtain ⟨h1, h2, h3⟩ := HP.out
          omega
      · have HD := Lib.hid hhw
        have HU1 := Lib.hid hu1
        clear hhw hsz hu1
        go_wp2_with fail
        go_ret3
        have hst := scanS_stop hne0 (by rw [← HD.out]; exact h0)
        have hsc := HS.out
        rw [hst, List.append_nil] at hsc
        refine ⟨u2, D, ?_, ?_, HU.out.trans (HU1.out.mono (by simp) (fun b hb => .inr hb))⟩
        · rw [hsc, HD.out]; rfl
        · rw [hsc]; exact HR.out.frame (HU1.out.same HR.out.lt (by simp))
    · obtain rfl : p = l.length := by omega
      have HR := Lib.hid hR
      have HU := Lib.hid hu
      have HS := Lib.hid hscan
      clear hR hu hscan
      go_wp2_with fail
      go_ret3
      have hsc := HS.out
      rw [List.drop_length, scanS_nil, List.append_nil] at hsc
      exact ⟨u2, D, by rw [hsc]; rfl, by rw [hsc]; exact HR.out, HU.out⟩
end Go.Proofs.Ytbfblekabnkghaa
