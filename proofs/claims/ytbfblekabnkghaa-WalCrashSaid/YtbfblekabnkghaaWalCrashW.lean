/-
  WalCrash: behind a crash at any time there is a beginning of what was added, at least what was synced.
-/
import Derived.Test.YtbfblekabnkghaaLaws8
import Derived.Test.YtbfblekabnkghaaInB
namespace Go.Proofs.Ytbfblekabnkghaa
open Go.RowKit Go.Av

theorem start_of {w w1 : World} {rows : List (Value × Bs)} (hu : Upd w w1 [] []) (hr : ∀ r ∈ rows, ∃ E, ReadRow w 1 r.1 (r.2.map bv) E) : Sep w w1 [] rows := (Sep.startRows hr).keep hu

theorem crash_plain (ls : List Bs) (k s : Nat) (keep : Int) (h : ∀ r ∈ ls, r.length ≤ 300) (hk : k ≤ ls.length) (hs : s = (frames (ls.take k)).length) :
    ∃ j how, k ≤ j ∧ j ≤ ls.length ∧ how ≠ 2 ∧ (frames (ls.take j)).length ≤ s + min keep.toNat ((frames ls).length - s) ∧ s + min keep.toNat ((frames ls).length - s) ≤ (frames ls).length ∧
      scanS ((frames ls).take (s + min keep.toNat ((frames ls).length - s))) = (ls.take j, (frames (ls.take j)).length, how) ∧
      ((frames ls).take (s + min keep.toNat ((frames ls).length - s))).take (frames (ls.take j)).length = frames (ls.take j) := by
  have h1 := frames_take_le ls k
  have ht : s + min keep.toNat ((frames ls).length - s) ≤ (frames ls).length := by omega
  obtain ⟨j, h2, h3, h4, h5, h6, h7⟩ := scanS_cut ls _ (fun r hr => by have := h r hr; omega) ht
  refine ⟨j, (scanS ((frames ls).take (s + min keep.toNat ((frames ls).length - s)))).2.2, h4 k (by omega) hk, h2, ?_, h3, ht, ?_, ?_⟩
  · rcases h7 with h7 | h7 <;> rw [h7] <;> decide
  · exact Prod.ext h5 (Prod.ext h6 rfl)
  · rw [List.take_take, Nat.min_eq_left h3, frames_take]

set_option maxRecDepth 100000 in
set_option maxHeartbeats 2000000 in
theorem walCrash_walk (a : Option Addr) (len cap : Nat) (rows : List (Value × Bs)) (synced keep : Int) (w : World) (h : IsRowsB w a len cap rows) :
    Calls Try.prog 3 #[.slice a len cap, .int .i64 synced, .int .i64 keep] w fun e w' => e = .returned (.bool true) ∧ Below w.heap.size w w' := by
  have kc := fun (W : World) (C : Array Value) (n c : Nat) => Lib.run_convert_bytes_const (P := Try.prog) W 31 5 C n c Try.underlying31 Try.underlying5
  obtain ⟨hl, hn, hc, ha, hcell, hread, hform⟩ := h
  subst hl
  have HC := Lib.hid hcell
  have HR := Lib.hid hread
  have HF := Lib.hid hform
  clear hcell hread hform
  by_cases hok : rows.length ≤ 20
  case neg =>
    have hok' : 20 < rows.length := by omega
    clear hok
    go_enter Try.func3, Try.ntmps3
    go_wp2_with fail
    refine (awake8_any _).mono ?_
    rintro e w1 ⟨rfl, hu1⟩
    go_wp2_with fail
    go_ret
    exact ⟨rfl, hu1.below⟩
  by_cases hs0 : synced < 0
  · go_enter Try.func3, Try.ntmps3
    go_wp2_with fail
    refine (awake8_any _).mono ?_
    rintro e w1 ⟨rfl, hu1⟩
    go_wp2_with fail
    go_ret
    exact ⟨rfl, hu1.below⟩
  by_cases hs1 : (rows.length : Int) < synced
  · go_enter Try.func3, Try.ntmps3
    go_wp2_with fail
    refine (awake8_any _).mono ?_
    rintro e w1 ⟨rfl, hu1⟩
    go_wp2_with fail
    go_ret
    exact ⟨rfl, hu1.below⟩
  obtain ⟨k, rfl⟩ : ∃ k : Nat, synced = k := ⟨synced.toNat, by omega⟩
  have hk : k ≤ rows.length := by omega
  have hs1' : ¬ (rows.length < k) := by omega
  clear hs0 hs1
  go_enter Try.func3, Try.ntmps3
  go_wp2_with fail
  refine (awake8_any _).mono ?_
  rintro e w1 ⟨rfl, hu1⟩
  go_wp2_with fail
  refine (Dl.new (start_of hu1 HR.out) 20000 (by decide) (by decide)).mono ?_
  rintro e w2 ⟨d, rfl, H⟩
  go_wp2_with fail
  refine (Dl.open (n := 1) H (fun S hS => base_none hS) (by decide) (by decide) (scan_whole [] (by simp)) (by decide) rfl (by simp)).mono ?_
  clear H hu1
  rintro e w3 ⟨g, rfl, H⟩
  obtain ⟨ls, hls⟩ : ∃ ls, ls = rows.map (·.2) := ⟨_, rfl⟩
  have HLS := Lib.hid hls
  have HST := Lib.hid (show ∃ x, Wl w w3 g d 20000 1 1 x (ls.take 0) (if k ≤ 0 then (frames (ls.take k)).length else 0) [] [] rows from ⟨false, by
    have : (if k ≤ 0 then (frames (ls.take k)).length else 0) = 0 := by
      split
      · rename_i h0; obtain rfl : k = 0 := by omega
        simp [frames]
      · rfl
    rw [this]; simpa using H⟩)
  clear H hls
  go_wp2_with fail
  go_loopg [11] rows.length (fun kk v wr => ∃ p : Nat, p ≤ rows.length ∧ kk = rows.length - p ∧ v = .int .i64 (p : Int) ∧ (∀ r ∈ ls.take p, r.length ≤ 300) ∧ ∃ x, Wl w wr g d 20000 1 1 x (ls.take p) (if k ≤ p then (frames (ls.take k)).length else 0) [] [] rows)
  case atStart => exact ⟨0, Nat.zero_le _, rfl, rfl, by simp, HST.out⟩
  case round =>
    obtain ⟨p, hp, hkk, hv, hsm, x, H⟩ := hrel
    subst hv
    clear HST
    by_cases hlt : p < rows.length
    · have hm : rows[p] ∈ rows := List.getElem_mem hlt
      obtain ⟨ar, cr, hrv⟩ := HF.out _ hm
      cases a with
      | none => exact absurd (ha rfl) (by omega)
      | some y =>
      have hcl := H.cell (HC.out y rfl p hlt)
      rw [hrv] at hcl
      have hpl : p < ls.length := by rw [HLS.out]; simpa using hlt
      have hlp : ls[p] = rows[p].2 := by simp [HLS.out]
      have hin : (Value.slice ar rows[p].2.length cr, rows[p].2) ∈ rows := by rw [← hrv]; exact hm
      have htk := take_push ls p hpl
      rw [hlp] at htk
      obtain ⟨r, hr⟩ : ∃ r, rows[p].2 = r := ⟨_, rfl⟩
      rw [hr] at hcl hin htk
      have hfl := frames_le 300 _ hsm
      have hlen : (ls.take p).length ≤ 20 := by rw [List.length_take]; omega
      have hff : (frames (ls.take p)).length ≤ 6240 := by
        have := Nat.mul_le_mul_right (12 + 300) hlen
        omega
      have HH := Lib.hid H
      have HSM := Lib.hid hsm
      have HTK := Lib.hid htk
      have HIN := Lib.hid hin
      clear H hsm htk hin hfl hr hlp hrv hm
      by_cases hbig : 300 < r.length
      · go_wp2_with fail
        go_ret
        exact ⟨rfl, HH.out.below⟩
      go_wp2_with fail
      refine (HH.out.add HIN.out (by omega) (by simp [total]; omega)).mono ?_
      rintro e w4 ⟨rfl, H⟩
      rw [← HTK.out] at H
      have HH4 := Lib.hid H
      clear H hcl
      by_cases hsy : p + 1 = k
      · have hsy' : ((p : Int) + 1 == (k : Int)) = true := by simp; omega
        go_wp2_with fail
        refine HH4.out.sync.mono ?_
        rintro e w5 ⟨rfl, H⟩
        have HH5 := Lib.hid H
        clear H
        go_wp2_with fail
        go_roundg (rows.length - (p + 1))
        case rel =>
          refine ⟨p + 1, by omega, rfl, by go_num, ?_, true, ?_⟩
          · rw [HTK.out]
            intro q hq
            rcases List.mem_append.1 hq with hq | hq
            · exact HSM.out q hq
            · rw [List.mem_singleton.1 hq]; omega
          · rw [if_pos (by omega), ← hsy]; exact HH5.out
        case measure => omega
      · have hsy' : ((p : Int) + 1 == (k : Int)) = false := by simp; omega
        go_wp2_with fail
        go_roundg (rows.length - (p + 1))
        case rel =>
          refine ⟨p + 1, by omega, rfl, by go_num, ?_, true, ?_⟩
          · rw [HTK.out]
            intro q hq
            rcases List.mem_append.1 hq with hq | hq
            · exact HSM.out q hq
            · rw [List.mem_singleton.1 hq]; omega
          · have h6 := HH4.out
            by_cases hkp : k ≤ p
            · rw [if_pos hkp] at h6
              rw [if_pos (by omega)]; exact h6
            · rw [if_neg hkp] at h6
              rw [if_neg (by omega)]; exact h6
        case measure => omega
    · obtain rfl : p = rows.length := by omega
      have hll : ls.length = rows.length := by rw [HLS.out]; simp
      rw [if_pos hk, ← hll, List.take_length] at H
      rw [← hll, List.take_length] at hsm
      obtain ⟨s, hs⟩ : ∃ s, s = (frames (ls.take k)).length := ⟨_, rfl⟩
      rw [← hs] at H
      obtain ⟨j, how, hj1, hj2, hw, hj3, ht, hsc, hbt⟩ := crash_plain ls k s keep hsm (by omega) hs
      have HSM := Lib.hid hsm
      obtain ⟨t, ht'⟩ : ∃ t, t = s + min keep.toNat ((frames ls).length - s) := ⟨_, rfl⟩
      have hcr := H.crash keep
      rw [← ht'] at hcr hsc hbt ht hj3
      have HCR := Lib.hid hcr
      have HSC := Lib.hid (show _ ∧ _ ∧ _ ∧ _ ∧ _ from ⟨hsc, hbt, hw, ht, hj3⟩)
      have HH := Lib.hid H
      have hlen : (ls.take j).length = j := by rw [List.length_take]; omega
      have HLJ := Lib.hid hlen
      clear H hsm hs hcr hsc hbt hw ht hj3 ht' hlen
      go_wp2_with fail
      refine HCR.out.mono ?_
      rintro e w4 ⟨rfl, H⟩
      go_wp2_with fail
      refine (H.on (lv' := 2) (by kernel_rfl)).mono ?_
      clear H
      rintro e w5 ⟨rfl, H⟩
      go_wp2_with fail
      refine (Dl.open (n := 1) H (fun S hS => base_none hS) (by decide) (by decide) HSC.out.1 HSC.out.2.2.1 HSC.out.2.1 (by
        have := HSC.out.2.2.2.1
        rw [List.length_take]
        split <;> omega)).mono ?_
      clear H
      rintro e w6 ⟨g2, rfl, H⟩
      have HH6 := Lib.hid H
      clear H
      go_wp2_with fail
      refine HH6.out.next.mono ?_
      rintro e w7 ⟨rfl, H⟩
      rw [HLJ.out]
      have HH7 := Lib.hid H
      clear H
      have e1 : IntKind.i64.wrap (1 + (j : Int) - 1) = (j : Int) := by rw [IntWalk.i64_in _ (by omega)]; omega
      have e2 : IntKind.i64.wrap (j : Int) = (j : Int) := IntWalk.i64_in _ (by omega)
      have d1 : ¬ (j < k) := by omega
      have d2 : ¬ (rows.length < j) := by omega
      go_wp2_with fail
      refine HH7.out.first.mono ?_
      rintro e w8 ⟨rfl, H⟩
      have HH8 := Lib.hid (show ∃ R' s', Wl w w8 g2 d 20000 2 1 x (ls.take j) s' [] R' rows from ⟨_, _, H⟩)
      clear H
      go_wp2_with fail
      obtain ⟨R2, s2, H8⟩ := HH8.out
      have H0 := Lib.hid H8
      clear HH8 H8 HH7 HH6 HCR HSC HH e1 e2 d1 d2
      go_loopg [15] j (fun kk v wr => ∃ p : Nat, p ≤ j ∧ kk = j - p ∧ v = .int .i64 (p : Int) ∧ Wl w wr g2 d 20000 2 1 x (ls.take j) s2 [] R2 rows)
      case atStart => exact ⟨0, Nat.zero_le _, rfl, rfl, H0.out⟩
      case round =>
        obtain ⟨p, hp, hkk, hv, H⟩ := hrel
        subst hv
        clear H0
        by_cases hlt : p < j
        · have hm : rows[p]'(by omega) ∈ rows := List.getElem_mem _
          obtain ⟨ar, cr, hrv⟩ := HF.out _ hm
          cases a with
          | none => exact absurd (ha rfl) (by omega)
          | some y =>
          have hcl := HC.out y rfl p (by omega)
          rw [hrv] at hcl
          have hpl : p < (ls.take j).length := by rw [HLJ.out]; exact hlt
          have hlp : (ls.take j)[p] = (rows[p]'(by omega)).2 := by simp [HLS.out]
          have hin : (Value.slice ar (rows[p]'(by omega)).2.length cr, (rows[p]'(by omega)).2) ∈ rows := by rw [← hrv]; exact hm
          obtain ⟨r, hr⟩ : ∃ r, (rows[p]'(by omega)).2 = r := ⟨_, rfl⟩
          rw [hr] at hcl hin hlp
          have hat := H.at_ (k := (p : Int) + 1) p (by omega) hpl
          rw [hlp] at hat
          have HAT := Lib.hid hat
          have HIN := Lib.hid hin
          have HCL := Lib.hid hcl
          clear H hat hin hcl hr hlp hrv hm hpl
          go_wp2_with fail
          refine HAT.out.mono ?_
          rintro e w9 ⟨v9, rfl, H⟩
          have q1 := fun (W : World) (hW : W.heap = w9.heap) => H.str (v := v9) (b := r) (by simp) W hW
          have q2 := fun (W : World) (hW : W.heap = w9.heap) => H.str (b := r) (List.mem_cons_of_mem _ HIN.out) W hW
          have q3 := fun (W : World) (hW : W.heap = w9.heap) => (World.cell?_of_block (a := y.add p) (by rw [hW])).trans (H.cell HCL.out)
          have HH9 := Lib.hid H
          have hpr : p < rows.length := by omega
          clear H
          go_wp2_with fail
          refine wp_region_M (fun W => W.heap = w9.heap) 12 (by kernel_rfl) ?_
          refine wpAnyM_take (by kernel_rfl) (by intro c a d v w h; cases d <;> exact h) [(0, false), (1, false), (2, false), (3, false), (4, true), (5, false), (6, false), (7, false), (8, true), (9, true), (10, false), (11, false)] (fuel := 0) (by kernel_rfl) ?_
          apply Exists.intro; refine ⟨?_, rfl, ?_⟩
          · iterate 12 ((first | (apply yieldN; (· (simp only [List.getElem?_toArray, List.getElem?_cons_succ, List.getElem?_cons_zero]; try rfl)); (· rfl)) | ((first | apply yieldP | apply yieldL); (· (simp only [List.getElem?_toArray, List.getElem?_cons_succ, List.getElem?_cons_zero]; try rfl)); (· rfl); (· (intros; go_simp; try with_reducible rfl)))); (· (simp only [Act.put, List.setIfInBounds_toArray, List.set_cons_zero, List.set_cons_succ]; try rfl)))
            exact rfl
          refine wpAnyM_done (by kernel_rfl) ?_ _
          go_wp2_with fail
          go_roundg (j - (p + 1))
          case rel => exact ⟨p + 1, by omega, rfl, by go_num, HH9.out.drop_row.drew⟩
          case measure => omega
        · obtain rfl : p = j := by omega
          have hf7 := frames_le 300 (ls.take p) (fun r hr => HSM.out r (List.mem_of_mem_take hr))
          rw [HLJ.out] at hf7
          have hf8 := Nat.mul_le_mul_right (12 + 300) (show p ≤ 20 by omega)
          have HH9 := Lib.hid H
          have HF7 := Lib.hid (show (frames (ls.take p)).length ≤ 6240 by omega)
          clear H hf7 hf8
          go_wp2_with fail
          refine ((HH9.out.byte 122 _ _).add (List.mem_cons_self ..) (by simp) (by have := HF7.out; simp [total]; omega)).mono ?_
          rintro e w9 ⟨rfl, H⟩
          have HH10 := Lib.hid H
          have e1 : ((ls.take p ++ [([122] : Bs)]).length : Int) = (p : Int) + 1 := by rw [List.length_append, HLJ.out]; simp
          have HE := Lib.hid e1
          clear H e1
          go_wp2_with fail
          refine HH10.out.next.mono ?_
          rintro e w10 ⟨rfl, H⟩
          rw [HE.out]
          have HB := Lib.hid H.below
          clear H
          have e5 : ((1 : Int) + ((p : Int) + 1) == (p : Int) + 2) = true := by simp; omega
          go_wp2_with fail
          go_ret
          exact ⟨rfl, HB.out⟩
end Go.Proofs.Ytbfblekabnkghaa
