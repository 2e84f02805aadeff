/-
  WalTails: records that are cut off are gone, those ahead stay.
-/
import Derived.Test.YtbfblekabnkghaaWalU
namespace Go.Proofs.Ytbfblekabnkghaa
open Go.RowKit Go.Av

set_option maxRecDepth 100000 in
set_option maxHeartbeats 2000000 in
theorem walTails_walk (a : Option Addr) (len cap : Nat) (rows : List (Value × Bs)) (at_ : Int) (a1 : Option Addr) (len1 cap1 : Nat) (z1 : List Int) (w : World) (h : IsRowsB w a len cap rows) (h1 : IsBytes w a1 len1 cap1 z1) :
    Calls Try.prog 6 #[.slice a len cap, .int .i64 at_, .slice a1 len1 cap1] w fun e w' => e = .returned (.bool true) ∧ Below w.heap.size w w' := by
  obtain ⟨hl, -, hc, -, -, hread, -⟩ := id h
  obtain ⟨lr, Er, hlr, hrr⟩ := h1.read
  subst hl; subst hlr
  have HI := Lib.hid h
  have HR := Lib.hid (show ∀ r ∈ (Value.slice a1 lr.length cap1, lr) :: rows, ∃ E, ReadRow w 1 r.1 (r.2.map bv) E from fun r hr => by
    rcases List.mem_cons.1 hr with rfl | hr
    · exact ⟨Er, hrr⟩
    · exact hread r hr)
  clear h h1 hread hrr
  by_cases hok : rows.length ≤ 12
  case neg =>
    have hok' : 12 < rows.length := by omega
    clear hok
    go_enter Try.func6, Try.ntmps6
    go_wp2_with fail
    refine (awake8_any _).mono ?_
    rintro e w1 ⟨rfl, hu1⟩
    go_wp2_with fail
    go_ret
    exact ⟨rfl, hu1.below⟩
  by_cases hs0 : at_ < 0
  · go_enter Try.func6, Try.ntmps6
    go_wp2_with fail
    refine (awake8_any _).mono ?_
    rintro e w1 ⟨rfl, hu1⟩
    go_wp2_with fail
    go_ret
    exact ⟨rfl, hu1.below⟩
  by_cases hs1 : (rows.length : Int) < at_
  · go_enter Try.func6, Try.ntmps6
    go_wp2_with fail
    refine (awake8_any _).mono ?_
    rintro e w1 ⟨rfl, hu1⟩
    go_wp2_with fail
    go_ret
    exact ⟨rfl, hu1.below⟩
  obtain ⟨k, rfl⟩ : ∃ k : Nat, at_ = k := ⟨at_.toNat, by omega⟩
  have hk : k ≤ rows.length := by omega
  have hs1' : ¬ (rows.length < k) := by omega
  clear hs0 hs1
  by_cases hr2 : lr.length ≤ 200
  case neg =>
    have hok' : 200 < lr.length := by omega
    clear hr2
    go_enter Try.func6, Try.ntmps6
    go_wp2_with fail
    refine (awake8_any _).mono ?_
    rintro e w1 ⟨rfl, hu1⟩
    go_wp2_with fail
    go_ret
    exact ⟨rfl, hu1.below⟩
  go_enter Try.func6, Try.ntmps6
  go_wp2_with fail
  refine (awake8_any _).mono ?_
  rintro e w1 ⟨rfl, hu1⟩
  go_wp2_with fail
  refine (Dl.new (start_of hu1 HR.out) 20000 (by decide) (by decide)).mono ?_
  rintro e w2 ⟨d, rfl, H⟩
  go_wp2_with fail
  refine (Dl.open (n := 1) H (fun S hS => base_none hS) (by decide) (by decide) (scan_whole [] (by simp)) (by decide) rfl (by simp)).mono ?_
  clear H hu1
  rintro e w3 ⟨g, rfl, H⟩
  obtain ⟨ls, hls⟩ : ∃ ls, ls = rows.map (·.2) := ⟨_, rfl⟩
  have hll : ls.length = rows.length := by rw [hls]; simp
  have HLS := Lib.hid hls
  have HST := Lib.hid (show ∃ x s, Wl w w3 g d 20000 1 1 x (ls.take 0) s [] [] ((Value.slice a1 lr.length cap1, lr) :: rows) from ⟨_, _, H⟩)
  have HLL := Lib.hid hll
  clear H hls hll
  go_wp2_with fail
  go_loopg [11] rows.length (fun kk v wr => ∃ p : Nat, p ≤ rows.length ∧ kk = rows.length - p ∧ v = .int .i64 (p : Int) ∧ (∀ r ∈ ls.take p, r.length ≤ 300) ∧ ∃ x s, Wl w wr g d 20000 1 1 x (ls.take p) s [] [] ((Value.slice a1 lr.length cap1, lr) :: rows))
  case atStart => exact ⟨0, Nat.zero_le _, rfl, rfl, by simp, HST.out⟩
  case round =>
    obtain ⟨p, hp, hkk, hv, hsm, x, s, H⟩ := hrel
    subst hv
    clear HST
    by_cases hlt : p < rows.length
    · obtain ⟨y, ar, cr, rfl, hcl, hin⟩ := row_at HI.out p hlt
      have hcl := H.cell hcl
      have htk := take_push ls p (by rw [HLL.out]; exact hlt)
      rw [show ls[p]'(by rw [HLL.out]; exact hlt) = rows[p].2 by simp [HLS.out]] at htk
      obtain ⟨r, hr⟩ : ∃ r, rows[p].2 = r := ⟨_, rfl⟩
      rw [hr] at hcl hin htk
      have hff := frames_small _ hsm (by rw [List.length_take]; omega)
      have HH := Lib.hid H
      have HSM := Lib.hid hsm
      have HTK := Lib.hid htk
      have HIN := Lib.hid hin
      clear H hsm htk hin hr
      by_cases hbig : 200 < r.length
      · go_wp2_with fail
        go_ret
        exact ⟨rfl, HH.out.below⟩
      go_wp2_with fail
      refine (HH.out.add (List.mem_cons_of_mem _ HIN.out) (by omega) (by simp [total]; omega)).mono ?_
      rintro e w4 ⟨rfl, H⟩
      rw [← HTK.out] at H
      have HH4 := Lib.hid H
      clear H hcl
      go_wp2_with fail
      go_roundg (rows.length - (p + 1))
      case rel => exact ⟨p + 1, by omega, rfl, by go_num, by rw [HTK.out]; exact push_small HSM.out (by omega), true, _, HH4.out⟩
      case measure => omega
    · obtain rfl : p = rows.length := by omega
      rw [← HLL.out, List.take_length] at H hsm
      have hsm2 : ∀ r ∈ ls.take k, r.length ≤ 300 := fun r hr => hsm r (List.mem_of_mem_take hr)
      have hlk : (ls.take k).length = k := by rw [List.length_take, HLL.out]; omega
      have hff := frames_small _ hsm2 (by omega)
      have hct := H.cutTo (k := (k : Int) + 1) k (by omega) (by rw [HLL.out]; exact hk)
      have HCT := Lib.hid hct
      have HLK := Lib.hid hlk
      have HSM := Lib.hid hsm2
      clear H hsm hct hlk hsm2
      go_wp2_with fail
      refine HCT.out.mono ?_
      rintro e w4 ⟨s4, rfl, H⟩
      go_wp2_with fail
      refine H.next.mono ?_
      clear H
      rintro e w5 ⟨rfl, H⟩
      rw [HLK.out]
      have HH5 := Lib.hid H
      clear H
      have b1 : ((1 : Int) + (k : Int) != (k : Int) + 1) = false := by simp; omega
      go_wp2_with fail
      refine (HH5.out.add (List.mem_cons_self ..) (by omega) (by simp [total]; omega)).mono ?_
      rintro e w6 ⟨rfl, H⟩
      have HH6 := Lib.hid H
      clear H b1
      go_wp2_with fail
      refine HH6.out.sync.mono ?_
      rintro e w7 ⟨rfl, H⟩
      have HH7 := Lib.hid H
      clear H
      go_wp2_with fail
      refine (HH7.out.crashS rfl 0).mono ?_
      rintro e w8 ⟨rfl, H⟩
      go_wp2_with fail
      refine (H.on (lv' := 2) (by kernel_rfl)).mono ?_
      clear H
      rintro e w9 ⟨rfl, H⟩
      go_wp2_with fail
      refine (Dl.open (n := 1) H (fun S hS => base_none hS) (by decide) (by decide) (scan_whole _ (push_small (M := 20000) (fun q hq => by have := HSM.out q hq; omega) (by omega))) (by decide) (List.take_length ..) (Nat.le_refl _)).mono ?_
      clear H
      rintro e w10 ⟨g2, rfl, H⟩
      have HH10 := Lib.hid H
      have hl1 : (ls.take k ++ [lr]).length = k + 1 := by rw [List.length_append, HLK.out]; simp
      have HL1 := Lib.hid hl1
      clear H hl1
      go_wp2_with fail
      refine HH10.out.next.mono ?_
      rintro e w11 ⟨rfl, H⟩
      rw [HL1.out]
      have HH11 := Lib.hid (show ∃ R' s', Wl w w11 g2 d 20000 2 1 true (ls.take k ++ [lr]) s' [] R' ((Value.slice a1 lr.length cap1, lr) :: rows) from ⟨_, _, H⟩)
      clear H
      have b1 : ((1 : Int) + ((k + 1 : Nat) : Int) != (k : Int) + 2) = false := by simp; omega
      have b2 : ((1 : Int) + ((k : Int) + 1) != (k : Int) + 2) = false := by simp; omega
      go_wp2_with fail
      obtain ⟨R2, s2, H8⟩ := HH11.out
      have H0 := Lib.hid H8
      clear HH11 H8 HH10 HH7 HH6 HH5 HCT b1 b2
      go_loopg [14] k (fun kk v wr => ∃ p : Nat, p ≤ k ∧ kk = k - p ∧ v = .int .i64 (p : Int) ∧ Wl w wr g2 d 20000 2 1 true (ls.take k ++ [lr]) s2 [] R2 ((Value.slice a1 lr.length cap1, lr) :: rows))
      case atStart => exact ⟨0, Nat.zero_le _, rfl, rfl, H0.out⟩
      case round =>
        obtain ⟨p, hp, hkk, hv, H⟩ := hrel
        subst hv
        clear H0
        by_cases hlt : p < k
        · obtain ⟨y, ar, cr, rfl, hcl, hin⟩ := row_at HI.out p (by omega)
          have hlp : (ls.take k ++ [lr])[p]'(by rw [HL1.out]; omega) = (rows[p]'(by omega)).2 := by
            rw [List.getElem_append_left (by rw [HLK.out]; exact hlt)]
            simp [HLS.out]
          have hat := H.at_ (k := (p : Int) + 1) p (by omega) (by rw [HL1.out]; omega)
          rw [hlp] at hat
          obtain ⟨r, hr⟩ : ∃ r, (rows[p]'(by omega)).2 = r := ⟨_, rfl⟩
          rw [hr] at hcl hin hat
          have HAT := Lib.hid hat
          have HIN := Lib.hid hin
          have HCL := Lib.hid hcl
          clear H hat hin hcl hr hlp
          go_wp2_with fail
          refine HAT.out.mono ?_
          rintro e w12 ⟨v9, rfl, H⟩
          have q1 := fun (W : World) (hW : W.heap = w12.heap) => H.str (v := v9) (b := r) (by simp) W hW
          have q2 := fun (W : World) (hW : W.heap = w12.heap) => H.str (b := r) (List.mem_cons_of_mem _ (List.mem_cons_of_mem _ HIN.out)) W hW
          have q3 := fun (W : World) (hW : W.heap = w12.heap) => (World.cell?_of_block (a := y.add p) (by rw [hW])).trans (H.cell HCL.out)
          have HH9 := Lib.hid H
          have hpr : p < rows.length := by omega
          clear H
          go_wp2_with fail
          refine wp_region_M (fun W => W.heap = w12.heap) 12 (by kernel_rfl) ?_
          refine wpAnyM_take (by kernel_rfl) (by intro c a d v w h; cases d <;> exact h) [(0, false), (1, false), (2, false), (3, false), (4, true), (5, false), (6, false), (7, false), (8, true), (9, true), (10, false), (11, false)] (fuel := 0) (by kernel_rfl) ?_
          apply Exists.intro; refine ⟨?_, rfl, ?_⟩
          · iterate 12 ((first | (apply yieldN; (· (simp only [List.getElem?_toArray, List.getElem?_cons_succ, List.getElem?_cons_zero]; try rfl)); (· rfl)) | ((first | apply yieldP | apply yieldL); (· (simp only [List.getElem?_toArray, List.getElem?_cons_succ, List.getElem?_cons_zero]; try rfl)); (· rfl); (· (intros; go_simp; try with_reducible rfl)))); (· (simp only [Act.put, List.setIfInBounds_toArray, List.set_cons_zero, List.set_cons_succ]; try rfl)))
            exact rfl
          refine wpAnyM_done (by kernel_rfl) ?_ _
          go_wp2_with fail
          go_roundg (k - (p + 1))
          case rel => exact ⟨p + 1, by omega, rfl, by go_num, HH9.out.drop_row.drew⟩
          case measure => omega
        · obtain rfl : p = k := by omega
          have hat := H.at_ (k := (p : Int) + 1) p (by omega) (by rw [HL1.out]; omega)
          rw [show (ls.take p ++ [lr])[p]'(by rw [HL1.out]; omega) = lr by
            rw [List.getElem_append_right (by rw [HLK.out]; exact Nat.le_refl _)]
            simp [HLK.out]] at hat
          have HAT := Lib.hid hat
          clear H hat
          go_wp2_with fail
          refine HAT.out.mono ?_
          rintro e w12 ⟨v9, rfl, H⟩
          have q1 := fun (W : World) (hW : W.heap = w12.heap) => H.str (v := v9) (b := lr) (by simp) W hW
          have q2 := fun (W : World) (hW : W.heap = w12.heap) => H.str (v := Value.slice a1 lr.length cap1) (b := lr) (by simp) W hW
          have HB := Lib.hid H.below
          clear H
          go_wp2_with fail
          go_ret
          exact ⟨rfl, HB.out⟩
end Go.Proofs.Ytbfblekabnkghaa
