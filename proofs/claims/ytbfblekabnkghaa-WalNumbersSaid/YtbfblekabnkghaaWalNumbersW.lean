/-
  WalNumbers: records have numbers that rise by one, from the first on.
-/
import Derived.Test.YtbfblekabnkghaaWalU
namespace Go.Proofs.Ytbfblekabnkghaa
open Go.RowKit Go.Av

set_option maxRecDepth 100000 in
set_option maxHeartbeats 2000000 in
theorem walNumbers_walk (a : Option Addr) (len cap : Nat) (rows : List (Value × Bs)) (n : Int) (w : World) (h : IsRowsB w a len cap rows) :
    Calls Try.prog 8 #[.slice a len cap, .int .i64 n] w fun e w' => e = .returned (.bool true) ∧ Below w.heap.size w w' := by
  obtain ⟨hl, -, hc, -, -, hread, -⟩ := id h
  subst hl
  have HI := Lib.hid h
  have HR := Lib.hid hread
  clear h hread
  by_cases hok : rows.length ≤ 15
  case neg =>
    have hok' : 15 < rows.length := by omega
    clear hok
    go_enter Try.func8, Try.ntmps8
    go_wp2_with fail
    refine (awake8_any _).mono ?_
    rintro e w1 ⟨rfl, hu1⟩
    go_wp2_with fail
    go_ret
    exact ⟨rfl, hu1.below⟩
  by_cases hs0 : n < 1
  · go_enter Try.func8, Try.ntmps8
    go_wp2_with fail
    refine (awake8_any _).mono ?_
    rintro e w1 ⟨rfl, hu1⟩
    go_wp2_with fail
    go_ret
    exact ⟨rfl, hu1.below⟩
  by_cases hs1 : 1099511627776 < n
  · go_enter Try.func8, Try.ntmps8
    go_wp2_with fail
    refine (awake8_any _).mono ?_
    rintro e w1 ⟨rfl, hu1⟩
    go_wp2_with fail
    go_ret
    exact ⟨rfl, hu1.below⟩
  have hn1 : 1 ≤ n := by omega
  have hn2 : n ≤ 1099511627776 := by omega
  clear hs0 hs1
  go_enter Try.func8, Try.ntmps8
  go_wp2_with fail
  refine (awake8_any _).mono ?_
  rintro e w1 ⟨rfl, hu1⟩
  go_wp2_with fail
  refine (Dl.new (start_of hu1 HR.out) 20000 (by decide) (by decide)).mono ?_
  rintro e w2 ⟨d, rfl, H⟩
  go_wp2_with fail
  refine (Dl.open (n := 1) H (fun S hS => base_none hS) (by decide) (by decide) (scan_whole [] (by simp)) (by decide) rfl (by simp)).mono ?_
  clear H hu1
  rintro e w3 ⟨g, rfl, H⟩
  go_wp2_with fail
  refine (H.restart n hn1 hn2 (by decide)).mono ?_
  clear H
  rintro e w4 ⟨rfl, H⟩
  obtain ⟨ls, hls⟩ : ∃ ls, ls = rows.map (·.2) := ⟨_, rfl⟩
  have hll : ls.length = rows.length := by rw [hls]; simp
  have HLS := Lib.hid hls
  have HST := Lib.hid (show ∃ x s, Wl w w4 g d 20000 1 n x (ls.take 0) s [baseF n] [] rows from ⟨_, _, H⟩)
  have HLL := Lib.hid hll
  clear H hls hll
  go_wp2_with fail
  go_loopg [9] rows.length (fun kk v wr => ∃ p : Nat, p ≤ rows.length ∧ kk = rows.length - p ∧ v = .int .i64 (p : Int) ∧ (∀ r ∈ ls.take p, r.length ≤ 300) ∧ ∃ x s, Wl w wr g d 20000 1 n x (ls.take p) s [baseF n] [] rows)
  case atStart => exact ⟨0, Nat.zero_le _, rfl, rfl, by simp, HST.out⟩
  case round =>
    obtain ⟨p, hp, hkk, hv, hsm, x, s, H⟩ := hrel
    subst hv
    clear HST
    by_cases hlt : p < rows.length
    · obtain ⟨y, ar, cr, rfl, hcl, hin⟩ := row_at HI.out p hlt
      have HC := Lib.hid hcl
      have hcl := H.cell hcl
      have hlp : (ls.take p).length = p := by rw [List.length_take, HLL.out]; omega
      have htk := take_push ls p (by rw [HLL.out]; exact hlt)
      rw [show ls[p]'(by rw [HLL.out]; exact hlt) = rows[p].2 by simp [HLS.out]] at htk
      obtain ⟨r, hr⟩ : ∃ r, rows[p].2 = r := ⟨_, rfl⟩
      rw [hr] at hcl hin htk HC
      have hff := frames_small _ hsm (by rw [List.length_take]; omega)
      have HH := Lib.hid H
      have HSM := Lib.hid hsm
      have HTK := Lib.hid htk
      have HIN := Lib.hid hin
      have HLP := Lib.hid hlp
      clear H hsm htk hin hr hlp
      by_cases hbig : 200 < r.length
      · go_wp2_with fail
        go_ret
        exact ⟨rfl, HH.out.below⟩
      go_wp2_with fail
      refine HH.out.next.mono ?_
      rintro e w5 ⟨rfl, H⟩
      rw [HLP.out]
      have hcl := H.cell HC.out
      have HH5 := Lib.hid H
      clear H
      go_wp2_with fail
      refine (HH5.out.add HIN.out (by omega) (by simp [total_base]; omega)).mono ?_
      rintro e w6 ⟨rfl, H⟩
      rw [← HTK.out] at H
      have HH6 := Lib.hid H
      clear H hcl
      go_wp2_with fail
      go_roundg (rows.length - (p + 1))
      case rel => exact ⟨p + 1, by omega, rfl, by go_num, by rw [HTK.out]; exact push_small HSM.out (by omega), true, _, HH6.out⟩
      case measure => omega
    · obtain rfl : p = rows.length := by omega
      rw [← HLL.out, List.take_length] at H
      have HH := Lib.hid H
      clear H hsm
      have e1 : IntKind.i64.wrap (n - 1) = n - 1 := IntWalk.i64_in _ (by omega)
      go_wp2_with fail
      refine (HH.out.atNo (.inl (by omega))).mono ?_
      rintro e w5 ⟨v5, rfl, H⟩
      have HH5 := Lib.hid H
      clear H
      go_wp2_with fail
      refine HH5.out.next.mono ?_
      rintro e w6 ⟨rfl, H⟩
      rw [HLL.out]
      have HH6 := Lib.hid H
      clear H
      go_wp2_with fail
      refine (HH6.out.atNo (.inr (by rw [HLL.out]; exact Int.le_refl _))).mono ?_
      rintro e w7 ⟨v7, rfl, H⟩
      have H0 := Lib.hid H
      clear H HH5 HH6 HH e1
      go_wp2_with fail
      go_loopg [14] rows.length (fun kk v wr => ∃ p : Nat, p ≤ rows.length ∧ kk = rows.length - p ∧ v = .int .i64 (p : Int) ∧ Wl w wr g d 20000 1 n x ls s [baseF n] [] rows)
      case atStart => exact ⟨0, Nat.zero_le _, rfl, rfl, H0.out⟩
      case round =>
        obtain ⟨p, hp, hkk, hv, H⟩ := hrel
        subst hv
        clear H0
        by_cases hlt : p < rows.length
        · obtain ⟨y, ar, cr, rfl, hcl, hin⟩ := row_at HI.out p hlt
          have hat := H.at_ (k := n + (p : Int)) p rfl (by rw [HLL.out]; exact hlt)
          rw [show ls[p]'(by rw [HLL.out]; exact hlt) = rows[p].2 by simp [HLS.out]] at hat
          obtain ⟨r, hr⟩ : ∃ r, rows[p].2 = r := ⟨_, rfl⟩
          rw [hr] at hcl hin hat
          have HAT := Lib.hid hat
          have HIN := Lib.hid hin
          have HCL := Lib.hid hcl
          clear H hat hin hcl hr
          go_wp2_with fail
          refine HAT.out.mono ?_
          rintro e w12 ⟨v9, rfl, H⟩
          have q1 := fun (W : World) (hW : W.heap = w12.heap) => H.str (v := v9) (b := r) (by simp) W hW
          have q2 := fun (W : World) (hW : W.heap = w12.heap) => H.str (b := r) (List.mem_cons_of_mem _ HIN.out) W hW
          have q3 := fun (W : World) (hW : W.heap = w12.heap) => (World.cell?_of_block (a := y.add p) (by rw [hW])).trans (H.cell HCL.out)
          have HH9 := Lib.hid H
          clear H
          go_wp2_with fail
          refine wp_region_M (fun W => W.heap = w12.heap) 12 (by kernel_rfl) ?_
          refine wpAnyM_take (by kernel_rfl) (by intro c a d v w h; cases d <;> exact h) [(0, false), (1, false), (2, false), (3, false), (4, true), (5, false), (6, false), (7, false), (8, true), (9, true), (10, false), (11, false)] (fuel := 0) (by kernel_rfl) ?_
          apply Exists.intro; refine ⟨?_, rfl, ?_⟩
          · iterate 12 ((first | (apply yieldN; (· (simp only [List.getElem?_toArray, List.getElem?_cons_succ, List.getElem?_cons_zero]; try rfl)); (· rfl)) | ((first | apply yieldP | apply yieldL); (· (simp only [List.getElem?_toArray, List.getElem?_cons_succ, List.getElem?_cons_zero]; try rfl)); (· rfl); (· (intros; go_simp; try with_reducible rfl)))); (· (simp only [Act.put, List.setIfInBounds_toArray, List.set_cons_zero, List.set_cons_succ]; try rfl)))
            exact rfl
          refine wpAnyM_done (by kernel_rfl) ?_ _
          go_wp2_with fail
          go_roundg (rows.length - (p + 1))
          case rel => exact ⟨p + 1, by omega, rfl, by go_num, HH9.out.drop_row.drew⟩
          case measure => omega
        · obtain rfl : p = rows.length := by omega
          have HH9 := Lib.hid H
          clear H
          go_wp2_with fail
          refine HH9.out.first.mono ?_
          rintro e w12 ⟨rfl, H⟩
          have HH10 := Lib.hid H
          clear H
          go_wp2_with fail
          refine HH10.out.next.mono ?_
          rintro e w13 ⟨rfl, H⟩
          rw [HLL.out]
          have HB := Lib.hid H.below
          clear H
          go_wp2_with fail
          go_ret
          exact ⟨rfl, HB.out⟩
end Go.Proofs.Ytbfblekabnkghaa
