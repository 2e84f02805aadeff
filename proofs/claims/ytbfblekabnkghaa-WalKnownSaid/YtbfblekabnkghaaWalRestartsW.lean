/-
  WalRestarts: begun anew at a number the log has nothing, and goes on from there: also behind a crash.
-/
import Derived.Test.YtbfblekabnkghaaWalU
namespace Go.Proofs.Ytbfblekabnkghaa
open Go.RowKit Go.Av

theorem Wl.crashR {w0 w : World} {g d : Nat} {room lv n m : Int} {ls : List Bs} {s : Nat} {R : List Thing} {rows : List (Value × Bs)} (h : Wl w0 w g d room lv n true ls s [baseF m] R rows) (hs : s = (frames ls).length) (keep : Int) :
    Calls Try.prog 15 #[.pointer (some ⟨d, 0, none⟩), .int .i64 keep] w (fun e w' => e = .returned (.tuple #[]) ∧ Dl w0 w' d room lv true true (frames ls) (frames ls).length [baseF m] (ThLog g d (lg lv n ls) :: R) rows) := by
  refine (h.crash keep).mono fun e w' ⟨he, h'⟩ => ⟨he, ?_⟩
  subst hs
  simpa [baseF_crash] using h'

set_option maxRecDepth 100000 in
set_option maxHeartbeats 2000000 in
theorem walRestarts_walk (a : Option Addr) (len cap : Nat) (rows : List (Value × Bs)) (n : Int) (a1 : Option Addr) (len1 cap1 : Nat) (z1 : List Int) (keep : Int) (w : World) (h : IsRowsB w a len cap rows) (h1 : IsBytes w a1 len1 cap1 z1) :
    Calls Try.prog 7 #[.slice a len cap, .int .i64 n, .slice a1 len1 cap1, .int .i64 keep] w fun e w' => e = .returned (.bool true) ∧ Below w.heap.size w w' := by
  obtain ⟨hl, -, hc, -, -, hread, -⟩ := id h
  obtain ⟨lr, Er, hlr, hrr⟩ := h1.read
  subst hl; subst hlr
  have HI := Lib.hid h
  have HR := Lib.hid (show ∀ r ∈ (Value.slice a1 lr.length cap1, lr) :: rows, ∃ E, ReadRow w 1 r.1 (r.2.map bv) E from fun r hr => by
    rcases List.mem_cons.1 hr with rfl | hr
    · exact ⟨Er, hrr⟩
    · exact hread r hr)
  clear h h1 hread hrr
  by_cases hok : rows.length ≤ 10
  case neg =>
    have hok' : 10 < rows.length := by omega
    clear hok
    go_enter Try.func7, Try.ntmps7
    go_wp2_with fail
    refine (awake8_any _).mono ?_
    rintro e w1 ⟨rfl, hu1⟩
    go_wp2_with fail
    go_ret
    exact ⟨rfl, hu1.below⟩
  by_cases hs0 : n < 1
  · go_enter Try.func7, Try.ntmps7
    go_wp2_with fail
    refine (awake8_any _).mono ?_
    rintro e w1 ⟨rfl, hu1⟩
    go_wp2_with fail
    go_ret
    exact ⟨rfl, hu1.below⟩
  by_cases hs1 : 1099511627776 < n
  · go_enter Try.func7, Try.ntmps7
    go_wp2_with fail
    refine (awake8_any _).mono ?_
    rintro e w1 ⟨rfl, hu1⟩
    go_wp2_with fail
    go_ret
    exact ⟨rfl, hu1.below⟩
  have hn1 : 1 ≤ n := by omega
  have hn2 : n ≤ 1099511627776 := by omega
  clear hs0 hs1
  by_cases hr2 : lr.length ≤ 300
  case neg =>
    have hok' : 300 < lr.length := by omega
    clear hr2
    go_enter Try.func7, Try.ntmps7
    go_wp2_with fail
    refine (awake8_any _).mono ?_
    rintro e w1 ⟨rfl, hu1⟩
    go_wp2_with fail
    go_ret
    exact ⟨rfl, hu1.below⟩
  go_enter Try.func7, Try.ntmps7
  go_wp2_with fail
  refine (awake8_any _).mono ?_
  rintro e w1 ⟨rfl, hu1⟩
  go_wp2_with fail
  refine (Dl.new (start_of hu1 HR.out) 20000 (by decide) (by decide)).mono ?_
  rintro e w2 ⟨d, rfl, H⟩
  go_wp2_with fail
  refine (Dl.open (n := 1) H (fun S hS => base_none hS) (by decide) (by decide) (scan_whole [] (by simp)) (by decide) rfl (by simp)).mono ?_
  clear H hu1
  rintro e w3 ⟨g, rfl, H⟩
  obtain ⟨ls, hls⟩ : ∃ ls, ls = rows.map (·.2) := ⟨_, rfl⟩
  have hll : ls.length = rows.length := by rw [hls]; simp
  have HLS := Lib.hid hls
  have HST := Lib.hid (show ∃ x s, Wl w w3 g d 20000 1 1 x (ls.take 0) s [] [] ((Value.slice a1 lr.length cap1, lr) :: rows) from ⟨_, _, H⟩)
  have HLL := Lib.hid hll
  clear H hls hll
  go_wp2_with fail
  go_loopg [13] rows.length (fun kk v wr => ∃ p : Nat, p ≤ rows.length ∧ kk = rows.length - p ∧ v = .int .i64 (p : Int) ∧ (∀ r ∈ ls.take p, r.length ≤ 300) ∧ ∃ x s, Wl w wr g d 20000 1 1 x (ls.take p) s [] [] ((Value.slice a1 lr.length cap1, lr) :: rows))
  case atStart => exact ⟨0, Nat.zero_le _, rfl, rfl, by simp, HST.out⟩
  case round =>
    obtain ⟨p, hp, hkk, hv, hsm, x, s, H⟩ := hrel
    subst hv
    clear HST
    by_cases hlt : p < rows.length
    · obtain ⟨y, ar, cr, rfl, hcl, hin⟩ := row_at HI.out p hlt
      have hcl := H.cell hcl
      have htk := take_push ls p (by rw [HLL.out]; exact hlt)
      rw [show ls[p]'(by rw [HLL.out]; exact hlt) = rows[p].2 by simp [HLS.out]] at htk
      obtain ⟨r, hr⟩ : ∃ r, rows[p].2 = r := ⟨_, rfl⟩
      rw [hr] at hcl hin htk
      have hff := frames_small _ hsm (by rw [List.length_take]; omega)
      have HH := Lib.hid H
      have HSM := Lib.hid hsm
      have HTK := Lib.hid htk
      have HIN := Lib.hid hin
      clear H hsm htk hin hr
      by_cases hbig : 300 < r.length
      · go_wp2_with fail
        go_ret
        exact ⟨rfl, HH.out.below⟩
      go_wp2_with fail
      refine (HH.out.add (List.mem_cons_of_mem _ HIN.out) (by omega) (by simp [total]; omega)).mono ?_
      rintro e w4 ⟨rfl, H⟩
      rw [← HTK.out] at H
      have HH4 := Lib.hid H
      clear H hcl
      go_wp2_with fail
      go_roundg (rows.length - (p + 1))
      case rel => exact ⟨p + 1, by omega, rfl, by go_num, by rw [HTK.out]; exact push_small HSM.out (by omega), true, _, HH4.out⟩
      case measure => omega
    · obtain rfl : p = rows.length := by omega
      have HH := Lib.hid H
      clear H hsm
      go_wp2_with fail
      refine (HH.out.restart n hn1 hn2 (by decide)).mono ?_
      rintro e w4 ⟨rfl, H⟩
      have HH4 := Lib.hid H
      clear H
      go_wp2_with fail
      refine HH4.out.first.mono ?_
      rintro e w5 ⟨rfl, H⟩
      have HH5 := Lib.hid H
      clear H
      go_wp2_with fail
      refine HH5.out.next.mono ?_
      rintro e w6 ⟨rfl, H⟩
      have e0 : n + ((([] : List Bs).length : Nat) : Int) = n := by simp
      rw [e0]
      have HH6 := Lib.hid H
      clear H e0
      go_wp2_with fail
      refine (HH6.out.add (List.mem_cons_self ..) (by omega) (by simp [total_base, frames]; omega)).mono ?_
      rintro e w7 ⟨rfl, H⟩
      have HH7 := Lib.hid H
      clear H
      go_wp2_with fail
      refine HH7.out.sync.mono ?_
      rintro e w8 ⟨rfl, H⟩
      have HH8 := Lib.hid H
      clear H
      go_wp2_with fail
      refine (HH8.out.crashR rfl keep).mono ?_
      rintro e w9 ⟨rfl, H⟩
      go_wp2_with fail
      refine (H.on (lv' := 2) (by kernel_rfl)).mono ?_
      clear H
      rintro e w10 ⟨rfl, H⟩
      go_wp2_with fail
      refine (Dl.open (n := n) H (fun S hS => base_some hS hn1 hn2) hn1 hn2 (scan_whole _ (push_small (by simp) (by omega))) (by decide) (List.take_length ..) (Nat.le_refl _)).mono ?_
      clear H
      rintro e w11 ⟨g2, rfl, H⟩
      have HH11 := Lib.hid H
      clear H
      go_wp2_with fail
      refine HH11.out.first.mono ?_
      rintro e w12 ⟨rfl, H⟩
      have HH12 := Lib.hid H
      clear H
      go_wp2_with fail
      refine HH12.out.next.mono ?_
      rintro e w13 ⟨rfl, H⟩
      have e0 : n + ((([] : List Bs) ++ [lr]).length : Int) = n + 1 := by simp
      rw [e0]
      have hat := H.at_ (k := n) 0 (by simp) (by simp)
      rw [show (([] : List Bs) ++ [lr])[0]'(by simp) = lr from rfl] at hat
      have HAT := Lib.hid hat
      clear H e0 hat
      go_wp2_with fail
      refine HAT.out.mono ?_
      rintro e w14 ⟨v9, rfl, H⟩
      have q1 := fun (W : World) (hW : W.heap = w14.heap) => H.str (v := v9) (b := lr) (by simp) W hW
      have q2 := fun (W : World) (hW : W.heap = w14.heap) => H.str (v := Value.slice a1 lr.length cap1) (b := lr) (by simp) W hW
      have HB := Lib.hid H.below
      clear H
      go_wp2_with fail
      go_ret
      exact ⟨rfl, HB.out⟩
end Go.Proofs.Ytbfblekabnkghaa
