/-
  WalBroken: a log one of whose bytes is changed is not opened.
-/
import Derived.Test.YtbfblekabnkghaaWalU
import Derived.Test.YtbfblekabnkghaaFrameB
import Derived.Test.YtbfblekabnkghaaSepC
namespace Go.Proofs.Ytbfblekabnkghaa
open Go.RowKit Go.Av

section
variable {w0 w : World} {g d : Nat} {room lv n : Int} {x off : Bool} {ls : List Bs} {b : Bs} {s : Nat} {O : List FileS} {R : List Thing} {rows : List (Value × Bs)} {L : LogS}
theorem Dk.rd {S : DiskS} (h : Dk room lv false x b s O S) : DiskS.read S nmLog = b := by
  unfold DiskS.read
  rw [h.ask]
  cases x
  · obtain ⟨-, -, -, A, B, -, -, -, hx⟩ := h
    simp [(hx rfl).1]
  · simp [h.get]
theorem Wl.readLog (h : Wl w0 w g d room lv n x ls s O R rows) :
    Calls Try.prog 20 #[.pointer (some ⟨d, 0, none⟩), .string nmLog] w (fun e w' => ∃ v k, e = .returned (.tuple #[v, .int .i64 k]) ∧ Wl w0 w' g d room lv n x ls s O R ((v, frames ls) :: rows)) := by
  obtain ⟨S, hD, h1, h2, h3, hS⟩ := h
  exact (SD.read hS.swap nmLog (by decide) rfl hD.rd).mono fun e w' ⟨v, he, hS'⟩ => ⟨v, _, he, S, hD, h1, h2, h3, hS'.swap⟩
theorem Dl.dropLog (h : Dl w0 w d room lv false true b s O R rows) :
    Calls Try.prog 21 #[.pointer (some ⟨d, 0, none⟩), .string nmLog] w (fun e w' => e = .returned (.int .i64 0) ∧ Dl w0 w' d room lv false false [] 0 O R rows) := by
  obtain ⟨S, hD, hS⟩ := h
  have e1 : S.drop nmLog = (0, { S with fs := delN nmLog S.fs }) := by
    unfold DiskS.drop
    rw [hD.ask]
    rfl
  have hD' : Dk room lv false false [] 0 O { S with fs := delN nmLog S.fs } := by
    refine ⟨hD.1, hD.2.1, hD.2.2.1, ?_⟩
    obtain ⟨-, -, -, A, B, hf, rfl, hn, hx⟩ := hD
    refine ⟨A, B, ?_, rfl, hn, by simp⟩
    show delN nmLog S.fs = _
    rw [hf]
    simp only [lfs, if_true, List.cons_append, List.nil_append, Bool.false_eq_true, if_false]
    exact delN_mid (n := nmLog) (f := ⟨nmLog, b, s⟩) (fun y hy => hn y (List.mem_append.2 (.inl hy))) rfl (fun y hy => hn y (List.mem_append.2 (.inr hy)))
  exact (SD.drop hS nmLog (by decide) e1).mono fun e w' ⟨he, hS'⟩ => ⟨he, _, hD', hS'⟩
theorem Dl.appendLog (h : Dl w0 w d room lv false x b s O R rows) {v : Value} {c : Bs} (hv : (v, c) ∈ rows) (hfit : ((b.length + total O + c.length : Nat) : Int) ≤ room) :
    Calls Try.prog 22 #[.pointer (some ⟨d, 0, none⟩), .string nmLog, v] w (fun e w' => e = .returned (.int .i64 0) ∧ Dl w0 w' d room lv false true (b ++ c) s O R rows) := by
  obtain ⟨S, hD, hS⟩ := h
  obtain ⟨S', e1, hD'⟩ := hD.append c hfit
  exact (SD.append hS nmLog (by decide) hv e1).mono fun e w' ⟨he, hS'⟩ => ⟨he, S', hD', hS'⟩
theorem Wl.fresh (h : Wl w0 w g d room lv n x ls s O R rows) {w' : World} {a : Option Addr} {m c' : Nat} {c : Bs} {D : List Nat} (hu : Upd w w' [] D) (ho : OwnRow w' 1 (.slice a m c') (c.map bv) D) {i : Nat} (hi : i < c.length) :
    ∃ q : Addr, a = some q ∧ m = c.length ∧ m ≤ c' ∧ c' ≤ 2 ^ 63 - 1 ∧ w'.cell? (q.add i) = some (bv c[i]) ∧ w'.frozen? (q.add i) = false ∧ q.spot = none ∧
      ∀ v, Wl w0 (w'.setCell (q.add i) (bv v)) g d room lv n x ls s O R ((.slice a m c', c.set i v) :: rows) := by
  obtain ⟨S, hD, h1, h2, h3, hS⟩ := h
  have h4 := hS.addRow ho hu
  obtain ⟨a1, n1, c1, hv, hl, hn, hc⟩ := h4.rowLen
  cases hv
  rw [List.length_map, Nat.mul_one] at hl
  subst hl
  obtain ⟨q, rfl, hsp, hcell⟩ := h4.rowCell (i := i) (x := bv c[i]) (by rw [List.getElem?_map, List.getElem?_eq_getElem hi]; rfl)
  refine ⟨q, rfl, rfl, hn, hc, hcell, (h4.rowSet hi (bv 0)).1, hsp, fun v => ?_⟩
  obtain ⟨-, -, -, h5⟩ := h4.rowSet hi (bv v)
  rw [show (c.map bv).set i (bv v) = (c.set i v).map bv by rw [List.map_set]] at h5
  exact ⟨S, hD, h1, h2, h3, h5.toRow⟩
theorem Wl.toDl (h : Wl w0 w g d room lv n x ls s O R rows) : Dl w0 w d room lv false x (frames ls) s O (ThLog g d (lg lv n ls) :: R) rows := by
  obtain ⟨S, hD, h1, h2, h3, hS⟩ := h
  exact ⟨S, hD, hS.swap⟩
theorem Dl.sep (h : Dl w0 w d room lv off x b s O R rows) : ∃ S, Sep w0 w (ThDisk d S :: R) rows := by
  obtain ⟨S, _, hS⟩ := h
  exact ⟨S, hS⟩
end

theorem xor_ne (x y : UInt8) (hy : y.toNat ≠ 0) : UInt8.ofNat (x.toNat ^^^ y.toNat) ≠ x := by
  intro e
  have h1 : (x.toNat ^^^ y.toNat) < 256 := Nat.xor_lt_two_pow (n := 8) x.toNat_lt y.toNat_lt
  have h2 := congrArg UInt8.toNat e
  rw [of_nat, Nat.mod_eq_of_lt h1] at h2
  have h3 : x.toNat ^^^ (x.toNat ^^^ y.toNat) = x.toNat ^^^ x.toNat := by rw [h2]
  rw [← Nat.xor_assoc, Nat.xor_self, Nat.zero_xor] at h3
  exact hy h3

set_option maxRecDepth 100000 in
set_option maxHeartbeats 2000000 in
theorem walBroken_walk (a : Option Addr) (len cap : Nat) (rows : List (Value × Bs)) (at_ : Int) (y : UInt8) (w : World) (h : IsRowsB w a len cap rows) :
    Calls Try.prog 5 #[.slice a len cap, .int .i64 at_, .int .u8 (y.toNat : Int)] w fun e w' => e = .returned (.bool true) ∧ Below w.heap.size w w' := by
  obtain ⟨i0, hi0, hz0, hz1, hz2⟩ := info_parts info5
  obtain ⟨hl, -, hc, -, -, hread, -⟩ := id h
  subst hl
  have HI := Lib.hid h
  have HR := Lib.hid hread
  clear h hread
  have hy256 := y.toNat_lt
  obtain ⟨yn, hyn⟩ : ∃ yn, y.toNat = yn := ⟨_, rfl⟩
  rw [hyn] at hy256 ⊢
  by_cases h1 : rows.length < 1
  · clear hyn
    go_enter Try.func5, Try.ntmps5
    go_wp2_with fail
    refine (awake8_any _).mono ?_
    rintro e w1 ⟨rfl, hu1⟩
    go_wp2_with fail
    go_ret
    exact ⟨rfl, hu1.below⟩
  by_cases h2 : 8 < rows.length
  · clear hyn
    go_enter Try.func5, Try.ntmps5
    go_wp2_with fail
    refine (awake8_any _).mono ?_
    rintro e w1 ⟨rfl, hu1⟩
    go_wp2_with fail
    go_ret
    exact ⟨rfl, hu1.below⟩
  by_cases h3 : yn = 0
  · have b3 : ((yn : Int) == 0) = true := by simp [h3]
    clear hyn h3
    go_enter Try.func5, Try.ntmps5
    go_wp2_with fail
    refine (awake8_any _).mono ?_
    rintro e w1 ⟨rfl, hu1⟩
    go_wp2_with fail
    go_ret
    exact ⟨rfl, hu1.below⟩
  have b3 : ((yn : Int) == 0) = false := by simp [h3]
  have HYN := Lib.hid (show y.toNat = yn ∧ yn ≠ 0 from ⟨hyn, h3⟩)
  clear hyn h3
  go_enter Try.func5, Try.ntmps5
  go_wp2_with fail
  refine (awake8_any _).mono ?_
  rintro e w1 ⟨rfl, hu1⟩
  go_wp2_with fail
  refine (Dl.new (start_of hu1 HR.out) 20000 (by decide) (by decide)).mono ?_
  rintro e w2 ⟨d, rfl, H⟩
  go_wp2_with fail
  refine (Dl.open (n := 1) H (fun S hS => base_none hS) (by decide) (by decide) (scan_whole [] (by simp)) (by decide) rfl (by simp)).mono ?_
  clear H hu1
  rintro e w3 ⟨g, rfl, H⟩
  obtain ⟨ls, hls⟩ : ∃ ls, ls = rows.map (·.2) := ⟨_, rfl⟩
  have hll : ls.length = rows.length := by rw [hls]; simp
  have HLS := Lib.hid hls
  have HST := Lib.hid (show ∃ x s, Wl w w3 g d 20000 1 1 x (ls.take 0) s [] [] rows from ⟨_, _, H⟩)
  have HLL := Lib.hid hll
  clear H hls hll
  go_wp2_with fail
  go_loopg [11] rows.length (fun kk v wr => ∃ p : Nat, p ≤ rows.length ∧ kk = rows.length - p ∧ v = .int .i64 (p : Int) ∧ (∀ r ∈ ls.take p, r.length ≤ 300) ∧ ∃ x s, Wl w wr g d 20000 1 1 x (ls.take p) s [] [] rows)
  case atStart => exact ⟨0, Nat.zero_le _, rfl, rfl, by simp, HST.out⟩
  case round =>
    obtain ⟨p, hp, hkk, hv, hsm, x, s, H⟩ := hrel
    subst hv
    clear HST
    by_cases hlt : p < rows.length
    · obtain ⟨q, ar, cr, rfl, hcl, hin⟩ := row_at HI.out p hlt
      have hcl := H.cell hcl
      have htk := take_push ls p (by rw [HLL.out]; exact hlt)
      rw [show ls[p]'(by rw [HLL.out]; exact hlt) = rows[p].2 by simp [HLS.out]] at htk
      obtain ⟨r, hr⟩ : ∃ r, rows[p].2 = r := ⟨_, rfl⟩
      rw [hr] at hcl hin htk
      have hff := frames_small _ hsm (by rw [List.length_take]; omega)
      have HH := Lib.hid H
      have HSM := Lib.hid hsm
      have HTK := Lib.hid htk
      have HIN := Lib.hid hin
      clear H hsm htk hin hr
      by_cases hbig : 200 < r.length
      · go_wp2_with fail
        go_ret
        exact ⟨rfl, HH.out.below⟩
      go_wp2_with fail
      refine (HH.out.add HIN.out (by omega) (by simp [total]; omega)).mono ?_
      rintro e w4 ⟨rfl, H⟩
      rw [← HTK.out] at H
      have HH4 := Lib.hid H
      clear H hcl
      go_wp2_with fail
      go_roundg (rows.length - (p + 1))
      case rel => exact ⟨p + 1, by omega, rfl, by go_num, by rw [HTK.out]; exact push_small HSM.out (by omega), true, _, HH4.out⟩
      case measure => omega
    · obtain rfl : p = rows.length := by omega
      rw [← HLL.out, List.take_length] at H hsm
      have hff := frames_small _ hsm (by rw [HLL.out]; omega)
      obtain ⟨c, hc2⟩ : ∃ c, frames ls = c := ⟨_, rfl⟩
      have HCF := Lib.hid hc2
      have hrd := H.readLog
      rw [hc2] at hrd hff
      have HRD := Lib.hid hrd
      have HSM := Lib.hid hsm
      clear H hsm hrd hc2
      go_wp2_with fail
      refine HRD.out.mono ?_
      rintro e w4 ⟨v4, k4, rfl, H⟩
      obtain ⟨E4, hE4⟩ := H.get (List.mem_cons_self ..)
      obtain ⟨a4, n4, c4, rfl, hl4, -⟩ := id hE4
      obtain rfl : c.length = n4 := by simpa using hl4
      have HH4 := Lib.hid H
      have HE4 := Lib.hid hE4
      clear H hE4 hl4
      by_cases hat0 : at_ < 0
      · go_wp2_with fail
        go_ret
        exact ⟨rfl, HH4.out.below⟩
      by_cases hat1 : (c.length : Int) ≤ at_
      · go_wp2_with fail
        go_ret
        exact ⟨rfl, HH4.out.below⟩
      obtain ⟨i, rfl⟩ : ∃ i : Nat, at_ = i := ⟨at_.toNat, by omega⟩
      have hic : i < c.length := by omega
      have hx1 : x = true := by
        obtain ⟨S, hD, -⟩ := HH4.out
        cases x
        · obtain ⟨A, B, -, -, -, hx⟩ := hD.2.2.2
          have := (hx rfl).1
          rw [HCF.out] at this
          rw [this] at hic
          simp at hic
        · rfl
      subst hx1
      obtain ⟨nb, hnb, hsrc⟩ := (HE4.out.frame ((Upd.alloc0 w4 (.cells #[] 5) []).same HE4.out.lt (by simp))).src (P := Try.prog) (tx := 31) Try.underlying31 bv_one
      obtain rfl : c.length = nb := by simpa using hnb
      have HBD := Lib.hid (show ∀ n, ([] : List Value).length = n * 1 → n + c.length ≤ 140737488355328 ∧ (n + c.length) * i0.bytes ≤ 140737488355328 from fun n hn => by simp at hn; rw [hz2]; omega)
      have hat1' : ¬ (c.length ≤ i) := by omega
      obtain ⟨cn, hcn⟩ : ∃ cn, c[i] = cn := ⟨_, rfl⟩
      obtain ⟨ci, hci⟩ : ∃ ci, cn.toNat = ci := ⟨_, rfl⟩
      have hcl256 : ci < 256 := by rw [← hci]; exact cn.toNat_lt
      rw [← hcn] at hci
      have hxor := u8_xor_nat ci yn hcl256 hy256
      obtain ⟨xv, hxv⟩ : ∃ xv, ci ^^^ yn = xv := ⟨_, rfl⟩
      rw [hxv] at hxor
      have HXV := Lib.hid (show _ ∧ _ from ⟨hxv, hcn⟩)
      clear hxv hcn
      clear hat0 hat1 hnb
      go_wp2_with (at_builtin; go_must (refine wpList_app rfl _ _ 31 31 rfl 1 _ _ _ rfl (OwnRow.zero _ _ _) _ i0 _ Try.underlying31 hi0 hz0 hz1 rfl _ _ _ rfl hsrc HBD.out ?_); intro a5 n5 c5 w5 D5 hown5 hu5; obtain ⟨q5, rfl, rfl, hnc5, hcm5, hcell5, hfr5, hsp5, hset5⟩ := HH4.out.fresh ((Upd.alloc0 w4 _ []).trans hu5) hown5 hic; have HSET := Lib.hid hset5; unfold bv at hcell5; rw [hci] at hcell5; clear hset5 hown5 hu5)
      have hx256 : xv < 256 := by rw [← HXV.out.1]; exact Nat.xor_lt_two_pow (n := 8) hcl256 hy256
      have H5 := HSET.out (UInt8.ofNat xv)
      rw [show bv (UInt8.ofNat xv) = .int .u8 (xv : Int) by unfold bv; rw [of_nat, Nat.mod_eq_of_lt hx256]] at H5
      have hbad : (scanS (c.set i (UInt8.ofNat xv))).2.2 = 2 := by
        rw [← HCF.out]
        refine scanS_turned ls i _ (fun r hr => by have := HSM.out r hr; omega) (by rw [HCF.out]; exact hic) ?_
        have hx := xor_ne cn y (by rw [HYN.out.1]; exact HYN.out.2)
        rw [show cn.toNat = ci by rw [← HXV.out.2]; exact hci, HYN.out.1, HXV.out.1] at hx
        rw [HCF.out, List.getD_eq_getElem?_getD, List.getElem?_eq_getElem hic, HXV.out.2]
        exact hx
      have H6 := Lib.hid H5.toDl.dropLog
      have HBAD := Lib.hid hbad
      have hcs : (c.set i (UInt8.ofNat xv)).length = c.length := List.length_set ..
      have HCS := Lib.hid hcs
      clear H5 hbad hcs
      go_wp2_with fail
      refine H6.out.mono ?_
      rintro e w6 ⟨rfl, H⟩
      go_wp2_with fail
      refine (H.appendLog (List.mem_cons_self ..) (by rw [HCS.out]; simp [total]; omega)).mono ?_
      clear H
      rintro e w7 ⟨rfl, H⟩
      rw [List.nil_append] at H
      have H7 := Lib.hid (H.openNo (k := 3) (by decide) (fun S hD => ⟨_, by
        unfold openS
        rw [base_none hD, if_neg (by simp), hD.readS, if_neg (by simp)]
        unfold openB
        rw [if_pos HBAD.out]
        rfl⟩))
      clear H
      go_wp2_with fail
      refine H7.out.mono ?_
      rintro e w8 ⟨rfl, H⟩
      have HB := Lib.hid H.below
      clear H
      go_wp2_with fail
      go_ret
      exact ⟨rfl, HB.out⟩

theorem walBroken_walk8 (a : Option Addr) (len cap : Nat) (rows : List (Value × Bs)) (at_ k : Int) (w : World) (h : IsRowsB w a len cap rows) (hk : (Lit.int .u8 k).wf = true) :
    Calls Try.prog 5 #[.slice a len cap, .int .i64 at_, .int .u8 k] w fun e w' => e = .returned (.bool true) ∧ Below w.heap.size w w' := by
  have hk2 : 0 ≤ k ∧ k < 256 := by
    simp only [Lit.wf, Bool.and_eq_true, decide_eq_true_eq] at hk
    have h1 : IntKind.u8.min = 0 := by decide
    have h2 : IntKind.u8.max = 255 := by decide
    rw [h1, h2] at hk
    omega
  obtain ⟨y, hy⟩ : ∃ y : UInt8, (y.toNat : Int) = k := ⟨UInt8.ofNat k.toNat, by rw [of_nat]; omega⟩
  subst hy
  exact walBroken_walk a len cap rows at_ y w h
end Go.Proofs.Ytbfblekabnkghaa
