/-
  WalFull: a log on a disk without room is done; opened anew it has what fitted.
-/
import Derived.Test.YtbfblekabnkghaaWalU
import Derived.Deep.OwnRows
import Derived.Laws.OwnMore
namespace Go.Proofs.Ytbfblekabnkghaa
open Go.RowKit Go.Av

theorem _root_.List.reverse_perm' {α : Type} (l r : List α) : (l ++ r).Perm (l.reverse ++ r) := (List.reverse_perm l).symm.append_right r
theorem rep_len (n z : Nat) : (frames (List.replicate n (List.replicate z (0 : UInt8)))).length = n * (12 + z) := by
  induction n with
  | zero => simp [frames]
  | succ n ih =>
    rw [List.replicate_succ]
    have : frames (List.replicate z (0 : UInt8) :: List.replicate n (List.replicate z 0)) = frameS (List.replicate z 0) ++ frames (List.replicate n (List.replicate z 0)) := by simp [frames]
    rw [this, List.length_append, frameS_length, ih, Nat.succ_mul]
    simp
    omega

theorem zero_row (w : World) (z : Nat) (hz : z ≤ 300) : ReadRow (w.alloc (.cells (madeCells #[.int .u8 0] z) 5)) 1 (.slice (some ⟨w.heap.size, 0, none⟩) z z) ((List.replicate z (0 : UInt8)).map bv) [w.heap.size] := by
  have h := OwnRow.made w 5 1 z z (madeCells #[.int .u8 0] z) ((List.replicate z (0 : UInt8)).map bv) (by simp) (Nat.le_refl _) (by unfold maxLen; omega) (by rw [size_madeCells]; omega) (by
    rw [toList_madeCells_one, Nat.mul_one, List.take_of_length_le (by simp), List.map_replicate]
    rfl)
  obtain ⟨E, hE, hs⟩ := h.read
  obtain ⟨a, n, c, hv, hl, hn, hc, ha, hr⟩ := hE
  cases hv
  refine ⟨_, z, z, rfl, by simp, Nat.le_refl _, hc, by simp, ?_⟩
  obtain ⟨a', n', c', hv, hl', hn', hc', ha', hr'⟩ := h
  cases hv
  rcases hr' with ⟨h0, hD⟩ | ⟨g, off, cur, T, h1, h2, h3, h4, h5⟩
  · cases hD
  · cases h1
    refine .inr ⟨w.heap.size, 0, rfl, rfl, by simp, fun i x hx => ?_⟩
    rw [cell_of_row _ _ _ cur T _ h3, Nat.zero_add]
    rw [← h5, List.drop_zero, List.getElem?_take] at hx
    split at hx
    · simpa using hx
    · cases hx
section
variable {w0 w : World} {g d : Nat} {room lv n : Int} {x : Bool} {ls : List Bs} {s : Nat} {O : List FileS} {R : List Thing} {rows : List (Value × Bs)}
theorem Wl.addFull (h : Wl w0 w g d room lv n x ls s O R rows) {v : Value} {r : Bs} (hv : (v, r) ∈ rows) (hr : r.length ≤ 20000) (hfit : room < (((frames ls).length + total O + (12 + r.length) : Nat) : Int)) :
    Calls Try.prog 13 #[.pointer (some ⟨g, 0, none⟩), v] w (fun e w' => e = .returned (.int .i64 9) ∧ Dl w0 w' d room lv false x (frames ls) s O (ThLog g d (lgd lv n ls) :: R) rows) := by
  have hsm := h.small
  obtain ⟨S, hD, h1, h2, h3, hS⟩ := h
  have e1 := add_full (n := n) hD hr hfit
  refine (add_any hv (by show (frames ls).length + 20012 ≤ _; omega) hS).mono fun e w' hp => ?_
  rw [e1] at hp
  exact ⟨hp.1, S, hD, hp.2.swap⟩
/-- A log that is done, beside the one that was opened anew. -/
theorem Wl.addOff {g1 : Nat} {lv1 n1 : Int} {ls1 : List Bs} (h : Wl w0 w g d room lv n x ls s O (ThLog g1 d (lgd lv1 n1 ls1) :: R) rows) (hs : (frames ls1).length ≤ 1048576) :
    Calls Try.prog 13 #[.pointer (some ⟨g1, 0, none⟩), .slice none 0 0] w (fun e w' => e = .returned (.int .i64 10) ∧ Wl w0 w' g d room lv n x ls s O (ThLog g1 d (lgd lv1 n1 ls1) :: R) rows) := by
  obtain ⟨S, hD, h1, h2, h3, hS⟩ := h
  have hS' := (hS.perm (List.reverse_perm' [_, _, _] R)).nil
  refine (add_any (List.mem_cons_self ..) (by show (frames ls1).length + 20012 ≤ _; omega) hS').mono fun e w' hp => ?_
  rw [add_off] at hp
  exact ⟨hp.1, S, hD, h1, h2, h3, (hp.2.perm (List.reverse_perm' [_, _, _] R)).drop_row⟩
end

set_option maxRecDepth 100000 in
set_option maxHeartbeats 2000000 in
theorem walFull_walk (room size : Int) (w : World) :
    Calls Try.prog 4 #[.int .i64 room, .int .i64 size] w fun e w' => e = .returned (.bool true) ∧ Below w.heap.size w w' := by
  by_cases hok : 64 ≤ room ∧ room ≤ 2000 ∧ 0 ≤ size ∧ size ≤ 300
  case neg =>
    by_cases h1 : room < 64
    · go_enter Try.func4, Try.ntmps4
      go_wp2_with fail
      refine (awake8_any _).mono ?_
      rintro e w1 ⟨rfl, hu1⟩
      go_wp2_with fail
      go_ret
      exact ⟨rfl, hu1.below⟩
    by_cases h2 : 2000 < room
    · go_enter Try.func4, Try.ntmps4
      go_wp2_with fail
      refine (awake8_any _).mono ?_
      rintro e w1 ⟨rfl, hu1⟩
      go_wp2_with fail
      go_ret
      exact ⟨rfl, hu1.below⟩
    by_cases h3 : size < 0
    · clear hok
      go_enter Try.func4, Try.ntmps4
      go_wp2_with fail
      refine (awake8_any _).mono ?_
      rintro e w1 ⟨rfl, hu1⟩
      go_wp2_with fail
      go_ret
      exact ⟨rfl, hu1.below⟩
    have h4 : 300 < size := by omega
    clear hok
    go_enter Try.func4, Try.ntmps4
    go_wp2_with fail
    refine (awake8_any _).mono ?_
    rintro e w1 ⟨rfl, hu1⟩
    go_wp2_with fail
    go_ret
    exact ⟨rfl, hu1.below⟩
  obtain ⟨h1, h2, h3, h4⟩ := hok
  obtain ⟨z, rfl⟩ : ∃ z : Nat, size = z := ⟨size.toNat, by omega⟩
  go_enter Try.func4, Try.ntmps4
  go_wp2_with fail
  refine (awake8_any _).mono ?_
  rintro e w1 ⟨rfl, hu1⟩
  go_wp2_with fail
  refine (Dl.new ((Sep.start w).keep hu1) room h1 (by omega)).mono ?_
  rintro e w2 ⟨d, rfl, H⟩
  go_wp2_with fail
  refine (Dl.open (n := 1) H (fun S hS => base_none hS) (by decide) (by decide) (scan_whole [] (by simp)) (by decide) rfl (by simp)).mono ?_
  clear H hu1
  rintro e w3 ⟨g, rfl, H⟩
  have HST := Lib.hid (show ∃ x, Wl w w3 g d room 1 1 x (List.replicate 0 (List.replicate z 0)) 0 [] [] [] from ⟨_, by simpa using H⟩)
  clear H
  go_wp2_with fail
  go_loopg [9] 200 (fun kk v wr => ∃ p : Nat, p * (12 + z) ≤ 2000 ∧ ((p * (12 + z) : Nat) : Int) ≤ room ∧ kk = 200 - p ∧ v = .int .i64 (p : Int) ∧ ∃ x, Wl w wr g d room 1 1 x (List.replicate p (List.replicate z 0)) 0 [] [] [])
  case atStart => exact ⟨0, by simp, by omega, rfl, rfl, HST.out⟩
  case round =>
    obtain ⟨p, hp, hpr, hkk, hv, x, H⟩ := hrel
    subst hv
    have hp2 : p * 12 ≤ 2000 := Nat.le_trans (Nat.mul_le_mul_left p (by omega)) hp
    clear HST
    obtain ⟨rm, rfl⟩ : ∃ rm : Nat, room = rm := ⟨room.toNat, by omega⟩
    have HH := Lib.hid (H.row (Upd.alloc1 wr _ []) (zero_row wr z (by omega)) (by simp))
    have H1 := Lib.hid H
    have hmk := fun W => run_make_row' (P := Try.prog) 31 5 (.int .u8 0) 1 Try.underlying31 info5 rfl .i64 .i64 z (by omega) (by omega) W
    clear H
    by_cases hfit : p * (12 + z) + (12 + z) ≤ rm
    · go_wp2_with fail
      refine (HH.out.add (List.mem_cons_self ..) (by simp; omega) (by rw [rep_len]; simp only [total, List.map_nil, List.sum_nil, List.length_replicate]; omega)).mono ?_
      rintro e w4 ⟨rfl, H⟩
      rw [← List.replicate_succ'] at H
      have HH4 := Lib.hid H.drop_row
      have hp3 : ¬ (200 < p + 1) := by omega
      clear H
      go_wp2_with fail
      go_roundg (200 - (p + 1))
      case rel => exact ⟨p + 1, by rw [Nat.succ_mul]; omega, by rw [Nat.succ_mul]; omega, rfl, by go_num, _, HH4.out⟩
      case measure => omega
    · have HPP := Lib.hid hpr
      have HP2 := Lib.hid hp
      go_wp2_with fail
      refine (HH.out.addFull (List.mem_cons_self ..) (by simp; omega) (by rw [rep_len]; simp only [total, List.map_nil, List.sum_nil, List.length_replicate]; omega)).mono ?_
      rintro e w4 ⟨rfl, H⟩
      go_wp2_with fail
      have hlen : (frames (List.replicate p (List.replicate z (0 : UInt8)))).length ≤ 1048576 := by rw [rep_len]; omega
      refine (Dl.open (n := 1) H (fun S hS => base_none hS) (by decide) (by decide) (scan_whole _ (fun q hq => by rw [(List.mem_replicate.1 hq).2, List.length_replicate]; omega)) (by decide) (List.take_length ..) (Nat.zero_le _)).mono ?_
      clear H
      rintro e w5 ⟨g2, rfl, H⟩
      have HH5 := Lib.hid H
      have HLEN := Lib.hid hlen
      clear H hlen
      go_wp2_with fail
      refine (HH5.out.addOff HLEN.out).mono ?_
      rintro e w6 ⟨rfl, H⟩
      have HH6 := Lib.hid H
      clear H
      go_wp2_with fail
      refine HH6.out.next.mono ?_
      rintro e w7 ⟨rfl, H⟩
      rw [List.length_replicate]
      have HB := Lib.hid H.below
      clear H
      have q1 : ((1 : Int) + (p : Int) == (p : Int) + 1) = true := by simp; omega
      have hdiv : rm / (z + 12) = p := Nat.div_eq_of_lt_le (by rw [Nat.add_comm z 12]; omega) (by rw [Nat.add_comm z 12, Nat.succ_mul]; omega)
      have q2 : ((p : Int) == wrap64 ((rm : Int) / ((z : Int) + 12))) = true := by
        rw [show (rm : Int) / ((z : Int) + 12) = (p : Int) by rw [← hdiv]; simp, IntWalk.wrap64_in _ ⟨by omega, by omega⟩]
        simp
      clear hdiv
      go_wp2_with fail
      go_ret
      exact ⟨rfl, HB.out⟩
end Go.Proofs.Ytbfblekabnkghaa
