/-
  Paths with a number behind them; in plain words and walked.
-/
import Derived.Test.YtjeaoopamebgjaaDoorPathD
namespace Go.Av
open Go.RowKit
/-- A number's ten digits. -/
def padD (n : Int) : Bs := List.replicate (10 - (Lib.decDigits n.toNat).length) 48 ++ Lib.decDigits n.toNat
def numberP (p : Bs) (n : Int) : Option Bs := if goodP p = false ∨ n < 0 ∨ 2147483647 < n then none else if goodP (p ++ padD n) then some (p ++ padD n) else none
theorem dec_len : ∀ (k u : Nat), u < 10 ^ (k + 1) → (Lib.decDigits u).length ≤ k + 1
  | 0, u, h => by rw [Lib.decDigits, dif_pos (by simpa using h)]; simp
  | k + 1, u, h => by
    rw [Lib.decDigits]
    split
    · simp
    · rw [List.length_append]
      have := dec_len k (u / 10) (by rw [Nat.pow_succ] at h; omega)
      simp only [List.length_singleton]
      omega
theorem dec_pos (u : Nat) : 1 ≤ (Lib.decDigits u).length := by
  rw [Lib.decDigits]
  split
  · simp
  · rw [List.length_append]; simp
theorem dec_ten {n : Int} (h : n ≤ 2147483647) : (Lib.decDigits n.toNat).length ≤ 10 := dec_len 9 _ (by
  have : (10 : Nat) ^ (9 + 1) = 10000000000 := by decide
  omega)
theorem pad_len {n : Int} (h : n ≤ 2147483647) : (padD n).length = 10 := by
  have := dec_ten h
  unfold padD
  rw [List.length_append, List.length_replicate]
  omega
theorem number_len {p q : Bs} {n : Int} (h : numberP p n = some q) : q.length ≤ 200 := by
  unfold numberP at h
  split at h
  · cases h
  · split at h
    · rename_i hg
      cases h
      exact goodP_len hg
    · cases h
/-- An error's number: 0, or another. -/
def errO {α : Type} (o : Option α) (e : Int) : Int := if o.isSome then 0 else e
end Go.Av
namespace Go.Proofs.YtjeaoopamebgjaaDoor
open Go.RowKit Go.Av
theorem pow10_at : Tryd.prog.globalNamed "internal/strconv.uint64pow10" = some 1 := by kernel_rfl
/-- The library's tables are laid. -/
def DoorN (w : World) : Prop := Door w ∧ Lib.TabIs Tryd.prog w "internal/strconv.uint64pow10" .u64 Lib.pow10Tab
theorem DoorN.lt {w : World} (h : DoorN w) : 1 < w.heap.size := by
  have h2 := h.2
  unfold Lib.TabIs World.var? at h2
  rw [pow10_at, Option.bind_some] at h2
  split at h2
  · rename_i hh; exact lt_of_heap hh
  · cases h2
theorem DoorN.upd {w w' : World} {D' : List Nat} (h : DoorN w) (hu : Upd w w' [] D') : DoorN w' :=
  ⟨h.1.upd hu, var?_below (B := w.heap.size) hu.below pow10_at h.lt h.2⟩
theorem DoorN.sep {w0 w : World} {R : List Thing} {rows : List (Value × Bs)} (h : DoorN w0) (hS : Sep w0 w R rows) : DoorN w :=
  ⟨h.1.sep hS, var?_below (B := w0.heap.size) hS.below pow10_at h.lt h.2⟩
theorem DoorN.below {w w' : World} (h : DoorN w) (hb : Below w.heap.size w w') : DoorN w' := h.upd (Upd.of_below hb)
theorem upd_grown (w : World) (k : Nat) (os : Array Obj) : Upd w (Sort.grow (w.drewN k) os) [] [] := ⟨rfl, rfl, rfl, by simp [Sort.grow], fun b hb _ => by
  show ((w.drewN k).heap ++ os)[b]? = _
  rw [Array.getElem?_append_left (by exact hb)]
  rfl, fun b hb => by cases hb⟩

set_option maxRecDepth 100000 in
set_option maxHeartbeats 1000000 in
theorem number_any (s : ByteArray) (n : Int) (w : World) (hd : DoorN w) (hs : s.size ≤ 100000) (hn0 : -9223372036854775808 ≤ n) (hn1 : n ≤ 9223372036854775807) :
    Calls Tryd.prog 31 #[.string s, .int .i64 n] w fun e w' => e = .returned (.tuple #[sv ((numberP s.data.toList n).getD []), .int .i64 (errO (numberP s.data.toList n) 1)]) ∧ Upd w w' [] [] := by
  have hsz : s.size = s.data.toList.length := by simp
  obtain ⟨po, hpo⟩ : ∃ po, numberP s.data.toList n = po := ⟨_, rfl⟩
  rw [hpo]
  unfold numberP at hpo
  have hg1 := good_any s w hd.1 (by unfold maxLen; omega)
  have hten : n ≤ 2147483647 → (Lib.decDigits n.toNat).length ≤ 10 := dec_ten
  have hone := dec_pos n.toNat
  have hit := Tryd.strconv_Itoa n hn0 hn1
  have hrp := fun c => Tryd.strings_Repeat ⟨#[48]⟩ c
  have HA := Lib.hid (show _ ∧ _ ∧ _ from ⟨hd, hit, hrp⟩)
  have HP := Lib.hid hpo
  have HG := Lib.hid hg1
  clear hd hit hrp hpo hg1 hsz
  go_enter Tryd.func31, Tryd.ntmps31
  go_wp2_with fail
  refine HG.out.mono ?_
  rintro e w1 ⟨rfl, hu1⟩
  have HU := Lib.hid hu1
  clear hu1 HG
  cases hg : goodP s.data.toList with
  | false =>
    have HL := Lib.hid (show po = none by rw [← HP.out, if_pos (.inl hg)])
    clear hg HP HA
    go_wp2_with fail
    go_ret2
    rw [HL.out]
    exact ⟨rfl, HU.out⟩
  | true =>
  by_cases hn : n < 0 ∨ 2147483647 < n
  · have HL := Lib.hid (show po = none by rw [← HP.out, if_pos (.inr hn)])
    clear hg HP HA
    rcases hn with h | h
    · have q1 : decide (n < 0) = true := decide_eq_true h
      go_wp2_with fail
      go_ret2
      rw [HL.out]
      exact ⟨rfl, HU.out⟩
    · have q1 : decide (n < 0) = false := decide_eq_false (by omega)
      have q2 : decide (2147483647 < n) = true := decide_eq_true h
      go_wp2_with fail
      go_ret2
      rw [HL.out]
      exact ⟨rfl, HU.out⟩
  have q1 : decide (n < 0) = false := decide_eq_false (by omega)
  have q2 : decide (2147483647 < n) = false := decide_eq_false (by omega)
  have hl10 := hten (by omega)
  obtain ⟨is, his⟩ : ∃ is : ByteArray, is = ⟨(Lib.itoa n).toArray⟩ := ⟨_, rfl⟩
  have hit2 : Lib.itoa n = Lib.decDigits n.toNat := by unfold Lib.itoa; rw [if_neg (by omega)]
  obtain ⟨k, hk⟩ : ∃ k, is.size = k := ⟨_, rfl⟩
  have hk2 : (Lib.decDigits n.toNat).length = k := by
    rw [← hk, his, hit2]
    show _ = (Lib.decDigits n.toNat).toArray.size
    simp
  rw [hk2] at hl10 hone
  have hI := HA.out.2.1 w1 ((HA.out.1.upd HU.out).2)
  rw [← his] at hI
  have HI := Lib.hid hI
  have hrp := fun w => HA.out.2.2 (10 - k) w (by omega) (by show 1 * (10 - k) ≤ _; omega)
  obtain ⟨rs, hrs⟩ : ∃ rs : ByteArray, rs = ⟨(Lib.repeatL (⟨#[48]⟩ : ByteArray).data.toList (10 - k)).toArray⟩ := ⟨_, rfl⟩
  have hrl : Lib.repeatL (⟨#[48]⟩ : ByteArray).data.toList (10 - k) = List.replicate (10 - k) 48 := by
    have := Lib.repeatL_replicate 48 1 (10 - k)
    rw [Nat.mul_one] at this
    exact this
  have hrz : rs.size ≤ 10 := by
    rw [hrs, hrl]
    show (List.replicate (10 - k) (48 : UInt8)).toArray.size ≤ _
    simp
  have hisz : is.size ≤ 10 := by omega
  rw [← hrs] at hrp
  have HR := Lib.hid hrp
  have hw10 : wrap64 (10 - (is.size : Int)) = ((10 - k : Nat) : Int) := by rw [IntWalk.wrap64_in _ (by omega)]; omega
  have hpad : (s ++ (rs ++ is)).data.toList = s.data.toList ++ padD n := by
    rw [ByteArray.data_append, Array.toList_append, ByteArray.data_append, Array.toList_append, hrs, his, hrl, hit2]
    unfold padD
    rw [hk2]
  obtain ⟨q, hq⟩ : ∃ q, q = s ++ (rs ++ is) := ⟨_, rfl⟩
  rw [← hq] at hpad
  have HPP := Lib.hid (show (if goodP q.data.toList = true then some q.data.toList else none) = po by rw [← HP.out, if_neg (c := goodP s.data.toList = false ∨ n < 0 ∨ 2147483647 < n) (by rw [hg]; rintro (h | h); cases h; exact hn h), ← hpad])
  have HQ := Lib.hid (show q.size ≤ 100100 by rw [hq, ByteArray.size_append, ByteArray.size_append]; omega)
  have HD := Lib.hid HA.out.1
  clear hg HP HA hn hrl hrs his hrp hpad hit2 hk2 hI hl10
  go_wp2_with fail
  refine HI.out.mono ?_
  rintro e w2 ⟨rfl, k2, os, hw2⟩
  have HU2 := Lib.hid (HU.out.trans (show Upd w1 w2 [] [] by rw [hw2]; exact upd_grown _ _ _))
  clear hw2 HI HU
  rw [hk] at hw10
  obtain ⟨ri, hri⟩ : ∃ ri, rs ++ is = ri := ⟨_, rfl⟩
  have hri2 : ri.size ≤ 20 := by rw [← hri, ByteArray.size_append]; omega
  rw [hri] at hq
  have HQ2 := Lib.hid hq
  clear hq
  have hw11 : (10 : Int) - (k : Int) = ((10 - k : Nat) : Int) := by omega
  go_wp2_with fail
  refine (HR.out w2).mono ?_
  rintro e w3 ⟨rfl, hb3⟩
  have HU3 := Lib.hid (HU2.out.trans (Upd.of_below hb3))
  clear hb3 HR HU2
  go_wp2_with fail
  rw [← HQ2.out]
  refine (good_any q w3 ((HD.out.upd HU3.out).1) (by have := HQ.out; unfold maxLen; omega)).mono ?_
  rintro e w4 ⟨rfl, hu4⟩
  have HU4 := Lib.hid (HU3.out.trans hu4)
  clear hu4 HU3
  cases hg : goodP q.data.toList with
  | false =>
    have HL := Lib.hid (show po = none by rw [← HPP.out, hg]; rfl)
    clear hg HPP
    go_wp2_with fail
    go_ret2
    rw [HL.out]
    exact ⟨rfl, HU4.out⟩
  | true =>
    have HL := Lib.hid (show po = some q.data.toList by rw [← HPP.out, hg]; rfl)
    clear hg HPP
    go_wp2_with fail
    go_ret2
    rw [HL.out]
    exact ⟨rfl, HU4.out⟩
end Go.Proofs.YtjeaoopamebgjaaDoor
